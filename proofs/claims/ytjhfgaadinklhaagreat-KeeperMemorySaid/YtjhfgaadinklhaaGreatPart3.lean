/- Part 3 of the texts that the proof needs: the abstract machine, plain laws, contracts of the program's functions. No statement is claimed here. -/
import Derived.Test.YtjhfgaadinklhaaGreatPart2
import GoSem.Core.Float
import Derived.Maps.RangeRun
set_option linter.unusedVariables false
set_option linter.unusedSimpArgs false
noncomputable section
namespace Go.Md
open Go.AM
structure Ver where
 re:Nat
 im:Nat
deriving DecidableEq,Inhabited
def encBool(b:Bool):List AV:=[.bool b]
def decBool(cs:List AV):Bool:=getB cs 0
structure Member where
 node:Int
 boot:Int
deriving DecidableEq,Inhabited
def encMember(x:Member):List AV:=[.int .i64 x.node,.int .i64 x.boot]
def decMember(cs:List AV):Member:=⟨getI cs 0,getI cs 1⟩
theorem dec_encMember(x:Member):decMember (encMember x)=x:=rfl
def encMembers(l:List Member):AV:=encL 2 encMember default l
theorem decMembers(l:List Member):decL decMember (encMembers l)=l:=decL_encL dec_encMember l
structure Entry where
 ver:Ver
 kind:Int
 key:List UInt8
 val:List UInt8
 write:Bool
 del:Bool
 sess:Int
 num:Int
 code:Int
 res:List UInt8
 hasRes:Bool
deriving DecidableEq,Inhabited
def encEntry(x:Entry):List AV:=[.cplx .f64 x.ver.re x.ver.im,.int .i64 x.kind,.str x.key,.str x.val,.bool x.write,.bool x.del,.int .i64 x.sess,.int .i64 x.num,.int .i64 x.code,.str x.res,.bool x.hasRes]
def decEntry(cs:List AV):Entry:=⟨⟨(getC cs 0).1,(getC cs 0).2⟩,getI cs 1,getS cs 2,getS cs 3,getB cs 4,getB cs 5,getI cs 6,getI cs 7,getI cs 8,getS cs 9,getB cs 10⟩
theorem dec_encEntry(x:Entry):decEntry (encEntry x)=x:=rfl
def encEntrys(l:List Entry):AV:=encL 11 encEntry default l
theorem decEntrys(l:List Entry):decL decEntry (encEntrys l)=l:=decL_encL dec_encEntry l
structure Seen where
 sess:Int
 num:Int
 ver:Ver
 kind:Int
 code:Int
 res:List UInt8
 hasRes:Bool
deriving DecidableEq,Inhabited
def encSeen(x:Seen):List AV:=[.int .i64 x.sess,.int .i64 x.num,.cplx .f64 x.ver.re x.ver.im,.int .i64 x.kind,.int .i64 x.code,.str x.res,.bool x.hasRes]
def decSeen(cs:List AV):Seen:=⟨getI cs 0,getI cs 1,⟨(getC cs 2).1,(getC cs 2).2⟩,getI cs 3,getI cs 4,getS cs 5,getB cs 6⟩
theorem dec_encSeen(x:Seen):decSeen (encSeen x)=x:=rfl
def encSeens(l:List Seen):AV:=encL 7 encSeen default l
theorem decSeens(l:List Seen):decL decSeen (encSeens l)=l:=decL_encL dec_encSeen l
structure View where
 shard:Int
 epoch:Int
 gen:Int
 phase:Int
 chain:List Member
deriving DecidableEq,Inhabited
def encView(x:View):List AV:=[.int .i64 x.shard,.int .i64 x.epoch,.int .i64 x.gen,.int .i64 x.phase,encMembers x.chain]
def decView(cs:List AV):View:=⟨getI cs 0,getI cs 1,getI cs 2,getI cs 3,getL decMember cs 4⟩
theorem dec_encView(x:View):decView (encView x)=x:=by
 show(⟨x.shard,x.epoch,x.gen,x.phase,decL decMember (encMembers x.chain)⟩:View)=x
 rw[decMembers]
def encViews(l:List View):AV:=encL 5 encView default l
theorem decViews(l:List View):decL decView (encViews l)=l:=decL_encL dec_encView l
structure Op where
 kind:Int
 key:List UInt8
 val:List UInt8
 old:List UInt8
 hasOld:Bool
deriving DecidableEq,Inhabited
structure Image where
 floor:Ver
 last:Ver
 gen:Int
 log:List Entry
 seen:List Seen
deriving DecidableEq,Inhabited
structure Msg where
 kind:Int
 src:Int
 dst:Int
 boot:Int
 sboot:Int
 shard:Int
 epoch:Int
 gen:Int
 sess:Int
 num:Int
 a:Int
 code:Int
 has:Bool
 fresh:Bool
 key:List UInt8
 val:List UInt8
 ver:Ver
 floor:Ver
 op:Op
 entries:List Entry
 chain:List Member
 views:List View
 image:Image
deriving DecidableEq,Inhabited
def encMsg(x:Msg):List AV:=[.int .i64 x.kind,.int .i64 x.src,.int .i64 x.dst,.int .i64 x.boot,.int .i64 x.sboot,.int .i64 x.shard,.int .i64 x.epoch,.int .i64 x.gen,.int .i64 x.sess,.int .i64 x.num,.int .i64 x.a,.int .i64 x.code,.bool x.has,.bool x.fresh,.str x.key,.str x.val,.cplx .f64 x.ver.re x.ver.im,.cplx .f64 x.floor.re x.floor.im,.int .i64 x.op.kind,.str x.op.key,.str x.op.val,.str x.op.old,.bool x.op.hasOld,encEntrys x.entries,encMembers x.chain,encViews x.views,.cplx .f64 x.image.floor.re x.image.floor.im,.cplx .f64 x.image.last.re x.image.last.im,.int .i64 x.image.gen,encEntrys x.image.log,encSeens x.image.seen]
def decMsg(cs:List AV):Msg:=⟨getI cs 0,getI cs 1,getI cs 2,getI cs 3,getI cs 4,getI cs 5,getI cs 6,getI cs 7,getI cs 8,getI cs 9,getI cs 10,getI cs 11,getB cs 12,getB cs 13,getS cs 14,getS cs 15,⟨(getC cs 16).1,(getC cs 16).2⟩,⟨(getC cs 17).1,(getC cs 17).2⟩,⟨getI cs 18,getS cs 19,getS cs 20,getS cs 21,getB cs 22⟩,getL decEntry cs 23,getL decMember cs 24,getL decView cs 25,⟨⟨(getC cs 26).1,(getC cs 26).2⟩,⟨(getC cs 27).1,(getC cs 27).2⟩,getI cs 28,getL decEntry cs 29,getL decSeen cs 30⟩⟩
theorem dec_encMsg(x:Msg):decMsg (encMsg x)=x:=by
 show(⟨x.kind,x.src,x.dst,x.boot,x.sboot,x.shard,x.epoch,x.gen,x.sess,x.num,x.a,x.code,x.has,x.fresh,x.key,x.val,⟨x.ver.re,x.ver.im⟩,⟨x.floor.re,x.floor.im⟩,⟨x.op.kind,x.op.key,x.op.val,x.op.old,x.op.hasOld⟩,decL decEntry (encEntrys x.entries),decL decMember (encMembers x.chain),decL decView (encViews x.views),⟨⟨x.image.floor.re,x.image.floor.im⟩,⟨x.image.last.re,x.image.last.im⟩,x.image.gen,decL decEntry (encEntrys x.image.log),decL decSeen (encSeens x.image.seen)⟩⟩:Msg)=x
 simp only[decEntrys,decMembers,decViews,decSeens]
def encMsgs(l:List Msg):AV:=encL 31 encMsg default l
theorem decMsgs(l:List Msg):decL decMsg (encMsgs l)=l:=decL_encL dec_encMsg l
structure Plan where
 epoch:Int
 gen:Int
 phase:Int
 fresh:Bool
 base:Int
 reset:Int
 chain:List Member
 valid:List Member
deriving DecidableEq,Inhabited
def encPlan(x:Plan):List AV:=[.int .i64 x.epoch,.int .i64 x.gen,.int .i64 x.phase,.bool x.fresh,.int .i64 x.base,.int .i64 x.reset,encMembers x.chain,encMembers x.valid]
def decPlan(cs:List AV):Plan:=⟨getI cs 0,getI cs 1,getI cs 2,getB cs 3,getI cs 4,getI cs 5,getL decMember cs 6,getL decMember cs 7⟩
theorem dec_encPlan(x:Plan):decPlan (encPlan x)=x:=by
 show(⟨x.epoch,x.gen,x.phase,x.fresh,x.base,x.reset,decL decMember (encMembers x.chain),decL decMember (encMembers x.valid)⟩:Plan)=x
 simp only[decMembers]
def encPlans(l:List Plan):AV:=encL 8 encPlan default l
theorem decPlans(l:List Plan):decL decPlan (encPlans l)=l:=decL_encL dec_encPlan l
structure Book where
 sess:Int
 gen:Int
 shards:List Plan
deriving DecidableEq,Inhabited
def encBook(x:Book):List AV:=[.int .i64 x.sess,.int .i64 x.gen,encPlans x.shards]
def decBook(cs:List AV):Book:=⟨getI cs 0,getI cs 1,getL decPlan cs 2⟩
structure Alive where
 member:Member
 missed:Int
deriving DecidableEq,Inhabited
def encAlive(x:Alive):List AV:=[.int .i64 x.member.node,.int .i64 x.member.boot,.int .i64 x.missed]
def decAlive(cs:List AV):Alive:=⟨⟨getI cs 0,getI cs 1⟩,getI cs 2⟩
theorem dec_encAlive(x:Alive):decAlive (encAlive x)=x:=rfl
def encAlives(l:List Alive):AV:=encL 3 encAlive default l
theorem decAlives(l:List Alive):decL decAlive (encAlives l)=l:=decL_encL dec_encAlive l
structure Work where
 fenced:Bool
 keep:List Member
 froze:List Msg
 heard:Bool
deriving DecidableEq,Inhabited
def encWork(x:Work):List AV:=[.bool x.fenced,encMembers x.keep,encMsgs x.froze,.bool x.heard]
def decWork(cs:List AV):Work:=⟨getB cs 0,getL decMember cs 1,getL decMsg cs 2,getB cs 3⟩
theorem dec_encWork(x:Work):decWork (encWork x)=x:=by
 show(⟨x.fenced,decL decMember (encMembers x.keep),decL decMsg (encMsgs x.froze),x.heard⟩:Work)=x
 rw[decMembers,decMsgs]
def encWorks(l:List Work):AV:=encL 4 encWork default l
theorem decWorks(l:List Work):decL decWork (encWorks l)=l:=decL_encL dec_encWork l
structure Bureau where
 book:Book
 nodes:List Alive
 work:List Work
 opens:List Msg
 asks:List Msg
deriving DecidableEq,Inhabited
def encBureau(x:Bureau):List AV:=[.int .i64 x.book.sess,.int .i64 x.book.gen,encPlans x.book.shards,encAlives x.nodes,encWorks x.work,encMsgs x.opens,encMsgs x.asks]
def decBureau(cs:List AV):Bureau:=⟨⟨getI cs 0,getI cs 1,getL decPlan cs 2⟩,getL decAlive cs 3,getL decWork cs 4,getL decMsg cs 5,getL decMsg cs 6⟩
theorem dec_encBureau(x:Bureau):decBureau (encBureau x)=x:=by
 show(⟨⟨x.book.sess,x.book.gen,decL decPlan (encPlans x.book.shards)⟩,decL decAlive (encAlives x.nodes),decL decWork (encWorks x.work),decL decMsg (encMsgs x.opens),decL decMsg (encMsgs x.asks)⟩:Bureau)=x
 simp only[decPlans,decAlives,decWorks,decMsgs]
end Go.Md
end
noncomputable section
namespace Go.Fl
open Ieee
def fl(n:Nat):Nat:=double.nearest false n 0
theorem log2_mul_pow{n:Nat}(h:n ≠ 0)(s:Nat):(n*2 ^ s).log2=n.log2+s:=by
 have h1:=(Nat.le_log2 h).1 (Nat.le_refl _)
 have h2:n<2 ^ (n.log2+1):=Nat.lt_log2_self
 have hne:n*2 ^ s ≠ 0:=Nat.mul_ne_zero h (by simp)
 apply Nat.le_antisymm
 ·refine Nat.lt_succ_iff.1 ((Nat.log2_lt hne).2 ?_)
  calc n*2 ^ s<2 ^ (n.log2+1)*2 ^ s:=Nat.mul_lt_mul_of_pos_right h2 (Nat.two_pow_pos s)
   _=2 ^ (n.log2+s+1):=by rw[<- Nat.pow_add];congr 1;omega
 ·refine(Nat.le_log2 hne).2 ?_
  rw[Nat.pow_add];exact Nat.mul_le_mul_right _ h1
theorem cut_even(n d:Nat):Toward.even.cut false (n*2 ^ d) d=n:=by
 unfold Toward.cut
 by_cases h:n=0
 ·subst h;simp
 ·have hm:min d ((n*2 ^ d).log2+2)=d:=by rw[log2_mul_pow h];omega
  simp only[hm,Nat.one_shiftLeft]
  have h1:n*2 ^ d / 2 ^ d=n:=Nat.mul_div_cancel _ (Nat.two_pow_pos d)
  have h2:n*2 ^ d % 2 ^ d=0:=Nat.mul_mod_left n (2 ^ d)
  rw[h1,h2]
  have:(2 ^ d == 0)=false:=by simp
  simp[this]
theorem cut_zero(n d:Nat):Toward.zero.cut false (n*2 ^ d) d=n:=by
 unfold Toward.cut
 by_cases h:n=0
 ·subst h;simp
 ·have hm:min d ((n*2 ^ d).log2+2)=d:=by rw[log2_mul_pow h];omega
  simp only[hm,Nat.one_shiftLeft]
  rw[Nat.mul_div_cancel _ (Nat.two_pow_pos d)]
  simp
theorem log2_lt53{n:Nat}(h:n ≠ 0)(hn:n<2 ^ 53):n.log2<=52:=by
 have:=(Nat.log2_lt h).2 hn
 omega
theorem nearest_up{n:Nat}(h:n ≠ 0)(hn:n<2 ^ 53){u:Nat}(hu:u<=1074) :
  double.nearest false (n*2 ^ u) (-(u:Int))=(n.log2+1022)*2 ^ 52+n*2 ^ (52 - n.log2):=by
 have hl:=log2_lt53 h hn
 unfold Format.nearest
 have hne:n*2 ^ u ≠ 0:=Nat.mul_ne_zero h (by simp)
 have hlp:double.leastPlace = -1074:=by decide
 have hfb:double.fractionBits=52:=rfl
 have hbi:double.binade=2 ^ 52:=rfl
 rw[if_neg hne,log2_mul_pow h,hlp,hfb,hbi]
 have hlast:max (-(u:Int)+((n.log2+u:Nat):Int) - (52:Nat)) (-1074)=(n.log2:Int) - 52:=by omega
 simp only[hlast]
 have hk:Toward.even.cut false ((n*2 ^ u) <<< (-(u:Int) - ((n.log2:Int) - 52)).toNat) ((n.log2:Int) - 52 - -(u:Int)).toNat=n*2 ^ (52 - n.log2):=by
  rcases Nat.le_total u (52 - n.log2)with hc | hc
  ·have e1:(-(u:Int) - ((n.log2:Int) - 52)).toNat=52 - n.log2 - u:=by omega
   have e2:((n.log2:Int) - 52 - -(u:Int)).toNat=0:=by omega
   rw[e1,e2,Nat.shiftLeft_eq,Nat.mul_assoc,<- Nat.pow_add,show u+(52 - n.log2 - u)=52 - n.log2 by omega]
   have:=cut_even (n*2 ^ (52 - n.log2)) 0
   simpa using this
  ·have e1:(-(u:Int) - ((n.log2:Int) - 52)).toNat=0:=by omega
   have e2:((n.log2:Int) - 52 - -(u:Int)).toNat=u - (52 - n.log2):=by omega
   rw[e1,e2]
   have e3:(n*2 ^ u) <<< 0=n*2 ^ (52 - n.log2)*2 ^ (u - (52 - n.log2)):=by
    rw[Nat.shiftLeft_zero,Nat.mul_assoc,<- Nat.pow_add,show 52 - n.log2+(u - (52 - n.log2))=u by omega]
   rw[e3,cut_even]
 rw[hk]
 have e4:((n.log2:Int) - 52 - -1074).toNat=n.log2+1022:=by omega
 rw[e4]
 have hinf:double.infRung=2047*2 ^ 52:=by decide
 rw[hinf]
 have hlt:n*2 ^ (52 - n.log2)<2 ^ 53:=by
  calc n*2 ^ (52 - n.log2)<2 ^ (n.log2+1)*2 ^ (52 - n.log2):=Nat.mul_lt_mul_of_pos_right Nat.lt_log2_self (Nat.two_pow_pos _)
   _=2 ^ 53:=by rw[<- Nat.pow_add];congr 1;omega
 have:(n.log2+1022)*2 ^ 52+n*2 ^ (52 - n.log2)<=2047*2 ^ 52:=by omega
 rw[Nat.min_eq_left this]
 rfl
theorem nearest_zero(u:Int):double.nearest false 0 u=0:=by simp[Format.nearest,Format.word]
set_option maxRecDepth 100000 in
theorem read_fl{n:Nat}(hn:n<2 ^ 53):∃ s:Nat,s<=1074/\double.read (fl n)=.number false (n*2 ^ s) (-(s:Int)):=by
 have hlp:double.leastPlace = -1074:=by decide
 have hbi:double.binade=2 ^ 52:=rfl
 have hsw:double.signWeight=2 ^ 63:=rfl
 have hinf:double.infRung=2047*2 ^ 52:=by decide
 by_cases h:n=0
 ·subst h
  have h0:∀ s:Nat,s=1074->double.read (fl 0)=.number false (0*2 ^ s) (-(s:Int)):=by
   intro s hs
   rw[Nat.zero_mul]
   simp[fl,nearest_zero,Format.read,hlp,hbi,hsw,hs]
  obtain⟨s,hs⟩:∃ s:Nat,s=1074:=⟨_,rfl⟩
  exact⟨s,by rw[hs];exact Nat.le_refl _,h0 s hs⟩
 ·have hl:=log2_lt53 h hn
  refine⟨52 - n.log2,by omega,?_⟩
  have hw:fl n=(n.log2+1022)*2 ^ 52+n*2 ^ (52 - n.log2):=by
   have:=nearest_up h hn (u:=0) (by omega)
   simp at this
   exact this
  rw[hw]
  have hlt:n*2 ^ (52 - n.log2)<2 ^ 53:=by
   calc n*2 ^ (52 - n.log2)<2 ^ (n.log2+1)*2 ^ (52 - n.log2):=Nat.mul_lt_mul_of_pos_right Nat.lt_log2_self (Nat.two_pow_pos _)
    _=2 ^ 53:=by rw[<- Nat.pow_add];congr 1;omega
  have hge:2 ^ 52<=n*2 ^ (52 - n.log2):=by
   calc 2 ^ 52=2 ^ n.log2*2 ^ (52 - n.log2):=by rw[<- Nat.pow_add];congr 1;omega
    _<=n*2 ^ (52 - n.log2):=Nat.mul_le_mul_right _ ((Nat.le_log2 h).1 (Nat.le_refl _))
  generalize n*2 ^ (52 - n.log2)=M at hlt hge ⊢
  generalize n.log2=L at hl ⊢
  have p52:(2:Nat) ^ 52=4503599627370496:=by decide
  have p53:(2:Nat) ^ 53=9007199254740992:=by decide
  have p63:(2:Nat) ^ 63=9223372036854775808:=by decide
  rw[p53]at hlt
  rw[p52]at hge
  obtain⟨r,rfl⟩:∃ r,M=4503599627370496+r:=⟨M - 4503599627370496,by omega⟩
  have hr:r<4503599627370496:=by omega
  unfold Format.read
  simp only[hsw,hbi,hinf,hlp,p52,p63]
  have e1:((L+1022)*4503599627370496+(4503599627370496+r)) / 9223372036854775808 % 2=0:=by
   rw[Nat.div_eq_of_lt (by omega)]
  have e2:((L+1022)*4503599627370496+(4503599627370496+r)) % 9223372036854775808=(L+1022)*4503599627370496+(4503599627370496+r):=Nat.mod_eq_of_lt (by omega)
  rw[e1,e2,if_neg (by omega),if_pos (by omega)]
  have e3:((L+1022)*4503599627370496+(4503599627370496+r)) % 4503599627370496=r:=by omega
  have e4:((L+1022)*4503599627370496+(4503599627370496+r)) / 4503599627370496=L+1023:=by omega
  rw[e3,e4]
  congr 1
  omega
theorem signed_up{n s t:Nat}:signed false (n*2 ^ s) (-(s:Int) - min (-(s:Int)) (-(t:Int))).toNat=(n*2 ^ max s t:Nat):=by
 unfold signed
 simp only[Bool.false_eq_true,if_false,Nat.shiftLeft_eq]
 congr 1
 rw[Nat.mul_assoc,<- Nat.pow_add]
 congr 2
 omega
theorem signed_up'{n s t:Nat}:signed false (n*2 ^ t) (-(t:Int) - min (-(s:Int)) (-(t:Int))).toNat=(n*2 ^ max s t:Nat):=by
 unfold signed
 simp only[Bool.false_eq_true,if_false,Nat.shiftLeft_eq]
 congr 1
 rw[Nat.mul_assoc,<- Nat.pow_add]
 congr 2
 omega
theorem order_fl{n m:Nat}(hn:n<2 ^ 53)(hm:m<2 ^ 53):double.order (fl n) (fl m)=some (compare n m):=by
 obtain⟨s,_,e1⟩:=read_fl hn
 obtain⟨t,_,e2⟩:=read_fl hm
 unfold Format.order
 rw[e1,e2]
 unfold Datum.order
 simp only[signed_up,signed_up']
 have hp:0<2 ^ max s t:=Nat.two_pow_pos _
 congr 1
 rcases Nat.lt_trichotomy n m with h | h | h
 ·have:n*2 ^ max s t<m*2 ^ max s t:=Nat.mul_lt_mul_of_pos_right h hp
  rw[Nat.compare_eq_lt.2 h,Int.compare_eq_lt.2 (by exact_mod_cast this)]
 ·subst h;rw[Nat.compare_eq_eq.2 rfl,Int.compare_eq_eq.2 rfl]
 ·have:m*2 ^ max s t<n*2 ^ max s t:=Nat.mul_lt_mul_of_pos_right h hp
  rw[Nat.compare_eq_gt.2 h,Int.compare_eq_gt.2 (by exact_mod_cast this)]
theorem toInt_fl{n:Nat}(hn:n<2 ^ 53):(double.read (fl n)).toInt .zero=some n:=by
 obtain⟨s,_,e1⟩:=read_fl hn
 rw[e1]
 unfold Datum.toInt Datum.integral
 simp only
 have e2:(-(s:Int)).toNat=0:=by omega
 have e3:(- -(s:Int)).toNat=s:=by omega
 rw[e2,e3,Nat.shiftLeft_zero,cut_zero]
 simp[signed]
end Go.Fl
end
noncomputable section
open Go Go.AM Go.Md Go.Fl
open Ieee (double)
namespace Go.Wk
set_option maxRecDepth 100000
set_option maxHeartbeats 1000000
def LB:Nat:=1000000
def I64(n:Int):Prop:=-9223372036854775808<=n/\n<=9223372036854775807
def fI(b:Nat):Option Int:=(FloatKind.f64.decode b).toInt .zero
def vE(v:Ver):Int:=(fI v.re).getD 0
def vN(v:Ver):Int:=(fI v.im).getD 0
def eV(v:Ver):AV:=.cplx .f64 v.re v.im
def vr(e n:Nat):Ver:=⟨fl e,fl n⟩
theorem fEq_fl{n m:Nat}(hn:n<2 ^ 53)(hm:m<2 ^ 53):fEq .f64 (fl n) (fl m)=decide (n=m):=by
 have:FloatKind.f64.format.order (fl n) (fl m)=some (compare n m):=order_fl hn hm
 unfold fEq;rw[this]
 rcases Nat.lt_trichotomy n m with h | h | h
 ·rw[Nat.compare_eq_lt.2 h,decide_eq_false (by omega)];rfl
 ·rw[Nat.compare_eq_eq.2 h,decide_eq_true h];rfl
 ·rw[Nat.compare_eq_gt.2 h,decide_eq_false (by omega)];rfl
theorem fLt_fl{n m:Nat}(hn:n<2 ^ 53)(hm:m<2 ^ 53):fLt .f64 (fl n) (fl m)=decide (n<m):=by
 have:FloatKind.f64.format.order (fl n) (fl m)=some (compare n m):=order_fl hn hm
 unfold fLt;rw[this]
 rcases Nat.lt_trichotomy n m with h | h | h
 ·rw[Nat.compare_eq_lt.2 h,decide_eq_true h];rfl
 ·rw[Nat.compare_eq_eq.2 h,decide_eq_false (by omega)];rfl
 ·rw[Nat.compare_eq_gt.2 h,decide_eq_false (by omega)];rfl
theorem fI_fl{n:Nat}(hn:n<2 ^ 53):fI (fl n)=some (n:Int):=toInt_fl hn
def VNum(v:Ver):Prop:=∃ e n:Nat,e<2 ^ 40/\n<2 ^ 40/\v=vr e n
def ep(v:Ver):Nat:=(vE v).toNat
def nu(v:Ver):Nat:=(vN v).toNat
theorem ep_vr{e n:Nat}(h:e<2 ^ 40):ep (vr e n)=e:=by
 show((fI (fl e)).getD 0).toNat=e;rw[fI_fl (by omega)];rfl
theorem nu_vr{e n:Nat}(h:n<2 ^ 40):nu (vr e n)=n:=by
 show((fI (fl n)).getD 0).toNat=n;rw[fI_fl (by omega)];rfl
def vlt(a b:Ver):Bool:=bif decide (ep a=ep b)then decide (nu a<nu b)else decide (ep a<ep b)
theorem vlt_vr{e n f m:Nat}(he:e<2 ^ 40)(hn:n<2 ^ 40)(hf:f<2 ^ 40)(hm:m<2 ^ 40):vlt (vr e n) (vr f m)=bif decide (e=f)then decide (n<m)else decide (e<f):=by
 unfold vlt;rw[ep_vr he,ep_vr hf,nu_vr hn,nu_vr hm]
theorem bif_some{X:Type}(c:Bool)(a b:X):(bif c then some a else some b)=some (bif c then a else b):=by cases c <;> rfl
theorem bif_not{X:Type}(c:Bool)(a b:X):(bif !c then a else b)=bif c then b else a:=by cases c <;> rfl
theorem fvlt{a b:Ver}(ha:VNum a)(hb:VNum b):(bif fEq .f64 a.re b.re then fLt .f64 a.im b.im else fLt .f64 a.re b.re)=vlt a b:=by
 obtain⟨e,n,he,hn,rfl⟩:=ha
 obtain⟨f,m,hf,hm,rfl⟩:=hb
 rw[vlt_vr he hn hf hm]
 show(bif fEq .f64 (fl e) (fl f)then fLt .f64 (fl n) (fl m)else fLt .f64 (fl e) (fl f))=_
 rw[fEq_fl (by omega) (by omega),fLt_fl (by omega) (by omega),fLt_fl (by omega) (by omega)]
end Go.Wk
end
noncomputable section
open Go Go.AM Go.Md Go.Fl
namespace Go.Wk
def idxFrom(m:Member):List Member->Nat->Int
 | [],_=>-1
 | x::r,i=>if x=m then i else idxFrom m r (i+1)
def idx(l:List Member)(m:Member):Int:=idxFrom m l 0
end Go.Wk
end
noncomputable section
open Go Go.AM Go.Md
namespace Go.Wk
set_option maxRecDepth 100000
set_option maxHeartbeats 1000000
def env0:Env:=envO []
theorem con0{n f:Nat}{args:List AV}{r:AV}(e:callT env0 n f args=some r):Contract PG f args [] r []:=con_of (md:=fun _=>none) (l:=[]) (fun k hk=>by cases hk) e
theorem clone_of{X:Type}{F sz b:Nat}{e:X->List AV}{z:X}(hb:b<=1000)(hn:callT env0 2 F [.nils]=some .nils)(he:callT env0 2 F [.trl sz []]=some (.trl sz []))
  (hs:∀ n f,callT env0 2 F [.tr sz (n+1) f]=bif Nat.ble ((0+(n+1))*b) 140737488355328&&Nat.ble (0+(n+1)) 140737488355328 then bif Nat.ble (n+1) (n+1)then some (.tr sz (n+1) f)else none else none)
  (l:List X) (hl:l.length<=LB):Contract PG F [encL sz e z l] [] (encL sz e z l) []:=by
 unfold LB at hl
 cases l with
 | nil=>exact Contract.split (OrC.of [] [] .nil) ((con0 hn).res .nils) ((con0 he).res (SubV.trl_encL (e:=e) (z:=z) []))
 | cons x r=>
  have h:=hs r.length (fun i=>e ((x::r).getD i z))
  simp only[List.length_cons]at hl
  have h1:(0+(r.length+1))*b<=140737488355328:=by
   have:(0+(r.length+1))*b<=1000000*1000:=Nat.mul_le_mul (by omega) hb
   omega
  rw[ble_true h1,ble_true (by omega),ble_true (Nat.le_refl _)]at h
  exact con0 h
theorem clone_Member_eq(n:Nat)(f:Nat->List AV):callT env0 2 F_slices_Clone_api_Member [.tr 2 (n+1) f]=bif Nat.ble ((0+(n+1))*16) 140737488355328&&Nat.ble (0+(n+1)) 140737488355328 then bif Nat.ble (n+1) (n+1)then some (.tr 2 (n+1) f)else none else none:=by kernel_rfl
theorem clone_Entry_eq(n:Nat)(f:Nat->List AV):callT env0 2 F_slices_Clone_api_Entry [.tr 11 (n+1) f]=bif Nat.ble ((0+(n+1))*112) 140737488355328&&Nat.ble (0+(n+1)) 140737488355328 then bif Nat.ble (n+1) (n+1)then some (.tr 11 (n+1) f)else none else none:=by kernel_rfl
theorem clone_Seen_eq(n:Nat)(f:Nat->List AV):callT env0 2 F_slices_Clone_api_Seen [.tr 7 (n+1) f]=bif Nat.ble ((0+(n+1))*72) 140737488355328&&Nat.ble (0+(n+1)) 140737488355328 then bif Nat.ble (n+1) (n+1)then some (.tr 7 (n+1) f)else none else none:=by kernel_rfl
theorem clone_Member(l:List Member)(h:l.length<=LB):Contract PG F_slices_Clone_api_Member [encMembers l] [] (encMembers l) []:=
 clone_of (b:=16) (by omega) (by kernel_rfl) (by kernel_rfl) clone_Member_eq l h
theorem clone_Entry(l:List Entry)(h:l.length<=LB):Contract PG F_slices_Clone_api_Entry [encEntrys l] [] (encEntrys l) []:=
 clone_of (b:=112) (by omega) (by kernel_rfl) (by kernel_rfl) clone_Entry_eq l h
theorem clone_Seen(l:List Seen)(h:l.length<=LB):Contract PG F_slices_Clone_api_Seen [encSeens l] [] (encSeens l) []:=
 clone_of (b:=72) (by omega) (by kernel_rfl) (by kernel_rfl) clone_Seen_eq l h
def dL{X:Type}(d:List AV->X)(a:List AV):List X:=decL d (a.getD 0 .nils)
def shortL{X:Type}(l:List X):Prop:=l.length<=LB
def eMems(l:List Member):List AV:=[encMembers l]
def eEnts(l:List Entry):List AV:=[encEntrys l]
def eSeens(l:List Seen):List AV:=[encSeens l]
theorem qMems{R:Type}{l:List Member}{k:List Member->Option R}(h:shortL l):gC (dL decMember) shortL eMems [encMembers l] k=k l:=gC_eq l (decMembers l) h (.refl _)
theorem qEnts{R:Type}{l:List Entry}{k:List Entry->Option R}(h:shortL l):gC (dL decEntry) shortL eEnts [encEntrys l] k=k l:=gC_eq l (decEntrys l) h (.refl _)
theorem qSeens{R:Type}{l:List Seen}{k:List Seen->Option R}(h:shortL l):gC (dL decSeen) shortL eSeens [encSeens l] k=k l:=gC_eq l (decSeens l) h (.refl _)
def kCloneMember:Known:=.spec F_slices_Clone_api_Member (dL decMember) shortL eMems encMembers
def kCloneEntry:Known:=.spec F_slices_Clone_api_Entry (dL decEntry) shortL eEnts encEntrys
def kCloneSeen:Known:=.spec F_slices_Clone_api_Seen (dL decSeen) shortL eSeens encSeens
theorem kCloneMember_ok:kCloneMember.Ok PG:=Known.spec_ok clone_Member
theorem kCloneEntry_ok:kCloneEntry.Ok PG:=Known.spec_ok clone_Entry
theorem kCloneSeen_ok:kCloneSeen.Ok PG:=Known.spec_ok clone_Seen
theorem wrapS{i:Nat}(h:i<=2000000):IntKind.i64.wrap ((i:Int)+1)=((i+1:Nat):Int):=wrap64 (by omega)
theorem dec_nat{i n:Nat}:decide ((i:Int)<(n:Int))=decide (i<n):=by simp
theorem dec_nonneg(i:Nat):decide ((0:Int)<=(i:Int))=true:=by simp
theorem mem_eq(x m:Member):(decide (x.node=m.node)&&decide (x.boot=m.boot))=decide (x=m):=by
 cases x;cases m;simp[Bool.decide_and]
def SIdx(l:List Member)(m:Member)(i:Int):St:={fr:=[(3,.ptr 0 0 0),(7,encMembers l),(8,.int .i64 l.length),(9,.int .i64 i)],hp:=[.arr true 2 [encMember m]]}
theorem idx_in(N:Nat)(l:List Member)(mm:Member):callT env0 (N+1) F_view_Index [encMembers l,.agg (encMember mm)]=LP env0 N 0 F_view_Index snK 0 [] N (SIdx l mm 0):=by kernel_rfl
theorem idx_step(N m:Nat)(l:List Member)(mm:Member)(i:Int):LP env0 N 0 F_view_Index snK 0 [] (m+1) (SIdx l mm i) =
  bif decide (i<(l.length:Int))then bif decide (0<=i)&&decide (i<(l.length:Int))then
   bif decide ((l.getD i.toNat default).node=mm.node)&&(decide ((l.getD i.toNat default).boot=mm.boot)&&true)then some (.int .i64 i)
   else LP env0 N 0 F_view_Index snK 0 [] m (SIdx l mm (IntKind.i64.wrap (i+1)))
  else none else some (.int .i64 (-1)):=by kernel_rfl
theorem idx_loop{N:Nat}{l:List Member}{mm:Member}(hl:l.length<=LB):∀ d i m,i+d=l.length->d<m->LP env0 N 0 F_view_Index snK 0 [] m (SIdx l mm (i:Nat))=some (.int .i64 (idxFrom mm (l.drop i) i)):=by
 unfold LB at hl
 intro d
 induction d with
 | zero=>
  intro i m hi hm
  obtain⟨m,rfl⟩:∃ k,m=k+1:=⟨m - 1,by omega⟩
  rw[idx_step,dec_nat,decide_eq_false (by omega),cond_false,List.drop_eq_nil_of_le (by omega)]
  rfl
 | succ d ih=>
  intro i m hi hm
  obtain⟨m,rfl⟩:∃ k,m=k+1:=⟨m - 1,by omega⟩
  rw[idx_step,dec_nat,decide_eq_true (by omega),dec_nonneg,drop_cons (z:=default) (by omega:i<l.length)]
  simp only[cond_true,Bool.and_true,Int.toNat_natCast,mem_eq,idxFrom]
  by_cases h:l.getD i default=mm
  ·simp only[decide_eq_true h,cond_true,if_pos h]
  ·simp only[decide_eq_false h,cond_false,if_neg h]
   rw[wrapS (by omega),ih (i+1) m (by omega) (by omega)]
abbrev LM:=List Member × Member
def decLM(a:List AV):LM:=(decL decMember (a.getD 0 .nils),decMember (argC a 1))
def preLM(x:LM):Prop:=x.1.length<=LB
def encLM(x:LM):List AV:=[encMembers x.1,.agg (encMember x.2)]
theorem qLM{R:Type}{l:List Member}{m:Member}{k:LM->Option R}(h:l.length<=LB):gC decLM preLM encLM [encMembers l,.agg (encMember m)] k=k (l,m):=gC_eq (l,m) (Prod.ext (decMembers l) rfl) h (.refl _)
def kIndex:Known:=.spec F_view_Index decLM preLM encLM (fun x=>.int .i64 (idx x.1 x.2))
theorem kIndex_ok:kIndex.Ok PG:=Known.spec_ok fun x h=>by
 have:=(idx_in (x.1.length+1) x.1 x.2).trans (idx_loop (N:=x.1.length+1) (mm:=x.2) h x.1.length 0 (x.1.length+1) (by omega) (by omega))
 exact con0 this
theorem up_loop{n:Nat}(P:Nat->Nat->Prop)(h0:∀ m,P n (m+1))(hs:∀ i m,i<n->P (i+1) m->P i (m+1)):∀ i m,i<=n->n - i<m->P i m:=by
 intro i m hi hm
 obtain⟨d,hd⟩:∃ d,n - i=d:=⟨_,rfl⟩
 induction d generalizing i m with
 | zero=>
  have:i=n:=by omega
  subst this
  obtain⟨m,rfl⟩:∃ k,m=k+1:=⟨m - 1,by omega⟩
  exact h0 m
 | succ d ih=>
  obtain⟨m,rfl⟩:∃ k,m=k+1:=⟨m - 1,by omega⟩
  exact hs i m (by omega) (ih (i+1) m (by omega) (by omega) (by omega))
theorem getD_mem{X:Type}{l:List X}{i:Nat}{z:X}(h:i<l.length):l.getD i z ∈ l:=by
 simp[List.getD,List.getElem?_eq_getElem h]
def encB(b:Int):List AV:=[.int .u8 b]
def decB(cs:List AV):Int:=getI cs 0
def encBy(l:List Int):AV:=encL 1 encB 0 l
def natB:Nat->Int->List Int
 | 0,_=>[]
 | k+1,x=>if 127<x then(128+x % 128)::natB k (x / 128)else [x]
def zig(n:Int):Int:=if n<0 then 2*(-(n+1))+1 else 2*n
def intB(n:Int):List Int:=natB 11 (zig n)
theorem natB_ne:∀ (k:Nat) (x:Int),natB (k+1) x ≠ []:=by
 intro k x
 unfold natB
 split <;> simp
theorem natB_len:∀ (k:Nat) (x:Int),(natB k x).length<=k
 | 0,x=>by simp[natB]
 | k+1,x=>by
  unfold natB
  split
  ·have:=natB_len k (x / 128)
   simp;omega
  ·simp
theorem intB_len(n:Int):(intB n).length<=11:=natB_len 11 _
def ne(l:List Int):List Int:=l.headD 0::l.tail
theorem ne_eq{l:List Int}(h:l ≠ []):ne l=l:=by
 cases l with
 | nil=>exact absurd rfl h
 | cons a r=>rfl
def outB(l:List Int):AV × Heap:=outBlk 1 encB 0 l
theorem intB_ne(n:Int):intB n ≠ []:=natB_ne 10 _
def blkB(l:List Int):BS:=.seq true 1 l.length fun i=>encB (l.getD i 0)
theorem ble_self(n:Nat):Nat.ble n n=true:=ble_true (Nat.le_refl n)
theorem or_self(n:Nat):(Nat.beq n 0||Nat.ble n n)=true:=by rw[ble_self,Bool.or_true]
theorem roomB{a b:Nat}(h:a+b<=1000000000):(Nat.ble ((a+b)*1) 140737488355328&&Nat.ble (a+b) 140737488355328)=true:=by
 rw[ble_true (by omega),ble_true (by omega)];rfl
def encI(x:Int):List AV:=[.int .i64 x]
def decI(cs:List AV):Int:=getI cs 0
def numsB(l:List Int):List Int:=l.flatMap intB
theorem numsB_len(l:List Int):(numsB l).length<=11*l.length:=by
 induction l with
 | nil=>simp[numsB]
 | cons a r ih=>
  have:=intB_len a
  simp only[numsB,List.flatMap_cons,List.length_append,List.length_cons]at ih ⊢
  omega
def chB(c:UInt8):List Int:=[(c.toNat:Int)]
def textB(s:List UInt8):List Int:=intB s.length++s.flatMap chB
theorem decBy(l:List Int):decL decB (encBy l)=l:=decL_encL (fun _=>rfl) l
def bitI(b:Bool):Int:=bif b then 1 else 0
theorem ak{k:Known}{l:List Known}(h:k.Ok PG)(t:∀ x ∈ l,x.Ok PG):∀ x ∈ k::l,x.Ok PG:=fun x hx=>by
 rcases List.mem_cons.1 hx with rfl | hx
 ·exact h
 ·exact t x hx
theorem ank:∀ x ∈ ([]:List Known),x.Ok PG:=fun x hx=>by cases hx
def verB(v:Ver):List Int:=[intB (vE v),intB (vN v)].flatten
def opB(o:Md.Op):List Int:=[intB o.kind,textB o.key,textB o.val,textB o.old,[bitI o.hasOld]].flatten
def entB(e:Entry):List Int:=[verB e.ver,intB e.kind,textB e.key,textB e.val,[bitI e.write],[bitI e.del],intB e.sess,intB e.num,intB e.code,textB e.res,[bitI e.hasRes]].flatten
def entsB(l:List Entry):List Int:=intB l.length++l.flatMap entB
def memB(m:Member):List Int:=numsB [m.node,m.boot]
def memsB(l:List Member):List Int:=intB l.length++l.flatMap memB
def MemOk(m:Member):Prop:=I64 m.node/\I64 m.boot
def MemsOk(l:List Member):Prop:=l.length<=1000 /\ ∀ m ∈ l,MemOk m
def viewB(v:Md.View):List Int:=numsB [v.shard,v.epoch,v.gen,v.phase]++memsB v.chain
def viewsB(l:List Md.View):List Int:=intB l.length++l.flatMap viewB
def rg(i n:Int){R:Type}(k:Option R):Option R:=bif decide (0<=i)&&decide (i<n)then k else none
theorem rg_eq{i n:Nat}(h:i<n){R:Type}{k:Option R}:rg (i:Int) (n:Int) k=k:=by
 unfold rg;rw[dec_nonneg,dec_nat,decide_eq_true h];rfl
def ViewOk(v:Md.View):Prop:=I64 v.shard/\I64 v.epoch/\I64 v.gen/\I64 v.phase/\MemsOk v.chain
def ViewsOk(l:List Md.View):Prop:=l.length<=1000 /\ ∀ v ∈ l,ViewOk v
theorem memsB_len{l:List Member}(h:MemsOk l):(memsB l).length<=11+22*l.length:=by
 have h1:=intB_len (l.length:Int)
 have h2:(l.flatMap memB).length<=22*l.length:=by
  clear h h1
  induction l with
  | nil=>simp
  | cons a r ih=>
   have:=numsB_len [a.node,a.boot]
   simp only[List.flatMap_cons,List.length_append,List.length_cons,List.length_nil,memB]at ih this ⊢
   omega
 simp only[memsB,List.length_append];omega
theorem viewB_len{v:Md.View}(h:ViewOk v):(viewB v).length<=23000:=by
 have h1:=numsB_len [v.shard,v.epoch,v.gen,v.phase]
 have h2:=memsB_len h.2.2.2.2
 have h3:=h.2.2.2.2.1
 simp only[List.length_cons,List.length_nil]at h1
 simp only[viewB,List.length_append];omega
def seenB(s:Seen):List Int:=numsB [s.sess,s.num]++verB s.ver++numsB [s.kind,s.code]++textB s.res++[bitI s.hasRes]
def seensB(l:List Seen):List Int:=intB l.length++l.flatMap seenB
end Go.Wk
end
noncomputable section
open Go Go.AM Go.Md
namespace Go.Wk
set_option maxRecDepth 100000
set_option maxHeartbeats 2000000
theorem flat_len{X:Type}{p:X->List Int}{c:Nat}:∀ {l:List X},(∀ x ∈ l,(p x).length<=c)->(l.flatMap p).length<=c*l.length
 | [],_=>by simp
 | a::r,h=>by
  have h1:=h a (by simp)
  have h2:=flat_len (l:=r) (p:=p) (c:=c) fun x hx=>h x (by simp[hx])
  simp only[List.flatMap_cons,List.length_append,List.length_cons,Nat.mul_add,Nat.mul_one]at h2 ⊢
  omega
theorem flat_len'{X:Type}{p:X->List Int}{c:Nat}{l:List X}(hl:l.length<=1000)(h:∀ x ∈ l,(p x).length<=c):(intB l.length++l.flatMap p).length<=11+c*1000:=by
 have h1:=intB_len (l.length:Int)
 have h2:=flat_len h
 have h3:c*l.length<=c*1000:=Nat.mul_le_mul_left c hl
 simp only[List.length_append];omega
theorem viewsB_len{l:List Md.View}(h:ViewsOk l):(viewsB l).length<=30000000:=by
 have:=flat_len' (p:=viewB) h.1 fun x hx=>viewB_len (h.2 x hx)
 unfold viewsB;omega
def imgB(x:Image):List Int:=verB x.floor++verB x.last++intB x.gen++entsB x.log++seensB x.seen
def msgN(x:Msg):List Int:=[x.kind,x.src,x.dst,x.boot,x.sboot,x.shard,x.epoch,x.gen,x.sess,x.num,x.a,x.code]
def msgB(x:Msg):List Int:=numsB (msgN x)++[bitI x.has,bitI x.fresh]++textB x.key++textB x.val++verB x.ver++verB x.floor++opB x.op++entsB x.entries++memsB x.chain++viewsB x.views++imgB x.image
end Go.Wk
end
noncomputable section
open Go Go.AM Go.Md Go.Wk
namespace Go.Kp
abbrev PR(X:Type):=X × Int × Bool
abbrev Rd(X:Type):=List Int->Int->PR X
section
variable (gI:Rd Int)
def strP(l:List Int):List UInt8:=l.map fun x=>UInt8.ofNat x.toNat
end
end Go.Kp
end
noncomputable section
namespace Go.Kp
theorem wu64{x:Int}(h:0<=x/\x<=18446744073709551615):IntKind.u64.wrap x=x:=by
 simp[IntKind.wrap,IntKind.signed,IntKind.bits];omega
theorem wu8{x:Int}(h:0<=x/\x<=255):IntKind.u8.wrap x=x:=by
 simp[IntKind.wrap,IntKind.signed,IntKind.bits];omega
end Go.Kp
end
noncomputable section
open Go Go.AM Go.Md Go.Wk
namespace Go.Kp
set_option maxRecDepth 100000
def vOf:List Plan->Nat->List Md.View
 | [],_=>[]
 | p::r,i=>⟨i,p.epoch,p.gen,p.phase,p.chain⟩::⟨i,p.base,p.reset,bif p.fresh then 1 else 0,p.valid⟩::vOf r (i+1)
def mkM(sess gen:Int)(vs:List Md.View):Msg:=⟨4,0,0,0,0,0,0,gen,sess,0,0,0,false,false,[],[],⟨0,0⟩,⟨0,0⟩,⟨0,[],[],[],false⟩,[],[],vs,⟨⟨0,0⟩,⟨0,0⟩,0,[],[]⟩⟩
def mOf(b:Book):Msg:=mkM b.sess b.gen (vOf b.shards 0)
def putB(b:Book):List Int:=msgB (mOf b)
def MemsK(l:List Member):Prop:=l.length<=900 /\ ∀ m ∈ l,MemOk m
def PlanOk(p:Plan):Prop:=I64 p.epoch/\I64 p.gen/\I64 p.phase/\I64 p.base/\I64 p.reset/\MemsK p.chain/\MemsK p.valid
def BookOk(b:Book):Prop:=I64 b.sess/\I64 b.gen/\b.shards.length<=400 /\ ∀ p ∈ b.shards,PlanOk p
def ViewK(v:Md.View):Prop:=ViewOk v/\v.chain.length<=900
theorem MemsK.ok{l:List Member}(h:MemsK l):MemsOk l:=⟨by have:=h.1;omega,h.2⟩
theorem vOf_ok:∀ (l:List Plan) (i:Nat),i+l.length<=100000->(∀ p ∈ l,PlanOk p)->(vOf l i).length=2*l.length /\ ∀ v ∈ vOf l i,ViewK v
 | [],i,_,_=>⟨rfl,fun v h=>by cases h⟩
 | p::r,i,hi,h=>by
  have hp:=h p (by simp)
  obtain⟨h1,h2,h3,h4,h5,h6,h7⟩:=hp
  simp only[List.length_cons]at hi
  obtain⟨g1,g2⟩:=vOf_ok r (i+1) (by omega) (fun q hq=>h q (by simp[hq]))
  refine⟨by simp only[vOf,List.length_cons,g1];omega,fun v hv=>?_⟩
  simp only[vOf,List.mem_cons]at hv
  have hi64:I64 (i:Int):=by unfold I64;omega
  rcases hv with rfl | rfl | hv
  ·exact⟨⟨hi64,h1,h2,h3,h6.ok⟩,h6.1⟩
  ·exact⟨⟨hi64,h4,h5,by show I64 (bif p.fresh then 1 else 0);cases p.fresh <;> (simp only[cond_true,cond_false];unfold I64;omega),h7.ok⟩,h7.1⟩
  ·exact g2 v hv
theorem verB0:verB ⟨0,0⟩=intB 0++intB 0:=by decide +kernel
theorem natB_s(j x:Nat):natB (j+1) (x:Int)=if 127<x then((128+x % 128:Nat):Int)::natB j ((x / 128:Nat):Int)else [(x:Int)]:=by
 show(if 127<(x:Int)then(128+(x:Int) % 128)::natB j ((x:Int) / 128)else [(x:Int)])=_
 by_cases h:127<x
 ·rw[if_pos (by omega),if_pos h]
  have e1:(128+(x:Int) % 128)=((128+x % 128:Nat):Int):=by omega
  have e2:(x:Int) / 128=((x / 128:Nat):Int):=by omega
  rw[e1,e2]
 ·rw[if_neg (by omega),if_neg h]
theorem natB_by:∀ (k x:Nat),∀ y ∈ natB k (x:Int),0<=y/\y<=255
 | 0,x,y,h=>by simp[natB]at h
 | k+1,x,y,h=>by
  rw[natB_s]at h
  split at h
  ·rcases List.mem_cons.1 h with rfl | h
   ·omega
   ·exact natB_by k _ y h
  ·rw[List.mem_singleton]at h;subst h;omega
def zigN(n:Int):Nat:=(zig n).toNat
theorem zig_nat{n:Int}(h:I64 n):zig n=(zigN n:Int)/\zigN n<2 ^ 64:=by
 unfold I64 at h
 unfold zigN zig
 split <;> omega
theorem i0:I64 0:=by unfold I64;omega
theorem nums_cons(a:Int)(l:List Int):numsB (a::l)=intB a++numsB l:=by simp[numsB]
theorem nums_nil:numsB []=[]:=rfl
end Go.Kp
end
noncomputable section
open Go Go.AM Go.Md Go.Wk
namespace Go.Kp
set_option maxRecDepth 100000
set_option maxHeartbeats 4000000
def md5(f:Nat):Option Nat:=bif nmem f [F_wire_Int,F_wire_Bool,F_wire_Text,F_wire_Ver,F_entry_PutOp,F_msg_putMember,F_msg_putView,F_msg_putImage,F_msg_putList_api_Member,F_msg_putList_api_View,F_msg_putList_api_Entry,F_msg_putList_api_Seen]then some 5 else none
def envP(l:List Known):Env:=envM md5 (orcOf l)
def SI0(n:Nat)(f:Nat->List AV)(x:Int):St:={fr:=[(0,.sl 1 0 0 n 0),(5,.int .u64 x)],hp:=[.seq true 1 n f]}
def SI1(n:Nat)(f:Nat->List AV)(x:Int):St:={fr:=[(0,.sl 1 1 0 n 0),(5,.int .u64 x)],hp:=[.dead,.seq true 1 n f]}
theorem pint_0(N:Nat)(j:Nat)(n:Nat)(f:Nat->List AV)(x:Int):LP (envP []) N 1 F_wire_Int (hnK 1) 0 [] (j+1) (SI0 n f x) =
 bif decide (127<x)then
  bif n.beq 0||n.ble n then
   bif((n+1)*1).ble 140737488355328&&(n+1).ble 140737488355328 then
    LP (envP []) (N) (1) (F_wire_Int) (hnK 1) 0 ([]) (j) ({fr:=[(0,AV.sl 1 1 0 (n+1) 0),(5,AV.int IntKind.u64 (x.fdiv 128))],hp:=[BS.dead,BS.seq true 1 (n+1) fun i=>bif i.blt n then f i else bif i.blt (n+1)then [[AV.int IntKind.u8 (IntKind.u8.wrap (↑(BitVec.ofInt 8 (IntKind.u8.wrap (IntKind.u64.wrap (↑(BitVec.ofInt 64 x &&& BitVec.ofInt 64 127).toNat:Int))) ||| BitVec.ofInt 8 128).toNat:Int))]].getD (i - n) []else f n]})
   else none
  else none
 else
  bif n.beq 0||n.ble n then
   bif((n+1)*1).ble 140737488355328&&(n+1).ble 140737488355328 then
    some ((AV.sl 1 1 0 (n+1) 0,[BS.dead,BS.seq true 1 (n+1) fun i=>bif i.blt n then f i else bif i.blt (n+1)then [[AV.int IntKind.u8 (IntKind.u8.wrap x)]].getD (i - n) []else f n]))
   else none
  else none:=by kernel_rfl
theorem pint_1(N:Nat)(j:Nat)(n:Nat)(f:Nat->List AV)(x:Int):LP (envP []) N 1 F_wire_Int (hnK 1) 0 [] (j+1) (SI1 n f x) =
 bif decide (127<x)then
  bif n.beq 0||n.ble n then
   bif((n+1)*1).ble 140737488355328&&(n+1).ble 140737488355328 then
    LP (envP []) (N) (1) (F_wire_Int) (hnK 1) 0 ([]) (j) ({fr:=[(0,AV.sl 1 1 0 (n+1) 0),(5,AV.int IntKind.u64 (x.fdiv 128))],hp:=[BS.dead,BS.seq true 1 (n+1) fun i=>bif i.blt n then f i else bif i.blt (n+1)then [[AV.int IntKind.u8 (IntKind.u8.wrap (↑(BitVec.ofInt 8 (IntKind.u8.wrap (IntKind.u64.wrap (↑(BitVec.ofInt 64 x &&& BitVec.ofInt 64 127).toNat:Int))) ||| BitVec.ofInt 8 128).toNat:Int))]].getD (i - n) []else f n]})
   else none
  else none
 else
  bif n.beq 0||n.ble n then
   bif((n+1)*1).ble 140737488355328&&(n+1).ble 140737488355328 then
    some ((AV.sl 1 1 0 (n+1) 0,[BS.dead,BS.seq true 1 (n+1) fun i=>bif i.blt n then f i else bif i.blt (n+1)then [[AV.int IntKind.u8 (IntKind.u8.wrap x)]].getD (i - n) []else f n]))
   else none
  else none:=by kernel_rfl
def Known.two(a b:Known):Known:={f:=a.f,ans:=fun args hp=>match hp with
 | []=>a.ans args []
 | x::h=>b.ans args (x::h)}
theorem Known.two_ok{a b:Known}(ha:a.Ok PG)(hb:b.Ok PG)(h:a.f=b.f):(Known.two a b).Ok PG:=by
 intro args hp A e hg
 cases hp with
 | nil=>exact ha args [] A e hg
 | cons x r=>
  have:=hb args (x::r) A e hg
  rw[<- h]at this
  exact this
section
variable {X:Type}
def dAp(d:List AV->X)(args:List AV)(h:Heap):List Int × X:=(match hget h 0 with
 | .seq _ _ n f=>(List.range n).map fun i=>decB (f i)
 | _=>[],d args.tail)
def eAp(e:X->List AV)(p:List Int × X):List AV × Heap:=(.sl 1 0 0 p.1.length 0::e p.2,[blkB p.1])
def oAp(q:X->List Int)(p:List Int × X):AV × Heap:=(.sl 1 1 0 (p.1++q p.2).length 0,[.dead,blkB (p.1++q p.2)])
def pAp(B:Nat)(pre:X->Prop)(p:List Int × X):Prop:=p.1.length<=B/\pre p.2
theorem dAp_eq{d:List AV->X}{e:X->List AV}(h:∀ x,d (e x)=x)(l:List Int)(x:X):dAp d (.sl 1 0 0 l.length 0::e x) [blkB l]=(l,x):=by
 unfold dAp
 refine Prod.ext ?_ (h x)
 show(List.range l.length).map (fun i=>decB (encB (l.getD i 0)))=l
 exact decBy l
def kAp(F B:Nat)(d:List AV->X)(q:X->List Int)(pre:X->Prop)(e:X->List AV):Known:=.specH F (dAp d) (pAp B pre) (eAp e) (oAp q)
def gAp5{R:Type}(B:Nat)(d:List AV->X)(pre:X->Prop)(e:X->List AV)(l:List Int)(x:X)(k:List Int × X->Option R):Option R:=gCH (dAp d) (pAp B pre) (eAp e) (.sl 1 0 0 l.length 0::e x) [blkB l] k
theorem gAp5_eq{R:Type}{B:Nat}{d:List AV->X}{pre:X->Prop}{e:X->List AV}{l:List Int}{x:X}{k:List Int × X->Option R}(h:∀ x,d (e x)=x)(hl:l.length<=B)(hp:pre x):gAp5 B d pre e l x k=k (l,x):=
 gCH_eq (l,x) (dAp_eq h l x) ⟨hl,hp⟩ rfl
theorem kAp_ok{F B:Nat}{d:List AV->X}{q:X->List Int}{pre:X->Prop}{e:X->List AV}(h:∀ l x,l.length<=B->pre x->Contract PG F (eAp e (l,x)).1 (eAp e (l,x)).2 (oAp q (l,x)).1 (oAp q (l,x)).2):(kAp F B d q pre e).Ok PG:=
 Known.specH_ok fun p hp=>⟨h p.1 p.2 hp.1 hp.2,by show 1<=2;omega⟩
end
theorem conP{l:List Known}(h:∀ k ∈ l,k.Ok PG){n f:Nat}{args:List AV}{hp:Heap}{r:AV}{hp':Heap}(e:callH (envP l) n f args hp=some (r,hp')):Contract PG f args hp r hp':=
 (callH_ok (envM_ok (md:=md5) h) envM_code mixed e).1
theorem byteE(x:Nat)(h:x<2 ^ 64):IntKind.u8.wrap ((BitVec.ofInt 8 (IntKind.u8.wrap (IntKind.u64.wrap ((BitVec.ofInt 64 (x:Int) &&& BitVec.ofInt 64 127).toNat:Int))) ||| BitVec.ofInt 8 128).toNat:Int)=((128+x % 128:Nat):Int):=by
 have e0:(BitVec.ofInt 64 (x:Int) &&& BitVec.ofInt 64 127).toNat=x % 128:=by
  rw[BitVec.toNat_and]
  have e1:(BitVec.ofInt 64 (x:Int)).toNat=x:=by simp[BitVec.toNat_ofInt];omega
  have e2:(BitVec.ofInt 64 127).toNat=127:=by decide
  rw[e1,e2]
  exact Nat.and_two_pow_sub_one_eq_mod x 7
 rw[e0,wu64 (by omega)]
 have e3:∀ c:Fin 128,(BitVec.ofInt 8 ((c:Nat):Int) ||| BitVec.ofInt 8 128).toNat=128+c:=by decide +kernel
 have:=e3 ⟨x % 128,Nat.mod_lt _ (by decide)⟩
 simp only at this
 have hw:IntKind.u8.wrap ((x % 128:Nat):Int)=((x % 128:Nat):Int):=wu8 (by omega)
 rw[hw,this,wu8 (by omega)]
theorem notE{x:Int}(h:I64 x)(hx:x<0):IntKind.u64.wrap ((BitVec.ofInt 64 (IntKind.u64.wrap (IntKind.u64.wrap x*2)) ^^^ BitVec.ofInt 64 18446744073709551615).toNat:Int)=zig x:=by
 unfold I64 at h
 have e1:IntKind.u64.wrap (IntKind.u64.wrap x*2)=2*x+18446744073709551616:=by
  simp[IntKind.wrap,IntKind.signed,IntKind.bits];omega
 have e2:BitVec.ofInt 64 18446744073709551615=BitVec.allOnes 64:=by decide
 rw[e1,e2,BitVec.xor_allOnes,BitVec.toNat_not]
 have e3:(BitVec.ofInt 64 (2*x+18446744073709551616)).toNat=(2*x+18446744073709551616).toNat:=by
  simp[BitVec.toNat_ofInt];omega
 rw[e3,wu64 (by omega)]
 unfold zig
 rw[if_pos hx];omega
theorem zigE{x:Int}(h:I64 x)(hx:¬ x<0):IntKind.u64.wrap (IntKind.u64.wrap x*2)=zig x:=by
 unfold I64 at h
 unfold zig
 rw[if_neg hx]
 simp[IntKind.wrap,IntKind.signed,IntKind.bits];omega
def SIl(b:Bool)(l:List Int)(x:Int):St:=bif b then SI1 l.length (fun i=>encB (l.getD i 0)) x else SI0 l.length (fun i=>encB (l.getD i 0)) x
theorem app1(l:List Int)(a:Int):(fun i=>bif i.blt l.length then encB (l.getD i 0)else bif i.blt (l.length+1)then [[AV.int IntKind.u8 a]].getD (i - l.length) []else encB (l.getD l.length 0))=fun i=>encB ((l++[a]).getD i 0):=appF_lit encB 0 l [a]
theorem len1(l:List Int)(a:Int):l.length+1=(l++[a]).length:=by simp
theorem pint_run{N:Nat}:∀ (k x:Nat) (l:List Int) (j:Nat) (b:Bool),x<2 ^ 64->x<128 ^ k->0<k->k<j->l.length+k<=1000000000 ->
  LP (envP []) N 1 F_wire_Int (hnK 1) 0 [] j (SIl b l (x:Int))=some (.sl 1 1 0 (l++natB k (x:Int)).length 0,[.dead,blkB (l++natB k (x:Int))]):=by
 intro k
 induction k with
 | zero=>intro x l j b _ _ h;omega
 | succ k ih=>
  intro x l j b h1 h2 h3 h4 h5
  obtain⟨j,rfl⟩:∃ m,j=m+1:=⟨j - 1,by omega⟩
  have key:LP (envP []) N 1 F_wire_Int (hnK 1) 0 [] (j+1) (SIl b l (x:Int))=bif decide (127<(x:Int))then LP (envP []) N 1 F_wire_Int (hnK 1) 0 [] j (SIl true (l++[((128+x % 128:Nat):Int)]) ((x:Int).fdiv 128))
    else some (.sl 1 1 0 (l++[(x:Int)]).length 0,[.dead,blkB (l++[(x:Int)])]):=by
   have hw:∀ h:¬ 127<(x:Int),IntKind.u8.wrap (x:Int)=x:=fun h=>wu8 (by omega)
   have t1:(l.length.beq 0||l.length.ble l.length)=true:=or_self _
   have t2:(((l.length+1)*1).ble 140737488355328&&(l.length+1).ble 140737488355328)=true:=roomB (by omega)
   cases b with
   | true=>
    show LP (envP []) N 1 F_wire_Int (hnK 1) 0 [] (j+1) (SI1 _ _ _)=_
    rw[pint_1,t1,t2,byteE x h1,app1,app1,len1 l ((128+x % 128:Nat):Int)]
    simp only[cond_true]
    by_cases h:127<(x:Int)
    ·rw[decide_eq_true h];rfl
    ·rw[decide_eq_false h,hw h,<- len1,len1 l (x:Int)];rfl
   | false=>
    show LP (envP []) N 1 F_wire_Int (hnK 1) 0 [] (j+1) (SI0 _ _ _)=_
    rw[pint_0,t1,t2,byteE x h1,app1,app1,len1 l ((128+x % 128:Nat):Int)]
    simp only[cond_true]
    by_cases h:127<(x:Int)
    ·rw[decide_eq_true h];rfl
    ·rw[decide_eq_false h,hw h,<- len1,len1 l (x:Int)];rfl
  rw[key,natB_s]
  by_cases h:127<x
  ·rw[decide_eq_true (by omega),cond_true,if_pos h]
   have e1:(x:Int).fdiv 128=((x / 128:Nat):Int):=by rw[Int.fdiv_eq_ediv_of_nonneg _ (by omega)];rfl
   have hk:0<k:=by
    rcases Nat.eq_zero_or_pos k with e | e
    ·subst e;simp at h2;omega
    ·exact e
   rw[e1,ih (x / 128) _ j true (by omega) (by rw[Nat.pow_succ]at h2;omega) hk (by omega) (by simp;omega),List.append_assoc]
   rfl
  ·rw[decide_eq_false (by omega),cond_false,if_neg h]
theorem pint_in'(N:Nat)(l:List Int)(x:Int):callH (envP []) (N+1) F_wire_Int [.sl 1 0 0 l.length 0,.int .i64 x] [blkB l] =
 bif decide (x<0)then LP (envP []) N 1 F_wire_Int (hnK 1) 0 [] N (SIl false l (IntKind.u64.wrap ((BitVec.ofInt 64 (IntKind.u64.wrap (IntKind.u64.wrap x*2)) ^^^ BitVec.ofInt 64 18446744073709551615).toNat:Int)))
 else LP (envP []) N 1 F_wire_Int (hnK 1) 0 [] N (SIl false l (IntKind.u64.wrap (IntKind.u64.wrap x*2))):=by kernel_rfl
theorem pint_con(l:List Int)(n:Int)(hl:l.length<=890000000)(h:I64 n):Contract PG F_wire_Int (eAp encI (l,n)).1 (eAp encI (l,n)).2 (oAp intB (l,n)).1 (oAp intB (l,n)).2:=by
 obtain⟨hz,hz2⟩:=zig_nat h
 refine conP (l:=[]) ank (n:=20) ?_
 show callH (envP []) (19+1) F_wire_Int [.sl 1 0 0 l.length 0,.int .i64 n] [blkB l]=some (.sl 1 1 0 (l++intB n).length 0,[.dead,blkB (l++intB n)])
 have hp:(128:Nat) ^ 11=151115727451828646838272:=by decide
 have r:=pint_run (N:=19) 11 (zigN n) l 19 false hz2 (by omega) (by omega) (by omega) (by omega)
 rw[<- hz]at r
 rw[pint_in']
 by_cases hn:n<0
 ·rw[decide_eq_true hn,notE h hn,cond_true,r];rfl
 ·rw[decide_eq_false hn,zigE h hn,cond_false,r];rfl
def kPI5:Known:=kAp F_wire_Int 890000000 decI intB I64 encI
theorem kPI5_ok:kPI5.Ok PG:=kAp_ok fun l n hl h=>pint_con l n hl h
end Go.Kp
end
noncomputable section
open Go Go.AM Go.Md Go.Wk
namespace Go.Kp
set_option maxRecDepth 100000
set_option maxHeartbeats 400000
def byE(x:Int):Int:=IntKind.u8.wrap ((BitVec.ofInt 8 (IntKind.u8.wrap (IntKind.u64.wrap ((BitVec.ofInt 64 x &&& BitVec.ofInt 64 127).toNat:Int))) ||| BitVec.ofInt 8 128).toNat:Int)
def natK5(z:Int->List (List AV)->Option (AV × Heap)):Nat->Int->List (List AV)->Option (AV × Heap)
 | 0,x,acc=>z x acc
 | k+1,x,acc=>bif decide (127<x)then natK5 z k (x.fdiv 128) (acc++[encB (byE x)])
  else some (.sl 1 0 0 (acc++[encB (IntKind.u8.wrap x)]).length (acc++[encB (IntKind.u8.wrap x)]).length,[.arr true 1 (acc++[encB (IntKind.u8.wrap x)])])
def SIn(x:Int)(acc:List (List AV)):St:={fr:=[(0,.sl 1 0 0 acc.length acc.length),(5,.int .u64 x)],hp:=[.arr true 1 acc]}
theorem pin_in(N:Nat)(x:Int):callH (envP []) (N+12) F_wire_Int [.nils,.int .i64 x] [] =
 bif decide (x<0)then natK5 (fun x acc=>LP (envP []) (N+11) 0 F_wire_Int (hnK 0) 0 [] N (SIn x acc)) 11 (IntKind.u64.wrap ((BitVec.ofInt 64 (IntKind.u64.wrap (IntKind.u64.wrap x*2)) ^^^ BitVec.ofInt 64 18446744073709551615).toNat:Int)) []
 else natK5 (fun x acc=>LP (envP []) (N+11) 0 F_wire_Int (hnK 0) 0 [] N (SIn x acc)) 11 (IntKind.u64.wrap (IntKind.u64.wrap x*2)) []:=by kernel_rfl
theorem natK5_eq{z:Int->List (List AV)->Option (AV × Heap)}:∀ (k x:Nat) (acc:List (List AV)),x<2 ^ 64->x<128 ^ k->0<k ->
  natK5 z k (x:Int) acc=some (.sl 1 0 0 (acc++(natB k (x:Int)).map encB).length (acc++(natB k (x:Int)).map encB).length,[.arr true 1 (acc++(natB k (x:Int)).map encB)])
 | 0,x,acc,_,_,h=>by omega
 | k+1,x,acc,h0,h1,_=>by
  show(bif decide (127<(x:Int))then natK5 z k ((x:Int).fdiv 128) (acc++[encB (byE (x:Int))])else some (.sl 1 0 0 (acc++[encB (IntKind.u8.wrap (x:Int))]).length (acc++[encB (IntKind.u8.wrap (x:Int))]).length,[.arr true 1 (acc++[encB (IntKind.u8.wrap (x:Int))])]))=_
  rw[natB_s]
  by_cases h:127<x
  ·have e1:(x:Int).fdiv 128=((x / 128:Nat):Int):=by rw[Int.fdiv_eq_ediv_of_nonneg _ (by omega)];rfl
   have hk:0<k:=by
    rcases Nat.eq_zero_or_pos k with e | e
    ·subst e;simp at h1;omega
    ·exact e
   have e2:byE (x:Int)=((128+x % 128:Nat):Int):=byteE x h0
   rw[decide_eq_true (by omega),cond_true,if_pos h,e1,e2,natK5_eq k (x / 128) _ (by omega) (by rw[Nat.pow_succ]at h1;omega) hk]
   simp
  ·rw[decide_eq_false (by omega),cond_false,if_neg h,wu8 (by omega)]
   simp
theorem pin_con(n:Int)(h:I64 n):Contract PG F_wire_Int [.nils,.int .i64 n] [] (outBlk 1 encB 0 (intB n)).1 (outBlk 1 encB 0 (intB n)).2:=by
 obtain⟨hz,hz2⟩:=zig_nat h
 have hp:(128:Nat) ^ 11=151115727451828646838272:=by decide
 have key:callH (envP []) (0+12) F_wire_Int [.nils,.int .i64 n] []=some (.sl 1 0 0 (intB n).length (intB n).length,[.arr true 1 ((intB n).map encB)]):=by
  have e:=pin_in 0 n
  unfold intB
  by_cases hn:n<0
  ·rw[decide_eq_true hn,cond_true,notE h hn,hz,natK5_eq 11 _ [] hz2 (by omega) (by omega)]at e
   rw[hz]
   simpa using e
  ·rw[decide_eq_false hn,cond_false,zigE h hn,hz,natK5_eq 11 _ [] hz2 (by omega) (by omega)]at e
   rw[hz]
   simpa using e
 exact(conP (l:=[]) ank key).blkArr _ fun x=>rfl
def dI1(a:List AV):Int:=getI a 1
def eI1(n:Int):List AV:=[.nils,.int .i64 n]
def kPI0:Known:=.specB F_wire_Int dI1 I64 eI1 (fun n=>outB (ne (intB n)))
theorem kPI0_ok:kPI0.Ok PG:=Known.specB_ok fun n h=>by
 have:=pin_con n h
 show Contract PG F_wire_Int _ [] (outB (ne (intB n))).1 (outB (ne (intB n))).2
 rw[Go.Wk.ne_eq (intB_ne n)]
 exact this
def kPI:Known:=Known.two kPI0 kPI5
theorem kPI_ok:kPI.Ok PG:=Known.two_ok kPI0_ok kPI5_ok rfl
theorem pbool(l:List Int)(b:Bool):callH (envP []) 5 F_wire_Bool [.sl 1 0 0 l.length 0,.bool b] [blkB l] =
 bif b then bif l.length.beq 0||l.length.ble l.length then bif((l.length+1)*1).ble 140737488355328&&(l.length+1).ble 140737488355328 then
   some (.sl 1 1 0 (l.length+1) 0,[.dead,.seq true 1 (l.length+1) fun i=>bif i.blt l.length then encB (l.getD i 0)else bif i.blt (l.length+1)then [[AV.int IntKind.u8 1]].getD (i - l.length) []else encB (l.getD l.length 0)])else none else none
 else bif l.length.beq 0||l.length.ble l.length then bif((l.length+1)*1).ble 140737488355328&&(l.length+1).ble 140737488355328 then
   some (.sl 1 1 0 (l.length+1) 0,[.dead,.seq true 1 (l.length+1) fun i=>bif i.blt l.length then encB (l.getD i 0)else bif i.blt (l.length+1)then [[AV.int IntKind.u8 0]].getD (i - l.length) []else encB (l.getD l.length 0)])else none else none:=by kernel_rfl
def bitL(b:Bool):List Int:=[bitI b]
theorem pbool_con(l:List Int)(b:Bool)(hl:l.length<=890000000):Contract PG F_wire_Bool (eAp encBool (l,b)).1 (eAp encBool (l,b)).2 (oAp bitL (l,b)).1 (oAp bitL (l,b)).2:=by
 refine conP (l:=[]) ank (n:=5) ((pbool l b).trans ?_)
 have t1:(l.length.beq 0||l.length.ble l.length)=true:=Go.Wk.or_self _
 have t2:(((l.length+1)*1).ble 140737488355328&&(l.length+1).ble 140737488355328)=true:=roomB (by omega)
 rw[t1,t2,app1,app1]
 cases b with
 | true=>rw[len1 l 1];rfl
 | false=>rw[len1 l 0];rfl
def kPBo:Known:=kAp F_wire_Bool 890000000 decBool bitL (fun _=>True) encBool
theorem kPBo_ok:kPBo.Ok PG:=kAp_ok fun l b hl _=>pbool_con l b hl
def gW0{R:Type}(n:Int)(k:Int->Option R):Option R:=gC dI1 I64 eI1 [.nils,.int .i64 n] k
theorem gW0_eq{R:Type}{n:Int}{k:Int->Option R}(h:I64 n):gW0 n k=k n:=gC_eq n rfl h (.refl _)
def gW{R:Type}(l:List Int)(n:Int)(k:List Int × Int->Option R):Option R:=gAp5 890000000 decI I64 encI l n k
theorem gW_eq{R:Type}{l:List Int}{n:Int}{k:List Int × Int->Option R}(h:I64 n)(hl:l.length<=890000000):gW l n k=k (l,n):=gAp5_eq (fun _=>rfl) hl h
def gWB{R:Type}(l:List Int)(b:Bool)(k:List Int × Bool->Option R):Option R:=gAp5 890000000 decBool (fun _=>True) encBool l b k
theorem gWB_eq{R:Type}{l:List Int}{b:Bool}{k:List Int × Bool->Option R}(hl:l.length<=890000000):gWB l b k=k (l,b):=gAp5_eq (fun _=>rfl) hl trivial
def fnP(f:Nat):AV:=.fn (.func f) [] []
def oX(l:List Int):AV × Heap:=(.sl 1 1 0 l.length 0,[.dead,blkB l])
def SP(gv L:AV)(l:List Int)(n i:Int):St:={fr:=[(0,.sl 1 1 0 l.length 0),(2,gv),(13,L),(14,.int .i64 n),(15,.int .i64 i)],hp:=[.dead,blkB l]}
theorem plist{X:Type}{F B c:Nat}{e:X->List AV}{d:List AV->X}{z:X}{q:X->List Int}{pre:X->Prop}{gv L:AV}{ks:List Known}{L0:List X}{l:List Int}(hk:∀ k ∈ ks,k.Ok PG)(hd:∀ x,d (e x)=x)
  (hin:∀ N,callH (envP ks) (N+1) F [.sl 1 0 0 l.length 0,L,gv] [blkB l]=gW l (L0.length:Int) fun y=>LP (envP ks) N 1 F (hnK 1) 0 [] N (SP gv L (y.1++intB y.2) (L0.length:Int) 0))
  (hst:∀ N j l (i:Int),LP (envP ks) N 1 F (hnK 1) 0 [] (j+1) (SP gv L l (L0.length:Int) i)=bif decide (i<(L0.length:Int))then rg i L0.length <| gAp5 B d pre e l (L0.getD i.toNat z) fun y=>LP (envP ks) N 1 F (hnK 1) 0 [] j (SP gv L (y.1++q y.2) (L0.length:Int) (IntKind.i64.wrap (i+1)))else some (oX l))
  (hl:L0.length<=1000) (hq:∀ x ∈ L0,(q x).length<=c/\pre x) (hc:c<=100000) (hb:l.length+11+c*L0.length<=B) (hB:B<=890000000) :
  Contract PG F [.sl 1 0 0 l.length 0,L,gv] [blkB l] (oX (l++(intB L0.length++L0.flatMap q))).1 (oX (l++(intB L0.length++L0.flatMap q))).2:=by
 have hN:∃ N,N=5000:=⟨_,rfl⟩
 obtain⟨N,hN⟩:=hN
 have hi:=intB_len (L0.length:Int)
 have run:∀ d0 i j (a:List Int),i+d0=L0.length->d0<j->a.length+c*d0<=B->LP (envP ks) N 1 F (hnK 1) 0 [] j (SP gv L a (L0.length:Int) (i:Nat))=some (oX (a++(L0.drop i).flatMap q)):=by
  intro d0
  induction d0 with
  | zero=>
   intro i j a h1 h2 h3
   obtain⟨j,rfl⟩:∃ k,j=k+1:=⟨j - 1,by omega⟩
   rw[hst,decide_eq_false (by omega),cond_false,List.drop_eq_nil_of_le (by omega)];simp
  | succ d0 ih=>
   intro i j a h1 h2 h3
   obtain⟨j,rfl⟩:∃ k,j=k+1:=⟨j - 1,by omega⟩
   have hil:i<L0.length:=by omega
   have hx:=hq _ (getD_mem hil (z:=z))
   rw[Nat.mul_succ]at h3
   rw[hst,decide_eq_true (by omega),cond_true,rg_eq hil,Int.toNat_natCast,gAp5_eq hd (by omega) hx.2,wrapS (by omega)]
   simp only[]
   rw[ih (i+1) j _ (by omega) (by omega) (by rw[List.length_append];omega),drop_cons (z:=z) hil]
   simp
 refine conP hk (n:=N+1) ((hin N).trans ?_)
 rw[gW_eq (by unfold I64;omega) (by omega)]
 have r:=run L0.length 0 N (l++intB L0.length) (by omega) (by omega) (by rw[List.length_append];omega)
 rw[List.drop_zero,List.append_assoc]at r
 exact r
def kn62:List Known:=[kPI,kPBo]
theorem kn62_ok:∀ k ∈ kn62,k.Ok PG:=ak kPI_ok (ak kPBo_ok ank)
def dMem1(a:List AV):Member:=decMember (argC a 0)
def eMem1(m:Member):List AV:=[.agg (encMember m)]
theorem pmem(l:List Int)(m:Member):callH (envP kn62) 5 F_msg_putMember [AV.sl 1 0 0 l.length 0,AV.agg (encMember m)] [blkB l] =
 gW l m.node fun y0=>gW (y0.1++intB y0.2) m.boot fun y1=>some (oX (y1.1++intB y1.2)):=by kernel_rfl
theorem memB_eq(m:Member):memB m=intB m.node++intB m.boot:=by simp[memB,numsB]
theorem pmem_con(l:List Int)(m:Member)(hl:l.length<=880000000)(h:MemOk m):Contract PG F_msg_putMember (eAp eMem1 (l,m)).1 (eAp eMem1 (l,m)).2 (oAp memB (l,m)).1 (oAp memB (l,m)).2:=by
 refine conP kn62_ok (n:=5) ((pmem l m).trans ?_)
 have a0:=intB_len m.node
 rw[gW_eq h.1 (by omega)]
 simp only[]
 rw[gW_eq h.2 (by rw[List.length_append];omega)]
 simp only[]
 unfold oAp
 simp only[]
 rw[memB_eq,List.append_assoc];rfl
def kPM:Known:=kAp F_msg_putMember 880000000 dMem1 memB MemOk eMem1
theorem kPM_ok:kPM.Ok PG:=kAp_ok fun l m hl h=>pmem_con l m hl h
def kn63:List Known:=[kPI,kPM]
theorem kn63_ok:∀ k ∈ kn63,k.Ok PG:=ak kPI_ok (ak kPM_ok ank)
theorem plm_in(N:Nat)(l:List Int)(ms:List Member):callH (envP kn63) (N+1) F_msg_putList_api_Member [.sl 1 0 0 l.length 0,encMembers ms,fnP F_msg_putMember] [blkB l]=gW l (ms.length:Int) fun y=>LP (envP kn63) N 1 F_msg_putList_api_Member (hnK 1) 0 [] N (SP (fnP F_msg_putMember) (encMembers ms) (y.1++intB y.2) (ms.length:Int) 0):=by kernel_rfl
theorem plm_st(N j:Nat)(l:List Int)(ms:List Member)(n i:Int):LP (envP kn63) N 1 F_msg_putList_api_Member (hnK 1) 0 [] (j+1) (SP (fnP F_msg_putMember) (encMembers ms) l n i) =
 bif decide (i<n)then rg i ms.length <| gAp5 880000000 dMem1 MemOk eMem1 l (ms.getD i.toNat default) fun y=>LP (envP kn63) N 1 F_msg_putList_api_Member (hnK 1) 0 [] j (SP (fnP F_msg_putMember) (encMembers ms) (y.1++memB y.2) n (IntKind.i64.wrap (i+1)))else some (oX l):=by kernel_rfl
def dMems1(a:List AV):List Member:=decL decMember (a.getD 0 .nils)
def eMems1(l:List Member):List AV:=[encMembers l,fnP F_msg_putMember]
theorem memB_len(m:Member):(memB m).length<=22:=numsB_len [m.node,m.boot]
theorem plm_con(l:List Int)(ms:List Member)(hl:l.length<=870000000)(h:MemsOk ms):Contract PG F_msg_putList_api_Member (eAp eMems1 (l,ms)).1 (eAp eMems1 (l,ms)).2 (oAp memsB (l,ms)).1 (oAp memsB (l,ms)).2:=
 plist (L0:=ms) (l:=l) (L:=encMembers ms) (gv:=fnP F_msg_putMember) (z:=default) (q:=memB) (pre:=MemOk) (d:=dMem1) (e:=eMem1) (B:=880000000) kn63_ok (fun m=>dec_encMember m) (fun N=>plm_in N l ms) (fun N j l i=>plm_st N j l ms (ms.length:Int) i) h.1 (c:=22) (fun x hx=>⟨memB_len x,h.2 x hx⟩) (by omega) (by have:=h.1;omega) (by omega)
def kPLM:Known:=kAp F_msg_putList_api_Member 870000000 dMems1 memsB MemsOk eMems1
theorem kPLM_ok:kPLM.Ok PG:=kAp_ok fun l m hl h=>plm_con l m hl h
def kn64:List Known:=[kPI,kPLM]
theorem kn64_ok:∀ k ∈ kn64,k.Ok PG:=ak kPI_ok (ak kPLM_ok ank)
def gPM{R:Type}(l:List Int)(m:List Member)(k:List Int × List Member->Option R):Option R:=gAp5 870000000 dMems1 MemsOk eMems1 l m k
theorem gPM_eq{R:Type}{l:List Int}{m:List Member}{k:List Int × List Member->Option R}(hl:l.length<=870000000)(h:MemsOk m):gPM l m k=k (l,m):=gAp5_eq (fun l=>decMembers l) hl h
def dView1(a:List AV):Md.View:=decView (argC a 0)
def eView1(m:Md.View):List AV:=[.agg (encView m)]
theorem pview(l:List Int)(v:Md.View):callH (envP kn64) 5 F_msg_putView [AV.sl 1 0 0 l.length 0,AV.agg (encView v)] [blkB l] =
 gW l v.shard fun y0=>gW (y0.1++intB y0.2) v.epoch fun y0=>gW (y0.1++intB y0.2) v.gen fun y0=>gW (y0.1++intB y0.2) v.phase fun y1=>gPM (y1.1++intB y1.2) v.chain fun y2=>some (oX (y2.1++memsB y2.2)):=by kernel_rfl
theorem viewB_eq(v:Md.View):viewB v=intB v.shard++(intB v.epoch++(intB v.gen++(intB v.phase++memsB v.chain))):=by simp[viewB,numsB]
theorem pview_con(l:List Int)(v:Md.View)(hl:l.length<=860000000)(h:ViewOk v):Contract PG F_msg_putView (eAp eView1 (l,v)).1 (eAp eView1 (l,v)).2 (oAp viewB (l,v)).1 (oAp viewB (l,v)).2:=by
 refine conP kn64_ok (n:=5) ((pview l v).trans ?_)
 have a0:=intB_len v.shard
 have a1:=intB_len v.epoch
 have a2:=intB_len v.gen
 have a3:=intB_len v.phase
 obtain⟨h1,h2,h3,h4,h5⟩:=h
 rw[gW_eq h1 (by omega)]
 simp only[]
 rw[gW_eq h2 (by simp only[List.length_append];omega)]
 simp only[]
 rw[gW_eq h3 (by simp only[List.length_append];omega)]
 simp only[]
 rw[gW_eq h4 (by simp only[List.length_append];omega)]
 simp only[]
 rw[gPM_eq (by simp only[List.length_append];omega) h5]
 simp only[]
 unfold oAp
 simp only[]
 rw[viewB_eq]
 simp only[List.append_assoc]
 rfl
def kPV:Known:=kAp F_msg_putView 860000000 dView1 viewB ViewOk eView1
theorem kPV_ok:kPV.Ok PG:=kAp_ok fun l m hl h=>pview_con l m hl h
def kn65:List Known:=[kPI,kPV]
theorem kn65_ok:∀ k ∈ kn65,k.Ok PG:=ak kPI_ok (ak kPV_ok ank)
theorem plv_in(N:Nat)(l:List Int)(ms:List Md.View):callH (envP kn65) (N+1) F_msg_putList_api_View [.sl 1 0 0 l.length 0,encViews ms,fnP F_msg_putView] [blkB l]=gW l (ms.length:Int) fun y=>LP (envP kn65) N 1 F_msg_putList_api_View (hnK 1) 0 [] N (SP (fnP F_msg_putView) (encViews ms) (y.1++intB y.2) (ms.length:Int) 0):=by kernel_rfl
theorem plv_st(N j:Nat)(l:List Int)(ms:List Md.View)(n i:Int):LP (envP kn65) N 1 F_msg_putList_api_View (hnK 1) 0 [] (j+1) (SP (fnP F_msg_putView) (encViews ms) l n i) =
 bif decide (i<n)then rg i ms.length <| gAp5 860000000 dView1 ViewOk eView1 l (ms.getD i.toNat default) fun y=>LP (envP kn65) N 1 F_msg_putList_api_View (hnK 1) 0 [] j (SP (fnP F_msg_putView) (encViews ms) (y.1++viewB y.2) n (IntKind.i64.wrap (i+1)))else some (oX l):=by kernel_rfl
def dViews1(a:List AV):List Md.View:=decL decView (a.getD 0 .nils)
def eViews1(l:List Md.View):List AV:=[encViews l,fnP F_msg_putView]
theorem plv_con(l:List Int)(ms:List Md.View)(hl:l.length<=400000000)(h:ViewsOk ms):Contract PG F_msg_putList_api_View (eAp eViews1 (l,ms)).1 (eAp eViews1 (l,ms)).2 (oAp viewsB (l,ms)).1 (oAp viewsB (l,ms)).2:=
 plist (L0:=ms) (l:=l) (L:=encViews ms) (gv:=fnP F_msg_putView) (z:=default) (q:=viewB) (pre:=ViewOk) (d:=dView1) (e:=eView1) (B:=860000000) kn65_ok (fun m=>dec_encView m) (fun N=>plv_in N l ms) (fun N j l i=>plv_st N j l ms (ms.length:Int) i) h.1 (c:=23000) (fun x hx=>⟨viewB_len (h.2 x hx),h.2 x hx⟩) (by omega) (by have:=h.1;omega) (by omega)
def kPLV:Known:=kAp F_msg_putList_api_View 400000000 dViews1 viewsB ViewsOk eViews1
theorem kPLV_ok:kPLV.Ok PG:=kAp_ok fun l m hl h=>plv_con l m hl h
def gPV{R:Type}(l:List Int)(m:List Md.View)(k:List Int × List Md.View->Option R):Option R:=gAp5 400000000 dViews1 ViewsOk eViews1 l m k
theorem gPV_eq{R:Type}{l:List Int}{m:List Md.View}{k:List Int × List Md.View->Option R}(hl:l.length<=400000000)(h:ViewsOk m):gPV l m k=k (l,m):=gAp5_eq (fun l=>decViews l) hl h
def rmT{R:Type}(l:List Int)(k:Option R):Option R:=bif l.length.beq 0||l.length.ble l.length then bif(l.length*1).ble 140737488355328&&l.length.ble 140737488355328 then k else none else none
theorem rmT_eq{R:Type}{l:List Int}{k:Option R}(h:l.length<=900000000):rmT l k=k:=by
 unfold rmT
 have e:=roomB (a:=l.length) (b:=0) (by omega)
 simp only[Nat.add_zero]at e
 rw[Go.Wk.or_self,e];rfl
def dU(_:List AV):Unit:=()
def kn66:List Known:=[kPI,kPBo]
theorem kn66_ok:∀ k ∈ kn66,k.Ok PG:=ak kPI_ok (ak kPBo_ok ank)
def gU{R:Type}(B:Nat)(a:List AV)(l:List Int)(k:List Int × Unit->Option R):Option R:=gAp5 B dU (fun _=>True) (fun _=>a) l () k
theorem gU_eq{R:Type}{B:Nat}{a:List AV}{l:List Int}{k:List Int × Unit->Option R}(hl:l.length<=B):gU B a l k=k (l,()):=gAp5_eq (fun _=>rfl) hl trivial
def kU(F B:Nat)(a:List AV)(q:List Int):Known:=kAp F B dU (fun _=>q) (fun _=>True) (fun _=>a)
theorem kU_ok{F B:Nat}{a:List AV}{q:List Int}(h:∀ l:List Int,l.length<=B->Contract PG F (.sl 1 0 0 l.length 0::a) [blkB l] (oX (l++q)).1 (oX (l++q)).2):(kU F B a q).Ok PG:=kAp_ok fun l _ hl _=>h l hl
def opA:AV:=.agg [.int .i64 0,.str [],.str [],.str [],.bool false]
def imA:AV:=.agg [.cplx .f64 0 0,.cplx .f64 0 0,.int .i64 0,encEntrys [],encSeens []]
theorem pt0_eq(l:List Int):callH (envP kn66) 9 F_wire_Text [.sl 1 0 0 l.length 0,.str []] [blkB l]=gW l 0 fun y=>rmT (y.1++intB y.2) <| some (oX (y.1++intB y.2)):=by kernel_rfl
theorem pt0_con(l:List Int)(hl:l.length<=870000000):Contract PG F_wire_Text [.sl 1 0 0 l.length 0,.str []] [blkB l] (oX (l++intB 0)).1 (oX (l++intB 0)).2:=by
 refine conP kn66_ok (n:=9) ((pt0_eq l).trans ?_)
 have a0:=intB_len 0
 rw[gW_eq i0 (by(try simp only[List.length_append,List.length_cons,List.length_nil]);omega),rmT_eq (by(try simp only[List.length_append,List.length_cons,List.length_nil]);omega)]
 try simp only[]
 try simp only[List.append_assoc,List.cons_append,List.nil_append,List.append_nil]
theorem pv0_eq(l:List Int):callH (envP kn66) 9 F_wire_Ver [.sl 1 0 0 l.length 0,.cplx .f64 0 0] [blkB l]=gW l 0 fun y=>gW (y.1++intB y.2) 0 fun y=>some (oX (y.1++intB y.2)):=by kernel_rfl
theorem pv0_con(l:List Int)(hl:l.length<=870000000):Contract PG F_wire_Ver [.sl 1 0 0 l.length 0,.cplx .f64 0 0] [blkB l] (oX (l++(intB 0++intB 0))).1 (oX (l++(intB 0++intB 0))).2:=by
 refine conP kn66_ok (n:=9) ((pv0_eq l).trans ?_)
 have a0:=intB_len 0
 rw[gW_eq i0 (by(try simp only[List.length_append,List.length_cons,List.length_nil]);omega)]
 try simp only[]
 rw[gW_eq i0 (by(try simp only[List.length_append,List.length_cons,List.length_nil]);omega)]
 try simp only[]
 try simp only[List.append_assoc,List.cons_append,List.nil_append,List.append_nil]
theorem pop0_eq(l:List Int):callH (envP kn66) 9 F_entry_PutOp [.sl 1 0 0 l.length 0,opA] [blkB l]=gW l 0 fun y=>gW (y.1++intB y.2) 0 fun y=>rmT (y.1++intB y.2) <| gW (y.1++intB y.2) 0 fun y=>rmT (y.1++intB y.2) <| gW (y.1++intB y.2) 0 fun y=>rmT (y.1++intB y.2) <| gWB (y.1++intB y.2) false fun y=>some (oX (y.1++[bitI y.2])):=by kernel_rfl
theorem pop0_con(l:List Int)(hl:l.length<=870000000):Contract PG F_entry_PutOp [.sl 1 0 0 l.length 0,opA] [blkB l] (oX (l++(intB 0++(intB 0++(intB 0++(intB 0++[bitI false])))))).1 (oX (l++(intB 0++(intB 0++(intB 0++(intB 0++[bitI false])))))).2:=by
 refine conP kn66_ok (n:=9) ((pop0_eq l).trans ?_)
 have a0:=intB_len 0
 rw[gW_eq i0 (by(try simp only[List.length_append,List.length_cons,List.length_nil]);omega)]
 try simp only[]
 rw[gW_eq i0 (by(try simp only[List.length_append,List.length_cons,List.length_nil]);omega),rmT_eq (by(try simp only[List.length_append,List.length_cons,List.length_nil]);omega)]
 try simp only[]
 rw[gW_eq i0 (by(try simp only[List.length_append,List.length_cons,List.length_nil]);omega),rmT_eq (by(try simp only[List.length_append,List.length_cons,List.length_nil]);omega)]
 try simp only[]
 rw[gW_eq i0 (by(try simp only[List.length_append,List.length_cons,List.length_nil]);omega),rmT_eq (by(try simp only[List.length_append,List.length_cons,List.length_nil]);omega)]
 try simp only[]
 rw[gWB_eq (by(try simp only[List.length_append,List.length_cons,List.length_nil]);omega)]
 try simp only[]
 try simp only[List.append_assoc,List.cons_append,List.nil_append,List.append_nil]
theorem pen0_eq(l:List Int):callH (envP kn66) 9 F_msg_putList_api_Entry [.sl 1 0 0 l.length 0,encEntrys [],fnP F_entry_Put] [blkB l]=gW l 0 fun y=>some (oX (y.1++intB y.2)):=by kernel_rfl
theorem pen0_con(l:List Int)(hl:l.length<=870000000):Contract PG F_msg_putList_api_Entry [.sl 1 0 0 l.length 0,encEntrys [],fnP F_entry_Put] [blkB l] (oX (l++intB 0)).1 (oX (l++intB 0)).2:=by
 refine conP kn66_ok (n:=9) ((pen0_eq l).trans ?_)
 have a0:=intB_len 0
 rw[gW_eq i0 (by(try simp only[List.length_append,List.length_cons,List.length_nil]);omega)]
 try simp only[]
 try simp only[List.append_assoc,List.cons_append,List.nil_append,List.append_nil]
theorem pmn0_eq(l:List Int):callH (envP kn66) 9 F_msg_putList_api_Member [.sl 1 0 0 l.length 0,encMembers [],fnP F_msg_putMember] [blkB l]=gW l 0 fun y=>some (oX (y.1++intB y.2)):=by kernel_rfl
theorem pmn0_con(l:List Int)(hl:l.length<=870000000):Contract PG F_msg_putList_api_Member [.sl 1 0 0 l.length 0,encMembers [],fnP F_msg_putMember] [blkB l] (oX (l++intB 0)).1 (oX (l++intB 0)).2:=by
 refine conP kn66_ok (n:=9) ((pmn0_eq l).trans ?_)
 have a0:=intB_len 0
 rw[gW_eq i0 (by(try simp only[List.length_append,List.length_cons,List.length_nil]);omega)]
 try simp only[]
 try simp only[List.append_assoc,List.cons_append,List.nil_append,List.append_nil]
theorem psn0_eq(l:List Int):callH (envP kn66) 9 F_msg_putList_api_Seen [.sl 1 0 0 l.length 0,encSeens [],fnP F_msg_putSeen] [blkB l]=gW l 0 fun y=>some (oX (y.1++intB y.2)):=by kernel_rfl
theorem psn0_con(l:List Int)(hl:l.length<=870000000):Contract PG F_msg_putList_api_Seen [.sl 1 0 0 l.length 0,encSeens [],fnP F_msg_putSeen] [blkB l] (oX (l++intB 0)).1 (oX (l++intB 0)).2:=by
 refine conP kn66_ok (n:=9) ((psn0_eq l).trans ?_)
 have a0:=intB_len 0
 rw[gW_eq i0 (by(try simp only[List.length_append,List.length_cons,List.length_nil]);omega)]
 try simp only[]
 try simp only[List.append_assoc,List.cons_append,List.nil_append,List.append_nil]
def kEn0:Known:=kU F_msg_putList_api_Entry 870000000 [encEntrys [],fnP F_entry_Put] (intB 0)
def kMn0:Known:=kU F_msg_putList_api_Member 870000000 [encMembers [],fnP F_msg_putMember] (intB 0)
def kSn0:Known:=kU F_msg_putList_api_Seen 870000000 [encSeens [],fnP F_msg_putSeen] (intB 0)
def kV0:Known:=kU F_wire_Ver 870000000 [.cplx .f64 0 0] (intB 0++intB 0)
def kn66i:List Known:=[kPI,kV0,kEn0,kSn0]
theorem kn66i_ok:∀ k ∈ kn66i,k.Ok PG:=ak kPI_ok (ak (kU_ok pv0_con) (ak (kU_ok pen0_con) (ak (kU_ok psn0_con) ank)))
theorem pim0_eq(l:List Int):callH (envP kn66i) 9 F_msg_putImage [.sl 1 0 0 l.length 0,imA] [blkB l]=gU 870000000 [.cplx .f64 0 0] l fun y=>gU 870000000 [.cplx .f64 0 0] (y.1++(intB 0++intB 0)) fun y=>gW (y.1++(intB 0++intB 0)) 0 fun y=>gU 870000000 [encEntrys [],fnP F_entry_Put] (y.1++intB y.2) fun y=>gU 870000000 [encSeens [],fnP F_msg_putSeen] (y.1++intB 0) fun y=>some (oX (y.1++intB 0)):=by kernel_rfl
theorem pim0_con(l:List Int)(hl:l.length<=860000000):Contract PG F_msg_putImage [.sl 1 0 0 l.length 0,imA] [blkB l] (oX (l++(intB 0++(intB 0++(intB 0++(intB 0++(intB 0++(intB 0++intB 0)))))))).1 (oX (l++(intB 0++(intB 0++(intB 0++(intB 0++(intB 0++(intB 0++intB 0)))))))).2:=by
 refine conP kn66i_ok (n:=9) ((pim0_eq l).trans ?_)
 have a0:=intB_len 0
 rw[gU_eq (by(try simp only[List.length_append,List.length_cons,List.length_nil]);omega)]
 try simp only[]
 rw[gU_eq (by(try simp only[List.length_append,List.length_cons,List.length_nil]);omega)]
 try simp only[]
 rw[gW_eq i0 (by(try simp only[List.length_append,List.length_cons,List.length_nil]);omega)]
 try simp only[]
 rw[gU_eq (by(try simp only[List.length_append,List.length_cons,List.length_nil]);omega)]
 try simp only[]
 rw[gU_eq (by(try simp only[List.length_append,List.length_cons,List.length_nil]);omega)]
 try simp only[]
 try simp only[List.append_assoc,List.cons_append,List.nil_append,List.append_nil]
def kn67:List Known:=[kPI,kPBo,kPLV,kU F_wire_Text 870000000 [.str []] (intB 0),kU F_wire_Ver 870000000 [.cplx .f64 0 0] (intB 0++intB 0),kU F_entry_PutOp 870000000 [opA] (intB 0++(intB 0++(intB 0++(intB 0++[bitI false])))),kU F_msg_putImage 860000000 [imA] (intB 0++(intB 0++(intB 0++(intB 0++(intB 0++(intB 0++intB 0)))))),kEn0,kMn0]
theorem kn67_ok:∀ k ∈ kn67,k.Ok PG:=ak kPI_ok (ak kPBo_ok (ak kPLV_ok (ak (kU_ok pt0_con) (ak (kU_ok pv0_con) (ak (kU_ok pop0_con) (ak (kU_ok pim0_con) (ak (kU_ok pen0_con) (ak (kU_ok pmn0_con) ank))))))))
def arrM(e g:Int):List AV:=[.int .i64 4,.int .i64 0,.int .i64 0,.int .i64 0,.int .i64 0,.int .i64 0,.int .i64 0,.int .i64 g,.int .i64 e,.int .i64 0,.int .i64 0,.int .i64 0]
def SM0(e g:Int)(vs:List Md.View):St:={fr:=[(1,.ptr 0 0 0),(3,.nils),(30,.agg (arrM e g)),(31,.int .i64 0)],hp:=[.arr true 31 [encMsg (mkM e g vs)]]}
def SMs(e g:Int)(vs:List Md.View)(l:List Int)(i:Int):St:={fr:=[(1,.ptr 0 0 0),(3,.sl 1 1 0 l.length 0),(30,.agg (arrM e g)),(31,.int .i64 i)],hp:=[.arr true 31 [encMsg (mkM e g vs)],blkB l]}
theorem pmsg_in(N:Nat)(e g:Int)(vs:List Md.View):callT (envP kn67) (N+1) F_msg_Put [AV.agg (encMsg (mkM e g vs))]=LP (envP kn67) N 0 F_msg_Put snK 0 [] N (SM0 e g vs):=by kernel_rfl
theorem pmsg_0(N j:Nat)(e g:Int)(vs:List Md.View):LP (envP kn67) N 0 F_msg_Put snK 0 [] (j+1) (SM0 e g vs)=gW0 4 fun y=>LP (envP kn67) N 0 F_msg_Put snK 0 [] j (SMs e g vs (ne (intB y)) 1):=by kernel_rfl
theorem pmsg_1(N j:Nat)(e g:Int)(vs:List Md.View)(l:List Int):LP (envP kn67) N 0 F_msg_Put snK 0 [] (j+1) (SMs e g vs l 1)=gW l 0 fun y=>LP (envP kn67) N 0 F_msg_Put snK 0 [] j (SMs e g vs (y.1++intB y.2) 2):=by kernel_rfl
theorem pmsg_2(N j:Nat)(e g:Int)(vs:List Md.View)(l:List Int):LP (envP kn67) N 0 F_msg_Put snK 0 [] (j+1) (SMs e g vs l 2)=gW l 0 fun y=>LP (envP kn67) N 0 F_msg_Put snK 0 [] j (SMs e g vs (y.1++intB y.2) 3):=by kernel_rfl
theorem pmsg_3(N j:Nat)(e g:Int)(vs:List Md.View)(l:List Int):LP (envP kn67) N 0 F_msg_Put snK 0 [] (j+1) (SMs e g vs l 3)=gW l 0 fun y=>LP (envP kn67) N 0 F_msg_Put snK 0 [] j (SMs e g vs (y.1++intB y.2) 4):=by kernel_rfl
theorem pmsg_4(N j:Nat)(e g:Int)(vs:List Md.View)(l:List Int):LP (envP kn67) N 0 F_msg_Put snK 0 [] (j+1) (SMs e g vs l 4)=gW l 0 fun y=>LP (envP kn67) N 0 F_msg_Put snK 0 [] j (SMs e g vs (y.1++intB y.2) 5):=by kernel_rfl
theorem pmsg_5(N j:Nat)(e g:Int)(vs:List Md.View)(l:List Int):LP (envP kn67) N 0 F_msg_Put snK 0 [] (j+1) (SMs e g vs l 5)=gW l 0 fun y=>LP (envP kn67) N 0 F_msg_Put snK 0 [] j (SMs e g vs (y.1++intB y.2) 6):=by kernel_rfl
theorem pmsg_6(N j:Nat)(e g:Int)(vs:List Md.View)(l:List Int):LP (envP kn67) N 0 F_msg_Put snK 0 [] (j+1) (SMs e g vs l 6)=gW l 0 fun y=>LP (envP kn67) N 0 F_msg_Put snK 0 [] j (SMs e g vs (y.1++intB y.2) 7):=by kernel_rfl
theorem pmsg_7(N j:Nat)(e g:Int)(vs:List Md.View)(l:List Int):LP (envP kn67) N 0 F_msg_Put snK 0 [] (j+1) (SMs e g vs l 7)=gW l g fun y=>LP (envP kn67) N 0 F_msg_Put snK 0 [] j (SMs e g vs (y.1++intB y.2) 8):=by kernel_rfl
theorem pmsg_8(N j:Nat)(e g:Int)(vs:List Md.View)(l:List Int):LP (envP kn67) N 0 F_msg_Put snK 0 [] (j+1) (SMs e g vs l 8)=gW l e fun y=>LP (envP kn67) N 0 F_msg_Put snK 0 [] j (SMs e g vs (y.1++intB y.2) 9):=by kernel_rfl
theorem pmsg_9(N j:Nat)(e g:Int)(vs:List Md.View)(l:List Int):LP (envP kn67) N 0 F_msg_Put snK 0 [] (j+1) (SMs e g vs l 9)=gW l 0 fun y=>LP (envP kn67) N 0 F_msg_Put snK 0 [] j (SMs e g vs (y.1++intB y.2) 10):=by kernel_rfl
theorem pmsg_10(N j:Nat)(e g:Int)(vs:List Md.View)(l:List Int):LP (envP kn67) N 0 F_msg_Put snK 0 [] (j+1) (SMs e g vs l 10)=gW l 0 fun y=>LP (envP kn67) N 0 F_msg_Put snK 0 [] j (SMs e g vs (y.1++intB y.2) 11):=by kernel_rfl
theorem pmsg_11(N j:Nat)(e g:Int)(vs:List Md.View)(l:List Int):LP (envP kn67) N 0 F_msg_Put snK 0 [] (j+1) (SMs e g vs l 11)=gW l 0 fun y=>LP (envP kn67) N 0 F_msg_Put snK 0 [] j (SMs e g vs (y.1++intB y.2) 12):=by kernel_rfl
def EV(N:Nat)(c:Code)(K:AX->St->Option AV)(S:St):Option AV:=evC1 (envP kn67) (evFn (envP kn67) (N+9)) F_msg_Put (ntOf (envP kn67) F_msg_Put) (N+9) 0 (jumpK (envP kn67) (evFn (envP kn67) (N+9)) F_msg_Put (ntOf (envP kn67) F_msg_Put) (N+9) 0 (N+9)) 0 c K S
def BD(n:Nat):Code:=sub (bodyOf (envP kn67) F_msg_Put) (List.replicate n .R)
def STm(n:Nat):Code:=sub (BD n) [.L]
theorem EV_seq(N:Nat)(a b:Code)(K:AX->St->Option AV)(S:St):EV N (.seq a b) K S=EV N a (fun e s'=>match e with
 | .normal=>EV N b K s'
 | e=>K e s') S:=rfl
def upd(o:Nat->Nat)(k n:Nat):Nat->Nat:=fun i=>bif Nat.beq i k then n else o i
def SQ0(e g:Int)(vs:List Md.View)(l:List Int)(o:Nat->Nat):St:={fr:=[(32,AV.bool false),(1,AV.ptr 0 0 0),(3,AV.sl 1 1 0 l.length 0),(30,AV.agg (arrM e g)),(31,AV.int IntKind.i64 12)],hp:=[BS.arr true 31 [encMsg (mkM e g vs)],blkB l]}
def SQ1(e g:Int)(vs:List Md.View)(l:List Int)(o:Nat->Nat):St:={fr:=[(3,AV.sl 1 2 0 l.length 0),(41,AV.sl 1 2 0 l.length 0),(40,AV.bool false),(39,AV.ptr 0 0 12),(38,AV.sl 1 1 0 (o 0) 0),(32,AV.bool false),(1,AV.ptr 0 0 0),(3,AV.sl 1 1 0 (o 0) 0),(30,AV.agg (arrM e g)),(31,AV.int IntKind.i64 12)],hp:=[BS.arr true 31 [encMsg (mkM e g vs)],BS.dead,BS.seq true 1 l.length fun i=>encB (l.getD i 0)]}
def SQ2(e g:Int)(vs:List Md.View)(l:List Int)(o:Nat->Nat):St:={fr:=[(3,AV.sl 1 3 0 l.length 0),(45,AV.sl 1 3 0 l.length 0),(44,AV.bool false),(43,AV.ptr 0 0 13),(42,AV.sl 1 2 0 (o 1) 0),(3,AV.sl 1 2 0 (o 1) 0),(41,AV.sl 1 2 0 (o 1) 0),(40,AV.bool false),(39,AV.ptr 0 0 12),(38,AV.sl 1 1 0 (o 0) 0),(32,AV.bool false),(1,AV.ptr 0 0 0),(3,AV.sl 1 1 0 (o 0) 0),(30,AV.agg (arrM e g)),(31,AV.int IntKind.i64 12)],hp:=[BS.arr true 31 [encMsg (mkM e g vs)],BS.dead,BS.dead,BS.seq true 1 l.length fun i=>encB (l.getD i 0)]}
def SQ3(e g:Int)(vs:List Md.View)(l:List Int)(o:Nat->Nat):St:={fr:=[(3,AV.sl 1 4 0 l.length 0),(49,AV.sl 1 4 0 l.length 0),(48,AV.str []),(47,AV.ptr 0 0 14),(46,AV.sl 1 3 0 (o 2) 0),(3,AV.sl 1 3 0 (o 2) 0),(45,AV.sl 1 3 0 (o 2) 0),(44,AV.bool false),(43,AV.ptr 0 0 13),(42,AV.sl 1 2 0 (o 1) 0),(3,AV.sl 1 2 0 (o 1) 0),(41,AV.sl 1 2 0 (o 1) 0),(40,AV.bool false),(39,AV.ptr 0 0 12),(38,AV.sl 1 1 0 (o 0) 0),(32,AV.bool false),(1,AV.ptr 0 0 0),(3,AV.sl 1 1 0 (o 0) 0),(30,AV.agg (arrM e g)),(31,AV.int IntKind.i64 12)],hp:=[BS.arr true 31 [encMsg (mkM e g vs)],BS.dead,BS.dead,BS.dead,BS.seq true 1 l.length fun i=>encB (l.getD i 0)]}
def SQ4(e g:Int)(vs:List Md.View)(l:List Int)(o:Nat->Nat):St:={fr:=[(3,AV.sl 1 5 0 l.length 0),(53,AV.sl 1 5 0 l.length 0),(52,AV.str []),(51,AV.ptr 0 0 15),(50,AV.sl 1 4 0 (o 3) 0),(3,AV.sl 1 4 0 (o 3) 0),(49,AV.sl 1 4 0 (o 3) 0),(48,AV.str []),(47,AV.ptr 0 0 14),(46,AV.sl 1 3 0 (o 2) 0),(3,AV.sl 1 3 0 (o 2) 0),(45,AV.sl 1 3 0 (o 2) 0),(44,AV.bool false),(43,AV.ptr 0 0 13),(42,AV.sl 1 2 0 (o 1) 0),(3,AV.sl 1 2 0 (o 1) 0),(41,AV.sl 1 2 0 (o 1) 0),(40,AV.bool false),(39,AV.ptr 0 0 12),(38,AV.sl 1 1 0 (o 0) 0),(32,AV.bool false),(1,AV.ptr 0 0 0),(3,AV.sl 1 1 0 (o 0) 0),(30,AV.agg (arrM e g)),(31,AV.int IntKind.i64 12)],hp:=[BS.arr true 31 [encMsg (mkM e g vs)],BS.dead,BS.dead,BS.dead,BS.dead,BS.seq true 1 l.length fun i=>encB (l.getD i 0)]}
def SQ5(e g:Int)(vs:List Md.View)(l:List Int)(o:Nat->Nat):St:={fr:=[(3,AV.sl 1 6 0 l.length 0),(57,AV.sl 1 6 0 l.length 0),(56,AV.cplx FloatKind.f64 0 0),(55,AV.ptr 0 0 16),(54,AV.sl 1 5 0 (o 4) 0),(3,AV.sl 1 5 0 (o 4) 0),(53,AV.sl 1 5 0 (o 4) 0),(52,AV.str []),(51,AV.ptr 0 0 15),(50,AV.sl 1 4 0 (o 3) 0),(3,AV.sl 1 4 0 (o 3) 0),(49,AV.sl 1 4 0 (o 3) 0),(48,AV.str []),(47,AV.ptr 0 0 14),(46,AV.sl 1 3 0 (o 2) 0),(3,AV.sl 1 3 0 (o 2) 0),(45,AV.sl 1 3 0 (o 2) 0),(44,AV.bool false),(43,AV.ptr 0 0 13),(42,AV.sl 1 2 0 (o 1) 0),(3,AV.sl 1 2 0 (o 1) 0),(41,AV.sl 1 2 0 (o 1) 0),(40,AV.bool false),(39,AV.ptr 0 0 12),(38,AV.sl 1 1 0 (o 0) 0),(32,AV.bool false),(1,AV.ptr 0 0 0),(3,AV.sl 1 1 0 (o 0) 0),(30,AV.agg (arrM e g)),(31,AV.int IntKind.i64 12)],hp:=[BS.arr true 31 [encMsg (mkM e g vs)],BS.dead,BS.dead,BS.dead,BS.dead,BS.dead,BS.seq true 1 l.length fun i=>encB (l.getD i 0)]}
def SQ6(e g:Int)(vs:List Md.View)(l:List Int)(o:Nat->Nat):St:={fr:=[(3,AV.sl 1 7 0 l.length 0),(61,AV.sl 1 7 0 l.length 0),(60,AV.cplx FloatKind.f64 0 0),(59,AV.ptr 0 0 17),(58,AV.sl 1 6 0 (o 5) 0),(3,AV.sl 1 6 0 (o 5) 0),(57,AV.sl 1 6 0 (o 5) 0),(56,AV.cplx FloatKind.f64 0 0),(55,AV.ptr 0 0 16),(54,AV.sl 1 5 0 (o 4) 0),(3,AV.sl 1 5 0 (o 4) 0),(53,AV.sl 1 5 0 (o 4) 0),(52,AV.str []),(51,AV.ptr 0 0 15),(50,AV.sl 1 4 0 (o 3) 0),(3,AV.sl 1 4 0 (o 3) 0),(49,AV.sl 1 4 0 (o 3) 0),(48,AV.str []),(47,AV.ptr 0 0 14),(46,AV.sl 1 3 0 (o 2) 0),(3,AV.sl 1 3 0 (o 2) 0),(45,AV.sl 1 3 0 (o 2) 0),(44,AV.bool false),(43,AV.ptr 0 0 13),(42,AV.sl 1 2 0 (o 1) 0),(3,AV.sl 1 2 0 (o 1) 0),(41,AV.sl 1 2 0 (o 1) 0),(40,AV.bool false),(39,AV.ptr 0 0 12),(38,AV.sl 1 1 0 (o 0) 0),(32,AV.bool false),(1,AV.ptr 0 0 0),(3,AV.sl 1 1 0 (o 0) 0),(30,AV.agg (arrM e g)),(31,AV.int IntKind.i64 12)],hp:=[BS.arr true 31 [encMsg (mkM e g vs)],BS.dead,BS.dead,BS.dead,BS.dead,BS.dead,BS.dead,BS.seq true 1 l.length fun i=>encB (l.getD i 0)]}
def SQ7(e g:Int)(vs:List Md.View)(l:List Int)(o:Nat->Nat):St:={fr:=[(3,AV.sl 1 8 0 l.length 0),(65,AV.sl 1 8 0 l.length 0),(64,AV.agg [AV.int IntKind.i64 0,AV.str [],AV.str [],AV.str [],AV.bool false]),(63,AV.ptr 0 0 18),(62,AV.sl 1 7 0 (o 6) 0),(3,AV.sl 1 7 0 (o 6) 0),(61,AV.sl 1 7 0 (o 6) 0),(60,AV.cplx FloatKind.f64 0 0),(59,AV.ptr 0 0 17),(58,AV.sl 1 6 0 (o 5) 0),(3,AV.sl 1 6 0 (o 5) 0),(57,AV.sl 1 6 0 (o 5) 0),(56,AV.cplx FloatKind.f64 0 0),(55,AV.ptr 0 0 16),(54,AV.sl 1 5 0 (o 4) 0),(3,AV.sl 1 5 0 (o 4) 0),(53,AV.sl 1 5 0 (o 4) 0),(52,AV.str []),(51,AV.ptr 0 0 15),(50,AV.sl 1 4 0 (o 3) 0),(3,AV.sl 1 4 0 (o 3) 0),(49,AV.sl 1 4 0 (o 3) 0),(48,AV.str []),(47,AV.ptr 0 0 14),(46,AV.sl 1 3 0 (o 2) 0),(3,AV.sl 1 3 0 (o 2) 0),(45,AV.sl 1 3 0 (o 2) 0),(44,AV.bool false),(43,AV.ptr 0 0 13),(42,AV.sl 1 2 0 (o 1) 0),(3,AV.sl 1 2 0 (o 1) 0),(41,AV.sl 1 2 0 (o 1) 0),(40,AV.bool false),(39,AV.ptr 0 0 12),(38,AV.sl 1 1 0 (o 0) 0),(32,AV.bool false),(1,AV.ptr 0 0 0),(3,AV.sl 1 1 0 (o 0) 0),(30,AV.agg (arrM e g)),(31,AV.int IntKind.i64 12)],hp:=[BS.arr true 31 [encMsg (mkM e g vs)],BS.dead,BS.dead,BS.dead,BS.dead,BS.dead,BS.dead,BS.dead,BS.seq true 1 l.length fun i=>encB (l.getD i 0)]}
def SQ8(e g:Int)(vs:List Md.View)(l:List Int)(o:Nat->Nat):St:={fr:=[(3,AV.sl 1 9 0 l.length 0),(69,AV.sl 1 9 0 l.length 0),(68,encEntrys []),(67,AV.ptr 0 0 23),(66,AV.sl 1 8 0 (o 7) 0),(3,AV.sl 1 8 0 (o 7) 0),(65,AV.sl 1 8 0 (o 7) 0),(64,AV.agg [AV.int IntKind.i64 0,AV.str [],AV.str [],AV.str [],AV.bool false]),(63,AV.ptr 0 0 18),(62,AV.sl 1 7 0 (o 6) 0),(3,AV.sl 1 7 0 (o 6) 0),(61,AV.sl 1 7 0 (o 6) 0),(60,AV.cplx FloatKind.f64 0 0),(59,AV.ptr 0 0 17),(58,AV.sl 1 6 0 (o 5) 0),(3,AV.sl 1 6 0 (o 5) 0),(57,AV.sl 1 6 0 (o 5) 0),(56,AV.cplx FloatKind.f64 0 0),(55,AV.ptr 0 0 16),(54,AV.sl 1 5 0 (o 4) 0),(3,AV.sl 1 5 0 (o 4) 0),(53,AV.sl 1 5 0 (o 4) 0),(52,AV.str []),(51,AV.ptr 0 0 15),(50,AV.sl 1 4 0 (o 3) 0),(3,AV.sl 1 4 0 (o 3) 0),(49,AV.sl 1 4 0 (o 3) 0),(48,AV.str []),(47,AV.ptr 0 0 14),(46,AV.sl 1 3 0 (o 2) 0),(3,AV.sl 1 3 0 (o 2) 0),(45,AV.sl 1 3 0 (o 2) 0),(44,AV.bool false),(43,AV.ptr 0 0 13),(42,AV.sl 1 2 0 (o 1) 0),(3,AV.sl 1 2 0 (o 1) 0),(41,AV.sl 1 2 0 (o 1) 0),(40,AV.bool false),(39,AV.ptr 0 0 12),(38,AV.sl 1 1 0 (o 0) 0),(32,AV.bool false),(1,AV.ptr 0 0 0),(3,AV.sl 1 1 0 (o 0) 0),(30,AV.agg (arrM e g)),(31,AV.int IntKind.i64 12)],hp:=[BS.arr true 31 [encMsg (mkM e g vs)],BS.dead,BS.dead,BS.dead,BS.dead,BS.dead,BS.dead,BS.dead,BS.dead,BS.seq true 1 l.length fun i=>encB (l.getD i 0)]}
def SQ9(e g:Int)(vs:List Md.View)(l:List Int)(o:Nat->Nat):St:={fr:=[(3,AV.sl 1 10 0 l.length 0),(73,AV.sl 1 10 0 l.length 0),(72,encMembers []),(71,AV.ptr 0 0 24),(70,AV.sl 1 9 0 (o 8) 0),(3,AV.sl 1 9 0 (o 8) 0),(69,AV.sl 1 9 0 (o 8) 0),(68,encEntrys []),(67,AV.ptr 0 0 23),(66,AV.sl 1 8 0 (o 7) 0),(3,AV.sl 1 8 0 (o 7) 0),(65,AV.sl 1 8 0 (o 7) 0),(64,AV.agg [AV.int IntKind.i64 0,AV.str [],AV.str [],AV.str [],AV.bool false]),(63,AV.ptr 0 0 18),(62,AV.sl 1 7 0 (o 6) 0),(3,AV.sl 1 7 0 (o 6) 0),(61,AV.sl 1 7 0 (o 6) 0),(60,AV.cplx FloatKind.f64 0 0),(59,AV.ptr 0 0 17),(58,AV.sl 1 6 0 (o 5) 0),(3,AV.sl 1 6 0 (o 5) 0),(57,AV.sl 1 6 0 (o 5) 0),(56,AV.cplx FloatKind.f64 0 0),(55,AV.ptr 0 0 16),(54,AV.sl 1 5 0 (o 4) 0),(3,AV.sl 1 5 0 (o 4) 0),(53,AV.sl 1 5 0 (o 4) 0),(52,AV.str []),(51,AV.ptr 0 0 15),(50,AV.sl 1 4 0 (o 3) 0),(3,AV.sl 1 4 0 (o 3) 0),(49,AV.sl 1 4 0 (o 3) 0),(48,AV.str []),(47,AV.ptr 0 0 14),(46,AV.sl 1 3 0 (o 2) 0),(3,AV.sl 1 3 0 (o 2) 0),(45,AV.sl 1 3 0 (o 2) 0),(44,AV.bool false),(43,AV.ptr 0 0 13),(42,AV.sl 1 2 0 (o 1) 0),(3,AV.sl 1 2 0 (o 1) 0),(41,AV.sl 1 2 0 (o 1) 0),(40,AV.bool false),(39,AV.ptr 0 0 12),(38,AV.sl 1 1 0 (o 0) 0),(32,AV.bool false),(1,AV.ptr 0 0 0),(3,AV.sl 1 1 0 (o 0) 0),(30,AV.agg (arrM e g)),(31,AV.int IntKind.i64 12)],hp:=[BS.arr true 31 [encMsg (mkM e g vs)],BS.dead,BS.dead,BS.dead,BS.dead,BS.dead,BS.dead,BS.dead,BS.dead,BS.dead,BS.seq true 1 l.length fun i=>encB (l.getD i 0)]}
def SQ10(e g:Int)(vs:List Md.View)(l:List Int)(o:Nat->Nat):St:={fr:=[(3,AV.sl 1 11 0 l.length 0),(77,AV.sl 1 11 0 l.length 0),(76,encViews vs),(75,AV.ptr 0 0 25),(74,AV.sl 1 10 0 (o 9) 0),(3,AV.sl 1 10 0 (o 9) 0),(73,AV.sl 1 10 0 (o 9) 0),(72,encMembers []),(71,AV.ptr 0 0 24),(70,AV.sl 1 9 0 (o 8) 0),(3,AV.sl 1 9 0 (o 8) 0),(69,AV.sl 1 9 0 (o 8) 0),(68,encEntrys []),(67,AV.ptr 0 0 23),(66,AV.sl 1 8 0 (o 7) 0),(3,AV.sl 1 8 0 (o 7) 0),(65,AV.sl 1 8 0 (o 7) 0),(64,AV.agg [AV.int IntKind.i64 0,AV.str [],AV.str [],AV.str [],AV.bool false]),(63,AV.ptr 0 0 18),(62,AV.sl 1 7 0 (o 6) 0),(3,AV.sl 1 7 0 (o 6) 0),(61,AV.sl 1 7 0 (o 6) 0),(60,AV.cplx FloatKind.f64 0 0),(59,AV.ptr 0 0 17),(58,AV.sl 1 6 0 (o 5) 0),(3,AV.sl 1 6 0 (o 5) 0),(57,AV.sl 1 6 0 (o 5) 0),(56,AV.cplx FloatKind.f64 0 0),(55,AV.ptr 0 0 16),(54,AV.sl 1 5 0 (o 4) 0),(3,AV.sl 1 5 0 (o 4) 0),(53,AV.sl 1 5 0 (o 4) 0),(52,AV.str []),(51,AV.ptr 0 0 15),(50,AV.sl 1 4 0 (o 3) 0),(3,AV.sl 1 4 0 (o 3) 0),(49,AV.sl 1 4 0 (o 3) 0),(48,AV.str []),(47,AV.ptr 0 0 14),(46,AV.sl 1 3 0 (o 2) 0),(3,AV.sl 1 3 0 (o 2) 0),(45,AV.sl 1 3 0 (o 2) 0),(44,AV.bool false),(43,AV.ptr 0 0 13),(42,AV.sl 1 2 0 (o 1) 0),(3,AV.sl 1 2 0 (o 1) 0),(41,AV.sl 1 2 0 (o 1) 0),(40,AV.bool false),(39,AV.ptr 0 0 12),(38,AV.sl 1 1 0 (o 0) 0),(32,AV.bool false),(1,AV.ptr 0 0 0),(3,AV.sl 1 1 0 (o 0) 0),(30,AV.agg (arrM e g)),(31,AV.int IntKind.i64 12)],hp:=[BS.arr true 31 [encMsg (mkM e g vs)],BS.dead,BS.dead,BS.dead,BS.dead,BS.dead,BS.dead,BS.dead,BS.dead,BS.dead,BS.dead,BS.seq true 1 l.length fun i=>encB (l.getD i 0)]}
theorem BD_1:BD 1=.seq (STm 1) (BD 2):=by kernel_rfl
theorem BD_2:BD 2=.seq (STm 2) (BD 3):=by kernel_rfl
theorem BD_3:BD 3=.seq (STm 3) (BD 4):=by kernel_rfl
theorem BD_4:BD 4=.seq (STm 4) (BD 5):=by kernel_rfl
theorem BD_5:BD 5=.seq (STm 5) (BD 6):=by kernel_rfl
theorem BD_6:BD 6=.seq (STm 6) (BD 7):=by kernel_rfl
theorem BD_7:BD 7=.seq (STm 7) (BD 8):=by kernel_rfl
theorem BD_8:BD 8=.seq (STm 8) (BD 9):=by kernel_rfl
theorem BD_9:BD 9=.seq (STm 9) (BD 10):=by kernel_rfl
theorem BD_10:BD 10=.seq (STm 10) (BD 11):=by kernel_rfl
theorem BD_11:BD 11=.seq (STm 11) (BD 12):=by kernel_rfl
theorem BD_12:BD 12=.seq (STm 12) (BD 13):=by kernel_rfl
theorem st_0(N:Nat)(e g:Int)(vs:List Md.View)(l:List Int)(o:Nat->Nat)(K:AX->St->Option AV):EV N (STm 3) K (SQ0 e g vs l o)=gWB l false fun y=>K .normal (SQ1 e g vs (y.1++[bitI y.2]) (upd o 0 l.length)):=by kernel_rfl
theorem st_1(N:Nat)(e g:Int)(vs:List Md.View)(l:List Int)(o:Nat->Nat)(K:AX->St->Option AV):EV N (STm 4) K (SQ1 e g vs l o)=gWB l false fun y=>K .normal (SQ2 e g vs (y.1++[bitI y.2]) (upd o 1 l.length)):=by kernel_rfl
theorem st_2(N:Nat)(e g:Int)(vs:List Md.View)(l:List Int)(o:Nat->Nat)(K:AX->St->Option AV):EV N (STm 5) K (SQ2 e g vs l o)=gU 870000000 [.str []] l fun y=>K .normal (SQ3 e g vs (y.1++intB 0) (upd o 2 l.length)):=by kernel_rfl
theorem st_3(N:Nat)(e g:Int)(vs:List Md.View)(l:List Int)(o:Nat->Nat)(K:AX->St->Option AV):EV N (STm 6) K (SQ3 e g vs l o)=gU 870000000 [.str []] l fun y=>K .normal (SQ4 e g vs (y.1++intB 0) (upd o 3 l.length)):=by kernel_rfl
theorem st_4(N:Nat)(e g:Int)(vs:List Md.View)(l:List Int)(o:Nat->Nat)(K:AX->St->Option AV):EV N (STm 7) K (SQ4 e g vs l o)=gU 870000000 [.cplx .f64 0 0] l fun y=>K .normal (SQ5 e g vs (y.1++(intB 0++intB 0)) (upd o 4 l.length)):=by kernel_rfl
theorem st_5(N:Nat)(e g:Int)(vs:List Md.View)(l:List Int)(o:Nat->Nat)(K:AX->St->Option AV):EV N (STm 8) K (SQ5 e g vs l o)=gU 870000000 [.cplx .f64 0 0] l fun y=>K .normal (SQ6 e g vs (y.1++(intB 0++intB 0)) (upd o 5 l.length)):=by kernel_rfl
theorem st_6(N:Nat)(e g:Int)(vs:List Md.View)(l:List Int)(o:Nat->Nat)(K:AX->St->Option AV):EV N (STm 9) K (SQ6 e g vs l o)=gU 870000000 [opA] l fun y=>K .normal (SQ7 e g vs (y.1++(intB 0++(intB 0++(intB 0++(intB 0++[bitI false]))))) (upd o 6 l.length)):=by kernel_rfl
theorem st_7(N:Nat)(e g:Int)(vs:List Md.View)(l:List Int)(o:Nat->Nat)(K:AX->St->Option AV):EV N (STm 10) K (SQ7 e g vs l o)=gU 870000000 [encEntrys [],fnP F_entry_Put] l fun y=>K .normal (SQ8 e g vs (y.1++intB 0) (upd o 7 l.length)):=by kernel_rfl
theorem st_8(N:Nat)(e g:Int)(vs:List Md.View)(l:List Int)(o:Nat->Nat)(K:AX->St->Option AV):EV N (STm 11) K (SQ8 e g vs l o)=gU 870000000 [encMembers [],fnP F_msg_putMember] l fun y=>K .normal (SQ9 e g vs (y.1++intB 0) (upd o 8 l.length)):=by kernel_rfl
theorem st_9(N:Nat)(e g:Int)(vs:List Md.View)(l:List Int)(o:Nat->Nat)(K:AX->St->Option AV):EV N (STm 12) K (SQ9 e g vs l o)=gPV l vs fun y=>K .normal (SQ10 e g vs (y.1++viewsB y.2) (upd o 9 l.length)):=by kernel_rfl
theorem st_10(N:Nat)(e g:Int)(vs:List Md.View)(l:List Int)(o:Nat->Nat):EV N (BD 13) (finK (envP kn67) F_msg_Put snK) (SQ10 e g vs l o)=gU 860000000 [imA] l fun y=>bif(y.1++(intB 0++(intB 0++(intB 0++(intB 0++(intB 0++(intB 0++intB 0))))))).length.beq 0||(y.1++(intB 0++(intB 0++(intB 0++(intB 0++(intB 0++(intB 0++intB 0))))))).length.ble (y.1++(intB 0++(intB 0++(intB 0++(intB 0++(intB 0++(intB 0++intB 0))))))).length then some (encBy (y.1++(intB 0++(intB 0++(intB 0++(intB 0++(intB 0++(intB 0++intB 0))))))))else none:=by kernel_rfl
def pLoop:List PE:=[.R,.R,.L,.R,.L]
def bLoop:Code:=sub (bodyOf (envP kn67) F_msg_Put) [.R,.R,.L,.R,.L,.L]
theorem BD_0:bodyOf (envP kn67) F_msg_Put=.seq (STm 0) (BD 1):=by kernel_rfl
theorem STm_2:STm 2=.seq (sub (STm 2) [.L]) (.block 0 (.loop bLoop)):=by kernel_rfl
theorem cont_out{R:Type}(env:Env)(run:CallK R)(fn nt n base:Nat)(jump:Code->Nat->CodeK R)(a b c d x:Code)(K:AX->St->Option R)(S:St) :
  contOf env run fn nt n base jump 0 (.seq a (.seq b (.seq (.seq c (.block 0 (.loop d))) x))) pLoop K (.exit 0) S=evC1 env run fn nt n base jump 0 x K S:=rfl
theorem lp_out(N:Nat)(K:AX->St->Option AV)(S:St):contOf (envP kn67) (evFn (envP kn67) (N+9)) F_msg_Put (ntOf (envP kn67) F_msg_Put) (N+9) 0 (jumpK (envP kn67) (evFn (envP kn67) (N+9)) F_msg_Put (ntOf (envP kn67) F_msg_Put) (N+9) 0 (N+9)) 0 (bodyOf (envP kn67) F_msg_Put) pLoop K (.exit 0) S=EV N (BD 3) K S:=by
 rw[BD_0,BD_1,BD_2,STm_2,cont_out];rfl
def LK(N j:Nat)(K:AX->St->Option AV)(S:St):Option AV:=loopK (norm 0 ((envP kn67).live F_msg_Put 0)) (evC1 (envP kn67) (evFn (envP kn67) (N+9)) F_msg_Put (ntOf (envP kn67) F_msg_Put) (N+9) 0 (jumpK (envP kn67) (evFn (envP kn67) (N+9)) F_msg_Put (ntOf (envP kn67) F_msg_Put) (N+9) 0 (N+9)) 0 bLoop) j K S
theorem lp_LK(N j:Nat)(S:St):LP (envP kn67) (N+9) 0 F_msg_Put snK 0 [] j S=LK N j (contOf (envP kn67) (evFn (envP kn67) (N+9)) F_msg_Put (ntOf (envP kn67) F_msg_Put) (N+9) 0 (jumpK (envP kn67) (evFn (envP kn67) (N+9)) F_msg_Put (ntOf (envP kn67) F_msg_Put) (N+9) 0 (N+9)) 0 (bodyOf (envP kn67) F_msg_Put) pLoop (finK (envP kn67) F_msg_Put snK)) S:=by kernel_rfl
theorem lk_end(N j:Nat)(e g:Int)(vs:List Md.View)(l:List Int)(o:Nat->Nat)(K:AX->St->Option AV):LK N (j+1) K (SMs e g vs l 12)=K (.exit 0) (SQ0 e g vs l o):=by kernel_rfl
theorem pmsg_12(N j:Nat)(e g:Int)(vs:List Md.View)(l:List Int)(o:Nat->Nat):LP (envP kn67) (N+9) 0 F_msg_Put snK 0 [] (j+1) (SMs e g vs l 12)=EV N (BD 3) (finK (envP kn67) F_msg_Put snK) (SQ0 e g vs l o):=by
 rw[lp_LK,lk_end N j e g vs l o,lp_out]
set_option maxHeartbeats 4000000 in
theorem pmsg_con{e g:Int}{vs:List Md.View}(he:I64 e)(hg:I64 g)(hv:ViewsOk vs):Contract PG F_msg_Put [.agg (encMsg (mkM e g vs))] [] (encBy (msgB (mkM e g vs))) []:=by
 refine con_of (md:=md5) kn67_ok (n:=20+9+1) ((pmsg_in (20+9) e g vs).trans ?_)
 have i4:I64 4:=by unfold I64;omega
 have a4:=intB_len 4
 have a0:=intB_len 0
 have ae:=intB_len e
 have ag:=intB_len g
 have av:=viewsB_len hv
 rw[show LP (envP kn67) (20+9) 0 F_msg_Put snK 0 [] (20+9) (SM0 e g vs)=LP (envP kn67) (20+9) 0 F_msg_Put snK 0 [] (28+1) (SM0 e g vs) from rfl,pmsg_0 (20+9) 28,gW0_eq i4,Go.Wk.ne_eq (intB_ne 4)]
 rw[show LP (envP kn67) (20+9) 0 F_msg_Put snK 0 [] 28=LP (envP kn67) (20+9) 0 F_msg_Put snK 0 [] (27+1) from rfl,pmsg_1 (20+9) 27,gW_eq i0 (by(try simp only[List.length_append]);omega)]
 simp only[]
 rw[show LP (envP kn67) (20+9) 0 F_msg_Put snK 0 [] 27=LP (envP kn67) (20+9) 0 F_msg_Put snK 0 [] (26+1) from rfl,pmsg_2 (20+9) 26,gW_eq i0 (by(try simp only[List.length_append]);omega)]
 simp only[]
 rw[show LP (envP kn67) (20+9) 0 F_msg_Put snK 0 [] 26=LP (envP kn67) (20+9) 0 F_msg_Put snK 0 [] (25+1) from rfl,pmsg_3 (20+9) 25,gW_eq i0 (by(try simp only[List.length_append]);omega)]
 simp only[]
 rw[show LP (envP kn67) (20+9) 0 F_msg_Put snK 0 [] 25=LP (envP kn67) (20+9) 0 F_msg_Put snK 0 [] (24+1) from rfl,pmsg_4 (20+9) 24,gW_eq i0 (by(try simp only[List.length_append]);omega)]
 simp only[]
 rw[show LP (envP kn67) (20+9) 0 F_msg_Put snK 0 [] 24=LP (envP kn67) (20+9) 0 F_msg_Put snK 0 [] (23+1) from rfl,pmsg_5 (20+9) 23,gW_eq i0 (by(try simp only[List.length_append]);omega)]
 simp only[]
 rw[show LP (envP kn67) (20+9) 0 F_msg_Put snK 0 [] 23=LP (envP kn67) (20+9) 0 F_msg_Put snK 0 [] (22+1) from rfl,pmsg_6 (20+9) 22,gW_eq i0 (by(try simp only[List.length_append]);omega)]
 simp only[]
 rw[show LP (envP kn67) (20+9) 0 F_msg_Put snK 0 [] 22=LP (envP kn67) (20+9) 0 F_msg_Put snK 0 [] (21+1) from rfl,pmsg_7 (20+9) 21,gW_eq hg (by(try simp only[List.length_append]);omega)]
 simp only[]
 rw[show LP (envP kn67) (20+9) 0 F_msg_Put snK 0 [] 21=LP (envP kn67) (20+9) 0 F_msg_Put snK 0 [] (20+1) from rfl,pmsg_8 (20+9) 20,gW_eq he (by(try simp only[List.length_append]);omega)]
 simp only[]
 rw[show LP (envP kn67) (20+9) 0 F_msg_Put snK 0 [] 20=LP (envP kn67) (20+9) 0 F_msg_Put snK 0 [] (19+1) from rfl,pmsg_9 (20+9) 19,gW_eq i0 (by(try simp only[List.length_append]);omega)]
 simp only[]
 rw[show LP (envP kn67) (20+9) 0 F_msg_Put snK 0 [] 19=LP (envP kn67) (20+9) 0 F_msg_Put snK 0 [] (18+1) from rfl,pmsg_10 (20+9) 18,gW_eq i0 (by(try simp only[List.length_append]);omega)]
 simp only[]
 rw[show LP (envP kn67) (20+9) 0 F_msg_Put snK 0 [] 18=LP (envP kn67) (20+9) 0 F_msg_Put snK 0 [] (17+1) from rfl,pmsg_11 (20+9) 17,gW_eq i0 (by(try simp only[List.length_append]);omega)]
 simp only[]
 rw[show LP (envP kn67) (20+9) 0 F_msg_Put snK 0 [] 17=LP (envP kn67) (20+9) 0 F_msg_Put snK 0 [] (16+1) from rfl,pmsg_12 20 16 _ _ _ _ fun _=>0]
 rw[BD_3,EV_seq,st_0,gWB_eq (by(try simp only[List.length_append,List.length_cons,List.length_nil]);omega)]
 simp only[]
 rw[BD_4,EV_seq,st_1,gWB_eq (by(try simp only[List.length_append,List.length_cons,List.length_nil]);omega)]
 simp only[]
 rw[BD_5,EV_seq,st_2,gU_eq (by(try simp only[List.length_append,List.length_cons,List.length_nil]);omega)]
 simp only[]
 rw[BD_6,EV_seq,st_3,gU_eq (by(try simp only[List.length_append,List.length_cons,List.length_nil]);omega)]
 simp only[]
 rw[BD_7,EV_seq,st_4,gU_eq (by(try simp only[List.length_append,List.length_cons,List.length_nil]);omega)]
 simp only[]
 rw[BD_8,EV_seq,st_5,gU_eq (by(try simp only[List.length_append,List.length_cons,List.length_nil]);omega)]
 simp only[]
 rw[BD_9,EV_seq,st_6,gU_eq (by(try simp only[List.length_append,List.length_cons,List.length_nil]);omega)]
 simp only[]
 rw[BD_10,EV_seq,st_7,gU_eq (by(try simp only[List.length_append,List.length_cons,List.length_nil]);omega)]
 simp only[]
 rw[BD_11,EV_seq,st_8,gU_eq (by(try simp only[List.length_append,List.length_cons,List.length_nil]);omega)]
 simp only[]
 rw[BD_12,EV_seq,st_9,gPV_eq (by(try simp only[List.length_append,List.length_cons,List.length_nil]);omega) hv]
 simp only[]
 rw[st_10,gU_eq (by(try simp only[List.length_append,List.length_cons,List.length_nil]);omega)]
 simp only[]
 rw[Go.Wk.or_self,cond_true]
 congr 2
 unfold msgB msgN mkM opB imgB entsB memsB seensB textB
 rw[verB0]
 simp only[nums_cons,nums_nil,List.flatMap_nil,List.flatten_cons,List.flatten_nil,List.append_nil,List.append_assoc,List.nil_append,List.cons_append,List.length_nil]
 rfl
structure BM where
 e:Int
 g:Int
 v:List Md.View
def dBM(a:List AV):BM:=let m:=decMsg (argC a 0);⟨m.sess,m.gen,m.views⟩
def eBM(x:BM):List AV:=[.agg (encMsg (mkM x.e x.g x.v))]
def pBM(x:BM):Prop:=I64 x.e/\I64 x.g/\ViewsOk x.v
def kPMsg:Known:=.spec F_msg_Put dBM pBM eBM (fun x=>encBy (msgB (mkM x.e x.g x.v)))
theorem kPMsg_ok:kPMsg.Ok PG:=Known.spec_ok fun x h=>pmsg_con h.1 h.2.1 h.2.2
def subAll:List AV->List AV->Prop
 | [],[]=>True
 | a::r,b::s=>SubV a b/\subAll r s
 | _,_=>False
theorem subC_all:∀ {a b:List AV},subAll a b->SubC a b
 | [],[],_=>.nil
 | _::_,_::_,h=>.cons h.1 (subC_all h.2)
 | [],_::_,h=>h.elim
 | _::_,[],h=>h.elim
theorem nilsL{X:Type}{sz:Nat}{e:X->List AV}{z:X}:SubV .nils (encL sz e z []):=SubV.nils
def kn68:List Known:=[kCloneMember,kPMsg]
theorem kn68_ok:∀ k ∈ kn68,k.Ok PG:=ak kCloneMember_ok (ak kPMsg_ok ank)
def lvG:List (Nat × Nat × List Nat):=[(F_keeper_Put,0,[3,13,14,15,1001]),(F_lockgateref22_Put,0,[1,3,4,1002]),(F_keeper_Get,0,[0,4,6,8,9,1003])]
def envG(l:List Known):Env:={envM (fun _=>none) (orcOf l)with live:=fun f b=>liveOf f b (lvG++liveTab)}
theorem conG{l:List Known}(h:∀ k ∈ l,k.Ok PG){n f:Nat}{xs:List AV}{r:AV}(e:callT (envG l) n f xs=some r):Contract PG f xs [] r []:=callT_ok ⟨tt_ok rfl,orc_ok h⟩ (codeOf_ok rfl) mixed e
def msgC(e g:Int)(V:AV):List AV:=[.int .i64 4,.int .i64 0,.int .i64 0,.int .i64 0,.int .i64 0,.int .i64 0,.int .i64 0,.int .i64 g,.int .i64 e,.int .i64 0,.int .i64 0,.int .i64 0,.bool false,.bool false,.str [],.str [],.cplx .f64 0 0,.cplx .f64 0 0,.int .i64 0,.str [],.str [],.str [],.bool false,.nils,.nils,V,.cplx .f64 0 0,.cplx .f64 0 0,.int .i64 0,.nils,.nils]
theorem canF_two(x y:Md.View):(fun i=>[encView x,encView y].getD i (encView x))=canF encView default [x,y]:=by
 funext i
 unfold canF
 match i with
 | 0=>rfl
 | 1=>rfl
 | i+2=>simp[List.getD]
theorem canF_app2{l:List Md.View}(h:l ≠ [])(x y:Md.View) :
  (fun i=>bif Nat.blt i l.length then canF encView default l i else bif Nat.blt i (l.length+2)then [encView x,encView y].getD (i - l.length) []else canF encView default l l.length)=canF encView default (l++[x,y]):=by
 funext i
 have h0:0<l.length:=List.length_pos_iff.2 h
 have hh:(l++[x,y]).getD 0 default=l.getD 0 default:=by unfold List.getD;rw[List.getElem?_append_left h0]
 by_cases h1:i<l.length
 ·rw[blt_true h1,cond_true]
  unfold canF
  rw[hh]
  simp[List.getD,List.getElem?_append_left h1]
 ·rw[blt_false (Nat.le_of_not_lt h1),cond_false]
  by_cases h2:i<l.length+2
  ·rw[blt_true h2,cond_true]
   unfold canF
   obtain⟨d,rfl⟩:∃ d,i=l.length+d:=⟨i - l.length,by omega⟩
   have hd:d=0\/d=1:=by omega
   rcases hd with rfl | rfl <;> simp[List.getD,List.getElem?_append_right]
  ·rw[blt_false (by omega),cond_false]
   unfold canF
   rw[hh]
   have e1:l[l.length]? = none:=List.getElem?_eq_none (Nat.le_refl _)
   have e2:(l++[x,y])[i]? = none:=List.getElem?_eq_none (by simp;omega)
   simp[List.getD,e1,e2]
def v1(p:Plan)(i:Int):Md.View:=⟨i,p.epoch,p.gen,p.phase,p.chain⟩
def v2(p:Plan)(i:Int)(f:Int):Md.View:=⟨i,p.base,p.reset,f,p.valid⟩
def v2'(p:Plan)(i:Int):Md.View:=v2 p i (bif p.fresh then 1 else 0)
theorem vOf_cons(p:Plan)(r:List Plan)(i:Nat):vOf (p::r) i=v1 p i::v2' p i::vOf r (i+1):=rfl
theorem two_loop{R:Type}{l:List Plan}{G:Nat->List Md.View->Int->Option R}{fin:List Md.View->Option R}(hend:∀ m vs,vs.length=2*l.length->G (m+1) vs (l.length:Int)=fin vs)
  (hstep:∀ m vs (i:Nat),i<l.length->vs.length=2*i->G (m+1) vs (i:Int)=G m (vs++[v1 (l.getD i default) i,v2' (l.getD i default) i]) ((i+1:Nat):Int)) :
  ∀ (d i m:Nat) (vs:List Md.View),i+d=l.length->d<m->vs.length=2*i->G m vs (i:Int)=fin (vs++vOf (l.drop i) i):=by
 intro d
 induction d with
 | zero=>
  intro i m vs hi hm hv
  obtain⟨m,rfl⟩:∃ k,m=k+1:=⟨m - 1,by omega⟩
  have:i=l.length:=by omega
  subst this
  rw[hend m vs hv,List.drop_eq_nil_of_le (Nat.le_refl _)];simp[vOf]
 | succ d ih=>
  intro i m vs hi hm hv
  obtain⟨m,rfl⟩:∃ k,m=k+1:=⟨m - 1,by omega⟩
  rw[hstep m vs i (by omega) hv,ih (i+1) m _ (by omega) (by omega) (by simp;omega),drop_cons (z:=default) (by omega:i<l.length),vOf_cons,List.append_assoc]
  rfl
def frK(b:Book)(i:Int):Fr:=[(3,.ptr 0 0 0),(13,encPlans b.shards),(14,.int .i64 b.shards.length),(15,.int .i64 i),(1001,.undef)]
def SK0(b:Book)(i:Int):St:={fr:=frK b i,hp:=[.arr true 31 [msgC b.sess b.gen .nils]]}
def SK2(b:Book)(f:Nat->List AV)(i:Int):St:={fr:=frK b i,hp:=[.arr true 31 [msgC b.sess b.gen (.sl 5 1 0 2 2)],.seq true 5 2 f]}
def SK(b:Book)(n:Nat)(f:Nat->List AV)(i:Int):St:={fr:=frK b i,hp:=[.arr true 31 [msgC b.sess b.gen (.sl 5 1 0 n 0)],.seq true 5 n f]}
def SV(b:Book):List Md.View->Int->St
 | [],i=>SK0 b i
 | [x,y],i=>SK2 b (canF encView default [x,y]) i
 | l,i=>SK b l.length (canF encView default l) i
def gMs{R:Type}(l:List Member)(k:List Member->Option R):Option R:=gC (dL decMember) shortL eMems [encMembers l] k
theorem gMs_eq{R:Type}{l:List Member}{k:List Member->Option R}(h:shortL l):gMs l k=k l:=qMems h
def gPMsg(e g:Int)(V:AV):Option AV:=gC dBM pBM eBM [.agg (msgC e g V)] fun y=>some (encBy (msgB (mkM y.e y.g y.v)))
theorem kput_in(N:Nat)(b:Book):callT (envG kn68) (N+1) F_keeper_Put [.agg (encBook b)]=LP (envG kn68) N 0 F_keeper_Put snK 0 [] N (SK0 b 0):=by kernel_rfl
theorem kput_0(N j:Nat)(b:Book)(i:Int):LP (envG kn68) N 0 F_keeper_Put snK 0 [] (j+1) (SK0 b i) =
 bif decide (i<(b.shards.length:Int))then rg i b.shards.length <| bif(b.shards.getD i.toNat default).fresh then
   gMs (b.shards.getD i.toNat default).chain fun c=>gMs (b.shards.getD i.toNat default).valid fun v=>LP (envG kn68) N 0 F_keeper_Put snK 0 [] j (SK2 b (fun k=>[encView {v1 (b.shards.getD i.toNat default) i with chain:=c},encView {v2 (b.shards.getD i.toNat default) i 1 with chain:=v}].getD k (encView {v1 (b.shards.getD i.toNat default) i with chain:=c})) (IntKind.i64.wrap (i+1)))
  else gMs (b.shards.getD i.toNat default).chain fun c=>gMs (b.shards.getD i.toNat default).valid fun v=>LP (envG kn68) N 0 F_keeper_Put snK 0 [] j (SK2 b (fun k=>[encView {v1 (b.shards.getD i.toNat default) i with chain:=c},encView {v2 (b.shards.getD i.toNat default) i 0 with chain:=v}].getD k (encView {v1 (b.shards.getD i.toNat default) i with chain:=c})) (IntKind.i64.wrap (i+1)))
 else gPMsg b.sess b.gen .nils:=by kernel_rfl
def ap2(n:Nat)(f:Nat->List AV)(x y:Md.View):Nat->List AV:=fun i=>bif Nat.blt i n then f i else bif Nat.blt i (n+2)then [encView x,encView y].getD (i - n) []else f n
theorem kput_2(N j:Nat)(b:Book)(f:Nat->List AV)(i:Int):LP (envG kn68) N 0 F_keeper_Put snK 0 [] (j+1) (SK2 b f i) =
 bif decide (i<(b.shards.length:Int))then rg i b.shards.length <| bif(b.shards.getD i.toNat default).fresh then
   gMs (b.shards.getD i.toNat default).chain fun c=>gMs (b.shards.getD i.toNat default).valid fun v=>LP (envG kn68) N 0 F_keeper_Put snK 0 [] j (SK b 4 (ap2 2 f {v1 (b.shards.getD i.toNat default) i with chain:=c} {v2 (b.shards.getD i.toNat default) i 1 with chain:=v}) (IntKind.i64.wrap (i+1)))
  else gMs (b.shards.getD i.toNat default).chain fun c=>gMs (b.shards.getD i.toNat default).valid fun v=>LP (envG kn68) N 0 F_keeper_Put snK 0 [] j (SK b 4 (ap2 2 f {v1 (b.shards.getD i.toNat default) i with chain:=c} {v2 (b.shards.getD i.toNat default) i 0 with chain:=v}) (IntKind.i64.wrap (i+1)))
 else gPMsg b.sess b.gen (.tr 5 2 fun i=>f i):=by kernel_rfl
def room2{R:Type}(n:Nat)(k:Option R):Option R:=bif n.beq 0||n.ble n then bif((n+2)*56).ble 140737488355328&&(n+2).ble 140737488355328 then k else none else none
theorem room2_eq{R:Type}{n:Nat}{k:Option R}(h:n<=1000000):room2 n k=k:=by
 unfold room2
 rw[Go.Wk.or_self,ble_true (by omega),ble_true (by omega)];rfl
theorem kput_n(N j:Nat)(b:Book)(n:Nat)(f:Nat->List AV)(i:Int):LP (envG kn68) N 0 F_keeper_Put snK 0 [] (j+1) (SK b n f i) =
 bif decide (i<(b.shards.length:Int))then rg i b.shards.length <| bif(b.shards.getD i.toNat default).fresh then
   gMs (b.shards.getD i.toNat default).chain fun c=>gMs (b.shards.getD i.toNat default).valid fun v=>room2 n <| LP (envG kn68) N 0 F_keeper_Put snK 0 [] j (SK b (n+2) (ap2 n f {v1 (b.shards.getD i.toNat default) i with chain:=c} {v2 (b.shards.getD i.toNat default) i 1 with chain:=v}) (IntKind.i64.wrap (i+1)))
  else gMs (b.shards.getD i.toNat default).chain fun c=>gMs (b.shards.getD i.toNat default).valid fun v=>room2 n <| LP (envG kn68) N 0 F_keeper_Put snK 0 [] j (SK b (n+2) (ap2 n f {v1 (b.shards.getD i.toNat default) i with chain:=c} {v2 (b.shards.getD i.toNat default) i 0 with chain:=v}) (IntKind.i64.wrap (i+1)))
 else bif(n.beq 0||n.ble n)&&true&&true then gPMsg b.sess b.gen (.tr 5 n fun i=>f i)else none:=by kernel_rfl
theorem msgC_sub{e g:Int}{V:AV}{vs:List Md.View}(h:SubV V (encViews vs)):SubC [.agg (msgC e g V)] (eBM ⟨e,g,vs⟩):=
 .cons (.agg (subC_all (by repeat' (first | exact trivial | exact nilsL | exact h | exact SubV.refl _ | refine⟨?_,?_⟩)))) .nil
theorem gPMsg_eq{e g:Int}{V:AV}{vs:List Md.View}(hd:decL decView V=vs)(hs:SubV V (encViews vs))(he:I64 e)(hg:I64 g)(hv:ViewsOk vs):gPMsg e g V=some (encBy (msgB (mkM e g vs))):=by
 unfold gPMsg
 rw[gC_eq (⟨e,g,vs⟩:BM) (by
  show(⟨e,g,decL decView V⟩:BM)=_
  rw[hd]) ⟨he,hg,hv⟩ (msgC_sub hs)]
theorem gTr_fin(l:List Md.View)(h:l ≠ []):decL decView (.tr 5 l.length fun i=>canF encView default l i)=l/\SubV (.tr 5 l.length fun i=>canF encView default l i) (encViews l):=by
 match l,h with
 | x::r,_=>exact⟨dec_gTr dec_encView (x::r),gTr_sub (sz:=5) (e:=encView) (z:=default) (x::r)⟩
theorem kput_con(b:Book)(h:BookOk b):Contract PG F_keeper_Put [.agg (encBook b)] [] (encBy (putB b)) []:=by
 obtain⟨h1,h2,h3,h4⟩:=h
 have hN:∃ N,N=5000:=⟨_,rfl⟩
 obtain⟨N,hN⟩:=hN
 refine conG kn68_ok (n:=N+1) ((kput_in N b).trans ?_)
 obtain⟨hvl,hvk⟩:=vOf_ok b.shards 0 (by omega) h4
 have hvo:ViewsOk (vOf b.shards 0):=⟨by omega,fun v hv=>(hvk v hv).1⟩
 have run:=two_loop (l:=b.shards) (G:=fun m vs i=>LP (envG kn68) N 0 F_keeper_Put snK 0 [] m (SV b vs i)) (fin:=fun vs=>match vs with
   | []=>gPMsg b.sess b.gen .nils
   | l=>gPMsg b.sess b.gen (.tr 5 l.length fun i=>canF encView default l i)) (fun m vs hv=>?_) (fun m vs i hi hv=>?_) b.shards.length 0 N [] (by omega) (by omega) rfl
 ·refine run.trans ?_
  rw[List.drop_zero,List.nil_append]
  revert hvo hvl
  unfold putB mOf
  generalize vOf b.shards 0=vs
  intro hvl hvo
  cases vs with
  | nil=>exact gPMsg_eq (vs:=[]) rfl nilsL h1 h2 hvo
  | cons x r=>exact gPMsg_eq (gTr_fin (x::r) (by simp)).1 (gTr_fin (x::r) (by simp)).2 h1 h2 hvo
 ·match vs,hv with
  | [],hv=>show LP (envG kn68) N 0 F_keeper_Put snK 0 [] (m+1) (SK0 b _)=_;rw[kput_0,decide_eq_false (by omega),cond_false]
  | [x],hv=>simp at hv;omega
  | [x,y],hv=>show LP (envG kn68) N 0 F_keeper_Put snK 0 [] (m+1) (SK2 b _ _)=_;rw[kput_2,decide_eq_false (by omega),cond_false];rfl
  | x::y::z::r,hv=>
   show LP (envG kn68) N 0 F_keeper_Put snK 0 [] (m+1) (SK b _ _ _)=_
   rw[kput_n,decide_eq_false (by omega),cond_false,Go.Wk.or_self];rfl
 ·have hp:=h4 _ (getD_mem hi (z:=default))
  have hc:shortL (b.shards.getD i default).chain:=by have:=hp.2.2.2.2.2.1.1;unfold shortL LB;omega
  have hw:shortL (b.shards.getD i default).valid:=by have:=hp.2.2.2.2.2.2.1;unfold shortL LB;omega
  have e1:IntKind.i64.wrap ((i:Int)+1)=((i+1:Nat):Int):=wrapS (by omega)
  have ev1:v1 (b.shards.getD i default) i={v1 (b.shards.getD i default) i with chain:=(b.shards.getD i default).chain}:=rfl
  match vs,hv with
  | [],hv=>
   show LP (envG kn68) N 0 F_keeper_Put snK 0 [] (m+1) (SK0 b _)=LP (envG kn68) N 0 F_keeper_Put snK 0 [] m (SK2 b (canF encView default [_,_]) _)
   rw[kput_0,decide_eq_true (by omega),cond_true,rg_eq hi,Int.toNat_natCast,gMs_eq hc,gMs_eq hw,gMs_eq hc,gMs_eq hw,e1,<- canF_two]
   unfold v2'
   cases (b.shards.getD i default).fresh <;> rfl
  | [x],hv=>simp at hv;omega
  | [x,y],hv=>
   show LP (envG kn68) N 0 F_keeper_Put snK 0 [] (m+1) (SK2 b _ _)=LP (envG kn68) N 0 F_keeper_Put snK 0 [] m (SK b 4 (canF encView default ([x,y]++[_,_])) _)
   rw[kput_2,decide_eq_true (by omega),cond_true,rg_eq hi,Int.toNat_natCast,gMs_eq hc,gMs_eq hw,gMs_eq hc,gMs_eq hw,e1,<- canF_app2 (by simp)]
   unfold v2'
   cases (b.shards.getD i default).fresh <;> rfl
  | x::y::z::r,hv=>
   have el:(x::y::z::r)++[v1 (b.shards.getD i default) i,v2' (b.shards.getD i default) i]=x::y::z::(r++[v1 (b.shards.getD i default) i,v2' (b.shards.getD i default) i]):=rfl
   have en:(x::y::z::(r++[v1 (b.shards.getD i default) i,v2' (b.shards.getD i default) i])).length=(x::y::z::r).length+2:=by simp
   rw[el]
   show LP (envG kn68) N 0 F_keeper_Put snK 0 [] (m+1) (SK b _ _ _)=LP (envG kn68) N 0 F_keeper_Put snK 0 [] m (SK b (x::y::z::(r++[v1 (b.shards.getD i default) i,v2' (b.shards.getD i default) i])).length (canF encView default (x::y::z::(r++[_,_]))) _)
   rw[en,<- el,kput_n,decide_eq_true (by omega),cond_true,rg_eq hi,Int.toNat_natCast,gMs_eq hc,gMs_eq hw,gMs_eq hc,gMs_eq hw,e1,room2_eq (by simp at hv ⊢;omega),room2_eq (by simp at hv ⊢;omega),<- canF_app2 (by simp)]
   unfold v2'
   cases (b.shards.getD i default).fresh <;> rfl
def dBk(a:List AV):Book:=decBook (argC a 0)
def eBk(b:Book):List AV:=[.agg (encBook b)]
theorem beq_eq(a b:List Int):callT env0 5 F_bytes_Equal [encBy a,encBy b] =
 onK (bytesOfL ((List.range a.length).map fun i=>encB (a.getD i 0))) fun s=>onK (bytesOfL ((List.range b.length).map fun i=>encB (b.getD i 0))) fun t=>some (.bool (strBeq s t)):=by kernel_rfl
theorem bytes_all(a:List Int):bytesOfL ((List.range a.length).map fun i=>encB (a.getD i 0))=some (strP a):=by
 have e:((List.range a.length).map fun i=>encB (a.getD i 0))=a.map encB:=by
  refine List.ext_getElem (by simp) fun i h1 h2=>?_
  have hi:i<a.length:=by simpa using h1
  simp[List.getD,List.getElem?_eq_getElem hi]
 rw[e]
 unfold strP
 induction a with
 | nil=>rfl
 | cons x c ih=>
  have e:((List.range c.length).map fun i=>encB (c.getD i 0))=c.map encB:=by
   refine List.ext_getElem (by simp) fun i h1 h2=>?_
   have hi:i<c.length:=by simpa using h1
   simp[List.getD,List.getElem?_eq_getElem hi]
  rw[List.map_cons,List.map_cons,bytesOfL,ih e]
  rfl
def ByL(l:List Int):Prop:=∀ x ∈ l,0<=x/\x<=255
theorem strBeq_strP:∀ (a b:List Int),ByL a->ByL b->strBeq (strP a) (strP b)=decide (a=b)
 | [],[],_,_=>rfl
 | [],y::b,_,_=>rfl
 | x::a,[],_,_=>rfl
 | x::a,y::b,ha,hb=>by
  have hx:=ha x (by simp)
  have hy:=hb y (by simp)
  have ih:=strBeq_strP a b (fun z hz=>ha z (by simp[hz])) (fun z hz=>hb z (by simp[hz]))
  show(Nat.beq (UInt8.ofNat x.toNat).toNat (UInt8.ofNat y.toNat).toNat&&strBeq (strP a) (strP b))=_
  rw[ih]
  have e1:(UInt8.ofNat x.toNat).toNat=x.toNat:=by simp[UInt8.toNat_ofNat'];omega
  have e2:(UInt8.ofNat y.toNat).toNat=y.toNat:=by simp[UInt8.toNat_ofNat'];omega
  rw[e1,e2]
  by_cases h:x=y
  ·subst h
   rw[AM.beq_true rfl,Bool.true_and]
   exact decide_eq_decide.2 (by simp)
  ·rw[AM.beq_false (by omega),Bool.false_and,decide_eq_false (by simp[h])]
def p2B(p:List Int × List Int):Prop:=ByL p.1/\ByL p.2
def d2B(a:List AV):List Int × List Int:=(decL decB (a.getD 0 .nils),decL decB (a.getD 1 .nils))
def e2B(p:List Int × List Int):List AV:=[encBy p.1,encBy p.2]
theorem beq_con(p:List Int × List Int)(h:p2B p):Contract PG F_bytes_Equal (e2B p) [] (.bool (decide (p.1=p.2))) []:=by
 obtain⟨a,b⟩:=p
 refine con0 ((beq_eq a b).trans ?_)
 rw[bytes_all,bytes_all]
 show some (AV.bool (strBeq (strP a) (strP b)))=_
 rw[strBeq_strP a b h.1 h.2]
def kBEq:Known:=.spec F_bytes_Equal d2B p2B e2B (fun p=>.bool (decide (p.1=p.2)))
theorem kBEq_ok:kBEq.Ok PG:=Known.spec_ok beq_con
theorem q2B{R:Type}{a b:List Int}{k:List Int × List Int->Option R}(ha:ByL a)(hb:ByL b):gC d2B p2B e2B [encBy a,encBy b] k=k (a,b):=
 gC_eq (a,b) (by show(decL decB (encBy a),decL decB (encBy b))=(a,b);rw[decBy,decBy]) ⟨ha,hb⟩ (.refl _)
theorem natB_pos:∀ (k:Nat) (x:Int),0<=x->ByL (natB k x):=fun k x hx=>by
 obtain⟨n,rfl⟩:∃ n:Nat,x=n:=⟨x.toNat,by omega⟩
 exact natB_by k n
theorem intB_by(n:Int):ByL (intB n):=natB_pos 11 _ (by unfold zig;split <;> omega)
theorem by_app{a b:List Int}(ha:ByL a)(hb:ByL b):ByL (a++b):=fun x hx=>(List.mem_append.1 hx).elim (ha x) (hb x)
theorem by_flat{X:Type}{p:X->List Int}{l:List X}(h:∀ x,ByL (p x)):ByL (l.flatMap p):=fun x hx=>by
 obtain⟨a,_,h2⟩:=List.mem_flatMap.1 hx
 exact h a x h2
theorem nums_by(l:List Int):ByL (numsB l):=by_flat intB_by
theorem bit_by(b:Bool):ByL [bitI b]:=fun x hx=>by
 rw[List.mem_singleton]at hx;subst hx;cases b <;> (unfold bitI;simp)
theorem mem_by(m:Member):ByL (memB m):=nums_by _
theorem mems_by(l:List Member):ByL (memsB l):=by_app (intB_by _) (by_flat mem_by)
theorem view_by(v:Md.View):ByL (viewB v):=by_app (nums_by _) (mems_by _)
theorem views_by(l:List Md.View):ByL (viewsB l):=by_app (intB_by _) (by_flat view_by)
theorem text0_by:ByL (textB []):=by_app (intB_by _) (fun x hx=>by cases hx)
theorem ver0_by:ByL (verB ⟨0,0⟩):=by rw[verB0];exact by_app (intB_by _) (intB_by _)
theorem putB_by(b:Book):ByL (putB b):=by
 unfold putB mOf mkM msgB opB imgB entsB memsB seensB
 simp only[List.flatten_cons,List.flatten_nil,List.flatMap_nil,List.append_nil]
 have hb:ByL [bitI false,bitI false]:=fun x hx=>bit_by false x (by simpa using hx)
 exact by_app (by_app (by_app (by_app (by_app (by_app (by_app (by_app (by_app (by_app (nums_by _) hb) text0_by) text0_by) ver0_by) ver0_by) (by_app (intB_by _) (by_app text0_by (by_app text0_by (by_app text0_by (bit_by _)))))) (intB_by _)) (intB_by _)) (views_by _)) (by_app (by_app (by_app (by_app ver0_by ver0_by) (intB_by _)) (intB_by _)) (intB_by _))
end Go.Kp
end
noncomputable section
open Go Go.AM Go.Md Go.Fl
open Ieee (double)
namespace Go.Wk
set_option maxRecDepth 100000
set_option maxHeartbeats 1000000
theorem ahead_eq(a b:Ver):callT env0 4 F_ver_Ahead [eV a,eV b]=bif !fEq .f64 a.re b.re then some (.bool (fLt .f64 a.re b.re))else some (.bool (fLt .f64 a.im b.im)):=by kernel_rfl
def eV2(p:Ver × Ver):List AV:=[eV p.1,eV p.2]
def dV2(a:List AV):Ver × Ver:=(⟨(getC a 0).1,(getC a 0).2⟩,⟨(getC a 1).1,(getC a 1).2⟩)
def V2(p:Ver × Ver):Prop:=VNum p.1/\VNum p.2
theorem qV2{R:Type}{a b:Ver}{k:Ver × Ver->Option R}(ha:VNum a)(hb:VNum b):gC dV2 V2 eV2 [.cplx .f64 a.re a.im,.cplx .f64 b.re b.im] k=k (a,b):=gC_eq (a,b) rfl ⟨ha,hb⟩ (.refl _)
theorem ahead_con(p:Ver × Ver)(h:V2 p):Contract PG F_ver_Ahead [eV p.1,eV p.2] [] (.bool (vlt p.1 p.2)) []:=by
 refine con0 ((ahead_eq p.1 p.2).trans ?_)
 rw[bif_not,bif_some,<- fvlt h.1 h.2]
 cases fEq .f64 p.1.re p.2.re <;> rfl
def kAhead:Known:=.spec F_ver_Ahead dV2 V2 eV2 (fun p=>.bool (vlt p.1 p.2))
theorem kAhead_ok:kAhead.Ok PG:=Known.spec_ok ahead_con
end Go.Wk
end
noncomputable section
open Go Go.AM Go.Md
namespace Go.Wk
set_option maxRecDepth 100000
set_option maxHeartbeats 1000000
def subAll:List AV->List AV->Prop
 | [],[]=>True
 | a::r,b::s=>SubV a b/\subAll r s
 | _,_=>False
theorem subC_all:∀ {a b:List AV},subAll a b->SubC a b
 | [],[],_=>.nil
 | _::_,_::_,h=>.cons h.1 (subC_all h.2)
 | [],_::_,h=>h.elim
 | _::_,[],h=>h.elim
theorem nilsL{X:Type}{sz:Nat}{e:X->List AV}{z:X}:SubV .nils (encL sz e z []):=SubV.nils
end Go.Wk
end
noncomputable section
open Go Go.AM Go.Md
namespace Go.Wk
set_option maxRecDepth 100000
set_option maxHeartbeats 2000000
def envL(lv:List (Nat × Nat × List Nat))(md:Nat->Option Nat)(l:List Known):Env:={envM md (orcOf l)with live:=fun f b=>liveOf f b (lv++liveTab)}
theorem envL_ok{lv:List (Nat × Nat × List Nat)}{md:Nat->Option Nat}{l:List Known}(h:∀ k ∈ l,k.Ok PG):EnvOk PG (envL lv md l):=⟨tt_ok rfl,orc_ok h⟩
theorem envL_code{lv:List (Nat × Nat × List Nat)}{md:Nat->Option Nat}{l:List Known}:CodeOk PG (envL lv md l):=codeOf_ok rfl
end Go.Wk
end
noncomputable section
open Go Go.AM Go.Md
namespace Go.Wk
set_option maxRecDepth 100000
set_option maxHeartbeats 400000
theorem SubC.trl{sz:Nat}:∀ {a b:List (List AV)},a.length=b.length->(∀ i,i<a.length->SubC (a.getD i []) (b.getD i []))->SubV (.trl sz a) (.trl sz b):=by
 intro a b hl h w I u hv
 cases hv with
 | trl _ _ _ h1 hz=>
  refine .trl _ _ _ ?_ hz
  rw[<- hl]
  exact SubV.trs h w I u h1
end Go.Wk
end
noncomputable section
open Go Go.AM Go.Md Go.Wk
namespace Go.Co
set_option maxRecDepth 100000
set_option maxHeartbeats 400000
structure Grow1{X:Type}(sz bw b:Nat)(e:X->List AV)(n:Nat)(pick:Nat->Option X)(L:Nat->AV->Heap->Int->Option AV):Prop where
 e0:∀ j,L (j+1) .nils [] (n:Int)=some .nils
 e1:∀ j f,L (j+1) (.sl sz b 0 1 1) [.seq true sz 1 f] (n:Int)=some (.tr sz 1 fun i=>f i)
 en:∀ j m f,L (j+1) (.sl sz b 0 m 0) [.seq true sz m f] (n:Int)=bif m.beq 0||m.ble m then some (.tr sz m fun i=>f i)else none
 s0:∀ j (i:Nat),i<n->L (j+1) .nils [] (i:Int)=match pick i with
  | some x=>L j (.sl sz b 0 1 1) [.seq true sz 1 fun k=>[e x].getD k (e x)] ((i+1:Nat):Int)
  | none=>L j .nils [] ((i+1:Nat):Int)
 s1:∀ j (i:Nat) f,i<n->L (j+1) (.sl sz b 0 1 1) [.seq true sz 1 f] (i:Int)=match pick i with
  | some x=>L j (.sl sz b 0 2 0) [.seq true sz 2 fun k=>bif k.blt 1 then f k else bif k.blt 2 then [e x].getD (k - 1) []else f 1] ((i+1:Nat):Int)
  | none=>L j (.sl sz b 0 1 1) [.seq true sz 1 f] ((i+1:Nat):Int)
 sn:∀ j (i:Nat) m f,i<n->L (j+1) (.sl sz b 0 m 0) [.seq true sz m f] (i:Int)=match pick i with
  | some x=>room1 m bw (L j (.sl sz b 0 (m+1) 0) [.seq true sz (m+1) fun k=>bif k.blt m then f k else bif k.blt (m+1)then [e x].getD (k - m) []else f m] ((i+1:Nat):Int))
  | none=>L j (.sl sz b 0 m 0) [.seq true sz m f] ((i+1:Nat):Int)
def pickL{X:Type}(pick:Nat->Option X)(n i:Nat):List X:=((List.range n).drop i).filterMap pick
theorem pickL_end{X:Type}{pick:Nat->Option X}{n:Nat}:pickL pick n n=[]:=by
 unfold pickL;rw[List.drop_eq_nil_of_le (by simp)];rfl
theorem pickL_some{X:Type}{pick:Nat->Option X}{n i:Nat}{x:X}(hi:i<n)(h:pick i=some x):pickL pick n i=x::pickL pick n (i+1):=by
 unfold pickL
 have hl:i<(List.range n).length:=by simpa using hi
 rw[List.drop_eq_getElem_cons hl,List.getElem_range,List.filterMap_cons,h]
theorem pickL_none{X:Type}{pick:Nat->Option X}{n i:Nat}(hi:i<n)(h:pick i=none):pickL pick n i=pickL pick n (i+1):=by
 unfold pickL
 have hl:i<(List.range n).length:=by simpa using hi
 rw[List.drop_eq_getElem_cons hl,List.getElem_range,List.filterMap_cons,h]
theorem Grow1.run{X:Type}{sz bw b:Nat}{e:X->List AV}{z:X}{n:Nat}{pick:Nat->Option X}{L:Nat->AV->Heap->Int->Option AV}(h:Grow1 sz bw b e n pick L)(hw:bw<=1000)(hn:n<=100000) :
  ∀ (d i m:Nat) (acc:List X),i+d=n->d<m->acc.length<=i->L m (gSl sz b acc) (gBl sz e z acc) (i:Int)=some (gTr sz e z (acc++pickL pick n i)):=by
 intro d
 induction d with
 | zero=>
  intro i m acc hi hm ha
  obtain⟨m,rfl⟩:∃ k,m=k+1:=⟨m - 1,by omega⟩
  have:i=n:=by omega
  subst this
  rw[pickL_end,List.append_nil]
  match acc with
  | []=>exact h.e0 m
  | [x]=>exact h.e1 m _
  | x::y::r=>
   have:=h.en m (x::y::r).length (canF e z (x::y::r))
   rw[orU,cond_true]at this
   exact this
 | succ d ih=>
  intro i m acc hi hm ha
  obtain⟨m,rfl⟩:∃ k,m=k+1:=⟨m - 1,by omega⟩
  have hin:i<n:=by omega
  match acc,ha with
  | [],ha=>
   show L (m+1) .nils [] (i:Int)=_
   rw[h.s0 m i hin]
   cases hp:pick i with
   | none=>rw[pickL_none hin hp];exact ih (i+1) m [] (by omega) (by omega) (by simp)
   | some x=>
    rw[pickL_some hin hp]
    simp only[]
    rw[canF_oneS (e:=e) (z:=z) x]
    exact ih (i+1) m [x] (by omega) (by omega) (by simp)
  | [y],ha=>
   show L (m+1) (.sl sz b 0 1 1) [.seq true sz 1 (canF e z [y])] (i:Int)=_
   rw[h.s1 m i _ hin]
   cases hp:pick i with
   | none=>rw[pickL_none hin hp];exact ih (i+1) m [y] (by omega) (by omega) (by simp)
   | some x=>
    rw[pickL_some hin hp]
    simp only[]
    rw[canF_app1 (e:=e) (z:=z) y x]
    exact ih (i+1) m [y,x] (by omega) (by omega) (by simp at ha ⊢;omega)
  | y::y'::r,ha=>
   show L (m+1) (.sl sz b 0 (y::y'::r).length 0) [.seq true sz (y::y'::r).length (canF e z (y::y'::r))] (i:Int)=_
   rw[h.sn m i _ _ hin]
   cases hp:pick i with
   | none=>rw[pickL_none hin hp];exact ih (i+1) m (y::y'::r) (by omega) (by omega) (by omega)
   | some x=>
    rw[pickL_some hin hp]
    simp only[]
    rw[room1_eq hw (by omega),canF_app (e:=e) (z:=z) (l:=y::y'::r) (by simp) x]
    have r0:=ih (i+1) m ((y::y'::r)++[x]) (by omega) (by omega) (by rw[List.length_append];simp at ha ⊢;omega)
    rw[gSl_app (by simp),gBl_app (by simp),List.append_assoc]at r0
    exact r0
theorem Grow1.run0{X:Type}{sz bw b:Nat}{e:X->List AV}{z:X}{n:Nat}{pick:Nat->Option X}{L:Nat->AV->Heap->Int->Option AV}(h:Grow1 sz bw b e n pick L)(hw:bw<=1000)(hn:n<=100000){m:Nat}(hm:n<m) :
  L m .nils [] ((0:Nat):Int)=some (gTr sz e z (pickL pick n 0)):=by
 have:=h.run (z:=z) hw hn n 0 m [] (by omega) hm (by simp)
 rwa [List.nil_append]at this
theorem pickL_list{X Y:Type}{l:List Y}{z:Y}{g:Y->Option X}:pickL (fun i=>g (l.getD i z)) l.length 0=l.filterMap g:=by
 unfold pickL
 rw[List.drop_zero]
 have:∀ k,k<=l.length->((List.range k).filterMap fun i=>g (l.getD i z))=(l.take k).filterMap g:=by
  intro k
  induction k with
  | zero=>intro _;simp
  | succ k ih=>
   intro hk
   rw[List.range_succ,List.filterMap_append,ih (by omega),List.take_add_one,List.filterMap_append]
   congr 1
   have hk':k<l.length:=by omega
   have e:l.getD k z=l[k]:=by simp[List.getD,List.getElem?_eq_getElem hk']
   have e2:l[k]?.toList=[l[k]]:=by simp[List.getElem?_eq_getElem hk']
   rw[e2]
   show List.filterMap (fun i=>g (l.getD i z)) [k]=List.filterMap g [l[k]]
   simp only[List.filterMap_cons,List.filterMap_nil,e]
 have h:=this l.length (Nat.le_refl _)
 rwa [List.take_length]at h
structure CConf where
 chain:Int
 susp:Int
 sess:Int
def encCf(c:CConf):List AV:=[.int .i64 3,.int .i64 c.chain,.int .i64 1,.int .i64 0,.int .i64 0,.int .i64 0,.int .i64 0,.int .i64 0,.int .i64 0,.int .i64 0,.int .i64 0,.int .i64 c.sess,.int .i64 c.susp,.int .i64 0,.int .i64 0]
def lvCo:List (Nat × Nat × List Nat):=[(F_coord_Up,0,[3,5,9,10,11,1001]),(F_place_Both,0,[1,5,8,9,10,1000]),(F_place_turn,0,[0,1,5,9,10,1000])]
def mdCo(_:Nat):Option Nat:=none
def envCo(l:List Known):Env:=envL lvCo mdCo l
theorem conCo{l:List Known}(h:∀ k ∈ l,k.Ok PG){n f:Nat}{xs:List AV}{r:AV}(e:callT (envCo l) n f xs=some r):Contract PG f xs [] r []:=callT_ok (envL_ok h) envL_code mixed e
def upP(ns:List Alive)(s:Int):List Member:=ns.filterMap fun a=>bif decide (a.missed<=s)then some a.member else none
def SUp(V:AV)(h:Heap)(c:CConf)(ns:List Alive)(i:Int):St:={fr:=[(3,.ptr 0 0 0),(5,V),(9,encAlives ns),(10,.int .i64 ns.length),(11,.int .i64 i),(1001,.undef)],hp:=.arr true 15 [encCf c]::h}
def LUp(N:Nat)(c:CConf)(ns:List Alive)(j:Nat)(V:AV)(h:Heap)(i:Int):Option AV:=LP (envCo []) N 0 F_coord_Up snK 0 [] j (SUp V h c ns i)
theorem up_in(N:Nat)(b:Bureau)(c:CConf):callT (envCo []) (N+1) F_coord_Up [.agg (encBureau b),.agg (encCf c)]=LUp N c b.nodes N .nils [] 0:=by kernel_rfl
theorem up_0(N j:Nat)(c:CConf)(ns:List Alive)(i:Int):LUp N c ns (j+1) .nils [] i =
 bif decide (i<(ns.length:Int))then rg i ns.length <| bif decide ((ns.getD i.toNat default).missed<=c.susp)then LUp N c ns j (.sl 2 1 0 1 1) [.seq true 2 1 fun k=>[encMember (ns.getD i.toNat default).member].getD k (encMember (ns.getD i.toNat default).member)] (IntKind.i64.wrap (i+1))
  else LUp N c ns j .nils [] (IntKind.i64.wrap (i+1))else some .nils:=by kernel_rfl
theorem up_1(N j:Nat)(c:CConf)(ns:List Alive)(i:Int)(f:Nat->List AV):LUp N c ns (j+1) (.sl 2 1 0 1 1) [.seq true 2 1 f] i =
 bif decide (i<(ns.length:Int))then rg i ns.length <| bif decide ((ns.getD i.toNat default).missed<=c.susp)then LUp N c ns j (.sl 2 1 0 2 0) [.seq true 2 2 fun k=>bif k.blt 1 then f k else bif k.blt 2 then [encMember (ns.getD i.toNat default).member].getD (k - 1) []else f 1] (IntKind.i64.wrap (i+1))
  else LUp N c ns j (.sl 2 1 0 1 1) [.seq true 2 1 f] (IntKind.i64.wrap (i+1))else some (.tr 2 1 fun i=>f i):=by kernel_rfl
theorem up_n(N j:Nat)(c:CConf)(ns:List Alive)(i:Int)(n:Nat)(f:Nat->List AV):LUp N c ns (j+1) (.sl 2 1 0 n 0) [.seq true 2 n f] i =
 bif decide (i<(ns.length:Int))then rg i ns.length <| bif decide ((ns.getD i.toNat default).missed<=c.susp)then room1 n 16 (LUp N c ns j (.sl 2 1 0 (n+1) 0) [.seq true 2 (n+1) fun k=>bif k.blt n then f k else bif k.blt (n+1)then [encMember (ns.getD i.toNat default).member].getD (k - n) []else f n] (IntKind.i64.wrap (i+1)))
  else LUp N c ns j (.sl 2 1 0 n 0) [.seq true 2 n f] (IntKind.i64.wrap (i+1))else bif n.beq 0||n.ble n then some (.tr 2 n fun i=>f i)else none:=by kernel_rfl
theorem up_grow(N:Nat)(c:CConf)(ns:List Alive)(hn:ns.length<=100000):Grow1 2 16 1 encMember ns.length (fun i=>(fun a:Alive=>bif decide (a.missed<=c.susp)then some a.member else none) (ns.getD i default)) (LUp N c ns) where
 e0 j:=by rw[up_0,decide_eq_false (by omega),cond_false]
 e1 j f:=by rw[up_1,decide_eq_false (by omega),cond_false]
 en j m f:=by rw[up_n,decide_eq_false (by omega),cond_false]
 s0 j i hi:=by
  rw[up_0,decide_eq_true (by omega),cond_true,rg_eq hi,Int.toNat_natCast,wrapS (by omega)]
  dsimp only
  cases decide ((ns.getD i default).missed<=c.susp) <;> rfl
 s1 j i f hi:=by
  rw[up_1,decide_eq_true (by omega),cond_true,rg_eq hi,Int.toNat_natCast,wrapS (by omega)]
  dsimp only
  cases decide ((ns.getD i default).missed<=c.susp) <;> rfl
 sn j i m f hi:=by
  rw[up_n,decide_eq_true (by omega),cond_true,rg_eq hi,Int.toNat_natCast,wrapS (by omega)]
  dsimp only
  cases decide ((ns.getD i default).missed<=c.susp) <;> rfl
abbrev BC:=Bureau × CConf
theorem up_con(p:BC)(h:p.1.nodes.length<=100000):Contract PG F_coord_Up [.agg (encBureau p.1),.agg (encCf p.2)] [] (encMembers (upP p.1.nodes p.2.susp)) []:=by
 obtain⟨b,c⟩:=p
 have hN:∃ N,N=200000:=⟨_,rfl⟩
 obtain⟨N,hN⟩:=hN
 have r:=(up_grow N c b.nodes h).run0 (z:=default) (by omega) h (m:=N) (by simp only at h ⊢;omega)
 rw[pickL_list (l:=b.nodes) (z:=default) (g:=fun a:Alive=>bif decide (a.missed<=c.susp)then some a.member else none)]at r
 exact(conCo ank (n:=N+1) ((up_in N b c).trans r)).res (gTr_sub _)
def dBC(a:List AV):BC:=(decBureau (argC a 0),⟨getI (argC a 1) 1,getI (argC a 1) 12,getI (argC a 1) 11⟩)
def eBC(p:BC):List AV:=[.agg (encBureau p.1),.agg (encCf p.2)]
def pBC(p:BC):Prop:=p.1.nodes.length<=100000
theorem dBC_eq(p:BC):dBC (eBC p)=p:=by
 show(decBureau (encBureau p.1),(⟨p.2.chain,p.2.susp,p.2.sess⟩:CConf))=p
 rw[dec_encBureau]
def kUp:Known:=.spec F_coord_Up dBC pBC eBC (fun p=>encMembers (upP p.1.nodes p.2.susp))
theorem kUp_ok:kUp.Ok PG:=Known.spec_ok up_con
def inUp(up:List Member)(m:Member):Bool:=decide (0<=idx up m)
def bothP(l up:List Member):List Member:=l.filterMap fun m=>bif inUp up m then some m else none
def SBo(V:AV)(h:Heap)(up l:List Member)(i:Int):St:={fr:=[(1,encMembers up),(5,V),(8,encMembers l),(9,.int .i64 l.length),(10,.int .i64 i),(1000,.undef)],hp:=h}
def LBo(N:Nat)(up l:List Member)(j:Nat)(V:AV)(h:Heap)(i:Int):Option AV:=LP (envCo [kIndex]) N 0 F_place_Both snK 0 [] j (SBo V h up l i)
def gIx{R:Type}(l:List Member)(m:Member)(k:List Member × Member->Option R):Option R:=gC decLM preLM encLM [encMembers l,.agg (encMember m)] k
theorem bo_in(N:Nat)(up l:List Member):callT (envCo [kIndex]) (N+1) F_place_Both [encMembers l,encMembers up]=LBo N up l N .nils [] 0:=by kernel_rfl
theorem bo_0(N j:Nat)(up l:List Member)(i:Int):LBo N up l (j+1) .nils [] i =
 bif decide (i<(l.length:Int))then rg i l.length <| gIx up (l.getD i.toNat default) fun y=>bif inUp y.1 y.2 then LBo N up l j (.sl 2 0 0 1 1) [.seq true 2 1 fun k=>[encMember (l.getD i.toNat default)].getD k (encMember (l.getD i.toNat default))] (IntKind.i64.wrap (i+1))
  else LBo N up l j .nils [] (IntKind.i64.wrap (i+1))else some .nils:=by kernel_rfl
theorem bo_1(N j:Nat)(up l:List Member)(i:Int)(f:Nat->List AV):LBo N up l (j+1) (.sl 2 0 0 1 1) [.seq true 2 1 f] i =
 bif decide (i<(l.length:Int))then rg i l.length <| gIx up (l.getD i.toNat default) fun y=>bif inUp y.1 y.2 then LBo N up l j (.sl 2 0 0 2 0) [.seq true 2 2 fun k=>bif k.blt 1 then f k else bif k.blt 2 then [encMember (l.getD i.toNat default)].getD (k - 1) []else f 1] (IntKind.i64.wrap (i+1))
  else LBo N up l j (.sl 2 0 0 1 1) [.seq true 2 1 f] (IntKind.i64.wrap (i+1))else some (.tr 2 1 fun i=>f i):=by kernel_rfl
theorem bo_n(N j:Nat)(up l:List Member)(i:Int)(n:Nat)(f:Nat->List AV):LBo N up l (j+1) (.sl 2 0 0 n 0) [.seq true 2 n f] i =
 bif decide (i<(l.length:Int))then rg i l.length <| gIx up (l.getD i.toNat default) fun y=>bif inUp y.1 y.2 then room1 n 16 (LBo N up l j (.sl 2 0 0 (n+1) 0) [.seq true 2 (n+1) fun k=>bif k.blt n then f k else bif k.blt (n+1)then [encMember (l.getD i.toNat default)].getD (k - n) []else f n] (IntKind.i64.wrap (i+1)))
  else LBo N up l j (.sl 2 0 0 n 0) [.seq true 2 n f] (IntKind.i64.wrap (i+1))else bif n.beq 0||n.ble n then some (.tr 2 n fun i=>f i)else none:=by kernel_rfl
theorem bo_grow(N:Nat)(up l:List Member)(hu:up.length<=LB)(hn:l.length<=100000):Grow1 2 16 0 encMember l.length (fun i=>(fun m:Member=>bif inUp up m then some m else none) (l.getD i default)) (LBo N up l) where
 e0 j:=by rw[bo_0,decide_eq_false (by omega),cond_false]
 e1 j f:=by rw[bo_1,decide_eq_false (by omega),cond_false]
 en j m f:=by rw[bo_n,decide_eq_false (by omega),cond_false]
 s0 j i hi:=by
  rw[bo_0,decide_eq_true (by omega),cond_true,rg_eq hi,Int.toNat_natCast,wrapS (by omega)]
  unfold gIx
  rw[qLM hu]
  dsimp only
  cases inUp up (l.getD i default) <;> rfl
 s1 j i f hi:=by
  rw[bo_1,decide_eq_true (by omega),cond_true,rg_eq hi,Int.toNat_natCast,wrapS (by omega)]
  unfold gIx
  rw[qLM hu]
  dsimp only
  cases inUp up (l.getD i default) <;> rfl
 sn j i m f hi:=by
  rw[bo_n,decide_eq_true (by omega),cond_true,rg_eq hi,Int.toNat_natCast,wrapS (by omega)]
  unfold gIx
  rw[qLM hu]
  dsimp only
  cases inUp up (l.getD i default) <;> rfl
abbrev MM:=List Member × List Member
def dMM(a:List AV):MM:=(decL decMember (a.getD 0 .nils),decL decMember (a.getD 1 .nils))
def eMM2(p:MM):List AV:=[encMembers p.1,encMembers p.2]
def pMM(p:MM):Prop:=p.1.length<=100000/\p.2.length<=100000
theorem both_con(p:MM)(h:pMM p):Contract PG F_place_Both (eMM2 p) [] (encMembers (bothP p.1 p.2)) []:=by
 obtain⟨l,up⟩:=p
 obtain⟨h1,h2⟩:=h
 have hN:∃ N,N=200000:=⟨_,rfl⟩
 obtain⟨N,hN⟩:=hN
 have hup:up.length<=LB:=by unfold LB;simp only at h2;omega
 have r:=(bo_grow N up l hup h1).run0 (z:=default) (by omega) h1 (m:=N) (by simp only at h1 ⊢;omega)
 rw[pickL_list (l:=l) (z:=default) (g:=fun m:Member=>bif inUp up m then some m else none)]at r
 exact(conCo (ak kIndex_ok ank) (n:=N+1) ((bo_in N up l).trans r)).res (gTr_sub _)
def kBoth:Known:=.spec F_place_Both dMM pMM eMM2 (fun p=>encMembers (bothP p.1 p.2))
theorem kBoth_ok:kBoth.Ok PG:=Known.spec_ok both_con
theorem isup_eq(up:List Member)(m:Member):callT (envCo [kIndex]) 9 F_coord_isUp [encMembers up,.agg (encMember m)]=gIx up m fun y=>some (.bool (inUp y.1 y.2)):=by kernel_rfl
def md2(f:Nat):Option Nat:=bif nmem f [F_slices_IndexFunc_api_Member,F_slices_ContainsFunc_api_Member,F_slices_IndexFunc_api_Alive,F_slices_ContainsFunc_api_Alive,F_coord_isUp,F_coord_frozen,F_coord_best,F_coord_desk_may,F_coord_desk_gone,F_coord_desk_grows,F_coord_oneUp,F_coord_oneDown,F_coord_Up,F_place_Both,F_place_Lead,F_place_Chain,F_place_turn]then some 0 else none
def envC2(l:List Known):Env:=envL lvCo md2 l
theorem conC2{l:List Known}(h:∀ k ∈ l,k.Ok PG){n f:Nat}{xs:List AV}{r:AV}(e:callT (envC2 l) n f xs=some r):Contract PG f xs [] r []:=callT_ok (envL_ok h) envL_code mixed e
def SIx3(L cl:AV)(n:Nat)(i:Int):St:={fr:=[(0,L),(1,cl),(7,.int .i64 n),(8,.int .i64 i)],hp:=[]}
def ixFrom{X:Type}(P:X->Bool):List X->Nat->Int
 | [],_=>-1
 | x::r,i=>bif P x then(i:Int)else ixFrom P r (i+1)
theorem ixFrom_any{X:Type}{P:X->Bool}:∀ (l:List X) (i:Nat),decide (0<=ixFrom P l i)=l.any P
 | [],i=>rfl
 | x::r,i=>by
  rw[List.any_cons]
  show decide (0<=bif P x then(i:Int)else ixFrom P r (i+1))=_
  cases P x with
  | true=>rw[cond_true,Bool.true_or];exact decide_eq_true (by omega)
  | false=>rw[cond_false,Bool.false_or];exact ixFrom_any r (i+1)
structure Clo{X Y:Type}(FI:Nat)(eL:List X->AV)(z:X)(cl:Y->AV)(P:Y->X->Bool)(pre:Y->Prop)(ks:List Known):Prop where
 hin:∀ N l y,callT (envC2 ks) (N+6) FI [eL l,cl y]=LP (envC2 ks) (N+5) 0 FI snK 0 [] (N+5) (SIx3 (eL l) (cl y) l.length 0)
 hst:∀ N j l y i,pre y->LP (envC2 ks) (N+5) 0 FI snK 0 [] (j+1) (SIx3 (eL l) (cl y) l.length i)=bif decide (i<(l.length:Int))then rg i l.length <|
  bif P y (l.getD i.toNat z)then some (.int .i64 i)else LP (envC2 ks) (N+5) 0 FI snK 0 [] j (SIx3 (eL l) (cl y) l.length (IntKind.i64.wrap (i+1)))else some (.int .i64 (-1))
theorem Clo.con{X Y:Type}{FI:Nat}{eL:List X->AV}{z:X}{cl:Y->AV}{P:Y->X->Bool}{pre:Y->Prop}{ks:List Known}(h:Clo FI eL z cl P pre ks)(hk:∀ k ∈ ks,k.Ok PG){l:List X}{y:Y}(hl:l.length<=100000)(hy:pre y) :
  Contract PG FI [eL l,cl y] [] (.int .i64 (ixFrom (P y) l 0)) []:=by
 have hN:∃ N,N=200000:=⟨_,rfl⟩
 obtain⟨N,hN⟩:=hN
 refine conC2 hk ((h.hin N l y).trans ?_)
 have run:∀ d i m,i+d=l.length->d<m->LP (envC2 ks) (N+5) 0 FI snK 0 [] m (SIx3 (eL l) (cl y) l.length (i:Nat))=some (.int .i64 (ixFrom (P y) (l.drop i) i)):=by
  intro d
  induction d with
  | zero=>
   intro i m hi hm
   obtain⟨m,rfl⟩:∃ k,m=k+1:=⟨m - 1,by omega⟩
   rw[h.hst N m l y _ hy,decide_eq_false (by omega),cond_false,List.drop_eq_nil_of_le (by omega)];rfl
  | succ d ih=>
   intro i m hi hm
   obtain⟨m,rfl⟩:∃ k,m=k+1:=⟨m - 1,by omega⟩
   have hil:i<l.length:=by omega
   rw[h.hst N m l y _ hy,decide_eq_true (by omega),cond_true,rg_eq hil,Int.toNat_natCast,wrapS (by omega),ih (i+1) m (by omega) (by omega),drop_cons (z:=z) hil]
   show _=some (AV.int .i64 (bif P y (l.getD i z)then(i:Int)else ixFrom (P y) (l.drop (i+1)) (i+1)))
   cases P y (l.getD i z) <;> rfl
 have:=run l.length 0 (N+5) (by omega) (by omega)
 rw[List.drop_zero]at this
 exact this
def fnD(up:List Member):AV:=.fn (.func F_coord_oneDown_c1) [] [.tp [encMembers up] 0]
def fnU(up:List Member):AV:=.fn (.func F_coord_oneUp_c1) [] [.tp [encMembers up] 0]
def preUp(up:List Member):Prop:=up.length<=LB
theorem isup_con(p:LM)(h:preLM p):Contract PG F_coord_isUp (encLM p) [] (.bool (inUp p.1 p.2)) []:=conCo (ak kIndex_ok ank) ((isup_eq p.1 p.2).trans (by unfold gIx;rw[qLM h]))
def kIsUp:Known:=.spec F_coord_isUp decLM preLM encLM (fun p=>.bool (inUp p.1 p.2))
theorem kIsUp_ok:kIsUp.Ok PG:=Known.spec_ok isup_con
theorem cloD_st(N j:Nat)(l up:List Member)(i:Int):LP (envC2 [kIsUp]) (N+5) 0 F_slices_IndexFunc_api_Member snK 0 [] (j+1) (SIx3 (encMembers l) (fnD up) l.length i)=bif decide (i<(l.length:Int))then rg i l.length <|
  gIx up (l.getD i.toNat default) fun y=>bif !inUp y.1 y.2 then some (.int .i64 i)else LP (envC2 [kIsUp]) (N+5) 0 F_slices_IndexFunc_api_Member snK 0 [] j (SIx3 (encMembers l) (fnD up) l.length (IntKind.i64.wrap (i+1)))else some (.int .i64 (-1)):=by kernel_rfl
theorem cloU_st(N j:Nat)(l up:List Member)(i:Int):LP (envC2 [kIsUp]) (N+5) 0 F_slices_IndexFunc_api_Member snK 0 [] (j+1) (SIx3 (encMembers l) (fnU up) l.length i)=bif decide (i<(l.length:Int))then rg i l.length <|
  gIx up (l.getD i.toNat default) fun y=>bif inUp y.1 y.2 then some (.int .i64 i)else LP (envC2 [kIsUp]) (N+5) 0 F_slices_IndexFunc_api_Member snK 0 [] j (SIx3 (encMembers l) (fnU up) l.length (IntKind.i64.wrap (i+1)))else some (.int .i64 (-1)):=by kernel_rfl
theorem gIx_eq{R:Type}{l:List Member}{m:Member}{k:LM->Option R}(h:l.length<=LB):gIx l m k=k (l,m):=qLM h
theorem cloD:Clo F_slices_IndexFunc_api_Member encMembers default fnD (fun up m=>!inUp up m) preUp [kIsUp] where
 hin N l y:=by kernel_rfl
 hst N j l y i h:=by rw[cloD_st,gIx_eq h]
theorem cloU:Clo F_slices_IndexFunc_api_Member encMembers default fnU (fun up m=>inUp up m) preUp [kIsUp] where
 hin N l y:=by kernel_rfl
 hst N j l y i h:=by rw[cloU_st,gIx_eq h]
def eLD(p:MM):List AV:=[encMembers p.1,fnD p.2]
def eLU(p:MM):List AV:=[encMembers p.1,fnU p.2]
def dLF(a:List AV):MM:=(decL decMember (a.getD 0 .nils),match a.getD 1 .nils with
 | .fn _ _ [.tp [c] _]=>decL decMember c
 | _=>[])
theorem dLF_D(p:MM):dLF (eLD p)=p:=by
 show(decL decMember (encMembers p.1),decL decMember (encMembers p.2))=p
 rw[decMembers,decMembers]
theorem dLF_U(p:MM):dLF (eLU p)=p:=by
 show(decL decMember (encMembers p.1),decL decMember (encMembers p.2))=p
 rw[decMembers,decMembers]
theorem pMM_up{p:MM}(h:pMM p):preUp p.2:=by have:=h.2;unfold preUp LB;omega
def kIxD:Known:=.spec F_slices_IndexFunc_api_Member dLF pMM eLD (fun p=>.int .i64 (ixFrom (fun m=>!inUp p.2 m) p.1 0))
theorem kIxD_ok:kIxD.Ok PG:=Known.spec_ok fun p h=>cloD.con (ak kIsUp_ok ank) h.1 (pMM_up h)
def kIxU:Known:=.spec F_slices_IndexFunc_api_Member dLF pMM eLU (fun p=>.int .i64 (ixFrom (fun m=>inUp p.2 m) p.1 0))
theorem kIxU_ok:kIxU.Ok PG:=Known.spec_ok fun p h=>cloU.con (ak kIsUp_ok ank) h.1 (pMM_up h)
theorem ctD_eq(l up:List Member):callT (envC2 [kIxD]) 9 F_slices_ContainsFunc_api_Member [encMembers l,fnD up]=gC dLF pMM eLD [encMembers l,fnD up] fun p=>some (.bool (decide (0<=ixFrom (fun m=>!inUp p.2 m) p.1 0))):=by kernel_rfl
theorem ctU_eq(l up:List Member):callT (envC2 [kIxU]) 9 F_slices_ContainsFunc_api_Member [encMembers l,fnU up]=gC dLF pMM eLU [encMembers l,fnU up] fun p=>some (.bool (decide (0<=ixFrom (fun m=>inUp p.2 m) p.1 0))):=by kernel_rfl
theorem ctD_con(p:MM)(h:pMM p):Contract PG F_slices_ContainsFunc_api_Member (eLD p) [] (.bool (p.1.any fun m=>!inUp p.2 m)) []:=by
 refine conC2 (ak kIxD_ok ank) ((ctD_eq p.1 p.2).trans ((gC_eq p (dLF_D p) h (.refl _)).trans ?_))
 rw[ixFrom_any]
theorem ctU_con(p:MM)(h:pMM p):Contract PG F_slices_ContainsFunc_api_Member (eLU p) [] (.bool (p.1.any fun m=>inUp p.2 m)) []:=by
 refine conC2 (ak kIxU_ok ank) ((ctU_eq p.1 p.2).trans ((gC_eq p (dLF_U p) h (.refl _)).trans ?_))
 rw[ixFrom_any]
def kCtD:Known:=.spec F_slices_ContainsFunc_api_Member dLF pMM eLD (fun p=>.bool (p.1.any fun m=>!inUp p.2 m))
def kCtU:Known:=.spec F_slices_ContainsFunc_api_Member dLF pMM eLU (fun p=>.bool (p.1.any fun m=>inUp p.2 m))
theorem kCtD_ok:kCtD.Ok PG:=Known.spec_ok ctD_con
theorem kCtU_ok:kCtU.Ok PG:=Known.spec_ok ctU_con
theorem od_eq(l up:List Member):callT (envC2 [kCtD]) 9 F_coord_oneDown [encMembers l,encMembers up]=gC dLF pMM eLD [encMembers l,fnD up] fun p=>some (.bool (p.1.any fun m=>!inUp p.2 m)):=by kernel_rfl
theorem ou_eq(l up:List Member):callT (envC2 [kCtU]) 9 F_coord_oneUp [encMembers l,encMembers up]=gC dLF pMM eLU [encMembers l,fnU up] fun p=>some (.bool (p.1.any fun m=>inUp p.2 m)):=by kernel_rfl
theorem od_con(p:MM)(h:pMM p):Contract PG F_coord_oneDown (eMM2 p) [] (.bool (p.1.any fun m=>!inUp p.2 m)) []:=conC2 (ak kCtD_ok ank) ((od_eq p.1 p.2).trans (gC_eq p (dLF_D p) h (.refl _)))
theorem ou_con(p:MM)(h:pMM p):Contract PG F_coord_oneUp (eMM2 p) [] (.bool (p.1.any fun m=>inUp p.2 m)) []:=conC2 (ak kCtU_ok ank) ((ou_eq p.1 p.2).trans (gC_eq p (dLF_U p) h (.refl _)))
def kOneDown:Known:=.spec F_coord_oneDown dMM pMM eMM2 (fun p=>.bool (p.1.any fun m=>!inUp p.2 m))
def kOneUp:Known:=.spec F_coord_oneUp dMM pMM eMM2 (fun p=>.bool (p.1.any fun m=>inUp p.2 m))
theorem kOneDown_ok:kOneDown.Ok PG:=Known.spec_ok od_con
theorem kOneUp_ok:kOneUp.Ok PG:=Known.spec_ok ou_con
def zMsgC:List AV:=[AV.int IntKind.i64 0,AV.int IntKind.i64 0,AV.int IntKind.i64 0,AV.int IntKind.i64 0,AV.int IntKind.i64 0,AV.int IntKind.i64 0,AV.int IntKind.i64 0,AV.int IntKind.i64 0,AV.int IntKind.i64 0,AV.int IntKind.i64 0,AV.int IntKind.i64 0,AV.int IntKind.i64 0,AV.bool false,AV.bool false,AV.str [],AV.str [],AV.cplx FloatKind.f64 0 0,AV.cplx FloatKind.f64 0 0,AV.int IntKind.i64 0,AV.str [],AV.str [],AV.str [],AV.bool false,AV.nils,AV.nils,AV.nils,AV.cplx FloatKind.f64 0 0,AV.cplx FloatKind.f64 0 0,AV.int IntKind.i64 0,AV.nils,AV.nils]
theorem zMsg_sub:SubC zMsgC (encMsg default):=subC_all (by repeat' (first | exact trivial | exact nilsL | exact SubV.refl _ | refine⟨?_,?_⟩))
def isFz(m:Member)(f:Msg):Bool:=decide (f.src=m.node)&&decide (f.sboot=m.boot)
def frozenL:List Msg->Member->Msg × Bool
 | [],_=>(default,false)
 | f::r,m=>bif isFz m f then(f,true)else frozenL r m
def frozenP(k:Work)(m:Member):Msg × Bool:=frozenL k.froze m
abbrev WM:=Work × Member
def dWM(a:List AV):WM:=(decWork (argC a 0),decMember (argC a 1))
def eWM(p:WM):List AV:=[.agg (encWork p.1),.agg (encMember p.2)]
def pWM(p:WM):Prop:=p.1.froze.length<=100000
theorem dWM_eq(p:WM):dWM (eWM p)=p:=by
 show(decWork (encWork p.1),decMember (encMember p.2))=p
 rw[dec_encWork,dec_encMember]
def tFz(p:Msg × Bool):AV:=.tup [.agg (encMsg p.1),.bool p.2]
def SFz(k:Work)(m:Member)(i:Int):St:={fr:=[(3,.ptr 0 0 0),(4,.ptr 1 0 0),(9,encMsgs k.froze),(10,.int .i64 k.froze.length),(11,.int .i64 i)],hp:=[.arr true 2 [encMember m],.arr true 31 [zMsgC]]}
theorem fz_in(N:Nat)(k:Work)(m:Member):callT (envC2 []) (N+1) F_coord_frozen [.agg (encWork k),.agg (encMember m)]=LP (envC2 []) N 0 F_coord_frozen snK 0 [] N (SFz k m 0):=by kernel_rfl
theorem fz_st(N j:Nat)(k:Work)(m:Member)(i:Int):LP (envC2 []) N 0 F_coord_frozen snK 0 [] (j+1) (SFz k m i) =
 bif decide (i<(k.froze.length:Int))then rg i k.froze.length <| bif decide ((k.froze.getD i.toNat default).src=m.node)then bif decide ((k.froze.getD i.toNat default).sboot=m.boot)then some (.tup [.agg (encMsg (k.froze.getD i.toNat default)),.bool true])
   else LP (envC2 []) N 0 F_coord_frozen snK 0 [] j (SFz k m (IntKind.i64.wrap (i+1)))else LP (envC2 []) N 0 F_coord_frozen snK 0 [] j (SFz k m (IntKind.i64.wrap (i+1)))
 else some (.tup [.agg zMsgC,.bool false]):=by kernel_rfl
theorem fz_con(p:WM)(h:pWM p):Contract PG F_coord_frozen (eWM p) [] (tFz (frozenP p.1 p.2)) []:=by
 obtain⟨k,m⟩:=p
 have h:k.froze.length<=100000:=h
 have hN:∃ N,N=200000:=⟨_,rfl⟩
 obtain⟨N,hN⟩:=hN
 have run:∀ d i j,i+d=k.froze.length->d<j -> ∃ v,LP (envC2 []) N 0 F_coord_frozen snK 0 [] j (SFz k m (i:Nat))=some v/\SubV v (tFz (frozenL (k.froze.drop i) m)):=by
  intro d
  induction d with
  | zero=>
   intro i j hi hj
   obtain⟨j,rfl⟩:∃ q,j=q+1:=⟨j - 1,by omega⟩
   rw[fz_st,decide_eq_false (by omega),cond_false,List.drop_eq_nil_of_le (by omega)]
   exact⟨_,rfl,.tup (subC_all ⟨.agg zMsg_sub,.refl _,trivial⟩)⟩
  | succ d ih=>
   intro i j hi hj
   obtain⟨j,rfl⟩:∃ q,j=q+1:=⟨j - 1,by omega⟩
   have hil:i<k.froze.length:=by omega
   rw[fz_st,decide_eq_true (by omega),cond_true,rg_eq hil,Int.toNat_natCast,wrapS (by omega),drop_cons (z:=default) hil]
   show ∃ v,_=some v/\SubV v (tFz (bif isFz m (k.froze.getD i default)then(k.froze.getD i default,true)else frozenL (k.froze.drop (i+1)) m))
   unfold isFz
   cases decide ((k.froze.getD i default).src=m.node)with
   | false=>exact ih (i+1) j (by omega) (by omega)
   | true=>
    cases decide ((k.froze.getD i default).sboot=m.boot)with
    | false=>exact ih (i+1) j (by omega) (by omega)
    | true=>exact⟨_,rfl,.refl _⟩
 obtain⟨v,h1,h2⟩:=run k.froze.length 0 N (by omega) (by omega)
 rw[List.drop_zero]at h2
 exact(conC2 ank (n:=N+1) ((fz_in N k m).trans h1)).res h2
def kFrozen:Known:=.spec F_coord_frozen dWM pWM eWM (fun p=>tFz (frozenP p.1 p.2))
theorem kFrozen_ok:kFrozen.Ok PG:=Known.spec_ok fz_con
def gFz{R:Type}(k:Work)(m:Member)(K:WM->Option R):Option R:=gC dWM pWM eWM [.agg (encWork k),.agg (encMember m)] K
theorem gFz_eq{R:Type}{k:Work}{m:Member}{K:WM->Option R}(h:k.froze.length<=100000):gFz k m K=K (k,m):=gC_eq (k,m) (dWM_eq (k,m)) h (.refl _)
def kn3:List Known:=[kFrozen,kAhead]
theorem kn3_ok:∀ k ∈ kn3,k.Ok PG:=ak kFrozen_ok (ak kAhead_ok ank)
def ableP(k:Work)(base:Int)(m:Member):Bool:=(frozenP k m).2&&((frozenP k m).1.has && !decide ((frozenP k m).1.a<base))
def isBet(t f:Msg):Bool:=decide (t.a<f.a)||(decide (f.a=t.a)&&vlt t.ver f.ver)
def bestStep(k:Work)(base:Int)(acc:Option (Member × Msg))(m:Member):Option (Member × Msg):=
 bif ableP k base m then match acc with
  | none=>some (m,(frozenP k m).1)
  | some (x,t)=>bif isBet t (frozenP k m).1 then some (m,(frozenP k m).1)else some (x,t)
 else acc
def bestP(k:Work)(base:Int):Option (Member × Msg):=k.keep.foldl (bestStep k base) none
def SBe(k:Work)(base:Int)(first:List AV)(top:List AV)(found:Bool)(i:Int):St:={fr:=[(1,.int .i64 base),(2,.ptr 0 0 0),(4,.ptr 1 0 0),(6,.ptr 2 0 0),(7,.ptr 3 0 0),(8,.bool found),(14,encMembers k.keep),(15,.int .i64 k.keep.length),(16,.int .i64 i)],hp:=[.arr true 4 [encWork k],.arr true 2 [encMember ⟨0,0⟩],.arr true 2 [first],.arr true 31 [top]]}
def LBe(N j:Nat)(k:Work)(base:Int)(first:List AV)(top:List AV)(found:Bool)(i:Int):Option AV:=LP (envC2 kn3) N 0 F_coord_best snK 0 [] j (SBe k base first top found i)
theorem be_in(N:Nat)(k:Work)(base:Int):callT (envC2 kn3) (N+1) F_coord_best [.agg (encWork k),.int .i64 base]=LBe N N k base (encMember ⟨0,0⟩) zMsgC false 0:=by kernel_rfl
theorem be_0(N j:Nat)(k:Work)(base:Int)(i:Int):LBe N (j+1) k base (encMember ⟨0,0⟩) zMsgC false i =
 bif decide (i<(k.keep.length:Int))then rg i k.keep.length <| gFz k (k.keep.getD i.toNat default) fun y=>bif !(frozenP y.1 y.2).2 then LBe N j k base (encMember ⟨0,0⟩) zMsgC false (IntKind.i64.wrap (i+1))else
   bif !(frozenP y.1 y.2).1.has then LBe N j k base (encMember ⟨0,0⟩) zMsgC false (IntKind.i64.wrap (i+1))else bif decide ((frozenP y.1 y.2).1.a<base)then LBe N j k base (encMember ⟨0,0⟩) zMsgC false (IntKind.i64.wrap (i+1))
   else LBe N j k base (encMember (k.keep.getD i.toNat default)) (encMsg (frozenP y.1 y.2).1) true (IntKind.i64.wrap (i+1))
 else some (.tup [.agg (encMember ⟨0,0⟩),.bool false]):=by kernel_rfl
theorem be_1(N j:Nat)(k:Work)(base:Int)(x:Member)(t:Msg)(i:Int):LBe N (j+1) k base (encMember x) (encMsg t) true i =
 bif decide (i<(k.keep.length:Int))then rg i k.keep.length <| gFz k (k.keep.getD i.toNat default) fun y=>bif !(frozenP y.1 y.2).2 then LBe N j k base (encMember x) (encMsg t) true (IntKind.i64.wrap (i+1))else
   bif !(frozenP y.1 y.2).1.has then LBe N j k base (encMember x) (encMsg t) true (IntKind.i64.wrap (i+1))else bif decide ((frozenP y.1 y.2).1.a<base)then LBe N j k base (encMember x) (encMsg t) true (IntKind.i64.wrap (i+1))else
   bif decide (t.a<(frozenP y.1 y.2).1.a)then LBe N j k base (encMember (k.keep.getD i.toNat default)) (encMsg (frozenP y.1 y.2).1) true (IntKind.i64.wrap (i+1))else
   bif decide ((frozenP y.1 y.2).1.a=t.a)then gC dV2 V2 eV2 [.cplx .f64 t.ver.re t.ver.im,.cplx .f64 (frozenP y.1 y.2).1.ver.re (frozenP y.1 y.2).1.ver.im] fun z=>
    bif vlt z.1 z.2 then LBe N j k base (encMember (k.keep.getD i.toNat default)) (encMsg (frozenP y.1 y.2).1) true (IntKind.i64.wrap (i+1))else LBe N j k base (encMember x) (encMsg t) true (IntKind.i64.wrap (i+1))
   else LBe N j k base (encMember x) (encMsg t) true (IntKind.i64.wrap (i+1))
 else some (.tup [.agg (encMember x),.bool true]):=by kernel_rfl
def tBe(o:Option (Member × Msg)):AV:=.tup [.agg (encMember (match o with
 | some (x,_)=>x
 | none=>⟨0,0⟩)),.bool o.isSome]
def LBs(N j:Nat)(k:Work)(base:Int):Option (Member × Msg)->Int->Option AV
 | none,i=>LBe N j k base (encMember ⟨0,0⟩) zMsgC false i
 | some (x,t),i=>LBe N j k base (encMember x) (encMsg t) true i
abbrev WI:=Work × Int
def dWI(a:List AV):WI:=(decWork (argC a 0),getI a 1)
def eWI(p:WI):List AV:=[.agg (encWork p.1),.int .i64 p.2]
def pWI(p:WI):Prop:=p.1.froze.length<=100000/\p.1.keep.length<=100000 /\ ∀ f ∈ p.1.froze,VNum f.ver
theorem dWI_eq(p:WI):dWI (eWI p)=p:=by
 show(decWork (encWork p.1),p.2)=p
 rw[dec_encWork]
theorem frozenL_mem:∀ (l:List Msg) (m:Member),(frozenL l m).2=true->(frozenL l m).1 ∈ l
 | [],_,h=>by cases h
 | f::r,m,h=>by
  unfold frozenL at h ⊢
  cases hc:isFz m f with
  | true=>simp
  | false=>rw[hc]at h;simp only[cond_false]at h ⊢;exact List.mem_cons_of_mem _ (frozenL_mem r m h)
theorem best_con(p:WI)(h:pWI p):Contract PG F_coord_best (eWI p) [] (tBe (bestP p.1 p.2)) []:=by
 obtain⟨k,base⟩:=p
 obtain⟨h1,h2,h3⟩:=h
 have h1:k.froze.length<=100000:=h1
 have h2:k.keep.length<=100000:=h2
 have h3:∀ f ∈ k.froze,VNum f.ver:=h3
 have hN:∃ N,N=200000:=⟨_,rfl⟩
 obtain⟨N,hN⟩:=hN
 have run:∀ d i j (o:Option (Member × Msg)),(∀ x t,o=some (x,t)->VNum t.ver)->i+d=k.keep.length->d<j->LBs N j k base o (i:Nat)=some (tBe ((k.keep.drop i).foldl (bestStep k base) o)):=by
  intro d
  induction d with
  | zero=>
   intro i j o ho hi hj
   obtain⟨j,rfl⟩:∃ q,j=q+1:=⟨j - 1,by omega⟩
   rw[List.drop_eq_nil_of_le (by omega),List.foldl_nil]
   match o with
   | none=>show LBe N (j+1) k base _ _ false _=_;rw[be_0,decide_eq_false (by omega),cond_false];rfl
   | some (x,t)=>show LBe N (j+1) k base _ _ true _=_;rw[be_1,decide_eq_false (by omega),cond_false];rfl
  | succ d ih=>
   intro i j o ho hi hj
   obtain⟨j,rfl⟩:∃ q,j=q+1:=⟨j - 1,by omega⟩
   have hil:i<k.keep.length:=by omega
   have key:LBs N (j+1) k base o (i:Nat)=LBs N j k base (bestStep k base o (k.keep.getD i default)) ((i+1:Nat):Int):=by
    match o,ho with
    | none,ho=>
     show LBe N (j+1) k base _ _ false _=_
     rw[be_0,decide_eq_true (by omega),cond_true,rg_eq hil,Int.toNat_natCast,gFz_eq h1,wrapS (by omega)]
     dsimp only
     unfold bestStep ableP
     cases (frozenP k (k.keep.getD i default)).2 <;> cases (frozenP k (k.keep.getD i default)).1.has <;> cases decide ((frozenP k (k.keep.getD i default)).1.a<base) <;> rfl
    | some (x,t),ho=>
     show LBe N (j+1) k base _ _ true _=_
     rw[be_1,decide_eq_true (by omega),cond_true,rg_eq hil,Int.toNat_natCast,gFz_eq h1,wrapS (by omega)]
     dsimp only
     cases hf:(frozenP k (k.keep.getD i default)).2 with
     | false=>unfold bestStep ableP;rw[hf];rfl
     | true=>
      have hv:VNum (frozenP k (k.keep.getD i default)).1.ver:=h3 _ (frozenL_mem _ _ hf)
      have ht:VNum t.ver:=ho x t rfl
      have q:=qV2 (k:=fun z:Ver × Ver=>bif vlt z.1 z.2 then LBe N j k base (encMember (k.keep.getD i default)) (encMsg (frozenP k (k.keep.getD i default)).1) true ((i+1:Nat):Int)else LBe N j k base (encMember x) (encMsg t) true ((i+1:Nat):Int)) ht hv
      rw[q]
      unfold bestStep ableP isBet
      rw[hf]
      dsimp only
      cases (frozenP k (k.keep.getD i default)).1.has <;> cases decide ((frozenP k (k.keep.getD i default)).1.a<base) <;> cases decide (t.a<(frozenP k (k.keep.getD i default)).1.a) <;> cases decide ((frozenP k (k.keep.getD i default)).1.a=t.a) <;> cases vlt t.ver (frozenP k (k.keep.getD i default)).1.ver <;> rfl
   rw[key,drop_cons (z:=default) hil,List.foldl_cons]
   refine ih (i+1) j _ (fun x t e=>?_) (by omega) (by omega)
   unfold bestStep ableP at e
   cases hf:(frozenP k (k.keep.getD i default)).2 with
   | false=>rw[hf]at e;exact ho x t e
   | true=>
    have hv:VNum (frozenP k (k.keep.getD i default)).1.ver:=h3 _ (frozenL_mem _ _ hf)
    rw[hf]at e
    cases hc:((frozenP k (k.keep.getD i default)).1.has && !decide ((frozenP k (k.keep.getD i default)).1.a<base))with
    | false=>rw[Bool.true_and,hc]at e;exact ho x t e
    | true=>
     rw[Bool.true_and,hc,cond_true]at e
     match o,ho,e with
     | none,ho,e=>cases e;exact hv
     | some (x',t'),ho,e=>
      simp only[]at e
      cases hb:isBet t' (frozenP k (k.keep.getD i default)).1 with
      | true=>rw[hb]at e;cases e;exact hv
      | false=>rw[hb]at e;cases e;exact ho _ _ rfl
 have:=run k.keep.length 0 N none (fun x t e=>by cases e) (by omega) (by omega)
 rw[List.drop_zero]at this
 exact conC2 kn3_ok (n:=N+1) ((be_in N k base).trans this)
def kBest:Known:=.spec F_coord_best dWI pWI eWI (fun p=>tBe (bestP p.1 p.2))
theorem kBest_ok:kBest.Ok PG:=Known.spec_ok best_con
def STu(V:AV)(h:Heap)(up:List Member)(i:Int):St:={fr:=[(0,.int .i64 0),(1,encMembers up),(5,V),(9,.int .i64 up.length),(10,.int .i64 i),(1000,.undef)],hp:=h}
def LTu(N:Nat)(up:List Member)(j:Nat)(V:AV)(h:Heap)(i:Int):Option AV:=LP (envC2 []) N 0 F_place_turn snK 0 [] j (STu V h up i)
def atU(up:List Member)(i:Int):Int:=(IntKind.i64.wrap (IntKind.i64.wrap (Int.tmod 0 (up.length:Int)+i)+(up.length:Int))).tmod (up.length:Int)
def z0{R:Type}(n:Int)(k:Option R):Option R:=bif decide (n=0)then none else k
theorem z0_eq{R:Type}{n:Int}{k:Option R}(h:n ≠ 0):z0 n k=k:=by unfold z0;rw[decide_eq_false h];rfl
theorem tu_in(N:Nat)(up:List Member):callT (envC2 []) (N+1) F_place_turn [.int .i64 0,encMembers up]=LTu N up N .nils [] 0:=by kernel_rfl
theorem tu_0(N j:Nat)(up:List Member)(i:Int):LTu N up (j+1) .nils [] i=bif decide (i<(up.length:Int))then z0 (up.length:Int) <| z0 (up.length:Int) <| rg (atU up i) up.length <|
  LTu N up j (.sl 2 0 0 1 1) [.seq true 2 1 fun k=>[encMember (up.getD (atU up i).toNat default)].getD k (encMember (up.getD (atU up i).toNat default))] (IntKind.i64.wrap (i+1))else some .nils:=by kernel_rfl
theorem tu_1(N j:Nat)(up:List Member)(i:Int)(f:Nat->List AV):LTu N up (j+1) (.sl 2 0 0 1 1) [.seq true 2 1 f] i=bif decide (i<(up.length:Int))then z0 (up.length:Int) <| z0 (up.length:Int) <| rg (atU up i) up.length <|
  LTu N up j (.sl 2 0 0 2 0) [.seq true 2 2 fun k=>bif k.blt 1 then f k else bif k.blt 2 then [encMember (up.getD (atU up i).toNat default)].getD (k - 1) []else f 1] (IntKind.i64.wrap (i+1))else some (.tr 2 1 fun i=>f i):=by kernel_rfl
theorem tu_n(N j:Nat)(up:List Member)(i:Int)(n:Nat)(f:Nat->List AV):LTu N up (j+1) (.sl 2 0 0 n 0) [.seq true 2 n f] i=bif decide (i<(up.length:Int))then z0 (up.length:Int) <| z0 (up.length:Int) <| rg (atU up i) up.length <| room1 n 16 <|
  LTu N up j (.sl 2 0 0 (n+1) 0) [.seq true 2 (n+1) fun k=>bif k.blt n then f k else bif k.blt (n+1)then [encMember (up.getD (atU up i).toNat default)].getD (k - n) []else f n] (IntKind.i64.wrap (i+1))else bif n.beq 0||n.ble n then some (.tr 2 n fun i=>f i)else none:=by kernel_rfl
theorem atU_eq{up:List Member}{i:Nat}(h:i<up.length)(hl:up.length<=100000):atU up i=(i:Int):=by
 unfold atU
 rw[Int.zero_tmod,wrap64 (x:=0+(i:Int)) (by omega),wrap64 (by omega),Int.tmod_eq_emod_of_nonneg (by omega),Int.zero_add,Int.add_emod_right,Int.emod_eq_of_lt (by omega) (by omega)]
theorem tu_grow(N:Nat)(up:List Member)(hn:up.length<=100000):Grow1 2 16 0 encMember up.length (fun i=>some (up.getD i default)) (LTu N up) where
 e0 j:=by rw[tu_0,decide_eq_false (by omega),cond_false]
 e1 j f:=by rw[tu_1,decide_eq_false (by omega),cond_false]
 en j m f:=by rw[tu_n,decide_eq_false (by omega),cond_false]
 s0 j i hi:=by rw[tu_0,decide_eq_true (by omega),cond_true,z0_eq (by omega),z0_eq (by omega),atU_eq hi hn,rg_eq hi,Int.toNat_natCast,wrapS (by omega)]
 s1 j i f hi:=by rw[tu_1,decide_eq_true (by omega),cond_true,z0_eq (by omega),z0_eq (by omega),atU_eq hi hn,rg_eq hi,Int.toNat_natCast,wrapS (by omega)]
 sn j i m f hi:=by rw[tu_n,decide_eq_true (by omega),cond_true,z0_eq (by omega),z0_eq (by omega),atU_eq hi hn,rg_eq hi,Int.toNat_natCast,wrapS (by omega)]
theorem pickL_all{l:List Member}:pickL (fun i=>some (l.getD i default)) l.length 0=l:=by
 have:=pickL_list (l:=l) (z:=default) (g:=fun m:Member=>some m)
 rw[this];simp
theorem turn_con(up:List Member)(h:up.length<=100000):Contract PG F_place_turn [.int .i64 0,encMembers up] [] (encMembers up) []:=by
 have hN:∃ N,N=200000:=⟨_,rfl⟩
 obtain⟨N,hN⟩:=hN
 have r:=(tu_grow N up h).run0 (z:=default) (by omega) h (m:=N) (by omega)
 rw[pickL_all]at r
 exact(conC2 ank (n:=N+1) ((tu_in N up).trans r)).res (gTr_sub _)
def eTu(up:List Member):List AV:=[.int .i64 0,encMembers up]
def kTurn:Known:=.spec F_place_turn (fun a=>decL decMember (a.getD 1 .nils)) (fun up=>up.length<=100000) eTu (fun up=>encMembers up)
theorem kTurn_ok:kTurn.Ok PG:=Known.spec_ok turn_con
def fnC(m:Member):AV:=.fn (.func F_place_Chain_c1) [] [.tp (encMember m) 0]
def hasNode(l:List Member)(n:Int):Bool:=l.any fun k=>decide (k.node=n)
theorem cloC:Clo F_slices_IndexFunc_api_Member encMembers default fnC (fun m k=>decide (k.node=m.node)) (fun _=>True) [] where
 hin N l y:=by kernel_rfl
 hst N j l y i h:=by kernel_rfl
def dLC(a:List AV):LM:=(decL decMember (a.getD 0 .nils),match a.getD 1 .nils with
 | .fn _ _ [.tp c _]=>decMember c
 | _=>default)
def eLC(p:LM):List AV:=[encMembers p.1,fnC p.2]
def pLC(p:LM):Prop:=p.1.length<=100000
theorem dLC_eq(p:LM):dLC (eLC p)=p:=by
 show(decL decMember (encMembers p.1),decMember (encMember p.2))=p
 rw[decMembers,dec_encMember]
def kIxC:Known:=.spec F_slices_IndexFunc_api_Member dLC pLC eLC (fun p=>.int .i64 (ixFrom (fun k=>decide (k.node=p.2.node)) p.1 0))
theorem kIxC_ok:kIxC.Ok PG:=Known.spec_ok fun p h=>cloC.con ank h trivial
theorem ctC_eq(l:List Member)(m:Member):callT (envC2 [kIxC]) 9 F_slices_ContainsFunc_api_Member [encMembers l,fnC m]=gC dLC pLC eLC [encMembers l,fnC m] fun p=>some (.bool (decide (0<=ixFrom (fun k=>decide (k.node=p.2.node)) p.1 0))):=by kernel_rfl
theorem ctC_con(p:LM)(h:pLC p):Contract PG F_slices_ContainsFunc_api_Member (eLC p) [] (.bool (hasNode p.1 p.2.node)) []:=by
 refine conC2 (ak kIxC_ok ank) ((ctC_eq p.1 p.2).trans ((gC_eq p (dLC_eq p) h (.refl _)).trans ?_))
 rw[ixFrom_any];rfl
def kCtC:Known:=.spec F_slices_ContainsFunc_api_Member dLC pLC eLC (fun p=>.bool (hasNode p.1 p.2.node))
theorem kCtC_ok:kCtC.Ok PG:=Known.spec_ok ctC_con
def gCt{R:Type}(L:AV)(m:Member)(k:LM->Option R):Option R:=gC dLC pLC eLC [L,fnC m] k
theorem gCt_eq{R:Type}{l:List Member}{m:Member}{k:LM->Option R}(h:l.length<=100000):gCt (encMembers l) m k=k (l,m):=gC_eq (l,m) (dLC_eq (l,m)) h (.refl _)
theorem gCt_nil{R:Type}{m:Member}{k:LM->Option R}:gCt .nils m k=k ([],m):=gC_eq ([],m) (by show(([]:List Member),decMember (encMember m))=_;rw[dec_encMember]) (Nat.zero_le _) (.cons nilsL (.cons (.refl _) .nil))
def chainL(keep:List Member)(c:Int):List Member->List Member->List Member
 | [],out=>out
 | m::r,out=>bif decide (c<=(out.length:Int))then out else bif hasNode keep m.node then chainL keep c r out else chainL keep c r (out++[m])
def lv4:List (Nat × Nat × List Nat):=[(F_place_Chain,0,[1,3,9,16,17,18,1000])]
def md4(f:Nat):Option Nat:=bif Nat.beq f F_slices_Clone_api_Member then some 1 else md2 f
def envC4(l:List Known):Env:=envL lv4 md4 l
theorem conC4{l:List Known}(h:∀ k ∈ l,k.Ok PG){n f:Nat}{xs:List AV}{r:AV}(e:callT (envC4 l) n f xs=some r):Contract PG f xs [] r []:=callT_ok (envL_ok h) envL_code mixed e
def envB1:Env:=envL [] (fun f=>bif Nat.beq f F_slices_Clone_api_Member then some 1 else none) []
theorem cloB_eq(n:Nat)(f:Nat->List AV):callH envB1 2 F_slices_Clone_api_Member [.tr 2 (n+1) f] []=bif Nat.ble ((0+(n+1))*16) 140737488355328&&Nat.ble (0+(n+1)) 140737488355328 then some (.sl 2 0 0 (n+1) 0,[.seq true 2 (n+1) f])else none:=by kernel_rfl
theorem cloB_con(l:List Member)(h:shortL l/\l ≠ []):Contract PG F_slices_Clone_api_Member [encMembers l] [] (outBlk 2 encMember default l).1 (outBlk 2 encMember default l).2:=by
 obtain⟨h1,h2⟩:=h
 unfold shortL LB at h1
 match l,h2 with
 | x::r,_=>
  have e:=cloB_eq r.length fun i=>encMember ((x::r).getD i default)
  have hl:r.length+1<=1000000:=h1
  rw[ble_true (by omega),ble_true (by omega)]at e
  exact(callH_ok (envL_ok ank) envL_code mixed e).1
def kCloB:Known:=.specB F_slices_Clone_api_Member (dL decMember) (fun l=>shortL l/\l ≠ []) eMems (outBlk 2 encMember default)
theorem kCloB_ok:kCloB.Ok PG:=Known.specB_ok cloB_con
def gCloB{R:Type}(l:List Member)(k:List Member->Option R):Option R:=gC (dL decMember) (fun l=>shortL l/\l ≠ []) eMems [encMembers l] k
theorem gCloB_eq{R:Type}{l:List Member}{k:List Member->Option R}(h:shortL l)(h2:l ≠ []):gCloB l k=k l:=gC_eq l (decMembers l) ⟨h,h2⟩ (.refl _)
def gTu{R:Type}(l:List Member)(k:List Member->Option R):Option R:=gC (fun a=>decL decMember (a.getD 1 .nils)) (fun up=>up.length<=100000) eTu [.int .i64 0,encMembers l] k
theorem gTu_eq{R:Type}{l:List Member}{k:List Member->Option R}(h:l.length<=100000):gTu l k=k l:=gC_eq l (decMembers l) h (.refl _)
def SCh(K V:AV)(h:Heap)(up:List Member)(c:Int)(i:Int):St:={fr:=[(1,K),(3,.int .i64 c),(9,V),(16,encMembers up),(17,.int .i64 up.length),(18,.int .i64 i),(1000,.undef)],hp:=h}
def kn4:List Known:=[kCloB,kTurn,kCtC]
theorem kn4_ok:∀ k ∈ kn4,k.Ok PG:=ak kCloB_ok (ak kTurn_ok (ak kCtC_ok ank))
def kn4n:List Known:=[kTurn,kCtC]
theorem kn4n_ok:∀ k ∈ kn4n,k.Ok PG:=ak kTurn_ok (ak kCtC_ok ank)
def LCh(N j:Nat)(K:AV)(V:AV)(h:Heap)(up:List Member)(c i:Int):Option AV:=LP (envC4 kn4) (N+5) 0 F_place_Chain snK 0 [] j (SCh K V h up c i)
def LCn(N j:Nat)(V:AV)(h:Heap)(up:List Member)(c i:Int):Option AV:=LP (envC4 kn4n) (N+5) 0 F_place_Chain snK 0 [] j (SCh .nils V h up c i)
theorem pc_in(N:Nat)(k up:List Member)(c:Int):callT (envC4 kn4) (N+6) F_place_Chain [.int .i64 0,encMembers k,encMembers up,.int .i64 c]=gCloB k fun l=>gTu up fun u=>LCh N (N+5) (encMembers k) (.sl 2 0 0 l.length 0) [.seq true 2 l.length fun i=>encMember (l.getD i default)] u c 0:=by kernel_rfl
theorem pc_in0(N:Nat)(up:List Member)(c:Int):callT (envC4 kn4n) (N+6) F_place_Chain [.int .i64 0,.nils,encMembers up,.int .i64 c]=gTu up fun u=>LCn N (N+5) .nils [] u c 0:=by kernel_rfl
theorem pc_n(N j:Nat)(k up:List Member)(c:Int)(n:Nat)(f:Nat->List AV)(i:Int):LCh N (j+1) (encMembers k) (.sl 2 0 0 n 0) [.seq true 2 n f] up c i =
 bif decide (i<(up.length:Int))then rg i up.length <| bif decide (c<=(n:Int))then bif n.beq 0||n.ble n then some (.tr 2 n fun i=>f i)else none else
  gCt (encMembers k) (up.getD i.toNat default) fun y=>bif !hasNode y.1 y.2.node then room1 n 16 (LCh N j (encMembers k) (.sl 2 0 0 (n+1) 0) [.seq true 2 (n+1) fun k=>bif k.blt n then f k else bif k.blt (n+1)then [encMember (up.getD i.toNat default)].getD (k - n) []else f n] up c (IntKind.i64.wrap (i+1)))
   else LCh N j (encMembers k) (.sl 2 0 0 n 0) [.seq true 2 n f] up c (IntKind.i64.wrap (i+1))
 else bif n.beq 0||n.ble n then some (.tr 2 n fun i=>f i)else none:=by kernel_rfl
theorem pn_0(N j:Nat)(up:List Member)(c:Int)(i:Int):LCn N (j+1) .nils [] up c i =
 bif decide (i<(up.length:Int))then rg i up.length <| bif decide (c<=0)then some .nils else
  gCt .nils (up.getD i.toNat default) fun y=>bif !hasNode y.1 y.2.node then LCn N j (.sl 2 0 0 1 1) [.seq true 2 1 fun k=>[encMember (up.getD i.toNat default)].getD k (encMember (up.getD i.toNat default))] up c (IntKind.i64.wrap (i+1))
   else LCn N j .nils [] up c (IntKind.i64.wrap (i+1))
 else some .nils:=by kernel_rfl
theorem pn_1(N j:Nat)(up:List Member)(c:Int)(f:Nat->List AV)(i:Int):LCn N (j+1) (.sl 2 0 0 1 1) [.seq true 2 1 f] up c i =
 bif decide (i<(up.length:Int))then rg i up.length <| bif decide (c<=1)then some (.tr 2 1 fun i=>f i)else
  gCt .nils (up.getD i.toNat default) fun y=>bif !hasNode y.1 y.2.node then LCn N j (.sl 2 0 0 2 0) [.seq true 2 2 fun k=>bif k.blt 1 then f k else bif k.blt 2 then [encMember (up.getD i.toNat default)].getD (k - 1) []else f 1] up c (IntKind.i64.wrap (i+1))
   else LCn N j (.sl 2 0 0 1 1) [.seq true 2 1 f] up c (IntKind.i64.wrap (i+1))
 else some (.tr 2 1 fun i=>f i):=by kernel_rfl
theorem pn_n(N j:Nat)(up:List Member)(c:Int)(n:Nat)(f:Nat->List AV)(i:Int):LCn N (j+1) (.sl 2 0 0 n 0) [.seq true 2 n f] up c i =
 bif decide (i<(up.length:Int))then rg i up.length <| bif decide (c<=(n:Int))then bif n.beq 0||n.ble n then some (.tr 2 n fun i=>f i)else none else
  gCt .nils (up.getD i.toNat default) fun y=>bif !hasNode y.1 y.2.node then room1 n 16 (LCn N j (.sl 2 0 0 (n+1) 0) [.seq true 2 (n+1) fun k=>bif k.blt n then f k else bif k.blt (n+1)then [encMember (up.getD i.toNat default)].getD (k - n) []else f n] up c (IntKind.i64.wrap (i+1)))
   else LCn N j (.sl 2 0 0 n 0) [.seq true 2 n f] up c (IntKind.i64.wrap (i+1))
 else bif n.beq 0||n.ble n then some (.tr 2 n fun i=>f i)else none:=by kernel_rfl
theorem ch_run{N:Nat}{keep up:List Member}{c:Int}(hk:keep.length<=100000)(hu:up.length<=100000):∀ (d i j:Nat) (out:List Member),i+d=up.length->d<j->out.length<=100000+i ->
  LCh N j (encMembers keep) (.sl 2 0 0 out.length 0) [.seq true 2 out.length fun i=>encMember (out.getD i default)] up c (i:Nat)=some (encMembers (chainL keep c (up.drop i) out)):=by
 intro d
 induction d with
 | zero=>
  intro i j out hi hj ho
  obtain⟨j,rfl⟩:∃ q,j=q+1:=⟨j - 1,by omega⟩
  rw[pc_n,decide_eq_false (by omega),cond_false,orU,cond_true,List.drop_eq_nil_of_le (by omega)];rfl
 | succ d ih=>
  intro i j out hi hj ho
  obtain⟨j,rfl⟩:∃ q,j=q+1:=⟨j - 1,by omega⟩
  have hil:i<up.length:=by omega
  rw[pc_n,decide_eq_true (by omega),cond_true,rg_eq hil,Int.toNat_natCast,gCt_eq hk,wrapS (by omega),orU,cond_true,drop_cons (z:=default) hil]
  dsimp only
  show _=some (encMembers (bif decide (c<=(out.length:Int))then out else bif hasNode keep (up.getD i default).node then chainL keep c (up.drop (i+1)) out else chainL keep c (up.drop (i+1)) (out++[up.getD i default])))
  cases decide (c<=(out.length:Int))with
  | true=>rfl
  | false=>
   cases hasNode keep (up.getD i default).node with
   | true=>exact ih (i+1) j out (by omega) (by omega) (by omega)
   | false=>
    simp only[Bool.not_false,cond_true,cond_false]
    rw[room1_eq (by omega) (by omega)]
    have e:(fun k=>bif k.blt out.length then encMember (out.getD k default)else bif k.blt (out.length+1)then [encMember (up.getD i default)].getD (k - out.length) []else encMember (out.getD out.length default))=fun k=>encMember ((out++[up.getD i default]).getD k default):=appF_lit encMember default out [up.getD i default]
    have el:out.length+1=(out++[up.getD i default]).length:=by simp
    rw[e,el]
    exact ih (i+1) j _ (by omega) (by omega) (by simp;omega)
theorem cn_run{N:Nat}{up:List Member}{c:Int}(hu:up.length<=100000):∀ (d i j:Nat) (out:List Member),i+d=up.length->d<j->out.length<=i ->
  LCn N j (gSl 2 0 out) (gBl 2 encMember default out) up c (i:Nat)=some (gTr 2 encMember default (chainL [] c (up.drop i) out)):=by
 intro d
 induction d with
 | zero=>
  intro i j out hi hj ho
  obtain⟨j,rfl⟩:∃ q,j=q+1:=⟨j - 1,by omega⟩
  rw[List.drop_eq_nil_of_le (by omega)]
  match out with
  | []=>show LCn N (j+1) .nils [] up c _=_;rw[pn_0,decide_eq_false (by omega),cond_false];rfl
  | [x]=>show LCn N (j+1) (.sl 2 0 0 1 1) [.seq true 2 1 (canF encMember default [x])] up c _=_;rw[pn_1,decide_eq_false (by omega),cond_false];rfl
  | x::y::r=>show LCn N (j+1) (.sl 2 0 0 (x::y::r).length 0) [.seq true 2 (x::y::r).length _] up c _=_;rw[pn_n,decide_eq_false (by omega),cond_false,orU,cond_true];rfl
 | succ d ih=>
  intro i j out hi hj ho
  obtain⟨j,rfl⟩:∃ q,j=q+1:=⟨j - 1,by omega⟩
  have hil:i<up.length:=by omega
  rw[drop_cons (z:=default) hil]
  have hc:chainL [] c (up.getD i default::up.drop (i+1)) out=bif decide (c<=(out.length:Int))then out else chainL [] c (up.drop (i+1)) (out++[up.getD i default]):=rfl
  rw[hc]
  match out,ho with
  | [],ho=>
   show LCn N (j+1) .nils [] up c _=_
   rw[pn_0,decide_eq_true (by omega),cond_true,rg_eq hil,Int.toNat_natCast,gCt_nil,wrapS (by omega)]
   show(bif decide (c<=0)then _ else _)=some (gTr 2 encMember default (bif decide (c<=0)then _ else _))
   cases decide (c<=0)with
   | true=>rfl
   | false=>
    rw[cond_false,cond_false]
    show LCn N j (.sl 2 0 0 1 1) _ up c _=_
    rw[canF_oneS (e:=encMember) (z:=default)]
    exact ih (i+1) j [up.getD i default] (by omega) (by omega) (by simp)
  | [x],ho=>
   show LCn N (j+1) (.sl 2 0 0 1 1) [.seq true 2 1 (canF encMember default [x])] up c _=_
   rw[pn_1,decide_eq_true (by omega),cond_true,rg_eq hil,Int.toNat_natCast,gCt_nil,wrapS (by omega)]
   show(bif decide (c<=1)then _ else _)=some (gTr 2 encMember default (bif decide (c<=1)then _ else _))
   cases decide (c<=1)with
   | true=>rfl
   | false=>
    rw[cond_false,cond_false]
    show LCn N j (.sl 2 0 0 2 0) _ up c _=_
    rw[canF_app1 (e:=encMember) (z:=default)]
    exact ih (i+1) j [x,up.getD i default] (by omega) (by omega) (by simp at ho ⊢;omega)
  | x::y::r,ho=>
   show LCn N (j+1) (.sl 2 0 0 (x::y::r).length 0) [.seq true 2 (x::y::r).length (canF encMember default (x::y::r))] up c _=_
   rw[pn_n,decide_eq_true (by omega),cond_true,rg_eq hil,Int.toNat_natCast,gCt_nil,wrapS (by omega),orU,cond_true]
   cases decide (c<=((x::y::r).length:Int))with
   | true=>rfl
   | false=>
    rw[cond_false,cond_false]
    show room1 _ _ _=_
    rw[room1_eq (by omega) (by omega),canF_app (e:=encMember) (z:=default) (by simp)]
    have r0:=ih (i+1) j ((x::y::r)++[up.getD i default]) (by omega) (by omega) (by rw[List.length_append];simp at ho ⊢;omega)
    rw[gSl_app (by simp),gBl_app (by simp)]at r0
    exact r0
abbrev KUC:=(List Member × List Member) × Int
def eKUC(p:KUC):List AV:=[.int .i64 0,encMembers p.1.1,encMembers p.1.2,.int .i64 p.2]
def eKUn(p:KUC):List AV:=[.int .i64 0,.nils,encMembers p.1.2,.int .i64 p.2]
def dKUC(a:List AV):KUC:=((decL decMember (a.getD 1 .nils),decL decMember (a.getD 2 .nils)),getI a 3)
def pKUC(p:KUC):Prop:=p.1.1.length<=100000/\p.1.2.length<=100000/\p.1.1 ≠ []
def pKUn(p:KUC):Prop:=p.1.2.length<=100000
def chainP(keep up:List Member)(c:Int):List Member:=chainL keep c up keep
theorem chain_con(p:KUC)(h:pKUC p):Contract PG F_place_Chain (eKUC p) [] (encMembers (chainP p.1.1 p.1.2 p.2)) []:=by
 obtain⟨⟨k,up⟩,c⟩:=p
 obtain⟨h1,h2,h3⟩:=h
 have h1:k.length<=100000:=h1
 have h2:up.length<=100000:=h2
 have hN:∃ N,N=200000:=⟨_,rfl⟩
 obtain⟨N,hN⟩:=hN
 refine conC4 kn4_ok (n:=N+6) ((pc_in N k up c).trans ?_)
 rw[gCloB_eq (by unfold shortL LB;omega) h3,gTu_eq h2]
 have:=ch_run (N:=N) (keep:=k) (c:=c) h1 h2 up.length 0 (N+5) k (by omega) (by omega) (by omega)
 rw[List.drop_zero]at this
 exact this
theorem chainn_con(p:KUC)(h:pKUn p):Contract PG F_place_Chain (eKUn p) [] (encMembers (chainP [] p.1.2 p.2)) []:=by
 obtain⟨⟨k,up⟩,c⟩:=p
 have h2:up.length<=100000:=h
 have hN:∃ N,N=200000:=⟨_,rfl⟩
 obtain⟨N,hN⟩:=hN
 have r:=cn_run (N:=N) (c:=c) h2 up.length 0 (N+5) [] (by omega) (by omega) (by simp)
 rw[List.drop_zero]at r
 refine(conC4 kn4n_ok (n:=N+6) ((pc_in0 N up c).trans ?_)).res (gTr_sub (sz:=2) (e:=encMember) (z:=default) _)
 rw[gTu_eq h2]
 exact r
def Known.ifNil(i:Nat)(a b:Known):Known:={f:=a.f,ans:=fun args hp=>match args[i]? with
 | some .nils=>a.ans args hp
 | _=>b.ans args hp}
theorem Known.ifNil_ok{i:Nat}{a b:Known}(ha:a.Ok PG)(hb:b.Ok PG)(h:a.f=b.f):(Known.ifNil i a b).Ok PG:=by
 intro args hp A e hg
 have e:(match args[i]? with
  | some .nils=>a.ans args hp
  | _=>b.ans args hp)=some A:=e
 split at e
 ·exact ha args hp A e hg
 ·have:=hb args hp A e hg
  rw[<- h]at this
  exact this
def kChain:Known:=Known.ifNil 1 (.spec F_place_Chain dKUC pKUn eKUn (fun p=>encMembers (chainP [] p.1.2 p.2))) (.spec F_place_Chain dKUC pKUC eKUC (fun p=>encMembers (chainP p.1.1 p.1.2 p.2)))
theorem kChain_ok:kChain.Ok PG:=Known.ifNil_ok (Known.spec_ok chainn_con) (Known.spec_ok chain_con) rfl
theorem SubV.tp{cs cs':List AV}{j:Nat}(h:SubC cs cs'):SubV (.tp cs j) (.tp cs' j):=by
 intro w I u hv
 cases hv with
 | tp _ _ B o q uf hI hq hc h1 hr=>
  refine .tp _ _ B o q uf hI hq (fun k c e=>?_) (fun k c e=>?_) (fun k c e=>?_)
  ·obtain⟨c0,e0,_⟩:=h.get e
   exact hc k c0 e0
  ·obtain⟨c0,e0,_⟩:=h.get e
   exact h1 k c0 e0
  ·obtain⟨c0,e0,hs⟩:=h.get e
   exact hs _ _ _ (hr k c0 e0)
def isM(m x:Member):Bool:=decide (x.node=m.node)&&(decide (x.boot=m.boot)&&true)
def dropM(m:Member):List Member->List Member
 | []=>[]
 | x::r=>bif isM m x then r else x::dropM m r
def leadP(l:List Member)(m:Member):List Member:=bif l.any (isM m)then m::dropM m l else l
theorem le_1(a m:Member):callT (envC2 []) 12 F_place_Lead [encMembers [a],.agg (encMember m)]=bif isM m a then some (.trl 2 [encMember m])else some (encMembers [a]):=by kernel_rfl
theorem le_2(a b m:Member):callT (envC2 []) 12 F_place_Lead [encMembers [a,b],.agg (encMember m)] =
 bif isM m a then some (.tr 2 2 fun i=>bif i.blt 1 then [encMember m].getD i []else bif i.blt 2 then bif(i - 1).blt 1 then encMember ([a,b].getD (1+(i - 1)) default)else [AV.int IntKind.i64 0,AV.int IntKind.i64 0]else [])
 else bif isM m b then some (.tr 2 2 fun i=>bif i.blt 1 then [encMember m].getD i []else bif i.blt 2 then bif(i - 1).blt 1 then encMember ([a,b].getD (0+(i - 1)) default)else [AV.int IntKind.i64 0,AV.int IntKind.i64 0]else [])
 else some (encMembers [a,b]):=by kernel_rfl
theorem le_3(a b c m:Member):callT (envC2 []) 12 F_place_Lead [encMembers [a,b,c],.agg (encMember m)] =
 bif isM m a then some (.tr 2 3 fun i=>bif i.blt 1 then [encMember m].getD i []else bif i.blt 3 then bif(i - 1).blt 2 then encMember ([a,b,c].getD (1+(i - 1)) default)else [AV.int IntKind.i64 0,AV.int IntKind.i64 0]else [])
 else bif isM m b then some (.tr 2 3 fun i=>bif i.blt 2 then bif i.blt 1 then [encMember m].getD i []else bif i.blt 2 then bif(i - 1).blt 1 then encMember ([a,b,c].getD (0+(i - 1)) default)else [AV.int IntKind.i64 0,AV.int IntKind.i64 0]else []else bif i.blt 3 then bif(i - 2).blt 1 then encMember ([a,b,c].getD (2+(i - 2)) default)else [AV.int IntKind.i64 0,AV.int IntKind.i64 0]else [])
 else bif isM m c then some (.tr 2 3 fun i=>bif i.blt 1 then [encMember m].getD i []else bif i.blt 3 then bif(i - 1).blt 2 then encMember ([a,b,c].getD (0+(i - 1)) default)else [AV.int IntKind.i64 0,AV.int IntKind.i64 0]else [])
 else some (encMembers [a,b,c]):=by kernel_rfl
theorem lit2{f:Nat->List AV}{x y:Member}(h0:f 0=encMember x)(h1:f 1=encMember y):SubV (.tr 2 2 f) (encMembers [x,y]):=by
 show SubV (.tr 2 2 f) (.tr 2 2 fun i=>encMember ([x,y].getD i default))
 refine .trs fun i hi=>?_
 have:i=0\/i=1:=by omega
 rcases this with rfl | rfl
 ·rw[h0];exact .refl _
 ·rw[h1];exact .refl _
theorem lit3{f:Nat->List AV}{x y z:Member}(h0:f 0=encMember x)(h1:f 1=encMember y)(h2:f 2=encMember z):SubV (.tr 2 3 f) (encMembers [x,y,z]):=by
 show SubV (.tr 2 3 f) (.tr 2 3 fun i=>encMember ([x,y,z].getD i default))
 refine .trs fun i hi=>?_
 have:i=0\/i=1\/i=2:=by omega
 rcases this with rfl | rfl | rfl
 ·rw[h0];exact .refl _
 ·rw[h1];exact .refl _
 ·rw[h2];exact .refl _
def pLd(p:LM):Prop:=p.1.length<=3/\p.1 ≠ []
theorem lead_con(p:LM)(h:pLd p):Contract PG F_place_Lead (encLM p) [] (encMembers (leadP p.1 p.2)) []:=by
 obtain⟨l,m⟩:=p
 obtain⟨h1,h2⟩:=h
 match l,h1,h2 with
 | [],_,h2=>exact absurd rfl h2
 | [a],_,_=>
  have e:=le_1 a m
  unfold leadP
  simp only[List.any_cons,List.any_nil,Bool.or_false,dropM]
  cases ha:isM m a with
  | true=>rw[ha]at e;exact(conC2 ank e).res (SubV.trl_encL [m])
  | false=>rw[ha]at e;exact conC2 ank e
 | [a,b],_,_=>
  have e:=le_2 a b m
  unfold leadP
  simp only[List.any_cons,List.any_nil,Bool.or_false,dropM]
  cases ha:isM m a with
  | true=>rw[ha]at e;exact(conC2 ank e).res (lit2 rfl rfl)
  | false=>
   rw[ha]at e
   cases hb:isM m b with
   | true=>rw[hb]at e;exact(conC2 ank e).res (lit2 rfl rfl)
   | false=>rw[hb]at e;exact conC2 ank e
 | [a,b,c],_,_=>
  have e:=le_3 a b c m
  unfold leadP
  simp only[List.any_cons,List.any_nil,Bool.or_false,dropM]
  cases ha:isM m a with
  | true=>rw[ha]at e;exact(conC2 ank e).res (lit3 rfl rfl rfl)
  | false=>
   rw[ha]at e
   cases hb:isM m b with
   | true=>rw[hb]at e;exact(conC2 ank e).res (lit3 rfl rfl rfl)
   | false=>
    rw[hb]at e
    cases hc:isM m c with
    | true=>rw[hc]at e;exact(conC2 ank e).res (lit3 rfl rfl rfl)
    | false=>rw[hc]at e;exact conC2 ank e
 | _::_::_::_::_,h1,_=>simp only[List.length_cons]at h1;omega
def kLead:Known:=.spec F_place_Lead decLM pLd encLM (fun p=>encMembers (leadP p.1 p.2))
theorem kLead_ok:kLead.Ok PG:=Known.spec_ok lead_con
def dskC(b:Bureau)(c:CConf)(O:AV):List AV:=[.int .i64 b.book.sess,.int .i64 b.book.gen,encPlans b.book.shards,encAlives b.nodes,encWorks b.work,encMsgs b.opens,encMsgs b.asks,.int .i64 3,.int .i64 c.chain,.int .i64 1,.int .i64 0,.int .i64 0,.int .i64 0,.int .i64 0,.int .i64 0,.int .i64 0,.int .i64 0,.int .i64 0,.int .i64 c.sess,.int .i64 c.susp,.int .i64 0,.int .i64 0,O]
def later(m:Member)(a:Alive):Bool:=bif decide (a.member.node=m.node)then decide (m.boot<a.member.boot)else false
def goneP(ns:List Alive)(m:Member):Bool:=ns.any (later m)
def fnG(m:Member):AV:=.fn (.func F_coord_desk_gone_c1) [] [.tp (encMember m) 0]
theorem cloG_st(N j:Nat)(l:List Alive)(m:Member)(i:Int):LP (envC2 []) (N+5) 0 F_slices_IndexFunc_api_Alive snK 0 [] (j+1) (SIx3 (encAlives l) (fnG m) l.length i)=bif decide (i<(l.length:Int))then rg i l.length <|
  bif decide ((l.getD i.toNat default).member.node=m.node)then bif decide (m.boot<(l.getD i.toNat default).member.boot)then some (.int .i64 i)else LP (envC2 []) (N+5) 0 F_slices_IndexFunc_api_Alive snK 0 [] j (SIx3 (encAlives l) (fnG m) l.length (IntKind.i64.wrap (i+1)))
  else LP (envC2 []) (N+5) 0 F_slices_IndexFunc_api_Alive snK 0 [] j (SIx3 (encAlives l) (fnG m) l.length (IntKind.i64.wrap (i+1)))else some (.int .i64 (-1)):=by kernel_rfl
theorem cloG:Clo F_slices_IndexFunc_api_Alive encAlives default fnG later (fun _=>True) [] where
 hin N l y:=by kernel_rfl
 hst N j l y i h:=by
  rw[cloG_st]
  unfold later
  cases decide ((l.getD i.toNat default).member.node=y.node) <;> rfl
abbrev AM1:=List Alive × Member
def dAG(a:List AV):AM1:=(decL decAlive (a.getD 0 .nils),match a.getD 1 .nils with
 | .fn _ _ [.tp c _]=>decMember c
 | _=>default)
def eAG(p:AM1):List AV:=[encAlives p.1,fnG p.2]
def pAG(p:AM1):Prop:=p.1.length<=100000
theorem dAG_eq(p:AM1):dAG (eAG p)=p:=by
 show(decL decAlive (encAlives p.1),decMember (encMember p.2))=p
 rw[decAlives,dec_encMember]
def kIxG:Known:=.spec F_slices_IndexFunc_api_Alive dAG pAG eAG (fun p=>.int .i64 (ixFrom (later p.2) p.1 0))
theorem kIxG_ok:kIxG.Ok PG:=Known.spec_ok fun p h=>cloG.con ank h trivial
theorem ctG_eq(l:List Alive)(m:Member):callT (envC2 [kIxG]) 9 F_slices_ContainsFunc_api_Alive [encAlives l,fnG m]=gC dAG pAG eAG [encAlives l,fnG m] fun p=>some (.bool (decide (0<=ixFrom (later p.2) p.1 0))):=by kernel_rfl
theorem ctG_con(p:AM1)(h:pAG p):Contract PG F_slices_ContainsFunc_api_Alive (eAG p) [] (.bool (goneP p.1 p.2)) []:=by
 refine conC2 (ak kIxG_ok ank) ((ctG_eq p.1 p.2).trans ((gC_eq p (dAG_eq p) h (.refl _)).trans ?_))
 rw[ixFrom_any];rfl
def kCtG:Known:=.spec F_slices_ContainsFunc_api_Alive dAG pAG eAG (fun p=>.bool (goneP p.1 p.2))
theorem kCtG_ok:kCtG.Ok PG:=Known.spec_ok ctG_con
theorem gone_eq(b:Bureau)(c:CConf)(m:Member)(O:AV):callT (envC2 [kCtG]) 12 F_coord_desk_gone [.tp (dskC b c O) 0,.agg (encMember m)]=gC dAG pAG eAG [encAlives b.nodes,fnG m] fun p=>some (.bool (goneP p.1 p.2)):=by kernel_rfl
def md6(f:Nat):Option Nat:=bif Nat.beq f F_slices_Equal_api_Member then some 0 else md2 f
def envC6(l:List Known):Env:=envL lvCo md6 l
theorem conC6{l:List Known}(h:∀ k ∈ l,k.Ok PG){n f:Nat}{xs:List AV}{r:AV}(e:callT (envC6 l) n f xs=some r):Contract PG f xs [] r []:=callT_ok (envL_ok h) envL_code mixed e
structure DX where
 b:Bureau
 c:CConf
 O:AV
def encDX(x:DX):List AV:=dskC x.b x.c x.O
def dDX(cs:List AV):DX:=⟨decBureau cs,⟨getI cs 8,getI cs 19,getI cs 18⟩,cs.getD 22 .undef⟩
theorem dDX_eq(x:DX):dDX (encDX x)=x:=by
 have h:decBureau (encDX x)=x.b:=dec_encBureau x.b
 show(⟨decBureau (encDX x),⟨x.c.chain,x.c.susp,x.c.sess⟩,x.O⟩:DX)=x
 rw[h]
abbrev DM:=DX × Member
def dTpC:AV->List AV
 | .tp cs _=>cs
 | _=>[]
def dDM(a:List AV):DM:=(dDX (dTpC (a.getD 0 .undef)),decMember (argC a 1))
def eDM(p:DM):List AV:=[.tp (encDX p.1) 0,.agg (encMember p.2)]
def pDM(p:DM):Prop:=p.1.b.nodes.length<=100000
theorem dDM_eq(p:DM):dDM (eDM p)=p:=by
 show(dDX (encDX p.1),decMember (encMember p.2))=p
 rw[dDX_eq,dec_encMember]
theorem gone_con(p:DM)(h:pDM p):Contract PG F_coord_desk_gone (eDM p) [] (.bool (goneP p.1.b.nodes p.2)) []:=
 conC2 (ak kCtG_ok ank) ((gone_eq p.1.b p.1.c p.2 p.1.O).trans (gC_eq (p.1.b.nodes,p.2) (dAG_eq (p.1.b.nodes,p.2)) h (.refl _)))
def kGone:Known:=.spec F_coord_desk_gone dDM pDM eDM (fun p=>.bool (goneP p.1.b.nodes p.2))
theorem kGone_ok:kGone.Ok PG:=Known.spec_ok gone_con
def overP(k:Work)(ns:List Alive)(m:Member):Bool:=bif(frozenP k m).2 then true else goneP ns m
abbrev WD:=Work × DX
def fnO(y:WD):AV:=.fn (.func F_coord_desk_may_c1) [] [.tp (encWork y.1) 0,.tp [.tp (encDX y.2) 0] 0]
def pWD(y:WD):Prop:=y.1.froze.length<=100000/\y.2.b.nodes.length<=100000
def gGone{R:Type}(x:DX)(m:Member)(K:DM->Option R):Option R:=gC dDM pDM eDM [.tp (encDX x) 0,.agg (encMember m)] K
theorem gGone_eq{R:Type}{x:DX}{m:Member}{K:DM->Option R}(h:x.b.nodes.length<=100000):gGone x m K=K (x,m):=gC_eq (x,m) (dDM_eq (x,m)) h (.refl _)
theorem cloO_st(N j:Nat)(l:List Member)(k:Work)(x:DX)(i:Int):LP (envC2 [kFrozen,kGone]) (N+5) 0 F_slices_IndexFunc_api_Member snK 0 [] (j+1) (SIx3 (encMembers l) (fnO (k,x)) l.length i)=bif decide (i<(l.length:Int))then rg i l.length <|
  gFz k (l.getD i.toNat default) fun y=>bif(frozenP y.1 y.2).2 then some (.int .i64 i)else gGone x (l.getD i.toNat default) fun z=>bif goneP z.1.b.nodes z.2 then some (.int .i64 i)else LP (envC2 [kFrozen,kGone]) (N+5) 0 F_slices_IndexFunc_api_Member snK 0 [] j (SIx3 (encMembers l) (fnO (k,x)) l.length (IntKind.i64.wrap (i+1)))
  else some (.int .i64 (-1)):=by kernel_rfl
theorem cloO:Clo F_slices_IndexFunc_api_Member encMembers default fnO (fun y m=>overP y.1 y.2.b.nodes m) pWD [kFrozen,kGone] where
 hin N l y:=by kernel_rfl
 hst N j l y i h:=by
  obtain⟨k,x⟩:=y
  rw[cloO_st,gFz_eq h.1]
  dsimp only
  rw[gGone_eq h.2]
  unfold overP
  cases (frozenP k (l.getD i.toNat default)).2 <;> rfl
abbrev MWD:=List Member × WD
def dLO(a:List AV):MWD:=(decL decMember (a.getD 0 .nils),match a.getD 1 .nils with
 | .fn _ _ [.tp w _,.tp [.tp d _] _]=>(decWork w,dDX d)
 | _=>(default,⟨default,⟨0,0,0⟩,.undef⟩))
def eLO(p:MWD):List AV:=[encMembers p.1,fnO p.2]
def pLO(p:MWD):Prop:=p.1.length<=100000/\pWD p.2
theorem dLO_eq(p:MWD):dLO (eLO p)=p:=by
 show(decL decMember (encMembers p.1),decWork (encWork p.2.1),dDX (encDX p.2.2))=p
 rw[decMembers,dec_encWork,dDX_eq]
def kIxO:Known:=.spec F_slices_IndexFunc_api_Member dLO pLO eLO (fun p=>.int .i64 (ixFrom (fun m=>overP p.2.1 p.2.2.b.nodes m) p.1 0))
theorem kIxO_ok:kIxO.Ok PG:=Known.spec_ok fun p h=>cloO.con (ak kFrozen_ok (ak kGone_ok ank)) h.1 h.2
theorem ctO_eq(l:List Member)(y:WD):callT (envC2 [kIxO]) 9 F_slices_ContainsFunc_api_Member [encMembers l,fnO y]=gC dLO pLO eLO [encMembers l,fnO y] fun p=>some (.bool (decide (0<=ixFrom (fun m=>overP p.2.1 p.2.2.b.nodes m) p.1 0))):=by kernel_rfl
theorem ctO_con(p:MWD)(h:pLO p):Contract PG F_slices_ContainsFunc_api_Member (eLO p) [] (.bool (p.1.any fun m=>overP p.2.1 p.2.2.b.nodes m)) []:=by
 refine conC2 (ak kIxO_ok ank) ((ctO_eq p.1 p.2).trans ((gC_eq p (dLO_eq p) h (.refl _)).trans ?_))
 rw[ixFrom_any]
def kCtO:Known:=.spec F_slices_ContainsFunc_api_Member dLO pLO eLO (fun p=>.bool (p.1.any fun m=>overP p.2.1 p.2.2.b.nodes m))
theorem kCtO_ok:kCtO.Ok PG:=Known.spec_ok ctO_con
structure CB where
 e:Int
 g:Int
 p:Plan
 ns:List Alive
 k:Work
 op:List Msg
 aq:List Msg
def CB.bu(s:CB):Bureau:=⟨⟨s.e,s.g,[s.p]⟩,s.ns,[s.k],s.op,s.aq⟩
structure DS where
 s:CB
 c:CConf
 O:AV
def DS.dx(x:DS):DX:=⟨x.s.bu,x.c,x.O⟩
def encDS(x:DS):List AV:=encDX x.dx
def mayP(x:DS):Bool:=
 bif !decide (x.s.p.phase=1)then false else bif !x.s.k.fenced then false else
 bif x.s.p.fresh then bif decide (0<x.s.p.chain.length)then bif !x.s.p.chain.any (fun m=>overP x.s.k x.s.ns m)then false else decide (0<(upP x.s.ns x.c.susp).length)else decide (0<(upP x.s.ns x.c.susp).length)
 else bif x.s.k.keep.all (fun m=>(frozenP x.s.k m).2)then bif decide (0<x.s.k.keep.length)then bif(bestP x.s.k x.s.p.base).isSome then true else decide (0<(upP x.s.ns x.c.susp).length)else false else false
def kn6:List Known:=[kFrozen,kBest,kUp,kCtO]
theorem kn6_ok:∀ k ∈ kn6,k.Ok PG:=ak kFrozen_ok (ak kBest_ok (ak kUp_ok (ak kCtO_ok ank)))
def SMy(x:DS)(i:Int):St:={fr:=[(2,.ptr 0 0 0),(5,.ptr 1 0 0),(6,.ptr 2 0 0),(65,encMembers x.s.k.keep),(66,.int .i64 x.s.k.keep.length),(67,.int .i64 i)],hp:=[.arr true 1 [[.tp (encDS x) 0]],.arr true 8 [encPlan x.s.p],.arr true 4 [encWork x.s.k]]}
def gUp{R:Type}(b:Bureau)(c:CConf)(K:BC->Option R):Option R:=gC dBC pBC eBC [.agg (encBureau b),.agg (encCf c)] K
theorem gUp_eq{R:Type}{b:Bureau}{c:CConf}{K:BC->Option R}(h:b.nodes.length<=100000):gUp b c K=K (b,c):=gC_eq (b,c) (dBC_eq (b,c)) h (.refl _)
def gBe{R:Type}(k:Work)(b:Int)(K:WI->Option R):Option R:=gC dWI pWI eWI [.agg (encWork k),.int .i64 b] K
theorem gBe_eq{R:Type}{k:Work}{b:Int}{K:WI->Option R}(h:pWI (k,b)):gBe k b K=K (k,b):=gC_eq (k,b) (dWI_eq (k,b)) h (.refl _)
def gOv{R:Type}(l:List Member)(y:WD)(K:MWD->Option R):Option R:=gC dLO pLO eLO [encMembers l,fnO y] K
theorem gOv_eq{R:Type}{l:List Member}{y:WD}{K:MWD->Option R}(h:pLO (l,y)):gOv l y K=K (l,y):=gC_eq (l,y) (dLO_eq (l,y)) h (.refl _)
theorem may_in(N:Nat)(x:DS):callT (envC6 kn6) (N+9) F_coord_desk_may [.tp (encDS x) 0,.int .i64 0] =
 bif !decide (x.s.p.phase=1)then some (.bool false)else bif !x.s.k.fenced then some (.bool false)else
 bif x.s.p.fresh then bif decide (0<(x.s.p.chain.length:Int))then gOv x.s.p.chain (x.s.k,x.dx) fun y=>bif !y.1.any (fun m=>overP y.2.1 y.2.2.b.nodes m)then some (.bool false)else gUp x.s.bu x.c fun z=>some (.bool (decide (0<((upP z.1.nodes z.2.susp).length:Int))))
  else gUp x.s.bu x.c fun z=>some (.bool (decide (0<((upP z.1.nodes z.2.susp).length:Int))))
 else LP (envC6 kn6) (N+8) 0 F_coord_desk_may snK 0 [] (N+8) (SMy x 0):=by kernel_rfl
theorem may_st(N j:Nat)(x:DS)(i:Int):LP (envC6 kn6) (N+8) 0 F_coord_desk_may snK 0 [] (j+1) (SMy x i) =
 bif decide (i<(x.s.k.keep.length:Int))then rg i x.s.k.keep.length <| gFz x.s.k (x.s.k.keep.getD i.toNat default) fun y=>bif !(frozenP y.1 y.2).2 then some (.bool false)else LP (envC6 kn6) (N+8) 0 F_coord_desk_may snK 0 [] j (SMy x (IntKind.i64.wrap (i+1)))
 else gBe x.s.k x.s.p.base fun y=>bif decide (0<(x.s.k.keep.length:Int))then bif(bestP y.1 y.2).isSome then some (.bool true)else gUp x.s.bu x.c fun z=>some (.bool (decide (0<((upP z.1.nodes z.2.susp).length:Int))))else some (.bool false):=by kernel_rfl
def pDS(x:DS):Prop:=x.s.p.chain.length<=100000/\x.s.ns.length<=100000/\pWI (x.s.k,x.s.p.base)
theorem may_con(x:DS)(h:pDS x):Contract PG F_coord_desk_may [.tp (encDS x) 0,.int .i64 0] [] (.bool (mayP x)) []:=by
 obtain⟨h1,h2,h3⟩:=h
 have hf:x.s.k.froze.length<=100000:=h3.1
 have hkk:x.s.k.keep.length<=100000:=h3.2.1
 have hN:∃ N,N=200000:=⟨_,rfl⟩
 obtain⟨N,hN⟩:=hN
 refine conC6 kn6_ok (n:=N+9) ((may_in N x).trans ?_)
 unfold mayP
 have e0:decide (0<(x.s.p.chain.length:Int))=decide (0<x.s.p.chain.length):=decide_eq_decide.2 (by omega)
 have e1:decide (0<((upP x.s.ns x.c.susp).length:Int))=decide (0<(upP x.s.ns x.c.susp).length):=decide_eq_decide.2 (by omega)
 have e2:decide (0<(x.s.k.keep.length:Int))=decide (0<x.s.k.keep.length):=decide_eq_decide.2 (by omega)
 rw[gOv_eq ⟨h1,hf,h2⟩,gUp_eq h2,e0]
 dsimp only
 cases hp:decide (x.s.p.phase=1)with
 | false=>rfl
 | true=>
  cases hfe:x.s.k.fenced with
  | false=>rfl
  | true=>
   simp only[Bool.not_true,cond_false]
   cases hfr:x.s.p.fresh with
   | true=>
    rw[cond_true,cond_true]
    show(bif decide (0<x.s.p.chain.length)then bif !(x.s.p.chain.any fun m=>overP x.s.k x.s.ns m)then some (AV.bool false)else some (.bool (decide (0<((upP x.s.ns x.c.susp).length:Int))))else some (.bool (decide (0<((upP x.s.ns x.c.susp).length:Int)))))=_
    rw[e1]
    cases decide (0<x.s.p.chain.length)with
    | false=>rfl
    | true=>cases x.s.p.chain.any fun m=>overP x.s.k x.s.ns m <;> rfl
   | false=>
    rw[cond_false,cond_false]
    have run:∀ d i m,i+d=x.s.k.keep.length->d<m->LP (envC6 kn6) (N+8) 0 F_coord_desk_may snK 0 [] m (SMy x (i:Nat))=some (.bool (bif(x.s.k.keep.drop i).all (fun m=>(frozenP x.s.k m).2)then bif decide (0<x.s.k.keep.length)then bif(bestP x.s.k x.s.p.base).isSome then true else decide (0<(upP x.s.ns x.c.susp).length)else false else false)):=by
     intro d
     induction d with
     | zero=>
      intro i m hi hm
      obtain⟨m,rfl⟩:∃ k,m=k+1:=⟨m - 1,by omega⟩
      rw[may_st,decide_eq_false (by omega),cond_false,gBe_eq h3,gUp_eq h2,e2,List.drop_eq_nil_of_le (by omega)]
      show(bif decide (0<x.s.k.keep.length)then bif(bestP x.s.k x.s.p.base).isSome then some (AV.bool true)else some (.bool (decide (0<((upP x.s.ns x.c.susp).length:Int))))else some (.bool false))=_
      rw[e1]
      cases decide (0<x.s.k.keep.length)with
      | false=>rfl
      | true=>cases (bestP x.s.k x.s.p.base).isSome <;> rfl
     | succ d ih=>
      intro i m hi hm
      obtain⟨m,rfl⟩:∃ k,m=k+1:=⟨m - 1,by omega⟩
      have hil:i<x.s.k.keep.length:=by omega
      rw[may_st,decide_eq_true (by omega),cond_true,rg_eq hil,Int.toNat_natCast,gFz_eq hf,wrapS (by omega),ih (i+1) m (by omega) (by omega),drop_cons (z:=default) hil,List.all_cons]
      dsimp only
      cases (frozenP x.s.k (x.s.k.keep.getD i default)).2 <;> rfl
    have:=run x.s.k.keep.length 0 (N+8) (by omega) (by omega)
    rw[List.drop_zero]at this
    exact this
abbrev Ask:=Int × Int
def encAsk(a:Ask):List AV:=[.int .i64 0,.int .i64 a.1,.int .i64 0,.int .i64 0,.int .i64 0,.int .i64 0,.int .i64 0,.int .i64 0,.int .i64 0,.int .i64 a.2,.int .i64 0,.int .i64 0,.bool false,.bool false,.str [],.str [],.cplx .f64 0 0,.cplx .f64 0 0,.int .i64 0,.str [],.str [],.str [],.bool false,.nils,.nils,.nils,.cplx .f64 0 0,.cplx .f64 0 0,.int .i64 0,.nils,.nils]
def decAsk(cs:List AV):Ask:=(getI cs 1,getI cs 9)
def encAsks(l:List Ask):AV:=encL 31 encAsk (0,0) l
def fnW:AV:=.fn (.func F_coord_desk_wasReset_c1) [] [.ptr 1 0 0]
def blkA(l:List Ask):BS:=.seq true 31 l.length fun i=>encAsk (l.getD i (0,0))
def clrA(l:List Ask):BS:=.seq true 31 l.length fun i=>bif i.blt (0+l.length)then zMsgC else encAsk (l.getD i (0,0))
def envWa(l:List Known):Env:=envL [] (fun f=>bif nmem f [F_slices_DeleteFunc_api_Msg,F_slices_IndexFunc_api_Msg]then some 5 else md6 f) l
theorem conW{l:List Known}(h:∀ k ∈ l,k.Ok PG){n f:Nat}{args:List AV}{hp:Heap}{r:AV}{hp':Heap}(e:callH (envWa l) n f args hp=some (r,hp')):Contract PG f args hp r hp'/\hp.length<=hp'.length:=callH_ok (envL_ok h) envL_code mixed e
def cel0:BS:=.seq true 1 1 fun i=>[[AV.int .i64 0]].getD i [.int .i64 0]
def hpA(l:List Ask):Heap:=[blkA l,cel0]
def eDlA(l:List Ask):List AV × Heap:=([.sl 31 0 0 l.length 0,fnW],hpA l)
def dDlA(_:List AV)(h:Heap):List Ask:=match hget h 0 with
 | .seq _ _ n f=>(List.range n).map fun i=>decAsk (f i)
 | _=>[]
theorem dDlA_eq(l:List Ask):dDlA (eDlA l).1 (eDlA l).2=l:=decL_encL (e:=encAsk) (d:=decAsk) (z:=(0,0)) (sz:=31) (fun _=>rfl) l
def pDlA(l:List Ask):Prop:=l.length<=100000/\l ≠ []
theorem ixA_0(l:List Ask):callH (envWa []) 9 F_slices_IndexFunc_api_Msg [.sl 31 0 0 l.length 0,fnW] (hpA l) =
 bif decide (0<(l.length:Int))then bif decide (0<(l.length:Int))then bif Nat.blt 0 l.length then some (.int .i64 0,hpA l)else none else none else some (.int .i64 (-1),hpA l):=by kernel_rfl
theorem ixA_con(l:List Ask)(h:pDlA l):Contract PG F_slices_IndexFunc_api_Msg (eDlA l).1 (eDlA l).2 (.int .i64 0) (hpA l)/\(eDlA l).2.length<=(hpA l).length:=by
 have hp:0<l.length:=List.length_pos_iff.2 h.2
 refine conW ank ((ixA_0 l).trans ?_)
 rw[decide_eq_true (by omega),blt_true hp];rfl
def kIxA:Known:=.specH F_slices_IndexFunc_api_Msg dDlA pDlA eDlA (fun l=>(.int .i64 0,hpA l))
theorem kIxA_ok:kIxA.Ok PG:=Known.specH_ok ixA_con
def gIxA{R:Type}(l:List Ask)(K:List Ask->Option R):Option R:=gCH dDlA pDlA eDlA (eDlA l).1 (eDlA l).2 K
theorem gIxA_eq{R:Type}{l:List Ask}{K:List Ask->Option R}(h:pDlA l):gIxA l K=K l:=gCH_eq l (dDlA_eq l) h rfl
def SDf(l:List Ask)(i j:Int):St:={fr:=[(0,.sl 31 0 0 l.length 0),(1,fnW),(5,.int .i64 i),(6,.int .i64 j)],hp:=hpA l}
def LDf(N m:Nat)(l:List Ask)(j:Int):Option (AV × Heap):=LP (envWa [kIxA]) (N+3) 2 F_slices_DeleteFunc_api_Msg (hnK 2) 0 [] m (SDf l 0 j)
def SDg(n:Nat)(l:List Ask)(j:Int):St:={fr:=[(0,.sl 31 0 0 n 0),(1,fnW),(5,.int .i64 0),(6,.int .i64 j)],hp:=hpA l}
theorem dl_0(N:Nat)(l:List Ask):callH (envWa [kIxA]) (N+1) F_slices_DeleteFunc_api_Msg [.sl 31 0 0 l.length 0,fnW] (hpA l)=gIxA l fun y=>LP (envWa [kIxA]) N 2 F_slices_DeleteFunc_api_Msg (hnK 2) 0 [] N (SDg l.length y 1):=by kernel_rfl
theorem dl_st(N m:Nat)(l:List Ask)(j:Int):LDf N (m+1) l j =
 bif decide (j<(l.length:Int))then rg j l.length <| bif(0+j.toNat).blt l.length then LDf N m l (IntKind.i64.wrap (j+1))else none
 else bif l.length.beq 0 then some (.sl 31 0 0 0 0,[blkA l,cel0])else bif(0+l.length).ble l.length then some (.sl 31 0 0 0 0,[clrA l,cel0])else none:=by kernel_rfl
def oDlA(l:List Ask):AV × Heap:=(.sl 31 0 0 0 0,[clrA l,cel0])
theorem dlA_con(l:List Ask)(h:pDlA l):Contract PG F_slices_DeleteFunc_api_Msg (eDlA l).1 (eDlA l).2 (oDlA l).1 (oDlA l).2/\(eDlA l).2.length<=(oDlA l).2.length:=by
 obtain⟨h1,h2⟩:=h
 have hp:0<l.length:=List.length_pos_iff.2 h2
 have hN:∃ N,N=200000:=⟨_,rfl⟩
 obtain⟨N,hN⟩:=hN
 have run:∀ d j m,j+d=l.length->d<m->LDf N m l (j:Nat)=some (.sl 31 0 0 0 0,[clrA l,cel0]):=by
  intro d
  induction d with
  | zero=>
   intro j m hj hm
   obtain⟨m,rfl⟩:∃ k,m=k+1:=⟨m - 1,by omega⟩
   rw[dl_st,decide_eq_false (by omega),cond_false,AM.beq_false (by omega),cond_false,ble_true (by omega),cond_true]
  | succ d ih=>
   intro j m hj hm
   obtain⟨m,rfl⟩:∃ k,m=k+1:=⟨m - 1,by omega⟩
   rw[dl_st,decide_eq_true (by omega),cond_true,rg_eq (by omega),Int.toNat_natCast,blt_true (by omega),cond_true,wrapS (by omega)]
   exact ih (j+1) m (by omega) (by omega)
 have r:=run (l.length - 1) 1 (N+3) (by omega) (by omega)
 refine conW (ak kIxA_ok ank) (n:=N+3+1) ((dl_0 (N+3) l).trans ?_)
 rw[gIxA_eq ⟨h1,h2⟩]
 exact r
def kDelA:Known:=.specH F_slices_DeleteFunc_api_Msg dDlA pDlA eDlA oDlA
theorem kDelA_ok:kDelA.Ok PG:=Known.specH_ok dlA_con
def gDelA{R:Type}(l:List Ask)(K:List Ask->Option R):Option R:=gCH dDlA pDlA eDlA (eDlA l).1 (eDlA l).2 K
theorem gDelA_eq{R:Type}{l:List Ask}{K:List Ask->Option R}(h:pDlA l):gDelA l K=K l:=gCH_eq l (dDlA_eq l) h rfl
def dsk(e g:Int)(Sh Ns Wk Op Aq:AV)(c:CConf)(O:AV):List AV:=[.int .i64 e,.int .i64 g,Sh,Ns,Wk,Op,Aq,.int .i64 3,.int .i64 c.chain,.int .i64 1,.int .i64 0,.int .i64 0,.int .i64 0,.int .i64 0,.int .i64 0,.int .i64 0,.int .i64 0,.int .i64 0,.int .i64 c.sess,.int .i64 c.susp,.int .i64 0,.int .i64 0,O]
def mdR(f:Nat):Option Nat:=bif nmem f [F_slices_DeleteFunc_api_Msg,F_coord_desk_wasReset]then some 5 else md6 f
def sft(nb:Bool):Nat:=bif nb then 1 else 0
def lvR(nb:Bool):List (Nat × Nat × List Nat):=[(F_coord_desk_wasReset,0,[0,3,10,11,12,1004+sft nb,1005+sft nb])]
def envR(nb:Bool)(l:List Known):Env:=envL (lvR nb) mdR l
inductive LN (X:Type) where
 | nil
 | emp
 | ne (a:X) (t:List X)
def LN.l{X:Type}:LN X->List X
 | .nil=>[]
 | .emp=>[]
 | .ne a t=>a::t
def LN.av{X:Type}(sz:Nat)(e:X->List AV)(z:X):LN X->AV
 | .nil=>.nils
 | .emp=>.trl sz []
 | .ne a t=>encL sz e z (a::t)
def dLN{X:Type}(d:List AV->X):AV->LN X
 | .nils=>.nil
 | .tr _ n f=>match n with
  | 0=>.emp
  | k+1=>.ne (d (f 0)) ((List.range k).map fun i=>d (f (i+1)))
 | _=>.emp
theorem dLN_eq{X:Type}{sz:Nat}{e:X->List AV}{d:List AV->X}{z:X}(h:∀ x,d (e x)=x)(x:LN X):dLN d (x.av sz e z)=x:=by
 cases x with
 | nil=>rfl
 | emp=>rfl
 | ne a t=>
  show LN.ne (d (e a)) ((List.range t.length).map fun i=>d (e (t.getD i z)))=LN.ne a t
  rw[h a,show(List.range t.length).map (fun i=>d (e (t.getD i z)))=t from decL_encL (e:=e) (d:=d) (z:=z) (sz:=sz) h t]
def opV(l:List Msg):AV:=.tn 31 l.length fun i=>encMsg (l.getD i default)
def dOp:AV->List Msg
 | .tn _ n f=>(List.range n).map fun i=>decMsg (f i)
 | _=>[]
theorem dOp_eq(l:List Msg):dOp (opV l)=l:=decL_encL (e:=encMsg) (d:=decMsg) (z:=default) (sz:=31) dec_encMsg l
structure WR where
 e:Int
 g:Int
 p:Plan
 ns:List Alive
 nb:Bool
 op:List Msg
 l:List Ask
 c:CConf
def wk0:List AV:=[.bool false,.nils,.nils,.bool false]
def blkN(l:List Alive):BS:=.seq false 3 l.length fun i=>encAlive (l.getD i default)
def hpD(nb:Bool)(e g:Int)(ns:List Alive)(Op Aq O:AV)(c:CConf)(P W:List AV)(A:List BS):Heap:=
 bif nb then .arr true 23 [dsk e g (.sl 8 1 0 1 1) (.sl 3 2 0 ns.length 0) (.sl 4 3 0 1 1) Op Aq c O] :: .arr true 8 [P]::blkN ns :: .arr true 4 [W]::A
 else .arr true 23 [dsk e g (.sl 8 1 0 1 1) (encAlives ns) (.sl 4 2 0 1 1) Op Aq c O] :: .arr true 8 [P] :: .arr true 4 [W]::A
def hpW(x:WR)(Aq O:AV)(A:BS):Heap:=hpD x.nb x.e x.g x.ns (opV x.op) Aq O x.c (encPlan x.p) wk0 [A]
def ansC(a:Ask):List AV:=[.int .i64 22,.int .i64 1,.int .i64 a.1,.int .i64 0,.int .i64 0,.int .i64 0,.int .i64 0,.int .i64 0,.int .i64 0,.int .i64 a.2,.int .i64 0,.int .i64 0,.bool false,.bool false,.str [],.str [],.cplx .f64 0 0,.cplx .f64 0 0,.int .i64 0,.str [],.str [],.str [],.bool false,.nils,.nils,.nils,.cplx .f64 0 0,.cplx .f64 0 0,.int .i64 0,.nils,.nils]
def SW1(x:WR)(f:Nat->List AV)(i:Int):St:={fr:=[(0,.ptr 0 0 0),(3,.ptr (5+sft x.nb) 0 0),(10,.sl 31 (3+sft x.nb) 0 x.l.length 0),(11,.int .i64 x.l.length),(12,.int .i64 i),(1004+sft x.nb,.undef),(1005+sft x.nb,.undef)],hp:=hpW x (.sl 31 (3+sft x.nb) 0 x.l.length 0) (.sl 31 (4+sft x.nb) 0 1 1) (blkA x.l)++[.seq true 31 1 f,cel0]}
def SWn(x:WR)(n:Nat)(f:Nat->List AV)(i:Int):St:={fr:=[(0,.ptr 0 0 0),(3,.ptr (6+sft x.nb) 0 0),(10,.sl 31 (3+sft x.nb) 0 x.l.length 0),(11,.int .i64 x.l.length),(12,.int .i64 i),(1004+sft x.nb,.undef),(1005+sft x.nb,.undef)],hp:=hpW x (.sl 31 (3+sft x.nb) 0 x.l.length 0) (.sl 31 (5+sft x.nb) 0 n 0) (blkA x.l)++[.dead,.seq true 31 n f,cel0]}
def LW(nb:Bool)(N j:Nat)(S:St):Option (AV × Heap):=LP (envR nb [kDelA]) N (5+sft nb) F_coord_desk_wasReset (hnK (5+sft nb)) 0 [] j S
def actC(p:Plan):List AV:=[.int .i64 10,.int .i64 1,.int .i64 (p.chain.getD 0 default).node,.int .i64 (p.chain.getD 0 default).boot,.int .i64 0,.int .i64 0,.int .i64 p.epoch,.int .i64 p.gen,.int .i64 0,.int .i64 0,.int .i64 0,.int .i64 0,.bool false,.bool p.fresh,.str [],.str [],.cplx .f64 0 0,.cplx .f64 0 0,.int .i64 0,.str [],.str [],.str [],.bool false,.nils,encMembers p.chain,.nils,.cplx .f64 0 0,.cplx .f64 0 0,.int .i64 0,.nils,.nils]
theorem wr_in(N:Nat)(x:WR):callH (envR x.nb [kDelA]) (N+1) F_coord_desk_wasReset [.ptr 0 0 0,.int .i64 0] (hpW x (.sl 31 (3+sft x.nb) 0 x.l.length 0) (.sl 31 (4+sft x.nb) 0 1 1) (blkA x.l)++[.arr true 31 [actC x.p]])=LW x.nb N N (SW1 x (fun i=>[actC x.p].getD i (actC x.p)) 0):=by
 obtain⟨e,g,p,ns,nb,op,l,c⟩:=x
 cases nb <;> kernel_rfl
theorem wr_1(N j:Nat)(x:WR)(f:Nat->List AV)(i:Int):LW x.nb (N+5) (j+1) (SW1 x f i) =
 bif decide (i<(x.l.length:Int))then rg i x.l.length <| bif(0+i.toNat).blt x.l.length then LW x.nb (N+5) j (SWn x 2 (fun k=>bif k.blt 1 then f k else bif k.blt 2 then [ansC (x.l.getD (0+i.toNat) (0,0))].getD (k - 1) []else f 1) (IntKind.i64.wrap (i+1)))else none
 else gDelA x.l fun y=>some (.tup [],hpW x (.sl 31 (3+sft x.nb) 0 0 0) (.sl 31 (4+sft x.nb) 0 1 1) (clrA y)++[.seq true 31 1 f]):=by
 obtain⟨e,g,p,ns,nb,op,l,c⟩:=x
 cases nb <;> kernel_rfl
theorem wr_n(N j:Nat)(x:WR)(n:Nat)(f:Nat->List AV)(i:Int):LW x.nb (N+5) (j+1) (SWn x n f i) =
 bif decide (i<(x.l.length:Int))then rg i x.l.length <| bif(0+i.toNat).blt x.l.length then room1 n 392 (LW x.nb (N+5) j (SWn x (n+1) (fun k=>bif k.blt n then f k else bif k.blt (n+1)then [ansC (x.l.getD (0+i.toNat) (0,0))].getD (k - n) []else f n) (IntKind.i64.wrap (i+1))))else none
 else gDelA x.l fun y=>some (.tup [],hpW x (.sl 31 (3+sft x.nb) 0 0 0) (.sl 31 (5+sft x.nb) 0 n 0) (clrA y)++[.dead,.seq true 31 n f]):=by
 obtain⟨e,g,p,ns,nb,op,l,c⟩:=x
 cases nb <;> kernel_rfl
def idC(c:List AV):List AV:=c
def outW(x:WR):List (List AV):=actC x.p::x.l.map ansC
def eWR(x:WR):List AV × Heap:=([.ptr 0 0 0,.int .i64 0],hpW x (.sl 31 (3+sft x.nb) 0 x.l.length 0) (.sl 31 (4+sft x.nb) 0 1 1) (blkA x.l)++[.arr true 31 [actC x.p]])
def oWR(x:WR):AV × Heap:=(.tup [],hpW x (.sl 31 (3+sft x.nb) 0 0 0) (.sl 31 (5+sft x.nb) 0 (x.l.length+1) 0) (clrA x.l)++[.dead,.seq true 31 (x.l.length+1) (canF idC [] (outW x))])
def cell0(h:Heap)(b:Nat):List AV:=match hget h b with
 | .arr _ _ [c]=>c
 | _=>[]
def dAsks(h:Heap)(b:Nat):List Ask:=match hget h b with
 | .seq _ _ n f=>(List.range n).map fun i=>decAsk (f i)
 | _=>[]
def isSl:AV->Bool
 | .sl .. => true
 | _=>false
def dNs(h:Heap)(b:Nat):List Alive:=match hget h b with
 | .seq _ _ n f=>(List.range n).map fun i=>decAlive (f i)
 | _=>[]
def dWR(_:List AV)(h:Heap):WR:=let d:=cell0 h 0;let nb:=isSl (d.getD 3 .undef);⟨getI d 0,getI d 1,decPlan (cell0 h 1),bif nb then dNs h 2 else getL decAlive d 3,nb,dOp (d.getD 5 .undef),dAsks h (3+sft nb),⟨getI d 8,getI d 19,getI d 18⟩⟩
theorem dWR_eq(x:WR):dWR (eWR x).1 (eWR x).2=x:=by
 obtain⟨e,g,p,ns,nb,op,l,c⟩:=x
 have h:(List.range l.length).map (fun i=>decAsk (encAsk (l.getD i (0,0))))=l:=decL_encL (e:=encAsk) (d:=decAsk) (z:=(0,0)) (sz:=31) (fun _=>rfl) l
 have h2:(List.range ns.length).map (fun i=>decAlive (encAlive (ns.getD i default)))=ns:=decL_encL (e:=encAlive) (d:=decAlive) (z:=default) (sz:=3) dec_encAlive ns
 have h3:dOp (opV op)=op:=dOp_eq op
 cases nb with
 | false=>
  show(⟨e,g,decPlan (encPlan p),decL decAlive (encAlives ns),false,dOp (opV op),(List.range l.length).map (fun i=>decAsk (encAsk (l.getD i (0,0)))),⟨c.chain,c.susp,c.sess⟩⟩:WR)=_
  rw[dec_encPlan,decAlives,h,h3]
 | true=>
  show(⟨e,g,decPlan (encPlan p),(List.range ns.length).map (fun i=>decAlive (encAlive (ns.getD i default))),true,dOp (opV op),(List.range l.length).map (fun i=>decAsk (encAsk (l.getD i (0,0)))),⟨c.chain,c.susp,c.sess⟩⟩:WR)=_
  rw[dec_encPlan,h2,h,h3]
def pWR(x:WR):Prop:=pDlA x.l
theorem conR{nb:Bool}{l:List Known}(h:∀ k ∈ l,k.Ok PG){n f:Nat}{args:List AV}{hp:Heap}{r:AV}{hp':Heap}(e:callH (envR nb l) n f args hp=some (r,hp')):Contract PG f args hp r hp'/\hp.length<=hp'.length:=callH_ok (envL_ok h) envL_code mixed e
theorem wr_con(x:WR)(h:pWR x):Contract PG F_coord_desk_wasReset (eWR x).1 (eWR x).2 (oWR x).1 (oWR x).2/\(eWR x).2.length<=(oWR x).2.length:=by
 have hl:x.l.length<=100000:=h.1
 have hp:0<x.l.length:=List.length_pos_iff.2 h.2
 have hN:∃ N,N=200000:=⟨_,rfl⟩
 obtain⟨N,hN⟩:=hN
 refine conR (ak kDelA_ok ank) (n:=N+5+1) ((wr_in (N+5) x).trans ?_)
 have run:∀ d i j (os:List (List AV)),i+d=x.l.length->d<j->os.length=i+1->os ≠ []->LW x.nb (N+5) j (SWn x os.length (canF idC [] os) (i:Nat)) =
   some (.tup [],hpW x (.sl 31 (3+sft x.nb) 0 0 0) (.sl 31 (5+sft x.nb) 0 (x.l.length+1) 0) (clrA x.l)++[.dead,.seq true 31 (x.l.length+1) (canF idC [] (os++(x.l.drop i).map ansC))]):=by
  intro d
  induction d with
  | zero=>
   intro i j os hi hj ho hne
   obtain⟨j,rfl⟩:∃ q,j=q+1:=⟨j - 1,by omega⟩
   rw[wr_n,decide_eq_false (by omega),cond_false,gDelA_eq h,List.drop_eq_nil_of_le (by omega),List.map_nil,List.append_nil]
   have:os.length=x.l.length+1:=by omega
   rw[this]
  | succ d ih=>
   intro i j os hi hj ho hne
   obtain⟨j,rfl⟩:∃ q,j=q+1:=⟨j - 1,by omega⟩
   have hil:i<x.l.length:=by omega
   rw[wr_n,decide_eq_true (by omega),cond_true,rg_eq hil,Int.toNat_natCast,Nat.zero_add,blt_true hil,cond_true,room1_eq (by omega) (by omega),wrapS (by omega),drop_cons (z:=(0,0)) hil,List.map_cons]
   have e:=canF_app (e:=idC) (z:=[]) hne (ansC (x.l.getD i (0,0)))
   have e':(fun k=>bif k.blt os.length then canF idC [] os k else bif k.blt (os.length+1)then [ansC (x.l.getD i (0,0))].getD (k - os.length) []else canF idC [] os os.length)=canF idC [] (os++[ansC (x.l.getD i (0,0))]):=e
   have el:os.length+1=(os++[ansC (x.l.getD i (0,0))]).length:=by simp
   rw[e',el,ih (i+1) j _ (by omega) (by omega) (by simp;omega) (by simp),List.append_assoc]
   rfl
 rw[show(0:Int)=((0:Nat):Int) from rfl,show LW x.nb (N+5) (N+5) (SW1 x (fun i=>[actC x.p].getD i (actC x.p)) ((0:Nat):Int))=LW x.nb (N+5) (N+4+1) (SW1 x (fun i=>[actC x.p].getD i (actC x.p)) ((0:Nat):Int)) from rfl,wr_1,decide_eq_true (by omega),cond_true,rg_eq hp,Int.toNat_natCast,Nat.zero_add,blt_true hp,cond_true,wrapS (by omega)]
 have e0:(fun i=>[actC x.p].getD i (actC x.p))=canF idC [] [actC x.p]:=canF_oneS (e:=idC) (z:=[]) (actC x.p)
 have e1:=canF_app1 (e:=idC) (z:=[]) (actC x.p) (ansC (x.l.getD 0 (0,0)))
 have e1':(fun k=>bif k.blt 1 then [actC x.p].getD k (actC x.p)else bif k.blt 2 then [ansC (x.l.getD 0 (0,0))].getD (k - 1) []else [actC x.p].getD 1 (actC x.p))=canF idC [] [actC x.p,ansC (x.l.getD 0 (0,0))]:=by
  rw[<- e0]at e1
  exact e1
 rw[e1']
 have r:=run (x.l.length - 1) 1 (N+4) [actC x.p,ansC (x.l.getD 0 (0,0))] (by omega) (by omega) rfl (by simp)
 have r':LW x.nb (N+5) (N+4) (SWn x 2 (canF idC [] [actC x.p,ansC (x.l.getD 0 (0,0))]) ((0+1:Nat):Int))=_:=r
 rw[r']
 have hm:x.l.map ansC=ansC (x.l.getD 0 (0,0))::(x.l.drop 1).map ansC:=by
  have:=drop_cons (z:=((0,0):Ask)) hp
  rw[List.drop_zero]at this
  conv=>lhs;rw[this]
  rfl
 unfold oWR outW
 rw[hm]
 rfl
def kWas:Known:=.specH F_coord_desk_wasReset dWR pWR eWR oWR
theorem kWas_ok:kWas.Ok PG:=Known.specH_ok wr_con
def gWas{R:Type}(x:WR)(K:WR->Option R):Option R:=gCH dWR pWR eWR (eWR x).1 (eWR x).2 K
theorem gWas_eq{R:Type}{x:WR}{K:WR->Option R}(h:pWR x):gWas x K=K x:=gCH_eq x (dWR_eq x) h rfl
def env9(l:List Known):Env:=envL [] (fun f=>bif nmem f [F_slices_Clone_api_Entry,F_slices_Clone_api_Member,F_slices_Clone_api_Seen,F_twin_Views,F_twin_Msg]then some 0 else bif nmem f [F_slices_Clone_api_Msg,F_twin_Msgs]then some 1 else none) l
theorem con9{l:List Known}(h:∀ k ∈ l,k.Ok PG){n f:Nat}{xs:List AV}{r:AV}(e:callT (env9 l) n f xs=some r):Contract PG f xs [] r []:=callT_ok (envL_ok h) envL_code mixed e
theorem con9H{l:List Known}(h:∀ k ∈ l,k.Ok PG){n f:Nat}{args:List AV}{r:AV}{hp':Heap}(e:callH (env9 l) n f args []=some (r,hp')):Contract PG f args [] r hp':=(callH_ok (envL_ok h) envL_code mixed e).1
theorem vw_n:callT (env9 []) 9 F_twin_Views [.nils]=some .nils:=by kernel_rfl
theorem vw_e:callT (env9 []) 9 F_twin_Views [.trl 5 []]=some (.trl 5 []):=by kernel_rfl
theorem vw_con:Contract PG F_twin_Views [encViews []] [] (encViews []) []:=
 Contract.split (OrC.of [] [] .nil) ((con9 ank vw_n).res .nils) ((con9 ank vw_e).res (SubV.trl_encL (e:=encView) (z:=default) []))
def kVw0:Known:=.spec F_twin_Views (fun _=>()) (fun _=>True) (fun _=>[encViews []]) (fun _=>encViews [])
theorem kVw0_ok:kVw0.Ok PG:=Known.spec_ok fun _ _=>vw_con
def CpOk(m:Msg):Prop:=shortL m.entries/\shortL m.chain/\m.views=[]/\shortL m.image.log/\shortL m.image.seen
def kn9:List Known:=[kCloneEntry,kCloneMember,kCloneSeen,kVw0]
theorem kn9_ok:∀ k ∈ kn9,k.Ok PG:=ak kCloneEntry_ok (ak kCloneMember_ok (ak kCloneSeen_ok (ak kVw0_ok ank)))
theorem msg_m(m:Msg):callT (env9 kn9) 12 F_twin_Msg [.agg (encMsg m)]=gC (dL decEntry) shortL eEnts [encEntrys m.entries] fun y0=>gC (dL decMember) shortL eMems [encMembers m.chain] fun y1=>
 gC (fun _=>()) (fun _=>True) (fun _=>[encViews []]) [encViews m.views] fun _=>gC (dL decEntry) shortL eEnts [encEntrys m.image.log] fun y3=>gC (dL decSeen) shortL eSeens [encSeens m.image.seen] fun y4=>
 some (.agg (encMsg {m with entries:=y0,chain:=y1,views:=[],image:={m.image with log:=y3,seen:=y4}})):=by kernel_rfl
theorem msg_con(m:Msg)(h:CpOk m):Contract PG F_twin_Msg [.agg (encMsg m)] [] (.agg (encMsg m)) []:=by
 obtain⟨h1,h2,h3,h4,h5⟩:=h
 refine con9 kn9_ok ((msg_m m).trans ?_)
 have hv:∀ K:Unit->Option AV,gC (fun _=>()) (fun _=>True) (fun _=>[encViews []]) [encViews m.views] K=K ():=fun K=>by rw[h3];exact gC_eq () rfl trivial (.refl _)
 rw[qEnts h1,qMems h2,hv,qEnts h4,qSeens h5,<- h3]
def dM1(a:List AV):Msg:=decMsg (argC a 0)
def eM1(m:Msg):List AV:=[.agg (encMsg m)]
def kMsgM:Known:=.spec F_twin_Msg dM1 CpOk eM1 (fun m=>.agg (encMsg m))
theorem kMsgM_ok:kMsgM.Ok PG:=Known.spec_ok msg_con
theorem cloM_eq(n:Nat)(f:Nat->List AV):callH (env9 []) 2 F_slices_Clone_api_Msg [.tr 31 (n+1) f] []=bif Nat.ble ((0+(n+1))*392) 140737488355328&&Nat.ble (0+(n+1)) 140737488355328 then some (.sl 31 0 0 (n+1) 0,[.seq true 31 (n+1) f])else none:=by kernel_rfl
theorem cloM_con{n:Nat}(f:Nat->List AV)(h:n+1<=100000):Contract PG F_slices_Clone_api_Msg [.tr 31 (n+1) f] [] (.sl 31 0 0 (n+1) 0) [.seq true 31 (n+1) f]:=by
 have e:=cloM_eq n f
 rw[ble_true (by omega),ble_true (by omega)]at e
 exact con9H ank e
def dSq(a:List AV):Nat × (Nat->List AV):=match a.getD 0 .nils with
 | .tr _ n f=>(n,f)
 | _=>(0,fun _=>[])
def eSq(p:Nat × (Nat->List AV)):List AV:=[.tr 31 p.1 p.2]
def pSq(p:Nat × (Nat->List AV)):Prop:=0<p.1/\p.1<=100000
def kCloM:Known:=.specB F_slices_Clone_api_Msg dSq pSq eSq (fun p=>(.sl 31 0 0 p.1 0,[.seq true 31 p.1 p.2]))
theorem kCloM_ok:kCloM.Ok PG:=Known.specB_ok fun p h=>by
 obtain⟨n,f⟩:=p
 obtain⟨h1,h2⟩:=h
 obtain⟨n,rfl⟩:∃ k,n=k+1:=⟨n - 1,by simp only at h1;omega⟩
 exact cloM_con f h2
theorem qSq{R:Type}{n:Nat}{f:Nat->List AV}{k:Nat × (Nat->List AV)->Option R}(h:pSq (n,f)):gC dSq pSq eSq [.tr 31 n f] k=k (n,f):=gC_eq (n,f) rfl h (.refl _)
def SMs9(n:Nat)(f:Nat->List AV)(i:Int):St:={fr:=[(0,.sl 31 0 0 n 0),(7,.sl 31 0 0 n 0),(8,.int .i64 n),(9,.int .i64 i)],hp:=[.seq true 31 n f]}
def kn9m:List Known:=[kMsgM,kCloM]
theorem kn9m_ok:∀ k ∈ kn9m,k.Ok PG:=ak kMsgM_ok (ak kCloM_ok ank)
def LM9(ks:List Known)(N j n:Nat)(f:Nat->List AV)(i:Int):Option (AV × Heap):=LP (env9 ks) (N+9) 0 F_twin_Msgs (hnK 0) 0 [] j (SMs9 n f i)
theorem ms_in(N:Nat)(n:Nat)(f:Nat->List AV):callH (env9 kn9m) (N+9+1) F_twin_Msgs [.tr 31 n f] []=gC dSq pSq eSq [.tr 31 n f] fun y=>LM9 kn9m N (N+9) y.1 y.2 0:=by kernel_rfl
theorem ma_in(N:Nat)(n:Nat)(f:Nat->List AV):callH (env9 [kCloM]) (N+9+1) F_twin_Msgs [.tr 31 n f] []=gC dSq pSq eSq [.tr 31 n f] fun y=>LM9 [kCloM] N (N+9) y.1 y.2 0:=by kernel_rfl
theorem ms_st(N j n:Nat)(F:Nat->Msg)(i:Int):LM9 kn9m N (j+1) n (fun k=>encMsg (F k)) i =
 bif decide (i<(n:Int))then rg i n <| bif(0+i.toNat).blt n then gC dM1 CpOk eM1 [.agg (encMsg (F (0+i.toNat)))] fun y=>rg i n <| bif(0+i.toNat).blt n&&true then LM9 kn9m N j n (fun k=>bif k.beq (0+i.toNat)then encMsg y else encMsg (F k)) (IntKind.i64.wrap (i+1))else none else none
 else some (.sl 31 0 0 n 0,[.seq true 31 n fun k=>encMsg (F k)]):=by kernel_rfl
theorem ma_st(N j n:Nat)(F:Nat->Ask)(i:Int):LM9 [kCloM] N (j+1) n (fun k=>encAsk (F k)) i =
 bif decide (i<(n:Int))then rg i n <| bif(0+i.toNat).blt n then rg i n <| bif(0+i.toNat).blt n&&true then LM9 [kCloM] N j n (fun k=>bif k.beq (0+i.toNat)then encAsk (F (0+i.toNat))else encAsk (F k)) (IntKind.i64.wrap (i+1))else none else none
 else some (.sl 31 0 0 n 0,[.seq true 31 n fun k=>encAsk (F k)]):=by kernel_rfl
theorem fun_at{X:Type}(e:X->List AV)(F:Nat->X)(i:Nat):(fun k=>bif k.beq i then e (F i)else e (F k))=fun k=>e (F k):=by
 funext k
 cases h:k.beq i with
 | false=>rfl
 | true=>rw[Nat.eq_of_beq_eq_true h];rfl
theorem msgs_con(l:List Msg)(h:l.length<=100000/\l ≠ [] /\ ∀ m ∈ l,CpOk m):Contract PG F_twin_Msgs [encMsgs l] [] (outBlk 31 encMsg default l).1 (outBlk 31 encMsg default l).2:=by
 obtain⟨h1,h2,h3⟩:=h
 have hp:0<l.length:=List.length_pos_iff.2 h2
 have hN:∃ N,N=200000:=⟨_,rfl⟩
 obtain⟨N,hN⟩:=hN
 refine con9H kn9m_ok (n:=N+9+1) ((ms_in N l.length fun i=>encMsg (l.getD i default)).trans ?_)
 rw[qSq ⟨hp,h1⟩]
 refine up_loop (n:=l.length) (fun i m=>LM9 kn9m N m l.length (fun k=>encMsg (l.getD k default)) (i:Nat)=some ((outBlk 31 encMsg default l).1,(outBlk 31 encMsg default l).2)) (fun m=>?_) (fun i m hi ih=>?_) 0 (N+9) (Nat.zero_le _) (by omega)
 ·rw[ms_st,decide_eq_false (by omega),cond_false];rfl
 ·have q:∀ K:Msg->Option (AV × Heap),gC dM1 CpOk eM1 [.agg (encMsg (l.getD i default))] K=K (l.getD i default):=fun K=>gC_eq (l.getD i default) (dec_encMsg _) (h3 _ (getD_mem hi)) (.refl _)
  rw[ms_st,decide_eq_true (by omega),cond_true,rg_eq hi,Int.toNat_natCast,Nat.zero_add,blt_true hi,cond_true,q,rg_eq hi,Bool.and_true,cond_true,wrapS (by omega),fun_at encMsg (fun k=>l.getD k default) i]
  exact ih
theorem asks_con(l:List Ask)(h:l.length<=100000/\l ≠ []):Contract PG F_twin_Msgs [encAsks l] [] (outBlk 31 encAsk (0,0) l).1 (outBlk 31 encAsk (0,0) l).2:=by
 obtain⟨h1,h2⟩:=h
 have hp:0<l.length:=List.length_pos_iff.2 h2
 have hN:∃ N,N=200000:=⟨_,rfl⟩
 obtain⟨N,hN⟩:=hN
 refine con9H (ak kCloM_ok ank) (n:=N+9+1) ((ma_in N l.length fun i=>encAsk (l.getD i (0,0))).trans ?_)
 rw[qSq ⟨hp,h1⟩]
 refine up_loop (n:=l.length) (fun i m=>LM9 [kCloM] N m l.length (fun k=>encAsk (l.getD k (0,0))) (i:Nat)=some ((outBlk 31 encAsk (0,0) l).1,(outBlk 31 encAsk (0,0) l).2)) (fun m=>?_) (fun i m hi ih=>?_) 0 (N+9) (Nat.zero_le _) (by omega)
 ·rw[ma_st,decide_eq_false (by omega),cond_false];rfl
 ·rw[ma_st,decide_eq_true (by omega),cond_true,rg_eq hi,Int.toNat_natCast,Nat.zero_add,blt_true hi,cond_true,rg_eq hi,Bool.and_true,cond_true,wrapS (by omega),fun_at encAsk (fun k=>l.getD k (0,0)) i]
  exact ih
def isNilE:AV->Bool
 | .tr _ _ f=>match (f 0).getD 23 .undef with
  | .nils=>true
  | _=>false
 | _=>false
def Known.byE(a b:Known):Known:={f:=a.f,ans:=fun args hp=>match isNilE (args.getD 0 .undef)with
 | true=>a.ans args hp
 | false=>b.ans args hp}
theorem Known.byE_ok{a b:Known}(ha:a.Ok PG)(hb:b.Ok PG)(h:a.f=b.f):(Known.byE a b).Ok PG:=by
 intro args hp A e hg
 have e:(match isNilE (args.getD 0 .undef)with
  | true=>a.ans args hp
  | false=>b.ans args hp)=some A:=e
 cases hc:isNilE (args.getD 0 .undef)with
 | true=>rw[hc]at e;exact ha args hp A e hg
 | false=>
  rw[hc]at e
  have:=hb args hp A e hg
  rw[<- h]at this
  exact this
def dAk(a:List AV):List Ask:=decL decAsk (a.getD 0 .nils)
def pAk(l:List Ask):Prop:=l.length<=100000/\l ≠ []
def eAk(l:List Ask):List AV:=[encAsks l]
def pMs(l:List Msg):Prop:=l.length<=100000/\l ≠ [] /\ ∀ m ∈ l,CpOk m
def eMs(l:List Msg):List AV:=[encMsgs l]
def Known.onTr(a:Known):Known:={f:=a.f,ans:=fun args hp=>match args.getD 0 .undef with
 | .tr _ _ _=>a.ans args hp
 | _=>none}
theorem Known.onTr_ok{a:Known}(ha:a.Ok PG):(Known.onTr a).Ok PG:=by
 intro args hp A e hg
 have e:(match args.getD 0 .undef with
  | .tr _ _ _=>a.ans args hp
  | _=>none)=some A:=e
 split at e
 ·exact ha args hp A e hg
 ·cases e
def kMsgs:Known:=Known.onTr <| Known.byE (.specB F_twin_Msgs dAk pAk eAk (outBlk 31 encAsk (0,0))) (.specB F_twin_Msgs (dL decMsg) pMs eMs (outBlk 31 encMsg default))
theorem kMsgs_ok:kMsgs.Ok PG:=Known.onTr_ok (Known.byE_ok (Known.specB_ok asks_con) (Known.specB_ok msgs_con) rfl)
theorem qAk{R:Type}{l:List Ask}{k:List Ask->Option R}(h:pAk l):gC dAk pAk eAk [encAsks l] k=k l:=gC_eq l (decL_encL (fun _=>rfl) l) h (.refl _)
theorem qMs{R:Type}{l:List Msg}{k:List Msg->Option R}(h:pMs l):gC (dL decMsg) pMs eMs [encMsgs l] k=k l:=gC_eq l (decMsgs l) h (.refl _)
theorem clone_Alive_eq(n:Nat)(f:Nat->List AV):callT env0 2 F_slices_Clone_api_Alive [.tr 3 (n+1) f]=bif Nat.ble ((0+(n+1))*24) 140737488355328&&Nat.ble (0+(n+1)) 140737488355328 then bif Nat.ble (n+1) (n+1)then some (.tr 3 (n+1) f)else none else none:=by kernel_rfl
theorem clone_Alive(l:List Alive)(h:l.length<=LB):Contract PG F_slices_Clone_api_Alive [encAlives l] [] (encAlives l) []:=
 clone_of (b:=24) (by omega) (by kernel_rfl) (by kernel_rfl) clone_Alive_eq l h
def eAls(l:List Alive):List AV:=[encAlives l]
def kCloneAlive:Known:=.spec F_slices_Clone_api_Alive (dL decAlive) shortL eAls encAlives
theorem kCloneAlive_ok:kCloneAlive.Ok PG:=Known.spec_ok clone_Alive
def dDS(cs:List AV):DS:=let b:=decBureau cs;⟨⟨b.book.sess,b.book.gen,b.book.shards.headD default,b.nodes,b.work.headD default,b.opens,b.asks⟩,⟨getI cs 8,getI cs 19,getI cs 18⟩,cs.getD 22 .undef⟩
def dMy(a:List AV):DS:=dDS (dTpC (a.getD 0 .undef))
def eMy(x:DS):List AV:=[.tp (encDS x) 0,.int .i64 0]
def kMay:Known:=.spec F_coord_desk_may dMy pDS eMy (fun x=>.bool (mayP x))
theorem kMay_ok:kMay.Ok PG:=Known.spec_ok may_con
structure UX where
 e:Int
 g:Int
 ns:List Alive
 c:CConf
def mkU(e g:Int)(N:AV):AV:=.agg [.int .i64 e,.int .i64 g,.undef,N,.undef,.undef,.undef]
def eUX(x:UX):List AV:=[mkU x.e x.g (encAlives x.ns),.agg (encCf x.c)]
def dUX(a:List AV):UX:=⟨getI (argC a 0) 0,getI (argC a 0) 1,getL decAlive (argC a 0) 3,⟨getI (argC a 1) 1,getI (argC a 1) 12,getI (argC a 1) 11⟩⟩
theorem dUX_eq(x:UX):dUX (eUX x)=x:=by
 show(⟨x.e,x.g,decL decAlive (encAlives x.ns),⟨x.c.chain,x.c.susp,x.c.sess⟩⟩:UX)=x
 rw[decAlives]
def pUX(x:UX):Prop:=x.ns.length<=100000
theorem upm_in(N:Nat)(x:UX):callT (envCo []) (N+1) F_coord_Up (eUX x)=LUp N x.c x.ns N .nils [] 0:=by kernel_rfl
theorem upm_con(x:UX)(h:pUX x):Contract PG F_coord_Up (eUX x) [] (encMembers (upP x.ns x.c.susp)) []:=by
 have h:x.ns.length<=100000:=h
 have hN:∃ N,N=200000:=⟨_,rfl⟩
 obtain⟨N,hN⟩:=hN
 have r:=(up_grow N x.c x.ns h).run0 (z:=default) (by omega) h (m:=N) (by omega)
 rw[pickL_list (l:=x.ns) (z:=default) (g:=fun a:Alive=>bif decide (a.missed<=x.c.susp)then some a.member else none)]at r
 exact(conCo ank (n:=N+1) ((upm_in N x).trans r)).res (gTr_sub _)
def kUpM:Known:=.spec F_coord_Up dUX pUX eUX (fun x=>encMembers (upP x.ns x.c.susp))
theorem kUpM_ok:kUpM.Ok PG:=Known.spec_ok upm_con
def mdH(f:Nat):Option Nat:=bif nmem f [F_slices_DeleteFunc_api_Msg,F_coord_desk_wasReset]then some 5 else bif nmem f [F_twin_Msgs]then some 1 else bif nmem f [F_slices_Clone_api_Alive,F_slices_Clone_api_Member]then some 0 else md6 f
def envHd(l:List Known):Env:={envL [] mdH l with msk:=fun f=>bif Nat.beq f F_coord_Up then [2,4,5,6]else []}
theorem envHd_ok{l:List Known}(h:∀ k ∈ l,k.Ok PG):EnvOk PG (envHd l):=⟨tt_ok rfl,orc_ok h⟩
def gMs{R:Type}(l:List Member)(k:List Member->Option R):Option R:=gC (dL decMember) shortL eMems [encMembers l] k
theorem gMs_eq{R:Type}{l:List Member}(k:List Member->Option R)(h:shortL l):gMs l k=k l:=qMems h
structure ES where
 e:Int
 g:Int
 p:Plan
 ns:List Alive
 nb:Bool
 op:List Msg
 keep:List Member
 fz:LN Msg
 fe:Bool
 he:Bool
 l:List Ask
 c:CConf
def fzV(x:LN Msg):AV:=x.av 31 encMsg default
def wkA(s:ES):List AV:=[.bool s.fe,encMembers s.keep,fzV s.fz,.bool s.he]
def hpE(s:ES):Heap:=hpD s.nb s.e s.g s.ns (opV s.op) (.sl 31 (3+sft s.nb) 0 s.l.length 0) .nils s.c (encPlan s.p) (wkA s) [blkA s.l]
def wkE(s:ES):Work:=⟨s.fe,s.keep,s.fz.l,s.he⟩
def wrE(s:ES)(g:Int)(p:Plan):WR:=⟨s.e,g,p,s.ns,s.nb,s.op,s.l,s.c⟩
def gMayE{R:Type}(s:ES)(K:DS->Option R):Option R:=gC dMy pDS eMy [.tp (dsk s.e s.g (.trl 8 [encPlan s.p]) (encAlives s.ns) (.trl 4 [wkA s]) (opV s.op) (encAsks s.l) s.c .nils) 0,.int .i64 0] K
def gUpM{R:Type}(e g:Int)(ns:List Alive)(c:CConf)(K:UX->Option R):Option R:=gC dUX pUX eUX [mkU e g (encAlives ns),.agg (encCf c)] K
def gBeE{R:Type}(s:ES)(K:WI->Option R):Option R:=gC dWI pWI eWI [.agg (wkA s),.int .i64 s.p.base] K
def fstB(o:Option (Member × Msg)):Member:=match o with
 | some (x,_)=>x
 | none=>⟨0,0⟩
def gLd{R:Type}(l:List Member)(m:Member)(K:LM->Option R):Option R:=gC decLM pLd encLM [encMembers l,.agg (encMember m)] K
def gCh{R:Type}(k up:List Member)(c:Int)(K:KUC->Option R):Option R:=gC dKUC pKUC eKUC [.int .i64 0,encMembers k,encMembers up,.int .i64 c] K
def gChn{R:Type}(up:List Member)(c:Int)(K:KUC->Option R):Option R:=gC dKUC pKUn eKUn [.int .i64 0,.nils,encMembers up,.int .i64 c] K
def actM(p:Plan)(ch:List Member):List AV:=[.int .i64 10,.int .i64 1,.int .i64 (p.chain.getD 0 default).node,.int .i64 (p.chain.getD 0 default).boot,.int .i64 0,.int .i64 0,.int .i64 p.epoch,.int .i64 p.gen,.int .i64 0,.int .i64 0,.int .i64 0,.int .i64 0,.bool false,.bool p.fresh,.str [],.str [],.cplx .f64 0 0,.cplx .f64 0 0,.int .i64 0,.str [],.str [],.str [],.bool false,.nils,encMembers ch,.nils,.cplx .f64 0 0,.cplx .f64 0 0,.int .i64 0,.nils,.nils]
def hpT(x:WR)(O:AV)(A:List BS):Heap:=hpD x.nb x.e x.g x.ns (opV x.op) (.sl 31 (3+sft x.nb) 0 x.l.length 0) O x.c (encPlan x.p) wk0 (blkA x.l::A)
def hpF(y:WR):Heap:=hpD y.nb y.e y.g y.ns (opV y.op) (.sl 31 (3+sft y.nb) 0 0 0) (.sl 31 (4+sft y.nb) 0 (y.l.length+1) 0) y.c (encPlan y.p) wk0 [clrA y.l,.seq true 31 (y.l.length+1) (canF idC [] (outW y))]
def tailE(x:WR):Option (AV × Heap):=
 bif decide ((x.p.chain.length:Int)=0)then gCH dWR pWR eWR [.ptr 0 0 0,.int .i64 0] (hpT x .nils []) fun y=>some (.bool true,hpF y)
 else bif decide (0<(x.p.chain.length:Int))then gMs x.p.chain fun ch=>gCH dWR pWR eWR [.ptr 0 0 0,.int .i64 0] (hpT x (.sl 31 (4+sft x.nb) 0 1 1) [.arr true 31 [actM x.p ch]]) fun y=>some (.bool true,hpF y)else none
def min1(l:List Member):Int:=bif decide ((l.length:Int)<1)then(l.length:Int)else 1
def freshE(s:ES)(g gen:Int)(up:List Member):Option (AV × Heap):=
 gChn up s.c.chain fun y=>bif decide (0<=min1 (chainP [] y.1.2 y.2))&&decide (min1 (chainP [] y.1.2 y.2)<=((chainP [] y.1.2 y.2).length:Int))then
  gC (dL decMember) shortL eMems [.tr 2 (min1 (chainP [] y.1.2 y.2)).toNat fun i=>bif i.blt (min1 (chainP [] y.1.2 y.2)).toNat then encMember ((chainP [] y.1.2 y.2).getD (0+i) default)else encMember ((chainP [] y.1.2 y.2).getD (chainP [] y.1.2 y.2).length default)] fun v=>
  tailE (wrE s g {s.p with phase:=3,gen:=gen,fresh:=true,base:=s.p.epoch,chain:=chainP [] y.1.2 y.2,valid:=v})else none
def kn12:List Known:=[kMsgs,kCloneAlive,kCloneMember,kMay,kBest,kUpM,kLead,kChain,kWas]
theorem kn12_ok:∀ k ∈ kn12,k.Ok PG:=ak kMsgs_ok (ak kCloneAlive_ok (ak kCloneMember_ok (ak kMay_ok (ak kBest_ok (ak kUpM_ok (ak kLead_ok (ak kChain_ok (ak kWas_ok ank))))))))
theorem end_eq(s:ES)(hb:s.nb=false):callH (envHd kn12) 12 F_coord_desk_end [.ptr 0 0 0,.int .i64 0] (hpE s) =
 bif(s.l.length.beq 0||s.l.length.ble s.l.length)&&true&&true then gMayE s fun y0=>bif !mayP y0 then some (.bool false,hpE s)else
  gUpM s.e s.g s.ns s.c fun y1=>gBeE s fun y2=>bif(bestP y2.1 y2.2).isSome then
   bif !s.p.fresh then gLd s.keep (fstB (bestP y2.1 y2.2)) fun y3=>gCh (leadP y3.1 y3.2) (upP y1.ns y1.c.susp) s.c.chain fun y4=>gMs s.keep fun y5=>tailE (wrE s s.g {s.p with phase:=3,chain:=chainP y4.1.1 y4.1.2 y4.2,valid:=y5})
   else bif s.p.fresh then bif decide (0<(s.p.chain.length:Int))then freshE s (IntKind.i64.wrap (s.g+1)) (IntKind.i64.wrap (s.g+1)) (upP y1.ns y1.c.susp)else freshE s s.g s.p.gen (upP y1.ns y1.c.susp)
    else freshE s s.g s.p.gen (upP y1.ns y1.c.susp)
  else bif s.p.fresh then bif decide (0<(s.p.chain.length:Int))then freshE s (IntKind.i64.wrap (s.g+1)) (IntKind.i64.wrap (s.g+1)) (upP y1.ns y1.c.susp)else freshE s s.g s.p.gen (upP y1.ns y1.c.susp)
   else freshE s s.g s.p.gen (upP y1.ns y1.c.susp)
 else none:=by
 obtain⟨e,g,p,ns,nb,op,keep,fz,fe,he,l,c⟩:=s
 cases hb
 cases fz <;> kernel_rfl
theorem end_eqT(s:ES)(hb:s.nb=true):callH (envHd kn12) 12 F_coord_desk_end [.ptr 0 0 0,.int .i64 0] (hpE s) =
 bif((s.ns.length.beq 0||s.ns.length.ble s.ns.length)&&((s.l.length.beq 0||s.l.length.ble s.l.length)&&true))&&true then gMayE s fun y0=>bif !mayP y0 then some (.bool false,hpE s)else
  bif((s.ns.length.beq 0||s.ns.length.ble s.ns.length)&&true)&&true then gUpM s.e s.g s.ns s.c fun y1=>gBeE s fun y2=>bif(bestP y2.1 y2.2).isSome then
   bif !s.p.fresh then gLd s.keep (fstB (bestP y2.1 y2.2)) fun y3=>gCh (leadP y3.1 y3.2) (upP y1.ns y1.c.susp) s.c.chain fun y4=>gMs s.keep fun y5=>tailE (wrE s s.g {s.p with phase:=3,chain:=chainP y4.1.1 y4.1.2 y4.2,valid:=y5})
   else bif s.p.fresh then bif decide (0<(s.p.chain.length:Int))then freshE s (IntKind.i64.wrap (s.g+1)) (IntKind.i64.wrap (s.g+1)) (upP y1.ns y1.c.susp)else freshE s s.g s.p.gen (upP y1.ns y1.c.susp)
    else freshE s s.g s.p.gen (upP y1.ns y1.c.susp)
  else bif s.p.fresh then bif decide (0<(s.p.chain.length:Int))then freshE s (IntKind.i64.wrap (s.g+1)) (IntKind.i64.wrap (s.g+1)) (upP y1.ns y1.c.susp)else freshE s s.g s.p.gen (upP y1.ns y1.c.susp)
   else freshE s s.g s.p.gen (upP y1.ns y1.c.susp)
 else none else none:=by
 obtain⟨e,g,p,ns,nb,op,keep,fz,fe,he,l,c⟩:=s
 cases hb
 cases fz <;> kernel_rfl
def aqV(b:Bool):AV:=bif b then .trl 31 []else .nils
def hpE0(s:ES)(b:Bool):Heap:=hpD s.nb s.e s.g s.ns (opV s.op) (aqV b) .nils s.c (encPlan s.p) (wkA s) []
def gMay0{R:Type}(s:ES)(b:Bool)(K:DS->Option R):Option R:=gC dMy pDS eMy [.tp (dsk s.e s.g (.trl 8 [encPlan s.p]) (encAlives s.ns) (.trl 4 [wkA s]) (opV s.op) (aqV b) s.c .nils) 0,.int .i64 0] K
def hpT0(x:WR)(b:Bool)(O:AV)(A:List BS):Heap:=hpD x.nb x.e x.g x.ns (opV x.op) (aqV b) O x.c (encPlan x.p) wk0 A
def tailN(x:WR)(b:Bool):Option (AV × Heap):=
 bif decide ((x.p.chain.length:Int)=0)then some (.bool true,hpT0 x b .nils [])
 else bif decide (0<(x.p.chain.length:Int))then gMs x.p.chain fun ch=>some (.bool true,hpT0 x b (.sl 31 (3+sft x.nb) 0 1 1) [.arr true 31 [actM x.p ch]])else none
def freshN(s:ES)(b:Bool)(g gen:Int)(up:List Member):Option (AV × Heap):=
 gChn up s.c.chain fun y=>bif decide (0<=min1 (chainP [] y.1.2 y.2))&&decide (min1 (chainP [] y.1.2 y.2)<=((chainP [] y.1.2 y.2).length:Int))then
  gC (dL decMember) shortL eMems [.tr 2 (min1 (chainP [] y.1.2 y.2)).toNat fun i=>bif i.blt (min1 (chainP [] y.1.2 y.2)).toNat then encMember ((chainP [] y.1.2 y.2).getD (0+i) default)else encMember ((chainP [] y.1.2 y.2).getD (chainP [] y.1.2 y.2).length default)] fun v=>
  tailN (wrE s g {s.p with phase:=3,gen:=gen,fresh:=true,base:=s.p.epoch,chain:=chainP [] y.1.2 y.2,valid:=v}) b else none
def kn14:List Known:=[kMsgs,kCloneAlive,kCloneMember,kMay,kBest,kUpM,kLead,kChain]
theorem kn14_ok:∀ k ∈ kn14,k.Ok PG:=ak kMsgs_ok (ak kCloneAlive_ok (ak kCloneMember_ok (ak kMay_ok (ak kBest_ok (ak kUpM_ok (ak kLead_ok (ak kChain_ok ank)))))))
theorem end0_f(s:ES)(b:Bool)(hb:s.nb=false):callH (envHd kn14) 12 F_coord_desk_end [.ptr 0 0 0,.int .i64 0] (hpE0 s b) =
 gMay0 s b fun y0=>bif !mayP y0 then some (.bool false,hpE0 s b)else
  gUpM s.e s.g s.ns s.c fun y1=>gBeE s fun y2=>bif(bestP y2.1 y2.2).isSome then
   bif !s.p.fresh then gLd s.keep (fstB (bestP y2.1 y2.2)) fun y3=>gCh (leadP y3.1 y3.2) (upP y1.ns y1.c.susp) s.c.chain fun y4=>gMs s.keep fun y5=>tailN (wrE s s.g {s.p with phase:=3,chain:=chainP y4.1.1 y4.1.2 y4.2,valid:=y5}) b
   else bif s.p.fresh then bif decide (0<(s.p.chain.length:Int))then freshN s b (IntKind.i64.wrap (s.g+1)) (IntKind.i64.wrap (s.g+1)) (upP y1.ns y1.c.susp)else freshN s b s.g s.p.gen (upP y1.ns y1.c.susp)
    else freshN s b s.g s.p.gen (upP y1.ns y1.c.susp)
  else bif s.p.fresh then bif decide (0<(s.p.chain.length:Int))then freshN s b (IntKind.i64.wrap (s.g+1)) (IntKind.i64.wrap (s.g+1)) (upP y1.ns y1.c.susp)else freshN s b s.g s.p.gen (upP y1.ns y1.c.susp)
   else freshN s b s.g s.p.gen (upP y1.ns y1.c.susp):=by
 obtain⟨e,g,p,ns,nb,op,keep,fz,fe,he,l,c⟩:=s
 cases hb
 cases b <;> cases fz <;> kernel_rfl
theorem end0_t(s:ES)(b:Bool)(hb:s.nb=true):callH (envHd kn14) 12 F_coord_desk_end [.ptr 0 0 0,.int .i64 0] (hpE0 s b) =
 bif((s.ns.length.beq 0||s.ns.length.ble s.ns.length)&&true)&&true then gMay0 s b fun y0=>bif !mayP y0 then some (.bool false,hpE0 s b)else
  bif((s.ns.length.beq 0||s.ns.length.ble s.ns.length)&&true)&&true then gUpM s.e s.g s.ns s.c fun y1=>gBeE s fun y2=>bif(bestP y2.1 y2.2).isSome then
   bif !s.p.fresh then gLd s.keep (fstB (bestP y2.1 y2.2)) fun y3=>gCh (leadP y3.1 y3.2) (upP y1.ns y1.c.susp) s.c.chain fun y4=>gMs s.keep fun y5=>tailN (wrE s s.g {s.p with phase:=3,chain:=chainP y4.1.1 y4.1.2 y4.2,valid:=y5}) b
   else bif s.p.fresh then bif decide (0<(s.p.chain.length:Int))then freshN s b (IntKind.i64.wrap (s.g+1)) (IntKind.i64.wrap (s.g+1)) (upP y1.ns y1.c.susp)else freshN s b s.g s.p.gen (upP y1.ns y1.c.susp)
    else freshN s b s.g s.p.gen (upP y1.ns y1.c.susp)
  else bif s.p.fresh then bif decide (0<(s.p.chain.length:Int))then freshN s b (IntKind.i64.wrap (s.g+1)) (IntKind.i64.wrap (s.g+1)) (upP y1.ns y1.c.susp)else freshN s b s.g s.p.gen (upP y1.ns y1.c.susp)
   else freshN s b s.g s.p.gen (upP y1.ns y1.c.susp)
 else none else none:=by
 obtain⟨e,g,p,ns,nb,op,keep,fz,fe,he,l,c⟩:=s
 cases hb
 cases b <;> cases fz <;> kernel_rfl
theorem LN.sub{X Y:Type}{sz:Nat}{e:X->List AV}{z:X}{e':Y->List AV}{z':Y}{g:X->Y}(h:∀ x,SubC (e x) (e' (g x)))(x:LN X):SubV (x.av sz e z) (encL sz e' z' (x.l.map g)):=by
 cases x with
 | nil=>exact .nils
 | emp=>exact SubV.trl_encL (e:=e') (z:=z') []
 | ne a t=>
  show SubV (encL sz e z (a::t)) (encL sz e' z' ((a::t).map g))
  have hl:((a::t).map g).length=(a::t).length:=by simp
  unfold encL
  rw[hl]
  refine SubV.trs fun i hi=>?_
  have e1:((a::t).map g).getD i z'=g ((a::t).getD i z):=by
   simp only[List.getD,List.getElem?_map,List.getElem?_eq_getElem hi,Option.map_some,Option.getD_some]
  rw[e1]
  exact h _
theorem LN.dec{X Y:Type}{sz:Nat}{e:X->List AV}{z:X}{d:List AV->Y}(x:LN X):decL d (x.av sz e z)=x.l.map fun y=>d (e y):=by
 cases x with
 | nil=>rfl
 | emp=>rfl
 | ne a t=>
  show(List.range (a::t).length).map (fun i=>d (e ((a::t).getD i z)))=(a::t).map fun y=>d (e y)
  refine List.ext_getElem (by simp) fun i h1 h2=>?_
  have hi:i<(a::t).length:=by simpa using h2
  simp only[List.getElem_map,List.getElem_range,List.getD,List.getElem?_eq_getElem hi,Option.getD_some]
def askM(a:Ask):Msg:=decMsg (encAsk a)
theorem askM_sub(a:Ask):SubC (encAsk a) (encMsg (askM a)):=subC_all (by repeat' (first | exact trivial | exact nilsL | exact SubV.refl _ | refine⟨?_,?_⟩))
def akMs(x:LN Ask):List Msg:=x.l.map askM
def akV(x:LN Ask):AV:=x.av 31 encAsk (0,0)
theorem opV_sub(x:List Msg):SubV (opV x) (encMsgs x):=fun w I u h=>by
 cases h with
 | tn _ _ _ _ h=>exact h
theorem akV_sub(x:LN Ask):SubV (akV x) (encMsgs (akMs x)):=LN.sub askM_sub x
theorem fzV_sub(x:LN Msg):SubV (fzV x) (encMsgs x.l):=by
 have:=LN.sub (sz:=31) (e:=encMsg) (z:=default) (e':=encMsg) (z':=default) (g:=id) (fun x=>.refl _) x
 rwa [List.map_id]at this
theorem opV_dec(x:List Msg):decL decMsg (opV x)=x:=dOp_eq x
theorem akV_dec(x:LN Ask):decL decMsg (akV x)=akMs x:=LN.dec x
theorem fzV_dec(x:LN Msg):decL decMsg (fzV x)=x.l:=by
 have:=LN.dec (sz:=31) (e:=encMsg) (z:=default) (d:=decMsg) x
 simp only[dec_encMsg,List.map_id']at this
 exact this
theorem wkA_dec(s:ES):decWork (wkA s)=wkE s:=by
 show(⟨s.fe,decL decMember (encMembers s.keep),decL decMsg (fzV s.fz),s.he⟩:Work)=_
 rw[decMembers,fzV_dec];rfl
theorem wkA_sub(s:ES):SubC (wkA s) (encWork (wkE s)):=.cons (.refl _) (.cons (.refl _) (.cons (fzV_sub _) (.cons (.refl _) .nil)))
def dsE(s:ES)(aq:List Msg):DS:=⟨⟨s.e,s.g,s.p,s.ns,wkE s,s.op,aq⟩,s.c,.nils⟩
theorem gMay_of{R:Type}{s:ES}{A:AV}{aq:List Msg}{K:DS->Option R}(h1:SubV A (encMsgs aq))(h2:decL decMsg A=aq)(h:pDS (dsE s aq)) :
  gC dMy pDS eMy [.tp (dsk s.e s.g (.trl 8 [encPlan s.p]) (encAlives s.ns) (.trl 4 [wkA s]) (opV s.op) A s.c .nils) 0,.int .i64 0] K=K (dsE s aq):=by
 refine gC_eq (dsE s aq) ?_ h ?_
 ·show(⟨⟨s.e,s.g,([decPlan (encPlan s.p)]:List Plan).headD default,decL decAlive (encAlives s.ns),([decWork (wkA s)]:List Work).headD default,decL decMsg (opV s.op),decL decMsg A⟩,⟨s.c.chain,s.c.susp,s.c.sess⟩,.nils⟩:DS)=_
  rw[dec_encPlan,decAlives,wkA_dec,opV_dec,h2];rfl
 ·refine .cons (SubV.tp ?_) (.cons (.refl _) .nil)
  have hp:SubV (.trl 8 [encPlan s.p]) (encPlans [s.p]):=SubV.trl_encL (e:=encPlan) (z:=default) [s.p]
  have hw:SubV (.trl 4 [wkA s]) (encWorks [wkE s]):=by
   refine SubV.trans (SubC.trl (b:=[encWork (wkE s)]) rfl fun i hi=>?_) (SubV.trl_encL (e:=encWork) (z:=default) [wkE s])
   have:i=0:=by simpa using hi
   subst this
   exact wkA_sub s
  exact .cons (.refl _) (.cons (.refl _) (.cons hp (.cons (.refl _) (.cons hw (.cons (opV_sub _) (.cons h1 (.refl _)))))))
theorem gMayE_of{R:Type}{s:ES}{K:DS->Option R}(h:pDS (dsE s (s.l.map askM))):gMayE s K=K (dsE s (s.l.map askM)):=by
 refine gMay_of ?_ ?_ h
 ·have:=LN.sub (sz:=31) (z:=(0,0)) (z':=default) askM_sub (match s.l with | []=>.nil | a::t=>.ne a t)
  revert this
  cases s.l with
  | nil=>intro _;exact SubV.trs fun i hi=>absurd hi (Nat.not_lt_zero i)
  | cons a t=>exact id
 ·cases hl:s.l with
  | nil=>rfl
  | cons a t=>exact LN.dec (sz:=31) (e:=encAsk) (z:=(0,0)) (d:=decMsg) (.ne a t)
theorem gUpM_of{R:Type}{e g:Int}{ns:List Alive}{c:CConf}{K:UX->Option R}(h:ns.length<=100000):gUpM e g ns c K=K ⟨e,g,ns,c⟩:=by
 unfold gUpM
 exact gC_eq (⟨e,g,ns,c⟩:UX) (dUX_eq ⟨e,g,ns,c⟩) h (.refl _)
theorem gBeE_of{R:Type}{s:ES}{K:WI->Option R}(h:pWI (wkE s,s.p.base)):gBeE s K=K (wkE s,s.p.base):=by
 refine gC_eq (wkE s,s.p.base) ?_ h (.cons (.agg (wkA_sub s)) (.cons (.refl _) .nil))
 show(decWork (wkA s),s.p.base)=_
 rw[wkA_dec]
theorem gLd_of{R:Type}{l:List Member}{m:Member}{K:LM->Option R}(h:pLd (l,m)):gLd l m K=K (l,m):=gC_eq (l,m) (by show(decL decMember (encMembers l),decMember (encMember m))=_;rw[decMembers,dec_encMember]) h (.refl _)
theorem gCh_of{R:Type}{k up:List Member}{c:Int}{K:KUC->Option R}(h:pKUC ((k,up),c)):gCh k up c K=K ((k,up),c):=gC_eq ((k,up),c) (by show((decL decMember (encMembers k),decL decMember (encMembers up)),c)=_;rw[decMembers,decMembers]) h (.refl _)
theorem gChn_of{R:Type}{up:List Member}{c:Int}{K:KUC->Option R}(h:up.length<=100000):gChn up c K=K (([],up),c):=gC_eq (([],up),c) (by show((([]:List Member),decL decMember (encMembers up)),c)=_;rw[decMembers]) h (.cons (.refl _) (.cons (.refl _) (.cons (.refl _) (.cons (.refl _) .nil))))
theorem chainL_len(keep:List Member)(c:Int):∀ (up out:List Member) (n:Nat),out.length<=n->c<=(n:Int)->(chainL keep c up out).length<=n
 | [],out,n,h,_=>h
 | m::r,out,n,h,hc=>by
  unfold chainL
  cases hd:decide (c<=(out.length:Int))with
  | true=>exact h
  | false=>
   have hd:=of_decide_eq_false hd
   rw[cond_false]
   cases hasNode keep m.node with
   | true=>exact chainL_len keep c r out n h hc
   | false=>exact chainL_len keep c r (out++[m]) n (by simp;omega) hc
theorem chainL_ne(keep:List Member)(c:Int):∀ (up out:List Member),out ≠ []->chainL keep c up out ≠ []
 | [],out,h=>h
 | m::r,out,h=>by
  unfold chainL
  cases decide (c<=(out.length:Int))with
  | true=>exact h
  | false=>
   rw[cond_false]
   cases hasNode keep m.node with
   | true=>exact chainL_ne keep c r out h
   | false=>exact chainL_ne keep c r (out++[m]) (by simp)
theorem chainP_ne{keep up:List Member}{c:Int}(h:keep ≠ []):chainP keep up c ≠ []:=chainL_ne _ _ _ _ h
theorem chainP_up{up:List Member}{c:Int}(hc:1<=c)(h:0<up.length):chainP [] up c ≠ []:=by
 match up,h with
 | m::r,_=>
  unfold chainP chainL
  rw[decide_eq_false (by simp;omega),cond_false]
  exact chainL_ne _ _ _ _ (by simp)
theorem dropM_len(m:Member):∀ l:List Member,(dropM m l).length<=l.length
 | []=>Nat.le_refl _
 | x::r=>by
  unfold dropM
  cases isM m x with
  | true=>exact Nat.le_succ _
  | false=>exact Nat.succ_le_succ (dropM_len m r)
theorem leadP_len(l:List Member)(m:Member):(leadP l m).length<=l.length+1:=by
 unfold leadP
 cases l.any (isM m)with
 | true=>exact Nat.succ_le_succ (dropM_len m l)
 | false=>exact Nat.le_succ _
theorem leadP_ne{l:List Member}(m:Member)(h:l ≠ []):leadP l m ≠ []:=by
 unfold leadP
 cases l.any (isM m)with
 | true=>exact fun e=>by cases e
 | false=>exact h
theorem best_ne{k:Work}{b:Int}(h:(bestP k b).isSome=true):k.keep ≠ []:=fun e=>by
 unfold bestP at h
 rw[e]at h
 cases h
def mayE(s:ES):Bool:=mayP (dsE s (s.l.map askM))
def freshP(s:ES)(g gen:Int):Int × Plan:=
 (g,{s.p with phase:=3,gen:=gen,fresh:=true,base:=s.p.epoch,chain:=chainP [] (upP s.ns s.c.susp) s.c.chain,valid:=(chainP [] (upP s.ns s.c.susp) s.c.chain).take 1})
def endP(s:ES):Int × Plan:=
 bif(bestP (wkE s) s.p.base).isSome && !s.p.fresh then(s.g,{s.p with phase:=3,chain:=chainP (leadP s.keep (fstB (bestP (wkE s) s.p.base))) (upP s.ns s.c.susp) s.c.chain,valid:=s.keep})
 else bif s.p.fresh&&decide (0<s.p.chain.length)then freshP s (IntKind.i64.wrap (s.g+1)) (IntKind.i64.wrap (s.g+1))else freshP s s.g s.p.gen
structure EOk(s:ES):Prop where
 ch:s.p.chain.length<=1000
 ns:s.ns.length<=1000
 keep:s.keep.length<=3
 fz:s.fz.l.length<=1000
 ver:∀ f ∈ s.fz.l,VNum f.ver
 c1:1<=s.c.chain
 c2:s.c.chain<=1000
 l:s.l.length<=1000
theorem EOk.wi{s:ES}(h:EOk s):pWI (wkE s,s.p.base):=⟨Nat.le_trans h.fz (by omega),Nat.le_trans h.keep (by omega),h.ver⟩
theorem EOk.ds{s:ES}(h:EOk s)(aq:List Msg):pDS (dsE s aq):=⟨Nat.le_trans h.ch (by omega),Nat.le_trans h.ns (by omega),h.wi⟩
theorem EOk.up{s:ES}(h:EOk s):(upP s.ns s.c.susp).length<=1000:=Nat.le_trans (List.length_filterMap_le _ _) h.ns
theorem EOk.fresh_len{s:ES}(h:EOk s):(chainP [] (upP s.ns s.c.susp) s.c.chain).length<=1000:=chainL_len _ _ _ _ _ (by simp) (by have:=h.c2;omega)
theorem may_up{s:ES}(h:mayE s=true)(hb:(bestP (wkE s) s.p.base).isSome=false\/s.p.fresh=true):0<(upP s.ns s.c.susp).length:=by
 unfold mayE mayP at h
 change (bif !decide (s.p.phase=1)then false else bif !s.fe then false else
  bif s.p.fresh then bif decide (0<s.p.chain.length)then bif !s.p.chain.any (fun m=>overP (wkE s) s.ns m)then false else decide (0<(upP s.ns s.c.susp).length)else decide (0<(upP s.ns s.c.susp).length)
  else bif s.keep.all (fun m=>(frozenP (wkE s) m).2)then bif decide (0<s.keep.length)then bif(bestP (wkE s) s.p.base).isSome then true else decide (0<(upP s.ns s.c.susp).length)else false else false)=true at h
 cases h1:decide (s.p.phase=1) <;> rw[h1]at h <;> simp only[Bool.not_true,Bool.not_false,cond_true,cond_false]at h
 ·cases h
 cases h2:s.fe <;> rw[h2]at h <;> simp only[Bool.not_true,Bool.not_false,cond_true,cond_false]at h
 ·cases h
 cases h3:s.p.fresh <;> rw[h3]at h hb <;> simp only[cond_true,cond_false]at h
 ·rcases hb with hb | hb
  ·rw[hb]at h
   cases h4:s.keep.all (fun m=>(frozenP (wkE s) m).2) <;> rw[h4]at h <;> simp only[cond_true,cond_false]at h
   ·cases h
   cases h5:decide (0<s.keep.length) <;> rw[h5]at h <;> simp only[cond_true,cond_false]at h
   ·cases h
   exact of_decide_eq_true h
  ·cases hb
 ·cases h4:decide (0<s.p.chain.length) <;> rw[h4]at h <;> simp only[cond_true,cond_false]at h
  ·exact of_decide_eq_true h
  ·cases h5:s.p.chain.any (fun m=>overP (wkE s) s.ns m) <;> rw[h5]at h <;> simp only[Bool.not_true,Bool.not_false,cond_true,cond_false]at h
   ·cases h
   ·exact of_decide_eq_true h
def freshG(T:WR->Option (AV × Heap))(s:ES)(g gen:Int)(up:List Member):Option (AV × Heap):=
 gChn up s.c.chain fun y=>bif decide (0<=min1 (chainP [] y.1.2 y.2))&&decide (min1 (chainP [] y.1.2 y.2)<=((chainP [] y.1.2 y.2).length:Int))then
  gC (dL decMember) shortL eMems [.tr 2 (min1 (chainP [] y.1.2 y.2)).toNat fun i=>bif i.blt (min1 (chainP [] y.1.2 y.2)).toNat then encMember ((chainP [] y.1.2 y.2).getD (0+i) default)else encMember ((chainP [] y.1.2 y.2).getD (chainP [] y.1.2 y.2).length default)] fun v=>
  T (wrE s g {s.p with phase:=3,gen:=gen,fresh:=true,base:=s.p.epoch,chain:=chainP [] y.1.2 y.2,valid:=v})else none
theorem min1_eq{l:List Member}(h:l ≠ []):min1 l=1:=by
 have:0<l.length:=List.length_pos_iff.2 h
 unfold min1
 rw[decide_eq_false (by omega),cond_false]
theorem take1_tr{l:List Member}(h:l ≠ []):SubC [.tr 2 (min1 l).toNat fun i=>bif i.blt (min1 l).toNat then encMember (l.getD (0+i) default)else encMember (l.getD l.length default)] (eMems (l.take 1)):=by
 rw[min1_eq h]
 match l,h with
 | a::r,_=>
  refine .cons (SubV.trs fun i hi=>?_) .nil
  have:i=0:=by
   have:i<1:=hi
   omega
  subst this
  exact .refl _
theorem take1_dec{l:List Member}(h:l ≠ []):dL decMember [.tr 2 (min1 l).toNat fun i=>bif i.blt (min1 l).toNat then encMember (l.getD (0+i) default)else encMember (l.getD l.length default)]=l.take 1:=by
 rw[min1_eq h]
 match l,h with
 | a::r,_=>
  show [decMember (encMember a)]=_
  rw[dec_encMember];rfl
theorem freshG_eq{T:WR->Option (AV × Heap)}{s:ES}{g gen:Int}(h:EOk s)(hu:0<(upP s.ns s.c.susp).length):freshG T s g gen (upP s.ns s.c.susp)=T (wrE s (freshP s g gen).1 (freshP s g gen).2):=by
 have hne:chainP [] (upP s.ns s.c.susp) s.c.chain ≠ []:=chainP_up h.c1 hu
 have hlen:0<(chainP [] (upP s.ns s.c.susp) s.c.chain).length:=List.length_pos_iff.2 hne
 unfold freshG
 rw[gChn_of (Nat.le_trans h.up (by omega))]
 dsimp only
 have hm:=min1_eq hne
 have e1:decide (0<=min1 (chainP [] (upP s.ns s.c.susp) s.c.chain))=true:=decide_eq_true (by omega)
 have e2:decide (min1 (chainP [] (upP s.ns s.c.susp) s.c.chain)<=((chainP [] (upP s.ns s.c.susp) s.c.chain).length:Int))=true:=decide_eq_true (by omega)
 rw[e1,e2,Bool.and_true,cond_true,gC_eq _ (take1_dec hne) ?_ (take1_tr hne)]
 ·rfl
 ·show shortL _
  unfold shortL LB
  rw[List.length_take];omega
def coreG(T:WR->Option (AV × Heap))(s:ES):Option (AV × Heap):=
 gBeE s fun y2=>bif(bestP y2.1 y2.2).isSome then
   bif !s.p.fresh then gLd s.keep (fstB (bestP y2.1 y2.2)) fun y3=>gCh (leadP y3.1 y3.2) (upP s.ns s.c.susp) s.c.chain fun y4=>gMs s.keep fun y5=>T (wrE s s.g {s.p with phase:=3,chain:=chainP y4.1.1 y4.1.2 y4.2,valid:=y5})
   else bif s.p.fresh then bif decide (0<(s.p.chain.length:Int))then freshG T s (IntKind.i64.wrap (s.g+1)) (IntKind.i64.wrap (s.g+1)) (upP s.ns s.c.susp)else freshG T s s.g s.p.gen (upP s.ns s.c.susp)
    else freshG T s s.g s.p.gen (upP s.ns s.c.susp)
  else bif s.p.fresh then bif decide (0<(s.p.chain.length:Int))then freshG T s (IntKind.i64.wrap (s.g+1)) (IntKind.i64.wrap (s.g+1)) (upP s.ns s.c.susp)else freshG T s s.g s.p.gen (upP s.ns s.c.susp)
   else freshG T s s.g s.p.gen (upP s.ns s.c.susp)
theorem coreG_eq{T:WR->Option (AV × Heap)}{s:ES}(h:EOk s)(hm:mayE s=true):coreG T s=T (wrE s (endP s).1 (endP s).2):=by
 have ec:decide (0<(s.p.chain.length:Int))=decide (0<s.p.chain.length):=decide_eq_decide.2 (by omega)
 have hF:∀ hu:0<(upP s.ns s.c.susp).length,(bif s.p.fresh then bif decide (0<(s.p.chain.length:Int))then freshG T s (IntKind.i64.wrap (s.g+1)) (IntKind.i64.wrap (s.g+1)) (upP s.ns s.c.susp)else freshG T s s.g s.p.gen (upP s.ns s.c.susp)
   else freshG T s s.g s.p.gen (upP s.ns s.c.susp))=T (wrE s (bif s.p.fresh&&decide (0<s.p.chain.length)then freshP s (IntKind.i64.wrap (s.g+1)) (IntKind.i64.wrap (s.g+1))else freshP s s.g s.p.gen).1 (bif s.p.fresh&&decide (0<s.p.chain.length)then freshP s (IntKind.i64.wrap (s.g+1)) (IntKind.i64.wrap (s.g+1))else freshP s s.g s.p.gen).2):=by
  intro hu
  rw[ec,freshG_eq h hu,freshG_eq h hu]
  cases s.p.fresh with
  | false=>rfl
  | true=>cases decide (0<s.p.chain.length) <;> rfl
 unfold coreG
 rw[gBeE_of h.wi]
 dsimp only
 unfold endP
 cases hb:(bestP (wkE s) s.p.base).isSome with
 | false=>rw[cond_false,Bool.false_and,cond_false];exact hF (may_up hm (.inl hb))
 | true=>
  rw[cond_true,Bool.true_and]
  cases hf:s.p.fresh with
  | true=>
   have:=hF (may_up hm (.inr hf))
   rw[hf]at this
   exact this
  | false=>
   have hk:s.keep ≠ []:=best_ne (k:=wkE s) hb
   have hll:=leadP_len s.keep (fstB (bestP (wkE s) s.p.base))
   have hk3:=h.keep
   have hup:=h.up
   rw[Bool.not_false,cond_true,cond_true,gLd_of ⟨h.keep,hk⟩]
   dsimp only
   have hp:pKUC ((leadP s.keep (fstB (bestP (wkE s) s.p.base)),upP s.ns s.c.susp),s.c.chain):=⟨by show(leadP s.keep (fstB (bestP (wkE s) s.p.base))).length<=100000;omega,by show(upP s.ns s.c.susp).length<=100000;omega,leadP_ne _ hk⟩
   rw[gCh_of hp]
   dsimp only
   rw[gMs_eq _ (by unfold shortL LB;omega),hf]
theorem endP_chain{s:ES}(h:EOk s)(hm:mayE s=true):(endP s).2.chain ≠ []/\(endP s).2.chain.length<=1000:=by
 have hc:=h.c2
 have hF:∀ (hu:0<(upP s.ns s.c.susp).length) g gen,(freshP s g gen).2.chain ≠ []/\(freshP s g gen).2.chain.length<=1000:=fun hu g gen=>⟨chainP_up h.c1 hu,h.fresh_len⟩
 unfold endP
 cases hb:(bestP (wkE s) s.p.base).isSome with
 | false=>
  have hu:=may_up hm (.inl hb)
  rw[Bool.false_and,cond_false]
  cases s.p.fresh&&decide (0<s.p.chain.length) <;> exact hF hu _ _
 | true=>
  rw[Bool.true_and]
  cases hf:s.p.fresh with
  | true=>
   have hu:=may_up hm (.inr hf)
   rw[Bool.not_true,cond_false,Bool.true_and]
   cases decide (0<s.p.chain.length) <;> exact hF hu _ _
  | false=>
   have hk:s.keep ≠ []:=best_ne (k:=wkE s) hb
   have hll:=leadP_len s.keep (fstB (bestP (wkE s) s.p.base))
   have hk3:=h.keep
   exact⟨chainP_ne (leadP_ne _ hk),chainL_len _ _ _ _ _ (by omega) (by omega)⟩
theorem conHdH{l:List Known}(h:∀ k ∈ l,k.Ok PG){n f:Nat}{args:List AV}{hp:Heap}{r:AV}{hp':Heap}(e:callH (envHd l) n f args hp=some (r,hp')):Contract PG f args hp r hp'/\hp.length<=hp'.length:=callH_ok (envHd_ok h) (codeOf_ok rfl) mixed e
theorem aqV_sub(b:Bool):SubV (aqV b) (encMsgs []):=by
 cases b with
 | false=>exact .nils
 | true=>exact SubV.trl_encL (e:=encMsg) (z:=default) []
theorem aqV_dec(b:Bool):decL decMsg (aqV b)=[]:=by cases b <;> rfl
theorem gMay0_of{R:Type}{s:ES}{b:Bool}{K:DS->Option R}(hl:s.l=[])(h:EOk s):gMay0 s b K=K (dsE s (s.l.map askM)):=by
 rw[hl]
 exact gMay_of (aqV_sub b) (aqV_dec b) (h.ds _)
def hpEE(s:ES)(b:Bool):Heap:=match s.l with
 | []=>hpE0 s b
 | _::_=>hpE s
def outE(x:WR)(b:Bool):Heap:=match x.l with
 | []=>hpT0 x b (.sl 31 (3+sft x.nb) 0 1 1) [.arr true 31 [actC x.p]]
 | _::_=>hpF x
theorem tailN_of{x:WR}{b:Bool}(hl:x.l=[])(hc:x.p.chain ≠ [])(hc2:x.p.chain.length<=1000):tailN x b=some (.bool true,outE x b):=by
 have h0:0<x.p.chain.length:=List.length_pos_iff.2 hc
 unfold tailN outE
 rw[decide_eq_false (by omega),cond_false,decide_eq_true (by omega),cond_true,gMs_eq _ (by unfold shortL LB;omega),hl]
 rfl
theorem tailE_of{x:WR}{b:Bool}(hl:x.l ≠ [])(hl2:x.l.length<=1000)(hc:x.p.chain ≠ [])(hc2:x.p.chain.length<=1000):tailE x=some (.bool true,outE x b):=by
 have h0:0<x.p.chain.length:=List.length_pos_iff.2 hc
 have hw:pWR x:=⟨by omega,hl⟩
 have eh:hpT x (.sl 31 (4+sft x.nb) 0 1 1) [.arr true 31 [actM x.p x.p.chain]]=(eWR x).2:=by
  obtain⟨e,g,p,ns,nb,op,l,c⟩:=x
  cases nb <;> rfl
 unfold tailE
 rw[decide_eq_false (by omega),cond_false,decide_eq_true (by omega),cond_true,gMs_eq _ (by unfold shortL LB;omega),eh]
 have e1:=gWas_eq (K:=fun y=>some (AV.bool true,hpF y)) hw
 unfold gWas at e1
 refine Eq.trans e1 ?_
 unfold outE
 cases hx:x.l with
 | nil=>exact absurd hx hl
 | cons a t=>rfl
def oEnd(s:ES)(b:Bool):AV × Heap:=(.bool (mayE s),bif mayE s then outE (wrE s (endP s).1 (endP s).2) b else hpEE s b)
theorem core_end{T:WR->Option (AV × Heap)}{s:ES}{b:Bool}(h:EOk s)(hT:∀ g p,p.chain ≠ []->p.chain.length<=1000->T (wrE s g p)=some (.bool true,outE (wrE s g p) b)) :
  (bif !mayP (dsE s (s.l.map askM))then some (.bool false,hpEE s b)else coreG T s)=some (oEnd s b):=by
 show(bif !mayE s then some (AV.bool false,hpEE s b)else coreG T s)=some (.bool (mayE s),bif mayE s then outE (wrE s (endP s).1 (endP s).2) b else hpEE s b)
 cases hm:mayE s with
 | false=>rfl
 | true=>
  obtain⟨h1,h2⟩:=endP_chain h hm
  rw[Bool.not_true,cond_false,coreG_eq h hm,hT _ _ h1 h2]
  rfl
theorem end_run{s:ES}{b:Bool}(h:EOk s):∃ kn,(∀ k ∈ kn,k.Ok PG)/\callH (envHd kn) 12 F_coord_desk_end [.ptr 0 0 0,.int .i64 0] (hpEE s b)=some (oEnd s b):=by
 have hn:=h.ns
 cases hl:s.l with
 | nil=>
  have eh:hpEE s b=hpE0 s b:=by unfold hpEE;rw[hl]
  refine⟨kn14,kn14_ok,?_⟩
  have hc:=core_end (T:=fun x=>tailN x b) (b:=b) h fun g p h1 h2=>tailN_of (x:=wrE s g p) hl h1 h2
  rw[eh]at hc ⊢
  cases hb:s.nb with
  | false=>
   rw[end0_f s b hb,gMay0_of hl h,gUpM_of (by omega)]
   exact hc
  | true=>
   rw[end0_t s b hb,orU,Bool.and_true,Bool.and_true,cond_true,gMay0_of hl h,cond_true,gUpM_of (by omega)]
   exact hc
 | cons a t=>
  have hne:s.l ≠ []:=by rw[hl];exact List.cons_ne_nil _ _
  have eh:hpEE s b=hpE s:=by unfold hpEE;rw[hl]
  refine⟨kn12,kn12_ok,?_⟩
  have hc:=core_end (T:=tailE) (b:=b) h fun g p h1 h2=>tailE_of (x:=wrE s g p) hne h.l h1 h2
  rw[eh]at hc ⊢
  cases hb:s.nb with
  | false=>
   rw[end_eq s hb,orU,Bool.and_true,Bool.and_true,cond_true,gMayE_of (h.ds _),gUpM_of (by omega)]
   exact hc
  | true=>
   rw[end_eqT s hb,orU,orU,Bool.and_true,Bool.and_true,Bool.and_true,cond_true,gMayE_of (h.ds _),cond_true,gUpM_of (by omega)]
   exact hc
theorem end_con{s:ES}{b:Bool}(h:EOk s):Contract PG F_coord_desk_end [.ptr 0 0 0,.int .i64 0] (hpEE s b) (oEnd s b).1 (oEnd s b).2/\(hpEE s b).length<=(oEnd s b).2.length:=by
 obtain⟨kn,h1,h2⟩:=end_run (b:=b) h
 exact conHdH h1 h2
structure EB where
 s:ES
 b:Bool
def eEn(x:EB):List AV × Heap:=([.ptr 0 0 0,.int .i64 0],hpEE x.s x.b)
def isTrl:AV->Bool
 | .trl .. => true
 | _=>false
def dEn(_:List AV)(h:Heap):EB:=
 let d:=cell0 h 0
 let nb:=isSl (d.getD 3 .undef)
 let w:=cell0 h (2+sft nb)
 ⟨⟨getI d 0,getI d 1,decPlan (cell0 h 1),bif nb then dNs h 2 else getL decAlive d 3,nb,dOp (d.getD 5 .undef),getL decMember w 1,dLN decMsg (w.getD 2 .undef),getB w 0,getB w 3,bif isSl (d.getD 6 .undef)then dAsks h (3+sft nb)else [],⟨getI d 8,getI d 19,getI d 18⟩⟩,isTrl (d.getD 6 .undef)⟩
def nrm(x:EB):EB:=⟨x.s,match x.s.l with
 | []=>x.b
 | _::_=>false⟩
theorem dEn_eq(x:EB):dEn (eEn x).1 (eEn x).2=nrm x:=by
 obtain⟨⟨e,g,p,ns,nb,op,keep,fz,fe,he,l,c⟩,b⟩:=x
 have hA:(List.range l.length).map (fun i=>decAsk (encAsk (l.getD i (0,0))))=l:=decL_encL (e:=encAsk) (d:=decAsk) (z:=(0,0)) (sz:=31) (fun _=>rfl) l
 have hN:(List.range ns.length).map (fun i=>decAlive (encAlive (ns.getD i default)))=ns:=decL_encL (e:=encAlive) (d:=decAlive) (z:=default) (sz:=3) dec_encAlive ns
 have hO:dOp (opV op)=op:=dOp_eq op
 have hF:dLN decMsg (fzV fz)=fz:=dLN_eq dec_encMsg fz
 have hK:decL decMember (encMembers keep)=keep:=decMembers keep
 have hN2:decL decAlive (encAlives ns)=ns:=decAlives ns
 have hP:=dec_encPlan p
 cases l with
 | nil=>
  cases nb <;> cases b
  ·show EB.mk ⟨e,g,decPlan (encPlan p),decL decAlive (encAlives ns),false,dOp (opV op),decL decMember (encMembers keep),dLN decMsg (fzV fz),fe,he,[],⟨c.chain,c.susp,c.sess⟩⟩ false=_
   rw[hP,hN2,hO,hK,hF];rfl
  ·show EB.mk ⟨e,g,decPlan (encPlan p),decL decAlive (encAlives ns),false,dOp (opV op),decL decMember (encMembers keep),dLN decMsg (fzV fz),fe,he,[],⟨c.chain,c.susp,c.sess⟩⟩ true=_
   rw[hP,hN2,hO,hK,hF];rfl
  ·show EB.mk ⟨e,g,decPlan (encPlan p),(List.range ns.length).map (fun i=>decAlive (encAlive (ns.getD i default))),true,dOp (opV op),decL decMember (encMembers keep),dLN decMsg (fzV fz),fe,he,[],⟨c.chain,c.susp,c.sess⟩⟩ false=_
   rw[hP,hN,hO,hK,hF];rfl
  ·show EB.mk ⟨e,g,decPlan (encPlan p),(List.range ns.length).map (fun i=>decAlive (encAlive (ns.getD i default))),true,dOp (opV op),decL decMember (encMembers keep),dLN decMsg (fzV fz),fe,he,[],⟨c.chain,c.susp,c.sess⟩⟩ true=_
   rw[hP,hN,hO,hK,hF];rfl
 | cons a t=>
  cases nb
  ·show EB.mk ⟨e,g,decPlan (encPlan p),decL decAlive (encAlives ns),false,dOp (opV op),decL decMember (encMembers keep),dLN decMsg (fzV fz),fe,he,(List.range (a::t).length).map (fun i=>decAsk (encAsk ((a::t).getD i (0,0)))),⟨c.chain,c.susp,c.sess⟩⟩ false=_
   rw[hP,hN2,hO,hK,hF,hA];rfl
  ·show EB.mk ⟨e,g,decPlan (encPlan p),(List.range ns.length).map (fun i=>decAlive (encAlive (ns.getD i default))),true,dOp (opV op),decL decMember (encMembers keep),dLN decMsg (fzV fz),fe,he,(List.range (a::t).length).map (fun i=>decAsk (encAsk ((a::t).getD i (0,0)))),⟨c.chain,c.susp,c.sess⟩⟩ false=_
   rw[hP,hN,hO,hK,hF,hA];rfl
def pEn(x:EB):Prop:=EOk x.s
theorem eEn_nrm(x:EB):eEn (nrm x)=eEn x:=by
 obtain⟨⟨e,g,p,ns,nb,op,keep,fz,fe,he,l,c⟩,b⟩:=x
 cases l <;> rfl
theorem msgsT_con(l:List Msg)(h:pMs l):Contract PG F_twin_Msgs (eMs l) [] (encMsgs l) []:=by
 have h0:=msgs_con l h
 refine h0.snapped ?_
 show(bif(Nat.beq l.length 0||Nat.ble (l.length+0) l.length)then some (AV.tr 31 l.length fun i=>encMsg (l.getD (i+0) default))else none)=_
 rw[show l.length+0=l.length from rfl,orU,cond_true]
 rfl
def kMsgT:Known:=Known.onTr <| Known.byE (.specB F_twin_Msgs dAk pAk eAk (outBlk 31 encAsk (0,0))) (.spec F_twin_Msgs (dL decMsg) pMs eMs encMsgs)
theorem kMsgT_ok:kMsgT.Ok PG:=Known.onTr_ok (Known.byE_ok (Known.specB_ok asks_con) (Known.spec_ok msgsT_con) rfl)
def mdK(f:Nat):Option Nat:=bif Nat.beq f F_coord_desk_end then some 5 else mdH f
def envK2(l:List Known):Env:={envL [] mdK l with msk:=fun f=>bif Nat.beq f F_coord_Up then [2,4,5,6]else []}
theorem envK2_ok{l:List Known}(h:∀ k ∈ l,k.Ok PG):EnvOk PG (envK2 l):=⟨tt_ok rfl,orc_ok h⟩
theorem conK2{l:List Known}(h:∀ k ∈ l,k.Ok PG){n f:Nat}{xs:List AV}{r:AV}(e:callT (envK2 l) n f xs=some r):Contract PG f xs [] r []:=callT_ok (envK2_ok h) (codeOf_ok rfl) mixed e
def akAV(l:List Ask)(b:Bool):AV:=match l with
 | []=>aqV b
 | _::_=>encAsks l
def buV(s:ES)(b:Bool):List AV:=[.int .i64 s.e,.int .i64 s.g,.trl 8 [encPlan s.p],encAlives s.ns,.trl 4 [wkA s],opV s.op,akAV s.l b]
def isEmpT:AV->Bool
 | .trl 31 []=>true
 | _=>false
def kMsgE:Known:={f:=F_twin_Msgs,ans:=fun args hp=>match isEmpT (args.getD 0 .undef)with
 | true=>match args,hp with
  | [_],[]=>some {X:=Unit,g:=true,a:=(),r:=fun _=>(.trl 31 [],[])}
  | _,_=>none
 | false=>kMsgT.ans args hp}
theorem emp_con:Contract PG F_twin_Msgs [.trl 31 []] [] (.trl 31 []) []:=con0 (n:=20) (by kernel_rfl)
theorem isEmpT_eq{v:AV}(h:isEmpT v=true):v=.trl 31 []:=by
 unfold isEmpT at h
 split at h
 ·rfl
 ·cases h
theorem kMsgE_ok:kMsgE.Ok PG:=by
 intro args hp A e hg
 unfold kMsgE at e
 simp only[]at e
 cases hE:isEmpT (args.getD 0 .undef)with
 | true=>
  rw[hE]at e
  simp only[]at e
  split at e
  ·rename_i v
   cases e
   have:v=.trl 31 []:=isEmpT_eq hE
   subst this
   exact⟨emp_con,Nat.le_refl _⟩
  ·cases e
 | false=>rw[hE]at e;exact kMsgT_ok args hp A e hg
def clrB:BS->BS
 | .seq _ _ n f=>.seq true 31 n fun i=>bif i.blt (0+n)then zMsgC else f i
 | x=>x
def outT(hp:Heap)(g:Int)(p:Plan)(l:List Ask):Heap:=
 let d:=cell0 hp 0
 let nb:=isSl (d.getD 3 .undef)
 let D:=fun(A O:AV)=>BS.arr true 23 [[d.getD 0 .undef,.int .i64 g,d.getD 2 .undef,d.getD 3 .undef,d.getD 4 .undef,d.getD 5 .undef,A,.int .i64 3,d.getD 8 .undef,.int .i64 1,.int .i64 0,.int .i64 0,.int .i64 0,.int .i64 0,.int .i64 0,.int .i64 0,.int .i64 0,.int .i64 0,d.getD 18 .undef,d.getD 19 .undef,.int .i64 0,.int .i64 0,O]]
 match d.getD 6 .undef with
 | .sl _ _ _ n _=>bif nb then [D (.sl 31 4 0 0 0) (.sl 31 5 0 (n+1) 0),.arr true 8 [encPlan p],hget hp 2,.arr true 4 [wk0],clrB (hget hp 4),.seq true 31 (n+1) (canF idC [] (actC p::l.map ansC))]
  else [D (.sl 31 3 0 0 0) (.sl 31 4 0 (n+1) 0),.arr true 8 [encPlan p],.arr true 4 [wk0],clrB (hget hp 3),.seq true 31 (n+1) (canF idC [] (actC p::l.map ansC))]
 | A=>bif nb then [D A (.sl 31 4 0 1 1),.arr true 8 [encPlan p],hget hp 2,.arr true 4 [wk0],.arr true 31 [actC p]]
  else [D A (.sl 31 3 0 1 1),.arr true 8 [encPlan p],.arr true 4 [wk0],.arr true 31 [actC p]]
theorem outT_eq(s:ES)(b:Bool)(g:Int)(p:Plan):outT (eEn ⟨s,b⟩).2 g p s.l=outE (wrE s g p) b:=by
 obtain⟨e,g0,p0,ns,nb,op,keep,fz,fe,he,l,c⟩:=s
 cases l <;> cases nb <;> cases b <;> rfl
def GE(t:Bool)(args:List AV)(hp:Heap):Prop:=gPH dEn pEn eEn args hp/\mayE (dEn args hp).s=t
def kEb(t:Bool):Known:={f:=F_coord_desk_end,ans:=fun args hp=>some {X:=Unit,g:=cd (GE t args hp),a:=(),r:=fun _=>bif t then(.bool true,outT hp (endP (dEn args hp).s).1 (endP (dEn args hp).s).2 (dEn args hp).s.l)else(.bool false,hp)}}
theorem kEb_ok(t:Bool):(kEb t).Ok PG:=by
 intro args hp A e hg
 cases e
 obtain⟨⟨h1,h2⟩,h3⟩:=cd_iff.1 hg
 have:=end_con (b:=(dEn args hp).b) (s:=(dEn args hp).s) h1
 have e1:args=(eEn (dEn args hp)).1:=by rw[h2]
 have e2:hp=(eEn (dEn args hp)).2:=by rw[h2]
 have e3:hpEE (dEn args hp).s (dEn args hp).b=hp:=by rw[h2]at e2;exact congrArg Prod.snd h2
 have e4:([.ptr 0 0 0,.int .i64 0]:List AV)=args:=congrArg Prod.fst h2
 rw[e3,e4]at this
 cases t with
 | false=>
  have ho:oEnd (dEn args hp).s (dEn args hp).b=(.bool false,hp):=by
   unfold oEnd;rw[h3,e3];rfl
  rw[ho]at this
  exact this
 | true=>
  have ho:oEnd (dEn args hp).s (dEn args hp).b=(.bool true,outT hp (endP (dEn args hp).s).1 (endP (dEn args hp).s).2 (dEn args hp).s.l):=by
   have hx:=outT_eq (dEn args hp).s (dEn args hp).b (endP (dEn args hp).s).1 (endP (dEn args hp).s).2
   have e5:(eEn ⟨(dEn args hp).s,(dEn args hp).b⟩).2=hp:=congrArg Prod.snd h2
   rw[e5]at hx
   unfold oEnd;rw[h3,hx];rfl
  rw[ho]at this
  exact this
def gEb{R:Type}(t:Bool)(A:List AV)(H:Heap)(K:Option R):Option R:=gX (GE t A H) () fun _=>K
theorem gEb_eq{R:Type}{t:Bool}{x:EB}{K:Option R}(h:EOk x.s)(ht:mayE x.s=t):gEb t (eEn x).1 (eEn x).2 K=K:=by
 refine gX_of ⟨⟨?_,?_⟩,?_⟩
 ·rw[dEn_eq];exact h
 ·rw[dEn_eq];exact eEn_nrm x
 ·rw[dEn_eq];exact ht
end Go.Co
end
noncomputable section
set_option linter.unusedVariables false
set_option linter.unusedSimpArgs false
namespace Go.AM
def SubF(c c':AV):Prop:=∀ (w:World) (I:Nat->Prop) (φ:Phi) (u:Value),RV w I φ c u->RV w I φ c' u
def SubFs(cs cs':List AV):Prop:=cs.length=cs'.length /\ ∀ (k:Nat) c c',cs[k]? = some c->cs'[k]? = some c'->SubF c c'
theorem SubF.refl(c:AV):SubF c c:=fun _ _ _ _ h=>h
theorem SubFs.refl(cs:List AV):SubFs cs cs:=⟨rfl,fun k c c' e e'=>by rw[e]at e';cases e';exact .refl _⟩
theorem SubFs.nil:SubFs [] []:=.refl _
theorem SubFs.cons{c c':AV}{cs cs':List AV}(h:SubF c c')(h':SubFs cs cs'):SubFs (c::cs) (c'::cs'):=by
 refine⟨by simp[h'.1],fun k x x' e e'=>?_⟩
 cases k with
 | zero=>simp at e e';exact e ▸ e' ▸ h
 | succ k=>exact h'.2 k x x' (by simpa using e) (by simpa using e')
theorem SubFs.get{cs cs':List AV}(h:SubFs cs cs'){k:Nat}{c':AV}(e:cs'[k]? = some c'):∃ c,cs[k]? = some c/\SubF c c':=by
 have hl:k<cs.length:=by
  rw[h.1]
  rcases Nat.lt_or_ge k cs'.length with h1 | h1
  ·exact h1
  ·rw[List.getElem?_eq_none h1]at e;cases e
 exact⟨_,List.getElem?_eq_getElem hl,h.2 k _ _ (List.getElem?_eq_getElem hl) e⟩
theorem SubF.of{c c':AV}(h:SubV c c')(hc:refFree c=true):SubF c c':=fun w I φ u hv=>
 (h w I u (hv.free hc)).mono (fun _ hB=>⟨hB,rfl⟩) (fun _=>Nat.le_refl _) (Phi.no_le φ)
theorem SubF.agg{cs cs':List AV}(h:SubFs cs cs'):SubF (.agg cs) (.agg cs'):=by
 intro w I φ u hv
 cases hv with
 | agg _ vs hl h1 hr=>exact .agg _ _ (h.1.symm.trans hl) h1 fun k c' u e e'=>let ⟨c,e1,e2⟩:=h.get e;e2 _ _ _ _ (hr k c u e1 e')
inductive BSub:BS->BS->Prop
 | refl (x:BS):BSub x x
 | arr (m:Bool) (sz:Nat) (es es':List (List AV)) (hl:es.length=es'.length) (h:∀ (i:Nat) cs cs',es[i]? = some cs->es'[i]? = some cs'->SubFs cs cs'):BSub (.arr m sz es) (.arr m sz es')
 | seq (m:Bool) (sz n k:Nat) (f g:Nat->List AV) (hk:k<=n) (h:∀ i,i<k->SubC (f i) (g i)):BSub (.seq m sz n f) (.seq m sz k g)
 | one (m:Bool) (sz:Nat) (cs:List AV) (g:Nat->List AV) (h:SubC cs (g 0)) (hf:cs.all refFree=true):BSub (.arr m sz [cs]) (.seq m sz 1 g)
 | zero (m:Bool) (sz:Nat) (g:Nat->List AV):BSub (.arr m sz []) (.seq m sz 0 g)
 | pmap (m:Bool) (ks:List (List UInt8)) (v v':List UInt8->AV) (h:∀ s ∈ ks,SubV (v s) (v' s)):BSub (.pmap m ks v) (.pmap m ks v')
theorem BSub.kind{x y:BS}(h:BSub x y):live y=live x/\mutable y=mutable x/\(y=.none->x=.none)/\(phantom x->phantom y):=by
 cases h with
 | refl=>exact⟨rfl,rfl,id,id⟩
 | arr=>exact⟨rfl,rfl,fun e=>by(cases e),id⟩
 | seq m sz n k f g hk h=>exact⟨rfl,rfl,fun e=>by(cases e),fun e=>by simp only[phantom]at e ⊢;omega⟩
 | one=>exact⟨rfl,rfl,fun e=>by(cases e),fun e=>e.elim⟩
 | zero=>exact⟨rfl,rfl,fun e=>by(cases e),fun e=>e.elim⟩
 | pmap=>exact⟨rfl,rfl,fun e=>by(cases e),fun e=>e.elim⟩
theorem BSub.rb{w:World}{I:Nat->Prop}{φ:Phi}{B o sz:Nat}{x y:BS}(h:BSub x y)(hr:RB w I φ B o sz x):RB w I φ B o sz y:=by
 cases h with
 | refl=>exact hr
 | arr m s es es' hl h=>
  obtain⟨h1,h2,h3,h4⟩:=hr
  have old:∀ (i:Nat) cs',es'[i]? = some cs' -> ∃ cs,es[i]? = some cs/\SubFs cs cs':=by
   intro i cs' e
   have hi:i<es.length:=by
    rw[hl]
    rcases Nat.lt_or_ge i es'.length with h | h
    ·exact h
    ·rw[List.getElem?_eq_none h]at e;cases e
   exact⟨_,List.getElem?_eq_getElem hi,h i _ _ (List.getElem?_eq_getElem hi) e⟩
  refine⟨h1,h2,fun i cs' e=>?_,fun i cs' k c' e e'=>?_⟩
  ·obtain⟨cs,e1,e2⟩:=old i cs' e
   rw[<- e2.1];exact h3 i cs e1
  ·obtain⟨cs,e1,e2⟩:=old i cs' e
   obtain⟨c,e3,e4⟩:=e2.get e'
   obtain⟨u,a1,a2,a3⟩:=h4 i cs k c e1 e3
   exact⟨u,a1,a2,e4 _ _ _ _ a3⟩
 | seq m s n k0 f g hk h=>
  obtain⟨h1,h2,h3,h4⟩:=hr
  refine⟨h1,h2,fun i hi=>?_,fun i k c' hi e=>?_⟩
  ·rw[<- (h i hi).1];exact h3 i (Nat.lt_of_lt_of_le hi hk)
  ·obtain⟨c,e1,e2⟩:=(h i hi).get e
   obtain⟨u,a1,a2,a3⟩:=h4 i k c (Nat.lt_of_lt_of_le hi hk) e1
   exact⟨u,a1,a2,e2 w I u a3⟩
 | pmap m ks v v' h=>
  obtain⟨h1,h2,mes,clock,h3,h4⟩:=hr
  exact⟨h1,h2,mes,clock,h3,h4.1,fun i s e a b=>let ⟨x,y⟩:=h4.2.1 i s e a b;⟨x,h s (List.mem_of_getElem? a) w I _ y⟩,h4.2.2⟩
 | zero m s g=>
  obtain⟨h1,h2,h3,h4⟩:=hr
  exact⟨h1,h2,fun i hi=>absurd hi (Nat.not_lt_zero i),fun i k c' hi=>absurd hi (Nat.not_lt_zero i)⟩
 | one m s cs g h hf=>
  obtain⟨h1,h2,h3,h4⟩:=hr
  have zero:∀ i,i<1->i=0:=fun i hi=>by omega
  refine⟨h1,h2,fun i hi=>?_,fun i k c' hi e=>?_⟩
  ·rw[zero i hi,<- h.1];exact h3 0 cs rfl
  ·rw[zero i hi]at e ⊢
   obtain⟨c,e1,e2⟩:=h.get e
   obtain⟨u,a1,a2,a3⟩:=h4 0 cs k c rfl e1
   exact⟨u,a1,a2,e2 w I u (a3.free ((List.all_eq_true.1 hf) c (List.mem_of_getElem? e1)))⟩
def HSub(h h':Heap):Prop:=h.length=h'.length /\ ∀ b,BSub (hget h b) (hget h' b)
theorem HSub.refl(h:Heap):HSub h h:=⟨rfl,fun b=>.refl _⟩
theorem HSub.nil:HSub [] []:=.refl _
theorem HSub.cons{x y:BS}{h h':Heap}(hx:BSub x y)(hh:HSub h h'):HSub (x::h) (y::h'):=by
 refine⟨by simp[hh.1],fun b=>?_⟩
 cases b with
 | zero=>exact hx
 | succ b=>exact hh.2 b
theorem HSub.rh{w:World}{I:Nat->Prop}{φ:Phi}{h h':Heap}(s:HSub h h')(hh:RH w I φ (hget h)):RH w I φ (hget h'):=by
 have k:=fun b=>(s.2 b).kind
 refine⟨fun b e=>hh.none b ((k b).2.2.1 e),fun b e=>?_,fun b b' B o sz o' sz' e e'=>hh.inj b b' B o sz o' sz' ((k b).2.1 ▸ e) ((k b').2.1 ▸ e'),fun b B o sz e=>hh.disj b B o sz ((k b).2.1 ▸ e),
  fun b B o sz e e'=>hh.imm b B o sz ((k b).1 ▸ e) ((k b).2.1 ▸ e'),hh.lt⟩
 rcases hh.blk b ((k b).1 ▸ e)with ⟨B,o,sz,e1,r⟩ | ⟨e1,hp⟩
 ·exact .inl ⟨B,o,sz,e1,(s.2 b).rb r⟩
 ·exact .inr ⟨e1,(k b).2.2.2 hp⟩
theorem HSub.mut{φ:Phi}{h h':Heap}(s:HSub h h'){B:Nat}(hm:Mut φ (hget h') B):Mut φ (hget h) B:=by
 obtain⟨b,o,sz,e,e'⟩:=hm
 exact⟨b,o,sz,(s.2 b).kind.2.1 ▸ e,e'⟩
theorem Contract.sub{P:Program}{f:Nat}{args args':List AV}{hp hp' rh:Heap}{r:AV}(h:Contract P f args' hp' r rh)(ha:SubFs args args')(hs:HSub hp hp'):Contract P f args hp r rh:=by
 intro w I φ ra hh hx
 refine(h w I φ ra (hs.rh hh) ⟨ha.1.symm.trans hx.1,fun k c' u e e'=>?_⟩).mono fun u w' ⟨φ',I',a1,a2,a3⟩=>⟨φ',I',a1,a2,?_⟩
 ·obtain⟨c,e1,e2⟩:=ha.get e
  exact e2 _ _ _ _ (hx.2 k c u e1 e')
 ·exact⟨fun b p hb e=>a3.le b p (hs.1 ▸ hb) e,a3.Ile,fun B hB=>(a3.Inew B hB).imp id (Or.imp hs.mut id),fun B hB=>(a3.mt B hB).imp hs.mut id,a3.ext.weaken fun B hB=>hs.mut hB⟩
theorem Contract.resub{P:Program}{f:Nat}{args:List AV}{hp rh rh':Heap}{r r':AV}(h:Contract P f args hp r rh)(ha:SubF r r')(hs:HSub rh rh'):Contract P f args hp r' rh':=by
 intro w I φ ra hh hx
 exact(h w I φ ra hh hx).mono fun u w' ⟨φ',I',a1,a2,a3⟩=>⟨φ',I',ha _ _ _ _ a1,hs.rh a2,⟨a3.le,a3.Ile,a3.Inew,fun B hB=>a3.mt B (hs.mut hB),a3.ext⟩⟩
def gPG{X:Type}(dec:List AV->Heap->X)(pre:X->Prop)(enc:X->List AV × Heap)(args:List AV)(hp:Heap):Prop:=pre (dec args hp)/\SubFs args (enc (dec args hp)).1/\HSub hp (enc (dec args hp)).2
def Known.specG{X:Type}(f:Nat)(dec:List AV->Heap->X)(pre:X->Prop)(enc:X->List AV × Heap)(out:X->AV × Heap):Known:=
 {f:=f,ans:=fun args hp=>some {X:=X,g:=cd (gPG dec pre enc args hp),a:=dec args hp,r:=out}}
theorem Known.specG_ok{P:Program}{X:Type}{f:Nat}{dec:List AV->Heap->X}{pre:X->Prop}{enc:X->List AV × Heap}{out:X->AV × Heap}
  (h:∀ x,pre x->Contract P f (enc x).1 (enc x).2 (out x).1 (out x).2/\(enc x).2.length<=(out x).2.length):(Known.specG f dec pre enc out).Ok P:=by
 intro args hp A e hg
 cases e
 obtain⟨h1,h2,h3⟩:=cd_iff.1 hg
 have:=h _ h1
 exact⟨this.1.sub h2 h3,by rw[h3.1];exact this.2⟩
def gCG{R:Type}{X:Type}(dec:List AV->Heap->X)(pre:X->Prop)(enc:X->List AV × Heap)(A:List AV)(H:Heap)(k:X->Option R):Option R:=gX (gPG dec pre enc A H) (dec A H) k
theorem gCG_eq{R:Type}{X:Type}{dec:List AV->Heap->X}{pre:X->Prop}{enc:X->List AV × Heap}{A:List AV}{H:Heap}{k:X->Option R}(x:X)(h1:dec A H=x)(h2:pre x)(h3:SubFs A (enc x).1)(h4:HSub H (enc x).2) :
  gCG dec pre enc A H k=k x:=by
 subst h1;exact gX_of ⟨h2,h3,h4⟩
def Known.never(f:Nat):Known:={f:=f,ans:=fun args hp=>some {X:=Unit,g:=cd False,a:=(),r:=fun _=>(.undef,hp)}}
theorem Known.never_ok{P:Program}(f:Nat):(Known.never f).Ok P:=by
 intro args hp A e hg
 cases e
 exact(cd_iff.1 hg).elim
theorem SubF.sn{sz b n cm:Nat}:SubF (.sl sz b 0 n cm) (.sn sz b n):=by
 intro w I φ u h
 cases h with
 | sl _ _ B o _ _ _ cap q hφ hq hl hc hs=>
  rw[Nat.zero_mul,Nat.add_zero]at hq
  rw[Nat.zero_add]at hs
  subst hq
  exact .sn sz b n B _ cap hφ hl hs
 | sle _ _ _ a=>exact .sn0 sz b _
theorem SubF.unsn{sz b n:Nat}(hn:0<n):SubF (.sn sz b n) (.sl sz b 0 n n):=by
 intro w I φ u h
 cases h with
 | sn0=>exact absurd hn (Nat.lt_irrefl 0)
 | sn _ _ _ B o cap hφ hl hs=>exact .sl sz b B o 0 n n cap o hφ (by simp) hl hl (by simpa using hs)
theorem Contract.nilSn{P:Program}{f:Nat}{args:List AV}(h:Contract P f args [] .nils [])(sz:Nat)(g:Nat->List AV):Contract P f args [] (.sn sz 0 0) [.seq true sz 0 g]:=by
 intro w I φ ra hh hx
 refine(h w I φ ra hh hx).mono fun u w' ⟨φ',I',a1,a2,a3⟩=>?_
 have hp:=a2.phan (nx:=0) (hget_nil 0) true sz g
 have e:rdput (hget []) 0 (.seq true sz 0 g)=hget [.seq true sz 0 g]:=by
  funext b
  cases b with
  | zero=>rw[rdput_same];rfl
  | succ b=>rw[rdput_ne _ _ (Nat.succ_ne_zero b),hget_nil];simp[hget]
 rw[e]at hp
 refine⟨φ',I',?_,hp.1,a3.trans (hp.2 _)⟩
 cases a1
 exact .sn0 _ _ _
theorem Contract.blkSn{P:Program}{f:Nat}{args:List AV}{sz n cm:Nat}{x:BS}{g:Nat->List AV}(h:Contract P f args [] (.sl sz 0 0 n cm) [x])(hx:BSub x (.seq true sz n g)) :
  Contract P f args [] (.sn sz 0 n) [.seq true sz n g]:=by
 intro w I φ ra hh hx'
 have hs:HSub [x] [.seq true sz n g]:=.cons hx .nil
 refine(h w I φ ra hh hx').mono fun u w' ⟨φ',I',a1,a2,a3⟩=>⟨φ',I',SubF.sn w' I' φ' u a1,hs.rh a2,⟨a3.le,a3.Ile,a3.Inew,fun B hB=>a3.mt B (hs.mut hB),a3.ext⟩⟩
def up(c k:Nat)(i:Nat):Option Nat:=bif Nat.blt i c then some i else some (i+k)
def cnK(c base:Nat)(r:AV)(h:Heap):Option (AV × Heap):=
 let s:=norm1 c [0] {fr:=[(0,r)],hp:=h}
 some (ren (up c (base - c)) (fget s.fr 0),(s.hp.take c).map (renB (up c (base - c)))++(List.replicate (base - c) .dead++(s.hp.drop c).map (renB (up c (base - c)))))
def callC(c:Nat)(env:Env)(n f:Nat)(args:List AV)(hp:Heap):Option (AV × Heap):=evFn (R:=AV × Heap) env n f args hp (cnK c hp.length)
theorem contract_cn{c:Nat}{P:Program}{f:Nat}{args:List AV}{hp hp':Heap}{res r:AV}{h:Heap}(hc:c<=hp.length)(k1:cnK c hp.length res hp'=some (r,h))(k2:hp.length<=hp'.length)(hcon:Contract P f args hp res hp') :
  Contract P f args hp r h/\hp.length<=h.length:=by
 have hlen:c<=(norm1 c [0] {fr:=[(0,res)],hp:=hp'}).hp.length:=by
  show c<=(seqs [0] (norm0 c [0] {fr:=[(0,res)],hp:=hp'}).hp).length
  rw[seqs_len];exact norm0_base (Nat.le_trans hc k2)
 simp only[cnK,Option.some.injEq,Prod.mk.injEq]at k1
 obtain⟨rfl,rfl⟩:=k1
 refine⟨fun w I φ ra hh hx=>(hcon w I φ ra hh hx).mono fun u w' ⟨φ',I',a1,a2,a3⟩=>?_,by simp;omega⟩
 have hs:StOk w' I' φ' {fr:=[(0,res)],hp:=hp'} {tmps:=#[u],defers:=[]}:=by
  refine⟨a2,fun t=>?_⟩
  cases t with
  | zero=>exact a1
  | succ t=>exact .undef _
 obtain⟨_,φ2,n2,n3⟩:=norm1_ok c [0] hs (Nat.le_trans hc k2)
 generalize norm1 c [0] {fr:=[(0,res)],hp:=hp'}=s at *
 have st:=(a3.mono hc).trans n3
 obtain⟨k,hk⟩:∃ k,k=hp.length - c:=⟨_,rfl⟩
 rw[<- hk]
 let φ3:Phi:=fun b=>if b<c then φ2 b else if b<hp.length then φ b else φ2 (b - k)
 have hρ:∀ i b',up c k i=some b'->φ3 b'=φ2 i:=by
  intro i b' e
  unfold up at e
  by_cases hi:i<c
  ·rw[blt_true hi,cond_true]at e;cases e;simp only[φ3,if_pos hi]
  ·rw[blt_false (by omega),cond_false]at e
   cases e
   simp only[φ3,if_neg (by omega:¬ i+k<c),if_neg (by omega:¬ i+k<hp.length),Nat.add_sub_cancel]
 have hg:∀ b,hget ((s.hp.take c).map (renB (up c k))++(List.replicate k .dead++(s.hp.drop c).map (renB (up c k)))) b =
   if b<c then renB (up c k) (hget s.hp b)else if b<hp.length then .dead else renB (up c k) (hget s.hp (b - k)):=by
  intro b
  have hN:∀ i,(s.hp.length<=i)->renB (up c k) (hget s.hp i)=.none:=fun i hi=>by rw[hget_ge hi];rfl
  have hl1:((s.hp.take c).map (renB (up c k))).length=c:=by simp;omega
  by_cases h1:b<c
  ·rw[if_pos h1]
   simp only[hget,List.getD]
   rw[List.getElem?_append_left (by omega)]
   simp only[List.getElem?_map,List.getElem?_take,if_pos h1]
   rw[List.getElem?_eq_getElem (by omega:b<s.hp.length)];rfl
  ·rw[if_neg h1]
   by_cases h2:b<hp.length
   ·rw[if_pos h2]
    simp only[hget,List.getD]
    rw[List.getElem?_append_right (by omega),List.getElem?_append_left (by simp;omega),List.getElem?_replicate,if_pos (by rw[hl1];omega)];rfl
   ·rw[if_neg h2]
    simp only[hget,List.getD]
    rw[List.getElem?_append_right (by omega),List.getElem?_append_right (by simp;omega),hl1]
    simp only[List.getElem?_map,List.getElem?_drop,List.length_replicate]
    rw[show c+(b - c - k)=b - k by omega]
    cases e:s.hp[b - k]? with
    | none=>rfl
    | some x=>rfl
 have key:∀ b,live (hget ((s.hp.take c).map (renB (up c k))++(List.replicate k .dead++(s.hp.drop c).map (renB (up c k)))) b)=true ->
   ∃ i,(i<c/\b=i\/c<=i/\b=i+k)/\hget ((s.hp.take c).map (renB (up c k))++(List.replicate k .dead++(s.hp.drop c).map (renB (up c k)))) b=renB (up c k) (hget s.hp i)/\φ3 b=φ2 i/\live (hget s.hp i)=true:=by
  intro b hl
  rw[hg b]at hl ⊢
  by_cases h1:b<c
  ·rw[if_pos h1]at hl ⊢
   exact⟨b,.inl ⟨h1,rfl⟩,rfl,by simp only[φ3,if_pos h1],(renB_kind _ _).1 hl⟩
  ·rw[if_neg h1]at hl ⊢
   by_cases h2:b<hp.length
   ·rw[if_pos h2]at hl;cases hl
   ·rw[if_neg h2]at hl ⊢
    exact⟨b - k,.inr ⟨by omega,by omega⟩,rfl,by simp only[φ3,if_neg h1,if_neg h2],(renB_kind _ _).1 hl⟩
 have hmut:∀ b,mutable (hget ((s.hp.take c).map (renB (up c k))++(List.replicate k .dead++(s.hp.drop c).map (renB (up c k)))) b)=true ->
   ∃ i,(i<c/\b=i\/c<=i/\b=i+k)/\φ3 b=φ2 i/\mutable (hget s.hp i)=true:=by
  intro b hm
  obtain⟨i,h1,h2,h3,h4⟩:=key b (live_of_mutable hm)
  rw[h2]at hm
  exact⟨i,h1,h3,(renB_kind _ _).2.1 hm⟩
 refine⟨φ3,I',?_,⟨fun b e=>?_,fun b hl=>?_,fun b b' B o sz o' sz' hm hm' e e'=>?_,fun b B o sz hm e=>?_,fun b B o sz hl hm e=>?_,n2.hh.lt⟩,⟨fun b p hb e=>?_,st.Ile,st.Inew,fun B hB=>?_,st.ext⟩⟩
 ·exact(n2.fr 0).ren hρ
 ·rw[hg b]at e
  by_cases h1:b<c
  ·rw[if_pos h1]at e;simp only[φ3,if_pos h1];exact n2.hh.none b ((renB_kind _ _).2.2.1 e)
  ·rw[if_neg h1]at e
   by_cases h2:b<hp.length
   ·rw[if_pos h2]at e;cases e
   ·rw[if_neg h2]at e;simp only[φ3,if_neg h1,if_neg h2];exact n2.hh.none _ ((renB_kind _ _).2.2.1 e)
 ·obtain⟨i,h1,h2,h3,h4⟩:=key b hl
  rcases n2.hh.blk i h4 with ⟨B,o,sz,e,r⟩ | ⟨e,hp⟩
  ·exact .inl ⟨B,o,sz,h3.trans e,by rw[h2];exact r.ren hρ⟩
  ·exact .inr ⟨h3.trans e,by rw[h2];exact phantom_ren _ hp⟩
 ·obtain⟨i,h1,h3,h4⟩:=hmut b hm
  obtain⟨i',h1',h3',h4'⟩:=hmut b' hm'
  have:=n2.hh.inj i i' B o sz o' sz' h4 h4' (h3 ▸ e) (h3' ▸ e')
  omega
 ·obtain⟨i,h1,h3,h4⟩:=hmut b hm
  exact n2.hh.disj i B o sz h4 (h3 ▸ e)
 ·obtain⟨i,h1,h2,h3,h4⟩:=key b hl
  rw[h2]at hl hm
  exact n2.hh.imm i B o sz h4 (by rw[<- (renB_kind (up c k) _).2.2.2 hl];exact hm) (h3 ▸ e)
 ·by_cases h1:b<c
  ·simp only[φ3,if_pos h1];exact st.le b p h1 e
  ·simp only[φ3,if_neg h1,if_pos hb];exact e
 ·obtain⟨b,o,sz,hm,e⟩:=hB
  obtain⟨i,h1,h3,h4⟩:=hmut b hm
  exact st.mt B ⟨i,o,sz,h4,h3 ▸ e⟩
theorem callC_ok{c:Nat}{P:Program}{env:Env}(henv:EnvOk P env)(hcode:CodeOk P env)(hm:P.follows .mixedOrders=true){n f:Nat}{args:List AV}{hp:Heap}{r:AV}{h:Heap}(hc:c<=hp.length)
  (e:callC c env n f args hp=some (r,h)):Contract P f args hp r h/\hp.length<=h.length:=by
 obtain⟨res,hp',k1,k2,hcon⟩:=ev_ok henv hcode hm n f args hp _ _ e
 exact contract_cn hc k1 k2 hcon
end Go.AM
end
noncomputable section
open Go Go.AM Go.Md Go.Wk
namespace Go.Co
set_option maxRecDepth 100000
set_option maxHeartbeats 400000
def asc(f:Nat):List (Nat × Nat)->Option Nat
 | []=>none
 | (g,m)::r=>bif Nat.beq f g then some m else asc f r
def envN(lv:List (Nat × Nat × List Nat))(md:List (Nat × Nat))(fz:List (Nat × Nat × List Nat))(l:List Known):Env:=
 {envM (fun f=>asc f md) (orcOf l)with live:=fun f b=>liveOf f b (lv++liveTab),frz:=fun f b=>liveOf f b fz}
theorem envN_ok{lv:List (Nat × Nat × List Nat)}{md:List (Nat × Nat)}{fz:List (Nat × Nat × List Nat)}{l:List Known}(h:∀ k ∈ l,k.Ok PG):EnvOk PG (envN lv md fz l):=⟨tt_ok rfl,orc_ok h⟩
theorem envN_code{lv:List (Nat × Nat × List Nat)}{md:List (Nat × Nat)}{fz:List (Nat × Nat × List Nat)}{l:List Known}:CodeOk PG (envN lv md fz l):=codeOf_ok rfl
theorem conN{lv:List (Nat × Nat × List Nat)}{md:List (Nat × Nat)}{fz:List (Nat × Nat × List Nat)}{l:List Known}(h:∀ k ∈ l,k.Ok PG){n f:Nat}{args:List AV}{r:AV}(e:callT (envN lv md fz l) n f args=some r):Contract PG f args [] r []:=
 callT_ok (envN_ok h) envN_code mixed e
theorem conC{lv:List (Nat × Nat × List Nat)}{md:List (Nat × Nat)}{fz:List (Nat × Nat × List Nat)}{l:List Known}(h:∀ k ∈ l,k.Ok PG){c n f:Nat}{args:List AV}{hp:Heap}{r:AV}{h':Heap}(hc:c<=hp.length)
  (e:callC c (envN lv md fz l) n f args hp=some (r,h')):Contract PG f args hp r h'/\hp.length<=h'.length:=callC_ok (envN_ok h) envN_code mixed hc e
theorem conB{lv:List (Nat × Nat × List Nat)}{md:List (Nat × Nat)}{fz:List (Nat × Nat × List Nat)}{l:List Known}(h:∀ k ∈ l,k.Ok PG){n f:Nat}{args:List AV}{r:AV}{h':Heap}
  (e:callC 0 (envN lv md fz l) n f args []=some (r,h')):Contract PG f args [] r h':=(callC_ok (envN_ok h) envN_code mixed (Nat.le_refl 0) e).1
theorem clone_sn{F sz b:Nat}(hb:b<=1000)(hn:callT env0 2 F [.nils]=some .nils)(he:callH env0 2 F [.trl sz []] []=some (.sl sz 0 0 0 0,[.arr true sz []]))
  (hs:∀ n f,callH env0 2 F [.tr sz (n+1) f] []=bif Nat.ble ((0+(n+1))*b) 140737488355328&&Nat.ble (0+(n+1)) 140737488355328 then some (.sl sz 0 0 (n+1) 0,[.seq true sz (n+1) f])else none)
  {n:Nat} (f:Nat->List AV) (h:n<=100000):Contract PG F [.tr sz n f] [] (.sn sz 0 n) [.seq true sz n f]:=by
 have e0:env0=envN [] [] [] []:=rfl
 rw[e0]at hn he hs
 cases n with
 | zero=>
  refine Contract.split (OrC.of [] [] .nil) ((conN (fun k hk=>by cases hk) hn).nilSn sz f) ?_
  have:=(callH_ok (envN_ok (fun k hk=>by cases hk)) envN_code mixed he).1
  exact this.blkSn (.zero true sz f)
 | succ n=>
  have h1:n+1<=100000:=h
  have:=hs n f
  rw[ble_true (by have:=Nat.mul_le_mul h1 hb;rw[Nat.zero_add];omega),ble_true (by omega)]at this
  have:=(callH_ok (envN_ok (fun k hk=>by cases hk)) envN_code mixed this).1
  exact this.blkSn (.refl _)
theorem cloN_Msg{n:Nat}(f:Nat->List AV)(h:n<=100000):Contract PG F_slices_Clone_api_Msg [.tr 31 n f] [] (.sn 31 0 n) [.seq true 31 n f]:=clone_sn (b:=392) (by omega) (by kernel_rfl) (by kernel_rfl) (fun n f=>by kernel_rfl) f h
theorem tn_tr{sz n:Nat}{f:Nat->List AV}:SubV (.tn sz n f) (.tr sz n f):=fun w I u h=>by
 cases h with
 | tn _ _ _ _ h=>exact h
def dOpL(a:List AV):List Msg:=dOp (a.getD 0 .undef)
def eOpL(l:List Msg):List AV:=[opV l]
def sO(l:List Msg):Nat->List AV:=fun i=>encMsg (l.getD i default)
def kCloO:Known:=.specB F_slices_Clone_api_Msg dOpL (fun l=>l.length<=100000) eOpL (fun l=>(.sn 31 0 l.length,[.seq true 31 l.length (sO l)]))
theorem kCloO_ok:kCloO.Ok PG:=Known.specB_ok fun l h=>(cloN_Msg (sO l) h).args (.cons tn_tr .nil)
def eMo(l:List Known):Env:=envN [(F_twin_Msgs,0,[0,7,8,9])] [(F_slices_Clone_api_Msg,1),(F_twin_Msg,0)] [] l
def knMo:List Known:=[kCloO,kMsgM]
theorem knMo_ok:∀ k ∈ knMo,k.Ok PG:=ak kCloO_ok (ak kMsgM_ok ank)
def pOp(l:List Msg):Prop:=l.length<=1000 /\ ∀ m ∈ l,CpOk m
def SMo(l:List Msg)(i:Int):St:={fr:=[(0,.sn 31 0 l.length),(7,.sn 31 0 l.length),(8,.int .i64 l.length),(9,.int .i64 i)],hp:=[.seq true 31 l.length (sO l)]}
def LMo(N m:Nat)(s:St):Option (AV × Heap):=LP (eMo knMo) N 0 F_twin_Msgs (cnK 0 0) 0 [] m s
theorem mo_in(N:Nat)(l:List Msg):callC 0 (eMo knMo) (N+1) F_twin_Msgs [opV l] []=gC dOpL (fun l=>l.length<=100000) eOpL [opV l] fun y=>LMo N N (SMo y 0):=by kernel_rfl
theorem mo_st(N m:Nat)(l:List Msg)(i:Int):LMo N (m+1) (SMo l i) =
 bif decide (i<(l.length:Int))then rg i l.length (bif i.toNat.blt l.length then gC dM1 CpOk eM1 [.agg (encMsg (l.getD i.toNat default))] fun y=>rg i l.length (bif i.toNat.blt l.length&&true then
  LMo N m {fr:=[(0,.sn 31 0 l.length),(7,.sn 31 0 l.length),(8,.int .i64 l.length),(9,.int .i64 (IntKind.i64.wrap (i+1)))],hp:=[.seq true 31 l.length fun i'=>bif i'.beq i.toNat then encMsg y else encMsg (l.getD i' default)]}else none)else none)
 else some (.sn 31 0 l.length,[.seq true 31 l.length (sO l)]):=by kernel_rfl
theorem opB_con(l:List Msg)(h:pOp l):Contract PG F_twin_Msgs [opV l] [] (.sn 31 0 l.length) [.seq true 31 l.length (sO l)]:=by
 obtain⟨N,hN⟩:∃ N,N=200000:=⟨_,rfl⟩
 have h1:=h.1
 have run:∀ d i m,i+d=l.length->d<m->LMo N m (SMo l (i:Nat))=some (.sn 31 0 l.length,[.seq true 31 l.length (sO l)]):=by
  intro d
  induction d with
  | zero=>
   intro i m hi hm
   obtain⟨m,rfl⟩:∃ k,m=k+1:=⟨m - 1,by omega⟩
   rw[mo_st,decide_eq_false (by omega),cond_false]
  | succ d ih=>
   intro i m hi hm
   obtain⟨m,rfl⟩:∃ k,m=k+1:=⟨m - 1,by omega⟩
   have hil:i<l.length:=by omega
   have e:=ih (i+1) m (by omega) (by omega)
   have q:∀ K:Msg->Option (AV × Heap),gC dM1 CpOk eM1 [.agg (encMsg (l.getD i default))] K=K (l.getD i default):=fun K=>gC_eq (l.getD i default) (dec_encMsg _) (h.2 _ (getD_mem hil)) (.refl _)
   rw[mo_st,decide_eq_true (by omega),cond_true,rg_eq hil,Int.toNat_natCast,blt_true hil,cond_true,q,rg_eq hil,Bool.and_true,cond_true,wrapS (by omega),fun_at encMsg (fun k=>l.getD k default) i]
   exact e
 refine conB knMo_ok (n:=N+1) ((mo_in N l).trans ((gC_eq l (dOp_eq l) (by omega) (.refl _)).trans ?_))
 exact run l.length 0 N (by omega) (by omega)
theorem tr_tn{sz n:Nat}{f:Nat->List AV}:SubV (.tr sz n f) (.tn sz n f):=fun w I u h=>.tn sz n f u h
theorem mo_sn(n:Nat)(f:Nat->List AV):snK (.sn 31 0 n) [.seq true 31 n f]=bif n.ble n then some (.tr 31 n f)else none:=by kernel_rfl
theorem op_con(l:List Msg)(h:pOp l):Contract PG F_twin_Msgs [opV l] [] (opV l) []:=
 ((opB_con l h).snapped ((mo_sn l.length (sO l)).trans (by rw[ble_true (Nat.le_refl _)];rfl))).res tr_tn
def kOpC(l:List Msg):Known:=.spec F_twin_Msgs (fun _=>()) (fun _=>pOp l) (fun _=>[opV l]) (fun _=>opV l)
theorem kOpC_ok(l:List Msg):(kOpC l).Ok PG:=Known.spec_ok fun _ h=>op_con l h
def isTn:AV->Bool
 | .tn _ _ _=>true
 | _=>false
def kMsgO(l:List Msg):Known:={f:=F_twin_Msgs,ans:=fun args hp=>match isTn (args.getD 0 .undef)with
 | true=>(kOpC l).ans args hp
 | false=>kMsgE.ans args hp}
theorem kMsgO_ok(l:List Msg):(kMsgO l).Ok PG:=by
 intro args hp A e hg
 unfold kMsgO at e
 simp only[]at e
 cases hE:isTn (args.getD 0 .undef)with
 | true=>rw[hE]at e;exact kOpC_ok l args hp A e hg
 | false=>rw[hE]at e;exact kMsgE_ok args hp A e hg
def gOp{R:Type}(l:List Msg)(K:Option R):Option R:=gC (fun _=>()) (fun _=>pOp l) (fun _=>[opV l]) [opV l] fun _=>K
theorem gOp_eq{R:Type}{l:List Msg}{K:Option R}(h:pOp l):gOp l K=K:=gC_eq () rfl h (.refl _)
def gAls{R:Type}(l:List Alive)(k:List Alive->Option R):Option R:=gC (dL decAlive) shortL eAls [encAlives l] k
def gFzV{R:Type}(fz:LN Msg)(K:AV->Option R):Option R:=match fz with
 | .nil=>K .nils
 | .emp=>K (.trl 31 [])
 | .ne a t=>gC (dL decMsg) pMs eMs [encMsgs (a::t)] fun y=>K (encMsgs y)
def gAkH{R:Type}(l:List Ask)(b:Bool)(K:AV->List BS->Option R):Option R:=match l with
 | []=>K (aqV b) []
 | a::t=>gC dAk pAk eAk [encAsks (a::t)] fun y=>K (.sl 31 3 0 y.length 0) [blkA y]
def fin(H:Heap):Option AV:=snK (.tup [.agg ((cell0 H 0).take 7),(cell0 H 0).getD 22 .undef]) H
def gBu{R:Type}(s:ES)(b:Bool)(K:Plan->List Alive->List Member->AV->AV->List BS->Option R):Option R:=
 gMs s.p.chain fun y0=>gMs s.p.valid fun y1=>gAls s.ns fun y2=>gMs s.keep fun y3=>gFzV s.fz fun F=>gOp s.op <| gAkH s.l b fun A B=>K {s.p with chain:=y0,valid:=y1} y2 y3 F A B
def hpB(s:ES)(p:Plan)(ns:List Alive)(W:List AV)(A:AV)(B:List BS):Heap:=hpD false s.e s.g ns (opV s.op) A .nils s.c (encPlan p) W B
def kn22(t:Bool)(l:List Msg):List Known:=[kMsgO l,kCloneAlive,kCloneMember,kUpM,kEb t]
theorem kn22_ok(t:Bool)(l:List Msg):∀ k ∈ kn22 t l,k.Ok PG:=ak (kMsgO_ok l) (ak kCloneAlive_ok (ak kCloneMember_ok (ak kUpM_ok (ak (kEb_ok t) ank))))
def endH(t:Bool)(H:Heap):Heap:=bif t then outT H (endP (dEn [] H).s).1 (endP (dEn [] H).s).2 (dEn [] H).s.l else H
def A0:List AV:=[.ptr 0 0 0,.int .i64 0]
def kM(m:Msg)(k:Int):Msg:={m with kind:=k,shard:=0}
theorem h20(t:Bool)(s:ES)(b:Bool)(m:Msg):callT (envK2 (kn22 t s.op)) 20 F_coord_Handle [.agg (buV s b),.agg (encCf s.c),.agg (encMsg (kM m 20))] =
 gBu s b fun p ns ke F A B=>bif decide (s.p.phase=1)then bif decide (s.p.epoch=m.epoch)then
  gEb t A0 (hpB s p ns [.bool true,encMembers ke,F,.bool s.he] A B) (fin (endH t (hpB s p ns [.bool true,encMembers ke,F,.bool s.he] A B)))
  else fin (hpB s p ns [.bool s.fe,encMembers ke,F,.bool s.he] A B)else fin (hpB s p ns [.bool s.fe,encMembers ke,F,.bool s.he] A B):=by
 obtain⟨e,g,p,ns,nb,op,keep,fz,fe,he,l,c⟩:=s
 cases t <;> cases l <;> cases b <;> cases fz <;> kernel_rfl
def msgZ:Msg:=⟨0,0,0,0,0,0,0,0,0,0,0,0,false,false,[],[],⟨0,0⟩,⟨0,0⟩,⟨0,[],[],[],false⟩,[],[],[],⟨⟨0,0⟩,⟨0,0⟩,0,[],[]⟩⟩
def actMg(p:Plan):Msg:={msgZ with kind:=10,src:=1,dst:=(p.chain.getD 0 default).node,boot:=(p.chain.getD 0 default).boot,epoch:=p.epoch,gen:=p.gen,fresh:=p.fresh,chain:=p.chain}
def wasMg(a:Ask):Msg:={msgZ with kind:=22,src:=1,dst:=a.1,num:=a.2}
theorem act_sub(p:Plan):SubC (actC p) (encMsg (actMg p)):=subC_all (by repeat' (first | exact trivial | exact nilsL | exact SubV.refl _ | refine⟨?_,?_⟩))
theorem was_sub(a:Ask):SubC (ansC a) (encMsg (wasMg a)):=subC_all (by repeat' (first | exact trivial | exact nilsL | exact SubV.refl _ | refine⟨?_,?_⟩))
def buT(s:ES):List AV:=[.int .i64 s.e,.int .i64 s.g,.trl 8 [encPlan s.p],encAlives s.ns,.trl 4 [wkA s],opV s.op,encAsks s.l]
def endS(s:ES):ES:={s with g:=(endP s).1,p:=(endP s).2,fe:=false,keep:=[],fz:=.nil,he:=false,l:=[]}
def outMs(p:Plan)(l:List Ask):List Msg:=actMg p::l.map wasMg
def endQ(s:ES):ES × List Msg:=bif mayE s then(endS s,outMs (endP s).2 s.l)else(s,[])
def ansB(x:ES × List Msg):AV:=.tup [.agg (buT x.1),encMsgs x.2]
theorem one_trl{sz:Nat}{a b:List AV}(h:SubC a b):SubV (.trl sz [a]) (.trl sz [b]):=SubC.trl rfl fun i hi=>by
 have:i=0:=by
  have:i<1:=hi
  omega
 subst this;exact h
theorem wk0_sub(s:ES)(h1:s.fe=false)(h2:s.keep=[])(h3:s.fz=.nil)(h4:s.he=false):SubC wk0 (wkA s):=by
 unfold wkA
 rw[h1,h2,h3,h4]
 exact .cons (.refl _) (.cons nilsL (.cons (.refl _) (.cons (.refl _) .nil)))
theorem aqV_ask(b:Bool):SubV (aqV b) (encAsks []):=by
 cases b with
 | false=>exact .nils
 | true=>exact SubV.trl_encL (e:=encAsk) (z:=(0,0)) []
theorem outs_sub(p:Plan)(l:List Ask):SubV (.tr 31 (l.length+1) fun i=>canF idC [] (actC p::l.map ansC) (i+0)) (encMsgs (outMs p l)):=by
 have hl:(outMs p l).length=l.length+1:=by unfold outMs;simp
 unfold encMsgs encL
 rw[hl]
 refine SubV.trs fun i hi=>?_
 have e1:canF idC [] (actC p::l.map ansC) (i+0)=(actC p::l.map ansC).getD i []:=canF_at (e:=idC) (z:=[]) (by simpa using hi)
 rw[e1]
 cases i with
 | zero=>exact act_sub p
 | succ i=>
  have hil:i<l.length:=by omega
  have e2:(actC p::l.map ansC).getD (i+1) []=ansC l[i]:=by simp[List.getD,List.getElem?_eq_getElem hil]
  have e3:(outMs p l).getD (i+1) default=wasMg l[i]:=by unfold outMs;simp[List.getD,List.getElem?_eq_getElem hil]
  rw[e2,e3]
  exact was_sub _
theorem fin_keep{s:ES}(b:Bool)(hn:s.nb=false):∃ v,fin (hpEE s b)=some v/\SubV v (ansB (s,[])):=by
 obtain⟨e,g,p,ns,nb,op,keep,fz,fe,he,l,c⟩:=s
 subst hn
 cases l with
 | nil=>
  refine⟨.tup [.agg [.int .i64 e,.int .i64 g,.trl 8 [encPlan p],encAlives ns,.trl 4 [wkA ⟨e,g,p,ns,false,op,keep,fz,fe,he,[],c⟩],opV op,aqV b],.nils],?_,?_⟩
  ·cases b <;> cases fz <;> rfl
  ·exact .tup (.cons (.agg (.cons (.refl _) (.cons (.refl _) (.cons (.refl _) (.cons (.refl _) (.cons (.refl _) (.cons (.refl _) (.cons (aqV_ask b) .nil)))))))) (.cons nilsL .nil))
 | cons a t=>
  refine⟨.tup [.agg [.int .i64 e,.int .i64 g,.trl 8 [encPlan p],encAlives ns,.trl 4 [wkA ⟨e,g,p,ns,false,op,keep,fz,fe,he,a::t,c⟩],opV op,encAsks (a::t)],.nils],?_,?_⟩
  ·have:(bif((a::t).length.beq 0||((a::t).length+0).ble (a::t).length)&&true&&true then some (AV.tup [.agg [.int .i64 e,.int .i64 g,.trl 8 [encPlan p],encAlives ns,.trl 4 [wkA ⟨e,g,p,ns,false,op,keep,fz,fe,he,a::t,c⟩],opV op,encAsks (a::t)],.nils])else none)=some (AV.tup [.agg [.int .i64 e,.int .i64 g,.trl 8 [encPlan p],encAlives ns,.trl 4 [wkA ⟨e,g,p,ns,false,op,keep,fz,fe,he,a::t,c⟩],opV op,encAsks (a::t)],.nils]):=by
    rw[show(a::t).length+0=(a::t).length from rfl,orU];rfl
   refine Eq.trans ?_ this
   cases fz <;> rfl
  ·exact .tup (.cons (.refl _) (.cons nilsL .nil))
theorem fin_end{s:ES}(b:Bool)(g:Int)(p:Plan)(hn:s.nb=false):∃ v,fin (outE (wrE s g p) b)=some v/\SubV v (ansB ({s with g:=g,p:=p,fe:=false,keep:=[],fz:=.nil,he:=false,l:=[]},outMs p s.l)):=by
 obtain⟨e,g0,p0,ns,nb,op,keep,fz,fe,he,l,c⟩:=s
 subst hn
 have hw:SubV (.trl 4 [wk0]) (.trl 4 [wkA ⟨e,g,p,ns,false,op,[],.nil,false,false,[],c⟩]):=one_trl (wk0_sub _ rfl rfl rfl rfl)
 cases l with
 | nil=>
  refine⟨.tup [.agg [.int .i64 e,.int .i64 g,.trl 8 [encPlan p],encAlives ns,.trl 4 [wk0],opV op,aqV b],.trl 31 [actC p]],?_,?_⟩
  ·cases b <;> rfl
  ·refine .tup (.cons (.agg (.cons (.refl _) (.cons (.refl _) (.cons (.refl _) (.cons (.refl _) (.cons hw (.cons (.refl _) (.cons (aqV_ask b) .nil)))))))) (.cons ?_ .nil))
   exact SubV.trans (one_trl (act_sub p)) (SubV.trl_encL (e:=encMsg) (z:=default) [actMg p])
 | cons a t=>
  refine⟨.tup [.agg [.int .i64 e,.int .i64 g,.trl 8 [encPlan p],encAlives ns,.trl 4 [wk0],opV op,.tr 31 0 fun i=>bif(i+0).blt (0+(a::t).length)then zMsgC else encAsk ((a::t).getD (i+0) (0,0))],.tr 31 ((a::t).length+1) fun i=>canF idC [] (actC p::(a::t).map ansC) (i+0)],?_,?_⟩
  ·have:(bif true&&((((a::t).length+1).beq 0||((a::t).length+1+0).ble ((a::t).length+1))&&true)then some (AV.tup [.agg [.int .i64 e,.int .i64 g,.trl 8 [encPlan p],encAlives ns,.trl 4 [wk0],opV op,.tr 31 0 fun i=>bif(i+0).blt (0+(a::t).length)then zMsgC else encAsk ((a::t).getD (i+0) (0,0))],.tr 31 ((a::t).length+1) fun i=>canF idC [] (actC p::(a::t).map ansC) (i+0)])else none)=some (AV.tup [.agg [.int .i64 e,.int .i64 g,.trl 8 [encPlan p],encAlives ns,.trl 4 [wk0],opV op,.tr 31 0 fun i=>bif(i+0).blt (0+(a::t).length)then zMsgC else encAsk ((a::t).getD (i+0) (0,0))],.tr 31 ((a::t).length+1) fun i=>canF idC [] (actC p::(a::t).map ansC) (i+0)]):=by
    rw[show(a::t).length+1+0=(a::t).length+1 from rfl,orU];rfl
   exact this
  ·refine .tup (.cons (.agg (.cons (.refl _) (.cons (.refl _) (.cons (.refl _) (.cons (.refl _) (.cons hw (.cons (.refl _) (.cons ?_ .nil)))))))) (.cons (outs_sub p (a::t)) .nil))
   exact SubV.trs fun i hi=>absurd hi (Nat.not_lt_zero i)
structure HOk(s:ES):Prop where
 eok:EOk s
 nb:s.nb=false
 op:pOp s.op
 val:s.p.valid.length<=1000
 cp:∀ f ∈ s.fz.l,CpOk f
def akCell(l:List Ask)(b:Bool):AV:=match l with
 | []=>aqV b
 | _::_=>.sl 31 3 0 l.length 0
def akBl(l:List Ask):List BS:=match l with
 | []=>[]
 | _::_=>[blkA l]
theorem gFzV_eq{R:Type}{fz:LN Msg}{K:AV->Option R}(h:fz.l.length<=1000)(hc:∀ f ∈ fz.l,CpOk f):gFzV fz K=K (fzV fz):=by
 cases fz with
 | nil=>rfl
 | emp=>rfl
 | ne a t=>
  have hp:pMs (a::t):=⟨Nat.le_trans h (by omega),List.cons_ne_nil _ _,hc⟩
  exact qMs (k:=fun y=>K (encMsgs y)) hp
theorem gAkH_eq{R:Type}{l:List Ask}{b:Bool}{K:AV->List BS->Option R}(h:l.length<=1000):gAkH l b K=K (akCell l b) (akBl l):=by
 cases l with
 | nil=>rfl
 | cons a t=>
  have hp:pAk (a::t):=⟨Nat.le_trans h (by omega),List.cons_ne_nil _ _⟩
  exact qAk (k:=fun y=>K (.sl 31 3 0 y.length 0) [blkA y]) hp
theorem gAls_eq{R:Type}{l:List Alive}{k:List Alive->Option R}(h:l.length<=1000):gAls l k=k l:=gC_eq l (decAlives l) (by unfold shortL LB;omega) (.refl _)
theorem gBu_eq{R:Type}{s:ES}{b:Bool}{K:Plan->List Alive->List Member->AV->AV->List BS->Option R}(h:HOk s):gBu s b K=K s.p s.ns s.keep (fzV s.fz) (akCell s.l b) (akBl s.l):=by
 have h1:=h.eok.ch
 have h2:=h.val
 have h3:=h.eok.ns
 have h4:=h.eok.keep
 unfold gBu
 rw[gMs_eq _ (by unfold shortL LB;omega),gMs_eq _ (by unfold shortL LB;omega),gAls_eq h3,gMs_eq _ (by unfold shortL LB;omega),gFzV_eq h.eok.fz h.cp,gOp_eq h.op,gAkH_eq h.eok.l]
theorem hpB_eq{s:ES}{b:Bool}(fe:Bool)(h:HOk s):hpB s s.p s.ns [.bool fe,encMembers s.keep,fzV s.fz,.bool s.he] (akCell s.l b) (akBl s.l)=(eEn ⟨{s with fe:=fe},b⟩).2:=by
 obtain⟨_,hn,ho,_,_⟩:=h
 obtain⟨e,g,p,ns,nb,op,keep,fz,fe0,he,l,c⟩:=s
 subst hn
 cases l <;> rfl
theorem endH_eq(s:ES)(b:Bool)(t:Bool):endH t (eEn ⟨s,b⟩).2=bif t then outE (wrE s (endP s).1 (endP s).2) b else hpEE s b:=by
 have e:(dEn [] (eEn ⟨s,b⟩).2).s=s:=by
  have:=dEn_eq ⟨s,b⟩
  exact congrArg EB.s this
 unfold endH
 rw[e]
 cases t with
 | false=>rfl
 | true=>exact outT_eq s b _ _
theorem fin_endH{s:ES}(b:Bool)(hn:s.nb=false):∃ v,fin (endH (mayE s) (eEn ⟨s,b⟩).2)=some v/\SubV v (ansB (endQ s)):=by
 rw[endH_eq]
 unfold endQ
 cases mayE s with
 | false=>exact fin_keep b hn
 | true=>exact fin_end b _ _ hn
def h20P(s:ES)(m:Msg):ES × List Msg:=bif decide (s.p.phase=1)&&decide (s.p.epoch=m.epoch)then endQ {s with fe:=true}else(s,[])
theorem EOk.fe{s:ES}(h:EOk s)(fe:Bool):EOk {s with fe:=fe}:=⟨h.ch,h.ns,h.keep,h.fz,h.ver,h.c1,h.c2,h.l⟩
theorem h20_at{s:ES}{b:Bool}{m:Msg}(h:HOk s):Contract PG F_coord_Handle [.agg (buV s b),.agg (encCf s.c),.agg (encMsg (kM m 20))] [] (ansB (h20P s m)) []:=by
 have e:=h20 (mayE {s with fe:=true}) s b m
 rw[gBu_eq h,hpB_eq true h,hpB_eq s.fe h]at e
 have e1:∀ K:Option AV,gEb (mayE {s with fe:=true}) A0 (eEn ⟨{s with fe:=true},b⟩).2 K=K:=fun K=>gEb_eq (x:=⟨{s with fe:=true},b⟩) (h.eok.fe true) rfl
 rw[e1]at e
 obtain⟨v1,f1,g1⟩:=fin_endH (s:={s with fe:=true}) b h.nb
 obtain⟨v2,f2,g2⟩:=fin_keep (s:=s) b h.nb
 have f2:fin (eEn ⟨{s with fe:=s.fe},b⟩).2=some v2:=f2
 rw[f1,f2]at e
 unfold h20P
 cases hp:decide (s.p.phase=1)with
 | false=>
  rw[hp,cond_false]at e
  exact(conK2 (kn22_ok _ _) e).res g2
 | true=>
  rw[hp,cond_true]at e
  cases he:decide (s.p.epoch=m.epoch)with
  | false=>
   rw[he,cond_false]at e
   exact(conK2 (kn22_ok _ _) e).res g2
  | true=>
   rw[he,cond_true]at e
   exact(conK2 (kn22_ok _ _) e).res g1
theorem bu_or{s:ES}{x y:AV}(hl:s.l=[]):OrC [.agg (buT s),x,y] [.agg (buV s false),x,y] [.agg (buV s true),x,y]:=by
 unfold buT buV akAV
 rw[hl]
 exact OrC.of [] [x,y] (.agg (OrC.of [.int .i64 s.e,.int .i64 s.g,.trl 8 [encPlan s.p],encAlives s.ns,.trl 4 [wkA s],opV s.op] [] .nil))
theorem bu_ne{s:ES}(hl:s.l ≠ []):buT s=buV s false:=by
 unfold buT buV akAV
 cases h:s.l with
 | nil=>exact absurd h hl
 | cons a t=>rfl
theorem con_bu{s:ES}{x y:AV}{r:AV}(h:∀ b,Contract PG F_coord_Handle [.agg (buV s b),x,y] [] r []):Contract PG F_coord_Handle [.agg (buT s),x,y] [] r []:=by
 by_cases hl:s.l=[]
 ·exact Contract.split (bu_or hl) (h false) (h true)
 ·rw[bu_ne hl];exact h false
theorem h20_con{s:ES}{m:Msg}(h:HOk s):Contract PG F_coord_Handle [.agg (buT s),.agg (encCf s.c),.agg (encMsg (kM m 20))] [] (ansB (h20P s m)) []:=con_bu fun _=>h20_at h
def fnGi(m:Member):AV:=.fn (.func F_coord_desk_grows_c1_c1) [] [.tp (encMember m) 0]
theorem cloGi:Clo F_slices_IndexFunc_api_Member encMembers default fnGi (fun m k=>decide (k.node=m.node)) (fun _=>True) [] where
 hin N l y:=by kernel_rfl
 hst N j l y i h:=by kernel_rfl
def eGi(p:LM):List AV:=[encMembers p.1,fnGi p.2]
theorem dGi_eq(p:LM):dLC (eGi p)=p:=by
 show(decL decMember (encMembers p.1),decMember (encMember p.2))=p
 rw[decMembers,dec_encMember]
def kIxGi:Known:=.spec F_slices_IndexFunc_api_Member dLC pLC eGi (fun p=>.int .i64 (ixFrom (fun k=>decide (k.node=p.2.node)) p.1 0))
theorem kIxGi_ok:kIxGi.Ok PG:=Known.spec_ok fun p h=>cloGi.con ank h trivial
theorem ctGi_eq(l:List Member)(m:Member):callT (envC2 [kIxGi]) 9 F_slices_ContainsFunc_api_Member [encMembers l,fnGi m]=gC dLC pLC eGi [encMembers l,fnGi m] fun p=>some (.bool (decide (0<=ixFrom (fun k=>decide (k.node=p.2.node)) p.1 0))):=by kernel_rfl
theorem ctGi_con(p:LM)(h:pLC p):Contract PG F_slices_ContainsFunc_api_Member (eGi p) [] (.bool (hasNode p.1 p.2.node)) []:=by
 refine conC2 (ak kIxGi_ok ank) ((ctGi_eq p.1 p.2).trans ((gC_eq p (dGi_eq p) h (.refl _)).trans ?_))
 rw[ixFrom_any];rfl
def kCtGi:Known:=.spec F_slices_ContainsFunc_api_Member dLC pLC eGi (fun p=>.bool (hasNode p.1 p.2.node))
theorem kCtGi_ok:kCtGi.Ok PG:=Known.spec_ok ctGi_con
def fnGo(p:Plan):AV:=.fn (.func F_coord_desk_grows_c1) [] [.tp (encPlan p) 0]
def gGi{R:Type}(l:List Member)(m:Member)(K:LM->Option R):Option R:=gC dLC pLC eGi [encMembers l,fnGi m] K
theorem gGi_eq{R:Type}{l:List Member}{m:Member}{K:LM->Option R}(h:l.length<=100000):gGi l m K=K (l,m):=gC_eq (l,m) (dGi_eq (l,m)) h (.refl _)
def isNew(p:Plan)(m:Member):Bool:=!hasNode p.chain m.node
theorem go_st(N j:Nat)(l:List Member)(y:Plan)(i:Int):LP (envC2 [kCtGi]) (N+5) 0 F_slices_IndexFunc_api_Member snK 0 [] (j+1) (SIx3 (encMembers l) (fnGo y) l.length i)=bif decide (i<(l.length:Int))then rg i l.length <|
  gGi y.chain (l.getD i.toNat default) fun q=>bif !hasNode q.1 q.2.node then some (.int .i64 i)else LP (envC2 [kCtGi]) (N+5) 0 F_slices_IndexFunc_api_Member snK 0 [] j (SIx3 (encMembers l) (fnGo y) l.length (IntKind.i64.wrap (i+1)))else some (.int .i64 (-1)):=by kernel_rfl
theorem cloGo:Clo F_slices_IndexFunc_api_Member encMembers default fnGo isNew (fun p=>p.chain.length<=100000) [kCtGi] where
 hin N l y:=by kernel_rfl
 hst N j l y i h:=by
  rw[go_st,gGi_eq h];rfl
abbrev MPl:=List Member × Plan
def dGo(a:List AV):MPl:=(decL decMember (a.getD 0 .nils),match a.getD 1 .nils with
 | .fn _ _ [.tp c _]=>decPlan c
 | _=>default)
def eGo(p:MPl):List AV:=[encMembers p.1,fnGo p.2]
def pGo(p:MPl):Prop:=p.1.length<=100000/\p.2.chain.length<=100000
theorem dGo_eq(p:MPl):dGo (eGo p)=p:=by
 show(decL decMember (encMembers p.1),decPlan (encPlan p.2))=p
 rw[decMembers,dec_encPlan]
def kIxGo:Known:=.spec F_slices_IndexFunc_api_Member dGo pGo eGo (fun p=>.int .i64 (ixFrom (isNew p.2) p.1 0))
theorem kIxGo_ok:kIxGo.Ok PG:=Known.spec_ok fun p h=>cloGo.con (ak kCtGi_ok ank) h.1 h.2
theorem ctGo_eq(l:List Member)(p:Plan):callT (envC2 [kIxGo]) 9 F_slices_ContainsFunc_api_Member [encMembers l,fnGo p]=gC dGo pGo eGo [encMembers l,fnGo p] fun q=>some (.bool (decide (0<=ixFrom (isNew q.2) q.1 0))):=by kernel_rfl
theorem ctGo_con(p:MPl)(h:pGo p):Contract PG F_slices_ContainsFunc_api_Member (eGo p) [] (.bool (p.1.any (isNew p.2))) []:=by
 refine conC2 (ak kIxGo_ok ank) ((ctGo_eq p.1 p.2).trans ((gC_eq p (dGo_eq p) h (.refl _)).trans ?_))
 rw[ixFrom_any]
def kCtGo:Known:=.spec F_slices_ContainsFunc_api_Member dGo pGo eGo (fun p=>.bool (p.1.any (isNew p.2)))
theorem kCtGo_ok:kCtGo.Ok PG:=Known.spec_ok ctGo_con
theorem eqm_in(N:Nat)(a:List Member)(b:List Member):callT env0 (N+1) F_slices_Equal_api_Member [encMembers a,encMembers b] =
 bif !decide ((↑a.length:Int)=(↑b.length:Int))then
  some (AV.bool false)
 else
  LP (env0) (N) 0 (F_slices_Equal_api_Member) snK 0 [] (N) ({fr:=[(0,encMembers a),(1,encMembers b),(12,AV.int IntKind.i64 (↑a.length:Int)),(13,AV.int IntKind.i64 0)],hp:=[]}):=by kernel_rfl
def SEq(a b:List Member)(i:Int):St:={fr:=[(0,encMembers a),(1,encMembers b),(12,.int .i64 a.length),(13,.int .i64 i)],hp:=[]}
theorem eqm_st(N j:Nat)(a b:List Member)(i:Int):LP env0 N 0 F_slices_Equal_api_Member snK 0 [] (j+1) (SEq a b i) =
 bif decide (i<(a.length:Int))then rg i a.length <| rg i b.length <|
  bif !(decide ((a.getD i.toNat default).node=(b.getD i.toNat default).node)&&(decide ((a.getD i.toNat default).boot=(b.getD i.toNat default).boot)&&true))then some (.bool false)
  else LP env0 N 0 F_slices_Equal_api_Member snK 0 [] j (SEq a b (IntKind.i64.wrap (i+1)))
 else some (.bool true):=by kernel_rfl
theorem eqm_con(p:MM)(h:pMM p):Contract PG F_slices_Equal_api_Member (eMM2 p) [] (.bool (decide (p.1=p.2))) []:=by
 obtain⟨a,b⟩:=p
 have ha:a.length<=100000:=h.1
 have hN:∃ N,N=200000:=⟨_,rfl⟩
 obtain⟨N,hN⟩:=hN
 refine con0 (n:=N+1) ((eqm_in N a b).trans ?_)
 by_cases hl:a.length=b.length
 ·rw[decide_eq_true (by omega),Bool.not_true,cond_false]
  have run:∀ d i m,i+d=a.length->d<m->LP env0 N 0 F_slices_Equal_api_Member snK 0 [] m (SEq a b (i:Nat))=some (.bool (decide (a.drop i=b.drop i))):=by
   intro d
   induction d with
   | zero=>
    intro i m hi hm
    obtain⟨m,rfl⟩:∃ k,m=k+1:=⟨m - 1,by omega⟩
    rw[eqm_st,decide_eq_false (by omega),cond_false,List.drop_eq_nil_of_le (by omega),List.drop_eq_nil_of_le (by omega)];rfl
   | succ d ih=>
    intro i m hi hm
    obtain⟨m,rfl⟩:∃ k,m=k+1:=⟨m - 1,by omega⟩
    have hia:i<a.length:=by omega
    have hib:i<b.length:=by omega
    rw[eqm_st,decide_eq_true (by omega),cond_true,rg_eq hia,rg_eq hib,Int.toNat_natCast,wrapS (by omega),ih (i+1) m (by omega) (by omega),drop_cons (z:=default) hia,drop_cons (z:=default) hib]
    generalize a.getD i default=x
    generalize b.getD i default=y
    obtain⟨x1,x2⟩:=x
    obtain⟨y1,y2⟩:=y
    simp only[List.cons.injEq,Member.mk.injEq,Bool.decide_and,Bool.and_true]
    cases decide (x1=y1) <;> cases decide (x2=y2) <;> rfl
  have:=run a.length 0 N (by omega) (by omega)
  rw[List.drop_zero,List.drop_zero]at this
  exact this
 ·have:a ≠ b:=fun e=>hl (by rw[e])
  rw[decide_eq_false (by omega),Bool.not_false,cond_true,decide_eq_false this]
def kEqM:Known:=.spec F_slices_Equal_api_Member dMM pMM eMM2 (fun p=>.bool (decide (p.1=p.2)))
theorem kEqM_ok:kEqM.Ok PG:=Known.spec_ok eqm_con
def gEq{R:Type}(a b:List Member)(K:MM->Option R):Option R:=gC dMM pMM eMM2 [encMembers a,encMembers b] K
theorem gEq_eq{R:Type}{a b:List Member}{K:MM->Option R}(h:pMM (a,b)):gEq a b K=K (a,b):=gC_eq (a,b) (by show(decL decMember (encMembers a),decL decMember (encMembers b))=_;rw[decMembers,decMembers]) h (.refl _)
def gGo{R:Type}(l:List Member)(p:Plan)(K:MPl->Option R):Option R:=gC dGo pGo eGo [encMembers l,fnGo p] K
theorem gGo_eq{R:Type}{l:List Member}{p:Plan}{K:MPl->Option R}(h:pGo (l,p)):gGo l p K=K (l,p):=gC_eq (l,p) (dGo_eq (l,p)) h (.refl _)
theorem grows_eq(p:Plan)(x:DX)(up:List Member):callT (envC6 [kEqM,kCtGo]) 20 F_coord_desk_grows [.tp (encDX x) 0,.agg (encPlan p),encMembers up] =
 bif decide (x.c.chain<=(p.chain.length:Int))then some (.bool false)else gEq p.valid p.chain fun y=>bif !decide (y.1=y.2)then some (.bool false)else gGo up p fun z=>some (.bool (z.1.any (isNew z.2))):=by kernel_rfl
def growsP(p:Plan)(c:CConf)(up:List Member):Bool:=bif decide (c.chain<=(p.chain.length:Int))then false else decide (p.valid=p.chain)&&up.any (isNew p)
structure GX where
 x:DX
 p:Plan
 up:List Member
def dGX(a:List AV):GX:=⟨dDX (dTpC (a.getD 0 .undef)),decPlan (argC a 1),decL decMember (a.getD 2 .nils)⟩
def eGX(y:GX):List AV:=[.tp (encDX y.x) 0,.agg (encPlan y.p),encMembers y.up]
def pGX(y:GX):Prop:=y.p.chain.length<=1000/\y.p.valid.length<=1000/\y.up.length<=1000
theorem grows_con(y:GX)(h:pGX y):Contract PG F_coord_desk_grows (eGX y) [] (.bool (growsP y.p y.x.c y.up)) []:=by
 obtain⟨x,p,up⟩:=y
 obtain⟨h1,h2,h3⟩:=h
 simp only[]at h1 h2 h3
 refine conC6 (ak kEqM_ok (ak kCtGo_ok ank)) ((grows_eq p x up).trans ?_)
 rw[gEq_eq ⟨by simp only;omega,by simp only;omega⟩,gGo_eq ⟨by simp only;omega,by simp only;omega⟩]
 unfold growsP
 simp only[]
 cases decide (x.c.chain<=(p.chain.length:Int))with
 | true=>rfl
 | false=>cases decide (p.valid=p.chain) <;> rfl
def kGrows:Known:=.spec F_coord_desk_grows dGX pGX eGX (fun y=>.bool (growsP y.p y.x.c y.up))
theorem kGrows_ok:kGrows.Ok PG:=Known.spec_ok grows_con
end Go.Co
end
