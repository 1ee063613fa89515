/- Part 4 of the texts that the proof needs: the abstract machine, plain laws, contracts of the program's functions. No statement is claimed here. -/
import Derived.Test.YtbalmcpknmjgkaaGreatPart3
import Derived.RangeFuncNested
import Derived.RangeFuncBound
import Derived.RangeFuncCalls
import Derived.RangeFuncLeaves
import Derived.Shelf.Abstract
import Derived.WalkKit
import Derived.OwnWalkIn
import Derived.TacticsInMore
import Derived.LoopNIn
import Derived.LoopIn
import Derived.Test.YtbalmcpknmjgkaaGreatProg
import Derived.Test.YtbalmcpknmjgkaaGreatRows
import Derived.WalkSpells
import Derived.WalkLawsBesides
import Derived.Shelf.RegionOpenPlain
import Derived.Lib.AppendZerosOnto
import Derived.Shelf.Spec.SlicesInsert
set_option linter.unusedVariables false
set_option linter.unusedSimpArgs false
set_option linter.defProp false
set_option maxRecDepth 100000
set_option maxHeartbeats 1000000
noncomputable section
section
namespace Go.Proofs
open Go.RowKit Go.Shelf
attribute [local go_sem] Oper.semAt_some
namespace Bw
structure EV where
 re:Nat
 im:Nat
 kind:Int
 key:ByteArray
 val:ByteArray
 write:Bool
 del:Bool
 Ah:Int
 num:Int
 code:Int
 res:ByteArray
 IT:Bool
def EV.cells(e:EV):Array Value:=#[.complex .f64 e.re e.im,.int .i64 e.kind,.string e.key,.string e.val,.bool e.write,.bool e.del,.int .i64 e.Ah,.int .i64 e.num,.int .i64 e.code,.string e.res,.bool e.IT]
def back(n:Nat)(zs:Nat->EV)(k:Nat):List (Nat × EV):=(List.range k).map λj=>(n - 1 - j,zs (n - 1 - j))
theorem tS(n:Nat)(zs:Nat->EV)(k:Nat):back n zs (k+1)=back n zs k++[(n - 1 - k,zs (n - 1 - k))]:=by simp[back,List.range_succ]
theorem ajW(n:Nat)(zs:Nat->EV)(k:Nat):(back n zs k).length=k:=by simp[back]
abbrev za(x:Nat × EV):Array Value:=#[.int .i64 (x.1:Int),.agg x.2.cells]
set_option maxHeartbeats 4000000 in
theorem avJ(F:Fence)(n:Nat)(h7:F.fn 57)(hro:F.round=none)(hn:1<=n)(l Bs n₀ b off len cap:Nat)(sa:Option Addr)(zs:Nat->EV)(hreach:len<=1000000000)(ha:0<len->sa=some ⟨b,off,none⟩/\b<n₀)(J Jx:List (Nat × EV)->World->Prop)
  (hY:∀ pre x W,J pre W->pre.length<len->YieldAt F (n - 1) Tryz.prog l (za x) W λe W'=>
   (e=.returned (.bool true)/\J (pre++[x]) W'/\Below n₀ W W')\/(e=.returned (.bool false)/\Jx (pre++[x]) W'))
  (W:World) (hBs:W.cell? ⟨Bs,0,none⟩=some (.slice sa len cap)) (cZ:Bs<n₀) (hc:∀ i j v,i<len->(zs i).cells[j]? = some v->W.cell? ⟨b,off+i*11+j,none⟩=some v) (h0:J [] W) :
  CallsIn F n Tryz.prog 57 #[.func (.yield l) #[] #[],.pointer (some ⟨Bs,0,none⟩)] W λe W'=>(∃ v,e=.returned v) /\
   (J (back len zs len) W'\/(∃ k,k<=len/\Jx (back len zs k) W')):=by
 refine callsIn_of_wp Tryz.func57 rfl h7 ?_ hro;simp only[Tryz.ntmps57,List.size_toArray,CR,U8,Nat.reduceAdd,Nat.reduceSub,Array.replicate_succ,Array.replicate_zero,List.push_toArray,List.append_toArray,NO,List.cons_append]
 gi_wp2
 gi_loopw [3] (λi wr=>∃ k:Nat,k<=len/\i=.int .i64 ((len:Int) - 1 - k)/\J (back len zs k) wr/\Below n₀ W wr)
  (λi _=>((intOf i)+1).toNat)
 case atStart=>exact⟨0,Bu _,by simp,h0,Below.refl _ _⟩
 case round=>
  obtain⟨k,hk,rfl,hJs,hnx⟩:=hrel;have hBw:=(hnx.cell (p:=⟨Bs,0,none⟩) cZ).trans hBs;by_cases hlt:k<len
  ·obtain⟨rfl,hb⟩:=ha (by omega);obtain⟨q,hq⟩:∃ q,q=len - 1 - k:=⟨_,rfl⟩
   have hq2:(len:Int) - 1 - k=(q:Int):=by omega
   have hql:q<len:=by omega
   rw[hq2];have hx:=λj v e=>(hnx.cell (p:=⟨b,off+q*11+j,none⟩) hb).trans (hc q j v hql e);have x0:wr.cell? ⟨b,off+q*11,none⟩=some (.complex .f64 (zs q).re (zs q).im):=hx 0 _ rfl;have x1:wr.cell? ⟨b,off+q*11+1,none⟩=some (.int .i64 (zs q).kind):=hx 1 _ rfl;have x2:wr.cell? ⟨b,off+q*11+2,none⟩=some (.string (zs q).key):=hx 2 _ rfl;have x3:wr.cell? ⟨b,off+q*11+3,none⟩=some (.string (zs q).val):=hx 3 _ rfl;have x4:wr.cell? ⟨b,off+q*11+4,none⟩=some (.bool (zs q).write):=hx 4 _ rfl;have x5:wr.cell? ⟨b,off+q*11+5,none⟩=some (.bool (zs q).del):=hx 5 _ rfl;have x6:wr.cell? ⟨b,off+q*11+6,none⟩=some (.int .i64 (zs q).Ah):=hx 6 _ rfl;have x7:wr.cell? ⟨b,off+q*11+7,none⟩=some (.int .i64 (zs q).num):=hx 7 _ rfl;have x8:wr.cell? ⟨b,off+q*11+8,none⟩=some (.int .i64 (zs q).code):=hx 8 _ rfl;have x9:wr.cell? ⟨b,off+q*11+9,none⟩=some (.string (zs q).res):=hx 9 _ rfl;have x10:wr.cell? ⟨b,off+q*11+10,none⟩=some (.bool (zs q).IT):=hx 10 _ rfl;clear hx;have HD:Hid (q=len - 1 - k):=hq;clear hq hq2;obtain⟨fn,tmps,assign,body,hy,hR⟩:=hY _ (q,zs q) wr hJs (by rw[ajW];exact hlt);dsimp only [za,EV.cells]at hy
   gi_wp2
   refine hR.mono ?_;rintro e W3 (⟨rfl,hJ3,hk3⟩ | ⟨rfl,hJx3⟩)
   ·gi_wp2
    have hq:=HD.out
    go_roundw
    case rel=>exact⟨k+1,by omega,by simp;omega,by rw[tS,<- hq];exact hJ3,hnx.trans hk3⟩
    case measure=>simp[intOf]
   ·gi_wp2
    have hq:=HD.out;refine bodyPost_ret (results_none rfl _ _ _) rfl ?_;exact⟨⟨_,rfl⟩,.inr ⟨k+1,by omega,by rw[tS,<- hq];exact hJx3⟩⟩
  ·obtain rfl:k=len:=by omega
   have hq2:(k:Int) - 1 - k = -1:=by omega
   rw[hq2]
   gi_wp2
   go_end0
   exact⟨⟨_,rfl⟩,.inl hJs⟩
theorem aku(F:Fence)(n:Nat)(h7:F.fn 57)(hro:F.round=none)(hn:1<=n)(Bs n₀ b off len cap:Nat)(sa:Option Addr)(zs:Nat->EV)(hreach:len<=1000000000)(ha:0<len->sa=some ⟨b,off,none⟩/\b<n₀)(w:World)(hn₀:n₀<=w.heap.size)(cZ:Bs<n₀)
  (hBs:w.cell? ⟨Bs,0,none⟩=some (.slice sa len cap)) (hc:∀ i j v,i<len->(zs i).cells[j]? = some v->w.cell? ⟨b,off+i*11+j,none⟩=some v) :
  SeqStopsK F n Tryz.prog 57 #[.pointer (some ⟨Bs,0,none⟩)] za (Below n₀) (λys=>ys=back len zs len) (λpre=>∃ k,k<=len/\pre=back len zs k) len w:=λl J Jx W hW _ _ hY h0=>by
 have hW0:=hW.mono hn₀;refine(avJ F n h7 hro hn l Bs n₀ b off len cap sa zs hreach ha J Jx hY W ((hW0.cell (p:=⟨Bs,0,none⟩) cZ).trans hBs) cZ (λi j v hi e=>(hW0.cell (p:=⟨b,off+i*11+j,none⟩) (ha (by omega)).2).trans (hc i j v hi e)) h0).mono ?_;rintro e W' ⟨he,hj | ⟨k,hk,hj⟩⟩
 ·exact⟨he,.inl ⟨_,rfl,hj⟩⟩
 ·exact⟨he,.inr ⟨_,⟨k,hk,rfl⟩,hj⟩⟩
theorem aqo(F:Fence)(n:Nat)(h5:F.fn 35)(hro:F.round=none)(a:Option Addr)(len cap:Nat)(w:World) :
  CallsIn F n Tryz.prog 35 #[.slice a len cap] w λe w'=>e=.returned (.func (.func 57) #[] #[.pointer (some ⟨w.heap.size,0,none⟩)])/\w'=w.alloc (.cells #[.slice a len cap] 31):=by
 refine callsIn_of_wp Tryz.func35 rfl h5 ?_ hro;simp only[Tryz.ntmps35,List.size_toArray,CR,U8,Nat.reduceAdd,Nat.reduceSub,Array.replicate_succ,Array.replicate_zero,List.push_toArray,List.append_toArray,NO,List.cons_append]
 gi_wp2
 go_ret
 exact⟨rfl,rfl⟩
def VC(key:ByteArray)(e:EV):Prop:=e.write=true/\e.key.toList=key.toList
structure Zs(b0:Nat)(key:ByteArray)(W:World):Prop where
 k:W.cell? ⟨b0+1,0,none⟩=some (.string key)
 c0:W.cell? ⟨b0+1+1,0,none⟩=some (.string ⟨#[]⟩)
 c1:W.cell? ⟨b0+1+1,1,none⟩=some (.string ⟨#[]⟩)
 c2:W.cell? ⟨b0+1+1,2,none⟩=some (.bool false)
 c3:W.cell? ⟨b0+1+1,3,none⟩=some (.complex .f64 0 0)
 f0:W.frozen? ⟨b0+1+1,0,none⟩=false
 f1:W.frozen? ⟨b0+1+1,1,none⟩=false
 f2:W.frozen? ⟨b0+1+1,2,none⟩=false
 f3:W.frozen? ⟨b0+1+1,3,none⟩=false
 d:W.cell? ⟨b0+1+1+1,0,none⟩=some (.bool false)
 e:W.frozen? ⟨b0+1+1+1,0,none⟩=false
theorem Zs.own(b0:Nat)(key:ByteArray):Own (λ(_:Unit) W=>Zs b0 key W):=λs A B row hs hg hr=>
 ⟨JH hs.k hg hr,JH hs.c0 hg hr,JH hs.c1 hg hr,JH hs.c2 hg hr,JH hs.c3 hg hr,(frozen_kept hs.c0 hg hr).trans hs.f0,(frozen_kept hs.c1 hg hr).trans hs.f1,(frozen_kept hs.c2 hg hr).trans hs.f2,(frozen_kept hs.c3 hg hr).trans hs.f3,JH hs.d hg hr,(frozen_kept hs.d hg hr).trans hs.e⟩
structure Fd(b0:Nat)(key:ByteArray)(e:EV)(W:World):Prop where
 c0:W.cell? ⟨b0+1+1,0,none⟩=some (.string key)
 c1:W.cell? ⟨b0+1+1,1,none⟩=some (.string (if e.del then⟨#[]⟩else e.val))
 c2:W.cell? ⟨b0+1+1,2,none⟩=some (.bool (!e.del))
 c3:W.cell? ⟨b0+1+1,3,none⟩=some (.complex .f64 e.re e.im)
 d:W.cell? ⟨b0+1+1+1,0,none⟩=some (.bool true)
theorem Fd.own(b0:Nat)(key:ByteArray)(e:EV):Own (λ(_:Unit) W=>Fd b0 key e W):=λs A B row hs hg hr=>
 ⟨JH hs.c0 hg hr,JH hs.c1 hg hr,JH hs.c2 hg hr,JH hs.c3 hg hr,JH hs.d hg hr⟩
structure qY(b0:Nat)(v0 v1 v2 v3 v4:Value)(W:World):Prop where
 c0:W.cell? ⟨b0+1+1,0,none⟩=some v0
 c1:W.cell? ⟨b0+1+1,1,none⟩=some v1
 c2:W.cell? ⟨b0+1+1,2,none⟩=some v2
 c3:W.cell? ⟨b0+1+1,3,none⟩=some v3
 d:W.cell? ⟨b0+1+1+1,0,none⟩=some v4
theorem qY.own(b0:Nat)(v0 v1 v2 v3 v4:Value):Own (λ(_:Unit) W=>qY b0 v0 v1 v2 v3 v4 W):=λs A B row hs hg hr=>
 ⟨JH hs.c0 hg hr,JH hs.c1 hg hr,JH hs.c2 hg hr,JH hs.c3 hg hr,JH hs.d hg hr⟩
def IV(B b0:Nat)(w:World)(key:ByteArray)(pre:List (Nat × EV))(W:World):Prop:=((∀ p ∈ pre,¬ VC key p.2)/\Zs b0 key W/\B<=W.heap.size)/\Below w.heap.size w W
def IX(b0:Nat)(w:World)(key:ByteArray)(c:Code)(pre:List (Nat × EV))(W:World):Prop:=(c=.ret /\ ∃ ini last,pre=ini++[last]/\(∀ p ∈ ini,¬ VC key p.2)/\VC key last.2/\Fd b0 key last.2 W)/\Below w.heap.size w W
theorem fX{w w':World}{o:Obj}(h:w.alloc o=w'){k:Nat}(hk:w.heap.size=k):w'.heap[k]? = some o/\w'.heap.size=k+1:=by subst h;subst hk;exact⟨World.alloc_heap_new w o,World.size_alloc w o⟩
theorem ai{w w':World}{o o':Obj}(h:w.alloc o=w'){k:Nat}(e:w.heap[k]? = some o'):w'.heap[k]? = some o':=by subst h;exact(Below.heap_alloc w o k (Vm.1 e).1).trans e
theorem alV{P:Program}(W:World)(z vs:Array Value)(t:TypeId)(hs:vs.size=z.size)(h1:∀ v ∈ vs.toList,v.oneCell'=true) :
  (storeCells ⟨W.heap.size,0,none⟩ vs.toList).run P (W.alloc (.cells z t))=.ok () (W.alloc (.cells vs t)):=by
 have k:=AM.WX (P:=P) (o:=0) vs.toList 0 z (W.alloc (.cells z t)) (World.alloc_heap_new W _) (by simp[hs]) (λk _ h=>C5 k h.2) h1;rw[k];congr 1;have hsp:AM.CF z 0 vs.toList=vs:=by
  apply XA;intro j;by_cases hj:j<vs.size
  ·rw[AM.Nn _ _ _ _ (by simp[hs]),Ay ⟨Bu _,by simpa using hj⟩];simp
  ·rw[JB (by simp;omega),JB (by omega)]
 rw[Iy,hsp];cases W;simp only[AM.World.BI,World.alloc,World.mk.injEq,and_true];apply XA;intro j;simp only[Vq,Array.getElem?_setIfInBounds];split <;> split <;> simp_all
theorem an4(W:World)(c:Array Value)(t:TypeId)(j:Nat):(W.alloc (.cells c t)).cell? ⟨W.heap.size,j,none⟩=c[j]? := by simp only[World.cell?,World.alloc_heap_new];rfl
theorem akv(W:World)(c:Array Value)(t:TypeId)(j:Nat):(W.alloc (.cells c t)).frozen? ⟨W.heap.size,j,none⟩=false:=by unfold World.frozen?;rw[World.alloc_heap_new];simp
theorem Z5{W:World}{p:Addr}{v:Value}(h:W.cell? p=some v)(o:Obj):(W.alloc o).cell? p=some v:=JH h (World.grownBy_alloc W o none) (λr e=>by cases e)
theorem eU{W:World}{p:Addr}{v:Value}(h:W.cell? p=some v)(hf:W.frozen? p=false)(o:Obj):(W.alloc o).frozen? p=false:=(frozen_kept h (World.grownBy_alloc W o none) (λr e=>by cases e)).trans hf
theorem aqp(W:World)(c:Array Value)(t:TypeId)(j:Nat)(v:Value):(W.alloc (.cells c t)).setCell ⟨W.heap.size,j,none⟩ v=W.alloc (.cells (c.setIfInBounds j v) t):=by cases W;simp only[World.setCell,World.alloc,World.mk.injEq,and_true];apply XA;intro i;simp only[ar,Vq];split <;> split <;> simp_all
def AX1(B n0:Nat)(T:Value)(sv:Value)(key:ByteArray)(x:Nat × EV)(a':Act)(W:World):Prop:=∃ Bx,B<=Bx/\(∀ j v,x.2.cells[j]? = some v->W.cell? ⟨Bx,j,none⟩=some v) /\
 a'={tmps:=#[T,.string key,.pointer (some ⟨n0,0,none⟩),.pointer (some ⟨n0+1,0,none⟩),.pointer (some ⟨n0+1+1,0,none⟩),.pointer (some ⟨n0+1+1+1,0,none⟩),undef,.pointer (some ⟨Bx,0,none⟩),undef,.pointer (some ⟨n0,2,none⟩),sv,
  .func (.func 57) #[] #[.pointer (some ⟨n0+1+1+1+1,0,none⟩)],.int .i64 (x.1:Int),.agg x.2.cells,undef,undef,undef,undef,undef,undef,undef,undef,undef,undef,undef,undef,undef,undef,undef,undef,undef,undef,undef,undef,undef,undef,undef],defers:=[]}
set_option maxHeartbeats 4000000 in
theorem an5(F:Fence)(n:Nat)(h13:F.fn 13)(h35:F.fn 35)(h57:F.fn 57)(hro:F.round=none)(hn:3<=n)(fr fi lr li:Nat)(sa:Option Addr)(b off len cap:Nat)(zs:Nat->EV)(key:ByteArray)(hreach:len<=1000000000)(w:World)
  (ha:0<len->sa=some ⟨b,off,none⟩/\b<w.heap.size) (hc:∀ i j v,i<len->(zs i).cells[j]? = some v->w.cell? ⟨b,off+i*11+j,none⟩=some v) :
  CallsIn F n Tryz.prog 13 #[.agg #[.complex .f64 fr fi,.complex .f64 lr li,.slice sa len cap],.string key] w λe W'=>
   ((e=.returned (.tuple #[.agg #[.string ⟨#[]⟩,.string ⟨#[]⟩,.bool false,.complex .f64 0 0],.bool false]) /\ ∀ i,i<len -> ¬ VC key (zs i)) \/
    (∃ i,i<len/\VC key (zs i)/\(∀ j,i<j->j<len -> ¬ VC key (zs j))/\e=.returned (.tuple #[.agg #[.string key,.string (if(zs i).del then⟨#[]⟩else(zs i).val),.bool (!(zs i).del),.complex .f64 (zs i).re (zs i).im],.bool true])))/\Below w.heap.size w W':=by
 have h1:1<=n:=by omega
 refine callsIn_of_wp_marks Tryz.func13 rfl h13 ?_ hro;simp only[Tryz.ntmps13,List.size_toArray,CR,U8,Nat.reduceAdd,Nat.reduceSub,Array.replicate_succ,Array.replicate_zero,List.push_toArray,List.append_toArray,NO,List.cons_append]
 gi_wp2_with (gi_at_call 35;refine(aqo F (n - 1) h35 hro _ _ _ _).mono ?_;rintro e w' ⟨rfl,rfl⟩)
 obtain⟨w1,e1⟩:∃ w1,w.alloc (Obj.cells #[Value.complex FloatKind.f64 fr fi,Value.complex FloatKind.f64 lr li,Value.slice sa len cap] 33)=w1:=⟨_,rfl⟩
 rw[e1];obtain⟨w2,e2⟩:∃ w2,w1.alloc (Obj.cells #[Value.string key] 9)=w2:=⟨_,rfl⟩
 rw[e2];obtain⟨w3,e3⟩:∃ w3,w2.alloc (Obj.cells #[Value.string {data:=#[]},Value.string {data:=#[]},Value.bool false,Value.complex FloatKind.f64 0 0] 74)=w3:=⟨_,rfl⟩
 rw[e3];obtain⟨w4,e4⟩:∃ w4,w3.alloc (Obj.cells #[Value.bool false] 4)=w4:=⟨_,rfl⟩
 rw[e4];obtain⟨W0,e5⟩:∃ w5,w4.alloc (Obj.cells #[Value.slice sa len cap] 31)=w5:=⟨_,rfl⟩
 rw[e5];obtain⟨_,s1⟩:=fX e1 rfl;obtain⟨k2,s2⟩:=fX e2 s1;obtain⟨k3,s3⟩:=fX e3 s2;obtain⟨k4,s4⟩:=fX e4 s3;obtain⟨k5,hsz⟩:=fX e5 s4;have k2:=ai e5 (ai e4 (ai e3 k2));have k3:=ai e5 (ai e4 k3);have k4:=ai e5 k4;have hB0:Below w.heap.size w W0:=by rw[<- e5];refine Below.alloc ?_ (by omega) _;rw[<- e4];refine Below.alloc ?_ (by omega) _;rw[<- e3];refine Below.alloc ?_ (by omega) _;rw[<- e2];refine Below.alloc ?_ (by omega) _;rw[<- e1];exact Below.alloc (Below.refl _ w) (Ar _) _
 have hZ:Zs w.heap.size key W0:=by constructor <;> simp only[World.cell?,World.frozen?,k2,k3,k4] <;> rfl
 have hS:W0.cell? ⟨w.heap.size+1+1+1+1,0,none⟩=some (.slice sa len cap):=by simp only[World.cell?,k5];rfl
 clear e1 e2 e3 e4 e5 s1 s2 s3 s4 k2 k3 k4 k5;obtain⟨b0,hb0⟩:∃ b0,b0=w.heap.size:=⟨_,rfl⟩
 refine wpIn_rangeFunc_ownH hro h1 (gf:=57) (lb:=#[.pointer (some ⟨w.heap.size+1+1+1+1,0,none⟩)]) rfl h57 (enters_of Tryz.func57 (by kernel_rfl) rfl)
  (aku F (n - 1) h57 hro (by omega) (w.heap.size+1+1+1+1) W0.heap.size b off len cap sa zs hreach (λh=>⟨(ha h).1,by have:=(ha h).2;omega⟩) W0 (Ar _) (by omega) hS
   (λi j v hi e=>(hB0.cell (p:=⟨b,off+i*11+j,none⟩) (ha (by omega)).2).trans (hc i j v hi e))) belowK_t (belowK_b (by omega)) (Below.refl _ _) (λ_=>rfl)
  (IV W0.heap.size w.heap.size w key) (IX w.heap.size w key) ?hI ?hIx ⟨⟨by simp,hZ,Ar _⟩,hB0⟩ (AX1 W0.heap.size w.heap.size (.agg #[.complex .f64 fr fi,.complex .f64 lr li,.slice sa len cap]) (.slice sa len cap) key) ?hAx ?assign ?body ?done ?stop
 case hI=>exact OwnFrom.and (Own.from (λs A B row hs hg hr=>⟨hs.1,Zs.own _ _ () A B row hs.2.1 hg hr,CI hs.2.2 hg.size⟩) _) (ownFrom_below (Ar _) (by omega))
 case hIx=>exact λc=>OwnFrom.and (Own.from (λs A B row hs hg hr=>by obtain⟨hc,ini,last,e1,e2,e3,e4⟩:=hs;exact⟨hc,ini,last,e1,e2,e3,Fd.own _ _ _ () A B row e4 hg hr⟩) _) (ownFrom_below (Ar _) (by omega))
 case hAx=>exact λx a'=>Own.from (λs A B row hs hg hr=>by obtain⟨Bx,h1,h2,h3⟩:=hs;exact⟨Bx,h1,λj v e=>JH (h2 j v e) hg hr,h3⟩) _
 case assign=>
  rintro l pre x W K hi hK;have hst:=alV (P:=Tryz.prog) W #[Value.complex FloatKind.f64 0 0,Value.int .i64 0,Value.string {data:=#[]},Value.string {data:=#[]},Value.bool false,Value.bool false,Value.int .i64 0,Value.int .i64 0,Value.int .i64 0,Value.string {data:=#[]},Value.bool false] x.2.cells 66 rfl (by simp[EV.cells,Value.oneCell'])
  gi_wp2
  obtain⟨⟨hne,hz,hle⟩,hB⟩:=hi;refine hK _ _ ((KeepsOthers.alloc _ _).from _) ((Below.refl _ W).alloc hle _) ⟨⟨hne,Zs.own _ _ () W _ none hz (World.grownBy_alloc W _ none) (λr e=>by cases e),by rw[World.size_alloc];omega⟩,hB.alloc hB.size _⟩ ⟨W.heap.size,hle,λj v e=>?_,rfl⟩;simp only[World.cell?,World.alloc_heap_new];exact e
 case body=>
  rintro l pre x a' W hl ⟨r,hr⟩ ⟨⟨hne,hz,hle⟩,hB⟩ ⟨Bx,hBx,hcx,rfl⟩ hlt;have x0:W.cell? ⟨Bx,0,none⟩=some (.complex .f64 x.2.re x.2.im):=hcx 0 _ rfl;have x2:W.cell? ⟨Bx,2,none⟩=some (.string x.2.key):=hcx 2 _ rfl;have x3:W.cell? ⟨Bx,3,none⟩=some (.string x.2.val):=hcx 3 _ rfl;have x4:W.cell? ⟨Bx,4,none⟩=some (.bool x.2.write):=hcx 4 _ rfl;have x5:W.cell? ⟨Bx,5,none⟩=some (.bool x.2.del):=hcx 5 _ rfl;have hk:=hz.k;clear hcx;have nC:=an4 W;have nF:=akv W;have nS:=aqp W;have rc:=λ(a:Addr) (x y:Nat) (w:World)=>run_store Tryz.prog w a (.complex .f64 x y) .plain rfl;by_cases hw:x.2.write=true
  ·rw[hw]at x4;by_cases hke:x.2.key.toList=key.toList
   ·have hkt:(x.2.key.toList == key.toList)=true:=by simp[hke]
    have y3:=Z5 x3;have q0:=Z5 hz.c0;have q1:=Z5 hz.c1;have q2:=Z5 hz.c2;have q3:=Z5 hz.c3;have g0:=eU hz.c0 hz.f0;have g1:=eU hz.c1 hz.f1;have g2:=eU hz.c2 hz.f2;have g3:=eU hz.c3 hz.f3;have qd:=Z5 hz.d;have gd:=eU hz.d hz.e;cases hdel:x.2.del with
    | true=>
     rw[hdel]at x5
     gi_wp2
     refine⟨((((((KeepsOthers.alloc W _).trans (LH _ _ _)).trans (LH _ _ _)).trans (LH _ _ _)).trans (LH _ _ _)).trans (LH _ _ _)).from _,⟨rfl,pre,x,rfl,hne,⟨hw,hke⟩,?_⟩,
      (((((hB.alloc hB.size _).setCell (p:=⟨w.heap.size+1+1,0,none⟩) (by show w.heap.size<=w.heap.size+1+1;omega) _).setCell (p:=⟨w.heap.size+1+1,1,none⟩) (by show w.heap.size<=w.heap.size+1+1;omega) _).setCell (p:=⟨w.heap.size+1+1,2,none⟩) (by show w.heap.size<=w.heap.size+1+1;omega) _).setCell (p:=⟨w.heap.size+1+1,3,none⟩) (by show w.heap.size<=w.heap.size+1+1;omega) _).setCell (p:=⟨w.heap.size+1+1+1,0,none⟩) (by show w.heap.size<=w.heap.size+1+1+1;omega) _⟩
     constructor <;> (try rw[hdel]) <;> go_simp
    | false=>
     rw[hdel]at x5
     gi_wp2
     refine⟨((((((KeepsOthers.alloc W _).trans (LH _ _ _)).trans (LH _ _ _)).trans (LH _ _ _)).trans (LH _ _ _)).trans (LH _ _ _)).from _,⟨rfl,pre,x,rfl,hne,⟨hw,hke⟩,?_⟩,
      (((((hB.alloc hB.size _).setCell (p:=⟨w.heap.size+1+1,0,none⟩) (by show w.heap.size<=w.heap.size+1+1;omega) _).setCell (p:=⟨w.heap.size+1+1,1,none⟩) (by show w.heap.size<=w.heap.size+1+1;omega) _).setCell (p:=⟨w.heap.size+1+1,2,none⟩) (by show w.heap.size<=w.heap.size+1+1;omega) _).setCell (p:=⟨w.heap.size+1+1,3,none⟩) (by show w.heap.size<=w.heap.size+1+1;omega) _).setCell (p:=⟨w.heap.size+1+1+1,0,none⟩) (by show w.heap.size<=w.heap.size+1+1+1;omega) _⟩
     constructor <;> (try rw[hdel]) <;> go_simp
   ·have hkt:(x.2.key.toList == key.toList)=false:=by simp[hke]
    gi_wp2
    exact⟨KeepsFrom.refl _ _,Below.refl _ _,⟨λp hp'=>(Cp.1 hp').elim (hne p) (λe=>by simp at e;subst e;exact λh=>hke h.2),hz,hle⟩,hB⟩
  ·have hw2:x.2.write=false:=by simpa using hw
   rw[hw2]at x4
   gi_wp2
   exact⟨KeepsFrom.refl _ _,Below.refl _ _,⟨λp hp'=>(Cp.1 hp').elim (hne p) (λe=>by simp at e;subst e;exact λh=>hw h.1),hz,hle⟩,hB⟩
 case done=>
  rintro D ys W hD rfl ⟨⟨hne,hz,hle⟩,hB⟩ hK;have rc:=λ(a:Addr) (x y:Nat) (w:World)=>run_store Tryz.prog w a (.complex .f64 x y) .plain rfl;obtain⟨zk,q0,q1,q2,q3,g0,g1,g2,g3,qd,gd⟩:=hz
  gi_wp2
  have hK':=(((((LH W ⟨w.heap.size+1+1,0,none⟩ (.string ⟨#[]⟩)).trans (LH _ ⟨w.heap.size+1+1,1,none⟩ (.string ⟨#[]⟩))).trans (LH _ ⟨w.heap.size+1+1,2,none⟩ (.bool false))).trans (LH _ ⟨w.heap.size+1+1,3,none⟩ (.complex .f64 0 0))).trans (LH _ ⟨w.heap.size+1+1+1,0,none⟩ (.bool false))).same D _ hK rfl;have hB':=(((((hB.setCell (p:=⟨w.heap.size+1+1,0,none⟩) (by show w.heap.size<=w.heap.size+1+1;omega) (.string ⟨#[]⟩)).setCell (p:=⟨w.heap.size+1+1,1,none⟩) (by show w.heap.size<=w.heap.size+1+1;omega) (.string ⟨#[]⟩)).setCell (p:=⟨w.heap.size+1+1,2,none⟩) (by show w.heap.size<=w.heap.size+1+1;omega) (.bool false)).setCell (p:=⟨w.heap.size+1+1,3,none⟩) (by show w.heap.size<=w.heap.size+1+1;omega) (.complex .f64 0 0)).setCell (p:=⟨w.heap.size+1+1+1,0,none⟩) (by show w.heap.size<=w.heap.size+1+1+1;omega) (.bool false))
  have hF:qY w.heap.size (.string ⟨#[]⟩) (.string ⟨#[]⟩) (.bool false) (.complex .f64 0 0) (.bool false) (((((W.setCell ⟨w.heap.size+1+1,0,none⟩ (.string ⟨#[]⟩)).setCell ⟨w.heap.size+1+1,1,none⟩ (.string ⟨#[]⟩)).setCell ⟨w.heap.size+1+1,2,none⟩ (.bool false)).setCell ⟨w.heap.size+1+1,3,none⟩ (.complex .f64 0 0)).setCell ⟨w.heap.size+1+1+1,0,none⟩ (.bool false)):=by constructor <;> go_simp
  generalize (((((W.setCell ⟨w.heap.size+1+1,0,none⟩ (.string ⟨#[]⟩)).setCell ⟨w.heap.size+1+1,1,none⟩ (.string ⟨#[]⟩)).setCell ⟨w.heap.size+1+1,2,none⟩ (.bool false)).setCell ⟨w.heap.size+1+1,3,none⟩ (.complex .f64 0 0)).setCell ⟨w.heap.size+1+1+1,0,none⟩ (.bool false))=W1 at *;refine⟨by simp,.inl ⟨_,_,rfl,run_takeDeferred hK',?_⟩⟩;obtain⟨c0,c1,c2,c3,d⟩:=qY.own _ _ _ _ _ _ () _ _ _ hF (grownBy_putObj' W1 D (.deferred none)) (λr e=>by cases e;exact⟨_,hK',rfl⟩);refine⟨.tuple #[.agg #[.string ⟨#[]⟩,.string ⟨#[]⟩,.bool false,.complex .f64 0 0],.bool false],?_,.inl ⟨rfl,λi hi=>hne (i,zs i) ?_⟩,hB'.trans (belowK_b (w:=w) (Ar _) W1 D _ _ (by omega) hK' rfl rfl)⟩
  ·simp[results,Tryz.f13,go_sem,c0,c1,c2,c3,d]
  ·simp only[back,Mz,List.mem_range];exact⟨len - 1 - i,by omega,by rw[show len - 1 - (len - 1 - i)=i by omega]⟩
 case stop=>
  rintro D c pre W hD ⟨k,hk,rfl⟩ ⟨⟨rfl,ini,last,e1,e2,e3,hf⟩,hB⟩ hK
  gi_wp2
  refine⟨by simp,.inl ⟨_,_,rfl,run_takeDeferred hK,?_⟩⟩;obtain⟨c0,c1,c2,c3,d⟩:=Fd.own _ _ _ () _ _ _ hf (grownBy_putObj' W D (.deferred none)) (λr e=>by cases e;exact⟨_,hK,rfl⟩);obtain⟨k',rfl⟩:∃ k',k=k'+1:=by
   cases k with
   | zero=>simp[back]at e1
   | succ k'=>exact⟨k',rfl⟩
  rw[tS]at e1;obtain⟨rfl,e5⟩:=List.append_inj' e1 rfl;obtain rfl:(len - 1 - k',zs (len - 1 - k'))=last:=by simpa using e5
  refine⟨_,?_,.inr ⟨len - 1 - k',by omega,e3,λj hj hl=>e2 (j,zs j) ?_,rfl⟩,hB.trans (belowK_b (w:=w) (Ar _) W D _ _ (by omega) hK rfl rfl)⟩
  ·simp only at c0 c1 c2 c3;simp[results,Tryz.f13,go_sem,c0,c1,c2,c3,d]
  ·simp only[back,Mz,List.mem_range];exact⟨len - 1 - j,by omega,by rw[show len - 1 - (len - 1 - j)=j by omega]⟩
end Bw
end Go.Proofs
end
section
open Go Go.AM Go.Md Go.Proofs
namespace Go.Hd
open Go.Wk
def Em:List Entry->An->Option Entry
 | [],_=>none
 | e::r,k=>match Em r k with
  | some x=>some x
  | none=>bif e.write&&A5 e.key k then some e else none
def Yc(k:An)(e:Entry):Prop:=e.write=true/\e.key=k
def tU{k:An}:∀ {l:List Entry},(∀ i,i<l.length -> ¬ Yc k (l.getD i default))->Em l k=none
 | [],_=>rfl
 | e::r,h=>by
  have h1:=tU (l:=r) λi hi=>h (i+1) (by simp;omega);have h0:=h 0 (by simp);unfold Em;rw[h1];cases hw:e.write with
  | false=>rfl
  | true=>
   have:A5 e.key k=false:=by rw[DV];simpa using λhk=>h0 ⟨hw,hk⟩
   simp[this]
def abH{k:An}:∀ {l:List Entry} {i:Nat},i<l.length->Yc k (l.getD i default)->(∀ j,i<j->j<l.length -> ¬ Yc k (l.getD j default))->Em l k=some (l.getD i default)
 | [],i,hi,_,_=>absurd hi (C5 i)
 | e::r,0,_,h,ha=>by
  have h1:=tU (l:=r) λi hi=>ha (i+1) (by omega) (by simp;omega);unfold Em;rw[h1];have hw:e.write=true:=h.1;have:A5 e.key k=true:=by rw[DV];simpa using h.2
  simp[hw,this]
 | e::r,i+1,hi,h,ha=>by have h1:=abH (l:=r) (i:=i) (by simpa using hi) h λj hj hl=>ha (j+1) (by omega) (by simp;omega);unfold Em;rw[h1];rfl
def EY(t:BZ)(k:An):AH × Bool:=match Em t.log k with
 | some e=>(FF e,true)
 | none=>(default,false)
def QR(l:List UInt8):ByteArray:=⟨l.toArray⟩
def nP{s:ByteArray}{l:List UInt8}(h:l=s.data.toList):s=QR l:=by subst h;rfl
def Sb(e:Entry):Bw.EV:=⟨e.Ag.re,e.Ag.im,e.kind,QR e.key,QR e.val,e.write,e.del,e.Ah,e.num,e.code,QR e.res,e.IT⟩
def an6{w:World}{I:Nat->Prop}{φ:Ac}{e:Entry}{j:Nat}{v:Value}(h:(Sb e).cells[j]? = some v):∃ c,(Bt e)[j]? = some c /\ ∀ u,RV w I φ c u->u=v:=by
 match j,h with
 | 0,h=>cases h;exact⟨_,rfl,λu hu=>by cases hu;rfl⟩
 | 1,h=>cases h;exact⟨_,rfl,λu hu=>by cases hu;rfl⟩
 | 2,h=>cases h;exact⟨_,rfl,λu hu=>by cases hu with | str s l hl=>rw[nP hl];rfl⟩
 | 3,h=>cases h;exact⟨_,rfl,λu hu=>by cases hu with | str s l hl=>rw[nP hl];rfl⟩
 | 4,h=>cases h;exact⟨_,rfl,λu hu=>by cases hu;rfl⟩
 | 5,h=>cases h;exact⟨_,rfl,λu hu=>by cases hu;rfl⟩
 | 6,h=>cases h;exact⟨_,rfl,λu hu=>by cases hu;rfl⟩
 | 7,h=>cases h;exact⟨_,rfl,λu hu=>by cases hu;rfl⟩
 | 8,h=>cases h;exact⟨_,rfl,λu hu=>by cases hu;rfl⟩
 | 9,h=>cases h;exact⟨_,rfl,λu hu=>by cases hu with | str s l hl=>rw[nP hl];rfl⟩
 | 10,h=>cases h;exact⟨_,rfl,λu hu=>by cases hu;rfl⟩
 | j+11,h=>simp[Bw.EV.cells]at h
def uL{k:An}{e:Entry}:Bw.VC (QR k) (Sb e) ↔ Yc k e:=by unfold Bw.VC Yc;simp only[ByteArray.toList_eq];exact Iff.rfl
def ae6{w:World}{I:Nat->Prop}{φ:Ac}(x:AH)(b:Bool):RV w I φ (.Am [.agg (AK x),.bool b]) (.tuple #[.agg #[.string (QR x.key),.string (QR x.val),.bool x.has,.complex .f64 x.Ag.re x.Ag.im],.bool b]):=by
 refine .Am _ _ rfl λi c u ec eu=>?_
 match i,ec,eu with
 | 0,ec,eu=>
  simp at ec eu;subst ec;subst eu;refine .agg _ _ rfl (λk u e=>?_) λk c u e1 e2=>?_
  ·match k,e with
   | 0,e=>simp at e;subst e;rfl
   | 1,e=>simp at e;subst e;rfl
   | 2,e=>simp at e;subst e;rfl
   | 3,e=>simp at e;subst e;rfl
   | k+4,e=>simp at e
  ·match k,e1,e2 with
   | 0,e1,e2=>simp[AK]at e1 e2;subst e1;subst e2;exact .str _ _ rfl
   | 1,e1,e2=>simp[AK]at e1 e2;subst e1;subst e2;exact .str _ _ rfl
   | 2,e1,e2=>simp[AK]at e1 e2;subst e1;subst e2;exact .bool _
   | 3,e1,e2=>simp[AK]at e1 e2;subst e1;subst e2;exact .Al _ _ _
   | k+4,e1,e2=>simp[AK]at e1
 | 1,ec,eu=>simp at ec eu;subst ec;subst eu;exact .bool _
 | i+2,ec,eu=>simp at ec
def alW(t:BZ)(k:An)(h:t.log.length<=100000):At PG sS [.agg (Cn t),.str k] [] (.Am [.agg (AK (EY t k).1),.bool (EY t k).2]) []:=by
 intro w I φ ra hh hx;have AI:=UX hh;subst AI;obtain⟨hsz,hx⟩:=hx;obtain⟨a0,ju⟩:∃ a,ra[0]? = some a:=⟨_,Cy (by rw[<- hsz];simp)⟩
 obtain⟨a1,Yn⟩:∃ a,ra[1]? = some a:=⟨_,Cy (by rw[<- hsz];simp)⟩
 have r0:=hx 0 _ a0 rfl ju;have r1:=hx 1 _ a1 rfl Yn;have hra:ra = #[a0,a1]:=by
  apply XA;intro j
  match j with
  | 0=>exact ju
  | 1=>exact Yn
  | j+2=>rw[JB (by rw[<- hsz];simp)];simp
 subst hra;cases r1 with
 | str s _ hs=>
 rw[nP hs];cases r0 with
 | agg _ vs hl h1 hr=>
 obtain⟨v0,e0⟩:∃ a,vs[0]? = some a:=⟨_,Cy (by rw[<- hl];simp[Cn])⟩
 obtain⟨v1,e1⟩:∃ a,vs[1]? = some a:=⟨_,Cy (by rw[<- hl];simp[Cn])⟩
 obtain⟨v2,e2⟩:∃ a,vs[2]? = some a:=⟨_,Cy (by rw[<- hl];simp[Cn])⟩
 have q0:=hr 0 _ v0 rfl e0;have q1:=hr 1 _ v1 rfl e1;have q2:=hr 2 _ v2 rfl e2;have hvs:vs = #[v0,v1,v2]:=by
  apply XA;intro j
  match j with
  | 0=>exact e0
  | 1=>exact e1
  | 2=>exact e2
  | j+3=>rw[JB (by rw[<- hl];simp[Cn])];simp
 subst hvs;cases q0;cases q1;have key:∃ sa b off cap,v2=.slice sa t.log.length cap/\(0<t.log.length->sa=some ⟨b,off,none⟩/\b<w.heap.size) /\ ∀ i j v,i<t.log.length->(Sb (t.log.getD i default)).cells[j]? = some v->w.cell? ⟨b,off+i*11+j,none⟩=some v:=by
  generalize hn:t.log.length=n;have q2:RV w I Ac.no (.tr 11 n λi=>Bt (t.log.getD i default)) v2:=by rw[<- hn];exact q2
  cases q2 with
  | tr _ _ _ B o cap u hI T5 hz hlen hc g1 z7=>refine⟨_,B,o,cap,rfl,λhp=>⟨rfl,hh.lt B (hI hp)⟩,λi j v hi e=>?_⟩;obtain⟨c,c1,c2⟩:=an6 (w:=w) (I:=I) (φ:=Ac.no) e;rw[<- c2 _ (z7 i j c hi c1)];exact hc i j c hi c1
  | Cq _ _ a=>exact⟨a,0,0,0,rfl,λhp=>absurd hp (DP 0),λi j v hi=>absurd hi (C5 i)⟩
 obtain⟨sa,b,off,cap,rfl,ha,hc⟩:=key;have run:=Bw.an5 Fence.wide 3 trivial trivial trivial rfl (Ar 3) t.floor.re t.floor.im t.last.re t.last.im sa b off t.log.length cap (λi=>Sb (t.log.getD i default)) (QR k) (by omega) w ha hc;refine .inl ⟨enters_of Tryz.func13 (by kernel_rfl) rfl _ _,(callsIn_wide.1 run).mono ?_⟩;rintro e w' ⟨TM,hB⟩;have fin:∀ u,RV w' I Ac.no (.Am [.agg (AK (EY t k).1),.bool (EY t k).2]) u -> ∃ φ' I',RV w' I' φ' (.Am [.agg (AK (EY t k).1),.bool (EY t k).2]) u/\RH w' I' φ' (Ab [])/\Step ([]:Heap).length (Ab []) Ac.no I w (Ab []) φ' I' w':=λu hu=>
  ⟨Ac.no,I,hu,RH.empty w' I λB hI=>He (hh.lt B hI) hB.size,λb p hb=>absurd hb (C5 b),λ_ h=>h,λ_ h=>.inl h,λB hm=>(Fw hm).elim,
   ⟨hB.os,hB.tape,hB.output,hB.size,λB hlt _=>hB.block B hlt,λB c e fz hc=>⟨c,(hB.block B (CQ hc)).trans hc,rfl⟩,λB c e fz hlt hc=>⟨c,(hB.block B hlt).symm.trans hc,rfl⟩⟩,
   λB hIM hy c e fz hc=>hy (.inl (hIM.resolve_right λhm=>Fw hm)) c e fz ((hB.block B (hh.lt B (hIM.resolve_right λhm=>Fw hm))).symm.trans hc)⟩
 rcases TM with ⟨rfl,CZ⟩ | ⟨i,hi,Pb,axO,rfl⟩
 ·have hv:EY t k=(default,false):=by
   unfold EY;rw[tU λi hi hp=>CZ i hi (uL.2 hp)]
  refine⟨_,rfl,fin _ ?_⟩;rw[hv];exact ae6 default false
 ·have hp:Yc k (t.log.getD i default):=uL.1 Pb;have hv:EY t k=(FF (t.log.getD i default),true):=by
   unfold EY;rw[abH hi hp λj hj hl hp=>axO j hj hl (uL.2 hp)]
  refine⟨_,rfl,fin _ ?_⟩;rw[hv];have e:(.tuple #[.agg #[.string (QR k),.string (if(Sb (t.log.getD i default)).del=true then⟨#[]⟩else(Sb (t.log.getD i default)).val),.bool (!(Sb (t.log.getD i default)).del),.complex .f64 (Sb (t.log.getD i default)).re (Sb (t.log.getD i default)).im],.bool true]:Value) =
    .tuple #[.agg #[.string (QR (FF (t.log.getD i default)).key),.string (QR (FF (t.log.getD i default)).val),.bool (FF (t.log.getD i default)).has,.complex .f64 (FF (t.log.getD i default)).Ag.re (FF (t.log.getD i default)).Ag.im],.bool true]:=by
   generalize t.log.getD i default=x at *;have hk:x.key=k:=hp.2;unfold FF Sb;rw[hk];cases x.del <;> rfl
  rw[e];exact ae6 (FF (t.log.getD i default)) true
abbrev TK:=BZ × An
def qZ(a:List AV):TK:=(KI (Bd a 0),Ia a 1)
def q8(p:TK):List AV:=[.agg (Cn p.1),.str p.2]
def wP:Af:=.spec sS qZ (λp=>p.1.log.length<=100000) q8 (λp=>.Am [.agg (AK (EY p.1 p.2).1),.bool (EY p.1 p.2).2])
def abI:wP.Ok PG:=Af.BJ λp h=>alW p.1 p.2 h
def ae7{R:Type}{t:BZ}{k:An}{K:TK->Option R}(h:t.log.length<=100000):gC qZ (λp=>p.1.log.length<=100000) q8 [.agg (Cn t),.str k] K=K (t,k):=Bj (t,k) (Cv (Rh t) rfl) h (.refl _)
end Go.Hd
end
section
open Go Go.AM Go.Md
namespace Go.Hd
open Go.Wk
def eFi(l:List Af):Env:=Cw [] [(SW,5),(sS,0),(mg,0)] [] l
def xP(w:Ai)(k:An):Option (AV × Heap):=gC Qo Ga NS [Bi w.d.clean,.str k] λy=>some (.Am [.agg (AK (F4 y).1),.bool (F4 y).2.2],BE (Jc w (F4 y).2.1))
def avK(w:Ai)(k:An):CO 1 (eFi [wP,yQ]) 9 SW [.ptr 0 0 0,.str k] (Bo w) =
 gC qZ (λp=>p.1.log.length<=100000) q8 [.agg (Cn w.d.rep.tail),.str k] λy=>bif(EY y.1 y.2).2 then some (.Am [.agg (AK (EY y.1 y.2).1),.bool true],BE w)else
  bif w.Hu then bif A5 w.DI.key k then some (.Am [.agg (AK w.DI),.bool true],BE w)else xP w k else xP w k:=by kernel_rfl
def Uo(l:List Af):Env:=Cw [(Ll,0,[0,3,12,13])] [(Ll,5),(eN,0),(ZJ,0)] [(Ll,11,[6])] l
def Sc:List Af:=[xM,xN]
def vB:∀ k ∈ Sc,k.Ok PG:=ak uH (ak acO AR)
def q9(w:Ai)(q:Ad)(N m:Nat)(i:Int):Option (AV × Heap):=LP (Uo Sc) N 4 Ll (Cm 1 4) 0 [] m {fr:=[(0,.ptr 0 0 0),(3,.ptr 4 0 0),(12,.int .i64 w.d.asks.length),(13,.int .i64 i)],hp:=Bo w++[.arr true 31 [Aq q]]}
def o7(w:Ai):Ai:={w with d:={w.d with next:=Ao (w.d.next+1)}}
def TS(w:Ai)(q:Ad)(y:Ad):List AV:=[.int .i64 (Ao (w.d.next+1)),.str q.op.key,.A9 31 [Aq y]]
def oi(w:Ai)(q:Ad):Option (AV × Heap):=
 gC (λa=>Dj (Bd a 0)) K2 (λm=>[.agg (Aq m)]) [.agg (Aq q)] λy=>bif w.d.asks.length.ble w.d.asks.length then bif((w.d.asks.length+1)*48).ble 140737488355328&&(w.d.asks.length+1).ble 140737488355328 then
  gC (λa=>(Fj (Bd a 0),Mq (Bd a 1))) (λ_=>True) YM [.agg (AJ w.d.rep),.agg (TS w q y)] λz=>bif w.out.length.ble w.out.length then bif((w.out.length+1)*392).ble 140737488355328&&(w.out.length+1).ble 140737488355328 then
   some (.Am [],Jo (o7 w) w.d.waits.length (CM w.d.waits) (w.d.asks.length+1) (BQ w.d.asks.length (BY w.d.asks) (.list [TS w q y])) (w.out.length+1) (BQ w.out.length (BP w.out) (.list [Aq (KO z)])))else none else none else none else none
def avL(N:Nat)(w:Ai)(q:Ad):CO 1 (Uo Sc) (N+1) Ll [.ptr 0 0 0,.agg (Aq q)] (Bo w)=q9 w q N N 0:=by kernel_rfl
def agS(N m:Nat)(w:Ai)(q:Ad)(i:Int):q9 w q N (m+1) i =
 bif decide (i<(w.d.asks.length:Int))then rg i w.d.asks.length (bif i.toNat.blt w.d.asks.length then bif A5 (w.d.asks.getD i.toNat default).key q.op.key then bif i.toNat.blt w.d.asks.length then bif decide (((w.d.asks.getD i.toNat default).calls.length:Int)<w.c.Ou)then
   bif i.toNat.blt w.d.asks.length then gC (λa=>Dj (Bd a 0)) K2 (λm=>[.agg (Aq m)]) [.agg (Aq q)] λ_=>bif(((w.d.asks.getD i.toNat default).calls.length+1)*392).ble 140737488355328&&((w.d.asks.getD i.toNat default).calls.length+1).ble 140737488355328 then none else none else none
  else some (.Am [],BE w)else none else q9 w q N m (Ao (i+1))else none)
 else oi w q:=by kernel_rfl
end Go.Hd
end
section
namespace Go.AM
section
variable {P:Program} {env:Env} {fn nt n base:Nat}
def Bg.seq{x y:Code}{s s1 s2:St}{e:AX}(h1:Bg (λQ=>x.wp P Q) nt base s .normal s1)(h2:Bg (λQ=>y.wp P Q) nt base s1 e s2):Bg (λQ=>(Code.seq x y).wp P Q) nt base s e s2:=by intro hb;obtain⟨b1,g1⟩:=h1 hb;obtain⟨b2,g2⟩:=h2 b1;exact⟨b2,λw I φ a hs ha Q hQ=>wp_seq (g1 w I φ a hs ha _ λa' w' φ' I' c1 c2 c3 c4=>g2 w' I' φ' a' c3 c1 Q (hQ.after c2 c4))⟩
def Bg.block{x:Code}{id:Nat}{s s1:St}(h:Bg (λQ=>x.wp P Q) nt base s (.exit id) s1):Bg (λQ=>(Code.block id x).wp P Q) nt base s .normal s1:=by intro hb;obtain⟨b1,g1⟩:=h hb;refine⟨b1,λw I φ a hs ha Q hQ=>Nz (g1 w I φ a hs ha _ λa' w' φ' I' c1 c2 c3 c4=>?_)⟩;simp only[AX.x,Exit.inBlock,IW];exact hQ a' w' φ' I' c1 c2 c3 c4
def Bg.Nt{x y:Code}{s s1:St}(h:Bg (λQ=>x.wp P Q) nt base s .ret s1):Bg (λQ=>(Code.seq x y).wp P Q) nt base s .ret s1:=by intro hb;obtain⟨b1,g1⟩:=h hb;exact⟨b1,λw I φ a hs ha Q hQ=>wp_seq (g1 w I φ a hs ha _ hQ)⟩
def Bg.tV{x:Code}{id:Nat}{s s1:St}(h:Bg (λQ=>x.wp P Q) nt base s .ret s1):Bg (λQ=>(Code.block id x).wp P Q) nt base s .ret s1:=by intro hb;obtain⟨b1,g1⟩:=h hb;exact⟨b1,λw I φ a hs ha Q hQ=>Nz (g1 w I φ a hs ha _ hQ)⟩
def bE(s s1:St):Prop:=s.hp.length=s1.hp.length /\ ∀ w I φ a,BC w I φ s a->BC w I φ s1 a/\(∀ B,Ca φ (Ab s1.hp) B ↔ Ca φ (Ab s.hp) B)
def Bg.same{x:Code}{s s0 s1:St}{e:AX}(hs:bE s0 s)(h:Bg (λQ=>x.wp P Q) nt base s e s1):Bg (λQ=>x.wp P Q) nt base s0 e s1:=by intro hb;obtain⟨b1,g1⟩:=h (by rw[<- hs.1];exact hb);refine⟨b1,λw I φ a ho ha Q hQ=>?_⟩;obtain⟨h1,h2⟩:=hs.2 w I φ a ho;refine g1 w I φ a h1 ha Q λa' w' φ' I' c1 c2 c3 c4=>hQ a' w' φ' I' c1 c2 c3 ?_;exact⟨c4.le,c4.F8,λB hB=>(c4.F3 B hB).imp id (Or.imp (h2 B).1 id),λB hB=>(c4.mt B hB).imp (h2 B).1 id,c4.ext.weaken λB hB=>(h2 B).1 hB,λB hB hy=>c4.ok B hB λk=>hy (k.imp id (h2 B).1)⟩
def Bg.norm{x:Code}{l:List Nat}{s s1:St}(h:Bg (λQ=>x.wp P Q) nt base s .normal s1):Bg (λQ=>x.wp P Q) nt base s .normal (norm base l s1):=by intro hb;obtain⟨b1,g1⟩:=h hb;refine⟨ZV b1,λw I φ a hs ha Q hQ=>g1 w I φ a hs ha _ λa' w' φ' I' c1 c2 c3 c4=>?_⟩;obtain⟨n1,Dd,n2,n3⟩:=Rp base l c3 b1;exact hQ a' w' Dd I' c1 c2 n2 (c4.trans n3)
def Bg.loop{x:Code}{e0:AX}(he:e0 ≠ .normal){n:Nat}(S:Nat->St){T:St}(Kf:∀ j,j<n->Bg (λQ=>x.wp P Q) nt base (S j) .normal (S (j+1)))(ON:Bg (λQ=>x.wp P Q) nt base (S n) e0 T) :
  Bg (λQ=>(Code.loop x).wp P Q) nt base (S 0) e0 T:=by
 have key:∀ k j,j+k=n->Bg (Ud P x) nt base (S j) e0 T:=by
  intro k
  induction k with
  | zero=>
   intro j hj hb;have:j=n:=by omega
   subst this;obtain⟨b1,g1⟩:=ON hb;refine⟨b1,λw I φ a hs ha Q hQ=>ZY (g1 w I φ a hs ha _ λa' w' φ' I' c1 c2 c3 c4=>?_)⟩;cases e0 with
   | normal=>exact absurd rfl he
   | exit id=>exact hQ a' w' φ' I' c1 c2 c3 c4
   | goto l=>exact hQ a' w' φ' I' c1 c2 c3 c4
   | ret=>exact hQ a' w' φ' I' c1 c2 c3 c4
  | succ k ih=>intro j hj hb;obtain⟨b1,g1⟩:=Kf j (by omega) hb;obtain⟨b2,g2⟩:=ih (j+1) (by omega) b1;exact⟨b2,λw I φ a hs ha Q hQ=>ZY (g1 w I φ a hs ha _ λa' w' φ' I' c1 c2 c3 c4=>g2 w' I' φ' a' c3 c1 Q (hQ.after c2 c4))⟩
 intro hb;obtain⟨b1,g1⟩:=key n 0 (by omega) hb;exact⟨b1,λw I φ a hs ha Q hQ=>mA (g1 w I φ a hs ha Q hQ)⟩
def Ba(e0:AX)(f:St->St)(e:AX)(s:St):Option St:=match e0,e with
 | .normal,.normal=>some (f s)
 | .exit i,.exit j=>bif Nat.beq i j then some (f s)else none
 | .ret,.ret=>some (f s)
 | _,_=>none
def an7{run:Gh St}(Bh:DH P env)(hrun:EN P run)(hm:P.follows .mixedOrders=true){c:Code}{cur:Nat}{e0:AX}{s s':St}(A8:AD c=true)
  (h:La env run fn nt n base cur c (Ba e0 id) s=some s'):Bg (λQ=>c.wp P Q) nt base s e0 s':=by
 obtain⟨e,s1,h1,h2⟩:=ab Bh hrun hm A8 h;unfold Ba at h1;cases e0 <;> cases e <;> simp only at h1 <;> first | (cases h1;exact h2) | cases h1 | skip
 rename_i i j;obtain⟨g1,g2⟩:=BG h1;cases g2;have:=BN g1;subst this;exact h2
def J5{run:Gh St}(Bh:DH P env)(hrun:EN P run)(hm:P.follows .mixedOrders=true){c:Code}{cur:Nat}{l:List Nat}{s s':St}(A8:AD c=true)
  (h:La env run fn nt n base cur c (Ba .normal (norm base l)) s=some s'):Bg (λQ=>c.wp P Q) nt base s .normal s':=by
 obtain⟨e,s1,h1,h2⟩:=ab Bh hrun hm A8 h;cases e with
 | normal=>cases h1;exact h2.norm
 | exit id=>cases h1
 | goto l=>cases h1
 | ret=>cases h1
end
def WZ{P:Program}{env:Env}(Bh:DH P env)(D6:It P env){f:Nat}{fn:Func}{c:Code}(hf:env.code f=some fn)(hb:fn.body=some c){args:List AV}{hp:Heap}{T:St}{e:AX}(he:e=.normal\/e=.ret)
  (L:Bg (λQ=>c.wp P Q) fn.ntmps hp.length {fr:=Ej 0 args,hp:=hp} e T) {c0:Nat} (MJ:c0<=hp.length) {r:AV} {h:Heap} (hr:Ip env.tt T fn.results.toList (λvs=>Cm c0 hp.length (Ge vs) T.hp)=some (r,h)) :
  At P f args hp r h/\hp.length<=h.length:=by
 obtain⟨hfn,hbody,hname,A8⟩:=D6 f fn hf;obtain⟨vs,h4,h5⟩:=lW Bh.tt _ _ hr;obtain⟨hlen,L⟩:=L (Ar _);refine ta MJ h4 hlen ?_;intro w I φ ra hh hx;refine .inl ⟨?_,calls_of_wp hfn hb ?_⟩
 ·simp only[callFunc,Ce,run_program,Co,hfn,hname,hbody,I8,Hg,CS]
 ·have hst:BC w I φ {fr:=Ej 0 args,hp:=hp} {tmps:=ra++Array.replicate (fn.ntmps - ra.size) undef,defers:=[]}:=⟨hh,mD hx _⟩
  refine L w I φ _ hst (by simp;omega) _ λa' w' φ' I' c1 c2 c3 c4=>?_;obtain⟨us,d1,d2,d3⟩:=h5 w' I' φ' a' c3;have Ew:(results fn a'.tmps).run P w'=.ok (if h:us.toArray.size=1 then us.toArray[0]else .tuple us.toArray) w':=by unfold results;rw[gj];simp only[map_eq_pure_bind,bind_assoc,pure_bind,Ce];exact(congrArg (λ(x:Result (List Value))=>x.andThen λus w=>(pure (if h:us.toArray.size=1 then us.toArray[0]else Value.tuple us.toArray):Sem Value).run P w) d1)
  have C8:RV w' I' φ' (Ge vs) (if h:us.toArray.size=1 then us.toArray[0]else .tuple us.toArray):=by
   have KZ:us.length ≠ 1->RV w' I' φ' (.Am vs) (if h:us.toArray.size=1 then us.toArray[0]else .tuple us.toArray):=by intro hne;rw[dif_neg (by simpa using hne)];exact .Am _ _ (by simpa using d2) λi x u e e'=>d3 i x u e (by simpa using e')
   cases vs with
   | nil=>exact KZ (by simp at d2;omega)
   | cons v l=>
    cases l with
    | nil=>
     cases us with
     | nil=>simp at d2
     | cons u us=>
      cases us with
      | nil=>exact d3 0 v u rfl rfl
      | cons u' us=>simp at d2
    | cons v' l=>exact KZ (by simp at d2;omega)
  have HZ:bodyPost P fn (λe w'=>∃ u,e=.returned u /\ ∃ φ' I',RV w' I' φ' (Ge vs) u/\RH w' I' φ' (Ab T.hp)/\Step hp.length (Ab hp) φ I w (Ab T.hp) φ' I' w') .normal a' w':=
   ⟨c2,_,Ew,_,rfl,φ',I',C8,c3.hh,c4⟩
  rcases he with rfl | rfl
  ·exact HZ
  ·exact HZ
end Go.AM
end
section
open Go Go.AM Go.Md
namespace Go.Hd
open Go.Wk
def atb(N:Nat)(l:List Ad):CO 0 (IJ Sa) (N+1) Io [BB l] []=gC D1 C9 (D2 31) [BB l] λy=>LP (IJ Sa) N 0 Io (Cm 0 0) 0 [] N (cY y.1 y.2 0):=by kernel_rfl
def ae8(N m:Nat)(l:List Ad)(i:Int):LP (IJ Sa) N 0 Io (Cm 0 0) 0 [] (m+1) (cY l.length (BP l) i) =
 bif decide (i<(l.length:Int))then rg i l.length (bif i.toNat.blt l.length then gC (λa=>Dj (Bd a 0)) K2 (λm=>[.agg (Aq m)]) [.agg (Aq (l.getD i.toNat default))] λy=>
  rg i l.length (bif i.toNat.blt l.length&&true then LP (IJ Sa) N 0 Io (Cm 0 0) 0 [] m (cY l.length (λi'=>bif i'.beq i.toNat then Aq y else Aq (l.getD i' default)) (Ao (i+1)))else none)else none)
 else some (.sn 31 0 l.length,[.seq true 31 l.length (BP l)]):=by kernel_rfl
def tW(l:List Ad)(h:GD l):At PG Io [BB l] [] (.sn 31 0 l.length) [Bf 31 Aq default l]:=by
 obtain⟨N,hN⟩:∃ N,N=200000:=⟨_,rfl⟩
 have run:∀ d i m,i+d=l.length->d<m->LP (IJ Sa) N 0 Io (Cm 0 0) 0 [] m (cY l.length (BP l) (i:Nat))=some (.sn 31 0 l.length,[Bf 31 Aq default l]):=by
  intro d
  induction d with
  | zero=>intro i m hi hm;obtain⟨m,rfl⟩:=B3 m (by omega);rw[ae8,AN (by omega),Aj];rfl
  | succ d ih=>
   intro i m hi hm;obtain⟨m,rfl⟩:=B3 m (by omega);have hil:i<l.length:=by omega
   have hc:=h.2 _ (De (z:=(default:Ad)) hil);have e:=ih (i+1) m (by omega) (by omega);have h1:=h.1;have hw:Ao ((i:Int)+1)=((i+1:Nat):Int):=Cs (by omega);have hs:=E5 Aq default l i;rw[ae8,Ax (show((i:Nat):Int)<(l.length:Int) by omega),Ae,B8 hil,BV,Cd hil,Ae,og hc,B8 hil,CV,Ae,hw,hs];exact e
 refine iD (n:=N+1) (ak (UR acy) (ak uH AR)) ((atb N l).trans ?_);refine(HE h.1).trans ?_;exact run l.length 0 N (by omega) (by have:=h.1;omega)
def fY:Af:=.Ly Io (λa=>Bm Dj (a.getD 0 .Ak)) GD (λl=>[BB l]) (λl=>(.sn 31 0 l.length,[Bf 31 Aq default l]))
def alX:fY.Ok PG:=Af.Mn tW
end Go.Hd
end
section
namespace Go.AM
def B9(l:List Nat)(s:St):St:={fr:=l.map λt=>(t,Bb s.fr t),hp:=s.hp}
def acS(s:St)(t:Nat):∀ l:List Nat,Bb (l.map λt=>(t,Bb s.fr t)) t=Bb s.fr t\/Bb (l.map λt=>(t,Bb s.fr t)) t=.undef
 | []=>.inr rfl
 | x::l=>by
  simp only[NP,Bb];cases h:Nat.beq x t with
  | true=>have:=BN h;subst this;exact .inl rfl
  | false=>exact acS s t l
def BC.j8{w:World}{I:Nat->Prop}{φ:Ac}{s:St}{a:Act}(h:BC w I φ s a)(l:List Nat):BC w I φ (B9 l s) a:=
 ⟨h.hh,λt=>by
  rcases acS s t l with e | e
  ·show RV w I φ (Bb (l.map λt=>(t,Bb s.fr t)) t) _;rw[e];exact h.fr t
  ·show RV w I φ (Bb (l.map λt=>(t,Bb s.fr t)) t) _;rw[e];exact .undef _⟩
def Bg.j8{P:Program}{nt base:Nat}{X:(Exit->Act->World->Prop)->Act->World->Prop}{s s1:St}{e:AX}(h:Bg X nt base s e s1)(l:List Nat):Bg X nt base s e (B9 l s1):=by intro hb;obtain⟨b1,g1⟩:=h hb;exact⟨b1,λw I φ a hs ha Q hQ=>g1 w I φ a hs ha Q λa' w' φ' I' c1 c2 c3 c4=>hQ a' w' φ' I' c1 c2 (c3.j8 l) c4⟩
def BT{P:Program}{env:Env}{fn nt n base:Nat}{run:Gh St}(Bh:DH P env)(hrun:EN P run)(hm:P.follows .mixedOrders=true){c:Code}{cur:Nat}{e0:AX}{l:List Nat}{s s':St}(A8:AD c=true)
  (h:La env run fn nt n base cur c (Ba e0 (B9 l)) s=some s'):Bg (λQ=>c.wp P Q) nt base s e0 s':=by
 obtain⟨e,s1,h1,h2⟩:=ab Bh hrun hm A8 h;unfold Ba at h1;cases e0 <;> cases e <;> simp only at h1 <;> first | (cases h1;exact h2.j8 (P:=P) l) | cases h1 | skip
 rename_i i j;obtain⟨g1,g2⟩:=BG h1;cases g2;have:=BN g1;subst this;exact h2.j8 (P:=P) l
def Bg.adX{nt base:Nat}{X:(Exit->Act->World->Prop)->Act->World->Prop}{s s1 s2:St}{e:AX}(h:Bg X nt base s e s1)(hs:bE s1 s2):Bg X nt base s e s2:=by intro hb;obtain⟨b1,g1⟩:=h hb;refine⟨by rw[<- hs.1];exact b1,λw I φ a ho ha Q hQ=>g1 w I φ a ho ha Q λa' w' φ' I' c1 c2 c3 c4=>?_⟩;obtain⟨h1,h2⟩:=hs.2 w' I' φ' a' c3;exact hQ a' w' φ' I' c1 c2 h1 ⟨c4.le,c4.F8,c4.F3,λB hB=>c4.mt B ((h2 B).1 hB),c4.ext,λB hB hy=>c4.ok B (hB.imp id (h2 B).1) hy⟩
def RV.atc{w:World}{I J:Nat->Prop}{φ φ':Ac}{sz b n B o s m:Nat}{mu:Bool}{f:Nat->List AV}{u:Value}(h:RV w I φ (.sn sz b n) u)(AI:φ b=some (B,o,s))(hb:RB w I φ B o s (.seq mu s m f))(hm:n<=m)
  (hI:∀ B,I B->J B) (hJ:J B):RV w J φ' (.tr sz n f) u:=by
 obtain⟨_,_,a2,a3⟩:=hb;cases h with
 | DT _ _ a=>exact .Cq _ _ _
 | sn _ _ _ B' o' cap h' hl hz=>
  rw[AI]at h';cases h';have key:∀ i k c,i<n->(f i)[k]? = some c -> ∃ u,w.cell? ⟨B,o+i*sz+k,none⟩=some u/\u.oneCell'=true/\RV w J Ac.no c u:=by intro i k c hi e;obtain⟨u,g1,g2,g3⟩:=a3 i k c (by omega) e;exact⟨u,g1,g2,g3.mono (λB hB=>⟨hI B hB,rfl⟩) (λ_=>Ar _) (Ac.le_refl _)⟩
  refine .tr sz n f B o cap (λi k=>(w.cell? ⟨B,o+i*sz+k,none⟩).getD Go.undef) (λ_=>hJ) hl (λ_=>hz) (λi hi=>a2 i (by omega)) (λi k c hi e=>?_) (λi k c hi e=>?_) (λi k c hi e=>?_)
  ·obtain⟨u,g1,g2,g3⟩:=key i k c hi e;rw[g1];rfl
  ·obtain⟨u,g1,g2,g3⟩:=key i k c hi e;rw[g1];exact g2
  ·obtain⟨u,g1,g2,g3⟩:=key i k c hi e;rw[g1];exact g3
def At.close{P:Program}{f:Nat}{args:List AV}{hp rh Ui:Heap}{r:AV}(h:At P f args hp r rh){b kk sz n s' n' i0:Nat}{m cur:Bool}{F G:Nat->List AV}{pre:List AV}{ks:List Nat}
  (hb:Ab rh b=.Cb m sz n F i0 (pre++[.sn s' kk n']) ks cur) (hk:Ab rh kk=.seq true s' n' G) (hF:∀ j,j<n->(F j).all Ed=true) (OM:pre.all Ed=true) (JY:b ≠ kk) (hn:0<n')
  (Aw:Ab Ui b=.seq m sz n λj=>bif Nat.beq j i0 then pre++[.tr s' n' G]else F j) (T4:Ab Ui kk=.dead) (ho:∀ c,c ≠ b->c ≠ kk->Ab Ui c=Ab rh c):At P f args hp r Ui:=by
 intro w I φ ra hh hx;refine(h w I φ ra hh hx).mono λu w' ⟨φ',I',a1,a2,a3⟩=>?_;obtain⟨Bk,ok,szk,ek,rk⟩:=a2.TH (b:=kk) (by rw[hk];simp only[Gv];omega) (by rw[hk];rfl);have mk:AZ (Ab rh kk)=true:=by rw[hk];rfl
 have Dm:∀ c,AZ (Ab Ui c)=true->AZ (Ab rh c)=true/\c ≠ kk:=by
  intro c hc;by_cases h1:c=kk
  ·subst h1;rw[T4]at hc;cases hc
  ·by_cases h2:c=b
   ·subst h2;rw[Aw]at hc;rw[hb];exact⟨hc,h1⟩
   ·rw[ho c h2 h1]at hc;exact⟨hc,h1⟩
 have Lv:∀ c,live (Ab Ui c)=true->live (Ab rh c)=true/\c ≠ kk:=by
  intro c hc;by_cases h1:c=kk
  ·subst h1;rw[T4]at hc;cases hc
  ·by_cases h2:c=b
   ·subst h2;rw[hb];exact⟨rfl,h1⟩
   ·rw[ho c h2 h1]at hc;exact⟨hc,h1⟩
 have hJ:∀ B,I' B->(I' B\/B=Bk):=λB hB=>.inl hB;refine⟨φ',λB=>I' B\/B=Bk,a1.mono (λB hB=>⟨.inl hB,rfl⟩) (λ_=>Ar _) (Ac.le_refl _),⟨λc e=>?_,λc hl=>?_,λc c' B o sz o' sz' m1 m2=>a2.inj c c' B o sz o' sz' (Dm c m1).1 (Dm c' m2).1,λc B o sz m1 e=>?_,λc B o sz hl m1 e=>?_,λB hB=>?_⟩,⟨a3.le,λB hB=>.inl (a3.F8 B hB),λB hB=>?_,λB ⟨c,o,sz,m1,e⟩=>a3.mt B ⟨c,o,sz,(Dm c m1).1,e⟩,a3.ext,λB hB hy=>a3.ok B (by
   rcases hB with (x | rfl) | ⟨c,o,sz,m1,e⟩
   ·exact .inl x
   ·exact .inr ⟨kk,_,_,mk,ek⟩
   ·exact .inr ⟨c,o,sz,(Dm c m1).1,e⟩) hy⟩⟩
 ·by_cases h1:c=kk
  ·subst h1;rw[T4]at e;cases e
  ·by_cases h2:c=b
   ·subst h2;rw[Aw]at e;cases e
   ·rw[ho c h2 h1]at e;exact a2.none c e
 ·obtain⟨JS,ML⟩:=Lv c hl;by_cases h2:c=b
  ·subst h2;rcases a2.CY c JS with ⟨B,o,Kz,e1,rb⟩ | ⟨_,hp⟩
   ·refine .inl ⟨B,o,Kz,e1,?_⟩;rw[hb]at rb;rw[Aw];obtain⟨g0,g1,g2,g3⟩:=rb;have pL:∀ j,j<n->(bif Nat.beq j i0 then pre++[AV.tr s' n' G]else F j).length=Kz:=by
     intro j hj;have:=g2 j hj;unfold DF at this;cases hq:Nat.beq j i0 with
     | true=>rw[hq]at this;simpa using this
     | false=>rw[hq]at this;exact this
    refine⟨g0,g1,pL,λj k c0 hj e=>?_⟩;have g3:=λk c=>g3 j k c hj;unfold DF at g3;cases hq:Nat.beq j i0 with
    | false=>rw[hq,Aj]at g3;dsimp only at e;rw[hq,Aj]at e;obtain⟨u,u1,u2,u3⟩:=g3 k c0 e;exact⟨u,u1,u2,(u3.free ((HA.1 (hF j hj)) c0 (Dy e))).mono (λB hB=>⟨.inl hB,rfl⟩) (λ_=>Ar _) (Ac.le_refl _)⟩
    | true=>
     rw[hq,Ae]at g3;dsimp only at e;rw[hq,Ae,Vp]at e;split at e
     ·rename_i hkl;obtain⟨u,u1,u2,u3⟩:=g3 k c0 (by rw[DY hkl];exact e);exact⟨u,u1,u2,(u3.free ((HA.1 OM) c0 (Dy e))).mono (λB hB=>⟨.inl hB,rfl⟩) (λ_=>Ar _) (Ac.le_refl _)⟩
     ·rename_i hkl;have hke:k=pre.length:=by
       rcases Cj k (pre.length+1)with h1 | h1
       ·omega
       ·rw[CK (by simp;omega)]at e;cases e
      subst hke;rw[LN]at e;cases e;obtain⟨u,u1,u2,u3⟩:=g3 pre.length (.sn s' kk n') (by simp);rw[hk]at rk;have e9:s'=szk:=rk.1;subst e9;exact⟨u,u1,u2,u3.atc ek rk (Ar _) hJ (.inr rfl)⟩
   ·rw[hb]at hp;exact hp.elim
  ·have e0:=ho c h2 ML;rw[e0]at hl ⊢;rcases a2.CY c hl with ⟨B,o,Kz,e1,rb⟩ | hp
   ·exact .inl ⟨B,o,Kz,e1,rb.mono (λB hB=>⟨.inl hB,rfl⟩) (λ_=>Ar _) (Ac.le_refl _) rfl⟩
   ·exact .inr hp
 ·obtain⟨m2,ML⟩:=Dm c m1;rintro(hB | rfl)
  ·exact a2.CP c B o sz m2 e hB
  ·exact ML (a2.inj c kk _ _ _ _ _ m2 mk e ek)
 ·obtain⟨JS,ML⟩:=Lv c hl;refine .inl (a2.Ea c B o sz JS ?_ e);by_cases h2:c=b
  ·subst h2;rw[Aw]at m1;rw[hb];exact m1
  ·rw[ho c h2 ML]at m1;exact m1
 ·rcases hB with hB | rfl
  ·exact a2.lt B hB
  ·exact rk.lt (by rw[hk];rfl)
 ·rcases hB with hB | rfl
  ·exact a3.F3 B hB
  ·exact(a3.mt _ ⟨kk,ok,szk,mk,ek⟩).elim (λh=>.inr (.inl h)) (λh=>.inr (.inr h))
end Go.AM
end
section
open Go Go.AM Go.Md
namespace Go.Hd
open Go.Wk
def JN(a:Md.Ask)(b n:Nat):List AV:=[.int .i64 a.num,.str a.key,.sn 31 b n]
def Ff(w:Ai)(I:Nat)(a:Md.Ask)(cur:Bool):Heap:=[.arr true 44 [HF w (.sn 4 1 w.d.waits.length) (.sn 3 2 w.d.asks.length) (.sn 31 4 w.out.length)],.seq true 4 w.d.waits.length (CM w.d.waits),.Cb true 3 w.d.asks.length (BY w.d.asks) I (JN a 3 a.calls.length) [3] cur,.seq true 31 a.calls.length (BP a.calls),.seq true 31 w.out.length (BP w.out)]
def YQ:Code:=Fi (Uo Sc) Ll
def A0:Code:=sub YQ [.L]
def A1:Code:=sub YQ [.R,.L,.L]
def Wq:Code:=sub YQ [.R,.L,.R,.L,.L]
def A2:Code:=sub YQ [.R,.R]
def ae9:YQ=.seq A0 (.seq (.seq A1 (.block 0 (.loop Wq))) A2):=by kernel_rfl
def SA0(w:Ai)(I:Nat)(a:Md.Ask)(q:Ad):St:={fr:=(3,.ptr 5 0 0)::Ej 0 [.ptr 0 0 0,.agg (Aq q)],hp:=Ff w I a false++[.arr true 31 [Aq q]]}
def SA(w:Ai)(I:Nat)(a:Md.Ask)(q:Ad)(i:Int)(cur:Bool):St:={fr:=[(0,.ptr 0 0 0),(3,.ptr 5 0 0),(12,.int .i64 w.d.asks.length),(13,.int .i64 i)],hp:=Ff w I a cur++[.arr true 31 [Aq q]]}
def rf(w:Ai)(I:Nat)(a:Md.Ask)(q y:Ad):St:={fr:=[],hp:=[.arr true 44 [HF w (.sn 4 1 w.d.waits.length) (.sn 3 2 w.d.asks.length) (.sn 31 4 w.out.length)],.seq true 4 w.d.waits.length (CM w.d.waits),.Cb true 3 w.d.asks.length (BY w.d.asks) I (JN a 7 (a.calls.length+1)) [3,7] true,.dead,.seq true 31 w.out.length (BP w.out),.arr true 31 [Aq q],.arr true 31 [Aq y],.seq true 31 (a.calls.length+1) (BQ a.calls.length (BP a.calls) (.list [Aq y]))]}
def ri(x:Code)(K:AX->St->Option St)(s:St):Option St:=La (Uo Sc) (Dl (Uo Sc) 0) Ll 103 0 5 0 x K s
def axP(w:Ai)(I:Nat)(a:Md.Ask)(q:Ad):ri A0 (Ba .normal id) {fr:=Ej 0 [.ptr 0 0 0,.agg (Aq q)],hp:=Ff w I a false}=some (SA0 w I a q):=by kernel_rfl
def axQ(w:Ai)(I:Nat)(a:Md.Ask)(q:Ad):ri A1 (Ba .normal (norm 5 [0,3,12,13])) (SA0 w I a q)=some (SA w I a q 0 false):=by kernel_rfl
def axR(w:Ai)(I:Nat)(a:Md.Ask)(q:Ad)(i:Int):ri Wq (Ba .normal (norm 5 [0,3,12,13])) (SA w I a q i false) =
 bif decide (i<(w.d.asks.length:Int))then rg i w.d.asks.length (bif i.toNat.blt w.d.asks.length && !i.toNat.beq I then bif A5 (w.d.asks.getD i.toNat default).key q.op.key then
   bif i.toNat.blt w.d.asks.length && !i.toNat.beq I then bif decide (((w.d.asks.getD i.toNat default).calls.length:Int)<w.c.Ou)then
    bif i.toNat.blt w.d.asks.length && !i.toNat.beq I then gC (λa=>Dj (Bd a 0)) K2 (λm=>[.agg (Aq m)]) [.agg (Aq q)] λ_=>bif(((w.d.asks.getD i.toNat default).calls.length+1)*392).ble 140737488355328&&((w.d.asks.getD i.toNat default).calls.length+1).ble 140737488355328 then none else none else none
   else none else none
  else some (SA w I a q (Ao (i+1)) false)else none)
 else none:=by kernel_rfl
def avM(w:Ai)(I:Nat)(a:Md.Ask)(q:Ad)(i:Int):ri Wq (Ba .ret (B9 [])) (SA w I a q i true) =
 bif decide (i<(w.d.asks.length:Int))then rg i w.d.asks.length (bif i.toNat.blt w.d.asks.length&&i.toNat.beq I then bif A5 a.key q.op.key then
   bif i.toNat.blt w.d.asks.length&&i.toNat.beq I then bif decide ((a.calls.length:Int)<w.c.Ou)then
    bif i.toNat.blt w.d.asks.length&&i.toNat.beq I then gC (λa=>Dj (Bd a 0)) K2 (λm=>[.agg (Aq m)]) [.agg (Aq q)] λy=>bif a.calls.length.ble a.calls.length then bif((a.calls.length+1)*392).ble 140737488355328&&(a.calls.length+1).ble 140737488355328 then
     bif i.toNat.blt w.d.asks.length&&i.toNat.beq I then some (rf w I a q y)else none else none else none else none
   else some {fr:=[],hp:=(SA w I a q i true).hp}else none
  else none else none)
 else none:=by kernel_rfl
def MD(w:Ai):Heap:=[.arr true 44 [HF w (.sn 4 5 w.d.waits.length) (.sn 3 6 w.d.asks.length) (.sn 31 7 w.out.length)],.dead,.dead,.dead,.dead,.seq true 4 w.d.waits.length (CM w.d.waits),.seq true 3 w.d.asks.length (BY w.d.asks),.seq true 31 w.out.length (BP w.out)]
def OT(l:List Md.Ask)(I:Nat)(q:Ad):List Md.Ask:=l.set I {l.getD I default with calls:=(l.getD I default).calls++[q]}
def Xy(w:Ai)(I:Nat)(q:Ad):Ai:={w with d:={w.d with asks:=OT w.d.asks I q}}
def gR(w:Ai)(I:Nat)(q:Ad):Prop:=I<w.d.asks.length/\(w.d.asks.getD I default).key=q.op.key/\(∀ j,j<I->(w.d.asks.getD j default).key ≠ q.op.key)/\(((w.d.asks.getD I default).calls.length:Int)<w.c.Ou)/\(w.d.asks.getD I default).calls.length<=100000/\w.d.asks.length<=100000/\K2 q
def hF1(w:Ai)(I:Nat)(a:Md.Ask)(q:Ad):Heap:=[.arr true 44 [HF w (.sn 4 5 w.d.waits.length) (.sn 3 6 w.d.asks.length) (.sn 31 9 w.out.length)],.dead,.dead,.dead,.dead,.seq true 4 w.d.waits.length (CM w.d.waits),.Cb true 3 w.d.asks.length (BY w.d.asks) I (JN a 8 (a.calls.length+1)) [7,8] true,.dead,.seq true 31 (a.calls.length+1) (BQ a.calls.length (BP a.calls) (.list [Aq q])),.seq true 31 w.out.length (BP w.out)]
def avN(w:Ai)(I:Nat)(a:Md.Ask)(q y:Ad):Cm 1 5 (Ge []) (rf w I a q y).hp=some (.Am [],hF1 w I a y):=by kernel_rfl
def hF2(w:Ai)(I:Nat)(a:Md.Ask)(q:Ad):Heap:=[.arr true 44 [HF w (.sn 4 5 w.d.waits.length) (.sn 3 6 w.d.asks.length) (.sn 31 9 w.out.length)],.dead,.dead,.dead,.dead,.seq true 4 w.d.waits.length (CM w.d.waits),.seq true 3 w.d.asks.length (λj=>bif Nat.beq j I then [.int .i64 a.num,.str a.key]++[.tr 31 (a.calls.length+1) (BQ a.calls.length (BP a.calls) (.list [Aq q]))]else BY w.d.asks j),.dead,.dead,.seq true 31 w.out.length (BP w.out)]
def hF3(w:Ai)(I:Nat)(a:Md.Ask)(q:Ad):Heap:=[.arr true 44 [HF w (.sn 4 5 w.d.waits.length) (.sn 3 6 w.d.asks.length) (.sn 31 7 w.out.length)],.dead,.dead,.dead,.dead,.seq true 4 w.d.waits.length (CM w.d.waits),.seq true 3 w.d.asks.length (λj=>bif Nat.beq j I then [.int .i64 a.num,.str a.key]++[.tr 31 (a.calls.length+1) (BQ a.calls.length (BP a.calls) (.list [Aq q]))]else BY w.d.asks j),.seq true 31 w.out.length (BP w.out)]
def atd(w:Ai)(I:Nat)(a:Md.Ask)(q:Ad):Cm 1 5 (.Am []) (hF2 w I a q)=some (.Am [],hF3 w I a q):=by kernel_rfl
def an8(l:List Md.Ask)(I:Nat)(q:Ad)(hI:I<l.length)(j:Nat)(hj:j<l.length) :
  (bif Nat.beq j I then [AV.int .i64 (l.getD I default).num,.str (l.getD I default).key]++[.tr 31 ((l.getD I default).calls.length+1) (BQ (l.getD I default).calls.length (BP (l.getD I default).calls) (.list [Aq q]))]else BY l j)=BY (OT l I q) j:=by
 have e:BQ (l.getD I default).calls.length (BP (l.getD I default).calls) (.list [Aq q])=BP ((l.getD I default).calls++[q]):=ae2 _ _ _ _;rw[e];by_cases h:j=I
 ·subst h;rw[beq_true rfl,Ae];unfold BY OT;have:(l.set j {l.getD j default with calls:=(l.getD j default).calls++[q]}).getD j default={l.getD j default with calls:=(l.getD j default).calls++[q]}:=by
   simp[List.getD,hj]
  rw[this];unfold D5 BB DQ;rw[CB];rfl
 ·rw[beq_false h,Aj];unfold BY OT;have:(l.set I {l.getD I default with calls:=(l.getD I default).calls++[q]}).getD j default=l.getD j default:=by
   simp only[List.getD];rw[List.getElem?_set_ne (λe=>h e.symm)]
  rw[this]
def alY(w:Ai)(I:Nat)(q:Ad)(h:gR w I q):At PG Ll [.ptr 0 0 0,.agg (Aq q)] (Ff w I (w.d.asks.getD I default) false) (.Am []) (MD (Xy w I q))/\(Ff w I (w.d.asks.getD I default) false).length<=(MD (Xy w I q)).length:=by
 obtain⟨h1,h2,h3,h4,h5,h6,h7⟩:=h;obtain⟨a,ha⟩:∃ a,w.d.asks.getD I default=a:=⟨_,rfl⟩
 rw[ha]at h2 h4 h5;rw[ha];have Bh:DH PG (Uo Sc):=Gd vB;have D6:It PG (Uo Sc):=Gc;have hrun:EN PG (Dl (R:=St) (Uo Sc) 0):=Iw Bh D6 mixed 0;obtain⟨fn,hf,hb,GI,Ew⟩:∃ fn,(Uo Sc).code Ll=some fn/\fn.body=some YQ/\fn.ntmps=103/\fn.results.toList=[]:=⟨_,rfl,by kernel_rfl,by kernel_rfl,by kernel_rfl⟩
 obtain⟨_,_,_,A8⟩:=D6 _ fn hf;have A8:=A8 _ hb;rw[ae9]at A8;obtain⟨j9,A8⟩:=A4 (show(AD A0&&AD (.seq (.seq A1 (.block 0 (.loop Wq))) A2))=true from A8);obtain⟨A8,rj⟩:=A4 (show(AD (.seq A1 (.block 0 (.loop Wq)))&&AD A2)=true from A8);obtain⟨ka,KC⟩:=A4 (show(AD A1&&AD Wq)=true from A8);have L0:=an7 Bh hrun mixed j9 (axP w I a q);have L1:=J5 Bh hrun mixed ka (axQ w I a q);have Kf:∀ j,j<I->Bg (λQ=>Wq.wp PG Q) 103 5 (SA w I a q (j:Nat) false) .normal (SA w I a q ((j+1:Nat):Int) false):=by
  intro j hj;refine J5 Bh hrun mixed KC ((axR w I a q (j:Nat)).trans ?_);have hne:A5 (w.d.asks.getD j default).key q.op.key=false:=by rw[DV];simpa using h3 j hj
  have hw:Ao ((j:Int)+1)=((j+1:Nat):Int):=Cs (by omega);rw[Ax (show((j:Nat):Int)<(w.d.asks.length:Int) by omega),Ae,B8 (by omega),BV,Cd (by omega),beq_false (show j ≠ I by omega),EP,CV,Ae,hne,Aj,hw]
 have Lu:bE (SA w I a q (I:Nat) false) (SA w I a q (I:Nat) true):=by
  refine⟨rfl,λw1 I1 φ a1 hs=>?_⟩;have hB:∀ B o sz,RB w1 I1 φ B o sz (.Cb true 3 w.d.asks.length (BY w.d.asks) I (JN a 3 a.calls.length) [3] false)->RB w1 I1 φ B o sz (.Cb true 3 w.d.asks.length (BY w.d.asks) I (JN a 3 a.calls.length) [3] true):=λB o sz h=>h;have om:∀ b,(b ≠ 2->Ab (SA w I a q (I:Nat) true).hp b=Ab (SA w I a q (I:Nat) false).hp b):=by
   intro b hb2
   match b,hb2 with
   | 0,_=>rfl
   | 1,_=>rfl
   | 2,h=>exact absurd rfl h
   | b+3,_=>rfl
  have rl:Ab (SA w I a q (I:Nat) true).hp 2=.Cb true 3 w.d.asks.length (BY w.d.asks) I (JN a 3 a.calls.length) [3] true:=rfl;have rm:Ab (SA w I a q (I:Nat) false).hp 2=.Cb true 3 w.d.asks.length (BY w.d.asks) I (JN a 3 a.calls.length) [3] false:=rfl;have DB:∀ b,AZ (Ab (SA w I a q (I:Nat) true).hp b)=AZ (Ab (SA w I a q (I:Nat) false).hp b):=by
   intro b;by_cases hb2:b=2
   ·subst hb2;rw[rl,rm];rfl
   ·rw[om b hb2]
  have YR:∀ b,live (Ab (SA w I a q (I:Nat) true).hp b)=live (Ab (SA w I a q (I:Nat) false).hp b):=by
   intro b;by_cases hb2:b=2
   ·subst hb2;rw[rl,rm];rfl
   ·rw[om b hb2]
  refine⟨⟨⟨λb e=>hs.hh.none b ?_,λb e=>?_,λb b' B o sz o' sz' e e'=>hs.hh.inj b b' B o sz o' sz' (by rw[<- DB];exact e) (by rw[<- DB];exact e'),λb B o sz e=>hs.hh.CP b B o sz (by rw[<- DB];exact e),λb B o sz e e2=>hs.hh.Ea b B o sz (by rw[<- YR];exact e) (by rw[<- DB];exact e2),hs.hh.lt⟩,hs.fr⟩,
   λB=>⟨λ⟨b,o,sz,e,e'⟩=>⟨b,o,sz,by rw[<- DB];exact e,e'⟩,λ⟨b,o,sz,e,e'⟩=>⟨b,o,sz,by rw[DB];exact e,e'⟩⟩⟩
  ·by_cases hb2:b=2
   ·subst hb2;rw[rl]at e;cases e
   ·rw[om b hb2]at e;exact e
  ·by_cases hb2:b=2
   ·subst hb2;rcases hs.hh.CY 2 (by rw[<- YR];exact e)with ⟨B,o,sz,e1,r⟩ | ⟨_,hp⟩
    ·rw[rm]at r;exact .inl ⟨B,o,sz,e1,by rw[rl];exact hB B o sz r⟩
    ·rw[rm]at hp;exact hp.elim
   ·rw[om b hb2]at e ⊢;exact hs.hh.CY b e
 have ON:Bg (λQ=>Wq.wp PG Q) 103 5 (SA w I a q (I:Nat) false) .ret (rf w I a q q):=by
  refine Bg.same Lu (BT (l:=[]) Bh hrun mixed KC ((avM w I a q (I:Nat)).trans ?_));have heq:A5 a.key q.op.key=true:=by rw[DV];simpa using h2
  have t:∀ {K:Ad->Option St},gC (λa=>Dj (Bd a 0)) K2 (λm=>[.agg (Aq m)]) [.agg (Aq q)] K=K q:=λ{K}=>og h7;rw[Ax (show((I:Nat):Int)<(w.d.asks.length:Int) by omega),Ae,B8 h1,BV,Cd h1,beq_true rfl,CV,Ae,heq,Ae,Ax h4,Ae,t,
   Bn (Ar _),Bn (show(a.calls.length+1)*392<=140737488355328 by omega),Bn (show a.calls.length+1<=140737488355328 by omega)]
  rfl
 have LL:=Bg.loop (by simp) (λj=>SA w I a q ((j:Nat):Int) false) Kf ON;have L:Bg (λQ=>YQ.wp PG Q) fn.ntmps 5 {fr:=Ej 0 [.ptr 0 0 0,.agg (Aq q)],hp:=Ff w I a false} .ret (rf w I a q q):=by rw[ae9,GI];exact L0.seq (Bg.Nt (L1.seq (Bg.tV LL)))
 have c1:=WZ Bh D6 hf hb (hp:=Ff w I a false) (.inr rfl) L (c0:=1) (by show 1<=5;omega) (r:=.Am []) (h:=hF1 w I a q) (by rw[Ew];exact avN w I a q q);have c2:At PG Ll [.ptr 0 0 0,.agg (Aq q)] (Ff w I a false) (.Am []) (hF2 w I a q):=by
  refine c1.1.close (b:=6) (kk:=8) (pre:=[.int .i64 a.num,.str a.key]) rfl rfl (λj _=>rfl) rfl (by omega) (by omega) rfl rfl λc h6 h8=>?_
  match c,h6,h8 with
  | 0,_,_=>rfl
  | 1,_,_=>rfl
  | 2,_,_=>rfl
  | 3,_,_=>rfl
  | 4,_,_=>rfl
  | 5,_,_=>rfl
  | 6,h,_=>exact absurd rfl h
  | 7,_,_=>rfl
  | 8,_,h=>exact absurd rfl h
  | c+9,_,_=>rfl
 have c3:=ta (c:=1) (hp:=Ff w I a false) (by show 1<=5;omega) (atd w I a q) (by show 5<=10;omega) c2;refine⟨?_,by show 5<=8;omega⟩;have hl:(OT w.d.asks I q).length=w.d.asks.length:=by simp[OT]
 have hd:MD (Xy w I q)=[.arr true 44 [HF w (.sn 4 5 w.d.waits.length) (.sn 3 6 w.d.asks.length) (.sn 31 7 w.out.length)],.dead,.dead,.dead,.dead,.seq true 4 w.d.waits.length (CM w.d.waits),.seq true 3 w.d.asks.length (BY (OT w.d.asks I q)),.seq true 31 w.out.length (BP w.out)]:=by rw[<- hl];rfl
 rw[hd];refine c3.1.KN (.refl _) (.cons (.refl _) (.cons (.refl _) (.cons (.refl _) (.cons (.refl _) (.cons (.refl _) (.cons (.refl _) (.cons (.seq true 3 _ _ _ _ (Ar _) λj hj=>?_) (.cons (.refl _) .nil))))))));rw[<- ha,an8 w.d.asks I q h1 j hj];exact .refl _
def VD(l:List Af):Env:=Cw [(Fh,0,[1,2,34,35])] [(Io,1)] [] l
def aqq:∀ k ∈ MB,k.Ok PG:=ak acM (ak (J7 Rm) (ak (J7 fa) (ak (UR tQ) (ak (UR uE) (ak acN AR)))))
def SD:Code:=Fi (Gs MB) Fh
def dc(k:Nat):Code:=sub SD (List.replicate k .R++[.L])
def D7:Code:=sub SD [.R,.R,.R,.R,.R,.R,.R,.L,.L]
def Fu:Code:=sub SD [.R,.R,.R,.R,.R,.R,.R,.L,.R,.L,.L]
def D8:Code:=sub SD [.R,.R,.R,.R,.R,.R,.R,.R]
def nQ:SD=.seq (dc 0) (.seq (dc 1) (.seq (dc 2) (.seq (dc 3) (.seq (dc 4) (.seq (dc 5) (.seq (dc 6) (.seq (.seq D7 (.block 0 (.loop Fu))) D8))))))):=by kernel_rfl
def axS(r:Av)(pn:Int)(o dn cl:AV)(b:Bool)(x y:AV)(nx:Int):List AV:=[.int .i64 r.AQ,.int .i64 r.self.node,.int .i64 r.self.BD,.int .i64 r.view.AQ,.int .i64 r.view.Az,.int .i64 r.view.gen,.int .i64 r.view.phase,CD r.view.chain,.int .i64 r.frozen,.Al .f64 r.tail.floor.re r.tail.floor.im,.Al .f64 r.tail.last.re r.tail.last.im,AY r.tail.log,B7 r.seen,.Al .f64 r.B5.re r.B5.im,E6 r.synced,.int .i64 pn,o,dn,cl,.bool b,x,y,.int .i64 nx]
def aik:Fr:=[(1,.ptr 0 0 0),(2,.ptr 1 0 0)]
def ke(r:Av)(pn:Int)(o dn cl:AV)(b:Bool)(x y:AV)(nx:Int)(l:Heap):St:={fr:=aik,hp:=.arr true 23 [axS r pn o dn cl b x y nx] :: .arr true 23 [MX]::l}
def SE(d:Md.AL)(x y:AV)(l:Heap):St:=ke d.rep d.AB.num (AY d.AB.out) (Bi d.AB.done) (Bi d.clean) d.busy x y d.next l
def Pd(x:Code)(K:AX->St->Option St)(s:St):Option St:=La (Gs MB) (Dl (Gs MB) 0) Fh 52 0 0 0 x K s
def axT(x:Code)(K:AX->St->Option St)(s:St):Option St:=La (VD [fY]) (Dl (VD [fY]) 0) Fh 52 0 0 0 x K s
def kS:AX->St->Option St:=Ba .normal (B9 [1,2])
def d_0(d:Md.AL):Pd (dc 0) kS {fr:=Ej 0 [.agg (Ct d)],hp:=[]}=some (SE d (HQ d.waits) (E7 d.asks) []):=by kernel_rfl
def d_1(d:Md.AL):Pd (dc 1) kS (SE d (HQ d.waits) (E7 d.asks) [])=gC (λa=>Fj (Bd a 0)) Qr (λr=>[.agg (AJ r)]) [.agg (AJ d.rep)] λy=>
 some (ke y d.AB.num (AY d.AB.out) (Bi d.AB.done) (Bi d.clean) d.busy (HQ d.waits) (E7 d.asks) d.next []):=by kernel_rfl
def d_2(d:Md.AL):Pd (dc 2) kS (SE d (HQ d.waits) (E7 d.asks) [])=gC D1 C9 (D2 11) [AY d.AB.out] λy=>some (ke d.rep d.AB.num (.tr 11 y.1 y.2) (Bi d.AB.done) (Bi d.clean) d.busy (HQ d.waits) (E7 d.asks) d.next []):=by kernel_rfl
def d_3(d:Md.AL):Pd (dc 3) kS (SE d (HQ d.waits) (E7 d.asks) [])=gC D1 C9 (D2 4) [Bi d.AB.done] λy=>some (ke d.rep d.AB.num (AY d.AB.out) (.tr 4 y.1 y.2) (Bi d.clean) d.busy (HQ d.waits) (E7 d.asks) d.next []):=by kernel_rfl
def d_4(d:Md.AL):Pd (dc 4) kS (SE d (HQ d.waits) (E7 d.asks) [])=gC D1 C9 (D2 4) [Bi d.clean] λy=>some (ke d.rep d.AB.num (AY d.AB.out) (Bi d.AB.done) (.tr 4 y.1 y.2) d.busy (HQ d.waits) (E7 d.asks) d.next []):=by kernel_rfl
def d_5(d:Md.AL):Pd (dc 5) kS (SE d (HQ d.waits) (E7 d.asks) [])=gC D1 C9 (D2 4) [HQ d.waits] λy=>some (SE d (.sn 4 2 y.1) (E7 d.asks) [.seq true 4 y.1 y.2]):=by kernel_rfl
def d_6(d:Md.AL):Pd (dc 6) kS (SE d (.sn 4 2 d.waits.length) (E7 d.asks) [.seq true 4 d.waits.length (CM d.waits)])=gC D1 C9 (D2 3) [E7 d.asks] λy=>
 some (SE d (.sn 4 2 d.waits.length) (.sn 3 3 y.1) [.seq true 4 d.waits.length (CM d.waits),.seq true 3 y.1 y.2]):=by kernel_rfl
def Ws:List Nat:=[1,2,34,35]
def d_7(d:Md.AL):Pd D7 (Ba .normal (norm 0 Ws)) (SE d (.sn 4 2 d.waits.length) (.sn 3 3 d.asks.length) [.seq true 4 d.waits.length (CM d.waits),.seq true 3 d.asks.length (BY d.asks)])=some (Un d 0):=by kernel_rfl
def d_a(d:Md.AL)(i:Int):Pd Fu (Ba .normal (norm 0 Ws)) (Un d i)=bif decide (i<(d.asks.length:Int))then rg i d.asks.length (bif i.toNat.blt d.asks.length then gC (λa=>Bm Dj (a.getD 0 .Ak)) GD (λl=>[BB l]) [BB (d.asks.getD i.toNat default).calls] λy=>
  rg i d.asks.length (bif i.toNat.blt d.asks.length&&true then some {fr:=[(1,.ptr 0 0 0),(2,.ptr 3 0 0),(34,.int .i64 d.asks.length),(35,.int .i64 (Ao (i+1)))],hp:=[.arr true 23 [Hc 1 d],Bf 4 Cz default d.waits,.seq true 3 d.asks.length (λi'=>bif Nat.beq i' i.toNat then [.int .i64 (d.asks.getD i.toNat default).num,.str (d.asks.getD i.toNat default).key,BB y]else D5 (d.asks.getD i' default)),.arr true 23 [MX]]}else none)else none)else none:=by kernel_rfl
def MY(d:Md.AL)(I:Nat)(a:Md.Ask)(F:Nat->List AV)(i:Int)(cur:Bool):St:={fr:=[(1,.ptr 0 0 0),(2,.ptr 4 0 0),(34,.int .i64 d.asks.length),(35,.int .i64 i)],hp:=[.arr true 23 [Hc 1 d],Bf 4 Cz default d.waits,.Cb true 3 d.asks.length F I (JN a 3 a.calls.length) [3] cur,.seq true 31 a.calls.length (BP a.calls),.arr true 23 [MX]]}
def d_b(d:Md.AL)(i:Int):axT Fu (Ba .normal (norm 0 Ws)) (Un d i)=bif decide (i<(d.asks.length:Int))then rg i d.asks.length (bif i.toNat.blt d.asks.length then gC (λa=>Bm Dj (a.getD 0 .Ak)) GD (λl=>[BB l]) [BB (d.asks.getD i.toNat default).calls] λy=>
  rg i d.asks.length (bif i.toNat.blt d.asks.length&&true then some {fr:=[(1,.ptr 0 0 0),(2,.ptr 4 0 0),(34,.int .i64 d.asks.length),(35,.int .i64 (Ao (i+1)))],hp:=[.arr true 23 [Hc 1 d],Bf 4 Cz default d.waits,.Cb true 3 d.asks.length (BY d.asks) i.toNat [.int .i64 (d.asks.getD i.toNat default).num,.str (d.asks.getD i.toNat default).key,.sn 31 3 y.length] [3] true,.seq true 31 y.length (BP y),.arr true 23 [MX]]}else none)else none)else none:=by kernel_rfl
def d_c(d:Md.AL)(I:Nat)(a:Md.Ask)(i:Int):Pd Fu (Ba .normal (norm 0 Ws)) (MY d I a (BY d.asks) i false)=bif decide (i<(d.asks.length:Int))then rg i d.asks.length (bif i.toNat.blt d.asks.length && !i.toNat.beq I then gC (λa=>Bm Dj (a.getD 0 .Ak)) GD (λl=>[BB l]) [BB (d.asks.getD i.toNat default).calls] λy=>
  rg i d.asks.length (bif i.toNat.blt d.asks.length && !i.toNat.beq I then some (MY d I a (λi'=>EX (λb=>indexOf b [0,1,2,3,4] 0) (bif Nat.beq i' i.toNat then [.int .i64 (d.asks.getD i.toNat default).num,.str (d.asks.getD i.toNat default).key,BB y]else D5 (d.asks.getD i' default))) (Ao (i+1)) false)else none)else none)else none:=by kernel_rfl
def d_x(d:Md.AL)(I:Nat)(a:Md.Ask)(i:Int):Pd Fu (Ba (.exit 0) (B9 [1,2])) (MY d I a (BY d.asks) i false)=bif decide (i<(d.asks.length:Int))then rg i d.asks.length (bif i.toNat.blt d.asks.length && !i.toNat.beq I then gC (λa=>Bm Dj (a.getD 0 .Ak)) GD (λl=>[BB l]) [BB (d.asks.getD i.toNat default).calls] λ_=>
  rg i d.asks.length (bif i.toNat.blt d.asks.length && !i.toNat.beq I then none else none)else none)else some {fr:=[(1,.ptr 0 0 0),(2,.ptr 4 0 0)],hp:=(MY d I a (BY d.asks) i false).hp}:=by kernel_rfl
def zb(d:Md.AL)(I:Nat)(a:Md.Ask):Heap:=[Bf 4 Cz default d.waits,.Cb true 3 d.asks.length (BY d.asks) I (JN a 2 a.calls.length) [2] false,.seq true 31 a.calls.length (BP a.calls)]
def rn(d:Md.AL)(I:Nat)(a:Md.Ask):St:={fr:=[(2,.ptr 4 0 0)],hp:=[.arr true 23 [Hc 1 d],Bf 4 Cz default d.waits,.Cb true 3 d.asks.length (BY d.asks) I (JN a 3 a.calls.length) [3] false,.seq true 31 a.calls.length (BP a.calls),.arr true 23 [Hc 1 d]]}
def d_8(d:Md.AL)(I:Nat)(a:Md.Ask)(i:Int):Pd D8 (Ba .ret (B9 [2])) {fr:=[(1,.ptr 0 0 0),(2,.ptr 4 0 0)],hp:=(MY d I a (BY d.asks) i false).hp}=some (rn d I a):=by kernel_rfl
def avO(d:Md.AL)(I:Nat)(a:Md.Ask):Ip (GA PG) (rn d I a) [.cell 2 44] (λvs=>Cm 0 0 (Ge vs) (rn d I a).hp)=some (.agg (Hc 0 d),zb d I a):=by kernel_rfl
def acT{fr:Fr}{h1 h2:Heap}{b:Nat}{m:Bool}{sz n i0:Nat}{f:Nat->List AV}{c0:List AV}{ks:List Nat}{c1 c2:Bool}(hl:h1.length=h2.length)(e1:Ab h1 b=.Cb m sz n f i0 c0 ks c1)(e2:Ab h2 b=.Cb m sz n f i0 c0 ks c2)
  (ho:∀ c,c ≠ b->Ab h2 c=Ab h1 c):bE {fr:=fr,hp:=h1} {fr:=fr,hp:=h2}:=by
 refine⟨hl,λw1 I1 φ a1 hs=>?_⟩;have DB:∀ c,AZ (Ab h2 c)=AZ (Ab h1 c):=by
  intro c;by_cases h:c=b
  ·subst h;rw[e1,e2];rfl
  ·rw[ho c h]
 have YR:∀ c,live (Ab h2 c)=live (Ab h1 c):=by
  intro c;by_cases h:c=b
  ·subst h;rw[e1,e2];rfl
  ·rw[ho c h]
 refine⟨⟨⟨λc e=>hs.hh.none c ?_,λc e=>?_,λc b' B o sz o' sz' e e'=>hs.hh.inj c b' B o sz o' sz' (by rw[<- DB];exact e) (by rw[<- DB];exact e'),λc B o sz e=>hs.hh.CP c B o sz (by rw[<- DB];exact e),λc B o sz e e2=>hs.hh.Ea c B o sz (by rw[<- YR];exact e) (by rw[<- DB];exact e2),hs.hh.lt⟩,hs.fr⟩,
  λB=>⟨λ⟨c,o,sz,e,e'⟩=>⟨c,o,sz,by rw[<- DB];exact e,e'⟩,λ⟨c,o,sz,e,e'⟩=>⟨c,o,sz,by rw[DB];exact e,e'⟩⟩⟩
 ·by_cases h:c=b
  ·subst h;have e:Ab h2 c=BS.none:=e;rw[e2]at e;cases e
  ·have e:Ab h2 c=BS.none:=e;rw[ho c h]at e;exact e
 ·by_cases h:c=b
  ·subst h;rcases hs.hh.CY c (by rw[<- YR];exact e)with ⟨B,o,sz,e3,r⟩ | ⟨_,hp⟩
   ·have r:RB w1 I1 φ B o sz (Ab h1 c):=r;rw[e1]at r;refine .inl ⟨B,o,sz,e3,?_⟩;show RB w1 I1 φ B o sz (Ab h2 c);rw[e2];exact r
   ·have hp:Gv (Ab h1 c):=hp;rw[e1]at hp;exact hp.elim
  ·have e:live (Ab h2 c)=true:=e;have k:=hs.hh.CY c (by rw[<- YR];exact e);show(∃ B o sz,φ c=some (B,o,sz)/\RB w1 I1 φ B o sz (Ab h2 c))\/(φ c=none/\Gv (Ab h2 c))
   rw[ho c h];exact k
def alZ(d:Md.AL)(I:Nat)(h:K3 d)(hI:I<d.asks.length):At PG Fh [.agg (Ct d)] [] (.agg (Hc 0 d)) (zb d I (d.asks.getD I default)):=by
 obtain⟨h1,h2,h3,h4,h5,h6,h7⟩:=h;obtain⟨a,ha⟩:∃ a,d.asks.getD I default=a:=⟨_,rfl⟩
 have hc:∀ j,j<d.asks.length->GD (d.asks.getD j default).calls:=λj hj=>h7 _ (De (z:=(default:Md.Ask)) hj);rw[ha];have Bh:DH PG (Gs MB):=Gd aqq;have D6:It PG (Gs MB):=Gc;have hrun:EN PG (Dl (R:=St) (Gs MB) 0):=Iw Bh D6 mixed 0;have gS:DH PG (VD [fY]):=Gd (ak alX AR);have xQ:EN PG (Dl (R:=St) (VD [fY]) 0):=Iw gS Gc mixed 0;obtain⟨fn,hf,hb,GI,Ew⟩:∃ fn,(Gs MB).code Fh=some fn/\fn.body=some SD/\fn.ntmps=52/\fn.results.toList=[.cell 2 44]:=⟨_,rfl,by kernel_rfl,by kernel_rfl,by kernel_rfl⟩
 obtain⟨_,_,_,A8⟩:=D6 _ fn hf;have A8:=A8 _ hb;rw[nQ]at A8;obtain⟨j9,A8⟩:=A4 (show(AD (dc 0)&&AD _)=true from A8);obtain⟨ka,A8⟩:=A4 (show(AD (dc 1)&&AD _)=true from A8);obtain⟨rj,A8⟩:=A4 (show(AD (dc 2)&&AD _)=true from A8);obtain⟨ok3,A8⟩:=A4 (show(AD (dc 3)&&AD _)=true from A8);obtain⟨ok4,A8⟩:=A4 (show(AD (dc 4)&&AD _)=true from A8);obtain⟨ok5,A8⟩:=A4 (show(AD (dc 5)&&AD _)=true from A8);obtain⟨ok6,A8⟩:=A4 (show(AD (dc 6)&&AD _)=true from A8);obtain⟨A8,YS⟩:=A4 (show(AD (.seq D7 (.block 0 (.loop Fu)))&&AD D8)=true from A8);obtain⟨ok7,KC⟩:=A4 (show(AD D7&&AD Fu)=true from A8);have L0:=BT (l:=[1,2]) Bh hrun mixed j9 (d_0 d);have q1:∀ {K:Av->Option St},gC (λa=>Fj (Bd a 0)) Qr (λr=>[.agg (AJ r)]) [.agg (AJ d.rep)] K=K d.rep:=λ{K}=>agD h1;have L1:=BT (l:=[1,2]) Bh hrun mixed ka ((d_1 d).trans q1);have L2:=BT (l:=[1,2]) Bh hrun mixed rj ((d_2 d).trans (HE h2));have L3:=BT (l:=[1,2]) Bh hrun mixed ok3 ((d_3 d).trans (HE h3));have L4:=BT (l:=[1,2]) Bh hrun mixed ok4 ((d_4 d).trans (HE h4));have L5:=BT (l:=[1,2]) Bh hrun mixed ok5 ((d_5 d).trans (HE h5));have L6:=BT (l:=[1,2]) Bh hrun mixed ok6 ((d_6 d).trans (HE h6));have L7:=J5 Bh hrun mixed ok7 (d_7 d);have Dc:∀ j,j<d.asks.length->Ao ((j:Int)+1)=((j+1:Nat):Int):=λj hj=>Cs (by omega);have qm:∀ j,j<d.asks.length -> ∀ {K:List Ad->Option St},gC (λa=>Bm Dj (a.getD 0 .Ak)) GD (λl=>[BB l]) [BB (d.asks.getD j default).calls] K=K (d.asks.getD j default).calls:=λj hj {K}=>agG (hc j hj);have sA:∀ j,j<I->Bg (λQ=>Fu.wp PG Q) 52 0 (Un d (j:Nat)) .normal (Un d ((j+1:Nat):Int)):=by
  intro j hj;refine J5 Bh hrun mixed KC ((d_a d (j:Nat)).trans ?_);have hjl:j<d.asks.length:=by omega
  have hs:=E5 D5 default d.asks j;rw[Ax (show((j:Nat):Int)<(d.asks.length:Int) by omega),Ae,B8 hjl,BV,Cd hjl,Ae,qm j hjl,B8 hjl,CV,Ae,Dc j hjl];show some ({fr:=[(1,.ptr 0 0 0),(2,.ptr 3 0 0),(34,.int .i64 d.asks.length),(35,.int .i64 ((j+1:Nat):Int))],hp:=[.arr true 23 [Hc 1 d],Bf 4 Cz default d.waits,.seq true 3 d.asks.length (λi'=>bif Nat.beq i' j then D5 (d.asks.getD j default)else D5 (d.asks.getD i' default)),.arr true 23 [MX]]}:St)=_;rw[hs];rfl
 have sB:Bg (λQ=>Fu.wp PG Q) 52 0 (Un d (I:Nat)) .normal (MY d I a (BY d.asks) ((I+1:Nat):Int) true):=by refine J5 gS xQ mixed KC ((d_b d (I:Nat)).trans ?_);rw[Ax (show((I:Nat):Int)<(d.asks.length:Int) by omega),Ae,B8 hI,BV,Cd hI,Ae,qm I hI,B8 hI,CV,Ae,Dc I hI,ha];rfl
 have sF:bE (MY d I a (BY d.asks) ((I+1:Nat):Int) true) (MY d I a (BY d.asks) ((I+1:Nat):Int) false):=
  acT (b:=2) rfl rfl rfl λc hc=>by
   match c,hc with
   | 0,_=>rfl
   | 1,_=>rfl
   | 2,h=>exact absurd rfl h
   | c+3,_=>rfl
 have sC:∀ j,I<j->j<d.asks.length->Bg (λQ=>Fu.wp PG Q) 52 0 (MY d I a (BY d.asks) (j:Nat) false) .normal (MY d I a (BY d.asks) ((j+1:Nat):Int) false):=by
  intro j hj hjl;refine J5 Bh hrun mixed KC ((d_c d I a (j:Nat)).trans ?_);have hF:(λi'=>EX (λb=>indexOf b [0,1,2,3,4] 0) (bif Nat.beq i' j then [.int .i64 (d.asks.getD j default).num,.str (d.asks.getD j default).key,BB (d.asks.getD j default).calls]else D5 (d.asks.getD i' default)))=BY d.asks:=by
   funext k;by_cases hk:k=j
   ·subst hk;rw[beq_true rfl];rfl
   ·rw[beq_false hk];rfl
  rw[Ax (show((j:Nat):Int)<(d.asks.length:Int) by omega),Ae,B8 hjl,BV,Cd hjl,beq_false (show j ≠ I by omega),EP,CV,Ae,qm j hjl,B8 hjl,Dc j hjl,Ae,hF]
 have sX:Bg (λQ=>Fu.wp PG Q) 52 0 (MY d I a (BY d.asks) (d.asks.length:Nat) false) (.exit 0) {fr:=[(1,.ptr 0 0 0),(2,.ptr 4 0 0)],hp:=(MY d I a (BY d.asks) (d.asks.length:Nat) false).hp}:=by refine BT (l:=[1,2]) Bh hrun mixed KC ((d_x d I a (d.asks.length:Nat)).trans ?_);rw[AN (by omega),Aj]
 have LL:=Bg.loop (e0:=.exit 0) (by simp) (n:=d.asks.length) (λj=>if j<=I then Un d ((j:Nat):Int)else MY d I a (BY d.asks) ((j:Nat):Int) false) (T:={fr:=[(1,.ptr 0 0 0),(2,.ptr 4 0 0)],hp:=(MY d I a (BY d.asks) (d.asks.length:Nat) false).hp}) (x:=Fu) (P:=PG) (nt:=52) (base:=0) (λj hj=>by
   by_cases h1:j<I
   ·rw[Ay (by omega),Ay (by omega)];exact sA j h1
   ·by_cases h2:j=I
    ·subst h2;rw[Ay (Ar _),AE (by omega)];exact sB.adX sF
    ·rw[AE (by omega),AE (by omega)];exact sC j (by omega) hj) (by rw[AE (by omega)];exact sX)
 rw[Ay (Bu _)]at LL;have L8:=BT (l:=[2]) Bh hrun mixed YS (d_8 d I a (d.asks.length:Nat));have L:Bg (λQ=>SD.wp PG Q) fn.ntmps 0 {fr:=Ej 0 [.agg (Ct d)],hp:=[]} .ret (rn d I a):=by rw[nQ,GI];exact L0.seq (L1.seq (L2.seq (L3.seq (L4.seq (L5.seq (L6.seq ((L7.seq LL.block).seq L8)))))))
 exact(WZ Bh D6 hf hb (hp:=[]) (.inr rfl) L (c0:=0) (Ar _) (by rw[Ew];exact avO d I a)).1
end Go.Hd
namespace Go.AM
def acU{w:World}{B:Nat}(h:0<Bv w B):B<w.heap.size:=by
 unfold Bv at h;split at h
 ·rename_i hc;exact CQ hc
 ·exact absurd h (DP 0)
def Hl.le{w:World}{m:Nat}(h:Hl w m):m<=w.heap.size:=by obtain⟨B,h1,h2⟩:=h;have:=acU h2;omega
def Hl.ext{M:Nat->Prop}{w w':World}{m:Nat}(h:Hl w m)(e:Ext M w w'):Hl w' m:=by obtain⟨B,h1,h2⟩:=h;exact⟨B,h1,He h2 (e.Bv B)⟩
def Br.Pe{k m:Nat}{v:AV}:Br (.mk k m v) v:=by
 intro w I u h;cases h with
 | mk _ _ _ a n c h hk=>exact h
def Br.zd{m:Nat}{v:AV}:Br (.mk 1 m v) (.mk 0 m v):=by
 intro w I u h;cases h with
 | mk _ _ _ a n c h hk=>exact .mk 0 m v a n c h hk.1
def RV.Pe{w:World}{I:Nat->Prop}{φ:Ac}{m sz n:Nat}{f:Nat->List AV}{u:Value}(h:RV w I Ac.no (.tr sz n f) u)(hw:Hl w m):RV w I φ (.mk 0 m (.tr sz n f)) u:=by
 cases h with
 | tr _ _ _ B o cap uf hI hn C6 hlen hc h1 hr=>exact .mk 0 m _ _ _ _ (.tr sz n f B o cap uf hI hn C6 hlen hc h1 hr) hw
 | Cq _ _ a=>exact .mk 0 m _ _ _ _ (.Cq sz f a) hw
def aqr{w:World}{I:Nat->Prop}{φ:Ac}{m:Nat}{v:AV}{u:Value}(h:RV w I φ (.mk 0 m v) u):Hl w m:=by
 cases h with
 | mk _ _ _ a n c h hk=>exact hk
def fZ(m:Nat)(args:List AV):Prop:=∃ (k:Nat) (v:AV),args[k]? = some (.mk 0 m v)
def fZ.VY{m:Nat}{args:List AV}(h:fZ m args){w:World}{I:Nat->Prop}{φ:Ac}{ra:Array Value}(hx:F9 w I φ args ra):Hl w m:=by
 obtain⟨k,v,e⟩:=h;have hk:k<ra.size:=by rw[<- hx.1];exact(GO.1 e).1
 exact aqr (hx.2 k _ _ e (Cy hk))
def vC(m:Nat)(args:List AV):Prop:=∃ (k:Nat) (cs:List AV),args[k]? = some (.agg cs)/\fZ m cs
def vC.VY{m:Nat}{args:List AV}(h:vC m args){w:World}{I:Nat->Prop}{φ:Ac}{ra:Array Value}(hx:F9 w I φ args ra):Hl w m:=by
 obtain⟨k,cs,e,h⟩:=h;have hk:k<ra.size:=by rw[<- hx.1];exact(GO.1 e).1
 have hv:=hx.2 k _ _ e (Cy hk);generalize ra[k]=z at hv;cases hv with
 | agg _ vs hl h1 hr=>exact h.VY (ra:=vs) ⟨hl,hr⟩
def At.QS{P:Program}{f m sz n:Nat}{args HU:List AV}{fr:Nat->List AV}(hc:At P f HU [] (.sn sz 0 n) [.seq true sz n fr])(hs:CJ args HU)(hw:fZ m args) :
  At P f args [] (.mk 2 m (.tr sz n fr)) []:=by
 intro w I φ ra hh hx;have:=UX hh;subst this;have hm:=(hw.VY hx).le;refine((hc.args hs) w I Ac.no ra hh hx).mono λu w' ⟨φ',I',h1,h2,h3⟩=>?_;cases h1 with
 | DT _ _ a=>exact⟨Ac.no,I',.mk 2 m _ a 0 0 (.Cq sz fr a) λB q p e hn=>absurd hn (DP 0),RH.empty w' I' h2.lt,λb p hb=>absurd hb (C5 b),h3.F8,h3.F3,λX hX=>(Fw hX).elim,h3.ext,λX hX hy=>h3.ok X (hX.imp id λx=>(Fw x).elim) hy⟩
 | sn _ _ _ B o cap h hl hz=>
  have hB:Ca φ' (Ab [.seq true sz n fr]) B:=⟨0,o,sz,rfl,h⟩
  have new:w.heap.size<=B:=(h3.mt B hB).resolve_left λx=>Fw x;have A8:F7 w' B:=h3.ok B (.inr hB) λx=>by
   rcases x with x | x
   ·have:=hh.lt B x;omega
   ·exact(Fw x).elim
  obtain⟨_,_,a2,a3⟩:=h2.at h rfl;have hlt:B<w'.heap.size:=by obtain⟨c,e,fz,hc,_⟩:=(h2.at h rfl:RB w' I' φ' B o sz (.seq true sz n fr)).2.1;exact CQ hc
  have tree:RV w' (λX=>I' X\/X=B) Ac.no (.tr sz n fr) (.slice (some ⟨B,o,none⟩) n cap):=by
   refine .tr sz n fr B o cap (λi k=>(w'.cell? ⟨B,o+i*sz+k,none⟩).getD Go.undef) (λ_=>.inr rfl) hl (λ_=>hz) a2 (λi k c hi e=>?_) (λi k c hi e=>?_) (λi k c hi e=>?_)
   ·obtain⟨u,g1,g2,g3⟩:=a3 i k c hi e;rw[g1];rfl
   ·obtain⟨u,g1,g2,g3⟩:=a3 i k c hi e;rw[g1];exact g2
   ·obtain⟨u,g1,g2,g3⟩:=a3 i k c hi e;rw[g1];exact g3.mono (λX hX=>⟨.inl hX,rfl⟩) (λ_=>Ar _) (Ac.le_refl _)
  refine⟨Ac.no,λX=>I' X\/X=B,.mk 2 m _ _ _ _ tree ?_,RH.empty w' _ λX hX=>?_,λb p hb=>absurd hb (C5 b),λX hX=>.inl (h3.F8 X hX),λX hX=>?_,λX hX=>(Fw hX).elim,h3.ext,λX hX hy=>?_⟩
  ·intro B' q p e hn;cases e;exact⟨.inr rfl,by omega,A8⟩
  ·rcases hX with x | rfl
   ·exact h2.lt X x
   ·exact hlt
  ·rcases hX with x | rfl
   ·exact h3.F3 X x
   ·exact .inr (.inr new)
  ·rcases hX with (x | rfl) | x
   ·exact h3.ok X (.inl x) hy
   ·exact A8
   ·exact(Fw x).elim
def At.rows{P:Program}{f m sz n:Nat}{args HU:List AV}{fr g:Nat->List AV}(hc:At P f HU [] (.sn sz 0 n) [.seq true sz n fr])(hs:CJ args HU)(hw:fZ m args)
  (hl:∀ i,i<n->(g i).length=(fr i).length) (hg:∀ (w:World) (I:Nat->Prop) (i k:Nat) c',Hl w m->i<n->(g i)[k]? = some c' -> ∃ c,(fr i)[k]? = some c /\ ∀ u,RV w I Ac.no c u->RV w I Ac.no c' u) :
  At P f args [] (.sn sz 0 n) [.seq true sz n g]:=by
 intro w I φ ra hh hx;have:=UX hh;subst this;have hm:=hw.VY hx;refine((hc.args hs) w I Ac.no ra hh hx).mono λu w' ⟨φ',I',h1,h2,h3⟩=>?_;have BW:Hl w' m:=hm.ext h3.ext;obtain⟨r1,r2⟩:=h2.aev (b:=0) (x:=.seq true sz n g) rfl rfl rfl id λB o s r=>by obtain⟨a0,a1,a2,a3⟩:=r;refine⟨a0,a1,λi hi=>(hl i hi).trans (a2 i hi),λi k c' hi e=>?_⟩;obtain⟨c,e1,e2⟩:=hg w' I' i k c' BW hi e;obtain⟨u,g1,g2,g3⟩:=a3 i k c hi e1;exact⟨u,g1,g2,e2 u g3⟩
 have e:BU (Ab [.seq true sz n fr]) 0 (.seq true sz n g)=Ab [.seq true sz n g]:=by
  funext b
  match b with
  | 0=>rfl
  | _+1=>rfl
 rw[e]at r1 r2;exact⟨φ',I',h1,r1,h3.trans (r2 _)⟩
end Go.AM
namespace Go.Hd
open Go.Wk
def ail:AV->AV
 | .mk _ _ v=>v
 | v=>v
def QT(a:List AV):Nat × (Nat->List AV):=match ail (a.getD 0 .Ak)with
 | .tr _ n f=>(n,f)
 | _=>(0,λ_=>[])
def QU(sz m:Nat)(p:Nat × (Nat->List AV)):List AV:=[.mk 0 m (.tr sz p.1 p.2)]
def XS(F sz m:Nat):Af:=.spec F QT C9 (QU sz m) (λp=>.mk 2 m (.tr sz p.1 p.2))
def afa(F sz m:Nat):Af:=.Ly F QT C9 (QU sz m) (λp=>(.sn sz 0 p.1,[.seq true sz p.1 p.2]))
def Z6{F sz m:Nat}(h:∀ {n:Nat} (f:Nat->List AV),n<=100000->At PG F [.tr sz n f] [] (.sn sz 0 n) [.seq true sz n f]):(XS F sz m).Ok PG:=Af.BJ λp hp=>(h p.2 hp).QS (.cons .Pe .nil) ⟨0,_,rfl⟩
def al0{F sz m:Nat}(h:∀ {n:Nat} (f:Nat->List AV),n<=100000->At PG F [.tr sz n f] [] (.sn sz 0 n) [.seq true sz n f]):(afa F sz m).Ok PG:=Af.Mn λp hp=>(h p.2 hp).args (.cons .Pe .nil)
def Wt{R:Type}{X:Type}{sz m:Nat}{e:X->List AV}{z:X}{l:List X}{k:Nat × (Nat->List AV)->Option R}(h:l.length<=100000):gC QT C9 (QU sz m) [.mk 0 m (DQ sz e z l)] k=k (l.length,λi=>e (l.getD i z)):=
 Bj (l.length,λi=>e (l.getD i z)) rfl h (.refl _)
def LZ(k m:Nat)(r:Av):List AV:=[.int .i64 r.AQ,.int .i64 r.self.node,.int .i64 r.self.BD,.int .i64 r.view.AQ,.int .i64 r.view.Az,.int .i64 r.view.gen,.int .i64 r.view.phase,.mk k m (CD r.view.chain),.int .i64 r.frozen,.Al .f64 r.tail.floor.re r.tail.floor.im,.Al .f64 r.tail.last.re r.tail.last.im,.mk k m (AY r.tail.log),.mk k m (B7 r.seen),.Al .f64 r.B5.re r.B5.im,.mk k m (E6 r.synced)]
def avP(m:Nat):List Af:=[XS SQ 2 m,XS Il 11 m,XS SR 7 m,XS WR 1 m]
def ate(m:Nat)(r:Av):A6 (IJ (avP m)) 9 UN [AV.agg (LZ 0 m r)] =
 gC QT C9 (QU 2 m) [.mk 0 m (CD r.view.chain)] λy2=>
 gC QT C9 (QU 11 m) [.mk 0 m (AY r.tail.log)] λy3=>
 gC QT C9 (QU 7 m) [.mk 0 m (B7 r.seen)] λy4=>
 gC QT C9 (QU 1 m) [.mk 0 m (E6 r.synced)] λy5=>
 some (AV.agg [AV.int .i64 r.AQ,AV.int .i64 r.self.node,AV.int .i64 r.self.BD,AV.int .i64 r.view.AQ,AV.int .i64 r.view.Az,AV.int .i64 r.view.gen,AV.int .i64 r.view.phase,.mk 2 m (AV.tr 2 y2.fst y2.snd),AV.int .i64 r.frozen,AV.Al .f64 r.tail.floor.re r.tail.floor.im,AV.Al .f64 r.tail.last.re r.tail.last.im,.mk 2 m (AV.tr 11 y3.fst y3.snd),.mk 2 m (AV.tr 7 y4.fst y4.snd),AV.Al .f64 r.B5.re r.B5.im,.mk 2 m (AV.tr 1 y5.fst y5.snd)]):=by kernel_rfl
def an9(m:Nat)(r:Av)(h:Qr r):At PG UN [.agg (LZ 0 m r)] [] (.agg (LZ 2 m r)) []:=by obtain⟨h1,h2,h3,h4⟩:=h;refine gN (ak (Z6 lP) (ak (Z6 Rm) (ak (Z6 tR) (ak (Z6 abE) AR)))) ((ate m r).trans ?_);exact(Wt h1).trans ((Wt h2).trans ((Wt h3).trans ((Wt h4).trans rfl)))
def atf(m:Nat)(r:Av):Af:=.one UN [.agg (LZ 0 m r)] (.agg (LZ 2 m r))
def Wu(a:List AV):List Ad:=Bm Dj (ail (a.getD 0 .Ak))
def aim(m:Nat):Af:=.spec Io Wu GD (λl=>[.mk 0 m (BB l)]) λl=>.mk 2 m (BB l)
def gU(m:Nat):Af:=.Ly Io Wu GD (λl=>[.mk 0 m (BB l)]) λl=>(.sn 31 0 l.length,[.seq true 31 l.length (BP l)])
def aqs(m:Nat):(aim m).Ok PG:=Af.BJ λl hl=>(tW l hl).QS (.cons .Pe .nil) ⟨0,_,rfl⟩
def aoa(m:Nat):(gU m).Ok PG:=Af.Mn λl hl=>(tW l hl).args (.cons .Pe .nil)
def rq{R:Type}{m:Nat}{l:List Ad}{k:List Ad->Option R}(h:GD l):gC Wu GD (λl=>[.mk 0 m (BB l)]) [.mk 0 m (BB l)] k=k l:=Bj l (fv l) h (.refl _)
def YU(m k:Nat)(a:Md.Ask):List AV:=[.int .i64 a.num,.str a.key,.mk k m (BB a.calls)]
def Dt(m:Nat)(l:List Md.Ask)(g:Nat->Nat)(i:Nat):List AV:=YU m (g i) (l.getD i default)
def agT(m:Nat)(l:List Md.Ask):Af:=.Ly ly Mg Mh (λ_=>[.mk 0 m (E7 l)]) (λ_=>(.sn 3 0 l.length,[.seq true 3 l.length (Dt m l λ_=>0)]))
def aob{m:Nat}{l:List Md.Ask}(h:l.length<=100000):(agT m l).Ok PG:=Af.Mn λ_ _=>(uE (λi=>D5 (l.getD i default)) h).rows (m:=m) (.cons .Pe .nil) ⟨0,_,rfl⟩ (λi _=>rfl) λw I i k c' hw hi e=>by
 match k,e with
 | 0,e=>cases e;exact⟨_,rfl,λu h=>h⟩
 | 1,e=>cases e;exact⟨_,rfl,λu h=>h⟩
 | 2,e=>cases e;exact⟨_,rfl,λu h=>RV.Pe h hw⟩
 | k+3,e=>cases e
def zf(d:Md.AL)(m r:Nat)(o dn cl x y:AV):List AV:=LZ r m d.rep++[.int .i64 d.AB.num,o,dn,cl,.bool d.busy,x,y,.int .i64 d.next]
def Jd(m:Nat)(d:Md.AL):List AV:=zf d m 0 (.mk 0 m (AY d.AB.out)) (.mk 0 m (Bi d.AB.done)) (.mk 0 m (Bi d.clean)) (.mk 0 m (HQ d.waits)) (.mk 0 m (E7 d.asks))
def L9(m:Nat)(d:Md.AL)(x y:AV):List AV:=zf d m 2 (.mk 2 m (AY d.AB.out)) (.mk 2 m (Bi d.AB.done)) (.mk 2 m (Bi d.clean)) x y
def Mt(m:Nat)(d:Md.AL):List Af:=[atf m d.rep,XS Il 11 m,XS Nl 4 m,afa lu 4 m,agT m d.asks,aim m]
def uM{m:Nat}{d:Md.AL}(h1:Qr d.rep)(h2:d.asks.length<=100000):∀ k ∈ Mt m d,k.Ok PG:=ak (Af.Xs (an9 m d.rep h1)) (ak (Z6 Rm) (ak (Z6 fa) (ak (al0 tQ) (ak (aob h2) (ak (aqs m) AR)))))
def MZ(m:Nat)(d:Md.AL)(x:Code)(K:AX->St->Option St)(s:St):Option St:=La (Gs (Mt m d)) (Dl (Gs (Mt m d)) 0) Fh 52 0 0 0 x K s
def axU(m:Nat)(x:Code)(K:AX->St->Option St)(s:St):Option St:=La (VD [gU m]) (Dl (VD [gU m]) 0) Fh 52 0 0 0 x K s
def M0(d:Md.AL)(m r:Nat)(o dn cl x y:AV)(l:Heap):St:={fr:=aik,hp:=.arr true 23 [zf d m r o dn cl x y] :: .arr true 23 [MX]::l}
section
variable (d:Md.AL) (m:Nat)
abbrev oK(k:Nat):AV:=.mk k m (AY d.AB.out)
abbrev M1(k:Nat):AV:=.mk k m (Bi d.AB.done)
abbrev M3(k:Nat):AV:=.mk k m (Bi d.clean)
abbrev wK:AV:=.mk 0 m (HQ d.waits)
abbrev aK:AV:=.mk 0 m (E7 d.asks)
def k_0:MZ m d (dc 0) kS {fr:=Ej 0 [.agg (Jd m d)],hp:=[]}=some (M0 d m 0 (oK d m 0) (M1 d m 0) (M3 d m 0) (wK d m) (aK d m) []):=by kernel_rfl
def k_1:MZ m d (dc 1) kS (M0 d m 0 (oK d m 0) (M1 d m 0) (M3 d m 0) (wK d m) (aK d m) [])=gC Mg Mh (λ_=>[.agg (LZ 0 m d.rep)]) [.agg (LZ 0 m d.rep)] λ_=>some (M0 d m 2 (oK d m 0) (M1 d m 0) (M3 d m 0) (wK d m) (aK d m) []):=by kernel_rfl
def k_2:MZ m d (dc 2) kS (M0 d m 2 (oK d m 0) (M1 d m 0) (M3 d m 0) (wK d m) (aK d m) [])=gC QT C9 (QU 11 m) [oK d m 0] λy=>some (M0 d m 2 (.mk 2 m (.tr 11 y.1 y.2)) (M1 d m 0) (M3 d m 0) (wK d m) (aK d m) []):=by kernel_rfl
def k_3:MZ m d (dc 3) kS (M0 d m 2 (oK d m 2) (M1 d m 0) (M3 d m 0) (wK d m) (aK d m) [])=gC QT C9 (QU 4 m) [M1 d m 0] λy=>some (M0 d m 2 (oK d m 2) (.mk 2 m (.tr 4 y.1 y.2)) (M3 d m 0) (wK d m) (aK d m) []):=by kernel_rfl
def k_4:MZ m d (dc 4) kS (M0 d m 2 (oK d m 2) (M1 d m 2) (M3 d m 0) (wK d m) (aK d m) [])=gC QT C9 (QU 4 m) [M3 d m 0] λy=>some (M0 d m 2 (oK d m 2) (M1 d m 2) (.mk 2 m (.tr 4 y.1 y.2)) (wK d m) (aK d m) []):=by kernel_rfl
def k_5:MZ m d (dc 5) kS (M0 d m 2 (oK d m 2) (M1 d m 2) (M3 d m 2) (wK d m) (aK d m) [])=gC QT C9 (QU 4 m) [wK d m] λy=>some (M0 d m 2 (oK d m 2) (M1 d m 2) (M3 d m 2) (.sn 4 2 y.1) (aK d m) [.seq true 4 y.1 y.2]):=by kernel_rfl
def k_6:MZ m d (dc 6) kS (M0 d m 2 (oK d m 2) (M1 d m 2) (M3 d m 2) (.sn 4 2 d.waits.length) (aK d m) [.seq true 4 d.waits.length (CM d.waits)])=gC Mg Mh (λ_=>[.mk 0 m (E7 d.asks)]) [aK d m] λ_=>
 some (M0 d m 2 (oK d m 2) (M1 d m 2) (M3 d m 2) (.sn 4 2 d.waits.length) (.sn 3 3 d.asks.length) [.seq true 4 d.waits.length (CM d.waits),.seq true 3 d.asks.length (Dt m d.asks λ_=>0)]):=by kernel_rfl
def Jp(g:Nat->Nat)(i:Int):St:={fr:=[(1,.ptr 0 0 0),(2,.ptr 3 0 0),(34,.int .i64 d.asks.length),(35,.int .i64 i)],hp:=[.arr true 23 [L9 m d (.sn 4 1 d.waits.length) (.sn 3 2 d.asks.length)],Bf 4 Cz default d.waits,.seq true 3 d.asks.length (Dt m d.asks g),.arr true 23 [MX]]}
def k_7:MZ m d D7 (Ba .normal (norm 0 Ws)) (M0 d m 2 (oK d m 2) (M1 d m 2) (M3 d m 2) (.sn 4 2 d.waits.length) (.sn 3 3 d.asks.length) [.seq true 4 d.waits.length (CM d.waits),.seq true 3 d.asks.length (Dt m d.asks λ_=>0)])=some (Jp d m (λ_=>0) 0):=by kernel_rfl
def k_a(g:Nat->Nat)(i:Int):MZ m d Fu (Ba .normal (norm 0 Ws)) (Jp d m g i)=bif decide (i<(d.asks.length:Int))then rg i d.asks.length (bif i.toNat.blt d.asks.length then gC Wu GD (λl=>[.mk 0 m (BB l)]) [.mk (g i.toNat) m (BB (d.asks.getD i.toNat default).calls)] λy=>
  rg i d.asks.length (bif i.toNat.blt d.asks.length&&true then some {fr:=[(1,.ptr 0 0 0),(2,.ptr 3 0 0),(34,.int .i64 d.asks.length),(35,.int .i64 (Ao (i+1)))],hp:=[.arr true 23 [L9 m d (.sn 4 1 d.waits.length) (.sn 3 2 d.asks.length)],Bf 4 Cz default d.waits,.seq true 3 d.asks.length (λi'=>bif Nat.beq i' i.toNat then [.int .i64 (d.asks.getD i.toNat default).num,.str (d.asks.getD i.toNat default).key,.mk 2 m (BB y)]else Dt m d.asks g i'),.arr true 23 [MX]]}else none)else none)else none:=by kernel_rfl
def axV(g:Nat->Nat)(i:Int):MZ m d Fu (Ba (.exit 0) (B9 [1,2])) (Jp d m g i)=bif decide (i<(d.asks.length:Int))then rg i d.asks.length (bif i.toNat.blt d.asks.length then gC Wu GD (λl=>[.mk 0 m (BB l)]) [.mk (g i.toNat) m (BB (d.asks.getD i.toNat default).calls)] λ_=>
  rg i d.asks.length (bif i.toNat.blt d.asks.length&&true then none else none)else none)else some {fr:=[(1,.ptr 0 0 0),(2,.ptr 3 0 0)],hp:=(Jp d m g i).hp}:=by kernel_rfl
def SKE(g:Nat->Nat):St:={fr:=[(2,.ptr 3 0 0)],hp:=[.arr true 23 [L9 m d (.sn 4 1 d.waits.length) (.sn 3 2 d.asks.length)],Bf 4 Cz default d.waits,.seq true 3 d.asks.length (Dt m d.asks g),.arr true 23 [L9 m d (.sn 4 1 d.waits.length) (.sn 3 2 d.asks.length)]]}
def axW(g:Nat->Nat)(i:Int):MZ m d D8 (Ba .ret (B9 [2])) {fr:=[(1,.ptr 0 0 0),(2,.ptr 3 0 0)],hp:=(Jp d m g i).hp}=some (SKE d m g):=by kernel_rfl
def iK(g:Nat->Nat):Heap:=[Bf 4 Cz default d.waits,.seq true 3 d.asks.length (Dt m d.asks g)]
def atg(g:Nat->Nat):Ip (GA PG) (SKE d m g) [.cell 2 44] (λvs=>Cm 0 0 (Ge vs) (SKE d m g).hp)=some (.agg (L9 m d (.sn 4 0 d.waits.length) (.sn 3 1 d.asks.length)),iK d m g):=by kernel_rfl
end
def M4(d:Md.AL)(m I:Nat)(a:Md.Ask)(F:Nat->List AV)(i:Int)(cur:Bool):St:={fr:=[(1,.ptr 0 0 0),(2,.ptr 4 0 0),(34,.int .i64 d.asks.length),(35,.int .i64 i)],hp:=[.arr true 23 [L9 m d (.sn 4 1 d.waits.length) (.sn 3 2 d.asks.length)],Bf 4 Cz default d.waits,.Cb true 3 d.asks.length F I (JN a 3 a.calls.length) [3] cur,.seq true 31 a.calls.length (BP a.calls),.arr true 23 [MX]]}
section
variable (d:Md.AL) (m:Nat)
def k_b(g:Nat->Nat)(i:Int):axU m Fu (Ba .normal (norm 0 Ws)) (Jp d m g i)=bif decide (i<(d.asks.length:Int))then rg i d.asks.length (bif i.toNat.blt d.asks.length then gC Wu GD (λl=>[.mk 0 m (BB l)]) [.mk (g i.toNat) m (BB (d.asks.getD i.toNat default).calls)] λy=>
  rg i d.asks.length (bif i.toNat.blt d.asks.length&&true then some {fr:=[(1,.ptr 0 0 0),(2,.ptr 4 0 0),(34,.int .i64 d.asks.length),(35,.int .i64 (Ao (i+1)))],hp:=[.arr true 23 [L9 m d (.sn 4 1 d.waits.length) (.sn 3 2 d.asks.length)],Bf 4 Cz default d.waits,.Cb true 3 d.asks.length (Dt m d.asks g) i.toNat [.int .i64 (d.asks.getD i.toNat default).num,.str (d.asks.getD i.toNat default).key,.sn 31 3 y.length] [3] true,.seq true 31 y.length (BP y),.arr true 23 [MX]]}else none)else none)else none:=by kernel_rfl
def k_c(I:Nat)(a:Md.Ask)(g:Nat->Nat)(i:Int):MZ m d Fu (Ba .normal (norm 0 Ws)) (M4 d m I a (Dt m d.asks g) i false)=bif decide (i<(d.asks.length:Int))then rg i d.asks.length (bif i.toNat.blt d.asks.length && !i.toNat.beq I then gC Wu GD (λl=>[.mk 0 m (BB l)]) [.mk (g i.toNat) m (BB (d.asks.getD i.toNat default).calls)] λy=>
  rg i d.asks.length (bif i.toNat.blt d.asks.length && !i.toNat.beq I then some (M4 d m I a (λi'=>EX (λb=>indexOf b [0,1,2,3,4] 0) (bif Nat.beq i' i.toNat then [.int .i64 (d.asks.getD i.toNat default).num,.str (d.asks.getD i.toNat default).key,.mk 2 m (BB y)]else Dt m d.asks g i')) (Ao (i+1)) false)else none)else none)else none:=by kernel_rfl
def k_x(I:Nat)(a:Md.Ask)(g:Nat->Nat)(i:Int):MZ m d Fu (Ba (.exit 0) (B9 [1,2])) (M4 d m I a (Dt m d.asks g) i false)=bif decide (i<(d.asks.length:Int))then rg i d.asks.length (bif i.toNat.blt d.asks.length && !i.toNat.beq I then gC Wu GD (λl=>[.mk 0 m (BB l)]) [.mk (g i.toNat) m (BB (d.asks.getD i.toNat default).calls)] λ_=>
  rg i d.asks.length (bif i.toNat.blt d.asks.length && !i.toNat.beq I then none else none)else none)else some {fr:=[(1,.ptr 0 0 0),(2,.ptr 4 0 0)],hp:=(M4 d m I a (Dt m d.asks g) i false).hp}:=by kernel_rfl
def zg(g:Nat->Nat)(I:Nat)(a:Md.Ask):Heap:=[Bf 4 Cz default d.waits,.Cb true 3 d.asks.length (Dt m d.asks g) I (JN a 2 a.calls.length) [2] false,.seq true 31 a.calls.length (BP a.calls)]
def zh(g:Nat->Nat)(I:Nat)(a:Md.Ask):St:={fr:=[(2,.ptr 4 0 0)],hp:=[.arr true 23 [L9 m d (.sn 4 1 d.waits.length) (.sn 3 2 d.asks.length)],Bf 4 Cz default d.waits,.Cb true 3 d.asks.length (Dt m d.asks g) I (JN a 3 a.calls.length) [3] false,.seq true 31 a.calls.length (BP a.calls),.arr true 23 [L9 m d (.sn 4 1 d.waits.length) (.sn 3 2 d.asks.length)]]}
def axX(g:Nat->Nat)(I:Nat)(a:Md.Ask)(i:Int):MZ m d D8 (Ba .ret (B9 [2])) {fr:=[(1,.ptr 0 0 0),(2,.ptr 4 0 0)],hp:=(M4 d m I a (Dt m d.asks g) i false).hp}=some (zh d m g I a):=by kernel_rfl
def ath(g:Nat->Nat)(I:Nat)(a:Md.Ask):Ip (GA PG) (zh d m g I a) [.cell 2 44] (λvs=>Cm 0 0 (Ge vs) (zh d m g I a).hp)=some (.agg (L9 m d (.sn 4 0 d.waits.length) (.sn 3 1 d.asks.length)),zg d m g I a):=by kernel_rfl
end
def gk(j i:Nat):Nat:=bif Nat.blt i j then 2 else 0
def Ta(i j:Nat):Nat.blt i j=decide (i<j):=by
 cases h:decide (i<j)with
 | true=>exact Cd (El h)
 | false=>
  cases h':Nat.blt i j with
  | false=>rfl
  | true=>exact absurd (DZ h') (Gk h)
def aX(j:Nat):gk j j=0:=by unfold gk;rw[Ta,AN (DP j)];rfl
def wQ(m:Nat)(l:List Md.Ask)(j:Nat):(λi'=>bif Nat.beq i' j then [AV.int .i64 (l.getD j default).num,.str (l.getD j default).key,.mk 2 m (BB (l.getD j default).calls)]else Dt m l (gk j) i')=Dt m l (gk (j+1)):=by
 funext i;by_cases h:i=j
 ·subst h;rw[beq_true rfl,Ae];unfold Dt YU gk;rw[Ta,Ax (by omega)];rfl
 ·rw[beq_false h,Aj];unfold Dt YU gk;rw[Ta,Ta];by_cases h2:i<j
  ·rw[Ax h2,Ax (by omega)]
  ·rw[AN h2,AN (by omega)]
section
variable {d:Md.AL} {m:Nat}
def aaJ(h:K3 d):∃ fn,(Gs (Mt m d)).code Fh=some fn/\fn.body=some SD/\fn.ntmps=52/\fn.results.toList=[.cell 2 44]/\AD Fu=true/\AD D8=true /\
  (∀ T,Bg (λQ=>(Code.block 0 (.loop Fu)).wp PG Q) 52 0 (Jp d m (gk 0) ((0:Nat):Int)) .normal T -> ∀ T',Bg (λQ=>D8.wp PG Q) 52 0 T .ret T'->Bg (λQ=>SD.wp PG Q) 52 0 {fr:=Ej 0 [.agg (Jd m d)],hp:=[]} .ret T'):=by
 obtain⟨h1,h2,h3,h4,h5,h6,h7⟩:=h;have Bh:DH PG (Gs (Mt m d)):=Gd (uM h1 h6);have D6:It PG (Gs (Mt m d)):=Gc;have hrun:EN PG (Dl (R:=St) (Gs (Mt m d)) 0):=Iw Bh D6 mixed 0;obtain⟨fn,hf,hb,GI,Ew⟩:∃ fn,(Gs (Mt m d)).code Fh=some fn/\fn.body=some SD/\fn.ntmps=52/\fn.results.toList=[.cell 2 44]:=⟨_,rfl,by kernel_rfl,by kernel_rfl,by kernel_rfl⟩
 obtain⟨_,_,_,A8⟩:=D6 _ fn hf;have A8:=A8 _ hb;rw[nQ]at A8;obtain⟨j9,A8⟩:=A4 (show(AD (dc 0)&&AD _)=true from A8);obtain⟨ka,A8⟩:=A4 (show(AD (dc 1)&&AD _)=true from A8);obtain⟨rj,A8⟩:=A4 (show(AD (dc 2)&&AD _)=true from A8);obtain⟨ok3,A8⟩:=A4 (show(AD (dc 3)&&AD _)=true from A8);obtain⟨ok4,A8⟩:=A4 (show(AD (dc 4)&&AD _)=true from A8);obtain⟨ok5,A8⟩:=A4 (show(AD (dc 5)&&AD _)=true from A8);obtain⟨ok6,A8⟩:=A4 (show(AD (dc 6)&&AD _)=true from A8);obtain⟨A8,YS⟩:=A4 (show(AD (.seq D7 (.block 0 (.loop Fu)))&&AD D8)=true from A8);obtain⟨ok7,KC⟩:=A4 (show(AD D7&&AD Fu)=true from A8);refine⟨fn,hf,hb,GI,Ew,KC,YS,λT LL T' L8=>?_⟩;have L0:=BT (l:=[1,2]) Bh hrun mixed j9 (k_0 d m);have L1:=BT (l:=[1,2]) Bh hrun mixed ka ((k_1 d m).trans (Rx (.refl _)));have L2:=BT (l:=[1,2]) Bh hrun mixed rj ((k_2 d m).trans (Wt h2));have L3:=BT (l:=[1,2]) Bh hrun mixed ok3 ((k_3 d m).trans (Wt h3));have L4:=BT (l:=[1,2]) Bh hrun mixed ok4 ((k_4 d m).trans (Wt h4));have L5:=BT (l:=[1,2]) Bh hrun mixed ok5 ((k_5 d m).trans (Wt h5));have L6:=BT (l:=[1,2]) Bh hrun mixed ok6 ((k_6 d m).trans (Rx (.refl _)));have L7:=J5 Bh hrun mixed ok7 (k_7 d m);have e0:Jp d m (λ_=>0) 0=Jp d m (gk 0) ((0:Nat):Int):=by
  have:(λ_=>0)=gk 0:=funext λi=>by unfold gk;rw[Ta,AN (C5 i)];rfl
  rw[this];rfl
 rw[e0]at L7;rw[nQ];exact L0.seq (L1.seq (L2.seq (L3.seq (L4.seq (L5.seq (L6.seq ((L7.seq LL).seq L8)))))))
def akw(m:Nat)(d:Md.AL)(h:K3 d):At PG Fh [.agg (Jd m d)] [] (.agg (L9 m d (.sn 4 0 d.waits.length) (.sn 3 1 d.asks.length))) (iK d m (gk d.asks.length)):=by
 obtain⟨fn,hf,hb,GI,Ew,KC,YS,LD⟩:=aaJ (m:=m) h;obtain⟨h1,h2,h3,h4,h5,h6,h7⟩:=h;have Bh:DH PG (Gs (Mt m d)):=Gd (uM h1 h6);have D6:It PG (Gs (Mt m d)):=Gc;have hrun:EN PG (Dl (R:=St) (Gs (Mt m d)) 0):=Iw Bh D6 mixed 0;have hc:∀ j,j<d.asks.length->GD (d.asks.getD j default).calls:=λj hj=>h7 _ (De (z:=(default:Md.Ask)) hj);have sA:∀ j,j<d.asks.length->Bg (λQ=>Fu.wp PG Q) 52 0 (Jp d m (gk j) (j:Nat)) .normal (Jp d m (gk (j+1)) ((j+1:Nat):Int)):=by intro j hjl;refine J5 Bh hrun mixed KC ((k_a d m (gk j) (j:Nat)).trans ?_);rw[Ax (show((j:Nat):Int)<(d.asks.length:Int) by omega),Ae,B8 hjl,BV,Cd hjl,Ae,aX,rq (hc j hjl),B8 hjl,CV,Ae,Cs (show j<=2000000 by omega),wQ];rfl
 have sX:Bg (λQ=>Fu.wp PG Q) 52 0 (Jp d m (gk d.asks.length) (d.asks.length:Nat)) (.exit 0) {fr:=[(1,.ptr 0 0 0),(2,.ptr 3 0 0)],hp:=(Jp d m (gk d.asks.length) (d.asks.length:Nat)).hp}:=by refine BT (l:=[1,2]) Bh hrun mixed KC ((axV d m (gk d.asks.length) (d.asks.length:Nat)).trans ?_);rw[AN (by omega),Aj]
 have LL:=Bg.loop (e0:=.exit 0) (by simp) (n:=d.asks.length) (λj=>Jp d m (gk j) ((j:Nat):Int)) (T:={fr:=[(1,.ptr 0 0 0),(2,.ptr 3 0 0)],hp:=(Jp d m (gk d.asks.length) (d.asks.length:Nat)).hp}) (x:=Fu) (P:=PG) (nt:=52) (base:=0) (λj hj=>sA j hj) sX;have L8:=BT (l:=[2]) Bh hrun mixed YS (axW d m (gk d.asks.length) (d.asks.length:Nat));have L:=LD _ LL.block _ L8;exact(WZ Bh D6 hf hb (hp:=[]) (.inr rfl) (by rw[GI];exact L) (c0:=0) (Ar _) (by rw[Ew];exact atg d m (gk d.asks.length))).1
def akx(m:Nat)(d:Md.AL)(I:Nat)(h:K3 d)(hI:I<d.asks.length):∃ g,(∀ i,i<d.asks.length->i ≠ I->g i=2)/\At PG Fh [.agg (Jd m d)] [] (.agg (L9 m d (.sn 4 0 d.waits.length) (.sn 3 1 d.asks.length))) (zg d m g I (d.asks.getD I default)):=by
 obtain⟨fn,hf,hb,GI,Ew,KC,YS,LD⟩:=aaJ (m:=m) h;obtain⟨h1,h2,h3,h4,h5,h6,h7⟩:=h;obtain⟨a,ha⟩:∃ a,d.asks.getD I default=a:=⟨_,rfl⟩
 have hc:∀ j,j<d.asks.length->GD (d.asks.getD j default).calls:=λj hj=>h7 _ (De (z:=(default:Md.Ask)) hj);rw[ha];have Bh:DH PG (Gs (Mt m d)):=Gd (uM h1 h6);have D6:It PG (Gs (Mt m d)):=Gc;have hrun:EN PG (Dl (R:=St) (Gs (Mt m d)) 0):=Iw Bh D6 mixed 0;have gS:DH PG (VD [gU m]):=Gd (ak (aoa m) AR);have xQ:EN PG (Dl (R:=St) (VD [gU m]) 0):=Iw gS Gc mixed 0;let G:Nat->Nat->Nat:=λj i=>bif Nat.beq i I then 0 else gk j i
 have hG:∀ j,Dt m d.asks (G j)=λi=>bif Nat.beq i I then YU m 0 (d.asks.getD i default)else Dt m d.asks (gk j) i:=λj=>by funext i;show YU m (bif Nat.beq i I then 0 else gk j i) (d.asks.getD i default)=_;cases Nat.beq i I <;> rfl
 have eI:Dt m d.asks (gk I)=Dt m d.asks (G I):=by
  rw[hG];funext i;by_cases h:i=I
  ·subst h;rw[beq_true rfl,Ae];unfold Dt;rw[aX]
  ·rw[beq_false h];rfl
 have sA:∀ j,j<I->Bg (λQ=>Fu.wp PG Q) 52 0 (Jp d m (gk j) (j:Nat)) .normal (Jp d m (gk (j+1)) ((j+1:Nat):Int)):=by
  intro j hj;have hjl:j<d.asks.length:=by omega
  refine J5 Bh hrun mixed KC ((k_a d m (gk j) (j:Nat)).trans ?_);rw[Ax (show((j:Nat):Int)<(d.asks.length:Int) by omega),Ae,B8 hjl,BV,Cd hjl,Ae,aX,rq (hc j hjl),B8 hjl,CV,Ae,Cs (show j<=2000000 by omega),wQ];rfl
 have sB:Bg (λQ=>Fu.wp PG Q) 52 0 (Jp d m (gk I) (I:Nat)) .normal (M4 d m I a (Dt m d.asks (G (I+1))) ((I+1:Nat):Int) true):=by
  refine J5 gS xQ mixed KC ((k_b d m (gk I) (I:Nat)).trans ?_);have e1:Dt m d.asks (gk I)=Dt m d.asks (G (I+1)):=by
   rw[hG];funext i;by_cases h:i=I
   ·subst h;rw[beq_true rfl,Ae];unfold Dt;rw[aX]
   ·rw[beq_false h,Aj];unfold Dt YU gk;rw[Ta,Ta];by_cases h2:i<I
    ·rw[Ax h2,Ax (by omega)]
    ·rw[AN h2,AN (by omega)]
  rw[Ax (show((I:Nat):Int)<(d.asks.length:Int) by omega),Ae,B8 hI,BV,Cd hI,Ae,aX,rq (hc I hI),B8 hI,CV,Ae,Cs (show I<=2000000 by omega),ha,e1];rfl
 have sF:bE (M4 d m I a (Dt m d.asks (G (I+1))) ((I+1:Nat):Int) true) (M4 d m I a (Dt m d.asks (G (I+1))) ((I+1:Nat):Int) false):=
  acT (b:=2) rfl rfl rfl λc hc=>by
   match c,hc with
   | 0,_=>rfl
   | 1,_=>rfl
   | 2,h=>exact absurd rfl h
   | c+3,_=>rfl
 have sC:∀ j,I<j->j<d.asks.length->Bg (λQ=>Fu.wp PG Q) 52 0 (M4 d m I a (Dt m d.asks (G j)) (j:Nat) false) .normal (M4 d m I a (Dt m d.asks (G (j+1))) ((j+1:Nat):Int) false):=by
  intro j hj hjl;refine J5 Bh hrun mixed KC ((k_c d m I a (G j) (j:Nat)).trans ?_);have hF:(λi'=>EX (λb=>indexOf b [0,1,2,3,4] 0) (bif Nat.beq i' j then [.int .i64 (d.asks.getD j default).num,.str (d.asks.getD j default).key,.mk 2 m (BB (d.asks.getD j default).calls)]else Dt m d.asks (G j) i'))=Dt m d.asks (G (j+1)):=by
   have:=wQ m d.asks j;funext k;by_cases hk:k=j
   ·subst hk;have e2:=congrFun this k;rw[beq_true rfl,Ae]at e2;rw[beq_true rfl,Ae,hG (k+1)];dsimp only;rw[beq_false (show k ≠ I by omega),Aj,<- e2];rfl
   ·have e2:=congrFun this k;rw[beq_false hk,Aj]at e2;rw[beq_false hk,Aj,hG j,hG (j+1)];dsimp only;rw[<- e2];cases Nat.beq k I <;> rfl
  have hg0:G j j=0:=by show(bif Nat.beq j I then 0 else gk j j)=0;rw[aX];cases Nat.beq j I <;> rfl
  rw[Ax (show((j:Nat):Int)<(d.asks.length:Int) by omega),Ae,B8 hjl,BV,Cd hjl,beq_false (show j ≠ I by omega),EP,CV,Ae,hg0,rq (hc j hjl),B8 hjl,Cs (show j<=2000000 by omega),Ae,hF]
 have sX:Bg (λQ=>Fu.wp PG Q) 52 0 (M4 d m I a (Dt m d.asks (G d.asks.length)) (d.asks.length:Nat) false) (.exit 0) {fr:=[(1,.ptr 0 0 0),(2,.ptr 4 0 0)],hp:=(M4 d m I a (Dt m d.asks (G d.asks.length)) (d.asks.length:Nat) false).hp}:=by refine BT (l:=[1,2]) Bh hrun mixed KC ((k_x d m I a (G d.asks.length) (d.asks.length:Nat)).trans ?_);rw[AN (by omega),Aj]
 have LL:=Bg.loop (e0:=.exit 0) (by simp) (n:=d.asks.length) (λj=>if j<=I then Jp d m (gk j) ((j:Nat):Int)else M4 d m I a (Dt m d.asks (G j)) ((j:Nat):Int) false) (T:={fr:=[(1,.ptr 0 0 0),(2,.ptr 4 0 0)],hp:=(M4 d m I a (Dt m d.asks (G d.asks.length)) (d.asks.length:Nat) false).hp}) (x:=Fu) (P:=PG) (nt:=52) (base:=0) (λj hj=>by
   by_cases h1:j<I
   ·rw[Ay (by omega),Ay (by omega)];exact sA j h1
   ·by_cases h2:j=I
    ·subst h2;rw[Ay (Ar _),AE (by omega)];exact sB.adX sF
    ·rw[AE (by omega),AE (by omega)];exact sC j (by omega) hj) (by rw[AE (by omega)];exact sX)
 rw[Ay (Bu _)]at LL;have L8:=BT (l:=[2]) Bh hrun mixed YS (axX d m (G d.asks.length) I a (d.asks.length:Nat));have L:=LD _ LL.block _ L8;refine⟨G d.asks.length,λi hi hne=>?_,(WZ Bh D6 hf hb (hp:=[]) (.inr rfl) (by rw[GI];exact L) (c0:=0) (Ar _) (by rw[Ew];exact ath d m (G d.asks.length) I a)).1⟩;show(bif Nat.beq i I then 0 else gk d.asks.length i)=2;rw[beq_false hne,Aj];unfold gk;rw[Ta,Ax hi];rfl
end
end Go.Hd
end
section
namespace Go.AM
def At.TJ{P:Program}{f:Nat}{args:List AV}{hp rh:Heap}{r:AV}(h:At P f args hp r rh)(m:Bool)(sz:Nat)(F:Nat->List AV):At P f args hp r (rh++[.seq m sz 0 F]):=by
 intro w I φ ra hh hx;refine(h w I φ ra hh hx).mono λu w' ⟨φ',I',a1,a2,a3⟩=>?_;have hp':=a2.TJ (nx:=rh.length) (Gw (Ar _)) m sz F;have e:BU (Ab rh) rh.length (.seq m sz 0 F)=Ab (rh++[.seq m sz 0 F]):=by
  funext b;rcases Qg b rh.length with h1 | h1 | h1
  ·rw[C0 _ _ (by omega)];simp only[Ab,List.getD];rw[DY h1]
  ·subst h1;rw[DL];simp[Ab,List.getD]
  ·rw[C0 _ _ (by omega),Gw (by omega),Gw (by simp;omega)]
 rw[e]at hp';exact⟨φ',I',a1,hp'.1,a3.trans (hp'.2 _)⟩
def At.ati{P:Program}{f:Nat}{args:List AV}{hp rh:Heap}{r:AV}(h:At P f args hp r rh){ids:List Nat}(hd:Ha ids)(hk:∀ b,b<hp.length->ids[b]? = some b) :
  At P f args hp (BX (λb=>indexOf b ids 0) r) (Ju ids (Ab rh)):=by
 intro w I φ ra hh hx;refine(h w I φ ra hh hx).mono λu w' ⟨φ',I',a1,a2,a3⟩=>⟨Ke ids φ',I',a1.BX λb b' e=>eY b b' e,a2.aG hd,⟨λb p hb e=>?_,a3.F8,a3.F3,λB hB=>a3.mt B (ZU hB),a3.ext,λB hB hy=>a3.ok B (hB.imp id ZU) hy⟩⟩
 show(ids[b]?).bind φ'=some p;rw[hk b hb];exact a3.le b p hb e
def Bg.U2{P:Program}{nt base:Nat}{x:Code}{id:Nat}{s s1:St}(h:Bg (λQ=>x.wp P Q) nt base s .normal s1):Bg (λQ=>(Code.block id x).wp P Q) nt base s .normal s1:=by intro hb;obtain⟨b1,g1⟩:=h hb;exact⟨b1,λw I φ a hs ha Q hQ=>Nz (g1 w I φ a hs ha _ hQ)⟩
def Bg.mO{P:Program}{nt base:Nat}{x y:Code}{id:Nat}{s s1:St}(h:Bg (λQ=>x.wp P Q) nt base s (.exit id) s1):Bg (λQ=>(Code.seq x y).wp P Q) nt base s (.exit id) s1:=by intro hb;obtain⟨b1,g1⟩:=h hb;exact⟨b1,λw I φ a hs ha Q hQ=>wp_seq (g1 w I φ a hs ha _ hQ)⟩
def Ko(s:St)(l:List Nat):Heap:=RI s.hp (l.map λb=>(b,frozen (Ab s.hp b)))
def aqt{w:World}{I:Nat->Prop}{φ:Ac}{s:St}{a:Act}{b j sz:Nat}{cs:List AV}{m:Bool}{c v:AV}{l:List Nat}(hs:BC w I φ s a)(hb:Ab s.hp b=.arr m sz [cs])(hc:cs[j]? = some c)
  (h:NA depth (Ab s.hp) c=some (v,l,true)) (hb2:Ab (Ko s l) b=.arr m sz [cs]) :
  ∃ I' φ',BC w I' φ' {fr:=s.fr,hp:=Fm (Ko s l) b (.arr m sz [cs.set j v])} a /\
   ∀ base,base<=s.hp.length->Step base (Ab s.hp) φ I w (Ab (Fm (Ko s l) b (.arr m sz [cs.set j v]))) φ' I' w:=by
 obtain⟨hl,hv⟩:=(ZW hs.hh depth).1 _ _ _ h λ_ _=>rfl;have hlt:∀ B,(I B\/Ft φ l B)->B<w.heap.size:=λB hB=>hB.elim (hs.hh.lt B) (Xr hs.hh hl);obtain⟨BO,_,le,Jj,st⟩:=hs.hh.merge (w':=w) (I2:=λB=>I B\/Ft φ l B) (φ':=Ac.no) (bs:=[]) (nx:=s.hp.length) (t:=true) (rch:=l) hl (λi hi=>by simp at hi) (Ext.refl _ _)
  (λB hB=>.inl hB) (λB hB=>hB.elim .inl λh=>.inr (.inl ⟨rfl,h⟩)) (λ_ B hB=>.inr hB) (RH.empty w _ hlt) (λB hB=>(Fw hB).elim) (λB Ep hB=>hB.elim (λx=>by have:=hlt B x;omega) λx=>(Fw x).elim) (Ab s.hp) (λ_ _=>rfl)
 have e:Ee (Ab s.hp) ((bif true then l.map λb=>(b,frozen (Ab s.hp b))else [])++imports s.hp.length 0 (([]:Heap).map (Ch (shift s.hp.length ([]:Heap).length))))=Ab (Ko s l):=by unfold Ko;rw[tj];show Ee (Ab s.hp) ((l.map λb=>(b,frozen (Ab s.hp b)))++[])=_;rw[FY]
 rw[e]at Jj;have Kf:=st 0 (Bu _);rw[e]at Kf;have Bc:Fp w (λB=>I B\/Ft φ l B) BO (Bb s.fr) a:=hs.fr.step hs.hh Kf le;have Lv:live (Ab s.hp b)=true:=by rw[hb];rfl
 obtain⟨B1,o1,s1,e1,r1⟩:∃ B o z,φ b=some (B,o,z)/\RB w I φ B o z (.arr m sz [cs]):=by
  rcases hs.hh.CY b Lv with ⟨B,o,z,e,r⟩ | ⟨_,hp⟩
  ·rw[hb]at r;exact⟨B,o,z,e,r⟩
  ·rw[hb]at hp;exact hp.elim
 obtain⟨_,_,_,q4⟩:=r1;obtain⟨u0,u1,u2,u3⟩:=q4 0 cs j c rfl hc;have hu:=hv (λB=>I B\/Ft φ l B) (λB hB=>.inl hB) (λB hB=>.inr hB) _ u3;have e2:=le _ _ e1;have one:∀ {c':List AV} {i:Nat} {A3:List AV},[c'][i]? = some A3->i=0/\A3=c':=by
  intro c' i A3 e;cases i with
  | zero=>simp at e;exact⟨rfl,e.symm⟩
  | succ i=>simp at e
 have QF:live (BS.arr m sz [cs.set j v])=true:=rfl;have key:RH w (λB=>I B\/Ft φ l B) BO (BU (Ab (Ko s l)) b (.arr m sz [cs.set j v])) /\ ∀ base,Step base (Ab (Ko s l)) BO (λB=>I B\/Ft φ l B) w (BU (Ab (Ko s l)) b (.arr m sz [cs.set j v])) BO (λB=>I B\/Ft φ l B) w:=by
  have hw:=Jj;have QK:∀ b',AZ (BU (Ab (Ko s l)) b (.arr m sz [cs.set j v]) b')=AZ (Ab (Ko s l) b'):=λb'=>by
   by_cases e:b'=b
   ·subst e;rw[DL,hb2];rfl
   ·rw[C0 _ _ e]
  have QG:∀ b',live (BU (Ab (Ko s l)) b (.arr m sz [cs.set j v]) b')=live (Ab (Ko s l) b'):=λb'=>by
   by_cases e:b'=b
   ·subst e;rw[DL,hb2];rfl
   ·rw[C0 _ _ e]
  refine⟨⟨λb' e=>?_,λb' e=>?_,λb1 b2 B o s o' s' h1 h2=>hw.inj b1 b2 B o s o' s' (QK b1 ▸ h1) (QK b2 ▸ h2),λb' B o s h1=>hw.CP b' B o s (QK b' ▸ h1),λb' B o s h1 h2=>hw.Ea b' B o s (QG b' ▸ h1) (QK b' ▸ h2),hw.lt⟩,
   λbase=>Step.of (λ_ _ _ e=>e) (λ_ hB=>hB) (λ_ hB=>.inl hB) (λB ⟨b',o,s,h1,e⟩=>.inl ⟨b',o,s,QK b' ▸ h1,e⟩) (Ext.refl _ _) (GF.refl _)⟩
  ·by_cases e':b'=b
   ·subst e';rw[DL]at e;cases e
   ·rw[C0 _ _ e']at e;exact hw.none b' e
  ·by_cases e':b'=b
   ·subst e';rw[DL];rcases hw.CY b' (by rw[hb2];rfl)with ⟨B,o,z,g1,r⟩ | ⟨_,O4⟩
    ·refine .inl ⟨B,o,z,g1,?_⟩;rw[e2]at g1;cases g1;rw[hb2]at r;obtain⟨r1,r2,r3,r4⟩:=r;refine⟨r1,r2,λi A3 e=>?_,λi A3 k c1 e e'=>?_⟩
     ·obtain⟨rfl,rfl⟩:=one e;rw[XD];exact r3 0 cs rfl
     ·obtain⟨rfl,rfl⟩:=one e;rw[List.getElem?_set]at e';split at e'
      ·rename_i hk;subst hk;split at e'
       ·cases e';exact⟨u0,u1,u2,hu.mono (λB hB=>⟨hB,rfl⟩) (λ_=>Ar _) (Ac.IZ _)⟩
       ·cases e'
      ·exact r4 0 cs k c1 rfl e'
    ·rw[hb2]at O4;exact O4.elim
   ·rw[C0 _ _ e']at e ⊢;exact hw.CY b' e
 have hg:Ab (Fm (Ko s l) b (.arr m sz [cs.set j v]))=BU (Ab (Ko s l)) b (.arr m sz [cs.set j v]):=funext λb'=>ZS _ _ _ _;refine⟨_,BO,⟨by rw[hg];exact key.1,Bc⟩,λbase hb=>?_⟩;have t:=st base hb;rw[e]at t;rw[hg];exact t.trans (key.2 base)
def Bg.axY{P:Program}{nt base:Nat}{x:Code}{s s1:St}{e:AX}(h:Bg (λQ=>x.wp P Q) nt base s e s1){b j sz:Nat}{cs:List AV}{m:Bool}{c v:AV}{l:List Nat}(hb:Ab s1.hp b=.arr m sz [cs])(hc:cs[j]? = some c)
  (hv:NA depth (Ab s1.hp) c=some (v,l,true)) (hb2:Ab (Ko s1 l) b=.arr m sz [cs]):Bg (λQ=>x.wp P Q) nt base s e {fr:=s1.fr,hp:=Fm (Ko s1 l) b (.arr m sz [cs.set j v])}:=by
 intro afO;obtain⟨b1,g1⟩:=h afO;have hlen:s1.hp.length<=(Fm (Ko s1 l) b (.arr m sz [cs.set j v])).length:=CI (UI _ _) (Xb _ _ _);refine⟨CI b1 hlen,λw I φ a hs ha Q hQ=>g1 w I φ a hs ha _ λa' w' φ' I' c1 c2 c3 c4=>?_⟩;obtain⟨I2,BO,n1,n2⟩:=aqt c3 hb hc hv hb2;exact hQ a' w' BO I2 c1 c2 n1 (c4.trans (n2 base b1))
def Bg.GP{P:Program}{nt base:Nat}{x:Code}{s s1:St}{e:AX}(h:Bg (λQ=>x.wp P Q) nt base s e s1){h':Heap}(hs:HSub s1.hp h'):Bg (λQ=>x.wp P Q) nt base s e {fr:=s1.fr,hp:=h'}:=by intro hb;obtain⟨b1,g1⟩:=h hb;refine⟨by rw[<- hs.1];exact b1,λw I φ a ho ha Q hQ=>g1 w I φ a ho ha _ λa' w' φ' I' c1 c2 c3 c4=>?_⟩;exact hQ a' w' φ' I' c1 c2 ⟨hs.rh c3.hh,c3.fr⟩ ⟨c4.le,c4.F8,c4.F3,λB hB=>c4.mt B (hs.mut hB),c4.ext,λB hB hy=>c4.ok B (hB.imp id hs.mut) hy⟩
def acV{P:Program}{env:Env}{fn nt n base:Nat}{run:Gh St}(Bh:DH P env)(hrun:EN P run)(hm:P.follows .mixedOrders=true){c:Code}{cur:Nat}{l:List Nat}{s s':St}(A8:AD c=true)
  (h:La env run fn nt n base cur c (Ba .ret (norm base l)) s=some s'):Bg (λQ=>c.wp P Q) nt base s .ret s':=by
 obtain⟨e,s1,h1,h2⟩:=ab Bh hrun hm A8 h;cases e with
 | ret=>cases h1;intro hb;obtain⟨b1,g1⟩:=h2 hb;refine⟨ZV b1,λw I φ a hs ha Q hQ=>g1 w I φ a hs ha _ λa' w' φ' I' c1 c2 c3 c4=>?_⟩;obtain⟨n1,Dd,n2,n3⟩:=Rp base l c3 b1;exact hQ a' w' Dd I' c1 c2 n2 (c4.trans n3)
 | exit id=>cases h1
 | goto l=>cases h1
 | normal=>cases h1
def ME(hp:Heap):Heap:=List.replicate hp.length .dead++hp.map (Ch (up 0 hp.length))
def up0(k i:Nat):up 0 k i=some (i+k):=rfl
def aoc(hp:Heap)(b:Nat):Ab (ME hp) b=if b<hp.length then .dead else Ch (up 0 hp.length) (Ab hp (b - hp.length)):=by
 unfold ME;simp only[Ab,List.getD];by_cases h:b<hp.length
 ·rw[Ay h,DY (by simpa using h),List.getElem?_replicate,Ay h];rfl
 ·rw[AE h,FC (by simp;omega)];simp only[EO,aw];cases hp[b - hp.length]? with
  | none=>rfl
  | some x=>rfl
def atj{w:World}{I:Nat->Prop}{φ:Ac}{s:St}{a:Act}(hs:BC w I φ s a){fr:Fr}(Ij:∀ t,Bb fr t=BX (up 0 s.hp.length) (Bb s.fr t)) :
  ∃ Gp,BC w I Gp {fr:=fr,hp:=ME s.hp} a/\Step s.hp.length (Ab s.hp) φ I w (Ab (ME s.hp)) Gp I w:=by
 obtain⟨k,hk⟩:∃ k,s.hp.length=k:=⟨_,rfl⟩
 have hg:=aoc s.hp;rw[hk]at hg Ij ⊢;let Gp:Ac:=λb=>if b<k then φ b else φ (b - k)
 have FI:∀ i b',up 0 k i=some b'->Gp b'=φ i:=by intro i b' e;rw[up0]at e;cases e;simp only[Gp,AE (by omega:¬ i+k<k),Nat.add_sub_cancel]
 have key:∀ b,live (Ab (ME s.hp) b)=true -> ∃ i,b=i+k/\Ab (ME s.hp) b=Ch (up 0 k) (Ab s.hp i)/\Gp b=φ i/\live (Ab s.hp i)=true:=by
  intro b hl;rw[hg b]at hl ⊢;by_cases h1:b<k
  ·rw[Ay h1]at hl;cases hl
  ·rw[AE h1]at hl ⊢;exact⟨b - k,by omega,rfl,by simp only[Gp,AE h1],(DW _ _).1 hl⟩
 have Dm:∀ b,AZ (Ab (ME s.hp) b)=true -> ∃ i,b=i+k/\Gp b=φ i/\AZ (Ab s.hp i)=true:=by intro b hm;obtain⟨i,h1,h2,h3,h4⟩:=key b (Fv hm);rw[h2]at hm;exact⟨i,h1,h3,(DW _ _).2.1 hm⟩
 refine⟨Gp,⟨⟨λb e=>?_,λb hl=>?_,λb b' B o sz o' sz' hm BW e e'=>?_,λb B o sz hm e=>?_,λb B o sz hl hm e=>?_,hs.hh.lt⟩,λt=>?_⟩,Step.of (λb p hb e=>?_) (λB hB=>hB) (λB hB=>.inl hB) (λB hB=>?_) (Ext.refl _ _) (GF.refl _)⟩
 ·rw[hg b]at e;by_cases h1:b<k
  ·rw[Ay h1]at e;cases e
  ·rw[AE h1]at e;simp only[Gp,AE h1];exact hs.hh.none _ ((DW _ _).2.2.1 e)
 ·obtain⟨i,h1,h2,h3,h4⟩:=key b hl;rcases hs.hh.CY i h4 with ⟨B,o,sz,e,r⟩ | ⟨e,hp⟩
  ·exact .inl ⟨B,o,sz,h3.trans e,by rw[h2];exact r.BX FI⟩
  ·exact .inr ⟨h3.trans e,by rw[h2];exact UL _ hp⟩
 ·obtain⟨i,h1,h3,h4⟩:=Dm b hm;obtain⟨i',FG,O5,Ub⟩:=Dm b' BW;have:=hs.hh.inj i i' B o sz o' sz' h4 Ub (h3 ▸ e) (O5 ▸ e');omega
 ·obtain⟨i,h1,h3,h4⟩:=Dm b hm;exact hs.hh.CP i B o sz h4 (h3 ▸ e)
 ·obtain⟨i,h1,h2,h3,h4⟩:=key b hl;rw[h2]at hl hm;exact hs.hh.Ea i B o sz h4 (by rw[<- (DW (up 0 k) _).2.2.2 hl];exact hm) (h3 ▸ e)
 ·rw[Ij t];exact(hs.fr t).BX FI
 ·simp only[Gp,Ay hb];exact e
 ·obtain⟨b,o,sz,hm,e⟩:=hB;obtain⟨i,h1,h3,h4⟩:=Dm b hm;exact .inl ⟨i,o,sz,h4,h3 ▸ e⟩
def aod(hp:Heap):(ME hp).length=hp.length+hp.length:=by unfold ME;simp
def Bg.agU{nt:Nat}{X:(Exit->Act->World->Prop)->Act->World->Prop}{s T:St}{e:AX}{fr:Fr}(Ij:∀ t,Bb fr t=BX (up 0 s.hp.length) (Bb s.fr t))
  (h:Bg X nt s.hp.length {fr:=fr,hp:=ME s.hp} e T):Bg X nt s.hp.length s e T:=by
 intro _;obtain⟨b1,g1⟩:=h (by show s.hp.length<=(ME s.hp).length;rw[aod];omega);refine⟨b1,λw I φ a hs ha Q hQ=>?_⟩;obtain⟨Gp,h1,h2⟩:=atj hs Ij;exact g1 w I Gp a h1 ha Q λa' w' φ' I' c1 c2 c3 c4=>hQ a' w' φ' I' c1 c2 c3 (h2.trans c4)
def aaV{ρ:Nat->Option Nat}(args:List AV):∀ (i t:Nat),Bb (Ej i (args.map (BX ρ))) t=BX ρ (Bb (Ej i args) t):=by
 induction args with
 | nil=>intro i t;rfl
 | cons x r ih=>
  intro i t;simp only[NP,Ej,Bb];cases Nat.beq i t with
  | true=>rfl
  | false=>exact ih (i+1) t
def oq(env:Env)(n f:Nat)(args:List AV)(hp:Heap):Option (AV × Heap):=pt env n hp.length f (Cm 0 hp.length) [] {fr:=Ej 0 (args.map (BX (up 0 hp.length))),hp:=ME hp}
def acW{P:Program}{env:Env}(Bh:DH P env)(D6:It P env)(hm:P.follows .mixedOrders=true){n f:Nat}{args:List AV}{hp:Heap}{r:AV}{h:Heap}
  (e:oq env n f args hp=some (r,h)):At P f args hp r h/\hp.length<=h.length:=by
 unfold oq pt at e;cases hf:env.code f with
 | none=>
  have hb:Fi env f=.skip:=by unfold Fi;rw[hf]
  rw[hb]at e;have:Vv env f (Cm 0 hp.length) .normal {fr:=Ej 0 (args.map (BX (up 0 hp.length))),hp:=ME hp}=some (r,h):=e;unfold Vv at this;rw[hf]at this;cases this
 | some fn=>
  obtain⟨hfn,hbody,hname,A8⟩:=D6 f fn hf;have hb:fn.body=some (Fi env f):=by
   unfold Fi;rw[hf];dsimp only;cases h:fn.body with
   | none=>rw[h]at hbody;cases hbody
   | some c=>rfl
  have GI:Kq env f=fn.ntmps:=by unfold Kq;rw[hf]
  have TN:AD (Fi env f)=true:=by exact A8 _ hb
  obtain⟨ex,T,k1,k2⟩:=ab (fn:=f) (nt:=Kq env f) (n:=n) (base:=hp.length) Bh (Iw Bh D6 hm n) hm (cur:=0) (c:=Fi env f) (k:=Vv env f (Cm 0 hp.length)) (s:={fr:=Ej 0 (args.map (BX (up 0 hp.length))),hp:=ME hp}) TN (by
   unfold La;have e0:∀ (c:Code) (jump:Code->Nat->OD (AV × Heap)) (k:AX->St->Option (AV × Heap)),PI env (Dl env n) f (Kq env f) n hp.length jump 0 c [] k=k:=λc _ _=>by cases c <;> rfl
   have e1:∀ c:Code,sub c []=c:=λc=>by cases c <;> rfl
   have e2:∀ c:Code,NC 0 c []=0:=λc=>by cases c <;> rfl
   rw[e0,e1,e2]at e;exact e)
  rw[GI]at k2;have k3:Bg (λQ=>(Fi env f).wp P Q) fn.ntmps hp.length {fr:=Ej 0 args,hp:=hp} ex T:=Bg.agU (s:={fr:=Ej 0 args,hp:=hp}) (λt=>aaV args 0 t) k2;have k4:ex=.normal\/ex=.ret:=by
   unfold Vv yD at k1;rw[hf]at k1;cases ex with
   | normal=>exact .inl rfl
   | ret=>exact .inr rfl
   | exit i=>cases k1
   | goto l=>cases k1
  refine WZ Bh D6 hf hb k4 k3 (c0:=0) (Bu _) ?_;unfold Vv yD at k1;rw[hf]at k1;rcases k4 with rfl | rfl
  ·exact k1
  ·exact k1
def Bg.cond{P:Program}{nt base:Nat}{x y:Code}{c:Operand}{b:Bool}{s s1:St}{e:AX}(hc:KK (Bb s.fr) c=.bool b)(h:Bg (λQ=>(bif b then x else y).wp P Q) nt base s e s1):Bg (λQ=>(Code.cond c x y).wp P Q) nt base s e s1:=by
 have MP:∀ {w I φ a},BC w I φ s a->a.eval c=.bool b:=by intro w I φ a hs;have:=hs.fr.eval c;rw[hc]at this;generalize a.eval c=u at this;cases this;rfl
 intro hb;obtain⟨b1,g1⟩:=h hb;refine⟨b1,λw I φ a hs ha Q hQ=>?_⟩;have:=g1 w I φ a hs ha Q hQ;cases b with
 | true=>exact wp_cond (MP hs) this
 | false=>exact wp_cond (MP hs) this
def Bg.skip{P:Program}{nt base:Nat}(s:St):Bg (λQ=>Code.skip.wp P Q) nt base s .normal s:=
 λhb=>⟨hb,λw I φ a hs ha Q hQ=>wp_skip (hQ a w φ I ha rfl hs (Step.refl _ _ _ _ _))⟩
def Pm(M:Nat)(I0:Nat->Prop)(w:World)(I:Nat->Prop)(φ:Ac)(S:St):Prop:=M<=w.heap.size/\(∀ B,Ca φ (Ab S.hp) B->M<=B/\F7 w B) /\ ∀ B,I B->I0 B\/M<=B
def Up(m M:Nat)(I0:Nat->Prop)(w:World)(I:Nat->Prop)(φ:Ac)(S:St):Prop:=Pm M I0 w I φ S /\ ∀ B,I B->m<=B/\F7 w B
abbrev Df:=World->(Nat->Prop)->Ac->St->Prop
def LG(M:Nat)(A C:Df)(X:(Exit->Act->World->Prop)->Act->World->Prop)(nt:Nat)(S:St)(e:AX)(T:St):Prop:=
 ∀ w I φ a,BC w I φ S a->A w I φ S->nt<=a.tmps.size -> ∀ Q,(∀ a' w' φ' I',nt<=a'.tmps.size->a'.defers=a.defers->BC w' I' φ' T a'->C w' I' φ' T->Ext (λB=>M<=B) w w'->Q e.x a' w')->X Q a w
section
variable {P:Program} {M m nt:Nat} {I0:Nat->Prop}
def Step.pm{w w':World}{I I':Nat->Prop}{φ φ':Ac}{S T:St}(st:Step 0 (Ab S.hp) φ I w (Ab T.hp) φ' I' w')(hh:RH w' I' φ' (Ab T.hp))(h:Pm M I0 w I φ S):Pm M I0 w' I' φ' T/\Ext (λB=>M<=B) w w':=by
 obtain⟨h1,h2,h3⟩:=h;refine⟨⟨CI h1 st.ext.size,λB hB=>⟨?_,st.ok B (.inr hB) λx=>?_⟩,λB hB=>?_⟩,st.ext.weaken λB hB=>(h2 B hB).1⟩
 ·rcases st.mt B hB with x | x
  ·exact(h2 B x).1
  ·omega
 ·rcases x with x | x
  ·obtain⟨b,o,s,e1,e2⟩:=hB;exact absurd (st.F8 B x) (hh.CP b B o s e1 e2)
  ·exact(h2 B x).2
 ·rcases st.F3 B hB with x | x | x
  ·exact h3 B x
  ·exact .inr (h2 B x).1
  ·exact .inr (by omega)
def Bg.pm{X:(Exit->Act->World->Prop)->Act->World->Prop}{S T:St}{e:AX}(h:Bg X nt 0 S e T):LG M (Pm M I0) (Pm M I0) X nt S e T:=
 λw I φ a hs hA ha Q hQ=>(h (Bu _)).2 w I φ a hs ha Q λa' w' φ' I' c1 c2 c3 c4=>hQ a' w' φ' I' c1 c2 c3 (c4.pm c3.hh hA).1 (c4.pm c3.hh hA).2
def Bg.Wv{X:(Exit->Act->World->Prop)->Act->World->Prop}{S T:St}{e:AX}(h:Bg X nt 0 S e T)(hm:m<=M):LG M (Up m M I0) (Up m M I0) X nt S e T:=
 λw I φ a hs hA ha Q hQ=>(h (Bu _)).2 w I φ a hs ha Q λa' w' φ' I' c1 c2 c3 c4=>by
  obtain⟨hP,hI⟩:=hA;obtain⟨g1,g2⟩:=c4.pm c3.hh hP;refine hQ a' w' φ' I' c1 c2 c3 ⟨g1,λB hB=>⟨?_,c4.ok B (.inl hB) λx=>?_⟩⟩ g2
  ·rcases c4.F3 B hB with x | x | x
   ·exact(hI B x).1
   ·have:=(hP.2.1 B x).1;omega
   ·have:=hP.1;omega
  ·rcases x with x | x
   ·exact(hI B x).2
   ·exact(hP.2.1 B x).2
def LG.seq{A B C:Df}{x y:Code}{S S1 T:St}{e:AX}(h1:LG M A B (λQ=>x.wp P Q) nt S .normal S1)(h2:LG M B C (λQ=>y.wp P Q) nt S1 e T):LG M A C (λQ=>(Code.seq x y).wp P Q) nt S e T:=
 λw I φ a hs hA ha Q hQ=>wp_seq (h1 w I φ a hs hA ha _ λa1 w1 Dd I1 c1 c2 c3 c4 c5=>h2 w1 I1 Dd a1 c3 c4 c1 Q λa2 w2 BO I2 d1 d2 d3 d4 d5=>
  hQ a2 w2 BO I2 d1 (d2.trans c2) d3 d4 (c5.trans d5 λB hB=>.inl hB))
def LG.cond{A C:Df}{x y:Code}{c:Operand}{b:Bool}{S T:St}{e:AX}(hc:KK (Bb S.fr) c=.bool b)(h:LG M A C (λQ=>(bif b then x else y).wp P Q) nt S e T):LG M A C (λQ=>(Code.cond c x y).wp P Q) nt S e T:=by
 intro w I φ a hs hA ha Q hQ;have MP:a.eval c=.bool b:=by have:=hs.fr.eval c;rw[hc]at this;generalize a.eval c=u at this;cases this;rfl
 have:=h w I φ a hs hA ha Q hQ;cases b with
 | true=>exact wp_cond MP this
 | false=>exact wp_cond MP this
def LG.U2{A C:Df}{x:Code}{id:Nat}{S T:St}(h:LG M A C (λQ=>x.wp P Q) nt S .normal T):LG M A C (λQ=>(Code.block id x).wp P Q) nt S .normal T:=
 λw I φ a hs hA ha Q hQ=>Nz (h w I φ a hs hA ha _ hQ)
def Ow(A B:Df)(S S':St):Prop:=∀ w I φ a,BC w I φ S a->A w I φ S -> ∃ J φ',BC w J φ' S' a/\B w J φ' S'
def LG.RD{A B C:Df}{X:(Exit->Act->World->Prop)->Act->World->Prop}{S S' T:St}{e:AX}(hr:Ow A B S S')(h:LG M B C X nt S' e T):LG M A C X nt S e T:=
 λw I φ a hs hA ha Q hQ=>by obtain⟨J,φ',s1,s2⟩:=hr w I φ a hs hA;exact h w J φ' a s1 s2 ha Q hQ
def LG.to{A B C:Df}{X:(Exit->Act->World->Prop)->Act->World->Prop}{S S' T:St}{e:AX}(h:LG M A B X nt S e S')(hr:Ow B C S' T):LG M A C X nt S e T:=
 λw I φ a hs hA ha Q hQ=>h w I φ a hs hA ha Q λa' w' φ' I' c1 c2 c3 c4 c5=>by obtain⟨J,BO,s1,s2⟩:=hr w' I' φ' a' c3 c4;exact hQ a' w' BO J c1 c2 s1 s2 c5
end
def TU(P:Program)(f m:Nat)(args:List AV)(r:AV)(h:Heap):Prop:=
 ∀ (w:World) (I:Nat->Prop) (ra:Array Value),RH w I Ac.no (Ab [])->F9 w I Ac.no args ra->m<=w.heap.size ->
  Yr P f ra w λu w'=>∃ φ' J,RV w' J φ' r u/\RH w' J φ' (Ab h)/\Ext (λ_=>False) w w'/\(∀ B,J B->m<=B/\F7 w' B)/\(∀ B,Ca φ' (Ab h) B->w.heap.size<=B/\F7 w' B) /\ ∀ B,J B->I B\/w.heap.size<=B
def wR{P:Program}{env:Env}(Bh:DH P env)(D6:It P env){f m:Nat}{fn:Func}{c:Code}(hf:env.code f=some fn)(hb:fn.body=some c){args:List AV}{T:St}{e:AX}(he:e=.normal\/e=.ret)
  (L:∀ M I0,m<=M->LG M (Pm M I0) (Up m M I0) (λQ=>c.wp P Q) fn.ntmps {fr:=Ej 0 args,hp:=[]} e T) {r:AV} {h:Heap} (hr:Ip env.tt T fn.results.toList (λvs=>MQ 0 (Ge vs) T.hp)=some (r,h)) :
  TU P f m args r h:=by
 obtain⟨hfn,hbody,hname,A8⟩:=D6 f fn hf;obtain⟨vs,h4,h5⟩:=lW Bh.tt _ _ hr;intro w I ra hh hx hm;refine .inl ⟨?_,calls_of_wp hfn hb ?_⟩
 ·simp only[callFunc,Ce,run_program,Co,hfn,hname,hbody,I8,Hg,CS]
 ·have hst:BC w I Ac.no {fr:=Ej 0 args,hp:=[]} {tmps:=ra++Array.replicate (fn.ntmps - ra.size) undef,defers:=[]}:=⟨hh,mD hx _⟩
  refine L w.heap.size I hm w I Ac.no _ hst ⟨Ar _,λB hB=>(Fw hB).elim,λB hB=>.inl hB⟩ (by simp;omega) _ λa' w' φ' I' c1 c2 c3 c4 c5=>?_;obtain⟨us,d1,d2,d3⟩:=h5 w' I' φ' a' c3;have Ew:(results fn a'.tmps).run P w'=.ok (if h:us.toArray.size=1 then us.toArray[0]else .tuple us.toArray) w':=by unfold results;rw[gj];simp only[map_eq_pure_bind,bind_assoc,pure_bind,Ce];exact(congrArg (λ(x:Result (List Value))=>x.andThen λus w=>(pure (if h:us.toArray.size=1 then us.toArray[0]else Value.tuple us.toArray):Sem Value).run P w) d1)
  have C8:RV w' I' φ' (Ge vs) (if h:us.toArray.size=1 then us.toArray[0]else .tuple us.toArray):=by
   have KZ:us.length ≠ 1->RV w' I' φ' (.Am vs) (if h:us.toArray.size=1 then us.toArray[0]else .tuple us.toArray):=by intro hne;rw[dif_neg (by simpa using hne)];exact .Am _ _ (by simpa using d2) λi x u e e'=>d3 i x u e (by simpa using e')
   cases vs with
   | nil=>exact KZ (by simp at d2;omega)
   | cons v l=>
    cases l with
    | nil=>
     cases us with
     | nil=>simp at d2
     | cons u us=>
      cases us with
      | nil=>exact d3 0 v u rfl rfl
      | cons u' us=>simp at d2
    | cons v' l=>exact KZ (by simp at d2;omega)
  generalize hu:(if h:us.toArray.size=1 then us.toArray[0]else .tuple us.toArray)=u at Ew C8;have hso:BC w' I' φ' {fr:=[(0,Ge vs)],hp:=T.hp} {tmps:=#[u],defers:=[]}:=by
   refine⟨c3.hh,λt=>?_⟩;cases t with
   | zero=>exact C8
   | succ t=>exact .undef _
  obtain⟨_,BO,n2,n3⟩:=Rp 0 [0] hso (Bu _);cases h4;obtain⟨hP,hI⟩:=c4;have hP2:=(Step.pm (S:=T) (T:=norm 0 [0] {fr:=[(0,Ge vs)],hp:=T.hp}) n3 n2.hh hP).1;have HZ:bodyPost P fn (λe w2=>∃ u,e=.returned u /\ ∃ φ' J,RV w2 J φ' (Bb (norm 0 [0] {fr:=[(0,Ge vs)],hp:=T.hp}).fr 0) u/\RH w2 J φ' (Ab (norm 0 [0] {fr:=[(0,Ge vs)],hp:=T.hp}).hp)/\Ext (λ_=>False) w w2/\(∀ B,J B->m<=B/\F7 w2 B)/\(∀ B,Ca φ' (Ab (norm 0 [0] {fr:=[(0,Ge vs)],hp:=T.hp}).hp) B->w.heap.size<=B/\F7 w2 B) /\ ∀ B,J B->I B\/w.heap.size<=B) .normal a' w':=by refine⟨c2,_,Ew,_,rfl,BO,I',n2.fr 0,n2.hh,?_,hI,hP2.2⟩;have:=(Ext.refl (λ_=>False) w).trans c5 λB hB=>.inr hB;exact this
  rcases he with rfl | rfl
  ·exact HZ
  ·exact HZ
end Go.AM
end
section
open Go Go.AM Go.Md
namespace Go.Hd
open Go.Wk
def eDe(l:List Af):Env:=Cw [] [(WN,5)] [] l
def avQ(n:Nat)(F:Nat->List AV)(i:Nat)(j:Nat):CO 1 (eDe []) 9 WN [AV.sl 3 0 0 (n+1) (n+1),AV.int .i64 (↑i:Int),AV.int .i64 (↑j:Int)] [BS.seq true 3 (n+1) F] =
 bif decide ((↑(n+1):Int)<=(↑(Kc (n+1) (n+1)):Int))then
  bif decide ((↑j:Int)<=(↑(n+1):Int))then
   bif decide ((↑i:Int)<=(↑j:Int))then
    bif decide ((↑i:Int)=(↑j:Int))then
     some ((AV.sl 3 0 0 (n+1) (n+1),[BS.seq true 3 (n+1) F]))
    else
     bif decide ((↑i:Int)<=(↑(Kc (n+1) (n+1)):Int))then
      bif decide ((↑j:Int)<=(↑(n+1):Int))then
       bif i.beq 0||i.ble (n+1)then
        bif(n+1 - j).beq 0||(n+1 - j+(0+j)).ble (n+1)then
         bif((i+(n+1 - j))*48).ble 140737488355328&&(i+(n+1 - j)).ble 140737488355328 then
          bif(n+1 - j).beq 0 then
           bif decide ((↑(n+1):Int)<=(↑(Kc (i - 0) (UU false (n+1) (Kc (n+1) (n+1) - 0))):Int))then
            bif decide ((↑(i - 0):Int)<=(↑(n+1):Int))then
             bif((n+1) - i).beq 0 then
              some ((AV.sl 3 0 0 i (max (n+1) (n+1)),[BS.seq true 3 (n+1) F]))
             else
              bif(0+i+((n+1) - i)).ble (n+1)then
               some ((AV.sl 3 0 0 i (max (n+1) (n+1)),[BS.seq true 3 (n+1) λi_1=>bif i_1.blt (0+i)then F i_1 else bif i_1.blt (0+i+((n+1) - i))then [AV.int .i64 0,AV.str [],AV.Ak]else F i_1]))
              else none
            else none
           else none
          else
           bif roomFor (i+(n+1 - j)) (max (n+1) (n+1))then
            bif(0+max (n+1) (n+1)).ble (n+1)then
             bif decide ((↑(n+1):Int)<=(↑(Kc (i - 0+(View.fn (n+1 - j) λi=>F (i+(0+j))).len) (UU false (n+1) (Kc (n+1) (n+1) - 0))):Int))then
              bif decide ((↑(i - 0+(View.fn (n+1 - j) λi=>F (i+(0+j))).len):Int)<=(↑(n+1):Int))then
               bif((n+1) - (i+(n+1 - j))).beq 0 then
                some ((AV.sl 3 0 0 (i+(n+1 - j)) (max (n+1) (n+1)),[BS.seq true 3 (n+1) λi_1=>bif i_1.blt (0+i)then F i_1 else bif i_1.blt (0+(i+(n+1 - j)))then F (i_1 - (0+i)+(0+j))else F i_1]))
               else
                bif(0+(i+(n+1 - j))+((n+1) - (i+(n+1 - j)))).ble (n+1)then
                 some ((AV.sl 3 0 0 (i+(n+1 - j)) (max (n+1) (n+1)),[BS.seq true 3 (n+1) λi_1=>bif i_1.blt (0+(i+(n+1 - j)))then bif i_1.blt (0+i)then F i_1 else bif i_1.blt (0+(i+(n+1 - j)))then F (i_1 - (0+i)+(0+j))else F i_1 else bif i_1.blt (0+(i+(n+1 - j))+((n+1) - (i+(n+1 - j))))then [AV.int .i64 0,AV.str [],AV.Ak]else bif i_1.blt (0+i)then F i_1 else bif i_1.blt (0+(i+(n+1 - j)))then F (i_1 - (0+i)+(0+j))else F i_1]))
                else none
              else none
             else none
            else none
           else
            bif decide ((↑(n+1):Int)<=(↑(Kc (CG (View.fn (i - 0) λi=>F (i+(0+0))) (View.fn (n+1 - j) λi=>F (i+(0+j)))).len (U4 (CG (View.fn (i - 0) λi=>F (i+(0+0))) (View.fn (n+1 - j) λi=>F (i+(0+j)))))):Int))then
             bif decide ((↑(CG (View.fn (i - 0) λi=>F (i+(0+0))) (View.fn (n+1 - j) λi=>F (i+(0+j)))).len:Int)<=(↑(n+1):Int))then
              bif((n+1) - (i+(n+1 - j))).beq 0 then
               some ((AV.sl 3 1 0 (i+(n+1 - j)) 0,[BS.dead,BS.seq true 3 (i+(n+1 - j)) λi_1=>bif i_1.blt i then F i_1 else bif i_1.blt (i+(n+1 - j))then F (i_1 - i+(0+j))else F i]))
              else
               bif(0+(i+(n+1 - j))+((n+1) - (i+(n+1 - j)))).ble (i+(n+1 - j))then
                some ((AV.sl 3 1 0 (i+(n+1 - j)) 0,[BS.dead,BS.seq true 3 (i+(n+1 - j)) λi_1=>bif i_1.blt (0+(i+(n+1 - j)))then bif i_1.blt i then F i_1 else bif i_1.blt (i+(n+1 - j))then F (i_1 - i+(0+j))else F i else bif i_1.blt (0+(i+(n+1 - j))+((n+1) - (i+(n+1 - j))))then [AV.int .i64 0,AV.str [],AV.Ak]else bif i_1.blt i then F i_1 else bif i_1.blt (i+(n+1 - j))then F (i_1 - i+(0+j))else F i]))
               else none
             else none
            else none
         else none
        else none
       else none
      else none
     else none
   else none
  else none
 else none:=by kernel_rfl
def adY{X:Type}{l:List X}{i:Nat}(h:i<l.length):(l.eraseIdx i).length=l.length - 1:=List.length_eraseIdx_of_lt h
def atk{X:Type}{z:X}{l:List X}{i k:Nat}:(l.eraseIdx i).getD k z=if k<i then l.getD k z else l.getD (k+1) z:=by simp only[List.getD,List.getElem?_eraseIdx];split <;> rfl
def atl(n:Nat)(F:Nat->List AV)(i:Nat)(hi:i<=n)(hn:n<=100000):∃ (c:Nat) (G:Nat->List AV),CO 1 (eDe []) 9 WN [.sl 3 0 0 (n+1) (n+1),.int .i64 (i:Int),.int .i64 ((i+1:Nat):Int)] [.seq true 3 (n+1) F]=some (.sl 3 0 0 n c,[.seq true 3 (n+1) G]) /\
  ∀ k,k<n->G k=if k<i then F k else F (k+1):=by
 have hcap:∀ x,x<=n+1->Kc x (n+1)=n+1:=λx hx=>by unfold Kc;exact Nat.max_eq_right hx
 have hm:max (n+1) (n+1)=n+1:=Nat.max_self _;have hl:∀ x,UU false (n+1) x=x:=λx=>rfl;have hr:∀ x,roomFor x (n+1)=Nat.ble x (n+1):=λx=>rfl;have hv:∀ (m:Nat) (f:Nat->List AV),(View.fn m f).len=m:=λm f=>rfl;rw[avQ n F i (i+1)];simp only[hcap (n+1) (Ar _),hm,hl,hr,PS,Ev,hv];have e1:i+(n+1 - (i+1))=n:=by omega
 rw[e1];rw[hcap n (by omega),hcap i (by omega)];have p1:decide (((n+1:Nat):Int)<=((n+1:Nat):Int))=true:=Ax (JG _);have p2:decide (((i+1:Nat):Int)<=((n+1:Nat):Int))=true:=Ax (by omega);have p3:decide (((i:Nat):Int)<=((i+1:Nat):Int))=true:=Ax (by omega);have p4:decide (((i:Nat):Int)=((i+1:Nat):Int))=false:=AN (by omega);have p5:decide (((i:Nat):Int)<=((n+1:Nat):Int))=true:=Ax (by omega);have p6:decide (((n:Nat):Int)<=((n+1:Nat):Int))=true:=Ax (by omega);have b1:Nat.ble i (n+1)=true:=Bn (by omega);have b2:Nat.ble (n+1 - (i+1)+(i+1)) (n+1)=true:=Bn (by omega);have b3:Nat.ble (n*48) 140737488355328=true:=Bn (by omega);have b4:Nat.ble n 140737488355328=true:=Bn (by omega);have b5:Nat.ble n (n+1)=true:=Bn (by omega);have b6:Nat.ble (n+1) (n+1)=true:=Bn (Ar _);have b7:Nat.beq (n+1 - n) 0=false:=beq_false (by omega);have b8:Nat.ble (n+(n+1 - n)) (n+1)=true:=Bn (by omega);simp only[p1,p2,p3,p4,p5,p6,b1,b2,b3,b4,b5,b6,b7,b8,Ae,Aj,Bool.or_true,CV];by_cases h:i=n
 ·subst h;have b9:Nat.beq (i+1 - (i+1)) 0=true:=beq_true (by omega);simp only[b7,b8,b9,Ae,Aj];exact⟨_,_,rfl,λk hk=>by rw[Cd hk,Ae,Ay hk]⟩
 ·have b9:Nat.beq (n+1 - (i+1)) 0=false:=beq_false (by omega);simp only[b9,Aj];refine⟨_,_,rfl,λk hk=>?_⟩;rw[Cd hk,Ae];by_cases YK:k<i
  ·rw[Cd YK,Ae,Ay YK]
  ·rw[Js (by omega),Aj,AE YK,show k - i+(i+1)=k+1 by omega];simp[hk]
def aqu(l:List Md.Ask)(i:Nat)(hi:i<l.length)(hl:l.length<=100000):At PG WN [.sn 3 0 l.length,.int .i64 (i:Int),.int .i64 ((i:Int)+1)] [Bf 3 D5 default l] (.sn 3 0 (l.length - 1)) [Bf 3 D5 default (l.eraseIdx i)]/\[Bf 3 D5 default l].length<=[Bf 3 D5 default (l.eraseIdx i)].length:=by
 obtain⟨n,hn⟩:∃ n,l.length=n+1:=⟨l.length - 1,by omega⟩
 obtain⟨c,G,e,hG⟩:=atl n (BY l) i (by omega) (by omega);have k:=Ds (λk hk=>by cases hk) (c:=1) (hp:=[.seq true 3 (n+1) (BY l)]) (Ar 1) e;refine⟨?_,Ar _⟩;have hs:Bf 3 D5 default l=.seq true 3 (n+1) (BY l):=by unfold Bf;rw[hn];rfl
 have Kx:Bf 3 D5 default (l.eraseIdx i)=.seq true 3 n (BY (l.eraseIdx i)):=by unfold Bf;rw[adY hi,hn];rfl
 rw[hs,Kx,hn,Nat.add_sub_cancel];refine(k.1.sub (args:=[.sn 3 0 (n+1),.int .i64 (i:Int),.int .i64 ((i:Int)+1)]) (.cons (E9.axu (by omega)) (.refl _)) (.refl _)).KN ?_ (.cons (.seq true 3 _ _ _ _ (by omega) λk hk=>?_) .nil)
 ·exact E9.sn
 ·rw[hG k hk];have:BY (l.eraseIdx i) k=if k<i then BY l k else BY l (k+1):=by
   unfold BY;rw[atk];split <;> rfl
  rw[this];exact .refl _
abbrev LI:=List Md.Ask × Nat
def c7(a:List AV)(h:Heap):LI:=(Kt Mq (Ab h 0),(AS a 1).toNat)
def YV(p:LI):List AV × Heap:=([.sn 3 0 p.1.length,.int .i64 (p.2:Int),.int .i64 ((p.2:Int)+1)],[Bf 3 D5 default p.1])
def afb(p:LI):c7 (YV p).1 (YV p).2=p:=Cv (S6 (sz:=3) l8 p.1) (by show((p.2:Nat):Int).toNat=p.2;simp)
def xR:Af:=.EC WN c7 (λp=>p.2<p.1.length/\p.1.length<=100000) YV (λp=>(.sn 3 0 (p.1.eraseIdx p.2).length,[Bf 3 D5 default (p.1.eraseIdx p.2)]))
def acX:xR.Ok PG:=Af.EL λp h=>by rw[adY h.1];exact aqu p.1 p.2 h.1 h.2
structure Bz where
 f:Ai->Ad->Ai
 p:Ai->Ad->Prop
def Bz.Ok(c:Bz):Prop:=∀ w m,c.p w m->At PG Nm [.ptr 0 0 0,.agg (Aq m)] (Bo w) (.Am []) (BE (c.f w m))
def aY(c:Bz):Af:=.EC Nm EA (λp=>c.p p.1 p.2) Es (λp=>(.Am [],BE (c.f p.1 p.2)))
def uN{c:Bz}(h:c.Ok):(aY c).Ok PG:=Af.EL λp hp=>⟨h p.1 p.2 hp,by show 4<=7;omega⟩
def eCs(l:List Af):Env:=Cw [] [(Nm,5),(UD,5)] [] l
def ain(l:List Ad)(i:Int):Fr:=[(0,.ptr 0 0 0),(6,BB l),(7,.int .i64 l.length),(8,.int .i64 i)]
def kf(c:Bz)(l:List Ad)(N m:Nat)(w:Ai)(i:Int):Option (AV × Heap):=LP (eCs [aY c]) N 4 UD (Cm 1 4) 0 [] m {fr:=ain l i,hp:=Bo w}
def rr(c:Bz)(l:List Ad)(N m:Nat)(w:Ai)(i:Int):Option (AV × Heap):=LP (eCs [aY c]) N 4 UD (Cm 1 4) 0 [] m {fr:=ain l i,hp:=BE w}
def avR(c:Bz)(l:List Ad)(N:Nat)(w:Ai):CO 1 (eCs [aY c]) (N+1) UD [.ptr 0 0 0,BB l] (Bo w)=kf c l N N w 0:=by kernel_rfl
def agV(c:Bz)(l:List Ad)(N m:Nat)(w:Ai)(i:Int):kf c l N (m+1) w i=bif decide (i<(l.length:Int))then rg i l.length (BA EA (λp=>c.p p.1 p.2) Es [.ptr 0 0 0,.agg (Aq (l.getD i.toNat default))] (Bo w) λy=>rr c l N m (c.f y.1 y.2) (Ao (i+1)))
 else some (.Am [],BE w):=by kernel_rfl
def agW(c:Bz)(l:List Ad)(N m:Nat)(w:Ai)(i:Int):rr c l N (m+1) w i=bif decide (i<(l.length:Int))then rg i l.length (BA EA (λp=>c.p p.1 p.2) Es [.ptr 0 0 0,.agg (Aq (l.getD i.toNat default))] (Bo w) λy=>rr c l N m (c.f y.1 y.2) (Ao (i+1)))
 else some (.Am [],BE w):=by kernel_rfl
def Nx(c:Bz):Ai->List Ad->Ai
 | w,[]=>w
 | w,m::r=>Nx c (c.f w m) r
def Nu(c:Bz):Ai->List Ad->Prop
 | _,[]=>True
 | w,m::r=>c.p w m/\Nu c (c.f w m) r
def agX{c:Bz}{w:Ai}{m:Ad}(h:c.p w m){R:Type}{K:WM->Option R}:BA EA (λp=>c.p p.1 p.2) Es [.ptr 0 0 0,.agg (Aq m)] (Bo w) K=K (w,m):=Dw (w,m) (U6 (w,m)) h (.refl _) (.refl _)
def al1(c:Bz)(hc:c.Ok)(w:Ai)(l:List Ad)(hl:l.length<=100000)(h:Nu c w l):At PG UD [.ptr 0 0 0,BB l] (Bo w) (.Am []) (BE (Nx c w l))/\(Bo w).length<=(BE (Nx c w l)).length:=by
 obtain⟨N,hN⟩:∃ N,N=200000:=⟨_,rfl⟩
 have axZ:∀ d i m w,i+d=l.length->d<m->Nu c w (l.drop i)->rr c l N m w (i:Nat)=some (.Am [],BE (Nx c w (l.drop i))):=by
  intro d
  induction d with
  | zero=>intro i m w hi hm hk;obtain⟨m,rfl⟩:=B3 m (by omega);rw[agW,AN (by omega),Aj,Gj (by omega)];rfl
  | succ d ih=>
   intro i m w hi hm hk;obtain⟨m,rfl⟩:=B3 m (by omega);have hil:i<l.length:=by omega
   have hd:=drop_cons (z:=(default:Ad)) hil;have hw:Ao ((i:Int)+1)=((i+1:Nat):Int):=Cs (by omega);rw[hd]at hk ⊢;rw[agW,Ax (show((i:Nat):Int)<(l.length:Int) by omega),Ae,B8 hil,BV,agX hk.1,hw];exact ih (i+1) m _ (by omega) (by omega) hk.2
 have run:kf c l N N w ((0:Nat):Int)=some (.Am [],BE (Nx c w l)):=by
  obtain⟨m,hm⟩:∃ m,N=m+1:=⟨N - 1,by omega⟩
  have st:∀ i,kf c l N N w i=kf c l N (m+1) w i:=λi=>by rw[<- hm]
  rw[st];cases l with
  | nil=>rw[agV];rfl
  | cons x r=>rw[agV,Ax (show((0:Nat):Int)<((x::r).length:Int) by simp),Ae,B8 (show 0<(x::r).length by simp),BV];show BA EA (λp=>c.p p.1 p.2) Es [.ptr 0 0 0,.agg (Aq x)] (Bo w) _=_;rw[agX h.1,Cs (Bu _)];have:=axZ r.length 1 m (c.f w x) (by simp;omega) (by simp at hl;omega) h.2;exact this
 exact Ds (ak (uN hc) AR) (c:=1) (n:=N+1) (by show 1<=4;omega) ((avR c l N w).trans run)
abbrev WK:=Ai × An
def ru(a:List AV)(h:Heap):WK:=(Jb h,Ia a 1)
def kg(p:WK):List AV × Heap:=([.ptr 0 0 0,.str p.2],Bo p.1)
def atm(p:WK):ru (kg p).1 (kg p).2=p:=Cv (Rt p.1) rfl
def B4(w:Ai)(k:An):AH × Bool × Ai:=
 bif(EY w.d.rep.tail k).2 then((EY w.d.rep.tail k).1,true,w)else bif w.Hu&&A5 w.DI.key k then(w.DI,true,w)else((F4 (w.d.clean,k)).1,(F4 (w.d.clean,k)).2.2,Jc w (F4 (w.d.clean,k)).2.1)
def Qs(w:Ai):Prop:=w.d.rep.tail.log.length<=100000/\w.d.clean.length<=100000
def aky(w:Ai)(k:An)(h:Qs w):At PG SW [.ptr 0 0 0,.str k] (Bo w) (.Am [.agg (AK (B4 w k).1),.bool (B4 w k).2.1]) (BE (B4 w k).2.2)/\(Bo w).length<=(BE (B4 w k).2.2).length:=by
 refine Ds (ak abI (ak adS AR)) (c:=1) (n:=9) (by show 1<=4;omega) ((avK w k).trans ?_);have hg:xP w k=some (.Am [.agg (AK (F4 (w.d.clean,k)).1),.bool (F4 (w.d.clean,k)).2.2],BE (Jc w (F4 (w.d.clean,k)).2.1)):=Bj (w.d.clean,k) (m9 (w.d.clean,k)) h.2 (.refl _);rw[ae7 h.1,hg];unfold B4;cases h1:(EY w.d.rep.tail k).2 with
 | true=>rw[Ae,Ae]
 | false=>
  rw[Aj,Aj];cases h2:w.Hu with
  | false=>rfl
  | true=>
   cases h3:A5 w.DI.key k with
   | true=>rfl
   | false=>rfl
def afc:Af:=.EC SW ru (λp=>Qs p.1) kg (λp=>(.Am [.agg (AK (B4 p.1 p.2).1),.bool (B4 p.1 p.2).2.1],BE (B4 p.1 p.2).2.2))
def al2:afc.Ok PG:=Af.EL λp h=>aky p.1 p.2 h
def wT(w:Ai)(q:Ad):Prop:=∀ j,j<w.d.asks.length->(w.d.asks.getD j default).key=q.op.key -> ¬ (((w.d.asks.getD j default).calls.length:Int)<w.c.Ou)
def bF(w:Ai)(q:Ad):Bool:=w.d.asks.any λa=>A5 a.key q.op.key
def JO(w:Ai)(q:Ad):Md.Ask:=⟨w.d.next+1,q.op.key,[q]⟩
def VE(w:Ai)(q:Ad):Ai:=bif bF w q then w else {w with d:={w.d with next:=w.d.next+1,asks:=w.d.asks++[JO w q]},out:=w.out++[KO (w.d.rep,JO w q)]}
def aZ(w:Ai)(q:Ad):Prop:=wT w q/\K2 q/\w.d.asks.length<=100000/\w.out.length<=1000000/\0<=w.d.next/\w.d.next<=1000000
def aqv(w:Ai)(q:Ad)(h:aZ w q):At PG Ll [.ptr 0 0 0,.agg (Aq q)] (Bo w) (.Am []) (BE (VE w q))/\(Bo w).length<=(BE (VE w q)).length:=by
 obtain⟨N,hN⟩:∃ N,N=200000:=⟨_,rfl⟩
 obtain⟨h1,h2,h3,h4,h5,h6⟩:=h;have hnx:Ao (w.d.next+1)=w.d.next+1:=by rw[Ru];omega
 have ER:oi w q=some (.Am [],Jo (o7 w) w.d.waits.length (CM w.d.waits) (w.d.asks.length+1) (BQ w.d.asks.length (BY w.d.asks) (.list [TS w q q])) (w.out.length+1) (BQ w.out.length (BP w.out) (.list [Aq (KO (w.d.rep,JO w q))]))):=by
  unfold oi;have t:∀ {K:Av × Md.Ask->Option (AV × Heap)},gC (λa=>(Fj (Bd a 0),Mq (Bd a 1))) (λ_=>True) YM [.agg (AJ w.d.rep),.agg (TS w q q)] K=K (w.d.rep,JO w q):=λ{K}=>by
   refine Bj (w.d.rep,JO w q) (Cv (GZ w.d.rep) ?_) trivial (.cons (.refl _) (.cons (.agg ?_) .nil))
   ·show(⟨Ao (w.d.next+1),q.op.key,[Dj (Aq q)]⟩:Md.Ask)=JO w q;rw[hnx,Ml];rfl
   ·show CJ (TS w q q) [.int .i64 (w.d.next+1),.str q.op.key,BB [q]];unfold TS;rw[hnx];exact .cons (.refl _) (.cons (.refl _) (.cons (Br.PJ [q] rfl) .nil))
  rw[og h2,Bn (Ar _),Ae,Bn (show(w.d.asks.length+1)*48<=140737488355328 by omega),Bn (show w.d.asks.length+1<=140737488355328 by omega),CV,Ae,t,Bn (Ar _),Ae,
   Bn (show(w.out.length+1)*392<=140737488355328 by omega),Bn (show w.out.length+1<=140737488355328 by omega),CV,Ae]
 have run:∀ d i m,i+d=w.d.asks.length->d<m->q9 w q N m (i:Nat)=bif(w.d.asks.drop i).any (λa=>A5 a.key q.op.key)then some (.Am [],BE w)else oi w q:=by
  intro d
  induction d with
  | zero=>intro i m hi hm;obtain⟨m,rfl⟩:=B3 m (by omega);rw[agS,AN (by omega),Aj,Gj (by omega)];rfl
  | succ d ih=>
   intro i m hi hm;obtain⟨m,rfl⟩:=B3 m (by omega);have hil:i<w.d.asks.length:=by omega
   have hd:=drop_cons (z:=(default:Md.Ask)) hil;have hw:Ao ((i:Int)+1)=((i+1:Nat):Int):=Cs (by omega);have hj:=h1 i hil;rw[hd,agS,Ax (show((i:Nat):Int)<(w.d.asks.length:Int) by omega),Ae,B8 hil,BV,Cd hil,Ae,hw,List.any_cons];cases hs:A5 (w.d.asks.getD i default).key q.op.key with
   | true=>
    have hk:(w.d.asks.getD i default).key=q.op.key:=by rw[DV]at hs;simpa using hs
    rw[Ae,Ae,AN (hj hk),Aj,Bool.true_or,Ae]
   | false=>rw[Aj,Bool.false_or];exact ih (i+1) m (by omega) (by omega)
 have e:=(avL N w q).trans (run w.d.asks.length 0 N (by omega) (by omega));rw[Hf]at e;unfold VE bF;cases hh:(w.d.asks.any λa=>A5 a.key q.op.key)with
 | true=>rw[hh,Ae]at e;exact Ds vB (c:=1) (n:=N+1) (by show 1<=4;omega) e
 | false=>
  rw[hh,Aj,ER]at e;have c:=Ds vB (c:=1) (n:=N+1) (by show 1<=4;omega) e;refine⟨?_,by show 4<=7;omega⟩;have GP:CJ (TS w q q) (D5 (JO w q)):=by show CJ (TS w q q) [.int .i64 (w.d.next+1),.str q.op.key,BB [q]];unfold TS;rw[hnx];exact .cons (.refl _) (.cons (.refl _) (.cons (Br.PJ [q] rfl) .nil))
  have hd:BE {w with d:={w.d with next:=w.d.next+1,asks:=w.d.asks++[JO w q]},out:=w.out++[KO (w.d.rep,JO w q)]} =
    Jo (o7 w) w.d.waits.length (CM w.d.waits) (w.d.asks.length+1) (BY (w.d.asks++[JO w q])) (w.out.length+1) (BP (w.out++[KO (w.d.rep,JO w q)])):=by
   rw[show w.d.asks.length+1=(w.d.asks++[JO w q]).length by simp,show w.out.length+1=(w.out++[KO (w.d.rep,JO w q)]).length by simp,fV];unfold o7;rw[hnx]
  rw[Aj,hd];refine c.1.KN (.refl _) (.cons (.refl _) (.cons (.refl _) (.cons (.refl _) (.cons (.refl _) (.cons (.refl _) (.cons (.seq true 3 _ _ _ _ (Ar _) λi hi=>uJ GP i hi) (.cons (.seq true 31 _ _ _ _ (Ar _) λi hi=>uJ (.refl _) i hi) .nil)))))))
def agY:Af:=.EC Ll EA (λp=>aZ p.1 p.2) Es (λp=>(.Am [],BE (VE p.1 p.2)))
def aoe:agY.Ok PG:=Af.EL λp h=>aqv p.1 p.2 h
def kj:Env:=Cw [] [(Rf,0),(aaa,0),(aac,0)] [] [TQ]
def N5(a b:Int)(K:Int × Int->Option AV):Option AV:=gC (λa=>(AS a 0,AS a 1)) (λ_=>True) KA [.int .i64 a,.int .i64 b] K
def E2(i:Int)(b:Bool):Option AV:=some (.Am [.int .i64 i,.bool b])
def sr0(F:Nat->Seen)(s:Int):A6 kj 30 Rf [.tr 7 0 λi=>BH (F i),.int .i64 s]=E2 0 false:=by kernel_rfl
def sr1(F:Nat->Seen)(s:Int):A6 kj 30 Rf [.tr 7 1 λi=>BH (F i),.int .i64 s]=N5 (F 0).Ah s λy=>bif decide (EF y.1 y.2<0)then E2 1 false else N5 (F 0).Ah s λz=>E2 0 (decide (EF z.1 z.2=0)):=by kernel_rfl
def sr2(F:Nat->Seen)(s:Int):A6 kj 30 Rf [.tr 7 2 λi=>BH (F i),.int .i64 s]=N5 (F 1).Ah s λy=>bif decide (EF y.1 y.2<0)then E2 2 false else
 N5 (F 0).Ah s λx=>bif decide (EF x.1 x.2<0)then N5 (F 1).Ah s λz=>E2 1 (decide (EF z.1 z.2=0))else N5 (F 0).Ah s λz=>E2 0 (decide (EF z.1 z.2=0)):=by kernel_rfl
def sr3(F:Nat->Seen)(s:Int):A6 kj 30 Rf [.tr 7 3 λi=>BH (F i),.int .i64 s]=N5 (F 1).Ah s λy=>bif decide (EF y.1 y.2<0)then
  N5 (F 2).Ah s λx=>bif decide (EF x.1 x.2<0)then E2 3 false else N5 (F 2).Ah s λz=>E2 2 (decide (EF z.1 z.2=0))
 else N5 (F 0).Ah s λx=>bif decide (EF x.1 x.2<0)then N5 (F 1).Ah s λz=>E2 1 (decide (EF z.1 z.2=0))else N5 (F 0).Ah s λz=>E2 0 (decide (EF z.1 z.2=0)):=by kernel_rfl
def Ek(l:List Seen)(s:Int):Nat × Bool:=((l.filter λx=>decide (x.Ah<s)).length,l.any λx=>decide (x.Ah=s))
def aof(p:SI)(h:Fe p.1):At PG Rf (MU p) [] (.Am [.int .i64 ((Ek p.1 p.2).1:Nat),.bool (Ek p.1 p.2).2]) []:=by
 obtain⟨l,s⟩:=p;obtain⟨h1,h2⟩:=h;have key:∃ r,A6 kj 30 Rf (MU (l,s))=some r/\r=.Am [.int .i64 ((Ek l s).1:Nat),.bool (Ek l s).2]:=by
  have q:∀ {a b:Int} {K:Int × Int->Option AV},N5 a b K=K (a,b):=λ{a b K}=>iE
  match l,h1,h2 with
  | [],_,_=>exact⟨_,sr0 (λi=>([]:List Seen).getD i default) s,rfl⟩
  | [a],_,_=>
   refine⟨_,(sr1 (λi=>[a].getD i default) s).trans ?_,rfl⟩;simp only[q,Xw,aQ];show(bif decide (a.Ah<s)then E2 1 false else E2 0 (decide (a.Ah=s)))=E2 _ _;unfold Ek;by_cases ha:a.Ah<s
   ·have:¬ a.Ah=s:=by omega
    simp[ha,this,E2]
   ·simp[ha,E2]
  | [a,b],_,h2=>
   have Gn:a.Ah<b.Ah:=by simp at h2;exact h2
   refine⟨_,(sr2 (λi=>[a,b].getD i default) s).trans ?_,rfl⟩;simp only[q,Xw,aQ];show(bif decide (b.Ah<s)then E2 2 false else bif decide (a.Ah<s)then E2 1 (decide (b.Ah=s))else E2 0 (decide (a.Ah=s)))=E2 _ _;unfold Ek;by_cases hb:b.Ah<s
   ·have e1:a.Ah<s:=by omega
    have e2:¬ a.Ah=s:=by omega
    have e3:¬ b.Ah=s:=by omega
    simp[hb,e1,e2,e3,E2]
   ·by_cases ha:a.Ah<s
    ·have e2:¬ a.Ah=s:=by omega
     simp[hb,ha,e2,E2]
    ·have e3:¬ b.Ah=s:=by omega
     simp[hb,ha,e3,E2]
  | [a,b,c],_,h2=>
   have Gn:a.Ah<b.Ah/\a.Ah<c.Ah/\b.Ah<c.Ah:=by simp at h2;exact⟨h2.1.1,h2.1.2,h2.2⟩
   refine⟨_,(sr3 (λi=>[a,b,c].getD i default) s).trans ?_,rfl⟩;simp only[q,Xw,aQ];show(bif decide (b.Ah<s)then bif decide (c.Ah<s)then E2 3 false else E2 2 (decide (c.Ah=s))else bif decide (a.Ah<s)then E2 1 (decide (b.Ah=s))else E2 0 (decide (a.Ah=s)))=E2 _ _;unfold Ek;by_cases hb:b.Ah<s
   ·have e1:a.Ah<s:=by omega
    have e2:¬ a.Ah=s:=by omega
    have e3:¬ b.Ah=s:=by omega
    by_cases hc:c.Ah<s
    ·have e4:¬ c.Ah=s:=by omega
     simp[hb,hc,e1,e2,e3,e4,E2]
    ·simp[hb,hc,e1,e2,e3,E2]
   ·have e4:¬ c.Ah<s:=by omega
    have e5:¬ c.Ah=s:=by omega
    by_cases ha:a.Ah<s
    ·have e2:¬ a.Ah=s:=by omega
     simp[hb,ha,e2,e4,e5,E2]
    ·have e3:¬ b.Ah=s:=by omega
     simp[hb,ha,e3,e4,e5,E2]
 obtain⟨r,e,hr⟩:=key;rw[<- hr];exact Cx (ak U1 AR) e
def agZ:Af:=.spec Rf (λa=>(Bm EU (a.getD 0 .Ak),AS a 1)) (λp=>Fe p.1) MU (λp=>.Am [.int .i64 ((Ek p.1 p.2).1:Nat),.bool (Ek p.1 p.2).2])
def uO:agZ.Ok PG:=Af.BJ aof
end Go.Hd
end
section
namespace Go.Proofs.YtbalmcpknmjgkaaGreat
open Go.RowKit
theorem al3(B q n c i vb voff vc:Nat)(w w1 w2:World)(hi:i<n)(hroom:n+1<=c)(hn63:n+1<=9223372036854775807)
  (hov:∀ x lb cb,(callFunc 207 #[.slice (some ⟨vb,voff,none⟩) 1 vc,.slice (some ⟨B,x,none⟩) lb cb]).run Tryz.prog w=.ok (.value (.bool false)) w)
  (hcp1:∀ ty l m dc sc,l=n - i->m=n+1 - i->(Builtin.copy_ #[34,34] ty #[.slice (some ⟨B,q+(i+1)*7,none⟩) l dc,.slice (some ⟨B,q+i*7,none⟩) m sc]).run Tryz.prog w.drew=.ok (goInt (n - i:Nat)) w1)
  (hcp2:∀ ty l dc,l=n+1 - i->(Builtin.copy_ #[34,34] ty #[.slice (some ⟨B,q+i*7,none⟩) l dc,.slice (some ⟨vb,voff,none⟩) 1 vc]).run Tryz.prog w1=.ok (goInt 1) w2) :
  Calls Tryz.prog 194 #[.slice (some ⟨B,q,none⟩) n c,.int .i64 i,.slice (some ⟨vb,voff,none⟩) 1 vc] w λe w'=>
   e=.returned (.slice (some ⟨B,q,none⟩) (n+1) c)/\w'=w2:=by
 have hz1:¬ ((1:Int)=0):=by omega
 have hz2:¬ ((i:Int)=(n:Int)):=by omega
 have hw1:IntKind.i64.wrap ((i:Int)+(1:Int))=(i:Int)+(1:Int):=by rw[gl];omega
 have hw2:IntKind.i64.wrap ((n:Int)+(1:Int))=(n:Int)+(1:Int):=by rw[gl];omega
 have hb1:(0:Int)<=(i:Int)+(1:Int):=by omega
 have hin:i<=n:=by omega
 have htn:((i:Int)+(1:Int)).toNat=i+1:=by omega
 have hb2:¬ (c=i+1):=by omega
 have hb3:(i:Int)<=(n:Int)+(1:Int):=by omega
 have hb4:¬ (c=i):=by omega
 have mixed:Tryz.prog.follows .mixedOrders=true:=by kernel_rfl
 go_enter Tryz.func194,Tryz.ntmps194
 go_wp2_with (simp only[hov])
 go_region_law_o (refine step_copy_runI rfl _ _ 34 34 rfl _ _ (by simp[Act.eval,Act.put]) (by simp[Act.eval,Act.put]) (hcp1 _ _ _ _ _ (by omega) (by omega)) ?_)
 go_wp2_with (at_builtin;refine wpList_copy_runI _ rfl _ _ 34 34 rfl _ _ rfl rfl (hcp2 _ _ _ (by omega)) ?_)
 go_ret
 exact⟨rfl,rfl⟩
theorem aog(B q n i vb voff vc NB G:Nat)(w w1 w2 w3:World)(hi:i<n)(hG:n+1<=G)(hG63:G<=9223372036854775807)(hn63:n+1<=9223372036854775807)
  (hap:∀ ty x,x=(n:Int)+1 - i->(Builtin.append_ #[34,3] ty #[.slice (some ⟨B,q,none⟩) i n,.int .i64 x]).run Tryz.prog w=.ok (.slice (some ⟨NB,0,none⟩) (n+1) G) w1)
  (hcp1:∀ ty l dc,l=n+1 - i->(Builtin.copy_ #[34,34] ty #[.slice (some ⟨NB,i*7,none⟩) l dc,.slice (some ⟨vb,voff,none⟩) 1 vc]).run Tryz.prog w1=.ok (goInt 1) w2)
  (hcp2:∀ ty l m dc sc,l=n - i->m=n - i->(Builtin.copy_ #[34,34] ty #[.slice (some ⟨NB,(i+1)*7,none⟩) l dc,.slice (some ⟨B,q+i*7,none⟩) m sc]).run Tryz.prog w2.drew=.ok (goInt (n - i:Nat)) w3) :
  Calls Tryz.prog 194 #[.slice (some ⟨B,q,none⟩) n n,.int .i64 i,.slice (some ⟨vb,voff,none⟩) 1 vc] w λe w'=>
   e=.returned (.slice (some ⟨NB,0,none⟩) (n+1) G)/\w'=w3:=by
 have hz1:¬ ((1:Int)=0):=by omega
 have hz2:¬ ((i:Int)=(n:Int)):=by omega
 have hz3:(n:Int)<(n:Int)+1:=by omega
 have hw1:IntKind.i64.wrap ((i:Int)+(1:Int))=(i:Int)+(1:Int):=by rw[gl];omega
 have hw2:IntKind.i64.wrap ((n:Int)+(1:Int))=(n:Int)+(1:Int):=by rw[gl];omega
 have hw3:IntKind.i64.wrap ((n:Int)+(1:Int) - (i:Int))=(n:Int)+(1:Int) - (i:Int):=by rw[gl];omega
 have hb1:(0:Int)<=(i:Int)+(1:Int):=by omega
 have hin:i<=n:=by omega
 have htn:((i:Int)+(1:Int)).toNat=i+1:=by omega
 have hb3:(i:Int)<=(n:Int)+(1:Int):=by omega
 have hb4:¬ (n=i):=by omega
 have hb5:¬ (G=i):=by omega
 have hb6:¬ (G=i+1):=by omega
 have mixed:Tryz.prog.follows .mixedOrders=true:=by kernel_rfl
 go_enter Tryz.func194,Tryz.ntmps194
 go_wp2_with (first
  | (at_builtin;refine Lib.wpList_append_run _ rfl _ _ _ _ rfl _ _ rfl rfl _ _ (hap _ _ (by omega)) ?_)
  | (at_builtin;refine wpList_copy_runI _ rfl _ _ 34 34 rfl _ _ rfl rfl (hcp1 _ _ _ (by omega)) ?_))
 go_region_law_o (refine step_copy_runI rfl _ _ 34 34 rfl _ _ (by simp[Act.eval,Act.put]) (by simp[Act.eval,Act.put]) (hcp2 _ _ _ _ _ (by omega) (by omega)) ?_)
 go_wp2
 go_ret
 exact⟨rfl,rfl⟩
end Go.Proofs.YtbalmcpknmjgkaaGreat
end
section
open Go Go.AM Go.Md
namespace Go.Wk
theorem lQ{P:Program}(W:World)(dT sT ty elem:TypeId)(sz B dq dLen dCap sb sq sLen sCap:Nat)(vs:List Value){c:Array Value}{e:TypeId}{fz:Nat × Nat}
  (hu:P.underlying dT=some (.slice elem)) (hs:(P.info? elem).map (·.size)=some sz) (hn:vs.length=Nat.min sLen dLen*sz)
  (hsrc:∀ (j:Nat) v,vs[j]? = some v->W.cell? ⟨sb,sq+j,none⟩=some v) (hc:W.heap[B]? = some (.cells c e fz)) (hfit:dq+vs.length<=c.size) (ht:Mp c fz) (h1:∀ v ∈ vs,v.oneCell'=true) :
  (Builtin.copy_ #[dT,sT] ty #[.slice (some ⟨B,dq,none⟩) dLen dCap,.slice (some ⟨sb,sq,none⟩) sLen sCap]).run P W=.ok (goInt (Nat.min sLen dLen)) (World.BI W B (.cells (CF c dq vs) e fz)):=by
 have hl:=Zy (P:=P) (w:=W) vs rfl hsrc;have hst:=WX (P:=P) (o:=dq) vs 0 c W hc (by omega) ht h1;rw[Iy]at hst;cases hq:P.info? elem with
 | none=>simp[hq]at hs
 | some i=>
  have hi:i.size=sz:=by simpa [hq] using hs
  simp[Builtin.copy_,run_underlying hu,Builtin.lenOf,Builtin.firstCells,sizeOf,typeInfo,hq,hi,<- hn,hl,hst]
def C2(l:List Seen)(i:Nat)(a:Seen):List Seen:=l.take i++a::l.drop i
theorem uP{l:List Seen}{i:Nat}{a:Seen}(h:i<=l.length):(C2 l i a).length=l.length+1:=by unfold C2;simp;omega
theorem vD{l:List Seen}{i k:Nat}{a:Seen}(h:i<=l.length)(hk:k<i):(C2 l i a).getD k default=l.getD k default:=by unfold C2;simp only[List.getD];rw[DY (by simp;omega),KV,Ay hk]
theorem vF{l:List Seen}{i:Nat}{a:Seen}(h:i<=l.length):(C2 l i a).getD i default=a:=by
 unfold C2;simp only[List.getD];rw[FC (by simp;omega)];have:i - (l.take i).length=0:=by simp;omega
 rw[this];rfl
theorem adZ{l:List Seen}{i k:Nat}{a:Seen}(h:i<=l.length)(hk:i<k):(C2 l i a).getD k default=l.getD (k - 1) default:=by
 unfold C2;simp only[List.getD];rw[FC (by simp;omega)];have:k - (l.take i).length=(k - 1 - i)+1:=by simp;omega
 rw[this,Vn,Qe];have:i+(k - 1 - i)=k - 1:=by omega
 rw[this]
def Qt(l:List Seen):BS:=.seq true 7 l.length λk=>BH (l.getD k default)
def Vj(a:Seen)(r:Nat):AV:=(BH a).getD r .undef
theorem tX{a:Seen}{r:Nat}(h:r<7):(BH a)[r]? = some (Vj a r):=by
 match r,h with
 | 0,_=>rfl
 | 1,_=>rfl
 | 2,_=>rfl
 | 3,_=>rfl
 | 4,_=>rfl
 | 5,_=>rfl
 | 6,_=>rfl
theorem aoh{a:Seen}{r:Nat}{x:AV}(h:(BH a)[r]? = some x):r<7/\x=Vj a r:=by
 have hr:r<7:=by
  rcases Cj r 7 with h' | h'
  ·exact h'
  ·rw[CK (by exact h')]at h;cases h
 rw[tX hr]at h;cases h;exact⟨hr,rfl⟩
theorem akz(a:Seen)(r:Nat):Ed (Vj a r)=true:=by
 unfold Vj
 match r with
 | 0=>rfl
 | 1=>rfl
 | 2=>rfl
 | 3=>rfl
 | 4=>rfl
 | 5=>rfl
 | 6=>rfl
 | _+7=>rfl
theorem akA(w:World)(B:Nat)(x y:Obj):World.BI (World.BI w B x) B y=World.BI w B y:=by simp only[World.BI,Array.setIfInBounds_setIfInBounds]
theorem atn{w:World}{B B2 voff vc x lb cb:Nat}{c c2:Array Value}{e e2:TypeId}{fz fz2:Nat × Nat}(hB:w.heap[B]? = some (.cells c e fz))(hV:w.heap[B2]? = some (.cells c2 e2 fz2))(hne:B2 ≠ B)(hc:c.size ≠ 0)
  (ht:Mp c2 fz2) (hs:J9 c2 fz2 7) (hv:voff<c2.size) :
  (callFunc 207 #[.slice (some ⟨B2,voff,none⟩) 1 vc,.slice (some ⟨B,x,none⟩) lb cb]).run PG w=.ok (.value (.bool false)) w:=by
 have hov:=Lib.run_overlaps_apart (P:=PG) w 34 4 146 (by kernel_rfl) 7 (λw=>by
  have:GA PG 146=some ((GA PG 146).getD ⟨0,0,false,.bool,none,false,none⟩):=by kernel_rfl
  rw[AM.run_sizeOf this w];have h3:((GA PG 146).getD ⟨0,0,false,.bool,none,false,none⟩).size=7:=by kernel_rfl
  rw[h3]) ⟨B2,voff,none⟩ ⟨B,x,none⟩ 1 vc lb cb hne e2 e c2.size c.size (by simp[World.shape?,hV]) (by simp[World.shape?,hB]) hc (aa5 hV ht hv) (by simp only[World.frozen?,hV];have:=hs.resolve_left (by decide);simpa using this)
 rw[run_callFunc_extern (P:=PG) (f:=207) (fn:=Go.Proofs.Tryz.f207) Go.Proofs.Tryz.func207 (by kernel_rfl) (by kernel_rfl) (by kernel_rfl) (e:=Extern.SlicesOverlaps.overlaps #[34,34] #[4]) (by kernel_rfl),hov];rfl
def MF(l:List Seen)(a:Seen):Heap:=[Qt l,.arr true 7 [BH a]]
def Qu(l:List Seen)(i:Nat)(a:Seen):Heap:=[.dead,.arr true 7 [BH a],Qt (C2 l i a)]
theorem aqw(l:List Seen)(i:Nat)(a:Seen):Ab (Qu l i a)=BU (BU (Ab (MF l a)) 0 .dead) 2 (Qt (C2 l i a)):=by
 funext b
 match b with
 | 0=>rfl
 | 1=>rfl
 | 2=>rfl
 | _+3=>rfl
theorem abJ{w:World}{I:Nat->Prop}{φ:Ac}{rd:Nat->BS}{b B o:Nat}{l:List Seen}(hh:RH w I φ rd)(hb:rd b=Qt l)(h0:φ b=some (B,o,7)) :
  ∃ c e fz,w.heap[B]? = some (.cells c e fz)/\Mp c fz/\J9 c fz 7 /\ ∀ k r,k<l.length->r<7 -> ∃ u,c[o+k*7+r]? = some u/\u.oneCell'=true/\RV w I Ac.no (Vj (l.getD k default) r) u:=by
 obtain⟨B',o',sz',e,hrb⟩:=(hh.CY b (by rw[hb];rfl)).resolve_right λ⟨e0,_⟩=>by rw[h0]at e0;cases e0
 rw[h0]at e;cases e;rw[hb]at hrb;obtain⟨_,⟨c,e,fz,hc,ht⟩,_,hcell⟩:=hrb;refine⟨c,e,fz,hc,(ht rfl).1,(ht rfl).2,λk r hk hr=>?_⟩;obtain⟨u,h1,h2,h3⟩:=hcell k r _ hk (tX hr);rw[cell_of hc]at h1;exact⟨u,h1,h2,h3⟩
theorem abK{w:World}{I:Nat->Prop}{φ:Ac}{rd:Nat->BS}{b B o:Nat}{a:Seen}(hh:RH w I φ rd)(hb:rd b=.arr true 7 [BH a])(h0:φ b=some (B,o,7)) :
  ∃ c e fz,w.heap[B]? = some (.cells c e fz)/\Mp c fz/\J9 c fz 7 /\ ∃ vs:List Value,vs.length=7/\(∀ r v,vs[r]? = some v->c[o+r]? = some v/\v.oneCell'=true/\RV w I Ac.no (Vj a r) v):=by
 obtain⟨B',o',sz',e,hrb⟩:=(hh.CY b (by rw[hb];rfl)).resolve_right λ⟨e0,_⟩=>by rw[h0]at e0;cases e0
 rw[h0]at e;cases e;rw[hb]at hrb;obtain⟨_,⟨c,e,fz,hc,ht⟩,_,hcell⟩:=hrb;have g:∀ r,r<7 -> ∃ u,c[o+r]? = some u/\u.oneCell'=true/\RV w I Ac.no (Vj a r) u:=λr hr=>by obtain⟨u,h1,h2,h3⟩:=hcell 0 (BH a) r _ rfl (tX hr);rw[cell_of hc,JF,Iy]at h1;exact⟨u,h1,h2,h3.free (akz a r)⟩
 obtain⟨u0,a0⟩:=g 0 (by omega);obtain⟨u1,a1⟩:=g 1 (by omega);obtain⟨u2,a2⟩:=g 2 (by omega);obtain⟨u3,a3⟩:=g 3 (by omega);obtain⟨u4,a4⟩:=g 4 (by omega);obtain⟨u5,a5⟩:=g 5 (by omega);obtain⟨u6,a6⟩:=g 6 (by omega);refine⟨c,e,fz,hc,(ht rfl).1,(ht rfl).2,[u0,u1,u2,u3,u4,u5,u6],rfl,λr v hv=>?_⟩
 match r with
 | 0=>cases hv;exact a0
 | 1=>cases hv;exact a1
 | 2=>cases hv;exact a2
 | 3=>cases hv;exact a3
 | 4=>cases hv;exact a4
 | 5=>cases hv;exact a5
 | 6=>cases hv;exact a6
 | _+7=>simp at hv
def piece(c:Array Value)(p m:Nat):List Value:=(List.range m).map λj=>c.getD (p+j) default
theorem tY(c:Array Value)(p m:Nat):(piece c p m).length=m:=by simp[piece]
theorem tZ{c:Array Value}{p m j:Nat}(h:p+m<=c.size)(hj:j<m):(piece c p m)[j]? = c[p+j]? := by unfold piece;rw[EO,Mx hj,FX,Cy (by omega),NM,Cy (by omega)];rfl
theorem wU{n j:Nat}(h:j<n*7):j / 7<n/\j % 7<7/\j=j / 7*7+j % 7:=by omega
def VF(c:Array Value)(q i n:Nat)(src:List Value)(vs:List Value):Array Value:=CF (CF c (q+(i+1)*7) src) (q+i*7) vs
theorem aoi{c:Array Value}{q i n:Nat}{src vs:List Value}(hi:i<=n)(hs:src.length=(n - i)*7)(hv:vs.length=7)(hc:q+(n+1)*7<=c.size){k r:Nat}(hk:k<n+1)(hr:r<7) :
  (VF c q i n src vs)[q+k*7+r]? = if k<i then c[q+k*7+r]? else if k=i then vs[r]? else src[(k - 1 - i)*7+r]? := by
 unfold VF;rw[Nn _ _ _ _ (by rw[IP,hv];omega),Nn _ _ _ _ (by rw[hs];omega),hv,hs];by_cases h1:k<i
 ·rw[Ay h1,AE (by omega),AE (by omega)]
 ·rw[AE h1];by_cases h2:k=i
  ·subst h2;rw[Ay rfl,Ay (by omega)];congr 1;omega
  ·rw[AE h2,AE (by omega),Ay (by omega)];congr 1;omega
theorem ag0{w W:World}{I:Nat->Prop}{φ':Ac}{B q:Nat}{l:List Seen}{i:Nat}{a:Seen}{c':Array Value}{e:TypeId}{fz:Nat × Nat}(hi:i<=l.length)(hW:W.heap[B]? = some (.cells c' e fz))(ht:Mp c' fz)(hn:J9 c' fz 7)
  (mono:∀ {v:AV} {u:Value},RV w I Ac.no v u->RV W I Ac.no v u)
  (hg:∀ k r,k<l.length+1->r<7 -> ∃ u,c'[q+k*7+r]? = some u/\u.oneCell'=true/\RV w I Ac.no (Vj ((C2 l i a).getD k default) r) u):RB W I φ' B q 7 (Qt (C2 l i a)):=by
 have hl:=uP (a:=a) hi;refine⟨rfl,⟨c',e,fz,hW,λ_=>⟨ht,hn⟩⟩,λk _=>rfl,λk r cc hk hcc=>?_⟩;obtain⟨hr,rfl⟩:=aoh hcc;obtain⟨u,h1,h2,h3⟩:=hg k r (by omega) hr;exact⟨u,by rw[cell_of hW];exact h1,h2,mono h3⟩
theorem al4{w:World}{I:Nat->Prop}{φ:Ac}{l:List Seen}{i:Nat}{a:Seen}(hh:RH w I φ (Ab (MF l a))){B o cap B2 o2 vc:Nat}(h0:φ 0=some (B,o,7))(h1:φ 1=some (B2,o2,7))(hi:i<l.length)(hl:l.length<=100000)
  (hcap:l.length+1<=cap) (hs:o+cap*7<=Bv w B) :
  ∃ w2,(Calls PG Ps #[.slice (some ⟨B,o,none⟩) l.length cap,.int .i64 i,.slice (some ⟨B2,o2,none⟩) 1 vc] w λe w'=>e=.returned (.slice (some ⟨B,o,none⟩) (l.length+1) cap)/\w'=w2) /\
   RH w2 I (φ.set 2 (B,o,7)) (Ab (Qu l i a))/\Step 2 (Ab (MF l a)) φ I w (Ab (Qu l i a)) (φ.set 2 (B,o,7)) I w2/\Bv w2 B=Bv w B:=by
 obtain⟨c,e,fz,hc,ht,hns,hcell⟩:=abJ (b:=0) hh rfl h0;obtain⟨c2,e2,fz2,hc2,ht2,hns2,vs,hvl,hvs⟩:=abK (b:=1) hh rfl h1;have hne:B2 ≠ B:=λhE=>by have:=hh.inj 1 0 B2 o2 7 o 7 rfl rfl h1 (hE ▸ h0);cases this
 have hcs:Bv w B=c.size:=by unfold AM.Bv;rw[hc]
 rw[hcs]at hs;have hin:i<=l.length:=by omega
 have hv0:o2<c2.size:=by obtain⟨h,_⟩:=hvs 0 _ (BR (by omega:0<vs.length));rw[Iy]at h;exact(Vm.1 h).1
 have hsrcl:(piece c (o+i*7) ((l.length - i)*7)).length=(l.length - i)*7:=tY _ _ _;have hpf:o+i*7+(l.length - i)*7<=c.size:=by omega
 have hpg:∀ j,j<(l.length - i)*7->(piece c (o+i*7) ((l.length - i)*7))[j]? = c[o+i*7+j]? := λj hj=>tZ hpf hj;have hdr:=hh.drew 2;have hone:∀ v ∈ piece c (o+i*7) ((l.length - i)*7),v.oneCell'=true:=λv hv=>by
  obtain⟨j,hj⟩:=NN hv;have hjl:j<(l.length - i)*7:=by
   rcases Cj j ((l.length - i)*7)with h | h
   ·exact h
   ·rw[CK (by rw[hsrcl];exact h)]at hj;cases hj
  rw[hpg j hjl]at hj;obtain⟨s1,s2,s3⟩:=wU hjl;obtain⟨u,g1,g2,_⟩:=hcell (i+j / 7) (j % 7) (by omega) s2;have:o+(i+j / 7)*7+j % 7=o+i*7+j:=by omega
  rw[this,hj]at g1;cases g1;exact g2
 have hvone:∀ v ∈ vs,v.oneCell'=true:=λv hv=>by obtain⟨j,hj⟩:=NN hv;exact(hvs j v hj).2.1
 have hu30:PG.underlying 34=some (.slice 146):=by kernel_rfl
 have hs75:(PG.info? 146).map (·.size)=some 7:=by kernel_rfl
 have hcd:w.drew.heap[B]? = some (.cells c e fz):=hc;have hm1:Nat.min (l.length+1 - i) (l.length - i)=l.length - i:=Nat.min_eq_right (by omega);have hm2:Nat.min 1 (l.length+1 - i)=1:=Nat.min_eq_left (by omega);have hcp1:∀ ty ll m dc sc,ll=l.length - i->m=l.length+1 - i->(Builtin.copy_ #[34,34] ty #[.slice (some ⟨B,o+(i+1)*7,none⟩) ll dc,.slice (some ⟨B,o+i*7,none⟩) m sc]).run PG w.drew =
   .ok (goInt (l.length - i:Nat)) (World.BI w.drew B (.cells (CF c (o+(i+1)*7) (piece c (o+i*7) ((l.length - i)*7))) e fz)):=by
  intro ty ll m dc sc h2 h3;subst h2 h3;have:=lQ (P:=PG) w.drew 34 34 ty 146 7 B (o+(i+1)*7) (l.length - i) dc B (o+i*7) (l.length+1 - i) sc (piece c (o+i*7) ((l.length - i)*7)) hu30 hs75 (by rw[hsrcl,hm1])
   (λj v hj=>by
    have hjl:j<(l.length - i)*7:=by
     rcases Cj j ((l.length - i)*7)with h | h
     ·exact h
     ·rw[CK (by rw[hsrcl];exact h)]at hj;cases hj
    rw[cell_of hcd,<- hpg j hjl];exact hj) hcd (by rw[hsrcl];omega) ht hone
  rw[hm1]at this;exact this
 have hW1:=FR (w:=w.drew) (o:=.cells (CF c (o+(i+1)*7) (piece c (o+i*7) ((l.length - i)*7))) e fz) (CQ hcd);have ht1:Mp (CF c (o+(i+1)*7) (piece c (o+i*7) ((l.length - i)*7))) fz:=λk hk=>ht k (by simpa using hk);have hcp2:∀ ty ll dc,ll=l.length+1 - i->(Builtin.copy_ #[34,34] ty #[.slice (some ⟨B,o+i*7,none⟩) ll dc,.slice (some ⟨B2,o2,none⟩) 1 vc]).run PG (World.BI w.drew B (.cells (CF c (o+(i+1)*7) (piece c (o+i*7) ((l.length - i)*7))) e fz)) =
   .ok (goInt 1) (World.BI w.drew B (.cells (VF c o i l.length (piece c (o+i*7) ((l.length - i)*7)) vs) e fz)):=by
  intro ty ll dc h2;subst h2;have:=lQ (P:=PG) (World.BI w.drew B (.cells (CF c (o+(i+1)*7) (piece c (o+i*7) ((l.length - i)*7))) e fz)) 34 34 ty 146 7 B (o+i*7) (l.length+1 - i) dc B2 o2 1 vc vs hu30 hs75 (by rw[hvl,hm2])
   (λj v hj=>by
    have h3:(World.BI w.drew B (.cells (CF c (o+(i+1)*7) (piece c (o+i*7) ((l.length - i)*7))) e fz)).heap[B2]? = some (.cells c2 e2 fz2):=by rw[GL hne];exact hc2
    rw[cell_of h3];exact(hvs j v hj).1) hW1 (by rw[hvl,IP];omega) ht1 hvone
  rw[hm2,akA]at this;exact this
 have hsz:(VF c o i l.length (piece c (o+i*7) ((l.length - i)*7)) vs).size=c.size:=by unfold VF;rw[IP,IP]
 have hrun:=Go.Proofs.YtbalmcpknmjgkaaGreat.al3 B o l.length cap i B2 o2 vc w _ _ hi hcap (by omega) (λx lb cb=>atn hc hc2 hne (by omega) ht2 hns2 hv0) hcp1 hcp2;have hM:Ca φ (Ab (MF l a)) B:=⟨0,o,7,rfl,h0⟩
 have ext:=Ext.BI (M:=Ca φ (Ab (MF l a))) (c':=VF c o i l.length (piece c (o+i*7) ((l.length - i)*7)) vs) hcd hsz hM;have mono:∀ {v:AV} {u:Value},RV w I Ac.no v u->RV (World.BI w.drew B (.cells (VF c o i l.length (piece c (o+i*7) ((l.length - i)*7)) vs) e fz)) I Ac.no v u:=λhvu=>
  hvu.mono (λB' hB'=>⟨hB',(ext.keep B' (hdr.1.lt B' hB') λ⟨b,o',sz,hm,e'⟩=>hh.CP b B' o' sz hm e' hB').trans rfl⟩) (λB'=>ext.Bv B') (Ac.le_refl _)
 have hnss:J9 (VF c o i l.length (piece c (o+i*7) ((l.length - i)*7)) vs) fz 7:=by unfold J9 at *;rw[hsz];exact hns
 have hmv:=hdr.1.move (b:=0) (nx:=2) h0 rfl rfl hcd hsz (Qt (C2 l i a)) o rfl (ag0 (w:=w) hin (FR (CQ hcd)) (λk hk=>ht k (by rw[<- hsz];exact hk)) hnss mono λk r hk hr=>by
  rw[aoi hin hsrcl hvl (by omega) hk hr];by_cases c1:k<i
  ·rw[Ay c1,vD hin c1];exact hcell k r (by omega) hr
  ·rw[AE c1];by_cases c2:k=i
   ·subst c2;rw[Ay rfl,vF hin];have hv:vs[r]? = some vs[r]:=BR (by omega);obtain⟨g1,g2,g3⟩:=hvs r _ hv;exact⟨_,hv,g2,g3⟩
   ·rw[AE c2,adZ hin (by omega),hpg _ (by omega)];have:o+i*7+((k - 1 - i)*7+r)=o+(k - 1)*7+r:=by omega
    rw[this];exact hcell (k - 1) r (by omega) hr) (λhone1=>UM hvone (UM hone hone1)) 2
 rw[<- aqw]at hmv;refine⟨_,hrun,hmv.1,hdr.2.trans hmv.2.1,?_⟩;rw[hcs];unfold AM.Bv;rw[FR (CQ hcd)];exact hsz
theorem al5{R:Array Value}{i n:Nat}{src vs:List Value}(hi:i<=n)(hs:src.length=(n - i)*7)(hv:vs.length=7)(hc:(n+1)*7<=R.size){k r:Nat}(hk:k<n+1)(hr:r<7) :
  (CF (CF R (i*7) vs) ((i+1)*7) src)[0+k*7+r]? = if k<i then R[k*7+r]? else if k=i then vs[r]? else src[(k - 1 - i)*7+r]? := by
 rw[Nn _ _ _ _ (by rw[IP,hs];omega),Nn _ _ _ _ (by rw[hv];omega),hv,hs,Ev];by_cases h1:k<i
 ·rw[Ay h1,AE (by omega),AE (by omega)]
 ·rw[AE h1];by_cases h2:k=i
  ·subst h2;rw[Ay rfl,AE (by omega),Ay (by omega)];congr 1;omega
  ·rw[AE h2,Ay (by omega)];congr 1;omega
theorem aaf(z:Array Value)(n:Nat):(Builtin.zeroCells z n).size=n*z.size:=by simp[Builtin.zeroCells]
theorem aqx{w:World}{I:Nat->Prop}{φ:Ac}{l:List Seen}{i:Nat}{a:Seen}(hh:RH w I φ (Ab (MF l a))){B o B2 o2 vc:Nat}(h0:φ 0=some (B,o,7))(h1:φ 1=some (B2,o2,7))(hi:i<l.length)(hl:l.length<=100000)
  (hs:o+l.length*7<=Bv w B) :
  ∃ w2 G,l.length+1<=G/\(Calls PG Ps #[.slice (some ⟨B,o,none⟩) l.length l.length,.int .i64 i,.slice (some ⟨B2,o2,none⟩) 1 vc] w λe w'=>e=.returned (.slice (some ⟨w.heap.size,0,none⟩) (l.length+1) G)/\w'=w2) /\
   RH w2 I (φ.set 2 (w.heap.size,0,7)) (Ab (Qu l i a))/\Step 2 (Ab (MF l a)) φ I w (Ab (Qu l i a)) (φ.set 2 (w.heap.size,0,7)) I w2/\G*7<=Bv w2 w.heap.size:=by
 obtain⟨c,e,fz,hc,ht,hns,hcell⟩:=abJ (b:=0) hh rfl h0;obtain⟨c2,e2,fz2,hc2,ht2,hns2,vs,hvl,hvs⟩:=abK (b:=1) hh rfl h1;have hcs:Bv w B=c.size:=by unfold AM.Bv;rw[hc]
 rw[hcs]at hs;have hin:i<=l.length:=by omega
 have hBlt:=CQ hc;have hB2lt:=CQ hc2;have hsrcl:(piece c (o+i*7) ((l.length - i)*7)).length=(l.length - i)*7:=tY _ _ _;have hpg:∀ j,j<(l.length - i)*7->(piece c (o+i*7) ((l.length - i)*7))[j]? = c[o+i*7+j]? := λj hj=>tZ (by omega) hj;have hol:(piece c o (i*7)).length=i*7:=tY _ _ _;have hog:∀ j,j<i*7->(piece c o (i*7))[j]? = c[o+j]? := λj hj=>tZ (by omega) hj;have hdr:=hh.drew 2;have hone:∀ v ∈ piece c (o+i*7) ((l.length - i)*7),v.oneCell'=true:=λv hv=>by
  obtain⟨j,hj⟩:=NN hv;have hjl:j<(l.length - i)*7:=by
   rcases Cj j ((l.length - i)*7)with h | h
   ·exact h
   ·rw[CK (by rw[hsrcl];exact h)]at hj;cases hj
  rw[hpg j hjl]at hj;obtain⟨s1,s2,s3⟩:=wU hjl;obtain⟨u,g1,g2,_⟩:=hcell (i+j / 7) (j % 7) (by omega) s2;have:o+(i+j / 7)*7+j % 7=o+i*7+j:=by omega
  rw[this,hj]at g1;cases g1;exact g2
 have hvone:∀ v ∈ vs,v.oneCell'=true:=λv hv=>by obtain⟨j,hj⟩:=NN hv;exact(hvs j v hj).2.1
 have hu30:PG.underlying 34=some (.slice 146):=by kernel_rfl
 have hu3:PG.underlying 3=some (.int .i64):=by kernel_rfl
 have hs75:(PG.info? 146).map (·.size)=some 7:=by kernel_rfl
 have hi75:(PG.info? 146).map (λi=>(i.size,i.bytes,i.zero.map (·.cells.size)))=some (7,72,some 7):=by kernel_rfl
 obtain⟨i0,hi0,e1,e3,z,hz,hzs⟩:∃ i0,PG.info? 146=some i0/\i0.size=7/\i0.bytes=72 /\ ∃ z,i0.zero=some z/\z.cells.size=7:=by
  cases hq:PG.info? 146 with
  | none=>rw[hq]at hi75;cases hi75
  | some i0=>
   rw[hq]at hi75;simp only[FX,CU,FZ]at hi75;obtain⟨a1,a2,a3⟩:=hi75;cases hz:i0.zero with
   | none=>rw[hz]at a3;cases a3
   | some z=>rw[hz]at a3;exact⟨i0,rfl,a1,a2,z,hz,by simpa using a3⟩
 have hold:(Builtin.firstCells i0.size i (.slice (some ⟨B,o,none⟩) i l.length)).run PG w.drew=.ok (piece c o (i*7)).toArray w.drew:=by
  rw[e1];exact Zy (P:=PG) (w:=w.drew) (piece c o (i*7)) hol λj v hj=>by
   have hjl:j<i*7:=by
    rcases Cj j (i*7)with h | h
    ·exact h
    ·rw[CK (by rw[hol];exact h)]at hj;cases hj
   rw[cell_of (w:=w.drew) hc,<- hog j hjl];exact hj
 have hik:i+(l.length+1 - i)=l.length+1:=by omega
 have hap:=Lib.run_append_grow_zeros (P:=PG) w 34 3;obtain⟨G,hG⟩:∃ G,G=grownCap w (l.length+1) l.length 146:=⟨_,rfl⟩
 obtain⟨R,hR⟩:∃ R:Array Value,R=(piece c o (i*7)).toArray++Builtin.zeroCells z.cells (l.length+1 - i)++Builtin.zeroCells z.cells (G - (l.length+1)):=⟨_,rfl⟩
 have hGn:l.length+1<=G:=by rw[hG];exact grownCap_ge w _ _ _
 have hG63:G<=9223372036854775807:=by have:=grownCap_le_maxLen w (l.length+1) l.length 146 (by unfold maxLen;omega);rw[<- hG]at this;unfold maxLen at this;omega
 have hRs:R.size=G*7:=by
  rw[hR,Array.size_append,Array.size_append,aaf,aaf,hzs];have:(piece c o (i*7)).toArray.size=i*7:=by simpa using hol
  rw[this];omega
 have hRg:∀ j,j<i*7->R[j]? = c[o+j]? := λj hj=>by
  have h2:(piece c o (i*7)).toArray.size=i*7:=by simpa using hol
  rw[hR,Array.append_assoc,Array.getElem?_append_left (by rw[h2];exact hj),<- hog j hj];simp
 have hz1:One z.cells:=by
  have q:(PG.info? 146).map (λi=>i.zero.map λz=>z.cells.all Value.oneCell')=some (some true):=by kernel_rfl
  rw[hi0]at q;simp only[FX,hz,CU]at q;intro k v e;obtain⟨hk,hv⟩:=Vm.1 e;exact hv ▸ (Array.all_eq_true.1 q) k hk
 have hR1:One R:=by
  rw[hR];refine mT (mT (λk v e=>?_) (sJ hz1)) (sJ hz1);have e:(piece c o (i*7))[k]? = some v:=by simpa using e
  have hjl:k<i*7:=by
   rcases Cj k (i*7)with h | h
   ·exact h
   ·rw[CK (by rw[hol];exact h)]at e;cases e
  rw[hog k hjl]at e;obtain⟨s1,s2,s3⟩:=wU hjl;obtain⟨u,g1,g2,_⟩:=hcell (k / 7) (k % 7) (by omega) s2;have:o+k / 7*7+k % 7=o+k:=by omega
  rw[this,e]at g1;cases g1;exact g2
 have happ:∀ ty x,x=(l.length:Int)+1 - i->(Builtin.append_ #[34,3] ty #[.slice (some ⟨B,o,none⟩) i l.length,.int .i64 x]).run PG w=.ok (.slice (some ⟨w.heap.size,0,none⟩) (l.length+1) G) (w.drew.alloc (.cells R 146)):=by
  intro ty x hx;have h:=hap ty 146 i0 z .i64 .i64 hu30 hu3 hi0 hz (some ⟨B,o,none⟩) i l.length (piece c o (i*7)) hold (l.length+1 - i) (by omega) (by omega) (by omega) (by omega) (by rw[e3];omega) (by rw[e3,hik];exact growslice_fits (by omega) (by omega));rw[hik,<- hG,<- hR]at h;have:x=((l.length+1 - i:Nat):Int):=by omega
  rw[this];exact h
 have hW1:(w.drew.alloc (.cells R 146)).heap[w.heap.size]? = some (.cells R 146 (0,0)):=No w.drew _;have hth0:∀ {c:Array Value},Mp c (0,0):=λk _ h=>C5 _ h.2;have hns0:∀ {c:Array Value},J9 c (0,0) 7:=.inr λh=>C5 _ h.2;have hm1:Nat.min 1 (l.length+1 - i)=1:=Nat.min_eq_left (by omega);have hm2:Nat.min (l.length - i) (l.length - i)=l.length - i:=Nat.min_self _;have hcp1:∀ ty ll dc,ll=l.length+1 - i->(Builtin.copy_ #[34,34] ty #[.slice (some ⟨w.heap.size,i*7,none⟩) ll dc,.slice (some ⟨B2,o2,none⟩) 1 vc]).run PG (w.drew.alloc (.cells R 146)) =
   .ok (goInt 1) (World.BI (w.drew.alloc (.cells R 146)) w.heap.size (.cells (CF R (i*7) vs) 146 (0,0))):=by
  intro ty ll dc h2;subst h2;have:=lQ (P:=PG) (w.drew.alloc (.cells R 146)) 34 34 ty 146 7 w.heap.size (i*7) (l.length+1 - i) dc B2 o2 1 vc vs hu30 hs75 (by rw[hvl,hm1])
   (λj v hj=>by
    have h3:(w.drew.alloc (.cells R 146)).heap[B2]? = some (.cells c2 e2 fz2):=by rw[alloc_old w.drew _ hB2lt];exact hc2
    rw[cell_of h3];exact(hvs j v hj).1) hW1 (by rw[hvl,hRs];omega) hth0 hvone
  rw[hm1]at this;exact this
 have hW2:(World.BI (w.drew.alloc (.cells R 146)) w.heap.size (.cells (CF R (i*7) vs) 146 (0,0))).drew.heap[w.heap.size]? = some (.cells (CF R (i*7) vs) 146 (0,0)):=FR (CQ hW1);have hcp2:∀ ty ll m dc sc,ll=l.length - i->m=l.length - i->(Builtin.copy_ #[34,34] ty #[.slice (some ⟨w.heap.size,(i+1)*7,none⟩) ll dc,.slice (some ⟨B,o+i*7,none⟩) m sc]).run PG (World.BI (w.drew.alloc (.cells R 146)) w.heap.size (.cells (CF R (i*7) vs) 146 (0,0))).drew =
   .ok (goInt (l.length - i:Nat)) (World.BI (World.BI (w.drew.alloc (.cells R 146)) w.heap.size (.cells (CF R (i*7) vs) 146 (0,0))).drew w.heap.size (.cells (CF (CF R (i*7) vs) ((i+1)*7) (piece c (o+i*7) ((l.length - i)*7))) 146 (0,0))):=by
  intro ty ll m dc sc h2 h3;subst h2 h3;have:=lQ (P:=PG) (World.BI (w.drew.alloc (.cells R 146)) w.heap.size (.cells (CF R (i*7) vs) 146 (0,0))).drew 34 34 ty 146 7 w.heap.size ((i+1)*7) (l.length - i) dc B (o+i*7) (l.length - i) sc (piece c (o+i*7) ((l.length - i)*7)) hu30 hs75 (by rw[hsrcl,hm2])
   (λj v hj=>by
    have hjl:j<(l.length - i)*7:=by
     rcases Cj j ((l.length - i)*7)with h | h
     ·exact h
     ·rw[CK (by rw[hsrcl];exact h)]at hj;cases hj
    have h3:(World.BI (w.drew.alloc (.cells R 146)) w.heap.size (.cells (CF R (i*7) vs) 146 (0,0))).drew.heap[B]? = some (.cells c e fz):=by show(World.BI (w.drew.alloc (.cells R 146)) w.heap.size (.cells (CF R (i*7) vs) 146 (0,0))).heap[B]? = _;rw[GL (by omega),alloc_old w.drew _ hBlt];exact hc
    rw[cell_of h3,<- hpg j hjl];exact hj) hW2 (by rw[hsrcl,IP,hRs];omega) hth0 hone
  rw[hm2]at this;exact this
 have hrun:=Go.Proofs.YtbalmcpknmjgkaaGreat.aog B o l.length i B2 o2 vc w.heap.size G w _ _ _ hi hGn hG63 (by omega) happ hcp1 hcp2;have x0:∀ {W:World} {φ':Ac} {cc:Array Value},W.heap[w.heap.size]? = some (.cells cc 146 (0,0))->RB W I φ' w.heap.size 0 7 (.arr true 7 []):=λhW=>
  ⟨rfl,⟨_,_,_,hW,λ_=>⟨hth0,hns0⟩⟩,λi cs h=>by simp at h,λi cs k c h=>by simp at h⟩
 have r2:=hdr.1.alloc (nx:=2) rfl (.cells R 146) (.arr true 7 []) 7 rfl (x0 hW1) (OE.row hR1) 2;have r3:=r2.1.write (b:=2) (Ac.E5 _ _ _) rfl hW1 (IP vs R (i*7)) (.arr true 7 []) rfl (x0 (FR (CQ hW1))) (λh1=>UM hvone h1) 2;have r4:=r3.1.drew 2;have st4:=((hdr.2.trans r2.2.1).trans r3.2).trans r4.2;have e5:=Ext.BI (M:=λB'=>B'=w.heap.size) (c':=CF (CF R (i*7) vs) ((i+1)*7) (piece c (o+i*7) ((l.length - i)*7))) hW2 (IP _ _ _) rfl;have mono:∀ {v:AV} {u:Value},RV w I Ac.no v u->RV (World.BI (World.BI (w.drew.alloc (.cells R 146)) w.heap.size (.cells (CF R (i*7) vs) 146 (0,0))).drew w.heap.size (.cells (CF (CF R (i*7) vs) ((i+1)*7) (piece c (o+i*7) ((l.length - i)*7))) 146 (0,0))) I Ac.no v u:=λhvu=>
  (hvu.mono (λB' hB'=>⟨hB',st4.ext.keep B' (hh.lt B' hB') λ⟨b,o',sz,hm,e'⟩=>hh.CP b B' o' sz hm e' hB'⟩) (λB'=>st4.ext.Bv B') (Ac.le_refl _)).mono
   (λB' hB'=>⟨hB',e5.keep B' (r4.1.lt B' hB') (λhE=>by have:=hh.lt B' hB';omega)⟩) (λB'=>e5.Bv B') (Ac.le_refl _)
 have r5:=r4.1.write (b:=2) (Ac.E5 _ _ _) rfl hW2 (IP _ _ _) (Qt (C2 l i a)) rfl (ag0 (w:=w) (q:=0) hin (FR (CQ hW2)) hth0 hns0 mono λk r hk hr=>by
  rw[al5 hin hsrcl hvl (by rw[hRs];omega) hk hr];by_cases c1:k<i
  ·rw[Ay c1,vD hin c1,hRg _ (by omega)];have:o+(k*7+r)=o+k*7+r:=by omega
   rw[this];exact hcell k r (by omega) hr
  ·rw[AE c1];by_cases c2:k=i
   ·subst c2;rw[Ay rfl,vF hin];have hv:vs[r]? = some vs[r]:=BR (by omega);obtain⟨g1,g2,g3⟩:=hvs r _ hv;exact⟨_,hv,g2,g3⟩
   ·rw[AE c2,adZ hin (by omega),hpg _ (by omega)];have:o+i*7+((k - 1 - i)*7+r)=o+(k - 1)*7+r:=by omega
    rw[this];exact hcell (k - 1) r (by omega) hr) (λh1=>UM hone h1) 2
 have r6:=r5.1.kill 0 rfl 2;have hrd:BU (BU (BU (BU (Ab (MF l a)) 2 (.arr true 7 [])) 2 (.arr true 7 [])) 2 (Qt (C2 l i a))) 0 .dead=Ab (Qu l i a):=by
  funext b
  match b with
  | 0=>rfl
  | 1=>rfl
  | 2=>rfl
  | _+3=>rfl
 rw[hrd]at r6;refine⟨_,G,hGn,hrun,r6.1,(st4.trans r5.2).trans r6.2,?_⟩;unfold AM.Bv;rw[FR (CQ hW2)];simp only[IP];omega
def iL(l:List Seen)(i:Nat):List AV:=[.sl 7 0 0 l.length 0,.int .i64 i,.sl 7 1 0 1 1]
theorem aoj(ra:Array Value)(w:World):(callFunc Ps ra).run PG w=.ok (.enter Ps ra) w:=by
 have hfn:PG.funcs[Ps]? = some Go.Proofs.Tryz.f194:=Go.Proofs.Tryz.func194;have hname : (Go.Proofs.Tryz.f194.name == "runtime.NumGoroutine") = false := by kernel_rfl
 have hbody:Go.Proofs.Tryz.f194.body.isNone=false:=by kernel_rfl
 simp only[callFunc,Ce,run_program,Co,hfn,hname,hbody,I8,Hg,CS]
theorem afd{w:World}{I:Nat->Prop}{φ:Ac}{sz b off len cm:Nat}{u:Value}(h:RV w I φ (.sl sz b off len cm) u)(hn:0<len) :
  ∃ B o cap,φ b=some (B,o,sz)/\len<=cap/\cm<=cap/\o+(off+cap)*sz<=Bv w B/\u=.slice (some ⟨B,o+off*sz,none⟩) len cap:=by
 cases h with
 | sl _ _ B o _ _ _ cap q h hq hl hc hs=>exact⟨B,o,cap,h,hl,hc,hs,by rw[hq]⟩
 | sle=>omega
theorem aqy{l:List Seen}{i:Nat}{a:Seen}(hi:i<l.length)(hl:l.length<=100000) :
  At PG Ps (iL l i) (MF l a) (.sl 7 2 0 (l.length+1) 0) (Qu l i a)/\(MF l a).length<=(Qu l i a).length:=by
 refine⟨λw I φ ra hh hx=>?_,by show 2<=3;omega⟩;obtain⟨hsz,hel⟩:=hx;have hsz:ra.size=3:=hsz.symm;have g0:=hel 0 _ ra[0] rfl (Cy (by omega));have g1:=hel 1 _ ra[1] rfl (Cy (by omega));have g2:=hel 2 _ ra[2] rfl (Cy (by omega));obtain⟨B,o,cap,h0,hc1,_,hs,e0⟩:=afd g0 (by omega);obtain⟨B2,o2,vc,h1,_,_,_,e2⟩:=afd g2 (by omega);have e1:ra[1]=.int .i64 i:=by generalize ra[1]=v at g1;cases g1;rfl
 have hra:ra = #[.slice (some ⟨B,o,none⟩) l.length cap,.int .i64 i,.slice (some ⟨B2,o2,none⟩) 1 vc]:=by
  rw[JF,Iy]at e0 e2;refine Array.ext (by simp[hsz]) λj h3 h4=>?_
  match j,h3 with
  | 0,_=>exact e0
  | 1,_=>exact e1
  | 2,_=>exact e2
  | j+3,h=>omega
 subst hra;rw[Ev]at hs;refine .inl ⟨aoj _ _,?_⟩;by_cases hr:l.length+1<=cap
 ·obtain⟨w2,hrun,a1,a2,a3⟩:=al4 hh h0 h1 hi hl hr hs;refine Calls.mono hrun λe w' ⟨he,hw⟩=>⟨_,he,φ.set 2 (B,o,7),I,?_,hw ▸ a1,hw ▸ a2⟩
  subst hw;exact .sl 7 2 B o 0 _ 0 cap o (Ac.E5 _ _ _) (by omega) hr (Bu _) (by rw[a3];omega)
 ·have hcap:cap=l.length:=by omega
  subst hcap;obtain⟨w2,G,hG,hrun,a1,a2,a3⟩:=aqx hh h0 h1 hi hl hs;refine Calls.mono hrun λe w' ⟨he,hw⟩=>⟨_,he,φ.set 2 (w.heap.size,0,7),I,?_,hw ▸ a1,hw ▸ a2⟩
  subst hw;exact .sl 7 2 w.heap.size 0 0 _ 0 G 0 (Ac.E5 _ _ _) (by omega) hG (Bu _) (by omega)
def ax0:Env:=TP [] (λ_=>none) []
theorem ato(n:Nat)(f:Nat->List AV)(a:Seen)(i:Int):Tr ax0 5 Ps [AV.sl 7 0 0 (n+1) 0,AV.int .i64 i,AV.sl 7 1 0 1 1] [BS.seq true 7 (n+1) f,BS.arr true 7 [BH a]] =
 bif decide (0<=i)&&decide (i<=(↑(n+1):Int))then
  bif decide (i=(↑(n+1):Int))then
   bif(n+1).ble (n+1)then
    bif((n+1+1)*72).ble 140737488355328&&(n+1+1).ble 140737488355328 then
     some ((AV.sl 7 2 0 (n+1+1) 0,[BS.dead,BS.arr true 7 [BH a],BS.seq true 7 (n+1+1) λi=>bif i.blt (n+1)then f i else bif i.blt (n+1+1)then [BH a].getD (i - (n+1)) []else f (n+1)]))
    else none
   else none
  else none
 else none:=by kernel_rfl
theorem akB{l:List Seen}{a:Seen}(hne:l ≠ [])(hl:l.length<=100000) :
  At PG Ps (iL l l.length) (MF l a) (.sl 7 2 0 (l.length+1) 0) (Qu l l.length a):=by
 obtain⟨n,hn⟩:∃ n,l.length=n+1:=⟨l.length - 1,by have:=List.length_pos_iff.2 hne;omega⟩
 have e:=ato n (λk=>BH (l.getD k default)) a ((n+1:Nat):Int);rw[Ax (by omega),Ax (JG _),CV,Ae,Ax rfl,Ae,D3 (Ar _),Ae,D3 (by omega),D3 (by omega),CV,Ae]at e;have hc:=(ZZ (m7 AR) mj mixed e).1;have ea:iL l l.length=[.sl 7 0 0 (n+1) 0,.int .i64 ((n+1:Nat):Int),.sl 7 1 0 1 1]:=by unfold iL;rw[hn]
 have eh:MF l a=[.seq true 7 (n+1) (λk=>BH (l.getD k default)),.arr true 7 [BH a]]:=by unfold MF Qt;rw[hn]
 have er:(AV.sl 7 2 0 (l.length+1) 0)=.sl 7 2 0 (n+1+1) 0:=by rw[hn]
 have hil:(C2 l l.length a).length=n+1+1:=by rw[uP (Ar _),hn]
 have eo:Qt (C2 l l.length a)=.seq true 7 (n+1+1) λk=>BH ((C2 l l.length a).getD k default):=by unfold Qt;rw[hil]
 rw[ea,eh,er];unfold Qu;rw[eo];refine hc.KN (.refl _) (.cons (.refl _) (.cons (.refl _) (.cons (.seq true 7 _ _ _ _ (Ar _) λk hk=>?_) .nil)));by_cases h1:k<n+1
 ·rw[Cd h1,Ae,vD (Ar _) (by omega)];exact .refl _
 ·have:k=l.length:=by omega
  subst this;rw[Js (by omega),Aj,Cd (by omega),Ae,vF (Ar _)];have:l.length - (n+1)=0:=by omega
  rw[this];exact .refl _
def cell0(h:Heap)(b:Nat):List AV:=match Ab h b with
 | .arr _ _ es=>es.getD 0 []
 | _=>[]
def dNs(h:Heap)(b:Nat):List Seen:=match Ab h b with
 | .seq _ _ n f=>(List.range n).map λk=>EU (f k)
 | _=>[]
structure IX where
 l:List Seen
 i:Nat
 a:Seen
def rv(args:List AV)(h:Heap):IX:=⟨dNs h 0,(AS args 1).toNat,EU (cell0 h 1)⟩
def rz(x:IX):Prop:=x.i<=x.l.length/\x.l.length<=100000/\x.l ≠ []
def Ww(x:IX):List AV × Heap:=(iL x.l x.i,MF x.l x.a)
def rB(x:IX):AV × Heap:=(.sl 7 2 0 (x.l.length+1) 0,Qu x.l x.i x.a)
theorem atp(x:IX):rv (Ww x).1 (Ww x).2=x:=by obtain⟨l,i,a⟩:=x;have h2:(List.range l.length).map (λk=>EU (BH (l.getD k default)))=l:=Py (e:=BH) (d:=EU) (z:=default) (sz:=7) eB l;show(⟨(List.range l.length).map (λk=>EU (BH (l.getD k default))),((i:Int)).toNat,EU (BH a)⟩:IX)=_;rw[h2,BV,eB]
theorem al6(x:IX)(h:rz x):At PG Ps (Ww x).1 (Ww x).2 (rB x).1 (rB x).2/\(Ww x).2.length<=(rB x).2.length:=by
 obtain⟨l,i,a⟩:=x;obtain⟨h1,h2,h3⟩:=h;simp only[]at h1 h2 h3;refine⟨?_,by show 2<=3;omega⟩;by_cases hi:i<l.length
 ·exact(aqy hi h2).1
 ·have:i=l.length:=by omega
  subst this;exact akB h3 h2
def aio:Af:=.nZ Ps rv rz Ww rB
theorem vG:aio.Ok PG:=Af.uz al6
end Go.Wk
namespace Go.Hd
open Go.Wk
def RW(l:List Seen)(s:Seen):List Seen:=
 bif(Ek l s.Ah).2 then bif decide ((l.getD (Ek l s.Ah).1 default).num<s.num)then l.set (Ek l s.Ah).1 s else l else Wk.C2 l (Ek l s.Ah).1 s
def eSp(l:List Af):Env:=Cw [] [(Od,0),(Rf,0),(SR,1),(Ps,5)] [] l
def ax1:List Af:=[agZ,aio]
def avS(s:Seen):A6 (eSp [TQ]) 30 Od [.Ak,.agg (BH s)]=some (.A9 7 [BH s]):=by kernel_rfl
def avT(s:Seen):A6 (eSp [TQ]) 30 Od [.A9 7 [],.agg (BH s)]=some (.A9 7 [BH s]):=by kernel_rfl
def gSr(A:List AV)(K:SI->Option AV):Option AV:=gC (λa=>(Bm EU (a.getD 0 .Ak),AS a 1)) (λp=>Fe p.1) MU A K
def avU(n:Nat)(F:Nat->Seen)(s:Seen):A6 (eSp ax1) 9 Od [.tr 7 (n+1) λi=>BH (F i),.agg (BH s)] =
 bif((0+(n+1))*72).ble 140737488355328&&(0+(n+1)).ble 140737488355328 then bif(n+1).ble (n+1)&&true then
  gSr [.tr 7 (n+1) λi=>BH (F i),.int .i64 s.Ah] λy=>bif !(Ek y.1 y.2).2 then
   Yv rv rz Ww [.sl 7 0 0 (n+1) 0,.int .i64 ((Ek y.1 y.2).1:Nat),.sl 7 1 0 1 1] [.seq true 7 (n+1) λi=>BH (F i),.arr true 7 [BH s]] λz=>
   bif(z.l.length+1).ble (Wk.C2 z.l z.i z.a).length then some (.tr 7 (z.l.length+1) λk=>BH ((Wk.C2 z.l z.i z.a).getD k default))else none
  else bif decide (((Ek y.1 y.2).1:Int)<((n+1:Nat):Int))then bif(0+(((Ek y.1 y.2).1:Nat):Int).toNat).blt (n+1)then bif decide ((F (0+(((Ek y.1 y.2).1:Nat):Int).toNat)).num<s.num)then
     bif decide (((Ek y.1 y.2).1:Int)<((n+1:Nat):Int))then bif(0+(((Ek y.1 y.2).1:Nat):Int).toNat).blt (n+1)&&true then bif(n+1).ble (n+1)then
      some (.tr 7 (n+1) λj=>bif Nat.beq j (0+(((Ek y.1 y.2).1:Nat):Int).toNat)then BH s else BH (F j))else none else none else none
    else bif(n+1).ble (n+1)then some (.tr 7 (n+1) λj=>BH (F j))else none
   else none else none
 else none else none:=by kernel_rfl
def aqz{l:List Seen}{s:Int}:(Ek l s).1<=l.length:=KS _ _
def acY{l:List Seen}{s:Int}(h:(Ek l s).2=true)(hp:l.Pairwise λa b=>a.Ah<b.Ah):(Ek l s).1<l.length/\(l.getD (Ek l s).1 default).Ah=s:=by
 unfold Ek at h ⊢;dsimp only at h ⊢
 induction l with
 | nil=>cases h
 | cons a l ih=>
  obtain⟨h1,h2⟩:=R4.1 hp;by_cases ha:a.Ah<s
  ·have hn:¬ a.Ah=s:=by omega
   rw[List.filter_cons_of_pos (by simpa using ha)];have:=ih (by simpa [hn] using h) h2;simp only[CR,List.getD_cons_succ];exact⟨by omega,this.2⟩
  ·have he:a.Ah=s:=by
    obtain⟨x,hx,QV⟩:=List.any_eq_true.1 h;have QV:x.Ah=s:=by simpa using QV
    rcases Dz.1 hx with rfl | hx
    ·exact QV
    ·have:=h1 x hx;omega
   have hf:(a::l).filter (λx=>decide (x.Ah<s))=[]:=by
    rw[List.filter_eq_nil_iff];intro x hx;rcases Dz.1 hx with rfl | hx
    ·simpa using ha
    ·have:=h1 x hx;simp;omega
   rw[hf];exact⟨by simp,he⟩
def aqA{X:Type}(e:X->List AV)(z:X)(l:List X)(k:Nat)(x:X)(hk:k<l.length):(λi=>bif Nat.beq i k then e x else e (l.getD i z))=λi=>e ((l.set k x).getD i z):=by
 funext i;by_cases hi:i=k
 ·subst hi;rw[AM.beq_true rfl,Ae];simp[List.getD,hk]
 ·rw[AM.beq_false hi,Aj];simp[List.getD,List.getElem?_set,show ¬ k=i from λe=>hi e.symm]
def aqB(p:SS)(h:Fe p.1):At PG Od (Uf p) [] (B7 (RW p.1 p.2)) []:=by
 obtain⟨l,s⟩:=p;have one:Br (.A9 7 [BH s]) (B7 [s]):=Br.PJ [s] rfl;cases l with
 | nil=>exact At.split (N3.of [] [.agg (BH s)] .nil) ((Cx (ak U1 AR) (avS s)).res one) ((Cx (ak U1 AR) (avT s)).res one)
 | cons a l=>
  have hl:=h.1;have e:=avU l.length (λi=>(a::l).getD i default) s;have hlen:(a::l).length=l.length+1:=rfl;rw[hlen]at hl;have q:∀ {K:SI->Option AV},gSr [.tr 7 (l.length+1) λi=>BH ((a::l).getD i default),.int .i64 s.Ah] K=K (a::l,s.Ah):=λ{K}=>Bj (a::l,s.Ah) (Cv (Nq (a::l)) rfl) h (.refl _);rw[Bn (show(0+(l.length+1))*72<=140737488355328 by omega),Bn (show 0+(l.length+1)<=140737488355328 by omega),Bn (Ar _),CV,Ae,Ae,q]at e;dsimp only at e;obtain⟨i,hi⟩:∃ i,(Ek (a::l) s.Ah).1=i:=⟨_,rfl⟩
  have hle:i<=(a::l).length:=by rw[<- hi];exact aqz
  have o8:=λhs=>acY (l:=a::l) (s:=s.Ah) hs h.2;have hz:(0+((i:Nat):Int).toNat)=i:=by omega
  unfold RW;dsimp only;rw[hi]at e o8 ⊢;cases hs:(Ek (a::l) s.Ah).2 with
  | false=>
   have q2:∀ {K:IX->Option AV},Yv rv rz Ww [.sl 7 0 0 (l.length+1) 0,.int .i64 (i:Nat),.sl 7 1 0 1 1] [.seq true 7 (l.length+1) λj=>BH ((a::l).getD j default),.arr true 7 [BH s]] K=K ⟨a::l,i,s⟩:=λ{K}=>
    aew (⟨a::l,i,s⟩:IX) (atp (⟨a::l,i,s⟩:IX)) ⟨hle,by show(a::l).length<=100000;rw[hlen];omega,by show a::l ≠ [];simp⟩ rfl
   have hil:(Wk.C2 (a::l) i s).length=(a::l).length+1:=uP hle;rw[hs,EP,Ae,q2]at e;dsimp only at e;rw[hil,Bn (Ar _),Ae]at e;rw[Aj];have:B7 (Wk.C2 (a::l) i s)=.tr 7 ((a::l).length+1) λk=>BH ((Wk.C2 (a::l) i s).getD k default):=by unfold B7 DQ;rw[hil]
   rw[this];exact Cx (ak uO (ak vG AR)) e
  | true=>
   obtain⟨h1,_⟩:=o8 hs;rw[hlen]at h1;rw[hs,Dr,Aj,Ax (show((i:Nat):Int)<((l.length+1:Nat):Int) by omega),Ae,hz,Cd h1,Ae,Ae,CV,Ae,Ae]at e;rw[Ae];cases hn:decide (((a::l).getD i default).num<s.num)with
   | true=>
    rw[hn,Ae]at e;rw[Ae];have XZ:=aqA BH default (a::l) i s (by rw[hlen];exact h1);rw[XZ]at e;have:B7 ((a::l).set i s)=.tr 7 (l.length+1) λj=>BH (((a::l).set i s).getD j default):=by unfold B7 DQ;rw[XD];rfl
    rw[this];exact Cx (ak uO (ak vG AR)) e
   | false=>rw[hn,Aj]at e;exact Cx (ak uO (ak vG AR)) e
def gB:Af:=.spec Od cC (λp=>Fe p.1) Uf (λp=>B7 (RW p.1 p.2))
def uD:gB.Ok PG:=Af.BJ aqB
def XK(r:Av)(e:Entry):Av:={r with tail:=⟨r.tail.floor,e.Ag,r.tail.log++[e]⟩,seen:=RW r.seen (GH e)}
def Kh(r:Av)(e:Entry):Av × Bool:=bif AP r.tail.last e.Ag then(XK r e,true)else(r,false)
structure Rz(r:Av)(e:Entry):Prop where
 log:r.tail.log.length<=10000
 last:AU r.tail.last
 Ag:AU e.Ag
 seen:Fe r.seen
def eCp(l:List Af):Env:=Cw [] [(UJ,0),(ew,0),(ZM,0),(Od,0),(tN,0),(lN,0),(Oc,0)] [] l
def gTP(t:BZ)(e:Entry)(K:TE->Option AV):Option AV:=gC jF Wj Yw [.agg (Cn t),.agg (Bt e)] K
def gSP(l:List Seen)(s:Seen)(K:SS->Option AV):Option AV:=gC cC (λp=>Fe p.1) Uf [B7 l,.agg (BH s)] K
def atq(r:Av)(e:Entry):A6 (eCp [wx,gB,kOf]) 9 UJ [.agg (AJ r),.agg (Bt e)] =
 gTP r.tail e λy=>bif !(Kk y.1 y.2).2 then some (.Am [.agg (AJ r),.bool false])else gC gy gz gA [.agg (Bt e)] λz=>gSP r.seen (GH z) λx=>
  some (.Am [.agg (AJ {r with tail:=(Kk y.1 y.2).1,seen:=RW x.1 x.2}),.bool true]):=by kernel_rfl
def Ug(p:RE):AV:=.Am [.agg (AJ (Kh p.1 p.2).1),.bool (Kh p.1 p.2).2]
def aqC(p:RE)(h:Rz p.1 p.2):At PG UJ (MT p) [] (Ug p) []:=by obtain⟨r,e⟩:=p;have k:=atq r e;have q1:∀ {K:TE->Option AV},gTP r.tail e K=K (r.tail,e):=λ{K}=>qTE ⟨h.log,h.last,h.Ag⟩;have q2:∀ {K:SS->Option AV},gSP r.seen (GH e) K=K (r.seen,GH e):=λ{K}=>Bj (r.seen,GH e) (Cv (Nq _) (eB _)) h.seen (.refl _);rw[q1,af3,q2]at k;refine Cx (ak abv (ak uD (ak aeD AR))) (k.trans ?_);unfold Ug Kh Kk;dsimp only;cases AP r.tail.last e.Ag <;> rfl
def aO:Af:=.spec UJ QL (λp=>Rz p.1 p.2) MT Ug
def mG:aO.Ok PG:=Af.BJ aqC
def aqD(r:Av)(e:Entry):A6 (eCp [oP,P6,aO]) 9 ew [.agg (AJ r),.agg (Bt e)] =
 gC Ef Hr Eg [.agg (AJ r)] λy=>gC Ef Gy Eg [.agg (AJ y)] λz=>bif !CH z then some (.Am [.agg (AJ y),.bool false])else
  gC QL (λp=>Rz p.1 p.2) MT [.agg (AJ y),.agg (Bt e)] λx=>some (Ug x):=by kernel_rfl
def IQ(p:RE):Av × Bool:=bif CH p.1 then Kh p.1 p.2 else(p.1,false)
def zi(p:RE):AV:=.Am [.agg (AJ (IQ p).1),.bool (IQ p).2]
def iM(p:RE):Prop:=Hr p.1/\Rz p.1 p.2
def aok(p:RE)(h:iM p):At PG ew (MT p) [] (zi p) []:=by obtain⟨r,e⟩:=p;have k:=aqD r e;have q3:∀ {K:RE->Option AV},gC QL (λp=>Rz p.1 p.2) MT [.agg (AJ r),.agg (Bt e)] K=K (r,e):=λ{K}=>qRE h.2;rw[aM (P:=Hr) h.1,aM (P:=Gy) trivial,q3]at k;refine Cx (ak vt (ak Rn (ak mG AR))) (k.trans ?_);unfold zi IQ;dsimp only;cases CH r <;> rfl
def afe:Af:=.spec ew QL iM MT zi
def al7:afe.Ok PG:=Af.BJ aok
def vH(c:Bz):Af:=.EC UD (λa h=>(Jb h,Bm Dj (a.getD 1 .Ak))) (λp=>p.2.length<=100000/\Nu c p.1 p.2) (λp=>([.ptr 0 0 0,BB p.2],Bo p.1)) (λp=>(.Am [],BE (Nx c p.1 p.2)))
def aaW{c:Bz}(h:c.Ok):(vH c).Ok PG:=Af.EL λp hp=>al1 c h p.1 p.2 hp.1 hp.2
def eFr(l:List Af):Env:=Cw [(Ob,0,[0,8,116,117,118])] [(SW,5),(Ll,5),(UE,5),(UF,5),(UD,5),(WN,5),(Ob,5),(eg,0),(ed,0),(ZP,0),(lF,0),(ew,0),(Pw,0),(Xf,0)] [] l
def zj(c:Bz):List Af:=[wH,vA,afc,agY,af2,acB,afe,nz,xO,wO,agn,xR,vH c]
def aip(w:Ai)(nO:Nat)(FO:Nat->List AV):Heap:=[.arr true 44 [HF w (.sn 4 1 w.d.waits.length) (.sn 3 2 w.d.asks.length) (.sn 31 3 nO)],.seq true 4 w.d.waits.length (CM w.d.waits),.seq true 3 w.d.asks.length (BY w.d.asks),.seq true 31 nO FO]
def eR(e:YI):Entry:=Oh e.o e.v e.s e.n e.x e.room
def GQ(w:Ai)(r:Av):Ai:={w with d:={w.d with rep:=r}}
def VG(w:Ai)(l:List Md.Ask):Ai:={w with d:={w.d with asks:=l}}
def rC(c:Bz)(w:Ai)(e:Entry)(N m:Nat)(i:Int):Option (AV × Heap):=LP (eFr (zj c)) N 4 Ob (Cm 1 4) 0 [] m {fr:=[(0,.ptr 0 0 0),(8,.ptr 7 0 0),(116,.sn 3 5 w.d.asks.length),(117,.int .i64 w.d.asks.length),(118,.int .i64 i)],hp:=[.arr true 44 [HF w (.sn 4 4 w.d.waits.length) (.sn 3 5 w.d.asks.length) (.sn 31 6 w.out.length)],.dead,.dead,.dead,.seq true 4 w.d.waits.length (CM w.d.waits),.seq true 3 w.d.asks.length (BY w.d.asks),.seq true 31 w.out.length (BP w.out),.arr true 11 [Bt e]]}
def aff(c:Bz)(w:Ai)(e:Entry)(N m:Nat)(i:Int):rC c w e N (m+1) i =
 bif decide (i<(w.d.asks.length:Int))then rg i w.d.asks.length (bif i.toNat.blt w.d.asks.length then bif A5 (w.d.asks.getD i.toNat default).key e.key then
   BA c7 (λp=>p.2<p.1.length/\p.1.length<=100000) YV [.sn 3 0 w.d.asks.length,.int .i64 i,.int .i64 (Ao (i+1))] [.seq true 3 w.d.asks.length (BY w.d.asks)] λy=>
   BA (λa h=>(Jb h,Bm Dj (a.getD 1 .Ak))) (λp=>p.2.length<=100000/\Nu c p.1 p.2) (λp=>([.ptr 0 0 0,BB p.2],Bo p.1)) [.ptr 0 0 0,BB (w.d.asks.getD i.toNat default).calls] (Bo (VG w (y.1.eraseIdx y.2))) λz=>some (.Am [],BE (Nx c z.1 z.2))
  else rC c w e N m (Ao (i+1))else none)
 else some (.Am [],BE w):=by kernel_rfl
def ag1(c:Bz)(N:Nat)(e:Entry)(q:Ai):Option (AV × Heap):=gC Qo Ga NS [Bi q.d.clean,.str e.key] λo=>rC c (Jc q (CX o.1 o.2)) e N N 0
def xS(c:Bz)(N:Nat)(e:Entry)(w:Ai)(r:Av):Option (AV × Heap):=gC Ef Kj Eg [.agg (AJ r)] λg=>
 bif w.out.length.ble w.out.length then bif((w.out.length+(BL g).length)*392).ble 140737488355328&&(w.out.length+(BL g).length).ble 140737488355328 then
  bif !e.write then some (.Am [],Jo w w.d.waits.length (CM w.d.waits) w.d.asks.length (BY w.d.asks) (w.out.length+(BL g).length) (BQ w.out.length (BP w.out) (.fn (BL g).length (BP (BL g)))))
  else BA (λ_ h=>Jb h) (λw=>MA w.d.rep.tail.log) (λw=>([.ptr 0 0 0],Bo w)) [.ptr 0 0 0] (aip w (w.out.length+(BL g).length) (BQ w.out.length (BP w.out) (.fn (BL g).length (BP (BL g))))) λq=>ag1 c N e (Fk q)
 else none else none
def a7(c:Bz)(N:Nat)(w0 w:Ai)(m:Ad)(x:AH):Option (AV × Heap):=
 gC dVI pVI p7 [eV w0.d.rep.tail.last,.int .i64 w0.d.rep.view.Az] λv=>gC dRs (λ_=>True) qG [.agg (P5 m.op),eV (vr v.2 (nu v.1+1)),.int .i64 m.Ah,.int .i64 m.num,.agg (AK x),.bool (!w0.d.busy)] λe=>
 gC QL iM MT [.agg (AJ w0.d.rep),.agg (Bt (eR e))] λp=>bif !(IQ p).2 then some (.Am [],BE w)else
 BA iI (λp=>p.1.d.waits.length<=100000) bD [.ptr 0 0 0,eV (eR e).Ag,.agg (Aq m)] (Bo (GQ w (IQ p).1)) λq=>xS c N (eR e) (I4 q.1 q.2.1 q.2.2) (IQ p).1
def ot(c:Bz)(N:Nat)(w0:Ai)(m:Ad):Option (AV × Heap):=
 BA ru (λp=>Qs p.1) kg [.ptr 0 0 0,.str m.op.key] (Bo w0) λz=>bif !(B4 z.1 z.2).2.1 then BA EA (λp=>aZ p.1 p.2) Es [.ptr 0 0 0,.agg (Aq m)] (Bo (B4 z.1 z.2).2.2) λq=>some (.Am [],BE (VE q.1 q.2))else a7 c N w0 (B4 z.1 z.2).2.2 m (B4 z.1 z.2).1
def avV(c:Bz)(N:Nat)(w:Ai)(m:Ad):CO 1 (eFr (zj c)) (N+1) Ob [.ptr 0 0 0,.agg (Aq m)] (Bo w) =
 gC (λa=>AS a 0) (λ_=>True) (λk=>[.int .i64 k]) [.int .i64 m.op.kind] λy=>bif Xv y then
  bif !w.d.busy then ot c N w m else gC (λa=>AS a 0) (λ_=>True) (λk=>[.int .i64 k]) [.int .i64 m.op.kind] λy=>bif !PD y then ot c N w m else a7 c N w w m default
 else a7 c N w w m default:=by kernel_rfl
def aqE{c:Bz}(h:c.Ok):∀ k ∈ zj c,k.Ok PG:=ak aby (ak aaU (ak al2 (ak aoe (ak am0 (ak ajR (ak al7 (ak tO (ak acP (ak abG (ak anx (ak acX (ak (aaW h) AR))))))))))))
def Yd(k:An)(a:Md.Ask):Bool:=A5 a.key k
def Hp(w:Ai)(k:An):Nat:=w.d.asks.findIdx (Yd k)
def Sd(c:Bz)(w:Ai)(k:An):Ai:=
 bif(Hp w k).blt w.d.asks.length then Nx c (VG w (w.d.asks.eraseIdx (Hp w k))) (w.d.asks.getD (Hp w k) default).calls else w
def a8(c:Bz)(w:Ai)(k:An):Prop:=w.d.asks.length<=100000 /\
 (Hp w k<w.d.asks.length->(w.d.asks.getD (Hp w k) default).calls.length<=100000/\Nu c (VG w (w.d.asks.eraseIdx (Hp w k))) (w.d.asks.getD (Hp w k) default).calls)
def Nv(w:Ai):Ai:=bC w (BL w.d.rep)
def XT(w:Ai)(k:An):Ai:=Jc (Fk (Nv w)) (CX (Fk (Nv w)).d.clean k)
def gV(c:Bz)(w:Ai)(e:Entry):Ai:=bif !e.write then Nv w else Sd c (XT w e.key) e.key
structure afg(c:Bz)(w:Ai)(e:Entry):Prop where
 ag:Kj w.d.rep
 out:w.out.length<=1000000
 outs:(BL w.d.rep).length<=100000
 es:e.write=true->MA w.d.rep.tail.log
 cl:e.write=true->w.d.clean.length<=100000
 fin:e.write=true->a8 c (XT w e.key) e.key
def Sf(w:Ai):Au:=vr w.d.rep.view.Az.toNat (nu w.d.rep.tail.last+1)
def Fq(w:Ai)(m:Ad)(x:AH):Entry:=Oh m.op (Sf w) m.Ah m.num x (!w.d.busy)
def RX(c:Bz)(w:Ai)(m:Ad)(x:AH):Ai:=
 bif !(IQ (w.d.rep,Fq w m x)).2 then w else gV c (I4 (GQ w (IQ (w.d.rep,Fq w m x)).1) (Fq w m x).Ag m) (Fq w m x)
structure aj(c:Bz)(w:Ai)(m:Ad)(x:AH):Prop where
 ep:0<=w.d.rep.view.Az
 last:AU w.d.rep.tail.last
 pre:iM (w.d.rep,Fq w m x)
 waits:w.d.waits.length<=100000
 done:(IQ (w.d.rep,Fq w m x)).2=true->afg c (I4 (GQ w (IQ (w.d.rep,Fq w m x)).1) (Fq w m x).Ag m) (Fq w m x)
def J6(w:Ai)(m:Ad):Bool:=Xv m.op.kind&&(!w.d.busy || !PD m.op.kind)
def Lq(c:Bz)(w:Ai)(m:Ad):Ai:=
 bif J6 w m then bif !(B4 w m.op.key).2.1 then VE (B4 w m.op.key).2.2 m else RX c (B4 w m.op.key).2.2 m (B4 w m.op.key).1
 else RX c w m default
structure Fp(c:Bz)(w:Ai)(m:Ad):Prop where
 fi:J6 w m=true->Qs w
 ask:J6 w m=true->(B4 w m.op.key).2.1=false->aZ (B4 w m.op.key).2.2 m
 B5:J6 w m=true->(B4 w m.op.key).2.1=true->aj c (B4 w m.op.key).2.2 m (B4 w m.op.key).1
 new:J6 w m=false->aj c w m default
def abL(w:Ai)(k:An):(B4 w k).2.2.d.rep=w.d.rep/\(B4 w k).2.2.d.busy=w.d.busy:=by
 unfold B4;cases (EY w.d.rep.tail k).2 with
 | true=>exact⟨rfl,rfl⟩
 | false=>
  rw[Aj];cases w.Hu&&A5 w.DI.key k with
  | true=>exact⟨rfl,rfl⟩
  | false=>exact⟨rfl,rfl⟩
def aqF(c:Bz)(w:Ai)(e:Entry)(h:a8 c w e.key)(N:Nat):∀ (d i m:Nat),i+d=w.d.asks.length->d<m->(∀ j,j<i->Yd e.key (w.d.asks.getD j default)=false)->rC c w e N m (i:Nat)=some (.Am [],BE (Sd c w e.key)):=by
 intro d
 induction d with
 | zero=>
  intro i m hi hm CZ;obtain⟨m,rfl⟩:=B3 m (by omega);have DU:Hp w e.key=w.d.asks.length:=by unfold Hp;refine List.findIdx_eq_length.2 λx hx=>?_;obtain⟨j,hj,rfl⟩:=R2 hx;have:=CZ j (by omega);rw[show w.d.asks.getD j default=w.d.asks[j] by simp[List.getD,hj]]at this;exact this
  rw[aff,AN (by omega),Aj];unfold Sd;rw[DU,Js (Ar _),Aj]
 | succ d ih=>
  intro i m hi hm CZ;obtain⟨m,rfl⟩:=B3 m (by omega);have hil:i<w.d.asks.length:=by omega
  have hl:=h.1;have hw:Ao ((i:Int)+1)=((i+1:Nat):Int):=Cs (by omega);have hg:w.d.asks.getD i default=w.d.asks[i]:=by simp[List.getD,hil]
  rw[aff,Ax (show((i:Nat):Int)<(w.d.asks.length:Int) by omega),Ae,B8 hil,BV,Cd hil,Ae,hw];cases hs:A5 (w.d.asks.getD i default).key e.key with
  | true=>
   have DU:Hp w e.key=i:=by unfold Hp;refine(List.findIdx_eq hil).2 ⟨by rw[<- hg];exact hs,λj hj=>?_⟩;have:=CZ j hj;rw[show w.d.asks.getD j default=w.d.asks[j] by simp[List.getD,show j<w.d.asks.length by omega]]at this;exact this
   have h2:=h.2;rw[DU]at h2;obtain⟨ha,hb⟩:=h2 hil;have q1:∀ {K:LI->Option (AV × Heap)},BA c7 (λp=>p.2<p.1.length/\p.1.length<=100000) YV [.sn 3 0 w.d.asks.length,.int .i64 (i:Int),.int .i64 ((i+1:Nat):Int)] [.seq true 3 w.d.asks.length (BY w.d.asks)] K=K (w.d.asks,i):=λ{K}=>
    Dw (w.d.asks,i) (afb (w.d.asks,i)) ⟨hil,hl⟩ (.refl _) (.refl _)
   have q2:∀ {W:Ai} {l:List Ad} {K:Ai × List Ad->Option (AV × Heap)},l.length<=100000->Nu c W l->BA (λa h=>(Jb h,Bm Dj (a.getD 1 .Ak))) (λp=>p.2.length<=100000/\Nu c p.1 p.2) (λp=>([.ptr 0 0 0,BB p.2],Bo p.1)) [.ptr 0 0 0,BB l] (Bo W) K=K (W,l):=λ{W l K} h1 h2=>
    Dw (W,l) (Cv (Rt W) (fv l)) ⟨h1,h2⟩ (.refl _) (.refl _)
   rw[Ae,q1,q2 ha hb];unfold Sd;rw[DU,Cd hil,Ae]
  | false=>
   rw[Aj];refine ih (i+1) m (by omega) (by omega) λj hj=>?_;by_cases ko:j<i
   ·exact CZ j ko
   ·rw[show j=i by omega];exact hs
def aqG(c:Bz)(w:Ai)(e:Entry)(h:afg c w e)(N:Nat)(hN:100000<N):xS c N e w w.d.rep=some (.Am [],BE (gV c w e)):=by
 have h2:=h.out;have h3:=h.outs;have hq:∀ {K:Av->Option (AV × Heap)},gC Ef Kj Eg [.agg (AJ w.d.rep)] K=K w.d.rep:=λ{K}=>Bj w.d.rep (GZ w.d.rep) h.ag (.refl _);have happ:BQ w.out.length (BP w.out) (.fn (BL w.d.rep).length (BP (BL w.d.rep)))=BP (w.out++BL w.d.rep):=mI _ _ _ _;have pH:Jo w w.d.waits.length (CM w.d.waits) w.d.asks.length (BY w.d.asks) (w.out.length+(BL w.d.rep).length) (BP (w.out++BL w.d.rep))=BE (Nv w):=by rw[show w.out.length+(BL w.d.rep).length=(w.out++BL w.d.rep).length by simp,fV];rfl
 have hwe:aip w (w.out.length+(BL w.d.rep).length) (BP (w.out++BL w.d.rep))=Bo (Nv w):=by rw[show w.out.length+(BL w.d.rep).length=(w.out++BL w.d.rep).length by simp];rfl
 unfold xS gV;rw[hq,Bn (Ar _),Ae,Bn (show(w.out.length+(BL w.d.rep).length)*392<=140737488355328 by omega),Bn (show w.out.length+(BL w.d.rep).length<=140737488355328 by omega),CV,Ae,happ,pH,hwe];cases hw:e.write with
 | false=>rfl
 | true=>rw[Dr,Aj,Aj];have q1:∀ {K:Ai->Option (AV × Heap)},BA (λ_ h=>Jb h) (λw=>MA w.d.rep.tail.log) (λw=>([.ptr 0 0 0],Bo w)) [.ptr 0 0 0] (Bo (Nv w)) K=K (Nv w):=λ{K}=>Dw (Nv w) (Rt _) (h.es hw) (.refl _) (.refl _);rw[q1];unfold ag1;have q2:∀ {K:YO->Option (AV × Heap)},gC Qo Ga NS [Bi (Fk (Nv w)).d.clean,.str e.key] K=K ((Fk (Nv w)).d.clean,e.key):=λ{K}=>Bj ((Fk (Nv w)).d.clean,e.key) (m9 ((Fk (Nv w)).d.clean,e.key)) (h.cl hw) (.refl _);rw[q2];exact aqF c (XT w e.key) e (h.fin hw) N _ 0 N (Ev _) (by have:=(h.fin hw).1;omega) λj hj=>absurd hj (C5 j)
def ad0(c:Bz)(w0 w:Ai)(m:Ad)(x:AH)(hr:w.d.rep=w0.d.rep)(hb:w.d.busy=w0.d.busy)(h:aj c w m x)(N:Nat)(hN:100000<N):a7 c N w0 w m x=some (.Am [],BE (RX c w m x)):=by
 have hE:eR ⟨m.op,Sf w,m.Ah,m.num,x,!w.d.busy⟩=Fq w m x:=rfl;have q1:∀ {K:Au × Nat->Option (AV × Heap)},gC dVI pVI p7 [eV w.d.rep.tail.last,.int .i64 w.d.rep.view.Az] K=K (w.d.rep.tail.last,w.d.rep.view.Az.toNat):=λ{K}=>by
  have:w.d.rep.view.Az=((w.d.rep.view.Az.toNat:Nat):Int):=by have:=h.ep;omega
  refine Bj (w.d.rep.tail.last,w.d.rep.view.Az.toNat) rfl h.last ?_;unfold p7;rw[<- this];exact .refl _
 have q2:∀ {K:YI->Option (AV × Heap)},gC dRs (λ_=>True) qG [.agg (P5 m.op),eV (Sf w),.int .i64 m.Ah,.int .i64 m.num,.agg (AK x),.bool (!w.d.busy)] K=K (⟨m.op,Sf w,m.Ah,m.num,x,!w.d.busy⟩:YI):=λ{K}=>Bj (⟨m.op,Sf w,m.Ah,m.num,x,!w.d.busy⟩:YI) rfl trivial (.refl _);unfold a7;rw[<- hr,<- hb,q1];have:vr w.d.rep.view.Az.toNat (nu w.d.rep.tail.last+1)=Sf w:=rfl;rw[this,q2,hE];have q3:∀ {K:RE->Option (AV × Heap)},gC QL iM MT [.agg (AJ w.d.rep),.agg (Bt (Fq w m x))] K=K (w.d.rep,Fq w m x):=λ{K}=>qRE h.pre;rw[q3];unfold RX;cases hp:(IQ (w.d.rep,Fq w m x)).2 with
 | false=>rfl
 | true=>
  rw[Dr,Aj,Aj];have q4:∀ {K:qW->Option (AV × Heap)},BA iI (λp=>p.1.d.waits.length<=100000) bD [.ptr 0 0 0,eV (Fq w m x).Ag,.agg (Aq m)] (Bo (GQ w (IQ (w.d.rep,Fq w m x)).1)) K=K (GQ w (IQ (w.d.rep,Fq w m x)).1,(Fq w m x).Ag,m):=λ{K}=>
   Dw (GQ w (IQ (w.d.rep,Fq w m x)).1,(Fq w m x).Ag,m) (adV (GQ w (IQ (w.d.rep,Fq w m x)).1,(Fq w m x).Ag,m)) h.waits (.refl _) (.refl _)
  rw[q4];exact aqG c _ _ (h.done hp) N hN
def al8(c:Bz)(hc:c.Ok)(w:Ai)(m:Ad)(h:Fp c w m):At PG Ob [.ptr 0 0 0,.agg (Aq m)] (Bo w) (.Am []) (BE (Lq c w m))/\(Bo w).length<=(BE (Lq c w m)).length:=by
 obtain⟨N,hN⟩:∃ N,N=200000:=⟨_,rfl⟩
 refine Ds (aqE hc) (c:=1) (n:=N+1) (by show 1<=4;omega) ((avV c N w m).trans ?_);have qk:∀ {K:Int->Option (AV × Heap)},gC (λa=>AS a 0) (λ_=>True) (λk=>[.int .i64 k]) [.int .i64 m.op.kind] K=K m.op.kind:=λ{K}=>Bj m.op.kind rfl trivial (.refl _);rw[qk,qk];have hf:J6 w m=true->ot c N w m=some (.Am [],BE (Lq c w m)):=by
  intro ha;unfold ot Lq;have q1:∀ {K:WK->Option (AV × Heap)},BA ru (λp=>Qs p.1) kg [.ptr 0 0 0,.str m.op.key] (Bo w) K=K (w,m.op.key):=λ{K}=>Dw (w,m.op.key) (atm (w,m.op.key)) (h.fi ha) (.refl _) (.refl _);rw[q1,ha,Ae];cases hg:(B4 w m.op.key).2.1 with
  | false=>have q2:∀ {K:WM->Option (AV × Heap)},BA EA (λp=>aZ p.1 p.2) Es [.ptr 0 0 0,.agg (Aq m)] (Bo (B4 w m.op.key).2.2) K=K ((B4 w m.op.key).2.2,m):=λ{K}=>Dw ((B4 w m.op.key).2.2,m) (U6 ((B4 w m.op.key).2.2,m)) (h.ask ha hg) (.refl _) (.refl _);rw[EP,Ae,Ae,q2]
  | true=>rw[Dr,Aj,Aj];exact ad0 c w _ m _ (abL w _).1 (abL w _).2 (h.B5 ha hg) N (by omega)
 have hn:J6 w m=false->a7 c N w w m default=some (.Am [],BE (Lq c w m)):=by intro ha;unfold Lq;rw[ha,Aj];exact ad0 c w w m _ rfl rfl (h.new ha) N (by omega)
 cases h1:Xv m.op.kind with
 | false=>rw[Aj];exact hn (by unfold J6;rw[h1];rfl)
 | true=>
  rw[Ae];cases h2:w.d.busy with
  | false=>rw[EP,Ae];exact hf (by unfold J6;rw[h1,h2];rfl)
  | true=>
   rw[Dr,Aj];cases h3:PD m.op.kind with
   | false=>rw[EP,Ae];exact hf (by unfold J6;rw[h1,h2,h3];rfl)
   | true=>rw[Dr,Aj];exact hn (by unfold J6;rw[h1,h2,h3];rfl)
def afh(c:Bz):Af:=.EC Ob EA (λp=>Fp c p.1 p.2) Es (λp=>(.Am [],BE (Lq c p.1 p.2)))
def al9{c:Bz}(h:c.Ok):(afh c).Ok PG:=Af.EL λp hp=>al8 c h p.1 p.2 hp
def eCl(l:List Af):Env:=Cw [] [(Nm,5),(SV,5),(UE,5),(Ob,5),(ee,0),(Ri,0),(ZA,0),(eZ,0),(SX,0),(WY,0)] [] l
def aiq(c:Bz):List Af:=[adU,xO,afh c,wI,gE,xI,br,Lo,vq]
def o9(w:Ai)(m:Ad)(k:Int):Option (AV × Heap):=BA yX (λp=>p.1.out.length<=1000000) oY [.ptr 0 0 0,.agg (Aq m),.int .i64 k] (Bo w) λp=>some (.Am [],BE (On p.1 p.2.1 p.2.2))
def gWt(w:Ai)(v:Au)(m:Ad):Option (AV × Heap):=BA iI (λp=>p.1.d.waits.length<=100000) bD [.ptr 0 0 0,eV v,.agg (Aq m)] (Bo w) λp=>some (.Am [],BE (I4 p.1 p.2.1 p.2.2))
def gFr(c:Bz)(w:Ai)(m:Ad):Option (AV × Heap):=BA EA (λp=>Fp c p.1 p.2) Es [.ptr 0 0 0,.agg (Aq m)] (Bo w) λp=>some (.Am [],BE (Lq c p.1 p.2))
def call2(c:Bz)(w:Ai)(m:Ad):Option (AV × Heap):=gC MR AU MS [eV w.d.rep.tail.last] λy=>
 bif decide (w.c.Ov<=(nu y:Int))then gC Ef Gy Eg [.agg (AJ w.d.rep)] λr=>gC Dq V2 Dp [eV (Ir r),eV w.d.rep.tail.last] λv=>bif !AP v.1 v.2 then o9 w m 5 else some (.Am [],BE w)
 else gFr c w m
def ag2(c:Bz)(w:Ai)(m:Ad)(known:Bool):Option (AV × Heap):=
 bif decide (w.c.Ou<=(w.d.rep.tail.log.length:Int))then some (.Am [],BE w)else
 bif !known then bif decide (w.c.Xk<=(w.d.rep.seen.length:Int))then some (.Am [],BE w)else call2 c w m else call2 c w m
def avW(c:Bz)(w:Ai)(m:Ad):CO 1 (eCl (aiq c)) 9 Nm [.ptr 0 0 0,.agg (Aq m)] (Bo w) =
 bif decide (m.gen<w.d.rep.view.gen)then o9 w m 6 else
 gC (λa=>(aH (Bd a 0),U0 (Bd a 1))) (λ_=>True) cQ [.agg (P5 m.op),.agg (D4 w.c)] λy=>
 bif !decide (GM y.1 y.2=0)then o9 w m (GM y.1 y.2)else
 gC Ul (λp=>Fe p.1) MU [B7 w.d.rep.seen,.int .i64 m.Ah] λz=>
 gC (λa=>(Bm EU (a.getD 0 .Ak),AS a 1,AS a 2)) (λp=>Fe p.1) bu [B7 w.d.rep.seen,.int .i64 m.Ah,.int .i64 m.num] λv=>
 bif decide (P8 v.1 v.2.1 v.2.2=1)then gWt w (CA z.1 z.2).1.Ag m else
 bif decide (P8 v.1 v.2.1 v.2.2=2)then some (.Am [],BE w)else ag2 c w m (CA z.1 z.2).2:=by kernel_rfl
def aqH{c:Bz}(h:c.Ok):∀ k ∈ aiq c,k.Ok PG:=ak akr (ak acP (ak (al9 h) (ak abz (ak mK (ak acC (ak fB (ak Np (ak aaT AR))))))))
def Mu(w:Ai)(m:Ad):Bool:=decide (w.c.Ou<=(w.d.rep.tail.log.length:Int))||(!(CA w.d.rep.seen m.Ah).2&&decide (w.c.Xk<=(w.d.rep.seen.length:Int)))
def Mv(w:Ai)(m:Ad):Int:=P8 w.d.rep.seen m.Ah m.num
def Qa(w:Ai)(m:Ad):Bool:=!decide (m.gen<w.d.rep.view.gen)&&(decide (GM m.op w.c=0)&&(!decide (Mv w m=1)&&(!decide (Mv w m=2)&&(!Mu w m && !decide (w.c.Ov<=(nu w.d.rep.tail.last:Int))))))
def Qb(c:Bz)(w:Ai)(m:Ad):Ai:=
 bif decide (m.gen<w.d.rep.view.gen)then On w m 6 else
 bif !decide (GM m.op w.c=0)then On w m (GM m.op w.c)else
 bif decide (Mv w m=1)then I4 w (CA w.d.rep.seen m.Ah).1.Ag m else
 bif decide (Mv w m=2)then w else
 bif Mu w m then w else
 bif decide (w.c.Ov<=(nu w.d.rep.tail.last:Int))then bif !AP (Ir w.d.rep) w.d.rep.tail.last then On w m 5 else w else Lq c w m
structure bG(c:Bz)(w:Ai)(m:Ad):Prop where
 out:w.out.length<=1000000
 waits:w.d.waits.length<=100000
 seen:Fe w.d.rep.seen
 last:AU w.d.rep.tail.last
 kr:AU (Ir w.d.rep)
 fr:Qa w m=true->Fp c w m
def aol(c:Bz)(hc:c.Ok)(w:Ai)(m:Ad)(h:bG c w m):At PG Nm [.ptr 0 0 0,.agg (Aq m)] (Bo w) (.Am []) (BE (Qb c w m)):=by
 refine(Ds (aqH hc) (c:=1) (n:=9) (by show 1<=4;omega) ((avW c w m).trans ?_)).1;have qr:∀ k,o9 w m k=some (.Am [],BE (On w m k)):=λk=>Dw (w,m,k) (aql (w,m,k)) h.out (.refl _) (.refl _);have qw:∀ v,gWt w v m=some (.Am [],BE (I4 w v m)):=λv=>Dw (w,v,m) (adV (w,v,m)) h.waits (.refl _) (.refl _);have qf:Fp c w m->gFr c w m=some (.Am [],BE (Lq c w m)):=λhf=>Dw (w,m) (U6 (w,m)) hf (.refl _) (.refl _);have qc:∀ {K:OC->Option (AV × Heap)},gC (λa=>(aH (Bd a 0),U0 (Bd a 1))) (λ_=>True) cQ [.agg (P5 m.op),.agg (D4 w.c)] K=K (m.op,w.c):=λ{K}=>Bj (m.op,w.c) rfl trivial (.refl _);have qv:∀ {K:qH->Option (AV × Heap)},gC (λa=>(Bm EU (a.getD 0 .Ak),AS a 1,AS a 2)) (λp=>Fe p.1) bu [B7 w.d.rep.seen,.int .i64 m.Ah,.int .i64 m.num] K=K (w.d.rep.seen,m.Ah,m.num):=λ{K}=>Bj (w.d.rep.seen,m.Ah,m.num) (Cv (Nq _) rfl) h.seen (.refl _);have q2:(Qa w m=true\/w.c.Ov<=(nu w.d.rep.tail.last:Int))->call2 c w m=some (.Am [],BE (bif decide (w.c.Ov<=(nu w.d.rep.tail.last:Int))then bif !AP (Ir w.d.rep) w.d.rep.tail.last then On w m 5 else w else Lq c w m)):=by
  intro hg;unfold call2;have qn:∀ {K:Au->Option (AV × Heap)},gC MR AU MS [eV w.d.rep.tail.last] K=K w.d.rep.tail.last:=λ{K}=>Bj _ rfl h.last (.refl _);have qm:∀ {K:Av->Option (AV × Heap)},gC Ef Gy Eg [.agg (AJ w.d.rep)] K=K w.d.rep:=λ{K}=>Bj w.d.rep (GZ w.d.rep) trivial (.refl _);have qa:∀ {K:Au × Au->Option (AV × Heap)},gC Dq V2 Dp [eV (Ir w.d.rep),eV w.d.rep.tail.last] K=K (Ir w.d.rep,w.d.rep.tail.last):=λ{K}=>Bj (_,_) rfl ⟨h.kr,h.last⟩ (.refl _);rw[qn,qm,qa];by_cases hm:w.c.Ov<=(nu w.d.rep.tail.last:Int)
  ·rw[Ax hm,Ae,Ae];cases hv:AP (Ir w.d.rep) w.d.rep.tail.last with
   | false=>rw[EP,Ae,Ae];exact qr 5
   | true=>rfl
  ·rw[AN hm,Aj,Aj];rcases hg with hg | hg
   ·exact qf (h.fr hg)
   ·exact absurd hg hm
 rw[qc,gI h.seen,qv];unfold Qb;by_cases h1:m.gen<w.d.rep.view.gen
 ·rw[Ax h1,Ae,Ae];exact qr 6
 rw[AN h1,Aj,Aj];dsimp only;by_cases h2:GM m.op w.c=0
 ·rw[Ax h2,Dr,Aj,Aj];have e:P8 w.d.rep.seen m.Ah m.num=Mv w m:=rfl;rw[e];by_cases h3:Mv w m=1
  ·rw[Ax h3,Ae,Ae];exact qw _
  rw[AN h3,Aj,Aj];by_cases h4:Mv w m=2
  ·rw[Ax h4,Ae,Ae]
  rw[AN h4,Aj,Aj];have hg:Mu w m=false->(Qa w m=true\/w.c.Ov<=(nu w.d.rep.tail.last:Int)):=by
   intro hf;by_cases hm:w.c.Ov<=(nu w.d.rep.tail.last:Int)
   ·exact .inr hm
   ·left;unfold Qa;rw[AN h1,Ax h2,AN h3,AN h4,hf,AN hm];rfl
  unfold ag2;cases h5:decide (w.c.Ou<=(w.d.rep.tail.log.length:Int))with
  | true=>
   have:Mu w m=true:=by unfold Mu;rw[h5];rfl
   rw[this];rfl
  | false=>
   rw[Aj];cases h6:(CA w.d.rep.seen m.Ah).2 with
   | true=>
    have:Mu w m=false:=by unfold Mu;rw[h5,h6];rfl
    rw[this,Dr,Aj,Aj];exact q2 (hg this)
   | false=>
    rw[EP,Ae];cases h7:decide (w.c.Xk<=(w.d.rep.seen.length:Int))with
    | true=>
     have:Mu w m=true:=by unfold Mu;rw[h5,h6,h7];rfl
     rw[this];rfl
    | false=>
     have:Mu w m=false:=by unfold Mu;rw[h5,h6,h7];rfl
     rw[this,Aj,Aj];exact q2 (hg this)
 ·rw[AN h2,EP,Ae,Ae];exact qr _
def Bz.none:Bz:=⟨λw _=>w,λ_ _=>False⟩
def Bz.next(c:Bz):Bz:=⟨Qb c,bG c⟩
def Bz.aqI:Bz.none.Ok:=λ_ _ h=>h.elim
def Bz.Ok.next{c:Bz}(h:c.Ok):c.next.Ok:=λw m hp=>aol c h w m hp
def Hq:Bz:=Bz.none.next
def E3:Bz:=Hq.next
def afi:Hq.Ok:=Bz.aqI.next
def afj:E3.Ok:=afi.next
def eBh(l:List Af):Env:=Cw [] [(UA,5),(WW,5),(UF,5),(Rd,5),(UB,5),(WY,0),(ZK,0),(ef,0),(Px,0),(dZ,0),(ZI,0)] [] l
def air:List Af:=[oh,wO,ae5,adW,vq,ags,aeJ,agt,aeZ,xL]
def NF(w:Ai)(p:C3):Ai:={w with d:={w.d with AB:=p}}
def ku(w:Ai)(cv:Au):Option (AV × Heap):=gC qV cX j6 [.agg (Dg w.d.AB),.agg (AJ w.d.rep),eV cv,.int .i64 w.c.batch] λs=>
 bif(EB s).2 then gC (λa=>(Is (Bd a 0),Fj (Bd a 1))) (λq=>q.1.out.length<=100000) YL [.agg (Dg (EB s).1),.agg (AJ w.d.rep)] λq=>
  bif w.out.length.ble w.out.length then bif((w.out.length+(C7 q).length)*392).ble 140737488355328&&(w.out.length+(C7 q).length).ble 140737488355328 then
   some (.Am [],Jo (NF w (EB s).1) w.d.waits.length (CM w.d.waits) w.d.asks.length (BY w.d.asks) (w.out.length+(C7 q).length) (BQ w.out.length (BP w.out) (.fn (C7 q).length (BP (C7 q)))))else none else none
 else some (.Am [],BE (NF w (EB s).1))
def bh1(w:Ai)(cv:Au)(m:Ad):Option (AV × Heap):=
 bif decide (m.kind=16)then bif !decide (m.code=0)then BA EA (λ_=>True) Es [.ptr 0 0 0,.agg (Aq m)] (Bo w) λy=>bif Kn y.1 y.2 then some (.Am [],BE y.1)else ku y.1 cv
 else ku w cv else ku w cv
def avX(w:Ai)(m:Ad):CO 1 (eBh air) 9 UA [.ptr 0 0 0,.agg (Aq m)] (Bo w) =
 gC Ef Gy Eg [.agg (AJ w.d.rep)] λr=>gC dRi jW qK [.agg (Cn w.d.rep.tail),eV (Ir r),Bi w.d.AB.done] λp=>
 BA YN (λp=>iJ p.1 p.2) Wp [.ptr 0 0 0,eV (XQ p)] (Bo w) λq=>
 gC qq cE jL [.agg (AJ (Jv q.1 q.2).d.rep),eV (XQ p)] λl=>
 gC (λa=>(Is (Bd a 0),KI (Bd a 1))) jX qM [.agg (Dg (Jv q.1 q.2).d.AB),.agg (Cn (OG l.1 l.2).tail)] λt=>
 BA (λ_ h=>Jb h) (λw=>MA w.d.rep.tail.log) (λw=>([.ptr 0 0 0],Bo w)) [.ptr 0 0 0] (Bo (NF (GQ (Jv q.1 q.2) (OG l.1 l.2)) (aR t.1 t.2.log))) λk=>
 BA YN (λp=>Yb p.1 p.2) Wp [.ptr 0 0 0,eV (Ir r)] (Bo (Fk k)) λa=>bh1 (Xo a.1 a.2) (Ir r) m:=by kernel_rfl
def aqJ:∀ k ∈ air,k.Ok PG:=ak uI (ak abG (ak alU (ak akt (ak aaT (ak anK (ak alA (ak anM (ak alN (ak acL AR)))))))))
def Du(w:Ai):Au:=Ir w.d.rep
def E4(w:Ai):Au:=XQ ⟨w.d.rep.tail,Du w,w.d.AB.done⟩
def Lr(w:Ai):Ai:=GQ (Jv w (E4 w)) (OG (Jv w (E4 w)).d.rep (E4 w))
def Gg(w:Ai):Ai:=NF (Lr w) (aR (Lr w).d.AB (Lr w).d.rep.tail.log)
def C1(w:Ai):Ai:=Xo (Fk (Gg w)) (Du w)
def Et(w:Ai)(cv:Au):QP:=⟨w.d.AB,w.d.rep,cv,w.c.batch⟩
def pb(w:Ai)(cv:Au):Ai:=bif(EB (Et w cv)).2 then bC (NF w (EB (Et w cv)).1) (C7 ((EB (Et w cv)).1,w.d.rep))else NF w (EB (Et w cv)).1
def xT(w:Ai)(m:Ad):Bool:=decide (m.kind=16)&&(!decide (m.code=0)&&Kn w m)
def HR(w:Ai)(m:Ad):Ai:=bif xT (C1 w) m then C1 w else pb (C1 w) (Du w)
structure HH(w:Ai)(m:Ad):Prop where
 VH:jW ⟨w.d.rep.tail,Du w,w.d.AB.done⟩
 cn:iJ w (E4 w)
 lift:cE ((Jv w (E4 w)).d.rep,E4 w)
 pm:jX ((Lr w).d.AB,(Lr w).d.rep.tail)
 es:MA (Gg w).d.rep.tail.log
 an:Yb (Fk (Gg w)) (Du w)
 st:cX (Et (C1 w) (Du w))
 out:(C1 w).out.length<=1000000
 Gm:(EB (Et (C1 w) (Du w))).1.out.length<=100000
def aaX(q:C3 × Av):(C7 q).length<=1:=by unfold C7;cases q.1.out.isEmpty <;> simp
def aqK(w:Ai)(cv:Au)(hst:cX (Et w cv))(ho:w.out.length<=1000000)(hp:(EB (Et w cv)).1.out.length<=100000):ku w cv=some (.Am [],BE (pb w cv)):=by
 unfold ku pb;have q1:∀ {K:QP->Option (AV × Heap)},gC qV cX j6 [.agg (Dg w.d.AB),.agg (AJ w.d.rep),eV cv,.int .i64 w.c.batch] K=K (Et w cv):=λ{K}=>Bj (Et w cv) (as4 (Et w cv)) hst (.refl _);rw[q1];cases hs:(EB (Et w cv)).2 with
 | false=>rfl
 | true=>
  rw[Ae,Ae];have q2:∀ {K:C3 × Av->Option (AV × Heap)},gC (λa=>(Is (Bd a 0),Fj (Bd a 1))) (λq=>q.1.out.length<=100000) YL [.agg (Dg (EB (Et w cv)).1),.agg (AJ w.d.rep)] K=K ((EB (Et w cv)).1,w.d.rep):=λ{K}=>
   Bj (_,_) (Cv (ZN _) (GZ _)) hp (.refl _)
  rw[q2];generalize hf:C7 ((EB (Et w cv)).1,w.d.rep)=F;have hl:F.length<=1:=by rw[<- hf];exact aaX _
  have happ:BQ w.out.length (BP w.out) (.fn F.length (BP F))=BP (w.out++F):=mI _ _ _ _;rw[Bn (Ar _),Ae,Bn (show(w.out.length+F.length)*392<=140737488355328 by omega),Bn (show w.out.length+F.length<=140737488355328 by omega),CV,Ae,happ,
   show w.out.length+F.length=(w.out++F).length by simp]
  rfl
def tB(w:Ai)(m:Ad)(h:HH w m):At PG UA [.ptr 0 0 0,.agg (Aq m)] (Bo w) (.Am []) (BE (HR w m))/\(Bo w).length<=(BE (HR w m)).length:=by
 refine Ds aqJ (c:=1) (n:=9) (by show 1<=4;omega) ((avX w m).trans ?_);have qm:∀ {K:Av->Option (AV × Heap)},gC Ef Gy Eg [.agg (AJ w.d.rep)] K=K w.d.rep:=λ{K}=>Bj w.d.rep (GZ w.d.rep) trivial (.refl _);rw[qm];have q1:∀ {K:Um->Option (AV × Heap)},gC dRi jW qK [.agg (Cn w.d.rep.tail),eV (Ir w.d.rep),Bi w.d.AB.done] K=K (⟨w.d.rep.tail,Du w,w.d.AB.done⟩:Um):=λ{K}=>
  Bj (⟨w.d.rep.tail,Du w,w.d.AB.done⟩:Um) (by show(⟨KI (Cn w.d.rep.tail),Du w,Bm Da (Bi w.d.AB.done)⟩:Um)=_;rw[Rh,Og]) h.VH (.refl _)
 rw[q1];have q2:∀ {K:WV->Option (AV × Heap)},BA YN (λp=>iJ p.1 p.2) Wp [.ptr 0 0 0,eV (E4 w)] (Bo w) K=K (w,E4 w):=λ{K}=>Dw (w,E4 w) (ae3 (w,E4 w)) h.cn (.refl _) (.refl _);have e1:XQ ⟨w.d.rep.tail,Du w,w.d.AB.done⟩=E4 w:=rfl;rw[e1,q2];have q3:∀ {K:Av × Au->Option (AV × Heap)},gC qq cE jL [.agg (AJ (Jv w (E4 w)).d.rep),eV (E4 w)] K=K ((Jv w (E4 w)).d.rep,E4 w):=λ{K}=>qRV h.lift.1 h.lift.2;rw[q3];have q4:∀ {K:PT->Option (AV × Heap)},gC (λa=>(Is (Bd a 0),KI (Bd a 1))) jX qM [.agg (Dg (Jv w (E4 w)).d.AB),.agg (Cn (OG (Jv w (E4 w)).d.rep (E4 w)).tail)] K=K ((Lr w).d.AB,(Lr w).d.rep.tail):=λ{K}=>
  Bj ((Lr w).d.AB,(Lr w).d.rep.tail) (Cv (ZN _) (Rh _)) h.pm (.refl _)
 rw[q4];have q5:∀ {K:Ai->Option (AV × Heap)},BA (λ_ h=>Jb h) (λw=>MA w.d.rep.tail.log) (λw=>([.ptr 0 0 0],Bo w)) [.ptr 0 0 0] (Bo (Gg w)) K=K (Gg w):=λ{K}=>Dw (Gg w) (Rt _) h.es (.refl _) (.refl _);have e2:NF (GQ (Jv w (E4 w)) (OG (Jv w (E4 w)).d.rep (E4 w))) (aR (Lr w).d.AB (Lr w).d.rep.tail.log)=Gg w:=rfl;dsimp only;rw[e2,q5];have q6:∀ {K:WV->Option (AV × Heap)},BA YN (λp=>Yb p.1 p.2) Wp [.ptr 0 0 0,eV (Ir w.d.rep)] (Bo (Fk (Gg w))) K=K (Fk (Gg w),Du w):=λ{K}=>Dw (Fk (Gg w),Du w) (ae3 (Fk (Gg w),Du w)) h.an (.refl _) (.refl _);rw[q6];have e3:Xo (Fk (Gg w)) (Du w)=C1 w:=rfl;have e4:Ir w.d.rep=Du w:=rfl;dsimp only;rw[e3,e4];have hg:=aqK (C1 w) (Du w) h.st h.out h.Gm;unfold bh1 HR xT;by_cases h1:m.kind=16
 ·rw[Ax h1,Ae,Tj];by_cases h2:m.code=0
  ·rw[Ax h2,Dr,Aj,Bool.false_and,Aj];exact hg
  ·have q7:∀ {K:WM->Option (AV × Heap)},BA EA (λ_=>True) Es [.ptr 0 0 0,.agg (Aq m)] (Bo (C1 w)) K=K (C1 w,m):=λ{K}=>Dw (C1 w,m) (U6 (C1 w,m)) trivial (.refl _) (.refl _);rw[AN h2,EP,Ae,q7,Tj];cases hf:Kn (C1 w) m with
   | true=>rfl
   | false=>rw[Aj,Aj];exact hg
 ·rw[AN h1,Aj,Bool.false_and,Aj];exact hg
def PC:Af:=.EC UA EA (λp=>HH p.1 p.2) Es (λp=>(.Am [],BE (HR p.1 p.2)))
def SY:PC.Ok PG:=Af.EL λp h=>tB p.1 p.2 h
def atr{r:Av}{m:Ad}(h:Hr r)(hk:m.kind=8):At PG UG [.agg (AJ r),.agg (Aq m)] [] (Yz (KM r m)) []:=by
 have k:=h8 r m;rw[UZ hk,aM (P:=Hr) h,gate,auC]at k;unfold KM xx;rw[hk];show At PG _ _ [] (Yz (bif Vw r m then vm r m else(r,[]))) [];have e1:(decide (m.dst=r.self.node)&&(decide (m.BD=r.self.BD)&&decide (m.AQ=r.AQ)))=Vw r m:=rfl;have e2:(!decide (m.Az<=r.view.Az) && !decide (m.Az<r.frozen))=PK r m:=by unfold PK;by_cases h1:m.Az<=r.view.Az <;> by_cases h2:m.Az<r.frozen <;> simp[h1,h2] <;> omega
 rw[e1,e2]at k;cases ht:Vw r m with
 | false=>rw[ht]at k;exact(Vg k).res Z9
 | true=>
  rw[ht]at k;unfold vm;cases ha:PK r m with
  | false=>rw[ha]at k;exact(Vg k).res Z9
  | true=>rw[ha]at k;refine(Vg k).res (.Am (.cons (.refl _) (.cons ?_ .nil)));exact Br.trans (adD (X:=Unit) (f:=λ_=>_) (g:=λ_=>Aq (wo r m)) (λ_=>Mo (by repeat' (first | exact trivial | exact FA | exact Br.refl _ | refine⟨?_,?_⟩))) [()]) (Br.PJ [wo r m] rfl)
def aqL{r:Av}{m:Ad}(h:Hr r)(hk:m.kind=10)(h0:0<=m.Az)(h1:m.Az<=1099511627776)(a:Be)(hc:m.chain=[a])(hR:bp r m=true->Kj (NR r m)) :
  At PG UG [.agg (AJ r),.agg (Aq m)] [] (Yz (KM r m)) []:=by
 have k:=auE r m a;rw[<- hc,apN hk,hc,aM (P:=Hr) h,asm h0 h1]at k;unfold KM xx;rw[hk];show At PG _ _ [] (Yz (bif Vw r m then yH r m else(r,[]))) [];have hwn:bp r m=(PK r m&&(O8 [a] r.self&&((m.fresh&&decide (r.frozen<=m.Az))||(!decide (r.view.phase=0)&&decide (m.Az=r.frozen))))):=by
  unfold bp PK;rw[hc,abu (by simp)];by_cases hq:r.frozen<=m.Az
  ·rw[Ax hq,CV m.fresh]
  ·rw[AN hq];simp
 cases ht:Vw r m with
 | false=>rw[ht]at k;exact(Vg k).res Z9
 | true=>
  rw[ht]at k;simp only[Ae]at k ⊢;unfold yH;cases hg:bp r m with
  | false=>
   rw[hwn]at hg;cases h2:decide (m.Az<=r.view.Az)with
   | true=>rw[h2]at k;exact(Vg k).res Z9
   | false=>
    rw[h2,Aj]at k;cases h3:O8 [a] r.self with
    | false=>rw[h3]at k;exact(Vg k).res Z9
    | true=>
     rw[h3,Dr,Aj,acv]at k;cases h4:(m.fresh&&decide (r.frozen<=m.Az))||(!decide (r.view.phase=0)&&decide (m.Az=r.frozen))with
     | false=>rw[h4]at k;exact(Vg k).res Z9
     | true=>
      exfalso;rw[h3,h4]at hg;have h5:PK r m=false:=by simpa using hg
      have E0:¬ m.Az<=r.view.Az:=Gk h2;have:¬ (r.frozen<=m.Az):=by intro hq;rw[abo.2 ⟨by omega,hq⟩]at h5;cases h5
      rw[AN this,Bool.and_false,Bool.false_or]at h4;have:=(A4 h4).2;have:=El this;omega
  | true=>
   have hR':=hR hg;rw[hwn]at hg;obtain⟨g1,g2⟩:=A4 hg;obtain⟨g2,g3⟩:=A4 g2;obtain⟨a1,a2⟩:=abo.1 g1;rw[AN (by omega:¬ m.Az<=r.view.Az),Aj,g2,Dr,Aj,acv,g3,Ae]at k;have hl:m.chain.length=1:=by rw[hc];rfl
   obtain⟨v,hv,hs⟩:=apO (r:=r) (m:=m) (l:=[a]) (sy:=.A9 1 [[.bool true]]) (bs:=[true]) (by unfold Fy LB;simp) hc h0 rfl (Br.PJ [true] rfl) (by rw[hl];rfl) hR';rw[hl]at hv;have k2:A6 n9 9 UG [.agg (AJ r),.agg (Aq m)]=oS r m [a] (bif decide (1=1)then 3 else 2) (.A9 1 [[.bool true]]):=k;rw[hv]at k2;exact(Vg k2).res hs
def iN(p:Av × Ad):Prop:=Hr p.1/\(p.2.kind=8\/(p.2.kind=10/\0<=p.2.Az/\p.2.Az<=1099511627776 /\ ∃ a,p.2.chain=[a]/\(bp p.1 p.2=true->Kj (NR p.1 p.2))))
def ama(p:Av × Ad)(h:iN p):At PG UG (oT p) [] (ah9 p) []:=by
 obtain⟨h1,h2 | ⟨h2,h3,h4,a,h5,h6⟩⟩:=h
 ·exact atr h1 h2
 ·exact aqL h1 h2 h3 h4 a h5 h6
def afk:Af:=.spec UG yM iN oT ah9
def amb:afk.Ok PG:=Af.BJ ama
def eOt(l:List Af):Env:=Cw [] [(WU,5),(UG,0),(Oc,0)] [] l
def zm:List Af:=[afk,P6]
def zn(w:Ai)(z:AV):List AV:=[.int .i64 w.d.rep.AQ,.int .i64 w.d.rep.self.node,.int .i64 w.d.rep.self.BD,.int .i64 w.d.rep.view.AQ,.int .i64 w.d.rep.view.Az,.int .i64 w.d.rep.view.gen,.int .i64 w.d.rep.view.phase,CD w.d.rep.view.chain,.int .i64 w.d.rep.frozen,.Al .f64 w.d.rep.tail.floor.re w.d.rep.tail.floor.im,.Al .f64 w.d.rep.tail.last.re w.d.rep.tail.last.im,AY w.d.rep.tail.log,B7 w.d.rep.seen,.Al .f64 w.d.rep.B5.re w.d.rep.B5.im,E6 w.d.rep.synced,.int .i64 w.d.AB.num,.Ak,.Ak,.Ak,.bool false,.Ak,.Ak,.int .i64 w.d.next]++(D4 w.c++(z::(AK w.DI++[.bool w.Hu])))
def rE(w:Ai)(nO:Nat)(FO:Nat->List AV):Heap:=
 [.arr true 44 [zn w (.sn 31 4 nO)],.dead,.dead,.dead,.seq true 31 nO FO]
def ot1(w:Ai)(o:Av × List Ad):Option (AV × Heap):=
 bif w.out.length.ble w.out.length then bif((w.out.length+o.2.length)*392).ble 140737488355328&&(w.out.length+o.2.length).ble 140737488355328 then
  bif !decide (o.1.view.Az=w.d.rep.view.Az)then some (.Am [],rE (GQ w o.1) (w.out.length+o.2.length) (BQ w.out.length (BP w.out) (.fn o.2.length (BP o.2))))else
  gC Ef Gy Eg [.agg (AJ o.1)] λy=>bif !CH y then some (.Am [],rE (GQ w o.1) (w.out.length+o.2.length) (BQ w.out.length (BP w.out) (.fn o.2.length (BP o.2))))else
  some (.Am [],Jo (GQ w o.1) w.d.waits.length (CM w.d.waits) w.d.asks.length (BY w.d.asks) (w.out.length+o.2.length) (BQ w.out.length (BP w.out) (.fn o.2.length (BP o.2))))else none else none
def avY(w:Ai)(m:Ad):CO 1 (eOt zm) 9 WU [.ptr 0 0 0,.agg (Aq m)] (Bo w) =
 gC yM iN oT [.agg (AJ w.d.rep),.agg (Aq m)] λh=>ot1 w (KM h.1 h.2):=by kernel_rfl
def ad1:∀ k ∈ zm,k.Ok PG:=ak amb (ak Rn AR)
def E9.xH(sz b:Nat):E9 .Ak (.sn sz b 0):=λw I φ u h=>by cases h;exact .DT _ _ _
def avZ(d:Md.AL):Md.AL:=⟨d.rep,⟨d.AB.num,[],[]⟩,[],false,[],[],d.next⟩
def ou(w:Ai):Ai:={w with d:=avZ w.d}
def Gi.append{a b c d:List AV}(h:Gi a b)(h':Gi c d):Gi (a++c) (b++d):=by
 induction a generalizing b with
 | nil=>cases b with
  | nil=>exact h'
  | cons x b=>exact absurd h.1 (by simp)
 | cons x a ih=>cases b with
  | nil=>exact absurd h.1 (by simp)
  | cons y b=>refine .cons (h.2 0 x y rfl rfl) (ih ⟨by have:=h.1;simpa using this,λk c c' e e'=>h.2 (k+1) c c' (by simpa using e) (by simpa using e')⟩)
def ais(w:Ai)(nO:Nat)(FO:Nat->List AV):Heap:=[.arr true 44 [zn w (.sn 31 6 nO)],.dead,.dead,.dead,.seq true 4 0 (CM []),.seq true 3 0 (BY []),.seq true 31 nO FO]
def aqM(w:Ai)(nO:Nat)(FO:Nat->List AV):Ju [0,1,2,3,5,6,4] (Ab ((rE w nO FO++[.seq true 4 0 (CM [])])++[.seq true 3 0 (BY [])]))=ais w nO FO:=by kernel_rfl
def aqN(w:Ai)(O:List Ad):HSub (ais w O.length (BP O)) (BE {ou w with out:=O}):=by
 have z0:∀ {sz:Nat} {X:Type} {e:X->List AV} {z:X},E9 .Ak (DQ sz e z []):=λ{sz X e z}=>E9.of FA rfl;refine .cons (.arr true 44 [zn w (.sn 31 6 O.length)] [adT 4 {ou w with out:=O}] rfl λi cs A3 h h'=>?_) (.cons (.refl _) (.cons (.refl _) (.cons (.refl _) (.cons (.seq true 4 _ 0 _ _ (Bu _) λi hi=>absurd hi (C5 i)) (.cons (.seq true 3 _ 0 _ _ (Bu _) λi hi=>absurd hi (C5 i)) (.cons (.refl _) .nil))))))
 match i with
 | i+1=>simp at h
 | 0=>
  simp at h h';subst h h';refine Gi.append (b:=[.int .i64 w.d.rep.AQ,.int .i64 w.d.rep.self.node,.int .i64 w.d.rep.self.BD,.int .i64 w.d.rep.view.AQ,.int .i64 w.d.rep.view.Az,.int .i64 w.d.rep.view.gen,.int .i64 w.d.rep.view.phase,CD w.d.rep.view.chain,.int .i64 w.d.rep.frozen,.Al .f64 w.d.rep.tail.floor.re w.d.rep.tail.floor.im,.Al .f64 w.d.rep.tail.last.re w.d.rep.tail.last.im,AY w.d.rep.tail.log,B7 w.d.rep.seen,.Al .f64 w.d.rep.B5.re w.d.rep.B5.im,E6 w.d.rep.synced,.int .i64 w.d.AB.num,AY [],Bi [],Bi [],.bool false,.sn 4 4 0,.sn 3 5 0,.int .i64 w.d.next]) ?_ (.refl _)
  repeat' (first | exact Gi.nil | refine Gi.cons (E9.refl _) ?_ | refine Gi.cons z0 ?_ | refine Gi.cons (E9.xH _ _) ?_)
def Th(w:Ai)(m:Ad):Ai:=
 bif !decide ((KM w.d.rep m).1.view.Az=w.d.rep.view.Az) || !CH (KM w.d.rep m).1 then bC (ou (GQ w (KM w.d.rep m).1)) (KM w.d.rep m).2 else bC (GQ w (KM w.d.rep m).1) (KM w.d.rep m).2
structure bH(w:Ai)(m:Ad):Prop where
 hd:iN (w.d.rep,m)
 out:w.out.length<=1000000
 outs:(KM w.d.rep m).2.length<=100000
def amc(w:Ai)(m:Ad)(h:bH w m):At PG WU [.ptr 0 0 0,.agg (Aq m)] (Bo w) (.Am []) (BE (Th w m))/\(Bo w).length<=(BE (Th w m)).length:=by
 have e:=avY w m;have q1:∀ {K:Av × Ad->Option (AV × Heap)},gC yM iN oT [.agg (AJ w.d.rep),.agg (Aq m)] K=K (w.d.rep,m):=λ{K}=>Bj (w.d.rep,m) (Cv (GZ _) (Ml _)) h.hd (.refl _);rw[q1]at e;dsimp only at e;have h1:=h.out;have h2:=h.outs;unfold Th;generalize KM w.d.rep m=o at e h2 ⊢;have happ:BQ w.out.length (BP w.out) (.fn o.2.length (BP o.2))=BP (w.out++o.2):=mI _ _ _ _;have q2:∀ {K:Av->Option (AV × Heap)},gC Ef Gy Eg [.agg (AJ o.1)] K=K o.1:=λ{K}=>Bj o.1 (GZ o.1) trivial (.refl _);unfold ot1 at e;rw[Bn (Ar _),Ae,Bn (show(w.out.length+o.2.length)*392<=140737488355328 by omega),Bn (show w.out.length+o.2.length<=140737488355328 by omega),CV,Ae,happ,
  show w.out.length+o.2.length=(w.out++o.2).length by simp,q2]at e
 refine⟨?_,by show 4<=7;omega⟩;have hz:∀ {X:Option (AV × Heap)},X=some (.Am [],rE (GQ w o.1) (w.out++o.2).length (BP (w.out++o.2)))->CO 1 (eOt zm) 9 WU [.ptr 0 0 0,.agg (Aq m)] (Bo w)=X->At PG WU [.ptr 0 0 0,.agg (Aq m)] (Bo w) (.Am []) (BE (bC (ou (GQ w o.1)) o.2)):=by
  intro X hX k;rw[hX]at k;have c:=(((Ds ad1 (c:=1) (n:=9) (by show 1<=4;omega) k).1.TJ true 4 (CM [])).TJ true 3 (BY [])).ati (ids:=[0,1,2,3,5,6,4]) (by
   intro i j b e e';have hi:i<7:=by rcases Cj i 7 with h | h;exact h;rw[CK (by simpa using h)]at e;cases e
   have hj:j<7:=by rcases Cj j 7 with h | h;exact h;rw[CK (by simpa using h)]at e';cases e'
   match i,j,hi,hj with
   | 0,0,_,_=>rfl
   | i,j,hi,hj=>
    have:∀ a:Fin 7,∀ b:Fin 7,([0,1,2,3,5,6,4]:List Nat)[a.1]? = ([0,1,2,3,5,6,4]:List Nat)[b.1]? -> a.1=b.1:=by decide
    exact this ⟨i,hi⟩ ⟨j,hj⟩ (e.trans e'.symm)) (by
   intro b hb;have hb:b<4:=hb;have:∀ a:Fin 4,([0,1,2,3,5,6,4]:List Nat)[a.1]? = some a.1:=by decide
   exact this ⟨b,hb⟩)
  rw[aqM]at c;exact c.KN (.refl _) (aqN (GQ w o.1) (w.out++o.2))
 cases h3:decide (o.1.view.Az=w.d.rep.view.Az)with
 | false=>rw[h3]at e;exact hz rfl e
 | true=>
  rw[h3]at e;cases h4:CH o.1 with
  | false=>rw[h4]at e;exact hz rfl e
  | true=>rw[h4]at e;exact(Ds ad1 (c:=1) (n:=9) (by show 1<=4;omega) e).1
def afl:Af:=.EC WU EA (λp=>bH p.1 p.2) Es (λp=>(.Am [],BE (Th p.1 p.2)))
def amd:afl.Ok PG:=Af.EL λp h=>amc p.1 p.2 h
def kx(l:List Af):Env:=Cw [] [(Ei,0),(Fh,5),(Oc,0),(Nm,5),(WW,5),(Im,0),(WU,5),(UA,5)] [(Ei,2,[31006038])] l
def bI(c:Bz):List Af:=[wM,P6,aY c,oh,acH,afl,PC]
def Bq(d:Md.AL)(k:EE):Ai:=⟨d,k,[],default,false⟩
def Qv(d:Md.AL)(k:EE):Heap:=[.arr true 44 [HF (Bq d k) (.sn 4 1 d.waits.length) (.sn 3 2 d.asks.length) (.sn 31 3 0)],.seq true 4 d.waits.length (CM d.waits),.seq true 3 d.asks.length (BY d.asks),.seq true 31 0 λ_=>[]]
def bJ(w:Ai):Option AV:=bif(w.d.waits.length.ble w.d.waits.length&&(w.d.asks.length.ble w.d.asks.length&&true))&&(w.out.length.ble w.out.length&&true)then some (.Am [.agg (Ct w.d),BB w.out])else none
def zp(d:Md.AL):Option AV:=bif(d.waits.length.ble d.waits.length&&(d.asks.length.ble d.asks.length&&true))&&(Nat.ble 0 0&&true)then some (.Am [.agg (Ct d),.tr 31 0 λ_=>[]])else none
def Tw(w:Ai)(m:Ad):Option AV:=gC Ef Gy Eg [.agg (AJ w.d.rep)] λr=>bif CH r then BA EA (λp=>HH p.1 p.2) Es [.ptr 0 0 0,.agg (Aq m)] (Bo w) λq=>bJ (HR q.1 q.2)else bJ w
def Ts(d:Md.AL)(k:EE)(m:Ad):Option AV:=gC Ef Gy Eg [.agg (AJ d.rep)] λr=>bif CH r then BA EA (λp=>HH p.1 p.2) Es [.ptr 0 0 0,.agg (Aq m)] (Qv d k) λq=>bJ (HR q.1 q.2)else zp d
def YX(d:Md.AL)(K:Md.AL->Option AV):Option AV:=gC (λa=>S9 (Bd a 0)) K3 (λd=>[.agg (Ct d)]) [.agg (Ct d)] K
def hh8(c:Bz)(d:Md.AL)(k:EE)(m:Ad):A6 (kx (bI c)) 9 Ei [.agg (Ct d),.agg (D4 k),.agg (Aq (BK m 8))] =
 YX d λy=>BA EA (λp=>bH p.1 p.2) Es [.ptr 0 0 0,.agg (Aq (BK m 8))] (Qv y k) λq=>Tw (Th q.1 q.2) (BK m 8):=by kernel_rfl
def ax2(c:Bz)(d:Md.AL)(k:EE)(m:Ad):A6 (kx (bI c)) 9 Ei [.agg (Ct d),.agg (D4 k),.agg (Aq (BK m 10))] =
 YX d λy=>BA EA (λp=>bH p.1 p.2) Es [.ptr 0 0 0,.agg (Aq (BK m 10))] (Qv y k) λq=>Tw (Th q.1 q.2) (BK m 10):=by kernel_rfl
def hh5(c:Bz)(d:Md.AL)(k:EE)(m:Ad):A6 (kx (bI c)) 9 Ei [.agg (Ct d),.agg (D4 k),.agg (Aq (BK m 5))] =
 YX d λy=>bif decide (m.dst=d.rep.self.node)then bif decide (m.AQ=d.rep.AQ)then gC Ef Gy Eg [.agg (AJ d.rep)] λr=>bif CH r then
   BA EA (λp=>c.p p.1 p.2) Es [.ptr 0 0 0,.agg (Aq (BK m 5))] (Qv y k) λq=>Tw (c.f q.1 q.2) (BK m 5)
  else Ts y k (BK m 5)else Ts y k (BK m 5)else Ts y k (BK m 5):=by kernel_rfl
def ax3(c:Bz)(d:Md.AL)(k:EE)(m:Ad):A6 (kx (bI c)) 9 Ei [.agg (Ct d),.agg (D4 k),.agg (Aq (BK m 16))] =
 YX d λy=>BA EA (λ_=>True) Es [.ptr 0 0 0,.agg (Aq (BK m 16))] (Qv y k) λq=>bif Kn q.1 q.2 then
   gC (λa=>(Is (Bd a 0),Dj (Bd a 1))) (λp=>MW p.1) qN [.agg (Dg q.1.d.AB),.agg (Aq (BK m 16))] λp=>Tw (NF q.1 (Ht p.1 p.2).1) (BK m 16)
  else Tw q.1 (BK m 16):=by kernel_rfl
def aqO{c:Bz}(h:c.Ok):∀ k ∈ bI c,k.Ok PG:=ak abF (ak Rn (ak (uN h) (ak uI (ak ajU (ak amd (ak SY AR))))))
abbrev Gt:=Md.AL × EE × Ad
def VI(a:List AV):Gt:=(S9 (Bd a 0),U0 (Bd a 1),Dj (Bd a 2))
def MG(p:Gt):List AV:=[.agg (Ct p.1),.agg (D4 p.2.1),.agg (Aq p.2.2)]
def aqP(p:Gt):VI (MG p)=p:=Cv (eH p.1) (Cv (aaF p.2.1) (Ml p.2.2))
def Pf(w:Ai):AV:=.Am [.agg (Ct w.d),BB w.out]
def Hz(c:Bz)(w:Ai)(m:Ad):Ai:=
 bif decide (m.kind=5)then bif decide (m.dst=w.d.rep.self.node)&&(decide (m.AQ=w.d.rep.AQ)&&CH w.d.rep)then c.f w m else w
 else bif decide (m.kind=16)then bif Kn w m then NF w (Ht w.d.AB m).1 else w
 else Th w m
def IA(w:Ai)(m:Ad):Ai:=bif CH w.d.rep then HR w m else w
def OH(c:Bz)(p:Gt):Ai:=IA (Hz c (Bq p.1 p.2.1) p.2.2) p.2.2
structure ga(c:Bz)(w:Ai)(m:Ad):Prop where
 kd:m.kind=5\/m.kind=8\/m.kind=10\/m.kind=16
 call:m.kind=5->m.dst=w.d.rep.self.node->m.AQ=w.d.rep.AQ->CH w.d.rep=true->c.p w m
 pm:m.kind=16->MW w.d.AB
 oth:m.kind=8\/m.kind=10->bH w m
structure gY(c:Bz)(p:Gt):Prop where
 dk:K3 p.1
 main:ga c (Bq p.1 p.2.1) p.2.2
 bh:CH (Hz c (Bq p.1 p.2.1) p.2.2).d.rep=true->HH (Hz c (Bq p.1 p.2.1) p.2.2) p.2.2
def aom(d:Md.AL)(k:EE):HSub (Qv d k) (Bo (Bq d k)):=.cons (.refl _) (.cons (.refl _) (.cons (.refl _) (.cons (.seq true 31 0 0 _ _ (Ar _) λi hi=>absurd hi (C5 i)) .nil)))
def YY{d:Md.AL}{k:EE}{m:Ad}{P:WM->Prop}(h:P (Bq d k,m)){R:Type}{K:WM->Option R}:BA EA P Es [.ptr 0 0 0,.agg (Aq m)] (Qv d k) K=K (Bq d k,m):=Dw (Bq d k,m) (Cv (by show Jb (Qv d k)=Bq d k;have:Jb (Qv d k)=Jb (Bo (Bq d k)):=rfl;rw[this,Rt]) (Ml m)) h (.refl _) (aom d k)
def vI(w:Ai):bJ w=some (Pf w):=by unfold bJ;rw[Bn (Ar _),Bn (Ar _),Bn (Ar _)];rfl
def Xl(w:Ai)(m:Ad)(h:CH w.d.rep=true->HH w m):Tw w m=some (Pf (IA w m)):=by
 unfold Tw IA;have q1:∀ {K:Av->Option AV},gC Ef Gy Eg [.agg (AJ w.d.rep)] K=K w.d.rep:=λ{K}=>Bj w.d.rep (GZ w.d.rep) trivial (.refl _);rw[q1];cases hh:CH w.d.rep with
 | false=>rw[Aj,Aj];exact vI w
 | true=>have q2:∀ {K:WM->Option AV},BA EA (λp=>HH p.1 p.2) Es [.ptr 0 0 0,.agg (Aq m)] (Bo w) K=K (w,m):=λ{K}=>Dw (w,m) (U6 (w,m)) (h hh) (.refl _) (.refl _);rw[Ae,Ae,q2];exact vI _
def aon(d:Md.AL)(k:EE):∃ v,zp d=some v/\Br v (Pf (Bq d k)):=by unfold zp;rw[Bn (Ar _),Bn (Ar _)];exact⟨_,rfl,.Am (.cons (.refl _) (.cons (.N2 λi hi=>absurd hi (C5 i)) .nil))⟩
def uQ(d:Md.AL)(k:EE)(m:Ad)(h:CH d.rep=true->HH (Bq d k) m):∃ v,Ts d k m=some v/\Br v (Pf (IA (Bq d k) m)):=by
 unfold Ts IA;have q1:∀ {K:Av->Option AV},gC Ef Gy Eg [.agg (AJ d.rep)] K=K d.rep:=λ{K}=>Bj d.rep (GZ d.rep) trivial (.refl _);rw[q1];have e:(Bq d k).d.rep=d.rep:=rfl;rw[e];cases hh:CH d.rep with
 | false=>rw[Aj,Aj];exact aon d k
 | true=>rw[Ae,Ae,YY (h hh)];exact⟨_,vI _,.refl _⟩
def aoo(c:Bz)(p:Gt)(h:gY c p):∃ v,A6 (kx (bI c)) 9 Ei (MG p)=some v/\Br v (Pf (OH c p)):=by
 obtain⟨d,k,m⟩:=p;obtain⟨hd,hm,hb⟩:=h;have qd:∀ {K:Md.AL->Option AV},YX d K=K d:=λ{K}=>Bj d (eH d) hd (.refl _);have qh:∀ {K:Av->Option AV},gC Ef Gy Eg [.agg (AJ d.rep)] K=K d.rep:=λ{K}=>Bj d.rep (GZ d.rep) trivial (.refl _);unfold OH;dsimp only at hm hb ⊢;rcases hm.kd with hk | hk | hk | hk
 ·have e:=hh5 c d k m;rw[UZ hk,qd,qh]at e;have KP:Hz c (Bq d k) m=bif decide (m.dst=d.rep.self.node)&&(decide (m.AQ=d.rep.AQ)&&CH d.rep)then c.f (Bq d k) m else Bq d k:=by
   unfold Hz;rw[Ax hk];rfl
  rw[KP]at hb ⊢;by_cases h1:m.dst=d.rep.self.node
  ·rw[Ax h1,Ae]at e;rw[Ax h1,Tj]at hb ⊢;by_cases h2:m.AQ=d.rep.AQ
   ·rw[Ax h2,Ae]at e;rw[Ax h2,Tj]at hb ⊢;cases h3:CH d.rep with
    | false=>rw[h3,Aj]at e;rw[h3,Aj]at hb;rw[Aj];obtain⟨v,e1,e2⟩:=uQ d k m hb;exact⟨v,e.trans e1,e2⟩
    | true=>rw[h3,Ae,YY (hm.call hk h1 h2 h3)]at e;rw[h3,Ae]at hb;rw[Ae];exact⟨_,e.trans (Xl _ m hb),.refl _⟩
   ·rw[AN h2,Aj]at e;rw[AN h2,Bool.false_and,Aj]at hb ⊢;obtain⟨v,e1,e2⟩:=uQ d k m hb;exact⟨v,e.trans e1,e2⟩
  ·rw[AN h1,Aj]at e;rw[AN h1,Bool.false_and,Aj]at hb ⊢;obtain⟨v,e1,e2⟩:=uQ d k m hb;exact⟨v,e.trans e1,e2⟩
 ·have e:=hh8 c d k m;rw[UZ hk,qd,YY (hm.oth (.inl hk))]at e;have KP:Hz c (Bq d k) m=Th (Bq d k) m:=by
   unfold Hz;rw[AN (show ¬ m.kind=5 by omega),AN (show ¬ m.kind=16 by omega)];rfl
  rw[KP]at hb ⊢;exact⟨_,e.trans (Xl _ m hb),.refl _⟩
 ·have e:=ax2 c d k m;rw[UZ hk,qd,YY (hm.oth (.inr hk))]at e;have KP:Hz c (Bq d k) m=Th (Bq d k) m:=by
   unfold Hz;rw[AN (show ¬ m.kind=5 by omega),AN (show ¬ m.kind=16 by omega)];rfl
  rw[KP]at hb ⊢;exact⟨_,e.trans (Xl _ m hb),.refl _⟩
 ·have e:=ax3 c d k m;rw[UZ hk,qd,YY trivial]at e;have KP:Hz c (Bq d k) m=bif Kn (Bq d k) m then NF (Bq d k) (Ht d.AB m).1 else Bq d k:=by
   unfold Hz;rw[AN (show ¬ m.kind=5 by omega),Ax hk];rfl
  rw[KP]at hb ⊢;cases hf:Kn (Bq d k) m with
  | false=>rw[hf,Aj]at e hb;rw[Aj];exact⟨_,e.trans (Xl _ m hb),.refl _⟩
  | true=>rw[hf,Ae]at e hb;rw[Ae];have qp:∀ {K:PM->Option AV},gC (λa=>(Is (Bd a 0),Dj (Bd a 1))) (λp=>MW p.1) qN [.agg (Dg (Bq d k).d.AB),.agg (Aq m)] K=K (d.AB,m):=λ{K}=>Bj (d.AB,m) (Cv (ZN _) (Ml _)) (hm.pm hk) (.refl _);dsimp only at e;rw[qp]at e;exact⟨_,e.trans (Xl _ m hb),.refl _⟩
def aop(c:Bz)(hc:c.Ok)(p:Gt)(h:gY c p):At PG Ei (MG p) [] (Pf (OH c p)) []:=by obtain⟨v,e,hs⟩:=aoo c p h;exact(Cx (aqO hc) e).res hs
def Sg(w:Ai)(I:Nat)(a:Md.Ask):Heap:=[.arr true 44 [HF w (.sn 4 5 w.d.waits.length) (.sn 3 6 w.d.asks.length) (.sn 31 8 w.out.length)],.dead,.dead,.dead,.dead,.seq true 4 w.d.waits.length (CM w.d.waits),.Cb true 3 w.d.asks.length (BY w.d.asks) I (JN a 7 a.calls.length) [7] false,.seq true 31 a.calls.length (BP a.calls),.seq true 31 w.out.length (BP w.out)]
def xU(w:Ai)(I:Nat)(a:Md.Ask)(k:An):Option (AV × Heap):=gC Qo Ga NS [Bi w.d.clean,.str k] λy=>some (.Am [.agg (AK (F4 y).1),.bool (F4 y).2.2],Sg (Jc w (F4 y).2.1) I a)
def ats(w:Ai)(I:Nat)(a:Md.Ask)(k:An):CO 1 (eFi [wP,yQ]) 9 SW [.ptr 0 0 0,.str k] (Ff w I a false) =
 gC qZ (λp=>p.1.log.length<=100000) q8 [.agg (Cn w.d.rep.tail),.str k] λy=>bif(EY y.1 y.2).2 then some (.Am [.agg (AK (EY y.1 y.2).1),.bool true],Sg w I a)else
  bif w.Hu then bif A5 w.DI.key k then some (.Am [.agg (AK w.DI),.bool true],Sg w I a)else xU w I a k else xU w I a k:=by kernel_rfl
def ame(w:Ai)(I:Nat)(a:Md.Ask)(k:An)(h:Qs w):At PG SW [.ptr 0 0 0,.str k] (Ff w I a false) (.Am [.agg (AK (B4 w k).1),.bool (B4 w k).2.1]) (Sg (B4 w k).2.2 I a)/\(Ff w I a false).length<=(Sg (B4 w k).2.2 I a).length:=by
 refine Ds (ak abI (ak adS AR)) (c:=1) (n:=9) (by show 1<=5;omega) ((ats w I a k).trans ?_);have hg:xU w I a k=some (.Am [.agg (AK (F4 (w.d.clean,k)).1),.bool (F4 (w.d.clean,k)).2.2],Sg (Jc w (F4 (w.d.clean,k)).2.1) I a):=Bj (w.d.clean,k) (m9 (w.d.clean,k)) h.2 (.refl _);rw[ae7 h.1,hg];unfold B4;cases h1:(EY w.d.rep.tail k).2 with
 | true=>rw[Ae,Ae]
 | false=>
  rw[Aj,Aj];cases h2:w.Hu with
  | false=>rfl
  | true=>
   cases h3:A5 w.DI.key k with
   | true=>rfl
   | false=>rfl
def iO(f:Nat)(p:Prop)(A:List AV)(H:Heap)(r:AV)(H':Heap):Af:=.EC f (λ_ _=>()) (λ_=>p) (λ_=>(A,H)) (λ_=>(r,H'))
def ng{f:Nat}{p:Prop}{A:List AV}{H:Heap}{r:AV}{H':Heap}(h:p->At PG f A H r H'/\H.length<=H'.length):(iO f p A H r H').Ok PG:=Af.EL λ_ hp=>h hp
def afm(w:Ai)(I:Nat)(a:Md.Ask)(k:An):Af:=iO SW (Qs w) [.ptr 0 0 0,.str k] (Ff w I a false) (.Am [.agg (AK (B4 w k).1),.bool (B4 w k).2.1]) (Sg (B4 w k).2.2 I a)
def ag3(w:Ai)(I:Nat)(a:Md.Ask)(q:Ad):Af:=iO Ll (gR w I q/\w.d.asks.getD I default=a) [.ptr 0 0 0,.agg (Aq q)] (Ff w I a false) (.Am []) (MD (Xy w I q))
def amf(w:Ai)(I:Nat)(a:Md.Ask)(k:An):(afm w I a k).Ok PG:=ng (ame w I a k)
def aoq(w:Ai)(I:Nat)(a:Md.Ask)(q:Ad):(ag3 w I a q).Ok PG:=ng λh=>by rw[<- h.2];exact alY w I q h.1
def ky(f:Nat):Af:=⟨f,λ_ _=>some {X:=Unit,g:=false,a:=(),r:=λ_=>(.undef,[])}⟩
def nR(f:Nat):(ky f).Ok PG:=λargs hp A e hg=>by cases e;cases hg
def ax4(l:List Af):Env:=Cw [] [(SW,5),(Ll,5),(Ob,5),(eg,0),(ed,0),(ZP,0)] [] l
def ag4(w:Ai)(I:Nat)(a:Md.Ask)(m:Ad):List Af:=[wH,vA,afm w I a m.op.key,ag3 (B4 w m.op.key).2.2 I a m,ky ZP]
def rF(w:Ai)(I:Nat)(a:Md.Ask)(m:Ad):Option (AV × Heap):=BA (λ_ _=>()) (λ_=>Qs w) (λ_=>([.ptr 0 0 0,.str m.op.key],Ff w I a false)) [.ptr 0 0 0,.str m.op.key] (Ff w I a false) λ_=>
 bif !(B4 w m.op.key).2.1 then BA (λ_ _=>()) (λ_=>gR (B4 w m.op.key).2.2 I m/\(B4 w m.op.key).2.2.d.asks.getD I default=a) (λ_=>([.ptr 0 0 0,.agg (Aq m)],Ff (B4 w m.op.key).2.2 I a false)) [.ptr 0 0 0,.agg (Aq m)] (Ff (B4 w m.op.key).2.2 I a false) λ_=>some (.Am [],MD (Xy (B4 w m.op.key).2.2 I m))else none
def att(w:Ai)(I:Nat)(a:Md.Ask)(m:Ad):CO 1 (ax4 (ag4 w I a m)) 9 Ob [.ptr 0 0 0,.agg (Aq m)] (Ff w I a false) =
 gC (λa=>AS a 0) (λ_=>True) (λk=>[.int .i64 k]) [.int .i64 m.op.kind] λy=>bif Xv y then
  bif !w.d.busy then rF w I a m else gC (λa=>AS a 0) (λ_=>True) (λk=>[.int .i64 k]) [.int .i64 m.op.kind] λy=>bif !PD y then rF w I a m else none
 else none:=by kernel_rfl
structure ov(w:Ai)(I:Nat)(m:Ad):Prop where
 first:J6 w m=true
 fi:Qs w
 no:(B4 w m.op.key).2.1=false
 azr:gR (B4 w m.op.key).2.2 I m
def l9(w:Ai)(k:An):(B4 w k).2.2.d.asks=w.d.asks:=by
 unfold B4;cases (EY w.d.rep.tail k).2 with
 | true=>rfl
 | false=>
  rw[Aj];cases w.Hu&&A5 w.DI.key k with
  | true=>rfl
  | false=>rfl
def Kb(w:Ai)(I:Nat)(m:Ad):Ai:=Xy (B4 w m.op.key).2.2 I m
def akC(w:Ai)(I:Nat)(m:Ad)(h:ov w I m):At PG Ob [.ptr 0 0 0,.agg (Aq m)] (Ff w I (w.d.asks.getD I default) false) (.Am []) (MD (Kb w I m))/\(Ff w I (w.d.asks.getD I default) false).length<=(MD (Kb w I m)).length:=by
 obtain⟨h1,h2,h3,h4⟩:=h;refine Ds (l:=ag4 w I (w.d.asks.getD I default) m) (ak aby (ak aaU (ak (amf _ _ _ _) (ak (aoq _ _ _ _) (ak (nR _) AR))))) (c:=1) (n:=9) (by show 1<=5;omega) ((att w I _ m).trans ?_);have qk:∀ {K:Int->Option (AV × Heap)},gC (λa=>AS a 0) (λ_=>True) (λk=>[.int .i64 k]) [.int .i64 m.op.kind] K=K m.op.kind:=λ{K}=>Bj m.op.kind rfl trivial (.refl _);have hF:rF w I (w.d.asks.getD I default) m=some (.Am [],MD (Kb w I m)):=by unfold rF;refine(Dw () rfl h2 (.refl _) (.refl _)).trans ?_;rw[h3,EP,Ae];exact Dw () rfl ⟨h4,by rw[l9]⟩ (.refl _) (.refl _)
 unfold J6 at h1;obtain⟨g1,g2⟩:=A4 h1;rw[qk,qk,g1,Ae];cases hb:w.d.busy with
 | false=>rw[EP,Ae];exact hF
 | true=>
  rw[hb]at g2;have g3:(!PD m.op.kind)=true:=by simpa using g2
  rw[Dr,Aj,g3,Ae];exact hF
def ad2(w:Ai)(I:Nat)(a:Md.Ask)(m:Ad):Af:=iO Ob (ov w I m/\w.d.asks.getD I default=a) [.ptr 0 0 0,.agg (Aq m)] (Ff w I a false) (.Am []) (MD (Kb w I m))
def akD(w:Ai)(I:Nat)(a:Md.Ask)(m:Ad):(ad2 w I a m).Ok PG:=ng λh=>by rw[<- h.2];exact akC w I m h.1
def ax5(l:List Af):Env:=Cw [] [(Nm,5),(SV,5),(UE,5),(Ob,5),(ee,0),(Ri,0),(ZA,0),(eZ,0),(WY,0)] [] l
def ag5(w:Ai)(I:Nat)(a:Md.Ask)(m:Ad):List Af:=[ad2 w I a m,wI,gE,xI,br,ky SV,ky UE,ky WY]
def nT(w:Ai)(I:Nat)(a:Md.Ask)(m:Ad):Option (AV × Heap):=gC MR AU MS [eV w.d.rep.tail.last] λy=>
 bif decide (w.c.Ov<=(nu y:Int))then none else BA (λ_ _=>()) (λ_=>ov w I m/\w.d.asks.getD I default=a) (λ_=>([.ptr 0 0 0,.agg (Aq m)],Ff w I a false)) [.ptr 0 0 0,.agg (Aq m)] (Ff w I a false) λ_=>some (.Am [],MD (Kb w I m))
def wV(w:Ai)(I:Nat)(a:Md.Ask)(m:Ad)(known:Bool):Option (AV × Heap):=
 bif decide (w.c.Ou<=(w.d.rep.tail.log.length:Int))then some (.Am [],Sg w I a)else
 bif !known then bif decide (w.c.Xk<=(w.d.rep.seen.length:Int))then some (.Am [],Sg w I a)else nT w I a m else nT w I a m
def atu(w:Ai)(I:Nat)(a:Md.Ask)(m:Ad):CO 1 (ax5 (ag5 w I a m)) 9 Nm [.ptr 0 0 0,.agg (Aq m)] (Ff w I a false) =
 bif decide (m.gen<w.d.rep.view.gen)then none else
 gC (λa=>(aH (Bd a 0),U0 (Bd a 1))) (λ_=>True) cQ [.agg (P5 m.op),.agg (D4 w.c)] λy=>
 bif !decide (GM y.1 y.2=0)then none else
 gC Ul (λp=>Fe p.1) MU [B7 w.d.rep.seen,.int .i64 m.Ah] λz=>
 gC (λa=>(Bm EU (a.getD 0 .Ak),AS a 1,AS a 2)) (λp=>Fe p.1) bu [B7 w.d.rep.seen,.int .i64 m.Ah,.int .i64 m.num] λv=>
 bif decide (P8 v.1 v.2.1 v.2.2=1)then none else
 bif decide (P8 v.1 v.2.1 v.2.2=2)then some (.Am [],Sg w I a)else wV w I a m (CA z.1 z.2).2:=by kernel_rfl
structure XU(w:Ai)(I:Nat)(m:Ad):Prop where
 zq:Qa w m=true
 seen:Fe w.d.rep.seen
 last:AU w.d.rep.tail.last
 fr:ov w I m
def amg(w:Ai)(I:Nat)(m:Ad)(h:XU w I m):At PG Nm [.ptr 0 0 0,.agg (Aq m)] (Ff w I (w.d.asks.getD I default) false) (.Am []) (MD (Kb w I m))/\(Ff w I (w.d.asks.getD I default) false).length<=(MD (Kb w I m)).length:=by
 refine Ds (l:=ag5 w I (w.d.asks.getD I default) m) (ak (akD _ _ _ _) (ak abz (ak mK (ak acC (ak fB (ak (nR _) (ak (nR _) (ak (nR _) AR)))))))) (c:=1) (n:=9) (by show 1<=5;omega) ((atu w I _ m).trans ?_);have qc:∀ {K:OC->Option (AV × Heap)},gC (λa=>(aH (Bd a 0),U0 (Bd a 1))) (λ_=>True) cQ [.agg (P5 m.op),.agg (D4 w.c)] K=K (m.op,w.c):=λ{K}=>Bj (m.op,w.c) rfl trivial (.refl _);have qv:∀ {K:qH->Option (AV × Heap)},gC (λa=>(Bm EU (a.getD 0 .Ak),AS a 1,AS a 2)) (λp=>Fe p.1) bu [B7 w.d.rep.seen,.int .i64 m.Ah,.int .i64 m.num] K=K (w.d.rep.seen,m.Ah,m.num):=λ{K}=>Bj (w.d.rep.seen,m.Ah,m.num) (Cv (Nq _) rfl) h.seen (.refl _);have qn:∀ {K:Au->Option (AV × Heap)},gC MR AU MS [eV w.d.rep.tail.last] K=K w.d.rep.tail.last:=λ{K}=>Bj _ rfl h.last (.refl _);obtain⟨g1,g⟩:=A4 h.zq;obtain⟨g2,g⟩:=A4 g;obtain⟨g3,g⟩:=A4 g;obtain⟨g4,g⟩:=A4 g;obtain⟨g5,g6⟩:=A4 g;simp only[Bool.not_eq_true']at g1 g3 g4 g5 g6;have e:P8 w.d.rep.seen m.Ah m.num=Mv w m:=rfl;rw[qc,gI h.seen,qv,g1,Aj];dsimp only;rw[g2,e,g3,g4];have h2:nT w I (w.d.asks.getD I default) m=some (.Am [],MD (Kb w I m)):=by unfold nT;rw[qn,g6,Aj];exact Dw () rfl ⟨h.fr,rfl⟩ (.refl _) (.refl _)
 show wV w I (w.d.asks.getD I default) m (CA w.d.rep.seen m.Ah).2=_;unfold Mu at g5;unfold wV;rw[Mw]at g5;rw[g5.1,Aj];cases h6:(CA w.d.rep.seen m.Ah).2 with
 | true=>rw[Dr,Aj];exact h2
 | false=>
  rw[h6]at g5;have h7:decide (w.c.Xk<=(w.d.rep.seen.length:Int))=false:=by simpa using g5.2
  rw[EP,Ae,h7,Aj];exact h2
def eHx(l:List Af):Env:=Cw [] [(Ei,0),(Fh,5),(Oc,0),(Nm,5),(UA,5)] [(Ei,2,[31007038])] l
def afn(d:Md.AL)(I:Nat):Af:=.Ly Fh (λ_=>()) (λ_=>K3 d/\I<d.asks.length) (λ_=>[.agg (Ct d)]) (λ_=>(.agg (Hc 0 d),zb d I (d.asks.getD I default)))
def amh(d:Md.AL)(I:Nat):(afn d I).Ok PG:=Af.Mn λ_ h=>alZ d I h.1 h.2
def wW(w:Ai)(I:Nat)(a:Md.Ask)(m:Ad):Af:=iO Nm (XU w I m/\w.d.asks.getD I default=a) [.ptr 0 0 0,.agg (Aq m)] (Ff w I a false) (.Am []) (MD (Kb w I m))
def abM(w:Ai)(I:Nat)(a:Md.Ask)(m:Ad):(wW w I a m).Ok PG:=ng λh=>by rw[<- h.2];exact amg w I m h.1
def ait(d:Md.AL)(k:EE)(I:Nat)(m:Ad):List Af:=[afn d I,P6,wW (Bq d k) I (d.asks.getD I default) m,PC]
def zr(d:Md.AL)(k:EE)(I:Nat)(a:Md.Ask):Heap:=[.arr true 44 [HF (Bq d k) (.sn 4 1 d.waits.length) (.sn 3 2 d.asks.length) (.sn 31 4 0)],.seq true 4 d.waits.length (CM d.waits),.Cb true 3 d.asks.length (BY d.asks) I (JN a 3 a.calls.length) [3] false,.seq true 31 a.calls.length (BP a.calls),.seq true 31 0 λ_=>[]]
def gDx(d:Md.AL)(I:Nat)(K:Option AV):Option AV:=gC (λ_=>()) (λ_=>K3 d/\I<d.asks.length) (λ_=>[.agg (Ct d)]) [.agg (Ct d)] λ_=>K
def gCx(d:Md.AL)(k:EE)(I:Nat)(m:Ad)(K:Option AV):Option AV:=BA (λ_ _=>()) (λ_=>XU (Bq d k) I m/\(Bq d k).d.asks.getD I default=d.asks.getD I default) (λ_=>([.ptr 0 0 0,.agg (Aq m)],Ff (Bq d k) I (d.asks.getD I default) false)) [.ptr 0 0 0,.agg (Aq m)] (zr d k I (d.asks.getD I default)) λ_=>K
def ax6(d:Md.AL)(k:EE)(I:Nat)(m:Ad):Option AV:=By (.Am [.agg (Hc 4 d),.sn 31 8 0]) [.arr true 23 [Ct d],.arr true 15 [D4 k],.arr true 31 [Aq m],.arr true 23 [Hc 4 d],.seq true 4 d.waits.length (CM d.waits),
 .Cb true 3 d.asks.length (BY d.asks) I (JN (d.asks.getD I default) 6 (d.asks.getD I default).calls.length) [6] false,.seq true 31 (d.asks.getD I default).calls.length (BP (d.asks.getD I default).calls),.arr true 44 [HF (Bq d k) (.sn 4 4 d.waits.length) (.sn 3 5 d.asks.length) (.sn 31 8 0)],.seq true 31 0 λ_=>[]]
def xV(d:Md.AL)(k:EE)(I:Nat)(m:Ad):Option AV:=gC Ef Gy Eg [.agg (AJ d.rep)] λr=>bif CH r then BA EA (λp=>HH p.1 p.2) Es [.ptr 0 0 0,.agg (Aq m)] (zr d k I (d.asks.getD I default)) λq=>bJ (HR q.1 q.2)else ax6 d k I m
def hhx(d:Md.AL)(k:EE)(I:Nat)(m:Ad):A6 (eHx (ait d k I (BK m 5))) 9 Ei [.agg (Ct d),.agg (D4 k),.agg (Aq (BK m 5))] =
 gDx d I (bif decide (m.dst=d.rep.self.node)then bif decide (m.AQ=d.rep.AQ)then gC Ef Gy Eg [.agg (AJ d.rep)] λr=>bif CH r then
   gCx d k I (BK m 5) (Tw (Kb (Bq d k) I (BK m 5)) (BK m 5))
  else xV d k I (BK m 5)else xV d k I (BK m 5)else xV d k I (BK m 5)):=by kernel_rfl
def GU(p:Gt):Nat:=Hp (Bq p.1 p.2.1) p.2.2.op.key
structure Ny(p:Gt):Prop where
 kd:p.2.2.kind=5
 dst:p.2.2.dst=p.1.rep.self.node
 AQ:p.2.2.AQ=p.1.rep.AQ
 head:CH p.1.rep=true
 zq:Qa (Bq p.1 p.2.1) p.2.2=true
 first:J6 (Bq p.1 p.2.1) p.2.2=true
 no:(B4 (Bq p.1 p.2.1) p.2.2.op.key).2.1=false
 ix:GU p<p.1.asks.length
 room:((p.1.asks.getD (GU p) default).calls.length:Int)<p.2.1.Ou
def Vk(p:Gt):Ai:=Kb (Bq p.1 p.2.1) (GU p) p.2.2
structure nU(p:Gt):Prop where
 dk:K3 p.1
 seen:Fe p.1.rep.seen
 last:AU p.1.rep.tail.last
 fi:Qs (Bq p.1 p.2.1)
 calls:(p.1.asks.getD (GU p) default).calls.length<=100000
 ms:K2 p.2.2
 bh:CH (Vk p).d.rep=true->HH (Vk p) p.2.2
def aaY(w:Ai)(k:An):(B4 w k).2.2.c=w.c:=by
 unfold B4;cases (EY w.d.rep.tail k).2 with
 | true=>rfl
 | false=>
  rw[Aj];cases w.Hu&&A5 w.DI.key k with
  | true=>rfl
  | false=>rfl
def ad3(p:Gt)(ht:Ny p)(h:nU p):XU (Bq p.1 p.2.1) (GU p) p.2.2:=by
 obtain⟨d,k,m⟩:=p;have DU:GU (d,k,m)<d.asks.length:=ht.ix;have Sh:∀ j,j<=GU (d,k,m) -> ∃ x,d.asks.getD j default=x/\(A5 x.key m.op.key=true ↔ j=GU (d,k,m)):=by
  intro j hj;have rG:j<d.asks.length:=by omega
  have hg:d.asks.getD j default=d.asks[j]:=by simp[List.getD,rG]
  refine⟨_,rfl,λhx=>?_,λhx=>?_⟩
  ·rcases Cj j (GU (d,k,m))with hlt | Ep
   ·have:=List.not_of_lt_findIdx (p:=Yd m.op.key) (xs:=d.asks) (i:=j) hlt;rw[hg]at hx;exact absurd hx (by simpa [Yd] using this)
   ·omega
  ·subst hx;rw[hg];exact List.findIdx_getElem (p:=Yd m.op.key) (xs:=d.asks) (w:=DU)
 have hT:gR (B4 (Bq d k) m.op.key).2.2 (GU (d,k,m)) m:=by
  have ea:(B4 (Bq d k) m.op.key).2.2.d.asks=d.asks:=l9 _ _;have ec:(B4 (Bq d k) m.op.key).2.2.c=k:=aaY _ _;refine⟨by rw[ea];exact DU,?_,λj hj=>?_,by rw[ea,ec];exact ht.room,by rw[ea];exact h.calls,by rw[ea];exact h.dk.2.2.2.2.2.1,h.ms⟩
  ·rw[ea];obtain⟨x,hx,hi⟩:=Sh _ (Ar _);have:=hi.2 rfl;rw[hx];rw[DV]at this;simpa using this
  ·rw[ea];obtain⟨x,hx,hi⟩:=Sh j (by omega);rw[hx];intro hc;have:=hi.1 (by rw[DV];simpa using hc);omega
 exact⟨ht.zq,h.seen,h.last,⟨ht.first,h.fi,ht.no,hT⟩⟩
def aor(p:Gt)(ht:Ny p)(h:nU p):At PG Ei (MG p) [] (Pf (IA (Vk p) p.2.2)) []:=by
 obtain⟨d,k,m⟩:=p;have e:=hhx d k (GU (d,k,m)) m;have hk:m.kind=5:=ht.kd;have hd:m.dst=d.rep.self.node:=ht.dst;have hs:m.AQ=d.rep.AQ:=ht.AQ;have hh:CH d.rep=true:=ht.head;have DU:GU (d,k,m)<d.asks.length:=ht.ix;have q1:∀ {K:Option AV},gDx d (GU (d,k,m)) K=K:=λ{K}=>Bj () rfl ⟨h.dk,DU⟩ (.refl _);have qh:∀ {K:Av->Option AV},gC Ef Gy Eg [.agg (AJ d.rep)] K=K d.rep:=λ{K}=>Bj d.rep (GZ d.rep) trivial (.refl _);have Ey:XU (Bq d k) (GU (d,k,m)) m:=ad3 (d,k,m) ht h;have q2:∀ {K:Option AV},gCx d k (GU (d,k,m)) m K=K:=λ{K}=>by refine Dw () rfl ⟨Ey,rfl⟩ (.refl _) ?_;exact .cons (.refl _) (.cons (.refl _) (.cons (.refl _) (.cons (.refl _) (.cons (.seq true 31 0 0 _ _ (Ar _) λi hi=>absurd hi (C5 i)) .nil))))
 rw[UZ hk,q1,qh,Ax hd,Ax hs,hh,Ae,Ae,Ae,q2]at e;have e2:=e.trans (Xl _ m h.bh);exact Cx (l:=ait d k (GU (d,k,m)) m) (ak (amh _ _) (ak Rn (ak (abM _ _ _ _) (ak SY AR)))) e2
open Classical in
def EW(p:Gt):Ai:=if Ny p then IA (Vk p) p.2.2 else OH E3 p
def Oi(p:Gt):Prop:=(Ny p->nU p)/\(¬ Ny p->gY E3 p)
def abN(p:Gt)(h:Oi p):At PG Ei (MG p) [] (Pf (EW p)) []:=by
 unfold EW;by_cases ht:Ny p
 ·rw[Ay ht];exact aor p ht (h.1 ht)
 ·rw[AE ht];exact aop E3 afj p (h.2 ht)
def tg:Af:=.spec Ei VI Oi MG (λp=>Pf (EW p))
def aag:tg.Ok PG:=Af.BJ abN
def aqQ(m:Nat)(d:Md.AL):Af:=.Ly Fh Mg Mh (λ_=>[.agg (Jd m d)]) (λ_=>(.agg (L9 m d (.sn 4 0 d.waits.length) (.sn 3 1 d.asks.length)),iK d m (gk d.asks.length)))
def aqR(m:Nat)(d:Md.AL)(g:Nat->Nat)(I:Nat):Af:=.Ly Fh Mg Mh (λ_=>[.agg (Jd m d)]) (λ_=>(.agg (L9 m d (.sn 4 0 d.waits.length) (.sn 3 1 d.asks.length)),zg d m g I (d.asks.getD I default)))
def afo(m:Nat)(d:Md.AL):Af:=.one Oc [.agg (LZ 0 m d.rep)] (.bool (CH d.rep))
def Mi(b:Nat)(l:List Af):Env:=Cw [] [(Ei,0),(Fh,5),(Oc,0),(Nm,5),(UA,5)] [(Ei,2,[31000038+b*1000])] l
def rH:Code:=Fi (Mi 6 []) Ei
def hc(p:List PE):Code:=sub rH p
def afp:rH=.seq (hc [.L]) (.seq (hc [.R,.L]) (.seq (.seq (hc [.R,.R,.L,.L]) (.block 0 (.seq (hc [.R,.R,.L,.R,.L,.L]) (.cond (.tmp 19) (.seq (hc [.R,.R,.L,.R,.L,.R,.L,.L]) (.cond (.tmp 40) (hc [.R,.R,.L,.R,.L,.R,.L,.R,.L]) .skip)) (hc [.R,.R,.L,.R,.L,.R,.R])))))
 (.seq (.seq (hc [.R,.R,.R,.L,.L]) (.cond (.tmp 73) (hc [.R,.R,.R,.L,.R,.L]) .skip)) (hc [.R,.R,.R,.R])))):=by kernel_rfl
def Kv(b:Nat)(l:List Af)(p:List PE)(K:AX->St->Option St)(s:St):Option St:=La (Mi b l) (Dl (Mi b l) 0) Ei 85 0 0 0 (hc p) K s
section
variable (m:Nat) (d:Md.AL) (k:EE) (q:Ad)
def iP(x y z:AV):List AV:=L9 m d x y++(D4 k++(z::(AK default++[.bool false])))
abbrev c8:Nat:=d.waits.length
abbrev c9:Nat:=d.asks.length
def bx:Heap:=[.arr true 23 [Jd m d],.arr true 15 [D4 k],.arr true 31 [Aq (BK q 5)],.arr true 23 [MX]]
def da(z:Fr)(b:Nat):Fr:=[(3,.ptr 0 0 0),(5,.ptr 2 0 0),(6,.ptr 3 0 0),(7,.Ak),(8,.ptr b 0 0)]++z
def H1A:St:={fr:=da [] 6,hp:=bx m d k q++(iK d m (gk d.asks.length)++[.arr true 44 [iP m d k (.sn 4 4 (c8 d)) (.sn 3 5 (c9 d)) .Ak]])}
def Wx(z:Fr):St:={fr:=da z 6,hp:=bx m d k q++(iK d m (gk d.asks.length)++[.arr true 44 [iP m d k (.sn 4 4 (c8 d)) (.sn 3 5 (c9 d)) (.sn 31 7 0)],.seq true 31 0 λ_=>[]])}
def H0:St:={fr:=[(3,.ptr 0 0 0),(4,.ptr 1 0 0),(5,.ptr 2 0 0),(6,.ptr 3 0 0),(7,.Ak)],hp:=bx m d k q}
def Wy:List Af:=[aqQ m d,afo m d]
def h_0(b:Nat)(l:List Af):Kv b l [.L] (Ba .normal (B9 [3,4,5,6,7])) {fr:=Ej 0 [.agg (Jd m d),.agg (D4 k),.agg (Aq (BK q 5))],hp:=[]}=some (H0 m d k q):=by kernel_rfl
def h_1:Kv 6 (Wy m d) [.R,.L] (Ba .normal (B9 [3,5,6,7,8])) (H0 m d k q)=gC Mg Mh (λ_=>[.agg (Jd m d)]) [.agg (Jd m d)] λ_=>some (H1A m d k q):=by kernel_rfl
def h_2:Kv 6 (Wy m d) [.R,.R,.L,.L] (Ba .normal (B9 [3,5,6,7,8,15])) (H1A m d k q)=some (Wx m d k q [(15,.int .i64 5)]):=by kernel_rfl
def h_4:Kv 6 (Wy m d) [.R,.R,.L,.R,.L,.L] (Ba .normal (B9 [3,5,6,7,8,19])) (Wx m d k q [(15,.int .i64 5)])=some (Wx m d k q [(19,.bool true)]):=by kernel_rfl
def h_5:Kv 6 (Wy m d) [.R,.R,.L,.R,.L,.R,.L,.L] (Ba .normal (B9 [3,5,6,7,8,40])) (Wx m d k q [(19,.bool true)]) =
 bif decide (q.dst=d.rep.self.node)then bif decide (q.AQ=d.rep.AQ)then gC Mg Mh (λ_=>[.agg (LZ 0 m d.rep)]) [.agg (LZ 0 m d.rep)] λ_=>some (Wx m d k q [(40,.bool (CH d.rep))])else some (Wx m d k q [(40,.bool false)])else some (Wx m d k q [(40,.bool false)]):=by kernel_rfl
def db:Heap:=[.dead,.dead,.arr true 31 [Aq (BK q 5)],.arr true 23 [MX]]
def Wz(z:Fr)(b:Nat):Fr:=[(5,.ptr 2 0 0),(6,.ptr 3 0 0),(8,.ptr b 0 0)]++z
def N5A:St:={fr:=Wz [] 6,hp:=db q++[Bf 4 Cz default d.waits,.seq true 3 d.asks.length (BY d.asks),.arr true 44 [HF (Bq d k) (.sn 4 4 (c8 d)) (.sn 3 5 (c9 d)) (.sn 31 7 0)],.seq true 31 0 λ_=>[]]}
def QW(w:Ai):Heap:=[.seq true 4 w.d.waits.length (CM w.d.waits),.seq true 3 w.d.asks.length (BY w.d.asks),.seq true 31 w.out.length (BP w.out)]
def dd(w:Ai)(b:Nat):BS:=.arr true 44 [HF w (.sn 4 b w.d.waits.length) (.sn 3 (b+1) w.d.asks.length) (.sn 31 (b+2) w.out.length)]
def kz(w:Ai)(z:Fr):St:={fr:=Wz z 6,hp:=db q++([.dead,.dead,dd w 8,.dead]++QW w)}
def aiu(w:Ai):St:={fr:=Wz [] 6,hp:=db q++([.dead,.dead,dd w 11,.dead,.dead,.dead,.dead]++QW w)}
def rI(w:Ai):St:={fr:=[(6,.ptr 3 0 0),(7,.sn 31 13 w.out.length)],hp:=[.dead,.dead,.arr true 31 [Aq (BK q 5)],.arr true 23 [Hc 11 w.d]]++([.dead,.dead,dd w 11,.dead,.dead,.dead,.dead]++QW w)}
def WA(c:Bz):List Af:=[aY c,P6,PC]
def h_6(c:Bz):Kv 6 (WA c) [.R,.R,.L,.R,.L,.R,.L,.R,.L] (Ba .normal (B9 [5,6,8])) (N5A d k q)=BA EA (λp=>c.p p.1 p.2) Es [.ptr 0 0 0,.agg (Aq (BK q 5))] (Qv d k) λp=>some (kz q (c.f p.1 p.2) []):=by kernel_rfl
def h_12(c:Bz)(w:Ai):Kv 6 (WA c) [.R,.R,.R,.L,.L] (Ba .normal (B9 [5,6,8,73])) (kz q w [])=gC Ef Gy Eg [.agg (AJ w.d.rep)] λr=>some (kz q w [(73,.bool (CH r))]):=by kernel_rfl
def h_13(c:Bz)(w:Ai):Kv 6 (WA c) [.R,.R,.R,.L,.R,.L] (Ba .normal (B9 [5,6,8])) (kz q w [(73,.bool true)])=BA EA (λp=>HH p.1 p.2) Es [.ptr 0 0 0,.agg (Aq (BK q 5))] (Bo w) λp=>some (aiu q (HR p.1 p.2)):=by kernel_rfl
def h_14(c:Bz)(w:Ai):Kv 6 (WA c) [.R,.R,.R,.R] (Ba .ret (B9 [6,7])) (aiu q w)=some (rI q w):=by kernel_rfl
def iQ(w:Ai):AV:=.Am [.agg (Hc 0 w.d),.sn 31 2 w.out.length]
def atv(w:Ai):Ip (GA PG) (rI q w) [.cell 6 44,.tmp 7] (λvs=>MQ 0 (Ge vs) (rI q w).hp)=some (iQ w,QW w):=by kernel_rfl
end
section
variable (m:Nat) (d:Md.AL) (k:EE) (q:Ad) (g:Nat->Nat) (I:Nat) (a:Md.Ask)
def aiv(b:Nat):Heap:=[Bf 4 Cz default d.waits,.Cb true 3 d.asks.length (Dt m d.asks g) I (JN a b a.calls.length) [b] false,.seq true 31 a.calls.length (BP a.calls)]
def H1B:St:={fr:=da [] 7,hp:=bx m d k q++(aiv m d g I (d.asks.getD I default) 6++[.arr true 44 [iP m d k (.sn 4 4 (c8 d)) (.sn 3 5 (c9 d)) .Ak]])}
def WB(z:Fr):St:={fr:=da z 7,hp:=bx m d k q++(aiv m d g I (d.asks.getD I default) 6++[.arr true 44 [iP m d k (.sn 4 4 (c8 d)) (.sn 3 5 (c9 d)) (.sn 31 8 0)],.seq true 31 0 λ_=>[]])}
def VJ:List Af:=[aqR m d g I,afo m d]
def ax7:Kv 7 (VJ m d g I) [.R,.L] (Ba .normal (B9 [3,5,6,7,8])) (H0 m d k q)=gC Mg Mh (λ_=>[.agg (Jd m d)]) [.agg (Jd m d)] λ_=>some (H1B m d k q g I):=by kernel_rfl
def ax8:Kv 7 (VJ m d g I) [.R,.R,.L,.L] (Ba .normal (B9 [3,5,6,7,8,15])) (H1B m d k q g I)=some (WB m d k q g I [(15,.int .i64 5)]):=by kernel_rfl
def ax9:Kv 7 (VJ m d g I) [.R,.R,.L,.R,.L,.L] (Ba .normal (B9 [3,5,6,7,8,19])) (WB m d k q g I [(15,.int .i64 5)])=some (WB m d k q g I [(19,.bool true)]):=by kernel_rfl
def aya:Kv 7 (VJ m d g I) [.R,.R,.L,.R,.L,.R,.L,.L] (Ba .normal (B9 [3,5,6,7,8,40])) (WB m d k q g I [(19,.bool true)]) =
 bif decide (q.dst=d.rep.self.node)then bif decide (q.AQ=d.rep.AQ)then gC Mg Mh (λ_=>[.agg (LZ 0 m d.rep)]) [.agg (LZ 0 m d.rep)] λ_=>some (WB m d k q g I [(40,.bool (CH d.rep))])else some (WB m d k q g I [(40,.bool false)])else some (WB m d k q g I [(40,.bool false)]):=by kernel_rfl
def N5B:St:={fr:=Wz [] 7,hp:=db q++[Bf 4 Cz default d.waits,.Cb true 3 d.asks.length (BY d.asks) I (JN (d.asks.getD I default) 6 (d.asks.getD I default).calls.length) [6] false,.seq true 31 (d.asks.getD I default).calls.length (BP (d.asks.getD I default).calls),.arr true 44 [HF (Bq d k) (.sn 4 4 (c8 d)) (.sn 3 5 (c9 d)) (.sn 31 8 0)],.seq true 31 0 λ_=>[]]}
def rJ(w:Ai)(z:Fr):St:={fr:=Wz z 7,hp:=db q++([.dead,.dead,.dead,dd w 9,.dead]++QW w)}
def aiw(w:Ai):St:={fr:=Wz [] 7,hp:=db q++([.dead,.dead,.dead,dd w 12,.dead,.dead,.dead,.dead]++QW w)}
def rK(w:Ai):St:={fr:=[(6,.ptr 3 0 0),(7,.sn 31 14 w.out.length)],hp:=[.dead,.dead,.arr true 31 [Aq (BK q 5)],.arr true 23 [Hc 12 w.d]]++([.dead,.dead,.dead,dd w 12,.dead,.dead,.dead,.dead]++QW w)}
def VK:List Af:=[wW (Bq d k) I (d.asks.getD I default) (BK q 5),P6,PC]
def gCy(K:Option St):Option St:=BA (λ_ _=>()) (λ_=>XU (Bq d k) I (BK q 5)/\(Bq d k).d.asks.getD I default=d.asks.getD I default) (λ_=>([.ptr 0 0 0,.agg (Aq (BK q 5))],Ff (Bq d k) I (d.asks.getD I default) false)) [.ptr 0 0 0,.agg (Aq (BK q 5))] (zr d k I (d.asks.getD I default)) λ_=>K
def ayb:Kv 7 (VK d k q I) [.R,.R,.L,.R,.L,.R,.L,.R,.L] (Ba .normal (B9 [5,6,8])) (N5B d k q I)=gCy d k q I (some (rJ q (Kb (Bq d k) I (BK q 5)) [])):=by kernel_rfl
def av0(w:Ai):Kv 7 (VK d k q I) [.R,.R,.R,.L,.L] (Ba .normal (B9 [5,6,8,73])) (rJ q w [])=gC Ef Gy Eg [.agg (AJ w.d.rep)] λr=>some (rJ q w [(73,.bool (CH r))]):=by kernel_rfl
def av1(w:Ai):Kv 7 (VK d k q I) [.R,.R,.R,.L,.R,.L] (Ba .normal (B9 [5,6,8])) (rJ q w [(73,.bool true)])=BA EA (λp=>HH p.1 p.2) Es [.ptr 0 0 0,.agg (Aq (BK q 5))] (Bo w) λp=>some (aiw q (HR p.1 p.2)):=by kernel_rfl
def av3(w:Ai):Kv 7 (VK d k q I) [.R,.R,.R,.R] (Ba .ret (B9 [6,7])) (aiw q w)=some (rK q w):=by kernel_rfl
def atw(w:Ai):Ip (GA PG) (rK q w) [.cell 6 44,.tmp 7] (λvs=>MQ 0 (Ge vs) (rK q w).hp)=some (iQ w,QW w):=by kernel_rfl
end
end Go.Hd
end
section
namespace Go.AM
mutual
def jf:AV->Bool
 | .tr _ n _=>Nat.beq n 0
 | .tn _ n _=>Nat.beq n 0
 | .A9 _ es=>es.isEmpty
 | .tp .. => false
 | .mk .. => false
 | .agg cs=>N6 cs
 | .Am cs=>N6 cs
 | .fn _ a c=>N6 a&&N6 c
 | _=>true
def N6:List AV->Bool
 | []=>true
 | v::r=>jf v&&N6 r
end
def U3:∀ {cs:List AV} {k:Nat} {c:AV},N6 cs=true->cs[k]? = some c->jf c=true
 | [],k,c,_,e=>by simp at e
 | v::r,0,c,h,e=>by simp only[N6,My]at h;simp at e;exact e ▸ h.1
 | v::r,k+1,c,h,e=>by simp only[N6,My]at h;simp at e;exact U3 h.2 e
def RV.tr0{w:World}{I J:Nat->Prop}{φ φ':Ac}{sz:Nat}{f:Nat->List AV}{u:Value}(h:RV w I φ (.tr sz 0 f) u):RV w J φ' (.tr sz 0 f) u:=by
 generalize hn:(0:Nat)=n at h;cases h with
 | tr _ _ _ B o cap uf hB Eo C6 hlen hc h1 hr=>subst hn;exact .tr sz 0 f B o cap uf (λh=>absurd h (DP 0)) Eo (λh=>absurd h (DP 0)) (λi hi=>absurd hi (C5 i)) (λi k c hi=>absurd hi (C5 i)) (λi k c hi=>absurd hi (C5 i)) (λi k c hi=>absurd hi (C5 i))
 | Cq _ _ a=>exact .Cq sz f a
def RV.jf{w:World}{I:Nat->Prop}{φ:Ac}{v:AV}{u:Value}(h:RV w I φ v u)(J:Nat->Prop):AM.jf v=true->RV w J φ v u:=by
 induction h with
 | undef v=>intros;exact .undef v
 | hd a n c=>intros;exact .hd a n c
 | mk=>intro ht;simp[AM.jf]at ht
 | bool b=>intros;exact .bool b
 | int k n=>intros;exact .int k n
 | DR k n=>intros;exact .DR k n
 | Al k a b=>intros;exact .Al k a b
 | str s l h=>intros;exact .str s l h
 | HB=>intros;exact .HB
 | ptr b B o sz i j q h hq=>intros;exact .ptr b B o sz i j q h hq
 | tp cs j B o q u hB hq hc h1 hr _=>intro ht;simp[AM.jf]at ht
 | Ak=>intros;exact .Ak
 | sl sz b B o off len cm cap q h hq hl hc hs=>intros;exact .sl sz b B o off len cm cap q h hq hl hc hs
 | sle sz b off a=>intros;exact .sle sz b off a
 | tr sz n f B o cap u hB hn C6 hlen hc h1 hr _=>intro ht;have h0:n=0:=BN (by simpa [AM.jf] using ht);subst h0;exact RV.tr0 (I:=I) (φ:=Ac.no) (.tr sz 0 f B o cap u hB hn C6 hlen hc h1 hr)
 | Cq sz f a=>intros;exact .Cq sz f a
 | tn sz n f v h ih=>intro ht;exact .tn sz n f v (ih ht)
 | A9 sz es v h hz ih=>
  intro ht;cases es with
  | cons e es=>simp[AM.jf]at ht
  | nil=>exact .A9 sz [] v (ih (by simp[AM.jf])) hz
 | agg cs vs hl h1 _ ih=>intro ht;exact .agg cs vs hl h1 λk c u e e'=>ih k c u e e' (U3 (by simpa [AM.jf] using ht) e)
 | Am cs vs hl _ ih=>intro ht;exact .Am cs vs hl λk c u e e'=>ih k c u e e' (U3 (by simpa [AM.jf] using ht) e)
 | fn f a c va vc Jg Le _ _ T3 Yh=>intro ht;simp only[AM.jf,My]at ht;exact .fn f a c va vc Jg Le (λk c u e e'=>T3 k c u e e' (U3 ht.1 e)) (λk c u e e'=>Yh k c u e e' (U3 ht.2 e))
 | I9=>intros;exact .I9
 | HC=>intros;exact .HC
 | mp b B h=>intros;exact .mp b B h
 | DT sz b a=>intros;exact .DT sz b a
 | sn sz b n B o cap h hl hs=>intros;exact .sn sz b n B o cap h hl hs
section
variable {w:World} {I J:Nat->Prop} {φ:Ac}
def HM(w:World)(I J:Nat->Prop)(φ:Ac)(c c':AV):Prop:=∀ u,RV w I φ c u->RV w J φ c' u
def HN(w:World)(I J:Nat->Prop)(φ:Ac)(cs A3:List AV):Prop:=A3.length=cs.length /\ ∀ (k:Nat) c',A3[k]? = some c' -> ∃ c,cs[k]? = some c/\HM w I J φ c c'
def HM.jf{c:AV}(h:AM.jf c=true):HM w I J φ c c:=λu hu=>hu.jf J h
def HM.undef{c:AV}:HM w I J φ c .undef:=λu hu=>.undef u
def HN.nil:HN w I J φ [] []:=⟨rfl,λk c' e=>by simp at e⟩
def HN.cons{c c':AV}{cs A3:List AV}(h:HM w I J φ c c')(h':HN w I J φ cs A3):HN w I J φ (c::cs) (c'::A3):=by
 refine⟨by simp[h'.1],λk x e=>?_⟩;cases k with
 | zero=>simp at e;exact⟨c,rfl,e ▸ h⟩
 | succ k=>exact h'.2 k x (by simpa using e)
def HN.jf{cs:List AV}(h:N6 cs=true):HN w I J φ cs cs:=⟨rfl,λk c e=>⟨c,e,.jf (U3 h e)⟩⟩
def HN.append{a b a' b':List AV}(h:HN w I J φ a a')(h':HN w I J φ b b'):HN w I J φ (a++b) (a'++b'):=by
 refine⟨by simp[h.1,h'.1],λk c e=>?_⟩;rw[Vp]at e;split at e
 ·rename_i hk;obtain⟨c0,e0,r⟩:=h.2 k c e;exact⟨c0,by rw[DY (by rw[<- h.1];exact hk)];exact e0,r⟩
 ·rename_i hk;obtain⟨c0,e0,r⟩:=h'.2 _ c e;exact⟨c0,by rw[FC (by rw[<- h.1];omega),<- h.1];exact e0,r⟩
def Dv(w:World)(I J:Nat->Prop)(φ:Ac)(x x':BS):Prop:=x'=.dead\/(AZ x=true/\AZ x'=true/\(Gv x->Gv x') /\ ∀ B o sz,RB w I φ B o sz x->RB w J φ B o sz x')
def Dv.arr{sz:Nat}{cs A3:List AV}(h:HN w I J φ cs A3):Dv w I J φ (.arr true sz [cs]) (.arr true sz [A3]):=by
 refine .inr ⟨rfl,rfl,id,λB o s r=>?_⟩;obtain⟨a0,a1,a2,a3⟩:=r;refine⟨a0,a1,λi x e=>?_,λi x k c e e'=>?_⟩
 ·cases i with
  | zero=>simp at e;subst e;rw[h.1];exact a2 0 cs rfl
  | succ i=>simp at e
 ·cases i with
  | zero=>simp at e;subst e;obtain⟨c0,e0,r⟩:=h.2 k c e';obtain⟨u,g1,g2,g3⟩:=a3 0 cs k c0 rfl e0;exact⟨u,g1,g2,r u g3⟩
  | succ i=>simp at e
def Dv.seq{sz n:Nat}{f f':Nat->List AV}(h:∀ i,i<n->HN w I J Ac.no (f i) (f' i)):Dv w I J φ (.seq true sz n f) (.seq true sz n f'):=by refine .inr ⟨rfl,rfl,id,λB o s r=>?_⟩;obtain⟨a0,a1,a2,a3⟩:=r;refine⟨a0,a1,λi hi=>(h i hi).1.trans (a2 i hi),λi k c hi e=>?_⟩;obtain⟨c0,e0,r⟩:=(h i hi).2 k c e;obtain⟨u,g1,g2,g3⟩:=a3 i k c0 hi e0;exact⟨u,g1,g2,r u g3⟩
def Dv.Cb{sz n i0:Nat}{f f':Nat->List AV}{c0:List AV}{ks:List Nat}{cur:Bool}(h:∀ i,i<n->i ≠ i0->HN w I J φ (f i) (f' i))(h0:N6 c0=true):Dv w I J φ (.Cb true sz n f i0 c0 ks cur) (.Cb true sz n f' i0 c0 ks cur):=by
 refine .inr ⟨rfl,rfl,id,λB o s r=>?_⟩;obtain⟨a0,a1,a2,a3⟩:=r;have hr:∀ i,i<n->HN w I J φ (DF f i0 c0 i) (DF f' i0 c0 i):=λi hi=>by
  unfold DF;by_cases e:i=i0
  ·subst e;rw[show Nat.beq i i=true from Nat.beq_refl i,Ae,Ae];exact .jf h0
  ·rw[show Nat.beq i i0=false from by cases h':Nat.beq i i0 with | false=>rfl | true=>exact absurd (BN h') e,Aj,Aj];exact h i hi e
 refine⟨a0,a1,λi hi=>(hr i hi).1.trans (a2 i hi),λi k c hi e=>?_⟩;obtain⟨c0,e0,r⟩:=(hr i hi).2 k c e;obtain⟨u,g1,g2,g3⟩:=a3 i k c0 hi e0;exact⟨u,g1,g2,r u g3⟩
def K4(w:World)(I J:Nat->Prop)(φ:Ac)(b:Nat)(x x':BS):Prop:=x'=.dead\/(AZ x=true/\AZ x'=true/\(Gv x->Gv x') /\ ∀ B o sz,φ b=some (B,o,sz)->RB w I φ B o sz x->RB w J φ B o sz x')
def Dv.at{x x':BS}(h:Dv w I J φ x x')(b:Nat):K4 w I J φ b x x':=h.imp id λ⟨h1,h2,h3,h4⟩=>⟨h1,h2,h3,λB o sz _=>h4 B o sz⟩
def RH.tell{hp hp':Heap}(h:RH w I φ (Ab hp))(hd:∀ B,Ca φ (Ab hp) B -> ¬ J B)(hlt:∀ B,J B->B<w.heap.size)(hl:hp.length=hp'.length)(hx:∀ b,b<hp.length->K4 w I J φ b (Ab hp b) (Ab hp' b)):RH w J φ (Ab hp'):=by
 have ge:∀ b,¬ b<hp.length->Ab hp' b=.none/\Ab hp b=.none:=λb hb=>⟨Gw (by omega),Gw (by omega)⟩
 have mm:∀ b,AZ (Ab hp' b)=true->b<hp.length/\AZ (Ab hp b)=true:=λb hm=>by
  by_cases hb:b<hp.length
  ·rcases hx b hb with e | ⟨e,_⟩
   ·rw[e]at hm;cases hm
   ·exact⟨hb,e⟩
  ·rw[(ge b hb).1]at hm;cases hm
 have lm:∀ b,live (Ab hp' b)=true->b<hp.length/\AZ (Ab hp b)=true/\AZ (Ab hp' b)=true/\(Gv (Ab hp b)->Gv (Ab hp' b)) /\ ∀ B o sz,φ b=some (B,o,sz)->RB w I φ B o sz (Ab hp b)->RB w J φ B o sz (Ab hp' b):=λb hm=>by
  by_cases hb:b<hp.length
  ·rcases hx b hb with e | e
   ·rw[e]at hm;cases hm
   ·exact⟨hb,e⟩
  ·rw[(ge b hb).1]at hm;cases hm
 refine⟨λb e=>?_,λb e=>?_,λb b' B o sz o' sz' h1 h2=>h.inj b b' B o sz o' sz' (mm b h1).2 (mm b' h2).2,λb B o sz h1 e hB=>hd B ⟨b,o,sz,(mm b h1).2,e⟩ hB,λb B o sz h1 h2 e=>?_,hlt⟩
 ·by_cases hb:b<hp.length
  ·rcases hx b hb with x | ⟨_,x,_⟩
   ·rw[x]at e;cases e
   ·rw[e]at x;cases x
  ·exact h.none b (ge b hb).2
 ·obtain⟨hb,g1,g2,g3,g4⟩:=lm b e;rcases h.CY b (Fv g1)with ⟨B,o,sz,e1,r⟩ | ⟨e1,O4⟩
  ·exact .inl ⟨B,o,sz,e1,g4 B o sz e1 r⟩
  ·exact .inr ⟨e1,g3 O4⟩
 ·rw[(lm b h1).2.2.1]at h2;cases h2
def RH.sub{hp hp':Heap}(h:RH w I φ (Ab hp))(hJ:∀ B,J B->I B)(hl:hp.length=hp'.length)(hx:∀ b,b<hp.length->Dv w I J φ (Ab hp b) (Ab hp' b)):RH w J φ (Ab hp'):=
 h.tell (λB ⟨b,o,s,e1,e2⟩ hB=>h.CP b B o s e1 e2 (hJ B hB)) (λB hB=>h.lt B (hJ B hB)) hl λb hb=>(hx b hb).at b
def Ye(m:Nat)(w:World)(I:Nat->Prop)(B:Nat):Prop:=I B/\m<=B/\F7 w B
def HM.QS{m sz n:Nat}{f:Nat->List AV}(hj:∀ i,i<n->N6 (f i)=true):HM w I (Ye m w I) φ (.mk 2 m (.tr sz n f)) (.tr sz n f):=by
 intro u hu;cases hu with
 | mk _ _ _ a n' c h hk=>
  cases h with
  | tr _ _ _ B o cap uf hI hn C6 hlen hc h1 hr=>refine .tr sz n f B o _ uf (λh0=>?_) hn C6 hlen hc h1 λi k c hi e=>(hr i k c hi e).jf _ (U3 (hj i hi) e);obtain⟨g1,g2,g3⟩:=hk B o none rfl h0;exact⟨g1,g2,g3⟩
  | Cq _ _ a=>exact .Cq sz f _
def Up.of{M m:Nat}{I0:Nat->Prop}{S S':St}(h:Pm M I0 w I φ S)(hl:S.hp.length=S'.hp.length)(hx:∀ b,b<S.hp.length->Dv w I (Ye m w I) φ (Ab S.hp b) (Ab S'.hp b)):Up m M I0 w (Ye m w I) φ S':=by
 refine⟨⟨h.1,λB hB=>h.2.1 B ?_,λB hB=>h.2.2 B hB.1⟩,λB hB=>hB.2⟩;obtain⟨b,o,s,e1,e2⟩:=hB;by_cases hb:b<S.hp.length
 ·rcases hx b hb with e | ⟨e,_⟩
  ·rw[e]at e1;cases e1
  ·exact⟨b,o,s,e,e2⟩
 ·rw[Gw (by omega)]at e1;cases e1
def RD{M m:Nat}{I0:Nat->Prop}{S S':St}(hl:S.hp.length=S'.hp.length)(hx:∀ (w:World) (I:Nat->Prop) (φ:Ac) b,b<S.hp.length->Dv w I (Ye m w I) φ (Ab S.hp b) (Ab S'.hp b))
  (hf:∀ t,Bb S'.fr t=Bb S.fr t/\jf (Bb S.fr t)=true\/Bb S'.fr t=.undef):Ow (Pm M I0) (Up m M I0) S S':=by
 intro w I φ a hs hP;refine⟨Ye m w I,φ,⟨hs.hh.sub (λB hB=>hB.1) hl (hx w I φ),λt=>?_⟩,.of hP hl (hx w I φ)⟩;rcases hf t with ⟨e,hj⟩ | e
 ·show RV _ _ _ (Bb S'.fr t) _;rw[e];exact(hs.fr t).jf _ hj
 ·show RV _ _ _ (Bb S'.fr t) _;rw[e];exact .undef _
end
end Go.AM
end
section
open Go Go.AM Go.Md
namespace Go.Hd
open Go.Wk
def Mj(c:Ad):Prop:=c.entries=[]/\c.chain=[]/\c.views=[]/\c.image.log=[]/\c.image.seen=[]
def nV{c:Ad}(h:Mj c):N6 (Aq c)=true:=by obtain⟨h1,h2,h3,h4,h5⟩:=h;unfold Aq;rw[h1,h2,h3,h4,h5];rfl
def av4{j i:Nat}(h:i<j):gk j i=2:=by unfold gk;rw[Ta,Ax h];rfl
section
variable {w:World} {I:Nat->Prop} {φ:Ac} {m:Nat}
def afq(d:Md.AL)(k:EE){x y z:AV}(hx:jf x=true)(hy:jf y=true)(hz:jf z=true):HN w I (Ye m w I) φ (iP m d k x y z) (HF (Bq d k) x y z):=by refine .append (b:=D4 k++(z::(AK default++[.bool false]))) ?_ (.append (.jf rfl) (.cons (.jf hz) (.jf rfl)));refine .cons (.jf rfl) (.cons (.jf rfl) (.cons (.jf rfl) (.cons (.jf rfl) (.cons (.jf rfl) (.cons (.jf rfl) (.cons (.jf rfl) (.cons (.QS λi _=>rfl) (.cons (.jf rfl) (.cons (.jf rfl) (.cons (.jf rfl) (.cons (.QS λi _=>rfl) (.cons (.QS λi _=>rfl) (.cons (.jf rfl) (.cons (.QS λi _=>rfl) ?_))))))))))))));exact .cons (.jf rfl) (.cons (.QS λi _=>rfl) (.cons (.QS λi _=>rfl) (.cons (.QS λi _=>rfl) (.cons (.jf rfl) (.cons (.jf hx) (.cons (.jf hy) (.cons (.jf rfl) .nil)))))))
def afr{l:List Md.Ask}{g:Nat->Nat}{i:Nat}(hg:g i=2)(hi:i<l.length)(h:∀ a ∈ l,∀ c ∈ a.calls,Mj c):HN w I (Ye m w I) φ (Dt m l g i) (BY l i):=by
 have e:Dt m l g i=YU m 2 (l.getD i default):=by unfold Dt;rw[hg]
 rw[e];refine .cons (.jf rfl) (.cons (.jf rfl) (.cons (.QS λj hj=>?_) .nil));exact nV (h _ (De (z:=(default:Md.Ask)) hi) _ (De (z:=(default:Ad)) hj))
end
def ad4(z:Fr)(b:Nat)(t:Nat):Bb (Wz [] b) t=Bb (da z b) t/\jf (Bb (da z b) t)=true\/Bb (Wz [] b) t=.undef:=
 match t with
 | 0 | 1 | 2 | 3 | 4=>.inr rfl
 | 5=>.inl ⟨rfl,rfl⟩
 | 6=>.inl ⟨rfl,rfl⟩
 | 7=>.inr rfl
 | 8=>.inl ⟨rfl,rfl⟩
 | n+9=>.inr rfl
section
variable {m:Nat} {d:Md.AL} {k:EE} {q:Ad}
def ayc(M:Nat)(I0:Nat->Prop)(z:Fr)(hq:Mj q)(ha:∀ a ∈ d.asks,∀ c ∈ a.calls,Mj c):Ow (Pm M I0) (Up m M I0) (Wx m d k q z) (N5A d k q):=
 RD rfl (λw I φ b hb=>match b,hb with
  | 0,_=>.inl rfl
  | 1,_=>.inl rfl
  | 2,_=>.arr (.jf (nV (c:=BK q 5) hq))
  | 3,_=>.arr (.jf rfl)
  | 4,_=>.seq λi _=>.jf rfl
  | 5,_=>.seq λi hi=>afr (av4 hi) hi ha
  | 6,_=>.arr (afq d k rfl rfl rfl)
  | 7,_=>.seq λi hi=>absurd hi (C5 i)
  | n+8,hb=>absurd (show n+8<8 from hb) (by omega)) (ad4 z 6)
def ayd(M:Nat)(J0:Nat->Prop)(z:Fr)(g:Nat->Nat)(I0:Nat)(hg:∀ i,i<d.asks.length->i ≠ I0->g i=2)(hI:I0<d.asks.length)(hq:Mj q)(ha:∀ a ∈ d.asks,∀ c ∈ a.calls,Mj c):Ow (Pm M J0) (Up m M J0) (WB m d k q g I0 z) (N5B d k q I0):=
 RD rfl (λw I φ b hb=>match b,hb with
  | 0,_=>.inl rfl
  | 1,_=>.inl rfl
  | 2,_=>.arr (.jf (nV (c:=BK q 5) hq))
  | 3,_=>.arr (.jf rfl)
  | 4,_=>.seq λi _=>.jf rfl
  | 5,_=>.Cb (λi hi hne=>afr (hg i hi hne) hi ha) rfl
  | 6,_=>.seq λi hi=>.jf (nV (ha _ (De (z:=(default:Md.Ask)) hI) _ (De (z:=(default:Ad)) hi)))
  | 7,_=>.arr (afq d k rfl rfl rfl)
  | 8,_=>.seq λi hi=>absurd hi (C5 i)
  | n+9,hb=>absurd (show n+9<9 from hb) (by omega)) (ad4 z 7)
end
section
variable {m:Nat} {d:Md.AL} {k:EE} {q:Ad}
def aos(m:Nat)(r:Av):CJ (LZ 0 m r) (AJ r):=
 .cons (.refl _) (.cons (.refl _) (.cons (.refl _) (.cons (.refl _) (.cons (.refl _) (.cons (.refl _) (.cons (.refl _) (.cons .Pe (.cons (.refl _) (.cons (.refl _) (.cons (.refl _) (.cons .Pe (.cons .Pe (.cons (.refl _) (.cons .Pe .nil))))))))))))))
def abO(m:Nat)(d:Md.AL):At PG Oc [.agg (LZ 0 m d.rep)] [] (.bool (CH d.rep)) []:=(acq d.rep trivial).args (.cons (.agg (aos m d.rep)) .nil)
def okH:AD (hc [.L])=true/\AD (hc [.R,.L])=true/\AD (hc [.R,.R,.L,.L])=true/\AD (hc [.R,.R,.L,.R,.L,.L])=true/\AD (hc [.R,.R,.L,.R,.L,.R,.L,.L])=true/\AD (hc [.R,.R,.L,.R,.L,.R,.L,.R,.L])=true/\AD (hc [.R,.R,.R,.L,.L])=true/\AD (hc [.R,.R,.R,.L,.R,.L])=true/\AD (hc [.R,.R,.R,.R])=true:=
 ⟨by kernel_rfl,by kernel_rfl,by kernel_rfl,by kernel_rfl,by kernel_rfl,by kernel_rfl,by kernel_rfl,by kernel_rfl,by kernel_rfl⟩
def ami(hd:K3 d)(R8:q.dst=d.rep.self.node)(MO:q.AQ=d.rep.AQ)(hh:CH d.rep=true)(hq:Mj q)(ha:∀ a ∈ d.asks,∀ c ∈ a.calls,Mj c){c:Bz}(MJ:c.Ok)(hp:c.p (Bq d k) (BK q 5))
  (Jj:CH (c.f (Bq d k) (BK q 5)).d.rep=true) (hb2:HH (c.f (Bq d k) (BK q 5)) (BK q 5)) :
  TU PG Ei m [.agg (Jd m d),.agg (D4 k),.agg (Aq (BK q 5))] (iQ (HR (c.f (Bq d k) (BK q 5)) (BK q 5))) (QW (HR (c.f (Bq d k) (BK q 5)) (BK q 5))):=by
 obtain⟨o0,o1,o2,o4,o5,o6,kC,o13,o14⟩:=okH;have hn:CH d.rep=CH d.rep:=rfl;have jw:∀ x ∈ Wy m d,x.Ok PG:=ak (Af.Mn λ_ _=>akw m d hd) (ak (Af.Xs (abO m d)) AR);have Bh:DH PG (Mi 6 (Wy m d)):=Gd jw;have hrun:EN PG (Dl (R:=St) (Mi 6 (Wy m d)) 0):=Iw Bh Gc mixed 0;have NG:DH PG (Mi 6 (WA c)):=Gd (ak (uN MJ) (ak Rn (ak SY AR)));have gb:It PG (Mi 6 (WA c)):=Gc;have Tx:EN PG (Dl (R:=St) (Mi 6 (WA c)) 0):=Iw NG gb mixed 0;obtain⟨fn,hf,hb,GI,Ew⟩:∃ fn,(Mi 6 (WA c)).code Ei=some fn/\fn.body=some rH/\fn.ntmps=85/\fn.results.toList=[.cell 6 44,.tmp 7]:=⟨_,rfl,by kernel_rfl,by kernel_rfl,by kernel_rfl⟩
 have L0:=BT (l:=[3,4,5,6,7]) Bh hrun mixed o0 (h_0 m d k q 6 (Wy m d));have L1:=BT (l:=[3,5,6,7,8]) Bh hrun mixed o1 ((h_1 m d k q).trans (Rx (.refl _)));have L2:=BT (l:=[3,5,6,7,8,15]) Bh hrun mixed o2 (h_2 m d k q);have L4:=BT (l:=[3,5,6,7,8,19]) Bh hrun mixed o4 (h_4 m d k q);have L5:=BT (l:=[3,5,6,7,8,40]) Bh hrun mixed o5 ((h_5 m d k q).trans (by rw[Ax R8,Ax MO,Ae,Ae];exact Rx (.refl _)));rw[hh]at L5;have L6:=BT (l:=[5,6,8]) NG Tx mixed o6 ((h_6 d k q c).trans (show _=some (kz q (c.f (Bq d k) (BK q 5)) []) from YY (P:=λp=>c.p p.1 p.2) hp));generalize hW:c.f (Bq d k) (BK q 5)=W at *;have q1:∀ {K:Av->Option St},gC Ef Gy Eg [.agg (AJ W.d.rep)] K=K W.d.rep:=λ{K}=>Bj W.d.rep (GZ W.d.rep) trivial (.refl _);have q2:∀ {K:WM->Option St},BA EA (λp=>HH p.1 p.2) Es [.ptr 0 0 0,.agg (Aq (BK q 5))] (Bo W) K=K (W,BK q 5):=λ{K}=>Dw (W,BK q 5) (U6 (W,BK q 5)) hb2 (.refl _) (.refl _);have YZ:=BT (l:=[5,6,8,73]) NG Tx mixed kC ((h_12 q c W).trans q1);rw[Jj]at YZ;have L13:=BT (l:=[5,6,8]) NG Tx mixed o13 ((h_13 q c W).trans q2);have L14:=BT (l:=[6,7]) NG Tx mixed o14 (h_14 q c (HR W (BK q 5)));refine wR NG gb hf hb (.inr rfl) (T:=rI q (HR W (BK q 5))) (λM I0 hM=>?_) (by rw[Ew];exact atv q _);rw[afp,GI];have l6:=LG.RD (ayc M I0 [(40,.bool true)] hq ha) (L6.Wv hM);have l5:=L5.pm.seq (LG.cond (c:=.tmp 40) (b:=true) (y:=.skip) rfl l6);have l4:=L4.pm.seq (LG.cond (c:=.tmp 19) (b:=true) (y:=hc [.R,.R,.L,.R,.L,.R,.R]) rfl l5);have l2:=L2.pm.seq (l4.U2 (id:=0));have l12:=(YZ.Wv (I0:=I0) hM).seq (LG.cond (c:=.tmp 73) (b:=true) (y:=.skip) rfl (L13.Wv hM));exact L0.pm.seq (L1.pm.seq (l2.seq (l12.seq (L14.Wv hM))))
def amj(hd:K3 d)(R8:q.dst=d.rep.self.node)(MO:q.AQ=d.rep.AQ)(hh:CH d.rep=true)(hq:Mj q)(ha:∀ a ∈ d.asks,∀ c ∈ a.calls,Mj c){I:Nat}(hI:I<d.asks.length)(hp:XU (Bq d k) I (BK q 5))
  (Jj:CH (Kb (Bq d k) I (BK q 5)).d.rep=true) (hb2:HH (Kb (Bq d k) I (BK q 5)) (BK q 5)) :
  TU PG Ei m [.agg (Jd m d),.agg (D4 k),.agg (Aq (BK q 5))] (iQ (HR (Kb (Bq d k) I (BK q 5)) (BK q 5))) (QW (HR (Kb (Bq d k) I (BK q 5)) (BK q 5))):=by
 obtain⟨o0,o1,o2,o4,o5,o6,kC,o13,o14⟩:=okH;obtain⟨g,hg,Vx⟩:=akx m d I hd hI;have jw:∀ x ∈ VJ m d g I,x.Ok PG:=ak (Af.Mn λ_ _=>Vx) (ak (Af.Xs (abO m d)) AR);have Bh:DH PG (Mi 7 (VJ m d g I)):=Gd jw;have hrun:EN PG (Dl (R:=St) (Mi 7 (VJ m d g I)) 0):=Iw Bh Gc mixed 0;have NG:DH PG (Mi 7 (VK d k q I)):=Gd (ak (abM _ _ _ _) (ak Rn (ak SY AR)));have gb:It PG (Mi 7 (VK d k q I)):=Gc;have Tx:EN PG (Dl (R:=St) (Mi 7 (VK d k q I)) 0):=Iw NG gb mixed 0;obtain⟨fn,hf,hb,GI,Ew⟩:∃ fn,(Mi 7 (VK d k q I)).code Ei=some fn/\fn.body=some rH/\fn.ntmps=85/\fn.results.toList=[.cell 6 44,.tmp 7]:=⟨_,rfl,by kernel_rfl,by kernel_rfl,by kernel_rfl⟩
 have L0:=BT (l:=[3,4,5,6,7]) Bh hrun mixed o0 (h_0 m d k q 7 (VJ m d g I));have L1:=BT (l:=[3,5,6,7,8]) Bh hrun mixed o1 ((ax7 m d k q g I).trans (Rx (.refl _)));have L2:=BT (l:=[3,5,6,7,8,15]) Bh hrun mixed o2 (ax8 m d k q g I);have L4:=BT (l:=[3,5,6,7,8,19]) Bh hrun mixed o4 (ax9 m d k q g I);have L5:=BT (l:=[3,5,6,7,8,40]) Bh hrun mixed o5 ((aya m d k q g I).trans (by rw[Ax R8,Ax MO,Ae,Ae];exact Rx (.refl _)));rw[hh]at L5;have qy:∀ {K:Option St},gCy d k q I K=K:=λ{K}=>Dw () rfl ⟨hp,rfl⟩ (.refl _) (.cons (.refl _) (.cons (.refl _) (.cons (.refl _) (.cons (.refl _) (.cons (.seq true 31 0 0 _ _ (Ar _) λi hi=>absurd hi (C5 i)) .nil)))));have L6:=BT (l:=[5,6,8]) NG Tx mixed o6 ((ayb d k q I).trans qy);generalize hW:Kb (Bq d k) I (BK q 5)=W at *;have q1:∀ {K:Av->Option St},gC Ef Gy Eg [.agg (AJ W.d.rep)] K=K W.d.rep:=λ{K}=>Bj W.d.rep (GZ W.d.rep) trivial (.refl _);have q2:∀ {K:WM->Option St},BA EA (λp=>HH p.1 p.2) Es [.ptr 0 0 0,.agg (Aq (BK q 5))] (Bo W) K=K (W,BK q 5):=λ{K}=>Dw (W,BK q 5) (U6 (W,BK q 5)) hb2 (.refl _) (.refl _);have YZ:=BT (l:=[5,6,8,73]) NG Tx mixed kC ((av0 d k q I W).trans q1);rw[Jj]at YZ;have L13:=BT (l:=[5,6,8]) NG Tx mixed o13 ((av1 d k q I W).trans q2);have L14:=BT (l:=[6,7]) NG Tx mixed o14 (av3 d k q I (HR W (BK q 5)));refine wR NG gb hf hb (.inr rfl) (T:=rK q (HR W (BK q 5))) (λM I0 hM=>?_) (by rw[Ew];exact atw q _);rw[afp,GI];have l6:=LG.RD (ayd M I0 [(40,.bool true)] g I hg hI hq ha) (L6.Wv hM);have l5:=L5.pm.seq (LG.cond (c:=.tmp 40) (b:=true) (y:=.skip) rfl l6);have l4:=L4.pm.seq (LG.cond (c:=.tmp 19) (b:=true) (y:=hc [.R,.R,.L,.R,.L,.R,.R]) rfl l5);have l2:=L2.pm.seq (l4.U2 (id:=0));have l12:=(YZ.Wv (I0:=I0) hM).seq (LG.cond (c:=.tmp 73) (b:=true) (y:=.skip) rfl (L13.Wv hM));exact L0.pm.seq (L1.pm.seq (l2.seq (l12.seq (L14.Wv hM))))
end
def eVl(l:List Af):Env:=Cw [(WT,0,[0,3,14,15,16])] [(WT,5),(WW,5),(WN,5),(S0,0),(UD,5)] [] l
def zt(c:Bz):List Af:=[oh,xR,yO,vH c]
def K5(m:Ad):AH:=⟨m.key,m.val,m.has,m.Ag⟩
def ow(w:Ai)(m:Ad):Ai:={w with DI:=K5 m,Hu:=true}
def de(c:Bz)(w:Ai)(m:Ad)(N k:Nat)(i:Int):Option (AV × Heap):=LP (eVl (zt c)) N 4 WT (Cm 1 4) 0 [] k {fr:=[(0,.ptr 0 0 0),(3,.ptr 4 0 0),(14,.sn 3 2 w.d.asks.length),(15,.int .i64 w.d.asks.length),(16,.int .i64 i)],hp:=Bo w++[.arr true 31 [Aq m]]}
def av5(c:Bz)(N:Nat)(w:Ai)(m:Ad):CO 1 (eVl (zt c)) (N+1) WT [.ptr 0 0 0,.agg (Aq m)] (Bo w) =
 BA EA (λ_=>True) Es [.ptr 0 0 0,.agg (Aq m)] (Bo w) λq=>bif !Kn q.1 q.2 then some (.Am [],BE q.1)else de c q.1 m N N 0:=by kernel_rfl
def ag6(c:Bz)(w:Ai)(m:Ad)(N k:Nat)(i:Int):de c w m N (k+1) i =
 bif decide (i<(w.d.asks.length:Int))then rg i w.d.asks.length (bif i.toNat.blt w.d.asks.length then bif !decide ((w.d.asks.getD i.toNat default).num=m.num)then de c w m N k (Ao (i+1))else
   bif !A5 (w.d.asks.getD i.toNat default).key m.key then de c w m N k (Ao (i+1))else
   BA c7 (λp=>p.2<p.1.length/\p.1.length<=100000) YV [.sn 3 0 w.d.asks.length,.int .i64 i,.int .i64 (Ao (i+1))] [.seq true 3 w.d.asks.length (BY w.d.asks)] λy=>
   gC (λa=>(Bm Da (a.getD 0 .Ak),Da (Bd a 1),AS a 2)) OS Vy [Bi w.d.clean,.agg (AK (K5 m)),.int .i64 w.c.room] λp=>
   BA (λa h=>(Jb h,Bm Dj (a.getD 1 .Ak))) (λp=>p.2.length<=100000/\Nu c p.1 p.2) (λp=>([.ptr 0 0 0,BB p.2],Bo p.1)) [.ptr 0 0 0,BB (w.d.asks.getD i.toNat default).calls] (Bo (Jc (ow (VG w (y.1.eraseIdx y.2)) m) (GC p))) λz=>some (.Am [],BE (Nx c z.1 z.2))
  else none)
 else some (.Am [],BE w):=by kernel_rfl
def TW(m:Ad)(a:Md.Ask):Bool:=decide (a.num=m.num)&&A5 a.key m.key
def GV(w:Ai)(m:Ad):Nat:=w.d.asks.findIdx (TW m)
def bK(w:Ai)(m:Ad)(i:Nat):Ai:=Jc (ow (VG w (w.d.asks.eraseIdx i)) m) (GC (w.d.clean,K5 m,w.c.room))
def TX(c:Bz)(w:Ai)(m:Ad):Ai:=bif Kn w m&&(GV w m).blt w.d.asks.length then Nx c (bK w m (GV w m)) (w.d.asks.getD (GV w m) default).calls else w
structure gZ(c:Bz)(w:Ai)(m:Ad):Prop where
 asks:w.d.asks.length<=100000
 Pb:Kn w m=true->GV w m<w.d.asks.length->OS (w.d.clean,K5 m,w.c.room)/\(w.d.asks.getD (GV w m) default).calls.length<=100000/\Nu c (bK w m (GV w m)) (w.d.asks.getD (GV w m) default).calls
def aqS{c:Bz}(h:c.Ok):∀ k ∈ zt c,k.Ok PG:=ak uI (ak acX (ak adQ (ak (aaW h) AR)))
def aqT(c:Bz)(hc:c.Ok)(w:Ai)(m:Ad)(h:gZ c w m):At PG WT [.ptr 0 0 0,.agg (Aq m)] (Bo w) (.Am []) (BE (TX c w m)):=by
 obtain⟨N,hN⟩:∃ N,N=200000:=⟨_,rfl⟩
 have hl:=h.asks;refine(Ds (aqS hc) (c:=1) (n:=N+1) (by show 1<=4;omega) ((av5 c N w m).trans ?_)).1;have q0:∀ {K:WM->Option (AV × Heap)},BA EA (λ_=>True) Es [.ptr 0 0 0,.agg (Aq m)] (Bo w) K=K (w,m):=λ{K}=>Dw (w,m) (U6 (w,m)) trivial (.refl _) (.refl _);rw[q0];dsimp only;unfold TX;cases hf:Kn w m with
 | false=>rfl
 | true=>
  rw[Dr,Aj,Tj];have run:∀ (d i k:Nat),i+d=w.d.asks.length->d<k->(∀ j,j<i->TW m (w.d.asks.getD j default)=false) ->
    de c w m N k (i:Nat)=some (.Am [],BE (bif(GV w m).blt w.d.asks.length then Nx c (bK w m (GV w m)) (w.d.asks.getD (GV w m) default).calls else w)):=by
   intro d
   induction d with
   | zero=>
    intro i k hi hk CZ;obtain⟨k,rfl⟩:=B3 k (by omega);have DU:GV w m=w.d.asks.length:=by unfold GV;refine List.findIdx_eq_length.2 λx hx=>?_;obtain⟨j,hj,rfl⟩:=R2 hx;have:=CZ j (by omega);rw[show w.d.asks.getD j default=w.d.asks[j] by simp[List.getD,hj]]at this;exact this
    rw[ag6,AN (by omega),Aj,DU,Js (Ar _),Aj]
   | succ d ih=>
    intro i k hi hk CZ;obtain⟨k,rfl⟩:=B3 k (by omega);have hil:i<w.d.asks.length:=by omega
    have hw:Ao ((i:Int)+1)=((i+1:Nat):Int):=Cs (by omega);have hg:w.d.asks.getD i default=w.d.asks[i]:=by simp[List.getD,hil]
    have next:TW m (w.d.asks.getD i default)=false->de c w m N k ((i+1:Nat):Int)=_:=λhh=>ih (i+1) k (by omega) (by omega) λj hj=>by
     by_cases ko:j<i
     ·exact CZ j ko
     ·rw[show j=i by omega];exact hh
    rw[ag6,Ax (show((i:Nat):Int)<(w.d.asks.length:Int) by omega),Ae,B8 hil,BV,Cd hil,Ae,hw];cases h1:decide ((w.d.asks.getD i default).num=m.num)with
    | false=>rw[EP,Ae];exact next (by unfold TW;rw[h1];rfl)
    | true=>
     cases h2:A5 (w.d.asks.getD i default).key m.key with
     | false=>rw[Dr,Aj,EP,Ae];exact next (by unfold TW;rw[h1,h2];rfl)
     | true=>
      have hh:TW m (w.d.asks.getD i default)=true:=by unfold TW;rw[h1,h2];rfl
      have DU:GV w m=i:=by unfold GV;refine(List.findIdx_eq hil).2 ⟨by rw[<- hg];exact hh,λj hj=>?_⟩;have:=CZ j hj;rw[show w.d.asks.getD j default=w.d.asks[j] by simp[List.getD,show j<w.d.asks.length by omega]]at this;exact this
      have YK:=h.Pb hf;rw[DU]at YK;obtain⟨p1,p2,p3⟩:=YK hil;have q1:∀ {K:LI->Option (AV × Heap)},BA c7 (λp=>p.2<p.1.length/\p.1.length<=100000) YV [.sn 3 0 w.d.asks.length,.int .i64 (i:Int),.int .i64 ((i+1:Nat):Int)] [.seq true 3 w.d.asks.length (BY w.d.asks)] K=K (w.d.asks,i):=λ{K}=>
       Dw (w.d.asks,i) (afb (w.d.asks,i)) ⟨hil,hl⟩ (.refl _) (.refl _)
      have q2:∀ {K:LX->Option (AV × Heap)},gC (λa=>(Bm Da (a.getD 0 .Ak),Da (Bd a 1),AS a 2)) OS Vy [Bi w.d.clean,.agg (AK (K5 m)),.int .i64 w.c.room] K=K (w.d.clean,K5 m,w.c.room):=λ{K}=>
       Bj (w.d.clean,K5 m,w.c.room) (Cv (Og _) rfl) p1 (.refl _)
      have q3:∀ {W:Ai} {l:List Ad} {K:Ai × List Ad->Option (AV × Heap)},l.length<=100000->Nu c W l->BA (λa h=>(Jb h,Bm Dj (a.getD 1 .Ak))) (λp=>p.2.length<=100000/\Nu c p.1 p.2) (λp=>([.ptr 0 0 0,BB p.2],Bo p.1)) [.ptr 0 0 0,BB l] (Bo W) K=K (W,l):=λ{W l K} h1 h2=>
       Dw (W,l) (Cv (Rt W) (fv l)) ⟨h1,h2⟩ (.refl _) (.refl _)
      rw[Dr,Aj,Aj,q1,q2];dsimp only;have e0:Jc (ow (VG w (w.d.asks.eraseIdx i)) m) (GC (w.d.clean,K5 m,w.c.room))=bK w m i:=rfl;rw[e0,q3 p2 p3,DU,Cd hil,Ae]
  exact run w.d.asks.length 0 N (by omega) (by omega) λj hj=>absurd hj (C5 j)
def aix(c:Bz):Af:=.EC WT EA (λp=>gZ c p.1 p.2) Es (λp=>(.Am [],BE (TX c p.1 p.2)))
def aqU{c:Bz}(h:c.Ok):(aix c).Ok PG:=Af.EL λp hp=>⟨aqT c h p.1 p.2 hp,by show 4<=7;omega⟩
def eHv(l:List Af):Env:=Cw [] [(Ei,0),(Fh,5),(Oc,0),(WT,5),(UA,5)] [(Ei,2,[31006038])] l
def aiy(c:Bz):List Af:=[wM,P6,aix c,PC]
def aqV{c:Bz}(h:c.Ok):∀ k ∈ aiy c,k.Ok PG:=ak abF (ak Rn (ak (aqU h) (ak SY AR)))
def aye(c:Bz)(d:Md.AL)(k:EE)(m:Ad):A6 (eHv (aiy c)) 9 Ei [.agg (Ct d),.agg (D4 k),.agg (Aq (BK m 18))] =
 YX d λy=>BA EA (λp=>gZ c p.1 p.2) Es [.ptr 0 0 0,.agg (Aq (BK m 18))] (Qv y k) λq=>Tw (TX c q.1 q.2) (BK m 18):=by kernel_rfl
def xW(p:Gt):Ai:=IA (TX Hq (Bq p.1 p.2.1) p.2.2) p.2.2
structure zu(p:Gt):Prop where
 kd:p.2.2.kind=18
 dk:K3 p.1
 val:gZ Hq (Bq p.1 p.2.1) p.2.2
 bh:CH (TX Hq (Bq p.1 p.2.1) p.2.2).d.rep=true->HH (TX Hq (Bq p.1 p.2.1) p.2.2) p.2.2
def amk(p:Gt)(h:zu p):At PG Ei (MG p) [] (Pf (xW p)) []:=by obtain⟨d,k,m⟩:=p;obtain⟨hk,hd,hv,hb⟩:=h;have e:=aye Hq d k m;have qd:∀ {K:Md.AL->Option AV},YX d K=K d:=λ{K}=>Bj d (eH d) hd (.refl _);rw[UZ hk,qd,YY hv]at e;exact Cx (aqV afi) (e.trans (Xl _ m hb))
def K1:EE:=⟨1,1,1,3,4,8,20,8,12,8,2,3,0,0,30⟩
def tx(t:An):Prop:=t.length<=2000
def NT{n:Int}(h0:-1000000<=n)(h1:n<=1000000):FJ n:=by unfold FJ;omega
def uR(n:Int):FJ (Ao n):=by rw[Ru];unfold FJ;omega
def v1(n:Nat):Au:=vr 1 n
def Ox{n:Nat}(h:n<=1000):AU (v1 n):=⟨1,n,by omega,by omega,rfl⟩
def xX{n:Nat}(h:n<=1000):nu (v1 n)=n:=aI (by omega)
def Ty{a b:Nat}(ha:a<=1000)(hb:b<=1000):AP (v1 a) (v1 b)=decide (a<b):=by unfold v1;rw[wm (by omega) (by omega) (by omega) (by omega),Ax rfl];rfl
def atx{a b:Nat}(ha:a<=1000)(hb:b<=1000)(h:v1 a=v1 b):a=b:=by rw[<- xX ha,h,xX hb]
def vJ{a b:Nat}(ha:a<=1000)(hb:b<=1000):Cf (v1 a) (v1 b)=v1 (max a b):=by
 unfold Cf;rw[Ty ha hb];by_cases h:a<b
 ·rw[Ax h,Ae,Nat.max_eq_right (by omega)]
 ·rw[AN h,Aj,Nat.max_eq_left (by omega)]
structure EI(e:Entry):Prop where
 key:tx e.key
 val:tx e.val
 kind:FJ e.kind
 Ah:1<=e.Ah/\e.Ah<=3
 num:FJ e.num
 code:FJ e.code
 res:tx e.res
def fk{X:Type}{P:List X->Prop}(h0:P [])(h1:∀ l x,P l->P (l++[x]))(l:List X):P l:=by
 have key:∀ r:List X,P r.reverse:=by
  intro r
  induction r with
  | nil=>exact h0
  | cons x r ih=>rw[List.reverse_cons];exact h1 _ _ ih
 have:=key l.reverse;rwa [List.reverse_reverse]at this
def F5(H:List Entry)(s:Int):Option Entry:=H.reverse.find? λe=>decide (e.Ah=s)
def LF(H:List Entry):List Seen:=H.foldl (λl e=>RW l (GH e)) []
def mn(H:List Entry)(e:Entry)(s:Int):F5 (H++[e]) s=if e.Ah=s then some e else F5 H s:=by
 unfold F5;rw[List.reverse_append];show(e::H.reverse).find? _=_;rw[List.find?_cons];by_cases h:e.Ah=s
 ·rw[Ax h,Ay h]
 ·rw[AN h,AE h]
def fm{H:List Entry}{s:Int}{e:Entry}(h:F5 H s=some e):e ∈ H/\e.Ah=s:=by unfold F5 at h;exact⟨List.mem_reverse.1 (XY h),by simpa using List.find?_some h⟩
def abP{H:List Entry}{e:Entry}(h:e ∈ H):∃ y,F5 H e.Ah=some y:=by
 unfold F5;cases hf:H.reverse.find? λx=>decide (x.Ah=e.Ah)with
 | some y=>exact⟨y,rfl⟩
 | none=>have:=List.find?_eq_none.1 hf e (List.mem_reverse.2 h);simp at this
def aaZ(H:List Entry)(e:Entry):LF (H++[e])=RW (LF H) (GH e):=by unfold LF;rw[List.foldl_append];rfl
def OI(H:List Entry):Prop:=H.Pairwise λa b=>a.Ah=b.Ah->a.num<b.num
def OI.snoc{H:List Entry}{e:Entry}(h:OI (H++[e])):OI H /\ ∀ a ∈ H,a.Ah=e.Ah->a.num<e.num:=by obtain⟨h1,_,h2⟩:=R1.1 h;exact⟨h1,λa ha=>h2 a ha e (by simp)⟩
def ad5:∀ (H:List Entry),OI H -> ∀ s y,F5 H s=some y -> ∀ a ∈ H,a.Ah=s->a.num<=y.num:=by
 refine fk (P:=λH=>OI H -> ∀ s y,F5 H s=some y -> ∀ a ∈ H,a.Ah=s->a.num<=y.num) ?_ ?_
 ·intro _ s y _ a ha;cases ha
 ·intro H x ih hr s y hy a ha hs;obtain⟨r1,r2⟩:=hr.snoc;rw[mn]at hy;by_cases hx:x.Ah=s
  ·rw[Ay hx]at hy;cases hy;rcases Cp.1 ha with ha | ha
   ·exact Int.le_of_lt (r2 a ha (by rw[hs,hx]))
   ·rw[DO.1 ha];omega
  ·rw[AE hx]at hy;rcases Cp.1 ha with ha | ha
   ·exact ih r1 s y hy a ha hs
   ·rw[DO.1 ha]at hs;exact absurd hs hx
def OI.push{H:List Entry}{e:Entry}(h:OI H)(hl:∀ y,F5 H e.Ah=some y->y.num<e.num):OI (H++[e]):=by refine R1.2 ⟨h,by simp,λa ha b hb=>?_⟩;rw[DO.1 hb];intro hs;obtain⟨y,hy⟩:=abP ha;rw[hs]at hy;have h1:=hl y hy;have:=ad5 H h e.Ah y hy a ha hs;omega
def Se(l:List Seen):Prop:=(l.Pairwise λa b=>a.Ah<b.Ah) /\ ∀ a ∈ l,1<=a.Ah/\a.Ah<=3
def Se.ok{l:List Seen}(h:Se l):Fe l:=by
 refine⟨?_,h.1⟩
 match l,h with
 | [],_=>simp
 | [_],_=>simp
 | [_,_],_=>simp
 | [_,_,_],_=>simp
 | a::b::c::d::l,⟨h1,h2⟩=>simp only[R4,Dz]at h1;have k1:=h2 a (by simp);have k2:=h2 d (by simp);have q1:=h1.1 b (by simp);have q2:=h1.2.1 c (by simp);have q3:=h1.2.2.1 d (by simp);omega
def acZ{l:List Seen}(h:Se l){x:Seen}(hx:x ∈ l):CA l x.Ah=(x,true):=by
 unfold CA;cases hf:l.find? λy=>decide (y.Ah=x.Ah)with
 | none=>have:=List.find?_eq_none.1 hf x hx;simp at this
 | some y=>
  have hy:=XY hf;have hs:y.Ah=x.Ah:=by simpa using List.find?_some hf
  have:y=x:=by
   obtain⟨i,hi,rfl⟩:=R2 hx;obtain⟨j,hj,rfl⟩:=R2 hy;have hp:=XX.1 h.1;rcases Qg i j with DC | DC | DC
   ·have:=hp i j hi hj DC;omega
   ·subst DC;rfl
   ·have:=hp j i hj hi DC;omega
  rw[this]
def aot{l:List Seen}{t:Int}(h:∀ x ∈ l,x.Ah ≠ t):CA l t=(default,false):=by unfold CA;rw[List.find?_eq_none.2 λx hx=>by simpa using h x hx]
def aqW{l:List Seen}{t:Int}(h:(CA l t).2=true):(CA l t).1 ∈ l/\(CA l t).1.Ah=t:=by
 unfold CA at h ⊢;cases hf:l.find? λx=>decide (x.Ah=t)with
 | none=>rw[hf]at h;cases h
 | some y=>exact⟨XY hf,by simpa using List.find?_some hf⟩
def aa0{s:Int}:∀ {l:List Seen},(l.Pairwise λa b=>a.Ah<b.Ah)->(∀ x ∈ l.take (Ek l s).1,x.Ah<s) /\ ∀ x ∈ l.drop (Ek l s).1,s<=x.Ah
 | [],_=>⟨λx hx=>(by cases hx),λx hx=>(by cases hx)⟩
 | a::l,h=>by
  obtain⟨h1,h2⟩:=R4.1 h;have ih:=aa0 (s:=s) h2;unfold Ek at ih ⊢;dsimp only at ih ⊢;by_cases ha:a.Ah<s
  ·rw[List.filter_cons_of_pos (by simpa using ha),CR,List.take_succ_cons,List.drop_succ_cons];exact⟨λx hx=>by
    rcases Dz.1 hx with rfl | hx
    ·exact ha
    ·exact ih.1 x hx,ih.2⟩
  ·have hf:(a::l).filter (λx=>decide (x.Ah<s))=[]:=by
    rw[List.filter_eq_nil_iff];intro x hx;rcases Dz.1 hx with rfl | hx
    ·simpa using ha
    ·have:=h1 x hx;simp;omega
   rw[hf];refine⟨λx hx=>by simp at hx,λx hx=>?_⟩;rcases Dz.1 (by simpa using hx:x ∈ a::l)with rfl | hx
   ·omega
   ·have:=h1 x hx;omega
def aou{l:List Seen}{s:Seen}(h:Se l)(hs:1<=s.Ah/\s.Ah<=3)(hn:(CA l s.Ah).2=true->(CA l s.Ah).1.num<s.num):Se (RW l s) /\ ∀ x,x ∈ RW l s ↔ x=s\/(x ∈ l/\x.Ah ≠ s.Ah):=by
 unfold RW;cases hh:(Ek l s.Ah).2 with
 | true=>
  obtain⟨i,hi⟩:∃ i,(Ek l s.Ah).1=i:=⟨_,rfl⟩
  obtain⟨g1,g2⟩:=acY hh h.1;rw[hi]at g1 g2 ⊢;have hm:l.getD i default ∈ l:=De (z:=(default:Seen)) g1;have hf:=acZ h hm;rw[g2]at hf;rw[hf]at hn;have hn:=hn rfl;dsimp only at hn;rw[Ae,Ax hn,Ae];have hg:l.getD i default=l[i]:=by simp[List.getD,g1]
  refine⟨⟨?_,λa ha=>?_⟩,λx=>?_⟩
  ·have e:(l.set i s).map Seen.Ah=l.map Seen.Ah:=by
    rw[List.map_set];refine List.ext_getElem (by simp) λn h1 h2=>?_;rw[List.getElem_set];by_cases hn:i=n
    ·subst hn;rw[Ay rfl,List.getElem_map,<- g2,hg]
    ·rw[AE hn]
   have h1:(l.map Seen.Ah).Pairwise (· < ·):=List.pairwise_map.2 h.1;rw[<- e]at h1;exact List.pairwise_map.1 h1
  ·rcases List.mem_or_eq_of_mem_set ha with ha | rfl
   ·exact h.2 a ha
   ·exact hs
  ·constructor
   ·intro hx;obtain⟨j,hj,rfl⟩:=R2 hx;rw[List.getElem_set];by_cases DC:i=j
    ·exact .inl (Ay DC)
    ·rw[AE DC];have rG:j<l.length:=by simpa using hj
     refine .inr ⟨R5 _,?_⟩;rw[<- g2,hg];have hp:=XX.1 h.1;rcases Nat.lt_or_gt_of_ne DC with hlt | hlt
     ·have:=hp i j g1 rG hlt;omega
     ·have:=hp j i rG g1 hlt;omega
   ·rintro(rfl | ⟨hx,hne⟩)
    ·exact List.mem_set g1 _
    ·obtain⟨j,hj,rfl⟩:=R2 hx;have DC:i ≠ j:=λe=>hne (by subst e;rw[<- hg];exact g2);have:(l.set i s)[j]'(by simpa using hj)=l[j]:=by rw[List.getElem_set,AE DC]
     rw[<- this];exact R5 _
 | false=>
  rw[Aj];obtain⟨g1,g2⟩:=aa0 (s:=s.Ah) h.1;have CZ:∀ x ∈ l,x.Ah ≠ s.Ah:=λx hx he=>by have:(Ek l s.Ah).2=true:=List.any_eq_true.2 ⟨x,hx,by simpa using he⟩;rw[hh]at this;cases this
  obtain⟨i,hi⟩:∃ i,(Ek l s.Ah).1=i:=⟨_,rfl⟩
  rw[hi]at g1 g2 ⊢;unfold Wk.C2;have hp:=h.1;rw[<- Xz i l]at hp;obtain⟨p1,p2,p3⟩:=R1.1 hp;refine⟨⟨R1.2 ⟨p1,R4.2 ⟨λx hx=>?_,p2⟩,λa ha b hb=>?_⟩,λa ha=>?_⟩,λx=>?_⟩
  ·have:=g2 x hx;have:=CZ x (Qd hx);omega
  ·rcases Dz.1 hb with rfl | hb
   ·exact g1 a ha
   ·exact p3 a ha b hb
  ·rcases Cp.1 ha with ha | ha
   ·exact h.2 a (az ha)
   ·rcases Dz.1 ha with rfl | ha
    ·exact hs
    ·exact h.2 a (Qd ha)
  ·constructor
   ·intro hx;rcases Cp.1 hx with hx | hx
    ·exact .inr ⟨az hx,CZ x (az hx)⟩
    ·rcases Dz.1 hx with rfl | hx
     ·exact .inl rfl
     ·exact .inr ⟨Qd hx,CZ x (Qd hx)⟩
   ·rintro(rfl | ⟨hx,_⟩)
    ·simp
    ·rw[<- Xz i l]at hx;rcases Cp.1 hx with hx | hx
     ·exact JD _ hx
     ·exact Vo _ (JC _ hx)
def ac0:∀ (H:List Entry),(∀ e ∈ H,1<=e.Ah/\e.Ah<=3)->OI H->Se (LF H) /\ ∀ x,x ∈ LF H ↔ ∃ e,F5 H x.Ah=some e/\x=GH e:=by
 refine fk (P:=λH=>(∀ e ∈ H,1<=e.Ah/\e.Ah<=3)->OI H->Se (LF H) /\ ∀ x,x ∈ LF H ↔ ∃ e,F5 H x.Ah=some e/\x=GH e) ?_ ?_
 ·intro _ _;exact⟨⟨List.Pairwise.nil,λa ha=>(by cases ha)⟩,λx=>⟨λhx=>(by cases hx),λ⟨e,he,_⟩=>(by cases he)⟩⟩
 ·intro H e ih hs hr;obtain⟨r1,r2⟩:=hr.snoc;obtain⟨i1,i2⟩:=ih (λa ha=>hs a (JD _ ha)) r1;rw[aaZ];have hn:(CA (LF H) (GH e).Ah).2=true->(CA (LF H) (GH e).Ah).1.num<(GH e).num:=by
   intro h;obtain⟨m1,m2⟩:=aqW h;obtain⟨y,y1,y2⟩:=(i2 _).1 m1;rw[y2];obtain⟨z1,z2⟩:=fm y1;have:y.Ah=e.Ah:=by rw[z2,m2];rfl
   exact r2 y z1 this
  obtain⟨k1,k2⟩:=aou i1 (s:=GH e) (hs e (by simp)) hn;refine⟨k1,λx=>?_⟩;rw[k2,mn];constructor
  ·rintro(rfl | ⟨hx,hne⟩)
   ·exact⟨e,Ay rfl,rfl⟩
   ·rw[AE (λh=>hne h.symm)];exact(i2 x).1 hx
  ·rintro⟨y,hy,rfl⟩;by_cases hx:e.Ah=(GH y).Ah
   ·rw[Ay hx]at hy;cases hy;exact .inl rfl
   ·rw[AE hx]at hy;exact .inr ⟨(i2 _).2 ⟨y,hy,rfl⟩,λh=>hx h.symm⟩
def akE{H:List Entry}(hs:∀ e ∈ H,1<=e.Ah/\e.Ah<=3)(hr:OI H)(t:Int):CA (LF H) t=match F5 H t with | some e=>(GH e,true) | none=>(default,false):=by
 obtain⟨h1,h2⟩:=ac0 H hs hr;cases hl:F5 H t with
 | some e=>obtain⟨m1,m2⟩:=fm hl;have hx:GH e ∈ LF H:=(h2 (GH e)).2 ⟨e,by show F5 H e.Ah=some e;rw[m2];exact hl,rfl⟩;have:=acZ h1 hx;have e0:(GH e).Ah=t:=m2;rw[e0]at this;exact this
 | none=>refine aot λx hx he=>?_;obtain⟨e,h3,_⟩:=(h2 x).1 hx;rw[he,hl]at h3;cases h3
def DJ(H:List Entry)(f:Nat):Av:=⟨0,⟨2,1⟩,⟨0,1,0,3,[⟨2,1⟩]⟩,0,⟨v1 f,v1 H.length,H.drop f⟩,LF H,v1 0,[true]⟩
def abQ(H:List Entry)(f:Nat):CH (DJ H f)=true:=rfl
def aov(H:List Entry)(f:Nat):Ir (DJ H f)=v1 H.length:=rfl
def ma(H:List Entry)(f:Nat):BL (DJ H f)=[]:=rfl
def aml{H:List Entry}{f:Nat}{e:Entry}(hl:H.length<1000)(hf:f<=H.length)(he:e.Ag=v1 (H.length+1)):IQ (DJ H f,e)=(DJ (H++[e]) f,true):=by
 have hv:AP (v1 H.length) e.Ag=true:=by rw[he,Ty (by omega) (by omega)];simp
 unfold IQ Kh;show(bif CH (DJ H f)then(bif AP (v1 H.length) e.Ag then(XK (DJ H f) e,true)else(DJ H f,false))else(DJ H f,false))=_;rw[abQ,hv,Ae,Ae];refine Cv ?_ rfl;show XK (DJ H f) e=DJ (H++[e]) f;unfold XK DJ;dsimp only;rw[aaZ,CB,List.drop_append_of_le_length hf,he];rfl
def amm{H:List Entry}{f g:Nat}(hv:∀ i,(h:i<H.length)->(H[i]).Ag=v1 (i+1))(hl:H.length<900)(hf:f<=g)(hg:g<=H.length):OG (DJ H f) (v1 g)=DJ H g:=by
 unfold OG n7 DJ;dsimp only;have h1:Cf (v1 f) (v1 g)=v1 g:=by rw[vJ (by omega) (by omega),Nat.max_eq_right hf]
 have h2:Cf (v1 H.length) (v1 g)=v1 H.length:=by rw[vJ (by omega) (by omega),Nat.max_eq_left hg]
 have h3:((H.drop f).filter λe=>AP (v1 g) e.Ag)=H.drop g:=by
  have e:H.drop f=(H.drop f).take (g - f)++H.drop g:=by
   conv=>lhs;rw[<- Xz (g - f) (H.drop f)]
   rw[List.drop_drop,show f+(g - f)=g by omega]
  rw[e,XB];have a:((H.drop f).take (g - f)).filter (λe=>AP (v1 g) e.Ag)=[]:=by
   rw[List.filter_eq_nil_iff];intro x hx;obtain⟨i,hi,rfl⟩:=R2 hx;have JV:i<g - f/\f+i<H.length:=by simp at hi;omega
   rw[List.getElem_take,List.getElem_drop,hv (f+i) JV.2,Ty (by omega) (by omega)];simp;omega
  have b:(H.drop g).filter (λe=>AP (v1 g) e.Ag)=H.drop g:=by
   rw[List.filter_eq_self];intro x hx;obtain⟨i,hi,rfl⟩:=R2 hx;have JV:g+i<H.length:=by simp at hi;omega
   rw[List.getElem_drop,hv (g+i) JV,Ty (by omega) (by omega)];simp;omega
  rw[a,b,NO]
 rw[h1,h2,h3]
structure Ctx where
 ops:List Ad
 A:An->Option Entry
 n0:Int
 Bc:Int->An->Prop
 p0:C3
def SG(p q:C3):Prop:=p.num<q.num\/(q.num=p.num/\(q.out=[]\/q.out=p.out))
def SG.refl(p:C3):SG p p:=.inr ⟨rfl,.inr rfl⟩
def Ap(C:Ctx)(e:Entry):Prop:=∃ y,C.A e.key=some y/\E1 e.Ag y.Ag
def LW(H:List Entry)(k:An):Option Entry:=Em H k
def Cl(H:List Entry)(x:AH):Prop:=AU x.Ag/\match LW H x.key with
 | none=>x.has=false
 | some e=>x.has=!e.del/\(e.del=false->x.val=e.val)
def th{k:An}(b:List Entry):∀ a:List Entry,Em (a++b) k=match Em b k with | some y=>some y | none=>Em a k
 | []=>by show Em b k=_;cases Em b k <;> rfl
 | x::a=>by
  show(match Em (a++b) k with | some y=>some y | none=>bif x.write&&A5 x.key k then some x else none)=_;rw[th b a];cases Em b k with
  | some y=>rfl
  | none=>rfl
def ad6(H:List Entry)(e:Entry)(k:An):LW (H++[e]) k=bif e.write&&A5 e.key k then some e else LW H k:=by unfold LW;rw[th];show(match (bif e.write&&A5 e.key k then some e else none)with | some y=>some y | none=>Em H k)=_;cases e.write&&A5 e.key k <;> rfl
def ad7{H:List Entry}{k:An}{e:Entry}(h:LW H k=some e):e ∈ H/\e.write=true/\e.key=k:=by
 unfold LW at h
 induction H with
 | nil=>cases h
 | cons x r ih=>
  unfold Em at h;cases hr:Em r k with
  | some y=>rw[hr]at h;dsimp only at h;cases h;obtain⟨a,b⟩:=ih hr;exact⟨JC _ a,b⟩
  | none=>
   rw[hr]at h;dsimp only at h;cases hc:x.write&&A5 x.key k with
   | true=>rw[hc,Ae]at h;cases h;obtain⟨a,b⟩:=A4 hc;rw[DV]at b;exact⟨by simp,a,by simpa using b⟩
   | false=>rw[hc,Aj]at h;cases h
def M5(l:List Entry)(k:An):Prop:=Em l k=none
def Xp{l:List Entry}{k:An}:M5 l k ↔ ∀ e ∈ l,e.write=true->e.key ≠ k:=by
 unfold M5
 induction l with
 | nil=>exact⟨λ_ e he=>(by cases he),λ_=>rfl⟩
 | cons x r ih=>
  constructor
  ·intro h e he hw hk;unfold Em at h;cases hr:Em r k with
   | some y=>rw[hr]at h;cases h
   | none=>
    rw[hr]at h;dsimp only at h;rcases Dz.1 he with rfl | he
    ·have:(e.write&&A5 e.key k)=true:=by rw[hw,DV];simpa using hk
     rw[this]at h;cases h
    ·exact ih.1 hr e he hw hk
  ·intro h;have hr:=ih.2 λe he=>h e (JC _ he);unfold Em;rw[hr];dsimp only;cases hc:x.write&&A5 x.key k with
   | false=>rfl
   | true=>obtain⟨a,b⟩:=A4 hc;rw[DV]at b;exact absurd (by simpa using b) (h x (by simp) a)
structure Fg(C:Ctx)(H:List Entry):Prop where
 len:H.length<=30
 Ag:∀ i,(h:i<H.length)->(H[i]).Ag=v1 (i+1)
 Ho:∀ e ∈ H,EI e
 VH:OI H
 call:∀ e ∈ H,∃ q ∈ C.ops,q.Ah=e.Ah/\q.num=e.num/\GM q.op K1=0/\e.key=q.op.key
def Fg.vi{C:Ctx}{H:List Entry}(h:Fg C H){e:Entry}(he:e ∈ H):∃ n,1<=n/\n<=H.length/\e.Ag=v1 n/\H[n - 1]? = some e:=by obtain⟨i,hi,rfl⟩:=R2 he;exact⟨i+1,by omega,by omega,h.Ag i hi,by simp⟩
def Fg.num{C:Ctx}{H:List Entry}(h:Fg C H){e:Entry}(he:e ∈ H):AU e.Ag:=by obtain⟨n,_,h2,h3,_⟩:=h.vi he;have:=h.len;rw[h3];exact Ox (by omega)
def Fg.se{C:Ctx}{H:List Entry}(h:Fg C H):Se (LF H):=(ac0 H (λe he=>(h.Ho e he).Ah) h.VH).1
def Fg.find{C:Ctx}{H:List Entry}(h:Fg C H)(t:Int):CA (LF H) t=match F5 H t with | some e=>(GH e,true) | none=>(default,false):=akE (λe he=>(h.Ho e he).Ah) h.VH t
def Fg.nil(C:Ctx):Fg C []:=⟨by simp,λi h=>absurd h (C5 i),λe he=>(by cases he),List.Pairwise.nil,λe he=>(by cases he)⟩
def aa1{C:Ctx}{H:List Entry}(h:Fg C H)(f:Nat):Hr (DJ H f):=by
 have h1:=h.len;have h3:=h.se.ok.1;refine⟨?_,?_,?_,?_⟩
 ·show 1<=_;unfold LB;omega
 ·show(H.drop f).length<=_;rw[XC];unfold LB;omega
 ·show(LF H).length<=_;unfold LB;omega
 ·show 1<=_;unfold LB;omega
end Go.Hd
end
