/- Part 4 of the texts that the proof needs: the abstract machine, plain laws, contracts of the program's functions. No statement is claimed here. -/
import Derived.Test.YtbalmcpknmjgkaaGreatPart3
import Derived.Maps.RangeRun
import Derived.RangeFuncNested
import Derived.RangeFuncBound
import Derived.RangeFuncCalls
import Derived.RangeFuncLeaves
import Derived.Shelf.Abstract
import Derived.WalkKit
import Derived.OwnWalkIn
import Derived.TacticsInMore
import Derived.LoopNIn
import Derived.LoopIn
import Derived.Test.YtbalmcpknmjgkaaGreatProg
set_option linter.unusedVariables false
set_option linter.unusedSimpArgs false
noncomputable section
open Go Go.AM Go.Md
namespace Go.Hd
open Go.Wk
set_option maxRecDepth 100000
set_option maxHeartbeats 400000
def eS(l:List Known):Env:=envN [] [(F_entry_Size,0),(F_tail_Bytes,0),(F_mark_Next,0)] [] l
theorem esz_eq(x:Entry):callT (eS []) 9 F_entry_Size [AV.agg (encEntry x)] =
 some (AV.int IntKind.i64 (IntKind.i64.wrap (IntKind.i64.wrap ((↑x.key.length:Int)+(↑x.val.length:Int))+1))):=by kernel_rfl
theorem mark_eq(b:Bool)(n:Int)(h:Int)(l:Int):callT (eS []) 9 F_mark_Next [AV.bool b,AV.int IntKind.i64 n,AV.int IntKind.i64 h,AV.int IntKind.i64 l] =
 bif decide (h<=n)then
  some (AV.bool true)
 else
  bif decide (n<=l)then
   some (AV.bool false)
  else
   some (AV.bool b):=by kernel_rfl
theorem needs_eq(k:Int):callT (eS []) 9 F_head_needs [AV.int IntKind.i64 k] =
 bif decide (k=1)then
  some (AV.bool true)
 else
  some (AV.bool (decide (k=4))):=by kernel_rfl
theorem writes_eq(k:Int):callT (eS []) 9 F_head_writes [AV.int IntKind.i64 k] =
 bif decide (k=2)then
  some (AV.bool true)
 else
  bif decide (k=3)then
   some (AV.bool true)
  else
   some (AV.bool (decide (k=4))):=by kernel_rfl
theorem check_eq(o:Md.Op)(c:Conf):callT (eS []) 9 F_head_Check [AV.agg (encOp o),AV.agg (encConf c)] =
 bif decide (o.kind<1)then
  some (AV.int IntKind.i64 8)
 else
  bif decide (5<o.kind)then
   some (AV.int IntKind.i64 8)
  else
   bif !decide (o.kind=5)then
    bif strBeq o.key []then
     some (AV.int IntKind.i64 8)
    else
     bif decide (c.maxKey<(↑o.key.length:Int))then
      some (AV.int IntKind.i64 4)
     else
      bif decide (c.maxVal<(↑o.val.length:Int))then
       some (AV.int IntKind.i64 4)
      else
       bif decide (c.maxVal<(↑o.old.length:Int))then
        some (AV.int IntKind.i64 4)
       else
        some (AV.int IntKind.i64 0)
   else
    bif decide (c.maxKey<(↑o.key.length:Int))then
     some (AV.int IntKind.i64 4)
    else
     bif decide (c.maxVal<(↑o.val.length:Int))then
      some (AV.int IntKind.i64 4)
     else
      bif decide (c.maxVal<(↑o.old.length:Int))then
       some (AV.int IntKind.i64 4)
      else
       some (AV.int IntKind.i64 0):=by kernel_rfl
theorem res_eq(o:Md.Op)(v:Ver)(s:Int)(n:Int)(x:Itm)(room:Bool):callT (eS []) 9 F_head_Resolve [AV.agg (encOp o),AV.cplx FloatKind.f64 v.re v.im,AV.int IntKind.i64 s,AV.int IntKind.i64 n,AV.agg (encItem x),AV.bool room] =
 bif decide (o.kind=2)then
  bif !room then
   some (AV.agg [AV.cplx FloatKind.f64 v.re v.im,AV.int IntKind.i64 o.kind,AV.str o.key,AV.str [],AV.bool false,AV.bool false,AV.int IntKind.i64 s,AV.int IntKind.i64 n,AV.int IntKind.i64 3,AV.str [],AV.bool false])
  else
   bif decide (o.kind=1)then
    bif !x.has then
     some (AV.agg [AV.cplx FloatKind.f64 v.re v.im,AV.int IntKind.i64 o.kind,AV.str o.key,AV.str [],AV.bool false,AV.bool false,AV.int IntKind.i64 s,AV.int IntKind.i64 n,AV.int IntKind.i64 1,AV.str [],AV.bool false])
    else
     some (AV.agg [AV.cplx FloatKind.f64 v.re v.im,AV.int IntKind.i64 o.kind,AV.str o.key,AV.str [],AV.bool false,AV.bool false,AV.int IntKind.i64 s,AV.int IntKind.i64 n,AV.int IntKind.i64 0,AV.str x.val,AV.bool true])
   else
    bif decide (o.kind=2)then
     some (AV.agg [AV.cplx FloatKind.f64 v.re v.im,AV.int IntKind.i64 o.kind,AV.str o.key,AV.str o.val,AV.bool true,AV.bool false,AV.int IntKind.i64 s,AV.int IntKind.i64 n,AV.int IntKind.i64 0,AV.str [],AV.bool false])
    else
     bif decide (o.kind=3)then
      some (AV.agg [AV.cplx FloatKind.f64 v.re v.im,AV.int IntKind.i64 o.kind,AV.str o.key,AV.str [],AV.bool true,AV.bool true,AV.int IntKind.i64 s,AV.int IntKind.i64 n,AV.int IntKind.i64 0,AV.str [],AV.bool false])
     else
      bif decide (o.kind=4)then
       bif bif x.has then o.hasOld else !o.hasOld then
        bif !x.has then
         some (AV.agg [AV.cplx FloatKind.f64 v.re v.im,AV.int IntKind.i64 o.kind,AV.str o.key,AV.str o.val,AV.bool true,AV.bool false,AV.int IntKind.i64 s,AV.int IntKind.i64 n,AV.int IntKind.i64 0,AV.str [],AV.bool false])
        else
         bif strBeq x.val o.old then
          some (AV.agg [AV.cplx FloatKind.f64 v.re v.im,AV.int IntKind.i64 o.kind,AV.str o.key,AV.str o.val,AV.bool true,AV.bool false,AV.int IntKind.i64 s,AV.int IntKind.i64 n,AV.int IntKind.i64 0,AV.str [],AV.bool false])
         else
          bif x.has then
           some (AV.agg [AV.cplx FloatKind.f64 v.re v.im,AV.int IntKind.i64 o.kind,AV.str o.key,AV.str [],AV.bool false,AV.bool false,AV.int IntKind.i64 s,AV.int IntKind.i64 n,AV.int IntKind.i64 2,AV.str x.val,AV.bool x.has])
          else
           some (AV.agg [AV.cplx FloatKind.f64 v.re v.im,AV.int IntKind.i64 o.kind,AV.str o.key,AV.str [],AV.bool false,AV.bool false,AV.int IntKind.i64 s,AV.int IntKind.i64 n,AV.int IntKind.i64 2,AV.str [],AV.bool x.has])
       else
        bif x.has then
         some (AV.agg [AV.cplx FloatKind.f64 v.re v.im,AV.int IntKind.i64 o.kind,AV.str o.key,AV.str [],AV.bool false,AV.bool false,AV.int IntKind.i64 s,AV.int IntKind.i64 n,AV.int IntKind.i64 2,AV.str x.val,AV.bool x.has])
        else
         some (AV.agg [AV.cplx FloatKind.f64 v.re v.im,AV.int IntKind.i64 o.kind,AV.str o.key,AV.str [],AV.bool false,AV.bool false,AV.int IntKind.i64 s,AV.int IntKind.i64 n,AV.int IntKind.i64 2,AV.str [],AV.bool x.has])
      else
       some (AV.agg [AV.cplx FloatKind.f64 v.re v.im,AV.int IntKind.i64 o.kind,AV.str o.key,AV.str [],AV.bool false,AV.bool false,AV.int IntKind.i64 s,AV.int IntKind.i64 n,AV.int IntKind.i64 0,AV.str [],AV.bool false])
 else
  bif decide (o.kind=3)then
   bif !room then
    some (AV.agg [AV.cplx FloatKind.f64 v.re v.im,AV.int IntKind.i64 o.kind,AV.str o.key,AV.str [],AV.bool false,AV.bool false,AV.int IntKind.i64 s,AV.int IntKind.i64 n,AV.int IntKind.i64 3,AV.str [],AV.bool false])
   else
    bif decide (o.kind=1)then
     bif !x.has then
      some (AV.agg [AV.cplx FloatKind.f64 v.re v.im,AV.int IntKind.i64 o.kind,AV.str o.key,AV.str [],AV.bool false,AV.bool false,AV.int IntKind.i64 s,AV.int IntKind.i64 n,AV.int IntKind.i64 1,AV.str [],AV.bool false])
     else
      some (AV.agg [AV.cplx FloatKind.f64 v.re v.im,AV.int IntKind.i64 o.kind,AV.str o.key,AV.str [],AV.bool false,AV.bool false,AV.int IntKind.i64 s,AV.int IntKind.i64 n,AV.int IntKind.i64 0,AV.str x.val,AV.bool true])
    else
     bif decide (o.kind=2)then
      some (AV.agg [AV.cplx FloatKind.f64 v.re v.im,AV.int IntKind.i64 o.kind,AV.str o.key,AV.str o.val,AV.bool true,AV.bool false,AV.int IntKind.i64 s,AV.int IntKind.i64 n,AV.int IntKind.i64 0,AV.str [],AV.bool false])
     else
      bif decide (o.kind=3)then
       some (AV.agg [AV.cplx FloatKind.f64 v.re v.im,AV.int IntKind.i64 o.kind,AV.str o.key,AV.str [],AV.bool true,AV.bool true,AV.int IntKind.i64 s,AV.int IntKind.i64 n,AV.int IntKind.i64 0,AV.str [],AV.bool false])
      else
       bif decide (o.kind=4)then
        bif bif x.has then o.hasOld else !o.hasOld then
         bif !x.has then
          some (AV.agg [AV.cplx FloatKind.f64 v.re v.im,AV.int IntKind.i64 o.kind,AV.str o.key,AV.str o.val,AV.bool true,AV.bool false,AV.int IntKind.i64 s,AV.int IntKind.i64 n,AV.int IntKind.i64 0,AV.str [],AV.bool false])
         else
          bif strBeq x.val o.old then
           some (AV.agg [AV.cplx FloatKind.f64 v.re v.im,AV.int IntKind.i64 o.kind,AV.str o.key,AV.str o.val,AV.bool true,AV.bool false,AV.int IntKind.i64 s,AV.int IntKind.i64 n,AV.int IntKind.i64 0,AV.str [],AV.bool false])
          else
           bif x.has then
            some (AV.agg [AV.cplx FloatKind.f64 v.re v.im,AV.int IntKind.i64 o.kind,AV.str o.key,AV.str [],AV.bool false,AV.bool false,AV.int IntKind.i64 s,AV.int IntKind.i64 n,AV.int IntKind.i64 2,AV.str x.val,AV.bool x.has])
           else
            some (AV.agg [AV.cplx FloatKind.f64 v.re v.im,AV.int IntKind.i64 o.kind,AV.str o.key,AV.str [],AV.bool false,AV.bool false,AV.int IntKind.i64 s,AV.int IntKind.i64 n,AV.int IntKind.i64 2,AV.str [],AV.bool x.has])
        else
         bif x.has then
          some (AV.agg [AV.cplx FloatKind.f64 v.re v.im,AV.int IntKind.i64 o.kind,AV.str o.key,AV.str [],AV.bool false,AV.bool false,AV.int IntKind.i64 s,AV.int IntKind.i64 n,AV.int IntKind.i64 2,AV.str x.val,AV.bool x.has])
         else
          some (AV.agg [AV.cplx FloatKind.f64 v.re v.im,AV.int IntKind.i64 o.kind,AV.str o.key,AV.str [],AV.bool false,AV.bool false,AV.int IntKind.i64 s,AV.int IntKind.i64 n,AV.int IntKind.i64 2,AV.str [],AV.bool x.has])
       else
        some (AV.agg [AV.cplx FloatKind.f64 v.re v.im,AV.int IntKind.i64 o.kind,AV.str o.key,AV.str [],AV.bool false,AV.bool false,AV.int IntKind.i64 s,AV.int IntKind.i64 n,AV.int IntKind.i64 0,AV.str [],AV.bool false])
  else
   bif decide (o.kind=4)then
    bif !room then
     some (AV.agg [AV.cplx FloatKind.f64 v.re v.im,AV.int IntKind.i64 o.kind,AV.str o.key,AV.str [],AV.bool false,AV.bool false,AV.int IntKind.i64 s,AV.int IntKind.i64 n,AV.int IntKind.i64 3,AV.str [],AV.bool false])
    else
     bif decide (o.kind=1)then
      bif !x.has then
       some (AV.agg [AV.cplx FloatKind.f64 v.re v.im,AV.int IntKind.i64 o.kind,AV.str o.key,AV.str [],AV.bool false,AV.bool false,AV.int IntKind.i64 s,AV.int IntKind.i64 n,AV.int IntKind.i64 1,AV.str [],AV.bool false])
      else
       some (AV.agg [AV.cplx FloatKind.f64 v.re v.im,AV.int IntKind.i64 o.kind,AV.str o.key,AV.str [],AV.bool false,AV.bool false,AV.int IntKind.i64 s,AV.int IntKind.i64 n,AV.int IntKind.i64 0,AV.str x.val,AV.bool true])
     else
      bif decide (o.kind=2)then
       some (AV.agg [AV.cplx FloatKind.f64 v.re v.im,AV.int IntKind.i64 o.kind,AV.str o.key,AV.str o.val,AV.bool true,AV.bool false,AV.int IntKind.i64 s,AV.int IntKind.i64 n,AV.int IntKind.i64 0,AV.str [],AV.bool false])
      else
       bif decide (o.kind=3)then
        some (AV.agg [AV.cplx FloatKind.f64 v.re v.im,AV.int IntKind.i64 o.kind,AV.str o.key,AV.str [],AV.bool true,AV.bool true,AV.int IntKind.i64 s,AV.int IntKind.i64 n,AV.int IntKind.i64 0,AV.str [],AV.bool false])
       else
        bif decide (o.kind=4)then
         bif bif x.has then o.hasOld else !o.hasOld then
          bif !x.has then
           some (AV.agg [AV.cplx FloatKind.f64 v.re v.im,AV.int IntKind.i64 o.kind,AV.str o.key,AV.str o.val,AV.bool true,AV.bool false,AV.int IntKind.i64 s,AV.int IntKind.i64 n,AV.int IntKind.i64 0,AV.str [],AV.bool false])
          else
           bif strBeq x.val o.old then
            some (AV.agg [AV.cplx FloatKind.f64 v.re v.im,AV.int IntKind.i64 o.kind,AV.str o.key,AV.str o.val,AV.bool true,AV.bool false,AV.int IntKind.i64 s,AV.int IntKind.i64 n,AV.int IntKind.i64 0,AV.str [],AV.bool false])
           else
            bif x.has then
             some (AV.agg [AV.cplx FloatKind.f64 v.re v.im,AV.int IntKind.i64 o.kind,AV.str o.key,AV.str [],AV.bool false,AV.bool false,AV.int IntKind.i64 s,AV.int IntKind.i64 n,AV.int IntKind.i64 2,AV.str x.val,AV.bool x.has])
            else
             some (AV.agg [AV.cplx FloatKind.f64 v.re v.im,AV.int IntKind.i64 o.kind,AV.str o.key,AV.str [],AV.bool false,AV.bool false,AV.int IntKind.i64 s,AV.int IntKind.i64 n,AV.int IntKind.i64 2,AV.str [],AV.bool x.has])
         else
          bif x.has then
           some (AV.agg [AV.cplx FloatKind.f64 v.re v.im,AV.int IntKind.i64 o.kind,AV.str o.key,AV.str [],AV.bool false,AV.bool false,AV.int IntKind.i64 s,AV.int IntKind.i64 n,AV.int IntKind.i64 2,AV.str x.val,AV.bool x.has])
          else
           some (AV.agg [AV.cplx FloatKind.f64 v.re v.im,AV.int IntKind.i64 o.kind,AV.str o.key,AV.str [],AV.bool false,AV.bool false,AV.int IntKind.i64 s,AV.int IntKind.i64 n,AV.int IntKind.i64 2,AV.str [],AV.bool x.has])
        else
         some (AV.agg [AV.cplx FloatKind.f64 v.re v.im,AV.int IntKind.i64 o.kind,AV.str o.key,AV.str [],AV.bool false,AV.bool false,AV.int IntKind.i64 s,AV.int IntKind.i64 n,AV.int IntKind.i64 0,AV.str [],AV.bool false])
   else
    bif decide (o.kind=1)then
     bif !x.has then
      some (AV.agg [AV.cplx FloatKind.f64 v.re v.im,AV.int IntKind.i64 o.kind,AV.str o.key,AV.str [],AV.bool false,AV.bool false,AV.int IntKind.i64 s,AV.int IntKind.i64 n,AV.int IntKind.i64 1,AV.str [],AV.bool false])
     else
      some (AV.agg [AV.cplx FloatKind.f64 v.re v.im,AV.int IntKind.i64 o.kind,AV.str o.key,AV.str [],AV.bool false,AV.bool false,AV.int IntKind.i64 s,AV.int IntKind.i64 n,AV.int IntKind.i64 0,AV.str x.val,AV.bool true])
    else
     bif decide (o.kind=2)then
      some (AV.agg [AV.cplx FloatKind.f64 v.re v.im,AV.int IntKind.i64 o.kind,AV.str o.key,AV.str o.val,AV.bool true,AV.bool false,AV.int IntKind.i64 s,AV.int IntKind.i64 n,AV.int IntKind.i64 0,AV.str [],AV.bool false])
     else
      bif decide (o.kind=3)then
       some (AV.agg [AV.cplx FloatKind.f64 v.re v.im,AV.int IntKind.i64 o.kind,AV.str o.key,AV.str [],AV.bool true,AV.bool true,AV.int IntKind.i64 s,AV.int IntKind.i64 n,AV.int IntKind.i64 0,AV.str [],AV.bool false])
      else
       bif decide (o.kind=4)then
        bif bif x.has then o.hasOld else !o.hasOld then
         bif !x.has then
          some (AV.agg [AV.cplx FloatKind.f64 v.re v.im,AV.int IntKind.i64 o.kind,AV.str o.key,AV.str o.val,AV.bool true,AV.bool false,AV.int IntKind.i64 s,AV.int IntKind.i64 n,AV.int IntKind.i64 0,AV.str [],AV.bool false])
         else
          bif strBeq x.val o.old then
           some (AV.agg [AV.cplx FloatKind.f64 v.re v.im,AV.int IntKind.i64 o.kind,AV.str o.key,AV.str o.val,AV.bool true,AV.bool false,AV.int IntKind.i64 s,AV.int IntKind.i64 n,AV.int IntKind.i64 0,AV.str [],AV.bool false])
          else
           bif x.has then
            some (AV.agg [AV.cplx FloatKind.f64 v.re v.im,AV.int IntKind.i64 o.kind,AV.str o.key,AV.str [],AV.bool false,AV.bool false,AV.int IntKind.i64 s,AV.int IntKind.i64 n,AV.int IntKind.i64 2,AV.str x.val,AV.bool x.has])
           else
            some (AV.agg [AV.cplx FloatKind.f64 v.re v.im,AV.int IntKind.i64 o.kind,AV.str o.key,AV.str [],AV.bool false,AV.bool false,AV.int IntKind.i64 s,AV.int IntKind.i64 n,AV.int IntKind.i64 2,AV.str [],AV.bool x.has])
        else
         bif x.has then
          some (AV.agg [AV.cplx FloatKind.f64 v.re v.im,AV.int IntKind.i64 o.kind,AV.str o.key,AV.str [],AV.bool false,AV.bool false,AV.int IntKind.i64 s,AV.int IntKind.i64 n,AV.int IntKind.i64 2,AV.str x.val,AV.bool x.has])
         else
          some (AV.agg [AV.cplx FloatKind.f64 v.re v.im,AV.int IntKind.i64 o.kind,AV.str o.key,AV.str [],AV.bool false,AV.bool false,AV.int IntKind.i64 s,AV.int IntKind.i64 n,AV.int IntKind.i64 2,AV.str [],AV.bool x.has])
       else
        some (AV.agg [AV.cplx FloatKind.f64 v.re v.im,AV.int IntKind.i64 o.kind,AV.str o.key,AV.str [],AV.bool false,AV.bool false,AV.int IntKind.i64 s,AV.int IntKind.i64 n,AV.int IntKind.i64 0,AV.str [],AV.bool false]):=by kernel_rfl
theorem nok:∀ k ∈ ([]:List Known),k.Ok PG:=fun k hk=>by cases hk
def szE(x:Entry):Nat:=x.key.length+x.val.length+1
def EOk(x:Entry):Prop:=x.key.length<=2000/\x.val.length<=2000
theorem esz_con(x:Entry)(h:EOk x):Contract PG F_entry_Size [.agg (encEntry x)] [] (.int .i64 (szE x)) []:=by
 have:=h.1;have:=h.2
 refine conN nok ((esz_eq x).trans ?_)
 rw[w64a (by omega),show((x.key.length+x.val.length:Nat):Int)+1=((x.key.length+x.val.length+1:Nat):Int) by omega,w64 (by omega)];rfl
def kESz:Known:=.spec F_entry_Size (fun a=>decEntry (argC a 0)) EOk (fun x=>[.agg (encEntry x)]) (fun x=>.int .i64 (szE x))
theorem kESz_ok:kESz.Ok PG:=Known.spec_ok esz_con
def gESz{R:Type}(x:Entry)(k:Entry->Option R):Option R:=gC (fun a=>decEntry (argC a 0)) EOk (fun x=>[.agg (encEntry x)]) [.agg (encEntry x)] k
theorem gESz_eq{R:Type}{x:Entry}{k:Entry->Option R}(h:EOk x):gESz x k=k x:=gC_eq x rfl h (.refl _)
def SBy(l:List Entry)(s i:Int):St:={fr:=[(3,.int .i64 s),(7,encEntrys l),(8,.int .i64 l.length),(9,.int .i64 i)],hp:=[]}
def LBy(N m:Nat)(l:List Entry)(s i:Int):Option AV:=LP (eS [kESz]) N 0 F_tail_Bytes snK 0 [] m (SBy l s i)
theorem by_in(N:Nat)(t:Tail):callT (eS [kESz]) (N+1) F_tail_Bytes [.agg (encTail t)]=LBy N N t.log 0 0:=by kernel_rfl
theorem by_st(N m:Nat)(l:List Entry)(s i:Int):LBy N (m+1) l s i=bif decide (i<(l.length:Int))then rg i l.length (bif(l.getD i.toNat default).write then gESz (l.getD i.toNat default) fun y=>LBy N m l (IntKind.i64.wrap (s+szE y)) (IntKind.i64.wrap (i+1))else LBy N m l s (IntKind.i64.wrap (i+1)))else some (.int .i64 s):=by kernel_rfl
def szW(x:Entry):Nat:=bif x.write then szE x else 0
def bytesP(l:List Entry):Nat:=(l.map szW).sum
theorem bytesP_take{l:List Entry}{i:Nat}(h:i<l.length):bytesP (l.take (i+1))=bytesP (l.take i)+szW (l.getD i default):=by
 have:∀ a b:List Entry,bytesP (a++b)=bytesP a+bytesP b:=fun a b=>by simp[bytesP]
 rw[List.take_add_one,List.getElem?_eq_getElem h,this]
 simp[bytesP,List.getD,List.getElem?_eq_getElem h]
def EsOk(l:List Entry):Prop:=l.length<=100000 /\ ∀ x ∈ l,EOk x
theorem bytesP_le{l:List Entry}(h:∀ x ∈ l,EOk x):bytesP l<=4001*l.length:=by
 induction l with
 | nil=>simp[bytesP]
 | cons x r ih=>
  have:=ih fun y hy=>h y (by simp[hy])
  have h1:=h x (by simp)
  have h2:szW x<=4001:=by unfold szW szE;have:=h1.1;have:=h1.2;cases x.write <;> simp <;> omega
  have:bytesP (x::r)=szW x+bytesP r:=by simp[bytesP]
  rw[this,List.length_cons];omega
theorem bytes_con(t:Tail)(h:EsOk t.log):Contract PG F_tail_Bytes [.agg (encTail t)] [] (.int .i64 (bytesP t.log)) []:=by
 obtain⟨N,hN⟩:∃ N,N=200000:=⟨_,rfl⟩
 have hl:=h.1
 refine conN (ak kESz_ok ank) ((by_in N t).trans ?_)
 have:=up_loop (n:=t.log.length) (fun i m=>LBy N m t.log (bytesP (t.log.take i):Nat) (i:Nat)=some (.int .i64 (bytesP t.log:Nat))) (fun m=>?_) (fun i m hi ih=>?_) 0 N (Nat.zero_le _) (by omega)
 ·simpa [bytesP] using this
 ·rw[by_st,decide_eq_false (by omega),cond_false,List.take_of_length_le (Nat.le_refl _)]
 ·have hb:=bytesP_le (l:=t.log.take (i+1)) fun x hx=>h.2 x (List.mem_of_mem_take hx)
  rw[List.length_take]at hb
  have e:=bytesP_take hi
  rw[by_st,decide_eq_true (by omega),cond_true,rg_eq hi,Int.toNat_natCast,wrapS (by omega)]
  unfold szW at e
  cases hw:(t.log.getD i default).write with
  | true=>
   rw[hw,cond_true]at e
   rw[cond_true,gESz_eq (h.2 _ (getD_mem hi)),w64a (by omega),<- e]
   exact ih
  | false=>
   rw[hw,cond_false,Nat.add_zero]at e
   rw[cond_false]
   rw[e]at ih
   exact ih
def kBytes:Known:=.spec F_tail_Bytes (fun a=>decTail (argC a 0)) (fun t=>EsOk t.log) (fun t=>[.agg (encTail t)]) (fun t=>.int .i64 (bytesP t.log))
theorem kBytes_ok:kBytes.Ok PG:=Known.spec_ok bytes_con
def markP(b:Bool)(n h l:Int):Bool:=bif decide (h<=n)then true else bif decide (n<=l)then false else b
abbrev BM:=Bool × Int × Int × Int
def eBM(p:BM):List AV:=[.bool p.1,.int .i64 p.2.1,.int .i64 p.2.2.1,.int .i64 p.2.2.2]
theorem mark_con(p:BM)(_:True):Contract PG F_mark_Next (eBM p) [] (.bool (markP p.1 p.2.1 p.2.2.1 p.2.2.2)) []:=conN nok ((mark_eq p.1 p.2.1 p.2.2.1 p.2.2.2).trans (by
 unfold markP
 cases decide (p.2.2.1<=p.2.1) <;> cases decide (p.2.1<=p.2.2.2) <;> rfl))
def kMark:Known:=.spec F_mark_Next (fun a=>(getB a 0,getI a 1,getI a 2,getI a 3)) (fun _=>True) eBM (fun p=>.bool (markP p.1 p.2.1 p.2.2.1 p.2.2.2))
theorem kMark_ok:kMark.Ok PG:=Known.spec_ok mark_con
def needsP(k:Int):Bool:=decide (k=1)||decide (k=4)
def writesP(k:Int):Bool:=decide (k=2)||(decide (k=3)||decide (k=4))
theorem needs_con(k:Int)(_:True):Contract PG F_head_needs [.int .i64 k] [] (.bool (needsP k)) []:=conN nok ((needs_eq k).trans (by unfold needsP;cases decide (k=1) <;> rfl))
theorem writes_con(k:Int)(_:True):Contract PG F_head_writes [.int .i64 k] [] (.bool (writesP k)) []:=conN nok ((writes_eq k).trans (by unfold writesP;cases decide (k=2) <;> cases decide (k=3) <;> rfl))
def kNeeds:Known:=.spec F_head_needs (fun a=>getI a 0) (fun _=>True) (fun k=>[.int .i64 k]) (fun k=>.bool (needsP k))
def kWrites:Known:=.spec F_head_writes (fun a=>getI a 0) (fun _=>True) (fun k=>[.int .i64 k]) (fun k=>.bool (writesP k))
theorem kNeeds_ok:kNeeds.Ok PG:=Known.spec_ok needs_con
theorem kWrites_ok:kWrites.Ok PG:=Known.spec_ok writes_con
def checkP(o:Md.Op)(c:Conf):Int:=
 bif decide (o.kind<1)||decide (5<o.kind)then 8
 else bif !decide (o.kind=5)&&strBeq o.key []then 8
 else bif decide (c.maxKey<(o.key.length:Int))||(decide (c.maxVal<(o.val.length:Int))||decide (c.maxVal<(o.old.length:Int)))then 4 else 0
abbrev OC:=Md.Op × Conf
def eOC(p:OC):List AV:=[.agg (encOp p.1),.agg (encConf p.2)]
theorem check_con(p:OC)(_:True):Contract PG F_head_Check (eOC p) [] (.int .i64 (checkP p.1 p.2)) []:=conN nok ((check_eq p.1 p.2).trans (by
 unfold checkP
 cases decide (p.1.kind<1) <;> cases decide (5<p.1.kind) <;> cases decide (p.1.kind=5) <;> cases strBeq p.1.key [] <;> cases decide (p.2.maxKey<(p.1.key.length:Int)) <;> cases decide (p.2.maxVal<(p.1.val.length:Int)) <;> cases decide (p.2.maxVal<(p.1.old.length:Int)) <;> rfl))
def kCheck:Known:=.spec F_head_Check (fun a=>(decOp (argC a 0),decConf (argC a 1))) (fun _=>True) eOC (fun p=>.int .i64 (checkP p.1 p.2))
theorem kCheck_ok:kCheck.Ok PG:=Known.spec_ok check_con
def resolveP(o:Md.Op)(v:Ver)(s n:Int)(x:Itm)(room:Bool):Entry:=
 let e:Entry:=⟨v,o.kind,o.key,[],false,false,s,n,0,[],false⟩
 bif writesP o.kind && !room then {e with code:=3}
 else bif decide (o.kind=1)then bif !x.has then {e with code:=1}else {e with res:=x.val,hasRes:=true}
 else bif decide (o.kind=2)then {e with write:=true,val:=o.val}
 else bif decide (o.kind=3)then {e with write:=true,del:=true}
 else bif decide (o.kind=4)then
  bif(bif x.has then o.hasOld else !o.hasOld)&&(!x.has||strBeq x.val o.old)then {e with write:=true,val:=o.val}
  else {e with code:=2,hasRes:=x.has,res:=bif x.has then x.val else []}
 else e
structure RsA where
 o:Md.Op
 v:Ver
 s:Int
 n:Int
 x:Itm
 room:Bool
def eRs(p:RsA):List AV:=[.agg (encOp p.o),.cplx .f64 p.v.re p.v.im,.int .i64 p.s,.int .i64 p.n,.agg (encItem p.x),.bool p.room]
def dRs(a:List AV):RsA:=⟨decOp (argC a 0),⟨(getC a 1).1,(getC a 1).2⟩,getI a 2,getI a 3,decItem (argC a 4),getB a 5⟩
theorem res_con(p:RsA)(_:True):Contract PG F_head_Resolve (eRs p) [] (.agg (encEntry (resolveP p.o p.v p.s p.n p.x p.room))) []:=conN nok ((res_eq p.o p.v p.s p.n p.x p.room).trans (by
 unfold resolveP writesP
 by_cases h1:p.o.kind=1
 ·simp only[h1]
  cases p.x.has <;> rfl
 ·by_cases h2:p.o.kind=2
  ·simp only[h2]
   cases p.room <;> rfl
  ·by_cases h3:p.o.kind=3
   ·simp only[h3]
    cases p.room <;> rfl
   ·by_cases h4:p.o.kind=4
    ·simp only[h4]
     cases p.room <;> cases p.x.has <;> cases p.o.hasOld <;> cases strBeq p.x.val p.o.old <;> rfl
    ·rw[decide_eq_false h1,decide_eq_false h2,decide_eq_false h3,decide_eq_false h4]
     rfl))
def kResolve:Known:=.spec F_head_Resolve dRs (fun _=>True) eRs (fun p=>.agg (encEntry (resolveP p.o p.v p.s p.n p.x p.room)))
theorem kResolve_ok:kResolve.Ok PG:=Known.spec_ok res_con
def eFd(l:List Known):Env:=envN [] [(F_seen_Find,0),(F_seen_Verdict,0),(F_seen_search,0),(F_slices_BinarySearchFunc_int,0),(F_seen_search_c1,0),(F_cmp_Compare_int,0),(F_cmp_isNaN_int,0)] [] l
theorem cmp_eq(a:Int)(b:Int):callT (eFd []) 9 F_cmp_Compare_int [AV.int IntKind.i64 a,AV.int IntKind.i64 b] =
 bif !decide (a=a)then
  bif !decide (b=b)then
   some (AV.int IntKind.i64 0)
  else
   some (AV.int IntKind.i64 (-1))
 else
  bif !decide (b=b)then
   some (AV.int IntKind.i64 1)
  else
   bif decide (a<b)then
    some (AV.int IntKind.i64 (-1))
   else
    bif decide (b<a)then
     some (AV.int IntKind.i64 1)
    else
     some (AV.int IntKind.i64 0):=by kernel_rfl
def cmpP(a b:Int):Int:=bif decide (a<b)then -1 else bif decide (b<a)then 1 else 0
def eII(p:Int × Int):List AV:=[.int .i64 p.1,.int .i64 p.2]
theorem cmp_con(p:Int × Int)(_:True):Contract PG F_cmp_Compare_int (eII p) [] (.int .i64 (cmpP p.1 p.2)) []:=conN nok ((cmp_eq p.1 p.2).trans (by
 unfold cmpP
 rw[decide_eq_true (rfl:p.1=p.1),decide_eq_true (rfl:p.2=p.2)]
 cases decide (p.1<p.2) <;> cases decide (p.2<p.1) <;> rfl))
def kCmp:Known:=.spec F_cmp_Compare_int (fun a=>(getI a 0,getI a 1)) (fun _=>True) eII (fun p=>.int .i64 (cmpP p.1 p.2))
theorem kCmp_ok:kCmp.Ok PG:=Known.spec_ok cmp_con
theorem fd0(F:Nat->Seen)(s:Int):callT (eFd [kCmp]) 30 F_seen_Find [AV.tr 7 0 fun i=>encSeen (F i),AV.int IntKind.i64 s] =
 some (AV.tup [AV.agg [AV.int IntKind.i64 0,AV.int IntKind.i64 0,AV.cplx FloatKind.f64 0 0,AV.int IntKind.i64 0,AV.int IntKind.i64 0,AV.str [],AV.bool false],AV.bool false]):=by kernel_rfl
theorem fd1(F:Nat->Seen)(s:Int):callT (eFd [kCmp]) 30 F_seen_Find [AV.tr 7 1 fun i=>encSeen (F i),AV.int IntKind.i64 s] =
 gC (fun a=>(getI a 0,getI a 1)) (fun x=>True) (eII) ([AV.int IntKind.i64 (F 0).sess,AV.int IntKind.i64 s]) fun y0=>
 bif decide (cmpP y0.fst y0.snd<0)then
  some (AV.tup [AV.agg [AV.int IntKind.i64 0,AV.int IntKind.i64 0,AV.cplx FloatKind.f64 0 0,AV.int IntKind.i64 0,AV.int IntKind.i64 0,AV.str [],AV.bool false],AV.bool false])
 else
  gC (fun a=>(getI a 0,getI a 1)) (fun x=>True) (eII) ([AV.int IntKind.i64 (F 0).sess,AV.int IntKind.i64 s]) fun y1=>
  bif !decide (cmpP y1.fst y1.snd=0)then
   some (AV.tup [AV.agg [AV.int IntKind.i64 0,AV.int IntKind.i64 0,AV.cplx FloatKind.f64 0 0,AV.int IntKind.i64 0,AV.int IntKind.i64 0,AV.str [],AV.bool false],AV.bool false])
  else
   some (AV.tup [AV.agg (encSeen (F 0)),AV.bool true]):=by kernel_rfl
theorem fd2(F:Nat->Seen)(s:Int):callT (eFd [kCmp]) 30 F_seen_Find [AV.tr 7 2 fun i=>encSeen (F i),AV.int IntKind.i64 s] =
 gC (fun a=>(getI a 0,getI a 1)) (fun x=>True) (eII) ([AV.int IntKind.i64 (F 1).sess,AV.int IntKind.i64 s]) fun y2=>
 bif decide (cmpP y2.fst y2.snd<0)then
  some (AV.tup [AV.agg [AV.int IntKind.i64 0,AV.int IntKind.i64 0,AV.cplx FloatKind.f64 0 0,AV.int IntKind.i64 0,AV.int IntKind.i64 0,AV.str [],AV.bool false],AV.bool false])
 else
  gC (fun a=>(getI a 0,getI a 1)) (fun x=>True) (eII) ([AV.int IntKind.i64 (F 0).sess,AV.int IntKind.i64 s]) fun y3=>
  bif decide (cmpP y3.fst y3.snd<0)then
   gC (fun a=>(getI a 0,getI a 1)) (fun x=>True) (eII) ([AV.int IntKind.i64 (F 1).sess,AV.int IntKind.i64 s]) fun y4=>
   bif !decide (cmpP y4.fst y4.snd=0)then
    some (AV.tup [AV.agg [AV.int IntKind.i64 0,AV.int IntKind.i64 0,AV.cplx FloatKind.f64 0 0,AV.int IntKind.i64 0,AV.int IntKind.i64 0,AV.str [],AV.bool false],AV.bool false])
   else
    some (AV.tup [AV.agg (encSeen (F 1)),AV.bool true])
  else
   gC (fun a=>(getI a 0,getI a 1)) (fun x=>True) (eII) ([AV.int IntKind.i64 (F 0).sess,AV.int IntKind.i64 s]) fun y5=>
   bif !decide (cmpP y5.fst y5.snd=0)then
    some (AV.tup [AV.agg [AV.int IntKind.i64 0,AV.int IntKind.i64 0,AV.cplx FloatKind.f64 0 0,AV.int IntKind.i64 0,AV.int IntKind.i64 0,AV.str [],AV.bool false],AV.bool false])
   else
    some (AV.tup [AV.agg (encSeen (F 0)),AV.bool true]):=by kernel_rfl
theorem fd3(F:Nat->Seen)(s:Int):callT (eFd [kCmp]) 30 F_seen_Find [AV.tr 7 3 fun i=>encSeen (F i),AV.int IntKind.i64 s] =
 gC (fun a=>(getI a 0,getI a 1)) (fun x=>True) (eII) ([AV.int IntKind.i64 (F 1).sess,AV.int IntKind.i64 s]) fun y6=>
 bif decide (cmpP y6.fst y6.snd<0)then
  gC (fun a=>(getI a 0,getI a 1)) (fun x=>True) (eII) ([AV.int IntKind.i64 (F 2).sess,AV.int IntKind.i64 s]) fun y7=>
  bif decide (cmpP y7.fst y7.snd<0)then
   some (AV.tup [AV.agg [AV.int IntKind.i64 0,AV.int IntKind.i64 0,AV.cplx FloatKind.f64 0 0,AV.int IntKind.i64 0,AV.int IntKind.i64 0,AV.str [],AV.bool false],AV.bool false])
  else
   gC (fun a=>(getI a 0,getI a 1)) (fun x=>True) (eII) ([AV.int IntKind.i64 (F 2).sess,AV.int IntKind.i64 s]) fun y8=>
   bif !decide (cmpP y8.fst y8.snd=0)then
    some (AV.tup [AV.agg [AV.int IntKind.i64 0,AV.int IntKind.i64 0,AV.cplx FloatKind.f64 0 0,AV.int IntKind.i64 0,AV.int IntKind.i64 0,AV.str [],AV.bool false],AV.bool false])
   else
    some (AV.tup [AV.agg (encSeen (F 2)),AV.bool true])
 else
  gC (fun a=>(getI a 0,getI a 1)) (fun x=>True) (eII) ([AV.int IntKind.i64 (F 0).sess,AV.int IntKind.i64 s]) fun y9=>
  bif decide (cmpP y9.fst y9.snd<0)then
   gC (fun a=>(getI a 0,getI a 1)) (fun x=>True) (eII) ([AV.int IntKind.i64 (F 1).sess,AV.int IntKind.i64 s]) fun y10=>
   bif !decide (cmpP y10.fst y10.snd=0)then
    some (AV.tup [AV.agg [AV.int IntKind.i64 0,AV.int IntKind.i64 0,AV.cplx FloatKind.f64 0 0,AV.int IntKind.i64 0,AV.int IntKind.i64 0,AV.str [],AV.bool false],AV.bool false])
   else
    some (AV.tup [AV.agg (encSeen (F 1)),AV.bool true])
  else
   gC (fun a=>(getI a 0,getI a 1)) (fun x=>True) (eII) ([AV.int IntKind.i64 (F 0).sess,AV.int IntKind.i64 s]) fun y11=>
   bif !decide (cmpP y11.fst y11.snd=0)then
    some (AV.tup [AV.agg [AV.int IntKind.i64 0,AV.int IntKind.i64 0,AV.cplx FloatKind.f64 0 0,AV.int IntKind.i64 0,AV.int IntKind.i64 0,AV.str [],AV.bool false],AV.bool false])
   else
    some (AV.tup [AV.agg (encSeen (F 0)),AV.bool true]):=by kernel_rfl
theorem qCmp{R:Type}{a b:Int}{k:Int × Int->Option R}:gC (fun a=>(getI a 0,getI a 1)) (fun _=>True) eII [.int .i64 a,.int .i64 b] k=k (a,b):=gC_eq (a,b) rfl trivial (.refl _)
theorem cmp_lt(a b:Int):decide (cmpP a b<0)=decide (a<b):=by
 unfold cmpP
 by_cases h:a<b
 ·simp[h]
 ·by_cases h2:b<a <;> simp[h,h2]
theorem cmp_0(a b:Int):decide (cmpP a b=0)=decide (a=b):=by
 unfold cmpP
 by_cases h:a<b
 ·have:a ≠ b:=by omega
  simp[h,this]
 ·by_cases h2:b<a
  ·have:a ≠ b:=by omega
   simp[h,h2,this]
  ·have:a=b:=by omega
   simp[this]
def SOk(l:List Seen):Prop:=l.length<=3/\l.Pairwise fun a b=>a.sess<b.sess
def findP(l:List Seen)(s:Int):Seen × Bool:=match l.find? fun x=>decide (x.sess=s)with
 | some x=>(x,true)
 | none=>(default,false)
abbrev SI:=List Seen × Int
def eSI(p:SI):List AV:=[encSeens p.1,.int .i64 p.2]
def dSI(a:List AV):SI:=(decL decSeen (a.getD 0 .nils),getI a 1)
def oFd(p:SI):AV:=.tup [.agg (encSeen (findP p.1 p.2).1),.bool (findP p.1 p.2).2]
theorem find_con(p:SI)(h:SOk p.1):Contract PG F_seen_Find (eSI p) [] (oFd p) []:=by
 obtain⟨l,s⟩:=p
 obtain⟨h1,h2⟩:=h
 match l,h1,h2 with
 | [],_,_=>exact conN (ak kCmp_ok ank) (fd0 (fun i=>([]:List Seen).getD i default) s)
 | [a],_,_=>
  refine conN (ak kCmp_ok ank) ((fd1 (fun i=>[a].getD i default) s).trans ?_)
  simp only[qCmp,cmp_lt,cmp_0]
  show(bif decide (a.sess<s)then _ else bif !decide (a.sess=s)then _ else some (AV.tup [.agg (encSeen a),.bool true]))=some (oFd ([a],s))
  unfold oFd findP
  by_cases ha:a.sess=s
  ·have:¬ a.sess<s:=by omega
   simp only[List.find?,ha,decide_true,Bool.not_true,cond_false,show decide (s<s)=false by simp]
  ·by_cases hb:a.sess<s <;> simp only[List.find?,ha,hb,decide_true,decide_false,Bool.not_false,cond_true,cond_false] <;> rfl
 | [a,b],_,h2=>
  have hab:a.sess<b.sess:=by simp at h2;exact h2
  refine conN (ak kCmp_ok ank) ((fd2 (fun i=>[a,b].getD i default) s).trans ?_)
  simp only[qCmp,cmp_lt,cmp_0]
  show(bif decide (b.sess<s)then _ else bif decide (a.sess<s)then bif !decide (b.sess=s)then _ else some (AV.tup [.agg (encSeen b),.bool true])else bif !decide (a.sess=s)then _ else some (AV.tup [.agg (encSeen a),.bool true]))=some (oFd ([a,b],s))
  unfold oFd findP
  by_cases ha:a.sess=s
  ·have e1:¬ b.sess<s:=by omega
   have e2:¬ a.sess<s:=by omega
   simp only[List.find?,ha,decide_true,Bool.not_true,cond_false,decide_eq_false e1,show decide (s<s)=false by simp]
  ·by_cases hb:b.sess=s
   ·have e2:a.sess<s:=by omega
    simp only[List.find?,ha,hb,e2,decide_true,decide_false,Bool.not_true,cond_true,cond_false,show decide (s<s)=false by simp]
   ·by_cases h3:b.sess<s <;> by_cases h4:a.sess<s <;> simp only[List.find?,ha,hb,h3,h4,decide_true,decide_false,Bool.not_false,cond_true,cond_false] <;> rfl
 | [a,b,c],_,h2=>
  have hab:a.sess<b.sess/\a.sess<c.sess/\b.sess<c.sess:=by simp at h2;exact⟨h2.1.1,h2.1.2,h2.2⟩
  refine conN (ak kCmp_ok ank) ((fd3 (fun i=>[a,b,c].getD i default) s).trans ?_)
  simp only[qCmp,cmp_lt,cmp_0]
  show(bif decide (b.sess<s)then bif decide (c.sess<s)then _ else bif !decide (c.sess=s)then _ else some (AV.tup [.agg (encSeen c),.bool true])else bif decide (a.sess<s)then bif !decide (b.sess=s)then _ else some (AV.tup [.agg (encSeen b),.bool true])else bif !decide (a.sess=s)then _ else some (AV.tup [.agg (encSeen a),.bool true]))=some (oFd ([a,b,c],s))
  unfold oFd findP
  by_cases ha:a.sess=s
  ·have e1:¬ b.sess<s:=by omega
   have e2:¬ a.sess<s:=by omega
   simp only[List.find?,ha,decide_true,Bool.not_true,cond_false,decide_eq_false e1,show decide (s<s)=false by simp]
  ·by_cases hb:b.sess=s
   ·have e2:a.sess<s:=by omega
    simp only[List.find?,ha,hb,e2,decide_true,decide_false,Bool.not_true,cond_true,cond_false,show decide (s<s)=false by simp]
   ·by_cases hc:c.sess=s
    ·have e2:a.sess<s:=by omega
     have e3:b.sess<s:=by omega
     simp only[List.find?,ha,hb,hc,e2,e3,decide_true,decide_false,Bool.not_true,cond_true,cond_false,show decide (s<s)=false by simp]
    ·by_cases h3:b.sess<s <;> by_cases h4:a.sess<s <;> by_cases h5:c.sess<s <;> simp only[List.find?,ha,hb,hc,h3,h4,h5,decide_true,decide_false,Bool.not_false,cond_true,cond_false] <;> rfl
def kFind:Known:=.spec F_seen_Find dSI (fun p=>SOk p.1) eSI oFd
theorem kFind_ok:kFind.Ok PG:=Known.spec_ok find_con
theorem qFind{R:Type}{l:List Seen}{s:Int}{k:SI->Option R}(h:SOk l):gC dSI (fun p=>SOk p.1) eSI [encSeens l,.int .i64 s] k=k (l,s):=gC_eq (l,s) (Prod.ext (decSeens l) rfl) h (.refl _)
theorem vd_eq(l:List Seen)(s:Int)(n:Int):callT (eFd [kFind]) 9 F_seen_Verdict [encSeens l,AV.int IntKind.i64 s,AV.int IntKind.i64 n] =
 gC (dSI) (fun p=>SOk p.fst) (eSI) ([encSeens l,AV.int IntKind.i64 s]) fun y12=>
 bif !(findP y12.fst y12.snd).snd then
  some (AV.int IntKind.i64 0)
 else
  bif decide ((findP y12.fst y12.snd).fst.num<n)then
   some (AV.int IntKind.i64 0)
  else
   bif decide (n=(findP y12.fst y12.snd).fst.num)then
    some (AV.int IntKind.i64 1)
   else
    some (AV.int IntKind.i64 2):=by kernel_rfl
def verdP(l:List Seen)(s n:Int):Int:=bif !(findP l s).2 then 0 else bif decide ((findP l s).1.num<n)then 0 else bif decide (n=(findP l s).1.num)then 1 else 2
abbrev SII:=List Seen × Int × Int
def eSII(p:SII):List AV:=[encSeens p.1,.int .i64 p.2.1,.int .i64 p.2.2]
theorem verd_con(p:SII)(h:SOk p.1):Contract PG F_seen_Verdict (eSII p) [] (.int .i64 (verdP p.1 p.2.1 p.2.2)) []:=by
 refine conN (ak kFind_ok ank) ((vd_eq p.1 p.2.1 p.2.2).trans ?_)
 rw[qFind h]
 unfold verdP
 cases (findP p.1 p.2.1).2 <;> cases decide ((findP p.1 p.2.1).1.num<p.2.2) <;> cases decide (p.2.2=(findP p.1 p.2.1).1.num) <;> rfl
def kVerd:Known:=.spec F_seen_Verdict (fun a=>(decL decSeen (a.getD 0 .nils),getI a 1,getI a 2)) (fun p=>SOk p.1) eSII (fun p=>.int .i64 (verdP p.1 p.2.1 p.2.2))
theorem kVerd_ok:kVerd.Ok PG:=Known.spec_ok verd_con
def eE(l:List Known):Env:=envN [(F_tail_ends,0,[3,7,8,9,1000])] [(F_tail_ends,1),(F_tail_settled,5),(F_tail_Rise,0),(F_ver_Ahead,0)] [] l
abbrev MV:=List Txt × (Txt->Ver)
def insK(ks:List Txt)(s:Txt):List Txt:=bif memS s ks then ks else ks++[s]
def updV{Y:Type}(V:Txt->Y)(s:Txt)(v:Y):Txt->Y:=fun x=>bif strBeq x s then v else V x
theorem updV_enc{Y:Type}(e:Y->AV)(V:Txt->Y)(s:Txt)(v:Y):(fun x=>bif strBeq x s then e v else e (V x))=fun x=>e (updV V s v x):=by
 funext x
 unfold updV
 cases strBeq x s <;> rfl
def SEn(l:List Itm)(ks:List Txt)(val:Txt->AV)(i:Int):St:={fr:=[(3,.mp 0),(7,encItems l),(8,.int .i64 l.length),(9,.int .i64 i),(1000,.undef)],hp:=[.pmap true ks val]}
theorem en_in(N:Nat)(l:List Itm):callC 0 (eE []) (N+1) F_tail_ends [encItems l] [] =
 LP (eE []) (N) (0) (F_tail_ends) (cnK (0) (0)) 0 [] (N) ({fr:=[(3,AV.mp 0),(7,AV.tr 4 l.length fun i=>encItem (l.getD i default)),(8,AV.int IntKind.i64 (↑l.length:Int)),(9,AV.int IntKind.i64 0),(1000,AV.undef)],hp:=[BS.pmap true [] fun x=>AV.int IntKind.i64 0]}):=by kernel_rfl
theorem en_st(N:Nat)(m:Nat)(l:List Itm)(ks:List Txt)(val:Txt->AV)(i:Int):LP (eE []) N 0 F_tail_ends (cnK 0 0) 0 [] (m+1) (SEn l ks val i) =
 bif decide (i<(↑l.length:Int))then
  bif decide (0<=i)&&decide (i<(↑l.length:Int))then
   LP (eE []) (N) (0) (F_tail_ends) (cnK 0 0) 0 ([]) (m) ({fr:=[(3,AV.mp 0),(7,AV.tr 4 l.length fun i=>encItem (l.getD i default)),(8,AV.int IntKind.i64 (↑l.length:Int)),(9,AV.int IntKind.i64 (IntKind.i64.wrap (i+1))),(1000,AV.undef)],hp:=[BS.pmap true (bif memS (l.getD i.toNat default).key ks then ks else ks++[(l.getD i.toNat default).key]) fun x=>bif strBeq x (l.getD i.toNat default).key then AV.cplx FloatKind.f64 (l.getD i.toNat default).ver.re (l.getD i.toNat default).ver.im else val x]})
  else none
 else
  some ((AV.mp 0,[BS.pmap true ks val])):=by kernel_rfl
theorem st_eq(e:Entry)(ks:List Txt)(V:Txt->Ver):callC 1 (eE [kAhead]) 9 F_tail_settled [AV.agg (encEntry e),AV.mp 0] [BS.pmap true ks fun k=>eV (V k)] =
 bif !e.write then
  some ((AV.bool true,[BS.pmap true ks fun k=>AV.cplx FloatKind.f64 (V k).re (V k).im]))
 else
  bif memS e.key ks then
   gC (dV2) (V2) (eV2) ([AV.cplx FloatKind.f64 (V e.key).re (V e.key).im,AV.cplx FloatKind.f64 e.ver.re e.ver.im]) fun y0=>
   some ((AV.bool !vlt y0.fst y0.snd,[BS.pmap true ks fun k=>AV.cplx FloatKind.f64 (V k).re (V k).im]))
  else
   some ((AV.bool false,[BS.pmap true ks fun k=>AV.cplx FloatKind.f64 (V k).re (V k).im])):=by kernel_rfl
theorem memS_iff(s:Txt):∀ ks:List Txt,memS s ks=true ↔ s ∈ ks
 | []=>by simp[memS]
 | a::r=>by
  unfold memS
  rw[strBeq_eq]
  cases h:s == a with
  | true=>simp at h;simp[h]
  | false=>simp at h;rw[cond_false,memS_iff s r];simp[h]
def endS(M:MV)(x:Itm):MV:=(insK M.1 x.key,updV M.2 x.key x.ver)
def endsP(l:List Itm):MV:=l.foldl endS ([],fun _=>default)
theorem endsP_take{l:List Itm}{i:Nat}(h:i<l.length):endsP (l.take (i+1))=endS (endsP (l.take i)) (l.getD i default):=by
 unfold endsP
 rw[List.take_add_one,List.foldl_append,List.getElem?_eq_getElem h]
 simp[List.getD,List.getElem?_eq_getElem h]
theorem mem_insK{ks:List Txt}{s x:Txt}:x ∈ insK ks s ↔ x=s\/x ∈ ks:=by
 unfold insK
 cases h:memS s ks with
 | true=>
  have:=(memS_iff s ks).1 h
  rw[cond_true]
  exact⟨.inr,fun h=>h.elim (fun e=>e ▸ this) id⟩
 | false=>rw[cond_false];simp[or_comm]
def hMV(M:MV):Heap:=[.pmap true M.1 fun k=>eV (M.2 k)]
theorem ends_con(l:List Itm)(h:l.length<=100000):Contract PG F_tail_ends [encItems l] [] (.mp 0) (hMV (endsP l)):=by
 obtain⟨N,hN⟩:∃ N,N=200000:=⟨_,rfl⟩
 have run:∀ d i m (val:Txt->AV),i+d=l.length->d<m->(∀ k ∈ (endsP (l.take i)).1,val k=eV ((endsP (l.take i)).2 k)) -> ∃ val',LP (eE []) N 0 F_tail_ends (cnK 0 0) 0 [] m (SEn l (endsP (l.take i)).1 val (i:Nat))=some (.mp 0,[.pmap true (endsP l).1 val']) /\ ∀ k ∈ (endsP l).1,val' k=eV ((endsP l).2 k):=by
  intro d
  induction d with
  | zero=>
   intro i m val hi hm hv
   obtain⟨m,rfl⟩:∃ k,m=k+1:=⟨m - 1,by omega⟩
   rw[List.take_of_length_le (by omega)]at hv ⊢
   refine⟨val,?_,hv⟩
   rw[en_st,decide_eq_false (by omega),cond_false]
  | succ d ih=>
   intro i m val hi hm hv
   obtain⟨m,rfl⟩:∃ k,m=k+1:=⟨m - 1,by omega⟩
   have hil:i<l.length:=by omega
   have ht:=endsP_take hil
   obtain⟨val',h1,h2⟩:=ih (i+1) m (fun x=>bif strBeq x (l.getD i default).key then eV (l.getD i default).ver else val x) (by omega) (by omega) (fun k hk=>by
    rw[ht]at hk ⊢
    show _=eV (updV (endsP (l.take i)).2 (l.getD i default).key (l.getD i default).ver k)
    unfold updV
    cases hb:strBeq k (l.getD i default).key with
    | true=>rfl
    | false=>
     rw[cond_false,cond_false]
     refine hv k ?_
     rcases mem_insK.1 hk with e | e
     ·rw[e,strBeq_self]at hb;cases hb
     ·exact e)
   refine⟨val',?_,h2⟩
   rw[en_st,decide_eq_true (by omega),cond_true,decide_eq_true (by omega),Bool.and_true,cond_true,Int.toNat_natCast,wrapS (by omega)]
   rw[ht]at h1
   exact h1
 obtain⟨val',h1,h2⟩:=run l.length 0 N (fun _=>.int .i64 0) (by omega) (by omega) (fun k hk=>by simp[endsP]at hk)
 have c:=conB nok ((en_in N l).trans h1)
 exact c.resub (.refl _) (.cons (.pmap true _ _ _ fun s hs=>by rw[h2 s hs];exact .refl _) .nil)
def kEnds:Known:=.specB F_tail_ends (fun a=>decL decItem (a.getD 0 .nils)) (fun l=>l.length<=100000) (fun l=>[encItems l]) (fun l=>(.mp 0,hMV (endsP l)))
theorem kEnds_ok:kEnds.Ok PG:=Known.specB_ok ends_con
theorem qEnds{R:Type}{l:List Itm}{k:List Itm->Option R}(h:l.length<=100000):gC (fun a=>decL decItem (a.getD 0 .nils)) (fun(l:List Itm)=>l.length<=100000) (fun l=>[encItems l]) [encItems l] k=k l:=gC_eq l (decItems l) h (.refl _)
def settledP(e:Entry)(M:MV):Bool:=!e.write||(memS e.key M.1 && !vlt (M.2 e.key) e.ver)
abbrev EM:=Entry × MV
def eEM(p:EM):List AV × Heap:=([.agg (encEntry p.1),.mp 0],hMV p.2)
def dMV(b:BS):MV:=match b with
 | .pmap _ ks val=>(ks,fun k=>match val k with
  | .cplx _ a b=>⟨a,b⟩
  | _=>default)
 | _=>([],fun _=>default)
def dEM(a:List AV)(h:Heap):EM:=(decEntry (argC a 0),dMV (hget h 0))
def pEM(p:EM):Prop:=VNum p.1.ver /\ ∀ k ∈ p.2.1,VNum (p.2.2 k)
theorem settled_con(p:EM)(h:pEM p):Contract PG F_tail_settled (eEM p).1 (eEM p).2 (.bool (settledP p.1 p.2)) (eEM p).2/\(eEM p).2.length<=(eEM p).2.length:=by
 refine conC (ak kAhead_ok ank) (c:=1) (n:=9) (Nat.le_refl 1) ((st_eq p.1 p.2.1 p.2.2).trans ?_)
 unfold settledP
 cases hw:p.1.write with
 | false=>rfl
 | true=>
  cases hm:memS p.1.key p.2.1 with
  | false=>rfl
  | true=>
   simp only[Bool.not_true,cond_false,cond_true,Bool.false_or,Bool.true_and]
   rw[qV2 (h.2 _ ((memS_iff _ _).1 hm)) h.1]
   rfl
def kSettled:Known:=.specG F_tail_settled dEM pEM eEM (fun p=>(.bool (settledP p.1 p.2),(eEM p).2))
theorem kSettled_ok:kSettled.Ok PG:=Known.specG_ok settled_con
def gSettled{R:Type}(p:EM)(k:EM->Option R):Option R:=gCG dEM pEM eEM (eEM p).1 (eEM p).2 k
theorem gSettled_eq{R:Type}{p:EM}{k:EM->Option R}(h:pEM p):gSettled p k=k p:=gCG_eq p rfl h (.refl _) (.refl _)
def SRi(l:List Entry)(M:MV)(upto floor:Ver)(i:Int):St:={fr:=[(1,eV upto),(7,.mp 0),(8,eV floor),(16,encEntrys l),(17,.int .i64 l.length),(18,.int .i64 i)],hp:=hMV M}
def LRi(N m:Nat)(l:List Entry)(M:MV)(upto floor:Ver)(i:Int):Option AV:=LP (eE [kAhead,kEnds,kSettled]) N 0 F_tail_Rise snK 0 [] m (SRi l M upto floor i)
theorem ri_in(N:Nat)(t:Tail)(upto:Ver)(done:List Itm):callT (eE [kAhead,kEnds,kSettled]) (N+1) F_tail_Rise [.agg (encTail t),eV upto,encItems done] =
 gC (fun a=>decL decItem (a.getD 0 .nils)) (fun(l:List Itm)=>l.length<=100000) (fun l=>[encItems l]) [encItems done] fun y=>LRi N N t.log (endsP y) upto t.floor 0:=by kernel_rfl
theorem ri_st(N m:Nat)(l:List Entry)(M:MV)(upto floor:Ver)(i:Int):LRi N (m+1) l M upto floor i =
 bif decide (i<(l.length:Int))then rg i l.length (gSettled (l.getD i.toNat default,M) fun q=>bif !settledP q.1 q.2 then some (eV floor)else gC dV2 V2 eV2 [eV upto,eV (l.getD i.toNat default).ver] fun y=>bif vlt y.1 y.2 then some (eV floor)else LRi N m l M upto (l.getD i.toNat default).ver (IntKind.i64.wrap (i+1)))else some (eV floor):=by kernel_rfl
def riseGo(M:MV)(upto:Ver):Ver->List Entry->Ver
 | floor,[]=>floor
 | floor,e::r=>bif !settledP e M||vlt upto e.ver then floor else riseGo M upto e.ver r
structure RiA where
 t:Tail
 upto:Ver
 done:List Itm
def riseP(p:RiA):Ver:=riseGo (endsP p.done) p.upto p.t.floor p.t.log
def eRi(p:RiA):List AV:=[.agg (encTail p.t),eV p.upto,encItems p.done]
def dRi(a:List AV):RiA:=⟨decTail (argC a 0),⟨(getC a 1).1,(getC a 1).2⟩,decL decItem (a.getD 2 .nils)⟩
def pRi(p:RiA):Prop:=p.t.log.length<=100000/\p.done.length<=100000/\VNum p.upto/\(∀ e ∈ p.t.log,VNum e.ver) /\ ∀ x ∈ p.done,VNum x.ver
theorem ends_num{l:List Itm}(h:∀ x ∈ l,VNum x.ver):∀ k ∈ (endsP l).1,VNum ((endsP l).2 k):=by
 have:∀ (l:List Itm) (M:MV),(∀ x ∈ l,VNum x.ver)->(∀ k ∈ M.1,VNum (M.2 k)) -> ∀ k ∈ (l.foldl endS M).1,VNum ((l.foldl endS M).2 k):=by
  intro l
  induction l with
  | nil=>intro M _ h;exact h
  | cons x r ih=>
   intro M hl hM
   refine ih _ (fun y hy=>hl y (by simp[hy])) fun k hk=>?_
   show VNum (updV M.2 x.key x.ver k)
   unfold updV
   cases hb:strBeq k x.key with
   | true=>exact hl x (by simp)
   | false=>
    rcases mem_insK.1 hk with e | e
    ·rw[e,strBeq_self]at hb;cases hb
    ·exact hM k e
 exact this l _ h (fun k hk=>by simp at hk)
theorem rise_con(p:RiA)(h:pRi p):Contract PG F_tail_Rise (eRi p) [] (eV (riseP p)) []:=by
 obtain⟨h1,h2,h3,h4,h5⟩:=h
 obtain⟨N,hN⟩:∃ N,N=200000:=⟨_,rfl⟩
 have hM:=ends_num h5
 have run:∀ d i m floor,i+d=p.t.log.length->d<m->LRi N m p.t.log (endsP p.done) p.upto floor (i:Nat)=some (eV (riseGo (endsP p.done) p.upto floor (p.t.log.drop i))):=by
  intro d
  induction d with
  | zero=>
   intro i m floor hi hm
   obtain⟨m,rfl⟩:∃ k,m=k+1:=⟨m - 1,by omega⟩
   rw[ri_st,decide_eq_false (by omega),cond_false,List.drop_eq_nil_of_le (by omega)];rfl
  | succ d ih=>
   intro i m floor hi hm
   obtain⟨m,rfl⟩:∃ k,m=k+1:=⟨m - 1,by omega⟩
   have hil:i<p.t.log.length:=by omega
   have hv:=h4 _ (getD_mem (z:=(default:Entry)) hil)
   rw[ri_st,decide_eq_true (by omega),cond_true,rg_eq hil,Int.toNat_natCast,gSettled_eq ⟨hv,hM⟩,drop_cons (z:=(default:Entry)) hil,riseGo]
   simp only
   cases hs:settledP (p.t.log.getD i default) (endsP p.done)with
   | false=>rfl
   | true=>
    rw[Bool.not_true,cond_false,Bool.false_or]
    refine(qV2 h3 hv).trans ?_
    simp only
    cases vlt p.upto (p.t.log.getD i default).ver with
    | true=>rfl
    | false=>rw[cond_false,cond_false,wrapS (by omega)];exact ih (i+1) m _ (by omega) (by omega)
 refine conN (ak kAhead_ok (ak kEnds_ok (ak kSettled_ok ank))) ((ri_in N p.t p.upto p.done).trans ?_)
 rw[qEnds h2]
 have:=run p.t.log.length 0 N p.t.floor (by omega) (by omega)
 rw[List.drop_zero]at this
 exact this
def kRise:Known:=.spec F_tail_Rise dRi pRi eRi (fun p=>eV (riseP p))
theorem kRise_ok:kRise.Ok PG:=Known.spec_ok rise_con
def eP(l:List Known):Env:=envN [(F_flush_Trim,0,[4,5,6,16,17,18,1004]),(F_flush_Flushed,0,[2,4,6,7,37,38,39,1005])] [(F_slices_Clone_api_Item,1),(F_slices_Clone_api_Entry,0),(F_slices_DeleteFunc_api_Item,5),(F_flush_copied,1)] [] l
theorem kCloET_ok:(kCloT F_slices_Clone_api_Entry 11).Ok PG:=kCloT_ok cloN_Entry
theorem cp_eq(p:Pump):callC 0 (eP [kCloB F_slices_Clone_api_Item 4,kCloT F_slices_Clone_api_Entry 11]) 9 F_flush_copied [AV.agg (encPump p)] [] =
 gC (dTr) (pTr) (eTr 11) ([encEntrys p.out]) fun y0=>
 gC (dTr) (pTr) (eTr 4) ([encItems p.done]) fun y1=>
 some ((AV.agg [AV.int IntKind.i64 p.num,AV.tr 11 y0.fst y0.snd,AV.sn 4 0 y1.fst],[BS.seq true 4 y1.fst y1.snd])):=by kernel_rfl
def pPm(p:Pump):Prop:=p.out.length<=100000/\p.done.length<=100000
theorem cp_con(p:Pump)(h:pPm p):Contract PG F_flush_copied [.agg (encPump p)] [] (.agg [.int .i64 p.num,encEntrys p.out,.sn 4 0 p.done.length]) [sqL 4 encItem default p.done]:=by
 refine conB (ak kCloI_ok (ak kCloET_ok ank)) ((cp_eq p).trans ?_)
 refine(qTr (sz:=11) h.1).trans ?_
 exact(qTr (sz:=4) h.2)
def kCp:Known:=.specB F_flush_copied (fun a=>decPump (argC a 0)) pPm (fun p=>[.agg (encPump p)]) (fun p=>(.agg [.int .i64 p.num,encEntrys p.out,.sn 4 0 p.done.length],[sqL 4 encItem default p.done]))
theorem kCp_ok:kCp.Ok PG:=Known.specB_ok cp_con
theorem qCp{R:Type}{p:Pump}{k:Pump->Option R}(h:pPm p):gC (fun a=>decPump (argC a 0)) pPm (fun p=>[.agg (encPump p)]) [.agg (encPump p)] k=k p:=gC_eq p (dec_encPump p) h (.refl _)
abbrev MC:=List Txt × (Txt->Int)
def cntK(M:MC)(s:Txt):MC:=(insK M.1 s,updV M.2 s (IntKind.i64.wrap ((bif memS s M.1 then M.2 s else 0)+1)))
def cntL(l:List Txt):MC:=l.foldl cntK ([],fun _=>0)
theorem cnt_ok(l:List Txt)(h:l.length<=1000000):(∀ k,k ∈ (cntL l).1 ↔ k ∈ l) /\ ∀ k ∈ (cntL l).1,1<=(cntL l).2 k/\(cntL l).2 k<=l.length:=by
 have:∀ (l:List Txt) (M:MC) (n:Nat),n+l.length<=1000000->(∀ k ∈ M.1,1<=M.2 k/\M.2 k<=n)->(∀ k,k ∈ (l.foldl cntK M).1 ↔ k ∈ M.1\/k ∈ l) /\ ∀ k ∈ (l.foldl cntK M).1,1<=(l.foldl cntK M).2 k/\(l.foldl cntK M).2 k<=(n+l.length:Nat):=by
  intro l
  induction l with
  | nil=>intro M n _ h;exact⟨fun k=>by simp,by simpa using h⟩
  | cons s r ih=>
   intro M n hn hM
   obtain⟨h1,h2⟩:=ih (cntK M s) (n+1) (by simp at hn;omega) (fun k hk=>by
    show 1<=updV M.2 s _ k/\updV M.2 s _ k<=_
    unfold updV
    cases hb:strBeq k s with
    | true=>
     rw[cond_true]
     cases hm:memS s M.1 with
     | true=>
      have:=hM s ((memS_iff _ _).1 hm)
      rw[cond_true,wrap64 (by simp at hn;omega)];omega
     | false=>rw[cond_false,wrap64 (by omega)];omega
    | false=>
     rcases mem_insK.1 hk with e | e
     ·rw[e,strBeq_self]at hb;cases hb
     ·have:=hM k e;rw[cond_false];omega)
   refine⟨fun k=>?_,fun k hk=>?_⟩
   ·rw[List.foldl_cons,h1]
    show k ∈ insK M.1 s\/k ∈ r ↔ _
    rw[mem_insK,List.mem_cons,or_comm (a:=k=s),or_assoc]
   ·have:=h2 k hk
    rw[List.foldl_cons,List.length_cons]
    omega
 obtain⟨h1,h2⟩:=this l ([],fun _=>0) 0 (by omega) (fun k hk=>by simp at hk)
 exact⟨fun k=>by unfold cntL;rw[h1];simp,fun k hk=>by have:=h2 k hk;unfold cntL;omega⟩
theorem cntL_app(l:List Txt)(s:Txt):cntL (l++[s])=cntK (cntL l) s:=by unfold cntL;rw[List.foldl_append];rfl
def hTr(p:Pump)(M:MC):Heap:=[.arr true 3 [[.int .i64 0,.nils,.nils]],.arr true 3 [[.int .i64 p.num,encEntrys p.out,.sn 4 2 p.done.length]],sqL 4 encItem default p.done,.arr true 1 [[.mp 4]],.pmap true M.1 fun k=>.int .i64 (M.2 k)]
def STr(p:Pump)(M:MC)(l:List Entry)(i:Int):St:={fr:=[(4,.ptr 0 0 0),(5,.ptr 1 0 0),(6,.ptr 3 0 0),(16,encEntrys l),(17,.int .i64 l.length),(18,.int .i64 i),(1004,.undef)],hp:=hTr p M}
def kn12:List Known:=[kCp,kDT]
theorem kn12_ok:∀ k ∈ kn12,k.Ok PG:=ak kCp_ok (ak kDT_ok ank)
def LTr(N m:Nat)(p:Pump)(M:MC)(l:List Entry)(i:Int):Option AV:=LP (eP kn12) N 0 F_flush_Trim snK 0 [] m (STr p M l i)
theorem tr_in(N:Nat)(p:Pump)(t:Tail):callT (eP kn12) (N+1) F_flush_Trim [.agg (encPump p),.agg (encTail t)]=gC (fun a=>decPump (argC a 0)) pPm (fun p=>[.agg (encPump p)]) [.agg (encPump p)] fun y=>LTr N N y (cntL []) t.log 0:=by kernel_rfl
theorem tr_st(N:Nat)(m:Nat)(p:Pump)(M:MC)(l:List Entry)(i:Int):LP (eP kn12) N 0 F_flush_Trim snK 0 [] (m+1) (STr p M l i) =
 bif decide (i<(↑l.length:Int))then
  bif decide (0<=i)&&decide (i<(↑l.length:Int))then
   bif(l.getD i.toNat default).write then
    bif memS (l.getD i.toNat default).key M.fst then
     LP (eP kn12) (N) (0) (F_flush_Trim) (snK) 0 ([]) (m) ({fr:=[(4,AV.ptr 0 0 0),(5,AV.ptr 1 0 0),(6,AV.ptr 3 0 0),(16,encEntrys l),(17,AV.int IntKind.i64 (↑l.length:Int)),(18,AV.int IntKind.i64 (IntKind.i64.wrap (i+1))),(1004,AV.undef)],hp:=[BS.arr true 3 [[AV.int IntKind.i64 0,AV.nils,AV.nils]],BS.arr true 3 [[AV.int IntKind.i64 p.num,encEntrys p.out,AV.sn 4 2 p.done.length]],BS.seq true 4 p.done.length fun i=>encItem (p.done.getD i default),BS.arr true 1 [[AV.mp 4]],BS.pmap true (bif memS (l.getD i.toNat default).key M.fst then M.fst else M.fst++[(l.getD i.toNat default).key]) fun x=>bif strBeq x (l.getD i.toNat default).key then AV.int IntKind.i64 (IntKind.i64.wrap (M.snd (l.getD i.toNat default).key+1))else AV.int IntKind.i64 (M.snd x)]})
    else
     LP (eP kn12) (N) (0) (F_flush_Trim) (snK) 0 ([]) (m) ({fr:=[(4,AV.ptr 0 0 0),(5,AV.ptr 1 0 0),(6,AV.ptr 3 0 0),(16,encEntrys l),(17,AV.int IntKind.i64 (↑l.length:Int)),(18,AV.int IntKind.i64 (IntKind.i64.wrap (i+1))),(1004,AV.undef)],hp:=[BS.arr true 3 [[AV.int IntKind.i64 0,AV.nils,AV.nils]],BS.arr true 3 [[AV.int IntKind.i64 p.num,encEntrys p.out,AV.sn 4 2 p.done.length]],BS.seq true 4 p.done.length fun i=>encItem (p.done.getD i default),BS.arr true 1 [[AV.mp 4]],BS.pmap true (bif memS (l.getD i.toNat default).key M.fst then M.fst else M.fst++[(l.getD i.toNat default).key]) fun x=>bif strBeq x (l.getD i.toNat default).key then AV.int IntKind.i64 1 else AV.int IntKind.i64 (M.snd x)]})
   else
    LP (eP kn12) (N) (0) (F_flush_Trim) (snK) 0 ([]) (m) (STr p M l (IntKind.i64.wrap (i+1)))
  else none
 else
  gCG (dLT) (pLT) (eLT) ([AV.sn 4 0 p.done.length,AV.fn (Fn.func F_flush_Trim_c1) [] [AV.ptr 1 0 0]]) ([BS.seq true 4 p.done.length fun i=>encItem (p.done.getD i default),BS.arr true 1 [[AV.mp 2]],BS.pmap true M.fst fun k=>AV.int IntKind.i64 (M.snd k)]) fun y2=>
  bif(List.filter (fun x=>!pT y2.snd x) y2.fst).length.ble (List.filter (fun x=>!pT y2.snd x) y2.fst).length&&true then
   some (AV.agg [AV.int IntKind.i64 p.num,encEntrys p.out,AV.tr 4 (List.filter (fun x=>!pT y2.snd x) y2.fst).length fun i=>encItem ((List.filter (fun x=>!pT y2.snd x) y2.fst).getD i default)])
  else none:=by kernel_rfl
theorem tr_st'(N m:Nat)(p:Pump)(M:MC)(l:List Entry)(i:Int):LTr N (m+1) p M l i =
 bif decide (i<(l.length:Int))then rg i l.length (bif(l.getD i.toNat default).write then LTr N m p (cntK M (l.getD i.toNat default).key) l (IntKind.i64.wrap (i+1))else LTr N m p M l (IntKind.i64.wrap (i+1)))
 else gCG dLT pLT eLT (eLT (p.done,M)).1 (eLT (p.done,M)).2 fun y=>bif(List.filter (fun x=>!pT y.2 x) y.1).length.ble (List.filter (fun x=>!pT y.2 x) y.1).length&&true then some (.agg [.int .i64 p.num,encEntrys p.out,encItems (List.filter (fun x=>!pT y.2 x) y.1)])else none:=by
 refine(tr_st N m p M l i).trans ?_
 have key:∀ (s:Txt) (v:Int),BS.pmap true (bif memS s M.1 then M.1 else M.1++[s]) (fun x=>bif strBeq x s then AV.int IntKind.i64 v else AV.int IntKind.i64 (M.2 x))=.pmap true (insK M.1 s) fun k=>.int .i64 (updV M.2 s v k):=fun s v=>by
  rw[updV_enc (fun n=>AV.int IntKind.i64 n)];rfl
 rw[key,key]
 have hL:∀ v:Int,v=(bif memS (l.getD i.toNat default).key M.1 then M.2 (l.getD i.toNat default).key else 0)->LTr N m p (cntK M (l.getD i.toNat default).key) l (IntKind.i64.wrap (i+1))=LP (eP kn12) N 0 F_flush_Trim snK 0 [] m {fr:=[(4,.ptr 0 0 0),(5,.ptr 1 0 0),(6,.ptr 3 0 0),(16,encEntrys l),(17,.int .i64 l.length),(18,.int .i64 (IntKind.i64.wrap (i+1))),(1004,.undef)],hp:=hTr p (insK M.1 (l.getD i.toNat default).key,updV M.2 (l.getD i.toNat default).key (IntKind.i64.wrap (v+1)))}:=fun v hv=>by
  rw[hv];rfl
 unfold rg
 cases hd:decide (i<(l.length:Int))with
 | false=>rfl
 | true=>
  rw[cond_true,cond_true]
  cases hw:(l.getD i.toNat default).write with
  | false=>rfl
  | true=>
   rw[cond_true,cond_true]
   cases hm:memS (l.getD i.toNat default).key M.1 with
   | true=>rw[cond_true,hL (M.2 (l.getD i.toNat default).key) (by rw[hm,cond_true])];rfl
   | false=>rw[cond_false,hL 0 (by rw[hm,cond_false])];rfl
def keysW(l:List Entry):List Txt:=(l.filter fun e=>e.write).map fun e=>e.key
theorem keysW_take{l:List Entry}{i:Nat}(h:i<l.length):keysW (l.take (i+1))=keysW (l.take i)++bif(l.getD i default).write then [(l.getD i default).key]else []:=by
 unfold keysW
 rw[List.take_add_one,List.filter_append,List.map_append,List.getElem?_eq_getElem h]
 have e:l.getD i default=l[i]:=by simp[List.getD,List.getElem?_eq_getElem h]
 rw[e]
 cases hw:l[i].write <;> simp[hw]
def trimP(p:Pump)(l:List Entry):Pump:={p with done:=p.done.filter fun x=>memS x.key (keysW l)}
theorem pT_cnt{ks:List Txt}(h:ks.length<=1000000)(x:Itm):(!pT (cntL ks) x)=memS x.key ks:=by
 obtain⟨h1,h2⟩:=cnt_ok ks h
 unfold pT
 cases hm:memS x.key (cntL ks).1 with
 | true=>
  have hk:=(memS_iff _ _).1 hm
  have:=h2 _ hk
  rw[cond_true,decide_eq_false (by omega),Bool.not_false]
  exact((memS_iff _ _).2 ((h1 _).1 hk)).symm
 | false=>
  rw[cond_false,Bool.not_true]
  cases hm2:memS x.key ks with
  | false=>rfl
  | true=>rw[(memS_iff _ _).2 ((h1 _).2 ((memS_iff _ _).1 hm2))]at hm;cases hm
abbrev PT:=Pump × Tail
def ePT(p:PT):List AV:=[.agg (encPump p.1),.agg (encTail p.2)]
def pPT(p:PT):Prop:=pPm p.1/\p.2.log.length<=100000
theorem trim_con(p:PT)(h:pPT p):Contract PG F_flush_Trim (ePT p) [] (.agg (encPump (trimP p.1 p.2.log))) []:=by
 obtain⟨h1,h2⟩:=h
 obtain⟨N,hN⟩:∃ N,N=200000:=⟨_,rfl⟩
 have:=up_loop (n:=p.2.log.length) (fun i m=>LTr N m p.1 (cntL (keysW (p.2.log.take i))) p.2.log (i:Nat)=some (.agg (encPump (trimP p.1 p.2.log)))) (fun m=>?_) (fun i m hi ih=>?_) 0 N (Nat.zero_le _) (by omega)
 ·exact conN kn12_ok ((tr_in N p.1 p.2).trans ((qCp h1).trans this))
 ·rw[tr_st',decide_eq_false (by omega),cond_false,List.take_of_length_le (Nat.le_refl _)]
  refine(gCG_eq (p.1.done,cntL (keysW p.2.log)) (dLT_eq _) h1.2 (.refl _) (.refl _)).trans ?_
  have hk:(keysW p.2.log).length<=1000000:=by unfold keysW;rw[List.length_map];have:=List.length_filter_le (fun e:Entry=>e.write) p.2.log;omega
  simp only[pT_cnt hk]
  rw[ble_true (Nat.le_refl _)];rfl
 ·rw[tr_st',decide_eq_true (by omega),cond_true,rg_eq hi,Int.toNat_natCast,wrapS (by omega)]
  rw[keysW_take hi]at ih
  cases hw:(p.2.log.getD i default).write with
  | true=>rw[hw,cond_true,cntL_app]at ih;rw[cond_true];exact ih
  | false=>rw[hw,cond_false,List.append_nil]at ih;rw[cond_false];exact ih
def kTrim:Known:=.spec F_flush_Trim (fun a=>(decPump (argC a 0),decTail (argC a 1))) pPT ePT (fun p=>.agg (encPump (trimP p.1 p.2.log)))
theorem kTrim_ok:kTrim.Ok PG:=Known.spec_ok trim_con
def kn12f:List Known:=[kCp,kDF]
theorem fl_in(N:Nat)(p:Pump)(m:Msg):callT (eP kn12f) (N+1) F_flush_Flushed [AV.agg (encPump p),AV.agg (encMsg m)] =
 gC (fun a=>decPump (argC a 0)) (pPm) (fun p=>[AV.agg (encPump p)]) ([AV.agg (encPump p)]) fun y3=>
 bif decide ((↑p.out.length:Int)=0)then
  bif y3.done.length.ble y3.done.length&&true&&true then
   some (AV.tup [AV.agg (encPump y3),AV.bool false])
  else none
 else
  bif !decide (m.num=p.num)then
   bif y3.done.length.ble y3.done.length&&true&&true then
    some (AV.tup [AV.agg (encPump y3),AV.bool false])
   else none
  else
   bif !decide (m.code=0)then
    bif y3.done.length.ble y3.done.length&&true&&true then
     some (AV.tup [AV.agg [AV.int IntKind.i64 y3.num,AV.nils,encItems y3.done],AV.bool true])
    else none
   else
    LP (eP kn12f) (N) 0 (F_flush_Flushed) snK 0 [] (N) ({fr:=[(2,AV.ptr 0 0 0),(4,AV.ptr 1 0 0),(6,AV.ptr 2 0 0),(7,AV.ptr 4 0 0),(37,encEntrys p.out),(38,AV.int IntKind.i64 (↑p.out.length:Int)),(39,AV.int IntKind.i64 0),(1005,AV.undef)],hp:=[BS.arr true 3 [encPump p],BS.arr true 3 [[AV.int IntKind.i64 0,AV.nils,AV.nils]],BS.arr true 3 [[AV.int IntKind.i64 y3.num,AV.nils,AV.sn 4 3 y3.done.length]],BS.seq true 4 y3.done.length fun i=>encItem (y3.done.getD i default),BS.arr true 1 [[AV.mp 5]],BS.pmap true [] fun x=>AV.int IntKind.i64 0]}):=by kernel_rfl
def hFl(p:Pump)(M:MC):Heap:=[.arr true 3 [encPump p],.arr true 3 [[.int .i64 0,.nils,.nils]],.arr true 3 [[.int .i64 p.num,.nils,.sn 4 3 p.done.length]],sqL 4 encItem default p.done,.arr true 1 [[.mp 5]],.pmap true M.1 fun k=>.int .i64 (M.2 k)]
def SFl(p:Pump)(M:MC)(i:Int):St:={fr:=[(2,.ptr 0 0 0),(4,.ptr 1 0 0),(6,.ptr 2 0 0),(7,.ptr 4 0 0),(37,encEntrys p.out),(38,.int .i64 p.out.length),(39,.int .i64 i),(1005,.undef)],hp:=hFl p M}
theorem fl_st(N:Nat)(m:Nat)(p:Pump)(M:MC)(i:Int):LP (eP kn12f) N 0 F_flush_Flushed snK 0 [] (m+1) (SFl p M i) =
 bif decide (i<(↑p.out.length:Int))then
  bif decide (0<=i)&&decide (i<(↑p.out.length:Int))then
   bif memS (p.out.getD i.toNat default).key M.fst then
    LP (eP kn12f) (N) (0) (F_flush_Flushed) (snK) 0 ([]) (m) ({fr:=[(2,AV.ptr 0 0 0),(4,AV.ptr 1 0 0),(6,AV.ptr 2 0 0),(7,AV.ptr 4 0 0),(37,encEntrys p.out),(38,AV.int IntKind.i64 (↑p.out.length:Int)),(39,AV.int IntKind.i64 (IntKind.i64.wrap (i+1))),(1005,AV.undef)],hp:=[BS.arr true 3 [encPump p],BS.arr true 3 [[AV.int IntKind.i64 0,AV.nils,AV.nils]],BS.arr true 3 [[AV.int IntKind.i64 p.num,AV.nils,AV.sn 4 3 p.done.length]],BS.seq true 4 p.done.length fun i=>encItem (p.done.getD i default),BS.arr true 1 [[AV.mp 5]],BS.pmap true (bif memS (p.out.getD i.toNat default).key M.fst then M.fst else M.fst++[(p.out.getD i.toNat default).key]) fun x=>bif strBeq x (p.out.getD i.toNat default).key then AV.int IntKind.i64 (IntKind.i64.wrap (M.snd (p.out.getD i.toNat default).key+1))else AV.int IntKind.i64 (M.snd x)]})
   else
    LP (eP kn12f) (N) (0) (F_flush_Flushed) (snK) 0 ([]) (m) ({fr:=[(2,AV.ptr 0 0 0),(4,AV.ptr 1 0 0),(6,AV.ptr 2 0 0),(7,AV.ptr 4 0 0),(37,encEntrys p.out),(38,AV.int IntKind.i64 (↑p.out.length:Int)),(39,AV.int IntKind.i64 (IntKind.i64.wrap (i+1))),(1005,AV.undef)],hp:=[BS.arr true 3 [encPump p],BS.arr true 3 [[AV.int IntKind.i64 0,AV.nils,AV.nils]],BS.arr true 3 [[AV.int IntKind.i64 p.num,AV.nils,AV.sn 4 3 p.done.length]],BS.seq true 4 p.done.length fun i=>encItem (p.done.getD i default),BS.arr true 1 [[AV.mp 5]],BS.pmap true (bif memS (p.out.getD i.toNat default).key M.fst then M.fst else M.fst++[(p.out.getD i.toNat default).key]) fun x=>bif strBeq x (p.out.getD i.toNat default).key then AV.int IntKind.i64 1 else AV.int IntKind.i64 (M.snd x)]})
  else none
 else
  gCG (dLF) (pLF) (eLF) ([AV.sn 4 0 p.done.length,AV.fn (Fn.func F_flush_Flushed_c1) [] [AV.ptr 1 0 0]]) ([BS.seq true 4 p.done.length fun i=>encItem (p.done.getD i default),BS.arr true 1 [[AV.mp 2]],BS.pmap true M.fst fun k=>AV.int IntKind.i64 (M.snd k)]) fun y4=>
  LP (eP kn12f) (N) (0) (F_flush_Flushed) (snK) 2 ([]) (N) ({fr:=[(4,AV.ptr 0 0 0),(6,AV.ptr 1 0 0),(56,encEntrys p.out),(57,AV.int IntKind.i64 (↑p.out.length:Int)),(58,AV.int IntKind.i64 0)],hp:=[BS.arr true 3 [[AV.int IntKind.i64 0,AV.nils,AV.nils]],BS.arr true 3 [[AV.int IntKind.i64 p.num,AV.nils,AV.sn 4 2 (List.filter (fun x=>!pF y4.snd x) y4.fst).length]],BS.seq true 4 (List.filter (fun x=>!pF y4.snd x) y4.fst).length fun i=>encItem ((List.filter (fun x=>!pF y4.snd x) y4.fst).getD i default)]}):=by kernel_rfl
theorem fl_st'(N m:Nat)(p:Pump)(M:MC)(i:Int):LP (eP kn12f) N 0 F_flush_Flushed snK 0 [] (m+1) (SFl p M i) =
 bif decide (i<(p.out.length:Int))then rg i p.out.length (LP (eP kn12f) N 0 F_flush_Flushed snK 0 [] m (SFl p (cntK M (p.out.getD i.toNat default).key) (IntKind.i64.wrap (i+1))))
 else gCG dLF pLF eLF (eLF (p.done,M)).1 (eLF (p.done,M)).2 fun y=>LP (eP kn12f) N 0 F_flush_Flushed snK 2 [] N {fr:=[(4,.ptr 0 0 0),(6,.ptr 1 0 0),(56,encEntrys p.out),(57,.int .i64 p.out.length),(58,.int .i64 0)],hp:=[.arr true 3 [[.int .i64 0,.nils,.nils]],.arr true 3 [[.int .i64 p.num,.nils,.sn 4 2 (y.1.filter fun x=>!pF y.2 x).length]],sqL 4 encItem default (y.1.filter fun x=>!pF y.2 x)]}:=by
 refine(fl_st N m p M i).trans ?_
 have key:∀ (s:Txt) (v:Int),BS.pmap true (bif memS s M.1 then M.1 else M.1++[s]) (fun x=>bif strBeq x s then AV.int IntKind.i64 v else AV.int IntKind.i64 (M.2 x))=.pmap true (insK M.1 s) fun k=>.int .i64 (updV M.2 s v k):=fun s v=>by
  rw[updV_enc (fun n=>AV.int IntKind.i64 n)];rfl
 rw[key,key]
 have hL:∀ v:Int,v=(bif memS (p.out.getD i.toNat default).key M.1 then M.2 (p.out.getD i.toNat default).key else 0)->LP (eP kn12f) N 0 F_flush_Flushed snK 0 [] m (SFl p (cntK M (p.out.getD i.toNat default).key) (IntKind.i64.wrap (i+1)))=LP (eP kn12f) N 0 F_flush_Flushed snK 0 [] m {fr:=[(2,.ptr 0 0 0),(4,.ptr 1 0 0),(6,.ptr 2 0 0),(7,.ptr 4 0 0),(37,encEntrys p.out),(38,.int .i64 p.out.length),(39,.int .i64 (IntKind.i64.wrap (i+1))),(1005,.undef)],hp:=hFl p (insK M.1 (p.out.getD i.toNat default).key,updV M.2 (p.out.getD i.toNat default).key (IntKind.i64.wrap (v+1)))}:=fun v hv=>by
  rw[hv];rfl
 unfold rg
 cases hd:decide (i<(p.out.length:Int))with
 | false=>rfl
 | true=>
  rw[cond_true,cond_true]
  cases hm:memS (p.out.getD i.toNat default).key M.1 with
  | true=>rw[cond_true,hL (M.2 (p.out.getD i.toNat default).key) (by rw[hm,cond_true])];rfl
  | false=>rw[cond_false,hL 0 (by rw[hm,cond_false])];rfl
def SF2(num:Int)(out:List Entry)(l:List Itm)(i:Int):St:={fr:=[(4,.ptr 0 0 0),(6,.ptr 1 0 0),(56,encEntrys out),(57,.int .i64 out.length),(58,.int .i64 i)],hp:=[.arr true 3 [[.int .i64 0,.nils,.nils]],.arr true 3 [[.int .i64 num,.nils,.sn 4 2 l.length]],sqL 4 encItem default l]}
theorem f2_st(N:Nat)(m:Nat)(num:Int)(out:List Entry)(l:List Itm)(i:Int):LP (eP kn12f) N 0 F_flush_Flushed snK 2 [] (m+1) (SF2 num out l i) =
 bif decide (i<(↑out.length:Int))then
  bif decide (0<=i)&&decide (i<(↑out.length:Int))then
   bif l.length.ble l.length then
    bif((l.length+1)*56).ble 140737488355328&&(l.length+1).ble 140737488355328 then
     LP (eP kn12f) (N) (0) (F_flush_Flushed) (snK) 2 ([]) (m) ({fr:=[(4,AV.ptr 0 0 0),(6,AV.ptr 1 0 0),(56,encEntrys out),(57,AV.int IntKind.i64 (↑out.length:Int)),(58,AV.int IntKind.i64 (IntKind.i64.wrap (i+1)))],hp:=[BS.arr true 3 [[AV.int IntKind.i64 0,AV.nils,AV.nils]],BS.arr true 3 [[AV.int IntKind.i64 num,AV.nils,AV.sn 4 2 (l.length+1)]],BS.seq true 4 (l.length+1) (appN l.length (fun i=>encItem (l.getD i default)) (View.list [[AV.str (out.getD i.toNat default).key,AV.str [],AV.bool false,AV.cplx FloatKind.f64 (out.getD i.toNat default).ver.re (out.getD i.toNat default).ver.im]]))]})
    else none
   else none
  else none
 else
  bif l.length.ble l.length&&true&&true then
   some (AV.tup [AV.agg [AV.int IntKind.i64 num,AV.nils,AV.tr 4 l.length fun i=>encItem (l.getD i default)],AV.bool true])
  else none:=by kernel_rfl
theorem pF_cnt{ks:List Txt}(h:ks.length<=1000000)(x:Itm):pF (cntL ks) x=memS x.key ks:=by
 obtain⟨h1,h2⟩:=cnt_ok ks h
 unfold pF
 cases hm:memS x.key (cntL ks).1 with
 | true=>
  have hk:=(memS_iff _ _).1 hm
  have:=h2 _ hk
  rw[cond_true,decide_eq_true (by omega)]
  exact((memS_iff _ _).2 ((h1 _).1 hk)).symm
 | false=>
  rw[cond_false]
  cases hm2:memS x.key ks with
  | false=>rfl
  | true=>rw[(memS_iff _ _).2 ((h1 _).2 ((memS_iff _ _).1 hm2))]at hm;cases hm
def itmE(e:Entry):Itm:=⟨e.key,[],false,e.ver⟩
def doneP(p:Pump):List Itm:=(p.done.filter fun x=>!memS x.key (p.out.map fun e=>e.key))++p.out.map itmE
def flushedP(p:Pump)(m:Msg):Pump × Bool:=
 bif decide ((p.out.length:Int)=0)then(p,false)else bif !decide (m.num=p.num)then(p,false)else bif !decide (m.code=0)then({p with out:=[]},true)else(⟨p.num,[],doneP p⟩,true)
abbrev PM:=Pump × Msg
def ePM(p:PM):List AV:=[.agg (encPump p.1),.agg (encMsg p.2)]
def oFl(p:PM):AV:=.tup [.agg (encPump (flushedP p.1 p.2).1),.bool (flushedP p.1 p.2).2]
theorem kn12f_ok:∀ k ∈ kn12f,k.Ok PG:=ak kCp_ok (ak kDF_ok ank)
theorem f2_run{num:Int}{out:List Entry}{done:List Itm}{N:Nat}(hl:done.length<=100000)(ho:out.length<=100000):∀ i m,i<=out.length->out.length - i<m->LP (eP kn12f) N 0 F_flush_Flushed snK 2 [] m (SF2 num out (done++(out.take i).map itmE) (i:Nat))=some (.tup [.agg [.int .i64 num,.nils,encItems (done++out.map itmE)],.bool true]):=by
 refine up_loop (n:=out.length) (fun i m=>LP (eP kn12f) N 0 F_flush_Flushed snK 2 [] m (SF2 num out (done++(out.take i).map itmE) (i:Nat))=some (.tup [.agg [.int .i64 num,.nils,encItems (done++out.map itmE)],.bool true])) (fun m=>?_) (fun i m hi ih=>?_)
 ·rw[f2_st,decide_eq_false (by omega),cond_false,List.take_of_length_le (Nat.le_refl _),ble_true (Nat.le_refl _)];rfl
 ·have hlen:(done++(out.take i).map itmE).length<=200000:=by rw[List.length_append,List.length_map,List.length_take];omega
  rw[f2_st,decide_eq_true (by omega),cond_true,decide_eq_true (by omega),Bool.and_true,cond_true,ble_true (Nat.le_refl _),cond_true,ble_true (by omega),ble_true (by omega),Bool.and_true,cond_true,wrapS (by omega)]
  have e:out.take (i+1)=out.take i++[out.getD i default]:=by rw[List.take_add_one,List.getElem?_eq_getElem hi];simp[List.getD,List.getElem?_eq_getElem hi]
  rw[e,List.map_append,<- List.append_assoc]at ih
  have hs:=sqL_one 4 encItem (default:Itm) (done++(out.take i).map itmE) (itmE (out.getD i default))
  have hb:∀ l:List Itm,SF2 num out (l++[itmE (out.getD i default)]) ((i+1:Nat):Int)={fr:=[(4,.ptr 0 0 0),(6,.ptr 1 0 0),(56,encEntrys out),(57,.int .i64 out.length),(58,.int .i64 ((i+1:Nat):Int))],hp:=[.arr true 3 [[.int .i64 0,.nils,.nils]],.arr true 3 [[.int .i64 num,.nils,.sn 4 2 (l.length+1)]],sqL 4 encItem default (l++[itmE (out.getD i default)])]}:=fun l=>by
   unfold SF2;rw[List.length_append];rfl
  have ih2:=ih
  simp only[List.map_cons,List.map_nil]at ih2
  rw[hb,<- hs]at ih2
  exact ih2
theorem flushed_con(p:PM)(h:pPm p.1):Contract PG F_flush_Flushed (ePM p) [] (oFl p) []:=by
 obtain⟨N,hN⟩:∃ N,N=200000:=⟨_,rfl⟩
 have e:=fl_in N p.1 p.2
 have h1:=h.1
 have h2:=h.2
 rw[qCp h]at e
 simp only[ble_true (Nat.le_refl p.1.done.length),Bool.and_self,cond_true]at e
 unfold oFl flushedP
 cases ha:decide ((p.1.out.length:Int)=0)with
 | true=>rw[ha,cond_true]at e;exact conN kn12f_ok e
 | false=>
  rw[ha,cond_false]at e
  cases hb:!decide (p.2.num=p.1.num)with
  | true=>rw[hb,cond_true]at e;exact conN kn12f_ok e
  | false=>
   rw[hb,cond_false]at e
   cases hc:!decide (p.2.code=0)with
   | true=>
    rw[hc,cond_true]at e
    exact(conN kn12f_ok e).res (.tup (.cons (.agg (.cons (.refl _) (.cons nilsL (.cons (.refl _) .nil)))) (.cons (.refl _) .nil)))
   | false=>
    rw[hc,cond_false]at e
    have run:=up_loop (n:=p.1.out.length) (fun i m=>LP (eP kn12f) N 0 F_flush_Flushed snK 0 [] m (SFl p.1 (cntL ((p.1.out.take i).map fun e=>e.key)) (i:Nat))=some (.tup [.agg [.int .i64 p.1.num,.nils,encItems (doneP p.1)],.bool true])) (fun m=>?_) (fun i m hi ih=>?_) 0 N (Nat.zero_le _) (by omega)
    ·exact(conN kn12f_ok (e.trans run)).res (.tup (.cons (.agg (.cons (.refl _) (.cons nilsL (.cons (.refl _) .nil)))) (.cons (.refl _) .nil)))
    ·rw[fl_st',decide_eq_false (by omega),cond_false,List.take_of_length_le (Nat.le_refl _)]
     refine(gCG_eq (pre:=pLF) (p.1.done,cntL (p.1.out.map fun e=>e.key)) (dLF_eq _) h2 (.refl _) (.refl _)).trans ?_
     simp only[pF_cnt (ks:=p.1.out.map fun e=>e.key) (by rw[List.length_map];omega)]
     have:=f2_run (num:=p.1.num) (out:=p.1.out) (done:=p.1.done.filter fun x=>!memS x.key (p.1.out.map fun e=>e.key)) (N:=N) (Nat.le_trans (List.length_filter_le _ _) h2) h1 0 N (Nat.zero_le _) (by omega)
     rw[List.take_zero,List.map_nil,List.append_nil]at this
     exact this
    ·rw[fl_st',decide_eq_true (by omega),cond_true,rg_eq hi,Int.toNat_natCast,wrapS (by omega)]
     have e:p.1.out.take (i+1)=p.1.out.take i++[p.1.out.getD i default]:=by rw[List.take_add_one,List.getElem?_eq_getElem hi];simp[List.getD,List.getElem?_eq_getElem hi]
     rw[e,List.map_append]at ih
     rw[<- cntL_app]
     exact ih
def kFlushed:Known:=.spec F_flush_Flushed (fun a=>(decPump (argC a 0),decMsg (argC a 1))) (fun p=>pPm p.1) ePM oFl
theorem kFlushed_ok:kFlushed.Ok PG:=Known.spec_ok flushed_con
end Go.Hd
end
noncomputable section
open Go Go.AM Go.Md
namespace Go.Hd
open Go.Wk
def insR{X:Type}(c:X->X->Bool):List X->X->List X->List X
 | [],x,B=>x::B
 | a::A,x,B=>bif c x a then insR c A x (a::B)else(a::A).reverse++x::B
def insS{X:Type}(c:X->X->Bool)(P:List X)(x:X):List X:=insR c P.reverse x []
def sortS{X:Type}(c:X->X->Bool)(l:List X):List X:=l.foldl (insS c) []
theorem insR_app{X:Type}(c:X->X->Bool):∀ (A:List X) (x:X) (B:List X),insR c A x B=insR c A x []++B
 | [],_,_=>rfl
 | a::A,x,B=>by
  unfold insR
  cases c x a with
  | true=>rw[cond_true,cond_true,insR_app c A x (a::B),insR_app c A x [a],List.append_assoc];rfl
  | false=>rw[cond_false,cond_false,List.append_assoc];rfl
theorem insR_perm{X:Type}(c:X->X->Bool):∀ (A:List X) (x:X) (B:List X),(insR c A x B).Perm (x::A++B)
 | [],_,_=>.refl _
 | a::A,x,B=>by
  unfold insR
  cases c x a with
  | true=>
   rw[cond_true]
   refine(insR_perm c A x (a::B)).trans ?_
   exact .cons x (List.perm_middle)
  | false=>
   rw[cond_false]
   refine List.perm_middle.trans (.cons x ?_)
   exact(List.reverse_perm _).append_right B
theorem insS_perm{X:Type}(c:X->X->Bool)(P:List X)(x:X):(insS c P x).Perm (x::P):=by
 refine(insR_perm c _ x []).trans (.cons x ?_)
 show(P.reverse++[]).Perm P
 rw[List.append_nil]
 exact List.reverse_perm _
theorem sortS_perm{X:Type}(c:X->X->Bool)(l:List X):(sortS c l).Perm l:=by
 have:∀ (l P:List X),(l.foldl (insS c) P).Perm (P++l):=by
  intro l
  induction l with
  | nil=>intro P;rw[List.append_nil];exact .refl _
  | cons x r ih=>
   intro P
   rw[List.foldl_cons]
   refine(ih _).trans ?_
   refine((insS_perm c P x).append_right r).trans ?_
   exact List.perm_middle.symm
 exact this l []
theorem insR_sorted{X:Type}{c:X->X->Bool}(tr:∀ x y z,c x y=true->c y z=true->c x z=true):∀ (A:List X) (x:X) (B:List X),
  (A.reverse++B).Pairwise (fun a b=>c a b=true)->(∀ b ∈ B,c x b=true)->(∀ a ∈ A,c x a=true\/c a x=true)->(insR c A x B).Pairwise fun a b=>c a b=true
 | [],x,B,h,hB,_=>List.pairwise_cons.2 ⟨hB,h⟩
 | a::A,x,B,h,hB,hA=>by
  unfold insR
  cases hc:c x a with
  | true=>
   rw[cond_true]
   refine insR_sorted tr A x (a::B) (by rw[List.reverse_cons,List.append_assoc]at h;exact h) (fun b hb=>?_) fun b hb=>hA b (by simp[hb])
   rcases List.mem_cons.1 hb with rfl | hb
   ·exact hc
   ·exact hB b hb
  | false=>
   rw[cond_false]
   have ha:c a x=true:=(hA a (by simp)).resolve_left (by rw[hc];simp)
   obtain⟨h1,h2,h3⟩:=List.pairwise_append.1 h
   refine List.pairwise_append.2 ⟨h1,List.pairwise_cons.2 ⟨hB,h2⟩,fun y hy z hz=>?_⟩
   have hyx:c y x=true:=by
    rw[List.reverse_cons]at hy h1
    obtain⟨_,_,g3⟩:=List.pairwise_append.1 h1
    rcases List.mem_append.1 hy with hy | hy
    ·exact tr _ _ _ (g3 y hy a (by simp)) ha
    ·rw[List.mem_singleton.1 hy];exact ha
   rcases List.mem_cons.1 hz with rfl | hz
   ·exact hyx
   ·exact h3 y hy z hz
theorem sortS_sorted{X:Type}{c:X->X->Bool}(tr:∀ x y z,c x y=true->c y z=true->c x z=true)(l:List X)(hl:l.Pairwise fun a b=>c a b=true\/c b a=true):(sortS c l).Pairwise fun a b=>c a b=true:=by
 have:∀ (l P:List X),P.Pairwise (fun a b=>c a b=true)->(P++l).Pairwise (fun a b=>c a b=true\/c b a=true)->(l.foldl (insS c) P).Pairwise fun a b=>c a b=true:=by
  intro l
  induction l with
  | nil=>intro P h _;exact h
  | cons x r ih=>
   intro P h h2
   rw[List.foldl_cons]
   refine ih _ ?_ ?_
   ·unfold insS
    refine insR_sorted tr _ x [] (by rw[List.reverse_reverse,List.append_nil];exact h) (fun b hb=>by simp at hb) fun a ha=>?_
    exact((List.pairwise_append.1 h2).2.2 a (by simpa using ha) x (by simp)).symm
   ·have:(P++x::r).Perm (insS c P x++r):=List.perm_middle.trans ((insS_perm c P x).symm.append_right r)
    exact this.pairwise h2 (fun h=>h.symm)
 exact this l [] .nil (by simpa using hl)
theorem sortS_eq{X:Type}{c:X->X->Bool}(tr:∀ x y z,c x y=true->c y z=true->c x z=true)(ir:∀ x,c x x=false){l l':List X}(hp:l.Perm l')(hl:l.Pairwise fun a b=>c a b=true\/c b a=true):sortS c l=sortS c l':=by
 refine List.Perm.eq_of_pairwise (fun a b _ _ h1 h2=>?_) (sortS_sorted tr l hl) (sortS_sorted tr l' (hp.pairwise hl fun h=>h.symm)) ((sortS_perm c l).trans (hp.trans (sortS_perm c l').symm))
 have:=tr a b a h1 h2
 rw[ir]at this;cases this
end Go.Hd
end
noncomputable section
open Go Go.AM Go.Md
namespace Go.Hd
open Go.Wk
set_option maxRecDepth 100000
set_option maxHeartbeats 400000
def eSo(l:List Known):Env:=envN [(F_slices_insertionSortCmpFunc_int,0,[0,1,2,3,8]),(F_slices_insertionSortCmpFunc_int,2,[0,1,2,3,8,9])] [(F_slices_insertionSortCmpFunc_int,5),(F_slices_SortFunc_int,5),(F_slices_pdqsortCmpFunc_int,5),(F_math_bits_Len,0),(F_tail_Batch_c1,0)] [] l
abbrev Q1:=(Int × Int) × Tail
def eC1(p:Q1):List AV:=[.int .i64 p.1.1,.int .i64 p.1.2,.tp (encTail p.2) 0]
theorem c1_eq(p:Q1):callT (eSo [kAhead,kCmp]) 9 F_tail_Batch_c1 (eC1 p) =
 bif decide (0<=p.fst.fst)&&decide (p.fst.fst<(↑p.snd.log.length:Int))then
  bif decide (0<=p.fst.snd)&&decide (p.fst.snd<(↑p.snd.log.length:Int))then
   gC (dV2) (V2) (eV2) ([AV.cplx FloatKind.f64 (p.snd.log.getD p.fst.fst.toNat default).ver.re (p.snd.log.getD p.fst.fst.toNat default).ver.im,AV.cplx FloatKind.f64 (p.snd.log.getD p.fst.snd.toNat default).ver.re (p.snd.log.getD p.fst.snd.toNat default).ver.im]) fun y0=>
   bif vlt y0.fst y0.snd then
    some (AV.int IntKind.i64 (-1))
   else
    gC (dV2) (V2) (eV2) ([AV.cplx FloatKind.f64 (p.snd.log.getD p.fst.snd.toNat default).ver.re (p.snd.log.getD p.fst.snd.toNat default).ver.im,AV.cplx FloatKind.f64 (p.snd.log.getD p.fst.fst.toNat default).ver.re (p.snd.log.getD p.fst.fst.toNat default).ver.im]) fun y1=>
    bif vlt y1.fst y1.snd then
     some (AV.int IntKind.i64 1)
    else
     gC (fun a=>(getI a 0,getI a 1)) (fun x=>True) (eII) ([AV.int IntKind.i64 p.fst.fst,AV.int IntKind.i64 p.fst.snd]) fun y2=>
     some (AV.int IntKind.i64 (cmpP y2.fst y2.snd))
  else none
 else none:=by kernel_rfl
def dTp2(a:List AV):List AV:=match a.getD 2 .nils with
 | .tp c _=>c
 | _=>[]
def dC1(a:List AV):Q1:=((getI a 0,getI a 1),decTail (dTp2 a))
def VT(t:Tail):Prop:=t.log.length<=100000 /\ ∀ e ∈ t.log,VNum e.ver
def pC1(p:Q1):Prop:=VT p.2/\0<=p.1.1/\p.1.1<p.2.log.length/\0<=p.1.2/\p.1.2<p.2.log.length
def cmpT(t:Tail)(a b:Int):Int:=bif vlt (t.log.getD a.toNat default).ver (t.log.getD b.toNat default).ver then -1 else bif vlt (t.log.getD b.toNat default).ver (t.log.getD a.toNat default).ver then 1 else cmpP a b
def kC1:Known:=.spec F_tail_Batch_c1 dC1 pC1 eC1 fun p=>.int .i64 (cmpT p.2 p.1.1 p.1.2)
def fS:AV:=.fn (.func F_tail_Batch_c1) [] [.ptr 1 0 0]
def hS(t:Tail):Heap:=[.arr true 3 [encTail t]]
def eI(i:Int):List AV:=[.int .i64 i]
def SS0(n:Nat)(F:Nat->Int)(t:Tail)(i:Int):St:={fr:=[(0,.sn 1 0 n),(1,.int .i64 0),(2,.int .i64 n),(3,fS),(8,.int .i64 i)],hp:=.seq true 1 n (fun i=>eI (F i))::hS t}
def SS2(n:Nat)(F:Nat->Int)(t:Tail)(i j:Int):St:={fr:=[(0,.sn 1 0 n),(1,.int .i64 0),(2,.int .i64 n),(3,fS),(8,.int .i64 i),(9,.int .i64 j)],hp:=.seq true 1 n (fun i=>eI (F i))::hS t}
theorem s0_in(N:Nat)(n:Nat)(F:Nat->Int)(t:Tail):callC 2 (eSo [kC1]) (N+1) F_slices_insertionSortCmpFunc_int [AV.sn 1 0 n,AV.int IntKind.i64 0,AV.int IntKind.i64 (↑n:Int),fS] ((BS.seq true 1 n fun i=>eI (F i))::hS t) =
 LP (eSo [kC1]) (N) (2) (F_slices_insertionSortCmpFunc_int) (cnK (2) (2)) 0 [] (N) ({fr:=[(0,AV.sn 1 0 n),(1,AV.int IntKind.i64 0),(2,AV.int IntKind.i64 (↑n:Int)),(3,AV.fn (Fn.func F_tail_Batch_c1) [] [AV.ptr 1 0 0]),(8,AV.int IntKind.i64 1)],hp:=[BS.seq true 1 n fun i=>[AV.int IntKind.i64 (F i)],BS.arr true 3 [encTail t]]}):=by kernel_rfl
theorem s0_st(N:Nat)(m:Nat)(n:Nat)(F:Nat->Int)(t:Tail)(i:Int):LP (eSo [kC1]) N 2 F_slices_insertionSortCmpFunc_int (cnK 2 2) 0 [] (m+1) (SS0 n F t i) =
 bif decide (i<(↑n:Int))then
  LP (eSo [kC1]) (N) (2) (F_slices_insertionSortCmpFunc_int) (cnK 2 2) 2 ([m]) (N) ({fr:=[(0,AV.sn 1 0 n),(1,AV.int IntKind.i64 0),(2,AV.int IntKind.i64 (↑n:Int)),(3,AV.fn (Fn.func F_tail_Batch_c1) [] [AV.ptr 1 0 0]),(8,AV.int IntKind.i64 i),(9,AV.int IntKind.i64 i)],hp:=[BS.seq true 1 n fun i=>[AV.int IntKind.i64 (F i)],BS.arr true 3 [encTail t]]})
 else
  some ((AV.tup [],[BS.seq true 1 n fun i=>[AV.int IntKind.i64 (F i)],BS.arr true 3 [encTail t]])):=by kernel_rfl
theorem s2_st(N:Nat)(m:Nat)(M:Nat)(n:Nat)(F:Nat->Int)(t:Tail)(i:Int)(j:Int):LP (eSo [kC1]) N 2 F_slices_insertionSortCmpFunc_int (cnK 2 2) 2 [M] (m+1) (SS2 n F t i j) =
 bif decide (0<j)then
  bif decide (0<=j)&&decide (j<(↑n:Int))then
   bif j.toNat.blt n then
    bif decide (0<=IntKind.i64.wrap (j - 1))&&decide (IntKind.i64.wrap (j - 1)<(↑n:Int))then
     bif(IntKind.i64.wrap (j - 1)).toNat.blt n then
      gC (dC1) (pC1) (eC1) ([AV.int IntKind.i64 (F j.toNat),AV.int IntKind.i64 (F (IntKind.i64.wrap (j - 1)).toNat),AV.tp (encTail t) 0]) fun y3=>
      bif decide (cmpT y3.snd y3.fst.fst y3.fst.snd<0)then
       bif decide (0<=IntKind.i64.wrap (j - 1))&&decide (IntKind.i64.wrap (j - 1)<(↑n:Int))then
        bif(IntKind.i64.wrap (j - 1)).toNat.blt n then
         bif decide (0<=j)&&decide (j<(↑n:Int))then
          bif j.toNat.blt n then
           bif decide (0<=j)&&decide (j<(↑n:Int))then
            bif j.toNat.blt n&&true then
             bif decide (0<=IntKind.i64.wrap (j - 1))&&decide (IntKind.i64.wrap (j - 1)<(↑n:Int))then
              bif(IntKind.i64.wrap (j - 1)).toNat.blt n&&Nat.ble 1 (bif(IntKind.i64.wrap (j - 1)).toNat.beq j.toNat then [AV.int IntKind.i64 (F (IntKind.i64.wrap (j - 1)).toNat)]else [AV.int IntKind.i64 (F (IntKind.i64.wrap (j - 1)).toNat)]).length then
               LP (eSo [kC1]) (N) (2) (F_slices_insertionSortCmpFunc_int) (cnK 2 2) 2 ([M]) (m) ({fr:=[(0,AV.sn 1 0 n),(1,AV.int IntKind.i64 0),(2,AV.int IntKind.i64 (↑n:Int)),(3,AV.fn (Fn.func F_tail_Batch_c1) [] [AV.ptr 1 0 0]),(8,AV.int IntKind.i64 i),(9,AV.int IntKind.i64 (IntKind.i64.wrap (j - 1)))],hp:=[BS.seq true 1 n fun i'=>bif i'.beq (IntKind.i64.wrap (j - 1)).toNat then AV.int IntKind.i64 (F j.toNat)::List.drop 1 (bif(IntKind.i64.wrap (j - 1)).toNat.beq j.toNat then [AV.int IntKind.i64 (F (IntKind.i64.wrap (j - 1)).toNat)]else [AV.int IntKind.i64 (F (IntKind.i64.wrap (j - 1)).toNat)])else bif i'.beq j.toNat then [AV.int IntKind.i64 (F (IntKind.i64.wrap (j - 1)).toNat)]else [AV.int IntKind.i64 (F i')],BS.arr true 3 [encTail t]]})
              else none
             else none
            else none
           else none
          else none
         else none
        else none
       else none
      else
       LP (eSo [kC1]) (N) (2) (F_slices_insertionSortCmpFunc_int) (cnK 2 2) 0 [] (M) ({fr:=[(0,AV.sn 1 0 n),(1,AV.int IntKind.i64 0),(2,AV.int IntKind.i64 (↑n:Int)),(3,AV.fn (Fn.func F_tail_Batch_c1) [] [AV.ptr 1 0 0]),(8,AV.int IntKind.i64 (IntKind.i64.wrap (i+1)))],hp:=[BS.seq true 1 n fun i=>[AV.int IntKind.i64 (F i)],BS.arr true 3 [encTail t]]})
     else none
    else none
   else none
  else none
 else
  LP (eSo [kC1]) (N) (2) (F_slices_insertionSortCmpFunc_int) (cnK 2 2) 0 [] (M) ({fr:=[(0,AV.sn 1 0 n),(1,AV.int IntKind.i64 0),(2,AV.int IntKind.i64 (↑n:Int)),(3,AV.fn (Fn.func F_tail_Batch_c1) [] [AV.ptr 1 0 0]),(8,AV.int IntKind.i64 (IntKind.i64.wrap (i+1)))],hp:=[BS.seq true 1 n fun i=>[AV.int IntKind.i64 (F i)],BS.arr true 3 [encTail t]]}):=by kernel_rfl
theorem getD_mem{X:Type}{l:List X}{z:X}{i:Nat}(h:i<l.length):l.getD i z ∈ l:=by
 rw[List.getD,List.getElem?_eq_getElem h];exact List.getElem_mem h
theorem c1_con(p:Q1)(h:pC1 p):Contract PG F_tail_Batch_c1 (eC1 p) [] (.int .i64 (cmpT p.2 p.1.1 p.1.2)) []:=by
 refine conN (ak kAhead_ok (ak kCmp_ok ank)) ((c1_eq p).trans ?_)
 obtain⟨⟨-,hv⟩,h1,h2,h3,h4⟩:=h
 have va:=hv _ (getD_mem (z:=default) (show p.1.1.toNat<p.2.log.length by omega))
 have vb:=hv _ (getD_mem (z:=default) (show p.1.2.toNat<p.2.log.length by omega))
 rw[decide_eq_true h1,decide_eq_true h2,decide_eq_true h3,decide_eq_true h4,qV2 va vb,qV2 vb va,qCmp]
 unfold cmpT
 dsimp only [Bool.and_true,cond_true]
 cases vlt (p.2.log.getD p.1.1.toNat default).ver (p.2.log.getD p.1.2.toNat default).ver <;> cases vlt (p.2.log.getD p.1.2.toNat default).ver (p.2.log.getD p.1.1.toNat default).ver <;> rfl
theorem kC1_ok:kC1.Ok PG:=Known.spec_ok c1_con
theorem qC1{R:Type}{a b:Int}{t:Tail}{k:Q1->Option R}(h:pC1 ((a,b),t)):gC dC1 pC1 eC1 [.int .i64 a,.int .i64 b,.tp (encTail t) 0] k=k ((a,b),t):=gC_eq ((a,b),t) (Prod.ext rfl (dec_encTail t)) h (.refl _)
def LS0(N m n:Nat)(F:Nat->Int)(t:Tail)(i:Int):Option (AV × Heap):=LP (eSo [kC1]) N 2 F_slices_insertionSortCmpFunc_int (cnK 2 2) 0 [] m (SS0 n F t i)
def LS2(N m M n:Nat)(F:Nat->Int)(t:Tail)(i j:Int):Option (AV × Heap):=LP (eSo [kC1]) N 2 F_slices_insertionSortCmpFunc_int (cnK 2 2) 2 [M] m (SS2 n F t i j)
def swF(F:Nat->Int)(k:Nat):Nat->Int:=fun i=>bif i.beq k then F (k+1)else bif i.beq (k+1)then F k else F i
theorem s2_step(N m M n:Nat)(F:Nat->Int)(t:Tail)(i:Int){k:Nat}(hn:n<=100000)(hk:k+1<n)(h:pC1 ((F (k+1),F k),t)) :
  LS2 N (m+1) M n F t i ((k+1:Nat):Int)=bif decide (cmpT t (F (k+1)) (F k)<0)then LS2 N m M n (swF F k) t i (k:Int)else LS0 N M n F t (IntKind.i64.wrap (i+1)):=by
 have e:=s2_st N m M n F t i ((k+1:Nat):Int)
 have hw:IntKind.i64.wrap (((k+1:Nat):Int) - 1)=(k:Int):=(wrap64 (by omega)).trans (by omega)
 rw[hw,Int.toNat_natCast,Int.toNat_natCast,blt_true hk,blt_true (show k<n by omega),decide_eq_true (show(0:Int)<((k+1:Nat):Int) by omega),decide_eq_true (show(0:Int)<=((k+1:Nat):Int) by omega),decide_eq_true (show((k+1:Nat):Int)<(n:Int) by omega),
  decide_eq_true (show(0:Int)<=(k:Int) by omega),decide_eq_true (show(k:Int)<(n:Int) by omega),AM.beq_false (show k ≠ k+1 by omega),qC1 h]at e
 refine e.trans ?_
 have hF:(fun i'=>bif Nat.beq i' k then [AV.int IntKind.i64 (F (k+1))]else bif Nat.beq i' (k+1)then [AV.int IntKind.i64 (F k)]else [AV.int IntKind.i64 (F i')])=fun i'=>eI (swF F k i'):=by
  funext i'
  unfold swF
  cases Nat.beq i' k <;> cases Nat.beq i' (k+1) <;> rfl
 cases hc:decide (cmpT t (F (k+1)) (F k)<0)with
 | false=>rfl
 | true=>
  show LP (eSo [kC1]) N 2 F_slices_insertionSortCmpFunc_int (cnK 2 2) 2 [M] m {fr:=[(0,AV.sn 1 0 n),(1,AV.int IntKind.i64 0),(2,AV.int IntKind.i64 n),(3,fS),(8,AV.int IntKind.i64 i),(9,AV.int IntKind.i64 k)],hp:=[BS.seq true 1 n fun i'=>bif Nat.beq i' k then [AV.int IntKind.i64 (F (k+1))]else bif Nat.beq i' (k+1)then [AV.int IntKind.i64 (F k)]else [AV.int IntKind.i64 (F i')],BS.arr true 3 [encTail t]]}=_
  rw[hF];rfl
theorem s2_zero(N m M n:Nat)(F:Nat->Int)(t:Tail)(i:Int):LS2 N (m+1) M n F t i 0=LS0 N M n F t (IntKind.i64.wrap (i+1)):=(s2_st N m M n F t i 0).trans rfl
def PlT(t:Tail)(l:List Int):Prop:=∀ a ∈ l,0<=a/\a<t.log.length
def ltT(t:Tail)(a b:Int):Bool:=decide (cmpT t a b<0)
theorem sw_list(A B:List Int)(a x:Int):swF (fun i=>(A++a::x::B).getD i 0) A.length=fun i=>(A++x::a::B).getD i 0:=by
 funext i
 unfold swF
 have g:∀ (u v:Int) (i:Nat),(A++u::v::B).getD i 0=if i<A.length then A.getD i 0 else if i=A.length then u else if i=A.length+1 then v else B.getD (i - A.length - 2) 0:=by
  intro u v i
  simp only[List.getD]
  by_cases h:i<A.length
  ·rw[if_pos h,List.getElem?_append_left h]
  ·rw[if_neg h,List.getElem?_append_right (by omega)]
   by_cases h1:i=A.length
   ·rw[if_pos h1,h1,Nat.sub_self];rfl
   ·rw[if_neg h1]
    by_cases h2:i=A.length+1
    ·rw[if_pos h2,h2,show A.length+1 - A.length=1 by omega];rfl
    ·rw[if_neg h2,show i - A.length=(i - A.length - 2)+2 by omega];rfl
 dsimp only
 rw[g,g,g,g]
 by_cases h1:i=A.length
 ·rw[AM.beq_true h1];simp[h1];intro h;omega
 ·rw[AM.beq_false h1,cond_false]
  by_cases h2:i=A.length+1
  ·rw[AM.beq_true h2];simp[h2];intro h;omega
  ·rw[AM.beq_false h2,cond_false,if_neg h1,if_neg h2,if_neg h1,if_neg h2]
theorem ins_run{t:Tail}(hv:VT t)(N M:Nat)(i:Int):∀ (A:List Int) (x:Int) (B:List Int) (m:Nat),A.length<m->A.length+B.length<100000->PlT t A->PlT t [x] ->
  LS2 N m M (A.length+1+B.length) (fun i=>(A.reverse++x::B).getD i 0) t i (A.length:Nat)=LS0 N M (A.length+1+B.length) (fun i=>(insR (ltT t) A x B).getD i 0) t (IntKind.i64.wrap (i+1)):=by
 intro A
 induction A with
 | nil=>
  intro x B m hm _ _ _
  obtain⟨m,rfl⟩:∃ k,m=k+1:=⟨m - 1,by simp at hm;omega⟩
  exact s2_zero N m M _ _ t i
 | cons a A ih=>
  intro x B m hm hn hA hx
  obtain⟨m,rfl⟩:∃ k,m=k+1:=⟨m - 1,by omega⟩
  rw[List.length_cons]at hm hn ⊢
  have ea:((a::A).reverse++x::B).getD A.length 0=a:=by
   simp only[List.getD]
   rw[List.reverse_cons,List.append_assoc,List.getElem?_append_right (by simp),List.length_reverse,Nat.sub_self];rfl
  have ex:((a::A).reverse++x::B).getD (A.length+1) 0=x:=by
   simp only[List.getD]
   rw[List.getElem?_append_right (by simp),List.length_reverse,List.length_cons,Nat.sub_self];rfl
  have pa:=hA a (by simp)
  have px:=hx x (by simp)
  rw[s2_step N m M _ _ t i (k:=A.length) (by omega) (by omega) (by rw[ea,ex];exact⟨hv,px.1,px.2,pa.1,pa.2⟩),ea,ex]
  unfold insR
  show(bif ltT t x a then _ else _)=_
  cases hc:ltT t x a with
  | false=>rfl
  | true=>
   rw[cond_true,cond_true,List.reverse_cons,List.append_assoc]
   have:=sw_list A.reverse B a x
   rw[List.length_reverse]at this
   rw[show [a]++x::B=a::x::B from rfl,this]
   have e:=ih x (a::B) m (by omega) (by rw[List.length_cons];omega) (fun y hy=>hA y (by simp[hy])) hx
   rw[List.length_cons,show A.length+1+(B.length+1)=A.length+1+1+B.length by omega]at e
   exact e
theorem insS_len{X:Type}(c:X->X->Bool)(P:List X)(x:X):(insS c P x).length=P.length+1:=(insS_perm c P x).length_eq
theorem srt_run{t:Tail}(hv:VT t)(N:Nat):∀ (R P:List Int) (m:Nat),R.length<m->P.length+R.length<N->N<=100000->PlT t (P++R) ->
  LS0 N m (P.length+R.length) (fun i=>(P++R).getD i 0) t (P.length:Nat)=some (.tup [],sqL 1 eI 0 (R.foldl (insS (ltT t)) P)::hS t):=by
 intro R
 induction R with
 | nil=>
  intro P m hm _ _ _
  obtain⟨m,rfl⟩:∃ k,m=k+1:=⟨m - 1,by simp at hm;omega⟩
  rw[List.append_nil]
  refine(s0_st N m _ _ t _).trans ?_
  rw[decide_eq_false (by simp)]
  rfl
 | cons x R ih=>
  intro P m hm hn hN hP
  obtain⟨m,rfl⟩:∃ k,m=k+1:=⟨m - 1,by omega⟩
  rw[List.length_cons]at hm hn ⊢
  have e:=s0_st N m (P.length+(R.length+1)) (fun i=>(P++x::R).getD i 0) t (P.length:Nat)
  rw[decide_eq_true (by omega),cond_true]at e
  refine e.trans ?_
  have e2:=ins_run hv N m (P.length:Nat) P.reverse x R N (by simp;omega) (by simp;omega) (fun a ha=>hP a (by simp at ha ⊢;exact Or.inl ha)) (fun a ha=>hP a (by simp at ha ⊢;exact Or.inr (Or.inl ha)))
  rw[List.length_reverse,List.reverse_reverse,show P.length+1+R.length=P.length+(R.length+1) by omega,wrapS (by omega),insR_app]at e2
  refine e2.trans ?_
  have e3:=ih (insS (ltT t) P x) m (by omega) (by rw[insS_len];omega) hN (fun a ha=>?_)
  ·rw[insS_len,show P.length+1+R.length=P.length+(R.length+1) by omega]at e3
   exact e3
  ·rcases List.mem_append.1 ha with ha | ha
   ·have:=(insS_perm (ltT t) P x).mem_iff.1 ha
    rcases List.mem_cons.1 this with rfl | h
    ·exact hP _ (by simp)
    ·exact hP _ (by simp[h])
   ·exact hP _ (by simp[ha])
abbrev LT:=List Int × Tail
def eLS(p:LT):List AV × Heap:=([.sn 1 0 p.1.length,.int .i64 0,.int .i64 p.1.length,fS],sqL 1 eI 0 p.1::hS p.2)
def eLV(p:LT):List AV × Heap:=([.sn 1 0 p.1.length,fS],sqL 1 eI 0 p.1::hS p.2)
def dLS(_:List AV)(h:Heap):LT:=(dRow (fun c=>getI c 0) (hget h 0),decTail (dCells (hget h 1)))
theorem dLS_eq(a:List AV)(p:LT):dLS a (eLS p).2=p:=Prod.ext (dRow_sqL (sz:=1) (e:=eI) (z:=0) (d:=fun c=>getI c 0) (fun _=>rfl) p.1) (dec_encTail p.2)
def pLS(p:LT):Prop:=p.1.length<=12/\VT p.2/\PlT p.2 p.1
def oLS(p:LT):AV × Heap:=(.tup [],sqL 1 eI 0 (sortS (ltT p.2) p.1)::hS p.2)
theorem srt_con(p:LT)(h:pLS p):Contract PG F_slices_insertionSortCmpFunc_int (eLS p).1 (eLS p).2 (oLS p).1 (oLS p).2/\(eLS p).2.length<=(oLS p).2.length:=by
 obtain⟨h1,h2,h3⟩:=h
 refine conC (ak kC1_ok ank) (c:=2) (n:=100+1) (Nat.le_refl 2) ((s0_in 100 p.1.length (fun i=>p.1.getD i 0) p.2).trans ?_)
 match hp:p.1,h1,h3 with
 | [],_,_=>
  refine(s0_st 100 99 0 _ p.2 1).trans ?_
  rw[decide_eq_false (by omega)]
  unfold oLS
  rw[hp];rfl
 | x::R,h1,h3=>
  have:=srt_run h2 100 R [x] 100 (by simp at h1;omega) (by simp at h1 ⊢;omega) (by omega) h3
  unfold oLS
  rw[hp]
  rw[List.length_singleton,Nat.add_comm]at this
  exact this
def kSrt:Known:=.specG F_slices_insertionSortCmpFunc_int dLS pLS eLS oLS
theorem kSrt_ok:kSrt.Ok PG:=Known.specG_ok srt_con
end Go.Hd
end
noncomputable section
open Go Go.AM Go.Md
namespace Go.Hd
open Go.Wk
set_option maxRecDepth 100000
set_option maxHeartbeats 4000000
theorem sf_0(F:Nat->Int)(t:Tail):callC 2 (eSo [kSrt]) 30 F_slices_SortFunc_int [AV.sn 1 0 0,fS] ((BS.seq true 1 0 fun i=>eI (F i))::hS t)=gCG dLS pLS eLS [.sn 1 0 0,.int .i64 0,.int .i64 (0:Nat),fS] ((BS.seq true 1 0 fun i=>eI (F i))::hS t) fun y=>some (oLS y):=by kernel_rfl
theorem sf_1(F:Nat->Int)(t:Tail):callC 2 (eSo [kSrt]) 30 F_slices_SortFunc_int [AV.sn 1 0 1,fS] ((BS.seq true 1 1 fun i=>eI (F i))::hS t)=gCG dLS pLS eLS [.sn 1 0 1,.int .i64 0,.int .i64 (1:Nat),fS] ((BS.seq true 1 1 fun i=>eI (F i))::hS t) fun y=>some (oLS y):=by kernel_rfl
theorem sf_2(F:Nat->Int)(t:Tail):callC 2 (eSo [kSrt]) 30 F_slices_SortFunc_int [AV.sn 1 0 2,fS] ((BS.seq true 1 2 fun i=>eI (F i))::hS t)=gCG dLS pLS eLS [.sn 1 0 2,.int .i64 0,.int .i64 (2:Nat),fS] ((BS.seq true 1 2 fun i=>eI (F i))::hS t) fun y=>some (oLS y):=by kernel_rfl
theorem sf_3(F:Nat->Int)(t:Tail):callC 2 (eSo [kSrt]) 30 F_slices_SortFunc_int [AV.sn 1 0 3,fS] ((BS.seq true 1 3 fun i=>eI (F i))::hS t)=gCG dLS pLS eLS [.sn 1 0 3,.int .i64 0,.int .i64 (3:Nat),fS] ((BS.seq true 1 3 fun i=>eI (F i))::hS t) fun y=>some (oLS y):=by kernel_rfl
theorem sf_4(F:Nat->Int)(t:Tail):callC 2 (eSo [kSrt]) 30 F_slices_SortFunc_int [AV.sn 1 0 4,fS] ((BS.seq true 1 4 fun i=>eI (F i))::hS t)=gCG dLS pLS eLS [.sn 1 0 4,.int .i64 0,.int .i64 (4:Nat),fS] ((BS.seq true 1 4 fun i=>eI (F i))::hS t) fun y=>some (oLS y):=by kernel_rfl
theorem sf_5(F:Nat->Int)(t:Tail):callC 2 (eSo [kSrt]) 30 F_slices_SortFunc_int [AV.sn 1 0 5,fS] ((BS.seq true 1 5 fun i=>eI (F i))::hS t)=gCG dLS pLS eLS [.sn 1 0 5,.int .i64 0,.int .i64 (5:Nat),fS] ((BS.seq true 1 5 fun i=>eI (F i))::hS t) fun y=>some (oLS y):=by kernel_rfl
theorem sf_6(F:Nat->Int)(t:Tail):callC 2 (eSo [kSrt]) 30 F_slices_SortFunc_int [AV.sn 1 0 6,fS] ((BS.seq true 1 6 fun i=>eI (F i))::hS t)=gCG dLS pLS eLS [.sn 1 0 6,.int .i64 0,.int .i64 (6:Nat),fS] ((BS.seq true 1 6 fun i=>eI (F i))::hS t) fun y=>some (oLS y):=by kernel_rfl
theorem sf_7(F:Nat->Int)(t:Tail):callC 2 (eSo [kSrt]) 30 F_slices_SortFunc_int [AV.sn 1 0 7,fS] ((BS.seq true 1 7 fun i=>eI (F i))::hS t)=gCG dLS pLS eLS [.sn 1 0 7,.int .i64 0,.int .i64 (7:Nat),fS] ((BS.seq true 1 7 fun i=>eI (F i))::hS t) fun y=>some (oLS y):=by kernel_rfl
theorem sf_8(F:Nat->Int)(t:Tail):callC 2 (eSo [kSrt]) 30 F_slices_SortFunc_int [AV.sn 1 0 8,fS] ((BS.seq true 1 8 fun i=>eI (F i))::hS t)=gCG dLS pLS eLS [.sn 1 0 8,.int .i64 0,.int .i64 (8:Nat),fS] ((BS.seq true 1 8 fun i=>eI (F i))::hS t) fun y=>some (oLS y):=by kernel_rfl
theorem sf_9(F:Nat->Int)(t:Tail):callC 2 (eSo [kSrt]) 30 F_slices_SortFunc_int [AV.sn 1 0 9,fS] ((BS.seq true 1 9 fun i=>eI (F i))::hS t)=gCG dLS pLS eLS [.sn 1 0 9,.int .i64 0,.int .i64 (9:Nat),fS] ((BS.seq true 1 9 fun i=>eI (F i))::hS t) fun y=>some (oLS y):=by kernel_rfl
theorem sf_10(F:Nat->Int)(t:Tail):callC 2 (eSo [kSrt]) 30 F_slices_SortFunc_int [AV.sn 1 0 10,fS] ((BS.seq true 1 10 fun i=>eI (F i))::hS t)=gCG dLS pLS eLS [.sn 1 0 10,.int .i64 0,.int .i64 (10:Nat),fS] ((BS.seq true 1 10 fun i=>eI (F i))::hS t) fun y=>some (oLS y):=by kernel_rfl
theorem sf_11(F:Nat->Int)(t:Tail):callC 2 (eSo [kSrt]) 30 F_slices_SortFunc_int [AV.sn 1 0 11,fS] ((BS.seq true 1 11 fun i=>eI (F i))::hS t)=gCG dLS pLS eLS [.sn 1 0 11,.int .i64 0,.int .i64 (11:Nat),fS] ((BS.seq true 1 11 fun i=>eI (F i))::hS t) fun y=>some (oLS y):=by kernel_rfl
theorem sf_12(F:Nat->Int)(t:Tail):callC 2 (eSo [kSrt]) 30 F_slices_SortFunc_int [AV.sn 1 0 12,fS] ((BS.seq true 1 12 fun i=>eI (F i))::hS t)=gCG dLS pLS eLS [.sn 1 0 12,.int .i64 0,.int .i64 (12:Nat),fS] ((BS.seq true 1 12 fun i=>eI (F i))::hS t) fun y=>some (oLS y):=by kernel_rfl
theorem sf_all:∀ n,n<=12 -> ∀ (F:Nat->Int) (t:Tail),callC 2 (eSo [kSrt]) 30 F_slices_SortFunc_int [AV.sn 1 0 n,fS] ((BS.seq true 1 n fun i=>eI (F i))::hS t)=gCG dLS pLS eLS [.sn 1 0 n,.int .i64 0,.int .i64 n,fS] ((BS.seq true 1 n fun i=>eI (F i))::hS t) fun y=>some (oLS y)
 | 0,_=>sf_0
 | 1,_=>sf_1
 | 2,_=>sf_2
 | 3,_=>sf_3
 | 4,_=>sf_4
 | 5,_=>sf_5
 | 6,_=>sf_6
 | 7,_=>sf_7
 | 8,_=>sf_8
 | 9,_=>sf_9
 | 10,_=>sf_10
 | 11,_=>sf_11
 | 12,_=>sf_12
 | n+13,h=>absurd h (by omega)
theorem sort_con(p:LT)(h:pLS p):Contract PG F_slices_SortFunc_int (eLV p).1 (eLV p).2 (oLS p).1 (oLS p).2/\(eLV p).2.length<=(oLS p).2.length:=by
 refine conC (ak kSrt_ok ank) (c:=2) (n:=30) (Nat.le_refl 2) ((sf_all p.1.length h.1 (fun i=>p.1.getD i 0) p.2).trans ?_)
 exact gCG_eq p (dLS_eq _ p) h (.refl _) (.refl _)
def kSort:Known:=.specG F_slices_SortFunc_int dLS pLS eLV oLS
theorem kSort_ok:kSort.Ok PG:=Known.specG_ok sort_con
end Go.Hd
end
noncomputable section
set_option linter.unusedVariables false
set_option linter.unusedSimpArgs false
namespace Go.AM
variable {R:Type}
structure ChsS(R K:Type) where
 f:List K->(K->Option R)->Option R
 sm:∀ {l:List K} {g:K->Option R} {r:R},f l g=some r -> ∀ k ∈ l,g k=some r
 ev:∀ {l:List K} {g:K->Option R} {r:R},l ≠ []->(∀ k ∈ l,g k=some r)->f l g=some r
open Classical in
theorem chs_ex(R K:Type):∃ f:List K->(K->Option R)->Option R,(∀ {l:List K} {g:K->Option R} {r:R},f l g=some r -> ∀ k ∈ l,g k=some r)/\(∀ {l:List K} {g:K->Option R} {r:R},l ≠ []->(∀ k ∈ l,g k=some r)->f l g=some r):=by
 refine⟨fun l g=>if h:∃ r,∀ k ∈ l,g k=some r then some (Classical.choose h)else none,fun {l g r} h=>?_,fun {l g r} hl h=>?_⟩
 ·dsimp only at h
  split at h
  ·rename_i hh
   intro k hk
   rw[Classical.choose_spec hh k hk];exact h
  ·cases h
 ·have hh:∃ r,∀ k ∈ l,g k=some r:=⟨r,h⟩
  show(if h:∃ r,∀ k ∈ l,g k=some r then some (Classical.choose h)else none)=some r
  rw[dif_pos hh]
  obtain⟨k,hk⟩:=List.exists_mem_of_ne_nil l hl
  rw[<- Classical.choose_spec hh k hk,h k hk]
instance (R K:Type):Inhabited (ChsS R K):=⟨⟨Classical.choose (chs_ex R K),(Classical.choose_spec (chs_ex R K)).1,(Classical.choose_spec (chs_ex R K)).2⟩⟩
def chsO(R K:Type):ChsS R K:=Classical.choice ⟨default⟩
def chs{K:Type}(l:List K)(f:K->Option R):Option R:=(chsO R K).f l f
theorem chs_some{K:Type}{l:List K}{f:K->Option R}{r:R}(h:chs l f=some r):∀ k ∈ l,f k=some r:=(chsO R K).sm h
theorem chs_eq{K:Type}{l:List K}{f:K->Option R}{r:R}(hl:l ≠ [])(h:∀ k ∈ l,f k=some r):chs l f=some r:=(chsO R K).ev hl h
def delS(s:List UInt8)(l:List (List UInt8)):List (List UInt8):=l.filter fun x=>!strBeq x s
def regN(env:Env)(run:CallK R)(nt:Nat)(ops:Array Oper)(draw:Bool)(s:St)(k:St->Option R):Option R:=
 match draw with
 | true=>opsK env run nt ops true ops.toList 0 [] s k
 | false=>match ops.toList with
  | []=>opsK env run nt ops false [] 0 [] s k
  | o::rest=>match o.op with
   | .next x false=>bif dstOk nt o.dst then guardK ops o s.fr fun g fr=>match g with
     | true=>match evalO (fget fr) x with
      | .ptr b 0 0=>match hget s.hp b with
       | .piter true ks val rem _=>bif rem.isEmpty then opsK env run nt ops false rest 1 [] {fr:=fput fr o.dst (.tup [.bool false]),hp:=s.hp} k
         else chs rem fun y=>opsK env run nt ops false rest 1 [] {fr:=fput fr o.dst (.tup [.bool true,.str y,val y]),hp:=hput s.hp b (.piter true ks val (delS y rem) (some y))} k
       | _=>none
      | _=>none
     | false=>none
    else none
   | _=>opsK env run nt ops false (o::rest) 0 [] s k
def evN(env:Env)(run:CallK R)(fn nt n base:Nat):(cur:Nat)->Code->CodeK R
 | _,.skip,k,s=>k .normal s
 | _,.region id ops draw,k,s=>frzK (env.frz fn id) s fun s=>regN env run nt ops draw s fun s'=>k .normal s'
 | cur,.seq a b,k,s=>evN env run fn nt n base cur a (fun e s'=>match e with
  | .normal=>evN env run fn nt n base cur b k s'
  | e=>k e s') s
 | cur,.cond c a b,k,s=>match evalO (fget s.fr) c with
  | .bool c=>bif c then evN env run fn nt n base cur a k s else evN env run fn nt n base cur b k s
  | _=>.none
 | _,.block id a,k,s=>evN env run fn nt n base id a (fun e s'=>match e with
  | .exit id'=>bif Nat.beq id' id then k .normal s' else k (.exit id') s'
  | e=>k e s') s
 | cur,.loop a,k,s=>loopK (norm base (env.live fn cur)) (evN env run fn nt n base cur a) n k (norm base (env.live fn cur) s)
 | _,.exit id,k,s=>k (.exit id) s
 | _,.ret,k,s=>k .ret s
 | _,_,_,_=>.none
section
variable {P:Program} {env:Env} {run:CallK R} {r:R} {nt n base fn:Nat}
def PostN(nt base:Nat)(k:AX->St->Option R)(r:R)(s:St)(w:World)(I:Nat->Prop)(φ:Phi)(a:Act)(Q:Exit->Act->World->Prop):Prop:=
 ∀ (e:AX) (s':St) (a':Act) (w':World) (φ':Phi) (I':Nat->Prop),k e s'=some r->base<=s'.hp.length->nt<=a'.tmps.size->a'.defers=a.defers->StOk w' I' φ' s' a'->Step base (hget s.hp) φ I w (hget s'.hp) φ' I' w'->Q e.x a' w'
theorem PostN.after{k:AX->St->Option R}{s s1:St}{w w1:World}{I I1:Nat->Prop}{φ φ1:Phi}{a a1:Act}{Q:Exit->Act->World->Prop}(h:PostN nt base k r s w I φ a Q)(hd:a1.defers=a.defers)
  (hs:Step base (hget s.hp) φ I w (hget s1.hp) φ1 I1 w1):PostN nt base k r s1 w1 I1 φ1 a1 Q:=
 fun e s' a' w' φ' I' h0 hb h1 h2 h3 h4=>h e s' a' w' φ' I' h0 hb h1 (h2.trans hd) h3 (hs.trans h4)
theorem regN_ok(henv:EnvOk P env)(hrun:RunOk P run)(hm:P.follows .mixedOrders=true){id:Nat}{ops:Array Oper}{draw:Bool}{s:St}{k:St->Option R}(hok:okCode (.region id ops draw)=true)
  (h:regN env run nt ops draw s k=some r):∀ (w:World) (I:Nat->Prop) (φ:Phi) (a:Act),StOk w I φ s a->nt<=a.tmps.size -> ∀ Q:Exit->Act->World->Prop,
   (∀ s' a' w' φ' I',k s'=some r->s.hp.length<=s'.hp.length->nt<=a'.tmps.size->a'.defers=a.defers->StOk w' I' φ' s' a'->(∀ base,base<=s.hp.length->Step base (hget s.hp) φ I w (hget s'.hp) φ' I' w')->Q .normal a' w') ->
    (Code.region id ops draw).wp P Q a w:=by
 have plain:opsK env run nt ops draw ops.toList 0 [] s k=some r -> ∀ (w:World) (I:Nat->Prop) (φ:Phi) (a:Act),StOk w I φ s a->nt<=a.tmps.size -> ∀ Q:Exit->Act->World->Prop,
   (∀ s' a' w' φ' I',k s'=some r->s.hp.length<=s'.hp.length->nt<=a'.tmps.size->a'.defers=a.defers->StOk w' I' φ' s' a'->(∀ base,base<=s.hp.length->Step base (hget s.hp) φ I w (hget s'.hp) φ' I' w')->Q .normal a' w') ->
    (Code.region id ops draw).wp P Q a w:=fun h w I φ a hs ha Q hQ=>
  let ⟨s',h1,h2,h3⟩:=region_ok henv hrun hm (id:=id) hok h
  h3 w I φ a hs ha Q fun a' w' φ' I' c1 c2 c3 c4=>hQ s' a' w' φ' I' h1 h2 c1 c2 c3 c4
 cases draw with
 | true=>exact plain h
 | false=>
  unfold regN at h
  simp only at h
  cases hl:ops.toList with
  | nil=>rw[hl]at h;exact plain (by rw[hl];exact h)
  | cons o rest=>
   rw[hl]at h
   simp only at h
   split at h
   ·rename_i x ho
    intro w I φ a hs ha Q hQ
    obtain⟨hd,h⟩:=cond_some h
    obtain⟨g,fr',h,hg,hfr⟩:=guardK_inv h
    cases g with
    | false=>cases h
    | true=>
     simp only at h
     split at h
     ·rename_i b hx0
      split at h
      ·rename_i ks val rem cur hb
       have hmut:mutable (hget s.hp b)=true:=by rw[hb];rfl
       obtain⟨B,oo,sz,e1,hrb⟩:=hs.hh.blkN (b:=b) (by rw[hb];exact fun h=>h) (by rw[hb];rfl)
       have hrb':=hrb
       rw[hb]at hrb
       obtain⟨rfl,rfl,mm,since,seen,mes,clock,e3,e4,e5,hpm,⟨hsc,hold⟩,hrem,hsub,hcur⟩:=hrb
       have hfr1:FrOk w I φ (fget fr') a:=by rw[hfr];exact hs.fr
       have hp:=hfr1.eval x
       rw[hx0]at hp
       generalize hux:a.eval x=u at hp
       cases hp with
       | ptr _ B' o' sz' _ _ q hφ hq=>
        rw[e1]at hφ;cases hφ
        simp at hq
        subst hq
        refine wp_region_list ?_
        rw[hl]
        unfold wpList
        rw[if_pos (guard_ok hs.fr hg)]
        refine .inl ?_
        unfold Oper.wp
        have hex:∀ ww:World,(execOp a.eval o).run P ww=((Instr.next (.pointer (some ⟨B,0,none⟩)) false o.type).run P ww).andThen fun v ww=>.ok (.value v) ww:=by
         intro ww
         simp[execOp,ho,hux]
        rw[hex]
        have memk:∀ y ∈ ks,∃ (i:Nat) (e:MapEntry),ks[i]? = some y/\mes[i]? = some e:=by
         intro y hy
         obtain⟨i,hi,rfl⟩:=List.mem_iff_getElem.1 hy
         have:i<mes.size:=by rw[hpm.1];exact hi
         exact⟨i,mes[i],List.getElem?_eq_getElem hi,Array.getElem?_eq_getElem this⟩
        have fin:∀ {w1:World} {I1:Nat->Prop} {φ1:Phi} {s1:St},StOk w1 I1 φ1 s1 a->True -> ∀ {v:AV} {u:Value} {hp':Heap} {φ2:Phi} {I2:Nat->Prop} {w2:World},
          opsK env run nt ops false rest 1 [] {fr:=fput fr' o.dst v,hp:=hp'} k=some r->RV w2 I2 φ2 v u->FrOk w2 I2 φ2 (fget fr') a->RH w2 I2 φ2 (hget hp')->s.hp.length<=hp'.length ->
          (∀ base,base<=s.hp.length->Step base (hget s.hp) φ I w (hget hp') φ2 I2 w2)->wpList P ops Q rest (a.put o.dst u) w2:=by
         intro w1 I1 φ1 s1 _ _ v u hp' φ2 I2 w2 hk hv hf hh hle hst
         obtain⟨s',g1,g2,g3⟩:=ops_plain henv hrun rest 1 [] _ k hk
         refine g3 w2 I2 φ2 (a.put o.dst u) ⟨hh,hf.put hv (dstOk_le hd ha)⟩ (by simpa using ha) Q fun a' w'' φ'' I'' c1 c2 c3 c4=>hQ s' a' w'' φ'' I'' g1 (Nat.le_trans hle g2) c1 (by simpa using c2) c3 fun base hb=>?_
         exact(hst base hb).trans (c4 base (Nat.le_trans hb hle))
        rcases run_next_at (P:=P) w o.type B mm since clock seen mes clock e3 e5 (fun x hx=>by
          obtain⟨i,hi,rfl⟩:=List.mem_iff_getElem.1 hx
          exact hold i _ (by simp at hi;simp[hi])) hsc with ⟨h0,hr⟩ | ⟨e,he,w1,hw1,hr⟩
        ·
         have hrem0:rem=[]:=by
          cases hrm:rem with
          | nil=>rfl
          | cons y l=>
           exfalso
           have hy:y ∈ rem:=by rw[hrm];simp
           obtain⟨i,e,k1,k2⟩:=memk y (hsub y hy)
           have hns:e.born ∉ seen:=fun hc=>(hrem i y e k1 k2).1 hc hy
           have hem:e ∈ mes:=Array.mem_of_getElem? k2
           have:e ∈ leftOf mes seen:=by
            unfold leftOf
            rw[Array.mem_filter]
            exact⟨hem,by simpa using hns⟩
           rw[Array.eq_empty_of_size_eq_zero h0]at this
           simp at this
         rw[hrem0]at h
         simp only[List.isEmpty_nil,cond_true]at h
         rw[hr]
         exact fin hs trivial h (.tup _ _ rfl fun i c u e e'=>(by
          cases i with
          | zero=>simp at e e';subst e;subst e';exact .bool _
          | succ i=>simp at e)) hfr1 hs.hh (Nat.le_refl _) fun base _=>Step.refl _ _ _ _ _
        ·
         unfold leftOf at he
         rw[Array.mem_toList_iff,Array.mem_filter]at he
         obtain⟨hem,hns⟩:=he
         have hns:e.born ∉ seen:=by simpa using hns
         obtain⟨i,hi,rfl⟩:=Array.mem_iff_getElem.1 hem
         have k2:mes[i]? = some mes[i]:=Array.getElem?_eq_getElem hi
         have hik:i<ks.length:=by rw[<- hpm.1];exact hi
         obtain⟨y,hy⟩:∃ y,ks[i]? = some y:=⟨_,List.getElem?_eq_getElem hik⟩
         have hyr:y ∈ rem:=Classical.byContradiction fun hc=>hns ((hrem i y _ hy k2).2 hc)
         have hne:rem.isEmpty=false:=by cases rem with
          | nil=>simp at hyr
          | cons=>rfl
         rw[hne,cond_false]at h
         have h:=chs_some h y hyr
         have hw:RH w1 I φ (hget s.hp)/\(∀ base,Step base (hget s.hp) φ I w (hget s.hp) φ I w1)/\w1.heap=w.heap:=by
          rcases hw1 with rfl | rfl
          ·exact⟨hs.hh,fun _=>Step.refl _ _ _ _ _,rfl⟩
          ·exact⟨(hs.hh.drew (base:=0)).1,fun base=>(hs.hh.drew (base:=base)).2,rfl⟩
         obtain⟨hh1,hst1,hheap⟩:=hw
         have e3':w1.heap[B]? = some (.mapIter (some mm) since seen clock):=by rw[hheap];exact e3
         have e5':w1.heap[mm]? = some (.map mes clock):=by rw[hheap];exact e5
         have hrb1:=hh1.at e1 (by rw[hb];rfl)
         rw[hb]at hrb1
         obtain⟨_,_,mm',since',seen',mes',clock',f3,f4,f5,hpm1,_⟩:=hrb1
         rw[e3']at f3;cases f3
         rw[e5']at f5;cases f5
         have hmB:mm ≠ B:=by rintro rfl;rw[e3]at e5;cases e5
         have hIk:∀ B',I B'->I B'/\(World.setBlk w1 B (.mapIter (some mm) since (seen.push mes[i].born) clock)).heap[B']? = w1.heap[B']? := fun B' hB=>⟨hB,setBlk_ne fun e=>hs.hh.disj b B 0 0 hmut e1 (e ▸ hB)⟩
         have hcs:∀ B',csize w1 B'<=csize (World.setBlk w1 B (.mapIter (some mm) since (seen.push mes[i].born) clock)) B':=by
          intro B'
          by_cases hbb:B'=B
          ·subst hbb;unfold csize;rw[e3'];exact Nat.zero_le _
          ·unfold csize;rw[setBlk_ne hbb];exact Nat.le_refl _
         have hpm2:=hpm1.mono hIk hcs
         have hW:=fun base=>hh1.writeIter e1 hmut e3' (.mapIter (some mm) since (seen.push mes[i].born) clock) (fun _ _ _ h=>by cases h) (.piter true ks val (delS y rem) (some y)) rfl
          ⟨rfl,rfl,mm,since,seen.push mes[i].born,mes,clock,setBlk_same (lt_of_heap e3'),e4,(setBlk_ne hmB).trans e5',hpm2,⟨hsc,hold⟩,fun j z e' a1 a2=>(by
           unfold delS
           rw[Array.mem_push,List.mem_filter,hrem j z e' a1 a2]
           by_cases hz:z=y
           ·subst hz
            have hij:=hpm.2.2.2.2 j i z a1 hy
            subst hij
            rw[k2]at a2;cases a2
            simp[strBeq_eq]
           ·have hnb:e'.born ≠ mes[i].born:=by
             intro hc
             rcases Nat.lt_trichotomy j i with hlt | heq | hgt
             ·have:=hpm.2.2.2.1 j i _ _ hlt a2 k2;omega
             ·subst heq;rw[hy]at a1;exact hz (Option.some.inj a1).symm
             ·have:=hpm.2.2.2.1 i j _ _ hgt k2 a2;omega
            have hst:strBeq z y=false:=by rw[strBeq_eq];simpa using hz
            simp[hst,hnb]),fun z hz=>hsub z (List.mem_filter.1 hz).1,fun z hz=>⟨i,mes[i],seen,(by cases hz;exact hy),k2,rfl⟩⟩ base
         have hgp:hget (hput s.hp b (.piter true ks val (delS y rem) (some y)))=rdput (hget s.hp) b (.piter true ks val (delS y rem) (some y)):=funext fun b'=>hget_hput _ _ _ _
         rw[hr]
         obtain⟨⟨t,t1,t2⟩,g2⟩:=hpm2.2.1 i y _ hy k2
         have hst:=fun base=>(hst1 base).trans (hW base).2
         refine fin (hp':=hput s.hp b (.piter true ks val (delS y rem) (some y))) (φ2:=φ) (I2:=I) hs trivial h (.tup _ _ rfl fun i' c u ec eu=>?_) ?_ ?_ (hput_length _ _ _) fun base _=>?_
         ·match i',ec,eu with
          | 0,ec,eu=>simp at ec eu;subst ec;subst eu;exact .bool _
          | 1,ec,eu=>simp at ec eu;subst ec;subst eu;rw[t1,t2];exact .str _ _ rfl
          | 2,ec,eu=>simp at ec eu;subst ec;subst eu;exact g2.mono (fun B hB=>⟨hB,rfl⟩) (fun _=>Nat.le_refl _) (Phi.no_le φ)
          | i'+3,ec,eu=>simp at ec
         ·exact hfr1.step hs.hh (hst 0) (Phi.le_refl _)
         ·rw[hgp];exact(hW 0).1
         ·rw[hgp];exact hst base
      ·cases h
     ·cases h
   ·exact plain (by rw[hl];exact h)
theorem evN_ok(henv:EnvOk P env)(hrun:RunOk P run)(hm:P.follows .mixedOrders=true):∀ (c:Code) (cur:Nat) (k:AX->St->Option R) (s:St) (r:R),okCode c=true ->
  evN env run fn nt n base cur c k s=some r->base<=s.hp.length -> ∀ (w:World) (I:Nat->Prop) (φ:Phi) (a:Act),StOk w I φ s a->nt<=a.tmps.size -> ∀ Q,PostN nt base k r s w I φ a Q->c.wp P Q a w:=by
 intro c
 induction c with
 | skip=>
  intro cur k s r _ h hb w I φ a hs ha Q hQ
  exact wp_skip (hQ .normal s a w φ I h hb ha rfl hs (Step.refl _ _ _ _ _))
 | region id ops draw=>
  intro cur k s r hok h hb w I φ a hs ha Q hQ
  unfold evN at h
  obtain⟨s0,g1,g2,g3⟩:=frzK_ok _ _ _ h
  obtain⟨I1,φ1,n1,n2⟩:=g3 w I φ a hs
  exact regN_ok henv hrun hm (id:=id) hok g1 w I1 φ1 a n1 ha Q fun s' a' w' φ' I' c0 c00 c1 c2 c3 c4=>(hQ.after rfl (n2 base hb)) .normal s' a' w' φ' I' c0 (Nat.le_trans hb (Nat.le_trans g2 c00)) c1 c2 c3 (c4 base (Nat.le_trans hb g2))
 | seq x y ihx ihy=>
  intro cur k s r hok h hb w I φ a hs ha Q hQ
  obtain⟨hok1,hok2⟩:=and_true' (show(okCode x&&okCode y)=true from hok)
  unfold evN at h
  refine wp_seq (ihx _ _ _ _ hok1 h hb w I φ a hs ha _ fun e s1 a' w' φ' I' h1 b1 c1 c2 c3 c4=>?_)
  cases e with
  | normal=>exact ihy _ _ _ _ hok2 h1 b1 w' I' φ' a' c3 c1 Q (hQ.after c2 c4)
  | exit id=>exact hQ _ s1 a' w' φ' I' h1 b1 c1 c2 c3 c4
  | goto l=>exact hQ _ s1 a' w' φ' I' h1 b1 c1 c2 c3 c4
  | ret=>exact hQ _ s1 a' w' φ' I' h1 b1 c1 c2 c3 c4
 | cond c x y ihx ihy=>
  intro cur k s r hok h hb w I φ a hs ha Q hQ
  obtain⟨hok1,hok2⟩:=and_true' (show(okCode x&&okCode y)=true from hok)
  unfold evN at h
  split at h
  ·rename_i b hbb
   have hev:a.eval c=.bool b:=by
    have:=hs.fr.eval c
    rw[hbb]at this
    generalize a.eval c=u at this
    cases this;rfl
   cases b with
   | true=>exact wp_cond hev (ihx _ _ _ _ hok1 h hb w I φ a hs ha Q hQ)
   | false=>exact wp_cond hev (ihy _ _ _ _ hok2 h hb w I φ a hs ha Q hQ)
  ·cases h
 | block id x ih=>
  intro cur k s r hok h hb w I φ a hs ha Q hQ
  unfold evN at h
  refine wp_block (ih _ _ _ _ hok h hb w I φ a hs ha _ fun e s1 a' w' φ' I' h1 b1 c1 c2 c3 c4=>?_)
  cases e with
  | exit id'=>
   simp only at h1
   cases hid:Nat.beq id' id with
   | true=>
    rw[hid,cond_true]at h1
    have hid:=Nat.eq_of_beq_eq_true hid
    subst hid
    simp only[AX.x,Exit.inBlock,if_true]
    exact hQ .normal s1 a' w' φ' I' h1 b1 c1 c2 c3 c4
   | false=>
    rw[hid,cond_false]at h1
    have hne:id' ≠ id:=fun e=>by subst e;simp at hid
    simp only[AX.x,Exit.inBlock,if_neg hne]
    exact hQ (.exit id') s1 a' w' φ' I' h1 b1 c1 c2 c3 c4
  | normal=>exact hQ _ s1 a' w' φ' I' h1 b1 c1 c2 c3 c4
  | goto l=>exact hQ _ s1 a' w' φ' I' h1 b1 c1 c2 c3 c4
  | ret=>exact hQ _ s1 a' w' φ' I' h1 b1 c1 c2 c3 c4
 | loop x ih=>
  intro cur k s r hok h hb w I φ a hs ha Q hQ
  unfold evN at h
  have key:∀ m k s r,loopK (norm base (env.live fn cur)) (evN env run fn nt n base cur x) m k s=some r->base<=s.hp.length -> ∀ (w:World) (I:Nat->Prop) (φ:Phi) (a:Act),StOk w I φ s a->nt<=a.tmps.size -> ∀ Q,PostN nt base k r s w I φ a Q->wpL P x Q a w:=by
   intro m
   induction m with
   | zero=>intro k s r h;cases h
   | succ m ihm=>
    intro k s r h hb w I φ a hs ha Q hQ
    unfold loopK at h
    refine wpL_step (ih _ _ _ _ hok h hb w I φ a hs ha _ fun e s1 a' w' φ' I' h1 b1 c1 c2 c3 c4=>?_)
    cases e with
    | normal=>
     obtain⟨n1,φ1,n2,n3⟩:=norm_ok base (env.live fn cur) c3 b1
     exact ihm _ _ _ h1 n1 w' I' φ1 a' n2 c1 Q (hQ.after c2 (c4.trans n3))
    | exit id=>exact hQ _ s1 a' w' φ' I' h1 b1 c1 c2 c3 c4
    | goto l=>exact hQ _ s1 a' w' φ' I' h1 b1 c1 c2 c3 c4
    | ret=>exact hQ _ s1 a' w' φ' I' h1 b1 c1 c2 c3 c4
  obtain⟨n1,φ1,n2,n3⟩:=norm_ok base (env.live fn cur) hs hb
  exact wpL_loop (key n k _ r h n1 w I φ1 a n2 ha Q (hQ.after rfl n3))
 | exit id=>
  intro cur k s r _ h hb w I φ a hs ha Q hQ
  exact wp_exit (hQ (.exit id) s a w φ I h hb ha rfl hs (Step.refl _ _ _ _ _))
 | ret=>
  intro cur k s r _ h hb w I φ a hs ha Q hQ
  exact wp_ret (hQ .ret s a w φ I h hb ha rfl hs (Step.refl _ _ _ _ _))
 | label l=>intro cur k s r _ h;simp[evN]at h
 | goto l=>intro cur k s r _ h;simp[evN]at h
 | scope x ih=>intro cur k s r _ h;simp[evN]at h
 | rangeFunc f p a b=>intro cur k s r _ h;simp[evN]at h
 | refuse why=>intro cur k s r _ h;simp[evN]at h
end
theorem snap_world{φ φ':Phi}{I I':Nat->Prop}{w w':World}{res r:AV}{hp':Heap}{u:Value}(h:snK res hp'=some r)(h1:RV w' I' φ' res u)(h2:RH w' I' φ' (hget hp'))(h3:Step 0 (hget []) φ I w (hget hp') φ' I' w') :
  ∃ φ2 I2,RV w' I2 φ2 r u/\RH w' I2 φ2 (hget [])/\Step 0 (hget []) φ I w (hget []) φ2 I2 w':=by
 unfold snK at h
 split at h
 ·rename_i r1 l1 g1 hs1
  obtain⟨hg,h⟩:=cond_some h
  subst hg
  cases h
  replace hs1:=ungard_some.2 hs1
  obtain⟨s1,s2⟩:=(snap_ok h2 depth).1 _ _ _ hs1
  have hr:=s2 (fun B=>I' B\/InL φ' l1 B) (fun B hB=>.inl hB) (fun B hB=>.inr hB) u h1
  refine⟨Phi.no,fun B=>I' B\/InL φ' l1 B,hr,RH.empty w' _ fun B hB=>hB.elim (h2.lt B) (inL_lt h2 s1),fun b p hb=>absurd hb (Nat.not_lt_zero b),fun B hB=>.inl (h3.Ile B hB),?_,fun B hB=>(not_mut_nil hB).elim,h3.ext⟩
  rintro B (hB | ⟨b,hb,o,sz,e⟩)
  ·exact h3.Inew B hB
  ·cases hm:mutable (hget hp' b)with
   | true=>exact .inr ((h3.mt B ⟨b,o,sz,hm,e⟩).imp id id)
   | false=>exact h3.Inew B (h2.imm b B o sz (s1 b hb) hm e)
 ·cases h
def finN(env:Env)(fn:Func)(e:AX)(s:St):Option AV:=match e with
 | .normal | .ret=>resultsK env.tt s fn.results.toList fun vs=>snK (tupled vs) s.hp
 | _=>.none
def finF(env:Env)(f:Nat)(e:AX)(s:St):Option AV:=match env.code f with
 | some fn=>finN env fn e s
 | .none=>.none
def callN(env:Env)(n f:Nat)(args:List AV):Option AV:=match env.code f with
 | some fn=>match fn.body with
  | some c=>evN env (evFn env n) f fn.ntmps n 0 0 c (finN env fn) {fr:=mkFrame 0 args,hp:=[]}
  | .none=>.none
 | .none=>.none
theorem callN_ok{P:Program}{env:Env}(henv:EnvOk P env)(hcode:CodeOk P env)(hm:P.follows .mixedOrders=true){n f:Nat}{args:List AV}{r:AV}
  (h:callN env n f args=some r):Contract P f args [] r []:=by
 unfold callN at h
 cases hf:env.code f with
 | none=>rw[hf]at h;cases h
 | some fn=>
  rw[hf]at h
  simp only at h
  obtain⟨hfn,hbody,hname,hok⟩:=hcode f fn hf
  cases hb:fn.body with
  | none=>rw[hb]at h;cases h
  | some c=>
   rw[hb]at h
   simp only at h
   intro w I φ ra hh hx
   refine .inl ⟨?_,calls_of_wp hfn hb ?_⟩
   ·simp only[callFunc,Sem.run_bind,run_program,Result.andThen_ok,hfn,hname,hbody,Bool.false_eq_true,if_false,Sem.run_pure]
   ·have hst:StOk w I φ {fr:=mkFrame 0 args,hp:=[]} {tmps:=ra++Array.replicate (fn.ntmps - ra.size) undef,defers:=[]}:=⟨hh,frame_ok hx _⟩
    refine evN_ok henv (ev_ok henv hcode hm n) hm c 0 _ _ _ (hok c hb) h (Nat.le_refl _) w I φ _ hst (by simp;omega) _ fun e s' a' w' φ' I' h1 b1 c1 c2 c3 c4=>?_
    have key:(e=.normal\/e=.ret)/\resultsK env.tt s' fn.results.toList (fun vs=>snK (tupled vs) s'.hp)=some r:=by
     cases e with
     | normal=>exact⟨.inl rfl,h1⟩
     | ret=>exact⟨.inr rfl,h1⟩
     | exit id=>cases h1
     | goto l=>cases h1
    obtain⟨he,h3⟩:=key
    obtain⟨vs,h4,h5⟩:=results_ok henv.tt _ _ h3
    obtain⟨us,d1,d2,d3⟩:=h5 w' I' φ' a' c3
    have hres:(results fn a'.tmps).run P w'=.ok (if h:us.toArray.size=1 then us.toArray[0]else .tuple us.toArray) w':=by
     unfold results
     rw[Array.mapM_eq_mapM_toList]
     simp only[map_eq_pure_bind,bind_assoc,pure_bind,Sem.run_bind]
     exact(congrArg (fun(x:Result (List Value))=>x.andThen fun us w=>(pure (if h:us.toArray.size=1 then us.toArray[0]else Value.tuple us.toArray):Sem Value).run P w) d1)
    have hfin:bodyPost P fn (fun e w'=>∃ u,e=.returned u /\ ∃ φ' I',RV w' I' φ' r u/\RH w' I' φ' (hget [])/\Step ([]:Heap).length (hget []) φ I w (hget []) φ' I' w') .normal a' w':=by
     refine⟨c2,_,hres,_,rfl,?_⟩
     refine snap_world h4 ?_ c3.hh c4
     have htup:us.length ≠ 1->RV w' I' φ' (.tup vs) (if h:us.toArray.size=1 then us.toArray[0]else .tuple us.toArray):=by
      intro hne
      rw[dif_neg (by simpa using hne)]
      exact .tup _ _ (by simpa using d2) fun i x u e e'=>d3 i x u e (by simpa using e')
     cases vs with
     | nil=>exact htup (by simp at d2;omega)
     | cons v l=>
      cases l with
      | nil=>
       cases us with
       | nil=>simp at d2
       | cons u us=>
        cases us with
        | nil=>exact d3 0 v u rfl rfl
        | cons u' us=>simp at d2
      | cons v' l=>exact htup (by simp at d2;omega)
    rcases he with rfl | rfl
    ·exact hfin
    ·exact hfin
section
variable (env:Env) (run:CallK R) (fn nt n base:Nat)
def contN:Nat->Code->List PE->(AX->St->Option R)->AX->St->Option R
 | _,_,[],k=>k
 | cur,.seq a b,.L::p,k=>contN cur a p fun e s'=>match e with
  | .normal=>evN env run fn nt n base cur b k s'
  | e=>k e s'
 | cur,.seq _ b,.R::p,k=>contN cur b p k
 | cur,.cond _ a _,.L::p,k=>contN cur a p k
 | cur,.cond _ _ b,.R::p,k=>contN cur b p k
 | _,.block id a,_::p,k=>contN id a p fun e s'=>match e with
  | .exit id'=>bif Nat.beq id' id then k .normal s' else k (.exit id') s'
  | e=>k e s'
 | cur,.loop a,.lp m::p,k=>contN cur a p fun e s'=>match e with
  | .normal=>loopK (norm base (env.live fn cur)) (evN env run fn nt n base cur a) m k (norm base (env.live fn cur) s')
  | e=>k e s'
 | _,_,_::_,k=>k
end
def lptN(env:Env)(n f:Nat)(p:List PE)(m:Nat)(s:St):Option AV:=
 match sub (bodyOf env f) p with
 | .loop a=>loopK (norm 0 (env.live f (curAt 0 (bodyOf env f) p))) (evN env (evFn env n) f (ntOf env f) n 0 (curAt 0 (bodyOf env f) p) a) m
   (contN env (evFn env n) f (ntOf env f) n 0 0 (bodyOf env f) p (finF env f)) s
 | _=>.none
def LPN(env:Env)(n f b:Nat)(fs:List Nat)(m:Nat)(s:St):Option AV:=
 match findL b (bodyOf env f) 0 fs with
 | some p=>lptN env n f p m s
 | .none=>.none
end Go.AM
end
noncomputable section
open Go Go.AM Go.Md
namespace Go.Hd
open Go.Wk
set_option maxRecDepth 100000
set_option maxHeartbeats 400000
def eBa(l:List Known):Env:=envN [(F_tail_Batch,0,[1,2,3,4,9,21,22,23,1001]),(F_tail_Batch,2,[3,4,12,13,45,1013999]),(F_tail_Batch,4,[4,16,71,72,73,11016999])] [(F_tail_Batch,0),(F_tail_ends,1),(F_tail_settled,5),(F_slices_SortFunc_int,5),(F_ver_Ahead,0)] [] l
def knBa:List Known:=[kAhead,kEnds,kSettled,kSort]
theorem ba_in(N:Nat)(t:Tail)(upto:Ver)(done:List Itm)(most:Int):callN (eBa knBa) N F_tail_Batch [AV.agg (encTail t),eV upto,encItems done,AV.int IntKind.i64 most] =
 LPN (eBa knBa) (N) (F_tail_Batch) 0 [] (N) ({fr:=[(1,AV.cplx FloatKind.f64 upto.re upto.im),(2,AV.tr 4 done.length fun i=>encItem (done.getD i default)),(3,AV.int IntKind.i64 most),(4,AV.ptr 0 0 0),(9,AV.mp 1),(21,encEntrys t.log),(22,AV.int IntKind.i64 (↑t.log.length:Int)),(23,AV.int IntKind.i64 0),(1001,AV.undef)],hp:=[BS.arr true 3 [encTail t],BS.pmap true [] fun x=>AV.int IntKind.i64 0]}):=by kernel_rfl
structure BaA where
 t:Tail
 upto:Ver
 done:List Itm
 most:Int
def SB0(p:BaA)(M:MC)(i:Int):St:={fr:=[(1,eV p.upto),(2,encItems p.done),(3,.int .i64 p.most),(4,.ptr 0 0 0),(9,.mp 1),(21,encEntrys p.t.log),(22,.int .i64 p.t.log.length),(23,.int .i64 i),(1001,.undef)],hp:=[.arr true 3 [encTail p.t],.pmap true M.1 fun k=>.int .i64 (M.2 k)]}
theorem b0_st(N:Nat)(m:Nat)(p:BaA)(M:MC)(i:Int):LPN (eBa knBa) N F_tail_Batch 0 [] (m+1) (SB0 p M i) =
 bif decide (i<(↑p.t.log.length:Int))then
  bif decide (0<=i)&&decide (i<(↑p.t.log.length:Int))then
   bif(p.t.log.getD i.toNat default).write then
    gC (dV2) (V2) (eV2) ([AV.cplx FloatKind.f64 p.upto.re p.upto.im,AV.cplx FloatKind.f64 (p.t.log.getD i.toNat default).ver.re (p.t.log.getD i.toNat default).ver.im]) fun y0=>
    bif !vlt y0.fst y0.snd then
     LPN (eBa knBa) (N) (F_tail_Batch) 0 ([]) (m) ({fr:=[(1,AV.cplx FloatKind.f64 p.upto.re p.upto.im),(2,AV.tr 4 p.done.length fun i=>encItem (p.done.getD i default)),(3,AV.int IntKind.i64 p.most),(4,AV.ptr 0 0 0),(9,AV.mp 1),(21,encEntrys p.t.log),(22,AV.int IntKind.i64 (↑p.t.log.length:Int)),(23,AV.int IntKind.i64 (IntKind.i64.wrap (i+1))),(1001,AV.undef)],hp:=[BS.arr true 3 [encTail p.t],BS.pmap true (bif memS (p.t.log.getD i.toNat default).key M.fst then M.fst else M.fst++[(p.t.log.getD i.toNat default).key]) fun x=>bif strBeq x (p.t.log.getD i.toNat default).key then AV.int IntKind.i64 i else AV.int IntKind.i64 (M.snd x)]})
    else
     LPN (eBa knBa) (N) (F_tail_Batch) 0 ([]) (m) (SB0 p M (IntKind.i64.wrap (i+1)))
   else
    LPN (eBa knBa) (N) (F_tail_Batch) 0 ([]) (m) (SB0 p M (IntKind.i64.wrap (i+1)))
  else none
 else
  gC (fun a=>decL decItem (a.getD 0 AV.nils)) (fun l=>l.length<=100000) (fun l=>[encItems l]) ([AV.tr 4 p.done.length fun i=>encItem (p.done.getD i default)]) fun y1=>
  LPN (eBa knBa) (N) (F_tail_Batch) 2 ([]) (N) ({fr:=[(3,AV.int IntKind.i64 p.most),(4,AV.ptr 0 0 0),(12,AV.mp 1),(13,AV.sn 1 2 0),(45,AV.ptr 3 0 0),(1013999,AV.undef)],hp:=[BS.arr true 3 [encTail p.t],BS.pmap true (endsP y1).fst fun k=>AV.cplx FloatKind.f64 ((endsP y1).snd k).re ((endsP y1).snd k).im,BS.seq true 1 0 fun x=>[],BS.piter true M.fst (fun k=>AV.int IntKind.i64 (M.snd k)) M.fst none]}):=by kernel_rfl
def SB2(p:BaA)(E:MV)(M:MC)(n:Nat)(F:Nat->List AV)(rem:List Txt)(cur:Option Txt):St:={fr:=[(3,.int .i64 p.most),(4,.ptr 0 0 0),(12,.mp 1),(13,.sn 1 2 n),(45,.ptr 3 0 0),(1013999,.undef)],hp:=[.arr true 3 [encTail p.t],.pmap true E.1 fun k=>eV (E.2 k),.seq true 1 n F,.piter true M.1 (fun k=>.int .i64 (M.2 k)) rem cur]}
theorem b2_st(N:Nat)(m:Nat)(p:BaA)(E:MV)(M:MC)(n:Nat)(F:Nat->List AV)(rem:List Txt)(cur:Option Txt):LPN (eBa knBa) N F_tail_Batch 2 [] (m+1) (SB2 p E M n F rem cur) =
 bif rem.isEmpty then
  gCG (dLS) (pLS) (eLV) ([AV.sn 1 0 n,AV.fn (Fn.func F_tail_Batch_c1) [] [AV.ptr 1 0 0]]) ([BS.seq true 1 n F,BS.arr true 3 [encTail p.t]]) fun y2=>
  bif decide (0<=bif decide ((bif decide (p.most<0)then 0 else p.most)<(↑n:Int))then bif decide (p.most<0)then 0 else p.most else(↑n:Int))&&decide ((bif decide ((bif decide (p.most<0)then 0 else p.most)<(↑n:Int))then bif decide (p.most<0)then 0 else p.most else(↑n:Int))<=(↑n:Int))then
   LPN (eBa knBa) (N) (F_tail_Batch) 4 ([]) (N) ({fr:=[(4,AV.ptr 0 0 0),(16,AV.sn 11 1 0),(71,AV.sn 1 2 (bif decide ((bif decide (p.most<0)then 0 else p.most)<(↑n:Int))then bif decide (p.most<0)then 0 else p.most else(↑n:Int)).toNat),(72,AV.int IntKind.i64 (↑(bif decide ((bif decide (p.most<0)then 0 else p.most)<(↑n:Int))then bif decide (p.most<0)then 0 else p.most else(↑n:Int)).toNat:Int)),(73,AV.int IntKind.i64 0),(11016999,AV.undef)],hp:=[BS.arr true 3 [encTail y2.snd],BS.seq true 11 0 fun x=>[],BS.seq true 1 (sortS (ltT y2.snd) y2.fst).length fun i=>[AV.int IntKind.i64 ((sortS (ltT y2.snd) y2.fst).getD i 0)]]})
  else none
 else
  chs (rem) fun y3=>
  bif decide (0<=M.snd y3)&&decide (M.snd y3<(↑p.t.log.length:Int))then
   gCG (dEM) (pEM) (eEM) ([AV.agg (encEntry (p.t.log.getD (M.snd y3).toNat default)),AV.mp 0]) ([BS.pmap true E.fst fun k=>AV.cplx FloatKind.f64 (E.snd k).re (E.snd k).im]) fun y4=>
   bif !settledP y4.fst y4.snd then
    bif n.ble n then
     bif((n+1)*8).ble 140737488355328&&(n+1).ble 140737488355328 then
      LPN (eBa knBa) (N) (F_tail_Batch) 2 ([]) (m) ({fr:=[(3,AV.int IntKind.i64 p.most),(4,AV.ptr 0 0 0),(12,AV.mp 1),(13,AV.sn 1 2 (n+1)),(45,AV.ptr 3 0 0),(1013999,AV.undef)],hp:=[BS.arr true 3 [encTail p.t],BS.pmap true y4.snd.fst fun k=>AV.cplx FloatKind.f64 (y4.snd.snd k).re (y4.snd.snd k).im,BS.seq true 1 (n+1) (appN n F (View.list [[AV.int IntKind.i64 (M.snd y3)]])),BS.piter true M.fst (fun k=>AV.int IntKind.i64 (M.snd k)) (List.filter (fun x=>!strBeq x y3) rem) (some y3)]})
     else none
    else none
   else
    LPN (eBa knBa) (N) (F_tail_Batch) 2 ([]) (m) ({fr:=[(3,AV.int IntKind.i64 p.most),(4,AV.ptr 0 0 0),(12,AV.mp 1),(13,AV.sn 1 2 n),(45,AV.ptr 3 0 0),(1013999,AV.undef)],hp:=[BS.arr true 3 [encTail p.t],BS.pmap true y4.snd.fst fun k=>AV.cplx FloatKind.f64 (y4.snd.snd k).re (y4.snd.snd k).im,BS.seq true 1 n F,BS.piter true M.fst (fun k=>AV.int IntKind.i64 (M.snd k)) (List.filter (fun x=>!strBeq x y3) rem) (some y3)]})
  else none:=by kernel_rfl
def SB4(t:Tail)(L:List Int)(k n:Nat)(G:Nat->List AV)(i:Int):St:={fr:=[(4,.ptr 0 0 0),(16,.sn 11 1 n),(71,.sn 1 2 k),(72,.int .i64 k),(73,.int .i64 i),(11016999,.undef)],hp:=[.arr true 3 [encTail t],.seq true 11 n G,sqL 1 eI 0 L]}
theorem b4_st(N:Nat)(m:Nat)(t:Tail)(L:List Int)(k:Nat)(n:Nat)(G:Nat->List AV)(i:Int):LPN (eBa knBa) N F_tail_Batch 4 [] (m+1) (SB4 t L k n G i) =
 bif decide (i<(↑k:Int))then
  bif decide (0<=i)&&decide (i<(↑k:Int))then
   bif i.toNat.blt L.length then
    bif decide (0<=L.getD i.toNat 0)&&decide (L.getD i.toNat 0<(↑t.log.length:Int))then
     bif n.ble n then
      bif((n+1)*112).ble 140737488355328&&(n+1).ble 140737488355328 then
       LPN (eBa knBa) (N) (F_tail_Batch) 4 ([]) (m) ({fr:=[(4,AV.ptr 0 0 0),(16,AV.sn 11 1 (n+1)),(71,AV.sn 1 2 k),(72,AV.int IntKind.i64 (↑k:Int)),(73,AV.int IntKind.i64 (IntKind.i64.wrap (i+1))),(11016999,AV.undef)],hp:=[BS.arr true 3 [encTail t],BS.seq true 11 (n+1) (appN n G (View.list [encEntry (t.log.getD (L.getD i.toNat 0).toNat default)])),BS.seq true 1 L.length fun i=>[AV.int IntKind.i64 (L.getD i 0)]]})
      else none
     else none
    else none
   else none
  else none
 else
  bif n.ble n then
   some (AV.tr 11 n G)
  else none:=by kernel_rfl
def lastS(upto:Ver)(M:MC)(i:Nat)(e:Entry):MC:=bif e.write && !vlt upto e.ver then(insK M.1 e.key,updV M.2 e.key (i:Int))else M
def lastGo(upto:Ver):List Entry->Nat->MC->MC
 | [],_,M=>M
 | e::r,i,M=>lastGo upto r (i+1) (lastS upto M i e)
def lastP(p:BaA):MC:=lastGo p.upto p.t.log 0 ([],fun _=>0)
def picks(t:Tail)(E:MV)(M:MC)(ks:List Txt):List Int:=(ks.map M.2).filter fun i=>!settledP (t.log.getD i.toNat default) E
def clampP(most:Int)(n:Nat):Int:=bif decide ((bif decide (most<0)then 0 else most)<(n:Int))then bif decide (most<0)then 0 else most else(n:Int)
def resP(t:Tail)(most:Int)(l:List Int):List Entry:=((sortS (ltT t) l).take (clampP most l.length).toNat).map fun i=>t.log.getD i.toNat default
def batchP(p:BaA):List Entry:=resP p.t p.most (picks p.t (endsP p.done) (lastP p) (lastP p).1)
theorem clamp_le(most:Int)(n:Nat):0<=clampP most n/\clampP most n<=n:=by
 unfold clampP
 by_cases h1:most<0
 ·rw[decide_eq_true h1,cond_true]
  by_cases h2:(0:Int)<n
  ·rw[decide_eq_true h2,cond_true];omega
  ·rw[decide_eq_false h2,cond_false];omega
 ·rw[decide_eq_false h1,cond_false]
  by_cases h2:most<n
  ·rw[decide_eq_true h2,cond_true];omega
  ·rw[decide_eq_false h2,cond_false];omega
theorem ltT_iff(t:Tail)(a b:Int):ltT t a b=true ↔ ep (t.log.getD a.toNat default).ver<ep (t.log.getD b.toNat default).ver\/(ep (t.log.getD a.toNat default).ver=ep (t.log.getD b.toNat default).ver /\
  (nu (t.log.getD a.toNat default).ver<nu (t.log.getD b.toNat default).ver\/(nu (t.log.getD a.toNat default).ver=nu (t.log.getD b.toNat default).ver/\a<b))):=by
 unfold ltT cmpT
 cases h1:vlt (t.log.getD a.toNat default).ver (t.log.getD b.toNat default).ver with
 | true=>
  rw[vlt_iff]at h1
  simp only[cond_true]
  constructor
  ·intro _;omega
  ·intro _;rfl
 | false=>
  have h1':¬ _:=fun h=>by rw[vlt_iff.2 h]at h1;cases h1
  cases h2:vlt (t.log.getD b.toNat default).ver (t.log.getD a.toNat default).ver with
  | true=>
   rw[vlt_iff]at h2
   simp only[cond_true,cond_false]
   constructor
   ·intro h;simp at h
   ·intro h;omega
  | false=>
   have h2':¬ _:=fun h=>by rw[vlt_iff.2 h]at h2;cases h2
   simp only[cond_false]
   rw[cmp_lt,decide_eq_true_iff]
   constructor
   ·intro h;omega
   ·intro h;omega
theorem ltT_tr(t:Tail):∀ a b c,ltT t a b=true->ltT t b c=true->ltT t a c=true:=by
 intro a b c h1 h2
 rw[ltT_iff]at h1 h2 ⊢
 omega
theorem ltT_ir(t:Tail)(a:Int):ltT t a a=false:=by
 cases h:ltT t a a with
 | false=>rfl
 | true=>rw[ltT_iff]at h;omega
theorem ltT_tot(t:Tail){a b:Int}(h:a ≠ b):ltT t a b=true\/ltT t b a=true:=by
 rw[ltT_iff,ltT_iff];omega
theorem resP_perm{t:Tail}{most:Int}{l l':List Int}(h:l.Perm l')(hn:l.Nodup):resP t most l=resP t most l':=by
 unfold resP
 rw[sortS_eq (ltT_tr t) (ltT_ir t) h (hn.imp fun {a b} hab=>ltT_tot t hab),h.length_eq]
def LOk(log:List Entry)(M:MC):Prop:=M.1.Nodup /\ ∀ k ∈ M.1,0<=M.2 k/\M.2 k<log.length/\(log.getD (M.2 k).toNat default).key=k
theorem insK_nodup{ks:List Txt}{s:Txt}(h:ks.Nodup):(insK ks s).Nodup:=by
 unfold insK
 cases hm:memS s ks with
 | true=>exact h
 | false=>
  rw[cond_false]
  have:s ∉ ks:=fun hc=>by rw[(memS_iff s ks).2 hc]at hm;cases hm
  rw[List.nodup_append]
  exact⟨h,by simp,fun a ha b hb=>by simp at hb;subst hb;exact fun hc=>this (hc ▸ ha)⟩
theorem lastS_ok{log:List Entry}{upto:Ver}{M:MC}{i:Nat}(h:LOk log M)(hi:i<log.length):LOk log (lastS upto M i (log.getD i default)):=by
 unfold lastS
 cases (log.getD i default).write && !vlt upto (log.getD i default).ver with
 | false=>exact h
 | true=>
  rw[cond_true]
  refine⟨insK_nodup h.1,fun k hk=>?_⟩
  show 0<=updV M.2 _ _ k/\updV M.2 _ _ k<_/\(log.getD (updV M.2 _ _ k).toNat default).key=k
  unfold updV
  cases hb:strBeq k (log.getD i default).key with
  | true=>
   rw[strBeq_eq]at hb
   have hb:k=(log.getD i default).key:=by simpa using hb
   rw[cond_true,Int.toNat_natCast]
   exact⟨by omega,by omega,hb.symm⟩
  | false=>
   rw[cond_false]
   rcases mem_insK.1 hk with e | e
   ·rw[e,strBeq_self]at hb;cases hb
   ·exact h.2 k e
theorem insK_len(ks:List Txt)(s:Txt):(insK ks s).length<=ks.length+1:=by
 unfold insK
 cases memS s ks <;> simp
theorem lastGo_ok{log:List Entry}{upto:Ver}:∀ (r:List Entry) (i:Nat) (M:MC),LOk log M->M.1.length<=i->log.drop i=r->LOk log (lastGo upto r i M)/\(lastGo upto r i M).1.length<=i+r.length
 | [],i,M,h,hl,_=>⟨h,by simpa [lastGo] using hl⟩
 | e::r,i,M,h,hl,hr=>by
  have hi:i<log.length:=by
   rcases Nat.lt_or_ge i log.length with h | h
   ·exact h
   ·rw[List.drop_eq_nil_of_le h]at hr;cases hr
  rw[drop_cons (z:=(default:Entry)) hi]at hr
  obtain⟨he,hr⟩:=List.cons.inj hr
  have:=lastGo_ok (upto:=upto) r (i+1) (lastS upto M i e) (by rw[<- he];exact lastS_ok h hi) (by
   unfold lastS
   cases e.write && !vlt upto e.ver
   ·exact Nat.le_succ_of_le hl
   ·exact Nat.le_trans (insK_len _ _) (by omega)) hr
  refine⟨this.1,?_⟩
  have:=this.2
  rw[List.length_cons]
  unfold lastGo
  omega
theorem conNN{lv:List (Nat × Nat × List Nat)}{md:List (Nat × Nat)}{fz:List (Nat × Nat × List Nat)}{l:List Known}(h:∀ k ∈ l,k.Ok PG){n f:Nat}{args:List AV}{r:AV}
  (e:callN (envN lv md fz l) n f args=some r):Contract PG f args [] r []:=callN_ok (envN_ok h) envN_code mixed e
theorem ble_le{a b:Nat}(h:a<=b):Nat.ble a b=true:=Nat.ble_eq_true_of_le h
def gx{X:Type}(e:X->List AV)(z:X)(l:List X):Nat->List AV:=fun j=>bif Nat.blt j l.length then e (l.getD j z)else []
theorem gx_one{X:Type}(e:X->List AV)(z:X)(l:List X)(x:X):appN l.length (gx e z l) (View.list [e x])=gx e z (l++[x]):=by
 funext j
 unfold gx
 rw[List.length_append,List.length_singleton]
 by_cases h:j<l.length
 ·rw[appN_1 h,blt_true h,blt_true (show j<l.length+1 by omega),cond_true,cond_true]
  simp only[List.getD]
  rw[List.getElem?_append_left h]
 ·by_cases h2:j=l.length
  ·subst h2
   rw[appN_2 (Nat.le_refl _) (show l.length<l.length+1 by omega),blt_true (show l.length<l.length+1 by omega),cond_true]
   simp only[List.getD]
   rw[List.getElem?_append_right (Nat.le_refl _),Nat.sub_self];rfl
  ·rw[blt_false (show l.length+1<=j by omega),cond_false]
   have e1:appN l.length (fun j=>bif Nat.blt j l.length then e (l.getD j z)else []) (View.list [e x]) j=(fun j=>bif Nat.blt j l.length then e (l.getD j z)else []) l.length:=by
    unfold appN
    rw[blt_false (show l.length<=j by omega),cond_false,show Nat.blt j (l.length+(View.list [e x]).len)=false from blt_false (show l.length+1<=j by omega)];rfl
   rw[e1]
   dsimp only
   rw[blt_false (Nat.le_refl _)];rfl
theorem gx_at{X:Type}{e:X->List AV}{z:X}{l:List X}{i:Nat}(h:i<l.length):gx e z l i=e (l.getD i z):=by unfold gx;rw[blt_true h];rfl
theorem dRow_gx{X:Type}{sz:Nat}{e:X->List AV}{d:List AV->X}{z:X}(h:∀ x,d (e x)=x)(l:List X):dRow d (.seq true sz l.length (gx e z l))=l:=by
 show(List.range l.length).map (fun i=>d (gx e z l i))=l
 refine List.ext_getElem (by simp) fun i g1 g2=>?_
 simp[gx_at g2,h,List.getD,List.getElem?_eq_getElem g2]
def fE(t:Tail)(i:Int):Entry:=t.log.getD i.toNat default
def aE(out:List Entry):AV:=.tr 11 out.length (gx encEntry default out)
theorem run4{t:Tail}{L:List Int}{k:Nat}(N:Nat)(hk:k<=L.length)(hk2:k<=100000)(hP:PlT t L):∀ (d i m:Nat) (out:List Entry),out=(L.take i).map (fE t)->i+d=k->d<m ->
  LPN (eBa knBa) N F_tail_Batch 4 [] m (SB4 t L k out.length (gx encEntry default out) (i:Nat))=some (aE ((L.take k).map (fE t))):=by
 intro d
 induction d with
 | zero=>
  intro i m out ho hi hm
  obtain⟨m,rfl⟩:∃ k,m=k+1:=⟨m - 1,by omega⟩
  have hik:i=k:=by omega
  subst hik
  rw[b4_st,decide_eq_false (by omega),cond_false,ble_le (Nat.le_refl _),cond_true,ho]
  rfl
 | succ d ih=>
  intro i m out ho hi hm
  obtain⟨m,rfl⟩:∃ k,m=k+1:=⟨m - 1,by omega⟩
  have hil:i<L.length:=by omega
  have hol:out.length=i:=by rw[ho];simp;omega
  have hp:=hP _ (getD_mem (z:=(0:Int)) hil)
  have e:=ih (i+1) m (out++[fE t (L.getD i 0)]) (by rw[ho,List.take_add_one,List.map_append,List.getD,List.getElem?_eq_getElem hil];rfl) (by omega) (by omega)
  rw[List.length_append,<- gx_one encEntry default out (fE t (L.getD i 0))]at e
  rw[b4_st,decide_eq_true (show((i:Nat):Int)<(k:Int) by omega),decide_eq_true (show(0:Int)<=(i:Int) by omega),Int.toNat_natCast,blt_true hil,decide_eq_true hp.1,decide_eq_true hp.2,ble_le (Nat.le_refl _),
   ble_le (show(out.length+1)*112<=140737488355328 by omega),ble_le (show out.length+1<=140737488355328 by omega),wrapS (by omega)]
  exact e
theorem del_perm{rem:List Txt}(hn:rem.Nodup){y:Txt}(hy:y ∈ rem):rem.Perm (y::delS y rem):=by
 have h:=List.perm_cons_erase hy
 rw[hn.erase_eq_filter]at h
 have:delS y rem=rem.filter (· != y):=by
  unfold delS
  congr 1
  funext x
  rw[strBeq_eq];rfl
 rw[this];exact h
theorem picks_perm{t:Tail}{E:MV}{M:MC}{a b:List Txt}(h:a.Perm b):(picks t E M a).Perm (picks t E M b):=(h.map _).filter _
theorem run2{p:BaA}{E:MV}{M:MC}(N:Nat)(hN:100000<=N)(hlog:VT p.t)(hE:∀ k ∈ E.1,VNum (E.2 k))(hM:LOk p.t.log M):∀ (c m:Nat) (rem:List Txt) (l:List Int) (cur:Option Txt),rem.length=c->c<m->rem.Nodup->(∀ y ∈ rem,y ∈ M.1) ->
  (l++rem.map M.2).Nodup->PlT p.t l->l.length+c<=12 ->
  LPN (eBa knBa) N F_tail_Batch 2 [] m (SB2 p E M l.length (gx eI 0 l) rem cur)=some (aE (resP p.t p.most (l++picks p.t E M rem))):=by
 intro c
 induction c with
 | zero=>
  intro m rem l cur hc hm hn hs hnd hP hl
  obtain⟨m,rfl⟩:∃ k,m=k+1:=⟨m - 1,by omega⟩
  have:rem=[]:=List.length_eq_zero_iff.1 hc
  subst this
  have hq:∀ {K:LT->Option AV},gCG dLS pLS eLV (eLV (l,p.t)).1 (.seq true 1 l.length (gx eI 0 l)::hS p.t) K=K (l,p.t):=fun {K}=>gCG_eq (l,p.t) (Prod.ext (dRow_gx (sz:=1) (e:=eI) (z:=0) (d:=fun c=>getI c 0) (fun _=>rfl) l) (dec_encTail p.t)) ⟨by simpa using hl,hlog,hP⟩ (.refl _) (.cons (sqL_sub (Nat.le_refl _) fun i hi=>gx_at hi) (.refl _))
  have hcl:=clamp_le p.most l.length
  refine(b2_st N m p E M l.length (gx eI 0 l) [] cur).trans ?_
  rw[List.isEmpty_nil,cond_true]
  refine hq.trans ?_
  have hL:(sortS (ltT p.t) l).length=l.length:=(sortS_perm _ l).length_eq
  show(bif decide (0<=clampP p.most l.length)&&decide (clampP p.most l.length<=(l.length:Int))then LPN (eBa knBa) N F_tail_Batch 4 [] N (SB4 p.t (sortS (ltT p.t) l) (clampP p.most l.length).toNat 0 (fun _=>[]) ((0:Nat):Int))else none)=_
  rw[decide_eq_true hcl.1,decide_eq_true hcl.2,Bool.and_true,cond_true]
  have e:=run4 (t:=p.t) (L:=sortS (ltT p.t) l) (k:=(clampP p.most l.length).toNat) N (by rw[hL];omega) (by omega) (fun a ha=>hP a ((sortS_perm _ l).mem_iff.1 ha)) (clampP p.most l.length).toNat 0 N [] rfl (by omega) (by omega)
  rw[show l++picks p.t E M []=l from List.append_nil l]
  refine Eq.trans ?_ e
  rfl
 | succ c ih=>
  intro m rem l cur hc hm hn hs hnd hP hl
  obtain⟨m,rfl⟩:∃ k,m=k+1:=⟨m - 1,by omega⟩
  have hne:rem ≠ []:=fun h=>by rw[h]at hc;cases hc
  have hie:rem.isEmpty=false:=by cases rem with
   | nil=>exact absurd rfl hne
   | cons=>rfl
  refine(b2_st N m p E M l.length (gx eI 0 l) rem cur).trans ?_
  rw[hie,cond_false]
  refine chs_eq hne fun y hy=>?_
  have hyM:=hM.2 y (hs y hy)
  have hper:=del_perm hn hy
  have hlen:(delS y rem).length=c:=by have:=hper.length_eq;rw[hc,List.length_cons]at this;omega
  have hpp:(picks p.t E M rem).Perm (picks p.t E M (y::delS y rem)):=picks_perm hper
  have hnd2:(l++picks p.t E M rem).Nodup:=hnd.sublist ((List.Sublist.refl l).append List.filter_sublist)
  have hnd3:(l++M.2 y::(delS y rem).map M.2).Nodup:=(((hper.map M.2).append_left l).nodup_iff).1 hnd
  have hdn:(delS y rem).Nodup:=hn.sublist List.filter_sublist
  have hds:∀ z ∈ delS y rem,z ∈ M.1:=fun z hz=>hs z (List.mem_filter.1 hz).1
  rw[decide_eq_true hyM.1,decide_eq_true hyM.2.1,Bool.and_true,cond_true]
  have hv:=hlog.2 _ (getD_mem (z:=(default:Entry)) (show(M.2 y).toNat<p.t.log.length by omega))
  refine(gSettled_eq (p:=(p.t.log.getD (M.2 y).toNat default,E)) ⟨hv,hE⟩).trans ?_
  dsimp only
  cases hst:settledP (p.t.log.getD (M.2 y).toNat default) E with
  | true=>
   have e:=ih m (delS y rem) l (some y) hlen (by omega) hdn hds (hnd3.sublist ((List.Sublist.refl l).append (List.sublist_cons_self _ _))) hP (by omega)
   refine e.trans (congrArg (fun x=>some (aE x)) (resP_perm ?_ ?_))
   ·refine List.Perm.append_left l (List.Perm.symm ?_)
    refine hpp.trans ?_
    have:picks p.t E M (y::delS y rem)=picks p.t E M (delS y rem):=by
     unfold picks
     rw[List.map_cons,List.filter_cons,hst];rfl
    rw[this]
   ·exact(hnd3.sublist ((List.Sublist.refl l).append (List.sublist_cons_self _ _))).sublist ((List.Sublist.refl l).append List.filter_sublist)
  | false=>
   have hPl:PlT p.t (l++[M.2 y]):=fun a ha=>by
    rcases List.mem_append.1 ha with ha | ha
    ·exact hP a ha
    ·rw[List.mem_singleton.1 ha];exact⟨hyM.1,hyM.2.1⟩
   have e:=ih m (delS y rem) (l++[M.2 y]) (some y) hlen (by omega) hdn hds (by rw[List.append_assoc];exact hnd3) hPl (by rw[List.length_append,List.length_singleton];omega)
   rw[List.length_append,<- gx_one eI 0 l (M.2 y)]at e
   rw[ble_le (Nat.le_refl _),ble_le (show(l.length+1)*8<=140737488355328 by omega),ble_le (show l.length+1<=140737488355328 by omega)]
   refine Eq.trans e (congrArg (fun x=>some (aE x)) (resP_perm ?_ ?_))
   ·rw[List.append_assoc]
    refine List.Perm.append_left l (List.Perm.symm (hpp.trans ?_))
    have:picks p.t E M (y::delS y rem)=M.2 y::picks p.t E M (delS y rem):=by
     unfold picks
     rw[List.map_cons,List.filter_cons,hst];rfl
    rw[this];exact .refl _
   ·rw[List.append_assoc]
    exact hnd3.sublist ((List.Sublist.refl l).append (List.Sublist.cons_cons _ List.filter_sublist))
def pBa(p:BaA):Prop:=p.t.log.length<=12/\p.done.length<=100000/\VNum p.upto/\(∀ e ∈ p.t.log,VNum e.ver) /\ ∀ x ∈ p.done,VNum x.ver
def eBaA(p:BaA):List AV:=[.agg (encTail p.t),eV p.upto,encItems p.done,.int .i64 p.most]
theorem run0{p:BaA}(h:pBa p):∀ (d i m:Nat) (M:MC),i+d=p.t.log.length->d<m->LOk p.t.log M->M.1.length<=i ->
  LPN (eBa knBa) 200000 F_tail_Batch 0 [] m (SB0 p M (i:Nat))=some (aE (resP p.t p.most (picks p.t (endsP p.done) (lastGo p.upto (p.t.log.drop i) i M) (lastGo p.upto (p.t.log.drop i) i M).1))):=by
 obtain⟨h1,h2,h3,h4,h5⟩:=h
 intro d
 induction d with
 | zero=>
  intro i m M hi hm hM hl
  obtain⟨m,rfl⟩:∃ k,m=k+1:=⟨m - 1,by omega⟩
  rw[b0_st,decide_eq_false (by omega),cond_false,List.drop_eq_nil_of_le (by omega)]
  refine(gC_eq p.done (decItems p.done) h2 (.refl _)).trans ?_
  have e:=run2 (p:=p) (E:=endsP p.done) (M:=M) 200000 (by omega) ⟨by omega,h4⟩ (ends_num h5) hM M.1.length 200000 M.1 [] none rfl (by omega) hM.1 (fun y hy=>hy) (by
   rw[List.nil_append,List.Nodup,List.pairwise_map]
   refine hM.1.imp_of_mem fun {a b} ha hb hab hc=>hab ?_
   rw[<- (hM.2 a ha).2.2,<- (hM.2 b hb).2.2,hc]) (fun a ha=>by simp at ha) (by simp;omega)
  exact e
 | succ d ih=>
  intro i m M hi hm hM hl
  obtain⟨m,rfl⟩:∃ k,m=k+1:=⟨m - 1,by omega⟩
  have hil:i<p.t.log.length:=by omega
  have hv:=h4 _ (getD_mem (z:=(default:Entry)) hil)
  have e:=ih (i+1) m (lastS p.upto M i (p.t.log.getD i default)) (by omega) (by omega) (lastS_ok hM hil) (by
   unfold lastS
   cases (p.t.log.getD i default).write && !vlt p.upto (p.t.log.getD i default).ver
   ·exact Nat.le_succ_of_le hl
   ·exact Nat.le_trans (insK_len _ _) (by omega))
  have hw:IntKind.i64.wrap ((i:Int)+1)=((i+1:Nat):Int):=wrapS (by omega)
  rw[drop_cons (z:=(default:Entry)) hil]
  unfold lastGo
  refine Eq.trans ?_ e
  rw[b0_st,decide_eq_true (show((i:Nat):Int)<(p.t.log.length:Int) by omega),decide_eq_true (show(0:Int)<=(i:Int) by omega),Int.toNat_natCast,qV2 h3 hv,hw]
  unfold lastS
  dsimp only [Bool.and_true,cond_true]
  cases hwr:(p.t.log.getD i default).write with
  | false=>rfl
  | true=>
   cases hvl:vlt p.upto (p.t.log.getD i default).ver with
   | true=>rfl
   | false=>
    dsimp only [Bool.and_true,Bool.not_false,cond_true]
    have key:BS.pmap true (bif memS (p.t.log.getD i default).key M.1 then M.1 else M.1++[(p.t.log.getD i default).key]) (fun x=>bif strBeq x (p.t.log.getD i default).key then AV.int IntKind.i64 i else AV.int IntKind.i64 (M.2 x))=.pmap true (insK M.1 (p.t.log.getD i default).key) fun k=>.int .i64 (updV M.2 (p.t.log.getD i default).key (i:Int) k):=by
     rw[updV_enc (fun n=>AV.int IntKind.i64 n)];rfl
    rw[key];rfl
theorem batch_con(p:BaA)(h:pBa p):Contract PG F_tail_Batch (eBaA p) [] (encEntrys (batchP p)) []:=by
 have hc:Contract PG F_tail_Batch (eBaA p) [] (aE (batchP p)) []:=by
  refine conNN (ak kAhead_ok (ak kEnds_ok (ak kSettled_ok (ak kSort_ok ank)))) (n:=200000) ((ba_in 200000 p.t p.upto p.done p.most).trans ?_)
  exact run0 h p.t.log.length 0 200000 ([],fun _=>0) (by omega) (by have:=h.1;omega) ⟨by simp,fun k hk=>by simp at hk⟩ (by simp)
 exact hc.res (.trs fun i hi=>by rw[gx_at hi];exact .refl _)
def dBa(a:List AV):BaA:=⟨decTail (argC a 0),⟨(getC a 1).1,(getC a 1).2⟩,decL decItem (a.getD 2 .nils),getI a 3⟩
theorem dBa_eq(p:BaA):dBa (eBaA p)=p:=by
 show(⟨decTail (encTail p.t),⟨p.upto.re,p.upto.im⟩,decL decItem (encItems p.done),p.most⟩:BaA)=p
 rw[dec_encTail,decItems]
def kBatch:Known:=.spec F_tail_Batch dBa pBa eBaA fun p=>encEntrys (batchP p)
theorem kBatch_ok:kBatch.Ok PG:=Known.spec_ok batch_con
def ePs(l:List Known):Env:=envN [] [(F_slices_Clone_api_Entry,0),(F_flush_copied,1),(F_flush_Start,0),(F_flush_Msg,0),(F_tail_Batch,0)] [] l
theorem fs_eq(p:Pump)(r:Rep)(upto:Ver)(most:Int):callT (ePs [kCp,kBatch,kCloT F_slices_Clone_api_Entry 11]) 9 F_flush_Start [AV.agg (encPump p),AV.agg (encRep r),eV upto,AV.int IntKind.i64 most] =
 gC (fun a=>decPump (argC a 0)) (pPm) (fun p=>[AV.agg (encPump p)]) ([AV.agg (encPump p)]) fun y0=>
 bif decide (0<(↑p.out.length:Int))then
  bif y0.done.length.ble y0.done.length&&true&&true then
   some (AV.tup [AV.agg (encPump y0),AV.bool false])
  else none
 else
  gC (dBa) (pBa) (eBaA) ([AV.agg (encTail r.tail),AV.cplx FloatKind.f64 upto.re upto.im,encItems p.done,AV.int IntKind.i64 most]) fun y1=>
  bif decide ((↑(batchP y1).length:Int)=0)then
   bif y0.done.length.ble y0.done.length&&true&&true then
    some (AV.tup [AV.agg (encPump y0),AV.bool false])
   else none
  else
   gC (dTr) (pTr) (eTr 11) ([encEntrys (batchP y1)]) fun y2=>
   bif y0.done.length.ble y0.done.length&&true&&true then
    some (AV.tup [AV.agg [AV.int IntKind.i64 (IntKind.i64.wrap (y0.num+1)),AV.tr 11 y2.fst y2.snd,encItems y0.done],AV.bool true])
   else none:=by kernel_rfl
theorem fm_eq(p:Pump)(r:Rep):callT (ePs [kCloT F_slices_Clone_api_Entry 11]) 9 F_flush_Msg [AV.agg (encPump p),AV.agg (encRep r)] =
 bif decide ((↑p.out.length:Int)=0)then
  some (AV.nils)
 else
  gC (dTr) (pTr) (eTr 11) ([encEntrys p.out]) fun y3=>
  some (AV.trl 31 [[AV.int IntKind.i64 15,AV.int IntKind.i64 r.self.node,AV.int IntKind.i64 0,AV.int IntKind.i64 0,AV.int IntKind.i64 r.self.boot,AV.int IntKind.i64 r.shard,AV.int IntKind.i64 r.view.epoch,AV.int IntKind.i64 0,AV.int IntKind.i64 0,AV.int IntKind.i64 p.num,AV.int IntKind.i64 0,AV.int IntKind.i64 0,AV.bool false,AV.bool false,AV.str [],AV.str [],AV.cplx FloatKind.f64 0 0,AV.cplx FloatKind.f64 r.tail.floor.re r.tail.floor.im,AV.int IntKind.i64 0,AV.str [],AV.str [],AV.str [],AV.bool false,AV.tr 11 y3.fst y3.snd,AV.nils,AV.nils,AV.cplx FloatKind.f64 0 0,AV.cplx FloatKind.f64 0 0,AV.int IntKind.i64 0,AV.nils,AV.nils]]):=by kernel_rfl
structure StA where
 p:Pump
 r:Rep
 upto:Ver
 most:Int
def StA.ba(x:StA):BaA:=⟨x.r.tail,x.upto,x.p.done,x.most⟩
def startP(x:StA):Pump × Bool:=bif x.p.out.isEmpty then(bif(batchP x.ba).isEmpty then(x.p,false)else(⟨IntKind.i64.wrap (x.p.num+1),batchP x.ba,x.p.done⟩,true))else(x.p,false)
def pSt(x:StA):Prop:=pPm x.p/\pBa x.ba
def eSt(x:StA):List AV:=[.agg (encPump x.p),.agg (encRep x.r),eV x.upto,.int .i64 x.most]
def oSt(y:Pump × Bool):AV:=.tup [.agg (encPump y.1),.bool y.2]
theorem batch_len{p:BaA}(h:pBa p):(batchP p).length<=12:=by
 have hl:=(lastGo_ok (log:=p.t.log) (upto:=p.upto) p.t.log 0 ([],fun _=>0) ⟨by simp,fun k hk=>by simp at hk⟩ (by simp) rfl).2
 have h1:=h.1
 unfold batchP resP picks
 rw[List.length_map,List.length_take,(sortS_perm _ _).length_eq]
 refine Nat.le_trans (Nat.min_le_right _ _) (Nat.le_trans (List.length_filter_le _ _) ?_)
 rw[List.length_map]
 exact Nat.le_trans hl (by omega)
theorem len_z{X:Type}(l:List X):decide ((l.length:Int)=0)=l.isEmpty:=by cases l with
 | nil=>rfl
 | cons a r=>exact decide_eq_false (by simp;omega)
theorem len_p{X:Type}(l:List X):decide (0<(l.length:Int))=!l.isEmpty:=by cases l with
 | nil=>rfl
 | cons a r=>exact decide_eq_true (by simp)
theorem start_con(x:StA)(h:pSt x):Contract PG F_flush_Start (eSt x) [] (oSt (startP x)) []:=by
 refine conN (ak kCp_ok (ak kBatch_ok (ak (kCloT_ok cloN_Entry) ank))) ((fs_eq x.p x.r x.upto x.most).trans ?_)
 have hb:∀ {K:BaA->Option AV},gC dBa pBa eBaA [.agg (encTail x.r.tail),.cplx .f64 x.upto.re x.upto.im,encItems x.p.done,.int .i64 x.most] K=K x.ba:=fun {K}=>gC_eq x.ba (dBa_eq x.ba) h.2 (.refl _)
 rw[qCp h.1,hb,len_p,len_z,ble_le (Nat.le_refl _)]
 have hq:∀ {K:Nat × (Nat->List AV)->Option AV},gC dTr pTr (eTr 11) [encEntrys (batchP x.ba)] K=K ((batchP x.ba).length,fun i=>encEntry ((batchP x.ba).getD i default)):=fun {K}=>qTr (sz:=11) (Nat.le_trans (batch_len h.2) (by omega))
 rw[hq]
 unfold startP
 cases x.p.out.isEmpty with
 | false=>rfl
 | true=>cases (batchP x.ba).isEmpty <;> rfl
def dSt(a:List AV):StA:=⟨decPump (argC a 0),decRep (argC a 1),⟨(getC a 2).1,(getC a 2).2⟩,getI a 3⟩
theorem dSt_eq(x:StA):dSt (eSt x)=x:=by
 show(⟨decPump (encPump x.p),decRep (encRep x.r),⟨x.upto.re,x.upto.im⟩,x.most⟩:StA)=x
 rw[dec_encPump,dec_encRep]
def kStart:Known:=.spec F_flush_Start dSt pSt eSt fun x=>oSt (startP x)
theorem kStart_ok:kStart.Ok PG:=Known.spec_ok start_con
def flushM(p:Pump)(r:Rep):Msg:={(default:Msg)with kind:=15,src:=r.self.node,sboot:=r.self.boot,shard:=r.shard,epoch:=r.view.epoch,num:=p.num,floor:=r.tail.floor,entries:=p.out}
def flushMP(q:Pump × Rep):List Msg:=bif q.1.out.isEmpty then []else [flushM q.1 q.2]
def eFm(q:Pump × Rep):List AV:=[.agg (encPump q.1),.agg (encRep q.2)]
theorem fmsg_con(q:Pump × Rep)(h:q.1.out.length<=100000):Contract PG F_flush_Msg (eFm q) [] (encMsgs (flushMP q)) []:=by
 have e:=fm_eq q.1 q.2
 have hq:∀ {K:Nat × (Nat->List AV)->Option AV},gC dTr pTr (eTr 11) [encEntrys q.1.out] K=K (q.1.out.length,fun i=>encEntry (q.1.out.getD i default)):=fun {K}=>qTr (sz:=11) h
 rw[len_z,hq]at e
 unfold flushMP
 cases ho:q.1.out.isEmpty with
 | true=>
  rw[ho]at e
  exact(conN (ak (kCloT_ok cloN_Entry) ank) e).res nilsL
 | false=>
  rw[ho]at e
  exact(conN (ak (kCloT_ok cloN_Entry) ank) e).res (SubV.trans (trl_map (X:=Unit) (f:=fun _=>_) (g:=fun _=>encMsg (flushM q.1 q.2)) (fun _=>subC_all (by repeat' (first | exact trivial | exact nilsL | exact SubV.refl _ | refine⟨?_,?_⟩))) [()]) (SubV.trl_of [flushM q.1 q.2] rfl))
def kFMsg:Known:=.spec F_flush_Msg (fun a=>(decPump (argC a 0),decRep (argC a 1))) (fun q=>q.1.out.length<=100000) eFm fun q=>encMsgs (flushMP q)
theorem kFMsg_ok:kFMsg.Ok PG:=Known.spec_ok fmsg_con
theorem cloN_Member{n:Nat}(f:Nat->List AV)(h:n<=100000):Contract PG F_slices_Clone_api_Member [.tr 2 n f] [] (.sn 2 0 n) [.seq true 2 n f]:=clone_sn (b:=16) (by omega) (by kernel_rfl) (by kernel_rfl) (fun n f=>by kernel_rfl) f h
theorem cloN_bool{n:Nat}(f:Nat->List AV)(h:n<=100000):Contract PG F_slices_Clone_bool [.tr 1 n f] [] (.sn 1 0 n) [.seq true 1 n f]:=clone_sn (b:=1) (by omega) (by kernel_rfl) (by kernel_rfl) (fun n f=>by kernel_rfl) f h
theorem cloN_Seen{n:Nat}(f:Nat->List AV)(h:n<=100000):Contract PG F_slices_Clone_api_Seen [.tr 7 n f] [] (.sn 7 0 n) [.seq true 7 n f]:=clone_sn (b:=72) (by omega) (by kernel_rfl) (by kernel_rfl) (fun n f=>by kernel_rfl) f h
def eTw(l:List Known):Env:=envN [(F_twin_Views,0,[0,7,8]),(F_twin_Msgs,0,[0,7,8,9])] [(F_slices_Clone_api_Entry,0),(F_slices_Clone_api_Member,0),(F_slices_Clone_api_Seen,0),(F_slices_Clone_bool,0),(F_slices_Clone_api_View,5),(F_slices_Clone_api_Msg,5),(F_twin_Views,0),(F_twin_Msgs,0),(F_twin_Msg,0),(F_twin_Rep,0)] [] l
def kn18a:List Known:=[kCloB F_slices_Clone_api_View 5,kCloT F_slices_Clone_api_Member 2]
theorem vw_in(N:Nat)(l:List Md.View):callT (eTw kn18a) (N+1) F_twin_Views [encViews l] =
 gC (dTr) (pTr) (eTr 5) ([encViews l]) fun y0=>
 LP (eTw kn18a) (N) 0 (F_twin_Views) snK 0 [] (N) ({fr:=[(0,AV.sn 5 0 y0.fst),(7,AV.int IntKind.i64 (↑y0.fst:Int)),(8,AV.int IntKind.i64 0)],hp:=[BS.seq true 5 y0.fst y0.snd]}):=by kernel_rfl
def SVw(n:Nat)(F:Nat->List AV)(i:Int):St:={fr:=[(0,.sn 5 0 n),(7,.int .i64 n),(8,.int .i64 i)],hp:=[.seq true 5 n F]}
theorem vw_st(N:Nat)(m:Nat)(l:List Md.View)(i:Int):LP (eTw kn18a) N 0 F_twin_Views snK 0 [] (m+1) (SVw l.length (fun i=>encView (l.getD i default)) i) =
 bif decide (i<(↑l.length:Int))then
  bif decide (0<=i)&&decide (i<(↑l.length:Int))then
   bif i.toNat.blt l.length then
    gC (dTr) (pTr) (eTr 2) ([encMembers (l.getD i.toNat default).chain]) fun y1=>
    bif decide (0<=i)&&decide (i<(↑l.length:Int))then
     bif i.toNat.blt l.length&&true then
      LP (eTw kn18a) (N) (0) (F_twin_Views) (snK) 0 ([]) (m) ({fr:=[(0,AV.sn 5 0 l.length),(7,AV.int IntKind.i64 (↑l.length:Int)),(8,AV.int IntKind.i64 (IntKind.i64.wrap (i+1)))],hp:=[BS.seq true 5 l.length fun i'=>bif i'.beq i.toNat then [AV.int IntKind.i64 (l.getD i.toNat default).shard,AV.int IntKind.i64 (l.getD i.toNat default).epoch,AV.int IntKind.i64 (l.getD i.toNat default).gen,AV.int IntKind.i64 (l.getD i.toNat default).phase,AV.tr 2 y1.fst y1.snd]else encView (l.getD i' default)]})
     else none
    else none
   else none
  else none
 else
  bif l.length.ble l.length then
   some (encViews l)
  else none:=by kernel_rfl
theorem rp_eq(r:Rep):callT (eTw [kCloT F_slices_Clone_api_Member 2,kCloT F_slices_Clone_api_Entry 11,kCloT F_slices_Clone_api_Seen 7,kCloT F_slices_Clone_bool 1]) 9 F_twin_Rep [AV.agg (encRep r)] =
 gC (dTr) (pTr) (eTr 2) ([encMembers r.view.chain]) fun y2=>
 gC (dTr) (pTr) (eTr 11) ([encEntrys r.tail.log]) fun y3=>
 gC (dTr) (pTr) (eTr 7) ([encSeens r.seen]) fun y4=>
 gC (dTr) (pTr) (eTr 1) ([encBools r.synced]) fun y5=>
 some (AV.agg [AV.int IntKind.i64 r.shard,AV.int IntKind.i64 r.self.node,AV.int IntKind.i64 r.self.boot,AV.int IntKind.i64 r.view.shard,AV.int IntKind.i64 r.view.epoch,AV.int IntKind.i64 r.view.gen,AV.int IntKind.i64 r.view.phase,AV.tr 2 y2.fst y2.snd,AV.int IntKind.i64 r.frozen,AV.cplx FloatKind.f64 r.tail.floor.re r.tail.floor.im,AV.cplx FloatKind.f64 r.tail.last.re r.tail.last.im,AV.tr 11 y3.fst y3.snd,AV.tr 7 y4.fst y4.snd,AV.cplx FloatKind.f64 r.got.re r.got.im,AV.tr 1 y5.fst y5.snd]):=by kernel_rfl
theorem conTw{l:List Known}(h:∀ k ∈ l,k.Ok PG){n f:Nat}{xs:List AV}{r:AV}(e:callT (eTw l) n f xs=some r):Contract PG f xs [] r []:=conN h e
theorem qTrE{R:Type}{X:Type}{sz:Nat}{e:X->List AV}{z:X}{l:List X}{k:Nat × (Nat->List AV)->Option R}(h:l.length<=100000):gC dTr pTr (eTr sz) [encL sz e z l] k=k (l.length,fun i=>e (l.getD i z)):=qTr (sz:=sz) h
def VwOk(l:List Md.View):Prop:=l.length<=100000 /\ ∀ v ∈ l,v.chain.length<=100000
theorem set_same{X:Type}(e:X->List AV)(z:X)(l:List X)(i:Nat):(fun i'=>bif Nat.beq i' i then e (l.getD i z)else e (l.getD i' z))=fun i'=>e (l.getD i' z):=by
 funext k
 cases h:Nat.beq k i with
 | true=>rw[Nat.eq_of_beq_eq_true h];rfl
 | false=>rfl
theorem views_con(l:List Md.View)(h:VwOk l):Contract PG F_twin_Views [encViews l] [] (encViews l) []:=by
 obtain⟨N,hN⟩:∃ N,N=200000:=⟨_,rfl⟩
 have run:∀ d i m,i+d=l.length->d<m->LP (eTw kn18a) N 0 F_twin_Views snK 0 [] m (SVw l.length (fun i=>encView (l.getD i default)) (i:Nat))=some (encViews l):=by
  intro d
  induction d with
  | zero=>
   intro i m hi hm
   obtain⟨m,rfl⟩:∃ k,m=k+1:=⟨m - 1,by omega⟩
   rw[vw_st,decide_eq_false (by omega),cond_false,ble_le (Nat.le_refl _)];rfl
  | succ d ih=>
   intro i m hi hm
   obtain⟨m,rfl⟩:∃ k,m=k+1:=⟨m - 1,by omega⟩
   have hil:i<l.length:=by omega
   have hc:=h.2 _ (getD_mem (z:=(default:Md.View)) hil)
   have e:=ih (i+1) m (by omega) (by omega)
   have h1:=h.1
   have hw:IntKind.i64.wrap ((i:Int)+1)=((i+1:Nat):Int):=wrapS (by omega)
   have hs:=set_same encView default l i
   have hq:∀ {K:Nat × (Nat->List AV)->Option AV},gC dTr pTr (eTr 2) [encMembers (l.getD i default).chain] K=K ((l.getD i default).chain.length,fun j=>encMember ((l.getD i default).chain.getD j default)):=fun {K}=>qTrE hc
   rw[vw_st,decide_eq_true (show((i:Nat):Int)<(l.length:Int) by omega),decide_eq_true (show(0:Int)<=(i:Int) by omega),Int.toNat_natCast,blt_true hil,hq,hw]
   refine Eq.trans ?_ e
   show LP (eTw kn18a) N 0 F_twin_Views snK 0 [] m (SVw l.length (fun i'=>bif Nat.beq i' i then encView (l.getD i default)else encView (l.getD i' default)) ((i+1:Nat):Int))=_
   rw[hs]
 refine conTw (n:=N+1) (ak (kCloB_ok cloN_View) (ak (kCloT_ok cloN_Member) ank)) ((vw_in N l).trans ?_)
 refine(qTrE h.1).trans ?_
 exact run l.length 0 N (by omega) (by have:=h.1;omega)
def kViews:Known:=.spec F_twin_Views (fun a=>decL decView (a.getD 0 .nils)) VwOk (fun l=>[encViews l]) fun l=>encViews l
theorem kViews_ok:kViews.Ok PG:=Known.spec_ok views_con
theorem qViews{R:Type}{l:List Md.View}{k:List Md.View->Option R}(h:VwOk l):gC (fun a=>decL decView (a.getD 0 .nils)) VwOk (fun l=>[encViews l]) [encViews l] k=k l:=gC_eq l (decViews l) h (.refl _)
def RpOk(r:Rep):Prop:=r.view.chain.length<=100000/\r.tail.log.length<=100000/\r.seen.length<=100000/\r.synced.length<=100000
theorem rep_con(r:Rep)(h:RpOk r):Contract PG F_twin_Rep [.agg (encRep r)] [] (.agg (encRep r)) []:=by
 obtain⟨h1,h2,h3,h4⟩:=h
 refine conTw (ak (kCloT_ok cloN_Member) (ak (kCloT_ok cloN_Entry) (ak (kCloT_ok cloN_Seen) (ak (kCloT_ok cloN_bool) ank)))) ((rp_eq r).trans ?_)
 refine(qTrE h1).trans ((qTrE h2).trans ((qTrE h3).trans ((qTrE h4).trans ?_)))
 rfl
def kTRep:Known:=.spec F_twin_Rep (fun a=>decRep (argC a 0)) RpOk (fun r=>[.agg (encRep r)]) fun r=>.agg (encRep r)
theorem kTRep_ok:kTRep.Ok PG:=Known.spec_ok rep_con
theorem qTRep{R:Type}{r:Rep}{k:Rep->Option R}(h:RpOk r):gC (fun a=>decRep (argC a 0)) RpOk (fun r=>[.agg (encRep r)]) [.agg (encRep r)] k=k r:=gC_eq r (dec_encRep r) h (.refl _)
def kn18m:List Known:=[kCloT F_slices_Clone_api_Member 2,kCloT F_slices_Clone_api_Entry 11,kCloT F_slices_Clone_api_Seen 7,kViews]
theorem ms_eq(m:Msg):callT (eTw kn18m) 9 F_twin_Msg [AV.agg (encMsg m)] =
 gC (dTr) (pTr) (eTr 11) ([encEntrys m.entries]) fun y6=>
 gC (dTr) (pTr) (eTr 2) ([encMembers m.chain]) fun y7=>
 gC (fun a=>decL decView (a.getD 0 AV.nils)) (VwOk) (fun l=>[encViews l]) ([encViews m.views]) fun y8=>
 gC (dTr) (pTr) (eTr 11) ([encEntrys m.image.log]) fun y9=>
 gC (dTr) (pTr) (eTr 7) ([encSeens m.image.seen]) fun y10=>
 some (AV.agg [AV.int IntKind.i64 m.kind,AV.int IntKind.i64 m.src,AV.int IntKind.i64 m.dst,AV.int IntKind.i64 m.boot,AV.int IntKind.i64 m.sboot,AV.int IntKind.i64 m.shard,AV.int IntKind.i64 m.epoch,AV.int IntKind.i64 m.gen,AV.int IntKind.i64 m.sess,AV.int IntKind.i64 m.num,AV.int IntKind.i64 m.a,AV.int IntKind.i64 m.code,AV.bool m.has,AV.bool m.fresh,AV.str m.key,AV.str m.val,AV.cplx FloatKind.f64 m.ver.re m.ver.im,AV.cplx FloatKind.f64 m.floor.re m.floor.im,AV.int IntKind.i64 m.op.kind,AV.str m.op.key,AV.str m.op.val,AV.str m.op.old,AV.bool m.op.hasOld,AV.tr 11 y6.fst y6.snd,AV.tr 2 y7.fst y7.snd,encViews y8,AV.cplx FloatKind.f64 m.image.floor.re m.image.floor.im,AV.cplx FloatKind.f64 m.image.last.re m.image.last.im,AV.int IntKind.i64 m.image.gen,AV.tr 11 y9.fst y9.snd,AV.tr 7 y10.fst y10.snd]):=by kernel_rfl
def MsOk(m:Msg):Prop:=m.entries.length<=100000/\m.chain.length<=100000/\VwOk m.views/\m.image.log.length<=100000/\m.image.seen.length<=100000
theorem msg_con(m:Msg)(h:MsOk m):Contract PG F_twin_Msg [.agg (encMsg m)] [] (.agg (encMsg m)) []:=by
 obtain⟨h1,h2,h3,h4,h5⟩:=h
 refine conTw (ak (kCloT_ok cloN_Member) (ak (kCloT_ok cloN_Entry) (ak (kCloT_ok cloN_Seen) (ak kViews_ok ank)))) ((ms_eq m).trans ?_)
 refine(qTrE h1).trans ((qTrE h2).trans ((qViews h3).trans ((qTrE h4).trans ((qTrE h5).trans ?_))))
 rfl
def kTMsg:Known:=.spec F_twin_Msg (fun a=>decMsg (argC a 0)) MsOk (fun m=>[.agg (encMsg m)]) fun m=>.agg (encMsg m)
theorem kTMsg_ok:kTMsg.Ok PG:=Known.spec_ok msg_con
theorem qTMsg{R:Type}{m:Msg}{k:Msg->Option R}(h:MsOk m):gC (fun a=>decMsg (argC a 0)) MsOk (fun m=>[.agg (encMsg m)]) [.agg (encMsg m)] k=k m:=gC_eq m (dec_encMsg m) h (.refl _)
def kn19:List Known:=[kCloB F_slices_Clone_api_Msg 31,kTMsg]
theorem mg_in(N:Nat)(l:List Msg):callT (eTw kn19) (N+1) F_twin_Msgs [encMsgs l] =
 gC (dTr) (pTr) (eTr 31) ([encMsgs l]) fun y0=>
 LP (eTw kn19) (N) 0 (F_twin_Msgs) snK 0 [] (N) ({fr:=[(0,AV.sn 31 0 y0.fst),(7,AV.sn 31 0 y0.fst),(8,AV.int IntKind.i64 (↑y0.fst:Int)),(9,AV.int IntKind.i64 0)],hp:=[BS.seq true 31 y0.fst y0.snd]}):=by kernel_rfl
def SMg(n:Nat)(F:Nat->List AV)(i:Int):St:={fr:=[(0,.sn 31 0 n),(7,.sn 31 0 n),(8,.int .i64 n),(9,.int .i64 i)],hp:=[.seq true 31 n F]}
theorem mg_st(N:Nat)(m:Nat)(l:List Msg)(i:Int):LP (eTw kn19) N 0 F_twin_Msgs snK 0 [] (m+1) (SMg l.length (fun i=>encMsg (l.getD i default)) i) =
 bif decide (i<(↑l.length:Int))then
  bif decide (0<=i)&&decide (i<(↑l.length:Int))then
   bif i.toNat.blt l.length then
    gC (fun a=>decMsg (argC a 0)) (MsOk) (fun m=>[AV.agg (encMsg m)]) ([AV.agg (encMsg (l.getD i.toNat default))]) fun y1=>
    bif decide (0<=i)&&decide (i<(↑l.length:Int))then
     bif i.toNat.blt l.length&&true then
      LP (eTw kn19) (N) (0) (F_twin_Msgs) (snK) 0 ([]) (m) ({fr:=[(0,AV.sn 31 0 l.length),(7,AV.sn 31 0 l.length),(8,AV.int IntKind.i64 (↑l.length:Int)),(9,AV.int IntKind.i64 (IntKind.i64.wrap (i+1)))],hp:=[BS.seq true 31 l.length fun i'=>bif i'.beq i.toNat then encMsg y1 else encMsg (l.getD i' default)]})
     else none
    else none
   else none
  else none
 else
  bif l.length.ble l.length then
   some (encMsgs l)
  else none:=by kernel_rfl
def MgOk(l:List Msg):Prop:=l.length<=100000 /\ ∀ m ∈ l,MsOk m
theorem msgs_con(l:List Msg)(h:MgOk l):Contract PG F_twin_Msgs [encMsgs l] [] (encMsgs l) []:=by
 obtain⟨N,hN⟩:∃ N,N=200000:=⟨_,rfl⟩
 have run:∀ d i m,i+d=l.length->d<m->LP (eTw kn19) N 0 F_twin_Msgs snK 0 [] m (SMg l.length (fun i=>encMsg (l.getD i default)) (i:Nat))=some (encMsgs l):=by
  intro d
  induction d with
  | zero=>
   intro i m hi hm
   obtain⟨m,rfl⟩:∃ k,m=k+1:=⟨m - 1,by omega⟩
   rw[mg_st,decide_eq_false (by omega),cond_false,ble_le (Nat.le_refl _)];rfl
  | succ d ih=>
   intro i m hi hm
   obtain⟨m,rfl⟩:∃ k,m=k+1:=⟨m - 1,by omega⟩
   have hil:i<l.length:=by omega
   have hc:=h.2 _ (getD_mem (z:=(default:Msg)) hil)
   have e:=ih (i+1) m (by omega) (by omega)
   have h1:=h.1
   have hw:IntKind.i64.wrap ((i:Int)+1)=((i+1:Nat):Int):=wrapS (by omega)
   have hs:=set_same encMsg default l i
   rw[mg_st,decide_eq_true (show((i:Nat):Int)<(l.length:Int) by omega),decide_eq_true (show(0:Int)<=(i:Int) by omega),Int.toNat_natCast,blt_true hil,qTMsg hc,hw,hs]
   exact e
 refine conTw (n:=N+1) (ak (kCloB_ok cloN_Msg) (ak kTMsg_ok ank)) ((mg_in N l).trans ?_)
 refine(qTrE h.1).trans ?_
 exact run l.length 0 N (by omega) (by have:=h.1;omega)
def kMsgs:Known:=.spec F_twin_Msgs (fun a=>decL decMsg (a.getD 0 .nils)) MgOk (fun l=>[encMsgs l]) fun l=>encMsgs l
theorem kMsgs_ok:kMsgs.Ok PG:=Known.spec_ok msgs_con
theorem qMsgs{R:Type}{l:List Msg}{k:List Msg->Option R}(h:MgOk l):gC (fun a=>decL decMsg (a.getD 0 .nils)) MgOk (fun l=>[encMsgs l]) [encMsgs l] k=k l:=gC_eq l (decMsgs l) h (.refl _)
def eDk(l:List Known):Env:=envN [(F_twin_Desk,0,[1,2,34,35]),(F_twin_Home,0,[1,2,10,11,12])] [(F_slices_Clone_api_Entry,0),(F_slices_Clone_api_Item,0),(F_slices_Clone_api_Wait,5),(F_slices_Clone_api_Ask,5),(F_slices_Clone_api_Desk,5),(F_twin_Msgs,0),(F_twin_Rep,0),(F_twin_Desk,0),(F_twin_Home,0)] [] l
def knDk:List Known:=[kTRep,kCloT F_slices_Clone_api_Entry 11,kCloT F_slices_Clone_api_Item 4,kCloB F_slices_Clone_api_Wait 4,kCloB F_slices_Clone_api_Ask 3,kMsgs]
theorem dk_in(N:Nat)(d:Desk):callC 0 (eDk knDk) (N+1) F_twin_Desk [AV.agg (encDesk d)] [] =
 gC (fun a=>decRep (argC a 0)) (RpOk) (fun r=>[AV.agg (encRep r)]) ([AV.agg (encRep d.rep)]) fun y0=>
 gC (dTr) (pTr) (eTr 11) ([encEntrys d.pump.out]) fun y1=>
 gC (dTr) (pTr) (eTr 4) ([encItems d.pump.done]) fun y2=>
 gC (dTr) (pTr) (eTr 4) ([encItems d.clean]) fun y3=>
 gC (dTr) (pTr) (eTr 4) ([encWaits d.waits]) fun y4=>
 gC (dTr) (pTr) (eTr 3) ([encAsks d.asks]) fun y5=>
 LP (eDk knDk) (N) (0) (F_twin_Desk) (cnK (0) (0)) 0 [] (N) ({fr:=[(1,AV.ptr 0 0 0),(2,AV.ptr 3 0 0),(34,AV.int IntKind.i64 (↑y5.fst:Int)),(35,AV.int IntKind.i64 0)],hp:=[BS.arr true 23 [[AV.int IntKind.i64 y0.shard,AV.int IntKind.i64 y0.self.node,AV.int IntKind.i64 y0.self.boot,AV.int IntKind.i64 y0.view.shard,AV.int IntKind.i64 y0.view.epoch,AV.int IntKind.i64 y0.view.gen,AV.int IntKind.i64 y0.view.phase,encMembers y0.view.chain,AV.int IntKind.i64 y0.frozen,AV.cplx FloatKind.f64 y0.tail.floor.re y0.tail.floor.im,AV.cplx FloatKind.f64 y0.tail.last.re y0.tail.last.im,encEntrys y0.tail.log,encSeens y0.seen,AV.cplx FloatKind.f64 y0.got.re y0.got.im,encBools y0.synced,AV.int IntKind.i64 d.pump.num,AV.tr 11 y1.fst y1.snd,AV.tr 4 y2.fst y2.snd,AV.tr 4 y3.fst y3.snd,AV.bool d.busy,AV.sn 4 1 y4.fst,AV.sn 3 2 y5.fst,AV.int IntKind.i64 d.next]],BS.seq true 4 y4.fst y4.snd,BS.seq true 3 y5.fst y5.snd,BS.arr true 23 [[AV.int IntKind.i64 0,AV.int IntKind.i64 0,AV.int IntKind.i64 0,AV.int IntKind.i64 0,AV.int IntKind.i64 0,AV.int IntKind.i64 0,AV.int IntKind.i64 0,AV.nils,AV.int IntKind.i64 0,AV.cplx FloatKind.f64 0 0,AV.cplx FloatKind.f64 0 0,AV.nils,AV.nils,AV.cplx FloatKind.f64 0 0,AV.nils,AV.int IntKind.i64 0,AV.nils,AV.nils,AV.nils,AV.bool false,AV.nils,AV.nils,AV.int IntKind.i64 0]]]}):=by kernel_rfl
def zDk:List AV:=[.int .i64 0,.int .i64 0,.int .i64 0,.int .i64 0,.int .i64 0,.int .i64 0,.int .i64 0,.nils,.int .i64 0,.cplx .f64 0 0,.cplx .f64 0 0,.nils,.nils,.cplx .f64 0 0,.nils,.int .i64 0,.nils,.nils,.nils,.bool false,.nils,.nils,.int .i64 0]
def encDkB(a:Nat)(d:Md.Desk):List AV:=[.int .i64 d.rep.shard,.int .i64 d.rep.self.node,.int .i64 d.rep.self.boot,.int .i64 d.rep.view.shard,.int .i64 d.rep.view.epoch,.int .i64 d.rep.view.gen,.int .i64 d.rep.view.phase,encMembers d.rep.view.chain,.int .i64 d.rep.frozen,.cplx .f64 d.rep.tail.floor.re d.rep.tail.floor.im,.cplx .f64 d.rep.tail.last.re d.rep.tail.last.im,encEntrys d.rep.tail.log,encSeens d.rep.seen,.cplx .f64 d.rep.got.re d.rep.got.im,encBools d.rep.synced,.int .i64 d.pump.num,encEntrys d.pump.out,encItems d.pump.done,encItems d.clean,.bool d.busy,.sn 4 a d.waits.length,.sn 3 (a+1) d.asks.length,.int .i64 d.next]
def SDk(d:Md.Desk)(i:Int):St:={fr:=[(1,.ptr 0 0 0),(2,.ptr 3 0 0),(34,.int .i64 d.asks.length),(35,.int .i64 i)],hp:=[.arr true 23 [encDkB 1 d],sqL 4 encWait default d.waits,sqL 3 encAsk default d.asks,.arr true 23 [zDk]]}
theorem dk_st(N:Nat)(m:Nat)(d:Desk)(i:Int):LP (eDk knDk) N 0 F_twin_Desk (cnK 0 0) 0 [] (m+1) (SDk d i) =
 bif decide (i<(↑d.asks.length:Int))then
  bif decide (0<=i)&&decide (i<(↑d.asks.length:Int))then
   bif i.toNat.blt d.asks.length then
    gC (fun a=>decL decMsg (a.getD 0 AV.nils)) (MgOk) (fun l=>[encMsgs l]) ([encMsgs (d.asks.getD i.toNat default).calls]) fun y6=>
    bif decide (0<=i)&&decide (i<(↑d.asks.length:Int))then
     bif i.toNat.blt d.asks.length&&true then
      LP (eDk knDk) (N) (0) (F_twin_Desk) (cnK 0 0) 0 ([]) (m) ({fr:=[(1,AV.ptr 0 0 0),(2,AV.ptr 3 0 0),(34,AV.int IntKind.i64 (↑d.asks.length:Int)),(35,AV.int IntKind.i64 (IntKind.i64.wrap (i+1)))],hp:=[BS.arr true 23 [[AV.int IntKind.i64 d.rep.shard,AV.int IntKind.i64 d.rep.self.node,AV.int IntKind.i64 d.rep.self.boot,AV.int IntKind.i64 d.rep.view.shard,AV.int IntKind.i64 d.rep.view.epoch,AV.int IntKind.i64 d.rep.view.gen,AV.int IntKind.i64 d.rep.view.phase,encMembers d.rep.view.chain,AV.int IntKind.i64 d.rep.frozen,AV.cplx FloatKind.f64 d.rep.tail.floor.re d.rep.tail.floor.im,AV.cplx FloatKind.f64 d.rep.tail.last.re d.rep.tail.last.im,encEntrys d.rep.tail.log,encSeens d.rep.seen,AV.cplx FloatKind.f64 d.rep.got.re d.rep.got.im,encBools d.rep.synced,AV.int IntKind.i64 d.pump.num,encEntrys d.pump.out,encItems d.pump.done,encItems d.clean,AV.bool d.busy,AV.sn 4 1 d.waits.length,AV.sn 3 2 d.asks.length,AV.int IntKind.i64 d.next]],BS.seq true 4 d.waits.length fun i=>encWait (d.waits.getD i default),BS.seq true 3 d.asks.length fun i'=>bif i'.beq i.toNat then [AV.int IntKind.i64 (d.asks.getD i.toNat default).num,AV.str (d.asks.getD i.toNat default).key,encMsgs y6]else encAsk (d.asks.getD i' default),BS.arr true 23 [[AV.int IntKind.i64 0,AV.int IntKind.i64 0,AV.int IntKind.i64 0,AV.int IntKind.i64 0,AV.int IntKind.i64 0,AV.int IntKind.i64 0,AV.int IntKind.i64 0,AV.nils,AV.int IntKind.i64 0,AV.cplx FloatKind.f64 0 0,AV.cplx FloatKind.f64 0 0,AV.nils,AV.nils,AV.cplx FloatKind.f64 0 0,AV.nils,AV.int IntKind.i64 0,AV.nils,AV.nils,AV.nils,AV.bool false,AV.nils,AV.nils,AV.int IntKind.i64 0]]]})
     else none
    else none
   else none
  else none
 else
  some ((AV.agg [AV.int IntKind.i64 d.rep.shard,AV.int IntKind.i64 d.rep.self.node,AV.int IntKind.i64 d.rep.self.boot,AV.int IntKind.i64 d.rep.view.shard,AV.int IntKind.i64 d.rep.view.epoch,AV.int IntKind.i64 d.rep.view.gen,AV.int IntKind.i64 d.rep.view.phase,encMembers d.rep.view.chain,AV.int IntKind.i64 d.rep.frozen,AV.cplx FloatKind.f64 d.rep.tail.floor.re d.rep.tail.floor.im,AV.cplx FloatKind.f64 d.rep.tail.last.re d.rep.tail.last.im,encEntrys d.rep.tail.log,encSeens d.rep.seen,AV.cplx FloatKind.f64 d.rep.got.re d.rep.got.im,encBools d.rep.synced,AV.int IntKind.i64 d.pump.num,encEntrys d.pump.out,encItems d.pump.done,encItems d.clean,AV.bool d.busy,AV.sn 4 0 d.waits.length,AV.sn 3 1 d.asks.length,AV.int IntKind.i64 d.next],[BS.seq true 4 d.waits.length fun i=>encWait (d.waits.getD i default),BS.seq true 3 d.asks.length fun i=>encAsk (d.asks.getD i default)])):=by kernel_rfl
def DkOk(d:Md.Desk):Prop:=RpOk d.rep/\d.pump.out.length<=100000/\d.pump.done.length<=100000/\d.clean.length<=100000/\d.waits.length<=100000/\d.asks.length<=100000 /\ ∀ a ∈ d.asks,MgOk a.calls
def hpDk(d:Md.Desk):Heap:=[sqL 4 encWait default d.waits,sqL 3 encAsk default d.asks]
theorem desk_con(d:Md.Desk)(h:DkOk d):Contract PG F_twin_Desk [.agg (encDesk d)] [] (.agg (encDkB 0 d)) (hpDk d):=by
 obtain⟨N,hN⟩:∃ N,N=200000:=⟨_,rfl⟩
 obtain⟨h1,h2,h3,h4,h5,h6,h7⟩:=h
 have run:∀ k i m,i+k=d.asks.length->k<m->LP (eDk knDk) N 0 F_twin_Desk (cnK 0 0) 0 [] m (SDk d (i:Nat))=some (.agg (encDkB 0 d),hpDk d):=by
  intro k
  induction k with
  | zero=>
   intro i m hi hm
   obtain⟨m,rfl⟩:∃ k,m=k+1:=⟨m - 1,by omega⟩
   rw[dk_st,decide_eq_false (by omega),cond_false];rfl
  | succ k ih=>
   intro i m hi hm
   obtain⟨m,rfl⟩:∃ k,m=k+1:=⟨m - 1,by omega⟩
   have hil:i<d.asks.length:=by omega
   have hc:=h7 _ (getD_mem (z:=(default:Md.Ask)) hil)
   have e:=ih (i+1) m (by omega) (by omega)
   have hw:IntKind.i64.wrap ((i:Int)+1)=((i+1:Nat):Int):=wrapS (by omega)
   have hs:=set_same encAsk default d.asks i
   rw[dk_st,decide_eq_true (show((i:Nat):Int)<(d.asks.length:Int) by omega),decide_eq_true (show(0:Int)<=(i:Int) by omega),Int.toNat_natCast,blt_true hil,qMsgs hc,hw]
   refine Eq.trans ?_ e
   show LP (eDk knDk) N 0 F_twin_Desk (cnK 0 0) 0 [] m {fr:=[(1,.ptr 0 0 0),(2,.ptr 3 0 0),(34,.int .i64 d.asks.length),(35,.int .i64 ((i+1:Nat):Int))],hp:=[.arr true 23 [encDkB 1 d],sqL 4 encWait default d.waits,.seq true 3 d.asks.length (fun i'=>bif Nat.beq i' i then encAsk (d.asks.getD i default)else encAsk (d.asks.getD i' default)),.arr true 23 [zDk]]}=_
   rw[hs];rfl
 refine conB (n:=N+1) (ak kTRep_ok (ak (kCloT_ok cloN_Entry) (ak (kCloT_ok cloN_Item) (ak (kCloB_ok cloN_Wait) (ak (kCloB_ok cloN_Ask) (ak kMsgs_ok ank)))))) ((dk_in N d).trans ?_)
 refine(qTRep h1).trans ((qTrE h2).trans ((qTrE h3).trans ((qTrE h4).trans ((qTrE h5).trans ((qTrE h6).trans ?_)))))
 exact run d.asks.length 0 N (by omega) (by omega)
def kDeskB:Known:=.specB F_twin_Desk (fun a=>decDesk (argC a 0)) DkOk (fun d=>[.agg (encDesk d)]) (fun d=>(.agg (encDkB 0 d),hpDk d))
theorem kDeskB_ok:kDeskB.Ok PG:=Known.specB_ok desk_con
theorem desk_tree(d:Md.Desk)(h:DkOk d):Contract PG F_twin_Desk [.agg (encDesk d)] [] (.agg (encDesk d)) []:=by
 refine(desk_con d h).snapped ?_
 have e:snK (.agg (encDkB 0 d)) (hpDk d)=bif d.waits.length.ble d.waits.length&&(d.asks.length.ble d.asks.length&&true)then some (.agg (encDesk d))else none:=by kernel_rfl
 rw[e,ble_le (Nat.le_refl _),ble_le (Nat.le_refl _)];rfl
def kDeskT:Known:=.spec F_twin_Desk (fun a=>decDesk (argC a 0)) DkOk (fun d=>[.agg (encDesk d)]) fun d=>.agg (encDesk d)
theorem kDeskT_ok:kDeskT.Ok PG:=Known.spec_ok desk_tree
theorem qDesk{R:Type}{d:Md.Desk}{k:Md.Desk->Option R}(h:DkOk d):gC (fun a=>decDesk (argC a 0)) DkOk (fun d=>[.agg (encDesk d)]) [.agg (encDesk d)] k=k d:=gC_eq d (dec_encDesk d) h (.refl _)
theorem cloN_Desk{n:Nat}(f:Nat->List AV)(h:n<=100000):Contract PG F_slices_Clone_api_Desk [.tr 23 n f] [] (.sn 23 0 n) [.seq true 23 n f]:=clone_sn (b:=352) (by omega) (by kernel_rfl) (by kernel_rfl) (fun n f=>by kernel_rfl) f h
def eHN(l:List Known):Env:=envN [] [(F_chain_New,0),(F_head_New,0),(F_head_read,0)] [] l
theorem cn_eq(s:Int)(m:Member):callT (eHN []) 9 F_head_New [AV.int IntKind.i64 s,AV.agg (encMember m)] =
 some (AV.agg [AV.int IntKind.i64 s,AV.int IntKind.i64 m.node,AV.int IntKind.i64 m.boot,AV.int IntKind.i64 0,AV.int IntKind.i64 0,AV.int IntKind.i64 0,AV.int IntKind.i64 0,AV.nils,AV.int IntKind.i64 0,AV.cplx FloatKind.f64 0 0,AV.cplx FloatKind.f64 0 0,AV.nils,AV.nils,AV.cplx FloatKind.f64 0 0,AV.nils,AV.int IntKind.i64 0,AV.nils,AV.nils,AV.nils,AV.bool false,AV.nils,AV.nils,AV.int IntKind.i64 0]):=by kernel_rfl
theorem rd_eq(r:Rep)(a:Md.Ask):callT (eHN []) 9 F_head_read [AV.agg (encRep r),AV.agg (encAsk a)] =
 some (AV.agg [AV.int IntKind.i64 17,AV.int IntKind.i64 r.self.node,AV.int IntKind.i64 0,AV.int IntKind.i64 0,AV.int IntKind.i64 r.self.boot,AV.int IntKind.i64 r.shard,AV.int IntKind.i64 r.view.epoch,AV.int IntKind.i64 0,AV.int IntKind.i64 0,AV.int IntKind.i64 a.num,AV.int IntKind.i64 0,AV.int IntKind.i64 0,AV.bool false,AV.bool false,AV.str a.key,AV.str [],AV.cplx FloatKind.f64 0 0,AV.cplx FloatKind.f64 0 0,AV.int IntKind.i64 0,AV.str [],AV.str [],AV.str [],AV.bool false,AV.nils,AV.nils,AV.nils,AV.cplx FloatKind.f64 0 0,AV.cplx FloatKind.f64 0 0,AV.int IntKind.i64 0,AV.nils,AV.nils]):=by kernel_rfl
def newD(p:Int × Member):Md.Desk:={(default:Md.Desk)with rep:={(default:Rep)with shard:=p.1,self:=p.2}}
def eNw(p:Int × Member):List AV:=[.int .i64 p.1,.agg (encMember p.2)]
theorem new_con(p:Int × Member)(_:True):Contract PG F_head_New (eNw p) [] (.agg (encDesk (newD p))) []:=
 (conN nok (cn_eq p.1 p.2)).res (.agg (subC_all (by repeat' (first | exact trivial | exact nilsL | exact SubV.refl _ | refine⟨?_,?_⟩))))
def kHNew:Known:=.spec F_head_New (fun a=>(getI a 0,decMember (argC a 1))) (fun _=>True) eNw fun p=>.agg (encDesk (newD p))
theorem kHNew_ok:kHNew.Ok PG:=Known.spec_ok new_con
def readM(p:Rep × Md.Ask):Msg:={(default:Msg)with kind:=17,src:=p.1.self.node,sboot:=p.1.self.boot,shard:=p.1.shard,epoch:=p.1.view.epoch,num:=p.2.num,key:=p.2.key}
def eRd(p:Rep × Md.Ask):List AV:=[.agg (encRep p.1),.agg (encAsk p.2)]
theorem read_con(p:Rep × Md.Ask)(_:True):Contract PG F_head_read (eRd p) [] (.agg (encMsg (readM p))) []:=
 (conN nok (rd_eq p.1 p.2)).res (.agg (subC_all (by repeat' (first | exact trivial | exact nilsL | exact SubV.refl _ | refine⟨?_,?_⟩))))
def kRead:Known:=.spec F_head_read (fun a=>(decRep (argC a 0),decAsk (argC a 1))) (fun _=>True) eRd fun p=>.agg (encMsg (readM p))
theorem kRead_ok:kRead.Ok PG:=Known.spec_ok read_con
theorem qRead{R:Type}{r:Rep}{a:Md.Ask}{k:Rep × Md.Ask->Option R}:gC (fun a=>(decRep (argC a 0),decAsk (argC a 1))) (fun _=>True) eRd [.agg (encRep r),.agg (encAsk a)] k=k (r,a):=gC_eq (r,a) (Prod.ext (dec_encRep r) (dec_encAsk a)) trivial (.refl _)
def eHm(l:List Known):Env:=envN [(F_twin_Home,0,[1,2,10,11,12])] [(F_slices_Clone_api_Desk,5),(F_twin_Desk,0),(F_twin_Home,0)] [] l
def knHm:List Known:=[kCloB F_slices_Clone_api_Desk 23,kDeskT]
def SHm(nd bt:Int)(n:Nat)(F:Nat->List AV)(i:Int):St:={fr:=[(1,.ptr 0 0 0),(2,.ptr 2 0 0),(10,.sn 23 1 n),(11,.int .i64 n),(12,.int .i64 i)],hp:=[.arr true 3 [[.int .i64 nd,.int .i64 bt,.sn 23 1 n]],.seq true 23 n F,.arr true 3 [[.int .i64 0,.int .i64 0,.nils]]]}
def HmOk(h:Md.Home):Prop:=h.desks.length<=100000 /\ ∀ d ∈ h.desks,DkOk d
def eTk(l:List Known):Env:=envN [(F_head_Tick,0,[1,3,19,20,21,31003999])] [(F_head_Tick,0),(F_chain_Again,0),(F_flush_Msg,0),(F_head_read,0)] [] l
def knTk:List Known:=[kAgain,kFMsg,kRead]
theorem tk_in(N:Nat)(d:Desk):callT (eTk knTk) (N+1) F_head_Tick [AV.agg (encDesk d)] =
 gC (dRep1) (RepAg) (eRep1) ([AV.agg (encRep d.rep)]) fun y0=>
 bif((0+(againP y0).length)*392).ble 140737488355328&&(0+(againP y0).length).ble 140737488355328 then
  bif(againP y0).length.beq 0 then
   gC (fun a=>(decPump (argC a 0),decRep (argC a 1))) (fun q=>q.fst.out.length<=100000) (eFm) ([AV.agg (encPump d.pump),AV.agg (encRep d.rep)]) fun y1=>
   bif((0+(flushMP y1).length)*392).ble 140737488355328&&(0+(flushMP y1).length).ble 140737488355328 then
    bif(flushMP y1).length.beq 0 then
     LP (eTk knTk) (N) 0 (F_head_Tick) snK 0 [] (N) ({fr:=[(1,AV.ptr 0 0 0),(3,AV.sn 31 1 0),(19,encAsks d.asks),(20,AV.int IntKind.i64 (↑d.asks.length:Int)),(21,AV.int IntKind.i64 0),(31003999,AV.undef)],hp:=[BS.arr true 23 [encDesk d],BS.seq true 31 0 fun x=>[]]})
    else
     LP (eTk knTk) (N) 0 (F_head_Tick) snK 0 [] (N) ({fr:=[(1,AV.ptr 0 0 0),(3,AV.sl 31 1 0 (flushMP y1).length 0),(19,encAsks d.asks),(20,AV.int IntKind.i64 (↑d.asks.length:Int)),(21,AV.int IntKind.i64 0),(31003999,AV.undef)],hp:=[BS.arr true 23 [encDesk d],BS.seq true 31 (flushMP y1).length fun i=>encMsg ((flushMP y1).getD i default)]})
   else none
  else
   gC (fun a=>(decPump (argC a 0),decRep (argC a 1))) (fun q=>q.fst.out.length<=100000) (eFm) ([AV.agg (encPump d.pump),AV.agg (encRep d.rep)]) fun y2=>
   bif(againP y0).length.beq 0||(againP y0).length.ble (againP y0).length then
    bif(((againP y0).length+(flushMP y2).length)*392).ble 140737488355328&&((againP y0).length+(flushMP y2).length).ble 140737488355328 then
     bif(flushMP y2).length.beq 0 then
      LP (eTk knTk) (N) 0 (F_head_Tick) snK 0 [] (N) ({fr:=[(1,AV.ptr 0 0 0),(3,AV.sl 31 1 0 (againP y0).length 0),(19,encAsks d.asks),(20,AV.int IntKind.i64 (↑d.asks.length:Int)),(21,AV.int IntKind.i64 0),(31003999,AV.undef)],hp:=[BS.arr true 23 [encDesk d],BS.seq true 31 (againP y0).length fun i=>encMsg ((againP y0).getD i default)]})
     else
      LP (eTk knTk) (N) 0 (F_head_Tick) snK 0 [] (N) ({fr:=[(1,AV.ptr 0 0 0),(3,AV.sl 31 1 0 ((againP y0).length+(flushMP y2).length) 0),(19,encAsks d.asks),(20,AV.int IntKind.i64 (↑d.asks.length:Int)),(21,AV.int IntKind.i64 0),(31003999,AV.undef)],hp:=[BS.arr true 23 [encDesk d],BS.seq true 31 ((againP y0).length+(flushMP y2).length) fun i=>bif i.blt (againP y0).length then encMsg ((againP y0).getD i default)else bif i.blt ((againP y0).length+(flushMP y2).length)then encMsg ((flushMP y2).getD (i - (againP y0).length) default)else encMsg ((againP y0).getD (againP y0).length default)]})
    else none
   else none
 else none:=by kernel_rfl
def STk(d:Md.Desk)(v:AV)(n:Nat)(F:Nat->List AV)(i:Int):St:={fr:=[(1,.ptr 0 0 0),(3,v),(19,encAsks d.asks),(20,.int .i64 d.asks.length),(21,.int .i64 i),(31003999,.undef)],hp:=[.arr true 23 [encDesk d],.seq true 31 n F]}
theorem tk_sn(N:Nat)(m:Nat)(d:Desk)(n:Nat)(F:Nat->List AV)(i:Int):LP (eTk knTk) N 0 F_head_Tick snK 0 [] (m+1) (STk d (AV.sn 31 1 n) n F i) =
 bif decide (i<(↑d.asks.length:Int))then
  bif decide (0<=i)&&decide (i<(↑d.asks.length:Int))then
   gC (fun a=>(decRep (argC a 0),decAsk (argC a 1))) (fun x=>True) (eRd) ([AV.agg (encRep d.rep),AV.agg (encAsk (d.asks.getD i.toNat default))]) fun y3=>
   bif n.ble n then
    bif((n+1)*392).ble 140737488355328&&(n+1).ble 140737488355328 then
     LP (eTk knTk) (N) (0) (F_head_Tick) (snK) 0 ([]) (m) ({fr:=[(1,AV.ptr 0 0 0),(3,AV.sn 31 1 (n+1)),(19,encAsks d.asks),(20,AV.int IntKind.i64 (↑d.asks.length:Int)),(21,AV.int IntKind.i64 (IntKind.i64.wrap (i+1))),(31003999,AV.undef)],hp:=[BS.arr true 23 [encDesk d],BS.seq true 31 (n+1) (appN n F (View.list [[AV.int IntKind.i64 17,AV.int IntKind.i64 y3.fst.self.node,AV.int IntKind.i64 0,AV.int IntKind.i64 0,AV.int IntKind.i64 y3.fst.self.boot,AV.int IntKind.i64 y3.fst.shard,AV.int IntKind.i64 y3.fst.view.epoch,AV.int IntKind.i64 0,AV.int IntKind.i64 0,AV.int IntKind.i64 y3.snd.num,AV.int IntKind.i64 0,AV.int IntKind.i64 0,AV.bool false,AV.bool false,AV.str y3.snd.key,AV.str [],AV.cplx FloatKind.f64 default default,AV.cplx FloatKind.f64 default default,AV.int IntKind.i64 0,AV.str [],AV.str [],AV.str [],AV.bool false,encEntrys [],encMembers [],encViews [],AV.cplx FloatKind.f64 default default,AV.cplx FloatKind.f64 default default,AV.int IntKind.i64 0,encEntrys [],encSeens []]]))]})
    else none
   else none
  else none
 else
  bif n.ble n then
   some (AV.tr 31 n F)
  else none:=by kernel_rfl
theorem tk_sl(N:Nat)(m:Nat)(d:Desk)(n:Nat)(F:Nat->List AV)(i:Int):LP (eTk knTk) N 0 F_head_Tick snK 0 [] (m+1) (STk d (AV.sl 31 1 0 n 0) n F i) =
 bif decide (i<(↑d.asks.length:Int))then
  bif decide (0<=i)&&decide (i<(↑d.asks.length:Int))then
   gC (fun a=>(decRep (argC a 0),decAsk (argC a 1))) (fun x=>True) (eRd) ([AV.agg (encRep d.rep),AV.agg (encAsk (d.asks.getD i.toNat default))]) fun y4=>
   bif n.beq 0||n.ble n then
    bif((n+1)*392).ble 140737488355328&&(n+1).ble 140737488355328 then
     LP (eTk knTk) (N) (0) (F_head_Tick) (snK) 0 ([]) (m) ({fr:=[(1,AV.ptr 0 0 0),(3,AV.sl 31 1 0 (n+1) 0),(19,encAsks d.asks),(20,AV.int IntKind.i64 (↑d.asks.length:Int)),(21,AV.int IntKind.i64 (IntKind.i64.wrap (i+1))),(31003999,AV.undef)],hp:=[BS.arr true 23 [encDesk d],BS.seq true 31 (n+1) fun i=>bif i.blt n then F i else bif i.blt (n+1)then [[AV.int IntKind.i64 17,AV.int IntKind.i64 y4.fst.self.node,AV.int IntKind.i64 0,AV.int IntKind.i64 0,AV.int IntKind.i64 y4.fst.self.boot,AV.int IntKind.i64 y4.fst.shard,AV.int IntKind.i64 y4.fst.view.epoch,AV.int IntKind.i64 0,AV.int IntKind.i64 0,AV.int IntKind.i64 y4.snd.num,AV.int IntKind.i64 0,AV.int IntKind.i64 0,AV.bool false,AV.bool false,AV.str y4.snd.key,AV.str [],AV.cplx FloatKind.f64 default default,AV.cplx FloatKind.f64 default default,AV.int IntKind.i64 0,AV.str [],AV.str [],AV.str [],AV.bool false,encEntrys [],encMembers [],encViews [],AV.cplx FloatKind.f64 default default,AV.cplx FloatKind.f64 default default,AV.int IntKind.i64 0,encEntrys [],encSeens []]].getD (i - n) []else F n]})
    else none
   else none
  else none
 else
  bif n.beq 0||n.ble n then
   some (AV.tr 31 n fun i=>F i)
  else none:=by kernel_rfl
def tickP(d:Md.Desk):List Msg:=againP d.rep++flushMP (d.pump,d.rep)++d.asks.map fun a=>readM (d.rep,a)
def TkOk(d:Md.Desk):Prop:=RepAg d.rep/\d.pump.out.length<=100000/\d.asks.length<=100000/\(againP d.rep).length<=100000
def Holds(n:Nat)(F:Nat->List AV)(l:List Msg):Prop:=n=l.length /\ ∀ j,j<n->F j=encMsg (l.getD j default)
theorem Holds.app{n:Nat}{F:Nat->List AV}{l:List Msg}(h:Holds n F l)(x:Msg):Holds (n+1) (appN n F (View.list [encMsg x])) (l++[x]):=by
 obtain⟨rfl,h⟩:=h
 refine⟨by simp,fun j hj=>?_⟩
 by_cases hjl:j<l.length
 ·rw[appN_1 hjl,h j hjl]
  simp only[List.getD]
  rw[List.getElem?_append_left hjl]
 ·have:j=l.length:=by omega
  subst this
  rw[appN_2 (Nat.le_refl _) (show l.length<l.length+1 by omega)]
  simp only[List.getD]
  rw[List.getElem?_append_right (Nat.le_refl _),Nat.sub_self];rfl
theorem tk_run(N:Nat)(d:Md.Desk)(V:Nat->AV)(hst:∀ (m n:Nat) (F:Nat->List AV) (i:Nat),i<d.asks.length->n<=400000->LP (eTk knTk) N 0 F_head_Tick snK 0 [] (m+1) (STk d (V n) n F (i:Nat))=LP (eTk knTk) N 0 F_head_Tick snK 0 [] m (STk d (V (n+1)) (n+1) (appN n F (View.list [encMsg (readM (d.rep,d.asks.getD i default))])) ((i+1:Nat):Int)))
  (hen:∀ (m n:Nat) (F:Nat->List AV),LP (eTk knTk) N 0 F_head_Tick snK 0 [] (m+1) (STk d (V n) n F (d.asks.length:Nat))=some (.tr 31 n F)) :
  ∀ (k i m n:Nat) (F:Nat->List AV) (l:List Msg),i+k=d.asks.length->k<m->n+k<=400000->Holds n F l ->
   ∃ F',LP (eTk knTk) N 0 F_head_Tick snK 0 [] m (STk d (V n) n F (i:Nat))=some (.tr 31 (n+k) F')/\Holds (n+k) F' (l++(d.asks.drop i).map fun a=>readM (d.rep,a)):=by
 intro k
 induction k with
 | zero=>
  intro i m n F l hi hm hn hH
  obtain⟨m,rfl⟩:∃ k,m=k+1:=⟨m - 1,by omega⟩
  have:i=d.asks.length:=by omega
  subst this
  rw[hen,List.drop_eq_nil_of_le (Nat.le_refl _),List.map_nil,List.append_nil]
  exact⟨F,rfl,hH⟩
 | succ k ih=>
  intro i m n F l hi hm hn hH
  obtain⟨m,rfl⟩:∃ k,m=k+1:=⟨m - 1,by omega⟩
  have hil:i<d.asks.length:=by omega
  obtain⟨F',h1,h2⟩:=ih (i+1) m (n+1) _ _ (by omega) (by omega) (by omega) (hH.app (readM (d.rep,d.asks.getD i default)))
  rw[hst m n F i hil (by omega)]
  rw[drop_cons (z:=(default:Md.Ask)) hil,List.map_cons]
  rw[List.append_assoc]at h2
  rw[show n+1+k=n+(k+1) by omega]at h1 h2
  exact⟨F',h1,h2⟩
theorem tk_snS(N:Nat)(d:Md.Desk)(hd:d.asks.length<=100000)(m n:Nat)(F:Nat->List AV)(i:Nat)(hil:i<d.asks.length)(hn:n<=400000):LP (eTk knTk) N 0 F_head_Tick snK 0 [] (m+1) (STk d (.sn 31 1 n) n F (i:Nat))=LP (eTk knTk) N 0 F_head_Tick snK 0 [] m (STk d (.sn 31 1 (n+1)) (n+1) (appN n F (View.list [encMsg (readM (d.rep,d.asks.getD i default))])) ((i+1:Nat):Int)):=by
 have hw:IntKind.i64.wrap ((i:Int)+1)=((i+1:Nat):Int):=wrapS (by omega)
 rw[tk_sn,decide_eq_true (show((i:Nat):Int)<(d.asks.length:Int) by omega),decide_eq_true (show(0:Int)<=(i:Int) by omega),Int.toNat_natCast,qRead,hw,ble_le (Nat.le_refl _),ble_le (show(n+1)*392<=140737488355328 by omega),ble_le (show n+1<=140737488355328 by omega)]
 rfl
theorem tk_slS(N:Nat)(d:Md.Desk)(hd:d.asks.length<=100000)(m n:Nat)(F:Nat->List AV)(i:Nat)(hil:i<d.asks.length)(hn:n<=400000):LP (eTk knTk) N 0 F_head_Tick snK 0 [] (m+1) (STk d (.sl 31 1 0 n 0) n F (i:Nat))=LP (eTk knTk) N 0 F_head_Tick snK 0 [] m (STk d (.sl 31 1 0 (n+1) 0) (n+1) (appN n F (View.list [encMsg (readM (d.rep,d.asks.getD i default))])) ((i+1:Nat):Int)):=by
 have hw:IntKind.i64.wrap ((i:Int)+1)=((i+1:Nat):Int):=wrapS (by omega)
 rw[tk_sl,decide_eq_true (show((i:Nat):Int)<(d.asks.length:Int) by omega),decide_eq_true (show(0:Int)<=(i:Int) by omega),Int.toNat_natCast,qRead,hw,ble_le (Nat.le_refl _),Bool.or_true,ble_le (show(n+1)*392<=140737488355328 by omega),ble_le (show n+1<=140737488355328 by omega)]
 rfl
theorem flushMP_len(q:Pump × Rep):(flushMP q).length<=1:=by
 unfold flushMP
 cases q.1.out.isEmpty <;> simp
theorem tick_con(d:Md.Desk)(h:TkOk d):Contract PG F_head_Tick [.agg (encDesk d)] [] (encMsgs (tickP d)) []:=by
 obtain⟨N,hN⟩:∃ N,N=200000:=⟨_,rfl⟩
 obtain⟨h1,h2,h3,h4⟩:=h
 have hB:=flushMP_len (d.pump,d.rep)
 have key:∃ n F,callT (eTk knTk) (N+1) F_head_Tick [.agg (encDesk d)]=some (.tr 31 n F)/\Holds n F (tickP d):=by
  have hq1:∀ {K:Rep->Option AV},gC dRep1 RepAg eRep1 [.agg (encRep d.rep)] K=K d.rep:=fun {K}=>gC_eq d.rep (dec_encRep d.rep) h1 (.refl _)
  have hq2:∀ {K:Pump × Rep->Option AV},gC (fun a=>(decPump (argC a 0),decRep (argC a 1))) (fun q=>q.fst.out.length<=100000) eFm [.agg (encPump d.pump),.agg (encRep d.rep)] K=K (d.pump,d.rep):=fun {K}=>gC_eq (d.pump,d.rep) (Prod.ext (dec_encPump d.pump) (dec_encRep d.rep)) h2 (.refl _)
  have hsn:=tk_run N d (fun n=>.sn 31 1 n) (fun m n F i hil hn=>tk_snS N d h3 m n F i hil hn) (fun m n F=>by rw[tk_sn,decide_eq_false (by omega),cond_false,ble_le (Nat.le_refl _)];rfl)
  have hsl:=tk_run N d (fun n=>.sl 31 1 0 n 0) (fun m n F i hil hn=>tk_slS N d h3 m n F i hil hn) (fun m n F=>by rw[tk_sl,decide_eq_false (by omega),cond_false,ble_le (Nat.le_refl _),Bool.or_true];rfl)
  rw[tk_in,hq1,ble_le (show(0+(againP d.rep).length)*392<=140737488355328 by omega),ble_le (show 0+(againP d.rep).length<=140737488355328 by omega),Bool.and_true,cond_true]
  have T0:tickP d=(againP d.rep++flushMP (d.pump,d.rep))++(d.asks.drop 0).map fun a=>readM (d.rep,a):=rfl
  by_cases ha:(againP d.rep).length=0
  ·rw[AM.beq_true ha,cond_true,hq2,ble_le (show(0+(flushMP (d.pump,d.rep)).length)*392<=140737488355328 by omega),ble_le (show 0+(flushMP (d.pump,d.rep)).length<=140737488355328 by omega),Bool.and_true,cond_true]
   have ha':=List.length_eq_zero_iff.1 ha
   by_cases hb:(flushMP (d.pump,d.rep)).length=0
   ·rw[AM.beq_true hb,cond_true]
    have hb':=List.length_eq_zero_iff.1 hb
    obtain⟨F',e1,e2⟩:=hsn d.asks.length 0 N 0 (fun _=>[]) [] (by omega) (by omega) (by omega) ⟨rfl,fun j hj=>absurd hj (Nat.not_lt_zero j)⟩
    refine⟨_,F',e1,?_⟩
    rw[T0,ha',hb'];exact e2
   ·rw[AM.beq_false hb,cond_false]
    obtain⟨F',e1,e2⟩:=hsl d.asks.length 0 N (flushMP (d.pump,d.rep)).length (fun i=>encMsg ((flushMP (d.pump,d.rep)).getD i default)) (flushMP (d.pump,d.rep)) (by omega) (by omega) (by omega) ⟨rfl,fun j hj=>rfl⟩
    refine⟨_,F',e1,?_⟩
    rw[T0,ha',List.nil_append];exact e2
  ·rw[AM.beq_false ha,cond_false,hq2,ble_le (Nat.le_refl _),Bool.false_or,cond_true,ble_le (show((againP d.rep).length+(flushMP (d.pump,d.rep)).length)*392<=140737488355328 by omega),ble_le (show(againP d.rep).length+(flushMP (d.pump,d.rep)).length<=140737488355328 by omega),Bool.and_true,cond_true]
   by_cases hb:(flushMP (d.pump,d.rep)).length=0
   ·rw[AM.beq_true hb,cond_true]
    have hb':=List.length_eq_zero_iff.1 hb
    obtain⟨F',e1,e2⟩:=hsl d.asks.length 0 N (againP d.rep).length (fun i=>encMsg ((againP d.rep).getD i default)) (againP d.rep) (by omega) (by omega) (by omega) ⟨rfl,fun j hj=>rfl⟩
    refine⟨_,F',e1,?_⟩
    rw[T0,hb',List.append_nil];exact e2
   ·rw[AM.beq_false hb,cond_false]
    obtain⟨F',e1,e2⟩:=hsl d.asks.length 0 N ((againP d.rep).length+(flushMP (d.pump,d.rep)).length) (fun i=>bif i.blt (againP d.rep).length then encMsg ((againP d.rep).getD i default)else bif i.blt ((againP d.rep).length+(flushMP (d.pump,d.rep)).length)then encMsg ((flushMP (d.pump,d.rep)).getD (i - (againP d.rep).length) default)else encMsg ((againP d.rep).getD (againP d.rep).length default)) (againP d.rep++flushMP (d.pump,d.rep)) (by omega) (by omega) (by omega) ⟨by rw[List.length_append],fun j hj=>by
     dsimp only
     by_cases hj2:j<(againP d.rep).length
     ·rw[blt_true hj2,cond_true]
      simp only[List.getD]
      rw[List.getElem?_append_left hj2]
     ·rw[blt_false (by omega),cond_false,blt_true hj,cond_true]
      simp only[List.getD]
      rw[List.getElem?_append_right (by omega)]⟩
    refine⟨_,F',e1,?_⟩
    rw[T0];exact e2
 obtain⟨n,F,e,rfl,hF⟩:=key
 exact(conN (ak kAgain_ok (ak kFMsg_ok (ak kRead_ok ank))) e).res (.trs fun i hi=>by rw[hF i hi];exact .refl _)
def kHTick:Known:=.spec F_head_Tick (fun a=>decDesk (argC a 0)) TkOk (fun d=>[.agg (encDesk d)]) fun d=>encMsgs (tickP d)
theorem kHTick_ok:kHTick.Ok PG:=Known.spec_ok tick_con
structure Wrk where
 d:Md.Desk
 c:Conf
 out:List Msg
 just:Itm
 isRead:Bool
deriving Inhabited
def encWrk(w:Wrk):List AV:=encDkB 1 w.d++(encConf w.c++(.sn 31 3 w.out.length::(encItem w.just++[.bool w.isRead])))
def hpW(w:Wrk):Heap:=[.arr true 44 [encWrk w],sqL 4 encWait default w.d.waits,sqL 3 encAsk default w.d.asks,sqL 31 encMsg default w.out]
def eWk(l:List Known):Env:=envN [] [(F_head_work_fits,5),(F_head_work_to,5),(F_head_work_refuse,5),(F_head_work_mark,5),(F_chain_Head,0)] [] l
theorem ft_eq(w:Wrk)(m:Msg):callC 4 (eWk [kHead]) 9 F_head_work_fits [AV.ptr 0 0 0,AV.agg (encMsg m)] (hpW w)=gC dRep1 pRep1 eRep1 [AV.agg (encRep w.d.rep)] fun y0=>
 bif headP y0 then bif decide (m.dst=w.d.rep.self.node)then bif decide (m.boot=w.d.rep.self.boot)then bif decide (m.shard=w.d.rep.shard)then some (.bool (decide (m.epoch=w.d.rep.view.epoch)),hpW w)else some (.bool false,hpW w)else some (.bool false,hpW w)else some (.bool false,hpW w)else some (.bool false,hpW w):=by kernel_rfl
def fitsP(w:Wrk)(m:Msg):Bool:=headP w.d.rep&&(decide (m.dst=w.d.rep.self.node)&&(decide (m.boot=w.d.rep.self.boot)&&(decide (m.shard=w.d.rep.shard)&&decide (m.epoch=w.d.rep.view.epoch))))
theorem fits_con(w:Wrk)(m:Msg)(h:pRep1 w.d.rep):Contract PG F_head_work_fits [.ptr 0 0 0,.agg (encMsg m)] (hpW w) (.bool (fitsP w m)) (hpW w)/\(hpW w).length<=(hpW w).length:=by
 refine conC (ak kHead_ok ank) (c:=4) (n:=9) (Nat.le_refl 4) ((ft_eq w m).trans ?_)
 refine(qRep1 h).trans ?_
 unfold fitsP
 cases headP w.d.rep <;> cases decide (m.dst=w.d.rep.self.node) <;> cases decide (m.boot=w.d.rep.self.boot) <;> cases decide (m.shard=w.d.rep.shard) <;> rfl
def decDkB(cs:List AV)(ws:List Wait)(ks:List Md.Ask):Md.Desk:={decDesk cs with waits:=ws,asks:=ks}
theorem dec_encDkB(a:Nat)(l:List AV)(x:Md.Desk):decDkB (encDkB a x++l) x.waits x.asks=x:=by
 show(⟨⟨x.rep.shard,⟨x.rep.self.node,x.rep.self.boot⟩,⟨x.rep.view.shard,x.rep.view.epoch,x.rep.view.gen,x.rep.view.phase,decL decMember (encMembers x.rep.view.chain)⟩,x.rep.frozen,⟨⟨x.rep.tail.floor.re,x.rep.tail.floor.im⟩,⟨x.rep.tail.last.re,x.rep.tail.last.im⟩,decL decEntry (encEntrys x.rep.tail.log)⟩,decL decSeen (encSeens x.rep.seen),⟨x.rep.got.re,x.rep.got.im⟩,decL decBool (encBools x.rep.synced)⟩,⟨x.pump.num,decL decEntry (encEntrys x.pump.out),decL decItem (encItems x.pump.done)⟩,decL decItem (encItems x.clean),x.busy,x.waits,x.asks,x.next⟩:Md.Desk)=x
 simp only[decMembers,decEntrys,decSeens,decBools,decItems]
def dWrk(h:Heap):Wrk:=⟨decDkB (dCells (hget h 0)) (dRow decWait (hget h 1)) (dRow decAsk (hget h 2)),decConf ((dCells (hget h 0)).drop 23),dRow decMsg (hget h 3),decItem ((dCells (hget h 0)).drop 39),getB (dCells (hget h 0)) 43⟩
theorem dWrk_eq(w:Wrk):dWrk (hpW w)=w:=by
 have h1:dRow decWait (sqL 4 encWait default w.d.waits)=w.d.waits:=dRow_sqL (fun _=>rfl) _
 have h2:dRow decAsk (sqL 3 encAsk default w.d.asks)=w.d.asks:=dRow_sqL dec_encAsk _
 have h3:dRow decMsg (sqL 31 encMsg default w.out)=w.out:=dRow_sqL dec_encMsg _
 have h0:decDkB (encWrk w) w.d.waits w.d.asks=w.d:=dec_encDkB 1 _ w.d
 show(⟨decDkB (encWrk w) (dRow decWait (sqL 4 encWait default w.d.waits)) (dRow decAsk (sqL 3 encAsk default w.d.asks)),w.c,dRow decMsg (sqL 31 encMsg default w.out),w.just,w.isRead⟩:Wrk)=w
 rw[h1,h2,h3,h0]
abbrev WM:=Wrk × Msg
def dWM(a:List AV)(h:Heap):WM:=(dWrk h,decMsg (argC a 1))
def eWM(p:WM):List AV × Heap:=([.ptr 0 0 0,.agg (encMsg p.2)],hpW p.1)
theorem dWM_eq(p:WM):dWM (eWM p).1 (eWM p).2=p:=Prod.ext (dWrk_eq p.1) (dec_encMsg p.2)
def kFits:Known:=.specG F_head_work_fits dWM (fun _=>True) eWM (fun p=>(.bool (fitsP p.1 p.2),hpW p.1))
theorem kFits_ok:kFits.Ok PG:=Known.specG_ok fun p _=>fits_con p.1 p.2 trivial
def encWrkA(a:Nat)(w:Wrk):List AV:=encDkB a w.d++(encConf w.c++(.sn 31 (a+2) w.out.length::(encItem w.just++[.bool w.isRead])))
def hpD(w:Wrk):Heap:=[.arr true 44 [encWrkA 4 w],.dead,.dead,.dead,sqL 4 encWait default w.d.waits,sqL 3 encAsk default w.d.asks,sqL 31 encMsg default w.out]
def answM(w:Wrk)(dst sess num code:Int):Msg:={(default:Msg)with kind:=6,src:=w.d.rep.self.node,dst:=dst,shard:=w.d.rep.shard,sess:=sess,num:=num,code:=code}
def eWj(l:List Known):Env:=envN [] [(F_head_work_to,3),(F_head_work_refuse,5),(F_head_work_mark,5),(F_tail_Bytes,0),(F_mark_Next,0)] [] l
theorem mk_eq(w:Wrk):callC 1 (eWj [kBytes,kMark]) 9 F_head_work_mark [AV.ptr 0 0 0] (hpW w) =
 gC (fun a=>decTail (argC a 0)) (fun t=>EsOk t.log) (fun t=>[AV.agg (encTail t)]) ([AV.agg (encTail w.d.rep.tail)]) fun y0=>
 gC (fun a=>(getB a 0,getI a 1,getI a 2,getI a 3)) (fun x=>True) (eBM) ([AV.bool w.d.busy,AV.int IntKind.i64 (↑(bytesP y0.log):Int),AV.int IntKind.i64 w.c.high,AV.int IntKind.i64 w.c.low]) fun y1=>
 some ((AV.tup [],[BS.arr true 44 [[AV.int IntKind.i64 w.d.rep.shard,AV.int IntKind.i64 w.d.rep.self.node,AV.int IntKind.i64 w.d.rep.self.boot,AV.int IntKind.i64 w.d.rep.view.shard,AV.int IntKind.i64 w.d.rep.view.epoch,AV.int IntKind.i64 w.d.rep.view.gen,AV.int IntKind.i64 w.d.rep.view.phase,encMembers w.d.rep.view.chain,AV.int IntKind.i64 w.d.rep.frozen,AV.cplx FloatKind.f64 w.d.rep.tail.floor.re w.d.rep.tail.floor.im,AV.cplx FloatKind.f64 w.d.rep.tail.last.re w.d.rep.tail.last.im,encEntrys w.d.rep.tail.log,encSeens w.d.rep.seen,AV.cplx FloatKind.f64 w.d.rep.got.re w.d.rep.got.im,encBools w.d.rep.synced,AV.int IntKind.i64 w.d.pump.num,encEntrys w.d.pump.out,encItems w.d.pump.done,encItems w.d.clean,AV.bool (markP y1.fst y1.snd.fst y1.snd.snd.fst y1.snd.snd.snd),AV.sn 4 4 w.d.waits.length,AV.sn 3 5 w.d.asks.length,AV.int IntKind.i64 w.d.next,AV.int IntKind.i64 w.c.nodes,AV.int IntKind.i64 w.c.chain,AV.int IntKind.i64 w.c.shards,AV.int IntKind.i64 w.c.clients,AV.int IntKind.i64 w.c.maxKey,AV.int IntKind.i64 w.c.maxVal,AV.int IntKind.i64 w.c.high,AV.int IntKind.i64 w.c.low,AV.int IntKind.i64 w.c.room,AV.int IntKind.i64 w.c.maxLog,AV.int IntKind.i64 w.c.batch,AV.int IntKind.i64 w.c.sessions,AV.int IntKind.i64 w.c.suspect,AV.int IntKind.i64 w.c.patience,AV.int IntKind.i64 w.c.maxSeq,AV.sn 31 6 w.out.length,AV.str w.just.key,AV.str w.just.val,AV.bool w.just.has,AV.cplx FloatKind.f64 w.just.ver.re w.just.ver.im,AV.bool w.isRead]],BS.dead,BS.dead,BS.dead,BS.seq true 4 w.d.waits.length fun i=>encWait (w.d.waits.getD i default),BS.seq true 3 w.d.asks.length fun i=>encAsk (w.d.asks.getD i default),BS.seq true 31 w.out.length fun i=>encMsg (w.out.getD i default)])):=by kernel_rfl
def markW(w:Wrk):Wrk:={w with d:={w.d with busy:=markP w.d.busy (bytesP w.d.rep.tail.log) w.c.high w.c.low}}
theorem wmark_con(w:Wrk)(h:EsOk w.d.rep.tail.log):Contract PG F_head_work_mark [.ptr 0 0 0] (hpW w) (.tup []) (hpD (markW w))/\(hpW w).length<=(hpD (markW w)).length:=by
 refine conC (ak kBytes_ok (ak kMark_ok ank)) (c:=1) (n:=9) (by show 1<=4;omega) ((mk_eq w).trans ?_)
 have hq1:∀ {K:Tail->Option (AV × Heap)},gC (fun a=>decTail (argC a 0)) (fun t=>EsOk t.log) (fun t=>[AV.agg (encTail t)]) [AV.agg (encTail w.d.rep.tail)] K=K w.d.rep.tail:=fun {K}=>gC_eq w.d.rep.tail (dec_encTail w.d.rep.tail) h (.refl _)
 have hq2:∀ {n:Int} {K:BM->Option (AV × Heap)},gC (fun a=>(getB a 0,getI a 1,getI a 2,getI a 3)) (fun _=>True) eBM [AV.bool w.d.busy,AV.int IntKind.i64 n,AV.int IntKind.i64 w.c.high,AV.int IntKind.i64 w.c.low] K=K (w.d.busy,n,w.c.high,w.c.low):=fun {n K}=>gC_eq (w.d.busy,n,w.c.high,w.c.low) rfl trivial (.refl _)
 rw[hq1,hq2]
 rfl
def kWMark:Known:=.specG F_head_work_mark (fun _ h=>dWrk h) (fun w=>EsOk w.d.rep.tail.log) (fun w=>([.ptr 0 0 0],hpW w)) (fun w=>(.tup [],hpD (markW w)))
theorem kWMark_ok:kWMark.Ok PG:=Known.specG_ok wmark_con
def wrkC(w:Wrk)(x y z:AV):List AV:=[.int .i64 w.d.rep.shard,.int .i64 w.d.rep.self.node,.int .i64 w.d.rep.self.boot,.int .i64 w.d.rep.view.shard,.int .i64 w.d.rep.view.epoch,.int .i64 w.d.rep.view.gen,.int .i64 w.d.rep.view.phase,encMembers w.d.rep.view.chain,.int .i64 w.d.rep.frozen,.cplx .f64 w.d.rep.tail.floor.re w.d.rep.tail.floor.im,.cplx .f64 w.d.rep.tail.last.re w.d.rep.tail.last.im,encEntrys w.d.rep.tail.log,encSeens w.d.rep.seen,.cplx .f64 w.d.rep.got.re w.d.rep.got.im,encBools w.d.rep.synced,.int .i64 w.d.pump.num,encEntrys w.d.pump.out,encItems w.d.pump.done,encItems w.d.clean,.bool w.d.busy,x,y,.int .i64 w.d.next]++(encConf w.c++(z::(encItem w.just++[.bool w.isRead])))
def hpN(w:Wrk)(nW:Nat)(FW:Nat->List AV)(nK:Nat)(FK:Nat->List AV)(nO:Nat)(FO:Nat->List AV):Heap:=
 [.arr true 44 [wrkC w (.sn 4 4 nW) (.sn 3 5 nK) (.sn 31 6 nO)],.dead,.dead,.dead,.seq true 4 nW FW,.seq true 3 nK FK,.seq true 31 nO FO]
def fWt(l:List Wait):Nat->List AV:=fun i=>encWait (l.getD i default)
def fAk(l:List Md.Ask):Nat->List AV:=fun i=>encAsk (l.getD i default)
def fMg(l:List Msg):Nat->List AV:=fun i=>encMsg (l.getD i default)
theorem hpN_eq(w:Wrk)(W:List Wait)(K:List Md.Ask)(O:List Msg):hpN w W.length (fWt W) K.length (fAk K) O.length (fMg O)=hpD {w with d:={w.d with waits:=W,asks:=K},out:=O}:=rfl
def answC(w:Wrk)(dst sess num code:Int):List AV:=[.int .i64 6,.int .i64 w.d.rep.self.node,.int .i64 dst,.int .i64 0,.int .i64 0,.int .i64 w.d.rep.shard,.int .i64 0,.int .i64 0,.int .i64 sess,.int .i64 num,.int .i64 0,.int .i64 code,.bool false,.bool false,.str [],.str [],.cplx .f64 0 0,.cplx .f64 0 0,.int .i64 0,.str [],.str [],.str [],.bool false,.nils,.nils,.nils,.cplx .f64 0 0,.cplx .f64 0 0,.int .i64 0,.nils,.nils]
theorem answC_sub(w:Wrk)(dst sess num code:Int):SubC (answC w dst sess num code) (encMsg (answM w dst sess num code)):=subC_all (by repeat' (first | exact trivial | exact nilsL | exact SubV.refl _ | refine⟨?_,?_⟩))
theorem appN_sub{X:Type}{e:X->List AV}{z:X}{l:List X}{x:X}{cs:List AV}(h:SubC cs (e x))(i:Nat)(hi:i<l.length+1):SubC (appN l.length (fun i=>e (l.getD i z)) (.list [cs]) i) (e ((l++[x]).getD i z)):=by
 by_cases hl:i<l.length
 ·rw[appN_1 hl]
  simp only[List.getD]
  rw[List.getElem?_append_left hl];exact .refl _
 ·have:i=l.length:=by omega
  subst this
  rw[appN_2 (Nat.le_refl _) (show l.length<l.length+1 by omega)]
  simp only[List.getD]
  rw[List.getElem?_append_right (Nat.le_refl _),Nat.sub_self];exact h
theorem hpN_sub(w:Wrk){n:Nat}{F G:Nat->List AV}{a:Nat}{A:Nat->List AV}{b:Nat}{B:Nat->List AV}(h:∀ i,i<n->SubC (F i) (G i)):HSub (hpN w a A b B n F) (hpN w a A b B n G):=
 .cons (.refl _) (.cons (.refl _) (.cons (.refl _) (.cons (.refl _) (.cons (.refl _) (.cons (.refl _) (.cons (.seq true 31 n n F G (Nat.le_refl _) h) .nil))))))
def eWr(l:List Known):Env:=envN [] [(F_head_work_to,3),(F_head_work_refuse,5),(F_head_work_mark,5),(F_head_work_wait,5),(F_slices_DeleteFunc_api_Wait,5)] [] l
theorem rf_eq(w:Wrk)(m:Msg)(code:Int):callC 1 (eWr []) 9 F_head_work_refuse [.ptr 0 0 0,.agg (encMsg m),.int .i64 code] (hpW w) =
 bif w.out.length.ble w.out.length then bif((w.out.length+1)*392).ble 140737488355328&&(w.out.length+1).ble 140737488355328 then
  some (.tup [],hpN w w.d.waits.length (fWt w.d.waits) w.d.asks.length (fAk w.d.asks) (w.out.length+1) (appN w.out.length (fMg w.out) (.list [answC w m.src m.sess m.num code])))else none else none:=by kernel_rfl
def outW(w:Wrk)(l:List Msg):Wrk:={w with out:=w.out++l}
def refuseW(w:Wrk)(m:Msg)(code:Int):Wrk:=outW w [answM w m.src m.sess m.num code]
theorem appN_f{X:Type}(e:X->List AV)(z:X)(l:List X)(x:X):appN l.length (fun i=>e (l.getD i z)) (.list [e x])=fun i=>e ((l++[x]).getD i z):=appN_one e z l x
theorem refuse_con(w:Wrk)(m:Msg)(code:Int)(h:w.out.length<=1000000):Contract PG F_head_work_refuse [.ptr 0 0 0,.agg (encMsg m),.int .i64 code] (hpW w) (.tup []) (hpD (refuseW w m code))/\(hpW w).length<=(hpD (refuseW w m code)).length:=by
 have e:=rf_eq w m code
 rw[ble_le (Nat.le_refl _),ble_le (show(w.out.length+1)*392<=140737488355328 by omega),ble_le (show w.out.length+1<=140737488355328 by omega)]at e
 have c:=conC (fun k hk=>by cases hk) (c:=1) (n:=9) (by show 1<=4;omega) e
 refine⟨?_,by show 4<=7;omega⟩
 have hd:hpD (refuseW w m code)=hpN w w.d.waits.length (fWt w.d.waits) w.d.asks.length (fAk w.d.asks) (w.out.length+1) (fMg (w.out++[answM w m.src m.sess m.num code])):=by
  rw[show w.out.length+1=(w.out++[answM w m.src m.sess m.num code]).length by simp,hpN_eq];rfl
 rw[hd]
 exact c.1.resub (.refl _) (hpN_sub w fun i hi=>appN_sub (answC_sub w m.src m.sess m.num code) i hi)
abbrev WMI:=Wrk × Msg × Int
def dWMI(a:List AV)(h:Heap):WMI:=(dWrk h,decMsg (argC a 1),getI a 2)
def eWMI(p:WMI):List AV × Heap:=([.ptr 0 0 0,.agg (encMsg p.2.1),.int .i64 p.2.2],hpW p.1)
theorem dWMI_eq(p:WMI):dWMI (eWMI p).1 (eWMI p).2=p:=Prod.ext (dWrk_eq p.1) (Prod.ext (dec_encMsg p.2.1) rfl)
def kRefuse:Known:=.specG F_head_work_refuse dWMI (fun p=>p.1.out.length<=1000000) eWMI (fun p=>(.tup [],hpD (refuseW p.1 p.2.1 p.2.2)))
theorem kRefuse_ok:kRefuse.Ok PG:=Known.specG_ok fun p h=>refuse_con p.1 p.2.1 p.2.2 h
theorem wt_eq(w:Wrk)(v:Ver)(m:Msg):callC 1 (eWr [kDW]) 9 F_head_work_wait [.ptr 0 0 0,eV v,.agg (encMsg m)] (hpW w) =
 gCG dLW pLW eLW (eLW (w.d.waits,m)).1 (eLW (w.d.waits,m)).2 fun y=>
 bif(y.1.filter fun x=>!pW y.2 x).length.ble (y.1.filter fun x=>!pW y.2 x).length then bif(((y.1.filter fun x=>!pW y.2 x).length+1)*40).ble 140737488355328&&((y.1.filter fun x=>!pW y.2 x).length+1).ble 140737488355328 then
  some (.tup [],hpN w ((y.1.filter fun x=>!pW y.2 x).length+1) (appN (y.1.filter fun x=>!pW y.2 x).length (fWt (y.1.filter fun x=>!pW y.2 x)) (.list [encWait ⟨v,y.2.src,y.2.sess,y.2.num⟩])) w.d.asks.length (fAk w.d.asks) w.out.length (fMg w.out))else none else none:=by kernel_rfl
def waitW(w:Wrk)(v:Ver)(m:Msg):Wrk:={w with d:={w.d with waits:=(w.d.waits.filter fun x=>!pW m x)++[⟨v,m.src,m.sess,m.num⟩]}}
theorem wait_con(w:Wrk)(v:Ver)(m:Msg)(h:w.d.waits.length<=100000):Contract PG F_head_work_wait [.ptr 0 0 0,eV v,.agg (encMsg m)] (hpW w) (.tup []) (hpD (waitW w v m))/\(hpW w).length<=(hpD (waitW w v m)).length:=by
 refine conC (ak kDW_ok ank) (c:=1) (n:=9) (by show 1<=4;omega) ((wt_eq w v m).trans ?_)
 have hq:∀ {K:YW->Option (AV × Heap)},gCG dLW pLW eLW (eLW (w.d.waits,m)).1 (eLW (w.d.waits,m)).2 K=K (w.d.waits,m):=fun {K}=>gCG_eq (w.d.waits,m) (dLW_eq _) h (.refl _) (.refl _)
 rw[hq]
 dsimp only
 generalize hW:(w.d.waits.filter fun x=>!pW m x)=W
 have hl:W.length<=100000:=by rw[<- hW];exact Nat.le_trans (List.length_filter_le _ _) h
 rw[ble_le (Nat.le_refl _),ble_le (show(W.length+1)*40<=140737488355328 by omega),ble_le (show W.length+1<=140737488355328 by omega)]
 have:appN W.length (fWt W) (.list [encWait ⟨v,m.src,m.sess,m.num⟩])=fWt (W++[⟨v,m.src,m.sess,m.num⟩]):=appN_f _ _ _ _
 rw[this,show W.length+1=(W++[(⟨v,m.src,m.sess,m.num⟩:Wait)]).length by simp,hpN_eq]
 unfold waitW
 rw[hW]
 rfl
abbrev WVM:=Wrk × Ver × Msg
def dWVM(a:List AV)(h:Heap):WVM:=(dWrk h,⟨(getC a 1).1,(getC a 1).2⟩,decMsg (argC a 2))
def eWVM(p:WVM):List AV × Heap:=([.ptr 0 0 0,eV p.2.1,.agg (encMsg p.2.2)],hpW p.1)
theorem dWVM_eq(p:WVM):dWVM (eWVM p).1 (eWVM p).2=p:=Prod.ext (dWrk_eq p.1) (Prod.ext rfl (dec_encMsg p.2.2))
def kWait:Known:=.specG F_head_work_wait dWVM (fun p=>p.1.d.waits.length<=100000) eWVM (fun p=>(.tup [],hpD (waitW p.1 p.2.1 p.2.2)))
theorem kWait_ok:kWait.Ok PG:=Known.specG_ok fun p h=>wait_con p.1 p.2.1 p.2.2 h
def eAn(l:List Known):Env:=envN [(F_head_work_answer,0,[0,1,4,5,21,22,23,4005999])] [(F_head_work_to,3),(F_head_work_answer,5),(F_seen_Find,0),(F_ver_Ahead,0)] [] l
def knAn:List Known:=[kFind,kAhead]
def frAn(w:Wrk)(v:Ver)(r l nL:Nat)(i:Int):Fr:=[(0,.ptr 0 0 0),(1,eV v),(4,.ptr r 0 0),(5,.sn 4 l nL),(21,.sn 4 1 w.d.waits.length),(22,.int .i64 w.d.waits.length),(23,.int .i64 i),(4005999,.undef)]
def hAn(w:Wrk)(nL:Nat)(FL:Nat->List AV):Heap:=[.arr true 44 [wrkC w (.sn 4 1 w.d.waits.length) (.sn 3 2 w.d.asks.length) (.sn 31 3 w.out.length)],.seq true 4 w.d.waits.length (fWt w.d.waits),.seq true 3 w.d.asks.length (fAk w.d.asks),.seq true 31 w.out.length (fMg w.out),.arr true 15 [encRep w.d.rep],.seq true 4 nL FL]
def hBn(w:Wrk)(nO:Nat)(FO:Nat->List AV)(nL:Nat)(FL:Nat->List AV):Heap:=[.arr true 44 [wrkC w (.sn 4 1 w.d.waits.length) (.sn 3 2 w.d.asks.length) (.sn 31 4 nO)],.seq true 4 w.d.waits.length (fWt w.d.waits),.seq true 3 w.d.asks.length (fAk w.d.asks),.dead,.seq true 31 nO FO,.arr true 15 [encRep w.d.rep],.seq true 4 nL FL]
def LAn(w:Wrk)(v:Ver)(N m nL:Nat)(FL:Nat->List AV)(i:Int):Option (AV × Heap):=LP (eAn knAn) (N+1) 4 F_head_work_answer (cnK 1 4) 0 [] m {fr:=frAn w v 4 5 nL i,hp:=hAn w nL FL}
def LBn(w:Wrk)(v:Ver)(N m nO:Nat)(FO:Nat->List AV)(nL:Nat)(FL:Nat->List AV)(i:Int):Option (AV × Heap):=LP (eAn knAn) (N+1) 4 F_head_work_answer (cnK 1 4) 0 [] m {fr:=frAn w v 5 6 nL i,hp:=hBn w nO FO nL FL}
theorem an_in(N:Nat)(w:Wrk)(v:Ver):callC 1 (eAn knAn) (N+2) F_head_work_answer [AV.ptr 0 0 0,eV v] (hpW w)=LAn w v N (N+1) 0 (fun _=>[]) 0:=by kernel_rfl
def ansC(w:Wrk)(x:Wait)(s:Seen):List AV:=[.int .i64 6,.int .i64 w.d.rep.self.node,.int .i64 x.dst,.int .i64 0,.int .i64 0,.int .i64 w.d.rep.shard,.int .i64 0,.int .i64 0,.int .i64 x.sess,.int .i64 x.num,.int .i64 0,.int .i64 s.code,.bool s.hasRes,.bool false,.str [],.str s.res,.cplx .f64 s.ver.re s.ver.im,.cplx .f64 0 0,.int .i64 0,.str [],.str [],.str [],.bool false,.nils,.nils,.nils,.cplx .f64 0 0,.cplx .f64 0 0,.int .i64 0,.nils,.nils]
theorem an_st(N m:Nat)(w:Wrk)(v:Ver)(nL:Nat)(FL:Nat->List AV)(i:Int):LAn w v N (m+1) nL FL i =
 bif decide (i<(w.d.waits.length:Int))then rg i w.d.waits.length (bif i.toNat.blt w.d.waits.length then
  gC dSI (fun p=>SOk p.1) eSI [encSeens w.d.rep.seen,.int .i64 (w.d.waits.getD i.toNat default).sess] fun y=>
  gC dV2 V2 eV2 [eV v,eV (w.d.waits.getD i.toNat default).ver] fun z=>
  bif vlt z.1 z.2 then bif nL.ble nL then bif((nL+1)*40).ble 140737488355328&&(nL+1).ble 140737488355328 then LAn w v N m (nL+1) (appN nL FL (.list [encWait (w.d.waits.getD i.toNat default)])) (IntKind.i64.wrap (i+1))else none else none
  else bif decide ((findP y.1 y.2).1.kind=5)then gC dV2 V2 eV2 [eV w.d.rep.tail.floor,eV (w.d.waits.getD i.toNat default).ver] fun u=>bif vlt u.1 u.2 then bif nL.ble nL then bif((nL+1)*40).ble 140737488355328&&(nL+1).ble 140737488355328 then LAn w v N m (nL+1) (appN nL FL (.list [encWait (w.d.waits.getD i.toNat default)])) (IntKind.i64.wrap (i+1))else none else none
   else bif w.out.length.ble w.out.length then bif((w.out.length+1)*392).ble 140737488355328&&(w.out.length+1).ble 140737488355328 then LBn w v N m (w.out.length+1) (appN w.out.length (fMg w.out) (.list [ansC w (w.d.waits.getD i.toNat default) (findP y.1 y.2).1])) nL FL (IntKind.i64.wrap (i+1))else none else none
  else bif w.out.length.ble w.out.length then bif((w.out.length+1)*392).ble 140737488355328&&(w.out.length+1).ble 140737488355328 then LBn w v N m (w.out.length+1) (appN w.out.length (fMg w.out) (.list [ansC w (w.d.waits.getD i.toNat default) (findP y.1 y.2).1])) nL FL (IntKind.i64.wrap (i+1))else none else none else none)
 else some (.tup [],hpN w nL FL w.d.asks.length (fAk w.d.asks) w.out.length (fMg w.out)):=by kernel_rfl
theorem bn_st(N m:Nat)(w:Wrk)(v:Ver)(nO:Nat)(FO:Nat->List AV)(nL:Nat)(FL:Nat->List AV)(i:Int):LBn w v N (m+1) nO FO nL FL i =
 bif decide (i<(w.d.waits.length:Int))then rg i w.d.waits.length (bif i.toNat.blt w.d.waits.length then
  gC dSI (fun p=>SOk p.1) eSI [encSeens w.d.rep.seen,.int .i64 (w.d.waits.getD i.toNat default).sess] fun y=>
  gC dV2 V2 eV2 [eV v,eV (w.d.waits.getD i.toNat default).ver] fun z=>
  bif vlt z.1 z.2 then bif nL.ble nL then bif((nL+1)*40).ble 140737488355328&&(nL+1).ble 140737488355328 then LBn w v N m nO FO (nL+1) (appN nL FL (.list [encWait (w.d.waits.getD i.toNat default)])) (IntKind.i64.wrap (i+1))else none else none
  else bif decide ((findP y.1 y.2).1.kind=5)then gC dV2 V2 eV2 [eV w.d.rep.tail.floor,eV (w.d.waits.getD i.toNat default).ver] fun u=>bif vlt u.1 u.2 then bif nL.ble nL then bif((nL+1)*40).ble 140737488355328&&(nL+1).ble 140737488355328 then LBn w v N m nO FO (nL+1) (appN nL FL (.list [encWait (w.d.waits.getD i.toNat default)])) (IntKind.i64.wrap (i+1))else none else none
   else bif nO.ble nO then bif((nO+1)*392).ble 140737488355328&&(nO+1).ble 140737488355328 then LBn w v N m (nO+1) (appN nO FO (.list [ansC w (w.d.waits.getD i.toNat default) (findP y.1 y.2).1])) nL FL (IntKind.i64.wrap (i+1))else none else none
  else bif nO.ble nO then bif((nO+1)*392).ble 140737488355328&&(nO+1).ble 140737488355328 then LBn w v N m (nO+1) (appN nO FO (.list [ansC w (w.d.waits.getD i.toNat default) (findP y.1 y.2).1])) nL FL (IntKind.i64.wrap (i+1))else none else none else none)
 else some (.tup [],hpN w nL FL w.d.asks.length (fAk w.d.asks) nO FO):=by kernel_rfl
theorem hpN_sub2(w:Wrk){n:Nat}{F G:Nat->List AV}{a:Nat}{A A':Nat->List AV}{b:Nat}{B:Nat->List AV}(hA:∀ i,i<a->SubC (A i) (A' i))(h:∀ i,i<n->SubC (F i) (G i)):HSub (hpN w a A b B n F) (hpN w a A' b B n G):=
 .cons (.refl _) (.cons (.refl _) (.cons (.refl _) (.cons (.refl _) (.cons (.seq true 4 a a A A' (Nat.le_refl _) hA) (.cons (.refl _) (.cons (.seq true 31 n n F G (Nat.le_refl _) h) .nil))))))
def earlyP(w:Wrk)(v:Ver)(x:Wait):Bool:=vlt v x.ver||(decide ((findP w.d.rep.seen x.sess).1.kind=5)&&vlt w.d.rep.tail.floor x.ver)
def ansM(w:Wrk)(x:Wait):Msg:={answM w x.dst x.sess x.num (findP w.d.rep.seen x.sess).1.code with has:=(findP w.d.rep.seen x.sess).1.hasRes,val:=(findP w.d.rep.seen x.sess).1.res,ver:=(findP w.d.rep.seen x.sess).1.ver}
theorem ansC_sub(w:Wrk)(x:Wait):SubC (ansC w x (findP w.d.rep.seen x.sess).1) (encMsg (ansM w x)):=subC_all (by repeat' (first | exact trivial | exact nilsL | exact SubV.refl _ | refine⟨?_,?_⟩))
def leftL(w:Wrk)(v:Ver)(l:List Wait):List Wait:=l.filter (earlyP w v)
def saidL(w:Wrk)(v:Ver)(l:List Wait):List Msg:=(l.filter fun x=>!earlyP w v x).map (ansM w)
def answerW(w:Wrk)(v:Ver):Wrk:={w with d:={w.d with waits:=leftL w v w.d.waits},out:=w.out++saidL w v w.d.waits}
def AnOk(w:Wrk)(v:Ver):Prop:=SOk w.d.rep.seen/\VNum v/\VNum w.d.rep.tail.floor/\w.d.waits.length<=100000/\w.out.length<=1000000 /\ ∀ x ∈ w.d.waits,VNum x.ver
def Reads(n:Nat)(F:Nat->List AV)(l:List Msg):Prop:=n=l.length /\ ∀ j,j<n->SubC (F j) (fMg l j)
theorem Reads.refl(l:List Msg):Reads l.length (fMg l) l:=⟨rfl,fun _ _=>.refl _⟩
theorem Reads.app{n:Nat}{F:Nat->List AV}{l:List Msg}{cs:List AV}{x:Msg}(h:Reads n F l)(hx:SubC cs (encMsg x)):Reads (n+1) (appN n F (.list [cs])) (l++[x]):=by
 obtain⟨rfl,h⟩:=h
 refine⟨by simp,fun j hj=>?_⟩
 by_cases hl:j<l.length
 ·rw[appN_1 hl]
  have:fMg (l++[x]) j=fMg l j:=by
   unfold fMg
   simp only[List.getD]
   rw[List.getElem?_append_left hl]
  rw[this];exact h j hl
 ·have:j=l.length:=by omega
  subst this
  rw[appN_2 (Nat.le_refl _) (show l.length<l.length+1 by omega)]
  have:fMg (l++[x]) l.length=encMsg x:=by
   unfold fMg
   simp only[List.getD]
   rw[List.getElem?_append_right (Nat.le_refl _),Nat.sub_self];rfl
  rw[this,Nat.sub_self];exact hx
def HoldW(n:Nat)(F:Nat->List AV)(l:List Wait):Prop:=n=l.length /\ ∀ j,j<n->F j=fWt l j
theorem HoldW.app{n:Nat}{F:Nat->List AV}{l:List Wait}(h:HoldW n F l)(x:Wait):HoldW (n+1) (appN n F (.list [encWait x])) (l++[x]):=by
 obtain⟨rfl,h⟩:=h
 refine⟨by simp,fun j hj=>?_⟩
 by_cases hl:j<l.length
 ·rw[appN_1 hl,h j hl]
  unfold fWt
  simp only[List.getD]
  rw[List.getElem?_append_left hl]
 ·have:j=l.length:=by omega
  subst this
  rw[appN_2 (Nat.le_refl _) (show l.length<l.length+1 by omega)]
  unfold fWt
  simp only[List.getD]
  rw[List.getElem?_append_right (Nat.le_refl _),Nat.sub_self];rfl
def AnsIs(w:Wrk)(W:List Wait)(O:List Msg)(r:Option (AV × Heap)):Prop:=∃ a A n F,HoldW a A W/\Reads n F O/\r=some (.tup [],hpN w a A w.d.asks.length (fAk w.d.asks) n F)
theorem bn_go(w:Wrk)(v:Ver)(h:AnOk w v)(N:Nat):∀ (d i m:Nat) (L:List Wait) (a:Nat) (A:Nat->List AV) (n:Nat) (F:Nat->List AV) (O:List Msg),i+d=w.d.waits.length->d<m->a<=i->HoldW a A L->Reads n F O->n<=1000000+i ->
  AnsIs w (L++leftL w v (w.d.waits.drop i)) (O++saidL w v (w.d.waits.drop i)) (LBn w v N m n F a A (i:Nat)):=by
 obtain⟨h1,h2,h3,h4,h5,h6⟩:=h
 intro d
 induction d with
 | zero=>
  intro i m L a A n F O hi hm hL hW hR hn
  obtain⟨m,rfl⟩:∃ k,m=k+1:=⟨m - 1,by omega⟩
  rw[bn_st,decide_eq_false (by omega),cond_false,List.drop_eq_nil_of_le (by omega)]
  exact⟨a,A,n,F,by simpa [leftL] using hW,by simpa [saidL] using hR,rfl⟩
 | succ d ih=>
  intro i m L a A n F O hi hm hL hW hR hn
  obtain⟨m,rfl⟩:∃ k,m=k+1:=⟨m - 1,by omega⟩
  have hil:i<w.d.waits.length:=by omega
  have hx:=h6 _ (getD_mem (z:=(default:Wait)) hil)
  have hd:=drop_cons (z:=(default:Wait)) hil
  have hw:IntKind.i64.wrap ((i:Int)+1)=((i+1:Nat):Int):=wrapS (by omega)
  generalize hX:w.d.waits.getD i default=x at *
  have eE:earlyP w v x=true->AnsIs w (L++leftL w v (w.d.waits.drop i)) (O++saidL w v (w.d.waits.drop i)) (LBn w v N m n F (a+1) (appN a A (.list [encWait x])) ((i+1:Nat):Int)):=by
   intro he
   have k:=ih (i+1) m (L++[x]) _ _ n F O (by omega) (by omega) (by omega) (hW.app x) hR (by omega)
   rw[hd]
   simpa [leftL,saidL,he] using k
  have eL:earlyP w v x=false->AnsIs w (L++leftL w v (w.d.waits.drop i)) (O++saidL w v (w.d.waits.drop i)) (LBn w v N m (n+1) (appN n F (.list [ansC w x (findP w.d.rep.seen x.sess).1])) a A ((i+1:Nat):Int)):=by
   intro he
   have k:=ih (i+1) m L a A _ _ _ (by omega) (by omega) (by omega) hW (hR.app (ansC_sub w x)) (by omega)
   rw[hd]
   simpa [leftL,saidL,he] using k
  have t1:∀ {K:SI->Option (AV × Heap)},gC dSI (fun p=>SOk p.1) eSI [encSeens w.d.rep.seen,.int .i64 x.sess] K=K (w.d.rep.seen,x.sess):=fun {K}=>qFind h1
  have t2:∀ {K:Ver × Ver->Option (AV × Heap)},gC dV2 V2 eV2 [eV v,eV x.ver] K=K (v,x.ver):=fun {K}=>qV2 h2 hx
  have t3:∀ {K:Ver × Ver->Option (AV × Heap)},gC dV2 V2 eV2 [eV w.d.rep.tail.floor,eV x.ver] K=K (w.d.rep.tail.floor,x.ver):=fun {K}=>qV2 h3 hx
  rw[bn_st,decide_eq_true (show((i:Nat):Int)<(w.d.waits.length:Int) by omega),cond_true,rg_eq hil,Int.toNat_natCast,blt_true hil,cond_true,hX,t1,t2,hw,ble_le (Nat.le_refl a),ble_le (show(a+1)*40<=140737488355328 by omega),ble_le (show a+1<=140737488355328 by omega),ble_le (Nat.le_refl n),ble_le (show(n+1)*392<=140737488355328 by omega),ble_le (show n+1<=140737488355328 by omega)]
  dsimp only [Bool.and_true,cond_true]
  cases c1:vlt v x.ver with
  | true=>exact eE (by simp[earlyP,c1])
  | false=>
   rw[cond_false]
   cases c2:decide ((findP w.d.rep.seen x.sess).1.kind=5)with
   | false=>exact eL (by simp[earlyP,c1,c2])
   | true=>
    rw[cond_true,t3]
    cases c3:vlt w.d.rep.tail.floor x.ver with
    | true=>exact eE (by simp[earlyP,c1,c2,c3])
    | false=>exact eL (by simp[earlyP,c1,c2,c3])
theorem an_go(w:Wrk)(v:Ver)(h:AnOk w v)(N:Nat):∀ (d i m:Nat) (L:List Wait) (a:Nat) (A:Nat->List AV),i+d=w.d.waits.length->d<m->a<=i->HoldW a A L ->
  AnsIs w (L++leftL w v (w.d.waits.drop i)) (w.out++saidL w v (w.d.waits.drop i)) (LAn w v N m a A (i:Nat)):=by
 have hB:=bn_go w v h N
 obtain⟨h1,h2,h3,h4,h5,h6⟩:=h
 intro d
 induction d with
 | zero=>
  intro i m L a A hi hm hL hW
  obtain⟨m,rfl⟩:∃ k,m=k+1:=⟨m - 1,by omega⟩
  rw[an_st,decide_eq_false (by omega),cond_false,List.drop_eq_nil_of_le (by omega)]
  exact⟨a,A,_,_,by simpa [leftL] using hW,by simpa [saidL] using Reads.refl w.out,rfl⟩
 | succ d ih=>
  intro i m L a A hi hm hL hW
  obtain⟨m,rfl⟩:∃ k,m=k+1:=⟨m - 1,by omega⟩
  have hil:i<w.d.waits.length:=by omega
  have hx:=h6 _ (getD_mem (z:=(default:Wait)) hil)
  have hd:=drop_cons (z:=(default:Wait)) hil
  have hw:IntKind.i64.wrap ((i:Int)+1)=((i+1:Nat):Int):=wrapS (by omega)
  generalize hX:w.d.waits.getD i default=x at *
  have eE:earlyP w v x=true->AnsIs w (L++leftL w v (w.d.waits.drop i)) (w.out++saidL w v (w.d.waits.drop i)) (LAn w v N m (a+1) (appN a A (.list [encWait x])) ((i+1:Nat):Int)):=by
   intro he
   have k:=ih (i+1) m (L++[x]) _ _ (by omega) (by omega) (by omega) (hW.app x)
   rw[hd]
   simpa [leftL,saidL,he] using k
  have eL:earlyP w v x=false->AnsIs w (L++leftL w v (w.d.waits.drop i)) (w.out++saidL w v (w.d.waits.drop i)) (LBn w v N m (w.out.length+1) (appN w.out.length (fMg w.out) (.list [ansC w x (findP w.d.rep.seen x.sess).1])) a A ((i+1:Nat):Int)):=by
   intro he
   have k:=hB d (i+1) m L a A _ _ _ (by omega) (by omega) (by omega) hW ((Reads.refl w.out).app (ansC_sub w x)) (by omega)
   rw[hd]
   simpa [leftL,saidL,he] using k
  have t1:∀ {K:SI->Option (AV × Heap)},gC dSI (fun p=>SOk p.1) eSI [encSeens w.d.rep.seen,.int .i64 x.sess] K=K (w.d.rep.seen,x.sess):=fun {K}=>qFind h1
  have t2:∀ {K:Ver × Ver->Option (AV × Heap)},gC dV2 V2 eV2 [eV v,eV x.ver] K=K (v,x.ver):=fun {K}=>qV2 h2 hx
  have t3:∀ {K:Ver × Ver->Option (AV × Heap)},gC dV2 V2 eV2 [eV w.d.rep.tail.floor,eV x.ver] K=K (w.d.rep.tail.floor,x.ver):=fun {K}=>qV2 h3 hx
  rw[an_st,decide_eq_true (show((i:Nat):Int)<(w.d.waits.length:Int) by omega),cond_true,rg_eq hil,Int.toNat_natCast,blt_true hil,cond_true,hX,t1,t2,hw,ble_le (Nat.le_refl a),ble_le (show(a+1)*40<=140737488355328 by omega),ble_le (show a+1<=140737488355328 by omega),ble_le (Nat.le_refl w.out.length),ble_le (show(w.out.length+1)*392<=140737488355328 by omega),ble_le (show w.out.length+1<=140737488355328 by omega)]
  dsimp only [Bool.and_true,cond_true]
  cases c1:vlt v x.ver with
  | true=>exact eE (by simp[earlyP,c1])
  | false=>
   rw[cond_false]
   cases c2:decide ((findP w.d.rep.seen x.sess).1.kind=5)with
   | false=>exact eL (by simp[earlyP,c1,c2])
   | true=>
    rw[cond_true,t3]
    cases c3:vlt w.d.rep.tail.floor x.ver with
    | true=>exact eE (by simp[earlyP,c1,c2,c3])
    | false=>exact eL (by simp[earlyP,c1,c2,c3])
theorem answer_con(w:Wrk)(v:Ver)(h:AnOk w v):Contract PG F_head_work_answer [.ptr 0 0 0,eV v] (hpW w) (.tup []) (hpD (answerW w v))/\(hpW w).length<=(hpD (answerW w v)).length:=by
 obtain⟨N,hN⟩:∃ N,N=200000:=⟨_,rfl⟩
 have h4:=h.2.2.2.1
 obtain⟨a,A,n,F,hW,hR,e⟩:=an_go w v h N w.d.waits.length 0 (N+1) [] 0 (fun _=>[]) (by omega) (by omega) (Nat.zero_le _) ⟨rfl,fun j hj=>absurd hj (Nat.not_lt_zero j)⟩
 rw[List.drop_zero]at hR hW
 rw[List.nil_append]at hW
 have c:=conC (ak kFind_ok (ak kAhead_ok ank)) (c:=1) (n:=N+2) (by show 1<=4;omega) ((an_in N w v).trans e)
 refine⟨?_,by show 4<=7;omega⟩
 obtain⟨hn,hF⟩:=hR
 obtain⟨ha,hA⟩:=hW
 subst hn
 subst ha
 have hd:hpD (answerW w v)=hpN w (leftL w v w.d.waits).length (fWt (leftL w v w.d.waits)) w.d.asks.length (fAk w.d.asks) (w.out++saidL w v w.d.waits).length (fMg (w.out++saidL w v w.d.waits)):=by
  rw[hpN_eq];rfl
 rw[hd]
 exact c.1.resub (.refl _) (hpN_sub2 w (fun i hi=>by rw[hA i hi];exact .refl _) hF)
abbrev WV:=Wrk × Ver
def dWV(a:List AV)(h:Heap):WV:=(dWrk h,⟨(getC a 1).1,(getC a 1).2⟩)
def eWV(p:WV):List AV × Heap:=([.ptr 0 0 0,eV p.2],hpW p.1)
theorem dWV_eq(p:WV):dWV (eWV p).1 (eWV p).2=p:=Prod.ext (dWrk_eq p.1) rfl
def kAnswer:Known:=.specG F_head_work_answer dWV (fun p=>AnOk p.1 p.2) eWV (fun p=>(.tup [],hpD (answerW p.1 p.2)))
theorem kAnswer_ok:kAnswer.Ok PG:=Known.specG_ok fun p h=>answer_con p.1 p.2 h
def eCn(l:List Known):Env:=envN [(F_head_work_clean,0,[0,1,4,5,21,22,23,1004]),(F_head_work_clean,2,[0,1,5,35,36,37])] [(F_head_work_clean,5),(F_lru_Put,0),(F_ver_Ahead,0)] [] l
def knCn:List Known:=[kAhead,kPut]
def hCn(w:Wrk)(M:MC):Heap:=[.arr true 44 [wrkC w (.sn 4 1 w.d.waits.length) (.sn 3 2 w.d.asks.length) (.sn 31 3 w.out.length)],.seq true 4 w.d.waits.length (fWt w.d.waits),.seq true 3 w.d.asks.length (fAk w.d.asks),.seq true 31 w.out.length (fMg w.out),.pmap true M.1 fun k=>.int .i64 (M.2 k)]
def L0n(w:Wrk)(v:Ver)(N m:Nat)(M:MC)(i:Int):Option (AV × Heap):=LP (eCn knCn) N 4 F_head_work_clean (cnK 1 4) 0 [] m {fr:=[(0,.ptr 0 0 0),(1,eV v),(4,encEntrys w.d.rep.tail.log),(5,.mp 4),(21,encEntrys w.d.rep.tail.log),(22,.int .i64 w.d.rep.tail.log.length),(23,.int .i64 i),(1004,.undef)],hp:=hCn w M}
def L2n(w:Wrk)(v:Ver)(N m:Nat)(M:MC)(i:Int):Option (AV × Heap):=LP (eCn knCn) N 4 F_head_work_clean (cnK 1 4) 2 [] m {fr:=[(0,.ptr 0 0 0),(1,eV v),(5,.mp 4),(35,encEntrys w.d.rep.tail.log),(36,.int .i64 w.d.rep.tail.log.length),(37,.int .i64 i)],hp:=hCn w M}
def setC(w:Wrk)(C:List Itm):Wrk:={w with d:={w.d with clean:=C}}
theorem cn_in(N:Nat)(w:Wrk)(v:Ver):callC 1 (eCn knCn) (N+1) F_head_work_clean [.ptr 0 0 0,eV v] (hpW w)=L0n w v N N ([],fun _=>0) 0:=by kernel_rfl
def L0f(w:Wrk)(v:Ver)(N m:Nat)(ks:List Txt)(val:Txt->AV)(i:Int):Option (AV × Heap):=LP (eCn knCn) N 4 F_head_work_clean (cnK 1 4) 0 [] m {fr:=[(0,.ptr 0 0 0),(1,eV v),(4,encEntrys w.d.rep.tail.log),(5,.mp 4),(21,encEntrys w.d.rep.tail.log),(22,.int .i64 w.d.rep.tail.log.length),(23,.int .i64 i),(1004,.undef)],hp:=[.arr true 44 [wrkC w (.sn 4 1 w.d.waits.length) (.sn 3 2 w.d.asks.length) (.sn 31 3 w.out.length)],.seq true 4 w.d.waits.length (fWt w.d.waits),.seq true 3 w.d.asks.length (fAk w.d.asks),.seq true 31 w.out.length (fMg w.out),.pmap true ks val]}
theorem c0_st'(N m:Nat)(w:Wrk)(v:Ver)(M:MC)(i:Int):L0n w v N (m+1) M i =
 bif decide (i<(w.d.rep.tail.log.length:Int))then rg i w.d.rep.tail.log.length (bif(w.d.rep.tail.log.getD i.toNat default).write then L0f w v N m (insK M.1 (w.d.rep.tail.log.getD i.toNat default).key) (fun x=>bif strBeq x (w.d.rep.tail.log.getD i.toNat default).key then .int .i64 i else .int .i64 (M.2 x)) (IntKind.i64.wrap (i+1))else L0n w v N m M (IntKind.i64.wrap (i+1)))
 else L2n w v N N M 0:=by kernel_rfl
theorem c0_st(N m:Nat)(w:Wrk)(v:Ver)(M:MC)(i:Int):L0n w v N (m+1) M i =
 bif decide (i<(w.d.rep.tail.log.length:Int))then rg i w.d.rep.tail.log.length (bif(w.d.rep.tail.log.getD i.toNat default).write then L0n w v N m (insK M.1 (w.d.rep.tail.log.getD i.toNat default).key,updV M.2 (w.d.rep.tail.log.getD i.toNat default).key i) (IntKind.i64.wrap (i+1))else L0n w v N m M (IntKind.i64.wrap (i+1)))
 else L2n w v N N M 0:=by
 rw[c0_st']
 have:∀ (k:Txt) (j:Int),(fun x=>bif strBeq x k then AV.int .i64 j else .int .i64 (M.2 x))=fun x=>AV.int .i64 (updV M.2 k j x):=fun k j=>by
  funext x
  unfold updV
  cases strBeq x k <;> rfl
 rw[this];rfl
def itmC(e:Entry):Itm:=⟨e.key,bif !e.del then e.val else [],!e.del,e.ver⟩
def gPutE(w:Wrk)(v:Ver)(N m:Nat)(M:MC)(e:Entry)(i:Int):Option (AV × Heap):=
 bif !e.del then gC (fun a=>(decL decItem (a.getD 0 .nils),decItem (argC a 1),getI a 2)) pPut ePut [encItems w.d.clean,.agg [.str e.key,.str e.val,.bool !e.del,.cplx .f64 e.ver.re e.ver.im],.int .i64 w.c.room] fun y=>L2n (setC w (putP y)) v N m M i
 else gC (fun a=>(decL decItem (a.getD 0 .nils),decItem (argC a 1),getI a 2)) pPut ePut [encItems w.d.clean,.agg [.str e.key,.str [],.bool !e.del,.cplx .f64 e.ver.re e.ver.im],.int .i64 w.c.room] fun y=>L2n (setC w (putP y)) v N m M i
theorem c2_st(N m:Nat)(w:Wrk)(v:Ver)(M:MC)(i:Int):L2n w v N (m+1) M i =
 bif decide (i<(w.d.rep.tail.log.length:Int))then rg i w.d.rep.tail.log.length (gC dV2 V2 eV2 [eV v,eV (w.d.rep.tail.log.getD i.toNat default).ver] fun y=>
  bif vlt y.1 y.2 then some (.tup [],hpD w)else
  bif !(w.d.rep.tail.log.getD i.toNat default).write then L2n w v N m M (IntKind.i64.wrap (i+1))else
  bif memS (w.d.rep.tail.log.getD i.toNat default).key M.1 then bif !decide (M.2 (w.d.rep.tail.log.getD i.toNat default).key=i)then L2n w v N m M (IntKind.i64.wrap (i+1))else gPutE w v N m M (w.d.rep.tail.log.getD i.toNat default) (IntKind.i64.wrap (i+1))
  else bif !decide (0=i)then L2n w v N m M (IntKind.i64.wrap (i+1))else gPutE w v N m M (w.d.rep.tail.log.getD i.toNat default) (IntKind.i64.wrap (i+1)))
 else some (.tup [],hpD w):=by kernel_rfl
def lastC(M:MC)(i:Nat)(e:Entry):MC:=bif e.write then(insK M.1 e.key,updV M.2 e.key (i:Int))else M
def lastsC:List Entry->Nat->MC->MC
 | [],_,M=>M
 | e::r,i,M=>lastsC r (i+1) (lastC M i e)
def isLast(M:MC)(i:Nat)(e:Entry):Bool:=e.write&&decide ((bif memS e.key M.1 then M.2 e.key else 0)=(i:Int))
def cleanS(room:Int)(M:MC)(i:Nat)(e:Entry)(C:List Itm):List Itm:=bif isLast M i e then putP (C,itmC e,room)else C
def cleanGo(v:Ver)(room:Int)(M:MC):List Entry->Nat->List Itm->List Itm
 | [],_,C=>C
 | e::r,i,C=>bif vlt v e.ver then C else cleanGo v room M r (i+1) (cleanS room M i e C)
def cleanP(v:Ver)(room:Int)(log:List Entry)(C:List Itm):List Itm:=cleanGo v room (lastsC log 0 ([],fun _=>0)) log 0 C
def cleanW(w:Wrk)(v:Ver):Wrk:=setC w (cleanP v w.c.room w.d.rep.tail.log w.d.clean)
def CnOk(w:Wrk)(v:Ver):Prop:=VNum v/\(∀ e ∈ w.d.rep.tail.log,VNum e.ver/\EOk e)/\ItmsOk w.d.clean/\w.d.clean.length+w.d.rep.tail.log.length<=9000
theorem c0_run(w:Wrk)(v:Ver)(hl:w.d.rep.tail.log.length<=9000)(N:Nat):∀ (d i m:Nat) (M:MC),i+d=w.d.rep.tail.log.length->d<m->L0n w v N m M (i:Nat)=L2n w v N N (lastsC (w.d.rep.tail.log.drop i) i M) ((0:Nat):Int):=by
 intro d
 induction d with
 | zero=>
  intro i m M hi hm
  obtain⟨m,rfl⟩:∃ k,m=k+1:=⟨m - 1,by omega⟩
  rw[c0_st,decide_eq_false (by omega),cond_false,List.drop_eq_nil_of_le (by omega)];rfl
 | succ d ih=>
  intro i m M hi hm
  obtain⟨m,rfl⟩:∃ k,m=k+1:=⟨m - 1,by omega⟩
  have hil:i<w.d.rep.tail.log.length:=by omega
  have hd:=drop_cons (z:=(default:Entry)) hil
  have hw:IntKind.i64.wrap ((i:Int)+1)=((i+1:Nat):Int):=wrapS (by omega)
  rw[c0_st,decide_eq_true (show((i:Nat):Int)<(w.d.rep.tail.log.length:Int) by omega),cond_true,rg_eq hil,Int.toNat_natCast,hw,hd]
  generalize w.d.rep.tail.log.getD i default=e
  unfold lastsC lastC
  cases hwr:e.write with
  | true=>exact ih (i+1) m _ (by omega) (by omega)
  | false=>exact ih (i+1) m M (by omega) (by omega)
theorem itmC_ok{e:Entry}(h:EOk e):ItmOk (itmC e):=by
 have h1:=h.1;have h2:=h.2
 unfold itmC ItmOk
 dsimp only
 cases e.del
 ·exact⟨h1,h2⟩
 ·exact⟨h1,Nat.zero_le _⟩
theorem putP_len(p:LX):(putP p).length<=p.1.length+1:=by
 unfold putP
 have:=cutR_len p.2.2 (outP p.1 p.2.1.key++[p.2.1])
 have:=outP_len p.1 p.2.1.key
 simp at *;omega
theorem cutR_mem(room:Int):∀ l,∀ x ∈ cutR room l,x ∈ l
 | [],x,h=>h
 | y::r,x,h=>by
  unfold cutR at h
  cases hc:decide (room<(szL (y::r):Int))with
  | true=>rw[hc]at h;exact List.mem_cons_of_mem _ (cutR_mem room r x h)
  | false=>rw[hc]at h;exact h
theorem putP_mem(p:LX):∀ x ∈ putP p,x ∈ p.1\/x=p.2.1:=by
 intro x hx
 have:=cutR_mem _ _ x hx
 rcases List.mem_append.1 this with h | h
 ·exact .inl (List.mem_filter.1 h).1
 ·exact .inr (by simpa using h)
theorem putP_ok{p:LX}(h:pPut p):ItmsOk (putP p):=by
 refine⟨?_,fun x hx=>?_⟩
 ·have:=putP_len p;have:=h.2.2;omega
 ·rcases putP_mem p x hx with h1 | h1
  ·exact h.1.2 x h1
  ·exact h1 ▸ h.2.1
theorem gPutE_eq{w:Wrk}{v:Ver}{N m:Nat}{M:MC}{e:Entry}{i:Int}(h:pPut (w.d.clean,itmC e,w.c.room)):gPutE w v N m M e i=L2n (setC w (putP (w.d.clean,itmC e,w.c.room))) v N m M i:=by
 have key:∀ (x:Itm) {K:LX->Option (AV × Heap)},pPut (w.d.clean,x,w.c.room)->gC (fun a=>(decL decItem (a.getD 0 .nils),decItem (argC a 1),getI a 2)) pPut ePut [encItems w.d.clean,.agg [.str x.key,.str x.val,.bool x.has,.cplx .f64 x.ver.re x.ver.im],.int .i64 w.c.room] K=K (w.d.clean,x,w.c.room):=
  fun x {K} h=>gC_eq (w.d.clean,x,w.c.room) (Prod.ext (decItems w.d.clean) rfl) h (.refl _)
 unfold gPutE
 cases hd:e.del with
 | true=>
  have he:itmC e=⟨e.key,[],false,e.ver⟩:=by unfold itmC;rw[hd];rfl
  rw[he]at h ⊢
  rw[Bool.not_true,cond_false,key ⟨e.key,[],false,e.ver⟩ h]
 | false=>
  have he:itmC e=⟨e.key,e.val,true,e.ver⟩:=by unfold itmC;rw[hd];rfl
  rw[he]at h ⊢
  rw[Bool.not_false,cond_true,key ⟨e.key,e.val,true,e.ver⟩ h]
theorem c2_run(v:Ver)(hv:VNum v)(N:Nat)(M:MC)(log:List Entry)(hg:∀ e ∈ log,VNum e.ver/\EOk e)(h9:log.length<=9000)(room:Int):∀ (d i m:Nat) (w:Wrk),w.d.rep.tail.log=log->w.c.room=room->ItmsOk w.d.clean->w.d.clean.length+d<=9000->i+d=log.length->d<m ->
  L2n w v N m M (i:Nat)=some (.tup [],hpD (setC w (cleanGo v room M (log.drop i) i w.d.clean))):=by
 intro d
 induction d with
 | zero=>
  intro i m w hL hR hC hn hi hm
  obtain⟨m,rfl⟩:∃ k,m=k+1:=⟨m - 1,by omega⟩
  rw[c2_st,hL,decide_eq_false (by omega),cond_false,List.drop_eq_nil_of_le (by omega)];rfl
 | succ d ih=>
  intro i m w hL hR hC hn hi hm
  obtain⟨m,rfl⟩:∃ k,m=k+1:=⟨m - 1,by omega⟩
  have hil:i<log.length:=by omega
  have hd:=drop_cons (z:=(default:Entry)) hil
  have hw:IntKind.i64.wrap ((i:Int)+1)=((i+1:Nat):Int):=wrapS (by omega)
  obtain⟨g1,g2⟩:=hg _ (getD_mem (z:=(default:Entry)) hil)
  rw[c2_st,hL,decide_eq_true (show((i:Nat):Int)<(log.length:Int) by omega),cond_true,rg_eq hil,Int.toNat_natCast,hw,hd]
  generalize log.getD i default=e at *
  have t2:∀ {K:Ver × Ver->Option (AV × Heap)},gC dV2 V2 eV2 [eV v,eV e.ver] K=K (v,e.ver):=fun {K}=>qV2 hv g1
  rw[t2]
  unfold cleanGo
  dsimp only
  cases c1:vlt v e.ver with
  | true=>rfl
  | false=>
   rw[cond_false,cond_false]
   have skip:isLast M i e=false->L2n w v N m M ((i+1:Nat):Int)=some (.tup [],hpD (setC w (cleanGo v room M (log.drop (i+1)) (i+1) (cleanS room M i e w.d.clean)))):=by
    intro h
    unfold cleanS
    rw[h,cond_false]
    exact ih (i+1) m w hL hR hC (by omega) (by omega) (by omega)
   have put:isLast M i e=true->gPutE w v N m M e ((i+1:Nat):Int)=some (.tup [],hpD (setC w (cleanGo v room M (log.drop (i+1)) (i+1) (cleanS room M i e w.d.clean)))):=by
    intro h
    have hp:pPut (w.d.clean,itmC e,w.c.room):=⟨hC,itmC_ok g2,by show w.d.clean.length<=10000;omega⟩
    have hl:=putP_len (w.d.clean,itmC e,w.c.room)
    unfold cleanS
    rw[h,cond_true,gPutE_eq hp,hR]
    rw[hR]at hp hl
    exact ih (i+1) m (setC w (putP (w.d.clean,itmC e,room))) hL hR (putP_ok hp) (by show(putP (w.d.clean,itmC e,room)).length+d<=9000;simp only at hl;omega) (by omega) (by omega)
   unfold isLast at skip put
   cases c2:e.write with
   | false=>exact skip (by rw[c2];rfl)
   | true=>
    rw[c2]at skip put
    rw[Bool.not_true,cond_false]
    cases c3:memS e.key M.1 with
    | true=>
     rw[c3]at skip put
     rw[cond_true]
     cases c4:decide (M.2 e.key=(i:Int))with
     | true=>exact put (by rw[cond_true,c4];rfl)
     | false=>exact skip (by rw[cond_true,c4];rfl)
    | false=>
     rw[c3]at skip put
     rw[cond_false]
     cases c4:decide ((0:Int)=(i:Int))with
     | true=>exact put (by rw[cond_false,c4];rfl)
     | false=>exact skip (by rw[cond_false,c4];rfl)
theorem clean_con(w:Wrk)(v:Ver)(h:CnOk w v):Contract PG F_head_work_clean [.ptr 0 0 0,eV v] (hpW w) (.tup []) (hpD (cleanW w v))/\(hpW w).length<=(hpD (cleanW w v)).length:=by
 obtain⟨N,hN⟩:∃ N,N=200000:=⟨_,rfl⟩
 obtain⟨h1,h2,h3,h4⟩:=h
 have e1:=c0_run w v (by omega) N w.d.rep.tail.log.length 0 N ([],fun _=>0) (by omega) (by omega)
 have e2:=c2_run v h1 N (lastsC (w.d.rep.tail.log.drop 0) 0 ([],fun _=>0)) w.d.rep.tail.log h2 (by omega) w.c.room w.d.rep.tail.log.length 0 N w rfl rfl h3 h4 (by omega) (by omega)
 have e:=(cn_in N w v).trans (e1.trans e2)
 rw[List.drop_zero]at e
 exact conC (ak kAhead_ok (ak kPut_ok ank)) (c:=1) (n:=N+1) (by show 1<=4;omega) e
def kClean:Known:=.specG F_head_work_clean dWV (fun p=>CnOk p.1 p.2) eWV (fun p=>(.tup [],hpD (cleanW p.1 p.2)))
theorem kClean_ok:kClean.Ok PG:=Known.specG_ok fun p h=>clean_con p.1 p.2 h
end Go.Hd
end
noncomputable section
namespace Go.Proofs
open Go.RowKit Go.Shelf
attribute [local go_sem] Oper.semAt_some
namespace Bw
structure EV where
 re:Nat
 im:Nat
 kind:Int
 key:ByteArray
 val:ByteArray
 write:Bool
 del:Bool
 sess:Int
 num:Int
 code:Int
 res:ByteArray
 hasRes:Bool
def EV.cells(e:EV):Array Value:=#[.complex .f64 e.re e.im,.int .i64 e.kind,.string e.key,.string e.val,.bool e.write,.bool e.del,.int .i64 e.sess,.int .i64 e.num,.int .i64 e.code,.string e.res,.bool e.hasRes]
def back(n:Nat)(zs:Nat->EV)(k:Nat):List (Nat × EV):=(List.range k).map fun j=>(n - 1 - j,zs (n - 1 - j))
theorem back_succ(n:Nat)(zs:Nat->EV)(k:Nat):back n zs (k+1)=back n zs k++[(n - 1 - k,zs (n - 1 - k))]:=by simp[back,List.range_succ]
theorem back_length(n:Nat)(zs:Nat->EV)(k:Nat):(back n zs k).length=k:=by simp[back]
abbrev encs(x:Nat × EV):Array Value:=#[.int .i64 (x.1:Int),.agg x.2.cells]
set_option maxRecDepth 100000 in
set_option maxHeartbeats 4000000 in
theorem back1(F:Fence)(n:Nat)(h7:F.fn 57)(hro:F.round=none)(hn:1<=n)(l Bs n₀ b off len cap:Nat)(sa:Option Addr)(zs:Nat->EV)(hreach:len<=1000000000)(ha:0<len->sa=some ⟨b,off,none⟩/\b<n₀)(J Jx:List (Nat × EV)->World->Prop)
  (hY:∀ pre x W,J pre W->pre.length<len->YieldAt F (n - 1) Tryz.prog l (encs x) W fun e W'=>
   (e=.returned (.bool true)/\J (pre++[x]) W'/\Below n₀ W W')\/(e=.returned (.bool false)/\Jx (pre++[x]) W'))
  (W:World) (hBs:W.cell? ⟨Bs,0,none⟩=some (.slice sa len cap)) (hBn:Bs<n₀) (hc:∀ i j v,i<len->(zs i).cells[j]? = some v->W.cell? ⟨b,off+i*11+j,none⟩=some v) (h0:J [] W) :
  CallsIn F n Tryz.prog 57 #[.func (.yield l) #[] #[],.pointer (some ⟨Bs,0,none⟩)] W fun e W'=>(∃ v,e=.returned v) /\
   (J (back len zs len) W'\/(∃ k,k<=len/\Jx (back len zs k) W')):=by
 refine callsIn_of_wp Tryz.func57 rfl h7 ?_ hro
 simp only[Tryz.ntmps57,List.size_toArray,List.length_cons,List.length_nil,Nat.reduceAdd,Nat.reduceSub,Array.replicate_succ,Array.replicate_zero,List.push_toArray,List.append_toArray,List.nil_append,List.cons_append]
 gi_wp2
 gi_loopw [3] (fun i wr=>∃ k:Nat,k<=len/\i=.int .i64 ((len:Int) - 1 - k)/\J (back len zs k) wr/\Below n₀ W wr)
  (fun i _=>((intOf i)+1).toNat)
 case atStart=>exact⟨0,Nat.zero_le _,by simp,h0,Below.refl _ _⟩
 case round=>
  obtain⟨k,hk,rfl,hJs,hnx⟩:=hrel
  have hBw:=(hnx.cell (p:=⟨Bs,0,none⟩) hBn).trans hBs
  by_cases hlt:k<len
  ·obtain⟨rfl,hb⟩:=ha (by omega)
   obtain⟨q,hq⟩:∃ q,q=len - 1 - k:=⟨_,rfl⟩
   have hq2:(len:Int) - 1 - k=(q:Int):=by omega
   have hql:q<len:=by omega
   rw[hq2]
   have hx:=fun j v e=>(hnx.cell (p:=⟨b,off+q*11+j,none⟩) hb).trans (hc q j v hql e)
   have x0:wr.cell? ⟨b,off+q*11,none⟩=some (.complex .f64 (zs q).re (zs q).im):=hx 0 _ rfl
   have x1:wr.cell? ⟨b,off+q*11+1,none⟩=some (.int .i64 (zs q).kind):=hx 1 _ rfl
   have x2:wr.cell? ⟨b,off+q*11+2,none⟩=some (.string (zs q).key):=hx 2 _ rfl
   have x3:wr.cell? ⟨b,off+q*11+3,none⟩=some (.string (zs q).val):=hx 3 _ rfl
   have x4:wr.cell? ⟨b,off+q*11+4,none⟩=some (.bool (zs q).write):=hx 4 _ rfl
   have x5:wr.cell? ⟨b,off+q*11+5,none⟩=some (.bool (zs q).del):=hx 5 _ rfl
   have x6:wr.cell? ⟨b,off+q*11+6,none⟩=some (.int .i64 (zs q).sess):=hx 6 _ rfl
   have x7:wr.cell? ⟨b,off+q*11+7,none⟩=some (.int .i64 (zs q).num):=hx 7 _ rfl
   have x8:wr.cell? ⟨b,off+q*11+8,none⟩=some (.int .i64 (zs q).code):=hx 8 _ rfl
   have x9:wr.cell? ⟨b,off+q*11+9,none⟩=some (.string (zs q).res):=hx 9 _ rfl
   have x10:wr.cell? ⟨b,off+q*11+10,none⟩=some (.bool (zs q).hasRes):=hx 10 _ rfl
   clear hx
   have HD:Hid (q=len - 1 - k):=hq
   clear hq hq2
   obtain⟨fn,tmps,assign,body,hy,hR⟩:=hY _ (q,zs q) wr hJs (by rw[back_length];exact hlt)
   dsimp only [encs,EV.cells]at hy
   gi_wp2
   refine hR.mono ?_
   rintro e W3 (⟨rfl,hJ3,hk3⟩ | ⟨rfl,hJx3⟩)
   ·gi_wp2
    have hq:=HD.out
    go_roundw
    case rel=>exact⟨k+1,by omega,by simp;omega,by rw[back_succ,<- hq];exact hJ3,hnx.trans hk3⟩
    case measure=>simp[intOf]
   ·gi_wp2
    have hq:=HD.out
    refine bodyPost_ret (results_none rfl _ _ _) rfl ?_
    exact⟨⟨_,rfl⟩,.inr ⟨k+1,by omega,by rw[back_succ,<- hq];exact hJx3⟩⟩
  ·obtain rfl:k=len:=by omega
   have hq2:(k:Int) - 1 - k = -1:=by omega
   rw[hq2]
   gi_wp2
   go_end0
   exact⟨⟨_,rfl⟩,.inl hJs⟩
theorem back_stops(F:Fence)(n:Nat)(h7:F.fn 57)(hro:F.round=none)(hn:1<=n)(Bs n₀ b off len cap:Nat)(sa:Option Addr)(zs:Nat->EV)(hreach:len<=1000000000)(ha:0<len->sa=some ⟨b,off,none⟩/\b<n₀)(w:World)(hn₀:n₀<=w.heap.size)(hBn:Bs<n₀)
  (hBs:w.cell? ⟨Bs,0,none⟩=some (.slice sa len cap)) (hc:∀ i j v,i<len->(zs i).cells[j]? = some v->w.cell? ⟨b,off+i*11+j,none⟩=some v) :
  SeqStopsK F n Tryz.prog 57 #[.pointer (some ⟨Bs,0,none⟩)] encs (Below n₀) (fun ys=>ys=back len zs len) (fun pre=>∃ k,k<=len/\pre=back len zs k) len w:=fun l J Jx W hW _ _ hY h0=>by
 have hW0:=hW.mono hn₀
 refine(back1 F n h7 hro hn l Bs n₀ b off len cap sa zs hreach ha J Jx hY W ((hW0.cell (p:=⟨Bs,0,none⟩) hBn).trans hBs) hBn (fun i j v hi e=>(hW0.cell (p:=⟨b,off+i*11+j,none⟩) (ha (by omega)).2).trans (hc i j v hi e)) h0).mono ?_
 rintro e W' ⟨he,hj | ⟨k,hk,hj⟩⟩
 ·exact⟨he,.inl ⟨_,rfl,hj⟩⟩
 ·exact⟨he,.inr ⟨_,⟨k,hk,rfl⟩,hj⟩⟩
set_option maxHeartbeats 1000000 in
theorem back_in(F:Fence)(n:Nat)(h5:F.fn 35)(hro:F.round=none)(a:Option Addr)(len cap:Nat)(w:World) :
  CallsIn F n Tryz.prog 35 #[.slice a len cap] w fun e w'=>e=.returned (.func (.func 57) #[] #[.pointer (some ⟨w.heap.size,0,none⟩)])/\w'=w.alloc (.cells #[.slice a len cap] 31):=by
 refine callsIn_of_wp Tryz.func35 rfl h5 ?_ hro
 simp only[Tryz.ntmps35,List.size_toArray,List.length_cons,List.length_nil,Nat.reduceAdd,Nat.reduceSub,Array.replicate_succ,Array.replicate_zero,List.push_toArray,List.append_toArray,List.nil_append,List.cons_append]
 gi_wp2
 go_ret
 exact⟨rfl,rfl⟩
def hits(key:ByteArray)(e:EV):Prop:=e.write=true/\e.key.toList=key.toList
structure Zs(b0:Nat)(key:ByteArray)(W:World):Prop where
 k:W.cell? ⟨b0+1,0,none⟩=some (.string key)
 c0:W.cell? ⟨b0+1+1,0,none⟩=some (.string ⟨#[]⟩)
 c1:W.cell? ⟨b0+1+1,1,none⟩=some (.string ⟨#[]⟩)
 c2:W.cell? ⟨b0+1+1,2,none⟩=some (.bool false)
 c3:W.cell? ⟨b0+1+1,3,none⟩=some (.complex .f64 0 0)
 f0:W.frozen? ⟨b0+1+1,0,none⟩=false
 f1:W.frozen? ⟨b0+1+1,1,none⟩=false
 f2:W.frozen? ⟨b0+1+1,2,none⟩=false
 f3:W.frozen? ⟨b0+1+1,3,none⟩=false
 d:W.cell? ⟨b0+1+1+1,0,none⟩=some (.bool false)
 e:W.frozen? ⟨b0+1+1+1,0,none⟩=false
theorem Zs.own(b0:Nat)(key:ByteArray):Own (fun(_:Unit) W=>Zs b0 key W):=fun s A B row hs hg hr=>
 ⟨cell_kept hs.k hg hr,cell_kept hs.c0 hg hr,cell_kept hs.c1 hg hr,cell_kept hs.c2 hg hr,cell_kept hs.c3 hg hr,(frozen_kept hs.c0 hg hr).trans hs.f0,(frozen_kept hs.c1 hg hr).trans hs.f1,(frozen_kept hs.c2 hg hr).trans hs.f2,(frozen_kept hs.c3 hg hr).trans hs.f3,cell_kept hs.d hg hr,(frozen_kept hs.d hg hr).trans hs.e⟩
structure Fd(b0:Nat)(key:ByteArray)(e:EV)(W:World):Prop where
 c0:W.cell? ⟨b0+1+1,0,none⟩=some (.string key)
 c1:W.cell? ⟨b0+1+1,1,none⟩=some (.string (if e.del then⟨#[]⟩else e.val))
 c2:W.cell? ⟨b0+1+1,2,none⟩=some (.bool (!e.del))
 c3:W.cell? ⟨b0+1+1,3,none⟩=some (.complex .f64 e.re e.im)
 d:W.cell? ⟨b0+1+1+1,0,none⟩=some (.bool true)
theorem Fd.own(b0:Nat)(key:ByteArray)(e:EV):Own (fun(_:Unit) W=>Fd b0 key e W):=fun s A B row hs hg hr=>
 ⟨cell_kept hs.c0 hg hr,cell_kept hs.c1 hg hr,cell_kept hs.c2 hg hr,cell_kept hs.c3 hg hr,cell_kept hs.d hg hr⟩
structure Fd'(b0:Nat)(v0 v1 v2 v3 v4:Value)(W:World):Prop where
 c0:W.cell? ⟨b0+1+1,0,none⟩=some v0
 c1:W.cell? ⟨b0+1+1,1,none⟩=some v1
 c2:W.cell? ⟨b0+1+1,2,none⟩=some v2
 c3:W.cell? ⟨b0+1+1,3,none⟩=some v3
 d:W.cell? ⟨b0+1+1+1,0,none⟩=some v4
theorem Fd'.own(b0:Nat)(v0 v1 v2 v3 v4:Value):Own (fun(_:Unit) W=>Fd' b0 v0 v1 v2 v3 v4 W):=fun s A B row hs hg hr=>
 ⟨cell_kept hs.c0 hg hr,cell_kept hs.c1 hg hr,cell_kept hs.c2 hg hr,cell_kept hs.c3 hg hr,cell_kept hs.d hg hr⟩
def IV(B b0:Nat)(w:World)(key:ByteArray)(pre:List (Nat × EV))(W:World):Prop:=((∀ p ∈ pre,¬ hits key p.2)/\Zs b0 key W/\B<=W.heap.size)/\Below w.heap.size w W
def IX(b0:Nat)(w:World)(key:ByteArray)(c:Code)(pre:List (Nat × EV))(W:World):Prop:=(c=.ret /\ ∃ ini last,pre=ini++[last]/\(∀ p ∈ ini,¬ hits key p.2)/\hits key last.2/\Fd b0 key last.2 W)/\Below w.heap.size w W
theorem al_new{w w':World}{o:Obj}(h:w.alloc o=w'){k:Nat}(hk:w.heap.size=k):w'.heap[k]? = some o/\w'.heap.size=k+1:=by
 subst h;subst hk;exact⟨World.alloc_heap_new w o,World.size_alloc w o⟩
theorem al_old{w w':World}{o o':Obj}(h:w.alloc o=w'){k:Nat}(e:w.heap[k]? = some o'):w'.heap[k]? = some o':=by
 subst h;exact(Below.heap_alloc w o k (Array.getElem?_eq_some_iff.1 e).1).trans e
theorem store_new{P:Program}(W:World)(z vs:Array Value)(t:TypeId)(hs:vs.size=z.size)(h1:∀ v ∈ vs.toList,v.oneCell'=true) :
  (storeCells ⟨W.heap.size,0,none⟩ vs.toList).run P (W.alloc (.cells z t))=.ok () (W.alloc (.cells vs t)):=by
 have k:=AM.run_storeCells (P:=P) (o:=0) vs.toList 0 z (W.alloc (.cells z t)) (World.alloc_heap_new W _) (by simp[hs]) (AM.okObj.row (c:=z) (e:=t) z t (0,0) rfl).1 h1
 rw[k]
 congr 1
 have hsp:AM.splice z 0 vs.toList=vs:=by
  apply Array.ext_getElem?
  intro j
  by_cases hj:j<vs.size
  ·rw[AM.splice_get _ _ _ _ (by simp[hs]),if_pos ⟨Nat.zero_le _,by simpa using hj⟩]
   simp
  ·rw[Array.getElem?_eq_none (by simp;omega),Array.getElem?_eq_none (by omega)]
 rw[Nat.add_zero,hsp]
 cases W
 simp only[AM.World.setBlk,World.alloc,World.mk.injEq,and_true]
 apply Array.ext_getElem?
 intro j
 simp only[Array.getElem?_push,Array.getElem?_setIfInBounds]
 split <;> split <;> simp_all
theorem new_cell(W:World)(c:Array Value)(t:TypeId)(j:Nat):(W.alloc (.cells c t)).cell? ⟨W.heap.size,j,none⟩=c[j]? := by
 simp only[World.cell?,World.alloc_heap_new];rfl
theorem new_frozen(W:World)(c:Array Value)(t:TypeId)(j:Nat):(W.alloc (.cells c t)).frozen? ⟨W.heap.size,j,none⟩=false:=by
 unfold World.frozen?
 rw[World.alloc_heap_new]
 simp
theorem old_cell{W:World}{p:Addr}{v:Value}(h:W.cell? p=some v)(o:Obj):(W.alloc o).cell? p=some v:=cell_kept h (World.grownBy_alloc W o none) (fun r e=>by cases e)
theorem old_frozen{W:World}{p:Addr}{v:Value}(h:W.cell? p=some v)(hf:W.frozen? p=false)(o:Obj):(W.alloc o).frozen? p=false:=(frozen_kept h (World.grownBy_alloc W o none) (fun r e=>by cases e)).trans hf
theorem new_set(W:World)(c:Array Value)(t:TypeId)(j:Nat)(v:Value):(W.alloc (.cells c t)).setCell ⟨W.heap.size,j,none⟩ v=W.alloc (.cells (c.setIfInBounds j v) t):=by
 cases W
 simp only[World.setCell,World.alloc,World.mk.injEq,and_true]
 apply Array.ext_getElem?
 intro i
 simp only[Array.getElem?_modify,Array.getElem?_push]
 split <;> split <;> simp_all
def AX1(B n0:Nat)(T:Value)(sv:Value)(key:ByteArray)(x:Nat × EV)(a':Act)(W:World):Prop:=∃ Bx,B<=Bx/\(∀ j v,x.2.cells[j]? = some v->W.cell? ⟨Bx,j,none⟩=some v) /\
 a'={tmps:=#[T,.string key,.pointer (some ⟨n0,0,none⟩),.pointer (some ⟨n0+1,0,none⟩),.pointer (some ⟨n0+1+1,0,none⟩),.pointer (some ⟨n0+1+1+1,0,none⟩),undef,.pointer (some ⟨Bx,0,none⟩),undef,.pointer (some ⟨n0,2,none⟩),sv,
  .func (.func 57) #[] #[.pointer (some ⟨n0+1+1+1+1,0,none⟩)],.int .i64 (x.1:Int),.agg x.2.cells,undef,undef,undef,undef,undef,undef,undef,undef,undef,undef,undef,undef,undef,undef,undef,undef,undef,undef,undef,undef,undef,undef,undef],defers:=[]}
set_option maxRecDepth 100000 in
set_option maxHeartbeats 4000000 in
theorem value_in(F:Fence)(n:Nat)(h13:F.fn 13)(h35:F.fn 35)(h57:F.fn 57)(hro:F.round=none)(hn:3<=n)(fr fi lr li:Nat)(sa:Option Addr)(b off len cap:Nat)(zs:Nat->EV)(key:ByteArray)(hreach:len<=1000000000)(w:World)
  (ha:0<len->sa=some ⟨b,off,none⟩/\b<w.heap.size) (hc:∀ i j v,i<len->(zs i).cells[j]? = some v->w.cell? ⟨b,off+i*11+j,none⟩=some v) :
  CallsIn F n Tryz.prog 13 #[.agg #[.complex .f64 fr fi,.complex .f64 lr li,.slice sa len cap],.string key] w fun e W'=>
   ((e=.returned (.tuple #[.agg #[.string ⟨#[]⟩,.string ⟨#[]⟩,.bool false,.complex .f64 0 0],.bool false]) /\ ∀ i,i<len -> ¬ hits key (zs i)) \/
    (∃ i,i<len/\hits key (zs i)/\(∀ j,i<j->j<len -> ¬ hits key (zs j))/\e=.returned (.tuple #[.agg #[.string key,.string (if(zs i).del then⟨#[]⟩else(zs i).val),.bool (!(zs i).del),.complex .f64 (zs i).re (zs i).im],.bool true])))/\Below w.heap.size w W':=by
 have h1:1<=n:=by omega
 refine callsIn_of_wp_marks Tryz.func13 rfl h13 ?_ hro
 simp only[Tryz.ntmps13,List.size_toArray,List.length_cons,List.length_nil,Nat.reduceAdd,Nat.reduceSub,Array.replicate_succ,Array.replicate_zero,List.push_toArray,List.append_toArray,List.nil_append,List.cons_append]
 gi_wp2_with (gi_at_call 35;refine(back_in F (n - 1) h35 hro _ _ _ _).mono ?_;rintro e w' ⟨rfl,rfl⟩)
 obtain⟨w1,e1⟩:∃ w1,w.alloc (Obj.cells #[Value.complex FloatKind.f64 fr fi,Value.complex FloatKind.f64 lr li,Value.slice sa len cap] 33)=w1:=⟨_,rfl⟩
 rw[e1]
 obtain⟨w2,e2⟩:∃ w2,w1.alloc (Obj.cells #[Value.string key] 9)=w2:=⟨_,rfl⟩
 rw[e2]
 obtain⟨w3,e3⟩:∃ w3,w2.alloc (Obj.cells #[Value.string {data:=#[]},Value.string {data:=#[]},Value.bool false,Value.complex FloatKind.f64 0 0] 74)=w3:=⟨_,rfl⟩
 rw[e3]
 obtain⟨w4,e4⟩:∃ w4,w3.alloc (Obj.cells #[Value.bool false] 4)=w4:=⟨_,rfl⟩
 rw[e4]
 obtain⟨W0,e5⟩:∃ w5,w4.alloc (Obj.cells #[Value.slice sa len cap] 31)=w5:=⟨_,rfl⟩
 rw[e5]
 obtain⟨_,s1⟩:=al_new e1 rfl
 obtain⟨k2,s2⟩:=al_new e2 s1
 obtain⟨k3,s3⟩:=al_new e3 s2
 obtain⟨k4,s4⟩:=al_new e4 s3
 obtain⟨k5,hsz⟩:=al_new e5 s4
 have k2:=al_old e5 (al_old e4 (al_old e3 k2))
 have k3:=al_old e5 (al_old e4 k3)
 have k4:=al_old e5 k4
 have hB0:Below w.heap.size w W0:=by
  rw[<- e5]
  refine Below.alloc ?_ (by omega) _
  rw[<- e4]
  refine Below.alloc ?_ (by omega) _
  rw[<- e3]
  refine Below.alloc ?_ (by omega) _
  rw[<- e2]
  refine Below.alloc ?_ (by omega) _
  rw[<- e1]
  exact Below.alloc (Below.refl _ w) (Nat.le_refl _) _
 have hZ:Zs w.heap.size key W0:=by
  constructor <;> simp only[World.cell?,World.frozen?,k2,k3,k4] <;> rfl
 have hS:W0.cell? ⟨w.heap.size+1+1+1+1,0,none⟩=some (.slice sa len cap):=by
  simp only[World.cell?,k5];rfl
 clear e1 e2 e3 e4 e5 s1 s2 s3 s4 k2 k3 k4 k5
 obtain⟨b0,hb0⟩:∃ b0,b0=w.heap.size:=⟨_,rfl⟩
 refine wpIn_rangeFunc_ownH hro h1 (gf:=57) (lb:=#[.pointer (some ⟨w.heap.size+1+1+1+1,0,none⟩)]) rfl h57 (enters_of Tryz.func57 (by kernel_rfl) rfl)
  (back_stops F (n - 1) h57 hro (by omega) (w.heap.size+1+1+1+1) W0.heap.size b off len cap sa zs hreach (fun h=>⟨(ha h).1,by have:=(ha h).2;omega⟩) W0 (Nat.le_refl _) (by omega) hS
   (fun i j v hi e=>(hB0.cell (p:=⟨b,off+i*11+j,none⟩) (ha (by omega)).2).trans (hc i j v hi e))) belowK_t (belowK_b (by omega)) (Below.refl _ _) (fun _=>rfl)
  (IV W0.heap.size w.heap.size w key) (IX w.heap.size w key) ?hI ?hIx ⟨⟨by simp,hZ,Nat.le_refl _⟩,hB0⟩ (AX1 W0.heap.size w.heap.size (.agg #[.complex .f64 fr fi,.complex .f64 lr li,.slice sa len cap]) (.slice sa len cap) key) ?hAx ?assign ?body ?done ?stop
 case hI=>exact OwnFrom.and (Own.from (fun s A B row hs hg hr=>⟨hs.1,Zs.own _ _ () A B row hs.2.1 hg hr,Nat.le_trans hs.2.2 hg.size⟩) _) (ownFrom_below (Nat.le_refl _) (by omega))
 case hIx=>exact fun c=>OwnFrom.and (Own.from (fun s A B row hs hg hr=>by obtain⟨hc,ini,last,e1,e2,e3,e4⟩:=hs;exact⟨hc,ini,last,e1,e2,e3,Fd.own _ _ _ () A B row e4 hg hr⟩) _) (ownFrom_below (Nat.le_refl _) (by omega))
 case hAx=>exact fun x a'=>Own.from (fun s A B row hs hg hr=>by obtain⟨Bx,h1,h2,h3⟩:=hs;exact⟨Bx,h1,fun j v e=>cell_kept (h2 j v e) hg hr,h3⟩) _
 case assign=>
  rintro l pre x W K hi hK
  have hst:=store_new (P:=Tryz.prog) W #[Value.complex FloatKind.f64 0 0,Value.int IntKind.i64 0,Value.string {data:=#[]},Value.string {data:=#[]},Value.bool false,Value.bool false,Value.int IntKind.i64 0,Value.int IntKind.i64 0,Value.int IntKind.i64 0,Value.string {data:=#[]},Value.bool false] x.2.cells 66 rfl (by simp[EV.cells,Value.oneCell'])
  gi_wp2
  obtain⟨⟨hne,hz,hle⟩,hB⟩:=hi
  refine hK _ _ ((KeepsOthers.alloc _ _).from _) ((Below.refl _ W).alloc hle _) ⟨⟨hne,Zs.own _ _ () W _ none hz (World.grownBy_alloc W _ none) (fun r e=>by cases e),by rw[World.size_alloc];omega⟩,hB.alloc hB.size _⟩ ⟨W.heap.size,hle,fun j v e=>?_,rfl⟩
  simp only[World.cell?,World.alloc_heap_new]
  exact e
 case body=>
  rintro l pre x a' W hl ⟨r,hr⟩ ⟨⟨hne,hz,hle⟩,hB⟩ ⟨Bx,hBx,hcx,rfl⟩ hlt
  have x0:W.cell? ⟨Bx,0,none⟩=some (.complex .f64 x.2.re x.2.im):=hcx 0 _ rfl
  have x2:W.cell? ⟨Bx,2,none⟩=some (.string x.2.key):=hcx 2 _ rfl
  have x3:W.cell? ⟨Bx,3,none⟩=some (.string x.2.val):=hcx 3 _ rfl
  have x4:W.cell? ⟨Bx,4,none⟩=some (.bool x.2.write):=hcx 4 _ rfl
  have x5:W.cell? ⟨Bx,5,none⟩=some (.bool x.2.del):=hcx 5 _ rfl
  have hk:=hz.k
  clear hcx
  have nC:=new_cell W
  have nF:=new_frozen W
  have nS:=new_set W
  have rc:=fun(a:Addr) (x y:Nat) (w:World)=>run_store Tryz.prog w a (.complex .f64 x y) .plain rfl
  by_cases hw:x.2.write=true
  ·rw[hw]at x4
   by_cases hke:x.2.key.toList=key.toList
   ·have hkt:(x.2.key.toList == key.toList)=true:=by simp[hke]
    have y3:=old_cell x3
    have q0:=old_cell hz.c0
    have q1:=old_cell hz.c1
    have q2:=old_cell hz.c2
    have q3:=old_cell hz.c3
    have g0:=old_frozen hz.c0 hz.f0
    have g1:=old_frozen hz.c1 hz.f1
    have g2:=old_frozen hz.c2 hz.f2
    have g3:=old_frozen hz.c3 hz.f3
    have qd:=old_cell hz.d
    have gd:=old_frozen hz.d hz.e
    cases hdel:x.2.del with
    | true=>
     rw[hdel]at x5
     gi_wp2
     refine⟨((((((KeepsOthers.alloc W _).trans (KeepsOthers.setCell _ _ _)).trans (KeepsOthers.setCell _ _ _)).trans (KeepsOthers.setCell _ _ _)).trans (KeepsOthers.setCell _ _ _)).trans (KeepsOthers.setCell _ _ _)).from _,⟨rfl,pre,x,rfl,hne,⟨hw,hke⟩,?_⟩,
      (((((hB.alloc hB.size _).setCell (p:=⟨w.heap.size+1+1,0,none⟩) (by show w.heap.size<=w.heap.size+1+1;omega) _).setCell (p:=⟨w.heap.size+1+1,1,none⟩) (by show w.heap.size<=w.heap.size+1+1;omega) _).setCell (p:=⟨w.heap.size+1+1,2,none⟩) (by show w.heap.size<=w.heap.size+1+1;omega) _).setCell (p:=⟨w.heap.size+1+1,3,none⟩) (by show w.heap.size<=w.heap.size+1+1;omega) _).setCell (p:=⟨w.heap.size+1+1+1,0,none⟩) (by show w.heap.size<=w.heap.size+1+1+1;omega) _⟩
     constructor <;> (try rw[hdel]) <;> go_simp
    | false=>
     rw[hdel]at x5
     gi_wp2
     refine⟨((((((KeepsOthers.alloc W _).trans (KeepsOthers.setCell _ _ _)).trans (KeepsOthers.setCell _ _ _)).trans (KeepsOthers.setCell _ _ _)).trans (KeepsOthers.setCell _ _ _)).trans (KeepsOthers.setCell _ _ _)).from _,⟨rfl,pre,x,rfl,hne,⟨hw,hke⟩,?_⟩,
      (((((hB.alloc hB.size _).setCell (p:=⟨w.heap.size+1+1,0,none⟩) (by show w.heap.size<=w.heap.size+1+1;omega) _).setCell (p:=⟨w.heap.size+1+1,1,none⟩) (by show w.heap.size<=w.heap.size+1+1;omega) _).setCell (p:=⟨w.heap.size+1+1,2,none⟩) (by show w.heap.size<=w.heap.size+1+1;omega) _).setCell (p:=⟨w.heap.size+1+1,3,none⟩) (by show w.heap.size<=w.heap.size+1+1;omega) _).setCell (p:=⟨w.heap.size+1+1+1,0,none⟩) (by show w.heap.size<=w.heap.size+1+1+1;omega) _⟩
     constructor <;> (try rw[hdel]) <;> go_simp
   ·have hkt:(x.2.key.toList == key.toList)=false:=by simp[hke]
    gi_wp2
    exact⟨KeepsFrom.refl _ _,Below.refl _ _,⟨fun p hp'=>(List.mem_append.1 hp').elim (hne p) (fun e=>by simp at e;subst e;exact fun h=>hke h.2),hz,hle⟩,hB⟩
  ·have hw2:x.2.write=false:=by simpa using hw
   rw[hw2]at x4
   gi_wp2
   exact⟨KeepsFrom.refl _ _,Below.refl _ _,⟨fun p hp'=>(List.mem_append.1 hp').elim (hne p) (fun e=>by simp at e;subst e;exact fun h=>hw h.1),hz,hle⟩,hB⟩
 case done=>
  rintro D ys W hD rfl ⟨⟨hne,hz,hle⟩,hB⟩ hK
  have rc:=fun(a:Addr) (x y:Nat) (w:World)=>run_store Tryz.prog w a (.complex .f64 x y) .plain rfl
  obtain⟨zk,q0,q1,q2,q3,g0,g1,g2,g3,qd,gd⟩:=hz
  gi_wp2
  have hK':=(((((KeepsOthers.setCell W ⟨w.heap.size+1+1,0,none⟩ (.string ⟨#[]⟩)).trans (KeepsOthers.setCell _ ⟨w.heap.size+1+1,1,none⟩ (.string ⟨#[]⟩))).trans (KeepsOthers.setCell _ ⟨w.heap.size+1+1,2,none⟩ (.bool false))).trans (KeepsOthers.setCell _ ⟨w.heap.size+1+1,3,none⟩ (.complex .f64 0 0))).trans (KeepsOthers.setCell _ ⟨w.heap.size+1+1+1,0,none⟩ (.bool false))).same D _ hK rfl
  have hB':=(((((hB.setCell (p:=⟨w.heap.size+1+1,0,none⟩) (by show w.heap.size<=w.heap.size+1+1;omega) (.string ⟨#[]⟩)).setCell (p:=⟨w.heap.size+1+1,1,none⟩) (by show w.heap.size<=w.heap.size+1+1;omega) (.string ⟨#[]⟩)).setCell (p:=⟨w.heap.size+1+1,2,none⟩) (by show w.heap.size<=w.heap.size+1+1;omega) (.bool false)).setCell (p:=⟨w.heap.size+1+1,3,none⟩) (by show w.heap.size<=w.heap.size+1+1;omega) (.complex .f64 0 0)).setCell (p:=⟨w.heap.size+1+1+1,0,none⟩) (by show w.heap.size<=w.heap.size+1+1+1;omega) (.bool false))
  have hF:Fd' w.heap.size (.string ⟨#[]⟩) (.string ⟨#[]⟩) (.bool false) (.complex .f64 0 0) (.bool false) (((((W.setCell ⟨w.heap.size+1+1,0,none⟩ (.string ⟨#[]⟩)).setCell ⟨w.heap.size+1+1,1,none⟩ (.string ⟨#[]⟩)).setCell ⟨w.heap.size+1+1,2,none⟩ (.bool false)).setCell ⟨w.heap.size+1+1,3,none⟩ (.complex .f64 0 0)).setCell ⟨w.heap.size+1+1+1,0,none⟩ (.bool false)):=by
   constructor <;> go_simp
  generalize (((((W.setCell ⟨w.heap.size+1+1,0,none⟩ (.string ⟨#[]⟩)).setCell ⟨w.heap.size+1+1,1,none⟩ (.string ⟨#[]⟩)).setCell ⟨w.heap.size+1+1,2,none⟩ (.bool false)).setCell ⟨w.heap.size+1+1,3,none⟩ (.complex .f64 0 0)).setCell ⟨w.heap.size+1+1+1,0,none⟩ (.bool false))=W1 at *
  refine⟨by simp,.inl ⟨_,_,rfl,run_takeDeferred hK',?_⟩⟩
  obtain⟨c0,c1,c2,c3,d⟩:=Fd'.own _ _ _ _ _ _ () _ _ _ hF (grownBy_putObj' W1 D (.deferred none)) (fun r e=>by cases e;exact⟨_,hK',rfl⟩)
  refine⟨.tuple #[.agg #[.string ⟨#[]⟩,.string ⟨#[]⟩,.bool false,.complex .f64 0 0],.bool false],?_,.inl ⟨rfl,fun i hi=>hne (i,zs i) ?_⟩,hB'.trans (belowK_b (w:=w) (Nat.le_refl _) W1 D _ _ (by omega) hK' rfl rfl)⟩
  ·simp[results,Tryz.f13,go_sem,c0,c1,c2,c3,d]
  ·simp only[back,List.mem_map,List.mem_range]
   exact⟨len - 1 - i,by omega,by rw[show len - 1 - (len - 1 - i)=i by omega]⟩
 case stop=>
  rintro D c pre W hD ⟨k,hk,rfl⟩ ⟨⟨rfl,ini,last,e1,e2,e3,hf⟩,hB⟩ hK
  gi_wp2
  refine⟨by simp,.inl ⟨_,_,rfl,run_takeDeferred hK,?_⟩⟩
  obtain⟨c0,c1,c2,c3,d⟩:=Fd.own _ _ _ () _ _ _ hf (grownBy_putObj' W D (.deferred none)) (fun r e=>by cases e;exact⟨_,hK,rfl⟩)
  obtain⟨k',rfl⟩:∃ k',k=k'+1:=by
   cases k with
   | zero=>simp[back]at e1
   | succ k'=>exact⟨k',rfl⟩
  rw[back_succ]at e1
  obtain⟨rfl,e5⟩:=List.append_inj' e1 rfl
  obtain rfl:(len - 1 - k',zs (len - 1 - k'))=last:=by simpa using e5
  refine⟨_,?_,.inr ⟨len - 1 - k',by omega,e3,fun j hj hl=>e2 (j,zs j) ?_,rfl⟩,hB.trans (belowK_b (w:=w) (Nat.le_refl _) W D _ _ (by omega) hK rfl rfl)⟩
  ·simp only at c0 c1 c2 c3
   simp[results,Tryz.f13,go_sem,c0,c1,c2,c3,d]
  ·simp only[back,List.mem_map,List.mem_range]
   exact⟨len - 1 - j,by omega,by rw[show len - 1 - (len - 1 - j)=j by omega]⟩
end Bw
end Go.Proofs
end
noncomputable section
open Go Go.AM Go.Md Go.Proofs
namespace Go.Hd
open Go.Wk
set_option maxRecDepth 100000
set_option maxHeartbeats 400000
def valO:List Entry->Txt->Option Entry
 | [],_=>none
 | e::r,k=>match valO r k with
  | some x=>some x
  | none=>bif e.write&&strBeq e.key k then some e else none
def hitP(k:Txt)(e:Entry):Prop:=e.write=true/\e.key=k
theorem valO_none{k:Txt}:∀ {l:List Entry},(∀ i,i<l.length -> ¬ hitP k (l.getD i default))->valO l k=none
 | [],_=>rfl
 | e::r,h=>by
  have h1:=valO_none (l:=r) fun i hi=>h (i+1) (by simp;omega)
  have h0:=h 0 (by simp)
  unfold valO
  rw[h1]
  cases hw:e.write with
  | false=>rfl
  | true=>
   have:strBeq e.key k=false:=by
    rw[strBeq_eq]
    simpa using fun hk=>h0 ⟨hw,hk⟩
   simp[this]
theorem valO_some{k:Txt}:∀ {l:List Entry} {i:Nat},i<l.length->hitP k (l.getD i default)->(∀ j,i<j->j<l.length -> ¬ hitP k (l.getD j default))->valO l k=some (l.getD i default)
 | [],i,hi,_,_=>absurd hi (Nat.not_lt_zero i)
 | e::r,0,_,h,ha=>by
  have h1:=valO_none (l:=r) fun i hi=>ha (i+1) (by omega) (by simp;omega)
  unfold valO
  rw[h1]
  have hw:e.write=true:=h.1
  have:strBeq e.key k=true:=by rw[strBeq_eq];simpa using h.2
  simp[hw,this]
 | e::r,i+1,hi,h,ha=>by
  have h1:=valO_some (l:=r) (i:=i) (by simpa using hi) h fun j hj hl=>ha (j+1) (by omega) (by simp;omega)
  unfold valO
  rw[h1];rfl
def valP(t:Tail)(k:Txt):Itm × Bool:=match valO t.log k with
 | some e=>(itmC e,true)
 | none=>(default,false)
def bOf(l:List UInt8):ByteArray:=⟨l.toArray⟩
theorem bOf_eq{s:ByteArray}{l:List UInt8}(h:l=s.data.toList):s=bOf l:=by subst h;rfl
def evOf(e:Entry):Bw.EV:=⟨e.ver.re,e.ver.im,e.kind,bOf e.key,bOf e.val,e.write,e.del,e.sess,e.num,e.code,bOf e.res,e.hasRes⟩
theorem ev_cells{w:World}{I:Nat->Prop}{φ:Phi}{e:Entry}{j:Nat}{v:Value}(h:(evOf e).cells[j]? = some v):∃ c,(encEntry e)[j]? = some c /\ ∀ u,RV w I φ c u->u=v:=by
 match j,h with
 | 0,h=>cases h;exact⟨_,rfl,fun u hu=>by cases hu;rfl⟩
 | 1,h=>cases h;exact⟨_,rfl,fun u hu=>by cases hu;rfl⟩
 | 2,h=>cases h;exact⟨_,rfl,fun u hu=>by cases hu with | str s l hl=>rw[bOf_eq hl];rfl⟩
 | 3,h=>cases h;exact⟨_,rfl,fun u hu=>by cases hu with | str s l hl=>rw[bOf_eq hl];rfl⟩
 | 4,h=>cases h;exact⟨_,rfl,fun u hu=>by cases hu;rfl⟩
 | 5,h=>cases h;exact⟨_,rfl,fun u hu=>by cases hu;rfl⟩
 | 6,h=>cases h;exact⟨_,rfl,fun u hu=>by cases hu;rfl⟩
 | 7,h=>cases h;exact⟨_,rfl,fun u hu=>by cases hu;rfl⟩
 | 8,h=>cases h;exact⟨_,rfl,fun u hu=>by cases hu;rfl⟩
 | 9,h=>cases h;exact⟨_,rfl,fun u hu=>by cases hu with | str s l hl=>rw[bOf_eq hl];rfl⟩
 | 10,h=>cases h;exact⟨_,rfl,fun u hu=>by cases hu;rfl⟩
 | j+11,h=>simp[Bw.EV.cells]at h
theorem hits_iff{k:Txt}{e:Entry}:Bw.hits (bOf k) (evOf e) ↔ hitP k e:=by
 unfold Bw.hits hitP
 simp only[ByteArray.toList_eq]
 exact Iff.rfl
theorem rv_itm{w:World}{I:Nat->Prop}{φ:Phi}(x:Itm)(b:Bool):RV w I φ (.tup [.agg (encItem x),.bool b]) (.tuple #[.agg #[.string (bOf x.key),.string (bOf x.val),.bool x.has,.complex .f64 x.ver.re x.ver.im],.bool b]):=by
 refine .tup _ _ rfl fun i c u ec eu=>?_
 match i,ec,eu with
 | 0,ec,eu=>
  simp at ec eu;subst ec;subst eu
  refine .agg _ _ rfl (fun k u e=>?_) fun k c u e1 e2=>?_
  ·match k,e with
   | 0,e=>simp at e;subst e;rfl
   | 1,e=>simp at e;subst e;rfl
   | 2,e=>simp at e;subst e;rfl
   | 3,e=>simp at e;subst e;rfl
   | k+4,e=>simp at e
  ·match k,e1,e2 with
   | 0,e1,e2=>simp[encItem]at e1 e2;subst e1;subst e2;exact .str _ _ rfl
   | 1,e1,e2=>simp[encItem]at e1 e2;subst e1;subst e2;exact .str _ _ rfl
   | 2,e1,e2=>simp[encItem]at e1 e2;subst e1;subst e2;exact .bool _
   | 3,e1,e2=>simp[encItem]at e1 e2;subst e1;subst e2;exact .cplx _ _ _
   | k+4,e1,e2=>simp[encItem]at e1
 | 1,ec,eu=>simp at ec eu;subst ec;subst eu;exact .bool _
 | i+2,ec,eu=>simp at ec
theorem value_con(t:Tail)(k:Txt)(h:t.log.length<=100000):Contract PG F_tail_Value [.agg (encTail t),.str k] [] (.tup [.agg (encItem (valP t k).1),.bool (valP t k).2]) []:=by
 intro w I φ ra hh hx
 have hφ:=phi_nil hh
 subst hφ
 obtain⟨hsz,hx⟩:=hx
 obtain⟨a0,ha0⟩:∃ a,ra[0]? = some a:=⟨_,Array.getElem?_eq_getElem (by rw[<- hsz];simp)⟩
 obtain⟨a1,ha1⟩:∃ a,ra[1]? = some a:=⟨_,Array.getElem?_eq_getElem (by rw[<- hsz];simp)⟩
 have r0:=hx 0 _ a0 rfl ha0
 have r1:=hx 1 _ a1 rfl ha1
 have hra:ra = #[a0,a1]:=by
  apply Array.ext_getElem?
  intro j
  match j with
  | 0=>exact ha0
  | 1=>exact ha1
  | j+2=>rw[Array.getElem?_eq_none (by rw[<- hsz];simp)];simp
 subst hra
 cases r1 with
 | str s _ hs=>
 rw[bOf_eq hs]
 cases r0 with
 | agg _ vs hl h1 hr=>
 obtain⟨v0,e0⟩:∃ a,vs[0]? = some a:=⟨_,Array.getElem?_eq_getElem (by rw[<- hl];simp[encTail])⟩
 obtain⟨v1,e1⟩:∃ a,vs[1]? = some a:=⟨_,Array.getElem?_eq_getElem (by rw[<- hl];simp[encTail])⟩
 obtain⟨v2,e2⟩:∃ a,vs[2]? = some a:=⟨_,Array.getElem?_eq_getElem (by rw[<- hl];simp[encTail])⟩
 have q0:=hr 0 _ v0 rfl e0
 have q1:=hr 1 _ v1 rfl e1
 have q2:=hr 2 _ v2 rfl e2
 have hvs:vs = #[v0,v1,v2]:=by
  apply Array.ext_getElem?
  intro j
  match j with
  | 0=>exact e0
  | 1=>exact e1
  | 2=>exact e2
  | j+3=>rw[Array.getElem?_eq_none (by rw[<- hl];simp[encTail])];simp
 subst hvs
 cases q0
 cases q1
 have key:∃ sa b off cap,v2=.slice sa t.log.length cap/\(0<t.log.length->sa=some ⟨b,off,none⟩/\b<w.heap.size) /\ ∀ i j v,i<t.log.length->(evOf (t.log.getD i default)).cells[j]? = some v->w.cell? ⟨b,off+i*11+j,none⟩=some v:=by
  generalize hn:t.log.length=n
  have q2:RV w I Phi.no (.tr 11 n fun i=>encEntry (t.log.getD i default)) v2:=by rw[<- hn];exact q2
  cases q2 with
  | tr _ _ _ B o cap u hI hnc hz hlen hc g1 hr2=>
   refine⟨_,B,o,cap,rfl,fun hp=>⟨rfl,hh.lt B (hI hp)⟩,fun i j v hi e=>?_⟩
   obtain⟨c,c1,c2⟩:=ev_cells (w:=w) (I:=I) (φ:=Phi.no) e
   rw[<- c2 _ (hr2 i j c hi c1)]
   exact hc i j c hi c1
  | trn _ _ a=>exact⟨a,0,0,0,rfl,fun hp=>absurd hp (Nat.lt_irrefl 0),fun i j v hi=>absurd hi (Nat.not_lt_zero i)⟩
 obtain⟨sa,b,off,cap,rfl,ha,hc⟩:=key
 have run:=Bw.value_in Fence.wide 3 trivial trivial trivial rfl (Nat.le_refl 3) t.floor.re t.floor.im t.last.re t.last.im sa b off t.log.length cap (fun i=>evOf (t.log.getD i default)) (bOf k) (by omega) w ha hc
 refine .inl ⟨enters_of Tryz.func13 (by kernel_rfl) rfl _ _,(callsIn_wide.1 run).mono ?_⟩
 rintro e w' ⟨hans,hB⟩
 have fin:∀ u,RV w' I Phi.no (.tup [.agg (encItem (valP t k).1),.bool (valP t k).2]) u -> ∃ φ' I',RV w' I' φ' (.tup [.agg (encItem (valP t k).1),.bool (valP t k).2]) u/\RH w' I' φ' (hget [])/\Step ([]:Heap).length (hget []) Phi.no I w (hget []) φ' I' w':=fun u hu=>
  ⟨Phi.no,I,hu,RH.empty w' I fun B hI=>Nat.lt_of_lt_of_le (hh.lt B hI) hB.size,fun b p hb=>absurd hb (Nat.not_lt_zero b),fun _ h=>h,fun _ h=>.inl h,fun B hm=>(not_mut_nil hm).elim,
   ⟨hB.os,hB.tape,hB.output,hB.size,fun B hlt _=>hB.block B hlt,fun B c e fz hc=>⟨c,(hB.block B (lt_of_heap hc)).trans hc,rfl⟩,fun B c e fz hlt hc=>⟨c,(hB.block B hlt).symm.trans hc,rfl⟩⟩⟩
 rcases hans with ⟨rfl,hno⟩ | ⟨i,hi,hit,haft,rfl⟩
 ·have hv:valP t k=(default,false):=by
   unfold valP
   rw[valO_none fun i hi hp=>hno i hi (hits_iff.2 hp)]
  refine⟨_,rfl,fin _ ?_⟩
  rw[hv]
  exact rv_itm default false
 ·have hp:hitP k (t.log.getD i default):=hits_iff.1 hit
  have hv:valP t k=(itmC (t.log.getD i default),true):=by
   unfold valP
   rw[valO_some hi hp fun j hj hl hp=>haft j hj hl (hits_iff.2 hp)]
  refine⟨_,rfl,fin _ ?_⟩
  rw[hv]
  have e:(.tuple #[.agg #[.string (bOf k),.string (if(evOf (t.log.getD i default)).del=true then⟨#[]⟩else(evOf (t.log.getD i default)).val),.bool (!(evOf (t.log.getD i default)).del),.complex .f64 (evOf (t.log.getD i default)).re (evOf (t.log.getD i default)).im],.bool true]:Value) =
    .tuple #[.agg #[.string (bOf (itmC (t.log.getD i default)).key),.string (bOf (itmC (t.log.getD i default)).val),.bool (itmC (t.log.getD i default)).has,.complex .f64 (itmC (t.log.getD i default)).ver.re (itmC (t.log.getD i default)).ver.im],.bool true]:=by
   generalize t.log.getD i default=x at *
   have hk:x.key=k:=hp.2
   unfold itmC evOf
   rw[hk]
   cases x.del <;> rfl
  rw[e]
  exact rv_itm (itmC (t.log.getD i default)) true
abbrev TK:=Tail × Txt
def dTK(a:List AV):TK:=(decTail (argC a 0),getS a 1)
def eTK(p:TK):List AV:=[.agg (encTail p.1),.str p.2]
def kValue:Known:=.spec F_tail_Value dTK (fun p=>p.1.log.length<=100000) eTK (fun p=>.tup [.agg (encItem (valP p.1 p.2).1),.bool (valP p.1 p.2).2])
theorem kValue_ok:kValue.Ok PG:=Known.spec_ok fun p h=>value_con p.1 p.2 h
theorem qValue{R:Type}{t:Tail}{k:Txt}{K:TK->Option R}(h:t.log.length<=100000):gC dTK (fun p=>p.1.log.length<=100000) eTK [.agg (encTail t),.str k] K=K (t,k):=gC_eq (t,k) (Prod.ext (dec_encTail t) rfl) h (.refl _)
end Go.Hd
end
noncomputable section
open Go Go.AM Go.Md
namespace Go.Hd
open Go.Wk
set_option maxRecDepth 100000
set_option maxHeartbeats 400000
def eFi(l:List Known):Env:=envN [] [(F_head_work_find,5),(F_tail_Value,0),(F_lru_Get,0)] [] l
def gGetW(w:Wrk)(k:Txt):Option (AV × Heap):=gC dOut pLO eOut [encItems w.d.clean,.str k] fun y=>some (.tup [.agg (encItem (getO y).1),.bool (getO y).2.2],hpD (setC w (getO y).2.1))
theorem fi_eq(w:Wrk)(k:Txt):callC 1 (eFi [kValue,kGet]) 9 F_head_work_find [.ptr 0 0 0,.str k] (hpW w) =
 gC dTK (fun p=>p.1.log.length<=100000) eTK [.agg (encTail w.d.rep.tail),.str k] fun y=>bif(valP y.1 y.2).2 then some (.tup [.agg (encItem (valP y.1 y.2).1),.bool true],hpD w)else
  bif w.isRead then bif strBeq w.just.key k then some (.tup [.agg (encItem w.just),.bool true],hpD w)else gGetW w k else gGetW w k:=by kernel_rfl
def eAs(l:List Known):Env:=envN [(F_head_work_ask,0,[0,3,12,13])] [(F_head_work_ask,5),(F_twin_Msg,0),(F_head_read,0)] [(F_head_work_ask,11,[6])] l
def knAs:List Known:=[kTMsg,kRead]
theorem knAs_ok:∀ k ∈ knAs,k.Ok PG:=ak kTMsg_ok (ak kRead_ok ank)
def LAs(w:Wrk)(q:Msg)(N m:Nat)(i:Int):Option (AV × Heap):=LP (eAs knAs) N 4 F_head_work_ask (cnK 1 4) 0 [] m {fr:=[(0,.ptr 0 0 0),(3,.ptr 4 0 0),(12,.int .i64 w.d.asks.length),(13,.int .i64 i)],hp:=hpW w++[.arr true 31 [encMsg q]]}
def nxtW(w:Wrk):Wrk:={w with d:={w.d with next:=IntKind.i64.wrap (w.d.next+1)}}
def askC(w:Wrk)(q:Msg)(y:Msg):List AV:=[.int .i64 (IntKind.i64.wrap (w.d.next+1)),.str q.op.key,.trl 31 [encMsg y]]
def newAs(w:Wrk)(q:Msg):Option (AV × Heap):=
 gC (fun a=>decMsg (argC a 0)) MsOk (fun m=>[.agg (encMsg m)]) [.agg (encMsg q)] fun y=>bif w.d.asks.length.ble w.d.asks.length then bif((w.d.asks.length+1)*48).ble 140737488355328&&(w.d.asks.length+1).ble 140737488355328 then
  gC (fun a=>(decRep (argC a 0),decAsk (argC a 1))) (fun _=>True) eRd [.agg (encRep w.d.rep),.agg (askC w q y)] fun z=>bif w.out.length.ble w.out.length then bif((w.out.length+1)*392).ble 140737488355328&&(w.out.length+1).ble 140737488355328 then
   some (.tup [],hpN (nxtW w) w.d.waits.length (fWt w.d.waits) (w.d.asks.length+1) (appN w.d.asks.length (fAk w.d.asks) (.list [askC w q y])) (w.out.length+1) (appN w.out.length (fMg w.out) (.list [encMsg (readM z)])))else none else none else none else none
theorem as_in(N:Nat)(w:Wrk)(q:Msg):callC 1 (eAs knAs) (N+1) F_head_work_ask [.ptr 0 0 0,.agg (encMsg q)] (hpW w)=LAs w q N N 0:=by kernel_rfl
theorem as_st(N m:Nat)(w:Wrk)(q:Msg)(i:Int):LAs w q N (m+1) i =
 bif decide (i<(w.d.asks.length:Int))then rg i w.d.asks.length (bif i.toNat.blt w.d.asks.length then bif strBeq (w.d.asks.getD i.toNat default).key q.op.key then bif i.toNat.blt w.d.asks.length then bif decide (((w.d.asks.getD i.toNat default).calls.length:Int)<w.c.maxLog)then
   bif i.toNat.blt w.d.asks.length then gC (fun a=>decMsg (argC a 0)) MsOk (fun m=>[.agg (encMsg m)]) [.agg (encMsg q)] fun _=>bif(((w.d.asks.getD i.toNat default).calls.length+1)*392).ble 140737488355328&&((w.d.asks.getD i.toNat default).calls.length+1).ble 140737488355328 then none else none else none
  else some (.tup [],hpD w)else none else LAs w q N m (IntKind.i64.wrap (i+1))else none)
 else newAs w q:=by kernel_rfl
end Go.Hd
end
noncomputable section
set_option linter.unusedVariables false
set_option linter.unusedSimpArgs false
namespace Go.AM
section
variable {P:Program} {env:Env} {fn nt n base:Nat}
theorem Leads.seq{x y:Code}{s s1 s2:St}{e:AX}(h1:Leads (fun Q=>x.wp P Q) nt base s .normal s1)(h2:Leads (fun Q=>y.wp P Q) nt base s1 e s2):Leads (fun Q=>(Code.seq x y).wp P Q) nt base s e s2:=by
 intro hb
 obtain⟨b1,g1⟩:=h1 hb
 obtain⟨b2,g2⟩:=h2 b1
 exact⟨b2,fun w I φ a hs ha Q hQ=>wp_seq (g1 w I φ a hs ha _ fun a' w' φ' I' c1 c2 c3 c4=>g2 w' I' φ' a' c3 c1 Q (hQ.after c2 c4))⟩
theorem Leads.block{x:Code}{id:Nat}{s s1:St}(h:Leads (fun Q=>x.wp P Q) nt base s (.exit id) s1):Leads (fun Q=>(Code.block id x).wp P Q) nt base s .normal s1:=by
 intro hb
 obtain⟨b1,g1⟩:=h hb
 refine⟨b1,fun w I φ a hs ha Q hQ=>wp_block (g1 w I φ a hs ha _ fun a' w' φ' I' c1 c2 c3 c4=>?_)⟩
 simp only[AX.x,Exit.inBlock,if_true]
 exact hQ a' w' φ' I' c1 c2 c3 c4
theorem Leads.seq_ret{x y:Code}{s s1:St}(h:Leads (fun Q=>x.wp P Q) nt base s .ret s1):Leads (fun Q=>(Code.seq x y).wp P Q) nt base s .ret s1:=by
 intro hb
 obtain⟨b1,g1⟩:=h hb
 exact⟨b1,fun w I φ a hs ha Q hQ=>wp_seq (g1 w I φ a hs ha _ hQ)⟩
theorem Leads.block_ret{x:Code}{id:Nat}{s s1:St}(h:Leads (fun Q=>x.wp P Q) nt base s .ret s1):Leads (fun Q=>(Code.block id x).wp P Q) nt base s .ret s1:=by
 intro hb
 obtain⟨b1,g1⟩:=h hb
 exact⟨b1,fun w I φ a hs ha Q hQ=>wp_block (g1 w I φ a hs ha _ hQ)⟩
def Same(s s1:St):Prop:=s.hp.length=s1.hp.length /\ ∀ w I φ a,StOk w I φ s a->StOk w I φ s1 a/\(∀ B,Mut φ (hget s1.hp) B ↔ Mut φ (hget s.hp) B)
theorem Leads.same{x:Code}{s s0 s1:St}{e:AX}(hs:Same s0 s)(h:Leads (fun Q=>x.wp P Q) nt base s e s1):Leads (fun Q=>x.wp P Q) nt base s0 e s1:=by
 intro hb
 obtain⟨b1,g1⟩:=h (by rw[<- hs.1];exact hb)
 refine⟨b1,fun w I φ a ho ha Q hQ=>?_⟩
 obtain⟨h1,h2⟩:=hs.2 w I φ a ho
 refine g1 w I φ a h1 ha Q fun a' w' φ' I' c1 c2 c3 c4=>hQ a' w' φ' I' c1 c2 c3 ?_
 exact⟨c4.le,c4.Ile,fun B hB=>(c4.Inew B hB).imp id (Or.imp (h2 B).1 id),fun B hB=>(c4.mt B hB).imp (h2 B).1 id,c4.ext.weaken fun B hB=>(h2 B).1 hB⟩
theorem Leads.norm{x:Code}{l:List Nat}{s s1:St}(h:Leads (fun Q=>x.wp P Q) nt base s .normal s1):Leads (fun Q=>x.wp P Q) nt base s .normal (norm base l s1):=by
 intro hb
 obtain⟨b1,g1⟩:=h hb
 refine⟨norm_base b1,fun w I φ a hs ha Q hQ=>g1 w I φ a hs ha _ fun a' w' φ' I' c1 c2 c3 c4=>?_⟩
 obtain⟨n1,φ1,n2,n3⟩:=norm_ok base l c3 b1
 exact hQ a' w' φ1 I' c1 c2 n2 (c4.trans n3)
theorem Leads.loop{x:Code}{e0:AX}(he:e0 ≠ .normal){n:Nat}(S:Nat->St){T:St}(hstep:∀ j,j<n->Leads (fun Q=>x.wp P Q) nt base (S j) .normal (S (j+1)))(hend:Leads (fun Q=>x.wp P Q) nt base (S n) e0 T) :
  Leads (fun Q=>(Code.loop x).wp P Q) nt base (S 0) e0 T:=by
 have key:∀ k j,j+k=n->Leads (wpL P x) nt base (S j) e0 T:=by
  intro k
  induction k with
  | zero=>
   intro j hj hb
   have:j=n:=by omega
   subst this
   obtain⟨b1,g1⟩:=hend hb
   refine⟨b1,fun w I φ a hs ha Q hQ=>wpL_step (g1 w I φ a hs ha _ fun a' w' φ' I' c1 c2 c3 c4=>?_)⟩
   cases e0 with
   | normal=>exact absurd rfl he
   | exit id=>exact hQ a' w' φ' I' c1 c2 c3 c4
   | goto l=>exact hQ a' w' φ' I' c1 c2 c3 c4
   | ret=>exact hQ a' w' φ' I' c1 c2 c3 c4
  | succ k ih=>
   intro j hj hb
   obtain⟨b1,g1⟩:=hstep j (by omega) hb
   obtain⟨b2,g2⟩:=ih (j+1) (by omega) b1
   exact⟨b2,fun w I φ a hs ha Q hQ=>wpL_step (g1 w I φ a hs ha _ fun a' w' φ' I' c1 c2 c3 c4=>g2 w' I' φ' a' c3 c1 Q (hQ.after c2 c4))⟩
 intro hb
 obtain⟨b1,g1⟩:=key n 0 (by omega) hb
 exact⟨b1,fun w I φ a hs ha Q hQ=>wpL_loop (g1 w I φ a hs ha Q hQ)⟩
def kAt(e0:AX)(f:St->St)(e:AX)(s:St):Option St:=match e0,e with
 | .normal,.normal=>some (f s)
 | .exit i,.exit j=>bif Nat.beq i j then some (f s)else none
 | .ret,.ret=>some (f s)
 | _,_=>none
theorem leads_at{run:CallK St}(henv:EnvOk P env)(hrun:RunOk P run)(hm:P.follows .mixedOrders=true){c:Code}{cur:Nat}{e0:AX}{s s':St}(hok:okCode c=true)
  (h:evC env run fn nt n base cur c (kAt e0 id) s=some s'):Leads (fun Q=>c.wp P Q) nt base s e0 s':=by
 obtain⟨e,s1,h1,h2⟩:=evC_ok henv hrun hm hok h
 unfold kAt at h1
 cases e0 <;> cases e <;> simp only at h1 <;> first | (cases h1;exact h2) | cases h1 | skip
 rename_i i j
 obtain⟨g1,g2⟩:=cond_some h1
 cases g2
 have:=Nat.eq_of_beq_eq_true g1
 subst this
 exact h2
theorem leads_norm{run:CallK St}(henv:EnvOk P env)(hrun:RunOk P run)(hm:P.follows .mixedOrders=true){c:Code}{cur:Nat}{l:List Nat}{s s':St}(hok:okCode c=true)
  (h:evC env run fn nt n base cur c (kAt .normal (norm base l)) s=some s'):Leads (fun Q=>c.wp P Q) nt base s .normal s':=by
 obtain⟨e,s1,h1,h2⟩:=evC_ok henv hrun hm hok h
 cases e with
 | normal=>cases h1;exact h2.norm
 | exit id=>cases h1
 | goto l=>cases h1
 | ret=>cases h1
end
theorem contract_leads{P:Program}{env:Env}(henv:EnvOk P env)(hcode:CodeOk P env){f:Nat}{fn:Func}{c:Code}(hf:env.code f=some fn)(hb:fn.body=some c){args:List AV}{hp:Heap}{T:St}{e:AX}(he:e=.normal\/e=.ret)
  (L:Leads (fun Q=>c.wp P Q) fn.ntmps hp.length {fr:=mkFrame 0 args,hp:=hp} e T) {c0:Nat} (hc0:c0<=hp.length) {r:AV} {h:Heap} (hr:resultsK env.tt T fn.results.toList (fun vs=>cnK c0 hp.length (tupled vs) T.hp)=some (r,h)) :
  Contract P f args hp r h/\hp.length<=h.length:=by
 obtain⟨hfn,hbody,hname,hok⟩:=hcode f fn hf
 obtain⟨vs,h4,h5⟩:=results_ok henv.tt _ _ hr
 obtain⟨hlen,L⟩:=L (Nat.le_refl _)
 refine contract_cn hc0 h4 hlen ?_
 intro w I φ ra hh hx
 refine .inl ⟨?_,calls_of_wp hfn hb ?_⟩
 ·simp only[callFunc,Sem.run_bind,run_program,Result.andThen_ok,hfn,hname,hbody,Bool.false_eq_true,if_false,Sem.run_pure]
 ·have hst:StOk w I φ {fr:=mkFrame 0 args,hp:=hp} {tmps:=ra++Array.replicate (fn.ntmps - ra.size) undef,defers:=[]}:=⟨hh,frame_ok hx _⟩
  refine L w I φ _ hst (by simp;omega) _ fun a' w' φ' I' c1 c2 c3 c4=>?_
  obtain⟨us,d1,d2,d3⟩:=h5 w' I' φ' a' c3
  have hres:(results fn a'.tmps).run P w'=.ok (if h:us.toArray.size=1 then us.toArray[0]else .tuple us.toArray) w':=by
   unfold results
   rw[Array.mapM_eq_mapM_toList]
   simp only[map_eq_pure_bind,bind_assoc,pure_bind,Sem.run_bind]
   exact(congrArg (fun(x:Result (List Value))=>x.andThen fun us w=>(pure (if h:us.toArray.size=1 then us.toArray[0]else Value.tuple us.toArray):Sem Value).run P w) d1)
  have hval:RV w' I' φ' (tupled vs) (if h:us.toArray.size=1 then us.toArray[0]else .tuple us.toArray):=by
   have htup:us.length ≠ 1->RV w' I' φ' (.tup vs) (if h:us.toArray.size=1 then us.toArray[0]else .tuple us.toArray):=by
    intro hne
    rw[dif_neg (by simpa using hne)]
    exact .tup _ _ (by simpa using d2) fun i x u e e'=>d3 i x u e (by simpa using e')
   cases vs with
   | nil=>exact htup (by simp at d2;omega)
   | cons v l=>
    cases l with
    | nil=>
     cases us with
     | nil=>simp at d2
     | cons u us=>
      cases us with
      | nil=>exact d3 0 v u rfl rfl
      | cons u' us=>simp at d2
    | cons v' l=>exact htup (by simp at d2;omega)
  have hfin:bodyPost P fn (fun e w'=>∃ u,e=.returned u /\ ∃ φ' I',RV w' I' φ' (tupled vs) u/\RH w' I' φ' (hget T.hp)/\Step hp.length (hget hp) φ I w (hget T.hp) φ' I' w') .normal a' w':=
   ⟨c2,_,hres,_,rfl,φ',I',hval,c3.hh,c4⟩
  rcases he with rfl | rfl
  ·exact hfin
  ·exact hfin
end Go.AM
end
noncomputable section
open Go Go.AM Go.Md
namespace Go.Hd
open Go.Wk
set_option maxRecDepth 100000
set_option maxHeartbeats 400000
theorem mgB_in(N:Nat)(l:List Msg):callC 0 (eTw kn19) (N+1) F_twin_Msgs [encMsgs l] []=gC dTr pTr (eTr 31) [encMsgs l] fun y=>LP (eTw kn19) N 0 F_twin_Msgs (cnK 0 0) 0 [] N (SMg y.1 y.2 0):=by kernel_rfl
theorem mgB_st(N m:Nat)(l:List Msg)(i:Int):LP (eTw kn19) N 0 F_twin_Msgs (cnK 0 0) 0 [] (m+1) (SMg l.length (fMg l) i) =
 bif decide (i<(l.length:Int))then rg i l.length (bif i.toNat.blt l.length then gC (fun a=>decMsg (argC a 0)) MsOk (fun m=>[.agg (encMsg m)]) [.agg (encMsg (l.getD i.toNat default))] fun y=>
  rg i l.length (bif i.toNat.blt l.length&&true then LP (eTw kn19) N 0 F_twin_Msgs (cnK 0 0) 0 [] m (SMg l.length (fun i'=>bif i'.beq i.toNat then encMsg y else encMsg (l.getD i' default)) (IntKind.i64.wrap (i+1)))else none)else none)
 else some (.sn 31 0 l.length,[.seq true 31 l.length (fMg l)]):=by kernel_rfl
theorem msgsB_con(l:List Msg)(h:MgOk l):Contract PG F_twin_Msgs [encMsgs l] [] (.sn 31 0 l.length) [sqL 31 encMsg default l]:=by
 obtain⟨N,hN⟩:∃ N,N=200000:=⟨_,rfl⟩
 have run:∀ d i m,i+d=l.length->d<m->LP (eTw kn19) N 0 F_twin_Msgs (cnK 0 0) 0 [] m (SMg l.length (fMg l) (i:Nat))=some (.sn 31 0 l.length,[sqL 31 encMsg default l]):=by
  intro d
  induction d with
  | zero=>
   intro i m hi hm
   obtain⟨m,rfl⟩:∃ k,m=k+1:=⟨m - 1,by omega⟩
   rw[mgB_st,decide_eq_false (by omega),cond_false];rfl
  | succ d ih=>
   intro i m hi hm
   obtain⟨m,rfl⟩:∃ k,m=k+1:=⟨m - 1,by omega⟩
   have hil:i<l.length:=by omega
   have hc:=h.2 _ (getD_mem (z:=(default:Msg)) hil)
   have e:=ih (i+1) m (by omega) (by omega)
   have h1:=h.1
   have hw:IntKind.i64.wrap ((i:Int)+1)=((i+1:Nat):Int):=wrapS (by omega)
   have hs:=set_same encMsg default l i
   rw[mgB_st,decide_eq_true (show((i:Nat):Int)<(l.length:Int) by omega),cond_true,rg_eq hil,Int.toNat_natCast,blt_true hil,cond_true,qTMsg hc,rg_eq hil,Bool.and_true,cond_true,hw,hs]
   exact e
 refine conB (n:=N+1) (ak (kCloB_ok cloN_Msg) (ak kTMsg_ok ank)) ((mgB_in N l).trans ?_)
 refine(qTrE h.1).trans ?_
 exact run l.length 0 N (by omega) (by have:=h.1;omega)
def kMsgsB:Known:=.specB F_twin_Msgs (fun a=>decL decMsg (a.getD 0 .nils)) MgOk (fun l=>[encMsgs l]) (fun l=>(.sn 31 0 l.length,[sqL 31 encMsg default l]))
theorem kMsgsB_ok:kMsgsB.Ok PG:=Known.specB_ok msgsB_con
end Go.Hd
end
noncomputable section
set_option linter.unusedVariables false
set_option linter.unusedSimpArgs false
namespace Go.AM
def selS(l:List Nat)(s:St):St:={fr:=l.map fun t=>(t,fget s.fr t),hp:=s.hp}
theorem fget_sel(s:St)(t:Nat):∀ l:List Nat,fget (l.map fun t=>(t,fget s.fr t)) t=fget s.fr t\/fget (l.map fun t=>(t,fget s.fr t)) t=.undef
 | []=>.inr rfl
 | x::l=>by
  simp only[List.map_cons,fget]
  cases h:Nat.beq x t with
  | true=>have:=Nat.eq_of_beq_eq_true h;subst this;exact .inl rfl
  | false=>exact fget_sel s t l
theorem StOk.sel{w:World}{I:Nat->Prop}{φ:Phi}{s:St}{a:Act}(h:StOk w I φ s a)(l:List Nat):StOk w I φ (selS l s) a:=
 ⟨h.hh,fun t=>by
  rcases fget_sel s t l with e | e
  ·show RV w I φ (fget (l.map fun t=>(t,fget s.fr t)) t) _
   rw[e];exact h.fr t
  ·show RV w I φ (fget (l.map fun t=>(t,fget s.fr t)) t) _
   rw[e];exact .undef _⟩
theorem Leads.sel{P:Program}{nt base:Nat}{X:(Exit->Act->World->Prop)->Act->World->Prop}{s s1:St}{e:AX}(h:Leads X nt base s e s1)(l:List Nat):Leads X nt base s e (selS l s1):=by
 intro hb
 obtain⟨b1,g1⟩:=h hb
 exact⟨b1,fun w I φ a hs ha Q hQ=>g1 w I φ a hs ha Q fun a' w' φ' I' c1 c2 c3 c4=>hQ a' w' φ' I' c1 c2 (c3.sel l) c4⟩
theorem leads_sl{P:Program}{env:Env}{fn nt n base:Nat}{run:CallK St}(henv:EnvOk P env)(hrun:RunOk P run)(hm:P.follows .mixedOrders=true){c:Code}{cur:Nat}{e0:AX}{l:List Nat}{s s':St}(hok:okCode c=true)
  (h:evC env run fn nt n base cur c (kAt e0 (selS l)) s=some s'):Leads (fun Q=>c.wp P Q) nt base s e0 s':=by
 obtain⟨e,s1,h1,h2⟩:=evC_ok henv hrun hm hok h
 unfold kAt at h1
 cases e0 <;> cases e <;> simp only at h1 <;> first | (cases h1;exact h2.sel (P:=P) l) | cases h1 | skip
 rename_i i j
 obtain⟨g1,g2⟩:=cond_some h1
 cases g2
 have:=Nat.eq_of_beq_eq_true g1
 subst this
 exact h2.sel (P:=P) l
theorem Leads.to_same{nt base:Nat}{X:(Exit->Act->World->Prop)->Act->World->Prop}{s s1 s2:St}{e:AX}(h:Leads X nt base s e s1)(hs:Same s1 s2):Leads X nt base s e s2:=by
 intro hb
 obtain⟨b1,g1⟩:=h hb
 refine⟨by rw[<- hs.1];exact b1,fun w I φ a ho ha Q hQ=>g1 w I φ a ho ha Q fun a' w' φ' I' c1 c2 c3 c4=>?_⟩
 obtain⟨h1,h2⟩:=hs.2 w' I' φ' a' c3
 exact hQ a' w' φ' I' c1 c2 h1 ⟨c4.le,c4.Ile,c4.Inew,fun B hB=>c4.mt B ((h2 B).1 hB),c4.ext⟩
theorem RV.snTree{w:World}{I J:Nat->Prop}{φ φ':Phi}{sz b n B o s m:Nat}{mu:Bool}{f:Nat->List AV}{u:Value}(h:RV w I φ (.sn sz b n) u)(hφ:φ b=some (B,o,s))(hb:RB w I φ B o s (.seq mu s m f))(hm:n<=m)
  (hI:∀ B,I B->J B) (hJ:J B):RV w J φ' (.tr sz n f) u:=by
 obtain⟨_,_,a2,a3⟩:=hb
 cases h with
 | sn0 _ _ a=>exact .trn _ _ _
 | sn _ _ _ B' o' cap h' hl hz=>
  rw[hφ]at h';cases h'
  have key:∀ i k c,i<n->(f i)[k]? = some c -> ∃ u,w.cell? ⟨B,o+i*sz+k,none⟩=some u/\u.oneCell'=true/\RV w J Phi.no c u:=by
   intro i k c hi e
   obtain⟨u,g1,g2,g3⟩:=a3 i k c (by omega) e
   exact⟨u,g1,g2,g3.mono (fun B hB=>⟨hI B hB,rfl⟩) (fun _=>Nat.le_refl _) (Phi.le_refl _)⟩
  refine .tr sz n f B o cap (fun i k=>(w.cell? ⟨B,o+i*sz+k,none⟩).getD Go.undef) (fun _=>hJ) hl (fun _=>hz) (fun i hi=>a2 i (by omega)) (fun i k c hi e=>?_) (fun i k c hi e=>?_) (fun i k c hi e=>?_)
  ·obtain⟨u,g1,g2,g3⟩:=key i k c hi e;rw[g1];rfl
  ·obtain⟨u,g1,g2,g3⟩:=key i k c hi e;rw[g1];exact g2
  ·obtain⟨u,g1,g2,g3⟩:=key i k c hi e;rw[g1];exact g3
theorem Contract.close{P:Program}{f:Nat}{args:List AV}{hp rh rh':Heap}{r:AV}(h:Contract P f args hp r rh){b kk sz n s' n' i0:Nat}{m cur:Bool}{F G:Nat->List AV}{pre:List AV}{ks:List Nat}
  (hb:hget rh b=.sqr m sz n F i0 (pre++[.sn s' kk n']) ks cur) (hk:hget rh kk=.seq true s' n' G) (hF:∀ j,j<n->(F j).all refFree=true) (hpre:pre.all refFree=true) (hbk:b ≠ kk) (hn:0<n')
  (hb':hget rh' b=.seq m sz n fun j=>bif Nat.beq j i0 then pre++[.tr s' n' G]else F j) (hk':hget rh' kk=.dead) (ho:∀ c,c ≠ b->c ≠ kk->hget rh' c=hget rh c):Contract P f args hp r rh':=by
 intro w I φ ra hh hx
 refine(h w I φ ra hh hx).mono fun u w' ⟨φ',I',a1,a2,a3⟩=>?_
 obtain⟨Bk,ok,szk,ek,rk⟩:=a2.blkN (b:=kk) (by rw[hk];simp only[phantom];omega) (by rw[hk];rfl)
 have mk:mutable (hget rh kk)=true:=by rw[hk];rfl
 have hmut:∀ c,mutable (hget rh' c)=true->mutable (hget rh c)=true/\c ≠ kk:=by
  intro c hc
  by_cases h1:c=kk
  ·subst h1;rw[hk']at hc;cases hc
  ·by_cases h2:c=b
   ·subst h2;rw[hb']at hc;rw[hb];exact⟨hc,h1⟩
   ·rw[ho c h2 h1]at hc;exact⟨hc,h1⟩
 have hlive:∀ c,live (hget rh' c)=true->live (hget rh c)=true/\c ≠ kk:=by
  intro c hc
  by_cases h1:c=kk
  ·subst h1;rw[hk']at hc;cases hc
  ·by_cases h2:c=b
   ·subst h2;rw[hb];exact⟨rfl,h1⟩
   ·rw[ho c h2 h1]at hc;exact⟨hc,h1⟩
 have hJ:∀ B,I' B->(I' B\/B=Bk):=fun B hB=>.inl hB
 refine⟨φ',fun B=>I' B\/B=Bk,a1.mono (fun B hB=>⟨.inl hB,rfl⟩) (fun _=>Nat.le_refl _) (Phi.le_refl _),⟨fun c e=>?_,fun c hl=>?_,fun c c' B o sz o' sz' m1 m2=>a2.inj c c' B o sz o' sz' (hmut c m1).1 (hmut c' m2).1,fun c B o sz m1 e=>?_,fun c B o sz hl m1 e=>?_,fun B hB=>?_⟩,⟨a3.le,fun B hB=>.inl (a3.Ile B hB),fun B hB=>?_,fun B ⟨c,o,sz,m1,e⟩=>a3.mt B ⟨c,o,sz,(hmut c m1).1,e⟩,a3.ext⟩⟩
 ·by_cases h1:c=kk
  ·subst h1;rw[hk']at e;cases e
  ·by_cases h2:c=b
   ·subst h2;rw[hb']at e;cases e
   ·rw[ho c h2 h1]at e;exact a2.none c e
 ·obtain⟨hl1,hck⟩:=hlive c hl
  by_cases h2:c=b
  ·subst h2
   rcases a2.blk c hl1 with ⟨B,o,sz1,e1,rb⟩ | ⟨_,hp⟩
   ·refine .inl ⟨B,o,sz1,e1,?_⟩
    rw[hb]at rb
    rw[hb']
    obtain⟨g0,g1,g2,g3⟩:=rb
    have g2':∀ j,j<n->(bif Nat.beq j i0 then pre++[AV.tr s' n' G]else F j).length=sz1:=by
     intro j hj
     have:=g2 j hj
     unfold rowX at this
     cases hq:Nat.beq j i0 with
     | true=>rw[hq]at this;simpa using this
     | false=>rw[hq]at this;exact this
    refine⟨g0,g1,g2',fun j k c0 hj e=>?_⟩
    have g3:=fun k c=>g3 j k c hj
    unfold rowX at g3
    cases hq:Nat.beq j i0 with
    | false=>
     rw[hq,cond_false]at g3
     dsimp only at e
     rw[hq,cond_false]at e
     obtain⟨u,u1,u2,u3⟩:=g3 k c0 e
     exact⟨u,u1,u2,(u3.free ((List.all_eq_true.1 (hF j hj)) c0 (List.mem_of_getElem? e))).mono (fun B hB=>⟨.inl hB,rfl⟩) (fun _=>Nat.le_refl _) (Phi.le_refl _)⟩
    | true=>
     rw[hq,cond_true]at g3
     dsimp only at e
     rw[hq,cond_true,List.getElem?_append]at e
     split at e
     ·rename_i hkl
      obtain⟨u,u1,u2,u3⟩:=g3 k c0 (by rw[List.getElem?_append_left hkl];exact e)
      exact⟨u,u1,u2,(u3.free ((List.all_eq_true.1 hpre) c0 (List.mem_of_getElem? e))).mono (fun B hB=>⟨.inl hB,rfl⟩) (fun _=>Nat.le_refl _) (Phi.le_refl _)⟩
     ·rename_i hkl
      have hke:k=pre.length:=by
       rcases Nat.lt_or_ge k (pre.length+1)with h1 | h1
       ·omega
       ·rw[List.getElem?_eq_none (by simp;omega)]at e;cases e
      subst hke
      rw[Nat.sub_self]at e
      cases e
      obtain⟨u,u1,u2,u3⟩:=g3 pre.length (.sn s' kk n') (by simp)
      rw[hk]at rk
      have e9:s'=szk:=rk.1
      subst e9
      exact⟨u,u1,u2,u3.snTree ek rk (Nat.le_refl _) hJ (.inr rfl)⟩
   ·rw[hb]at hp;exact hp.elim
  ·have e0:=ho c h2 hck
   rw[e0]at hl ⊢
   rcases a2.blk c hl with ⟨B,o,sz1,e1,rb⟩ | hp
   ·exact .inl ⟨B,o,sz1,e1,rb.mono (fun B hB=>⟨.inl hB,rfl⟩) (fun _=>Nat.le_refl _) (Phi.le_refl _) rfl⟩
   ·exact .inr hp
 ·obtain⟨m2,hck⟩:=hmut c m1
  rintro(hB | rfl)
  ·exact a2.disj c B o sz m2 e hB
  ·exact hck (a2.inj c kk _ _ _ _ _ m2 mk e ek)
 ·obtain⟨hl1,hck⟩:=hlive c hl
  refine .inl (a2.imm c B o sz hl1 ?_ e)
  by_cases h2:c=b
  ·subst h2;rw[hb']at m1;rw[hb];exact m1
  ·rw[ho c h2 hck]at m1;exact m1
 ·rcases hB with hB | rfl
  ·exact a2.lt B hB
  ·exact rk.lt (by rw[hk];rfl)
 ·rcases hB with hB | rfl
  ·exact a3.Inew B hB
  ·exact(a3.mt _ ⟨kk,ok,szk,mk,ek⟩).elim (fun h=>.inr (.inl h)) (fun h=>.inr (.inr h))
end Go.AM
end
