/- Part 1 of the texts that the proof needs: the abstract machine, plain laws, contracts of the program's functions. No statement is claimed here. -/
import Derived.Below
import Derived.Calls
import Derived.Carry
import Derived.ChangeSame
import Derived.Deep.Slices
import Derived.KernelRfl
import Derived.Laws.Append
import Derived.Laws.Cells
import Derived.Laws.CopyRow
import Derived.Laws.MakeOwn
import Derived.Laws.Strings
import Derived.Laws.StructEq
import Derived.Laws.World
import Derived.Lib.AppendZerosOnto
import Derived.LoopIn
import Derived.LoopNIn
import Derived.MapKept
import Derived.Maps.RangeRun
import Derived.Orders
import Derived.OwnWalkIn
import Derived.RangeFuncBound
import Derived.RangeFuncCalls
import Derived.RangeFuncLeaves
import Derived.RangeFuncNested
import Derived.Scope
import Derived.Shelf.Abstract
import Derived.Shelf.RegionOpenPlain
import Derived.Shelf.Spec.SlicesInsert
import Derived.Tactics
import Derived.TacticsInMore
import Derived.WalkKit
import Derived.WalkLawsBesides
import Derived.WalkSpells
import GoSem.Core.Float
import GoSem.Dispatch
import GoSem.Step
set_option linter.unusedVariables false
set_option linter.unusedSimpArgs false
set_option linter.defProp false
set_option maxRecDepth 100000
set_option maxHeartbeats 1000000
noncomputable section
section
abbrev Ao(n:Int):Int:=Go.IntKind.i64.wrap n
def Ru(n:Int):Ao n=(n+9223372036854775808)%18446744073709551616 - 9223372036854775808:=Go.IntKind.wrap_i64 n
def B3(m:Nat)(h:0<m):∃ k,m=k+1:=⟨m - 1,by omega⟩
def Ae:=@cond_true
def Aj:=@cond_false
def Ar:=@Nat.le_refl
def Ax:=@decide_eq_true
def AN:=@decide_eq_false
def BR:=@List.getElem?_eq_getElem
def BN:=@Nat.eq_of_beq_eq_true
def Cy:=@Array.getElem?_eq_getElem
def BV:=@Int.toNat_natCast
def Ay:=@if_pos
def CK:=@List.getElem?_eq_none
def AE:=@if_neg
def Bu:=@Nat.zero_le
def Co:=@Go.Result.andThen_ok
def CB:=@List.length_append
def Cp:=@List.mem_append
def DY:=@List.getElem?_append_left
def CU:=@Option.some.injEq
def CR:=@List.length_cons
def Dy:=@List.mem_of_getElem?
def Ce:=@Go.Sem.run_bind
def DZ:=@Nat.le_of_ble_eq_true
def Cj:=@Nat.lt_or_ge
def C5:=@Nat.not_lt_zero
def CV:=@Bool.and_true
def FC:=@List.getElem?_append_right
def DO:=@List.mem_singleton
def CI:=@Nat.le_trans
def CS:=@Go.Sem.run_pure
def GO:=@List.getElem?_eq_some_iff
def El:=@of_decide_eq_true
def FD:=@List.length_singleton
def Gj:=@List.drop_eq_nil_of_le
def Dr:=@Bool.not_true
def Dz:=@List.mem_cons
def EO:=@List.getElem?_map
def CW:=@Nat.blt_eq
def DP:=@Nat.lt_irrefl
def Cv:=@Prod.ext
def Gk:=@of_decide_eq_false
def EP:=@Bool.not_false
def HV:=@Array.getElem?_toList
def He:=@Nat.lt_of_lt_of_le
def Ev:=@Nat.zero_add
def FX:=@Option.map_some
def FY:=@List.append_nil
def JB:=@Array.getElem?_eq_none
def Gz:=@List.mem_filter
def JC:=@List.mem_cons_of_mem
def JD:=@List.mem_append_left
def HA:=@List.all_eq_true
def FZ:=@Prod.mk.injEq
def NM:=@Array.getD_eq_getD_getElem?
def I8:=@Bool.false_eq_true
def KS:=@List.length_filter_le
def Hf:=@List.drop_zero
def KU:=@Nat.mul_le_mul_right
def JE:=@List.append_assoc
def F0:=@Nat.add_mul
def KV:=@List.getElem?_take
def LH:=@Go.KeepsOthers.setCell
def Mw:=@Bool.or_eq_false_iff
def LJ:=@Nat.eq_zero_or_pos
def TC:=@Array.eq_empty_of_size_eq_zero
def Mx:=@List.getElem?_range
def NN:=@List.getElem?_of_mem
def LK:=@Option.getD_some
def Iy:=@Nat.add_zero
def My:=@Bool.and_eq_true
def Qd:=@List.mem_of_mem_drop
def JF:=@Nat.zero_mul
def Vm:=@Array.getElem?_eq_some_iff
def TF:=@List.getElem?_cons_zero
def R1:=@List.pairwise_append
def Qe:=@List.getElem?_drop
def Qf:=@Array.getElem?_map
def TG:=@List.take_of_length_le
def JG:=@Int.le_refl
def NO:=@List.nil_append
def OJ:=@List.filter_cons
def R2:=@List.getElem_of_mem
def Qg:=@Nat.lt_trichotomy
def Qh:=@List.take_add_one
def bg:=@Array.getElem?_setIfInBounds_ne
def Hg:=@if_false
def Vn:=@List.getElem?_cons_succ
def R3:=@List.mem_cons_self
def OK:=@List.length_map
def R4:=@List.pairwise_cons
def LN:=@Nat.sub_self
def XX:=@List.pairwise_iff_getElem
def XY:=@List.mem_of_find?_eq_some
def NP:=@List.map_cons
def Mz:=@List.mem_map
def Vo:=@List.mem_append_right
def JH:=@Go.cell_kept
def Vp:=@List.getElem?_append
def R5:=@List.getElem_mem
def oz:=@Array.getElem?_setIfInBounds_self_of_lt
def Vq:=@Array.getElem?_push
def RF:=@List.foldl_cons
def Xz:=@List.take_append_drop
def RG:=@Nat.mul_le_mul
def aq:=@List.length_eq_zero_iff
def gi:=@Nat.mul_lt_mul_of_pos_right
def IW:=@if_true
def PS:=@Nat.sub_zero
def U7:=@Option.bind_some
def XA:=@Array.ext_getElem?
def ar:=@Array.getElem?_modify
def au:=@Array.getElem?_append
def XB:=@List.filter_append
def aw:=@List.length_replicate
def ax:=@Classical.choose_spec
def ay:=@Nat.ble_eq_true_of_le
def gj:=@Array.mapM_eq_mapM_toList
def U8:=@List.length_nil
def az:=@List.mem_of_mem_take
def Tj:=@Bool.true_and
def aA:=@List.filter_sublist
def XC:=@List.length_drop
def XD:=@List.length_set
def Nz:=@Go.wp_block
def gl:=@Go.IntKind.wrap_i64
namespace Go.AM
section
inductive AV where
 | undef
 | bool (b:Bool)
 | int (k:IntKind) (n:Int)
 | DR (k:FloatKind) (n:Nat)
 | Al (k:FloatKind) (re im:Nat)
 | str (s:List UInt8)
 | HB
 | ptr (b i j:Nat)
 | tp (cs:List AV) (j:Nat)
 | Ak
 | sl (sz b off len cm:Nat)
 | tr (sz n:Nat) (f:Nat->List AV)
 | A9 (sz:Nat) (es:List (List AV))
 | agg (cs:List AV)
 | Am (vs:List AV)
 | fn (f:Fn) (first cap:List AV)
 | I9
 | HC
 | mp (b:Nat)
 | sn (sz b n:Nat)
 | tn (sz n:Nat) (f:Nat->List AV)
 | hd (a:Option Addr) (n c:Nat)
 | mk (k m:Nat) (v:AV)
instance:Inhabited AV:=⟨.undef⟩
inductive BS where
 | none
 | dead
 | arr (m:Bool) (sz:Nat) (es:List (List AV))
 | seq (m:Bool) (sz n:Nat) (f:Nat->List AV)
 | map (m:Bool) (es:List (AV × AV))
 | iter (m:Bool) (es:List (AV × AV)) (st:Bool)
 | Cb (m:Bool) (sz n:Nat) (f:Nat->List AV) (i0:Nat) (c0:List AV) (ks:List Nat) (cur:Bool)
 | pmap (m:Bool) (ks:List (List UInt8)) (val:List UInt8->AV)
 | Fz (m:Bool) (ks:List (List UInt8)) (val:List UInt8->AV) (rem:List (List UInt8)) (cur:Option (List UInt8))
instance:Inhabited BS:=⟨.none⟩
def DF(f:Nat->List AV)(i0:Nat)(c0:List AV):Nat->List AV:=λi=>bif Nat.beq i i0 then c0 else f i
def AV.cells:AV->List AV
 | .agg cs=>cs
 | v=>[v]
def AV.storable:AV->Bool
 | .undef | .Am _=>false
 | _=>true
def AV.single:AV->Bool
 | .undef | .Am _ | .agg _=>false
 | _=>true
def nk:Value->AV
 | .bool b=>.bool b
 | .int k n=>.int k n
 | .float k n=>.DR k n
 | .complex k a b=>.Al k a b
 | .string s=>.str s.data.toList
 | .pointer .none=>.HB
 | .slice .none 0 0=>.Ak
 | .map .none=>.HC
 | .nilFunc=>.I9
 | _=>.undef
def ym:Value->Bool
 | .agg _ | .tuple _=>false
 | _=>true
def Ls:Value->AV
 | .agg cs=>bif cs.toList.all ym then .agg (cs.toList.map nk)else .undef
 | v=>nk v
structure TI where
 size:Nat
 bytes:Nat
 agg:Bool
 desc:TypeDesc
 zero:Option (List AV)
 xg:Bool
 zv:Option AV
def GA(P:Program)(t:TypeId):Option TI:=
 match P.info? t,P.underlying t with
 | some i,some d=>some {size:=i.size,bytes:=i.bytes,agg:=(match d with | .struct _ | .array _ _=>true | _=>false),desc:=d,zero:=i.zero.bind λv=>bif(Ls v).storable then some (Ls v).cells else .none,xg:=P.stoodInHeld t,zv:=i.zero.bind λv=>bif(Ls v).storable then some (Ls v)else .none}
 | _,_=>.none
abbrev TT:=Nat->Option TI
abbrev Heap:=List BS
def Ab(h:Heap)(b:Nat):BS:=h.getD b .none
def Fm:Heap->Nat->BS->Heap
 | [],0,x=>[x]
 | [],b+1,x=>.none::Fm [] b x
 | _::h,0,x=>x::h
 | y::h,b+1,x=>y::Fm h b x
abbrev Wr:=List (Nat × BS)
def RI(h:Heap):Wr->Heap
 | []=>h
 | (b,x)::r=>RI (Fm h b x) r
abbrev Fr:=List (Nat × AV)
def Bb:Fr->Nat->AV
 | [],_=>.undef
 | (k,v)::r,t=>bif Nat.beq k t then v else Bb r t
structure St where
 fr:Fr
 hp:Heap
def KK(fr:Nat->AV):Operand->AV
 | .tmp t=>fr t
 | .const v=>Ls v
 | .global _=>.undef
 | .func f=>.fn (.func f) [] []
variable {R:Type}
def Tk(x:BS)(i:Nat)(k:List AV->Option R):Option R:=
 match x with
 | .arr _ _ es=>match es[i]? with
  | some c=>k c
  | .none=>.none
 | .seq _ _ n f=>bif Nat.blt i n then k (f i)else .none
 | .Cb _ _ n f i0 c0 _ true=>bif Nat.blt i n&&Nat.beq i i0 then k c0 else .none
 | .Cb _ _ n f i0 c0 _ false=>bif Nat.blt i n && !Nat.beq i i0 then k (f i)else .none
 | _=>.none
def setAt(cs:List AV)(j:Nat)(vs:List AV):List AV:=cs.take j++(vs++cs.drop (j+vs.length))
def Ed:AV->Bool
 | .ptr .. | .sl .. | .mp _ | .agg _ | .Am _ | .fn .. | .sn .. => false
 | _=>true
def abZ:AV->Bool
 | .agg cs=>cs.all Ed
 | v=>Ed v
inductive View where
 | list (es:List (List AV))
 | fn (n:Nat) (f:Nat->List AV)
def View.len:View->Nat
 | .list es=>es.length
 | .fn n _=>n
def View.at:View->Nat->List AV
 | .list es=>λi=>es.getD i []
 | .fn _ f=>f
def AV.Oz(h:Nat->BS)(sz:Nat):AV->Option (View × Bool)
 | .Ak=>some (.list [],true)
 | .A9 s es=>some (.list es,Nat.beq s sz)
 | .tr s n f=>some (.fn n f,Nat.beq s sz)
 | .sl s b off len _=>match h b with
  | .arr _ _ es=>some (.list ((es.drop off).take len),Nat.beq s sz&&(Nat.beq len 0||Nat.ble (len+off) es.length))
  | .seq _ _ n f=>some (.fn len (λi=>f (i+off)),Nat.beq s sz&&(Nat.beq len 0||Nat.ble (len+off) n))
  | _=>some (.list [],Nat.beq s sz&&Nat.beq len 0)
 | .str s=>some (.fn s.length (λi=>[.int .u8 ((s.getD i 0).toNat)]),Nat.beq sz 1)
 | .tn s n f=>some (.fn n f,Nat.beq s sz)
 | .sn s b n=>match h b with
  | .seq _ _ n' f=>some (.fn n f,Nat.beq s sz&&Nat.ble n n')
  | .none=>some (.fn 0 (λ_=>[]),Nat.beq s sz&&Nat.beq n 0)
  | _=>.none
 | _=>.none
def AV.view(h:Nat->BS)(sz:Nat)(v:AV):Option View:=
 match v.Oz h sz with
 | some (w,true)=>some w
 | _=>.none
def aB{R:Type}(v:AV)(h:Nat->BS)(sz:Nat)(k:View->Option R):Option R:=
 match v.Oz h sz with
 | some (w,g)=>bif g then k w else .none
 | .none=>.none
def AV.Fx:AV->List Nat
 | .sl _ b _ _ _=>[b]
 | .sn _ b _=>[b]
 | _=>[]
def CG:View->View->View
 | .list a,.list b=>.list (a++b)
 | .list [],.fn n f=>.fn n f
 | x,y=>.fn (x.len+y.len) λi=>bif Nat.blt i x.len then x.at i else bif Nat.blt i (x.len+y.len)then y.at (i - x.len)else x.at x.len
def IY:View->Bool
 | .list es=>es.all λcs=>cs.all Ed
 | .fn _ _=>true
def CY(sz:Nat):View->BS
 | .list es=>.arr true sz es
 | .fn n f=>.seq true sz n f
mutual
def roots:AV->List Nat
 | .ptr b _ _=>[b]
 | .sl _ b _ _ _=>[b]
 | .sn _ b _=>[b]
 | .mp b=>[b]
 | .agg cs | .Am cs=>Hb cs
 | .fn _ a c=>Hb a++Hb c
 | _=>[]
def Hb:List AV->List Nat
 | []=>[]
 | v::r=>roots v++Hb r
end
def Xq(x:Option AV)(d y:Nat)(k:Nat->Option R):Option R:=
 match x with
 | .none=>k d
 | some (.int _ i)=>bif decide (0<=i)&&decide (i<=(y:Int))then k i.toNat else .none
 | _=>.none
def Ro(lo hi mx:Option AV)(len cap:Nat)(k:Nat->Nat->Nat->Option R):Option R:=
 Xq mx cap cap λm=>Xq hi len m λh=>Xq lo 0 h λl=>k l h m
def oA(op:BinOp)(x y:Int):Option Bool:=
 match op with
 | .eql=>some (decide (x=y))
 | .neq=>some (!decide (x=y))
 | .lss=>some (decide (x<y))
 | .leq=>some (decide (x<=y))
 | .gtr=>some (decide (y<x))
 | .geq=>some (decide (y<=x))
 | _=>.none
def pC(o:Option Ordering)(p:Ordering):Bool:=
 match o,p with
 | some .lt,.lt | some .eq,.eq | some .gt,.gt=>true
 | _,_=>false
def Db(k:FloatKind)(x y:Nat):Bool:=pC (k.format.order x y) .eq
def ID(k:FloatKind)(x y:Nat):Bool:=pC (k.format.order x y) .lt
def Sn(k:FloatKind)(x y:Nat):Bool:=pC (k.format.order x y) .gt
def oB(op:BinOp)(k:FloatKind)(x y:Nat):Option Bool:=
 match op with
 | .eql=>some (Db k x y)
 | .neq=>some (!Db k x y)
 | .lss=>some (ID k x y)
 | .leq=>some (ID k x y||Db k x y)
 | .gtr=>some (Sn k x y)
 | .geq=>some (Sn k x y||Db k x y)
 | _=>.none
def A5:List UInt8->List UInt8->Bool
 | [],[]=>true
 | a::x,b::y=>Nat.beq a.toNat b.toNat&&A5 x y
 | _,_=>false
def strLt:List UInt8->List UInt8->Bool
 | _,[]=>false
 | [],_::_=>true
 | a::x,b::y=>Nat.blt a.toNat b.toNat||(Nat.beq a.toNat b.toNat&&strLt x y)
def oC(op:BinOp)(x y:List UInt8):Option Bool:=
 match op with
 | .eql=>some (A5 x y)
 | .neq=>some (!A5 x y)
 | .lss=>some (strLt x y)
 | .leq=>some (strLt x y||A5 x y)
 | .gtr=>some (!(strLt x y||A5 x y))
 | .geq=>some (!strLt x y)
 | _=>.none
def v8(a b:Bool):Bool:=bif a then b else !b
def nm(a b:IntKind):Bool:=decide (a=b)
def UT(a b:FloatKind):Bool:=decide (a=b)
def Qy(tt:TT)(t:TypeId)(x y:AV):Option Bool:=
 match tt t with
 | .none=>.none
 | some ti=>match ti.desc,x,y with
  | .bool,.bool a,.bool b=>some (v8 a b)
  | .int _,.int k a,.int k' b=>bif nm k k' then some (decide (a=b))else .none
  | .float _,.DR k a,.DR k' b=>bif UT k k' then some (Db k a b)else .none
  | .complex _,.Al k a b,.Al k' a' b'=>bif UT k k' then some (Db k a a'&&Db k b b')else .none
  | .string,.str a,.str b=>some (A5 a b)
  | .pointer _,.HB,.HB=>some true
  | .pointer _,.HB,.ptr .. | .pointer _,.ptr ..,.HB=>some false
  | .pointer _,.HB,.tp .. | .pointer _,.tp ..,.HB=>some false
  | .slice _,.Ak,.Ak=>some true
  | .slice _,.Ak,.A9 _ _ | .slice _,.A9 _ _,.Ak=>some false
  | .slice _,.tr _ (_+1) _,.Ak | .slice _,.sl _ _ _ _ _,.Ak=>some false
  | .map _ _,.HC,.HC=>some true
  | .map _ _,.mp _,.HC=>some false
  | .func ..,.I9,.I9=>some true
  | .func ..,.fn ..,.I9=>some false
  | _,_,_=>.none
def eqFields(tt:TT)(xs ys:List AV):List Field->Option Bool
 | []=>some true
 | f::r=>
  match xs[f.offset]?,ys[f.offset]? with
  | some x,some y=>match wa tt f.type x y,eqFields tt xs ys r with
   | some a,some b=>some (a&&b)
   | _,_=>.none
  | _,_=>.none
where
 wa (tt:TT) (t:TypeId) (x y:AV):Option Bool:=
  match tt t with
  | some ti=>bif ti.agg then .none else Qy tt t x y
  | .none=>.none
def VW(tt:TT)(t:TypeId)(x y:AV):Option Bool:=
 match x,y with
 | .agg xs,.agg ys=>match tt t with
  | some ti=>match ti.desc with
   | .struct fields => bif ti.xg then .none else bif fields.toList.all (λf => f.name != "_") then eqFields tt xs ys fields.toList else .none
   | _=>.none
  | .none=>.none
 | x,y=>Qy tt t x y
def bX(b:Option Bool)(k:AV->Option R):Option R:=
 match b with
 | some b=>k (.bool b)
 | .none=>.none
def CC{α:Type}(b:Option α)(k:α->Option R):Option R:=
 match b with
 | some b=>k b
 | .none=>.none
def OY{α:Type}(b:Option α)(z:α)(k:α->Option R):Option R:=bif b.isSome then k (b.getD z)else .none
def afE(tt:TT)(op:BinOp)(t:TypeId)(x y:AV)(k:AV->Option R):Option R:=
 match x,y with
 | .int kd a,.int K9 b=>
  match op with
  | .shl=>bif decide (b<0)then .none else k (.int kd (kd.wrap (a*2 ^ (min b.toNat kd.bits))))
  | .shr=>bif decide (b<0)then .none else k (.int kd (a.fdiv (2 ^ (min b.toNat kd.bits))))
  | op=>
   bif nm kd K9 then
    match op with
    | .add=>k (.int kd (kd.wrap (a+b)))
    | .sub=>k (.int kd (kd.wrap (a - b)))
    | .mul=>k (.int kd (kd.wrap (a*b)))
    | .quo=>bif decide (b=0)then .none else k (.int kd (kd.wrap (a.tdiv b)))
    | .rem=>bif decide (b=0)then .none else k (.int kd (a.tmod b))
    | .and=>k (.int kd (kd.wrap ((BitVec.ofInt kd.bits a &&& BitVec.ofInt kd.bits b).toNat)))
    | .or=>k (.int kd (kd.wrap ((BitVec.ofInt kd.bits a ||| BitVec.ofInt kd.bits b).toNat)))
    | .xor=>k (.int kd (kd.wrap ((BitVec.ofInt kd.bits a ^^^ BitVec.ofInt kd.bits b).toNat)))
    | .andNot=>k (.int kd (kd.wrap ((BitVec.ofInt kd.bits a &&& ~~~ BitVec.ofInt kd.bits b).toNat)))
    | _=>bX (oA op a b) k
   else .none
 | .DR kd a,.DR K9 b=>
  bif UT kd K9 then
   match op with
   | .add=>OY (kd.format.add a b) 0 λr=>k (.DR kd r)
   | .sub=>OY (kd.format.sub a b) 0 λr=>k (.DR kd r)
   | .mul=>OY (kd.format.mul a b) 0 λr=>k (.DR kd r)
   | .quo=>OY (kd.format.div a b) 0 λr=>k (.DR kd r)
   | _=>bX (oB op kd a b) k
  else .none
 | .Al kd a b,.Al K9 c d=>
  bif UT kd K9 then
   match op with
   | .eql=>k (.bool (Db kd a c&&Db kd b d))
   | .neq=>k (.bool (!(Db kd a c&&Db kd b d)))
   | _=>.none
  else .none
 | .str a,.str b=>
  match op with
  | .add=>bif Nat.ble (a.length+b.length) 4611686018427387904 then k (.str (a++b))else .none
  | _=>bX (oC op a b) k
 | x,y=>
  match op with
  | .eql=>bX (VW tt t x y) k
  | .neq=>bX ((VW tt t x y).map not) k
  | _=>.none
def ahC(op:UnOp)(x:AV)(k:AV->Option R):Option R:=
 match op,x with
 | .neg,.int kd n=>k (.int kd (kd.wrap (0 - n)))
 | .xor,.int kd n=>k (.int kd (kd.wrap ((BitVec.ofInt kd.bits n ^^^ BitVec.ofInt kd.bits (if kd.signed then -1 else kd.max)).toNat)))
 | .not,.bool b=>k (.bool (!b))
 | _,_=>.none
def U9(place:Nat->Option (Nat × Nat))(cells:List AV):List (Nat × AV)->Option (List AV)
 | []=>some cells
 | (i,v)::rest=>
  match place i with
  | .none=>.none
  | some (off,size)=>
   bif v.storable&&(Nat.beq v.cells.length size&&Nat.ble (off+size) cells.length)then U9 place (setAt cells off v.cells) rest else .none
def chunks(sz:Nat):Nat->List AV->List (List AV)
 | 0,_=>[]
 | n+1,cs=>cs.take sz::chunks sz n (cs.drop sz)
def Tl(z:List AV)(n:Nat):List AV:=(List.range (n*z.length)).map λi=>z.getD (i % z.length) .undef
def byteOf:List AV->Option UInt8
 | [.int .u8 n]=>some (UInt8.ofNat n.toNat)
 | _=>.none
def fb:List (List AV)->Option (List UInt8)
 | []=>some []
 | c::r=>match byteOf c,fb r with
  | some b,some l=>some (b::l)
  | _,_=>.none
def BQ(n:Nat)(f:Nat->List AV)(new:View):Nat->List AV:=λi=>bif Nat.blt i n then f i else bif Nat.blt i (n+new.len)then new.at (i - n)else f n
abbrev KW(R:Type):=AV->Wr->List Nat->Option R
def OA(ti:TI)(cs:List AV)(j:Nat)(k:AV->Option R):Option R:=
 bif ti.agg then(bif Nat.ble (j+ti.size) cs.length then k (.agg ((cs.drop j).take ti.size))else .none)
 else match cs[j]? with
  | some c=>k c
  | .none=>.none
def same(a b:AV):Option Bool:=
 match a,b with
 | .int k a,.int k' b=>bif nm k k' then some (decide (a=b))else .none
 | .str a,.str b=>some (A5 a b)
 | _,_=>.none
def look(key:AV):List (AV × AV)->Option (Option AV)
 | []=>some .none
 | (a,v)::r=>match same key a with
  | some true=>some (some v)
  | some false=>look key r
  | .none=>.none
def bY(key v:AV):List (AV × AV)->List (AV × AV)
 | []=>[]
 | (a,u)::r=>match same key a with
  | some true=>(a,v)::r
  | _=>(a,u)::bY key v r
def Ck(s:List UInt8):List (List UInt8)->Bool
 | []=>false
 | x::r=>bif A5 s x then true else Ck s r
def Ns(d:TypeDesc)(key:AV):Bool:=
 match d,key with
 | .int _,.int .. | .string,.str _=>true
 | _,_=>false
def sV(tt:TT)(fields:List Field)(i:Nat):Option (Nat × Nat):=
 match fields[i]? with
 | some f=>match tt f.type with
  | some ti=>some (f.offset,ti.size)
  | .none=>.none
 | .none=>.none
def bZ:Nat:=1000000007
def Kc(len:Nat):Nat->Nat
 | 0=>len
 | c+1=>max len (c+1)
def UU(mx:Bool)(cm d:Nat):Nat:=
 match mx,cm with
 | false,0=>0
 | _,_=>d
def roomFor(n:Nat):Nat->Bool
 | 0=>false
 | c+1=>Nat.ble n (c+1)
def U4(v:View):Nat:=
 match v with
 | .list es=>es.length
 | .fn _ _=>0
def CT(tt:TT)(ρ:Operand->AV)(h:Nat->BS)(nx:Nat)(o:Op)(k:KW R):Option R:=
 match o with
 | .move x | .assign x=>k (ρ x) [] []
 | .pick c a b=>match ρ c with
  | .bool c=>bif c then k (ρ a) [] []else k (ρ b) [] []
  | _=>.none
 | .alloc t=>CC (tt t) λti=>CC ti.zero λz=>k (.ptr nx 0 0) [(nx,.arr true z.length [z])] []
 | .box _ x=>bif(ρ x).storable then k (.ptr nx 0 0) [(nx,.arr true (ρ x).cells.length [(ρ x).cells])] []else .none
 | .build t parts=>
  CC (tt t) λti=>CC ti.zero λz=>
   match ti.desc with
   | .struct fields=>bif fields.toList.all (λf=>(tt f.type).isSome)then
     CC (U9 (sV tt fields.toList) z (parts.toList.map λ(i,x)=>(i,ρ x))) λcs=>k (.agg cs) [] []
    else .none
   | .array _ e=>CC (tt e) λte=>
     CC (U9 (λi=>some (i*te.size,te.size)) z (parts.toList.map λ(i,x)=>(i,ρ x))) λcs=>k (.agg cs) [] []
   | _=>.none
 | .buildSlice t n parts=>
  CC (tt t) λti=>match ti.desc with
  | .slice e=>CC (tt e) λte=>CC te.zero λz=>
   bif Nat.beq z.length te.size&&(Nat.ble 1 te.size&&Nat.ble (n*te.size) 16777216)then
    CC (U9 (λi=>some (i*te.size,te.size)) (Tl z n) (parts.toList.map λ(i,x)=>(i,ρ x))) λcs=>
     k (.sl te.size nx 0 n n) [(nx,.arr true te.size (chunks te.size n cs))] []
   else .none
  | _=>.none
 | .load t a=>
  CC (tt t) λti=>
   match ρ a with
   | .ptr b i j=>Tk (h b) i λcs=>OA ti cs j λv=>k v [] [b]
   | .tp cs j=>OA ti cs j λv=>k v [] []
   | _=>.none
 | .store t a x=>
  CC (tt t) λti=>
   bif(ρ x).storable&&(Nat.beq (ρ x).cells.length ti.size&&Nat.ble 1 ti.size)then
    match ρ a with
    | .ptr b i j=>match h b with
     | .arr true sz es=>match es[i]? with
      | some cs=>bif Nat.ble (j+ti.size) cs.length then
        k .undef [(b,.arr true sz (es.set i (setAt cs j (ρ x).cells)))] [b]else .none
      | .none=>.none
     | .seq true sz n f=>
      bif Nat.blt i n&&Nat.ble (j+ti.size) (f i).length then
       bif(ρ x).cells.all Ed then k .undef [(b,.seq true sz n λi'=>bif Nat.beq i' i then setAt (f i) j (ρ x).cells else f i')] [b]
       else k .undef [(b,.Cb true sz n f i (setAt (f i) j (ρ x).cells) (Hb (ρ x).cells) true)] [b]
      else .none
     | .Cb true sz n f i0 c0 ks true=>
      bif Nat.blt i n&&Nat.beq i i0 then
       bif Nat.ble (j+ti.size) c0.length then k .undef [(b,.Cb true sz n f i0 (setAt c0 j (ρ x).cells) (ks++Hb (ρ x).cells) true)] [b]else .none
      else .none
     | .Cb true sz n f i0 c0 ks false=>
      bif Nat.blt i n && !Nat.beq i i0 then
       bif Nat.ble (j+ti.size) (f i).length then k .undef [(b,.Cb true sz n (λi'=>bif Nat.beq i' i then setAt (f i) j (ρ x).cells else f i') i0 c0 (ks++Hb (ρ x).cells) false)] [b]else .none
      else .none
     | _=>.none
    | _=>.none
   else .none
 | .nilCheck x=>match ρ x with
  | .ptr b i j=>k (.ptr b i j) [] []
  | .tp cs j=>k (.tp cs j) [] []
  | .fn (.func f) a c=>k (.fn (.func f) a c) [] []
  | _=>.none
 | .binOp op t x y _=>afE tt op t (ρ x) (ρ y) λv=>k v [] []
 | .unOp op _ x=>ahC op (ρ x) λv=>k v [] []
 | .convert src dst x=>
  CC (tt src) λts=>CC (tt dst) λtd=>
  match td.desc,ρ x with
  | .int kd,.int _ n=>k (.int kd (kd.wrap n)) [] []
  | .float kd,.int _ n=>k (.DR kd (kd.nearest n)) [] []
  | .int kd,.DR s b=>OY ((s.decode b).toInt .zero) 0 λn=>bif decide (kd.min<=n)&&decide (n<=kd.max)then k (.int kd n) [] []else .none
  | .complex kd,.Al s a b=>bif UT kd s then k (.Al kd a b) [] []else .none
  | .string,.str s=>k (.str s) [] []
  | .slice _,.str _=>.none
  | .string,v=>
   match ts.desc with
   | .slice e=>CC (tt e) λte=>match te.desc with
    | .int .u8=>match v with
     | .str _=>.none
     | v=>aB v h 1 λw=>match w with
      | .list es=>CC (fb es) λl=>k (.str l) [] v.Fx
      | .fn n f=>CC (fb ((List.range n).map f)) λl=>k (.str l) [] v.Fx
    | _=>.none
   | _=>.none
  | _,_=>.none
 | .makeFunc fn first cap=>k (.fn fn (first.toList.map ρ) (cap.toList.map ρ)) [] []
 | .makeMap t r=>match r with
  | .none=>k (.mp nx) [(nx,.map true [])] []
  | some r=>CC (tt t) λti=>match ti.desc,ρ r with
   | .map _ _,.int _ _=>k (.mp nx) [(nx,.map true [])] []
   | _,_=>.none
 | .makeSlice t l c=>
  CC (tt t) λti=>match ti.desc,ρ l,ρ c with
  | .slice e,.int _ l,.int _ c=>CC (tt e) λte=>CC te.zero λz=>
   bif Nat.beq z.length te.size&&(Nat.ble 1 te.size&&Nat.ble te.bytes 65536)&&(decide (0<=l)&&(decide (l<=c)&&decide (c<=1048576)))then
    k (.sl te.size nx 0 l.toNat l.toNat) [(nx,.arr true te.size (List.replicate l.toNat z))] []
   else .none
  | _,_,_=>.none
 | .slice t x lo hi mx=>
  bif mx.isSome&&hi.isNone then .none else
  CC (tt t) λti=>match ti.desc,ρ x with
  | .string,.str s=>match mx with
   | .none=>Ro (lo.map ρ) (hi.map ρ) .none s.length s.length λl h _=>k (.str ((s.drop l).take (h - l))) [] []
   | _=>.none
  | .slice e,x=>CC (tt e) λte=>match x with
   | .sl sz b off len cm=>bif Nat.beq sz te.size then
     Ro (lo.map ρ) (hi.map ρ) (mx.map ρ) len (Kc len cm) λl h m=>k (.sl sz b (off+l) (h - l) (UU mx.isSome cm (m - l))) [] []else .none
   | .A9 sz es=>bif Nat.beq sz te.size then
     Ro (lo.map ρ) (hi.map ρ) (mx.map ρ) es.length es.length λl h m=>match mx with
      | .none=>k (.A9 sz ((es.drop l).take (h - l))) [] []
      | _=>bif Nat.beq m 0 then k (.sl sz bZ 0 0 0) [] []else .none
     else .none
   | .tr sz n f=>bif Nat.beq sz te.size then
     Ro (lo.map ρ) (hi.map ρ) (mx.map ρ) n n λl h m=>match mx with
      | .none=>k (.tr sz (h - l) λi=>bif Nat.blt i (h - l)then f (l+i)else f n) [] []
      | _=>bif Nat.blt 0 n&&Nat.beq m 0 then k (.sl sz bZ 0 0 0) [] []else .none
     else .none
   | .tn sz n f=>bif Nat.beq sz te.size then
     Ro (lo.map ρ) (hi.map ρ) (mx.map ρ) n n λl h m=>match mx with
      | .none=>k (.tn sz (h - l) λi=>bif Nat.blt i (h - l)then f (l+i)else f n) [] []
      | _=>bif Nat.beq m 0 then k (.sn sz bZ 0) [] []else .none
     else .none
   | .sn sz b n=>bif Nat.beq sz te.size then
     match lo,mx with
     | .none,.none=>Ro .none (hi.map ρ) .none n n λl h _=>bif Nat.beq l 0 then k (.sn sz b h) [] []else .none
     | _,_=>Ro (lo.map ρ) (hi.map ρ) (mx.map ρ) n n λl h m=>bif Nat.blt 0 n then k (.sl sz b l (h - l) (m - l)) [] []else .none
     else .none
   | .Ak=>Ro (lo.map ρ) (hi.map ρ) (mx.map ρ) 0 0 λ_ _ _=>k .Ak [] []
   | _=>.none
  | _,_=>.none
 | .fieldAddr t x f=>
  CC (tt t) λti=>match ti.desc with
  | .struct fields=>CC (fields.toList[f]?) λfd=>CC (tt fd.type) λtf=>
   bif Nat.beq tf.size 0 then .none else
   match ρ x with
   | .ptr b i j=>k (.ptr b i (j+fd.offset)) [] []
   | .tp cs j=>k (.tp cs (j+fd.offset)) [] []
   | _=>.none
  | _=>.none
 | .field t x f=>
  CC (tt t) λti=>match ti.desc,ρ x with
  | .struct fields,.agg cs=>CC (fields.toList[f]?) λfd=>CC (tt fd.type) λtf=>OA tf cs fd.offset λv=>k v [] []
  | _,_=>.none
 | .indexAddr t x ix=>
  CC (tt t) λti=>match ρ ix with
  | .int _ i=>match ti.desc with
   | .array n e=>CC (tt e) λte=>
    bif decide (0<=i)&&decide (i<(n:Int))then
     match ρ x with
     | .ptr b i' j=>k (.ptr b i' (j+i.toNat*te.size)) [] []
     | .tp cs j=>k (.tp cs (j+i.toNat*te.size)) [] []
     | _=>.none
    else .none
   | .slice e=>CC (tt e) λte=>match ρ x with
    | .sl sz b off len _=>bif Nat.beq sz te.size&&(decide (0<=i)&&decide (i<(len:Int)))then k (.ptr b (off+i.toNat) 0) [] []else .none
    | .A9 sz es=>bif Nat.beq sz te.size&&decide (0<=i)then(match es[i.toNat]? with
      | some cs=>k (.tp cs 0) [] []
      | .none=>.none)else .none
    | .tr sz n f=>bif Nat.beq sz te.size&&(decide (0<=i)&&decide (i<(n:Int)))then k (.tp (f i.toNat) 0) [] []else .none
    | .tn sz n f=>bif Nat.beq sz te.size&&(decide (0<=i)&&decide (i<(n:Int)))then k (.tp (f i.toNat) 0) [] []else .none
    | .sn sz b n=>bif Nat.beq sz te.size&&(decide (0<=i)&&decide (i<(n:Int)))then k (.ptr b i.toNat 0) [] []else .none
    | _=>.none
   | _=>.none
  | _=>.none
 | .index t x ix=>
  CC (tt t) λti=>match ρ ix with
  | .int _ i=>match ti.desc,ρ x with
   | .string,.str s=>bif decide (0<=i)&&decide (i<(s.length:Int))then k (.int .u8 (s.getD i.toNat 0).toNat) [] []else .none
   | .array n e,.agg cs=>CC (tt e) λte=>
     bif decide (0<=i)&&decide (i<(n:Int))then OA te cs (i.toNat*te.size) λv=>k v [] []else .none
   | _,_=>.none
  | _=>.none
 | .extract t i=>match ρ t with
  | .Am vs=>CC (vs[i]?) λv=>k v [] []
  | _=>.none
 | .insert t m key v | .mapUpdate t m key v=>
  CC (tt t) λti=>match ti.desc,ρ m with
  | .map kt _,.mp b=>CC (tt kt) λtk=>match h b with
   | .map true es=>bif Ns tk.desc (ρ key)&&(ρ v).storable then CC (look (ρ key) es) fun
     | some _=>k .undef [(b,.map true (bY (ρ key) (ρ v) es))] [b]
     | .none=>k .undef [(b,.map true (es++[(ρ key,ρ v)]))] [b]
    else .none
   | .pmap true ks val=>match ρ key with
    | .str s=>bif Ns tk.desc (.str s)&&((ρ v).storable&&Ed (ρ v))then
      k .undef [(b,.pmap true (bif Ck s ks then ks else ks++[s]) (λx=>bif A5 x s then ρ v else val x))] [b]else .none
    | _=>.none
   | _=>.none
  | _,_=>.none
 | .lookup t m key ok=>
  CC (tt t) λti=>match ti.desc with
  | .map kt e=>CC (tt kt) λtk=>CC (tt e) λte=>CC te.zv λzv=>
   bif Ns tk.desc (ρ key)then
    let fin (v:AV) (b':Bool) (rd:List Nat):Option R:=bif ok then k (.Am [v,.bool b']) [] rd else k v [] rd
    match ρ m with
    | .mp b=>match h b with
     | .map _ es=>CC (look (ρ key) es) fun
      | some v=>fin v true [b]
      | .none=>fin zv false [b]
     | .pmap _ ks val=>match ρ key with
      | .str s=>bif Ck s ks then fin (val s) true [b]else fin zv false [b]
      | _=>.none
     | _=>.none
    | .HC=>fin zv false []
    | _=>.none
   else .none
  | _=>.none
 | .range t x=>
  CC (tt t) λti=>match ti.desc,ρ x with
  | .map _ _,.mp b=>match h b with
   | .map _ es=>bif Nat.ble es.length 1&&es.all (λp=>Ed p.1&&Ed p.2)then
     k (.ptr nx 0 0) [(b,.map false es),(nx,.iter true es false)] [b]else .none
   | .pmap _ ks val=>k (.ptr nx 0 0) [(b,.pmap false ks val),(nx,.Fz true ks val ks none)] [b]
   | _=>.none
  | _,_=>.none
 | .next x str=>match str,ρ x with
  | false,.ptr b 0 0=>match h b with
   | .iter true [] _=>k (.Am [.bool false]) [] [b]
   | .iter true [_] true=>k (.Am [.bool false]) [] [b]
   | .iter true [p] false=>k (.Am [.bool true,p.1,p.2]) [(b,.iter true [p] true)] [b]
   | _=>.none
  | _,_=>.none
 | .entry x=>match ρ x with
  | .ptr b 0 0=>match h b with
   | .iter _ [p] true=>k (.Am [p.1,p.2]) [] [b]
   | .Fz _ ks val _ (some s)=>k (.Am [.str s,val s]) [] [b]
   | _=>.none
  | _=>.none
 | _=>.none
def Oj(tt:TT)(h:Nat->BS)(nx:Nat)(b:Builtin)(argTypes:List TypeId)(args:List AV)(k:KW R):Option R:=
 match b,args,argTypes with
 | .len,[x],[t]=>CC (tt t) λti=>match ti.desc,x with
  | .string,.str s=>k (.int .i64 s.length) [] []
  | .slice _,.Ak=>k (.int .i64 0) [] []
  | .slice _,.sl _ _ _ n _=>k (.int .i64 n) [] []
  | .slice _,.tr _ n _=>k (.int .i64 n) [] []
  | .slice _,.tn _ n _=>k (.int .i64 n) [] []
  | .slice _,.sn _ _ n=>k (.int .i64 n) [] []
  | .slice _,.hd _ n _=>k (.int .i64 n) [] []
  | .slice _,.A9 _ es=>k (.int .i64 es.length) [] []
  | .array n _,_=>k (.int .i64 n) [] []
  | .map _ _,.HC=>k (.int .i64 0) [] []
  | .map _ _,.mp b=>match h b with
   | .map _ es=>k (.int .i64 es.length) [] [b]
   | .pmap _ ks _=>k (.int .i64 ks.length) [] [b]
   | _=>.none
  | _,_=>.none
 | .append,[s,x],t::tr=>
  CC (tt t) λti=>match ti.desc with
  | .slice e=>CC (tt e) λte=>CC te.zero λz=>
   bif Nat.beq z.length te.size&&Nat.ble 1 te.size then
   match x with
   | .int .. => .none
   | x=>
   CC (match tr with
    | []=>some ()
    | t2::_=>CC (tt t2) λt2=>match t2.desc with
     | .int _=>.none
     | _=>some ()) λ_=>
   aB s h te.size λBc=>aB x h te.size λnew=>
    bif Nat.ble ((Bc.len+new.len)*te.bytes) 140737488355328&&Nat.ble (Bc.len+new.len) 140737488355328 then
     match s with
     | .Ak=>bif Nat.beq new.len 0 then k .Ak [] x.Fx
       else k (.sl te.size nx 0 new.len (U4 new)) [(nx,CY te.size new)] x.Fx
     | .sl sz b off len cm=>
      bif Nat.beq new.len 0 then k s [] (s.Fx++x.Fx)
      else bif roomFor (len+new.len) cm then
       match h b,new with
       | .arr true sz' es,.list ns=>bif Nat.ble (off+cm) es.length then
         k (.sl sz b off (len+new.len) cm) [(b,.arr true sz' (es.take (off+len)++(ns++es.drop (off+(len+ns.length)))))] (b::x.Fx)else .none
       | .seq true sz' n f,nv=>bif IY nv&&Nat.ble (off+cm) n then
         k (.sl sz b off (len+nv.len) cm) [(b,.seq true sz' n λi=>bif Nat.blt i (off+len)then f i else bif Nat.blt i (off+(len+nv.len))then nv.at (i - (off+len))else f i)] (b::x.Fx)else .none
       | _,_=>.none
      else match h b with
       | .arr true _ _ | .seq true _ _ _=>
        bif IY new||(match CG Bc new with | .list _=>true | .fn _ _=>false)then
         bif(match CG Bc new with | .list _=>true | .fn _ _=>IY Bc)then
          k (.sl te.size nx 0 (CG Bc new).len (U4 (CG Bc new))) [(b,.dead),(nx,CY te.size (CG Bc new))] (b::(s.Fx++x.Fx))
         else .none
        else .none
       | .none=>bif Nat.beq len 0 then k (.sl te.size nx 0 new.len (U4 new)) [(nx,CY te.size new)] (b::x.Fx)else .none
       | _=>.none
     | .sn sz b n=>bif IY new then match h b with
       | .seq true _ _ f=>k (.sn te.size nx (n+new.len)) [(b,.dead),(nx,.seq true te.size (n+new.len) (BQ n f new))] (b::x.Fx)
       | .none=>k (.sn te.size nx new.len) [(nx,.seq true te.size new.len new.at)] (b::x.Fx)
       | _=>.none
      else .none
     | _=>.none
    else .none
   else .none
  | _=>.none
 | .copy,[d,x],t::_=>
  CC (tt t) λti=>match ti.desc,d with
  | .slice e,.sl sz b off len _=>CC (tt e) λte=>bif Nat.beq sz te.size&&Nat.ble 1 te.size then aB x h te.size λnew=>
   match h b,new with
   | .arr true sz' es,.list ns=>bif Nat.ble (off+len) es.length then
     k (.int .i64 (min ns.length len:Nat)) [(b,.arr true sz' (es.take off++(ns.take (min ns.length len)++es.drop (off+min ns.length len))))] (b::x.Fx)else .none
   | .seq true sz' m f,nv=>bif IY nv&&Nat.ble (off+len) m then
     k (.int .i64 (min nv.len len:Nat)) [(b,.seq true sz' m λi=>bif Nat.blt i off then f i else bif Nat.blt i (off+min nv.len len)then nv.at (i - off)else f i)] (b::x.Fx)else .none
   | _,_=>.none
   else .none
  | _,_=>.none
 | .clear,[x],[t]=>
  CC (tt t) λti=>match ti.desc,x with
  | .slice _,.Ak=>k (.Am []) [] []
  | .slice e,.sl sz b off len _=>CC (tt e) λte=>CC te.zero λz=>
   bif Nat.beq len 0 then k (.Am []) [] []else
   bif Nat.beq sz te.size&&(Nat.beq z.length te.size&&Nat.ble 1 te.size)then
   match h b with
   | .arr true sz' es=>bif Nat.ble (off+len) es.length then
     k (.Am []) [(b,.arr true sz' (es.take off++(List.replicate len z++es.drop (off+len))))] [b]else .none
   | .seq true sz' m f=>bif Nat.ble (off+len) m then
     k (.Am []) [(b,.seq true sz' m λi=>bif Nat.blt i off then f i else bif Nat.blt i (off+len)then z else f i)] [b]else .none
   | _=>.none
   else .none
  | _,_=>.none
 | .complex,[.DR kd a,.DR K9 b],_=>bif UT kd K9 then k (.Al kd a b) [] []else .none
 | .real,[.Al kd a _],_=>k (.DR kd a) [] []
 | .imag,[.Al kd _ b],_=>k (.DR kd b) [] []
 | .min,[.int kd a,.int _ b],_=>k (.int kd (bif decide (b<a)then b else a)) [] []
 | .max,[.int kd a,.int _ b],_=>k (.int kd (bif decide (a<b)then b else a)) [] []
 | _,_,_=>.none
structure Rec where
 i:Nat
 rd:List Nat
 wr:List Nat
 all:Bool
def Lm(e:Edge):Bool:=
 match e.ground with
 | .textOnly _ | .gcOnly _=>false
 | _=>true
def HS:List Oper->List Nat->List Nat
 | [],acc=>acc
 | o::r,acc=>
  HS r (acc++[o.after.toList.foldl (λs e=>bif Lm e then s ||| 2 ^ e.on ||| acc.getD e.on 0 else s) 0])
def meets(a b:List Nat):Bool:=a.any λx=>b.any λy=>Nat.beq x y
def behind(cf:List Nat)(i j:Nat):Bool:=Nat.testBit (cf.getD i 0) j
def fJ(cf:List Nat)(r s:Rec):Bool:=
 behind cf r.i s.i || !(r.all||(s.all||(meets r.wr (s.rd++s.wr)||meets r.rd s.wr)))
def Pz(cf:List Nat):List Rec->Bool
 | []=>true
 | r::l=>(l.all λs=>fJ cf r s)&&Pz cf l
inductive AX where
 | normal | exit (id:Nat) | goto (l:Nat) | ret
def Tb(ops:Array Oper)(fr:Nat->AV)(o:Oper):Option Bool:=
 match o.guard with
 | .none=>some true
 | some (j,want)=>match (ops[j]?).bind (·.dst)with
  | some d=>match fr d with
   | .bool b=>some (v8 b want)
   | .Am _=>some false
   | _=>.none
  | .none=>.none
def HW(b:Nat):List Nat->Bool
 | []=>false
 | x::r=>bif Nat.beq x b then true else HW b r
def live:BS->Bool
 | .none=>false
 | .dead=>false
 | _=>true
def Iv(h:Nat->BS)(ks:List Nat):List Nat:=ks.filter λb=>live (h b)
def VX(r:Option (List AV × List Nat × Bool))(ks:List Nat)(cs:List AV):List AV:=
 match r with
 | some (A3,l,g)=>bif g&&l.all (λb=>HW b ks)then A3 else cs.map λ_=>.undef
 | .none=>cs.map λ_=>.undef
mutual
def NA:Nat->(Nat->BS)->AV->Option (AV × List Nat × Bool)
 | 0,_,_=>.none
 | d+1,h,v=>match v with
  | .ptr b i j=>match h b with
   | .arr _ _ es=>match es[i]? with
    | some cs=>match FT d h cs with
     | some (cs,l,g)=>some (.tp cs j,b::l,g)
     | .none=>.none
    | .none=>.none
   | .seq _ _ n f=>some (.tp (f i) j,[b],Nat.blt i n)
   | _=>.none
  | .sl sz b off len _=>match h b with
   | .arr _ _ es=>match UW d h ((es.drop off).take len)with
     | some (Ie,l,g)=>some (.A9 sz Ie,b::l,g&&(Nat.beq len 0||Nat.ble (len+off) es.length))
     | .none=>.none
   | .seq _ _ n f=>some (.tr sz len (λi=>f (i+off)),[b],Nat.beq len 0||Nat.ble (len+off) n)
   | .Cb _ _ n f i0 c0 ks _=>some (.tr sz len (λi=>VX (FT d h (DF f i0 c0 (i+off))) (Iv h ks) (DF f i0 c0 (i+off))),b::Iv h ks,Nat.beq len 0||Nat.ble (len+off) n)
   | _=>some (.A9 sz [],[],Nat.beq len 0)
  | .sn sz b n=>match h b with
   | .seq _ _ n' f=>some (.tr sz n f,[b],Nat.ble n n')
   | .Cb _ _ n' f i0 c0 ks _=>some (.tr sz n (λi=>VX (FT d h (DF f i0 c0 i)) (Iv h ks) (DF f i0 c0 i)),b::Iv h ks,Nat.ble n n')
   | _=>some (.tr sz n λ_=>[],[],Nat.beq n 0)
  | .agg cs=>match FT d h cs with
   | some (cs,l,g)=>some (.agg cs,l,g)
   | .none=>.none
  | .Am cs=>match FT d h cs with
   | some (cs,l,g)=>some (.Am cs,l,g)
   | .none=>.none
  | .fn f a c=>match FT d h a,FT d h c with
   | some (a,l,g),some (c,l',g')=>some (.fn f a c,l++l',g&&g')
   | _,_=>.none
  | .mp _=>.none
  | v=>some (v,[],true)
def FT:Nat->(Nat->BS)->List AV->Option (List AV × List Nat × Bool)
 | 0,_,_=>.none
 | _+1,_,[]=>some ([],[],true)
 | d+1,h,v::r=>match NA d h v,FT d h r with
  | some (v,l,g),some (r,l',g')=>some (v::r,l++l',g&&g')
  | _,_=>.none
def UW:Nat->(Nat->BS)->List (List AV)->Option (List (List AV) × List Nat × Bool)
 | 0,_,_=>.none
 | _+1,_,[]=>some ([],[],true)
 | d+1,h,v::r=>match FT d h v,UW d h r with
  | some (v,l,g),some (r,l',g')=>some (v::r,l++l',g&&g')
  | _,_=>.none
end
def aa{α:Type}:Option (α × List Nat × Bool)->Option (α × List Nat)
 | some (v,l,true)=>some (v,l)
 | _=>.none
def snap(d:Nat)(h:Nat->BS)(v:AV):Option (AV × List Nat):=aa (NA d h v)
def xi(d:Nat)(h:Nat->BS)(v:List AV):Option (List AV × List Nat):=aa (FT d h v)
def arM(d:Nat)(h:Nat->BS)(v:List (List AV)):Option (List (List AV) × List Nat):=aa (UW d h v)
def kids:BS->List Nat
 | .arr _ _ es=>es.flatMap Hb
 | .map _ es=>es.flatMap λ(a,b)=>roots a++roots b
 | .Cb _ _ _ _ _ _ ks _=>ks
 | _=>[]
def reach:Nat->(Nat->BS)->List Nat->List Nat->List Nat
 | 0,_,_,acc=>acc
 | _+1,_,[],acc=>acc
 | d+1,h,b::r,acc=>bif HW b acc then reach d h r acc else reach d h (kids (h b)++r) (acc++[b])
def indexOf(b:Nat):List Nat->Nat->Option Nat
 | [],_=>.none
 | x::r,i=>bif Nat.beq x b then some i else indexOf b r (i+1)
mutual
def BX(ρ:Nat->Option Nat):AV->AV
 | .ptr b i j=>match ρ b with
  | some b'=>.ptr b' i j
  | .none=>.undef
 | .sl sz b o len cm=>match ρ b with
  | some b'=>.sl sz b' o len cm
  | .none=>.undef
 | .mp b=>match ρ b with
  | some b'=>.mp b'
  | .none=>.undef
 | .sn sz b n=>match ρ b with
  | some b'=>.sn sz b' n
  | .none=>.undef
 | .agg cs=>.agg (EX ρ cs)
 | .Am cs=>.Am (EX ρ cs)
 | .fn f a c=>.fn f (EX ρ a) (EX ρ c)
 | v=>v
def EX(ρ:Nat->Option Nat):List AV->List AV
 | []=>[]
 | v::r=>BX ρ v::EX ρ r
end
def Ch(ρ:Nat->Option Nat):BS->BS
 | .arr m sz es=>.arr m sz (es.map (EX ρ))
 | .map m es=>bif es.all (λp=>Ed p.1)then .map m (es.map λp=>(p.1,BX ρ p.2))else .dead
 | .Cb m sz n f i0 c0 ks cur=>.Cb m sz n (λi=>EX ρ (f i)) i0 (EX ρ c0) (ks.filterMap ρ) cur
 | x=>x
mutual
def Jt:AV->Bool
 | .tr .. | .tn .. | .A9 _ (_::_) | .tp .. | .mk .. => true
 | .agg cs | .Am cs=>UO cs
 | .fn _ a c=>UO a||UO c
 | _=>false
def UO:List AV->Bool
 | []=>false
 | v::r=>Jt v||UO r
end
def Rk:BS->Bool
 | .arr m _ es=>!m||es.any UO
 | .seq .. => true
 | .map m es=>!m||es.any λp=>Jt p.1||Jt p.2
 | .iter .. => true
 | .Cb .. => true
 | .pmap .. => true
 | .Fz .. => true
 | _=>false
def frozen:BS->BS
 | .arr _ sz es=>.arr false sz es
 | .seq _ sz n f=>.seq false sz n f
 | .map _ es=>.map false es
 | .iter _ es st=>.iter false es st
 | .Cb _ sz n f i0 c0 ks cur=>.Cb false sz n f i0 c0 ks cur
 | .pmap _ ks val=>.pmap false ks val
 | .Fz _ ks val rem cur=>.Fz false ks val rem cur
 | x=>x
structure Answer where
 X:Type
 g:Bool
 a:X
 r:X->AV × Heap
def yn{X:Type}{α:Type}(k:X->α)(a:X):α:=k a
structure Env where
 tt:TT
 code:Nat->Option Func
 mode:Nat->Nat
 live:Nat->Nat->List Nat
 Yg:Nat->List AV->Heap->Option Answer
 zU:Nat->Nat->List Nat:=λ_ _=>[]
 msk:Nat->List Nat:=λ_=>[]
def Va(l:List Nat):Nat->List AV->List AV
 | _,[]=>[]
 | i,c::r=>(bif HW i l then .undef else c)::Va l (i+1) r
def uY(l:List Nat)(args:List AV):List AV:=
 match l with
 | []=>args
 | _=>match args with
  | .agg cs::r=>.agg (Va l 0 cs)::r
  | _=>args
def depth:Nat:=400
def MH:Nat:=100000
abbrev Gh(R:Type):=Nat->List AV->Heap->(AV->Heap->Option R)->Option R
def Vr:BS->BS
 | .arr m sz es=>bif es.all (λcs=>cs.all Ed)then .seq m sz es.length (λi=>es.getD i (es.getD 0 []))else .arr m sz es
 | .map m []=>.pmap m [] (λ_=>.int .i64 0)
 | x=>x
def Qi:Nat->Heap->Heap
 | _,[]=>[]
 | 0,x::r=>Vr x::r
 | k+1,x::r=>x::Qi k r
def Qj:List Nat->Heap->Heap
 | [],h=>h
 | t::r,h=>Qj r (bif Nat.beq (t / 1000) 0 then h else Qi (t % 1000) h)
def OB(base:Nat)(live:List Nat)(s:St):St:=
 let ids:=reach MH (Ab s.hp) ((s.hp.take base).flatMap kids++Hb (live.map λt=>Bb s.fr t)) (List.range base)
 {fr:=live.map λt=>(t,BX (λb=>indexOf b ids 0) (Bb s.fr t)),hp:=ids.map λb=>Ch (λb=>indexOf b ids 0) (Ab s.hp b)}
def XE(sz t:Nat)(s:St):St:=
 match Bb s.fr t with
 | .Ak=>{fr:=(t,.sn sz s.hp.length 0)::s.fr,hp:=Fm s.hp s.hp.length (.seq true sz 0 λ_=>[])}
 | _=>s
def RJ:List Nat->St->St
 | [],s=>s
 | x::r,s=>bif Nat.beq (x / 1000000) 0 then RJ r s else RJ r (XE (x / 1000000) (x / 1000 % 1000) s)
def XF(base:Nat)(live:List Nat)(s:St):St:={fr:=(OB base live s).fr,hp:=Qj live (OB base live s).hp}
def norm(base:Nat)(live:List Nat)(s:St):St:=XF base live (RJ live s)
inductive Fa where
 | wr (l:Wr)
 | full (h:Heap)
abbrev Tm(R:Type):=AV->Fa->List Nat->Option R
def below(n b:Nat):Option Nat:=bif Nat.blt b n then some b else .none
def shift(nx n b:Nat):Option Nat:=bif Nat.blt b n then some (nx+b)else .none
def imports(nx:Nat):Nat->List BS->Wr
 | _,[]=>[]
 | i,x::r=>(nx+i,x)::imports nx (i+1) r
def lR(m:Nat)(h:Nat->BS)(nx:Nat)(rch:List Nat)(r:AV)(bs:Heap)(k:Tm R):Option R:=
 let fz:Wr:=bif Jt r||bs.any Rk then rch.map λb=>(b,frozen (h b))else []
 match m with
 | 1=>k (BX (shift nx bs.length) r) (.wr (fz++imports nx 0 (bs.map (Ch (shift nx bs.length))))) rch
 | _=>match NA depth (Ab bs) r with
  | some (r,_,g)=>bif g then k r (.wr fz) rch else .none
  | .none=>.none
def C2(l:List Nat)(b:Nat):Option Nat:=bif HW b l then some b else .none
def keep(l:List Nat):Nat->Heap->Heap
 | _,[]=>[]
 | i,x::r=>(bif HW i l then Ch (C2 l) x else .none)::keep l (i+1) r
def XG(n:Nat)(ids:List Nat)(i:Nat):Option Nat:=
 match ids[i]? with
 | some b=>some b
 | .none=>some (n+(i - ids.length))
def Lt(n:Nat)(ids:List Nat)(b:Nat):Option Nat:=
 match indexOf b ids 0 with
 | some i=>some i
 | .none=>bif Nat.ble n b then some (ids.length+(b - n))else .none
def Vb(n:Nat)(ids:List Nat)(h:Heap)(b:Nat):BS:=
 match Lt n ids b with
 | some i=>Ch (XG n ids) (Ab h i)
 | .none=>.none
def back(n:Nat)(ids:List Nat)(r:AV)(h:Heap)(k:Tm R):Option R:=
 let S:=ids++(List.range (h.length - ids.length)).map λi=>n+i
 k (BX (C2 S) (BX (XG n ids) r)) (.wr (S.map λb=>(b,Ch (C2 S) (Vb n ids h b)))) ids
def xj(env:Env)(run:Gh R)(hp:Heap)(nx:Nat)(f:Nat)(args:List AV)(k:Tm R):Option R:=
 match env.mode f with
 | 2=>run f args hp λr h'=>k r (.full h') (List.range hp.length)
 | 3=>run f (EX (below hp.length) args) (hp.map λx=>frozen (Ch (below hp.length) x)) λr _=>bif abZ r && !Jt r then k r (.wr []) (List.range hp.length)else .none
 | 4=>
  let ids:=(reach MH (Ab hp) (Hb args) []).filter λb=>Nat.blt b hp.length
  run f (EX (C2 ids) args) (keep ids 0 hp) λr h'=>
   let S:=ids++(List.range (h'.length - hp.length)).map λi=>hp.length+i
   k (BX (C2 S) r) (.wr (S.map λb=>(b,Ch (C2 S) (Ab h' b)))) ids
 | 5=>
  let ids:=(reach MH (Ab hp) (Hb args) []).filter λb=>Nat.blt b hp.length
  let afF:=EX (λb=>indexOf b ids 0) (EX (C2 ids) args)
  let hp5:=ids.map λb=>Ch (λb=>indexOf b ids 0) (Ab (keep ids 0 hp) b)
  match env.Yg f afF hp5 with
  | some A=>bif A.g then yn (λx=>back hp.length ids (A.r x).1 (A.r x).2 k) A.a else .none
  | .none=>run f afF hp5 λr h=>back hp.length ids r h k
 | m=>
  match FT depth (Ab hp) args with
  | .none=>.none
  | some (HU,rch,g)=>bif g then
   match env.Yg f HU []with
   | some A=>bif A.g then yn (λx=>lR m (Ab hp) nx rch (A.r x).1 (A.r x).2 k) A.a else .none
   | .none=>run f HU [] λr h'=>
    let ids:=reach MH (Ab h') (roots r) []
    lR m (Ab hp) nx rch (BX (λb=>indexOf b ids 0) r) (ids.map λb=>Ch (λb=>indexOf b ids 0) (Ab h' b)) k
   else .none
def xk(env:Env)(run:Gh R)(fr:Nat->AV)(hp:Heap)(nx:Nat)(o:Oper)(k:Tm R):Option R:=
 match o.op with
 | .call c=>
  match c.callee with
  | .builtin b=>Oj env.tt (Ab hp) nx b c.argTypes.toList (c.args.toList.map (KK fr)) λv wr rd=>k v (.wr wr) rd
  | .invoke _ _=>.none
  | .value f=>match KK fr f with
   | .fn (.func g) first cap=>xj env run hp nx g (uY (env.msk g) (first++(c.args.toList.map (KK fr)++cap))) k
   | _=>.none
 | op=>CT env.tt (KK fr) (Ab hp) nx op λv wr rd=>k v (.wr wr) rd
def Fa.apply(h:Heap):Fa->Heap
 | .wr l=>RI h l
 | .full h'=>h'
def XH(i:Nat)(e:Fa)(rd:List Nat)(DA:List Rec):List Rec:=
 match e with
 | .wr []=>match rd with
  | []=>DA
  | rd=>{i,rd,wr:=[],all:=false}::DA
 | .wr l=>{i,rd,wr:=l.map (·.1),all:=false}::DA
 | .full _=>{i,rd,wr:=[],all:=true}::DA
def KX(fr:Fr)(d:Option Nat)(v:AV):Fr:=
 match d with
 | some d=>(d,v)::fr
 | .none=>fr
def PU(nt:Nat)(d:Option Nat):Bool:=
 match d with
 | some d=>Nat.blt d nt
 | .none=>true
def np(ops:Array Oper)(o:Oper)(fr:Fr)(k:Bool->Fr->Option R):Option R:=
 match o.guard with
 | .none=>k true fr
 | some (j,want)=>match (ops[j]?).bind (·.dst)with
  | some d=>match Bb fr d with
   | .bool b=>bif b then k want ((d,.bool true)::fr)else k (!want) ((d,.bool false)::fr)
   | .Am _=>k false fr
   | _=>.none
  | .none=>.none
def KY(env:Env)(run:Gh R)(nt:Nat)(ops:Array Oper)(draw:Bool):List Oper->Nat->List Rec->St->(St->Option R)->Option R
 | [],_,DA,s,k=>bif draw then(bif Pz (HS ops.toList []) DA then k s else .none)else k s
 | o::rest,i,DA,s,k=>
  bif PU nt o.dst then
   np ops o s.fr λg fr=>match g with
   | true=>
    xk env run (Bb fr) s.hp s.hp.length o λv e rd=>
     KY env run nt ops draw rest (i+1) (bif draw then XH i e rd DA else DA)
      {fr:=KX fr o.dst v,hp:=e.apply s.hp} k
   | false=>KY env run nt ops draw rest (i+1) DA {fr:=KX fr o.dst (.Am []),hp:=s.hp} k
  else .none
def aC(x:Nat)(s:St):St:=
 match Ab s.hp (x / 1000 % 1000)with
 | .arr true sz [cs]=>match cs[x % 1000]? with
  | some .Ak=>{fr:=s.fr,hp:=Fm (Fm s.hp s.hp.length (.seq true (x / 1000000) 0 λ_=>[])) (x / 1000 % 1000) (.arr true sz [cs.set (x % 1000) (.sn (x / 1000000) s.hp.length 0)])}
  | _=>s
 | _=>s
def bj:List Nat->St->(St->Option R)->Option R
 | [],s,k=>k s
 | t::r,s,k=>bif !Nat.beq (t / 1000000) 0 then bj r (aC t s) k else match NA depth (Ab s.hp) (Bb s.fr t)with
  | some (v,l,g)=>bif g then bj r {fr:=(t,v)::s.fr,hp:=RI s.hp (l.map λb=>(b,frozen (Ab s.hp b)))} k else .none
  | .none=>.none
abbrev OD(R:Type):=(AX->St->Option R)->St->Option R
def PV(nrm:St->St)(body:OD R):Nat->OD R
 | 0,_,_=>.none
 | n+1,k,s=>body (λe s'=>match e with
  | .normal=>PV nrm body n k (nrm s')
  | e=>k e s') s
def Hh(env:Env)(run:Gh R)(fn nt n base:Nat)(jump:Code->Nat->OD R):(cur:Nat)->Code->OD R
 | _,.skip,k,s=>k .normal s
 | _,.region id ops draw,k,s=>bj (env.zU fn id) s λs=>KY env run nt ops draw ops.toList 0 [] s λs'=>k .normal s'
 | cur,.seq a b,k,s=>Hh env run fn nt n base jump cur a (λe s'=>match e with
  | .normal=>Hh env run fn nt n base jump cur b k s'
  | e=>k e s') s
 | cur,.cond c a b,k,s=>match KK (Bb s.fr) c with
  | .bool c=>bif c then Hh env run fn nt n base jump cur a k s else Hh env run fn nt n base jump cur b k s
  | _=>.none
 | _,.block id a,k,s=>Hh env run fn nt n base jump id a (λe s'=>match e with
  | .exit Jf=>bif Nat.beq Jf id then k .normal s' else k (.exit Jf) s'
  | e=>k e s') s
 | cur,.loop a,k,s=>PV (norm base (env.live fn cur)) (Hh env run fn nt n base jump cur a) n k (norm base (env.live fn cur) s)
 | _,.exit id,k,s=>k (.exit id) s
 | _,.label _,k,s=>k .normal s
 | _,.goto l,k,s=>k (.goto l) s
 | cur,.scope a,k,s=>Hh env run fn nt n base jump cur a (λe s'=>match e with
  | .goto l=>match findLabel a l with
   | some _=>jump a l k (norm base (env.live fn (1000+l)) s')
   | .none=>k (.goto l) s'
  | e=>k e s') s
 | _,.ret,k,s=>k .ret s
 | _,_,_,_=>.none
def PY(env:Env)(run:Gh R)(fn nt n base:Nat):Nat->Code->Nat->OD R
 | 0,_,_,_,_=>.none
 | m+1,a,l,k,s=>
  match findLabel a l with
  | .none=>.none
  | some rest=>Hh env run fn nt n base (PY env run fn nt n base m) 0 rest (λe s'=>match e with
   | .goto l'=>match findLabel a l' with
    | some _=>PY env run fn nt n base m a l' k (norm base (env.live fn (1000+l')) s')
    | .none=>k (.goto l') s'
   | e=>k e s') s
def La(env:Env)(run:Gh R)(fn nt n base:Nat):(cur:Nat)->Code->OD R:=
 Hh env run fn nt n base (PY env run fn nt n base n)
def Ej:Nat->List AV->Fr
 | _,[]=>[]
 | i,v::r=>(i,v)::Ej (i+1) r
def Ip(tt:TT)(s:St):List ResultVar->(List AV->Option R)->Option R
 | [],k=>k []
 | .tmp t::r,k=>Ip tt s r λvs=>k (Bb s.fr t::vs)
 | .cell a t::r,k=>CC (tt t) λti=>match Bb s.fr a with
  | .ptr b i j=>Tk (Ab s.hp b) i λcs=>OA ti cs j λv=>Ip tt s r λvs=>k (v::vs)
  | _=>.none
def Ge:List AV->AV
 | [v]=>v
 | vs=>.Am vs
def uZ(env:Env)(run:Gh R)(n:Nat):Gh R:=λf args hp k=>
 match env.code f with
 | some fn=>match fn.body with
  | some c=>
   La env run f fn.ntmps n hp.length 0 c (λe s=>match e with
    | .normal | .ret=>Ip env.tt s fn.results.toList λvs=>k (Ge vs) s.hp
    | _=>.none) {fr:=Ej 0 args,hp:=hp}
  | .none=>.none
 | .none=>.none
def Dl(env:Env):Nat->Gh R
 | 0=>λ_ _ _ _=>.none
 | n+1=>uZ env (Dl env n) n
end
def ao7(v:Value):ym v=v.oneCell':=by cases v <;> rfl
abbrev Ac:=Nat->Option (Nat × Nat × Nat)
def Ac.no:Ac:=λ_=>.none
def Ac.le(φ φ':Ac):Prop:=∀ b p,φ b=some p->φ' b=some p
def Ac.le_refl(φ:Ac):Ac.le φ φ:=λ_ _ h=>h
def Ac.IZ(φ:Ac):Ac.le Ac.no φ:=λ_ _ h=>by cases h
def Bv(w:World)(B:Nat):Nat:=match w.heap[B]? with
 | some (.cells c _ _)=>c.size
 | _=>0
def adh{w:World}{B q:Nat}{v:Value}(h:w.cell? ⟨B,q,none⟩=some v):q<Bv w B:=by
 unfold World.cell? at h;unfold Bv;split at h
 ·rename_i c e fz hc;simp only at hc;rw[hc];simp only at h ⊢;rcases Cj q c.size with h' | h'
  ·exact h'
  ·simp[JB h']at h
 ·cases h
def Mp(c:Array Value)(fz:Nat × Nat):Prop:=∀ k,k<c.size -> ¬ (fz.1<=k/\k<fz.2)
def J9(c:Array Value)(fz:Nat × Nat)(sz:Nat):Prop:=sz=1 \/ ¬ (fz.1<=c.size/\c.size<fz.2)
def One(c:Array Value):Prop:=∀ (k:Nat) v,c[k]? = some v->v.oneCell'=true
def okC(c:Array Value)(fz:Nat × Nat):Prop:=Mp c fz/\J9 c fz 2/\One c
def F7(w:World)(B:Nat):Prop:=∀ c e fz,w.heap[B]? = some (.cells c e fz)->okC c fz
def Hl(w:World)(m:Nat):Prop:=∃ B,m<=B+1/\0<Bv w B
def ik(w:World)(I:Nat->Prop)(k m:Nat)(a:Option Addr)(n:Nat):Prop:=match k with
 | 0=>Hl w m
 | 1=>Hl w m /\ ∀ B q p,a=some ⟨B,q,p⟩->0<n->I B/\B<m
 | _=>∀ B q p,a=some ⟨B,q,p⟩->0<n->I B/\m<=B/\F7 w B
def ik.mono{w w':World}{I I':Nat->Prop}{k m n:Nat}{a:Option Addr}(h:ik w I k m a n)(hI:∀ B,I B->I' B/\w'.heap[B]? = w.heap[B]?)(hs:∀ B,Bv w B<=Bv w' B):ik w' I' k m a n:=by
 have VY:Hl w m->Hl w' m:=λ⟨B,h1,h2⟩=>⟨B,h1,He h2 (hs B)⟩
 unfold ik at h ⊢;split at h
 ·exact VY h
 ·exact⟨VY h.1,λB q p e hn=>⟨(hI B (h.2 B q p e hn).1).1,(h.2 B q p e hn).2⟩⟩
 ·intro B q p e hn;obtain⟨h1,h2,h3⟩:=h B q p e hn;refine⟨(hI B h1).1,h2,λc e fz hc=>h3 c e fz ?_⟩;rw[<- (hI B h1).2];exact hc
inductive RV (w:World) (I:Nat->Prop):Ac->AV->Value->Prop
 | undef {φ} (v:Value):RV w I φ .undef v
 | bool {φ} (b:Bool):RV w I φ (.bool b) (.bool b)
 | int {φ} (k:IntKind) (n:Int):RV w I φ (.int k n) (.int k n)
 | DR {φ} (k:FloatKind) (n:Nat):RV w I φ (.DR k n) (.float k n)
 | Al {φ} (k:FloatKind) (a b:Nat):RV w I φ (.Al k a b) (.complex k a b)
 | str {φ} (s:ByteArray) (l:List UInt8) (h:l=s.data.toList):RV w I φ (.str l) (.string s)
 | HB {φ}:RV w I φ .HB (.pointer none)
 | ptr {φ} (b B o sz i j q:Nat) (h:φ b=some (B,o,sz)) (hq:q=o+i*sz+j):RV w I φ (.ptr b i j) (.pointer (some ⟨B,q,none⟩))
 | tp {φ} (cs:List AV) (j B o q:Nat) (u:Nat->Value) (hI:I B) (hq:q=o+j)
   (hc:∀ (k:Nat) c,cs[k]? = some c->w.cell? ⟨B,o+k,none⟩=some (u k)) (h1:∀ (k:Nat) c,cs[k]? = some c->(u k).oneCell'=true)
   (hr:∀ (k:Nat) c,cs[k]? = some c->RV w I Ac.no c (u k)):RV w I φ (.tp cs j) (.pointer (some ⟨B,q,none⟩))
 | Ak {φ}:RV w I φ .Ak (.slice none 0 0)
 | sl {φ} (sz b B o off len cm cap q:Nat) (h:φ b=some (B,o,sz)) (hq:q=o+off*sz) (hl:len<=cap) (hc:cm<=cap)
   (hs:o+(off+cap)*sz<=Bv w B):RV w I φ (.sl sz b off len cm) (.slice (some ⟨B,q,none⟩) len cap)
 | sle {φ} (sz b off:Nat) (a:Addr):RV w I φ (.sl sz b off 0 0) (.slice (some a) 0 0)
 | tr {φ} (sz n:Nat) (f:Nat->List AV) (B o cap:Nat) (u:Nat->Nat->Value) (hI:0<n->I B) (hn:n<=cap) (hz:0<n->o+cap*sz<=Bv w B) (hlen:∀ i,i<n->(f i).length=sz)
   (hc:∀ (i k:Nat) c,i<n->(f i)[k]? = some c->w.cell? ⟨B,o+i*sz+k,none⟩=some (u i k))
   (h1:∀ (i k:Nat) c,i<n->(f i)[k]? = some c->(u i k).oneCell'=true)
   (hr:∀ (i k:Nat) c,i<n->(f i)[k]? = some c->RV w I Ac.no c (u i k)):RV w I φ (.tr sz n f) (.slice (some ⟨B,o,none⟩) n cap)
 | Cq {φ} (sz:Nat) (f:Nat->List AV) (a:Option Addr):RV w I φ (.tr sz 0 f) (.slice a 0 0)
 | A9 {φ} (sz:Nat) (es:List (List AV)) (v:Value) (h:RV w I φ (.tr sz es.length λi=>es.getD i []) v) (hz:v ≠ .slice none 0 0):RV w I φ (.A9 sz es) v
 | agg {φ} (cs:List AV) (vs:Array Value) (hl:cs.length=vs.size) (h1:∀ (k:Nat) u,vs[k]? = some u->u.oneCell'=true)
   (hr:∀ (k:Nat) c u,cs[k]? = some c->vs[k]? = some u->RV w I φ c u):RV w I φ (.agg cs) (.agg vs)
 | Am {φ} (cs:List AV) (vs:Array Value) (hl:cs.length=vs.size)
   (hr:∀ (k:Nat) c u,cs[k]? = some c->vs[k]? = some u->RV w I φ c u):RV w I φ (.Am cs) (.tuple vs)
 | fn {φ} (f:Fn) (a c:List AV) (va vc:Array Value) (Jg:a.length=va.size) (Le:c.length=vc.size)
   (ha:∀ (k:Nat) x u,a[k]? = some x->va[k]? = some u->RV w I φ x u)
   (hc:∀ (k:Nat) x u,c[k]? = some x->vc[k]? = some u->RV w I φ x u):RV w I φ (.fn f a c) (.func f va vc)
 | I9 {φ}:RV w I φ .I9 .nilFunc
 | HC {φ}:RV w I φ .HC (.map none)
 | mp {φ} (b B:Nat) (h:φ b=some (B,0,0)):RV w I φ (.mp b) (.map (some B))
 | DT {φ} (sz b:Nat) (a:Option Addr):RV w I φ (.sn sz b 0) (.slice a 0 0)
 | sn {φ} (sz b n B o cap:Nat) (h:φ b=some (B,o,sz)) (hl:n<=cap) (hs:o+cap*sz<=Bv w B):RV w I φ (.sn sz b n) (.slice (some ⟨B,o,none⟩) n cap)
 | tn {φ} (sz n:Nat) (f:Nat->List AV) (v:Value) (h:RV w I φ (.tr sz n f) v):RV w I φ (.tn sz n f) v
 | hd {φ} (a:Option Addr) (n c:Nat):RV w I φ (.hd a n c) (.slice a n c)
 | mk {φ} (k m:Nat) (v:AV) (a:Option Addr) (n c:Nat) (h:RV w I Ac.no v (.slice a n c)) (hk:ik w I k m a n):RV w I φ (.mk k m v) (.slice a n c)
def RV.mono{w:World}{I:Nat->Prop}{φ:Ac}{v:AV}{u:Value}(h:RV w I φ v u){w':World}{I':Nat->Prop}
  (hI:∀ B,I B->I' B/\w'.heap[B]? = w.heap[B]?) (hs:∀ B,Bv w B<=Bv w' B):∀ {φ':Ac},Ac.le φ φ'->RV w' I' φ' v u:=by
 have hcell:∀ B o,I B->w'.cell? ⟨B,o,none⟩=w.cell? ⟨B,o,none⟩:=λB o hB=>by simp[World.cell?,(hI B hB).2]
 induction h with
 | undef v=>intros;exact .undef v
 | hd a n c=>intros;exact .hd a n c
 | mk k m v a n c _ hk ih=>intro φ' le;exact .mk k m v a n c (ih (Ac.le_refl _)) (hk.mono hI hs)
 | bool b=>intros;exact .bool b
 | int k n=>intros;exact .int k n
 | DR k n=>intros;exact .DR k n
 | Al k a b=>intros;exact .Al k a b
 | str s l h=>intros;exact .str s l h
 | HB=>intros;exact .HB
 | ptr b B o sz i j q h hq=>intro φ' le;exact .ptr b B o sz i j q (le _ _ h) hq
 | tp cs j B o q u hB hq hc h1 _ ih=>intro φ' le;exact .tp cs j B o q u (hI B hB).1 hq (λk c e=>by rw[hcell _ _ hB];exact hc k c e) h1 (λk c e=>ih k c e (Ac.le_refl _))
 | Ak=>intros;exact .Ak
 | sl sz b B o off len cm cap q h hq hl hc hsz=>intro φ' le;exact .sl sz b B o off len cm cap q (le _ _ h) hq hl hc (CI hsz (hs B))
 | sle sz b off a=>intros;exact .sle sz b off a
 | tr sz n f B o cap u hB hn C6 hlen hc h1 _ ih=>intro φ' le;exact .tr sz n f B o cap u (λh0=>(hI B (hB h0)).1) hn (λh0=>CI (C6 h0) (hs B)) hlen (λi k c hi e=>by rw[hcell _ _ (hB (by omega))];exact hc i k c hi e) h1 (λi k c hi e=>ih i k c hi e (Ac.le_refl _))
 | Cq sz f a=>intros;exact .Cq sz f a
 | A9 sz es v _ hz ih=>intro φ' le;exact .A9 sz es v (ih le) hz
 | agg cs vs hl h1 _ ih=>intro φ' le;exact .agg cs vs hl h1 λk c u e e'=>ih k c u e e' le
 | Am cs vs hl _ ih=>intro φ' le;exact .Am cs vs hl λk c u e e'=>ih k c u e e' le
 | fn f a c va vc Jg Le _ _ T3 Yh=>intro φ' le;exact .fn f a c va vc Jg Le (λk c u e e'=>T3 k c u e e' le) (λk c u e e'=>Yh k c u e e' le)
 | I9=>intros;exact .I9
 | HC=>intros;exact .HC
 | mp b B h=>intro φ' le;exact .mp b B (le _ _ h)
 | DT sz b a=>intros;exact .DT sz b a
 | sn sz b n B o cap h hl hsz=>intro φ' le;exact .sn sz b n B o cap (le _ _ h) hl (CI hsz (hs B))
 | tn sz n f v _ ih=>intro φ' le;exact .tn sz n f v (ih le)
def RV.free{w:World}{I:Nat->Prop}{φ φ':Ac}{v:AV}{u:Value}(h:RV w I φ v u)(hf:Ed v=true):RV w I φ' v u:=by
 cases h with
 | hd a n c=>exact .hd a n c
 | mk k m v a n c h hk=>exact .mk k m v a n c h hk
 | undef _=>exact .undef _
 | bool b=>exact .bool b
 | int k n=>exact .int k n
 | DR k n=>exact .DR k n
 | Al k a b=>exact .Al k a b
 | str s l h=>exact .str s l h
 | HB=>exact .HB
 | ptr=>simp[Ed]at hf
 | tp cs j B o q u hB hq hc h1 hr=>exact .tp cs j B o q u hB hq hc h1 hr
 | Ak=>exact .Ak
 | sl=>simp[Ed]at hf
 | sle=>simp[Ed]at hf
 | tr sz n f B o cap u hB hn C6 hlen hc h1 hr=>exact .tr sz n f B o cap u hB hn C6 hlen hc h1 hr
 | Cq sz f a=>exact .Cq sz f a
 | A9 sz es _ h hz=>
  refine .A9 sz es _ ?_ hz;generalize hn:es.length=n at h;generalize (λi=>es.getD i [])=f at h;cases h with
  | tr _ _ _ B o cap u hB hn C6 hlen hc h1 hr=>exact .tr sz _ f B o cap u hB hn C6 hlen hc h1 hr
  | Cq _ _ a=>exact .Cq sz f a
 | agg=>simp[Ed]at hf
 | Am=>simp[Ed]at hf
 | fn=>simp[Ed]at hf
 | I9=>exact .I9
 | HC=>exact .HC
 | mp=>simp[Ed]at hf
 | DT=>simp[Ed]at hf
 | sn=>simp[Ed]at hf
 | tn sz n f _ h=>
  refine .tn sz n f _ ?_;cases h with
  | tr _ _ _ B o cap u hB hn C6 hlen hc h1 hr=>exact .tr sz n f B o cap u hB hn C6 hlen hc h1 hr
  | Cq _ _ a=>exact .Cq sz f a
def RV.flat{w:World}{I:Nat->Prop}{φ φ':Ac}{v:AV}{u:Value}(h:RV w I φ v u)(hf:abZ v=true):RV w I φ' v u:=by
 cases v with
 | agg cs=>
  cases h with
  | agg _ vs hl h1 hr=>exact .agg cs vs hl h1 λk c u e e'=>(hr k c u e e').free (HA.1 hf c (Dy e))
 | _=>exact h.free hf
def RV.one{w:World}{I:Nat->Prop}{φ:Ac}{v:AV}{u:Value}(h:RV w I φ v u)(hs:v.single=true):u.oneCell'=true:=by
 cases h <;> first | rfl | (simp[AV.single]at hs;done) | skip
 case A9 hz h=>rename_i es;generalize es.length=n at h;generalize (λi=>es.getD i [])=f at h;cases h <;> rfl
 case tn h=>cases h <;> rfl
def RC(w:World)(I:Nat->Prop)(φ:Ac)(cs:List AV)(vs:Array Value):Prop:=
 cs.length=vs.size/\(∀ (k:Nat) u,vs[k]? = some u->u.oneCell'=true) /\ ∀ (k:Nat) c u,cs[k]? = some c->vs[k]? = some u->RV w I φ c u
def RC.one{w:World}{I:Nat->Prop}{φ:Ac}{v:AV}{u:Value}(h:RV w I φ v u)(hu:u.oneCell'=true):RC w I φ [v] #[u]:=by
 refine⟨rfl,λk x e=>?_,λk c x e e'=>?_⟩
 ·cases k with
  | zero=>simp at e;exact e ▸ hu
  | succ k=>simp at e
 ·cases k with
  | zero=>simp at e e';exact e ▸ e' ▸ h
  | succ k=>simp at e
def RV.cells{w:World}{I:Nat->Prop}{φ:Ac}{v:AV}{u:Value}(h:RV w I φ v u)(hs:v.storable=true):RC w I φ v.cells u.cells:=by
 cases h with
 | agg cs vs hl h1 hr=>exact⟨hl,h1,hr⟩
 | undef=>simp[AV.storable]at hs
 | Am=>simp[AV.storable]at hs
 | A9 sz es _ h hz=>
  have h':RV w I φ (.A9 sz es) u:=.A9 sz es u h hz;have ho:u.oneCell'=true:=RV.one h' rfl;have:u.cells = #[u]:=by cases u <;> first | rfl | simp[Value.oneCell']at ho
  rw[this];exact RC.one h' ho
 | hd a n c=>exact RC.one (.hd a n c) rfl
 | mk k m v a n c h hk=>exact RC.one (.mk k m v a n c h hk) rfl
 | bool b=>exact RC.one (.bool b) rfl
 | int k n=>exact RC.one (.int k n) rfl
 | DR k n=>exact RC.one (.DR k n) rfl
 | Al k a b=>exact RC.one (.Al k a b) rfl
 | str s l h=>exact RC.one (.str s l h) rfl
 | HB=>exact RC.one .HB rfl
 | ptr b B o sz i j q h hq=>exact RC.one (.ptr b B o sz i j q h hq) rfl
 | tp cs j B o q u hB hq hc h1 hr=>exact RC.one (.tp cs j B o q u hB hq hc h1 hr) rfl
 | Ak=>exact RC.one .Ak rfl
 | sl sz b B o off len cm cap q h hq hl hc hz=>exact RC.one (.sl sz b B o off len cm cap q h hq hl hc hz) rfl
 | sle sz b off a=>exact RC.one (.sle sz b off a) rfl
 | tr sz n f B o cap u hB hn C6 hlen hc h1 hr=>exact RC.one (.tr sz n f B o cap u hB hn C6 hlen hc h1 hr) rfl
 | Cq sz f a=>exact RC.one (.Cq sz f a) rfl
 | fn f a c va vc Jg Le ha hc=>exact RC.one (.fn f a c va vc Jg Le ha hc) rfl
 | DT sz b a=>exact RC.one (.DT sz b a) rfl
 | sn sz b n B o cap h hl hz=>exact RC.one (.sn sz b n B o cap h hl hz) rfl
 | tn sz n f _ h=>
  have h':RV w I φ (.tn sz n f) u:=.tn sz n f u h;have ho:u.oneCell'=true:=RV.one h' rfl;have:u.cells = #[u]:=by cases u <;> first | rfl | simp[Value.oneCell']at ho
  rw[show(AV.tn sz n f).cells=[.tn sz n f] from rfl,this];exact RC.one h' ho
 | I9=>exact RC.one .I9 rfl
 | HC=>exact RC.one .HC rfl
 | mp b B h=>exact RC.one (.mp b B h) rfl
def RC.mono{w:World}{I:Nat->Prop}{φ:Ac}{cs:List AV}{vs:Array Value}(h:RC w I φ cs vs){w':World}{I':Nat->Prop}{φ':Ac}
  (hI:∀ B,I B->I' B/\w'.heap[B]? = w.heap[B]?) (hs:∀ B,Bv w B<=Bv w' B) (le:Ac.le φ φ'):RC w' I' φ' cs vs:=
 ⟨h.1,h.2.1,λk c u e e'=>(h.2.2 k c u e e').mono hI hs le⟩
def aa4(w:World)(I:Nat->Prop)(φ:Ac)(v:Value):RV w I φ (nk v) v:=by
 unfold nk;split <;> first
  | exact .undef _ | exact .bool _ | exact .int _ _ | exact .DR _ _ | exact .Al _ _ _ | exact .str _ _ rfl | exact .I9 | exact .HB | exact .Ak | exact .HC
def uh(w:World)(I:Nat->Prop)(φ:Ac)(v:Value):RV w I φ (Ls v) v:=by
 unfold Ls;split
 ·rename_i cs;cases h:cs.toList.all ym with
  | false=>exact .undef _
  | true=>
   simp only[Ae];refine .agg _ cs (by simp) (λk u e=>?_) λk c u e e'=>?_
   ·have hm:u ∈ cs.toList:=by
     have:cs.toList[k]? = some u:=by simpa using e
     exact Dy this
    have:=(HA.1 h) u hm;rwa [ao7]at this
   ·simp only[EO,HV,e',FX,CU]at e;exact e ▸ aa4 w I φ u
 ·exact aa4 w I φ v
def AZ:BS->Bool
 | .arr m _ _ | .seq m _ _ _ | .map m _ | .iter m _ _ | .Cb m _ _ _ _ _ _ _ | .pmap m _ _ | .Fz m _ _ _ _=>m
 | _=>false
def Fv{x:BS}(h:AZ x=true):live x=true:=by cases x <;> simp_all [AZ,live]
def Row(w:World)(B:Nat)(m:Bool)(sz:Nat):Prop:=∃ c e fz,w.heap[B]? = some (.cells c e fz)/\(m=true->Mp c fz/\J9 c fz sz)
def PM(w:World)(I:Nat->Prop)(mes:Array MapEntry)(clock:Nat)(ks:List (List UInt8))(val:List UInt8->AV):Prop:=
 mes.size=ks.length/\(∀ (i:Nat) s e,ks[i]? = some s->mes[i]? = some e->(∃ t:ByteArray,e.key=.string t/\s=t.data.toList)/\RV w I Ac.no (val s) e.val) /\
  (∀ (i:Nat) e,mes[i]? = some e->e.born<clock)/\(∀ (i j:Nat) e e',i<j->mes[i]? = some e->mes[j]? = some e'->e.born<e'.born) /\
  ∀ (i j:Nat) s,ks[i]? = some s->ks[j]? = some s->i=j
def PM.mono{w:World}{I:Nat->Prop}{mes:Array MapEntry}{clock:Nat}{ks:List (List UInt8)}{val:List UInt8->AV}(h:PM w I mes clock ks val){w':World}{I':Nat->Prop}
  (hI:∀ B,I B->I' B/\w'.heap[B]? = w.heap[B]?) (hs:∀ B,Bv w B<=Bv w' B):PM w' I' mes clock ks val:=
 ⟨h.1,λi s e a b=>let ⟨x,y⟩:=h.2.1 i s e a b;⟨x,y.mono hI hs (Ac.le_refl _)⟩,h.2.2⟩
def RB(w:World)(I:Nat->Prop)(φ:Ac)(B o sz:Nat):BS->Prop
 | .arr m s es=>s=sz/\Row w B m sz/\(∀ (i:Nat) cs,es[i]? = some cs->cs.length=sz) /\
   ∀ (i:Nat) cs (k:Nat) c,es[i]? = some cs->cs[k]? = some c -> ∃ u,w.cell? ⟨B,o+i*sz+k,none⟩=some u/\u.oneCell'=true/\RV w I φ c u
 | .seq m s n f=>s=sz/\Row w B m sz/\(∀ i,i<n->(f i).length=sz) /\
   ∀ (i k:Nat) c,i<n->(f i)[k]? = some c -> ∃ u,w.cell? ⟨B,o+i*sz+k,none⟩=some u/\u.oneCell'=true/\RV w I Ac.no c u
 | .map _ es=>o=0/\sz=0 /\ ∃ mes clock,w.heap[B]? = some (.map mes clock)/\mes.size=es.length /\
   (∀ (i:Nat) kv e,es[i]? = some kv->mes[i]? = some e->RV w I φ kv.1 e.key/\RV w I φ kv.2 e.val/\kv.1.single=true) /\ ∀ (i:Nat) e,mes[i]? = some e->e.born<clock
 | .iter _ es st=>o=0/\sz=0 /\ ∃ mm since seen mes clock,w.heap[B]? = some (.mapIter (some mm) since seen clock)/\I mm/\w.heap[mm]? = some (.map mes clock)/\mes.size=es.length/\es.length<=1 /\
   (∀ (i:Nat) kv e,es[i]? = some kv->mes[i]? = some e->RV w I Ac.no kv.1 e.key/\RV w I Ac.no kv.2 e.val)/\(∀ (i:Nat) e,mes[i]? = some e->e.born<since/\e.born<clock) /\
   seen=(bif st then mes.map (·.born)else #[])
 | .Cb m s n f i0 c0 _ _=>s=sz/\Row w B m sz/\(∀ i,i<n->(DF f i0 c0 i).length=sz) /\
   ∀ (i k:Nat) c,i<n->(DF f i0 c0 i)[k]? = some c -> ∃ u,w.cell? ⟨B,o+i*sz+k,none⟩=some u/\u.oneCell'=true/\RV w I φ c u
 | .pmap _ ks val=>o=0/\sz=0 /\ ∃ mes clock,w.heap[B]? = some (.map mes clock)/\PM w I mes clock ks val
 | .Fz _ ks val rem cur=>o=0/\sz=0 /\ ∃ mm since seen mes clock,w.heap[B]? = some (.mapIter (some mm) since seen clock)/\I mm/\w.heap[mm]? = some (.map mes clock)/\PM w I mes clock ks val /\
   (since<=clock /\ ∀ (i:Nat) e,mes[i]? = some e->e.born<since)/\(∀ (i:Nat) s e,ks[i]? = some s->mes[i]? = some e->(e.born ∈ seen ↔ s ∉ rem))/\(∀ s ∈ rem,s ∈ ks) /\
   ∀ s,cur=some s -> ∃ (i:Nat) (e:MapEntry) (xn:Array Nat),ks[i]? = some s/\mes[i]? = some e/\seen=xn.push e.born
 | _=>True
def RB.mono{w:World}{I:Nat->Prop}{φ:Ac}{B o sz:Nat}{x:BS}(h:RB w I φ B o sz x){w':World}{I':Nat->Prop}{φ':Ac}
  (hI:∀ B,I B->I' B/\w'.heap[B]? = w.heap[B]?) (hs:∀ B,Bv w B<=Bv w' B) (le:Ac.le φ φ') (hB:w'.heap[B]? = w.heap[B]?):RB w' I' φ' B o sz x:=by
 have hcell:∀ q,w'.cell? ⟨B,q,none⟩=w.cell? ⟨B,q,none⟩:=λq=>by simp[World.cell?,hB]
 cases x with
 | none=>trivial
 | dead=>trivial
 | arr m s es=>obtain⟨h0,⟨c,e,fz,hc,hf⟩,h1,h2⟩:=h;refine⟨h0,⟨c,e,fz,hB.trans hc,hf⟩,h1,λi cs k c e e'=>?_⟩;obtain⟨u,a,b,r⟩:=h2 i cs k c e e';exact⟨u,(hcell _).trans a,b,r.mono hI hs le⟩
 | seq m s n f=>obtain⟨h0,⟨c,e,fz,hc,hf⟩,h1,h2⟩:=h;refine⟨h0,⟨c,e,fz,hB.trans hc,hf⟩,h1,λi k c e e'=>?_⟩;obtain⟨u,a,b,r⟩:=h2 i k c e e';exact⟨u,(hcell _).trans a,b,r.mono hI hs (Ac.le_refl _)⟩
 | map m es=>obtain⟨h0,h1,mes,clock,hm,hsz,h2,Jh⟩:=h;refine⟨h0,h1,mes,clock,hB.trans hm,hsz,λi kv e a b=>?_,Jh⟩;obtain⟨x,y,z⟩:=h2 i kv e a b;exact⟨x.mono hI hs le,y.mono hI hs le,z⟩
 | iter m es st=>obtain⟨h0,h1,mm,since,seen,mes,clock,hm,hi,DB,hsz,hle,h2,Jh,auf⟩:=h;refine⟨h0,h1,mm,since,seen,mes,clock,hB.trans hm,(hI mm hi).1,(hI mm hi).2.trans DB,hsz,hle,λi kv e a b=>?_,Jh,auf⟩;obtain⟨x,y⟩:=h2 i kv e a b;exact⟨x.mono hI hs (Ac.le_refl _),y.mono hI hs (Ac.le_refl _)⟩
 | Cb m s n f i0 c0 ks cur=>obtain⟨h0,⟨c,e,fz,hc,hf⟩,h1,h2⟩:=h;refine⟨h0,⟨c,e,fz,hB.trans hc,hf⟩,h1,λi k c e e'=>?_⟩;obtain⟨u,a,b,r⟩:=h2 i k c e e';exact⟨u,(hcell _).trans a,b,r.mono hI hs le⟩
 | pmap m ks val=>obtain⟨h0,h1,mes,clock,hm,hp⟩:=h;exact⟨h0,h1,mes,clock,hB.trans hm,hp.mono hI hs⟩
 | Fz m ks val rem cur=>obtain⟨h0,h1,mm,since,seen,mes,clock,hm,hi,DB,hp,hr⟩:=h;exact⟨h0,h1,mm,since,seen,mes,clock,hB.trans hm,(hI mm hi).1,(hI mm hi).2.trans DB,hp.mono hI hs,hr⟩
def Gv:BS->Prop
 | .seq _ _ n _=>n=0
 | _=>False
structure RH(w:World)(I:Nat->Prop)(φ:Ac)(rd:Nat->BS):Prop where
 none:∀ b,rd b=.none->φ b=.none
 CY:∀ b,live (rd b)=true->(∃ B o sz,φ b=some (B,o,sz)/\RB w I φ B o sz (rd b))\/(φ b=Option.none/\Gv (rd b))
 inj:∀ b b' B o sz o' sz',AZ (rd b)=true->AZ (rd b')=true->φ b=some (B,o,sz)->φ b'=some (B,o',sz')->b=b'
 CP:∀ b B o sz,AZ (rd b)=true->φ b=some (B,o,sz) -> ¬ I B
 Ea:∀ b B o sz,live (rd b)=true->AZ (rd b)=false->φ b=some (B,o,sz)->I B
 lt:∀ B,I B->B<w.heap.size
def RH.at{w:World}{I:Nat->Prop}{φ:Ac}{rd:Nat->BS}(h:RH w I φ rd){b B o sz:Nat}(e:φ b=some (B,o,sz))(hl:live (rd b)=true):RB w I φ B o sz (rd b):=by
 rcases h.CY b hl with ⟨B',o',sz',e',r⟩ | ⟨e',_⟩
 ·rw[e]at e';cases e';exact r
 ·rw[e]at e';cases e'
def RH.JI{w:World}{I:Nat->Prop}{φ:Ac}{rd:Nat->BS}(h:RH w I φ rd){b:Nat}{p:Nat × Nat × Nat}(e:φ b=some p)(hl:live (rd b)=true):∃ B o sz,φ b=some (B,o,sz)/\RB w I φ B o sz (rd b):=
 ⟨p.1,p.2.1,p.2.2,e,h.at e hl⟩
def RH.TH{w:World}{I:Nat->Prop}{φ:Ac}{rd:Nat->BS}(h:RH w I φ rd){b:Nat}(hn:¬ Gv (rd b))(hl:live (rd b)=true):∃ B o sz,φ b=some (B,o,sz)/\RB w I φ B o sz (rd b):=
 (h.CY b hl).elim id λh=>absurd h.2 hn
def Ca(φ:Ac)(rd:Nat->BS)(B:Nat):Prop:=∃ b o sz,AZ (rd b)=true/\φ b=some (B,o,sz)
def GF(w w':World):Prop:=∀ B,F7 w B->F7 w' B
def GF.refl(w:World):GF w w:=λ_ h=>h
structure Ext(M:Nat->Prop)(w w':World):Prop where
 os:w'.os=w.os
 tape:w'.tape=w.tape
 output:w'.output=w.output
 size:w.heap.size<=w'.heap.size
 keep:∀ B,B<w.heap.size -> ¬ M B->w'.heap[B]? = w.heap[B]?
 shape:∀ (B:Nat) c e fz,w.heap[B]? = some (.cells c e fz) -> ∃ c',w'.heap[B]? = some (.cells c' e fz)/\c'.size=c.size
 back:∀ (B:Nat) c e fz,B<w.heap.size->w'.heap[B]? = some (.cells c e fz) -> ∃ c0,w.heap[B]? = some (.cells c0 e fz)/\c0.size=c.size
def ao8{w:World}{B:Nat}{o:Obj}(h:w.heap.size<=B)(e:w.heap[B]? = some o):False:=by rw[JB h]at e;cases e
def Ext.refl(M:Nat->Prop)(w:World):Ext M w w:=⟨rfl,rfl,rfl,Ar _,λ_ _ _=>rfl,λ_ c _ _ h=>⟨c,h,rfl⟩,λ_ c _ _ _ h=>⟨c,h,rfl⟩⟩
def ajx{c c':Array Value}{fz:Nat × Nat}(h:c.size=c'.size)(t:Mp c fz):Mp c' fz:=λk hk=>t k (h ▸ hk)
def ajy{c c':Array Value}{fz:Nat × Nat}{sz:Nat}(h:c.size=c'.size)(t:J9 c fz sz):J9 c' fz sz:=by unfold J9 at *;rw[<- h];exact t
def Ext.Bv{M:Nat->Prop}{w w':World}(h:Ext M w w')(B:Nat):Bv w B<=Bv w' B:=by
 unfold AM.Bv;cases e:w.heap[B]? with
 | none=>simp
 | some o=>
  cases o with
  | cells c t fz=>obtain⟨c',e',hs⟩:=h.shape B c t fz e;simp[e',hs]
  | _=>simp
def Ext.trans{M M':Nat->Prop}{w w' Qz:World}(h:Ext M w w')(h':Ext M' w' Qz)(hM:∀ B,M' B->M B\/w.heap.size<=B):Ext M w Qz:=
 ⟨h'.os.trans h.os,h'.tape.trans h.tape,h'.output.trans h.output,CI h.size h'.size,
  λB hB hn=>(h'.keep B (He hB h.size) (λhm=>(hM B hm).elim hn (λh=>by omega))).trans (h.keep B hB hn),
  λB c e fz hc=>let ⟨c',e',s⟩:=h.shape B c e fz hc;let ⟨zV,zW,s'⟩:=h'.shape B c' e fz e';⟨zV,zW,s'.trans s⟩,
  λB c e fz hB hc=>let ⟨c',e',s⟩:=h'.back B c e fz (He hB h.size) hc;let ⟨zV,zW,s'⟩:=h.back B c' e fz hB e';⟨zV,zW,s'.trans s⟩⟩
def Ext.weaken{M M':Nat->Prop}{w w':World}(h:Ext M w w')(hM:∀ B,M B->M' B):Ext M' w w':=
 ⟨h.os,h.tape,h.output,h.size,λB hB hn=>h.keep B hB (λhm=>hn (hM B hm)),h.shape,h.back⟩
structure Step(base:Nat)(rd:Nat->BS)(φ:Ac)(I:Nat->Prop)(w:World)(As:Nat->BS)(φ':Ac)(I':Nat->Prop)(w':World):Prop where
 le:∀ b p,b<base->φ b=some p->φ' b=some p
 F8:∀ B,I B->I' B
 F3:∀ B,I' B->I B\/Ca φ rd B\/w.heap.size<=B
 mt:∀ B,Ca φ' As B->Ca φ rd B\/w.heap.size<=B
 ext:Ext (Ca φ rd) w w'
 ok:∀ B,(I' B\/Ca φ' As B)->((I B\/Ca φ rd B)->F7 w B)->F7 w' B
def Step.of{base:Nat}{rd As:Nat->BS}{φ φ':Ac}{I I':Nat->Prop}{w w':World}(h1:∀ b p,b<base->φ b=some p->φ' b=some p)(h2:∀ B,I B->I' B)(h3:∀ B,I' B->I B\/Ca φ rd B\/w.heap.size<=B)
  (h4:∀ B,Ca φ' As B->Ca φ rd B\/w.heap.size<=B) (h5:Ext (Ca φ rd) w w') (hn:GF w w'):Step base rd φ I w As φ' I' w':=
 ⟨h1,h2,h3,h4,h5,λB hB hy=>hn B λc e fz h=>by
  have:(I B\/Ca φ rd B)\/w.heap.size<=B:=by
   rcases hB with hB | hB
   ·rcases h3 B hB with x | x | x
    ·exact .inl (.inl x)
    ·exact .inl (.inr x)
    ·exact .inr x
   ·rcases h4 B hB with x | x
    ·exact .inl (.inr x)
    ·exact .inr x
  rcases this with x | x
  ·exact hy x c e fz h
  ·exact(ao8 x h).elim⟩
def Step.refl(base:Nat)(rd:Nat->BS)(φ:Ac)(I:Nat->Prop)(w:World):Step base rd φ I w rd φ I w:=
 ⟨λ_ _ _ h=>h,λ_ h=>h,λ_ h=>.inl h,λ_ h=>.inl h,Ext.refl _ _,λ_ h hy=>hy h⟩
def Step.trans{base:Nat}{rd As ahD:Nat->BS}{φ φ' Vs:Ac}{I I' VZ:Nat->Prop}{w w' Qz:World}
  (h:Step base rd φ I w As φ' I' w') (h':Step base As φ' I' w' ahD Vs VZ Qz):Step base rd φ I w ahD Vs VZ Qz:=
 ⟨λb p hb e=>h'.le b p hb (h.le b p hb e),λB hB=>h'.F8 B (h.F8 B hB),
  λB hB=>(h'.F3 B hB).elim (λx=>h.F3 B x) (λx=>x.elim (λy=>.inr (h.mt B y)) (λy=>.inr (.inr (CI h.ext.size y)))),
  λB hB=>(h'.mt B hB).elim (λx=>h.mt B x) (λx=>.inr (CI h.ext.size x)),
  h.ext.trans h'.ext h.mt,λB hB hy=>h'.ok B hB λhk=>h.ok B hk hy⟩
def Step.mono{base afG:Nat}{rd As:Nat->BS}{φ φ':Ac}{I I':Nat->Prop}{w w':World}(h:Step base rd φ I w As φ' I' w')(hb:afG<=base) :
  Step afG rd φ I w As φ' I' w':=⟨λb p hlt e=>h.le b p (He hlt hb) e,h.F8,h.F3,h.mt,h.ext,h.ok⟩
def RV.step{w w':World}{I I':Nat->Prop}{φ φ':Ac}{rd As:Nat->BS}{base:Nat}{v:AV}{u:Value}(h:RV w I φ v u)(hh:RH w I φ rd)
  (s:Step base rd φ I w As φ' I' w') (le:Ac.le φ φ'):RV w' I' φ' v u:=
 h.mono (λB hB=>⟨s.F8 B hB,s.ext.keep B (hh.lt B hB) (λ⟨b,o,sz,hm,e⟩=>hh.CP b B o sz hm e hB)⟩) s.ext.Bv le
def BU(rd:Nat->BS)(b:Nat)(x:BS):Nat->BS:=λb'=>if b'=b then x else rd b'
def Ee(rd:Nat->BS):Wr->Nat->BS
 | []=>rd
 | (b,x)::r=>Ee (BU rd b x) r
@[simp] theorem DL(rd:Nat->BS)(b:Nat)(x:BS):BU rd b x b=x:=by simp[BU]
def C0(rd:Nat->BS){b b':Nat}(x:BS)(h:b' ≠ b):BU rd b x b'=rd b':=by simp[BU,h]
def ZS(h:Heap)(b:Nat)(x:BS)(b':Nat):Ab (Fm h b x) b'=BU (Ab h) b x b':=by
 induction b generalizing h b' with
 | zero=>cases h <;> cases b' <;> simp[Fm,Ab,BU]
 | succ b ih=>
  cases h with
  | nil=>
   cases b' with
   | zero=>simp[Fm,Ab,BU]
   | succ b'=>have:=ih [] b';simp[Fm,Ab,BU]at this ⊢;simpa using this
  | cons y h=>
   cases b' with
   | zero=>simp[Fm,Ab,BU]
   | succ b'=>have:=ih h b';simp[Fm,Ab,BU]at this ⊢;simpa using this
def tj(h:Heap)(l:Wr):Ab (RI h l)=Ee (Ab h) l:=by
 induction l generalizing h with
 | nil=>rfl
 | cons p r ih=>obtain⟨b,x⟩:=p;show Ab (RI (Fm h b x) r)=_;rw[ih];have:Ab (Fm h b x)=BU (Ab h) b x:=funext (ZS h b x);rw[this];rfl
def Ac.set(φ:Ac)(b:Nat)(p:Nat × Nat × Nat):Ac:=λb'=>if b'=b then some p else φ b'
@[simp] theorem Ac.E5(φ:Ac)(b:Nat)(p:Nat × Nat × Nat):φ.set b p b=some p:=by simp[Ac.set]
def Ac.Rv(φ:Ac){b b':Nat}(p:Nat × Nat × Nat)(h:b' ≠ b):φ.set b p b'=φ b':=by simp[Ac.set,h]
def Ac.PH{φ:Ac}{b:Nat}(h:φ b=none)(p:Nat × Nat × Nat):Ac.le φ (φ.set b p):=by
 intro b' q e;by_cases hb:b'=b
 ·subst hb;rw[h]at e;cases e
 ·rw[Ac.Rv _ _ hb];exact e
def World.BI(w:World)(B:Nat)(o:Obj):World:={w with heap:=w.heap.setIfInBounds B o}
def FR{w:World}{B:Nat}{o:Obj}(h:B<w.heap.size):(World.BI w B o).heap[B]? = some o:=by simp[World.BI,h]
def GL{w:World}{B B':Nat}{o:Obj}(h:B' ≠ B):(World.BI w B o).heap[B']? = w.heap[B']? := by simp only[World.BI];rw[bg (λe=>h e.symm)]
@[simp] theorem azf(w:World)(B:Nat)(o:Obj):(World.BI w B o).heap.size=w.heap.size:=by simp[World.BI]
def CQ{w:World}{B:Nat}{o:Obj}(h:w.heap[B]? = some o):B<w.heap.size:=by
 rcases Cj B w.heap.size with h' | h'
 ·exact h'
 ·rw[JB h']at h;cases h
def No(w:World)(o:Obj):(w.alloc o).heap[w.heap.size]? = some o:=by show(w.heap.push o)[w.heap.size]? = _;simp
def alloc_old(w:World)(o:Obj){B:Nat}(h:B<w.heap.size):(w.alloc o).heap[B]? = w.heap[B]? := by show(w.heap.push o)[B]? = _;rw[Vq,AE (by omega)]
def OE(o:Obj):Prop:=∀ c e fz,o=.cells c e fz->okC c fz
def OE.row{c:Array Value}{e:TypeId}(h1:One c):OE (.cells c e):=λc' e' fz h=>by cases h;exact⟨λk _ h=>DP 0 (Nat.lt_of_le_of_lt (Bu _) h.2),.inr λh=>C5 _ h.2,h1⟩
def Ext.alloc(M:Nat->Prop)(w:World)(o:Obj):Ext M w (w.alloc o):=
 ⟨rfl,rfl,rfl,by simp,λB hB _=>alloc_old w o hB,λB c e fz h=>⟨c,(alloc_old w o (CQ h)).trans h,rfl⟩,
  λB c e fz hB h=>⟨c,(alloc_old w o hB).symm.trans h,rfl⟩⟩
def GF.alloc(w:World)(o:Obj)(ho:OE o):GF w (w.alloc o):=λB hy c e fz h=>by
 rcases Qg B w.heap.size with hB | hB | hB
 ·exact hy c e fz ((alloc_old w o hB).symm.trans h)
 ·subst hB;rw[No]at h;cases h;exact ho _ _ _ rfl
 ·have:=CQ h;simp at this;omega
def ez(w:World)(o:Obj)(B:Nat):Bv w B<=Bv (w.alloc o) B:=by
 unfold Bv;cases e:w.heap[B]? with
 | none=>exact Bu _
 | some x=>rw[alloc_old w o (CQ e),e];exact Ar _
def Ext.drew(M:Nat->Prop)(w:World):Ext M w w.drew:=
 ⟨rfl,rfl,rfl,Ar _,λ_ _ _=>rfl,λ_ c _ _ h=>⟨c,h,rfl⟩,λ_ c _ _ _ h=>⟨c,h,rfl⟩⟩
def GF.setObj{w:World}{B:Nat}{o ob:Obj}(h:w.heap[B]? = some o)(CZ:∀ c e fz,ob ≠ .cells c e fz):GF w (World.BI w B ob):=λB' hy c2 e2 fz2 h2=>by
 by_cases hb:B'=B
 ·subst hb;rw[FR (CQ h)]at h2;exact(CZ c2 e2 fz2 (Option.some.inj h2)).elim
 ·exact hy c2 e2 fz2 ((GL hb).symm.trans h2)
def GF.drew(w:World):GF w w.drew:=λB hy c e fz h=>hy c e fz h
def Ext.BI{M:Nat->Prop}{w:World}{B:Nat}{c c':Array Value}{e:TypeId}{fz:Nat × Nat}(h:w.heap[B]? = some (.cells c e fz))(hs:c'.size=c.size)
  (hM:M B):Ext M w (World.BI w B (.cells c' e fz)):=by
 refine⟨rfl,rfl,rfl,by simp,λB' _ hn=>GL (λe=>hn (e ▸ hM)),λB' c1 e1 cg h1=>?_,λB' c1 e1 cg _ h1=>?_⟩
 ·by_cases hb:B'=B
  ·subst hb;rw[h]at h1;cases h1;exact⟨c',FR (CQ h),hs⟩
  ·exact⟨c1,(GL hb).trans h1,rfl⟩
 ·by_cases hb:B'=B
  ·subst hb;rw[FR (CQ h)]at h1;cases h1;exact⟨c,h,hs.symm⟩
  ·exact⟨c1,(GL hb).symm.trans h1,rfl⟩
def GF.BI{w:World}{B:Nat}{c c':Array Value}{e:TypeId}{fz:Nat × Nat}(h:w.heap[B]? = some (.cells c e fz))(hs:c'.size=c.size)(h1:One c->One c'):GF w (World.BI w B (.cells c' e fz)):=λB' hy c2 e2 fz2 h2=>by
 by_cases hb:B'=B
 ·subst hb;rw[FR (CQ h)]at h2;cases h2;obtain⟨o1,o2,o3⟩:=hy _ _ _ h;exact⟨ajx hs.symm o1,ajy hs.symm o2,h1 o3⟩
 ·exact hy c2 e2 fz2 ((GL hb).symm.trans h2)
def RH.change{w w':World}{I:Nat->Prop}{φ φ':Ac}{rd As:Nat->BS}(h:RH w I φ rd)(le:Ac.le φ φ')(ext:Ext (Ca φ rd) w w')(C:Nat->Prop)
  (Lu:∀ b,¬ C b->As b=rd b/\φ' b=φ b)
  (RL:∀ b B o sz,¬ C b->live (rd b)=true->φ b=some (B,o,sz)->w'.heap[B]? = w.heap[B]?)
  (ER:∀ b,C b->(As b=.none->φ' b=.none)/\(live (As b)=true->AZ (As b)=true /\ ∃ B o sz,φ' b=some (B,o,sz)/\RB w' I φ' B o sz (As b) /\ ¬ I B /\
   ∀ b',b' ≠ b->AZ (As b')=true -> ∀ o' sz',φ' b' ≠ some (B,o',sz'))):RH w' I φ' As:=by
 have hI:∀ B,I B->I B/\w'.heap[B]? = w.heap[B]? := λB hB=>⟨hB,ext.keep B (h.lt B hB) λ⟨b,o,sz,hm,e⟩=>h.CP b B o sz hm e hB⟩
 refine⟨λb e=>?_,λb hl=>?_,λb b' B o sz o' sz' hm BW e e'=>?_,λb B o sz hm e hB=>?_,λb B o sz hl hm e=>?_,λB hB=>He (h.lt B hB) ext.size⟩
 ·by_cases hC:C b
  ·exact(ER b hC).1 e
  ·obtain⟨h1,h2⟩:=Lu b hC;rw[h2];exact h.none b (h1 ▸ e)
 ·by_cases hC:C b
  ·obtain⟨_,B,o,sz,e,r,_⟩:=(ER b hC).2 hl;exact .inl ⟨B,o,sz,e,r⟩
  ·obtain⟨h1,h2⟩:=Lu b hC;rw[h1]at hl ⊢;rcases h.CY b hl with ⟨B,o,sz,e,r⟩ | ⟨e,hp⟩
   ·exact .inl ⟨B,o,sz,by rw[h2];exact e,r.mono hI ext.Bv le (RL b B o sz hC hl e)⟩
   ·exact .inr ⟨h2.trans e,hp⟩
 ·by_cases hC:C b
  ·obtain⟨_,B1,o1,s1,e1,_,_,hd⟩:=(ER b hC).2 (Fv hm);rw[e1]at e;cases e;by_cases hb:b'=b
   ·exact hb.symm
   ·exact absurd e' (hd b' hb BW _ _)
  ·by_cases hC':C b'
   ·obtain⟨_,B1,o1,s1,e1,_,_,hd⟩:=(ER b' hC').2 (Fv BW);rw[e1]at e';cases e';by_cases hb:b=b'
    ·exact hb
    ·exact absurd e (hd b hb hm _ _)
   ·obtain⟨h1,h2⟩:=Lu b hC;obtain⟨h3,h4⟩:=Lu b' hC';rw[h1]at hm;rw[h3]at BW;rw[h2]at e;rw[h4]at e';exact h.inj b b' B o sz o' sz' hm BW e e'
 ·by_cases hC:C b
  ·obtain⟨_,B1,o1,s1,e1,_,hn,_⟩:=(ER b hC).2 (Fv hm);rw[e1]at e;cases e;exact hn hB
  ·obtain⟨h1,h2⟩:=Lu b hC;rw[h1]at hm;rw[h2]at e;exact h.CP b B o sz hm e hB
 ·by_cases hC:C b
  ·obtain⟨BW,_⟩:=(ER b hC).2 hl;rw[BW]at hm;cases hm
  ·obtain⟨h1,h2⟩:=Lu b hC;rw[h1]at hm hl;rw[h2]at e;exact h.Ea b B o sz hl hm e
def RH.alloc{w:World}{I:Nat->Prop}{φ:Ac}{rd:Nat->BS}(h:RH w I φ rd){nx:Nat}(hn:rd nx=.none)(o:Obj)(x:BS)(sz:Nat)
  (hm:AZ x=true) (hx:RB (w.alloc o) I (φ.set nx (w.heap.size,0,sz)) w.heap.size 0 sz x) (ho:OE o) (base:Nat) :
  RH (w.alloc o) I (φ.set nx (w.heap.size,0,sz)) (BU rd nx x)/\Step base rd φ I w (BU rd nx x) (φ.set nx (w.heap.size,0,sz)) I (w.alloc o)/\Ac.le φ (φ.set nx (w.heap.size,0,sz)):=by
 have AI:=h.none nx hn;have le:=Ac.PH AI (w.heap.size,0,sz);have hlt:∀ b B o sz,live (rd b)=true->φ b=some (B,o,sz)->RB w I φ B o sz (rd b)->B<w.heap.size:=by
  intro b B o sz hl e r;cases hx:rd b with
  | arr m s es=>rw[hx]at r;obtain⟨_,⟨c,t,fz,hc,_⟩,_⟩:=r;exact CQ hc
  | seq m s n f=>rw[hx]at r;obtain⟨_,⟨c,t,fz,hc,_⟩,_⟩:=r;exact CQ hc
  | map m es=>rw[hx]at r;obtain⟨_,_,mes,clock,hc,_⟩:=r;exact CQ hc
  | iter m es st=>rw[hx]at r;obtain⟨_,_,mm,since,seen,mes,clock,hc,_⟩:=r;exact CQ hc
  | Cb m s n f i0 c0 ks cur=>rw[hx]at r;obtain⟨_,⟨c,t,fz,hc,_⟩,_⟩:=r;exact CQ hc
  | pmap m ks val=>rw[hx]at r;obtain⟨_,_,mes,clock,hc,_⟩:=r;exact CQ hc
  | Fz m ks val rem cur=>rw[hx]at r;obtain⟨_,_,mm,since,seen,mes,clock,hc,_⟩:=r;exact CQ hc
  | none=>rw[hx]at hl;cases hl
  | dead=>rw[hx]at hl;cases hl
 have Ja:∀ b B o sz,live (rd b)=true->φ b=some (B,o,sz)->B<w.heap.size:=by intro b B o sz hl e;obtain⟨B',o',sz',e',r⟩:=h.JI e hl;rw[e]at e';cases e';exact hlt b B o sz hl e r
 refine⟨h.change le (Ext.alloc _ w o) (· = nx) (λb hb=>⟨C0 _ _ hb,Ac.Rv _ _ hb⟩) (λb B o' sz' _ hl e=>alloc_old w o (Ja b B o' sz' hl e)) ?_,
  Step.of (λb p _ e=>le b p e) (λ_ hB=>hB) (λ_ hB=>.inl hB) ?_ (Ext.alloc _ w o) (GF.alloc w o ho),le⟩
 ·rintro b rfl;refine⟨(λe=>(by rw[DL]at e;rw[e]at hm;cases hm)),λ_=>⟨by rw[DL];exact hm,_,0,sz,Ac.E5 _ _ _,by rw[DL];exact hx,λhI=>DP _ (h.lt _ hI),?_⟩⟩;intro b' hb BW o' sz' e;rw[C0 _ _ hb]at BW;rw[Ac.Rv _ _ hb]at e;exact DP _ (Ja b' _ _ _ (Fv BW) e)
 ·rintro B ⟨b,o',sz',BW,e⟩;by_cases hb:b=nx
  ·subst hb;rw[Ac.E5]at e;cases e;exact .inr (Ar _)
  ·rw[C0 _ _ hb]at BW;rw[Ac.Rv _ _ hb]at e;exact .inl ⟨b,o',sz',BW,e⟩
def RH.write{w:World}{I:Nat->Prop}{φ:Ac}{rd:Nat->BS}(h:RH w I φ rd){b B o sz:Nat}(hb:φ b=some (B,o,sz))(hm:AZ (rd b)=true)
  {c c':Array Value} {e:TypeId} {fz:Nat × Nat} (hc:w.heap[B]? = some (.cells c e fz)) (hs:c'.size=c.size) (x:BS) (QA:AZ x=true)
  (hx:RB (World.BI w B (.cells c' e fz)) I φ B o sz x) (h1:One c->One c') (base:Nat) :
  RH (World.BI w B (.cells c' e fz)) I φ (BU rd b x)/\Step base rd φ I w (BU rd b x) φ I (World.BI w B (.cells c' e fz)):=by
 have hM:Ca φ rd B:=⟨b,o,sz,hm,hb⟩
 have ext:=Ext.BI (M:=Ca φ rd) hc hs hM;refine⟨h.change (Ac.le_refl _) ext (· = b) (λb' Aw=>⟨C0 _ _ Aw,rfl⟩) ?_ ?_,Step.of (λ_ _ _ e=>e) (λ_ hB=>hB) (λ_ hB=>.inl hB) ?_ ext (GF.BI hc hs h1)⟩
 ·intro b' B' o' sz' hne hl e';refine GL λhB=>?_;subst hB;cases DB:AZ (rd b')with
  | true=>exact hne (h.inj b' b _ _ _ _ _ DB hm e' hb)
  | false=>exact h.CP b _ _ _ hm hb (h.Ea b' _ _ _ hl DB e')
 ·rintro b' rfl;refine⟨(λe'=>(by rw[DL]at e';rw[e']at QA;cases QA)),λ_=>⟨by rw[DL];exact QA,B,o,sz,hb,by rw[DL];exact hx,h.CP _ _ _ _ hm hb,?_⟩⟩;intro jc hne Kp o' sz' e';rw[C0 _ _ hne]at Kp;exact hne (h.inj _ _ _ _ _ _ _ Kp hm e' hb)
 ·rintro B' ⟨b',o',sz',BW,e'⟩;by_cases Di:b'=b
  ·subst Di;rw[hb]at e';cases e';exact .inl hM
  ·rw[C0 _ _ Di]at BW;exact .inl ⟨b',o',sz',BW,e'⟩
def RH.move{w:World}{I:Nat->Prop}{φ:Ac}{rd:Nat->BS}(h:RH w I φ rd){b nx B o sz:Nat}(hb:φ b=some (B,o,sz))(hm:AZ (rd b)=true)(hn:rd nx=.none)
  {c c':Array Value} {e:TypeId} {fz:Nat × Nat} (hc:w.heap[B]? = some (.cells c e fz)) (hs:c'.size=c.size) (x:BS) (o':Nat) (QA:AZ x=true)
  (hx:RB (World.BI w B (.cells c' e fz)) I (φ.set nx (B,o',sz)) B o' sz x) (h1:One c->One c') (base:Nat) :
  RH (World.BI w B (.cells c' e fz)) I (φ.set nx (B,o',sz)) (BU (BU rd b .dead) nx x) /\
   Step base rd φ I w (BU (BU rd b .dead) nx x) (φ.set nx (B,o',sz)) I (World.BI w B (.cells c' e fz))/\Ac.le φ (φ.set nx (B,o',sz)):=by
 have hM:Ca φ rd B:=⟨b,o,sz,hm,hb⟩
 have ext:=Ext.BI (M:=Ca φ rd) hc hs hM;have le:=Ac.PH (h.none nx hn) (B,o',sz);have Jh:b ≠ nx:=by rintro rfl;rw[hn]at hm;cases hm
 refine⟨h.change le ext (λb'=>b'=b\/b'=nx) (λb' Aw=>⟨by rw[C0 _ _ (λe=>Aw (.inr e)),C0 _ _ (λe=>Aw (.inl e))],Ac.Rv _ _ (λe=>Aw (.inr e))⟩) ?_ ?_,
  Step.of (λb' p _ e'=>le b' p e') (λ_ hB=>hB) (λ_ hB=>.inl hB) ?_ ext (GF.BI hc hs h1),le⟩
 ·intro b' B' jd sz' hne hl e';refine GL λhB=>?_;subst hB;cases DB:AZ (rd b')with
  | true=>exact hne (.inl (h.inj b' b _ _ _ _ _ DB hm e' hb))
  | false=>exact h.CP b _ _ _ hm hb (h.Ea b' _ _ _ hl DB e')
 ·intro b' Aw;by_cases Fb:b'=nx
  ·subst Fb;refine⟨(λe'=>(by rw[DL]at e';rw[e']at QA;cases QA)),λ_=>⟨by rw[DL];exact QA,B,o',sz,Ac.E5 _ _ _,by rw[DL];exact hx,h.CP _ _ _ _ hm hb,?_⟩⟩;intro jc hne Kp jd sz' e';rw[C0 _ _ hne]at Kp;rw[Ac.Rv _ _ hne]at e';by_cases h2:jc=b
   ·subst h2;rw[DL]at Kp;cases Kp
   ·rw[C0 _ _ h2]at Kp;exact h2 (h.inj _ _ _ _ _ _ _ Kp hm e' hb)
  ·have h3:b'=b:=Aw.resolve_right Fb;subst h3;rw[C0 _ _ Fb,DL];exact⟨(λe'=>(by cases e')),(λe'=>(by cases e'))⟩
 ·rintro B' ⟨b',jd,sz',BW,e'⟩;by_cases Fb:b'=nx
  ·subst Fb;rw[Ac.E5]at e';cases e';exact .inl hM
  ·rw[C0 _ _ Fb]at BW;rw[Ac.Rv _ _ Fb]at e';by_cases h2:b'=b
   ·subst h2;rw[DL]at BW;cases BW
   ·rw[C0 _ _ h2]at BW;exact .inl ⟨b',jd,sz',BW,e'⟩
def RH.TJ{w:World}{I:Nat->Prop}{φ:Ac}{rd:Nat->BS}(h:RH w I φ rd){nx:Nat}(hn:rd nx=.none)(m:Bool)(sz:Nat)(f:Nat->List AV) :
  RH w I φ (BU rd nx (.seq m sz 0 f)) /\ ∀ base,Step base rd φ I w (BU rd nx (.seq m sz 0 f)) φ I w:=by
 have AI:=h.none nx hn;have hm:∀ {b B o sz'},φ b=some (B,o,sz')->BU rd nx (.seq m sz 0 f) b=rd b:=λ{b B o sz'} e=>by refine C0 _ _ ?_;rintro rfl;rw[AI]at e;cases e
 refine⟨⟨λb e=>?_,λb hl=>?_,λb b' B o s o' s' hb Aw e e'=>h.inj b b' B o s o' s' (hm e ▸ hb) (hm e' ▸ Aw) e e',λb B o s hb e=>h.CP b B o s (hm e ▸ hb) e,λb B o s hl hb e=>h.Ea b B o s (hm e ▸ hl) (hm e ▸ hb) e,h.lt⟩,
  λbase=>Step.of (λ_ _ _ e=>e) (λ_ hB=>hB) (λ_ hB=>.inl hB) (λB ⟨b,o,s,hb,e⟩=>.inl ⟨b,o,s,hm e ▸ hb,e⟩) (Ext.refl _ _) (GF.refl _)⟩
 ·by_cases hb:b=nx
  ·subst hb;exact AI
  ·rw[C0 _ _ hb]at e;exact h.none b e
 ·by_cases hb:b=nx
  ·subst hb;exact .inr ⟨AI,by rw[DL];rfl⟩
  ·rw[C0 _ _ hb]at hl ⊢;exact h.CY b hl
def RH.kill{w:World}{I:Nat->Prop}{φ:Ac}{rd:Nat->BS}(h:RH w I φ rd)(b:Nat)(hb:live (rd b)=true)(base:Nat) :
  RH w I φ (BU rd b .dead)/\Step base rd φ I w (BU rd b .dead) φ I w:=by
 refine⟨h.change (Ac.le_refl _) (Ext.refl _ _) (· = b) (λb' Aw=>⟨C0 _ _ Aw,rfl⟩) (λ_ _ _ _ _ _ _=>rfl) ?_,Step.of (λ_ _ _ e=>e) (λ_ hB=>hB) (λ_ hB=>.inl hB) ?_ (Ext.refl _ _) (GF.refl _)⟩
 ·rintro b' rfl;rw[DL];exact⟨(λe'=>(by cases e')),(λe'=>(by cases e'))⟩
 ·rintro B' ⟨b',o',sz',BW,e'⟩;by_cases Di:b'=b
  ·subst Di;rw[DL]at BW;cases BW
  ·rw[C0 _ _ Di]at BW;exact .inl ⟨b',o',sz',BW,e'⟩
def RH.drew{w:World}{I:Nat->Prop}{φ:Ac}{rd:Nat->BS}(h:RH w I φ rd)(base:Nat):RH w.drew I φ rd/\Step base rd φ I w rd φ I w.drew:=
 ⟨h.change (Ac.le_refl _) (Ext.drew _ w) (λ_=>False) (λ_ _=>⟨rfl,rfl⟩) (λ_ _ _ _ _ _ _=>rfl) (λ_ hf=>hf.elim),
  Step.of (λ_ _ _ e=>e) (λ_ hB=>hB) (λ_ hB=>.inl hB) (λ_ hB=>.inl hB) (Ext.drew _ w) (GF.drew _)⟩
def CF(c:Array Value)(k:Nat):List Value->Array Value
 | []=>c
 | v::r=>CF (c.setIfInBounds k v) (k+1) r
@[simp] theorem IP(vs:List Value):∀ (c:Array Value) (k:Nat),(CF c k vs).size=c.size:=by
 induction vs with
 | nil=>intro c k;rfl
 | cons v r ih=>intro c k;rw[CF,ih];simp
def UM{us:List Value}:∀ {c:Array Value} {p:Nat},(∀ v ∈ us,v.oneCell'=true)->One c->One (CF c p us):=by
 induction us with
 | nil=>intro c p _ h;exact h
 | cons v r ih=>
  intro c p hu h;rw[CF];refine ih (λx hx=>hu x (JC _ hx)) λk x hx=>?_;rw[Array.getElem?_setIfInBounds]at hx;split at hx
  ·split at hx
   ·cases hx;exact hu _ (by simp)
   ·cases hx
  ·exact h k x hx
def Nn(vs:List Value):∀ (c:Array Value) (k q:Nat),k+vs.length<=c.size ->
  (CF c k vs)[q]? = if k<=q/\q<k+vs.length then vs[q - k]? else c[q]? := by
 induction vs with
 | nil=>intro c k q h;rw[CF,AE (by intro hh;simp at hh;omega)]
 | cons v r ih=>
  intro c k q h;simp only[CR]at h ⊢;rw[CF,ih _ _ _ (by simp;omega)];by_cases h1:k+1<=q/\q<k+1+r.length
  ·rw[Ay h1,Ay (by omega)];have:q - k=(q - (k+1))+1:=by omega
   rw[this];simp
  ·rw[AE h1];by_cases h2:q=k
   ·subst h2;rw[Ay (by omega)];simp[show q<c.size by omega]
   ·rw[AE (by omega),bg (λe=>h2 e.symm)]
def cell_of{w:World}{B q:Nat}{c:Array Value}{e:TypeId}{fz:Nat × Nat}(h:w.heap[B]? = some (.cells c e fz)):w.cell? ⟨B,q,none⟩=c[q]? := by simp[World.cell?,h]
def aa5{w:World}{B q:Nat}{c:Array Value}{e:TypeId}{fz:Nat × Nat}(h:w.heap[B]? = some (.cells c e fz))(ht:Mp c fz)(hq:q<c.size) :
  w.frozen? ⟨B,q,none⟩=false:=by
 have:=ht q hq;simp only[World.frozen?,h];simpa using this
def Mm(B o n:Nat):(⟨B,o,none⟩:Addr).add n=⟨B,o+n,none⟩:=by
 unfold Addr.add;split
 ·rename_i h;subst h;rfl
 ·rfl
def WX{P:Program}{B o:Nat}{e:TypeId}{fz:Nat × Nat}:∀ (vs:List Value) (i:Nat) (c:Array Value) (w:World),w.heap[B]? = some (.cells c e fz) ->
  o+i+vs.length<=c.size->Mp c fz->(∀ v ∈ vs,v.oneCell'=true) ->
  (storeCells ⟨B,o,none⟩ vs i).run P w=.ok () (World.BI w B (.cells (CF c (o+i) vs) e fz))
 | [],i,c,w,h,_,_,_=>by
  simp only[storeCells,CS,CF];congr 1;cases w;simp only[World.BI,World.mk.injEq,and_true];apply XA;intro j;by_cases hj:j=B
  ·subst hj;rw[oz (CQ h)];exact h
  ·rw[bg (λe=>hj e.symm)]
 | v::r,i,c,w,h,hl,ht,h1=>by
  simp only[CR]at hl;have hq:o+i<c.size:=by omega
  have hv:=h1 v (by simp);have XZ:w.setCell ⟨B,o+i,none⟩ v=World.BI w B (.cells (c.setIfInBounds (o+i) v) e fz):=by
   have hB:=CQ h;cases w;simp only[World.setCell,World.BI,World.mk.injEq,and_true];apply XA;intro j;by_cases hj:j=B
   ·subst hj;rw[oz hB,ar,Ay rfl,h];simp
   ·rw[bg (λe=>hj e.symm),ar,AE (λe=>hj e.symm)]
  have hst:(store ((⟨B,o,none⟩:Addr).add i) v).run P w=.ok () (World.BI w B (.cells (c.setIfInBounds (o+i) v) e fz)):=by rw[run_store P w _ v _ hv,Mm,cell_of h,Cy hq];simp only[aa5 h ht hq];rw[<- XZ];rfl
  have ih:=WX (P:=P) (o:=o) r (i+1) (c.setIfInBounds (o+i) v) (World.BI w B (.cells (c.setIfInBounds (o+i) v) e fz)) (FR (CQ h))
   (by simp;omega) (λk hk=>ht k (by simpa using hk)) (λu hu=>h1 u (by simp[hu]))
  simp only[storeCells,Ce,hst,Co,ih];congr 1;simp only[World.BI,CF,Array.setIfInBounds_setIfInBounds];rfl
def Zy{P:Program}{w:World}{B o n:Nat}(vs:List Value)(hn:vs.length=n)(h:∀ (j:Nat) v,vs[j]? = some v->w.cell? ⟨B,o+j,none⟩=some v) :
  (loadCells ⟨B,o,none⟩ n).run P w=.ok vs.toArray w:=by
 subst hn;exact run_loadCells_list w _ vs λj v e=>by rw[Mm];exact h j v e
def E8(P:Program)(tt:TT):Prop:=∀ t x,tt t=some x->GA P t=some x
section
variable {P:Program} {t:TypeId} {ti:TI}
def Ol(h:GA P t=some ti):∃ i,P.info? t=some i/\i.size=ti.size/\i.bytes=ti.bytes/\P.underlying t=some ti.desc /\
  ti.agg=(match ti.desc with | .struct _ | .array _ _=>true | _=>false)/\(ti.zero=i.zero.bind λv=>bif(Ls v).storable then some (Ls v).cells else .none)/\ti.xg=P.stoodInHeld t /\
  ti.zv=(i.zero.bind λv=>bif(Ls v).storable then some (Ls v)else .none):=by
 unfold GA at h;split at h
 ·rename_i i d hi hd;cases h;exact⟨i,hi,rfl,rfl,hd,rfl,rfl,rfl,rfl⟩
 ·cases h
def run_sizeOf(h:GA P t=some ti)(w:World):(sizeOf t).run P w=.ok ti.size w:=by obtain⟨i,hi,hs,hb,_⟩:=Ol h;simp[sizeOf,typeInfo,hi,hs]
def run_underlying(h:GA P t=some ti)(w:World):(underlying t).run P w=.ok ti.desc w:=by obtain⟨i,hi,hs,hb,hd,_⟩:=Ol h;simp[underlying,hd]
def ZT(h:GA P t=some ti)(w:World):(isAgg t).run P w=.ok ti.agg w:=by obtain⟨i,hi,hs,hb,hd,ha,_⟩:=Ol h;unfold isAgg;simp only[Ce,run_underlying h,Co];rw[ha];split <;> simp_all
def Xg(h:GA P t=some ti){z:List AV}(hz:ti.zero=some z)(w:World)(I:Nat->Prop)(φ:Ac) :
  ∃ v,(zeroValue t).run P w=.ok v w/\(Ls v).storable=true/\(Ls v).cells=z/\RC w I φ z v.cells:=by
 obtain⟨i,hi,hs,hb,hd,ha,he,_⟩:=Ol h;rw[he]at hz;cases hv:i.zero with
 | none=>rw[hv]at hz;cases hz
 | some v=>
  rw[hv]at hz;simp only[U7]at hz;cases hst:(Ls v).storable with
  | false=>rw[hst]at hz;cases hz
  | true=>rw[hst]at hz;simp only[Ae,CU]at hz;refine⟨v,by simp[zeroValue,typeInfo,hi,hv],hst,hz,?_⟩;rw[<- hz];exact(uh w I φ v).cells hst
def wb(h:GA P t=some ti){z:AV}(hz:ti.zv=some z)(w:World)(I:Nat->Prop)(φ:Ac):∃ v,(zeroValue t).run P w=.ok v w/\RV w I φ z v:=by
 obtain⟨i,hi,hs,hb,hd,ha,he,_,hzv⟩:=Ol h;rw[hzv]at hz;cases hv:i.zero with
 | none=>rw[hv]at hz;cases hz
 | some v=>
  rw[hv]at hz;simp only[U7]at hz;cases hst:(Ls v).storable with
  | false=>rw[hst]at hz;cases hz
  | true=>rw[hst]at hz;simp only[Ae,CU]at hz;exact⟨v,by simp[zeroValue,typeInfo,hi,hv],hz ▸ uh w I φ v⟩
def Cells(w:World)(I:Nat->Prop)(φ:Ac)(B o:Nat)(cs:List AV):Prop:=
 ∀ (k:Nat) c,cs[k]? = some c -> ∃ u,w.cell? ⟨B,o+k,none⟩=some u/\u.oneCell'=true/\RV w I φ c u
def ajk{w:World}{I:Nat->Prop}{φ:Ac}{B o j n:Nat}{cs:List AV}(hc:Cells w I φ B o cs)(hn:j+n<=cs.length) :
  ∃ us:List Value,us.length=n/\(∀ (q:Nat) v,us[q]? = some v->w.cell? ⟨B,o+j+q,none⟩=some v)/\RC w I φ ((cs.drop j).take n) us.toArray:=by
 refine⟨(List.range n).map λq=>(w.cell? ⟨B,o+j+q,none⟩).getD undef,by simp,?_,?_,?_,?_⟩
 ·intro q v e;by_cases hq:q<n
  ·rw[EO,Mx hq]at e;simp only[FX,CU]at e;have:j+q<cs.length:=by omega
   obtain⟨u,h1,h2,h3⟩:=hc (j+q) _ (BR this);rw[<- Nat.add_assoc]at h1;rw[h1]at e ⊢;simpa using e
  ·rw[CK (by simp;omega)]at e;cases e
 ·simp;omega
 ·intro q v e;have e:((List.range n).map λq=>(w.cell? ⟨B,o+j+q,none⟩).getD undef)[q]? = some v:=by simpa using e
  by_cases hq:q<n
  ·rw[EO,Mx hq]at e;simp only[FX,CU]at e;have:j+q<cs.length:=by omega
   obtain⟨u,h1,h2,h3⟩:=hc (j+q) _ (BR this);rw[<- Nat.add_assoc]at h1;rw[h1]at e;simp only[LK]at e;exact e ▸ h2
  ·rw[CK (by simp;omega)]at e;cases e
 ·intro q c v ec e;have e:((List.range n).map λq=>(w.cell? ⟨B,o+j+q,none⟩).getD undef)[q]? = some v:=by simpa using e
  by_cases hq:q<n
  ·rw[EO,Mx hq]at e;simp only[FX,CU]at e;have IE:cs[j+q]? = some c:=by
    rw[KV,Ay hq,Qe]at ec;exact ec
   obtain⟨u,h1,h2,h3⟩:=hc (j+q) _ IE;rw[<- Nat.add_assoc]at h1;rw[h1]at e;simp only[LK]at e;exact e ▸ h3
  ·rw[CK (by simp;omega)]at e;cases e
variable {R:Type}
def u7(h:GA P t=some ti){w:World}{I:Nat->Prop}{φ:Ac}{B o j:Nat}{cs:List AV}(hc:Cells w I φ B o cs){k:AV->Option R}{r:R}
  (hk:OA ti cs j k=some r):∃ v u,k v=some r/\(loadVar t ⟨B,o+j,none⟩).run P w=.ok u w/\RV w I φ v u:=by
 unfold OA at hk;cases ha:ti.agg with
 | true=>
  rw[ha,Ae]at hk;cases hn:Nat.ble (j+ti.size) cs.length with
  | false=>rw[hn]at hk;cases hk
  | true=>rw[hn,Ae]at hk;obtain⟨us,hl,hcell,hr⟩:=ajk hc (DZ hn);refine⟨_,.agg us.toArray,hk,?_,.agg _ _ hr.1 hr.2.1 hr.2.2⟩;unfold loadVar;simp only[Ce,ZT h,Co,ha,IW,run_sizeOf h];rw[Zy us hl hcell];rfl
 | false=>
  rw[ha,Aj]at hk;split at hk
  ·rename_i c je;obtain⟨u,h1,h2,h3⟩:=hc j c je;refine⟨c,u,hk,?_,h3⟩;unfold loadVar;simp only[Ce,ZT h,Co,ha,I8,Hg,run_load,h1]
  ·cases hk
def adi(h:GA P t=some ti){w:World}{I:Nat->Prop}{φ:Ac}{j:Nat}{cs:List AV}{vs:Array Value}(hc:RC w I φ cs vs){k:AV->Option R}{r:R}
  (hk:OA ti cs j k=some r):∃ v u,k v=some r/\(part t vs j).run P w=.ok u w/\RV w I φ v u:=by
 unfold OA at hk;cases ha:ti.agg with
 | true=>
  rw[ha,Ae]at hk;cases hn:Nat.ble (j+ti.size) cs.length with
  | false=>rw[hn]at hk;cases hk
  | true=>
   rw[hn,Ae]at hk;have Eo:=DZ hn;refine⟨_,.agg (vs.extract j (j+ti.size)),hk,?_,.agg _ _ ?_ ?_ ?_⟩
   ·unfold part;simp only[Ce,ZT h,Co,ha,IW,run_sizeOf h];rfl
   ·have:=hc.1;simp;omega
   ·intro q u e;rw[Array.getElem?_extract]at e;split at e
    ·exact hc.2.1 _ u e
    ·cases e
   ·intro q c u ec e;rw[Array.getElem?_extract]at e;split at e
    ·rw[KV]at ec;split at ec
     ·rw[Qe]at ec;exact hc.2.2 _ c u ec e
     ·cases ec
    ·cases e
 | false=>
  rw[ha,Aj]at hk;split at hk
  ·rename_i c je;have hj:j<vs.size:=by
    have:=hc.1;rcases Cj j cs.length with h' | h'
    ·omega
    ·rw[CK h']at je;cases je
   refine⟨c,vs[j],hk,?_,hc.2.2 j c _ je (Cy hj)⟩;unfold part;simp only[Ce,ZT h,Co,ha,I8,Hg,Cy hj,CS]
  ·cases hk
end
def GB(P:Program)(ρ:Operand->Value)(o:Oper)(rd:Nat->BS)(φ:Ac)(I:Nat->Prop)(w:World)(v:AV)(wr:Wr):Prop:=
 ∃ u w' φ' I',((execOp ρ o).run P w=.ok (.value u) w'\/((execOp ρ o).run P w=.ok .skip w'/\u=undef))/\RV w' I' φ' v u/\RH w' I' φ' (Ee rd wr) /\
  (∀ base,Step base rd φ I w (Ee rd wr) φ' I' w')/\Ac.le φ φ'
def Sim(P:Program)(o:Oper)(ρ:Operand->AV)(rd:Nat->BS)(v:AV)(wr:Wr)(Dn:List Nat):Prop:=
 ∀ (As:Nat->BS) (Aa:Operand->Value) (w:World) (φ:Ac) (I:Nat->Prop),(∀ b ∈ Dn,As b=rd b)->(∀ p ∈ wr,As p.1=rd p.1)->RH w I φ As ->
  (∀ x ∈ o.op.operands,RV w I φ (ρ x) (Aa x))->GB P Aa o As φ I w v wr
def GB.pure{P:Program}{ρ:Operand->Value}{o:Oper}{rd:Nat->BS}{φ:Ac}{I:Nat->Prop}{w:World}{v:AV}{u:Value}(hh:RH w I φ rd)
  (h:(execOp ρ o).run P w=.ok (.value u) w) (hv:RV w I φ v u):GB P ρ o rd φ I w v []:=
 ⟨u,w,φ,I,.inl h,hv,hh,λ_=>Step.refl _ _ _ _ _,Ac.le_refl _⟩
def GB.alloc{P:Program}{ρ:Operand->Value}{o:Oper}{rd:Nat->BS}{φ:Ac}{I:Nat->Prop}{w:World}{v:AV}{u:Value}(hh:RH w I φ rd){nx:Nat}
  (hn:rd nx=.none) (ob:Obj) (x:BS) (sz:Nat) (hm:AZ x=true) (hx:RB (w.alloc ob) I (φ.set nx (w.heap.size,0,sz)) w.heap.size 0 sz x)
  (h:(execOp ρ o).run P w=.ok (.value u) (w.alloc ob)) (hv:RV (w.alloc ob) I (φ.set nx (w.heap.size,0,sz)) v u) (ho:OE ob):GB P ρ o rd φ I w v [(nx,x)]:=
 have a:=hh.alloc hn ob x sz hm hx ho
 ⟨u,w.alloc ob,_,I,.inl h,hv,(a 0).1,λbase=>(a base).2.1,(a 0).2.2⟩
def tD{w:World}{I:Nat->Prop}{φ φ':Ac}{cs:List AV}{vs:Array Value}(hc:RC w I φ cs vs)(hlt:∀ B,I B->B<w.heap.size)(le:Ac.le φ φ')(t:TypeId)(fz:Nat × Nat) :
  RC (w.alloc (.cells vs t fz)) I φ' cs vs:=
 hc.mono (λB hB=>⟨hB,alloc_old w _ (hlt B hB)⟩) (ez w _) le
def ui(w:World)(vs:Array Value)(t:TypeId)(fz:Nat × Nat)(q:Nat):(w.alloc (.cells vs t fz)).cell? ⟨w.heap.size,q,none⟩=vs[q]? :=
 cell_of (No w _)
def Row.new(w:World)(vs:Array Value)(t:TypeId)(m:Bool){sz:Nat}:Row (w.alloc (.cells vs t)) w.heap.size m sz:=
 ⟨vs,t,(0,0),No w _,λ_=>⟨λk _ h=>DP 0 (Nat.lt_of_le_of_lt (Bu _) h.2),.inr λh=>C5 _ h.2⟩⟩
def RB.one{w:World}{I:Nat->Prop}{φ φ':Ac}{cs:List AV}{vs:Array Value}(hc:RC w I φ cs vs)(hlt:∀ B,I B->B<w.heap.size)(le:Ac.le φ φ')(t:TypeId) :
  RB (w.alloc (.cells vs t)) I φ' w.heap.size 0 cs.length (.arr true cs.length [cs]):=by
 have IE:=tD hc hlt le t (0,0);refine⟨rfl,Row.new w vs t true,λi c e=>?_,λi c k x e e'=>?_⟩
 ·cases i with
  | zero=>simp at e;exact e ▸ rfl
  | succ i=>simp at e
 ·cases i with
  | zero=>
   simp at e;subst e;have hk:k<vs.size:=by
    rcases Cj k cs.length with h | h
    ·have:=hc.1;omega
    ·rw[CK h]at e';cases e'
   refine⟨vs[k],?_,hc.2.1 k _ (Cy hk),IE.2.2 k x _ e' (Cy hk)⟩;rw[ui];simp[hk]
  | succ i=>simp at e
def adj{w:World}{I:Nat->Prop}{φ:Ac}{B o sz:Nat}{x:BS}(h:RB w I φ B o sz x){R:Type}{i:Nat}{k:List AV->Option R}{r:R}(hk:Tk x i k=some r) :
  ∃ cs,k cs=some r/\Cells w I φ B (o+i*sz) cs:=by
 unfold Tk at hk;split at hk
 ·split at hk
  ·rename_i cs hcs;exact⟨cs,hk,λq c e=>h.2.2.2 i cs q c hcs e⟩
  ·cases hk
 ·rename_i m s n f;cases hn:Nat.blt i n with
  | false=>rw[hn]at hk;cases hk
  | true=>
   rw[hn,Ae]at hk;have hi:i<n:=by simpa [CW] using hn
   refine⟨_,hk,λq c e=>?_⟩;obtain⟨u,a,b,c'⟩:=h.2.2.2 i q c hi e;exact⟨u,a,b,c'.mono (λB hB=>⟨hB,rfl⟩) (λ_=>Ar _) (Ac.IZ _)⟩
 ·rename_i m s n f i0 c0 ks;cases hn:(Nat.blt i n&&Nat.beq i i0)with
  | false=>rw[hn]at hk;cases hk
  | true=>
   rw[hn,Ae]at hk;rw[My]at hn;obtain⟨hn,hq⟩:=hn;have hi:i<n:=by simpa [CW] using hn
   have e0:DF f i0 c0 i=c0:=by unfold DF;rw[hq];rfl
   exact⟨c0,hk,λq c e=>h.2.2.2 i q c hi (by rw[e0];exact e)⟩
 ·rename_i m s n f i0 c0 ks;cases hn:(Nat.blt i n && !Nat.beq i i0)with
  | false=>rw[hn]at hk;cases hk
  | true=>
   rw[hn,Ae]at hk;rw[My]at hn;obtain⟨hn,hq⟩:=hn;have hi:i<n:=by simpa [CW] using hn
   have hq:Nat.beq i i0=false:=by simpa using hq
   have e0:DF f i0 c0 i=f i:=by unfold DF;rw[hq];rfl
   exact⟨f i,hk,λq c e=>h.2.2.2 i q c hi (by rw[e0];exact e)⟩
 ·cases hk
section
variable {R:Type}
def CE{α:Type}{b:Option α}{k:α->Option R}{r:R}(h:CC b k=some r):∃ x,b=some x/\k x=some r:=by
 cases b with
 | none=>cases h
 | some x=>exact⟨x,rfl,h⟩
def fc{α:Type}{b:Option α}{z:α}{k:α->Option R}{r:R}(h:OY b z k=some r):∃ x,b=some x/\k x=some r:=by
 cases b with
 | none=>cases h
 | some x=>exact⟨x,rfl,h⟩
def BG{c:Bool}{x:Option R}{r:R}(h:(bif c then x else .none)=some r):c=true/\x=some r:=by
 cases c with
 | false=>cases h
 | true=>exact⟨rfl,h⟩
def Xc{c:Bool}{x:Option R}{r:R}(h:(bif c then .none else x)=some r):c=false/\x=some r:=by
 cases c with
 | true=>cases h
 | false=>exact⟨rfl,h⟩
def A4{a b:Bool}(h:(a&&b)=true):a=true/\b=true:=by simpa using h
def eX{ti:TI}{cs:List AV}{j:Nat}{k:AV->Option R}{r:R}(h:OA ti cs j k=some r) :
  ∃ v,k v=some r /\ ∀ {R':Type} (k':AV->Option R'),OA ti cs j k'=k' v:=by
 unfold OA at h ⊢;cases ha:ti.agg with
 | true=>rw[ha,Ae]at h;obtain⟨h1,h2⟩:=BG h;exact⟨_,h2,λk'=>by simp[h1]⟩
 | false=>
  rw[ha,Aj]at h;cases hc:cs[j]? with
  | none=>rw[hc]at h;cases h
  | some c=>rw[hc]at h;exact⟨c,h,λk'=>rfl⟩
def aa6{x:BS}{i:Nat}{k:List AV->Option R}{r:R}(h:Tk x i k=some r) :
  ∃ cs,k cs=some r /\ ∀ {R':Type} (k':List AV->Option R'),Tk x i k'=k' cs:=by
 unfold Tk at h ⊢;cases x with
 | arr m s es=>
  simp only at h ⊢;cases hc:es[i]? with
  | none=>rw[hc]at h;cases h
  | some c=>rw[hc]at h;exact⟨c,h,λk'=>rfl⟩
 | seq m s n f=>obtain⟨h1,h2⟩:=BG h;exact⟨_,h2,λk'=>by simp[h1]⟩
 | none=>cases h
 | dead=>cases h
 | Cb m s n f i0 c0 ks cur=>
  cases cur with
  | true=>obtain⟨h1,h2⟩:=BG h;exact⟨_,h2,λk'=>by simp only[h1,Ae]⟩
  | false=>obtain⟨h1,h2⟩:=BG h;exact⟨_,h2,λk'=>by simp only[h1,Ae]⟩
 | map m es=>cases h
 | iter m es st=>cases h
 | pmap m ks val=>cases h
 | Fz m ks val rem cur=>cases h
section
variable {P:Program} {tt:TT} {ρ:Operand->AV} {rd:Nat->BS} {nx:Nat} {k:KW R} {r:R} {o:Oper}
def Good(P:Program)(o:Oper)(ρ:Operand->AV)(rd:Nat->BS)(k:KW R)(r:R):Prop:=
 ∃ v wr Dn,k v wr Dn=some r/\Sim P o ρ rd v wr Dn
def Good.pure{v:AV}(hk:k v [] []=some r)
  (h:∀ (Aa:Operand->Value) (w:World) (φ:Ac) (I:Nat->Prop),(∀ x ∈ o.op.operands,RV w I φ (ρ x) (Aa x)) -> ∃ u,(execOp Aa o).run P w=.ok (.value u) w/\RV w I φ v u) :
  Good P o ρ rd k r:=
 ⟨v,[],[],hk,λAs Aa w φ I _ _ hh hx=>let ⟨u,h1,h2⟩:=h Aa w φ I hx;GB.pure hh h1 h2⟩
def ab0{x:Operand}(ho:o.op=.move x\/o.op=.assign x)(h:k (ρ x) [] []=some r):Good P o ρ rd k r:=
 Good.pure h λAa w φ I hx=>⟨Aa x,by rcases ho with ho | ho <;> simp[execOp,ho],hx x (by rcases ho with ho | ho <;> simp[ho,Op.operands])⟩
def amE{c a b:Operand}(ho:o.op=.pick c a b)(h:CT tt ρ rd nx (.pick c a b) k=some r):Good P o ρ rd k r:=by
 simp only[CT]at h;split at h
 ·rename_i cb hc;cases cb with
  | true=>
   refine Good.pure h λAa w φ I hx=>⟨Aa a,?_,hx a (by simp[ho,Op.operands])⟩
   have:=hx c (by simp[ho,Op.operands]);rw[hc]at this;generalize hu:Aa c=u at this;cases this;simp[execOp,ho,hu,asBool]
  | false=>
   refine Good.pure h λAa w φ I hx=>⟨Aa b,?_,hx b (by simp[ho,Op.operands])⟩
   have:=hx c (by simp[ho,Op.operands]);rw[hc]at this;generalize hu:Aa c=u at this;cases this;simp[execOp,ho,hu,asBool]
 ·cases h
def akP(A7:E8 P tt)(hnx:rd nx=.none){t:TypeId}(ho:o.op=.alloc t)(h:CT tt ρ rd nx (.alloc t) k=some r):Good P o ρ rd k r:=by simp only[CT]at h;obtain⟨ti,Cc,h⟩:=CE h;obtain⟨z,hz,h⟩:=CE h;refine⟨_,_,_,h,λAs Aa w φ I _ Dc hh hx=>?_⟩;have hn:As nx=.none:=(Dc _ R3).trans hnx;obtain⟨v,hv,hs,hc,hr⟩:=Xg (A7 t ti Cc) hz w I φ;have le:=Ac.PH (hh.none nx hn) (w.heap.size,0,z.length);refine GB.alloc (u:=.pointer (some ⟨w.heap.size,0,none⟩)) hh hn (.cells v.cells t) _ z.length rfl (RB.one hr hh.lt le t) ?_ (.ptr nx _ 0 _ 0 0 0 (Ac.E5 _ _ _) (by simp)) (OE.row hr.2.1);simp[execOp,ho,Instr.alloc,hv,newVar,newRow]
def ao9(hnx:rd nx=.none){t:TypeId}{x:Operand}(ho:o.op=.box t x)(h:CT tt ρ rd nx (.box t x) k=some r):Good P o ρ rd k r:=by simp only[CT]at h;obtain⟨hs,h⟩:=BG h;refine⟨_,_,_,h,λAs Aa w φ I _ Dc hh hx=>?_⟩;have hn:As nx=.none:=(Dc _ R3).trans hnx;have hr:=(hx x (by simp[ho,Op.operands])).cells hs;have le:=Ac.PH (hh.none nx hn) (w.heap.size,0,(ρ x).cells.length);refine GB.alloc (u:=.pointer (some ⟨w.heap.size,0,none⟩)) hh hn (.cells (Aa x).cells t) _ _ rfl (RB.one hr hh.lt le t) ?_ (.ptr nx _ 0 _ 0 0 0 (Ac.E5 _ _ _) (by simp)) (OE.row hr.2.1);simp[execOp,ho,Instr.box,newVar,newRow]
def amF(A7:E8 P tt){t:TypeId}{a:Operand}(ho:o.op=.load t a)(h:CT tt ρ rd nx (.load t a) k=some r):Good P o ρ rd k r:=by
 simp only[CT]at h;obtain⟨ti,Cc,h⟩:=CE h;split at h
 ·rename_i b i j ha;have key:∃ v,k v [] [b]=some r /\ ∀ (w:World) (φ:Ac) (I:Nat->Prop) B o sz,φ b=some (B,o,sz)->RB w I φ B o sz (rd b) ->
    ∃ u,(loadVar t ⟨B,o+i*sz+j,none⟩).run P w=.ok u w/\RV w I φ v u:=by
   obtain⟨cs,h1,h2⟩:=aa6 h;obtain⟨v,h3,h4⟩:=eX h1;refine⟨v,h3,λw φ I B o sz _ hrb=>?_⟩;obtain⟨A3,e,hc⟩:=adj hrb (h2 (R':=List AV) some);cases e;obtain⟨v',u,e',hl,hv⟩:=u7 (A7 t ti Cc) hc (h4 (R':=AV) some);cases e';exact⟨u,hl,hv⟩
  obtain⟨v,Yi,hrun⟩:=key;refine⟨v,[],[b],Yi,λAs Aa w φ I hrd _ hh hx=>?_⟩;have hp:=hx a (by simp[ho,Op.operands]);rw[ha]at hp;generalize hu:Aa a=u at hp;cases hp with
  | ptr _ B ob sz _ _ q AI hq=>
   have hb:=hrd b (by simp);have Lv:live (As b)=true:=by rw[hb];cases hrb:rd b <;> first | rfl | (rw[hrb]at h;simp[Tk]at h)
   obtain⟨B',o',sz',e,hrb⟩:=hh.JI AI Lv;rw[AI]at e;cases e;rw[hb]at hrb;obtain⟨u,hl,hv⟩:=hrun w φ I B ob sz AI hrb;refine GB.pure hh ?_ hv;rw[<- hq]at hl;simp[execOp,ho,hu,Instr.loadAt,Instr.sureAddr,hl]
 ·rename_i cs j ha;obtain⟨v,Yi,jg⟩:=eX h;refine Good.pure Yi λAa w φ I hx=>?_;have hp:=hx a (by simp[ho,Op.operands]);rw[ha]at hp;generalize hu:Aa a=u at hp;cases hp with
  | tp _ _ B ob q uf hI hq hc h1 hr=>
   have Ka:Cells w I Ac.no B ob cs:=λq c e=>⟨uf q,hc q c e,h1 q c e,hr q c e⟩
   obtain⟨v',u,e,hl,hv⟩:=u7 (A7 t ti Cc) Ka (jg (R':=AV) some);cases e;refine⟨u,?_,hv.mono (λB hB=>⟨hB,rfl⟩) (λ_=>Ar _) (Ac.IZ _)⟩;rw[<- hq]at hl;simp[execOp,ho,hu,Instr.loadAt,Instr.sureAddr,hl]
 ·cases h
end
end
section
variable {R:Type}
def arN{i i' sz k k':Nat}(h:i' ≠ i)(hk:k<sz)(T4:k'<sz):i'*sz+k ≠ i*sz+k':=by
 rcases Nat.lt_or_gt_of_ne h with h | h
 ·have:=KU sz (Nat.succ_le_of_lt h);rw[Nat.succ_mul]at this;omega
 ·have:=KU sz (Nat.succ_le_of_lt h);rw[Nat.succ_mul]at this;omega
def sP{cs vs:List AV}{j:Nat}(h:j+vs.length<=cs.length):(setAt cs j vs).length=cs.length:=by simp[setAt];omega
def aa7{cs vs:List AV}{j:Nat}(h:j+vs.length<=cs.length)(q:Nat) :
  (setAt cs j vs)[q]? = if j<=q/\q<j+vs.length then vs[q - j]? else cs[q]? := by
 unfold setAt;by_cases h1:q<j
 ·rw[DY (by simp;omega),AE (by omega),KV,Ay h1]
 ·rw[FC (by simp;omega)];have hl:(cs.take j).length=j:=by simp;omega
  rw[hl];by_cases h2:q<j+vs.length
  ·rw[DY (by omega),Ay (by omega)]
  ·rw[FC (by omega),AE (by omega),Qe];congr 1;omega
def elemAt:BS->Nat->Option (List AV)
 | .arr _ _ es,i=>es[i]?
 | .seq _ _ n f,i=>if i<n then some (f i)else none
 | .Cb _ _ n f i0 c0 _ _,i=>if i<n then some (DF f i0 c0 i)else none
 | _,_=>none
def HY(φ:Ac):BS->Ac
 | .seq .. => Ac.no
 | _=>φ
def So:BS->Nat
 | .arr _ s _=>s
 | .seq _ s _ _=>s
 | .Cb _ s _ _ _ _ _ _=>s
 | _=>0
def PZ:BS->Bool
 | .arr .. | .seq .. | .Cb .. => true
 | _=>false
def RB.row{w:World}{I:Nat->Prop}{φ:Ac}{B o sz:Nat}{x:BS}(h:RB w I φ B o sz x)(hr:PZ x=true) :
  So x=sz/\Row w B (AZ x) sz /\ ∀ i cs,elemAt x i=some cs->cs.length=sz/\Cells w I (HY φ x) B (o+i*sz) cs:=by
 cases x with
 | arr m s es=>exact⟨h.1,h.2.1,λi cs e=>⟨h.2.2.1 i cs e,λk c e'=>h.2.2.2 i cs k c e e'⟩⟩
 | seq m s n f=>
  refine⟨h.1,h.2.1,λi cs e=>?_⟩;simp only[elemAt]at e;split at e
  ·rename_i hi;cases e;exact⟨h.2.2.1 i hi,λk c e'=>h.2.2.2 i k c hi e'⟩
  ·cases e
 | Cb m s n f i0 c0 ks cur=>
  refine⟨h.1,h.2.1,λi cs e=>?_⟩;simp only[elemAt]at e;split at e
  ·rename_i hi;cases e;exact⟨h.2.2.1 i hi,λk c e'=>h.2.2.2 i k c hi e'⟩
  ·cases e
 | pmap m ks val=>cases hr
 | Fz m ks val rem cur=>cases hr
 | none=>cases hr
 | dead=>cases hr
 | map m es=>cases hr
 | iter m es st=>cases hr
def RB.wc{w:World}{I:Nat->Prop}{φ:Ac}{B o sz:Nat}{x:BS}(hr:PZ x=true)(h0:So x=sz)(h1:Row w B (AZ x) sz)
  (h2:∀ i cs,elemAt x i=some cs->cs.length=sz/\Cells w I (HY φ x) B (o+i*sz) cs):RB w I φ B o sz x:=by
 cases x with
 | arr m s es=>exact⟨h0,h1,λi cs e=>(h2 i cs e).1,λi cs k c e e'=>(h2 i cs e).2 k c e'⟩
 | seq m s n f=>
  have he:∀ i,i<n->elemAt (.seq m s n f) i=some (f i):=λi hi=>by simp[elemAt,hi]
  exact⟨h0,h1,λi hi=>(h2 i _ (he i hi)).1,λi k c hi e'=>(h2 i _ (he i hi)).2 k c e'⟩
 | Cb m s n f i0 c0 ks cur=>
  have he:∀ i,i<n->elemAt (.Cb m s n f i0 c0 ks cur) i=some (DF f i0 c0 i):=λi hi=>by simp[elemAt,hi]
  exact⟨h0,h1,λi hi=>(h2 i _ (he i hi)).1,λi k c hi e'=>(h2 i _ (he i hi)).2 k c e'⟩
 | pmap m ks val=>cases hr
 | Fz m ks val rem cur=>cases hr
 | none=>cases hr
 | dead=>cases hr
 | map m es=>cases hr
 | iter m es st=>cases hr
section
variable {P:Program} {tt:TT} {ρ:Operand->AV} {rd:Nat->BS} {nx:Nat} {k:KW R} {r:R} {o:Oper}
def lS{w:World}{I:Nat->Prop}{φ:Ac}{rd:Nat->BS}(hh:RH w I φ rd){b B ob sz i j:Nat}{cs vs:List AV}{us:Array Value}{x':BS}
  (AI:φ b=some (B,ob,sz)) (hm:AZ (rd b)=true) (hr:PZ (rd b)=true) (he:elemAt (rd b) i=some cs) (hj:j+vs.length<=cs.length) (h1:1<=vs.length)
  (hv:RC w I (HY φ x') vs us) (CL:PZ x'=true) (QA:AZ x'=true) (NW:So x'=So (rd b)) (zX:Ac.le (HY φ (rd b)) (HY φ x'))
  (hx:∀ i' A3,elemAt x' i'=some A3->(i'=i/\A3=setAt cs j vs)\/(i' ≠ i/\elemAt (rd b) i'=some A3)) :
  ∃ w',(storeCells ⟨B,ob+i*sz+j,none⟩ us.toList).run P w=.ok () w'/\RH w' I φ (BU rd b x') /\ ∀ base,Step base rd φ I w (BU rd b x') φ I w':=by
 obtain⟨B',o',sz',e,hrb⟩:=hh.JI AI (Fv hm);rw[AI]at e;cases e;obtain⟨V0,⟨c,e,fz,hc,ht⟩,hel⟩:=hrb.row hr;have V1:us.toList.length=vs.length:=by simpa using hv.1.symm
 have hcs:=hel i cs he;have RM:ob+i*sz+j+vs.length<=c.size:=by
  obtain⟨u,hu,_⟩:=hcs.2 (j+vs.length - 1) _ (BR (by omega:j+vs.length - 1<cs.length));rw[cell_of hc]at hu;have:ob+i*sz+(j+vs.length - 1)<c.size:=by
   rcases Cj (ob+i*sz+(j+vs.length - 1)) c.size with h | h
   ·exact h
   ·rw[JB h]at hu;cases hu
  omega
 have hrun:=WX (P:=P) (o:=ob+i*sz+j) us.toList 0 c w hc (by omega) (ht hm).1 (λv JR=>by obtain⟨q,hq⟩:=NN JR;exact hv.2.1 q v (by simpa using hq));have hone:∀ v ∈ us.toList,v.oneCell'=true:=λv JR=>by obtain⟨q,hq⟩:=NN JR;exact hv.2.1 q v (by simpa using hq)
 have hn:=RH.write hh AI hm hc (IP us.toList c (ob+i*sz+j)) x' QA (by
  refine RB.wc CL (NW.trans V0) ⟨_,e,fz,FR (CQ hc),λ_=>⟨λq hq=>(ht hm).1 q (by simpa using hq),by have:=(ht hm).2;unfold J9 at *;simpa using this⟩⟩ λi' A3 e'=>?_;have ext:=Ext.BI (M:=Ca φ rd) (c':=CF c (ob+i*sz+j) us.toList) hc (IP _ _ _) ⟨b,ob,sz,hm,AI⟩;have mono:∀ {φ':Ac} {v:AV} {u:Value},RV w I φ' v u->RV (World.BI w B (.cells (CF c (ob+i*sz+j) us.toList) e fz)) I φ' v u:=λhvu=>
   hvu.mono (λB hB=>⟨hB,ext.keep B (hh.lt B hB) λ⟨b,o,sz,hm,e⟩=>hh.CP b B o sz hm e hB⟩) ext.Bv (Ac.le_refl _)
  have up:∀ {v:AV} {u:Value},RV w I (HY φ (rd b)) v u->RV w I (HY φ x') v u:=λhvu=>hvu.mono (λB hB=>⟨hB,rfl⟩) (λ_=>Ar _) zX;rcases hx i' A3 e' with ⟨rfl,rfl⟩ | ⟨hne,hold⟩
  ·refine⟨by rw[sP hj];exact hcs.1,λq cc hq=>?_⟩;rw[cell_of (FR (CQ hc)),Nn _ _ _ _ (by rw[V1];exact RM),V1];rw[aa7 hj]at hq;split at hq
   ·rename_i hin;rw[Ay (by omega)];have hlt:q - j<us.size:=by have:=hv.1;omega
    refine⟨us[q - j],?_,hv.2.1 _ _ (Cy hlt),mono (hv.2.2 _ _ _ hq (Cy hlt))⟩;rw[show ob+i'*sz+q - (ob+i'*sz+j)=q - j by omega];simp[hlt]
   ·rename_i oD;obtain⟨u,hu,h2,h3⟩:=hcs.2 q cc hq;rw[cell_of hc]at hu;exact⟨u,by rw[AE (by omega)];exact hu,h2,mono (up h3)⟩
  ·have XI:=hel i' A3 hold;refine⟨XI.1,λq cc hq=>?_⟩;obtain⟨u,hu,h2,h3⟩:=XI.2 q cc hq;rw[cell_of hc]at hu;rw[cell_of (FR (CQ hc)),Nn _ _ _ _ (by rw[V1];exact RM),V1];have hql:q<A3.length:=by
    rcases Cj q A3.length with h | h
    ·exact h
    ·rw[CK h]at hq;cases hq
   have hsz:q<sz:=XI.1 ▸ hql;have bk:=hcs.1;refine⟨u,?_,h2,mono (up h3)⟩;rw[AE]
   ·exact hu
   ·rintro⟨ha,hb⟩;have:i'*sz+q=i*sz+(i'*sz+q - i*sz):=by omega
    exact arN hne hsz (by omega:i'*sz+q - i*sz<sz) this)
 have hn:=hn (UM hone);exact⟨_,hrun,(hn 0).1,λbase=>(hn base).2⟩
def akQ(A7:E8 P tt){t:TypeId}{a x:Operand}(ho:o.op=.store t a x)(h:CT tt ρ rd nx (.store t a x) k=some r):Good P o ρ rd k r:=by
 simp only[CT]at h;obtain⟨ti,Cc,h⟩:=CE h;obtain⟨hc,h⟩:=BG h;obtain⟨hst,hc⟩:=A4 hc;obtain⟨hlen,bm⟩:=A4 hc;have hlen:(ρ x).cells.length=ti.size:=BN hlen;have bm:1<=ti.size:=DZ bm;have hrun:∀ (Aa:Operand->Value) (w w':World) (φ:Ac) (I:Nat->Prop) B q,Aa a=.pointer (some ⟨B,q,none⟩)->RV w I φ (ρ x) (Aa x) ->
   (storeCells ⟨B,q,none⟩ (Aa x).cells.toList).run P w=.ok () w'->(execOp Aa o).run P w=.ok .skip w':=by
  intro Aa w w' φ I B q ha hx hs;have hsz:(Aa x).cells.size=ti.size:=by have:=(hx.cells hst).1;omega
  simp[execOp,ho,Instr.storeAt,Instr.sureAddr,ha,storeVar,run_sizeOf (A7 t ti Cc),hsz,hs]
 have fin:∀ (b i j sz n:Nat) (f:Nat->List AV) (i0:Nat) (c0:List AV) (ks:List Nat) (cur:Bool) (f':Nat->List AV) (pD:List AV),ρ a=.ptr b i j->rd b=.Cb true sz n f i0 c0 ks cur->i<n->j+ti.size<=(DF f i0 c0 i).length ->
   (∀ i',DF f' i0 pD i'=bif Nat.beq i' i then setAt (DF f i0 c0 i) j (ρ x).cells else DF f i0 c0 i') ->
   k .undef [(b,.Cb true sz n f' i0 pD (ks++Hb (ρ x).cells) cur)] [b]=some r->Good P o ρ rd k r:=by
  intro b i j sz n f i0 c0 ks cur f' pD ha hb hin hjl LO h;refine⟨_,_,_,h,λAs Aa w φ I hrd _ hh hx=>?_⟩;have Aw:=hrd b (by simp);rw[hb]at Aw;have hp:=hx a (by simp[ho,Op.operands]);have EZ:=hx x (by simp[ho,Op.operands]);rw[ha]at hp;generalize hu:Aa a=u at hp;cases hp with
  | ptr _ B ob sz' _ _ q AI hq=>
   have Ka:=EZ.cells hst;obtain⟨w',h1,h2,h3⟩:=lS (P:=P) (vs:=(ρ x).cells) (us:=(Aa x).cells) (x':=.Cb true sz n f' i0 pD (ks++Hb (ρ x).cells) cur) (i:=i) (j:=j) (cs:=DF f i0 c0 i) hh AI
    (by rw[Aw];rfl) (by rw[Aw];rfl) (by rw[Aw];simp[elemAt,hin]) (by omega) (by omega)
    (Ka)
    rfl rfl (by rw[Aw];rfl) (by rw[Aw];exact Ac.le_refl _)
    (λi' A3 e=>by
     rw[Aw];simp only[elemAt,LO]at e ⊢;by_cases hi:i'=i
     ·subst hi;rw[Ay hin]at e;simp at e;exact .inl ⟨rfl,e.symm⟩
     ·have:Nat.beq i' i=false:=by
       cases hq:Nat.beq i' i with
       | false=>rfl
       | true=>exact absurd (BN hq) hi
      rw[this,Aj]at e;exact .inr ⟨hi,e⟩)
   rw[<- hq]at h1;exact⟨undef,w',φ,I,.inr ⟨hrun Aa w w' φ I B q hu EZ h1,rfl⟩,.undef _,h2,h3,Ac.le_refl _⟩
 split at h
 ·rename_i b i j ha;split at h
  ·rename_i sz es hb;split at h
   ·rename_i cs hcs;obtain⟨hjl,h⟩:=BG h;have hjl:=DZ hjl;refine⟨_,_,_,h,λAs Aa w φ I hrd _ hh hx=>?_⟩;have Aw:=hrd b (by simp);rw[hb]at Aw;have hp:=hx a (by simp[ho,Op.operands]);have EZ:=hx x (by simp[ho,Op.operands]);rw[ha]at hp;generalize hu:Aa a=u at hp;cases hp with
    | ptr _ B ob sz' _ _ q AI hq=>
     obtain⟨w',h1,h2,h3⟩:=lS (P:=P) (vs:=(ρ x).cells) (us:=(Aa x).cells) (x':=.arr true sz (es.set i (setAt cs j (ρ x).cells))) (i:=i) (j:=j) (cs:=cs) hh AI
      (by rw[Aw];rfl) (by rw[Aw];rfl) (by rw[Aw];exact hcs) (by omega) (by omega) (EZ.cells hst) rfl rfl (by rw[Aw];rfl) (by rw[Aw];exact Ac.le_refl _)
      (λi' A3 e=>by
       rw[Aw];simp only[elemAt]at e ⊢;by_cases hi:i'=i
       ·subst hi;have hlt:i'<es.length:=by
         rcases Cj i' es.length with h | h
         ·exact h
         ·rw[CK h]at hcs;cases hcs
        rw[List.getElem?_set_self hlt]at e;exact .inl ⟨rfl,by cases e;rfl⟩
       ·rw[List.getElem?_set_ne (λe=>hi e.symm)]at e;exact .inr ⟨hi,e⟩)
     rw[<- hq]at h1;exact⟨undef,w',φ,I,.inr ⟨hrun Aa w w' φ I B q hu EZ h1,rfl⟩,.undef _,h2,h3,Ac.le_refl _⟩
   ·cases h
  ·rename_i sz n f hb;obtain⟨hcc,h⟩:=BG h;obtain⟨hin,hjl⟩:=A4 hcc;have hin:i<n:=by simpa [CW] using hin
   have hjl:=DZ hjl;cases gm:(ρ x).cells.all Ed with
   | true=>
    rw[gm,Ae]at h;refine⟨_,_,_,h,λAs Aa w φ I hrd _ hh hx=>?_⟩;have Aw:=hrd b (by simp);rw[hb]at Aw;have hp:=hx a (by simp[ho,Op.operands]);have EZ:=hx x (by simp[ho,Op.operands]);rw[ha]at hp;generalize hu:Aa a=u at hp;cases hp with
    | ptr _ B ob sz' _ _ q AI hq=>
     have Ka:=EZ.cells hst;obtain⟨w',h1,h2,h3⟩:=lS (P:=P) (vs:=(ρ x).cells) (us:=(Aa x).cells) (x':=.seq true sz n λi'=>bif Nat.beq i' i then setAt (f i) j (ρ x).cells else f i') (i:=i) (j:=j) (cs:=f i) hh AI
      (by rw[Aw];rfl) (by rw[Aw];rfl) (by rw[Aw];simp[elemAt,hin]) (by omega) (by omega)
      (⟨Ka.1,Ka.2.1,λq c u e e'=>(Ka.2.2 q c u e e').free ((HA.1 gm) c (Dy e))⟩)
      rfl rfl (by rw[Aw];rfl) (by rw[Aw];exact Ac.le_refl _)
      (λi' A3 e=>by
       rw[Aw];simp only[elemAt]at e ⊢;by_cases hi:i'=i
       ·subst hi;rw[Ay hin]at e;simp at e;exact .inl ⟨rfl,e.symm⟩
       ·have:Nat.beq i' i=false:=by
         cases hq:Nat.beq i' i with
         | false=>rfl
         | true=>exact absurd (BN hq) hi
        rw[this,Aj]at e;exact .inr ⟨hi,e⟩)
     rw[<- hq]at h1;exact⟨undef,w',φ,I,.inr ⟨hrun Aa w w' φ I B q hu EZ h1,rfl⟩,.undef _,h2,h3,Ac.le_refl _⟩
   | false=>
    rw[gm,Aj]at h;refine⟨_,_,_,h,λAs Aa w φ I hrd _ hh hx=>?_⟩;have Aw:=hrd b (by simp);rw[hb]at Aw;have hp:=hx a (by simp[ho,Op.operands]);have EZ:=hx x (by simp[ho,Op.operands]);rw[ha]at hp;generalize hu:Aa a=u at hp;cases hp with
    | ptr _ B ob sz' _ _ q AI hq=>
     have Ka:=EZ.cells hst;obtain⟨w',h1,h2,h3⟩:=lS (P:=P) (vs:=(ρ x).cells) (us:=(Aa x).cells) (x':=.Cb true sz n f i (setAt (f i) j (ρ x).cells) (Hb (ρ x).cells) true) (i:=i) (j:=j) (cs:=f i) hh AI
      (by rw[Aw];rfl) (by rw[Aw];rfl) (by rw[Aw];simp[elemAt,hin]) (by omega) (by omega)
      (Ka)
      rfl rfl (by rw[Aw];rfl) (by rw[Aw];exact Ac.IZ _)
      (λi' A3 e=>by
       rw[Aw];simp only[elemAt,DF]at e ⊢;by_cases hi:i'=i
       ·subst hi;rw[Ay hin]at e;simp at e;exact .inl ⟨rfl,e.symm⟩
       ·have:Nat.beq i' i=false:=by
         cases hq:Nat.beq i' i with
         | false=>rfl
         | true=>exact absurd (BN hq) hi
        rw[this,Aj]at e;exact .inr ⟨hi,e⟩)
     rw[<- hq]at h1;exact⟨undef,w',φ,I,.inr ⟨hrun Aa w w' φ I B q hu EZ h1,rfl⟩,.undef _,h2,h3,Ac.le_refl _⟩
  ·rename_i sz n f i0 c0 ks hb;obtain⟨hin,h⟩:=BG h;obtain⟨hin,Sp⟩:=A4 hin;have hin:i<n:=by simpa [CW] using hin
   have zY:=BN Sp;obtain⟨hjl,h⟩:=BG h;have hjl:=DZ hjl;have e0:DF f i0 c0 i=c0:=by unfold DF;rw[Sp];rfl
   refine fin b i j sz n f i0 c0 ks true f (setAt c0 j (ρ x).cells) ha hb hin (by rw[e0];exact hjl) (λi'=>?_) h;rw[e0];unfold DF;rw[zY];cases Nat.beq i' i0 <;> rfl
  ·rename_i sz n f i0 c0 ks hb;obtain⟨hin,h⟩:=BG h;obtain⟨hin,Sp⟩:=A4 hin;have Sp:Nat.beq i i0=false:=by simpa using Sp
   have hin:i<n:=by simpa [CW] using hin
   obtain⟨hjl,h⟩:=BG h;have hjl:=DZ hjl;have e0:DF f i0 c0 i=f i:=by unfold DF;rw[Sp];rfl
   refine fin b i j sz n f i0 c0 ks false _ c0 ha hb hin (by rw[e0];exact hjl) (λi'=>?_) h;rw[e0];unfold DF;cases h1:Nat.beq i' i0 with
   | false=>rfl
   | true=>
    have e1:=BN h1;have:Nat.beq i' i=false:=by
     cases hq:Nat.beq i' i with
     | false=>rfl
     | true=>have:=BN hq;rw[<- this,h1]at Sp;cases Sp
    rw[this];rfl
  ·cases h
 ·cases h
end
end
section
variable {R:Type}
section
variable {P:Program} {tt:TT} {ρ:Operand->AV} {rd:Nat->BS} {nx:Nat} {k:KW R} {r:R} {o:Oper}
def ajl{x:Operand}(ho:o.op=.nilCheck x)(h:CT tt ρ rd nx (.nilCheck x) k=some r):Good P o ρ rd k r:=by
 simp only[CT]at h;have hm:x ∈ o.op.operands:=by simp[ho,Op.operands]
 split at h
 ·rename_i b i j ha;refine Good.pure h λAa w φ I hx=>?_;have hp:=hx x hm;rw[ha]at hp;generalize hu:Aa x=u at hp;refine⟨u,?_,hp⟩;cases hp;simp[execOp,ho,hu]
 ·rename_i cs j ha;refine Good.pure h λAa w φ I hx=>?_;have hp:=hx x hm;rw[ha]at hp;generalize hu:Aa x=u at hp;refine⟨u,?_,hp⟩;cases hp;simp[execOp,ho,hu]
 ·rename_i f a c ha;refine Good.pure h λAa w φ I hx=>?_;have hp:=hx x hm;rw[ha]at hp;generalize hu:Aa x=u at hp;refine⟨u,?_,hp⟩;cases hp;simp[execOp,ho,hu]
 ·cases h
def ajb(A7:E8 P tt){t:TypeId}{x:Operand}{f:Nat}(ho:o.op=.fieldAddr t x f)(h:CT tt ρ rd nx (.fieldAddr t x f) k=some r):Good P o ρ rd k r:=by
 simp only[CT]at h;have hm:x ∈ o.op.operands:=by simp[ho,Op.operands]
 obtain⟨ti,Cc,h⟩:=CE h;split at h
 ·rename_i fields hd;obtain⟨fd,Yj,h⟩:=CE h;obtain⟨tf,Sq,h⟩:=CE h;obtain⟨hz,h⟩:=Xc h;have hz:tf.size ≠ 0:=λe=>by rw[e]at hz;cases hz
  have yo:fields[f]? = some fd:=by simpa using Yj
  have hrun:∀ (Aa:Operand->Value) (w:World) B q,Aa x=.pointer (some ⟨B,q,none⟩)->(execOp Aa o).run P w=.ok (.value (.pointer (some ⟨B,q+fd.offset,none⟩))) w:=by intro Aa w B q e;simp[execOp,ho,Instr.fieldAt,run_underlying (A7 t ti Cc),hd,yo,Instr.sureAddr,e,fieldPlace,run_sizeOf (A7 fd.type tf Sq),hz,Mm]
  split at h
  ·rename_i b i j ha;refine Good.pure h λAa w φ I hx=>?_;have hp:=hx x hm;rw[ha]at hp;generalize hu:Aa x=u at hp;cases hp with
   | ptr _ B ob sz _ _ q AI hq=>exact⟨_,hrun Aa w B q hu,.ptr b B ob sz i (j+fd.offset) _ AI (by omega)⟩
  ·rename_i cs j ha;refine Good.pure h λAa w φ I hx=>?_;have hp:=hx x hm;rw[ha]at hp;generalize hu:Aa x=u at hp;cases hp with
   | tp _ _ B ob q uf hI hq hc h1 hr=>exact⟨_,hrun Aa w B q hu,.tp cs (j+fd.offset) B ob _ uf hI (by omega) hc h1 hr⟩
  ·cases h
 ·cases h
def akR(A7:E8 P tt){t:TypeId}{x:Operand}{f:Nat}(ho:o.op=.field t x f)(h:CT tt ρ rd nx (.field t x f) k=some r):Good P o ρ rd k r:=by
 simp only[CT]at h;have hm:x ∈ o.op.operands:=by simp[ho,Op.operands]
 obtain⟨ti,Cc,h⟩:=CE h;split at h
 ·rename_i fields cs hd ha;obtain⟨fd,Yj,h⟩:=CE h;obtain⟨tf,Sq,h⟩:=CE h;have yo:fields[f]? = some fd:=by simpa using Yj
  obtain⟨v,Yi,jg⟩:=eX h;refine Good.pure Yi λAa w φ I hx=>?_;have hp:=hx x hm;rw[ha]at hp;generalize hu:Aa x=u at hp;cases hp with
  | agg _ vs hl h1 hr=>obtain⟨v',u,e,hrun,hv⟩:=adi (A7 fd.type tf Sq) (w:=w) (I:=I) (φ:=φ) (vs:=vs) ⟨hl,h1,hr⟩ (jg (R':=AV) some);cases e;refine⟨u,?_,hv⟩;simp[execOp,ho,Instr.field,run_underlying (A7 t ti Cc),hd,yo,hu,asAgg,hrun]
 ·cases h
def Xh{i:Int}{n:Nat}(h:(decide (0<=i)&&decide (i<(n:Int)))=true):0<=i/\i<(n:Int)/\i.toNat<n:=by obtain⟨h1,h2⟩:=A4 h;have h1:=El h1;have h2:=El h2;omega
def ajc(A7:E8 P tt){t:TypeId}{x ix:Operand}(ho:o.op=.indexAddr t x ix)(h:CT tt ρ rd nx (.indexAddr t x ix) k=some r):Good P o ρ rd k r:=by
 simp only[CT]at h;have hm:x ∈ o.op.operands:=by simp[ho,Op.operands]
 have zZ:ix ∈ o.op.operands:=by simp[ho,Op.operands]
 obtain⟨ti,Cc,h⟩:=CE h;split at h
 ·rename_i kd i hi;have DU:∀ (Aa:Operand->Value) (w:World) (φ:Ac) (I:Nat->Prop),(∀ x ∈ o.op.operands,RV w I φ (ρ x) (Aa x))->Aa ix=.int kd i:=by
   intro Aa w φ I hx;have hp:=hx ix zZ;rw[hi]at hp;generalize Aa ix=u at hp;cases hp;rfl
  split at h
  ·rename_i n e hd;obtain⟨te,Eb,h⟩:=CE h;obtain⟨hr,h⟩:=BG h;obtain⟨h0,h1,_⟩:=Xh hr;have hrun:∀ (Aa:Operand->Value) (w:World) B q,Aa ix=.int kd i->Aa x=.pointer (some ⟨B,q,none⟩) ->
     (execOp Aa o).run P w=.ok (.value (.pointer (some ⟨B,q+i.toNat*te.size,none⟩))) w:=by
    intro Aa w B q e1 e2;simp[execOp,ho,Instr.indexAt,run_underlying (A7 t ti Cc),hd,e1,e2,Instr.sureAddr,asIntOf,run_sizeOf (A7 e te Eb),h0,h1,Mm]
   split at h
   ·rename_i b i' j ha;refine Good.pure h λAa w φ I hx=>?_;have hp:=hx x hm;rw[ha]at hp;generalize hu:Aa x=u at hp;cases hp with
    | ptr _ B ob sz _ _ q AI hq=>exact⟨_,hrun Aa w B q (DU Aa w φ I hx) hu,.ptr b B ob sz i' _ _ AI (by omega)⟩
   ·rename_i cs j ha;refine Good.pure h λAa w φ I hx=>?_;have hp:=hx x hm;rw[ha]at hp;generalize hu:Aa x=u at hp;cases hp with
    | tp _ _ B ob q uf hI hq hc h1 hr=>exact⟨_,hrun Aa w B q (DU Aa w φ I hx) hu,.tp cs _ B ob _ uf hI (by omega) hc h1 hr⟩
   ·cases h
  ·rename_i e hd;obtain⟨te,Eb,h⟩:=CE h;have hrun:∀ (Aa:Operand->Value) (w:World) B q (n cap:Nat),Aa ix=.int kd i->0<=i->i<(n:Int)->Aa x=.slice (some ⟨B,q,none⟩) n cap ->
     (execOp Aa o).run P w=.ok (.value (.pointer (some ⟨B,q+i.toNat*te.size,none⟩))) w:=by
    intro Aa w B q n cap e1 h0 h1 e2;simp[execOp,ho,Instr.indexAt,run_underlying (A7 t ti Cc),hd,e1,e2,asIntOf,run_sizeOf (A7 e te Eb),h0,h1,Mm]
   split at h
   ·rename_i sz b off len cm ha;obtain⟨hr,h⟩:=BG h;obtain⟨hsz,hr⟩:=A4 hr;have hsz:=BN hsz;obtain⟨h0,h1,h2⟩:=Xh hr;refine Good.pure h λAa w φ I hx=>?_;have hp:=hx x hm;rw[ha]at hp;generalize hu:Aa x=u at hp;cases hp with
    | sl _ _ B ob _ _ _ cap q AI hq hl hc hs=>refine⟨_,hrun Aa w B q len cap (DU Aa w φ I hx) h0 h1 hu,.ptr b B ob sz _ 0 _ AI ?_⟩;rw[<- hsz,hq,F0];omega
    | sle=>omega
   ·rename_i sz es ha;obtain⟨hr,h⟩:=BG h;obtain⟨hsz,h0⟩:=A4 hr;have hsz:=BN hsz;have h0:=El h0;split at h
    ·rename_i cs hcs;have hlt:i.toNat<es.length:=by
      rcases Cj i.toNat es.length with h | h
      ·exact h
      ·rw[CK h]at hcs;cases hcs
     have Ab:es.getD i.toNat []=cs:=by simp[List.getD,hcs]
     refine Good.pure h λAa w φ I hx=>?_;have hp:=hx x hm;rw[ha]at hp;generalize hu:Aa x=u at hp;cases hp with
     | A9 _ _ _ hp hz=>
      generalize hn:es.length=n at hp;generalize hf:(λi=>es.getD i [])=f at hp;cases hp with
      | tr _ _ _ B ob cap uf hI Eo C6 hlen hc h1 hr=>
       have jh:f i.toNat=cs:=by rw[<- hf];exact Ab
       refine⟨_,hrun Aa w B ob n cap (DU Aa w φ I hx) h0 (by omega) hu,.tp cs 0 B (ob+i.toNat*sz) _ (uf i.toNat) (hI (by omega)) (by rw[hsz];omega) ?_ ?_ ?_⟩
       ·intro q c e;exact hc i.toNat q c (by omega) (by rw[jh];exact e)
       ·intro q c e;exact h1 i.toNat q c (by omega) (by rw[jh];exact e)
       ·intro q c e;exact hr i.toNat q c (by omega) (by rw[jh];exact e)
      | Cq=>omega
    ·cases h
   ·rename_i sz n f ha;obtain⟨hr,h⟩:=BG h;obtain⟨hsz,hr⟩:=A4 hr;have hsz:=BN hsz;obtain⟨h0,h1,h2⟩:=Xh hr;refine Good.pure h λAa w φ I hx=>?_;have hp:=hx x hm;rw[ha]at hp;generalize hu:Aa x=u at hp;cases hp with
    | tr _ _ _ B ob cap uf hI Eo C6 hlen hc MI hr=>
     refine⟨_,hrun Aa w B ob n cap (DU Aa w φ I hx) h0 h1 hu,.tp (f i.toNat) 0 B (ob+i.toNat*sz) _ (uf i.toNat) (hI (by omega)) (by rw[hsz];omega) ?_ ?_ ?_⟩
     ·intro q c e;exact hc i.toNat q c h2 e
     ·intro q c e;exact MI i.toNat q c h2 e
     ·intro q c e;exact hr i.toNat q c h2 e
    | Cq=>omega
   ·rename_i sz n f ha;obtain⟨hr,h⟩:=BG h;obtain⟨hsz,hr⟩:=A4 hr;have hsz:=BN hsz;obtain⟨h0,h1,h2⟩:=Xh hr;refine Good.pure h λAa w φ I hx=>?_;have hp:=hx x hm;rw[ha]at hp;generalize hu:Aa x=u at hp;cases hp with
    | tn _ _ _ _ hp=>
     cases hp with
     | tr _ _ _ B ob cap uf hI Eo C6 hlen hc MI hr=>
      refine⟨_,hrun Aa w B ob n cap (DU Aa w φ I hx) h0 h1 hu,.tp (f i.toNat) 0 B (ob+i.toNat*sz) _ (uf i.toNat) (hI (by omega)) (by rw[hsz];omega) ?_ ?_ ?_⟩
      ·intro q c e;exact hc i.toNat q c h2 e
      ·intro q c e;exact MI i.toNat q c h2 e
      ·intro q c e;exact hr i.toNat q c h2 e
     | Cq=>omega
   ·rename_i sz b n ha;obtain⟨hr,h⟩:=BG h;obtain⟨hsz,hr⟩:=A4 hr;have hsz:=BN hsz;obtain⟨h0,h1,h2⟩:=Xh hr;refine Good.pure h λAa w φ I hx=>?_;have hp:=hx x hm;rw[ha]at hp;generalize hu:Aa x=u at hp;cases hp with
    | DT=>omega
    | sn _ _ _ B ob cap AI hl hs=>exact⟨_,hrun Aa w B ob n cap (DU Aa w φ I hx) h0 h1 hu,.ptr b B ob sz i.toNat 0 _ AI (by rw[hsz];omega)⟩
   ·cases h
  ·cases h
 ·cases h
def akS(A7:E8 P tt){t:TypeId}{x ix:Operand}(ho:o.op=.index t x ix)(h:CT tt ρ rd nx (.index t x ix) k=some r):Good P o ρ rd k r:=by
 simp only[CT]at h;have hm:x ∈ o.op.operands:=by simp[ho,Op.operands]
 have zZ:ix ∈ o.op.operands:=by simp[ho,Op.operands]
 obtain⟨ti,Cc,h⟩:=CE h;split at h
 ·rename_i kd i hi;have DU:∀ (Aa:Operand->Value) (w:World) (φ:Ac) (I:Nat->Prop),(∀ x ∈ o.op.operands,RV w I φ (ρ x) (Aa x))->Aa ix=.int kd i:=by
   intro Aa w φ I hx;have hp:=hx ix zZ;rw[hi]at hp;generalize Aa ix=u at hp;cases hp;rfl
  split at h
  ·rename_i s hd ha;obtain⟨hr,h⟩:=BG h;obtain⟨h0,h1,h2⟩:=Xh hr;refine Good.pure h λAa w φ I hx=>?_;have hp:=hx x hm;rw[ha]at hp;generalize hu:Aa x=u at hp;cases hp with
   | str b _ hb=>
    subst hb;refine⟨_,?_,.int _ _⟩;have hlt:i.toNat<b.size:=by simpa using h2
    have hg:b[i.toNat]? = some b[i.toNat]:=by simp[getElem?_def,hlt]
    simp[execOp,ho,Instr.index,DU Aa w φ I hx,asIntOf,run_underlying (A7 t ti Cc),hd,hu,h0,hg];have:b.data[i.toNat]? = some b.data[i.toNat]:=Cy hlt;simp[this];rfl
  ·rename_i n e cs hd ha;obtain⟨te,Eb,h⟩:=CE h;obtain⟨hr,h⟩:=BG h;obtain⟨h0,h1,h2⟩:=Xh hr;obtain⟨v,Yi,jg⟩:=eX h;refine Good.pure Yi λAa w φ I hx=>?_;have hp:=hx x hm;rw[ha]at hp;generalize hu:Aa x=u at hp;cases hp with
   | agg _ vs hl MI hr=>obtain⟨v',u,e',hrun,hv⟩:=adi (A7 e te Eb) (w:=w) (I:=I) (φ:=φ) (vs:=vs) ⟨hl,MI,hr⟩ (jg (R':=AV) some);cases e';refine⟨u,?_,hv⟩;simp[execOp,ho,Instr.index,DU Aa w φ I hx,asIntOf,run_underlying (A7 t ti Cc),hd,hu,h0,h1,run_sizeOf (A7 e te Eb),hrun]
  ·cases h
 ·cases h
def ajz{x:Operand}{i:Nat}(ho:o.op=.extract x i)(h:CT tt ρ rd nx (.extract x i) k=some r):Good P o ρ rd k r:=by
 simp only[CT]at h;have hm:x ∈ o.op.operands:=by simp[ho,Op.operands]
 split at h
 ·rename_i vs ha;obtain⟨v,hv,h⟩:=CE h;refine Good.pure h λAa w φ I hx=>?_;have hp:=hx x hm;rw[ha]at hp;generalize hu:Aa x=u at hp;cases hp with
  | Am _ us hl hr=>
   have hi:i<us.size:=by
    rcases Cj i vs.length with h | h
    ·omega
    ·rw[CK h]at hv;cases hv
   refine⟨us[i],?_,hr i v _ hv (Cy hi)⟩;simp[execOp,ho,Instr.extract,hu,hi]
 ·cases h
def ajm{f:Fn}{first cap:Array Operand}(ho:o.op=.makeFunc f first cap)(h:CT tt ρ rd nx (.makeFunc f first cap) k=some r):Good P o ρ rd k r:=by
 simp only[CT]at h;refine Good.pure h λAa w φ I hx=>?_;refine⟨.func f (first.map Aa) (cap.map Aa),by simp[execOp,ho,Instr.makeFunc],.fn f _ _ _ _ (by simp) (by simp) ?_ ?_⟩
 ·intro q x u e e';rw[EO]at e;rw[Qf]at e';rw[HV]at e;cases hq:first[q]? with
  | none=>rw[hq]at e;cases e
  | some y=>rw[hq]at e e';cases e;cases e';exact hx y (by simp[ho,Op.operands,Array.mem_of_getElem? hq])
 ·intro q x u e e';rw[EO]at e;rw[Qf]at e';rw[HV]at e;cases hq:cap[q]? with
  | none=>rw[hq]at e;cases e
  | some y=>rw[hq]at e e';cases e;cases e';exact hx y (by simp[ho,Op.operands,Array.mem_of_getElem? hq])
end
end
section
variable {R:Type}
def DV:∀ (a b:List UInt8),A5 a b=(a == b)
 | [],[]=>rfl
 | [],_::_=>rfl
 | _::_,[]=>rfl
 | a::x,b::y=>by simp only[A5,DV x y,List.cons_beq_cons];congr 1;rw[Bool.eq_iff_iff,Nat.beq_eq];simp[UInt8.toNat_inj]
def ab1:∀ (a b:List UInt8),strLt a b=Op.bytesLess a b
 | [],[]=>rfl
 | [],_::_=>rfl
 | _::_,[]=>rfl
 | a::x,b::y=>by
  simp only[strLt,Op.bytesLess,ab1 x y];have h1:Nat.blt a.toNat b.toNat=decide (a<b):=by rw[Bool.eq_iff_iff,CW];simp[UInt8.lt_iff_toNat_lt]
  have h2:Nat.beq a.toNat b.toNat=(a == b):=by rw[Bool.eq_iff_iff,Nat.beq_eq];simp[UInt8.toNat_inj]
  rw[h1,h2]
def fK(c:Option Ordering)(p:Ordering):pC c p=(c == some p):=by
 cases c with
 | none=>rfl
 | some c=>cases c <;> cases p <;> rfl
def eJ{a b:IntKind}(h:nm a b=true):a=b:=El h
def eA{a b:FloatKind}(h:UT a b=true):a=b:=El h
def akT(a b:Bool):v8 a b=(a == b):=by cases a <;> cases b <;> rfl
def fe{b:Option Bool}{k:AV->Option R}{r:R}(h:bX b k=some r):∃ x,b=some x/\k (.bool x)=some r:=by
 cases b with
 | none=>cases h
 | some x=>exact⟨x,rfl,h⟩
section
variable {P:Program}
def akU{op:BinOp}{a b:List UInt8}{x:Bool}(h:oC op a b=some x)(s s':ByteArray)(hs:a=s.data.toList)(hs':b=s'.data.toList)(w:World) :
  (Op.stringOp op s s').run P w=.ok (.bool x) w:=by
 subst hs;subst hs';unfold oC at h;split at h <;> cases h <;> simp[Op.stringOp,ByteArray.toList_eq,DV,ab1]
def ajZ{op:BinOp}{a b:Int}{x:Bool}(h:oA op a b=some x)(w:World):(Op.intCmp op a b).run P w=.ok (.bool x) w:=by unfold oA at h;split at h <;> cases h <;> simp[Op.intCmp] <;> first | rfl | (rw[Bool.eq_iff_iff];simp)
def ajn{op:BinOp}{k:FloatKind}{a b:Nat}{x:Bool}(h:oB op k a b=some x)(w:World):(Op.floatCmp op k a b).run P w=.ok (.bool x) w:=by unfold oB at h;split at h <;> cases h <;> simp[Op.floatCmp,Db,ID,Sn,fK,bne]
def adk{tt:TT}(A7:E8 P tt){t:TypeId}{x y:AV}{b:Bool}(h:Qy tt t x y=some b){w:World}{I:Nat->Prop}{φ:Ac}{u v:Value}
  (hx:RV w I φ x u) (hy:RV w I φ y v) (d:Nat):(Op.equalIn (d+1) t u v).run P w=.ok b w:=by
 unfold Qy at h;split at h
 ·cases h
 ·rename_i ti Cc;have hd:=run_underlying (A7 t ti Cc) w;split at h
  all_goals first | cases h | skip
  ·rename_i e;rw[e]at hd;cases hx;cases hy;simp[Op.equalIn,hd,akT]
  ·rename_i e;rw[e]at hd;cases hx;cases hy;obtain⟨hk,h2⟩:=BG h;clear h;cases eJ hk;cases h2;simp[Op.equalIn,hd];rfl
  ·rename_i e;rw[e]at hd;cases hx;cases hy;obtain⟨hk,h2⟩:=BG h;clear h;cases eA hk;cases h2;simp[Op.equalIn,hd,Db,fK,Op.floatEq]
  ·rename_i e;rw[e]at hd;cases hx;cases hy;obtain⟨hk,h2⟩:=BG h;clear h;cases eA hk;cases h2;simp[Op.equalIn,hd,Db,fK,Op.floatEq]
  ·rename_i e;rw[e]at hd;cases hx with
   | str s _ hs=>cases hy with
    | str s' _ hs'=>subst hs;subst hs';simp[Op.equalIn,hd,DV,beq_toListBytes,ByteArray.toList_eq]
  ·rename_i e;rw[e]at hd;cases hx;cases hy;simp[Op.equalIn,hd]
  ·rename_i e;rw[e]at hd;cases hx;cases hy;simp[Op.equalIn,hd]
  ·rename_i e;rw[e]at hd;cases hx;cases hy;simp[Op.equalIn,hd]
  ·rename_i e;rw[e]at hd;cases hx;cases hy;simp[Op.equalIn,hd]
  ·rename_i e;rw[e]at hd;cases hx;cases hy;simp[Op.equalIn,hd]
  ·rename_i e;rw[e]at hd;cases hx;cases hy;simp[Op.equalIn,hd]
  ·rename_i e;rw[e]at hd;cases hx;cases hy with
   | A9 _ _ _ hy hz=>revert hy;generalize (λi=>List.getD _ i _)=f;generalize List.length _=n;intro hy;cases hy <;> first | (simp[Op.equalIn,hd];done) | (rename_i a;cases a <;> simp_all [Op.equalIn])
  ·rename_i e;rw[e]at hd;cases hy;cases hx with
   | A9 _ _ _ hx hz=>revert hx;generalize (λi=>List.getD _ i _)=f;generalize List.length _=n;intro hx;cases hx <;> first | (simp[Op.equalIn,hd];done) | (rename_i a;cases a <;> simp_all [Op.equalIn])
  ·rename_i e;rw[e]at hd;cases hx <;> cases hy <;> simp[Op.equalIn,hd]
  ·rename_i e;rw[e]at hd;cases hy;cases hx <;> simp[Op.equalIn,hd]
  ·rename_i e;rw[e]at hd;cases hx;cases hy;simp[Op.equalIn,hd]
  ·rename_i e;rw[e]at hd;cases hx;cases hy;simp[Op.equalIn,hd]
  ·rename_i e;rw[e]at hd;cases hx;cases hy;simp[Op.equalIn,hd]
  ·rename_i e;rw[e]at hd;cases hx;cases hy;simp[Op.equalIn,hd]
def aao{tt:TT}(A7:E8 P tt){xs ys:List AV}{w:World}{I:Nat->Prop}{φ:Ac}{us vs:Array Value}(hx:RC w I φ xs us)(hy:RC w I φ ys vs)(d:Nat) :
  ∀ (fs : List Field) {b : Bool}, fs.all (λf => f.name != "_") = true → eqFields tt xs ys fs = some b → (Op.eqFields (d + 1) us vs fs).run P w = .ok b w
 | [],b,_,h=>by cases h;rfl
 | f::fs,b,hn,h=>by
  simp only[List.all_cons,My]at hn;have hname : f.name ≠ "_" := by simpa using hn.1
  simp only[eqFields]at h;split at h
  ·rename_i x y z5 z6;split at h
   ·rename_i a b' ha hb;cases h;have ih:=aao A7 hx hy d fs hn.2 hb;unfold eqFields.wa at ha;split at ha
    ·rename_i ti Cc;obtain⟨Sr,ha⟩:ti.agg=false/\Qy tt f.type x y=some a:=by
      cases hg:ti.agg with
      | true=>rw[hg]at ha;cases ha
      | false=>rw[hg]at ha;exact⟨rfl,ha⟩
     have hu:f.offset<us.size:=by
      rcases Cj f.offset xs.length with h | h
      ·have:=hx.1;omega
      ·rw[CK h]at z5;cases z5
     have hv:f.offset<vs.size:=by
      rcases Cj f.offset ys.length with h | h
      ·have:=hy.1;omega
      ·rw[CK h]at z6;cases z6
     have hp1:(part f.type us f.offset).run P w=.ok us[f.offset] w:=by unfold part;simp only[Ce,ZT (A7 f.type ti Cc),Co,Sr,I8,Hg,Cy hu,CS]
     have ji:(part f.type vs f.offset).run P w=.ok vs[f.offset] w:=by unfold part;simp only[Ce,ZT (A7 f.type ti Cc),Co,Sr,I8,Hg,Cy hv,CS]
     have he:=adk A7 ha (hx.2.2 _ _ _ z5 (Cy hu)) (hy.2.2 _ _ _ z6 (Cy hv)) d;simp only[Op.eqFields,hname,ne_eq,not_false_eq_true,IW,Ce,hp1,ji,he,Co];cases a with
     | true=>simp[ih]
     | false=>simp
    ·cases ha
   ·cases h
  ·cases h
def u9{tt:TT}(A7:E8 P tt){t:TypeId}{x y:AV}{b:Bool}(h:VW tt t x y=some b){w:World}{I:Nat->Prop}{φ:Ac}{u v:Value}
  (hx:RV w I φ x u) (hy:RV w I φ y v):(Op.equal t u v).run P w=.ok b w /\ ∀ (op:BinOp) (p q:Operand),(eqGuard op t p q u v).run P w=.ok () w:=by
 unfold VW at h;split at h
 ·rename_i xs ys;split at h
  ·rename_i ti Cc;split at h
   ·rename_i fields hd;obtain⟨hst,h⟩:=Xc h;obtain⟨hn,h⟩:=BG h;cases hx with
    | agg _ us JS h11 hr1=>cases hy with
     | agg _ vs pE jj z7=>
      obtain⟨i,hi,hs,hby,JT,ha,hz,arO,_⟩:=Ol (A7 t ti Cc);have hf:P.fieldsOf t=fields:=by simp[Program.fieldsOf,JT,hd]
      have hu:P.underlying t=some (.struct (P.fieldsOf t)):=by rw[hf,JT,hd]
      have V3:P.eqGuardType P.depth t=false:=by
       have aw5:P.depth=(P.depth - 2)+1+1:=by unfold Program.depth;omega
       rw[aw5];simp only[Program.eqGuardType,JT,hd];rw[Array.any_eq_false];intro q hq;have Fo:fields[q] ∈ fields.toList:=by simp
       have A8:∀ (fs:List Field) (b:Bool),eqFields tt xs ys fs=some b -> ∀ f ∈ fs,∃ tf,tt f.type=some tf/\tf.agg=false /\ ∃ x y b,Qy tt f.type x y=some b:=by
        intro fs
        induction fs with
        | nil=>intro b _ f hf;cases hf
        | cons g fs ih=>
         intro b hb f hf;simp only[eqFields]at hb;split at hb
         ·split at hb
          ·rename_i a b' ha Aw;rcases Dz.1 hf with rfl | hf
           ·unfold eqFields.wa at ha;split at ha
            ·rename_i tf Sq;cases hg:tf.agg with
             | true=>rw[hg]at ha;cases ha
             | false=>rw[hg]at ha;exact⟨tf,Sq,hg,_,_,_,ha⟩
            ·cases ha
           ·exact ih _ Aw f hf
          ·cases hb
         ·cases hb
       obtain⟨tf,Sq,Sr,x1,y1,b1,jk⟩:=A8 _ _ h _ Fo;obtain⟨i2,OZ,Kx,azv,aw6,ha2,hz2,azw,_⟩:=Ol (A7 _ tf Sq);simp only[aw6];unfold Qy at jk;rw[Sq]at jk;simp only at jk;split at jk <;> first | (rename_i e;simp[e];done) | (cases jk;done)
      refine⟨?_,λop p q=>run_eqGuard_agg (P:=P) w op t p q us vs V3⟩;unfold Op.equal Op.maxDepth;rw[run_equalIn_struct w 9999 t us vs hu (arO ▸ hst),hf];exact aao A7 ⟨JS,h11,hr1⟩ ⟨pE,jj,z7⟩ 9998 _ hn h
   ·cases h
  ·cases h
 ·rename_i jl;refine⟨adk A7 h hx hy 9999,λop p q=>?_⟩;have jm:∀ (z:AV) (u:Value),RV w I φ z u->u=.nilIface->z=.undef:=by
   intro z u hz e;subst e;cases hz with
   | undef=>rfl
   | A9 _ _ _ h _=>generalize hn:List.length _=n at h;generalize (λi=>List.getD _ i _)=f at h;cases h
   | tn _ _ _ _ h=>cases h
  have Sr:∀ (z:AV) (u:Value) (c:Array Value),RV w I φ z u->u=.agg c->z=.undef \/ ∃ cs,z=.agg cs:=by
   intro z u c hz e;subst e;cases hz with
   | undef=>exact .inl rfl
   | agg cs=>exact .inr ⟨cs,rfl⟩
   | A9 _ _ _ h _=>generalize hn:List.length _=n at h;generalize (λi=>List.getD _ i _)=f at h;cases h
   | tn _ _ _ _ h=>cases h
  have z8:x ≠ .undef/\y ≠ .undef:=by
   constructor
   ·rintro rfl;unfold Qy at h;split at h <;> first | (cases h;done) | (split at h <;> first | (clear hx hy jm Sr jl;simp_all;done) | (cases h;done))
   ·rintro rfl;unfold Qy at h;split at h <;> first | (cases h;done) | (split at h <;> first | (clear hx hy jm Sr jl;simp_all;done) | (cases h;done))
  have HZ:∀ (X:Sem Unit) (Y:Array Value->Array Value->Sem Unit),Sem.run P (match u,v with
    | .nilIface,.nilIface=>X
    | .agg a,.agg b=>Y a b
    | _,_=>pure ()) w=.ok () w:=by
   intro X Y;split
   ·exact absurd (jm x _ hx rfl) z8.1
   ·rcases Sr x _ _ hx rfl with e | ⟨cs,e⟩
    ·exact absurd e z8.1
    ·rcases Sr y _ _ hy rfl with e' | ⟨A3,e'⟩
     ·exact absurd e' z8.2
     ·exact(jl cs A3 e e').elim
   ·rfl
  cases op <;> first | rfl | (simp only[eqGuard,Dr,I8,Hg];exact HZ _ _)
end
end
section
variable {R:Type}
section
variable {P:Program} {tt:TT} {ρ:Operand->AV} {rd:Nat->BS} {nx:Nat} {k:KW R} {r:R} {o:Oper}
def lJ(op:BinOp)(t:TypeId)(p q:Operand)(u v:Value)(w:World)(h:(∀ c,u ≠ .agg c)/\u ≠ .nilIface):(eqGuard op t p q u v).run P w=.ok () w:=by
 have HZ:∀ (X:Sem Unit) (Y:Array Value->Array Value->Sem Unit),Sem.run P (match u,v with
   | .nilIface,.nilIface=>X
   | .agg a,.agg b=>Y a b
   | _,_=>pure ()) w=.ok () w:=by
  intro X Y;split
  ·exact absurd rfl h.2
  ·exact absurd rfl (h.1 _)
  ·rfl
 cases op <;> first | rfl | (simp only[eqGuard,Dr,I8,Hg];exact HZ _ _)
def akV(A7:E8 P tt){op:BinOp}{t t2:TypeId}{x y:Operand}(ho:o.op=.binOp op t x y t2)(h:CT tt ρ rd nx (.binOp op t x y t2) k=some r):Good P o ρ rd k r:=by
 simp only[CT]at h;have hm:x ∈ o.op.operands:=by simp[ho,Op.operands]
 have hm2:y ∈ o.op.operands:=by simp[ho,Op.operands]
 have hex:∀ (Aa:Operand->Value) (w:World) (u:Value),(eqGuard op t x y (Aa x) (Aa y)).run P w=.ok () w->(binOp op t (Aa x) (Aa y)).run P w=.ok u w->(execOp Aa o).run P w=.ok (.value u) w:=by intro Aa w u h1 h2;simp only[execOp,ho,Ce,h1,h2,Co,CS]
 unfold afE at h;split at h
 ·rename_i kd a K9 b CL Yk;have C8:∀ {v:AV} {u:Value},k v [] []=some r->(∀ w,(binOp op t (.int kd a) (.int K9 b)).run P w=.ok u w)->(∀ w I φ,RV w I φ v u)->Good P o ρ rd k r:=by
   intro v u hk hrun QB;refine Good.pure hk λAa w φ I hx=>⟨u,?_,QB w I φ⟩
   have h1:=hx x hm;have h2:=hx y hm2;rw[CL]at h1;rw[Yk]at h2;generalize hu:Aa x=ux at h1;generalize hv:Aa y=uy at h2;cases h1;cases h2;refine hex Aa w u ?_ ?_
   ·rw[hu,hv];exact lJ op t x y _ _ w ⟨λc e=>(by cases e),λe=>(by cases e)⟩
   ·rw[hu,hv];exact hrun w
  split at h
  ·obtain⟨hb,h⟩:=Xc h;have hb:=Gk hb;exact C8 h (λw=>by simp[binOp,Op.shift,hb]) λw I φ=>.int _ _
  ·obtain⟨hb,h⟩:=Xc h;have hb:=Gk hb;exact C8 h (λw=>by simp[binOp,Op.shift,hb]) λw I φ=>.int _ _
  ·rename_i hn1 V4;obtain⟨hk,h2⟩:=BG h;clear h;cases eJ hk;have h:=h2;clear h2;split at h
   ·exact C8 h (λw=>by simp[binOp,Op.intArith]) λw I φ=>.int _ _
   ·exact C8 h (λw=>by simp[binOp,Op.intArith]) λw I φ=>.int _ _
   ·exact C8 h (λw=>by simp[binOp,Op.intArith]) λw I φ=>.int _ _
   ·obtain⟨hb,h⟩:=Xc h;have hb:=Gk hb;exact C8 h (λw=>by simp[binOp,Op.intDiv,hb]) λw I φ=>.int _ _
   ·obtain⟨hb,h⟩:=Xc h;have hb:=Gk hb;exact C8 h (λw=>by simp[binOp,Op.intDiv,hb]) λw I φ=>.int _ _
   ·exact C8 h (λw=>by simp[binOp,Op.intBits]) λw I φ=>.int _ _
   ·exact C8 h (λw=>by simp[binOp,Op.intBits]) λw I φ=>.int _ _
   ·exact C8 h (λw=>by simp[binOp,Op.intBits]) λw I φ=>.int _ _
   ·exact C8 h (λw=>by simp[binOp,Op.intBits]) λw I φ=>.int _ _
   ·obtain⟨c,hc,h⟩:=fe h;refine C8 h (λw=>?_) λw I φ=>.bool _;have:=ajZ (P:=P) hc w;unfold oA at hc;split at hc <;> first | (cases hc;done) | (simpa [binOp] using this)
 ·rename_i kd a K9 b CL Yk;obtain⟨hk,h2⟩:=BG h;clear h;cases eA hk;have h:=h2;clear h2;have C8:∀ {v:AV} {u:Value},k v [] []=some r->(∀ w,(binOp op t (.float kd a) (.float kd b)).run P w=.ok u w)->(∀ w I φ,RV w I φ v u)->Good P o ρ rd k r:=by
   intro v u hk hrun QB;refine Good.pure hk λAa w φ I hx=>⟨u,?_,QB w I φ⟩
   have h1:=hx x hm;have h2:=hx y hm2;rw[CL]at h1;rw[Yk]at h2;generalize hu:Aa x=ux at h1;generalize hv:Aa y=uy at h2;cases h1;cases h2;refine hex Aa w u ?_ ?_
   ·rw[hu,hv];exact lJ op t x y _ _ w ⟨λc e=>(by cases e),λe=>(by cases e)⟩
   ·rw[hu,hv];exact hrun w
  split at h
  ·obtain⟨c,hc,h⟩:=fc h;exact C8 h (λw=>by simp[binOp,Op.floatArith,hc]) λw I φ=>.DR _ _
  ·obtain⟨c,hc,h⟩:=fc h;exact C8 h (λw=>by simp[binOp,Op.floatArith,hc]) λw I φ=>.DR _ _
  ·obtain⟨c,hc,h⟩:=fc h;exact C8 h (λw=>by simp[binOp,Op.floatArith,hc]) λw I φ=>.DR _ _
  ·obtain⟨c,hc,h⟩:=fc h;exact C8 h (λw=>by simp[binOp,Op.floatArith,hc]) λw I φ=>.DR _ _
  ·obtain⟨c,hc,h⟩:=fe h;refine C8 h (λw=>?_) λw I φ=>.bool _;have:=ajn (P:=P) hc w;unfold oB at hc;split at hc <;> first | (cases hc;done) | (simpa [binOp] using this)
 ·rename_i kd a b K9 c d CL Yk;obtain⟨hk,h2⟩:=BG h;clear h;cases eA hk;have h:=h2;clear h2;have C8:∀ {v:AV} {u:Value},k v [] []=some r->(∀ w,(binOp op t (.complex kd a b) (.complex kd c d)).run P w=.ok u w)->(∀ w I φ,RV w I φ v u)->Good P o ρ rd k r:=by
   intro v u hk hrun QB;refine Good.pure hk λAa w φ I hx=>⟨u,?_,QB w I φ⟩
   have h1:=hx x hm;have h2:=hx y hm2;rw[CL]at h1;rw[Yk]at h2;generalize hu:Aa x=ux at h1;generalize hv:Aa y=uy at h2;cases h1;cases h2;refine hex Aa w u ?_ ?_
   ·rw[hu,hv];exact lJ op t x y _ _ w ⟨λc e=>(by cases e),λe=>(by cases e)⟩
   ·rw[hu,hv];exact hrun w
  split at h
  ·refine C8 h (λw=>?_) λw I φ=>.bool _;simp[binOp,Op.complexOp,Op.Complex.cmp,Op.floatCmp,asBool,Db,fK]
  ·refine C8 h (λw=>?_) λw I φ=>.bool _;simp[binOp,Op.complexOp,Op.Complex.cmp,Op.floatCmp,asBool,Db,fK]
  ·cases h
 ·rename_i a b CL Yk;have C8:∀ {v:AV} (u:ByteArray->ByteArray->Value),k v [] []=some r->(∀ w (s s':ByteArray),a=s.data.toList->b=s'.data.toList->(binOp op t (.string s) (.string s')).run P w=.ok (u s s') w /\ ∀ I φ,RV w I φ v (u s s'))->Good P o ρ rd k r:=by
   intro v u hk hrun;refine Good.pure hk λAa w φ I hx=>?_;have h1:=hx x hm;have h2:=hx y hm2;rw[CL]at h1;rw[Yk]at h2;generalize hu:Aa x=ux at h1;generalize hv:Aa y=uy at h2;cases h1 with
   | str s _ hs=>cases h2 with
    | str s' _ hs'=>
     obtain⟨g1,g2⟩:=hrun w s s' hs hs';refine⟨u s s',hex Aa w _ ?_ ?_,g2 I φ⟩
     ·rw[hu,hv];exact lJ op t x y _ _ w ⟨λc e=>(by cases e),λe=>(by cases e)⟩
     ·rw[hu,hv];exact g1
  split at h
  ·obtain⟨hl,h⟩:=BG h;have hl:=DZ hl;refine C8 (λs s'=>.string (s++s')) h λw s s' hs hs'=>⟨?_,λI φ=>.str _ _ ?_⟩
   ·subst hs;subst hs';have:¬ (((s.size+s'.size:Nat):Int) > IntKind.i64.max):=by
     have h1:s.data.toList.length=s.size:=rfl;have h2:s'.data.toList.length=s'.size:=rfl;have:IntKind.i64.max=9223372036854775807:=by decide
     rw[this];omega
    simp only[binOp,Op.stringOp,this,Hg,CS]
   ·subst hs;subst hs';simp[ByteArray.data_append]
  ·obtain⟨c,hc,h⟩:=fe h;refine C8 (λ_ _=>.bool c) h λw s s' hs hs'=>⟨?_,λI φ=>.bool c⟩
   have:=akU (P:=P) hc s s' hs hs' w;unfold oC at hc;split at hc <;> first | (cases hc;done) | (simpa [binOp] using this)
 ·rename_i jm hnf T5 hns;have key:∀ {b:Bool},VW tt t (ρ x) (ρ y)=some b -> ∀ (Aa:Operand->Value) (w:World) (φ:Ac) (I:Nat->Prop),RV w I φ (ρ x) (Aa x)->RV w I φ (ρ y) (Aa y) ->
    (op=.eql->(binOp op t (Aa x) (Aa y)).run P w=.ok (.bool b) w)/\(op=.neq->(binOp op t (Aa x) (Aa y)).run P w=.ok (.bool (!b)) w):=by
   intro b he Aa w φ I h1 h2;have hr:=(u9 A7 he h1 h2).1;have aw7:¬ (∃ k a k' a',Aa x=.int k a/\Aa y=.int k' a') /\ ¬ (∃ k a k' a',Aa x=.float k a/\Aa y=.float k' a') /\
     ¬ (∃ k a b k' a' b',Aa x=.complex k a b/\Aa y=.complex k' a' b') /\ ¬ (∃ a b,Aa x=.string a/\Aa y=.string b):=by
    have V5:ρ x ≠ .undef/\ρ y ≠ .undef:=by
     constructor
     ·intro e;rw[e]at he;unfold VW Qy at he;split at he <;> first | (cases he;done) | (split at he <;> first | (cases he;done) | (split at he <;> first | (cases he;done) | (clear h1 h2 hr hex hm hm2 h;simp_all;done)))
     ·intro e;rw[e]at he;unfold VW Qy at he;split at he <;> first | (cases he;done) | (split at he <;> first | (cases he;done) | (split at he <;> first | (cases he;done) | (clear h1 h2 hr hex hm hm2 h;simp_all;done)))
    have hi:∀ (z:AV) k a,RV w I φ z (.int k a)->z ≠ .undef->z=.int k a:=by
     intro z k a hz hne;cases hz with
     | undef=>exact absurd rfl hne
     | int=>rfl
     | A9 _ _ _ h=>generalize hn:List.length _=n at h;generalize (λi=>List.getD _ i _)=f at h;cases h
     | tn _ _ _ _ h=>cases h
    have hf:∀ (z:AV) k a,RV w I φ z (.float k a)->z ≠ .undef->z=.DR k a:=by
     intro z k a hz hne;cases hz with
     | undef=>exact absurd rfl hne
     | DR=>rfl
     | A9 _ _ _ h=>generalize hn:List.length _=n at h;generalize (λi=>List.getD _ i _)=f at h;cases h
     | tn _ _ _ _ h=>cases h
    have hc:∀ (z:AV) k a b,RV w I φ z (.complex k a b)->z ≠ .undef->z=.Al k a b:=by
     intro z k a b hz hne;cases hz with
     | undef=>exact absurd rfl hne
     | Al=>rfl
     | A9 _ _ _ h=>generalize hn:List.length _=n at h;generalize (λi=>List.getD _ i _)=f at h;cases h
     | tn _ _ _ _ h=>cases h
    have hs:∀ (z:AV) a,RV w I φ z (.string a)->z ≠ .undef->z=.str a.data.toList:=by
     intro z a hz hne;cases hz with
     | undef=>exact absurd rfl hne
     | str _ _ e=>rw[e]
     | A9 _ _ _ h=>generalize hn:List.length _=n at h;generalize (λi=>List.getD _ i _)=f at h;cases h
     | tn _ _ _ _ h=>cases h
    refine⟨?_,?_,?_,?_⟩
    ·rintro⟨k,a,k',a',e1,e2⟩;rw[e1]at h1;rw[e2]at h2;exact jm _ _ _ _ (hi _ _ _ h1 V5.1) (hi _ _ _ h2 V5.2)
    ·rintro⟨k,a,k',a',e1,e2⟩;rw[e1]at h1;rw[e2]at h2;exact hnf _ _ _ _ (hf _ _ _ h1 V5.1) (hf _ _ _ h2 V5.2)
    ·rintro⟨k,a,b,k',a',b',e1,e2⟩;rw[e1]at h1;rw[e2]at h2;exact T5 _ _ _ _ _ _ (hc _ _ _ _ h1 V5.1) (hc _ _ _ _ h2 V5.2)
    ·rintro⟨a,b,e1,e2⟩;rw[e1]at h1;rw[e2]at h2;exact hns _ _ (hs _ _ h1 V5.1) (hs _ _ h2 V5.2)
   obtain⟨n1,n2,n3,n4⟩:=aw7;constructor
   ·rintro rfl;have:binOp .eql t (Aa x) (Aa y)=(do pure (.bool (<- Op.equal t (Aa x) (Aa y)))):=by
     generalize Aa x=u at n1 n2 n3 n4;generalize Aa y=v at n1 n2 n3 n4;unfold binOp;split <;> first | rfl | (rename_i e _ _;cases e;done) | (exact absurd ⟨_,_,_,_,rfl,rfl⟩ n1) | (exact absurd ⟨_,_,_,_,rfl,rfl⟩ n2) | (exact absurd ⟨_,_,_,_,_,_,rfl,rfl⟩ n3) | (exact absurd ⟨_,_,rfl,rfl⟩ n4) | (simp_all;done)
    rw[this];simp[hr]
   ·rintro rfl;have:binOp .neq t (Aa x) (Aa y)=(do pure (.bool (!(<- Op.equal t (Aa x) (Aa y))))):=by
     generalize Aa x=u at n1 n2 n3 n4;generalize Aa y=v at n1 n2 n3 n4;unfold binOp;split <;> first | rfl | (rename_i e _ _;cases e;done) | (exact absurd ⟨_,_,_,_,rfl,rfl⟩ n1) | (exact absurd ⟨_,_,_,_,rfl,rfl⟩ n2) | (exact absurd ⟨_,_,_,_,_,_,rfl,rfl⟩ n3) | (exact absurd ⟨_,_,rfl,rfl⟩ n4) | (simp_all;done)
    rw[this];simp[hr]
  split at h
  ·obtain⟨b,hb,h⟩:=fe h;refine Good.pure h λAa w φ I hx=>⟨_,hex Aa w _ ?_ ?_,.bool b⟩
   ·exact(u9 A7 hb (hx x hm) (hx y hm2)).2 _ x y
   ·exact(key hb Aa w φ I (hx x hm) (hx y hm2)).1 rfl
  ·obtain⟨b,hb,h⟩:=fe h;cases he:VW tt t (ρ x) (ρ y)with
   | none=>rw[he]at hb;cases hb
   | some b'=>
    rw[he]at hb;cases hb;refine Good.pure h λAa w φ I hx=>⟨_,hex Aa w _ ?_ ?_,.bool _⟩
    ·exact(u9 A7 he (hx x hm) (hx y hm2)).2 _ x y
    ·exact(key he Aa w φ I (hx x hm) (hx y hm2)).2 rfl
  ·cases h
def amG{op:UnOp}{t:TypeId}{x:Operand}(ho:o.op=.unOp op t x)(h:CT tt ρ rd nx (.unOp op t x) k=some r):Good P o ρ rd k r:=by
 simp only[CT]at h;have hm:x ∈ o.op.operands:=by simp[ho,Op.operands]
 unfold ahC at h;split at h
 ·rename_i kd n CL;refine Good.pure h λAa w φ I hx=>?_;have hp:=hx x hm;rw[CL]at hp;generalize hu:Aa x=u at hp;cases hp;exact⟨_,by simp[execOp,ho,hu,Op.unary,Op.intArith],.int _ _⟩
 ·rename_i kd n CL;refine Good.pure h λAa w φ I hx=>?_;have hp:=hx x hm;rw[CL]at hp;generalize hu:Aa x=u at hp;cases hp;exact⟨_,by simp[execOp,ho,hu,Op.unary,Op.intBits,Nat.xor_comm],.int _ _⟩
 ·rename_i b CL;refine Good.pure h λAa w φ I hx=>?_;have hp:=hx x hm;rw[CL]at hp;generalize hu:Aa x=u at hp;cases hp;exact⟨_,by simp[execOp,ho,hu,Op.unary],.bool _⟩
 ·cases h
end
end
section
variable {R:Type}
def Gl(φ:Ac):View->Ac
 | .list _=>φ
 | .fn .. => Ac.no
structure Flat(w:World)(I:Nat->Prop)(φ:Ac)(sz n:Nat)(f:Nat->List AV)(vs:Array Value):Prop where
 size:vs.size=n*sz
 one:∀ (p:Nat) u,vs[p]? = some u->u.oneCell'=true
 len:∀ i,i<n->(f i).length=sz
 val:∀ (i k:Nat) c u,i<n->(f i)[k]? = some c->vs[i*sz+k]? = some u->RV w I φ c u
def Flat.mono{w w':World}{I I':Nat->Prop}{φ φ':Ac}{sz n:Nat}{f:Nat->List AV}{vs:Array Value}(h:Flat w I φ sz n f vs)
  (hI:∀ B,I B->I' B/\w'.heap[B]? = w.heap[B]?) (hs:∀ B,Bv w B<=Bv w' B) (le:Ac.le φ φ'):Flat w' I' φ' sz n f vs:=
 ⟨h.size,h.one,h.len,λi k c u hi e e'=>(h.val i k c u hi e e').mono hI hs le⟩
structure yp(w:World)(I:Nat->Prop)(φ:Ac)(sz:Nat)(v:View)(B q:Nat):Prop where
 len:∀ i,i<v.len->(v.at i).length=sz
 cells:∀ i,i<v.len->Cells w I (Gl φ v) B (q+i*sz) (v.at i)
def mR{es:List (List AV)}{i:Nat}(h:i<es.length):es[i]? = some (es.getD i []):=by simp[List.getD,BR h]
def mb{x:AV}{rd:Nat->BS}{sz:Nat}{v:View}(h:x.view rd sz=some v):x.Oz rd sz=some (v,true):=by
 unfold AV.view at h;split at h
 ·rename_i w hw;cases h;exact hw
 ·cases h
def lT{R:Type}{x:AV}{rd:Nat->BS}{sz:Nat}{k:View->Option R}{r:R}(h:aB x rd sz k=some r):∃ v,x.view rd sz=some v/\k v=some r:=by
 unfold aB at h;split at h
 ·rename_i w g hw;obtain⟨hg,h⟩:=BG h;subst hg;exact⟨w,by unfold AV.view;rw[hw],h⟩
 ·cases h
def KF{x:AV}{rd As:Nat->BS}{sz:Nat}(h:∀ b ∈ x.Fx,As b=rd b):x.view As sz=x.view rd sz:=by
 cases x with
 | sl s b off len cm=>have e:=h b (by simp[AV.Fx]);simp only[AV.view,AV.Oz,e]
 | sn s b n=>have e:=h b (by simp[AV.Fx]);simp only[AV.view,AV.Oz,e]
 | _=>rfl
def ajo{rd:Nat->BS}{sz z b off len cm:Nat}{v:View}(h:(AV.sl sz b off len cm).view rd z=some v):sz=z:=by
 replace h:=mb h;simp only[AV.Oz]at h;split at h <;>
 ·simp only[CU,FZ]at h;exact BN (A4 h.2).1
def aa8(v:View):U4 v<=v.len:=by cases v <;> simp[U4,View.len]
def ff{a b:Bool}(h:(a||b)=true):a=true\/b=true:=by cases a <;> simp_all
def Xm{w:World}{I:Nat->Prop}{φ:Ac}{rd:Nat->BS}{sz:Nat}{x:AV}{v:View}{u:Value}(hh:RH w I φ rd)(hv:x.view rd sz=some v)(hx:RV w I φ x u) :
  (∃ s,u=.string s/\sz=1/\v=.fn s.size λi=>[.int .u8 ((s.data.toList.getD i 0).toNat)]) \/
  (∃ B q cap,u=.slice (some ⟨B,q,none⟩) v.len cap/\yp w I φ sz v B q)\/(∃ a n cap,u=.slice a n cap/\v.len=0/\n=0):=by
 replace hv:=mb hv;unfold AV.Oz at hv;split at hv
 ·cases hv;cases hx;exact .inr (.inr ⟨_,_,_,rfl,rfl,rfl⟩)
 ·rename_i s es;simp only[CU,FZ]at hv;obtain⟨rfl,hs⟩:=hv;have hs':=BN hs;clear hs;subst hs';cases hx with
  | A9 _ _ _ hx hz=>
   generalize hn:es.length=n at hx;generalize hf:(λi=>es.getD i [])=f at hx;cases hx with
   | tr _ _ _ B ob cap uf hI Eo C6 hlen hc h1 hr=>
    refine .inr (.inl ⟨B,ob,cap,by simp[View.len,hn],⟨λi hi=>?_,λi hi k c e=>?_⟩⟩)
    ·simp only[View.len]at hi;have:=hlen i (by omega);rw[<- hf]at this;exact this
    ·simp only[View.len]at hi;have e':(f i)[k]? = some c:=by rw[<- hf];exact e
     exact⟨_,hc i k c (by omega) e',h1 i k c (by omega) e',(hr i k c (by omega) e').mono (λB hB=>⟨hB,rfl⟩) (λ_=>Ar _) (Ac.IZ _)⟩
   | Cq=>exact .inr (.inr ⟨_,_,_,rfl,by simp[View.len,hn],rfl⟩)
 ·rename_i s n f;simp only[CU,FZ]at hv;obtain⟨rfl,hs⟩:=hv;have hs':=BN hs;clear hs;subst hs';cases hx with
  | tr _ _ _ B ob cap uf hI Eo C6 hlen hc h1 hr=>exact .inr (.inl ⟨B,ob,cap,rfl,⟨hlen,λi hi k c e=>⟨_,hc i k c hi e,h1 i k c hi e,hr i k c hi e⟩⟩⟩)
  | Cq=>exact .inr (.inr ⟨_,_,_,rfl,rfl,rfl⟩)
 ·rename_i s b off len cm;cases hx with
  | sle=>
   split at hv <;>
   ·simp only[CU,FZ]at hv;obtain⟨rfl,_⟩:=hv;exact .inr (.inr ⟨_,_,_,rfl,by simp[View.len],rfl⟩)
  | sl _ _ B ob _ _ _ cap q AI hq hl hc hsz=>
   by_cases hz:len=0
   ·subst hz;split at hv <;>
    ·simp only[CU,FZ]at hv;obtain⟨rfl,_⟩:=hv;exact .inr (.inr ⟨_,_,_,rfl,by simp[View.len],rfl⟩)
   ·have pG:Nat.beq len 0=false:=by
     cases hb:Nat.beq len 0 with
     | false=>rfl
     | true=>exact absurd (BN hb) hz
    have LO:∀ (Lv:live (rd b)=true),RB w I φ B ob s (rd b):=by intro Lv;obtain⟨B',o',sz',e,r⟩:=hh.JI AI Lv;rw[AI]at e;cases e;exact r
    split at hv
    ·rename_i m s' es hb;simp only[CU,FZ]at hv;obtain⟨rfl,hg⟩:=hv;obtain⟨hs,O0⟩:=A4 hg;clear hg;have hs:=BN hs;subst hs;rw[pG]at O0;have hle:=DZ ((ff O0).resolve_left (by simp));rw[Nat.add_comm]at hle;have hr:=LO (by rw[hb];rfl);rw[hb]at hr;have hlen:((es.drop off).take len).length=len:=by simp;omega
     have Ex:∀ i,i<len->((es.drop off).take len).getD i []=es.getD (off+i) []:=by intro i hi;simp only[List.getD,KV,Ay hi,Qe]
     refine .inr (.inl ⟨B,q,cap,by simp[View.len];omega,⟨λi hi=>?_,λi hi k c e=>?_⟩⟩)
     ·simp only[View.len,hlen]at hi;simp only[View.at,Ex i hi];exact hr.2.2.1 _ _ (mR (by omega))
     ·simp only[View.len,hlen]at hi;simp only[View.at,Ex i hi]at e;have:=hr.2.2.2 (off+i) _ k c (mR (by omega)) e;rw[hq,show ob+off*s+i*s+k=ob+(off+i)*s+k by rw[F0];omega];exact this
    ·rename_i m s' n f hb;simp only[CU,FZ]at hv;obtain⟨rfl,hg⟩:=hv;obtain⟨hs,O0⟩:=A4 hg;clear hg;have hs:=BN hs;subst hs;rw[pG]at O0;have hle:=DZ ((ff O0).resolve_left (by simp));rw[Nat.add_comm]at hle;have hr:=LO (by rw[hb];rfl);rw[hb]at hr;refine .inr (.inl ⟨B,q,cap,rfl,⟨λi hi=>?_,λi hi k c e=>?_⟩⟩)
     ·simp only[View.len]at hi;exact hr.2.2.1 (i+off) (by omega)
     ·simp only[View.len]at hi;have:=hr.2.2.2 (i+off) k c (by omega) e;rw[hq,show ob+off*s+i*s+k=ob+(i+off)*s+k by rw[F0];omega];obtain⟨u,a1,a2,a3⟩:=this;exact⟨u,a1,a2,a3⟩
    ·simp only[CU,FZ]at hv;obtain⟨rfl,hg⟩:=hv;obtain⟨_,hg⟩:=A4 hg;rw[pG]at hg;cases hg
 ·rename_i s;simp only[CU,FZ]at hv;obtain⟨rfl,hs⟩:=hv;have hs:=BN hs;subst hs;cases hx with
  | str s' _ hs=>subst hs;exact .inl ⟨s',rfl,rfl,by simp⟩
 ·rename_i s n f;simp only[CU,FZ]at hv;obtain⟨rfl,hs⟩:=hv;have hs':=BN hs;clear hs;subst hs';cases hx with
  | tn _ _ _ _ hx=>
   cases hx with
   | tr _ _ _ B ob cap uf hI Eo C6 hlen hc h1 hr=>exact .inr (.inl ⟨B,ob,cap,rfl,⟨hlen,λi hi k c e=>⟨_,hc i k c hi e,h1 i k c hi e,hr i k c hi e⟩⟩⟩)
   | Cq=>exact .inr (.inr ⟨_,_,_,rfl,rfl,rfl⟩)
 ·rename_i s b n;split at hv
  ·rename_i m s' n' f hb;simp only[CU,FZ]at hv;obtain⟨rfl,hg⟩:=hv;obtain⟨hs,hle⟩:=A4 hg;have hs':=BN hs;clear hs hg;subst hs';have hle:=DZ hle;cases hx with
   | DT=>exact .inr (.inr ⟨_,_,_,rfl,rfl,rfl⟩)
   | sn _ _ _ B ob cap AI hl hsz=>have hr:=hh.at AI (by rw[hb];rfl);rw[hb]at hr;exact .inr (.inl ⟨B,ob,cap,rfl,⟨λi hi=>hr.2.2.1 i (He hi hle),λi hi k c e=>hr.2.2.2 i k c (He hi hle) e⟩⟩)
  ·simp only[CU,FZ]at hv;obtain⟨rfl,hg⟩:=hv;obtain⟨_,hn⟩:=A4 hg;have hn:=BN hn;subst hn;cases hx <;> exact .inr (.inr ⟨_,_,_,rfl,rfl,rfl⟩)
  ·cases hv
 ·cases hv
def akW{p n sz:Nat}(h:p<n*sz):p / sz<n:=by
 rcases LJ sz with h0 | h0
 ·subst h0;omega
 ·exact(Nat.div_lt_iff_lt_mul h0).2 h
def Oo{i n k sz:Nat}(hi:i<n)(hk:k<sz):i*sz+k<n*sz:=by have:=KU sz (Nat.succ_le_of_lt hi);rw[Nat.succ_mul]at this;omega
def tl{w:World}{I:Nat->Prop}{φ:Ac}{sz:Nat}{v:View}{B q:Nat}(h:yp w I φ sz v B q) :
  ∃ vs:List Value,vs.length=v.len*sz/\(∀ (j:Nat) u,vs[j]? = some u->w.cell? ⟨B,q+j,none⟩=some u)/\Flat w I (Gl φ v) sz v.len v.at vs.toArray:=by
 have hcell:∀ p,p<v.len*sz -> ∃ u,w.cell? ⟨B,q+p,none⟩=some u/\u.oneCell'=true /\ ∀ i k c,p=i*sz+k->k<sz->(v.at i)[k]? = some c->RV w I (Gl φ v) c u:=by
  intro p hp;have hi:=akW hp;have hsz:0<sz:=by rcases LJ sz with h0 | h0 <;> first | exact h0 | (subst h0;omega)
  have hk:=Nat.mod_lt p hsz;have pH:p=p / sz*sz+p % sz:=by rw[Nat.mul_comm];exact(Nat.div_add_mod p sz).symm
  have hl:=h.len _ hi;obtain⟨u,h1,h2,h3⟩:=h.cells _ hi (p % sz) _ (BR (by omega));refine⟨u,?_,h2,?_⟩
  ·rw[<- h1];congr 2;omega
  ·intro i k c e T4 hc;have Sp:i=p / sz:=by
    rw[e,Nat.mul_comm,Nat.mul_add_div hsz,Nat.div_eq_of_lt T4];omega
   have hkk:k=p % sz:=by rw[e,Nat.mul_comm,Nat.mul_add_mod,Nat.mod_eq_of_lt T4]
   subst Sp;rw[hkk,BR (by omega)]at hc;cases hc;exact h3
 refine⟨(List.range (v.len*sz)).map λp=>(w.cell? ⟨B,q+p,none⟩).getD undef,by simp,?_,⟨by simp,?_,h.len,?_⟩⟩
 ·intro j u e;by_cases hj:j<v.len*sz
  ·rw[EO,Mx hj]at e;simp only[FX,CU]at e;obtain⟨u',h1,_⟩:=hcell j hj;rw[h1]at e ⊢;simpa using e
  ·rw[CK (by simp;omega)]at e;cases e
 ·intro p u e;have e:((List.range (v.len*sz)).map λp=>(w.cell? ⟨B,q+p,none⟩).getD undef)[p]? = some u:=by simpa using e
  by_cases hj:p<v.len*sz
  ·rw[EO,Mx hj]at e;simp only[FX,CU]at e;obtain⟨u',h1,h2,_⟩:=hcell p hj;rw[h1]at e;simp at e;exact e ▸ h2
  ·rw[CK (by simp;omega)]at e;cases e
 ·intro i k c u hi hc e;have hk:k<sz:=by
   have:=h.len i hi;rcases Cj k (v.at i).length with h' | h'
   ·omega
   ·rw[CK h']at hc;cases hc
  have hp:=Oo hi hk;have e:((List.range (v.len*sz)).map λp=>(w.cell? ⟨B,q+p,none⟩).getD undef)[i*sz+k]? = some u:=by simpa using e
  rw[EO,Mx hp]at e;simp only[FX,CU]at e;obtain⟨u',h1,_,h3⟩:=hcell _ hp;rw[h1]at e;simp at e;exact e ▸ h3 i k c rfl hk hc
def ab2(w:World)(I:Nat->Prop)(s:ByteArray) :
  Flat w I Ac.no 1 s.size (λi=>[.int .u8 ((s.data.toList.getD i 0).toNat)]) (s.data.map λb=>.int .u8 b.toNat):=by
 refine⟨by simp,λp u e=>?_,λi _=>rfl,λi k c u hi hc e=>?_⟩
 ·rw[Qf]at e;cases hb:s.data[p]? with
  | none=>rw[hb]at e;cases e
  | some b=>rw[hb]at e;cases e;rfl
 ·cases k with
  | succ k=>simp at hc
  | zero=>simp at hc;subst hc;simp only[Nat.mul_one,Iy]at e;rw[Qf]at e;have hlt:i<s.data.size:=hi;rw[Cy hlt]at e;simp at e;subst e;rw[Cy hlt,LK];exact .int _ _
section
variable {P:Program}
def tE{w:World}{I:Nat->Prop}{φ:Ac}{rd:Nat->BS}{sz:Nat}{x:AV}{v:View}{u:Value}(hh:RH w I φ rd)(hv:x.view rd sz=some v)(hx:RV w I φ x u) :
  (∀ w',(Builtin.lenOf u).run P w'=.ok v.len w') /\ ∃ vs,(∀ w':World,w'.heap=w.heap->(Builtin.firstCells sz v.len u).run P w'=.ok vs w')/\Flat w I (Gl φ v) sz v.len v.at vs:=by
 rcases Xm hh hv hx with ⟨s,rfl,rfl,rfl⟩ | ⟨B,q,cap,rfl,hr⟩ | ⟨a,n,cap,rfl,h0,rfl⟩
 ·refine⟨λ_=>rfl,_,λ_ _=>rfl,?_⟩;have:s.extract 0 s.size=s:=by
   have h1:(s.extract 0 s.size).data=s.data:=by simp[ByteArray.data_extract]
   cases hs:s.extract 0 s.size;rw[hs]at h1;cases s;simp_all
  simp only[View.len];rw[this];exact ab2 w I s
 ·obtain⟨vs,hl,hc,hf⟩:=tl hr;refine⟨λ_=>rfl,vs.toArray,λw' hw=>?_,hf⟩;simp only[Builtin.firstCells];refine Zy vs hl λj v e=>?_;have:=hc j v e;simpa [World.cell?,hw] using this
 ·refine⟨λ_=>by simp[Builtin.lenOf,h0],#[],λ_ _=>?_,⟨by simp[h0],by simp,λi hi=>by omega,λi k c u hi=>by omega⟩⟩;rw[h0];cases a with
  | none=>rfl
  | some a=>simp[Builtin.firstCells,loadCells,loadCellsFrom]
end
def RB.of_flat{w:World}{I:Nat->Prop}{φ φ':Ac}{sz:Nat}{v:View}{vs rest:Array Value}(hf:Flat w I (Gl φ v) sz v.len v.at vs)(hlt:∀ B,I B->B<w.heap.size)
  (le:Ac.le φ φ') (t:TypeId) (fz:Nat × Nat) (pI:Mp (vs++rest) fz) (hns:J9 (vs++rest) fz sz) :
  RB (w.alloc (.cells (vs++rest) t fz)) I φ' w.heap.size 0 sz (CY sz v):=by
 have LO:Row (w.alloc (.cells (vs++rest) t fz)) w.heap.size true sz:=⟨_,t,fz,No w _,λ_=>⟨pI,hns⟩⟩
 have mono:∀ {ψ jn:Ac} {c:AV} {u:Value},Ac.le ψ jn->RV w I ψ c u->RV (w.alloc (.cells (vs++rest) t fz)) I jn c u:=λle h=>
  h.mono (λB hB=>⟨hB,alloc_old w _ (hlt B hB)⟩) (ez w _) le
 have Ka:∀ i,i<v.len -> ∀ k c,(v.at i)[k]? = some c -> ∃ u,(w.alloc (.cells (vs++rest) t fz)).cell? ⟨w.heap.size,0+i*sz+k,none⟩=some u/\u.oneCell'=true/\RV w I (Gl φ v) c u:=by
  intro i hi k c hc;have hk:k<sz:=by
   have:=hf.len i hi;rcases Cj k (v.at i).length with h' | h'
   ·omega
   ·rw[CK h']at hc;cases hc
  have hp:=Oo hi hk;have Ja:i*sz+k<vs.size:=by rw[hf.size];exact hp
  refine⟨vs[i*sz+k],?_,hf.one _ _ (Cy Ja),hf.val i k c _ hi hc (Cy Ja)⟩;rw[cell_of (No w _),Ev,Array.getElem?_append_left Ja,Cy Ja]
 cases v with
 | list es=>
  refine⟨rfl,LO,λi cs e=>?_,λi cs k c e e'=>?_⟩
  ·have hi:i<es.length:=by
    rcases Cj i es.length with h' | h'
    ·exact h'
    ·rw[CK h']at e;cases e
   have:=hf.len i hi;rw[mR hi]at e;cases e;exact this
  ·have hi:i<es.length:=by
    rcases Cj i es.length with h' | h'
    ·exact h'
    ·rw[CK h']at e;cases e
   rw[mR hi]at e;cases e;obtain⟨u,h1,h2,h3⟩:=Ka i hi k c e';exact⟨u,h1,h2,mono le h3⟩
 | fn n f=>refine⟨rfl,LO,hf.len,λi k c hi e'=>?_⟩;obtain⟨u,h1,h2,h3⟩:=Ka i hi k c e';exact⟨u,h1,h2,mono (Ac.le_refl _) h3⟩
end
section
variable {R:Type}
def ajA{c:List AV}{b:UInt8}(h:byteOf c=some b):∃ n:Int,c=[.int .u8 n]/\b=UInt8.ofNat n.toNat:=by
 unfold byteOf at h;split at h
 ·cases h;exact⟨_,rfl,rfl⟩
 ·cases h
def sI:∀ {es:List (List AV)} {l:List UInt8},fb es=some l -> ∃ ns:List Int,es=ns.map (λn=>[.int .u8 n])/\l=ns.map λn=>UInt8.ofNat n.toNat
 | [],l,h=>by cases h;exact⟨[],rfl,rfl⟩
 | c::r,l,h=>by
  simp only[fb]at h;split at h
  ·rename_i b l' hb hl;cases h;obtain⟨n,h1,h2⟩:=ajA hb;obtain⟨ns,h3,h4⟩:=sI hl;exact⟨n::ns,by simp[h1,h3],by simp[h2,h4]⟩
  ·cases h
section
variable {P:Program} {tt:TT} {ρ:Operand->AV} {rd:Nat->BS} {nx:Nat} {k:KW R} {r:R} {o:Oper}
def aah(w:World)(g:Value->ByteArray->Sem (ForInStep ByteArray))(hg:∀ (n:Int) s,g (.int .u8 n) s=pure (ForInStep.yield (s.push (UInt8.ofNat n.toNat)))) :
  ∀ (ns:List Int) (s:ByteArray),(forIn (ns.map λn=>Value.int .u8 n) s g:Sem ByteArray).run P w=.ok ⟨(s.data.toList++ns.map λn=>UInt8.ofNat n.toNat).toArray⟩ w
 | [],s=>by simp
 | n::ns,s=>by have ih:=aah w g hg ns (s.push (UInt8.ofNat n.toNat));simp only[NP,List.forIn_cons,Ce,CS,Co,hg];rw[ih];congr 2;simp[ByteArray.push]
def aj0{w:World}{I:Nat->Prop}{φ:Ac}{n:Nat}{f:Nat->List AV}{vs:Array Value}(h:Flat w I φ 1 n f vs){ns:List Int}(hn:ns.length=n)
  (hf:∀ i x,ns[i]? = some x->f i=[.int .u8 x]):vs=(ns.map λx=>Value.int .u8 x).toArray:=by
 apply Array.ext';simp only;apply List.ext_getElem?;intro i;by_cases hi:i<n
 ·have h1:i<vs.size:=by rw[h.size];omega
  have h2:i<ns.length:=by omega
  rw[HV,Cy h1,EO,BR h2];have:=h.val i 0 (.int .u8 ns[i]) vs[i] hi (by rw[hf i _ (BR h2)];rfl) (by simp[h1]);generalize vs[i]=u at this;cases this;rfl
 ·have h1:vs.size<=i:=by rw[h.size];omega
  rw[HV,JB h1,CK (by simp;omega)]
def ajB(A7:E8 P tt)(hnx:rd nx=.none){src dst:TypeId}{x:Operand}(ho:o.op=.convert src dst x)(h:CT tt ρ rd nx (.convert src dst x) k=some r):Good P o ρ rd k r:=by
 simp only[CT]at h;have hm:x ∈ o.op.operands:=by simp[ho,Op.operands]
 obtain⟨ts,Ig,h⟩:=CE h;obtain⟨td,htd,h⟩:=CE h;have hs:=run_underlying (A7 src ts Ig);have hd:=run_underlying (A7 dst td htd);split at h
 ·rename_i kd k0 n JT CL;refine Good.pure h λAa w φ I hx=>?_;have hp:=hx x hm;rw[CL]at hp;generalize hu:Aa x=u at hp;cases hp;refine⟨_,?_,.int _ _⟩;simp only[execOp,ho,hu,convert,Ce,hs,hd,JT,Co,Conv.intToInt,CS]
 ·rename_i kd k0 n JT CL;refine Good.pure h λAa w φ I hx=>?_;have hp:=hx x hm;rw[CL]at hp;generalize hu:Aa x=u at hp;cases hp;refine⟨_,?_,.DR _ _⟩;simp only[execOp,ho,hu,convert,Ce,hs,hd,JT,Co,Conv.intToFloat,CS]
 ·rename_i kd k0 b JT CL;obtain⟨n,hn,h⟩:=fc h;obtain⟨hr,h⟩:=BG h;obtain⟨h1,h2⟩:=A4 hr;have h1:=El h1;have h2:=El h2;refine Good.pure h λAa w φ I hx=>?_;have hp:=hx x hm;rw[CL]at hp;generalize hu:Aa x=u at hp;cases hp;refine⟨_,?_,.int _ _⟩;simp only[execOp,ho,hu,convert,Ce,hs,hd,JT,Co,Conv.floatToInt,hn,h1,h2,and_self,IW,CS]
 ·rename_i kd k0 a b JT CL;obtain⟨hk,h2⟩:=BG h;clear h;cases eA hk;refine Good.pure h2 λAa w φ I hx=>?_;have hp:=hx x hm;rw[CL]at hp;generalize hu:Aa x=u at hp;cases hp;refine⟨_,?_,.Al _ _ _⟩;simp only[execOp,ho,hu,convert,Ce,hs,hd,JT,Co,Conv.complexToComplex,Conv.floatToFloat,IW,CS]
 ·rename_i l JT CL;refine Good.pure h λAa w φ I hx=>?_;have hp:=hx x hm;rw[CL]at hp;generalize hu:Aa x=u at hp;cases hp with
  | str s _ hl=>refine⟨.string s,?_,.str s l hl⟩;simp only[execOp,ho,hu,convert,Ce,hs,hd,JT,Co,CS]
 ·cases h
 ·have JT:td.desc=.string:=by assumption
  split at h
  ·rename_i e V6;obtain⟨te,Eb,h⟩:=CE h;split at h
   ·rename_i hde;have key:∃ vw l,(ρ x).view rd 1=some vw/\(∃ ns:List Int,ns.length=vw.len/\(∀ i y,ns[i]? = some y->vw.at i=[.int .u8 y])/\l=ns.map λn=>UInt8.ofNat n.toNat) /\
      k (.str l) [] (ρ x).Fx=some r/\(∀ s,ρ x ≠ .str s):=by
     split at h
     ·cases h
     ·rename_i gn;obtain⟨vw,hv,h⟩:=lT h;split at h
      ·rename_i es;obtain⟨l,hl,h⟩:=CE h;obtain⟨ns,h1,h2⟩:=sI hl;exact⟨_,l,hv,⟨ns,by simp[View.len,h1],λi y e=>by simp[View.at,List.getD,h1,e],h2⟩,h,gn⟩
      ·rename_i n f;obtain⟨l,hl,h⟩:=CE h;obtain⟨ns,h1,h2⟩:=sI hl;have hlen:ns.length=n:=by have:=congrArg List.length h1;simpa using this.symm
       refine⟨_,l,hv,⟨ns,hlen,λi y e=>?_,h2⟩,h,gn⟩;have hi:i<n:=by
        rcases Cj i ns.length with h' | h'
        ·omega
        ·rw[CK h']at e;cases e
       have:=congrArg (λl=>l[i]?) h1;simp only[EO,Mx hi,FX,e,CU]at this;exact this
    obtain⟨vw,l,hv,⟨ns,hlen,hns,hl⟩,hk,gn⟩:=key;refine⟨_,[],_,hk,λAs Aa w φ I hrd _ hh hx=>?_⟩;have hp:=hx x hm;have JR:(ρ x).view As 1=some vw:=by rw[KF hrd];exact hv
    have hrun:(execOp Aa o).run P w=((Conv.bytesToString (Aa x)).run P w).andThen (λv w'=>.ok (.value v) w'):=by
     rcases Xm hh JR hp with ⟨s,e1,_⟩ | ⟨B,q,cap,e1,_⟩ | ⟨a,n,cap,e1,_⟩
     ·exfalso;rw[e1]at hp;generalize hra:ρ x=ra at hp;cases hp with
      | undef=>rw[hra]at hv;cases hv
      | str=>exact gn _ hra
      | A9 _ _ _ h=>generalize hn:List.length _=n at h;generalize (λi=>List.getD _ i _)=f at h;cases h
      | tn _ _ _ _ h=>cases h
     ·rw[e1];simp only[execOp,ho,e1,convert,Ce,hs,hd,JT,V6,Co,run_underlying (A7 e te Eb),hde,CS]
     ·rw[e1];simp only[execOp,ho,e1,convert,Ce,hs,hd,JT,V6,Co,run_underlying (A7 e te Eb),hde,CS]
    have hb:(Conv.bytesToString (Aa x)).run P w=.ok (.string ⟨l.toArray⟩) w:=by
     rcases Xm hh JR hp with ⟨s,e1,_⟩ | ⟨B,q,cap,e1,hr⟩ | ⟨a,n,cap,e1,h0,O1⟩
     ·exfalso;rw[e1]at hp;generalize hra:ρ x=ra at hp;cases hp with
      | undef=>rw[hra]at hv;cases hv
      | str=>exact gn _ hra
      | A9 _ _ _ h=>generalize hn:List.length _=n at h;generalize (λi=>List.getD _ i _)=f at h;cases h
      | tn _ _ _ _ h=>cases h
     ·obtain⟨us,V1,huc,huf⟩:=tl hr;have hus:=aj0 huf hlen hns;have hld:(loadCells ⟨B,q,none⟩ vw.len).run P w=.ok us.toArray w:=by
       have:=Zy (P:=P) us V1 huc;rwa [Nat.mul_one]at this
      rw[e1];simp only[Conv.bytesToString,Ce,hld,Co];rw[hus];rw[<- Array.forIn_toList];simp only[List.toList_toArray];rw[aah (P:=P) w _ (λn s=>rfl) ns ByteArray.empty];simp[hl]
     ·have:ns=[]:=by cases ns with
       | nil=>rfl
       | cons a b=>simp at hlen;omega
      subst this;rw[e1,O1,hl];cases a with
      | none=>rfl
      | some a=>simp[Conv.bytesToString,loadCells,loadCellsFrom];rfl
    refine GB.pure (u:=.string ⟨l.toArray⟩) hh ?_ (.str _ _ (by simp));rw[hrun,hb];rfl
   ·cases h
  ·cases h
 ·cases h
end
end
section
variable {R:Type}
section
variable {P:Program} {tt:TT} {ρ:Operand->AV} {rd:Nat->BS} {nx:Nat} {k:KW R} {r:R} {o:Oper}
def tq{ob l cap a b z:Nat}(h:a=b)(hl:l<=cap)(hz:ob+cap*a<=z):ob+l*b+(cap - l)*a<=z:=by
 subst h;have:l*a+(cap - l)*a=cap*a:=by rw[<- F0];congr 1;omega
 omega
def aaz{x:Option AV}{d y:Nat}{k:Nat->Option R}{r:R}(h:Xq x d y k=some r) :
  (x=none/\k d=some r) \/ ∃ kd i,x=some (.int kd i)/\0<=i/\i<=(y:Int)/\k i.toNat=some r:=by
 unfold Xq at h;split at h
 ·exact .inl ⟨rfl,h⟩
 ·obtain⟨h1,h2⟩:=BG h;obtain⟨h3,h4⟩:=A4 h1;exact .inr ⟨_,_,rfl,El h3,El h4,h2⟩
 ·cases h
def run_sliceBound{kd:IntKind}{i:Int}{y:Nat}(h0:0<=i)(h1:i<=(y:Int))(c:BoundsCode)(w:World):(Instr.sliceBound (.int kd i) y c).run P w=.ok i.toNat w:=by simp[Instr.sliceBound,asIntOf,h0,h1]
def Oe{lo hi mx:Option Operand}{len cm:Nat}{k:Nat->Nat->Nat->Option R}{r:R}(hg:(mx.isSome&&hi.isNone)=false)(hlen:len<=cm)
  (h:Ro (lo.map ρ) (hi.map ρ) (mx.map ρ) len cm k=some r) :
  ∃ l hh m,k l hh m=some r/\l<=hh/\hh<=m/\m<=cm /\ ∀ (Aa:Operand->Value) (w:World) (I:Nat->Prop) (φ:Ac) (b:Bool) (cap:Nat),cm<=cap ->
   (∀ x,x ∈ lo->RV w I φ (ρ x) (Aa x))->(∀ x,x ∈ hi->RV w I φ (ρ x) (Aa x))->(∀ x,x ∈ mx->RV w I φ (ρ x) (Aa x)) ->
   (Instr.sliceBounds b len cap (lo.map Aa) (hi.map Aa) (mx.map Aa)).run P w=.ok (l,hh,if mx.isSome then m else cap) w:=by
 unfold Ro at h;have hint:∀ {x:Operand} {kd i} {Aa:Operand->Value} {w:World} {I:Nat->Prop} {φ:Ac},ρ x=.int kd i->RV w I φ (ρ x) (Aa x)->Aa x=.int kd i:=by intro x kd i Aa w I φ e hx;rw[e]at hx;generalize Aa x=u at hx;cases hx;rfl
 have hN:∀ {d y:Nat} {k:Nat->Option R} {r:R},Xq none d y k=some r->k d=some r:=λh=>by
  rcases aaz h with ⟨_,h'⟩ | ⟨_,_,e,_⟩
  ·exact h'
  ·cases e
 have hS:∀ {x:Operand} {d y:Nat} {k:Nat->Option R} {r:R},Xq (some (ρ x)) d y k=some r -> ∃ kd i,ρ x=.int kd i/\0<=i/\i<=(y:Int)/\k i.toNat=some r:=λh=>by
  rcases aaz h with ⟨e,_⟩ | ⟨kd,i,e,h1,h2,h3⟩
  ·cases e
  ·exact⟨kd,i,by simpa using e,h1,h2,h3⟩
 cases mx with
 | none=>
  have hA:=hN h;cases hi with
  | none=>
   have hB:=hN hA;cases lo with
   | none=>have hC:=hN hB;exact⟨0,len,cm,hC,by omega,hlen,Ar _,λAa w I φ b cap hc _ _ _=>by simp[Instr.sliceBounds]⟩
   | some xl=>obtain⟨kl,il,el,l0,l1,hC⟩:=hS hB;refine⟨il.toNat,len,cm,hC,by omega,hlen,Ar _,λAa w I φ b cap hc h1 _ _=>?_⟩;have e:=hint el (h1 xl rfl);simp[Instr.sliceBounds,e,run_sliceBound l0 l1]
  | some xh=>
   obtain⟨kh,ih,eh,h0,h1,hB⟩:=hS hA;cases lo with
   | none=>
    have hC:=hN hB;refine⟨0,ih.toNat,cm,hC,by omega,by omega,Ar _,λAa w I φ b cap hc _ h2 _=>?_⟩;have e:=hint eh (h2 xh rfl);have hb:ih<=(cap:Int):=by omega
    cases b <;> simp[Instr.sliceBounds,e,run_sliceBound h0 hb]
   | some xl=>
    obtain⟨kl,il,el,l0,l1,hC⟩:=hS hB;refine⟨il.toNat,ih.toNat,cm,hC,by omega,by omega,Ar _,λAa w I φ b cap hc FG h2 _=>?_⟩;have e:=hint eh (h2 xh rfl);have e':=hint el (FG xl rfl);have hb:ih<=(cap:Int):=by omega
    cases b <;> simp[Instr.sliceBounds,e,e',run_sliceBound h0 hb,run_sliceBound l0 l1]
 | some xm=>
  obtain⟨km,im,em,m0,m1,hA⟩:=hS h;cases hi with
  | none=>cases hg
  | some xh=>
   obtain⟨kh,ih,eh,h0,h1,hB⟩:=hS hA;cases lo with
   | none=>
    have hC:=hN hB;refine⟨0,ih.toNat,im.toNat,hC,by omega,by omega,by omega,λAa w I φ b cap hc _ h2 h3=>?_⟩;have e:=hint eh (h2 xh rfl);have e2:=hint em (h3 xm rfl);have hb:im<=(cap:Int):=by omega
    cases b <;> simp[Instr.sliceBounds,e,e2,run_sliceBound m0 hb,run_sliceBound h0 h1]
   | some xl=>
    obtain⟨kl,il,el,l0,l1,hC⟩:=hS hB;refine⟨il.toNat,ih.toNat,im.toNat,hC,by omega,by omega,by omega,λAa w I φ b cap hc FG h2 h3=>?_⟩;have e:=hint eh (h2 xh rfl);have e2:=hint em (h3 xm rfl);have e':=hint el (FG xl rfl);have hb:im<=(cap:Int):=by omega
    cases b <;> simp[Instr.sliceBounds,e,e2,e',run_sliceBound m0 hb,run_sliceBound h0 h1,run_sliceBound l0 l1]
def akX(A7:E8 P tt){t:TypeId}{x:Operand}{lo hi mx:Option Operand}(ho:o.op=.slice t x lo hi mx)(h:CT tt ρ rd nx (.slice t x lo hi mx) k=some r):Good P o ρ rd k r:=by
 simp only[CT]at h;obtain⟨hg,h⟩:=Xc h;obtain⟨ti,Cc,h⟩:=CE h;have hm:x ∈ o.op.operands:=by simp[ho,Op.operands]
 have JU:∀ y,y ∈ lo->y ∈ o.op.operands:=λy hy=>by simp[ho,Op.operands];exact .inr (.inl (by simpa using hy))
 have QC:∀ y,y ∈ hi->y ∈ o.op.operands:=λy hy=>by simp[ho,Op.operands];exact .inr (.inr (.inl (by simpa using hy)))
 have DB:∀ y,y ∈ mx->y ∈ o.op.operands:=λy hy=>by simp[ho,Op.operands];exact .inr (.inr (.inr (by simpa using hy)))
 have hu:=run_underlying (A7 t ti Cc);split at h
 ·rename_i s hd CL;split at h
  ·obtain⟨l,hh,m,hk,h1,h2,h3,hb⟩:=Oe (P:=P) (ρ:=ρ) (mx:=none) (by rfl) (Ar s.length) h;refine Good.pure hk λAa w φ I hx=>?_;have hp:=hx x hm;rw[CL]at hp;generalize Ec:Aa x=u at hp;cases hp with
   | str b _ hs=>
    subst hs;have Aw:=hb Aa w I φ false b.size (Ar _) (λy hy=>hx y (JU y hy)) (λy hy=>hx y (QC y hy)) (λy hy=>by cases hy);refine⟨.string (b.extract l hh),?_,.str _ _ ?_⟩
    ·have aw8:(Instr.sliceBounds false b.size b.size (lo.map Aa) (hi.map Aa) none).run P w=.ok (l,hh,b.size) w:=Aw;simp[execOp,ho,Ec,Instr.sliceAt,hu,hd,Instr.slice,aw8]
    ·simp[ByteArray.data_extract,Array.toList_extract,List.extract_eq_take_drop]
  ·cases h
 ·rename_i x0 e hd;obtain⟨te,Eb,h⟩:=CE h;have hrun:∀ (Aa:Operand->Value) (w:World) (a:Option Addr) (n cap l hh m:Nat),Aa x=.slice a n cap ->
    (Instr.sliceBounds true n cap (lo.map Aa) (hi.map Aa) (mx.map Aa)).run P w=.ok (l,hh,m) w ->
    (execOp Aa o).run P w=.ok (.value (.slice (if m=l then a else a.map (·.add (l*te.size))) (hh - l) (m - l))) w:=by
   intro Aa w a n cap l hh m e1 e2;simp[execOp,ho,e1,Instr.sliceAt,hu,hd,Instr.slice,e2,run_sizeOf (A7 e te Eb)]
  split at h
  ·rename_i sz b off len cm CL;obtain⟨hsz,h2⟩:=BG h;clear h;have hsz:=BN hsz;have Le:len<=Kc len cm:=by cases cm with
    | zero=>exact Ar _
    | succ c=>exact Nat.le_max_left _ _
   obtain⟨l,hh,m,hk,h1,E0,h3,hb⟩:=Oe (P:=P) (ρ:=ρ) hg Le h2;refine Good.pure hk λAa w φ I hx=>?_;have hp:=hx x hm;rw[CL]at hp;generalize Ec:Aa x=u at hp;have Di:∀ cap,Kc len cm<=cap->(Instr.sliceBounds true len cap (lo.map Aa) (hi.map Aa) (mx.map Aa)).run P w=.ok (l,hh,if mx.isSome then m else cap) w:=λcap hc=>
    hb Aa w I φ true cap hc (λy hy=>hx y (JU y hy)) (λy hy=>hx y (QC y hy)) (λy hy=>hx y (DB y hy))
   have afH:m - l=0->UU mx.isSome cm (m - l)=0:=λe=>by unfold UU;split <;> simp[e]
   cases hp with
   | sl _ _ B ob _ _ _ cap q AI hq hl hc hs=>
    have hcc:Kc len cm<=cap:=by
     cases cm with
     | zero=>exact hl
     | succ c=>exact Nat.max_le.2 ⟨hl,hc⟩
    refine⟨_,hrun Aa w _ len cap l hh _ Ec (Di cap hcc),?_⟩;have xo:m<=(if mx.isSome then m else cap)/\(if mx.isSome then m else cap)<=cap:=by split <;> omega
    generalize hM:(if mx.isSome then m else cap)=M at xo;by_cases iq:M=l
    ·rw[Ay iq];have e1:hh - l=0:=by omega
     have e2:m - l=0:=by omega
     have e3:M - l=0:=by omega
     rw[afH e2,e1,e3];exact .sle sz b _ _
    ·rw[AE iq];simp only[FX,Mm];have Ey:UU mx.isSome cm (m - l)<=M - l:=by
      unfold UU;split
      ·exact Bu _
      ·omega
     refine .sl sz b B ob (off+l) (hh - l) _ (M - l) _ AI ?_ (by omega) Ey ?_
     ·rw[hq,<- hsz,F0];omega
     ·refine CI ?_ hs;have:off+l+(M - l)<=off+cap:=by omega
      exact Nat.add_le_add_left (KU sz this) ob
   | sle _ _ _ a=>
    have MJ:Kc 0 0=0:=rfl;rw[MJ]at h3;have IF:l=0:=by omega
    have Mc:hh=0:=by omega
    have Hm:m=0:=by omega
    refine⟨_,hrun Aa w _ 0 0 l hh _ Ec (Di 0 (Ar 0)),?_⟩;rw[afH (by omega)];subst IF;subst Mc;subst Hm;simp;exact .sle sz b _ _
  ·rename_i sz es CL;obtain⟨hsz,h2⟩:=BG h;clear h;have hsz:=BN hsz;cases mx with
   | some y=>
    obtain⟨l,hh,m,hk,h1,E0,h3,hb⟩:=Oe (P:=P) (ρ:=ρ) hg (Ar es.length) h2;obtain⟨Hm,hk⟩:=BG hk;have Hm:=BN Hm;refine Good.pure hk λAa w φ I hx=>?_;have hp:=hx x hm;rw[CL]at hp;generalize Ec:Aa x=u at hp;obtain⟨a,cap,jo,hcap⟩:∃ (a:Addr) (cap:Nat),u=.slice (some a) es.length cap/\es.length<=cap:=by
     cases hp with
     | A9 _ _ _ hp hz=>
      generalize es.length=nn at *;cases hp with
      | tr _ _ _ B ob cap uf hI Eo C6=>exact⟨_,cap,rfl,Eo⟩
      | Cq _ _ a=>cases a with
       | none=>exact absurd rfl hz
       | some a=>exact⟨_,0,rfl,Ar _⟩
    subst jo;have Di:(Instr.sliceBounds true es.length cap (lo.map Aa) (hi.map Aa) (some (Aa y))).run P w=.ok (l,hh,m) w:=by have:=hb Aa w I φ true cap hcap (λy hy=>hx y (JU y hy)) (λy hy=>hx y (QC y hy)) (λy hy=>hx y (DB y hy));simpa using this
    refine⟨_,hrun Aa w _ es.length cap l hh _ Ec (by simpa using Di),?_⟩;rw[show hh - l=0 by omega,show m - l=0 by omega];split <;> exact .sle sz bZ 0 _
   | none=>
   obtain⟨l,hh,m,hk,h1,E0,h3,hb⟩:=Oe (P:=P) (ρ:=ρ) (mx:=none) (by rfl) (Ar es.length) h2;refine Good.pure hk λAa w φ I hx=>?_;have hp:=hx x hm;rw[CL]at hp;generalize Ec:Aa x=u at hp;have Di:∀ cap,es.length<=cap->(Instr.sliceBounds true es.length cap (lo.map Aa) (hi.map Aa) none).run P w=.ok (l,hh,cap) w:=λcap hc=>
    hb Aa w I φ true cap hc (λy hy=>hx y (JU y hy)) (λy hy=>hx y (QC y hy)) (λy hy=>by cases hy)
   have hlen:((es.drop l).take (hh - l)).length=hh - l:=by simp;omega
   have Ex:∀ i,i<hh - l->((es.drop l).take (hh - l)).getD i []=es.getD (l+i) []:=by intro i hi;simp only[List.getD,KV,Ay hi,Qe]
   cases hp with
   | A9 _ _ _ hp hz=>
    generalize hn:es.length=n at *;generalize hf:(λi=>es.getD i [])=f at hp;have pJ:∀ i,f i=es.getD i []:=λi=>by rw[<- hf]
    cases hp with
    | tr _ _ _ B ob cap uf hI Eo C6 RN hc MI hr=>
     refine⟨_,hrun Aa w _ n cap l hh _ Ec (Di cap Eo),.A9 _ _ _ ?_ (by split <;> simp)⟩;rw[hlen];by_cases Ey:cap=l
     ·rw[Ay Ey];have e1:hh - l=0:=by omega
      rw[e1];exact .tr sz 0 _ B ob _ uf (λh=>absurd h (DP 0)) (Bu _) (λh=>absurd h (DP 0)) (λi hi=>by omega) (λi k c hi=>by omega) (λi k c hi=>by omega) (λi k c hi=>by omega)
     ·rw[AE Ey];simp only[FX,Mm];refine .tr sz _ _ B (ob+l*te.size) _ (λi k=>uf (l+i) k) (λ_=>hI (by omega)) (by omega) (λ_=>tq hsz (by omega) (C6 (by omega))) (λi hi=>?_) (λi k c hi e=>?_) (λi k c hi e=>?_) (λi k c hi e=>?_)
      ·simp only[Ex i hi];rw[<- pJ];exact RN _ (by omega)
      ·simp only[Ex i hi]at e;rw[<- pJ]at e;rw[<- hsz,show ob+l*sz+i*sz+k=ob+(l+i)*sz+k by rw[F0];omega];exact hc (l+i) k c (by omega) e
      ·simp only[Ex i hi]at e;rw[<- pJ]at e;exact MI (l+i) k c (by omega) e
      ·simp only[Ex i hi]at e;rw[<- pJ]at e;exact hr (l+i) k c (by omega) e
    | Cq=>
     have IF:l=0:=by omega
     have Mc:hh=0:=by omega
     rename_i a;have ha:a ≠ none:=by rintro rfl;exact hz rfl
     refine⟨_,hrun Aa w _ 0 0 l hh _ Ec (Di 0 (Ar 0)),.A9 _ _ _ ?_ (by subst IF;simp[ha])⟩;rw[hlen];subst IF;subst Mc;simp;exact .Cq _ _ _
  ·rename_i sz n f CL;obtain⟨hsz,h2⟩:=BG h;clear h;have hsz:=BN hsz;cases mx with
   | some y=>
    obtain⟨l,hh,m,hk,h1,E0,h3,hb⟩:=Oe (P:=P) (ρ:=ρ) hg (Ar n) h2;obtain⟨Hm,hk⟩:=BG hk;obtain⟨O1,Hm⟩:=A4 Hm;have Hm:=BN Hm;refine Good.pure hk λAa w φ I hx=>?_;have hp:=hx x hm;rw[CL]at hp;generalize Ec:Aa x=u at hp;obtain⟨a,cap,jo,hcap⟩:∃ (a:Addr) (cap:Nat),u=.slice (some a) n cap/\n<=cap:=by
     cases hp with
     | tr _ _ _ B ob cap uf hI Eo C6=>exact⟨_,cap,rfl,Eo⟩
     | Cq=>cases O1
    subst jo;have Di:(Instr.sliceBounds true n cap (lo.map Aa) (hi.map Aa) (some (Aa y))).run P w=.ok (l,hh,m) w:=by have:=hb Aa w I φ true cap hcap (λy hy=>hx y (JU y hy)) (λy hy=>hx y (QC y hy)) (λy hy=>hx y (DB y hy));simpa using this
    refine⟨_,hrun Aa w _ n cap l hh _ Ec (by simpa using Di),?_⟩;rw[show hh - l=0 by omega,show m - l=0 by omega];split <;> exact .sle sz bZ 0 _
   | none=>
   obtain⟨l,hh,m,hk,h1,E0,h3,hb⟩:=Oe (P:=P) (ρ:=ρ) (mx:=none) (by rfl) (Ar n) h2;refine Good.pure hk λAa w φ I hx=>?_;have hp:=hx x hm;rw[CL]at hp;generalize Ec:Aa x=u at hp;have Di:∀ cap,n<=cap->(Instr.sliceBounds true n cap (lo.map Aa) (hi.map Aa) none).run P w=.ok (l,hh,cap) w:=λcap hc=>
    hb Aa w I φ true cap hc (λy hy=>hx y (JU y hy)) (λy hy=>hx y (QC y hy)) (λy hy=>by cases hy)
   have Ex:∀ i,i<hh - l->(bif Nat.blt i (hh - l)then f (l+i)else f n)=f (l+i):=by
    intro i hi;have:Nat.blt i (hh - l)=true:=by rw[CW];exact hi
    rw[this];rfl
   cases hp with
   | tr _ _ _ B ob cap uf hI Eo C6 RN hc MI hr=>
    refine⟨_,hrun Aa w _ n cap l hh _ Ec (Di cap Eo),?_⟩;by_cases Ey:cap=l
    ·rw[Ay Ey];have e1:hh - l=0:=by omega
     rw[e1];exact .tr sz 0 _ B ob _ uf (λh=>absurd h (DP 0)) (Bu _) (λh=>absurd h (DP 0)) (λi hi=>by omega) (λi k c hi=>by omega) (λi k c hi=>by omega) (λi k c hi=>by omega)
    ·rw[AE Ey];simp only[FX,Mm];refine .tr sz _ _ B (ob+l*te.size) _ (λi k=>uf (l+i) k) (λ_=>hI (by omega)) (by omega) (λ_=>tq hsz (by omega) (C6 (by omega))) (λi hi=>?_) (λi k c hi e=>?_) (λi k c hi e=>?_) (λi k c hi e=>?_)
     ·simp only[Ex i hi];exact RN _ (by omega)
     ·simp only[Ex i hi]at e;rw[<- hsz,show ob+l*sz+i*sz+k=ob+(l+i)*sz+k by rw[F0];omega];exact hc (l+i) k c (by omega) e
     ·simp only[Ex i hi]at e;exact MI (l+i) k c (by omega) e
     ·simp only[Ex i hi]at e;exact hr (l+i) k c (by omega) e
   | Cq=>
    have IF:l=0:=by omega
    have Mc:hh=0:=by omega
    refine⟨_,hrun Aa w _ 0 0 l hh _ Ec (Di 0 (Ar 0)),?_⟩;subst IF;subst Mc;simp;exact .Cq _ _ _
  ·rename_i sz n f CL;obtain⟨hsz,h2⟩:=BG h;clear h;have hsz:=BN hsz;cases mx with
   | some y=>
    obtain⟨l,hh,m,hk,h1,E0,h3,hb⟩:=Oe (P:=P) (ρ:=ρ) hg (Ar n) h2;obtain⟨Hm,hk⟩:=BG hk;have Hm:=BN Hm;refine Good.pure hk λAa w φ I hx=>?_;have hp:=hx x hm;rw[CL]at hp;generalize Ec:Aa x=u at hp;obtain⟨a,cap,jo,hcap⟩:∃ (a:Option Addr) (cap:Nat),u=.slice a n cap/\n<=cap:=by
     cases hp with
     | tn _ _ _ _ hp=>
      cases hp with
      | tr _ _ _ B ob cap uf hI Eo C6=>exact⟨_,cap,rfl,Eo⟩
      | Cq _ _ a=>exact⟨a,0,rfl,Ar _⟩
    subst jo;have Di:(Instr.sliceBounds true n cap (lo.map Aa) (hi.map Aa) (some (Aa y))).run P w=.ok (l,hh,m) w:=by have:=hb Aa w I φ true cap hcap (λy hy=>hx y (JU y hy)) (λy hy=>hx y (QC y hy)) (λy hy=>hx y (DB y hy));simpa using this
    refine⟨_,hrun Aa w _ n cap l hh _ Ec (by simpa using Di),?_⟩;rw[show hh - l=0 by omega,show m - l=0 by omega];split <;> exact .DT sz bZ _
   | none=>
   obtain⟨l,hh,m,hk,h1,E0,h3,hb⟩:=Oe (P:=P) (ρ:=ρ) (mx:=none) (by rfl) (Ar n) h2;refine Good.pure hk λAa w φ I hx=>?_;have hp:=hx x hm;rw[CL]at hp;generalize Ec:Aa x=u at hp;have Di:∀ cap,n<=cap->(Instr.sliceBounds true n cap (lo.map Aa) (hi.map Aa) none).run P w=.ok (l,hh,cap) w:=λcap hc=>
    hb Aa w I φ true cap hc (λy hy=>hx y (JU y hy)) (λy hy=>hx y (QC y hy)) (λy hy=>by cases hy)
   have Ex:∀ i,i<hh - l->(bif Nat.blt i (hh - l)then f (l+i)else f n)=f (l+i):=by
    intro i hi;have:Nat.blt i (hh - l)=true:=by rw[CW];exact hi
    rw[this];rfl
   cases hp with
   | tn _ _ _ _ hp=>
   cases hp with
   | tr _ _ _ B ob cap uf hI Eo C6 RN hc MI hr=>
    refine⟨_,hrun Aa w _ n cap l hh _ Ec (Di cap Eo),.tn _ _ _ _ ?_⟩;by_cases Ey:cap=l
    ·rw[Ay Ey];have e1:hh - l=0:=by omega
     rw[e1];exact .tr sz 0 _ B ob _ uf (λh=>absurd h (DP 0)) (Bu _) (λh=>absurd h (DP 0)) (λi hi=>by omega) (λi k c hi=>by omega) (λi k c hi=>by omega) (λi k c hi=>by omega)
    ·rw[AE Ey];simp only[FX,Mm];refine .tr sz _ _ B (ob+l*te.size) _ (λi k=>uf (l+i) k) (λ_=>hI (by omega)) (by omega) (λ_=>tq hsz (by omega) (C6 (by omega))) (λi hi=>?_) (λi k c hi e=>?_) (λi k c hi e=>?_) (λi k c hi e=>?_)
     ·simp only[Ex i hi];exact RN _ (by omega)
     ·simp only[Ex i hi]at e;rw[<- hsz,show ob+l*sz+i*sz+k=ob+(l+i)*sz+k by rw[F0];omega];exact hc (l+i) k c (by omega) e
     ·simp only[Ex i hi]at e;exact MI (l+i) k c (by omega) e
     ·simp only[Ex i hi]at e;exact hr (l+i) k c (by omega) e
   | Cq=>
    have IF:l=0:=by omega
    have Mc:hh=0:=by omega
    refine⟨_,hrun Aa w _ 0 0 l hh _ Ec (Di 0 (Ar 0)),.tn _ _ _ _ ?_⟩;subst IF;subst Mc;simp;exact .Cq _ _ _
  ·rename_i sz b n CL;obtain⟨hsz,h2⟩:=BG h;clear h;have hsz:=BN hsz;have gen:∀ (hN:0<n) (l hh m:Nat),k (.sl sz b l (hh - l) (m - l)) [] []=some r->l<=hh->hh<=m->m<=n->(∀ (Aa:Operand->Value) (w:World) (I:Nat->Prop) (φ:Ac) (b:Bool) (cap:Nat),n<=cap ->
     (∀ x,x ∈ lo->RV w I φ (ρ x) (Aa x))->(∀ x,x ∈ hi->RV w I φ (ρ x) (Aa x))->(∀ x,x ∈ mx->RV w I φ (ρ x) (Aa x)) ->
     (Instr.sliceBounds b n cap (lo.map Aa) (hi.map Aa) (mx.map Aa)).run P w=.ok (l,hh,if mx.isSome then m else cap) w)->Good P o ρ rd k r:=by
    intro hN l hh m hk h1 E0 h3 hb;refine Good.pure hk λAa w φ I hx=>?_;have hp:=hx x hm;rw[CL]at hp;generalize Ec:Aa x=u at hp;cases hp with
    | DT=>exact absurd hN (DP 0)
    | sn _ _ _ B ob cap AI hl hs=>
     have Di:=hb Aa w I φ true cap hl (λy hy=>hx y (JU y hy)) (λy hy=>hx y (QC y hy)) (λy hy=>hx y (DB y hy));refine⟨_,hrun Aa w _ n cap l hh _ Ec Di,?_⟩;have xo:m<=(if mx.isSome then m else cap)/\(if mx.isSome then m else cap)<=cap:=by split <;> omega
     generalize (if mx.isSome then m else cap)=M at xo;by_cases iq:M=l
     ·rw[Ay iq,show hh - l=0 by omega,show m - l=0 by omega,show M - l=0 by omega];exact .sle sz b _ _
     ·rw[AE iq];simp only[FX,Mm];refine .sl sz b B ob l (hh - l) _ (M - l) _ AI (by rw[<- hsz]) (by omega) (by omega) ?_;exact CI (Nat.add_le_add_left (KU sz (by omega)) ob) hs
   cases lo with
   | some y=>simp only at h2;obtain⟨l,hh,m,hk,h1,E0,h3,hb⟩:=Oe (P:=P) (ρ:=ρ) (lo:=some y) hg (Ar n) h2;obtain⟨hN,hk⟩:=BG hk;exact gen (by simpa [CW] using hN) l hh m hk h1 E0 h3 hb
   | none=>
   cases mx with
   | some y=>simp only at h2;obtain⟨l,hh,m,hk,h1,E0,h3,hb⟩:=Oe (P:=P) (ρ:=ρ) (lo:=none) hg (Ar n) h2;obtain⟨hN,hk⟩:=BG hk;exact gen (by simpa [CW] using hN) l hh m hk h1 E0 h3 hb
   | none=>
    simp only at h2;obtain⟨l,hh,m,hk,h1,E0,h3,hb⟩:=Oe (P:=P) (ρ:=ρ) (lo:=none) (mx:=none) (by rfl) (Ar n) h2;obtain⟨IF,hk⟩:=BG hk;have IF:=BN IF;subst IF;refine Good.pure hk λAa w φ I hx=>?_;have hp:=hx x hm;rw[CL]at hp;generalize Ec:Aa x=u at hp;have Di:∀ cap,n<=cap->(Instr.sliceBounds true n cap none (hi.map Aa) none).run P w=.ok (0,hh,cap) w:=λcap hc=>
     hb Aa w I φ true cap hc (λy hy=>by cases hy) (λy hy=>hx y (QC y hy)) (λy hy=>by cases hy)
    cases hp with
    | DT _ _ a=>
     refine⟨_,hrun Aa w _ 0 0 0 hh _ Ec (Di 0 (Ar 0)),?_⟩;have Mc:hh=0:=by omega
     subst Mc;simp;exact .DT _ _ _
    | sn _ _ _ B ob cap AI hl hs=>
     refine⟨_,hrun Aa w _ n cap 0 hh _ Ec (Di cap hl),?_⟩;by_cases MJ:cap=0
     ·have Mc:hh=0:=by omega
      subst Mc;subst MJ;simp;exact .DT _ _ _
     ·rw[AE MJ];simp only[FX,Mm,JF,Iy,PS];exact .sn sz b hh B ob cap AI (by omega) hs
  ·rename_i CL;obtain⟨l,hh,m,hk,h1,E0,h3,hb⟩:=Oe (P:=P) (ρ:=ρ) hg (Ar 0) h;refine Good.pure hk λAa w φ I hx=>?_;have hp:=hx x hm;rw[CL]at hp;generalize Ec:Aa x=u at hp;cases hp;have IF:l=0:=by omega
   have Mc:hh=0:=by omega
   have Hm:m=0:=by omega
   have Aw:=hb Aa w I φ true 0 (Ar _) (λy hy=>hx y (JU y hy)) (λy hy=>hx y (QC y hy)) (λy hy=>hx y (DB y hy));refine⟨_,hrun Aa w _ 0 0 l hh _ Ec Aw,?_⟩;subst IF;subst Mc;subst Hm;simp;exact .Ak
  ·cases h
 ·cases h
end
end
section
variable {R:Type}
def aap:∀ (l:List Value) (i off:Nat) (c:Array Value),
  (l.zipIdx i).foldl (λ(cs:Array Value) (p:Value × Nat)=>cs.setIfInBounds (off+p.2) p.1) c=CF c (off+i) l
 | [],i,off,c=>rfl
 | v::r,i,off,c=>by simp only[List.zipIdx_cons,RF,CF];rw[aap r (i+1) off];rfl
def mS{w:World}{I:Nat->Prop}{φ:Ac}{place place':Nat->Option (Nat × Nat)}(hp:∀ i p,place i=some p->place' i=some p) :
  ∀ {ps:List (Nat × AV)} {qs:List (Nat × Value)} {cs A3:List AV} {us:Array Value},ps.length=qs.length ->
   (∀ (n:Nat) p q,ps[n]? = some p->qs[n]? = some q->p.1=q.1/\RV w I φ p.2 q.2)->RC w I φ cs us->U9 place cs ps=some A3 ->
   ∃ O2,Instr.fill place' us qs=some O2/\RC w I φ A3 O2
 | [],[],cs,A3,us,_,_,hc,h=>by cases h;exact⟨us,rfl,hc⟩
 | [],_::_,_,_,_,hl,_,_,_=>by simp at hl
 | _::_,[],_,_,_,hl,_,_,_=>by simp at hl
 | (i,v)::ps,(i',u)::qs,cs,A3,us,hl,hr,hc,h=>by
  obtain⟨he,hv⟩:=hr 0 _ _ rfl rfl;simp only at he hv;subst he;simp only[U9]at h;split at h
  ·cases h
  ·rename_i off size T6;obtain⟨P2,h⟩:=BG h;obtain⟨hst,P2⟩:=A4 P2;obtain⟨h1,h2⟩:=A4 P2;have h1:=BN h1;have h2:=DZ h2;have pK:=hv.cells hst;have hsz:u.cells.size=size:=by have:=pK.1;omega
   have hus:cs.length=us.size:=hc.1;have ER:RC w I φ (setAt cs off v.cells) (CF us off u.cells.toList):=by
    have hle:off+v.cells.length<=cs.length:=by omega
    have ahE:off+u.cells.toList.length<=us.size:=by rw[Array.length_toList];omega
    refine⟨?_,?_,?_⟩
    ·rw[sP hle,IP];exact hc.1
    ·intro q x e;rw[Nn _ _ _ _ ahE]at e;split at e
     ·exact pK.2.1 _ x (by simpa using e)
     ·exact hc.2.1 _ x e
    ·intro q c x ec e;rw[Nn _ _ _ _ ahE]at e;rw[aa7 hle]at ec;simp only[Array.length_toList]at e;have:v.cells.length=u.cells.size:=pK.1;rw[this]at ec;split at e
     ·rename_i hin;rw[Ay hin]at ec;exact pK.2.2 _ c x ec (by simpa using e)
     ·rename_i hin;rw[AE hin]at ec;exact hc.2.2 _ c x ec e
   obtain⟨O2,h3,h4⟩:=mS hp (by simpa using hl) (λn p q e e'=>hr (n+1) p q (by simpa using e) (by simpa using e')) ER h;refine⟨O2,?_,h4⟩;simp only[Instr.fill,hp i _ T6];rw[AE (by simp[hsz];omega)];rw[<- h3];congr 1;rw[<- Array.foldl_toList,Array.toList_zipIdx];exact aap _ 0 off us
section
variable {P:Program} {tt:TT} {ρ:Operand->AV} {rd:Nat->BS} {nx:Nat} {k:KW R} {r:R} {o:Oper}
def run_places(A7:E8 P tt)(w:World):∀ (fs:List Field),fs.all (λf=>(tt f.type).isSome)=true ->
  ∃ l:List (Nat × Nat),(fs.mapM λf=>(do pure (f.offset,<- sizeOf f.type):Sem (Nat × Nat))).run P w=.ok l w/\l.length=fs.length /\
   ∀ (i:Nat) f,fs[i]? = some f -> ∃ ti,tt f.type=some ti/\l[i]? = some (f.offset,ti.size)
 | [],_=>⟨[],rfl,rfl,λi f e=>by cases e⟩
 | f::fs,h=>by
  simp only[List.all_cons,My]at h;obtain⟨ti,Cc⟩:=Option.isSome_iff_exists.1 h.1;obtain⟨l,h1,h2,h3⟩:=run_places A7 w fs h.2;refine⟨(f.offset,ti.size)::l,?_,by simp[h2],?_⟩
  ·simp only[List.mapM_cons,Ce,run_sizeOf (A7 f.type ti Cc),Co,CS,h1]
  ·intro i g e;cases i with
   | zero=>simp at e;subst e;exact⟨ti,Cc,rfl⟩
   | succ i=>obtain⟨t,a,b⟩:=h3 i g (by simpa using e);exact⟨t,a,by simpa using b⟩
def uj{w:World}{I:Nat->Prop}{φ:Ac}{Aa:Operand->Value}(parts:Array (Nat × Operand))(hx:∀ x ∈ (parts.toList.map (·.2)).toArray,RV w I φ (ρ x) (Aa x)) :
  ∀ (n:Nat) (p:Nat × AV) (q:Nat × Value),(parts.toList.map λ(i,x)=>(i,ρ x))[n]? = some p->((parts.map λ(i,x)=>(i,Aa x)).toList)[n]? = some q->p.1=q.1/\RV w I φ p.2 q.2:=by
 intro n p q e e';rw[EO]at e;rw[HV,Qf]at e';rw[HV]at e;cases hp:parts[n]? with
 | none=>rw[hp]at e;cases e
 | some y=>
  rw[hp]at e e';cases e;cases e';refine⟨rfl,hx y.2 ?_⟩;have:y ∈ parts.toList:=by simpa using Array.mem_of_getElem? hp
  simp only[List.mem_toArray,Mz];exact⟨y,this,rfl⟩
def akY(A7:E8 P tt){t:TypeId}{parts:Array (Nat × Operand)}(ho:o.op=.build t parts)(h:CT tt ρ rd nx (.build t parts) k=some r):Good P o ρ rd k r:=by
 simp only[CT]at h;obtain⟨ti,Cc,h⟩:=CE h;obtain⟨z,hz,h⟩:=CE h;have hlen:∀ Aa:Operand->Value,(parts.toList.map λ(x:Nat × Operand)=>(x.1,ρ x.2)).length=((parts.map λ(x:Nat × Operand)=>(x.1,Aa x.2)).toList).length:=λAa=>by simp
 split at h
 ·rename_i fields hd;obtain⟨OL,h⟩:=BG h;obtain⟨cs,hcs,h⟩:=CE h;refine Good.pure h λAa w φ I hx=>?_;have Fb:∀ x ∈ (parts.toList.map (·.2)).toArray,RV w I φ (ρ x) (Aa x):=λx hm=>hx x (by simp only[ho,Op.operands];exact hm);obtain⟨v,hv,hs,hc,hr⟩:=Xg (A7 t ti Cc) hz w I φ;obtain⟨l,JS,pE,hl3⟩:=run_places A7 w fields.toList OL;obtain⟨O2,hf,MK⟩:=mS (place:=sV tt fields.toList) (place':=λi=>l.toArray[i]?) (λi p hp=>by
   unfold sV at hp;split at hp
   ·rename_i f jh;split at hp
    ·rename_i tf Sq;cases hp;obtain⟨tf',h1,h2⟩:=hl3 i f jh;rw[Sq]at h1;cases h1;simpa using h2
    ·cases hp
   ·cases hp) (hlen Aa) (uj parts Fb) hr hcs
  refine⟨.agg O2,?_,.agg _ _ MK.1 MK.2.1 MK.2.2⟩;have hm:(fields.mapM λf=>(do pure (f.offset,<- sizeOf f.type):Sem (Nat × Nat))).run P w=.ok l.toArray w:=by rw[gj];simp only[Sem.run_map,JS,Co]
  simp only[execOp,ho,Instr.build,Ce,hv,run_underlying (A7 t ti Cc),hd,Co,hm,hf,CS]
 ·rename_i n e hd;obtain⟨te,Eb,h⟩:=CE h;obtain⟨cs,hcs,h⟩:=CE h;refine Good.pure h λAa w φ I hx=>?_;have Fb:∀ x ∈ (parts.toList.map (·.2)).toArray,RV w I φ (ρ x) (Aa x):=λx hm=>hx x (by simp only[ho,Op.operands];exact hm);obtain⟨v,hv,hs,hc,hr⟩:=Xg (A7 t ti Cc) hz w I φ;obtain⟨O2,hf,MK⟩:=mS (place:=λi=>some (i*te.size,te.size)) (place':=λi=>some (i*te.size,te.size)) (λi p hp=>hp) (hlen Aa) (uj parts Fb) hr hcs;refine⟨.agg O2,?_,.agg _ _ MK.1 MK.2.1 MK.2.2⟩;simp only[execOp,ho,Instr.build,Ce,hv,run_underlying (A7 t ti Cc),hd,Co,run_sizeOf (A7 e te Eb),hf,CS]
 ·cases h
def aai(sz:Nat):∀ (n:Nat) (cs:List AV),(chunks sz n cs).length=n
 | 0,_=>rfl
 | n+1,cs=>by simp[chunks,aai sz n]
def aaK(sz:Nat):∀ (n:Nat) (cs:List AV) (i:Nat),i<n->(chunks sz n cs)[i]? = some ((cs.drop (i*sz)).take sz)
 | 0,_,i,h=>by omega
 | n+1,cs,0,_=>by simp[chunks]
 | n+1,cs,i+1,h=>by simp only[chunks,Vn];rw[aaK sz n _ i (by omega),List.drop_drop];congr 3;rw[Nat.succ_mul];omega
def RB.akZ{w:World}{I:Nat->Prop}{φ φ':Ac}{sz n:Nat}{cs:List AV}{vs:Array Value}(hc:RC w I φ cs vs)(hn:cs.length=n*sz)(hlt:∀ B,I B->B<w.heap.size)
  (le:Ac.le φ φ') (t:TypeId):RB (w.alloc (.cells vs t)) I φ' w.heap.size 0 sz (.arr true sz (chunks sz n cs)):=by
 have IE:=tD hc hlt le t (0,0);have hi:∀ {i:Nat} {c:List AV},(chunks sz n cs)[i]? = some c->i<n/\c=(cs.drop (i*sz)).take sz:=by
  intro i c e;have hin:i<n:=by
   rcases Cj i n with h | h
   ·exact h
   ·rw[CK (by rw[aai];exact h)]at e;cases e
  rw[aaK sz n cs i hin]at e;cases e;exact⟨hin,rfl⟩
 refine⟨rfl,Row.new w vs t true,λi c e=>?_,λi c k x e e'=>?_⟩
 ·obtain⟨h1,rfl⟩:=hi e;have:=KU sz (Nat.succ_le_of_lt h1);rw[Nat.succ_mul]at this;simp;omega
 ·obtain⟨h1,rfl⟩:=hi e;rw[KV]at e';split at e'
  ·rename_i hk;rw[Qe]at e';have hp:=Oo h1 hk;have Ja:i*sz+k<vs.size:=by have:=hc.1;omega
   refine⟨vs[i*sz+k],?_,hc.2.1 _ _ (Cy Ja),IE.2.2 _ x _ e' (Cy Ja)⟩;rw[ui,Ev,Cy Ja]
  ·cases e'
def RC.Tl{w:World}{I:Nat->Prop}{φ:Ac}{z:List AV}{vs:Array Value}(h:RC w I φ z vs)(hz:1<=z.length)(n:Nat) :
  RC w I φ (Tl z n) ((Array.range (n*vs.size)).map λi=>vs[i % vs.size]!):=by
 have hs:z.length=vs.size:=h.1;have Ab:∀ (q:Nat) u,((Array.range (n*vs.size)).map λi=>vs[i % vs.size]!)[q]? = some u->q<n*vs.size/\vs[q % vs.size]? = some u:=by
  intro q u e;rw[Qf]at e;have hq:q<n*vs.size:=by
   rcases Cj q (n*vs.size)with h' | h'
   ·exact h'
   ·rw[JB (by simpa using h')]at e;cases e
  rw[Array.getElem?_range,Ay hq]at e;have hlt:q % vs.size<vs.size:=Nat.mod_lt _ (by omega);simp only[FX,CU]at e;rw[getElem!_pos vs _ hlt]at e;exact⟨hq,by rw[Cy hlt,e]⟩
 refine⟨by simp[AM.Tl,hs],λq u e=>h.2.1 _ u (Ab q u e).2,λq c u ec e=>?_⟩;obtain⟨hq,hu⟩:=Ab q u e;unfold AM.Tl at ec;rw[hs,EO,Mx hq]at ec;simp only[FX,CU]at ec;have hlt:q % vs.size<z.length:=by rw[hs];exact Nat.mod_lt _ (by omega)
 have:z[q % vs.size]? = some c:=by rw[BR hlt];rw[List.getD,BR hlt,LK]at ec;rw[ec]
 exact h.2.2 _ c u this hu
def ai8(A7:E8 P tt)(hnx:rd nx=.none){t:TypeId}{n:Nat}{parts:Array (Nat × Operand)}(ho:o.op=.buildSlice t n parts)
  (h:CT tt ρ rd nx (.buildSlice t n parts) k=some r):Good P o ρ rd k r:=by
 simp only[CT]at h;obtain⟨ti,Cc,h⟩:=CE h;have hlen:∀ Aa:Operand->Value,(parts.toList.map λ(x:Nat × Operand)=>(x.1,ρ x.2)).length=((parts.map λ(x:Nat × Operand)=>(x.1,Aa x.2)).toList).length:=λAa=>by simp
 split at h
 ·rename_i e hd;obtain⟨te,Eb,h⟩:=CE h;obtain⟨z,hz,h⟩:=CE h;obtain⟨P2,h⟩:=BG h;obtain⟨Ji,P2⟩:=A4 P2;obtain⟨h1,h2⟩:=A4 P2;have Ji:=BN Ji;have h1:=DZ h1;have h2:=DZ h2;obtain⟨cs,hcs,h⟩:=CE h;refine⟨_,_,_,h,λAs Aa w φ I _ Dc hh hx=>?_⟩;have hn:As nx=.none:=(Dc _ R3).trans hnx;have Fb:∀ x ∈ (parts.toList.map (·.2)).toArray,RV w I φ (ρ x) (Aa x):=λx hm=>hx x (by simp only[ho,Op.operands];exact hm);obtain⟨v,hv,hs,hc,hr⟩:=Xg (A7 e te Eb) hz w I φ;have hvs:v.cells.size=te.size:=by have:=hr.1;omega
  have HI:=hr.Tl (by omega) n;obtain⟨O2,hf,MK⟩:=mS (place:=λi=>some (i*te.size,te.size)) (place':=λi=>some (i*te.size,te.size)) (λi p hp=>hp) (hlen Aa) (uj parts Fb) HI hcs;have Ey:cs.length=n*te.size:=by
   have Yl:∀ (ps:List (Nat × AV)) (c c':List AV),U9 (λi=>some (i*te.size,te.size)) c ps=some c'->c'.length=c.length:=by
    intro ps
    induction ps with
    | nil=>intro c c' e;cases e;rfl
    | cons p ps ih=>intro c c' e;obtain⟨i,v⟩:=p;simp only[U9]at e;obtain⟨hq,e⟩:=BG e;obtain⟨_,hq⟩:=A4 hq;obtain⟨q1,q2⟩:=A4 hq;have q1:=BN q1;have q2:=DZ q2;rw[ih _ _ e,sP (by omega)]
   rw[Yl _ _ _ hcs];simp[AM.Tl,Ji]
  have le:=Ac.PH (hh.none nx hn) (w.heap.size,0,te.size);refine GB.alloc (u:=.slice (some ⟨w.heap.size,0,none⟩) n n) hh hn (.cells O2 e) _ te.size rfl (RB.akZ MK Ey hh.lt le e) ?_ ?_ (OE.row MK.2.1)
  ·have hm:¬ (n*te.size > 2 ^ 24):=by
    have:(2:Nat) ^ 24=16777216:=by decide
    omega
   by_cases O1:n*te.size=0
   ·have aw9:n=0:=by
     rcases LJ n with h' | h'
     ·exact h'
     ·have:=RG h' h1;omega
    subst aw9;have hr0:Array.range 0 = #[]:=rfl;have Hm:¬ (0 > 2 ^ 24):=by decide
    have Ym:Instr.fill (λi=>some (i*te.size,te.size)) (Array.map (λx=>(#[]:Array Value)[x % (#[]:Array Value).size]!) (Array.range 0)) (Array.map (λx=>(x.1,Aa x.2)) parts).toList=some O2:=by rw[<- hf];simp only[JF,hr0,Array.map_empty]
    simp only[execOp,ho,Instr.buildSlice,Ce,run_underlying (A7 t ti Cc),hd,Co,run_sizeOf (A7 e te Eb),JF,Hm,Hg,IW,CS];simp only[Ym,newRow,Ce,run_newObj,Co,CS];rfl
   ·simp only[execOp,ho,Instr.buildSlice,Ce,run_underlying (A7 t ti Cc),hd,Co,run_sizeOf (A7 e te Eb),hm,Hg,O1,hv,CS];rw[hvs]at hf;simp only[hvs,hf,newRow,Ce,run_newObj,Co,CS];rfl
  ·refine .sl te.size nx w.heap.size 0 0 n n n 0 (Ac.E5 _ _ _) (by simp) (Ar _) (Ar _) ?_;have:Bv (w.alloc (.cells O2 e)) w.heap.size=n*te.size:=by
    unfold Bv;rw[No];have:=MK.1;simp;omega
   rw[this];simp
 ·cases h
end
end
section
variable {R:Type}
section
variable {P:Program} {tt:TT} {ρ:Operand->AV} {rd:Nat->BS} {nx:Nat} {k:KW R} {r:R} {o:Oper}
def RB.arP(w:World)(I:Nat->Prop)(φ:Ac):RB (w.alloc (.map #[] 0)) I φ w.heap.size 0 0 (.map true []):=
 ⟨rfl,rfl,#[],0,No w _,rfl,(λi kv e h=>by cases h),λi e h=>by simp at h⟩
def ajd{z:Array Value}{n:Nat}(h:One z)(hn:0<n->0<z.size):One (madeCells z n):=λk v e=>by
 unfold madeCells at e;rw[Qf]at e;cases hr:(Array.range n)[k]? with
 | none=>rw[hr]at e;simp at e
 | some q=>
  rw[hr]at e;have hk:k<n:=by
   rcases Cj k n with h' | h'
   ·exact h'
   ·rw[JB (by simpa using h')]at hr;cases hr
  have hz:=hn (by omega);have hlt:q % z.size<z.size:=Nat.mod_lt _ hz;simp only[FX,CU]at e;rw[getElem!_pos z (q % z.size) hlt]at e;exact h (q % z.size) v (by rw[Cy hlt,e])
def ajC(A7:E8 P tt)(hnx:rd nx=.none){t:TypeId}{x:Option Operand}(ho:o.op=.makeMap t x)(h:CT tt ρ rd nx (.makeMap t x) k=some r):Good P o ρ rd k r:=by
 simp only[CT]at h;have fin:∀ (hk:k (.mp nx) [(nx,.map true [])] []=some r) (hrun:∀ (Aa:Operand->Value) (w:World) (φ:Ac) (I:Nat->Prop),(∀ x ∈ o.op.operands,RV w I φ (ρ x) (Aa x)) ->
   (execOp Aa o).run P w=.ok (.value (.map (some w.heap.size))) (w.alloc (.map #[] 0))),Good P o ρ rd k r:=by
  intro hk hrun;refine⟨_,_,_,hk,λAs Aa w φ I _ Dc hh hx=>?_⟩;have hn:As nx=.none:=(Dc _ R3).trans hnx;exact GB.alloc (u:=.map (some w.heap.size)) hh hn (.map #[] 0) _ 0 rfl (RB.arP w I _) (hrun Aa w φ I hx) (.mp nx _ (Ac.E5 _ _ _)) (λ_ _ _ h=>by cases h)
 cases x with
 | none=>exact fin h λAa w φ I hx=>by simp[execOp,ho,Instr.makeMap]
 | some y=>
  obtain⟨ti,Cc,h⟩:=CE h;split at h
  ·rename_i kt e kd n hd hy;refine fin h λAa w φ I hx=>?_;have hp:=hx y (by simp[ho,Op.operands]);rw[hy]at hp;generalize hu:Aa y=u at hp;cases hp;simp[execOp,ho,hu,Instr.makeMap,run_underlying (A7 t ti Cc),hd,asInt,asIntOf]
  ·cases h
def aje(A7:E8 P tt)(hnx:rd nx=.none){t:TypeId}{l c:Operand}(ho:o.op=.makeSlice t l c)(h:CT tt ρ rd nx (.makeSlice t l c) k=some r):Good P o ρ rd k r:=by
 simp only[CT]at h;obtain⟨ti,Cc,h⟩:=CE h;split at h
 ·rename_i e kl ln kc cn hd hl hc;obtain⟨te,Eb,h⟩:=CE h;obtain⟨z,hz,h⟩:=CE h;obtain⟨P2,h⟩:=BG h;obtain⟨jj,h3⟩:=A4 P2;obtain⟨Ji,jj⟩:=A4 jj;obtain⟨h1,h2⟩:=A4 jj;obtain⟨h3,h4⟩:=A4 h3;obtain⟨h4,h5⟩:=A4 h4;have Ji:=BN Ji;have h1:=DZ h1;have h2:=DZ h2;have h3:=El h3;have h4:=El h4;have h5:=El h5;refine⟨_,_,_,h,λAs Aa w φ I _ Dc hh hx=>?_⟩;have hn:As nx=.none:=(Dc _ R3).trans hnx;have T6:=hx l (by simp[ho,Op.operands]);have hpc:=hx c (by simp[ho,Op.operands]);rw[hl]at T6;rw[hc]at hpc;generalize V1:Aa l=ul at T6;generalize huc:Aa c=uc at hpc;cases T6;cases hpc;obtain⟨v,hv,hs,Ka,hr⟩:=Xg (A7 e te Eb) hz w I φ;obtain⟨i,hi,hsz,hby,_,_,hzz,_⟩:=Ol (A7 e te Eb);obtain⟨i2,OZ,Kx,hb2,jq,_⟩:=Ol (A7 t ti Cc);have V7:i.zero=some v:=by
   simp only[zeroValue,typeInfo,Ce,run_program,Co,hi,CS]at hv;cases jr:i.zero with
   | none=>rw[jr]at hv;simp at hv
   | some v'=>rw[jr]at hv;simp at hv;rw[hv]
  have hrun:=run_make (P:=P) w t e i v (by rw[jq,hd]) hi V7 kl kc ln cn h3 h4 (by
   have:(i.bytes:Int)<=65536:=by rw[hby];omega
   calc (i.bytes:Int)*cn<=65536*cn:=Int.mul_le_mul_of_nonneg_right this (by omega)
    _<=281474976710656:=by omega) (by omega)
  have hvs:v.cells.size=te.size:=by have:=hr.1;omega
  have le:=Ac.PH (hh.none nx hn) (w.heap.size,0,te.size);refine GB.alloc (u:=.slice (some ⟨w.heap.size,0,none⟩) ln.toNat cn.toNat) hh hn (.cells (madeCells v.cells (cn.toNat*i.size)) e) _ te.size rfl ?_ ?_ ?_ (OE.row (ajd hr.2.1 λhp=>by
   rcases LJ v.cells.size with h0 | h0
   ·rw[hsz,<- hvs,h0]at hp;simp at hp
   ·exact h0))
  ·have hr':=tD hr hh.lt le e (0,0) (vs:=v.cells);have mono:∀ {c:AV} {u:Value},RV w I φ c u->RV (w.alloc (.cells (madeCells v.cells (cn.toNat*i.size)) e)) I (φ.set nx (w.heap.size,0,te.size)) c u:=λh=>
    h.mono (λB hB=>⟨hB,alloc_old w _ (hh.lt B hB)⟩) (ez w _) le
   refine⟨rfl,Row.new w _ e true,λq cs eq=>?_,λq cs j x eq ex=>?_⟩
   ·rw[List.getElem?_replicate]at eq;split at eq
    ·cases eq;exact Ji
    ·cases eq
   ·rw[List.getElem?_replicate]at eq;split at eq
    ·rename_i hq;cases eq;have hj:j<te.size:=by
      rcases Cj j z.length with h' | h'
      ·omega
      ·rw[CK h']at ex;cases ex
     have hp:q*te.size+j<cn.toNat*i.size:=by rw[hsz];exact Oo (by omega:q<cn.toNat) hj
     have bn:(q*te.size+j) % v.cells.size=j:=by rw[hvs,Nat.mul_comm,Nat.mul_add_mod,Nat.mod_eq_of_lt hj]
     have hjv:j<v.cells.size:=by omega
     refine⟨v.cells[j],?_,hr.2.1 _ _ (Cy hjv),mono (hr.2.2 j x _ ex (Cy hjv))⟩;rw[ui,Ev];unfold madeCells;rw[Qf,Array.getElem?_range,Ay hp];simp only[FX,bn];rw[getElem!_pos v.cells j hjv]
    ·cases eq
  ·simp only[execOp,ho,V1,huc,Ce,hrun,Co,CS]
  ·refine .sl te.size nx w.heap.size 0 0 _ _ _ 0 (Ac.E5 _ _ _) (by simp) (by omega) (by omega) ?_;have:Bv (w.alloc (.cells (madeCells v.cells (cn.toNat*i.size)) e)) w.heap.size=cn.toNat*i.size:=by
    unfold Bv;rw[No];exact size_madeCells _ _
   rw[this,hsz];simp
 ·cases h
def ab3{d:TypeDesc}{a b:AV}{x:Bool}{w:World}{I:Nat->Prop}{φ:Ac}{u v:Value}(hd:Ns d a=true)(h:same a b=some x)
  (ha:RV w I φ a u) (hb:RV w I φ b v):Instr.sameNow d u v=some x:=by
 unfold same at h;split at h
 ·obtain⟨hk,h2⟩:=BG h;clear h;cases ha;cases hb;cases eJ hk;cases h2;unfold Ns at hd;split at hd
  ·simp[Instr.sameNow];rfl
  ·rename_i e;cases e
  ·cases hd
 ·cases ha with
  | str s _ hs=>cases hb with
   | str s' _ hs'=>
    subst hs;subst hs';cases h;unfold Ns at hd;split at hd
    ·rename_i e;cases e
    ·simp[Instr.sameNow,DV,beq_toListBytes,ByteArray.toList_eq]
    ·cases hd
 ·cases h
def Om(key:AV):List (AV × AV)->Nat->Option (Option (Nat × AV))
 | [],_=>some .none
 | (a,v)::r,i=>match same key a with
  | some true=>some (some (i,v))
  | some false=>Om key r (i+1)
  | .none=>.none
def uk{key:AV}:∀ {es:List (AV × AV)} {x:Option AV} (i:Nat),look key es=some x -> ∃ y,Om key es i=some y/\y.map (·.2)=x
 | [],x,i,h=>by cases h;exact⟨none,rfl,rfl⟩
 | (a,v)::r,x,i,h=>by
  simp only[look]at h;simp only[Om];split at h
  ·rename_i e;cases h;exact⟨some (i,v),by simp[e],rfl⟩
  ·rename_i e;obtain⟨y,h1,h2⟩:=uk (i+1) h;exact⟨y,by simp[e,h1],h2⟩
  ·cases h
def sQ{key:AV}:∀ {es:List (AV × AV)} {i n:Nat} {v:AV},Om key es i=some (some (n,v))->i<=n/\(∃ a,es[n - i]? = some (a,v)) /\
  ∀ (u:AV),bY key u es=es.modify (n - i) λp=>(p.1,u)
 | [],i,n,v,h=>by cases h
 | (a,v')::r,i,n,v,h=>by
  simp only[Om]at h;split at h
  ·rename_i e;cases h;refine⟨Ar _,⟨a,by simp⟩,λu=>by simp[bY,e]⟩
  ·rename_i e;obtain⟨h1,⟨b,h2⟩,h3⟩:=sQ h;refine⟨by omega,⟨b,?_⟩,λu=>?_⟩
   ·rw[show n - i=(n - (i+1))+1 by omega];simpa using h2
   ·rw[show n - i=(n - (i+1))+1 by omega];simp[bY,e,h3 u]
  ·cases h
def S2{d:TypeDesc}{key:AV}{w:World}{I:Nat->Prop}{φ:Ac}{u:Value}(hd:Ns d key=true)(hu:RV w I φ key u) :
  ∀ {es:List (AV × AV)} {mes:List MapEntry} {i:Nat} {x:Option (Nat × AV)},mes.length=es.length ->
   (∀ (j:Nat) kv e,es[j]? = some kv->mes[j]? = some e->RV w I φ kv.1 e.key/\RV w I φ kv.2 e.val/\kv.1.single=true)->Om key es i=some x ->
   (x=none/\Instr.findNow d u mes i=some none) \/ ∃ n v uv,x=some (n,v)/\Instr.findNow d u mes i=some (some (n,uv))/\RV w I φ v uv
 | [],[],i,x,_,_,h=>by cases h;exact .inl ⟨rfl,rfl⟩
 | [],_::_,_,_,hl,_,_=>by simp at hl
 | _::_,[],_,_,hl,_,_=>by simp at hl
 | (a,v)::es,e::mes,i,x,hl,hr,h=>by
  obtain⟨hk,hv,_⟩:=hr 0 _ _ rfl rfl;simp only[Om]at h;split at h
  ·rename_i hs;cases h;refine .inr ⟨i,v,e.val,rfl,?_,hv⟩;simp[Instr.findNow,ab3 hd hs hu hk]
  ·rename_i hs;have:=S2 hd hu (es:=es) (mes:=mes) (i:=i+1) (by simpa using hl) (λj kv e' h1 h2=>hr (j+1) kv e' (by simpa using h1) (by simpa using h2)) h;simpa [Instr.findNow,ab3 hd hs hu hk] using this
  ·cases h
def aj1{tk:TI}{kt:TypeId}(FH:GA P kt=some tk){key:AV}{w:World}{I:Nat->Prop}{φ:Ac}{u:Value}(hd:Ns tk.desc key=true)(hu:RV w I φ key u)(e:Bool)(n:Nat) :
  (Instr.checkKey e (n+1) kt u).run P w=.ok () w:=by
 have hn:=run_underlying FH w;unfold Ns at hd;split at hd
 ·rename_i he;rw[he]at hn;cases hu;simp only[Instr.checkKey,Ce,hn,Co,CS]
 ·rename_i he;rw[he]at hn;cases hu;simp only[Instr.checkKey,Ce,hn,Co,CS]
 ·cases hd
def SZ{tk:TI}{kt:TypeId}(FH:GA P kt=some tk){key:AV}{w:World}{I:Nat->Prop}{φ:Ac}{u:Value}(hd:Ns tk.desc key=true)(hu:RV w I φ key u)(e:Bool) :
  (Instr.checkKey e 10000 kt u).run P w=.ok () w:=aj1 FH hd hu e 9999
def S3{tk:TI}{kt:TypeId}(FH:GA P kt=some tk){u:Value}{mes:List MapEntry}{x:Option (Nat × Value)}(h:Instr.findNow tk.desc u mes 0=some x)(w:World) :
  (Instr.findKey kt u mes).run P w=.ok x w:=by
 simp only[Instr.findKey,Ce,run_underlying FH,Co,h,CS]
def KG{w:World}{B:Nat}{mes:Array MapEntry}{clock:Nat}(h:w.heap[B]? = some (.map mes clock)):(getObj B).run P w=.ok (.map mes clock) w:=by simp[getObj,Sem.run,h]
def lU{w:World}{B:Nat}{mes mes':Array MapEntry}{clock clock':Nat}(h:w.heap[B]? = some (.map mes clock)) :
  (setObj B (.map mes' clock')).run P w=.ok () (World.BI w B (.map mes' clock')):=by
 simp[setObj,Sem.run,h,World.BI]
def Ext.aer{M:Nat->Prop}{w:World}{B:Nat}{mes mes':Array MapEntry}{clock clock':Nat}(h:w.heap[B]? = some (.map mes clock))(hM:M B) :
  Ext M w (World.BI w B (.map mes' clock')):=by
 refine⟨rfl,rfl,rfl,by simp,λB' _ hn=>GL (λe=>hn (e ▸ hM)),λB' c1 e1 cg h1=>?_,λB' c1 e1 cg _ h1=>?_⟩
 ·by_cases hb:B'=B
  ·subst hb;rw[h]at h1;cases h1
  ·exact⟨c1,(GL hb).trans h1,rfl⟩
 ·by_cases hb:B'=B
  ·subst hb;rw[FR (CQ h)]at h1;cases h1
  ·exact⟨c1,(GL hb).symm.trans h1,rfl⟩
def RH.ab4{w:World}{I:Nat->Prop}{φ:Ac}{rd:Nat->BS}(h:RH w I φ rd){b B:Nat}(hb:φ b=some (B,0,0))(hm:AZ (rd b)=true)
  {mes mes':Array MapEntry} {clock clock':Nat} (hc:w.heap[B]? = some (.map mes clock)) (Ie:List (AV × AV))
  (hsz:mes'.size=Ie.length) (hx:∀ (i:Nat) kv e,Ie[i]? = some kv->mes'[i]? = some e->RV w I φ kv.1 e.key/\RV w I φ kv.2 e.val/\kv.1.single=true) (Jh:∀ (i:Nat) e,mes'[i]? = some e->e.born<clock') (base:Nat) :
  RH (World.BI w B (.map mes' clock')) I φ (BU rd b (.map true Ie))/\Step base rd φ I w (BU rd b (.map true Ie)) φ I (World.BI w B (.map mes' clock')):=by
 have hM:Ca φ rd B:=⟨b,0,0,hm,hb⟩
 have ext:=Ext.aer (M:=Ca φ rd) (mes':=mes') (clock':=clock') hc hM;have mono:∀ {v:AV} {u:Value},RV w I φ v u->RV (World.BI w B (.map mes' clock')) I φ v u:=λhvu=>
  hvu.mono (λB hB=>⟨hB,ext.keep B (h.lt B hB) λ⟨b,o,sz,hm,e⟩=>h.CP b B o sz hm e hB⟩) ext.Bv (Ac.le_refl _)
 refine⟨h.change (Ac.le_refl _) ext (· = b) (λb' Aw=>⟨C0 _ _ Aw,rfl⟩) ?_ ?_,Step.of (λ_ _ _ e=>e) (λ_ hB=>hB) (λ_ hB=>.inl hB) ?_ (ext) (GF.setObj hc λ_ _ _ e=>by cases e)⟩
 ·intro b' B' o' sz' hne hl e';refine GL λhB=>?_;subst hB;cases DB:AZ (rd b')with
  | true=>exact hne (h.inj b' b _ _ _ _ _ DB hm e' hb)
  | false=>exact h.CP b _ _ _ hm hb (h.Ea b' _ _ _ hl DB e')
 ·rintro b' rfl;refine⟨(λe'=>(by rw[DL]at e';cases e')),λ_=>⟨by rw[DL];rfl,B,0,0,hb,?_,h.CP _ _ _ _ hm hb,?_⟩⟩
  ·rw[DL];exact⟨rfl,rfl,mes',clock',FR (CQ hc),hsz,λi kv e h1 h2=>let ⟨a,b,c⟩:=hx i kv e h1 h2;⟨mono a,mono b,c⟩,Jh⟩
  ·intro jc hne Kp o' sz' e';rw[C0 _ _ hne]at Kp;exact hne (h.inj _ _ _ _ _ _ _ Kp hm e' hb)
 ·rintro B' ⟨b',o',sz',BW,e'⟩;by_cases Di:b'=b
  ·subst Di;rw[hb]at e';cases e';exact .inl hM
  ·rw[C0 _ _ Di]at BW;exact .inl ⟨b',o',sz',BW,e'⟩
def RH.aa9{w:World}{I:Nat->Prop}{φ:Ac}{rd:Nat->BS}(h:RH w I φ rd){b B:Nat}(hb:φ b=some (B,0,0))(hm:AZ (rd b)=true)
  {mes mes':Array MapEntry} {clock clock':Nat} (hc:w.heap[B]? = some (.map mes clock)) (x:BS) (QD:AZ x=true)
  (hx:(∀ {φ':Ac} {v:AV} {u:Value},RV w I φ' v u->RV (World.BI w B (.map mes' clock')) I φ' v u)->RB (World.BI w B (.map mes' clock')) I φ B 0 0 x) (base:Nat) :
  RH (World.BI w B (.map mes' clock')) I φ (BU rd b x)/\Step base rd φ I w (BU rd b x) φ I (World.BI w B (.map mes' clock')):=by
 have hM:Ca φ rd B:=⟨b,0,0,hm,hb⟩
 have ext:=Ext.aer (M:=Ca φ rd) (mes':=mes') (clock':=clock') hc hM;have mono:∀ {φ':Ac} {v:AV} {u:Value},RV w I φ' v u->RV (World.BI w B (.map mes' clock')) I φ' v u:=λhvu=>
  hvu.mono (λB hB=>⟨hB,ext.keep B (h.lt B hB) λ⟨b,o,sz,hm,e⟩=>h.CP b B o sz hm e hB⟩) ext.Bv (Ac.le_refl _)
 refine⟨h.change (Ac.le_refl _) ext (· = b) (λb' Aw=>⟨C0 _ _ Aw,rfl⟩) ?_ ?_,Step.of (λ_ _ _ e=>e) (λ_ hB=>hB) (λ_ hB=>.inl hB) ?_ (ext) (GF.setObj hc λ_ _ _ e=>by cases e)⟩
 ·intro b' B' o' sz' hne hl e';refine GL λhB=>?_;subst hB;cases DB:AZ (rd b')with
  | true=>exact hne (h.inj b' b _ _ _ _ _ DB hm e' hb)
  | false=>exact h.CP b _ _ _ hm hb (h.Ea b' _ _ _ hl DB e')
 ·rintro b' rfl;refine⟨(λe'=>(by rw[DL]at e';rw[e']at QD;cases QD)),λ_=>⟨by rw[DL];exact QD,B,0,0,hb,?_,h.CP _ _ _ _ hm hb,?_⟩⟩
  ·rw[DL];exact hx mono
  ·intro jc hne Kp o' sz' e';rw[C0 _ _ hne]at Kp;exact hne (h.inj _ _ _ _ _ _ _ Kp hm e' hb)
 ·rintro B' ⟨b',o',sz',BW,e'⟩;by_cases Di:b'=b
  ·subst Di;rw[hb]at e';cases e';exact .inl hM
  ·rw[C0 _ _ Di]at BW;exact .inl ⟨b',o',sz',BW,e'⟩
def TL(ks:List (List UInt8))(val:List UInt8->AV):List (AV × AV):=ks.map λs=>(.str s,val s)
def sW(s:List UInt8)(val:List UInt8->AV):∀ (ks:List (List UInt8)) (i:Nat),
  (Ck s ks=true -> ∃ n,Om (.str s) (TL ks val) i=some (some (n,val s))/\i<=n/\ks[n - i]? = some s)/\(Ck s ks=false->Om (.str s) (TL ks val) i=some none/\s ∉ ks)
 | [],i=>by refine⟨λh=>?_,λ_=>⟨rfl,List.not_mem_nil⟩⟩;exact Bool.noConfusion h
 | a::r,i=>by
  simp only[Ck,TL,NP,Om,same];cases h:A5 s a with
  | true=>
   have e:s=a:=by simpa [DV] using h
   subst e;exact⟨λ_=>⟨i,rfl,Ar _,by simp⟩,λh=>by cases h⟩
  | false=>
   have e:s ≠ a:=by simpa [DV] using h
   obtain⟨h1,h2⟩:=sW s val r (i+1);refine⟨λhm=>?_,λhm=>?_⟩
   ·obtain⟨n,e1,e2,e3⟩:=h1 hm;exact⟨n,e1,by omega,by rw[show n - i=n - (i+1)+1 by omega];simpa using e3⟩
   ·obtain⟨e1,e2⟩:=h2 hm;exact⟨e1,by simp[e,e2]⟩
def PM.rel{w:World}{I:Nat->Prop}{φ:Ac}{mes:Array MapEntry}{clock:Nat}{ks:List (List UInt8)}{val:List UInt8->AV}(h:PM w I mes clock ks val) :
  ∀ (j:Nat) kv e,(TL ks val)[j]? = some kv->mes[j]? = some e->RV w I φ kv.1 e.key/\RV w I φ kv.2 e.val/\kv.1.single=true:=by
 intro j kv e h1 h2;simp only[TL,EO]at h1;cases hk:ks[j]? with
 | none=>rw[hk]at h1;cases h1
 | some s=>rw[hk]at h1;cases h1;obtain⟨⟨t,e1,e2⟩,hv⟩:=h.2.1 j s e hk h2;rw[e1];exact⟨.str t s e2,hv.mono (λB hB=>⟨hB,rfl⟩) (λ_=>Ar _) (Ac.IZ φ),rfl⟩
def aj2{d:TypeDesc}{key:AV}(h:Ns d key=true):key.single=true:=by unfold Ns at h;split at h <;> first | rfl | cases h
def aba{a b:AV}{w:World}{I:Nat->Prop}{φ:Ac}{u v:Value}(h:same a b=some true)(ha:RV w I φ a u)(hb:RV w I φ b v):Instr.sameBits 10000 v u=true:=by
 unfold same at h;split at h
 ·obtain⟨hk,h2⟩:=BG h;clear h;cases ha;cases hb;cases eJ hk;have:=El (by simpa using h2);subst this;simp[Instr.sameBits]
 ·cases ha with
  | str s _ hs=>cases hb with
   | str s' _ hs'=>
    subst hs;subst hs';simp[DV]at h;have:s=s':=by cases s;cases s';simp_all
    subst this;simp[Instr.sameBits,beq_toListBytes]
 ·cases h
def aaq{key:AV}:∀ {es:List (AV × AV)} {i n:Nat} {v:AV},Om key es i=some (some (n,v)) -> ∃ a,es[n - i]? = some (a,v)/\same key a=some true
 | [],i,n,v,h=>by cases h
 | (a,v')::r,i,n,v,h=>by
  simp only[Om]at h;split at h
  ·rename_i e;cases h;exact⟨a,by simp,e⟩
  ·rename_i e;obtain⟨b,h2,h3⟩:=aaq h;obtain⟨h1,_⟩:=sQ h;exact⟨b,by rw[show n - i=(n - (i+1))+1 by omega];simpa using h2,h3⟩
  ·cases h
def aaj(A7:E8 P tt){t:TypeId}{m key v:Operand}(ho:o.op=.insert t m key v\/o.op=.mapUpdate t m key v)
  (h:CT tt ρ rd nx (.mapUpdate t m key v) k=some r):Good P o ρ rd k r:=by
 simp only[CT]at h;have hm1:m ∈ o.op.operands:=by rcases ho with ho | ho <;> simp[ho,Op.operands]
 have hm2:key ∈ o.op.operands:=by rcases ho with ho | ho <;> simp[ho,Op.operands]
 have hm3:v ∈ o.op.operands:=by rcases ho with ho | ho <;> simp[ho,Op.operands]
 obtain⟨ti,Cc,h⟩:=CE h;split at h
 ·rename_i kt et b hd hm;obtain⟨tk,FH,h⟩:=CE h;split at h
  ·rename_i es hb;obtain⟨hc,h⟩:=BG h;obtain⟨Ky,hvs⟩:=A4 hc;obtain⟨x,hx,h⟩:=CE h;obtain⟨y,hy,QE⟩:=uk 0 hx;have hex:∀ (Aa:Operand->Value) (w w':World),(Instr.mapUpdate t (Aa m) (Aa key) (Aa v)).run P w=.ok () w'->(execOp Aa o).run P w=.ok .skip w':=by
    intro Aa w w' e;rcases ho with ho | ho <;> simp[execOp,ho,e]
   have OM:∀ (As:Nat->BS) (Aa:Operand->Value) (w:World) (φ:Ac) (I:Nat->Prop),As b=rd b->RH w I φ As->(∀ x ∈ o.op.operands,RV w I φ (ρ x) (Aa x)) ->
     ∃ B mes clock,φ b=some (B,0,0)/\Aa m=.map (some B)/\w.heap[B]? = some (.map mes clock)/\mes.size=es.length /\
      (∀ (i:Nat) kv e,es[i]? = some kv->mes[i]? = some e->RV w I φ kv.1 e.key/\RV w I φ kv.2 e.val/\kv.1.single=true) /\ ∀ (i:Nat) e,mes[i]? = some e->e.born<clock:=by
    intro As Aa w φ I Aw hh hx;have hp:=hx m hm1;rw[hm]at hp;generalize hu:Aa m=u at hp;cases hp with
    | mp _ B AI=>obtain⟨B',o',sz',e,hrb⟩:=hh.JI AI (by rw[Aw,hb];rfl);rw[AI]at e;cases e;rw[Aw,hb]at hrb;obtain⟨_,_,mes,clock,h1,h2,h3,h4⟩:=hrb;exact⟨B,mes,clock,AI,rfl,h1,h2,h3,h4⟩
   cases y with
   | none=>
    simp at QE;subst QE;refine⟨_,_,_,h,λAs Aa w φ I hrd _ hh hx=>?_⟩;have Aw:=hrd b (by simp);obtain⟨B,mes,clock,AI,hu,FU,hsz,hrel,Jh⟩:=OM As Aa w φ I Aw hh hx;have hk:=hx key hm2;have hv:=hx v hm3;rcases S2 Ky hk (mes:=mes.toList) (by simpa using hsz) (λj kv e h1 h2=>hrel j kv e h1 (by simpa using h2)) hy with ⟨_,hf⟩ | ⟨n,v',uv,e,_⟩
    ·have hw:=hh.ab4 AI (by rw[Aw,hb];rfl) (mes':=mes.push {key:=Aa key,val:=Aa v,born:=clock}) (clock':=clock+1) FU (es++[(ρ key,ρ v)]) (by simp[hsz]) (λi kv e h1 h2=>by
      rw[Vq]at h2;by_cases hi:i=mes.size
      ·rw[Ay hi]at h2;cases h2;rw[FC (by omega),show i - es.length=0 by omega]at h1;simp at h1;subst h1;exact⟨hk,hv,aj2 Ky⟩
      ·rw[AE hi]at h2;have hlt:i<es.length:=by
        rcases Cj i mes.size with h' | h'
        ·omega
        ·rw[JB h']at h2;cases h2
       rw[DY hlt]at h1;exact hrel i kv e h1 h2) (λi e h2=>by
      rw[Vq]at h2;split at h2
      ·cases h2;exact Nat.lt_succ_self _
      ·exact Nat.lt_succ_of_lt (Jh i e h2))
     refine⟨undef,_,φ,I,.inr ⟨hex Aa w _ ?_,rfl⟩,.undef _,(hw 0).1,λbase=>(hw base).2,Ac.le_refl _⟩;simp only[Instr.mapUpdate,Ce,run_underlying (A7 t ti Cc),hd,Co,hu,KG FU,SZ (A7 kt tk FH) Ky hk,S3 (A7 kt tk FH) hf,lU FU]
    ·cases e
   | some nv=>
    obtain⟨n,v'⟩:=nv;simp at QE;subst QE;simp only at h;refine⟨_,_,_,h,λAs Aa w φ I hrd _ hh hx=>?_⟩;have Aw:=hrd b (by simp);obtain⟨B,mes,clock,AI,hu,FU,hsz,hrel,Jh⟩:=OM As Aa w φ I Aw hh hx;have hk:=hx key hm2;have hv:=hx v hm3;obtain⟨_,⟨a,V8⟩,yq⟩:=sQ hy;obtain⟨a',yr,Lu⟩:=aaq hy;simp only[PS]at V8 yr yq;rcases S2 Ky hk (mes:=mes.toList) (by simpa using hsz) (λj kv e h1 h2=>hrel j kv e h1 (by simpa using h2)) hy with ⟨e,_⟩ | ⟨n',v'',uv,e,hf,js⟩
    ·cases e
    ·cases e;have hlt:n<mes.size:=by
      rcases Cj n es.length with h' | h'
      ·omega
      ·rw[CK h']at V8;cases V8
     have hkr:=hrel n _ _ yr (Cy hlt);have xp:=aba Lu hk hkr.1;have hw:=hh.ab4 AI (by rw[Aw,hb];rfl) (mes':=mes.modify n λe=>{e with key:=Aa key,val:=Aa v}) (clock':=clock) FU (bY (ρ key) (ρ v) es) (by rw[yq];simp[hsz]) (λi kv e h1 h2=>by
      rw[yq,List.getElem?_modify]at h1;rw[ar]at h2;by_cases hi:n=i
      ·subst hi;rw[Ay rfl]at h2;rw[yr]at h1;rw[Cy hlt]at h2;simp at h1 h2;subst h1;subst h2;refine⟨?_,hv,hkr.2.2⟩;have:a'=ρ key:=by
        unfold same at Lu;split at Lu
        ·obtain⟨hkk,h2⟩:=BG Lu;cases eJ hkk;have:=El (by simpa using h2)
         simp_all
        ·simp[DV]at Lu;simp_all
        ·cases Lu
       rw[this];exact hk
      ·rw[AE hi]at h2;have FG:es[i]? = some kv:=by
        cases hq:es[i]? with
        | none=>rw[hq]at h1;cases h1
        | some p=>rw[hq]at h1;simpa [hi] using h1
       exact hrel i kv e FG h2) (λi e h2=>by
      rw[ar]at h2;split at h2
      ·cases hq:mes[i]? with
       | none=>rw[hq]at h2;cases h2
       | some e0=>rw[hq]at h2;simp at h2;subst h2;exact Jh i e0 hq
      ·exact Jh i e h2)
     refine⟨undef,_,φ,I,.inr ⟨hex Aa w _ ?_,rfl⟩,.undef _,(hw 0).1,λbase=>(hw base).2,Ac.le_refl _⟩;have RL:(Instr.keyThatStays mes[n].key (Aa key)).run P w=.ok (Aa key) w:=by simp[Instr.keyThatStays,xp]
     simp only[Instr.mapUpdate,Ce,run_underlying (A7 t ti Cc),hd,Co,hu,KG FU,SZ (A7 kt tk FH) Ky hk,S3 (A7 kt tk FH) hf,
      Cy hlt,FX,LK,RL,lU FU]
  ·rename_i ks val hb;split at h
   ·rename_i s T7;obtain⟨hc,h⟩:=BG h;obtain⟨Ky,hvs⟩:=A4 hc;obtain⟨hst,gm⟩:=A4 hvs;have hex:∀ (Aa:Operand->Value) (w w':World),(Instr.mapUpdate t (Aa m) (Aa key) (Aa v)).run P w=.ok () w'->(execOp Aa o).run P w=.ok .skip w':=by
     intro Aa w w' e;rcases ho with ho | ho <;> simp[execOp,ho,e]
    have OM:∀ (As:Nat->BS) (Aa:Operand->Value) (w:World) (φ:Ac) (I:Nat->Prop),As b=rd b->RH w I φ As->(∀ x ∈ o.op.operands,RV w I φ (ρ x) (Aa x)) ->
      ∃ B mes clock,φ b=some (B,0,0)/\Aa m=.map (some B)/\w.heap[B]? = some (.map mes clock)/\PM w I mes clock ks val:=by
     intro As Aa w φ I Aw hh hx;have hp:=hx m hm1;rw[hm]at hp;generalize hu:Aa m=u at hp;cases hp with
     | mp _ B AI=>obtain⟨B',o',sz',e,hrb⟩:=hh.JI AI (by rw[Aw,hb];rfl);rw[AI]at e;cases e;rw[Aw,hb]at hrb;obtain⟨_,_,mes,clock,h1,h2⟩:=hrb;exact⟨B,mes,clock,AI,rfl,h1,h2⟩
    refine⟨_,_,_,h,λAs Aa w φ I hrd _ hh hx=>?_⟩;have Aw:=hrd b (by simp);obtain⟨B,mes,clock,AI,hu,FU,Ez⟩:=OM As Aa w φ I Aw hh hx;have hk:=hx key hm2;rw[T7]at hk;have hv:=hx v hm3;have NX:RV w I Ac.no (ρ v) (Aa v):=hv.free gm;obtain⟨tx,ht,hst⟩:∃ t:ByteArray,Aa key=.string t/\s=t.data.toList:=by
     generalize Aa key=u at hk;cases hk with
     | str t _ e=>exact⟨t,rfl,e⟩
    have hsz:=Ez.1;obtain⟨l1,l2⟩:=sW s val ks 0;have cj:∀ x:List UInt8,A5 x s=decide (x=s):=λx=>by rw[DV];by_cases h:x=s <;> simp[h]
    cases Fo:Ck s ks with
    | false=>
     obtain⟨hy,hns⟩:=l2 Fo;rcases S2 Ky hk (mes:=mes.toList) (by simpa [TL] using hsz) (λj kv e h1 h2=>Ez.rel (φ:=φ) j kv e h1 (by simpa using h2)) hy with ⟨_,hf⟩ | ⟨n,v',uv,e,_⟩
     ·have hw:=hh.aa9 AI (by rw[Aw,hb];rfl) (mes':=mes.push {key:=Aa key,val:=Aa v,born:=clock}) (clock':=clock+1) FU (.pmap true (ks++[s]) (λx=>bif A5 x s then ρ v else val x)) rfl (λmono=>by
       refine⟨rfl,rfl,_,_,FR (CQ FU),by simp[hsz],λi x e h1 h2=>?_,λi e h2=>?_,λi j e e' DC h1 h2=>?_,λi j x h1 h2=>?_⟩
       ·rw[Vq]at h2;by_cases hi:i=mes.size
        ·rw[Ay hi]at h2;cases h2;rw[FC (by omega),show i - ks.length=0 by omega]at h1;simp at h1;subst h1;exact⟨⟨tx,ht,hst⟩,by simp only[cj];simpa using mono NX⟩
        ·rw[AE hi]at h2;have hlt:i<ks.length:=by
          rcases Cj i mes.size with h' | h'
          ·omega
          ·rw[JB h']at h2;cases h2
         rw[DY hlt]at h1;obtain⟨a1,a2⟩:=Ez.2.1 i x e h1 h2;have NW:x ≠ s:=by rintro rfl;exact hns (Dy h1)
         exact⟨a1,by simp only[cj];simpa [NW] using mono a2⟩
       ·rw[Vq]at h2;split at h2
        ·cases h2;exact Nat.lt_succ_self _
        ·exact Nat.lt_succ_of_lt (Ez.2.2.1 i e h2)
       ·rw[Vq]at h1 h2;split at h1
        ·split at h2
         ·omega
         ·rw[JB (by omega)]at h2;cases h2
        ·split at h2
         ·cases h2;exact Ez.2.2.1 i e h1
         ·exact Ez.2.2.2.1 i j e e' DC h1 h2
       ·rw[Vp]at h1 h2;split at h1
        ·split at h2
         ·exact Ez.2.2.2.2 i j x h1 h2
         ·have:=Dy h2;simp at this;subst this;exact absurd (Dy h1) hns
        ·split at h2
         ·have:=Dy h1;simp at this;subst this;exact absurd (Dy h2) hns
         ·have e1:i - ks.length=0:=by
           rcases LJ (i - ks.length)with h | h
           ·exact h
           ·rw[CK (by simp;omega)]at h1;cases h1
          have e2:j - ks.length=0:=by
           rcases LJ (j - ks.length)with h | h
           ·exact h
           ·rw[CK (by simp;omega)]at h2;cases h2
          omega)
      rw[Aj];refine⟨undef,_,φ,I,.inr ⟨hex Aa w _ ?_,rfl⟩,.undef _,(hw 0).1,λbase=>(hw base).2,Ac.le_refl _⟩;simp only[Instr.mapUpdate,Ce,run_underlying (A7 t ti Cc),hd,Co,hu,KG FU,SZ (A7 kt tk FH) Ky hk,S3 (A7 kt tk FH) hf,lU FU]
     ·cases e
    | true=>
     obtain⟨n,hy,O1,hn⟩:=l1 Fo;simp only[PS]at hn;rcases S2 Ky hk (mes:=mes.toList) (by simpa [TL] using hsz) (λj kv e h1 h2=>Ez.rel (φ:=φ) j kv e h1 (by simpa using h2)) hy with ⟨e,_⟩ | ⟨n',v'',uv,e,hf,js⟩
     ·cases e
     ·cases e;have hlt:n<mes.size:=by
       rcases Cj n ks.length with h' | h'
       ·omega
       ·rw[CK h']at hn;cases hn
      obtain⟨⟨t',ht',axa⟩,_⟩:=Ez.2.1 n s _ hn (Cy hlt);have xp:Instr.sameBits 10000 mes[n].key (Aa key)=true:=aba (a:=.str s) (b:=.str s) (I:=I) (w:=w) (φ:=φ) (by simp[same,DV]) (by rw[ht];exact .str _ _ hst) (by rw[ht'];exact .str _ _ axa);have hw:=hh.aa9 AI (by rw[Aw,hb];rfl) (mes':=mes.modify n λe=>{e with key:=Aa key,val:=Aa v}) (clock':=clock) FU (.pmap true ks (λx=>bif A5 x s then ρ v else val x)) rfl (λmono=>by
       have bn:∀ (i:Nat) e,(mes.modify n λe=>{e with key:=Aa key,val:=Aa v})[i]? = some e -> ∃ e0,mes[i]? = some e0/\e.born=e0.born/\(i=n->e.key=Aa key/\e.val=Aa v)/\(i ≠ n->e=e0):=by
        intro i e h2;rw[ar]at h2;by_cases hi:n=i
        ·subst hi;rw[Ay rfl,Cy hlt]at h2;simp at h2;subst h2;exact⟨_,Cy hlt,rfl,λ_=>⟨rfl,rfl⟩,λh=>absurd rfl h⟩
        ·rw[AE hi]at h2;exact⟨e,h2,rfl,λh=>absurd h.symm hi,λ_=>rfl⟩
       refine⟨rfl,rfl,_,_,FR (CQ FU),by simp[hsz],λi x e h1 h2=>?_,λi e h2=>?_,λi j e e' DC h1 h2=>?_,Ez.2.2.2.2⟩
       ·obtain⟨e0,h3,_,h4,h5⟩:=bn i e h2;by_cases hi:i=n
        ·subst hi;rw[hn]at h1;cases h1;rw[(h4 rfl).1,(h4 rfl).2];exact⟨⟨tx,ht,hst⟩,by simp only[cj];simpa using mono NX⟩
        ·rw[h5 hi];have NW:x ≠ s:=by rintro rfl;exact hi (Ez.2.2.2.2 i n x h1 hn)
         obtain⟨a1,a2⟩:=Ez.2.1 i x e0 h1 h3;exact⟨a1,by simp only[cj];simpa [NW] using mono a2⟩
       ·obtain⟨e0,h3,h4,_⟩:=bn i e h2;rw[h4];exact Ez.2.2.1 i e0 h3
       ·obtain⟨e0,h3,h4,_⟩:=bn i e h1;obtain⟨e1,h5,h6,_⟩:=bn j e' h2;rw[h4,h6];exact Ez.2.2.2.1 i j e0 e1 DC h3 h5)
      rw[Ae];refine⟨undef,_,φ,I,.inr ⟨hex Aa w _ ?_,rfl⟩,.undef _,(hw 0).1,λbase=>(hw base).2,Ac.le_refl _⟩;have RL:(Instr.keyThatStays mes[n].key (Aa key)).run P w=.ok (Aa key) w:=by simp[Instr.keyThatStays,xp]
      simp only[Instr.mapUpdate,Ce,run_underlying (A7 t ti Cc),hd,Co,hu,KG FU,SZ (A7 kt tk FH) Ky hk,S3 (A7 kt tk FH) hf,
       Cy hlt,FX,LK,RL,lU FU]
   ·cases h
  ·cases h
 ·cases h
end
end
section
variable {R:Type}
def RH.freeze{w:World}{I:Nat->Prop}{φ:Ac}{rd:Nat->BS}(h:RH w I φ rd){b B o sz:Nat}(AI:φ b=some (B,o,sz))(hl:live (rd b)=true){x:BS}
  (QF:live x=true) (QD:AZ x=false) (hx:RB w I φ B o sz x) (hlt:B<w.heap.size) (base:Nat) :
  RH w (λB'=>I B'\/B'=B) φ (BU rd b x)/\Step base rd φ I w (BU rd b x) φ (λB'=>I B'\/B'=B) w:=by
 have afI:∀ {b' B' o' sz'},RB w I φ B' o' sz' b'->RB w (λB'=>I B'\/B'=B) φ B' o' sz' b':=λr=>r.mono (λB hB=>⟨.inl hB,rfl⟩) (λ_=>Ar _) (Ac.le_refl _) rfl;have Dm:∀ b',AZ (BU rd b x b')=true->b' ≠ b/\AZ (rd b')=true:=by
  intro b' hm;by_cases e:b'=b
  ·subst e;rw[DL,QD]at hm;cases hm
  ·rw[C0 _ _ e]at hm;exact⟨e,hm⟩
 refine⟨⟨λb' e=>?_,λb' IG=>?_,λb1 b2 B' o1 s1 o2 s2 hm BW e e'=>?_,λb' B' o' sz' hm e=>?_,λb' B' o' sz' IG hm e=>?_,λB' hB=>hB.elim (h.lt B') (λe=>e ▸ hlt)⟩,
  Step.of (λ_ _ _ e=>e) (λ_ hB=>.inl hB) (λB' hB=>?_) (λB' hB=>?_) (Ext.refl _ _) (GF.refl _)⟩
 ·by_cases hb:b'=b
  ·subst hb;rw[DL]at e;subst e;cases QF
  ·rw[C0 _ _ hb]at e;exact h.none b' e
 ·by_cases hb:b'=b
  ·subst hb;exact .inl ⟨B,o,sz,AI,by rw[DL];exact afI hx⟩
  ·rw[C0 _ _ hb]at IG ⊢;rcases h.CY b' IG with ⟨B',o',sz',e,r⟩ | hp
   ·exact .inl ⟨B',o',sz',e,afI r⟩
   ·exact .inr hp
 ·exact h.inj b1 b2 B' o1 s1 o2 s2 (Dm b1 hm).2 (Dm b2 BW).2 e e'
 ·obtain⟨hne,BW⟩:=Dm b' hm;rintro(hB | hB)
  ·exact h.CP b' B' o' sz' BW e hB
  ·subst hB;cases Ua:AZ (rd b)with
   | true=>exact hne (h.inj b' b _ _ _ _ _ BW Ua e AI)
   | false=>exact h.CP b' _ _ _ BW e (h.Ea b _ _ _ hl Ua AI)
 ·by_cases hb:b'=b
  ·subst hb;rw[AI]at e;cases e;exact .inr rfl
  ·rw[C0 _ _ hb]at IG hm;exact .inl (h.Ea b' B' o' sz' IG hm e)
 ·rcases hB with hB | hB
  ·exact .inl hB
  ·subst hB;cases Ua:AZ (rd b)with
   | true=>exact .inr (.inl ⟨b,o,sz,Ua,AI⟩)
   | false=>exact .inl (h.Ea b _ _ _ hl Ua AI)
 ·obtain⟨b',o',sz',hm,e⟩:=hB;exact .inl ⟨b',o',sz',(Dm b' hm).2,e⟩
def RH.abb{w:World}{I:Nat->Prop}{φ:Ac}{rd:Nat->BS}(h:RH w I φ rd){b B:Nat}(hb:φ b=some (B,0,0))(hm:AZ (rd b)=true)
  {m:Option Nat} {s c:Nat} {sn:Array Nat} (hc:w.heap[B]? = some (.mapIter m s sn c)) (ob:Obj) (CZ:∀ c e fz,ob ≠ .cells c e fz) (x:BS) (QD:AZ x=true) (hx:RB (World.BI w B ob) I φ B 0 0 x) (base:Nat) :
  RH (World.BI w B ob) I φ (BU rd b x)/\Step base rd φ I w (BU rd b x) φ I (World.BI w B ob):=by
 have hM:Ca φ rd B:=⟨b,0,0,hm,hb⟩
 have ext:Ext (Ca φ rd) w (World.BI w B ob):=by
  refine⟨rfl,rfl,rfl,by simp,λB' _ hn=>GL (λe=>hn (e ▸ hM)),λB' c1 e1 cg h1=>?_,λB' c1 e1 cg _ h1=>?_⟩
  ·by_cases hb:B'=B
   ·subst hb;rw[hc]at h1;cases h1
   ·exact⟨c1,(GL hb).trans h1,rfl⟩
  ·by_cases hb:B'=B
   ·subst hb;rw[FR (CQ hc)]at h1;exact(CZ c1 e1 cg (Option.some.inj h1)).elim
   ·exact⟨c1,(GL hb).symm.trans h1,rfl⟩
 refine⟨h.change (Ac.le_refl _) ext (· = b) (λb' Aw=>⟨C0 _ _ Aw,rfl⟩) ?_ ?_,Step.of (λ_ _ _ e=>e) (λ_ hB=>hB) (λ_ hB=>.inl hB) ?_ (ext) (GF.setObj hc CZ)⟩
 ·intro b' B' o' sz' hne hl e';refine GL λhB=>?_;subst hB;cases DB:AZ (rd b')with
  | true=>exact hne (h.inj b' b _ _ _ _ _ DB hm e' hb)
  | false=>exact h.CP b _ _ _ hm hb (h.Ea b' _ _ _ hl DB e')
 ·rintro b' rfl;refine⟨(λe'=>(by rw[DL]at e';rw[e']at QD;cases QD)),λ_=>⟨by rw[DL];exact QD,B,0,0,hb,by rw[DL];exact hx,h.CP _ _ _ _ hm hb,?_⟩⟩;intro jc hne Kp o' sz' e';rw[C0 _ _ hne]at Kp;exact hne (h.inj _ _ _ _ _ _ _ Kp hm e' hb)
 ·rintro B' ⟨b',o',sz',BW,e'⟩;by_cases Di:b'=b
  ·subst Di;rw[hb]at e';cases e';exact .inl hM
  ·rw[C0 _ _ Di]at BW;exact .inl ⟨b',o',sz',BW,e'⟩
section
variable {P:Program} {tt:TT} {ρ:Operand->AV} {rd:Nat->BS} {nx:Nat} {k:KW R} {r:R} {o:Oper}
def ak0(A7:E8 P tt)(hnx:rd nx=.none){t:TypeId}{x:Operand}(ho:o.op=.range t x)(h:CT tt ρ rd nx (.range t x) k=some r):Good P o ρ rd k r:=by
 simp only[CT]at h;obtain⟨ti,Cc,h⟩:=CE h;have hm:x ∈ o.op.operands:=by simp[ho,Op.operands]
 split at h
 ·rename_i kt et b hd CL;split at h
  ·rename_i mu es hb;obtain⟨hc,h⟩:=BG h;obtain⟨hle,hf⟩:=A4 hc;have hle:=DZ hle;refine⟨_,_,_,h,λAs Aa w φ I hrd Dc hh hx=>?_⟩;have hn:As nx=.none:=(Dc (nx,_) (.tail _ (.head _))).trans hnx;have Aw:=hrd b (by simp);have hne:nx ≠ b:=by rintro rfl;rw[hnx]at hb;cases hb
   have hp:=hx x hm;rw[CL]at hp;generalize Ec:Aa x=u at hp;cases hp with
   | mp _ B AI=>
    obtain⟨B',o',sz',e,hrb⟩:=hh.JI AI (by rw[Aw,hb];rfl);rw[AI]at e;cases e;rw[Aw,hb]at hrb;have X1:RB w I φ B 0 0 (.map false es):=hrb;obtain⟨_,_,mes,clock,h1,h2,h3,h4⟩:=hrb;have hlt:=CQ h1;have F:=λbase=>hh.freeze (x:=.map false es) AI (by rw[Aw,hb];rfl) rfl rfl X1 hlt base;have V4:BU As b (.map false es) nx=.none:=by rw[C0 _ _ hne];exact hn
    have G:=λbase=>(F 0).1.alloc V4 (.mapIter (some B) clock #[] clock) (.iter true es false) 0 rfl (by
     refine⟨rfl,rfl,B,clock,#[],mes,clock,No w _,.inr rfl,(alloc_old w _ hlt).trans h1,h2,hle,λi kv e a b=>?_,λi e a=>⟨h4 i e a,h4 i e a⟩,rfl⟩;obtain⟨g1,g2,_⟩:=h3 i kv e a b;have hff:=HA.1 hf _ (Dy a);obtain⟨f1,f2⟩:=A4 hff;have mono:∀ {v:AV} {u:Value},RV w I Ac.no v u->RV (w.alloc (.mapIter (some B) clock #[] clock)) (λB'=>I B'\/B'=B) Ac.no v u:=λhvu=>
      hvu.mono (λB' hB=>⟨.inl hB,alloc_old w _ (hh.lt B' hB)⟩) (ez w _) (Ac.le_refl _)
     exact⟨mono (g1.free f1),mono (g2.free f2)⟩) (λ_ _ _ h=>by cases h) base
    refine⟨.pointer (some ⟨w.heap.size,0,none⟩),_,_,_,.inl ?_,.ptr nx w.heap.size 0 0 0 0 0 (Ac.E5 _ _ _) rfl,(G 0).1,λbase=>(F base).2.trans (G base).2.1,(G 0).2.2⟩;simp only[execOp,ho,Ec,Instr.range,Ce,run_underlying (A7 t ti Cc),hd,Co,KG h1,CS];rfl
  ·rename_i mu ks val hb;refine⟨_,_,_,h,λAs Aa w φ I hrd Dc hh hx=>?_⟩;have hn:As nx=.none:=(Dc (nx,_) (.tail _ (.head _))).trans hnx;have Aw:=hrd b (by simp);have hne:nx ≠ b:=by rintro rfl;rw[hnx]at hb;cases hb
   have hp:=hx x hm;rw[CL]at hp;generalize Ec:Aa x=u at hp;cases hp with
   | mp _ B AI=>
    obtain⟨B',o',sz',e,hrb⟩:=hh.JI AI (by rw[Aw,hb];rfl);rw[AI]at e;cases e;rw[Aw,hb]at hrb;have X1:RB w I φ B 0 0 (.pmap false ks val):=hrb;obtain⟨_,_,mes,clock,h1,Ez⟩:=hrb;have hlt:=CQ h1;have F:=λbase=>hh.freeze (x:=.pmap false ks val) AI (by rw[Aw,hb];rfl) rfl rfl X1 hlt base;have V4:BU As b (.pmap false ks val) nx=.none:=by rw[C0 _ _ hne];exact hn
    have G:=λbase=>(F 0).1.alloc V4 (.mapIter (some B) clock #[] clock) (.Fz true ks val ks none) 0 rfl (by refine⟨rfl,rfl,B,clock,#[],mes,clock,No w _,.inr rfl,(alloc_old w _ hlt).trans h1,Ez.mono (λB' hB=>⟨.inl hB,alloc_old w _ (hh.lt B' hB)⟩) (ez w _),⟨Ar _,λi e a=>Ez.2.2.1 i e a⟩,λi s e a _=>?_,λs hs=>hs,λs hs=>by cases hs⟩;simp[Dy a]) (λ_ _ _ h=>by cases h) base;refine⟨.pointer (some ⟨w.heap.size,0,none⟩),_,_,_,.inl ?_,.ptr nx w.heap.size 0 0 0 0 0 (Ac.E5 _ _ _) rfl,(G 0).1,λbase=>(F base).2.trans (G base).2.1,(G 0).2.2⟩;simp only[execOp,ho,Ec,Instr.range,Ce,run_underlying (A7 t ti Cc),hd,Co,KG h1,CS];rfl
  ·cases h
 ·cases h
def amH{x:Operand}{str:Bool}(ho:o.op=.next x str)(h:CT tt ρ rd nx (.next x str) k=some r):Good P o ρ rd k r:=by
 simp only[CT]at h;have hm:x ∈ o.op.operands:=by simp[ho,Op.operands]
 have afJ:∀ (w:World) (I:Nat->Prop) (φ:Ac),RV w I φ (.Am [.bool false]) (.tuple #[.bool false]):=λw I φ=>.Am _ _ rfl λi c u e e'=>by
  cases i with
  | zero=>simp at e e';subst e;subst e';exact .bool _
  | succ i=>simp at e
 split at h
 ·rename_i b CL;have xq:∀ (As:Nat->BS) (Aa:Operand->Value) (w:World) (φ:Ac) (I:Nat->Prop) (es:List (AV × AV)) (st:Bool),rd b=.iter true es st->As b=rd b->RH w I φ As->(∀ x ∈ o.op.operands,RV w I φ (ρ x) (Aa x)) ->
    ∃ B mm since seen mes clock,φ b=some (B,0,0)/\Aa x=.pointer (some ⟨B,0,none⟩)/\w.heap[B]? = some (.mapIter (some mm) since seen clock)/\I mm/\w.heap[mm]? = some (.map mes clock)/\mes.size=es.length/\es.length<=1 /\
   (∀ (i:Nat) kv e,es[i]? = some kv->mes[i]? = some e->RV w I Ac.no kv.1 e.key/\RV w I Ac.no kv.2 e.val)/\(∀ (i:Nat) e,mes[i]? = some e->e.born<since/\e.born<clock) /\
   seen=(bif st then mes.map (·.born)else #[]):=by
   intro As Aa w φ I es st hb Aw hh hx;obtain⟨B,oo,sz,e,hrb⟩:=hh.TH (b:=b) (by rw[Aw,hb];exact id) (by rw[Aw,hb];rfl);rw[Aw,hb]at hrb;obtain⟨rfl,rfl,mm,since,seen,mes,clock,h1⟩:=hrb;have hp:=hx x hm;rw[CL]at hp;generalize Ec:Aa x=u at hp;cases hp with
   | ptr _ B' o' sz' _ _ q AI hq=>rw[e]at AI;cases AI;simp at hq;subst hq;exact⟨B,mm,since,seen,mes,clock,e,rfl,h1⟩
  have hone:∀ {mes:Array MapEntry} {p:AV × AV},mes.size=[p].length -> ∃ e,mes = #[e]:=by
   intro mes p hs;obtain⟨l⟩:=mes
   match l,hs with
   | [e],_=>exact⟨e,rfl⟩
  split at h
  ·
   rename_i st hb;refine⟨_,_,_,h,λAs Aa w φ I hrd _ hh hx=>?_⟩;obtain⟨B,mm,since,seen,mes,clock,e1,e2,e3,e4,e5,e6,e7,e8,e9,ck⟩:=xq As Aa w φ I _ _ hb (hrd b (by simp)) hh hx;have axb:mes = #[]:=TC e6;subst axb;refine GB.pure hh (u:=.tuple #[.bool false]) ?_ (afJ _ _ _);have hg:(getObj B).run P w=.ok (.mapIter (some mm) since seen clock) w:=by simp[getObj,Sem.run,e3]
   simp[execOp,ho,e2,Instr.next,hg,KG e5,Question.forced]
  ·
   rename_i p hb;refine⟨_,_,_,h,λAs Aa w φ I hrd _ hh hx=>?_⟩;obtain⟨B,mm,since,seen,mes,clock,e1,e2,e3,e4,e5,e6,e7,e8,e9,ck⟩:=xq As Aa w φ I _ _ hb (hrd b (by simp)) hh hx;obtain⟨e,rfl⟩:=hone e6;obtain⟨hs,ML⟩:=e9 0 e rfl;refine GB.pure hh (u:=.tuple #[.bool false]) ?_ (afJ _ _ _);have hg:(getObj B).run P w=.ok (.mapIter (some mm) since seen clock) w:=by simp[getObj,Sem.run,e3]
   subst ck;have axc:¬ clock<=e.born:=by omega
   simp[execOp,ho,e2,Instr.next,hg,KG e5,Question.forced,axc]
  ·
   rename_i p hb;refine⟨_,_,_,h,λAs Aa w φ I hrd _ hh hx=>?_⟩;have Aw:=hrd b (by simp);obtain⟨B,mm,since,seen,mes,clock,e1,e2,e3,e4,e5,e6,e7,e8,e9,ck⟩:=xq As Aa w φ I _ _ hb Aw hh hx;obtain⟨e,rfl⟩:=hone e6;obtain⟨hs,ML⟩:=e9 0 e rfl;have hg:(getObj B).run P w=.ok (.mapIter (some mm) since seen clock) w:=by simp[getObj,Sem.run,e3]
   have cj:seen = #[]:=ck;subst cj;have Ss:∀ ob,(setObj B ob).run P w=.ok () (World.BI w B ob):=λob=>by simp[setObj,Sem.run,e3,World.BI]
   have hmB:mm ≠ B:=by rintro rfl;rw[e3]at e5;cases e5
   have Dm:AZ (As b)=true:=by rw[Aw,hb];rfl
   have hM:Ca φ As B:=⟨b,0,0,Dm,e1⟩
   have cp:∀ B',I B'->I B'/\(World.BI w B (.mapIter (some mm) since #[e.born] clock)).heap[B']? = w.heap[B']? := λB' hB=>⟨hB,GL λe=>hh.CP b B 0 0 Dm e1 (e ▸ hB)⟩
   have hcs:∀ B',Bv w B'<=Bv (World.BI w B (.mapIter (some mm) since #[e.born] clock)) B':=by
    intro B';by_cases hb:B'=B
    ·subst hb;unfold Bv;rw[e3];exact Bu _
    ·unfold Bv;rw[GL hb];exact Ar _
   obtain⟨g1,g2⟩:=e8 0 p e rfl rfl;have g1':=g1.mono cp hcs (Ac.le_refl _);have pL:=g2.mono cp hcs (Ac.le_refl _);have hW:=λbase=>hh.abb e1 Dm e3 (.mapIter (some mm) since #[e.born] clock) (λ_ _ _ h=>by cases h) (.iter true [p] true) rfl
    ⟨rfl,rfl,mm,since,#[e.born],#[e],clock,FR (CQ e3),e4,(GL hmB).trans e5,rfl,Ar _,λi kv e' a b=>(by
     cases i with
     | zero=>simp at a b;subst a;subst b;exact⟨g1',pL⟩
     | succ i=>simp at a),e9,by simp⟩ base
   refine⟨.tuple #[.bool true,e.key,e.val],_,φ,I,.inl ?_,.Am _ _ rfl λi c u ec eu=>?_,(hW 0).1,λbase=>(hW base).2,Ac.le_refl _⟩
   ·have axd:=Ss (.mapIter (some mm) since #[e.born] clock);have hns:¬ since<=e.born:=by omega
    simp[execOp,ho,e2,Instr.next,hg,KG e5,Question.forced,hs,hns,axd]
   ·match i,ec,eu with
    | 0,ec,eu=>simp at ec eu;subst ec;subst eu;exact .bool _
    | 1,ec,eu=>simp at ec eu;subst ec;subst eu;exact g1'.mono (λB hB=>⟨hB,rfl⟩) (λ_=>Ar _) (Ac.IZ φ)
    | 2,ec,eu=>simp at ec eu;subst ec;subst eu;exact pL.mono (λB hB=>⟨hB,rfl⟩) (λ_=>Ar _) (Ac.IZ φ)
    | i+3,ec,eu=>simp at ec
  ·cases h
 ·cases h
def ak2{x:Operand}(ho:o.op=.entry x)(h:CT tt ρ rd nx (.entry x) k=some r):Good P o ρ rd k r:=by
 simp only[CT]at h;have hm:x ∈ o.op.operands:=by simp[ho,Op.operands]
 split at h
 ·rename_i b CL;split at h
  ·rename_i mu p hb;refine⟨_,_,_,h,λAs Aa w φ I hrd _ hh hx=>?_⟩;have Aw:=hrd b (by simp);obtain⟨B,oo,sz,e,hrb⟩:=hh.TH (b:=b) (by rw[Aw,hb];exact id) (by rw[Aw,hb];rfl);rw[Aw,hb]at hrb;obtain⟨rfl,rfl,mm,since,seen,mes,clock,e3,e4,e5,e6,e7,e8,e9,ck⟩:=hrb;have hp:=hx x hm;rw[CL]at hp;generalize Ec:Aa x=u at hp;cases hp with
   | ptr _ B' o' sz' _ _ q AI hq=>
    rw[e]at AI;cases AI;simp at hq;subst hq;obtain⟨e0,rfl⟩:∃ e,mes = #[e]:=by
     obtain⟨l⟩:=mes
     match l,e6 with
     | [e],_=>exact⟨e,rfl⟩
    obtain⟨g1,g2⟩:=e8 0 p e0 rfl rfl;have hg:(getObj B).run P w=.ok (.mapIter (some mm) since seen clock) w:=by simp[getObj,Sem.run,e3]
    subst ck;refine GB.pure hh (u:=.tuple #[e0.key,e0.val]) ?_ (.Am _ _ rfl λi c u ec eu=>?_)
    ·simp[execOp,ho,Ec,Instr.entry,hg,KG e5]
    ·match i,ec,eu with
     | 0,ec,eu=>simp at ec eu;subst ec;subst eu;exact g1.mono (λB hB=>⟨hB,rfl⟩) (λ_=>Ar _) (Ac.IZ φ)
     | 1,ec,eu=>simp at ec eu;subst ec;subst eu;exact g2.mono (λB hB=>⟨hB,rfl⟩) (λ_=>Ar _) (Ac.IZ φ)
     | i+2,ec,eu=>simp at ec
  ·rename_i mu ks val rem s hb;refine⟨_,_,_,h,λAs Aa w φ I hrd _ hh hx=>?_⟩;have Aw:=hrd b (by simp);obtain⟨B,oo,sz,e,hrb⟩:=hh.TH (b:=b) (by rw[Aw,hb];exact id) (by rw[Aw,hb];rfl);rw[Aw,hb]at hrb;obtain⟨rfl,rfl,mm,since,seen,mes,clock,e3,e4,e5,Ez,_,_,_,ahF⟩:=hrb;obtain⟨i0,e0,xn,k1,k2,rfl⟩:=ahF s rfl;have hp:=hx x hm;rw[CL]at hp;generalize Ec:Aa x=u at hp;cases hp with
   | ptr _ B' o' sz' _ _ q AI hq=>
    rw[e]at AI;cases AI;simp at hq;subst hq;obtain⟨⟨t,t1,t2⟩,g2⟩:=Ez.2.1 i0 s e0 k1 k2;have cq:(mes.toList.map (·.born)).Nodup:=by rw[List.Nodup,List.pairwise_map,XX];intro i j hi hj DC;have:=Ez.2.2.2.1 i j mes[i] mes[j] DC (by simp at hi;simp[hi]) (by simp at hj;simp[hj]);simp;omega
    have hr:=run_entry_at (P:=P) w B mm since xn mes clock e0 e3 e5 (by rw[<- HV]at k2;exact Dy k2) cq;refine GB.pure hh (u:=.tuple #[e0.key,e0.val]) ?_ (.Am _ _ rfl λi c u ec eu=>?_)
    ·simp[execOp,ho,Ec,hr]
    ·match i,ec,eu with
     | 0,ec,eu=>simp at ec eu;subst ec;subst eu;rw[t1,t2];exact .str _ _ rfl
     | 1,ec,eu=>simp at ec eu;subst ec;subst eu;exact g2.mono (λB hB=>⟨hB,rfl⟩) (λ_=>Ar _) (Ac.IZ φ)
     | i+2,ec,eu=>simp at ec
  ·cases h
 ·cases h
end
end
section
variable {R:Type}
section
variable {P:Program} {tt:TT} {ρ:Operand->AV} {rd:Nat->BS} {nx:Nat} {k:KW R} {r:R} {o:Oper}
def X2{w:World}{I:Nat->Prop}{φ:Ac}{a b:AV}{u v:Value}(ha:RV w I φ a u)(hb:RV w I φ b v):RV w I φ (.Am [a,b]) (.tuple #[u,v]):=by
 refine .Am _ _ rfl λk c x e e'=>?_
 match k with
 | 0=>simp at e e';subst e;subst e';exact ha
 | 1=>simp at e e';subst e;subst e';exact hb
 | k+2=>simp at e
def aj3(A7:E8 P tt){t:TypeId}{m key:Operand}{ok:Bool}(ho:o.op=.lookup t m key ok)(h:CT tt ρ rd nx (.lookup t m key ok) k=some r):Good P o ρ rd k r:=by
 simp only[CT]at h;have hm1:m ∈ o.op.operands:=by simp[ho,Op.operands]
 have hm2:key ∈ o.op.operands:=by simp[ho,Op.operands]
 obtain⟨ti,Cc,h⟩:=CE h;split at h
 ·rename_i kt et hd;obtain⟨tk,FH,h⟩:=CE h;obtain⟨te,Eb,h⟩:=CE h;obtain⟨zv,hz,h⟩:=CE h;obtain⟨Ky,h⟩:=BG h;have HZ:∀ {v:AV} {b:Bool} {l:List Nat},(bif ok then k (.Am [v,.bool b]) [] l else k v [] l)=some r ->
    (∀ (As:Nat->BS) (Aa:Operand->Value) (w:World) (φ:Ac) (I:Nat->Prop),(∀ b ∈ l,As b=rd b)->RH w I φ As->(∀ x ∈ o.op.operands,RV w I φ (ρ x) (Aa x)) ->
     ∃ u,(Instr.lookup t (Aa m) (Aa key) ok).run P w=.ok (if ok then .tuple #[u,.bool b]else u) w/\RV w I φ v u)->Good P o ρ rd k r:=by
   intro v b l hk hrun;cases ok with
   | true=>refine⟨_,[],l,hk,λAs Aa w φ I hrd _ hh hx=>?_⟩;obtain⟨u,h1,h2⟩:=hrun As Aa w φ I hrd hh hx;refine GB.pure (u:=.tuple #[u,.bool b]) hh ?_ (X2 h2 (.bool b));simp only[execOp,ho,Ce,h1,Co,CS];rfl
   | false=>refine⟨_,[],l,hk,λAs Aa w φ I hrd _ hh hx=>?_⟩;obtain⟨u,h1,h2⟩:=hrun As Aa w φ I hrd hh hx;refine GB.pure (u:=u) hh ?_ h2;simp only[execOp,ho,Ce,h1,Co,CS];rfl
  split at h
  ·rename_i b hm;split at h
   ·rename_i mu es hb;obtain⟨x,hx,h⟩:=CE h;obtain⟨y,hy,QE⟩:=uk 0 hx;have OM:∀ (As:Nat->BS) (Aa:Operand->Value) (w:World) (φ:Ac) (I:Nat->Prop),As b=rd b->RH w I φ As->(∀ x ∈ o.op.operands,RV w I φ (ρ x) (Aa x)) ->
      ∃ B mes clock,Aa m=.map (some B)/\w.heap[B]? = some (.map mes clock)/\mes.size=es.length /\
       (∀ (i:Nat) kv e,es[i]? = some kv->mes[i]? = some e->RV w I φ kv.1 e.key/\RV w I φ kv.2 e.val/\kv.1.single=true):=by
     intro As Aa w φ I Aw hh hx;have hp:=hx m hm1;rw[hm]at hp;generalize hu:Aa m=u at hp;cases hp with
     | mp _ B AI=>obtain⟨B',o',sz',e,hrb⟩:=hh.JI AI (by rw[Aw,hb];rfl);rw[AI]at e;cases e;rw[Aw,hb]at hrb;obtain⟨_,_,mes,clock,h1,h2,h3,_⟩:=hrb;exact⟨B,mes,clock,rfl,h1,h2,h3⟩
    cases y with
    | none=>
     simp at QE;subst QE;refine HZ h λAs Aa w φ I hrd hh hx=>?_;obtain⟨B,mes,clock,hu,FU,hsz,hrel⟩:=OM As Aa w φ I (hrd b (by simp)) hh hx;have hk:=hx key hm2;obtain⟨u,jt,QB⟩:=wb (A7 et te Eb) hz w I φ;rcases S2 Ky hk (mes:=mes.toList) (by simpa using hsz) (λj kv e h1 h2=>hrel j kv e h1 (by simpa using h2)) hy with ⟨_,hf⟩ | ⟨n,v',uv,e,_⟩
     ·refine⟨u,?_,QB⟩;simp only[Instr.lookup,Ce,run_underlying (A7 t ti Cc),hd,Co,hu,KG FU,CS,SZ (A7 kt tk FH) Ky hk,S3 (A7 kt tk FH) hf,jt]
     ·cases e
    | some nv=>
     obtain⟨n,v'⟩:=nv;simp at QE;subst QE;refine HZ h λAs Aa w φ I hrd hh hx=>?_;obtain⟨B,mes,clock,hu,FU,hsz,hrel⟩:=OM As Aa w φ I (hrd b (by simp)) hh hx;have hk:=hx key hm2;rcases S2 Ky hk (mes:=mes.toList) (by simpa using hsz) (λj kv e h1 h2=>hrel j kv e h1 (by simpa using h2)) hy with ⟨e,_⟩ | ⟨n',v'',uv,e,hf,js⟩
     ·cases e
     ·cases e;refine⟨uv,?_,js⟩;simp only[Instr.lookup,Ce,run_underlying (A7 t ti Cc),hd,Co,hu,KG FU,CS,SZ (A7 kt tk FH) Ky hk,S3 (A7 kt tk FH) hf]
   ·rename_i mu ks val hb;split at h
    ·rename_i s T7;have OM:∀ (As:Nat->BS) (Aa:Operand->Value) (w:World) (φ:Ac) (I:Nat->Prop),As b=rd b->RH w I φ As->(∀ x ∈ o.op.operands,RV w I φ (ρ x) (Aa x)) ->
       ∃ B mes clock,Aa m=.map (some B)/\w.heap[B]? = some (.map mes clock)/\PM w I mes clock ks val:=by
      intro As Aa w φ I Aw hh hx;have hp:=hx m hm1;rw[hm]at hp;generalize hu:Aa m=u at hp;cases hp with
      | mp _ B AI=>obtain⟨B',o',sz',e,hrb⟩:=hh.JI AI (by rw[Aw,hb];rfl);rw[AI]at e;cases e;rw[Aw,hb]at hrb;obtain⟨_,_,mes,clock,h1,h2⟩:=hrb;exact⟨B,mes,clock,rfl,h1,h2⟩
     have oE:Ns tk.desc (.str s)=true:=T7 ▸ Ky;obtain⟨l1,l2⟩:=sW s val ks 0;cases Fo:Ck s ks with
     | false=>
      rw[Fo,Aj]at h;obtain⟨hy,_⟩:=l2 Fo;refine HZ h λAs Aa w φ I hrd hh hx=>?_;obtain⟨B,mes,clock,hu,FU,Ez⟩:=OM As Aa w φ I (hrd b (by simp)) hh hx;have hk:=hx key hm2;rw[T7]at hk;obtain⟨u,jt,QB⟩:=wb (A7 et te Eb) hz w I φ;rcases S2 oE hk (mes:=mes.toList) (by simpa [TL] using Ez.1) (λj kv e h1 h2=>Ez.rel (φ:=φ) j kv e h1 (by simpa using h2)) hy with ⟨_,hf⟩ | ⟨n,v',uv,e,_⟩
      ·refine⟨u,?_,QB⟩;simp only[Instr.lookup,Ce,run_underlying (A7 t ti Cc),hd,Co,hu,KG FU,CS,SZ (A7 kt tk FH) oE hk,S3 (A7 kt tk FH) hf,jt]
      ·cases e
     | true=>
      rw[Fo,Ae]at h;obtain⟨n,hy,_,_⟩:=l1 Fo;refine HZ h λAs Aa w φ I hrd hh hx=>?_;obtain⟨B,mes,clock,hu,FU,Ez⟩:=OM As Aa w φ I (hrd b (by simp)) hh hx;have hk:=hx key hm2;rw[T7]at hk;rcases S2 oE hk (mes:=mes.toList) (by simpa [TL] using Ez.1) (λj kv e h1 h2=>Ez.rel (φ:=φ) j kv e h1 (by simpa using h2)) hy with ⟨e,_⟩ | ⟨n',v'',uv,e,hf,js⟩
      ·cases e
      ·cases e;refine⟨uv,?_,js⟩;simp only[Instr.lookup,Ce,run_underlying (A7 t ti Cc),hd,Co,hu,KG FU,CS,SZ (A7 kt tk FH) oE hk,S3 (A7 kt tk FH) hf]
    ·cases h
   ·cases h
  ·rename_i hm;refine HZ h λAs Aa w φ I hrd hh hx=>?_;have hp:=hx m hm1;rw[hm]at hp;generalize hu:Aa m=u at hp;cases hp;have hk:=hx key hm2;obtain⟨u,jt,QB⟩:=wb (A7 et te Eb) hz w I φ;refine⟨u,?_,QB⟩;have hf:Instr.findNow tk.desc (Aa key) (#[]:Array MapEntry).toList 0=some none:=rfl;simp only[Instr.lookup,Ce,run_underlying (A7 t ti Cc),hd,Co,hu,CS,SZ (A7 kt tk FH) Ky hk,S3 (A7 kt tk FH) hf,jt]
  ·cases h
 ·cases h
def arQ(A7:E8 P tt)(hnx:rd nx=.none)(h:CT tt ρ rd nx o.op k=some r):Good P o ρ rd k r:=by
 cases ho:o.op with
 | move x=>rw[ho]at h;exact ab0 (.inl ho) h
 | assign x=>rw[ho]at h;exact ab0 (.inr ho) h
 | pick c a b=>rw[ho]at h;exact amE ho h
 | alloc t=>rw[ho]at h;exact akP A7 hnx ho h
 | box t x=>rw[ho]at h;exact ao9 hnx ho h
 | build t ps=>rw[ho]at h;exact akY A7 ho h
 | buildSlice t n ps=>rw[ho]at h;exact ai8 A7 hnx ho h
 | insert t m key v=>rw[ho]at h;exact aaj (nx:=nx) A7 (.inl ho) h
 | load t a=>rw[ho]at h;exact amF A7 ho h
 | store t a x=>rw[ho]at h;exact akQ A7 ho h
 | nilCheck x=>rw[ho]at h;exact ajl ho h
 | binOp op t x y t2=>rw[ho]at h;exact akV A7 ho h
 | unOp op t x=>rw[ho]at h;exact amG ho h
 | convert s d x=>rw[ho]at h;exact ajB A7 hnx ho h
 | makeFunc f a c=>rw[ho]at h;exact ajm ho h
 | makeMap t x=>rw[ho]at h;exact ajC A7 hnx ho h
 | makeSlice t l c=>rw[ho]at h;exact aje A7 hnx ho h
 | slice t x lo hi mx=>rw[ho]at h;exact akX A7 ho h
 | fieldAddr t x f=>rw[ho]at h;exact ajb A7 ho h
 | field t x f=>rw[ho]at h;exact akR A7 ho h
 | indexAddr t x i=>rw[ho]at h;exact ajc A7 ho h
 | index t x i=>rw[ho]at h;exact akS A7 ho h
 | lookup t m key ok=>rw[ho]at h;exact aj3 A7 ho h
 | mapUpdate t m key v=>rw[ho]at h;exact aaj A7 (.inr ho) h
 | extract x i=>rw[ho]at h;exact ajz ho h
 | range t x=>rw[ho]at h;exact ak0 A7 hnx ho h
 | next x b=>rw[ho]at h;exact amH (tt:=tt) (nx:=nx) ho h
 | entry x=>rw[ho]at h;exact ak2 (tt:=tt) (nx:=nx) ho h
 | _=>rw[ho]at h;simp[CT]at h
end
end
section
variable {R:Type}
section
variable {P:Program}
def aaA{w:World}{I:Nat->Prop}{φ:Ac}{rd:Nat->BS}(hh:RH w I φ rd){b B ob sz p m:Nat}{nf:Nat->List AV}{vs:Array Value}{x':BS}
  (AI:φ b=some (B,ob,sz)) (hm:AZ (rd b)=true) (hr:PZ (rd b)=true) (hf:Flat w I (HY φ x') sz m nf vs) (hsz:1<=sz) (hmp:1<=m)
  (hin:∃ cs,elemAt (rd b) (p+m - 1)=some cs)
  (CL:PZ x'=true) (QA:AZ x'=true) (NW:So x'=So (rd b)) (zX:HY φ x'=HY φ (rd b))
  (hx:∀ i A3,elemAt x' i=some A3->(p<=i/\i<p+m/\A3=nf (i - p))\/(¬ (p<=i/\i<p+m)/\elemAt (rd b) i=some A3)) :
  ∃ w',(storeCells ⟨B,ob+p*sz,none⟩ vs.toList).run P w=.ok () w'/\RH w' I φ (BU rd b x') /\ ∀ base,Step base rd φ I w (BU rd b x') φ I w':=by
 obtain⟨B',o',sz',e,hrb⟩:=hh.JI AI (Fv hm);rw[AI]at e;cases e;obtain⟨V0,⟨c,e,fz,hc,ht⟩,hel⟩:=hrb.row hr;have hvl:vs.toList.length=m*sz:=by simpa using hf.size
 obtain⟨cl,Ey⟩:=hin;have ahG:=hel _ cl Ey;have RM:ob+p*sz+m*sz<=c.size:=by
  obtain⟨u,hu,_⟩:=ahG.2 (sz - 1) _ (BR (by rw[ahG.1];omega));rw[cell_of hc]at hu;have:ob+(p+m - 1)*sz+(sz - 1)<c.size:=by
   rcases Cj (ob+(p+m - 1)*sz+(sz - 1)) c.size with h | h
   ·exact h
   ·rw[JB h]at hu;cases hu
  have e1:(p+m - 1)*sz+sz=p*sz+m*sz:=by
   have:p+m=(p+m - 1)+1:=by omega
   rw[<- F0]
   conv=>rhs;rw[this,Nat.succ_mul]
  omega
 have hrun:=WX (P:=P) (o:=ob+p*sz) vs.toList 0 c w hc (by rw[hvl];omega) (ht hm).1 (λv JR=>by obtain⟨q,hq⟩:=NN JR;exact hf.one q v (by simpa using hq));have hone:∀ v ∈ vs.toList,v.oneCell'=true:=λv JR=>by obtain⟨q,hq⟩:=NN JR;exact hf.one q v (by simpa using hq)
 have hn:=RH.write hh AI hm hc (IP vs.toList c (ob+p*sz)) x' QA (by
  refine RB.wc CL (NW.trans V0) ⟨_,e,fz,FR (CQ hc),λ_=>⟨λq hq=>(ht hm).1 q (by simpa using hq),by have:=(ht hm).2;unfold J9 at *;simpa using this⟩⟩ λi' A3 e'=>?_;have ext:=Ext.BI (M:=Ca φ rd) (c':=CF c (ob+p*sz) vs.toList) hc (IP _ _ _) ⟨b,ob,sz,hm,AI⟩;have mono:∀ {φ':Ac} {v:AV} {u:Value},RV w I φ' v u->RV (World.BI w B (.cells (CF c (ob+p*sz) vs.toList) e fz)) I φ' v u:=λhvu=>
   hvu.mono (λB hB=>⟨hB,ext.keep B (hh.lt B hB) λ⟨b,o,sz,hm,e⟩=>hh.CP b B o sz hm e hB⟩) ext.Bv (Ac.le_refl _)
  rcases hx i' A3 e' with ⟨h1,h2,rfl⟩ | ⟨hne,hold⟩
  ·have hi:i' - p<m:=by omega
   refine⟨hf.len _ hi,λq cc hq=>?_⟩;have hqs:q<sz:=by
    have:=hf.len _ hi;rcases Cj q (nf (i' - p)).length with h | h
    ·omega
    ·rw[CK h]at hq;cases hq
   have hp:=Oo hi hqs;rw[cell_of (FR (CQ hc)),Nn _ _ _ _ (by rw[hvl];exact RM),hvl];have e1:ob+i'*sz+q=ob+p*sz+((i' - p)*sz+q):=by
    have:i'=p+(i' - p):=by omega
    conv=>lhs;rw[this,F0]
    omega
   rw[e1,Ay (by omega),Nat.add_sub_cancel_left];have hlt:(i' - p)*sz+q<vs.size:=by rw[hf.size];exact hp
   exact⟨vs[(i' - p)*sz+q],by simp[hlt],hf.one _ _ (Cy hlt),mono (hf.val _ q cc _ hi hq (Cy hlt))⟩
  ·have XI:=hel i' A3 hold;rw[zX];refine⟨XI.1,λq cc hq=>?_⟩;obtain⟨u,hu,h2,h3⟩:=XI.2 q cc hq;rw[cell_of hc]at hu;rw[cell_of (FR (CQ hc)),Nn _ _ _ _ (by rw[hvl];exact RM),hvl];have hqs:q<sz:=by
    rcases Cj q A3.length with h | h
    ·have:=XI.1;omega
    ·rw[CK h]at hq;cases hq
   refine⟨u,?_,h2,mono h3⟩;rw[AE]
   ·exact hu
   ·rintro⟨ha,hb⟩;apply hne;constructor
    ·rcases Cj i' p with hlt | Ep
     ·have:=KU sz (Nat.succ_le_of_lt hlt);rw[Nat.succ_mul]at this;omega
     ·exact Ep
    ·rcases Cj i' (p+m)with hlt | Ep
     ·exact hlt
     ·have:=KU sz Ep;rw[F0]at this;omega)
 have hn:=hn (UM hone);exact⟨_,hrun,(hn 0).1,λbase=>(hn base).2⟩
def adl(v1 v2:View):(CG v1 v2).len=v1.len+v2.len:=by
 cases v1 with
 | list a=>cases v2 with
  | list b=>simp[CG,View.len]
  | fn n g=>cases a <;> simp[CG,View.len]
 | fn m f=>cases v2 <;> simp[CG,View.len]
def vd{v1 v2:View}{i:Nat}(hi:i<v1.len):(CG v1 v2).at i=v1.at i:=by
 have hb:Nat.blt i v1.len=true:=by rw[CW];exact hi
 cases v1 with
 | list a=>cases v2 with
  | list b=>simp only[CG,View.at,List.getD];rw[DY hi]
  | fn n g=>cases a with
   | nil=>simp[View.len]at hi
   | cons x a=>simp only[CG,View.at];rw[hb];rfl
 | fn m f=>simp only[CG,View.at];rw[hb];rfl
def ve{v1 v2:View}{i:Nat}(hi:v1.len<=i)(OZ:i<v1.len+v2.len):(CG v1 v2).at i=v2.at (i - v1.len):=by
 have hb:Nat.blt i v1.len=false:=by
  cases h:Nat.blt i v1.len with
  | false=>rfl
  | true=>rw[CW]at h;omega
 have hb2:Nat.blt i (v1.len+v2.len)=true:=by rw[CW];exact OZ
 cases v1 with
 | list a=>cases v2 with
  | list b=>simp only[CG,View.at,List.getD];rw[FC hi];rfl
  | fn n g=>cases a with
   | nil=>rfl
   | cons x a=>simp only[CG,View.at];rw[hb,hb2];rfl
 | fn m f=>simp only[CG,View.at];rw[hb,hb2];rfl
def ab5{es:List (List AV)}{i:Nat}(hi:i<es.length):View.at (.list es) i ∈ es:=by simp only[View.at,List.getD];rw[BR hi];exact R5 _
def adm{w:World}{I:Nat->Prop}{φ:Ac}{v1 v2:View}(hl:(match CG v1 v2 with | .list _=>true | .fn _ _=>IY v1)=true){i k:Nat}{c:AV}{u:Value}(hi:i<v1.len)
  (hc:(v1.at i)[k]? = some c) (hv:RV w I (Gl φ v1) c u):RV w I (Gl φ (CG v1 v2)) c u:=by
 cases v1 with
 | list a=>cases v2 with
  | list b=>exact hv
  | fn n g=>cases a with
   | nil=>simp[View.len]at hi
   | cons x a=>simp only[CG,IY,HA]at hl;exact hv.free (hl _ (ab5 hi) _ (Dy hc))
 | fn m f=>exact hv
def adn{w:World}{I:Nat->Prop}{φ:Ac}{v1 v2:View}(hr:(IY v2||(match CG v1 v2 with | .list _=>true | .fn _ _=>false))=true){i k:Nat}{c:AV}{u:Value}(hi:i<v2.len)
  (hc:(v2.at i)[k]? = some c) (hv:RV w I (Gl φ v2) c u):RV w I (Gl φ (CG v1 v2)) c u:=by
 cases v2 with
 | list b=>cases v1 with
  | list a=>exact hv
  | fn m f=>simp only[CG,Bool.or_false,IY,HA]at hr;exact hv.free (hr _ (ab5 hi) _ (Dy hc))
 | fn n g=>cases v1 with
  | list a=>cases a <;> exact hv
  | fn m f=>exact hv
def arR{w:World}{I:Nat->Prop}{φ:Ac}{sz n:Nat}{f:Nat->List AV}{vs:Array Value}(h:Flat w I φ sz n f vs){i k:Nat}{c:AV}(hi:i<n)(hc:(f i)[k]? = some c):k<sz:=by
 have:=h.len i hi;rcases Cj k (f i).length with h' | h'
 ·omega
 ·rw[CK h']at hc;cases hc
def ab6{w:World}{I:Nat->Prop}{φ:Ac}{sz:Nat}{v1 v2:View}{vs1 vs2:Array Value}(h1:Flat w I (Gl φ v1) sz v1.len v1.at vs1)(h2:Flat w I (Gl φ v2) sz v2.len v2.at vs2)
  (hl:(match CG v1 v2 with | .list _=>true | .fn _ _=>IY v1)=true) (hr:(IY v2||(match CG v1 v2 with | .list _=>true | .fn _ _=>false))=true) :
  Flat w I (Gl φ (CG v1 v2)) sz (CG v1 v2).len (CG v1 v2).at (vs1++vs2):=by
 have hlen:=adl v1 v2;refine⟨by rw[hlen,Array.size_append,h1.size,h2.size,F0],λp u e=>?_,λi hi=>?_,λi k c u hi hc e=>?_⟩
 ·rw[au]at e;split at e
  ·exact h1.one p u e
  ·exact h2.one _ u e
 ·rw[hlen]at hi;by_cases GG:i<v1.len
  ·rw[vd GG];exact h1.len i GG
  ·rw[ve (by omega) hi];exact h2.len _ (by omega)
 ·rw[hlen]at hi;by_cases GG:i<v1.len
  ·rw[vd GG]at hc;rw[Array.getElem?_append_left (by rw[h1.size];exact Oo GG (arR h1 GG hc))]at e;exact adm hl GG hc (h1.val i k c u GG hc e)
  ·rw[ve (by omega) hi]at hc;have Ep:vs1.size<=i*sz+k:=by
    rw[h1.size];have:=KU sz (by omega:v1.len<=i);omega
   rw[Array.getElem?_append_right Ep,h1.size]at e;have e1:i*sz+k - v1.len*sz=(i - v1.len)*sz+k:=by rw[Nat.sub_mul];have:=KU sz (by omega:v1.len<=i);omega
   rw[e1]at e;exact adn hr (by omega) hc (h2.val _ k c u (by omega) hc e)
def mT{a b:Array Value}(ha:∀ (k:Nat) v,a[k]? = some v->v.oneCell'=true)(hb:One b):One (a++b):=λk v e=>by
 rw[au]at e;split at e
 ·exact ha _ _ e
 ·exact hb _ _ e
def sJ{z:Array Value}{n:Nat}(h:One z):One (Builtin.zeroCells z n):=λk v e=>by
 unfold Builtin.zeroCells at e;rw[Qf]at e;cases hr:(Array.range (n*z.size))[k]? with
 | none=>rw[hr]at e;simp at e
 | some q=>
  rw[hr]at e;have hk:k<n*z.size:=by
   rcases Cj k (n*z.size)with h' | h'
   ·exact h'
   ·rw[JB (by simpa using h')]at hr;cases hr
  have hz:0<z.size:=by
   rcases LJ z.size with h0 | h0
   ·rw[h0]at hk;simp at hk
   ·exact h0
  have hlt:q % z.size<z.size:=Nat.mod_lt _ hz;simp only[FX,CU]at e;rw[getElem!_pos z (q % z.size) hlt]at e;exact h (q % z.size) v (by rw[Cy hlt,e])
def aj4{t e:TypeId}{ti te:TI}(Cc:GA P t=some ti)(hd:ti.desc=.slice e)(Eb:GA P e=some te){z:List AV}(hz:te.zero=some z){argTypes:Array TypeId}{ty:TypeId}
  (ju:argTypes[0]? = some t) (Yn:∀ t2,argTypes[1]? = some t2 -> ∃ d,P.underlying t2=some d /\ ∀ kd,d ≠ .int kd)
  {a:Option Addr} {n cap m:Nat} {ux:Value} {w:World} (hl:∀ w',(Builtin.lenOf ux).run P w'=.ok m w') {vo vn:Array Value} (ho:∀ w':World,w'.heap=w.heap->(Builtin.firstCells te.size n (.slice a n cap)).run P w'=.ok vo w')
  (hn:∀ w':World,w'.heap=w.heap->(Builtin.firstCells te.size m ux).run P w'=.ok vn w') (hb:(n+m)*te.bytes<=140737488355328) (hb2:n+m<=140737488355328) :
  (n+m<=cap->(Builtin.append_ argTypes ty #[.slice a n cap,ux]).run P w =
   ((match a with | some a=>storeCells (a.add (n*te.size)) vn.toList | none=>pure ()).run P w).andThen λ_ w'=>.ok (.slice a (n+m) cap) w') /\
  (cap<n+m -> ∃ (nc:Nat) (rest:Array Value),n+m<=nc/\(rest.size=(nc - (n+m))*z.length/\One rest) /\
   (Builtin.append_ argTypes ty #[.slice a n cap,ux]).run P w=.ok (.slice (some ⟨w.heap.size,0,none⟩) (n+m) nc) (w.drew.alloc (.cells (vo++vn++rest) e))):=by
 obtain⟨i,hi0,hsi,V9,_⟩:=Ol Eb;have hi:∀ w',(typeInfo e).run P w'=.ok i w':=λw'=>by simp[typeInfo,hi0]
 constructor
 ·intro hle;unfold Builtin.append_;simp only[ju,List.getElem?_toArray,TF,Vn,Ce,run_underlying Cc,hd,Co,run_sizeOf Eb];cases h1:argTypes[1]? with
  | none=>simp only[CS,Ce,I8,Hg,hl,Co,hle,IW,EP,hn w rfl];cases a <;> simp
  | some t2=>
   obtain⟨d,jq,hne⟩:=Yn t2 h1;have hu:(underlying t2).run P w=.ok d w:=by simp[underlying,jq]
   have hf:(match d with | .int _=>true | _=>false)=false:=by cases d <;> first | rfl | exact absurd rfl (hne _)
   simp only[Ce,hu,Co,CS,hf,I8,Hg,hl,hle,IW,EP,hn w rfl];cases a <;> simp
 ·intro hlt;have V3:¬ (n+m<=cap):=by omega
  have ahH:¬ (((n+m:Nat):Int) > IntKind.i64.max/\(False\/i.bytes=0)):=by
   have:IntKind.i64.max=9223372036854775807:=by decide
   rw[this];omega
  have afK:¬ (Builtin.nextslicecap (n+m) cap*i.bytes > 2 ^ 48):=by
   have h1:=nextslicecap_le hlt;have h2:=KU i.bytes h1;have h3:2*(n+m)*i.bytes=2*((n+m)*i.bytes):=Nat.mul_assoc _ _ _;rw[V9]at h2 h3 ⊢;have:(2:Nat) ^ 48=281474976710656:=by decide
   omega
  obtain⟨vz,V7,_,_,hrz⟩:=Xg Eb hz w (λ_=>False) Ac.no;have ahI:∀ w',(zeroValue e).run P w'=.ok vz w':=by
   intro w';obtain⟨i',JV,_,_,_,_,hzz,_⟩:=Ol Eb;simp only[zeroValue,typeInfo,Ce,run_program,Co,JV,CS]at V7 ⊢;cases jr:i'.zero with
   | none=>rw[jr]at V7;simp at V7
   | some v'=>rw[jr]at V7;simp at V7;simp[V7]
  refine⟨(Question.appendCap (n+m) cap e).cut (w.tape w.drawn (.appendCap (n+m) cap e)),Builtin.zeroCells vz.cells ((Question.appendCap (n+m) cap e).cut (w.tape w.drawn (.appendCap (n+m) cap e)) - (n+m)),?_,?_,?_⟩;rotate_left 2
  ·have O3:(choose (.appendCap (n+m) cap e)).run P w=.ok ((Question.appendCap (n+m) cap e).cut (w.tape w.drawn (.appendCap (n+m) cap e))) w.drew:=by
    rw[run_choose];rfl
   unfold Builtin.append_;simp only[ju,List.getElem?_toArray,TF,Vn,Ce,run_underlying Cc,hd,Co,run_sizeOf Eb];cases h1:argTypes[1]? with
   | none=>simp only[I8,Hg,Ce,hl,Co,V3,EP,IW,hi,ahH,afK,O3,run_askRoom,ho w.drew rfl,hn w.drew rfl,ahI,newRow,run_newObj,CS];rfl
   | some t2=>
    obtain⟨d,jq,hne⟩:=Yn t2 h1;have hu:(underlying t2).run P w=.ok d w:=by simp[underlying,jq]
    have hf:(match d with | .int _=>true | _=>false)=false:=by cases d <;> first | rfl | exact absurd rfl (hne _)
    simp only[hu,hf,I8,Hg,Ce,hl,Co,V3,EP,IW,hi,ahH,afK,O3,run_askRoom,ho w.drew rfl,hn w.drew rfl,ahI,newRow,run_newObj,CS];rfl
  ·simp[Question.cut]
  ·refine⟨?_,sJ hrz.2.1⟩;simp only[Builtin.zeroCells,Array.size_map,Array.size_range];rw[hrz.1]
end
end
section
variable {R:Type}
section
variable {P:Program} {tt:TT} {ρ:Operand->AV} {rd:Nat->BS} {nx:Nat} {k:KW R} {r:R} {o:Oper} {c:Call} {b:Builtin}
def ZB(ho:o.op=.call c)(hc:c.callee=.builtin b)(Aa:Operand->Value)(w:World) :
  ∃ consts,(execOp Aa o).run P w=(builtin b c.argTypes o.type consts (c.args.map Aa)).run P w:=by
 refine⟨c.args.map fun | .const _=>true | _=>false,?_⟩;simp only[execOp,ho,resolve,hc,Ce,CS,Co,invoke];rfl
def aD{x:AV}(h:c.args.toList.map ρ=[x]):∃ a,c.args = #[a]/\ρ a=x:=by
 cases ha:c.args.toList with
 | nil=>rw[ha]at h;cases h
 | cons a l=>
  rw[ha]at h;cases l with
  | nil=>simp at h;exact⟨a,by rw[<- ha],h⟩
  | cons b l=>simp at h
def aF{x y:AV}(h:c.args.toList.map ρ=[x,y]):∃ a b,c.args = #[a,b]/\ρ a=x/\ρ b=y:=by
 cases ha:c.args.toList with
 | nil=>rw[ha]at h;cases h
 | cons a l=>
  rw[ha]at h;cases l with
  | nil=>simp at h
  | cons b l=>
   cases l with
   | nil=>simp at h;exact⟨a,b,by rw[<- ha],h.1,h.2⟩
   | cons d l=>simp at h
def amI(A7:E8 P tt)(ho:o.op=.call c)(hc:c.callee=.builtin .len){x:AV}{t:TypeId}(FV:c.args.toList.map ρ=[x])(Ig:c.argTypes.toList=[t])
  (h:Oj tt rd nx .len [t] [x] k=some r):Good P o ρ rd k r:=by
 simp only[Oj]at h;obtain⟨ti,Cc,h⟩:=CE h;obtain⟨a,ha,GR⟩:=aD FV;have hm:a ∈ o.op.operands:=by simp[ho,Op.operands,Call.operands,hc,ha]
 have HJ:c.argTypes[0]? = some t:=by rw[<- HV,Ig];rfl
 have hex:∀ (Aa:Operand->Value) (w:World) (u:Value),(Builtin.len_ c.argTypes o.type #[Aa a]).run P w=.ok u w->(execOp Aa o).run P w=.ok (.value u) w:=by intro Aa w u hu;obtain⟨cs,e⟩:=ZB (P:=P) ho hc Aa w;rw[e,ha];simp[builtin,hu]
 have hu:=run_underlying (A7 t ti Cc);have RO:∀ {n:Int} ,k (.int .i64 n) [] []=some r->(∀ (Aa:Operand->Value) (w:World) (I:Nat->Prop) (φ:Ac),RV w I φ x (Aa a)->(Builtin.len_ c.argTypes o.type #[Aa a]).run P w=.ok (.int .i64 n) w)->Good P o ρ rd k r:=
  λhk hr=>Good.pure hk λAa w φ I hx=>⟨_,hex Aa w _ (hr Aa w I φ (GR ▸ hx a hm)),.int _ _⟩
 have yt:∀ {kt e:TypeId} {bb:Nat} {mu:Bool} {es:List (AV × AV)},ti.desc=.map kt e->x=.mp bb->rd bb=.map mu es->k (.int .i64 es.length) [] [bb]=some r->Good P o ρ rd k r:=by
  intro kt e bb mu es hd hxe hb h;refine⟨_,_,_,h,λAs Aa w φ I hrd _ hh hx=>?_⟩;have hp:=hx a hm;rw[GR,hxe]at hp;generalize hua:Aa a=u at hp;cases hp with
  | mp _ B AI=>have Aw:=hrd bb (by simp);obtain⟨B',o',sz',e',hrb⟩:=hh.JI AI (by rw[Aw,hb];rfl);rw[AI]at e';cases e';rw[Aw,hb]at hrb;obtain⟨_,_,mes,clock,h1,h2,h3,_⟩:=hrb;refine GB.pure (u:=.int .i64 es.length) hh (hex Aa w _ ?_) (.int _ _);rw[hua];simp only[Builtin.len_,HJ,List.getElem?_toArray,TF,Ce,hu,hd,Co,KG h1,CS,goInt,h2]
 have aug:∀ {kt e:TypeId} {bb:Nat} {mu:Bool} {ks:List (List UInt8)} {val:List UInt8->AV},ti.desc=.map kt e->x=.mp bb->rd bb=.pmap mu ks val->k (.int .i64 ks.length) [] [bb]=some r->Good P o ρ rd k r:=by
  intro kt e bb mu ks val hd hxe hb h;refine⟨_,_,_,h,λAs Aa w φ I hrd _ hh hx=>?_⟩;have hp:=hx a hm;rw[GR,hxe]at hp;generalize hua:Aa a=u at hp;cases hp with
  | mp _ B AI=>have Aw:=hrd bb (by simp);obtain⟨B',o',sz',e',hrb⟩:=hh.JI AI (by rw[Aw,hb];rfl);rw[AI]at e';cases e';rw[Aw,hb]at hrb;obtain⟨_,_,mes,clock,h1,h2,h3,_⟩:=hrb;refine GB.pure (u:=.int .i64 ks.length) hh (hex Aa w _ ?_) (.int _ _);rw[hua];simp only[Builtin.len_,HJ,List.getElem?_toArray,TF,Ce,hu,hd,Co,KG h1,CS,goInt,h2]
 cases hd:ti.desc with
 | string=>
  rw[hd]at h;cases x with
  | str l=>
   refine RO h λAa w I φ hx=>?_;generalize Aa a=u at hx;cases hx with
   | str b _ hs=>subst hs;simp[Builtin.len_,HJ,hu,hd,goInt]
  | _=>cases h
 | slice e=>
  rw[hd]at h;cases x with
  | Ak=>refine RO h λAa w I φ hx=>?_;generalize Aa a=u at hx;cases hx;simp[Builtin.len_,HJ,hu,hd,goInt]
  | sl=>refine RO h λAa w I φ hx=>?_;generalize Aa a=u at hx;cases hx <;> simp[Builtin.len_,HJ,hu,hd,goInt]
  | tr=>refine RO h λAa w I φ hx=>?_;generalize Aa a=u at hx;cases hx <;> simp[Builtin.len_,HJ,hu,hd,goInt]
  | A9 sz es=>
   refine RO h λAa w I φ hx=>?_;generalize Aa a=u at hx;cases hx with
   | A9 _ _ _ hx hz=>generalize es.length=n at hx;generalize (λi=>es.getD i [])=f at hx;cases hx <;> simp[Builtin.len_,HJ,hu,hd,goInt]
  | sn sz b n=>refine RO h λAa w I φ hx=>?_;generalize Aa a=u at hx;cases hx <;> simp[Builtin.len_,HJ,hu,hd,goInt]
  | hd b n c=>refine RO h λAa w I φ hx=>?_;generalize Aa a=u at hx;cases hx <;> simp[Builtin.len_,HJ,hu,hd,goInt]
  | tn sz n f=>
   refine RO h λAa w I φ hx=>?_;generalize Aa a=u at hx;cases hx with
   | tn _ _ _ _ hx=>cases hx <;> simp[Builtin.len_,HJ,hu,hd,goInt]
  | _=>cases h
 | array n e=>rw[hd]at h;refine RO h λAa w I φ hx=>?_;simp only[Builtin.len_,HJ,List.getElem?_toArray,TF,Ce,hu,hd,Co];rfl
 | map kt e=>
  rw[hd]at h;cases x with
  | HC=>refine RO h λAa w I φ hx=>?_;generalize Aa a=u at hx;cases hx;simp[Builtin.len_,HJ,hu,hd,goInt]
  | mp bb=>
   cases hb:rd bb with
   | map mu es=>simp only[hb]at h;exact yt hd rfl hb h
   | pmap mu ks val=>simp only[hb]at h;exact aug hd rfl hb h
   | _=>simp only[hb]at h;cases h
  | _=>cases h
 | _=>rw[hd]at h;cases x <;> cases h
def mc{es:List (List AV)}{i:Nat}(h:i<es.length):∃ cs,es[i]? = some cs:=⟨_,BR h⟩
def sY{es ns:List (List AV)}{p:Nat}(h:p+ns.length<=es.length)(i:Nat) :
  (es.take p++(ns++es.drop (p+ns.length)))[i]? = if p<=i/\i<p+ns.length then ns[i - p]? else es[i]? := by
 by_cases h1:i<p
 ·rw[DY (by simp;omega),AE (by omega),KV,Ay h1]
 ·rw[FC (by simp;omega)];have hl:(es.take p).length=p:=by simp;omega
  rw[hl];by_cases h2:i<p+ns.length
  ·rw[DY (by omega),Ay (by omega)]
  ·rw[FC (by omega),AE (by omega),Qe];congr 1;omega
def tG{w:World}{I:Nat->Prop}{φ:Ac}{sz:Nat}{v:View}{vs:Array Value}(h:Flat w I (Gl φ v) sz v.len v.at vs)(hv:IY v=true):Flat w I Ac.no sz v.len v.at vs:=by
 refine⟨h.size,h.one,h.len,λi q cc u hi Wa e'=>?_⟩;have:=h.val i q cc u hi Wa e';cases v with
 | fn=>exact this
 | list ns=>
  simp only[IY,HA]at hv;have hm:View.at (.list ns) i ∈ ns:=by simp only[View.at,List.getD];rw[BR hi];exact R5 _
  exact this.free (hv _ hm _ (Dy Wa))
def Tc{n i:Nat}{f:Nat->List AV}{v:View}(h:i<n):BQ n f v i=f i:=by
 have:Nat.blt i n=true:=by rw[CW];exact h
 unfold BQ;rw[this];rfl
def Td{n i:Nat}{f:Nat->List AV}{v:View}(h:n<=i)(h2:i<n+v.len):BQ n f v i=v.at (i - n):=by
 have:Nat.blt i n=false:=by
  cases hq:Nat.blt i n with
  | false=>rfl
  | true=>rw[CW]at hq;omega
 have h3:Nat.blt i (n+v.len)=true:=by rw[CW];exact h2
 unfold BQ;rw[this,h3];rfl
def abc{w:World}{I:Nat->Prop}{φ:Ac}{sz n:Nat}{f:Nat->List AV}{v:View}{vo vn:Array Value}(h1:Flat w I Ac.no sz n f vo)(h2:Flat w I (Gl φ v) sz v.len v.at vn)(hv:IY v=true) :
  Flat w I Ac.no sz (n+v.len) (BQ n f v) (vo++vn):=by
 have h2:=tG h2 hv;refine⟨by rw[Array.size_append,h1.size,h2.size,F0],λp u e=>?_,λi hi=>?_,λi k c u hi hc e=>?_⟩
 ·rw[au]at e;split at e
  ·exact h1.one p u e
  ·exact h2.one _ u e
 ·by_cases GG:i<n
  ·rw[Tc GG];exact h1.len i GG
  ·rw[Td (by omega) hi];exact h2.len _ (by omega)
 ·by_cases GG:i<n
  ·rw[Tc GG]at hc;have hk:k<sz:=by
    have:=h1.len i GG;rcases Cj k (f i).length with h' | h'
    ·omega
    ·rw[CK h']at hc;cases hc
   have:=Oo GG hk;rw[au,Ay (by rw[h1.size];exact this)]at e;exact h1.val i k c u GG hc e
  ·rw[Td (by omega) hi]at hc;have OZ:i - n<v.len:=by omega
   have e1:i*sz+k=n*sz+((i - n)*sz+k):=by
    have:i=n+(i - n):=by omega
    conv=>lhs;rw[this,F0]
    omega
   rw[au,AE (by rw[h1.size,e1];omega),h1.size,e1,Nat.add_sub_cancel_left]at e;exact h2.val _ k c u OZ hc e
def ajD(A7:E8 P tt)(hnx:rd nx=.none)(ho:o.op=.call c)(hc:c.callee=.builtin .append){s x:AV}{t:TypeId}{tr:List TypeId}(FV:c.args.toList.map ρ=[s,x])
  (Ig:c.argTypes.toList=t::tr) (h:Oj tt rd nx .append (t::tr) [s,x] k=some r):Good P o ρ rd k r:=by
 simp only[Oj]at h;obtain⟨ti,Cc,h⟩:=CE h;obtain⟨oa,ob,Gn,has,GR⟩:=aF FV;have hm1:oa ∈ o.op.operands:=by simp[ho,Op.operands,Call.operands,hc,Gn]
 have hm2:ob ∈ o.op.operands:=by simp[ho,Op.operands,Call.operands,hc,Gn]
 have HJ:c.argTypes[0]? = some t:=by rw[<- HV,Ig];rfl
 split at h
 ·rename_i e hd;obtain⟨te,Eb,h⟩:=CE h;obtain⟨z,hz,h⟩:=CE h;obtain⟨Wb,h⟩:=BG h;obtain⟨Ji,JJ⟩:=A4 Wb;have Ji:=BN Ji;have JJ:=DZ JJ;split at h
  ·cases h
  ·rename_i azo;obtain⟨_,jv,h⟩:=CE h;obtain⟨Bc,hold,h⟩:=lT h;obtain⟨new,ER,h⟩:=lT h;obtain⟨yu,h⟩:=BG h;obtain⟨hb1,hb2⟩:=A4 yu;have hb1:=DZ hb1;have hb2:=DZ hb2;have Yn:∀ t2,c.argTypes[1]? = some t2 -> ∃ d,P.underlying t2=some d /\ ∀ kd,d ≠ .int kd:=by
    intro t2 ht2;rw[<- HV,Ig]at ht2;cases tr with
    | nil=>simp at ht2
    | cons t2' tr=>simp at ht2;subst ht2;simp only at jv;obtain⟨t2i,axe,jv⟩:=CE jv;obtain⟨_,_,_,_,JT,_⟩:=Ol (A7 _ _ axe);refine⟨_,JT,λkd e=>?_⟩;rw[e]at jv;cases jv
   have Te:∀ (As:Nat->BS) (Aa:Operand->Value) (w:World) (φ:Ac) (I:Nat->Prop) (a:Option Addr) (cap:Nat),RH w I φ As->s.view As te.size=some Bc->x.view As te.size=some new ->
     RV w I φ s (Aa oa)->RV w I φ x (Aa ob)->Aa oa=.slice a Bc.len cap ->
     ∃ vo vn:Array Value,Flat w I (Gl φ Bc) te.size Bc.len Bc.at vo/\Flat w I (Gl φ new) te.size new.len new.at vn /\
     (Bc.len+new.len<=cap -> ∀ w',(match a with | some a=>storeCells (a.add (Bc.len*te.size)) vn.toList | none=>pure ()).run P w=.ok () w' ->
      (execOp Aa o).run P w=.ok (.value (.slice a (Bc.len+new.len) cap)) w') /\
     (cap<Bc.len+new.len -> ∃ (nc:Nat) (rest:Array Value),Bc.len+new.len<=nc/\(rest.size=(nc - (Bc.len+new.len))*z.length/\One rest) /\
      (execOp Aa o).run P w=.ok (.value (.slice (some ⟨w.heap.size,0,none⟩) (Bc.len+new.len) nc)) (w.drew.alloc (.cells (vo++vn++rest) e))):=by
    intro As Aa w φ I a cap hh IH Ih hs hx he;obtain⟨_,vo,Yo,MM⟩:=tE (P:=P) hh IH hs;obtain⟨QF,vn,Yp,hfn⟩:=tE (P:=P) hh Ih hx;obtain⟨hA,hB⟩:=aj4 (P:=P) (A7 t ti Cc) hd (A7 e te Eb) hz (ty:=o.type) HJ Yn (a:=a) (n:=Bc.len) (cap:=cap) QF (by rw[<- he];exact Yo) Yp hb1 hb2;obtain⟨cs,hex⟩:=ZB (P:=P) ho hc Aa w;refine⟨vo,vn,MM,hfn,λhle w' hst=>?_,λhlt=>?_⟩
    ·rw[hex,Gn];have:(Builtin.append_ c.argTypes o.type #[.slice a Bc.len cap,Aa ob]).run P w=.ok (.slice a (Bc.len+new.len) cap) w':=
      (hA hle).trans (congrArg (λ(r:Result Unit)=>r.andThen λ_ w'=>.ok (Value.slice a (Bc.len+new.len) cap) w') hst)
     simp[builtin,he,this]
    ·obtain⟨nc,rest,h1,h2,h3⟩:=hB hlt;refine⟨nc,rest,h1,h2,?_⟩;rw[hex,Gn];simp[builtin,he,h3]
   have vf:∀ {As:Nat->BS} {Aa:Operand->Value} {w:World} {φ:Ac} {I:Nat->Prop} {v:View} {vs rest:Array Value} {nc:Nat} {wr:Wr} (hh:RH w I φ As) (Ii:Nat->BS) (Jj:RH w.drew I φ Ii)
     (hst:∀ base,Step base As φ I w Ii φ I w.drew) (hn:Ii nx=.none) (Dc:Ee As wr=BU Ii nx (CY te.size v)) (hf:Flat w I (Gl φ v) te.size v.len v.at vs) (T5:v.len<=nc)
     (Kd:rest.size=(nc - v.len)*z.length/\One rest)
     (hrun:(execOp Aa o).run P w=.ok (.value (.slice (some ⟨w.heap.size,0,none⟩) v.len nc)) (w.drew.alloc (.cells (vs++rest) e))),
     GB P Aa o As φ I w (.sl te.size nx 0 v.len (U4 v)) wr:=by
    intro As Aa w φ I v vs rest nc wr hh Ii Jj hst hn Dc hf T5 Kd hrun;have Yj:Flat w.drew I (Gl φ v) te.size v.len v.at vs:=hf.mono (λB hB=>⟨hB,rfl⟩) (λ_=>Ar _) (Ac.le_refl _);have le:=Ac.PH (Jj.none nx hn) (w.heap.size,0,te.size);have hrb:=RB.of_flat (φ':=φ.set nx (w.heap.size,0,te.size)) (rest:=rest) Yj Jj.lt le e (0,0) (λq _ hq=>DP 0 (Nat.lt_of_le_of_lt (Bu _) hq.2)) (.inr λh=>C5 _ h.2);have Wc:=Jj.alloc hn (.cells (vs++rest) e) _ te.size (by cases v <;> rfl) hrb (OE.row (mT hf.one Kd.2));refine⟨_,_,_,I,.inl hrun,?_,by rw[Dc];exact(Wc 0).1,λbase=>by rw[Dc];exact(hst base).trans (Wc base).2.1,(Wc 0).2.2⟩;refine .sl te.size nx w.heap.size 0 0 _ _ nc 0 (Ac.E5 _ _ _) (by simp) T5 (CI (aa8 v) T5) ?_;have hcs:Bv (w.drew.alloc (.cells (vs++rest) e)) w.heap.size=(vs++rest).size:=by unfold Bv;have:(w.drew.alloc (.cells (vs++rest) e)).heap[w.heap.size]? = some (.cells (vs++rest) e):=No w.drew _;rw[this]
    rw[hcs,Array.size_append,hf.size,Kd.1,Ji,<- F0];have:v.len+(nc - v.len)=nc:=by omega
    rw[this];simp
   cases s with
   | Ak=>
    have hol:Bc.len=0:=by simp[AV.view,AV.Oz]at hold;subst hold;rfl
    cases HI:Nat.beq new.len 0 with
    | true=>
     rw[HI,Ae]at h;have HI:=BN HI;refine⟨_,[],_,h,λAs Aa w φ I hrd _ hh hx=>?_⟩;have hs:=has ▸ hx oa hm1;have EZ:=GR ▸ hx ob hm2;have Ih:x.view As te.size=some new:=by rw[KF hrd];exact ER
     generalize hu:Aa oa=u at hs;cases hs with
     | Ak=>obtain⟨vo,vn,_,hfn,hA,_⟩:=Te As Aa w φ I none 0 hh (by simpa [AV.view,AV.Oz] using hold) Ih (by rw[hu];exact .Ak) EZ (by rw[hu,hol]);have:=hA (by omega) w rfl;rw[hol,HI]at this;exact GB.pure hh this .Ak
    | false=>
     rw[HI,Aj]at h;have HI:new.len ≠ 0:=λe=>by rw[e]at HI;cases HI
     refine⟨_,_,_,h,λAs Aa w φ I hrd Dc hh hx=>?_⟩;have hn:As nx=.none:=(Dc _ R3).trans hnx;have hs:=has ▸ hx oa hm1;have EZ:=GR ▸ hx ob hm2;have Ih:x.view As te.size=some new:=by rw[KF hrd];exact ER
     generalize hu:Aa oa=u at hs;cases hs with
     | Ak=>
      obtain⟨vo,vn,MM,hfn,_,hB⟩:=Te As Aa w φ I none 0 hh (by simpa [AV.view,AV.Oz] using hold) Ih (by rw[hu];exact .Ak) EZ (by rw[hu,hol]);obtain⟨nc,rest,h1,h2,h3⟩:=hB (by omega);have Yo:vo = #[]:=by have:=MM.size;rw[hol,JF]at this;exact TC this
      rw[hol,Ev]at h1 h2 h3;rw[Yo,Array.empty_append]at h3;exact vf (v:=new) hh As (hh.drew 0).1 (λbase=>(hh.drew base).2) hn rfl hfn h1 h2 h3
   | sl sz b off len cm=>
    simp only at h;have iu:sz=te.size:=ajo hold;subst iu;have mr:∀ {As:Nat->BS} {w I φ u},RH w I φ As->(AV.sl te.size b off len cm).view As te.size=some Bc->RV w I φ (.sl te.size b off len cm) u->Bc.len=len:=by
     intro As w I φ u hh hv hs;rcases Xm hh hv hs with ⟨s',e',_⟩ | ⟨B,q,cap,e',_⟩ | ⟨a,n,cap,e',h0,O1⟩
     ·rw[e']at hs;cases hs
     ·rw[e']at hs;generalize Bc.len=nn at hs ⊢;cases hs <;> rfl
     ·rw[e']at hs;cases hs <;> omega
    cases HI:Nat.beq new.len 0 with
    | true=>
     rw[HI,Ae]at h;have HI:=BN HI;refine⟨_,[],_,h,λAs Aa w φ I hrd _ hh hx=>?_⟩;have hs:=has ▸ hx oa hm1;have EZ:=GR ▸ hx ob hm2;have IH:(AV.sl te.size b off len cm).view As te.size=some Bc:=by rw[KF λb hb=>hrd b (by simp[hb])];exact hold
     have Ih:x.view As te.size=some new:=by rw[KF λb hb=>hrd b (by simp[hb])];exact ER
     have hol:=mr hh IH hs;obtain⟨a,cap,hu,hcap⟩:∃ a cap,Aa oa=.slice a len cap/\len<=cap:=by
      generalize Aa oa=u at hs;cases hs with
      | sl _ _ _ _ _ _ _ cap=>exact⟨_,cap,rfl,by omega⟩
      | sle=>exact⟨_,0,rfl,Ar _⟩
     obtain⟨vo,vn,_,hfn,hA,_⟩:=Te As Aa w φ I a cap hh IH Ih hs EZ (by rw[hu,hol]);have Yp:vn = #[]:=by have:=hfn.size;rw[HI,JF]at this;exact TC this
     have:=hA (by omega) w (by rw[Yp];cases a <;> rfl);rw[hol,HI,Iy,<- hu]at this;exact GB.pure hh this hs
    | false=>
     rw[HI,Aj]at h;have HI:new.len ≠ 0:=λe=>by rw[e]at HI;cases HI
     cases hin:roomFor (len+new.len) cm with
     | true=>
      rw[hin,Ae]at h;have hin:len+new.len<=cm:=by
       cases cm with
       | zero=>cases hin
       | succ c=>exact DZ hin
      have aes:∀ (x':BS),PZ x'=true->AZ x'=true->PZ (rd b)=true->AZ (rd b)=true->So x'=So (rd b)->(∀ φ,HY φ x'=HY φ (rd b)) ->
        (∀ w I φ vn,Flat w I (Gl φ new) te.size new.len new.at vn->Flat w I (HY φ x') te.size new.len new.at vn) ->
        (∃ cs,elemAt (rd b) (off+len+new.len - 1)=some cs) ->
        (∀ i A3,elemAt x' i=some A3->(off+len<=i/\i<off+len+new.len/\A3=new.at (i - (off+len)))\/(¬ (off+len<=i/\i<off+len+new.len)/\elemAt (rd b) i=some A3)) ->
        k (.sl te.size b off (len+new.len) cm) [(b,x')] (b::x.Fx)=some r->Good P o ρ rd k r:=by
       intro x' h1 h2 h3 h4 h5 h6 h7 h8 h9 hk;refine⟨_,_,_,hk,λAs Aa w φ I hrd _ hh hx=>?_⟩;have Aw:=hrd b (by simp);have hs:=has ▸ hx oa hm1;have EZ:=GR ▸ hx ob hm2;have IH:(AV.sl te.size b off len cm).view As te.size=some Bc:=by rw[KF λb' Aw=>?_];exact hold;simp only[AV.Fx,DO]at Aw;subst Aw;exact hrd _ (by simp)
       have Ih:x.view As te.size=some new:=by rw[KF λb hb=>hrd b (by simp[hb])];exact ER
       have hol:=mr hh IH hs;generalize hu:Aa oa=u at hs;cases hs with
       | sl _ _ B Fs _ _ _ cap q AI hq hl hcc hs'=>
        obtain⟨vo,vn,_,hfn,hA,_⟩:=Te As Aa w φ I _ cap hh IH Ih (by rw[hu];exact .sl te.size b B Fs off len cm cap q AI hq hl hcc hs') EZ (by rw[hu,hol]);obtain⟨w',hw1,hw2,hw3⟩:=aaA (P:=P) (p:=off+len) (m:=new.len) (nf:=new.at) (vs:=vn) (x':=x') hh AI (by rw[Aw];exact h4) (by rw[Aw];exact h3) (h7 w I φ vn hfn) JJ (by omega)
         (by rw[Aw];exact h8) h1 h2 (by rw[Aw];exact h5) (by rw[Aw];exact h6 φ) (by rw[Aw];exact h9)
        have:=hA (by omega) w' (by simp only[Mm];rw[hol,hq,show Fs+off*te.size+len*te.size=Fs+(off+len)*te.size by rw[F0];omega];exact hw1);refine⟨_,w',φ,I,.inl this,?_,hw2,hw3,Ac.le_refl _⟩;rw[hol];exact .sl te.size b B Fs off _ cm cap q AI hq (CI hin hcc) hcc (CI hs' ((hw3 0).ext.Bv B))
       | sle=>omega
      generalize azp:new=nv at h;split at h
      ·rename new=_=>pM
       revert h;subst pM;intro h
       rename rd b=_=>hb
       obtain⟨hle,h⟩:=BG h;have hle:=DZ hle;refine aes _ rfl rfl (by rw[hb];rfl) (by rw[hb];rfl) (by rw[hb];rfl) (λφ=>by rw[hb];rfl) (λw I φ vn hf=>by exact hf) ?_ ?_ h
       ·rw[hb];simp only[View.len]at hin HI ⊢;exact mc (by omega)
       ·intro i A3 e';rw[hb];simp only[elemAt,View.len,View.at]at e' ⊢;simp only[View.len]at hin HI;rw[<- Nat.add_assoc,sY (p:=off+len) (by omega)]at e';split at e'
        ·rename_i MN;exact .inl ⟨MN.1,MN.2,by simp[List.getD,e']⟩
        ·rename_i MN;exact .inr ⟨MN,e'⟩
      ·rename new=_=>pM
       revert h;subst pM;intro h
       rename rd b=_=>hb
       obtain⟨hcc,h⟩:=BG h;obtain⟨NX,hle⟩:=A4 hcc;have hle:=DZ hle;refine aes _ rfl rfl (by rw[hb];rfl) (by rw[hb];rfl) (by rw[hb];rfl) (λφ=>by rw[hb];rfl) (λw I φ vn hf=>?_) ?_ ?_ h
       ·refine⟨hf.size,hf.one,hf.len,λi q cc u hi Wa e'=>?_⟩;have:=hf.val i q cc u hi Wa e';cases new with
        | fn=>exact this
        | list ns=>
         simp only[IY,HA]at NX;have hm:View.at (.list ns) i ∈ ns:=by simp only[View.at,List.getD];rw[BR hi];exact R5 _
         exact this.free (NX _ hm _ (Dy Wa))
       ·rw[hb];simp only[elemAt];rw[Ay (by omega)];exact⟨_,rfl⟩
       ·intro i A3 e';rw[hb];simp only[elemAt]at e' ⊢;split at e'
        ·rename_i hi;simp only[CU]at e';by_cases h1:i<off+len
         ·have:Nat.blt i (off+len)=true:=by rw[CW];exact h1
          rw[this,Ae]at e';exact .inr ⟨by omega,by rw[Ay hi,e']⟩
         ·have Wd:Nat.blt i (off+len)=false:=by
           cases hq:Nat.blt i (off+len)with
           | false=>rfl
           | true=>rw[CW]at hq;omega
          rw[Wd,Aj]at e';by_cases h2:i<off+(len+new.len)
          ·have:Nat.blt i (off+(len+new.len))=true:=by rw[CW];exact h2
           rw[this,Ae]at e';exact .inl ⟨by omega,by omega,e'.symm⟩
          ·have iv:Nat.blt i (off+(len+new.len))=false:=by
            cases hq:Nat.blt i (off+(len+new.len))with
            | false=>rfl
            | true=>rw[CW]at hq;omega
           rw[iv,Aj]at e';exact .inr ⟨by omega,by rw[Ay hi,e']⟩
        ·cases e'
      ·cases h
     | false=>
      rw[hin,Aj]at h;have afL:PZ (rd b)=true->AZ (rd b)=true->(IY new||(match CG Bc new with | .list _=>true | .fn _ _=>false))=true->(match CG Bc new with | .list _=>true | .fn _ _=>IY Bc)=true ->
        k (.sl te.size nx 0 (CG Bc new).len (U4 (CG Bc new))) [(b,.dead),(nx,CY te.size (CG Bc new))] (b::((AV.sl te.size b off len cm).Fx++x.Fx))=some r->Good P o ρ rd k r:=by
       intro LO Dm hc1 hc2 hk;refine⟨_,_,_,hk,λAs Aa w φ I hrd Dc hh hx=>?_⟩;have Aw:=hrd b (by simp);have hn:As nx=.none:=(Dc (nx,_) (.tail _ (.head _))).trans hnx;have Jh:nx ≠ b:=by rintro rfl;rw[hnx]at LO;cases LO
       have hs:=has ▸ hx oa hm1;have EZ:=GR ▸ hx ob hm2;have IH:(AV.sl te.size b off len cm).view As te.size=some Bc:=by rw[KF λb hb=>hrd b (by simp[hb])];exact hold
       have Ih:x.view As te.size=some new:=by rw[KF λb hb=>hrd b (by simp[hb])];exact ER
       have hol:=mr hh IH hs;have QG:(CG Bc new).len=Bc.len+new.len:=adl _ _;obtain⟨a,cap,hu⟩:∃ a cap,Aa oa=.slice a len cap:=by generalize Aa oa=u at hs;cases hs <;> exact⟨_,_,rfl⟩
       obtain⟨vo,vn,MM,hfn,hA,hB⟩:=Te As Aa w φ I a cap hh IH Ih hs EZ (by rw[hu,hol]);have Yq:=ab6 MM hfn hc2 hc1;have NQ:Ee As [(b,.dead),(nx,CY te.size (CG Bc new))]=BU (BU As b .dead) nx (CY te.size (CG Bc new)):=rfl;rcases Cj cap (Bc.len+new.len)with hlt | Ep
       ·obtain⟨nc,rest,g1,g2,g3⟩:=hB hlt;have Tn:=hh.kill b (Fv (by rw[Aw];exact Dm));have hdr:=(Tn 0).1.drew;have:=vf (v:=CG Bc new) (vs:=vo++vn) (rest:=rest) (nc:=nc) (Aa:=Aa) (wr:=[(b,.dead),(nx,CY te.size (CG Bc new))]) hh (BU As b .dead) (hdr 0).1 (λbase=>(Tn base).2.trans (hdr base).2)
         (by rw[C0 _ _ Jh];exact hn) NQ Yq (by rw[QG];exact g1) (by rw[QG];exact g2) (by rw[QG];exact g3)
        exact this
       ·rw[hu]at hs;cases hs with
        | sl _ _ B Fs _ _ _ _ q AI hq hl hcc hs'=>
         obtain⟨B',o',sz',e',hrb⟩:=hh.JI AI (Fv (by rw[Aw];exact Dm));rw[AI]at e';cases e';obtain⟨V0,⟨cc,NY,fz,hcell,QH⟩,hel⟩:=hrb.row (by rw[Aw];exact LO);have bk:Bv w B=cc.size:=by unfold Bv;rw[hcell]
         rw[bk]at hs';have yv:=(QH (by rw[Aw];exact Dm)).2;have QH:=(QH (by rw[Aw];exact Dm)).1;have X3:vn.toList.length=new.len*te.size:=by simpa using hfn.size
         have hfit:q+Bc.len*te.size+new.len*te.size<=cc.size:=by
          have:(off+cap)*te.size >= (off+(Bc.len+new.len))*te.size:=KU te.size (by omega);rw[hq];have e1:(off+(Bc.len+new.len))*te.size=off*te.size+(Bc.len*te.size+new.len*te.size):=by rw[F0,F0]
          omega
         have hrun:=WX (P:=P) (o:=q+Bc.len*te.size) vn.toList 0 cc w hcell (by rw[X3];omega) QH (λv JR=>by obtain⟨j,hj⟩:=NN JR;exact hfn.one j v (by simpa using hj));have hst:=hA Ep _ (by simp only[Mm];exact hrun);have hM:Ca φ As B:=⟨b,Fs,te.size,by rw[Aw];exact Dm,AI⟩
         have ext:=Ext.BI (M:=Ca φ As) (c':=CF cc (q+Bc.len*te.size) vn.toList) hcell (IP _ _ _) hM;have le:=Ac.PH (hh.none nx hn) (B,q,te.size);have mono:∀ {ψ jn:Ac} {v:AV} {u:Value},Ac.le ψ jn->RV w I ψ v u->RV (World.BI w B (.cells (CF cc (q+Bc.len*te.size) vn.toList) NY fz)) I jn v u:=λle hvu=>
          hvu.mono (λB hB=>⟨hB,ext.keep B (hh.lt B hB) λ⟨b,o,sz,hm,e⟩=>hh.CP _ _ _ _ hm e hB⟩) ext.Bv le
         have hB:=FR (o:=.cells (CF cc (q+Bc.len*te.size) vn.toList) NY fz) (CQ hcell);have X1:RB (World.BI w B (.cells (CF cc (q+Bc.len*te.size) vn.toList) NY fz)) I (φ.set nx (B,q,te.size)) B q te.size (CY te.size (CG Bc new)):=by
          have auh:∀ ψ:Ac,HY ψ (CY te.size (CG Bc new))=Gl ψ (CG Bc new):=λψ=>by cases CG Bc new <;> rfl
          refine RB.wc (by cases CG Bc new <;> rfl) (by cases CG Bc new <;> rfl) ⟨_,NY,fz,hB,λ_=>⟨λj hj=>QH j (by simpa using hj),by unfold J9 at *;simpa using yv⟩⟩ λi cs he=>?_;obtain⟨hi,rfl⟩:i<(CG Bc new).len/\cs=(CG Bc new).at i:=by
           cases hva:CG Bc new with
           | list es=>
            rw[hva]at he;simp only[CY,elemAt]at he;have hi:i<es.length:=by
             rcases Cj i es.length with h' | h'
             ·exact h'
             ·rw[CK h']at he;cases he
            exact⟨hi,by simp[View.at,List.getD,he]⟩
           | fn n f=>
            rw[hva]at he;simp only[CY,elemAt]at he;split at he
            ·rename_i hi;cases he;exact⟨hi,rfl⟩
            ·cases he
          rw[QG]at hi;rw[auh];have hlen:((CG Bc new).at i).length=te.size:=(ab6 MM hfn hc2 hc1).len i (by rw[QG];exact hi);refine⟨hlen,λj x hx=>?_⟩;have hj:j<te.size:=by
           rcases Cj j ((CG Bc new).at i).length with h' | h'
           ·omega
           ·rw[CK h']at hx;cases hx
          rw[cell_of hB,Nn _ _ _ _ (by rw[X3];exact hfit),X3];by_cases GG:i<Bc.len
          ·rw[vd GG]at hx;have hlt:=Oo GG hj;rw[AE (by omega)];have hvv:=Xm hh IH (.sl te.size b B Fs off len cm cap q AI hq hl hcc (by rw[bk];exact hs'):RV w I φ (.sl te.size b off len cm) (.slice (some ⟨B,q,none⟩) len cap));rcases hvv with ⟨s',e1,_⟩ | ⟨B1,q1,yw,e1,hvr⟩ | ⟨a1,n1,yw,e1,h0,_⟩
           ·cases e1
           ·cases e1;obtain⟨u,h1,h2,h3⟩:=hvr.cells i GG j x hx;rw[cell_of hcell]at h1;exact⟨u,h1,h2,mono (by cases CG Bc new <;> first | exact le | exact Ac.le_refl _) (adm hc2 GG hx h3)⟩
           ·omega
          ·rw[ve (by omega) hi]at hx;have OZ:i - Bc.len<new.len:=by omega
           have hlt:=Oo OZ hj;have e1:q+i*te.size+j=q+Bc.len*te.size+((i - Bc.len)*te.size+j):=by
            have:i=Bc.len+(i - Bc.len):=by omega
            conv=>lhs;rw[this,F0]
            omega
           rw[e1,Ay (by omega),Nat.add_sub_cancel_left];have Ja:(i - Bc.len)*te.size+j<vn.size:=by rw[hfn.size];exact hlt
           exact⟨vn[(i - Bc.len)*te.size+j],by simp[Ja],hfn.one _ _ (Cy Ja),
            mono (by cases CG Bc new <;> first | exact le | exact Ac.le_refl _) (adn hc1 OZ hx (hfn.val _ j x _ OZ hx (Cy Ja)))⟩
         have hmv:=hh.move AI (by rw[Aw];exact Dm) hn hcell (IP _ _ _) (CY te.size (CG Bc new)) q (by cases CG Bc new <;> rfl) X1;have hmv:=hmv (UM λv JR=>by obtain⟨j,hj⟩:=NN JR;exact hfn.one j v (by simpa using hj));refine⟨_,_,_,I,.inl hst,?_,by rw[NQ];exact(hmv 0).1,λbase=>by rw[NQ];exact(hmv base).2.1,(hmv 0).2.2⟩;rw[QG];refine .sl te.size nx B q 0 _ _ cap q (Ac.E5 _ _ _) (by simp) Ep (CI (aa8 _) (by rw[QG];exact Ep)) ?_;have yx:Bv (World.BI w B (.cells (CF cc (q+Bc.len*te.size) vn.toList) NY fz)) B=cc.size:=by unfold Bv;rw[hB];simp
         show q+(0+cap)*te.size<=Bv (World.BI w B (.cells (CF cc (q+Bc.len*te.size) vn.toList) NY fz)) B;rw[yx,hq];have:(off+cap)*te.size=off*te.size+cap*te.size:=F0 _ _ _;simp only[Ev];omega
        | sle=>omega
      split at h
      ·rename rd b=_=>hb
       obtain⟨hc1,h⟩:=BG h;obtain⟨hc2,h⟩:=BG h;exact afL (by rw[hb];rfl) (by rw[hb];rfl) hc1 hc2 h
      ·rename rd b=_=>hb
       obtain⟨hc1,h⟩:=BG h;obtain⟨hc2,h⟩:=BG h;exact afL (by rw[hb];rfl) (by rw[hb];rfl) hc1 hc2 h
      ·
       rename rd b=_=>hb
       obtain⟨IF,h⟩:=BG h;have IF:=BN IF;subst IF;refine⟨_,_,_,h,λAs Aa w φ I hrd Dc hh hx=>?_⟩;have hn:As nx=.none:=(Dc _ R3).trans hnx;have Aw:As b=.none:=(hrd b (by simp)).trans hb;have hs:=has ▸ hx oa hm1;have EZ:=GR ▸ hx ob hm2;have IH:(AV.sl te.size b off 0 cm).view As te.size=some Bc:=by rw[KF λb' Aw=>?_];exact hold;simp only[AV.Fx,DO]at Aw;subst Aw;exact hrd _ (by simp)
       have Ih:x.view As te.size=some new:=by rw[KF λb hb=>hrd b (by simp[hb])];exact ER
       have hol:=mr hh IH hs;obtain⟨a,hu⟩:∃ a,Aa oa=.slice a 0 0:=by
        generalize Aa oa=u at hs;cases hs with
        | sl _ _ B Fs _ _ _ cap q AI=>rw[hh.none b Aw]at AI;cases AI
        | sle=>exact⟨_,rfl⟩
       obtain⟨vo,vn,MM,hfn,_,hB⟩:=Te As Aa w φ I a 0 hh IH Ih hs EZ (by rw[hu,hol]);obtain⟨nc,rest,h1,h2,h3⟩:=hB (by omega);have Yo:vo = #[]:=by have:=MM.size;rw[hol,JF]at this;exact TC this
       rw[hol,Ev]at h1 h2 h3;rw[Yo,Array.empty_append]at h3;exact vf (v:=new) hh As (hh.drew 0).1 (λbase=>(hh.drew base).2) hn rfl hfn h1 h2 h3
      ·cases h
   | sn sz b n=>
    simp only at h;obtain⟨NX,hk⟩:=BG h;clear h;have LO:∀ {As:Nat->BS} {Aa:Operand->Value} {w:World} {φ:Ac} {I:Nat->Prop} {N:Nat} {g:Nat->List AV} {vs rest:Array Value} {nc:Nat} {wr:Wr} (hh:RH w I φ As) (Ii:Nat->BS) (Jj:RH w.drew I φ Ii)
      (hst:∀ base,Step base As φ I w Ii φ I w.drew) (hn:Ii nx=.none) (Dc:Ee As wr=BU Ii nx (.seq true te.size N g)) (hf:Flat w I Ac.no te.size N g vs) (T5:N<=nc)
      (Kd:rest.size=(nc - N)*z.length/\One rest)
      (hrun:(execOp Aa o).run P w=.ok (.value (.slice (some ⟨w.heap.size,0,none⟩) N nc)) (w.drew.alloc (.cells (vs++rest) e))),
      GB P Aa o As φ I w (.sn te.size nx N) wr:=by
     intro As Aa w φ I N g vs rest nc wr hh Ii Jj hst hn Dc hf T5 Kd hrun;have Yj:Flat w.drew I (Gl φ (.fn N g)) te.size (View.fn N g).len (View.fn N g).at vs:=hf.mono (λB hB=>⟨hB,rfl⟩) (λ_=>Ar _) (Ac.le_refl _);have le:=Ac.PH (Jj.none nx hn) (w.heap.size,0,te.size);have hrb:=RB.of_flat (φ':=φ.set nx (w.heap.size,0,te.size)) (rest:=rest) Yj Jj.lt le e (0,0) (λq _ hq=>DP 0 (Nat.lt_of_le_of_lt (Bu _) hq.2)) (.inr λh=>C5 _ h.2);have Wc:=Jj.alloc hn (.cells (vs++rest) e) (.seq true te.size N g) te.size rfl hrb (OE.row (mT hf.one Kd.2));refine⟨_,_,_,I,.inl hrun,?_,by rw[Dc];exact(Wc 0).1,λbase=>by rw[Dc];exact(hst base).trans (Wc base).2.1,(Wc 0).2.2⟩;refine .sn te.size nx N w.heap.size 0 nc (Ac.E5 _ _ _) T5 ?_;have hcs:Bv (w.drew.alloc (.cells (vs++rest) e)) w.heap.size=(vs++rest).size:=by unfold Bv;have:(w.drew.alloc (.cells (vs++rest) e)).heap[w.heap.size]? = some (.cells (vs++rest) e):=No w.drew _;rw[this]
     rw[hcs,Array.size_append,hf.size,Kd.1,Ji,<- F0,show N+(nc - N)=nc by omega];simp
    split at hk
    ·rename_i s' n' f hb;have hv0:Bc=.fn n f/\sz=te.size/\s'=s':=by
      have:=mb hold;simp only[AV.Oz,hb,CU,FZ]at this;exact⟨this.1.symm,BN (A4 this.2).1,rfl⟩
     obtain⟨hol,iu,_⟩:=hv0;subst iu;subst hol;have Jh:nx ≠ b:=by rintro rfl;rw[hnx]at hb;cases hb
     refine⟨_,_,_,hk,λAs Aa w φ I hrd Dc hh hx=>?_⟩;have Aw:=(hrd b (by simp)).trans hb;have hn:As nx=.none:=(Dc (nx,_) (.tail _ (.head _))).trans hnx;have hs:=has ▸ hx oa hm1;have EZ:=GR ▸ hx ob hm2;have IH:(AV.sn te.size b n).view As te.size=some (.fn n f):=by rw[KF λb' Aw=>?_];exact hold;simp only[AV.Fx,DO]at Aw;subst Aw;exact hrd _ (by simp)
     have Ih:x.view As te.size=some new:=by rw[KF λb hb=>hrd b (by simp[hb])];exact ER
     have NQ:Ee As [(b,.dead),(nx,.seq true te.size (n+new.len) (BQ n f new))]=BU (BU As b .dead) nx (.seq true te.size (n+new.len) (BQ n f new)):=rfl;have Tn:=hh.kill b (by rw[Aw];rfl);have V4:BU As b .dead nx=.none:=by rw[C0 _ _ Jh];exact hn
     generalize hu:Aa oa=u at hs;cases hs with
     | DT _ _ a=>
      obtain⟨vo,vn,MM,hfn,hA,hB⟩:=Te As Aa w φ I a 0 hh IH Ih (by rw[hu];exact .DT _ _ _) EZ (by rw[hu];rfl);have Yq:=abc MM hfn NX;rcases LJ new.len with h0 | h0
      ·have Yp:vn = #[]:=by
        have:=hfn.size;rw[h0,JF]at this;exact TC this
       have hst:=hA (by show 0+new.len<=0;omega) w (by rw[Yp];cases a <;> rfl);have hE:(View.fn 0 f).len+new.len=0:=by show 0+new.len=0;omega
       rw[hE]at hst;have O4:=(Tn 0).1.TJ V4 true te.size (BQ 0 f new);refine⟨_,w,φ,I,.inl hst,?_,?_,λbase=>?_,Ac.le_refl _⟩
       ·rw[h0];exact .DT _ _ _
       ·rw[NQ,h0];exact O4.1
       ·rw[NQ,h0];exact(Tn base).2.trans (O4.2 base)
      ·obtain⟨nc,rest,g1,g2,g3⟩:=hB (by show 0<0+new.len;omega);have hdr:=(Tn 0).1.drew;exact LO (Aa:=Aa) hh (BU As b .dead) (hdr 0).1 (λbase=>(Tn base).2.trans (hdr base).2) V4 NQ Yq g1 g2 g3
     | sn _ _ _ B Fs cap AI hl hs'=>
      obtain⟨vo,vn,MM,hfn,hA,hB⟩:=Te As Aa w φ I _ cap hh IH Ih (by rw[hu];exact .sn _ _ _ B Fs cap AI hl hs') EZ (by rw[hu];rfl);have Yq:Flat w I Ac.no te.size (n+new.len) (BQ n f new) (vo++vn):=abc MM hfn NX;rcases Cj cap (n+new.len)with hlt | Ep
      ·obtain⟨nc,rest,g1,g2,g3⟩:=hB hlt;have hdr:=(Tn 0).1.drew;exact LO (Aa:=Aa) hh (BU As b .dead) (hdr 0).1 (λbase=>(Tn base).2.trans (hdr base).2) V4 NQ Yq g1 g2 g3
      ·
       have hrb:=hh.at AI (by rw[Aw];rfl);obtain⟨V0,⟨cc,NY,fz,hcell,QH⟩,hel⟩:=hrb.row (by rw[Aw];rfl);have bk:Bv w B=cc.size:=by unfold Bv;rw[hcell]
       rw[bk]at hs';have yv:=(QH (by rw[Aw];rfl)).2;have QH:=(QH (by rw[Aw];rfl)).1;have X3:vn.toList.length=new.len*te.size:=by simpa using hfn.size
       have hfit:Fs+n*te.size+new.len*te.size<=cc.size:=by have:cap*te.size >= (n+new.len)*te.size:=KU te.size (by omega);rw[F0]at this;omega
       have hrun:=WX (P:=P) (o:=Fs+n*te.size) vn.toList 0 cc w hcell (by rw[X3];omega) QH (λv JR=>by obtain⟨j,hj⟩:=NN JR;exact hfn.one j v (by simpa using hj));have hst:=hA Ep (World.BI w B (.cells (CF cc (Fs+n*te.size) vn.toList) NY fz)) (by simp only[Mm];exact hrun);have hM:Ca φ As B:=⟨b,Fs,te.size,by rw[Aw];rfl,AI⟩
       have ext:=Ext.BI (M:=Ca φ As) (c':=CF cc (Fs+n*te.size) vn.toList) hcell (IP _ _ _) hM;have mono:∀ {v:AV} {u:Value},RV w I Ac.no v u->RV (World.BI w B (.cells (CF cc (Fs+n*te.size) vn.toList) NY fz)) I Ac.no v u:=λhvu=>
        hvu.mono (λB hB=>⟨hB,ext.keep B (hh.lt B hB) λ⟨b,o,sz,hm,e⟩=>hh.CP _ _ _ _ hm e hB⟩) ext.Bv (Ac.le_refl _)
       have hB:=FR (o:=.cells (CF cc (Fs+n*te.size) vn.toList) NY fz) (CQ hcell);have X1:RB (World.BI w B (.cells (CF cc (Fs+n*te.size) vn.toList) NY fz)) I (φ.set nx (B,Fs,te.size)) B Fs te.size (.seq true te.size (n+new.len) (BQ n f new)):=by
        refine⟨rfl,⟨_,NY,fz,hB,λ_=>⟨λj hj=>QH j (by simpa using hj),by unfold J9 at *;simpa using yv⟩⟩,λi hi=>Yq.len i hi,λi j x hi hx=>?_⟩;have hlen:=Yq.len i hi;have hj:j<te.size:=by
         rcases Cj j (BQ n f new i).length with h' | h'
         ·omega
         ·rw[CK h']at hx;cases hx
        rw[cell_of hB,Nn _ _ _ _ (by rw[X3];exact hfit),X3];by_cases GG:i<n
        ·rw[Tc GG]at hx;have hlt:=Oo (sz:=te.size) GG hj;rw[AE (λhc=>by have:=hc.1;omega)];have hvv:=Xm hh IH (.sn te.size b n B Fs cap AI hl (by rw[bk];exact hs'):RV w I φ (.sn te.size b n) (.slice (some ⟨B,Fs,none⟩) n cap));rcases hvv with ⟨s',e1,_⟩ | ⟨B1,q1,yw,e1,hvr⟩ | ⟨a1,n1,yw,e1,h0,_⟩
         ·cases e1
         ·cases e1;obtain⟨u,h1,h2,h3⟩:=hvr.cells i GG j x hx;rw[cell_of hcell]at h1;exact⟨u,h1,h2,mono h3⟩
         ·have:n=0:=h0;omega
        ·have JV:i<n+new.len:=hi;have OZ:i - n<new.len:=by omega
         have hlt:=Oo OZ hj;have e1:Fs+i*te.size+j=Fs+n*te.size+((i - n)*te.size+j):=by
          have:i=n+(i - n):=by omega
          conv=>lhs;rw[this,F0]
          omega
         rw[e1,Ay (by omega),Nat.add_sub_cancel_left];have Ja:(i - n)*te.size+j<vn.size:=by rw[hfn.size];exact hlt
         rw[Td (by omega) JV]at hx;exact⟨vn[(i - n)*te.size+j],by simp[Ja],hfn.one _ _ (Cy Ja),mono ((tG hfn NX).val _ j x _ OZ hx (Cy Ja))⟩
       have hmv:=hh.move AI (by rw[Aw];rfl) hn hcell (IP _ _ _) (.seq true te.size (n+new.len) (BQ n f new)) Fs rfl X1;have hmv:=hmv (UM λv JR=>by obtain⟨j,hj⟩:=NN JR;exact hfn.one j v (by simpa using hj));refine⟨_,_,_,I,.inl hst,?_,by rw[NQ];exact(hmv 0).1,λbase=>by rw[NQ];exact(hmv base).2.1,(hmv 0).2.2⟩;refine .sn te.size nx (n+new.len) B Fs cap (Ac.E5 _ _ _) Ep ?_;have yx:Bv (World.BI w B (.cells (CF cc (Fs+n*te.size) vn.toList) NY fz)) B=cc.size:=by unfold Bv;rw[hB];simp
       rw[yx];exact hs'
    ·rename_i hb;have hv0:Bc=.fn 0 (λ_=>[])/\sz=te.size/\n=0:=by
      have:=mb hold;simp only[AV.Oz,hb,CU,FZ]at this;exact⟨this.1.symm,BN (A4 this.2).1,BN (A4 this.2).2⟩
     obtain⟨hol,iu,O1⟩:=hv0;subst iu;subst hol;subst O1;refine⟨_,_,_,hk,λAs Aa w φ I hrd Dc hh hx=>?_⟩;have hn:As nx=.none:=(Dc _ R3).trans hnx;have Aw:=(hrd b (by simp)).trans hb;have hs:=has ▸ hx oa hm1;have EZ:=GR ▸ hx ob hm2;have IH:(AV.sn te.size b 0).view As te.size=some (.fn 0 λ_=>[]):=by rw[KF λb' Aw=>?_];exact hold;simp only[AV.Fx,DO]at Aw;subst Aw;exact hrd _ (by simp)
     have Ih:x.view As te.size=some new:=by rw[KF λb hb=>hrd b (by simp[hb])];exact ER
     obtain⟨a,hu⟩:∃ a,Aa oa=.slice a 0 0:=by
      generalize Aa oa=u at hs;cases hs with
      | sn _ _ _ B Fs cap AI=>rw[hh.none b Aw]at AI;cases AI
      | DT _ _ a=>exact⟨a,rfl⟩
     obtain⟨vo,vn,MM,hfn,hA,hB⟩:=Te As Aa w φ I a 0 hh IH Ih (by rw[hu];exact .DT _ _ _) EZ (by rw[hu];rfl);have Yo:vo = #[]:=by have:=MM.size;simp only[View.len,JF]at this;exact TC this
     rcases LJ new.len with h0 | h0
     ·have Yp:vn = #[]:=by
       have:=hfn.size;rw[h0,JF]at this;exact TC this
      have hst:=hA (by show 0+new.len<=0;omega) w (by rw[Yp];cases a <;> rfl);have hE:(View.fn 0 λ_=>[]).len+new.len=0:=by show 0+new.len=0;omega
      rw[hE]at hst;have O4:=hh.TJ hn true te.size new.at;have NQ:Ee As [(nx,.seq true te.size new.len new.at)]=BU As nx (.seq true te.size new.len new.at):=rfl;refine⟨_,w,φ,I,.inl hst,?_,?_,λbase=>?_,Ac.le_refl _⟩
      ·rw[h0];exact .DT _ _ _
      ·rw[NQ,h0];exact O4.1
      ·rw[NQ,h0];exact O4.2 base
     ·obtain⟨nc,rest,g1,g2,g3⟩:=hB (by show 0<0+new.len;omega);have hE:(View.fn 0 λ_=>[]).len+new.len=new.len:=by show 0+new.len=new.len;omega
      rw[hE]at g1 g2 g3;rw[Yo,Array.empty_append]at g3;exact LO (Aa:=Aa) hh As (hh.drew 0).1 (λbase=>(hh.drew base).2) hn rfl (tG hfn NX) g1 g2 g3
    ·cases hk
   | _=>cases h
 ·cases h
end
end
end Go.AM
end
