/- Part 1 of the texts that the proof needs: the abstract machine, plain laws, contracts of the program's functions. No statement is claimed here. -/
import GoSem.Dispatch
import GoSem.Step
import Derived.Laws.Cells
import Derived.Laws.CopyRow
import Derived.Laws.World
import Derived.Below
import Derived.Laws.StructEq
import Derived.Laws.Strings
import Derived.Laws.MakeOwn
import Derived.MapKept
import Derived.Maps.RangeRun
import Derived.Laws.Append
set_option linter.unusedVariables false
set_option linter.unusedSimpArgs false
noncomputable section
namespace Go.AM
inductive AV where
 | undef
 | bool (b:Bool)
 | int (k:IntKind) (n:Int)
 | flt (k:FloatKind) (n:Nat)
 | cplx (k:FloatKind) (re im:Nat)
 | str (s:List UInt8)
 | nilp
 | ptr (b i j:Nat)
 | tp (cs:List AV) (j:Nat)
 | nils
 | sl (sz b off len cm:Nat)
 | tr (sz n:Nat) (f:Nat->List AV)
 | trl (sz:Nat) (es:List (List AV))
 | agg (cs:List AV)
 | tup (vs:List AV)
 | fn (f:Fn) (first cap:List AV)
 | nilf
 | nilm
 | mp (b:Nat)
 | sn (sz b n:Nat)
 | tn (sz n:Nat) (f:Nat->List AV)
instance:Inhabited AV:=⟨.undef⟩
inductive BS where
 | none
 | dead
 | arr (m:Bool) (sz:Nat) (es:List (List AV))
 | seq (m:Bool) (sz n:Nat) (f:Nat->List AV)
 | map (m:Bool) (es:List (AV × AV))
 | iter (m:Bool) (es:List (AV × AV)) (st:Bool)
 | sqr (m:Bool) (sz n:Nat) (f:Nat->List AV) (i0:Nat) (c0:List AV) (ks:List Nat) (cur:Bool)
 | pmap (m:Bool) (ks:List (List UInt8)) (val:List UInt8->AV)
 | piter (m:Bool) (ks:List (List UInt8)) (val:List UInt8->AV) (rem:List (List UInt8)) (cur:Option (List UInt8))
instance:Inhabited BS:=⟨.none⟩
def rowX(f:Nat->List AV)(i0:Nat)(c0:List AV):Nat->List AV:=fun i=>bif Nat.beq i i0 then c0 else f i
def AV.cells:AV->List AV
 | .agg cs=>cs
 | v=>[v]
def AV.storable:AV->Bool
 | .undef | .tup _=>false
 | _=>true
def AV.single:AV->Bool
 | .undef | .tup _ | .agg _=>false
 | _=>true
def ofVal1:Value->AV
 | .bool b=>.bool b
 | .int k n=>.int k n
 | .float k n=>.flt k n
 | .complex k a b=>.cplx k a b
 | .string s=>.str s.data.toList
 | .pointer .none=>.nilp
 | .slice .none 0 0=>.nils
 | .map .none=>.nilm
 | .nilFunc=>.nilf
 | _=>.undef
def one1:Value->Bool
 | .agg _ | .tuple _=>false
 | _=>true
def ofVal:Value->AV
 | .agg cs=>bif cs.toList.all one1 then .agg (cs.toList.map ofVal1)else .undef
 | v=>ofVal1 v
structure TI where
 size:Nat
 bytes:Nat
 agg:Bool
 desc:TypeDesc
 zero:Option (List AV)
 stood:Bool
 zv:Option AV
def tiOf(P:Program)(t:TypeId):Option TI:=
 match P.info? t,P.underlying t with
 | some i,some d=>some {size:=i.size,bytes:=i.bytes,agg:=(match d with | .struct _ | .array _ _=>true | _=>false),desc:=d,zero:=i.zero.bind fun v=>bif(ofVal v).storable then some (ofVal v).cells else .none,stood:=P.stoodInHeld t,zv:=i.zero.bind fun v=>bif(ofVal v).storable then some (ofVal v)else .none}
 | _,_=>.none
abbrev TT:=Nat->Option TI
abbrev Heap:=List BS
def hget(h:Heap)(b:Nat):BS:=h.getD b .none
def hput:Heap->Nat->BS->Heap
 | [],0,x=>[x]
 | [],b+1,x=>.none::hput [] b x
 | _::h,0,x=>x::h
 | y::h,b+1,x=>y::hput h b x
abbrev Wr:=List (Nat × BS)
def hputs(h:Heap):Wr->Heap
 | []=>h
 | (b,x)::r=>hputs (hput h b x) r
abbrev Fr:=List (Nat × AV)
def fget:Fr->Nat->AV
 | [],_=>.undef
 | (k,v)::r,t=>bif Nat.beq k t then v else fget r t
structure St where
 fr:Fr
 hp:Heap
def evalO(fr:Nat->AV):Operand->AV
 | .tmp t=>fr t
 | .const v=>ofVal v
 | .global _=>.undef
 | .func f=>.fn (.func f) [] []
variable {R:Type}
def elemK(x:BS)(i:Nat)(k:List AV->Option R):Option R:=
 match x with
 | .arr _ _ es=>match es[i]? with
  | some c=>k c
  | .none=>.none
 | .seq _ _ n f=>bif Nat.blt i n then k (f i)else .none
 | .sqr _ _ n f i0 c0 _ true=>bif Nat.blt i n&&Nat.beq i i0 then k c0 else .none
 | .sqr _ _ n f i0 c0 _ false=>bif Nat.blt i n && !Nat.beq i i0 then k (f i)else .none
 | _=>.none
def setAt(cs:List AV)(j:Nat)(vs:List AV):List AV:=cs.take j++(vs++cs.drop (j+vs.length))
def refFree:AV->Bool
 | .ptr .. | .sl .. | .mp _ | .agg _ | .tup _ | .fn .. | .sn .. => false
 | _=>true
def flatFree:AV->Bool
 | .agg cs=>cs.all refFree
 | v=>refFree v
inductive View where
 | list (es:List (List AV))
 | fn (n:Nat) (f:Nat->List AV)
def View.len:View->Nat
 | .list es=>es.length
 | .fn n _=>n
def View.at:View->Nat->List AV
 | .list es=>fun i=>es.getD i []
 | .fn _ f=>f
def AV.viewG(h:Nat->BS)(sz:Nat):AV->Option (View × Bool)
 | .nils=>some (.list [],true)
 | .trl s es=>some (.list es,Nat.beq s sz)
 | .tr s n f=>some (.fn n f,Nat.beq s sz)
 | .sl s b off len _=>match h b with
  | .arr _ _ es=>some (.list ((es.drop off).take len),Nat.beq s sz&&(Nat.beq len 0||Nat.ble (len+off) es.length))
  | .seq _ _ n f=>some (.fn len (fun i=>f (i+off)),Nat.beq s sz&&(Nat.beq len 0||Nat.ble (len+off) n))
  | _=>some (.list [],Nat.beq s sz&&Nat.beq len 0)
 | .str s=>some (.fn s.length (fun i=>[.int .u8 ((s.getD i 0).toNat)]),Nat.beq sz 1)
 | .tn s n f=>some (.fn n f,Nat.beq s sz)
 | .sn s b n=>match h b with
  | .seq _ _ n' f=>some (.fn n f,Nat.beq s sz&&Nat.ble n n')
  | .none=>some (.fn 0 (fun _=>[]),Nat.beq s sz&&Nat.beq n 0)
  | _=>.none
 | _=>.none
def AV.view(h:Nat->BS)(sz:Nat)(v:AV):Option View:=
 match v.viewG h sz with
 | some (w,true)=>some w
 | _=>.none
def viewK{R:Type}(v:AV)(h:Nat->BS)(sz:Nat)(k:View->Option R):Option R:=
 match v.viewG h sz with
 | some (w,g)=>bif g then k w else .none
 | .none=>.none
def AV.viewIds:AV->List Nat
 | .sl _ b _ _ _=>[b]
 | .sn _ b _=>[b]
 | _=>[]
def viewApp:View->View->View
 | .list a,.list b=>.list (a++b)
 | .list [],.fn n f=>.fn n f
 | x,y=>.fn (x.len+y.len) fun i=>bif Nat.blt i x.len then x.at i else bif Nat.blt i (x.len+y.len)then y.at (i - x.len)else x.at x.len
def vfree:View->Bool
 | .list es=>es.all fun cs=>cs.all refFree
 | .fn _ _=>true
def blk(sz:Nat):View->BS
 | .list es=>.arr true sz es
 | .fn n f=>.seq true sz n f
mutual
def roots:AV->List Nat
 | .ptr b _ _=>[b]
 | .sl _ b _ _ _=>[b]
 | .sn _ b _=>[b]
 | .mp b=>[b]
 | .agg cs | .tup cs=>rootsL cs
 | .fn _ a c=>rootsL a++rootsL c
 | _=>[]
def rootsL:List AV->List Nat
 | []=>[]
 | v::r=>roots v++rootsL r
end
def boundK(x:Option AV)(d y:Nat)(k:Nat->Option R):Option R:=
 match x with
 | .none=>k d
 | some (.int _ i)=>bif decide (0<=i)&&decide (i<=(y:Int))then k i.toNat else .none
 | _=>.none
def boundsK(lo hi mx:Option AV)(len cap:Nat)(k:Nat->Nat->Nat->Option R):Option R:=
 boundK mx cap cap fun m=>boundK hi len m fun h=>boundK lo 0 h fun l=>k l h m
def cmpI(op:BinOp)(x y:Int):Option Bool:=
 match op with
 | .eql=>some (decide (x=y))
 | .neq=>some (!decide (x=y))
 | .lss=>some (decide (x<y))
 | .leq=>some (decide (x<=y))
 | .gtr=>some (decide (y<x))
 | .geq=>some (decide (y<=x))
 | _=>.none
def isO(o:Option Ordering)(p:Ordering):Bool:=
 match o,p with
 | some .lt,.lt | some .eq,.eq | some .gt,.gt=>true
 | _,_=>false
def fEq(k:FloatKind)(x y:Nat):Bool:=isO (k.format.order x y) .eq
def fLt(k:FloatKind)(x y:Nat):Bool:=isO (k.format.order x y) .lt
def fGt(k:FloatKind)(x y:Nat):Bool:=isO (k.format.order x y) .gt
def cmpF(op:BinOp)(k:FloatKind)(x y:Nat):Option Bool:=
 match op with
 | .eql=>some (fEq k x y)
 | .neq=>some (!fEq k x y)
 | .lss=>some (fLt k x y)
 | .leq=>some (fLt k x y||fEq k x y)
 | .gtr=>some (fGt k x y)
 | .geq=>some (fGt k x y||fEq k x y)
 | _=>.none
def strBeq:List UInt8->List UInt8->Bool
 | [],[]=>true
 | a::x,b::y=>Nat.beq a.toNat b.toNat&&strBeq x y
 | _,_=>false
def strLt:List UInt8->List UInt8->Bool
 | _,[]=>false
 | [],_::_=>true
 | a::x,b::y=>Nat.blt a.toNat b.toNat||(Nat.beq a.toNat b.toNat&&strLt x y)
def cmpS(op:BinOp)(x y:List UInt8):Option Bool:=
 match op with
 | .eql=>some (strBeq x y)
 | .neq=>some (!strBeq x y)
 | .lss=>some (strLt x y)
 | .leq=>some (strLt x y||strBeq x y)
 | .gtr=>some (!(strLt x y||strBeq x y))
 | .geq=>some (!strLt x y)
 | _=>.none
def boolEq(a b:Bool):Bool:=bif a then b else !b
def kindEq(a b:IntKind):Bool:=decide (a=b)
def fkindEq(a b:FloatKind):Bool:=decide (a=b)
def eq1(tt:TT)(t:TypeId)(x y:AV):Option Bool:=
 match tt t with
 | .none=>.none
 | some ti=>match ti.desc,x,y with
  | .bool,.bool a,.bool b=>some (boolEq a b)
  | .int _,.int k a,.int k' b=>bif kindEq k k' then some (decide (a=b))else .none
  | .float _,.flt k a,.flt k' b=>bif fkindEq k k' then some (fEq k a b)else .none
  | .complex _,.cplx k a b,.cplx k' a' b'=>bif fkindEq k k' then some (fEq k a a'&&fEq k b b')else .none
  | .string,.str a,.str b=>some (strBeq a b)
  | .pointer _,.nilp,.nilp=>some true
  | .pointer _,.nilp,.ptr .. | .pointer _,.ptr ..,.nilp=>some false
  | .pointer _,.nilp,.tp .. | .pointer _,.tp ..,.nilp=>some false
  | .slice _,.nils,.nils=>some true
  | .slice _,.nils,.trl _ _ | .slice _,.trl _ _,.nils=>some false
  | .slice _,.tr _ (_+1) _,.nils | .slice _,.sl _ _ _ _ _,.nils=>some false
  | .map _ _,.nilm,.nilm=>some true
  | .map _ _,.mp _,.nilm=>some false
  | .func ..,.nilf,.nilf=>some true
  | .func ..,.fn ..,.nilf=>some false
  | _,_,_=>.none
def eqFields(tt:TT)(xs ys:List AV):List Field->Option Bool
 | []=>some true
 | f::r=>
  match xs[f.offset]?,ys[f.offset]? with
  | some x,some y=>match eqPart tt f.type x y,eqFields tt xs ys r with
   | some a,some b=>some (a&&b)
   | _,_=>.none
  | _,_=>.none
where
 eqPart (tt:TT) (t:TypeId) (x y:AV):Option Bool:=
  match tt t with
  | some ti=>bif ti.agg then .none else eq1 tt t x y
  | .none=>.none
def eqA(tt:TT)(t:TypeId)(x y:AV):Option Bool:=
 match x,y with
 | .agg xs,.agg ys=>match tt t with
  | some ti=>match ti.desc with
   | .struct fields => bif ti.stood then .none else bif fields.toList.all (fun f => f.name != "_") then eqFields tt xs ys fields.toList else .none
   | _=>.none
  | .none=>.none
 | x,y=>eq1 tt t x y
def obK(b:Option Bool)(k:AV->Option R):Option R:=
 match b with
 | some b=>k (.bool b)
 | .none=>.none
def onK{α:Type}(b:Option α)(k:α->Option R):Option R:=
 match b with
 | some b=>k b
 | .none=>.none
def okK{α:Type}(b:Option α)(z:α)(k:α->Option R):Option R:=bif b.isSome then k (b.getD z)else .none
def abinK(tt:TT)(op:BinOp)(t:TypeId)(x y:AV)(k:AV->Option R):Option R:=
 match x,y with
 | .int kd a,.int kd' b=>
  match op with
  | .shl=>bif decide (b<0)then .none else k (.int kd (kd.wrap (a*2 ^ (min b.toNat kd.bits))))
  | .shr=>bif decide (b<0)then .none else k (.int kd (a.fdiv (2 ^ (min b.toNat kd.bits))))
  | op=>
   bif kindEq kd kd' then
    match op with
    | .add=>k (.int kd (kd.wrap (a+b)))
    | .sub=>k (.int kd (kd.wrap (a - b)))
    | .mul=>k (.int kd (kd.wrap (a*b)))
    | .quo=>bif decide (b=0)then .none else k (.int kd (kd.wrap (a.tdiv b)))
    | .rem=>bif decide (b=0)then .none else k (.int kd (a.tmod b))
    | .and=>k (.int kd (kd.wrap ((BitVec.ofInt kd.bits a &&& BitVec.ofInt kd.bits b).toNat)))
    | .or=>k (.int kd (kd.wrap ((BitVec.ofInt kd.bits a ||| BitVec.ofInt kd.bits b).toNat)))
    | .xor=>k (.int kd (kd.wrap ((BitVec.ofInt kd.bits a ^^^ BitVec.ofInt kd.bits b).toNat)))
    | .andNot=>k (.int kd (kd.wrap ((BitVec.ofInt kd.bits a &&& ~~~ BitVec.ofInt kd.bits b).toNat)))
    | _=>obK (cmpI op a b) k
   else .none
 | .flt kd a,.flt kd' b=>
  bif fkindEq kd kd' then
   match op with
   | .add=>okK (kd.format.add a b) 0 fun r=>k (.flt kd r)
   | .sub=>okK (kd.format.sub a b) 0 fun r=>k (.flt kd r)
   | .mul=>okK (kd.format.mul a b) 0 fun r=>k (.flt kd r)
   | .quo=>okK (kd.format.div a b) 0 fun r=>k (.flt kd r)
   | _=>obK (cmpF op kd a b) k
  else .none
 | .cplx kd a b,.cplx kd' c d=>
  bif fkindEq kd kd' then
   match op with
   | .eql=>k (.bool (fEq kd a c&&fEq kd b d))
   | .neq=>k (.bool (!(fEq kd a c&&fEq kd b d)))
   | _=>.none
  else .none
 | .str a,.str b=>
  match op with
  | .add=>bif Nat.ble (a.length+b.length) 4611686018427387904 then k (.str (a++b))else .none
  | _=>obK (cmpS op a b) k
 | x,y=>
  match op with
  | .eql=>obK (eqA tt t x y) k
  | .neq=>obK ((eqA tt t x y).map not) k
  | _=>.none
def aunK(op:UnOp)(x:AV)(k:AV->Option R):Option R:=
 match op,x with
 | .neg,.int kd n=>k (.int kd (kd.wrap (0 - n)))
 | .xor,.int kd n=>k (.int kd (kd.wrap ((BitVec.ofInt kd.bits n ^^^ BitVec.ofInt kd.bits (if kd.signed then -1 else kd.max)).toNat)))
 | .not,.bool b=>k (.bool (!b))
 | _,_=>.none
def fillL(place:Nat->Option (Nat × Nat))(cells:List AV):List (Nat × AV)->Option (List AV)
 | []=>some cells
 | (i,v)::rest=>
  match place i with
  | .none=>.none
  | some (off,size)=>
   bif v.storable&&(Nat.beq v.cells.length size&&Nat.ble (off+size) cells.length)then fillL place (setAt cells off v.cells) rest else .none
def chunks(sz:Nat):Nat->List AV->List (List AV)
 | 0,_=>[]
 | n+1,cs=>cs.take sz::chunks sz n (cs.drop sz)
def zeros(z:List AV)(n:Nat):List AV:=(List.range (n*z.length)).map fun i=>z.getD (i % z.length) .undef
def byteOf:List AV->Option UInt8
 | [.int .u8 n]=>some (UInt8.ofNat n.toNat)
 | _=>.none
def bytesOfL:List (List AV)->Option (List UInt8)
 | []=>some []
 | c::r=>match byteOf c,bytesOfL r with
  | some b,some l=>some (b::l)
  | _,_=>.none
def appN(n:Nat)(f:Nat->List AV)(new:View):Nat->List AV:=fun i=>bif Nat.blt i n then f i else bif Nat.blt i (n+new.len)then new.at (i - n)else f n
abbrev AopK(R:Type):=AV->Wr->List Nat->Option R
def partK(ti:TI)(cs:List AV)(j:Nat)(k:AV->Option R):Option R:=
 bif ti.agg then(bif Nat.ble (j+ti.size) cs.length then k (.agg ((cs.drop j).take ti.size))else .none)
 else match cs[j]? with
  | some c=>k c
  | .none=>.none
def same(a b:AV):Option Bool:=
 match a,b with
 | .int k a,.int k' b=>bif kindEq k k' then some (decide (a=b))else .none
 | .str a,.str b=>some (strBeq a b)
 | _,_=>.none
def look(key:AV):List (AV × AV)->Option (Option AV)
 | []=>some .none
 | (a,v)::r=>match same key a with
  | some true=>some (some v)
  | some false=>look key r
  | .none=>.none
def upd(key v:AV):List (AV × AV)->List (AV × AV)
 | []=>[]
 | (a,u)::r=>match same key a with
  | some true=>(a,v)::r
  | _=>(a,u)::upd key v r
def memS(s:List UInt8):List (List UInt8)->Bool
 | []=>false
 | x::r=>bif strBeq s x then true else memS s r
def keyFits(d:TypeDesc)(key:AV):Bool:=
 match d,key with
 | .int _,.int .. | .string,.str _=>true
 | _,_=>false
def structPlace(tt:TT)(fields:List Field)(i:Nat):Option (Nat × Nat):=
 match fields[i]? with
 | some f=>match tt f.type with
  | some ti=>some (f.offset,ti.size)
  | .none=>.none
 | .none=>.none
def noB:Nat:=1000000007
def capOf(len:Nat):Nat->Nat
 | 0=>len
 | c+1=>max len (c+1)
def capLeft(mx:Bool)(cm d:Nat):Nat:=
 match mx,cm with
 | false,0=>0
 | _,_=>d
def roomFor(n:Nat):Nat->Bool
 | 0=>false
 | c+1=>Nat.ble n (c+1)
def capNew(v:View):Nat:=
 match v with
 | .list es=>es.length
 | .fn _ _=>0
def aopK(tt:TT)(ρ:Operand->AV)(h:Nat->BS)(nx:Nat)(o:Op)(k:AopK R):Option R:=
 match o with
 | .move x | .assign x=>k (ρ x) [] []
 | .pick c a b=>match ρ c with
  | .bool c=>bif c then k (ρ a) [] []else k (ρ b) [] []
  | _=>.none
 | .alloc t=>onK (tt t) fun ti=>onK ti.zero fun z=>k (.ptr nx 0 0) [(nx,.arr true z.length [z])] []
 | .box _ x=>bif(ρ x).storable then k (.ptr nx 0 0) [(nx,.arr true (ρ x).cells.length [(ρ x).cells])] []else .none
 | .build t parts=>
  onK (tt t) fun ti=>onK ti.zero fun z=>
   match ti.desc with
   | .struct fields=>bif fields.toList.all (fun f=>(tt f.type).isSome)then
     onK (fillL (structPlace tt fields.toList) z (parts.toList.map fun(i,x)=>(i,ρ x))) fun cs=>k (.agg cs) [] []
    else .none
   | .array _ e=>onK (tt e) fun te=>
     onK (fillL (fun i=>some (i*te.size,te.size)) z (parts.toList.map fun(i,x)=>(i,ρ x))) fun cs=>k (.agg cs) [] []
   | _=>.none
 | .buildSlice t n parts=>
  onK (tt t) fun ti=>match ti.desc with
  | .slice e=>onK (tt e) fun te=>onK te.zero fun z=>
   bif Nat.beq z.length te.size&&(Nat.ble 1 te.size&&Nat.ble (n*te.size) 16777216)then
    onK (fillL (fun i=>some (i*te.size,te.size)) (zeros z n) (parts.toList.map fun(i,x)=>(i,ρ x))) fun cs=>
     k (.sl te.size nx 0 n n) [(nx,.arr true te.size (chunks te.size n cs))] []
   else .none
  | _=>.none
 | .load t a=>
  onK (tt t) fun ti=>
   match ρ a with
   | .ptr b i j=>elemK (h b) i fun cs=>partK ti cs j fun v=>k v [] [b]
   | .tp cs j=>partK ti cs j fun v=>k v [] []
   | _=>.none
 | .store t a x=>
  onK (tt t) fun ti=>
   bif(ρ x).storable&&(Nat.beq (ρ x).cells.length ti.size&&Nat.ble 1 ti.size)then
    match ρ a with
    | .ptr b i j=>match h b with
     | .arr true sz es=>match es[i]? with
      | some cs=>bif Nat.ble (j+ti.size) cs.length then
        k .undef [(b,.arr true sz (es.set i (setAt cs j (ρ x).cells)))] [b]else .none
      | .none=>.none
     | .seq true sz n f=>
      bif Nat.blt i n&&Nat.ble (j+ti.size) (f i).length then
       bif(ρ x).cells.all refFree then k .undef [(b,.seq true sz n fun i'=>bif Nat.beq i' i then setAt (f i) j (ρ x).cells else f i')] [b]
       else k .undef [(b,.sqr true sz n f i (setAt (f i) j (ρ x).cells) (rootsL (ρ x).cells) true)] [b]
      else .none
     | .sqr true sz n f i0 c0 ks true=>
      bif Nat.blt i n&&Nat.beq i i0 then
       bif Nat.ble (j+ti.size) c0.length then k .undef [(b,.sqr true sz n f i0 (setAt c0 j (ρ x).cells) (ks++rootsL (ρ x).cells) true)] [b]else .none
      else .none
     | .sqr true sz n f i0 c0 ks false=>
      bif Nat.blt i n && !Nat.beq i i0 then
       bif Nat.ble (j+ti.size) (f i).length then k .undef [(b,.sqr true sz n (fun i'=>bif Nat.beq i' i then setAt (f i) j (ρ x).cells else f i') i0 c0 (ks++rootsL (ρ x).cells) false)] [b]else .none
      else .none
     | _=>.none
    | _=>.none
   else .none
 | .nilCheck x=>match ρ x with
  | .ptr b i j=>k (.ptr b i j) [] []
  | .tp cs j=>k (.tp cs j) [] []
  | .fn (.func f) a c=>k (.fn (.func f) a c) [] []
  | _=>.none
 | .binOp op t x y _=>abinK tt op t (ρ x) (ρ y) fun v=>k v [] []
 | .unOp op _ x=>aunK op (ρ x) fun v=>k v [] []
 | .convert src dst x=>
  onK (tt src) fun ts=>onK (tt dst) fun td=>
  match td.desc,ρ x with
  | .int kd,.int _ n=>k (.int kd (kd.wrap n)) [] []
  | .float kd,.int _ n=>k (.flt kd (kd.nearest n)) [] []
  | .int kd,.flt s b=>okK ((s.decode b).toInt .zero) 0 fun n=>bif decide (kd.min<=n)&&decide (n<=kd.max)then k (.int kd n) [] []else .none
  | .complex kd,.cplx s a b=>bif fkindEq kd s then k (.cplx kd a b) [] []else .none
  | .string,.str s=>k (.str s) [] []
  | .slice e,.str s=>
   onK (tt e) fun te=>match te.desc with
   | .int .u8=>k (.sl 1 nx 0 s.length s.length) [(nx,.arr true 1 (s.map fun b=>[.int .u8 b.toNat]))] []
   | _=>.none
  | .string,v=>
   match ts.desc with
   | .slice e=>onK (tt e) fun te=>match te.desc with
    | .int .u8=>match v with
     | .str _=>.none
     | v=>viewK v h 1 fun w=>match w with
      | .list es=>onK (bytesOfL es) fun l=>k (.str l) [] v.viewIds
      | .fn n f=>onK (bytesOfL ((List.range n).map f)) fun l=>k (.str l) [] v.viewIds
    | _=>.none
   | _=>.none
  | _,_=>.none
 | .makeFunc fn first cap=>k (.fn fn (first.toList.map ρ) (cap.toList.map ρ)) [] []
 | .makeMap t r=>match r with
  | .none=>k (.mp nx) [(nx,.map true [])] []
  | some r=>onK (tt t) fun ti=>match ti.desc,ρ r with
   | .map _ _,.int _ _=>k (.mp nx) [(nx,.map true [])] []
   | _,_=>.none
 | .makeSlice t l c=>
  onK (tt t) fun ti=>match ti.desc,ρ l,ρ c with
  | .slice e,.int _ l,.int _ c=>onK (tt e) fun te=>onK te.zero fun z=>
   bif Nat.beq z.length te.size&&(Nat.ble 1 te.size&&Nat.ble te.bytes 65536)&&(decide (0<=l)&&(decide (l<=c)&&decide (c<=1048576)))then
    k (.sl te.size nx 0 l.toNat l.toNat) [(nx,.arr true te.size (List.replicate l.toNat z))] []
   else .none
  | _,_,_=>.none
 | .slice t x lo hi mx=>
  bif mx.isSome&&hi.isNone then .none else
  onK (tt t) fun ti=>match ti.desc,ρ x with
  | .string,.str s=>match mx with
   | .none=>boundsK (lo.map ρ) (hi.map ρ) .none s.length s.length fun l h _=>k (.str ((s.drop l).take (h - l))) [] []
   | _=>.none
  | .slice e,x=>onK (tt e) fun te=>match x with
   | .sl sz b off len cm=>bif Nat.beq sz te.size then
     boundsK (lo.map ρ) (hi.map ρ) (mx.map ρ) len (capOf len cm) fun l h m=>k (.sl sz b (off+l) (h - l) (capLeft mx.isSome cm (m - l))) [] []else .none
   | .trl sz es=>bif Nat.beq sz te.size then
     boundsK (lo.map ρ) (hi.map ρ) (mx.map ρ) es.length es.length fun l h m=>match mx with
      | .none=>k (.trl sz ((es.drop l).take (h - l))) [] []
      | _=>bif Nat.beq m 0 then k (.sl sz noB 0 0 0) [] []else .none
     else .none
   | .tr sz n f=>bif Nat.beq sz te.size then
     boundsK (lo.map ρ) (hi.map ρ) (mx.map ρ) n n fun l h m=>match mx with
      | .none=>k (.tr sz (h - l) fun i=>bif Nat.blt i (h - l)then f (l+i)else f n) [] []
      | _=>bif Nat.blt 0 n&&Nat.beq m 0 then k (.sl sz noB 0 0 0) [] []else .none
     else .none
   | .tn sz n f=>bif Nat.beq sz te.size then
     boundsK (lo.map ρ) (hi.map ρ) (mx.map ρ) n n fun l h m=>match mx with
      | .none=>k (.tn sz (h - l) fun i=>bif Nat.blt i (h - l)then f (l+i)else f n) [] []
      | _=>bif Nat.beq m 0 then k (.sn sz noB 0) [] []else .none
     else .none
   | .sn sz b n=>bif Nat.beq sz te.size then
     match lo,mx with
     | .none,.none=>boundsK .none (hi.map ρ) .none n n fun l h _=>bif Nat.beq l 0 then k (.sn sz b h) [] []else .none
     | _,_=>boundsK (lo.map ρ) (hi.map ρ) (mx.map ρ) n n fun l h m=>bif Nat.blt 0 n then k (.sl sz b l (h - l) (m - l)) [] []else .none
     else .none
   | .nils=>boundsK (lo.map ρ) (hi.map ρ) (mx.map ρ) 0 0 fun _ _ _=>k .nils [] []
   | _=>.none
  | _,_=>.none
 | .fieldAddr t x f=>
  onK (tt t) fun ti=>match ti.desc with
  | .struct fields=>onK (fields.toList[f]?) fun fd=>onK (tt fd.type) fun tf=>
   bif Nat.beq tf.size 0 then .none else
   match ρ x with
   | .ptr b i j=>k (.ptr b i (j+fd.offset)) [] []
   | .tp cs j=>k (.tp cs (j+fd.offset)) [] []
   | _=>.none
  | _=>.none
 | .field t x f=>
  onK (tt t) fun ti=>match ti.desc,ρ x with
  | .struct fields,.agg cs=>onK (fields.toList[f]?) fun fd=>onK (tt fd.type) fun tf=>partK tf cs fd.offset fun v=>k v [] []
  | _,_=>.none
 | .indexAddr t x ix=>
  onK (tt t) fun ti=>match ρ ix with
  | .int _ i=>match ti.desc with
   | .array n e=>onK (tt e) fun te=>
    bif decide (0<=i)&&decide (i<(n:Int))then
     match ρ x with
     | .ptr b i' j=>k (.ptr b i' (j+i.toNat*te.size)) [] []
     | .tp cs j=>k (.tp cs (j+i.toNat*te.size)) [] []
     | _=>.none
    else .none
   | .slice e=>onK (tt e) fun te=>match ρ x with
    | .sl sz b off len _=>bif Nat.beq sz te.size&&(decide (0<=i)&&decide (i<(len:Int)))then k (.ptr b (off+i.toNat) 0) [] []else .none
    | .trl sz es=>bif Nat.beq sz te.size&&decide (0<=i)then(match es[i.toNat]? with
      | some cs=>k (.tp cs 0) [] []
      | .none=>.none)else .none
    | .tr sz n f=>bif Nat.beq sz te.size&&(decide (0<=i)&&decide (i<(n:Int)))then k (.tp (f i.toNat) 0) [] []else .none
    | .tn sz n f=>bif Nat.beq sz te.size&&(decide (0<=i)&&decide (i<(n:Int)))then k (.tp (f i.toNat) 0) [] []else .none
    | .sn sz b n=>bif Nat.beq sz te.size&&(decide (0<=i)&&decide (i<(n:Int)))then k (.ptr b i.toNat 0) [] []else .none
    | _=>.none
   | _=>.none
  | _=>.none
 | .index t x ix=>
  onK (tt t) fun ti=>match ρ ix with
  | .int _ i=>match ti.desc,ρ x with
   | .string,.str s=>bif decide (0<=i)&&decide (i<(s.length:Int))then k (.int .u8 (s.getD i.toNat 0).toNat) [] []else .none
   | .array n e,.agg cs=>onK (tt e) fun te=>
     bif decide (0<=i)&&decide (i<(n:Int))then partK te cs (i.toNat*te.size) fun v=>k v [] []else .none
   | _,_=>.none
  | _=>.none
 | .extract t i=>match ρ t with
  | .tup vs=>onK (vs[i]?) fun v=>k v [] []
  | _=>.none
 | .insert t m key v | .mapUpdate t m key v=>
  onK (tt t) fun ti=>match ti.desc,ρ m with
  | .map kt _,.mp b=>onK (tt kt) fun tk=>match h b with
   | .map true es=>bif keyFits tk.desc (ρ key)&&(ρ v).storable then onK (look (ρ key) es) fun
     | some _=>k .undef [(b,.map true (upd (ρ key) (ρ v) es))] [b]
     | .none=>k .undef [(b,.map true (es++[(ρ key,ρ v)]))] [b]
    else .none
   | .pmap true ks val=>match ρ key with
    | .str s=>bif keyFits tk.desc (.str s)&&((ρ v).storable&&refFree (ρ v))then
      k .undef [(b,.pmap true (bif memS s ks then ks else ks++[s]) (fun x=>bif strBeq x s then ρ v else val x))] [b]else .none
    | _=>.none
   | _=>.none
  | _,_=>.none
 | .lookup t m key ok=>
  onK (tt t) fun ti=>match ti.desc with
  | .map kt e=>onK (tt kt) fun tk=>onK (tt e) fun te=>onK te.zv fun zv=>
   bif keyFits tk.desc (ρ key)then
    let fin (v:AV) (b':Bool) (rd:List Nat):Option R:=bif ok then k (.tup [v,.bool b']) [] rd else k v [] rd
    match ρ m with
    | .mp b=>match h b with
     | .map _ es=>onK (look (ρ key) es) fun
      | some v=>fin v true [b]
      | .none=>fin zv false [b]
     | .pmap _ ks val=>match ρ key with
      | .str s=>bif memS s ks then fin (val s) true [b]else fin zv false [b]
      | _=>.none
     | _=>.none
    | .nilm=>fin zv false []
    | _=>.none
   else .none
  | _=>.none
 | .range t x=>
  onK (tt t) fun ti=>match ti.desc,ρ x with
  | .map _ _,.mp b=>match h b with
   | .map _ es=>bif Nat.ble es.length 1&&es.all (fun p=>refFree p.1&&refFree p.2)then
     k (.ptr nx 0 0) [(b,.map false es),(nx,.iter true es false)] [b]else .none
   | .pmap _ ks val=>k (.ptr nx 0 0) [(b,.pmap false ks val),(nx,.piter true ks val ks none)] [b]
   | _=>.none
  | _,_=>.none
 | .next x str=>match str,ρ x with
  | false,.ptr b 0 0=>match h b with
   | .iter true [] _=>k (.tup [.bool false]) [] [b]
   | .iter true [_] true=>k (.tup [.bool false]) [] [b]
   | .iter true [p] false=>k (.tup [.bool true,p.1,p.2]) [(b,.iter true [p] true)] [b]
   | _=>.none
  | _,_=>.none
 | .entry x=>match ρ x with
  | .ptr b 0 0=>match h b with
   | .iter _ [p] true=>k (.tup [p.1,p.2]) [] [b]
   | .piter _ ks val _ (some s)=>k (.tup [.str s,val s]) [] [b]
   | _=>.none
  | _=>.none
 | _=>.none
def abuiltK(tt:TT)(h:Nat->BS)(nx:Nat)(b:Builtin)(argTypes:List TypeId)(args:List AV)(k:AopK R):Option R:=
 match b,args,argTypes with
 | .len,[x],[t]=>onK (tt t) fun ti=>match ti.desc,x with
  | .string,.str s=>k (.int .i64 s.length) [] []
  | .slice _,.nils=>k (.int .i64 0) [] []
  | .slice _,.sl _ _ _ n _=>k (.int .i64 n) [] []
  | .slice _,.tr _ n _=>k (.int .i64 n) [] []
  | .slice _,.tn _ n _=>k (.int .i64 n) [] []
  | .slice _,.sn _ _ n=>k (.int .i64 n) [] []
  | .slice _,.trl _ es=>k (.int .i64 es.length) [] []
  | .array n _,_=>k (.int .i64 n) [] []
  | .map _ _,.nilm=>k (.int .i64 0) [] []
  | .map _ _,.mp b=>match h b with
   | .map _ es=>k (.int .i64 es.length) [] [b]
   | .pmap _ ks _=>k (.int .i64 ks.length) [] [b]
   | _=>.none
  | _,_=>.none
 | .append,[s,x],t::tr=>
  onK (tt t) fun ti=>match ti.desc with
  | .slice e=>onK (tt e) fun te=>onK te.zero fun z=>
   bif Nat.beq z.length te.size&&Nat.ble 1 te.size then
   match x with
   | .int .. => .none
   | x=>
   onK (match tr with
    | []=>some ()
    | t2::_=>onK (tt t2) fun t2=>match t2.desc with
     | .int _=>.none
     | _=>some ()) fun _=>
   viewK s h te.size fun old=>viewK x h te.size fun new=>
    bif Nat.ble ((old.len+new.len)*te.bytes) 140737488355328&&Nat.ble (old.len+new.len) 140737488355328 then
     match s with
     | .nils=>bif Nat.beq new.len 0 then k .nils [] x.viewIds
       else k (.sl te.size nx 0 new.len (capNew new)) [(nx,blk te.size new)] x.viewIds
     | .sl sz b off len cm=>
      bif Nat.beq new.len 0 then k s [] (s.viewIds++x.viewIds)
      else bif roomFor (len+new.len) cm then
       match h b,new with
       | .arr true sz' es,.list ns=>bif Nat.ble (off+cm) es.length then
         k (.sl sz b off (len+new.len) cm) [(b,.arr true sz' (es.take (off+len)++(ns++es.drop (off+(len+ns.length)))))] (b::x.viewIds)else .none
       | .seq true sz' n f,nv=>bif vfree nv&&Nat.ble (off+cm) n then
         k (.sl sz b off (len+nv.len) cm) [(b,.seq true sz' n fun i=>bif Nat.blt i (off+len)then f i else bif Nat.blt i (off+(len+nv.len))then nv.at (i - (off+len))else f i)] (b::x.viewIds)else .none
       | _,_=>.none
      else match h b with
       | .arr true _ _ | .seq true _ _ _=>
        bif vfree new||(match viewApp old new with | .list _=>true | .fn _ _=>false)then
         bif(match viewApp old new with | .list _=>true | .fn _ _=>vfree old)then
          k (.sl te.size nx 0 (viewApp old new).len (capNew (viewApp old new))) [(b,.dead),(nx,blk te.size (viewApp old new))] (b::(s.viewIds++x.viewIds))
         else .none
        else .none
       | .none=>bif Nat.beq len 0 then k (.sl te.size nx 0 new.len (capNew new)) [(nx,blk te.size new)] (b::x.viewIds)else .none
       | _=>.none
     | .sn sz b n=>bif vfree new then match h b with
       | .seq true _ _ f=>k (.sn te.size nx (n+new.len)) [(b,.dead),(nx,.seq true te.size (n+new.len) (appN n f new))] (b::x.viewIds)
       | .none=>k (.sn te.size nx new.len) [(nx,.seq true te.size new.len new.at)] (b::x.viewIds)
       | _=>.none
      else .none
     | _=>.none
    else .none
   else .none
  | _=>.none
 | .copy,[d,x],t::_=>
  onK (tt t) fun ti=>match ti.desc,d with
  | .slice e,.sl sz b off len _=>onK (tt e) fun te=>bif Nat.beq sz te.size&&Nat.ble 1 te.size then viewK x h te.size fun new=>
   match h b,new with
   | .arr true sz' es,.list ns=>bif Nat.ble (off+len) es.length then
     k (.int .i64 (min ns.length len:Nat)) [(b,.arr true sz' (es.take off++(ns.take (min ns.length len)++es.drop (off+min ns.length len))))] (b::x.viewIds)else .none
   | .seq true sz' m f,nv=>bif vfree nv&&Nat.ble (off+len) m then
     k (.int .i64 (min nv.len len:Nat)) [(b,.seq true sz' m fun i=>bif Nat.blt i off then f i else bif Nat.blt i (off+min nv.len len)then nv.at (i - off)else f i)] (b::x.viewIds)else .none
   | _,_=>.none
   else .none
  | _,_=>.none
 | .clear,[x],[t]=>
  onK (tt t) fun ti=>match ti.desc,x with
  | .slice _,.nils=>k (.tup []) [] []
  | .slice e,.sl sz b off len _=>onK (tt e) fun te=>onK te.zero fun z=>
   bif Nat.beq len 0 then k (.tup []) [] []else
   bif Nat.beq sz te.size&&(Nat.beq z.length te.size&&Nat.ble 1 te.size)then
   match h b with
   | .arr true sz' es=>bif Nat.ble (off+len) es.length then
     k (.tup []) [(b,.arr true sz' (es.take off++(List.replicate len z++es.drop (off+len))))] [b]else .none
   | .seq true sz' m f=>bif Nat.ble (off+len) m then
     k (.tup []) [(b,.seq true sz' m fun i=>bif Nat.blt i off then f i else bif Nat.blt i (off+len)then z else f i)] [b]else .none
   | _=>.none
   else .none
  | _,_=>.none
 | .complex,[.flt kd a,.flt kd' b],_=>bif fkindEq kd kd' then k (.cplx kd a b) [] []else .none
 | .real,[.cplx kd a _],_=>k (.flt kd a) [] []
 | .imag,[.cplx kd _ b],_=>k (.flt kd b) [] []
 | .min,[.int kd a,.int _ b],_=>k (.int kd (bif decide (b<a)then b else a)) [] []
 | .max,[.int kd a,.int _ b],_=>k (.int kd (bif decide (a<b)then b else a)) [] []
 | _,_,_=>.none
structure Rec where
 i:Nat
 rd:List Nat
 wr:List Nat
 all:Bool
def bindsAny(e:Edge):Bool:=
 match e.ground with
 | .textOnly _ | .gcOnly _=>false
 | _=>true
def ancsGo:List Oper->List Nat->List Nat
 | [],acc=>acc
 | o::r,acc=>
  ancsGo r (acc++[o.after.toList.foldl (fun s e=>bif bindsAny e then s ||| 2 ^ e.on ||| acc.getD e.on 0 else s) 0])
def meets(a b:List Nat):Bool:=a.any fun x=>b.any fun y=>Nat.beq x y
def behind(anc:List Nat)(i j:Nat):Bool:=Nat.testBit (anc.getD i 0) j
def quiet2(anc:List Nat)(r s:Rec):Bool:=
 behind anc r.i s.i || !(r.all||(s.all||(meets r.wr (s.rd++s.wr)||meets r.rd s.wr)))
def quietAll(anc:List Nat):List Rec->Bool
 | []=>true
 | r::l=>(l.all fun s=>quiet2 anc r s)&&quietAll anc l
inductive AX where
 | normal | exit (id:Nat) | goto (l:Nat) | ret
def guardV(ops:Array Oper)(fr:Nat->AV)(o:Oper):Option Bool:=
 match o.guard with
 | .none=>some true
 | some (j,want)=>match (ops[j]?).bind (·.dst)with
  | some d=>match fr d with
   | .bool b=>some (boolEq b want)
   | .tup _=>some false
   | _=>.none
  | .none=>.none
def memb(b:Nat):List Nat->Bool
 | []=>false
 | x::r=>bif Nat.beq x b then true else memb b r
def live:BS->Bool
 | .none=>false
 | .dead=>false
 | _=>true
def liveL(h:Nat->BS)(ks:List Nat):List Nat:=ks.filter fun b=>live (h b)
def snE(r:Option (List AV × List Nat × Bool))(ks:List Nat)(cs:List AV):List AV:=
 match r with
 | some (cs',l,g)=>bif g&&l.all (fun b=>memb b ks)then cs' else cs.map fun _=>.undef
 | .none=>cs.map fun _=>.undef
mutual
def snapG:Nat->(Nat->BS)->AV->Option (AV × List Nat × Bool)
 | 0,_,_=>.none
 | d+1,h,v=>match v with
  | .ptr b i j=>match h b with
   | .arr _ _ es=>match es[i]? with
    | some cs=>match snapLG d h cs with
     | some (cs,l,g)=>some (.tp cs j,b::l,g)
     | .none=>.none
    | .none=>.none
   | .seq _ _ n f=>some (.tp (f i) j,[b],Nat.blt i n)
   | _=>.none
  | .sl sz b off len _=>match h b with
   | .arr _ _ es=>match snapLLG d h ((es.drop off).take len)with
     | some (es',l,g)=>some (.trl sz es',b::l,g&&(Nat.beq len 0||Nat.ble (len+off) es.length))
     | .none=>.none
   | .seq _ _ n f=>some (.tr sz len (fun i=>f (i+off)),[b],Nat.beq len 0||Nat.ble (len+off) n)
   | .sqr _ _ n f i0 c0 ks _=>some (.tr sz len (fun i=>snE (snapLG d h (rowX f i0 c0 (i+off))) (liveL h ks) (rowX f i0 c0 (i+off))),b::liveL h ks,Nat.beq len 0||Nat.ble (len+off) n)
   | _=>some (.trl sz [],[],Nat.beq len 0)
  | .sn sz b n=>match h b with
   | .seq _ _ n' f=>some (.tr sz n f,[b],Nat.ble n n')
   | .sqr _ _ n' f i0 c0 ks _=>some (.tr sz n (fun i=>snE (snapLG d h (rowX f i0 c0 i)) (liveL h ks) (rowX f i0 c0 i)),b::liveL h ks,Nat.ble n n')
   | _=>some (.tr sz n fun _=>[],[],Nat.beq n 0)
  | .agg cs=>match snapLG d h cs with
   | some (cs,l,g)=>some (.agg cs,l,g)
   | .none=>.none
  | .tup cs=>match snapLG d h cs with
   | some (cs,l,g)=>some (.tup cs,l,g)
   | .none=>.none
  | .fn f a c=>match snapLG d h a,snapLG d h c with
   | some (a,l,g),some (c,l',g')=>some (.fn f a c,l++l',g&&g')
   | _,_=>.none
  | .mp _=>.none
  | v=>some (v,[],true)
def snapLG:Nat->(Nat->BS)->List AV->Option (List AV × List Nat × Bool)
 | 0,_,_=>.none
 | _+1,_,[]=>some ([],[],true)
 | d+1,h,v::r=>match snapG d h v,snapLG d h r with
  | some (v,l,g),some (r,l',g')=>some (v::r,l++l',g&&g')
  | _,_=>.none
def snapLLG:Nat->(Nat->BS)->List (List AV)->Option (List (List AV) × List Nat × Bool)
 | 0,_,_=>.none
 | _+1,_,[]=>some ([],[],true)
 | d+1,h,v::r=>match snapLG d h v,snapLLG d h r with
  | some (v,l,g),some (r,l',g')=>some (v::r,l++l',g&&g')
  | _,_=>.none
end
def ungard{α:Type}:Option (α × List Nat × Bool)->Option (α × List Nat)
 | some (v,l,true)=>some (v,l)
 | _=>.none
def snap(d:Nat)(h:Nat->BS)(v:AV):Option (AV × List Nat):=ungard (snapG d h v)
def snapL(d:Nat)(h:Nat->BS)(v:List AV):Option (List AV × List Nat):=ungard (snapLG d h v)
def snapLL(d:Nat)(h:Nat->BS)(v:List (List AV)):Option (List (List AV) × List Nat):=ungard (snapLLG d h v)
def kids:BS->List Nat
 | .arr _ _ es=>es.flatMap rootsL
 | .map _ es=>es.flatMap fun(a,b)=>roots a++roots b
 | .sqr _ _ _ _ _ _ ks _=>ks
 | _=>[]
def reach:Nat->(Nat->BS)->List Nat->List Nat->List Nat
 | 0,_,_,acc=>acc
 | _+1,_,[],acc=>acc
 | d+1,h,b::r,acc=>bif memb b acc then reach d h r acc else reach d h (kids (h b)++r) (acc++[b])
def indexOf(b:Nat):List Nat->Nat->Option Nat
 | [],_=>.none
 | x::r,i=>bif Nat.beq x b then some i else indexOf b r (i+1)
mutual
def ren(ρ:Nat->Option Nat):AV->AV
 | .ptr b i j=>match ρ b with
  | some b'=>.ptr b' i j
  | .none=>.undef
 | .sl sz b o len cm=>match ρ b with
  | some b'=>.sl sz b' o len cm
  | .none=>.undef
 | .mp b=>match ρ b with
  | some b'=>.mp b'
  | .none=>.undef
 | .sn sz b n=>match ρ b with
  | some b'=>.sn sz b' n
  | .none=>.undef
 | .agg cs=>.agg (renL ρ cs)
 | .tup cs=>.tup (renL ρ cs)
 | .fn f a c=>.fn f (renL ρ a) (renL ρ c)
 | v=>v
def renL(ρ:Nat->Option Nat):List AV->List AV
 | []=>[]
 | v::r=>ren ρ v::renL ρ r
end
def renB(ρ:Nat->Option Nat):BS->BS
 | .arr m sz es=>.arr m sz (es.map (renL ρ))
 | .map m es=>bif es.all (fun p=>refFree p.1)then .map m (es.map fun p=>(p.1,ren ρ p.2))else .dead
 | .sqr m sz n f i0 c0 ks cur=>.sqr m sz n (fun i=>renL ρ (f i)) i0 (renL ρ c0) (ks.filterMap ρ) cur
 | x=>x
mutual
def hasTree:AV->Bool
 | .tr .. | .tn .. | .trl _ (_::_) | .tp .. => true
 | .agg cs | .tup cs=>hasTreeL cs
 | .fn _ a c=>hasTreeL a||hasTreeL c
 | _=>false
def hasTreeL:List AV->Bool
 | []=>false
 | v::r=>hasTree v||hasTreeL r
end
def blkHasTree:BS->Bool
 | .arr m _ es=>!m||es.any hasTreeL
 | .seq .. => true
 | .map m es=>!m||es.any fun p=>hasTree p.1||hasTree p.2
 | .iter .. => true
 | .sqr .. => true
 | .pmap .. => true
 | .piter .. => true
 | _=>false
def frozen:BS->BS
 | .arr _ sz es=>.arr false sz es
 | .seq _ sz n f=>.seq false sz n f
 | .map _ es=>.map false es
 | .iter _ es st=>.iter false es st
 | .sqr _ sz n f i0 c0 ks cur=>.sqr false sz n f i0 c0 ks cur
 | .pmap _ ks val=>.pmap false ks val
 | .piter _ ks val rem cur=>.piter false ks val rem cur
 | x=>x
structure Answer where
 X:Type
 g:Bool
 a:X
 r:X->AV × Heap
def appX{X:Type}{α:Type}(k:X->α)(a:X):α:=k a
structure Env where
 tt:TT
 code:Nat->Option Func
 mode:Nat->Nat
 live:Nat->Nat->List Nat
 orc:Nat->List AV->Heap->Option Answer
 frz:Nat->Nat->List Nat:=fun _ _=>[]
 msk:Nat->List Nat:=fun _=>[]
def mskCs(l:List Nat):Nat->List AV->List AV
 | _,[]=>[]
 | i,c::r=>(bif memb i l then .undef else c)::mskCs l (i+1) r
def mskArgs(l:List Nat)(args:List AV):List AV:=
 match l with
 | []=>args
 | _=>match args with
  | .agg cs::r=>.agg (mskCs l 0 cs)::r
  | _=>args
def depth:Nat:=400
def big:Nat:=100000
abbrev CallK(R:Type):=Nat->List AV->Heap->(AV->Heap->Option R)->Option R
def seqB:BS->BS
 | .arr m sz es=>bif es.all (fun cs=>cs.all refFree)then .seq m sz es.length (fun i=>es.getD i (es.getD 0 []))else .arr m sz es
 | .map m []=>.pmap m [] (fun _=>.int .i64 0)
 | x=>x
def modS:Nat->Heap->Heap
 | _,[]=>[]
 | 0,x::r=>seqB x::r
 | k+1,x::r=>x::modS k r
def seqs:List Nat->Heap->Heap
 | [],h=>h
 | t::r,h=>seqs r (bif Nat.beq (t / 1000) 0 then h else modS (t % 1000) h)
def norm0(base:Nat)(live:List Nat)(s:St):St:=
 let ids:=reach big (hget s.hp) ((s.hp.take base).flatMap kids++rootsL (live.map fun t=>fget s.fr t)) (List.range base)
 {fr:=live.map fun t=>(t,ren (fun b=>indexOf b ids 0) (fget s.fr t)),hp:=ids.map fun b=>renB (fun b=>indexOf b ids 0) (hget s.hp b)}
def seed1(sz t:Nat)(s:St):St:=
 match fget s.fr t with
 | .nils=>{fr:=(t,.sn sz s.hp.length 0)::s.fr,hp:=hput s.hp s.hp.length (.seq true sz 0 fun _=>[])}
 | _=>s
def seedL:List Nat->St->St
 | [],s=>s
 | x::r,s=>bif Nat.beq (x / 1000000) 0 then seedL r s else seedL r (seed1 (x / 1000000) (x / 1000 % 1000) s)
def norm1(base:Nat)(live:List Nat)(s:St):St:={fr:=(norm0 base live s).fr,hp:=seqs live (norm0 base live s).hp}
def norm(base:Nat)(live:List Nat)(s:St):St:=norm1 base live (seedL live s)
inductive Eff where
 | wr (l:Wr)
 | full (h:Heap)
abbrev OperK(R:Type):=AV->Eff->List Nat->Option R
def below(n b:Nat):Option Nat:=bif Nat.blt b n then some b else .none
def shift(nx n b:Nat):Option Nat:=bif Nat.blt b n then some (nx+b)else .none
def imports(nx:Nat):Nat->List BS->Wr
 | _,[]=>[]
 | i,x::r=>(nx+i,x)::imports nx (i+1) r
def finishCall(m:Nat)(h:Nat->BS)(nx:Nat)(rch:List Nat)(r:AV)(bs:Heap)(k:OperK R):Option R:=
 let fz:Wr:=bif hasTree r||bs.any blkHasTree then rch.map fun b=>(b,frozen (h b))else []
 match m with
 | 1=>k (ren (shift nx bs.length) r) (.wr (fz++imports nx 0 (bs.map (renB (shift nx bs.length))))) rch
 | _=>match snapG depth (hget bs) r with
  | some (r,_,g)=>bif g then k r (.wr fz) rch else .none
  | .none=>.none
def insL(l:List Nat)(b:Nat):Option Nat:=bif memb b l then some b else .none
def keep(l:List Nat):Nat->Heap->Heap
 | _,[]=>[]
 | i,x::r=>(bif memb i l then renB (insL l) x else .none)::keep l (i+1) r
def backR(n:Nat)(ids:List Nat)(i:Nat):Option Nat:=
 match ids[i]? with
 | some b=>some b
 | .none=>some (n+(i - ids.length))
def backI(n:Nat)(ids:List Nat)(b:Nat):Option Nat:=
 match indexOf b ids 0 with
 | some i=>some i
 | .none=>bif Nat.ble n b then some (ids.length+(b - n))else .none
def backB(n:Nat)(ids:List Nat)(h:Heap)(b:Nat):BS:=
 match backI n ids b with
 | some i=>renB (backR n ids) (hget h i)
 | .none=>.none
def back(n:Nat)(ids:List Nat)(r:AV)(h:Heap)(k:OperK R):Option R:=
 let S:=ids++(List.range (h.length - ids.length)).map fun i=>n+i
 k (ren (insL S) (ren (backR n ids) r)) (.wr (S.map fun b=>(b,renB (insL S) (backB n ids h b)))) ids
def callK(env:Env)(run:CallK R)(hp:Heap)(nx:Nat)(f:Nat)(args:List AV)(k:OperK R):Option R:=
 match env.mode f with
 | 2=>run f args hp fun r h'=>k r (.full h') (List.range hp.length)
 | 3=>run f (renL (below hp.length) args) (hp.map fun x=>frozen (renB (below hp.length) x)) fun r _=>bif flatFree r && !hasTree r then k r (.wr []) (List.range hp.length)else .none
 | 4=>
  let ids:=(reach big (hget hp) (rootsL args) []).filter fun b=>Nat.blt b hp.length
  run f (renL (insL ids) args) (keep ids 0 hp) fun r h'=>
   let S:=ids++(List.range (h'.length - hp.length)).map fun i=>hp.length+i
   k (ren (insL S) r) (.wr (S.map fun b=>(b,renB (insL S) (hget h' b)))) ids
 | 5=>
  let ids:=(reach big (hget hp) (rootsL args) []).filter fun b=>Nat.blt b hp.length
  let args5:=renL (fun b=>indexOf b ids 0) (renL (insL ids) args)
  let hp5:=ids.map fun b=>renB (fun b=>indexOf b ids 0) (hget (keep ids 0 hp) b)
  match env.orc f args5 hp5 with
  | some A=>bif A.g then appX (fun x=>back hp.length ids (A.r x).1 (A.r x).2 k) A.a else .none
  | .none=>run f args5 hp5 fun r h=>back hp.length ids r h k
 | m=>
  match snapLG depth (hget hp) args with
  | .none=>.none
  | some (args',rch,g)=>bif g then
   match env.orc f args' []with
   | some A=>bif A.g then appX (fun x=>finishCall m (hget hp) nx rch (A.r x).1 (A.r x).2 k) A.a else .none
   | .none=>run f args' [] fun r h'=>
    let ids:=reach big (hget h') (roots r) []
    finishCall m (hget hp) nx rch (ren (fun b=>indexOf b ids 0) r) (ids.map fun b=>renB (fun b=>indexOf b ids 0) (hget h' b)) k
   else .none
def operK(env:Env)(run:CallK R)(fr:Nat->AV)(hp:Heap)(nx:Nat)(o:Oper)(k:OperK R):Option R:=
 match o.op with
 | .call c=>
  match c.callee with
  | .builtin b=>abuiltK env.tt (hget hp) nx b c.argTypes.toList (c.args.toList.map (evalO fr)) fun v wr rd=>k v (.wr wr) rd
  | .invoke _ _=>.none
  | .value f=>match evalO fr f with
   | .fn (.func g) first cap=>callK env run hp nx g (mskArgs (env.msk g) (first++(c.args.toList.map (evalO fr)++cap))) k
   | _=>.none
 | op=>aopK env.tt (evalO fr) (hget hp) nx op fun v wr rd=>k v (.wr wr) rd
def Eff.apply(h:Heap):Eff->Heap
 | .wr l=>hputs h l
 | .full h'=>h'
def recOf(i:Nat)(e:Eff)(rd:List Nat)(recs:List Rec):List Rec:=
 match e with
 | .wr []=>match rd with
  | []=>recs
  | rd=>{i,rd,wr:=[],all:=false}::recs
 | .wr l=>{i,rd,wr:=l.map (·.1),all:=false}::recs
 | .full _=>{i,rd,wr:=[],all:=true}::recs
def fput(fr:Fr)(d:Option Nat)(v:AV):Fr:=
 match d with
 | some d=>(d,v)::fr
 | .none=>fr
def dstOk(nt:Nat)(d:Option Nat):Bool:=
 match d with
 | some d=>Nat.blt d nt
 | .none=>true
def guardK(ops:Array Oper)(o:Oper)(fr:Fr)(k:Bool->Fr->Option R):Option R:=
 match o.guard with
 | .none=>k true fr
 | some (j,want)=>match (ops[j]?).bind (·.dst)with
  | some d=>match fget fr d with
   | .bool b=>bif b then k want ((d,.bool true)::fr)else k (!want) ((d,.bool false)::fr)
   | .tup _=>k false fr
   | _=>.none
  | .none=>.none
def opsK(env:Env)(run:CallK R)(nt:Nat)(ops:Array Oper)(draw:Bool):List Oper->Nat->List Rec->St->(St->Option R)->Option R
 | [],_,recs,s,k=>bif draw then(bif quietAll (ancsGo ops.toList []) recs then k s else .none)else k s
 | o::rest,i,recs,s,k=>
  bif dstOk nt o.dst then
   guardK ops o s.fr fun g fr=>match g with
   | true=>
    operK env run (fget fr) s.hp s.hp.length o fun v e rd=>
     opsK env run nt ops draw rest (i+1) (bif draw then recOf i e rd recs else recs)
      {fr:=fput fr o.dst v,hp:=e.apply s.hp} k
   | false=>opsK env run nt ops draw rest (i+1) recs {fr:=fput fr o.dst (.tup []),hp:=s.hp} k
  else .none
def seedC(x:Nat)(s:St):St:=
 match hget s.hp (x / 1000 % 1000)with
 | .arr true sz [cs]=>match cs[x % 1000]? with
  | some .nils=>{fr:=s.fr,hp:=hput (hput s.hp s.hp.length (.seq true (x / 1000000) 0 fun _=>[])) (x / 1000 % 1000) (.arr true sz [cs.set (x % 1000) (.sn (x / 1000000) s.hp.length 0)])}
  | _=>s
 | _=>s
def frzK:List Nat->St->(St->Option R)->Option R
 | [],s,k=>k s
 | t::r,s,k=>bif !Nat.beq (t / 1000000) 0 then frzK r (seedC t s) k else match snapG depth (hget s.hp) (fget s.fr t)with
  | some (v,l,g)=>bif g then frzK r {fr:=(t,v)::s.fr,hp:=hputs s.hp (l.map fun b=>(b,frozen (hget s.hp b)))} k else .none
  | .none=>.none
abbrev CodeK(R:Type):=(AX->St->Option R)->St->Option R
def loopK(nrm:St->St)(body:CodeK R):Nat->CodeK R
 | 0,_,_=>.none
 | n+1,k,s=>body (fun e s'=>match e with
  | .normal=>loopK nrm body n k (nrm s')
  | e=>k e s') s
def evC1(env:Env)(run:CallK R)(fn nt n base:Nat)(jump:Code->Nat->CodeK R):(cur:Nat)->Code->CodeK R
 | _,.skip,k,s=>k .normal s
 | _,.region id ops draw,k,s=>frzK (env.frz fn id) s fun s=>opsK env run nt ops draw ops.toList 0 [] s fun s'=>k .normal s'
 | cur,.seq a b,k,s=>evC1 env run fn nt n base jump cur a (fun e s'=>match e with
  | .normal=>evC1 env run fn nt n base jump cur b k s'
  | e=>k e s') s
 | cur,.cond c a b,k,s=>match evalO (fget s.fr) c with
  | .bool c=>bif c then evC1 env run fn nt n base jump cur a k s else evC1 env run fn nt n base jump cur b k s
  | _=>.none
 | _,.block id a,k,s=>evC1 env run fn nt n base jump id a (fun e s'=>match e with
  | .exit id'=>bif Nat.beq id' id then k .normal s' else k (.exit id') s'
  | e=>k e s') s
 | cur,.loop a,k,s=>loopK (norm base (env.live fn cur)) (evC1 env run fn nt n base jump cur a) n k (norm base (env.live fn cur) s)
 | _,.exit id,k,s=>k (.exit id) s
 | _,.label _,k,s=>k .normal s
 | _,.goto l,k,s=>k (.goto l) s
 | cur,.scope a,k,s=>evC1 env run fn nt n base jump cur a (fun e s'=>match e with
  | .goto l=>match findLabel a l with
   | some _=>jump a l k (norm base (env.live fn (1000+l)) s')
   | .none=>k (.goto l) s'
  | e=>k e s') s
 | _,.ret,k,s=>k .ret s
 | _,_,_,_=>.none
def jumpK(env:Env)(run:CallK R)(fn nt n base:Nat):Nat->Code->Nat->CodeK R
 | 0,_,_,_,_=>.none
 | m+1,a,l,k,s=>
  match findLabel a l with
  | .none=>.none
  | some rest=>evC1 env run fn nt n base (jumpK env run fn nt n base m) 0 rest (fun e s'=>match e with
   | .goto l'=>match findLabel a l' with
    | some _=>jumpK env run fn nt n base m a l' k (norm base (env.live fn (1000+l')) s')
    | .none=>k (.goto l') s'
   | e=>k e s') s
def evC(env:Env)(run:CallK R)(fn nt n base:Nat):(cur:Nat)->Code->CodeK R:=
 evC1 env run fn nt n base (jumpK env run fn nt n base n)
def mkFrame:Nat->List AV->Fr
 | _,[]=>[]
 | i,v::r=>(i,v)::mkFrame (i+1) r
def resultsK(tt:TT)(s:St):List ResultVar->(List AV->Option R)->Option R
 | [],k=>k []
 | .tmp t::r,k=>resultsK tt s r fun vs=>k (fget s.fr t::vs)
 | .cell a t::r,k=>onK (tt t) fun ti=>match fget s.fr a with
  | .ptr b i j=>elemK (hget s.hp b) i fun cs=>partK ti cs j fun v=>resultsK tt s r fun vs=>k (v::vs)
  | _=>.none
def tupled:List AV->AV
 | [v]=>v
 | vs=>.tup vs
def runBody(env:Env)(run:CallK R)(n:Nat):CallK R:=fun f args hp k=>
 match env.code f with
 | some fn=>match fn.body with
  | some c=>
   evC env run f fn.ntmps n hp.length 0 c (fun e s=>match e with
    | .normal | .ret=>resultsK env.tt s fn.results.toList fun vs=>k (tupled vs) s.hp
    | _=>.none) {fr:=mkFrame 0 args,hp:=hp}
  | .none=>.none
 | .none=>.none
def evFn(env:Env):Nat->CallK R
 | 0=>fun _ _ _ _=>.none
 | n+1=>runBody env (evFn env n) n
end Go.AM
end
noncomputable section
namespace Go.AM
theorem one1_eq(v:Value):one1 v=v.oneCell':=by cases v <;> rfl
abbrev Phi:=Nat->Option (Nat × Nat × Nat)
def Phi.no:Phi:=fun _=>.none
def Phi.le(φ φ':Phi):Prop:=∀ b p,φ b=some p->φ' b=some p
theorem Phi.le_refl(φ:Phi):Phi.le φ φ:=fun _ _ h=>h
theorem Phi.no_le(φ:Phi):Phi.le Phi.no φ:=fun _ _ h=>by cases h
def csize(w:World)(B:Nat):Nat:=match w.heap[B]? with
 | some (.cells c _ _)=>c.size
 | _=>0
theorem cell_lt{w:World}{B q:Nat}{v:Value}(h:w.cell? ⟨B,q,none⟩=some v):q<csize w B:=by
 unfold World.cell? at h
 unfold csize
 split at h
 ·rename_i c e fz hc
  simp only at hc
  rw[hc]
  simp only at h ⊢
  rcases Nat.lt_or_ge q c.size with h' | h'
  ·exact h'
  ·simp[Array.getElem?_eq_none h']at h
 ·cases h
inductive RV (w:World) (I:Nat->Prop):Phi->AV->Value->Prop
 | undef {φ} (v:Value):RV w I φ .undef v
 | bool {φ} (b:Bool):RV w I φ (.bool b) (.bool b)
 | int {φ} (k:IntKind) (n:Int):RV w I φ (.int k n) (.int k n)
 | flt {φ} (k:FloatKind) (n:Nat):RV w I φ (.flt k n) (.float k n)
 | cplx {φ} (k:FloatKind) (a b:Nat):RV w I φ (.cplx k a b) (.complex k a b)
 | str {φ} (s:ByteArray) (l:List UInt8) (h:l=s.data.toList):RV w I φ (.str l) (.string s)
 | nilp {φ}:RV w I φ .nilp (.pointer none)
 | ptr {φ} (b B o sz i j q:Nat) (h:φ b=some (B,o,sz)) (hq:q=o+i*sz+j):RV w I φ (.ptr b i j) (.pointer (some ⟨B,q,none⟩))
 | tp {φ} (cs:List AV) (j B o q:Nat) (u:Nat->Value) (hI:I B) (hq:q=o+j)
   (hc:∀ (k:Nat) c,cs[k]? = some c->w.cell? ⟨B,o+k,none⟩=some (u k)) (h1:∀ (k:Nat) c,cs[k]? = some c->(u k).oneCell'=true)
   (hr:∀ (k:Nat) c,cs[k]? = some c->RV w I Phi.no c (u k)):RV w I φ (.tp cs j) (.pointer (some ⟨B,q,none⟩))
 | nils {φ}:RV w I φ .nils (.slice none 0 0)
 | sl {φ} (sz b B o off len cm cap q:Nat) (h:φ b=some (B,o,sz)) (hq:q=o+off*sz) (hl:len<=cap) (hc:cm<=cap)
   (hs:o+(off+cap)*sz<=csize w B):RV w I φ (.sl sz b off len cm) (.slice (some ⟨B,q,none⟩) len cap)
 | sle {φ} (sz b off:Nat) (a:Addr):RV w I φ (.sl sz b off 0 0) (.slice (some a) 0 0)
 | tr {φ} (sz n:Nat) (f:Nat->List AV) (B o cap:Nat) (u:Nat->Nat->Value) (hI:0<n->I B) (hn:n<=cap) (hz:0<n->o+cap*sz<=csize w B) (hlen:∀ i,i<n->(f i).length=sz)
   (hc:∀ (i k:Nat) c,i<n->(f i)[k]? = some c->w.cell? ⟨B,o+i*sz+k,none⟩=some (u i k))
   (h1:∀ (i k:Nat) c,i<n->(f i)[k]? = some c->(u i k).oneCell'=true)
   (hr:∀ (i k:Nat) c,i<n->(f i)[k]? = some c->RV w I Phi.no c (u i k)):RV w I φ (.tr sz n f) (.slice (some ⟨B,o,none⟩) n cap)
 | trn {φ} (sz:Nat) (f:Nat->List AV) (a:Option Addr):RV w I φ (.tr sz 0 f) (.slice a 0 0)
 | trl {φ} (sz:Nat) (es:List (List AV)) (v:Value) (h:RV w I φ (.tr sz es.length fun i=>es.getD i []) v) (hz:v ≠ .slice none 0 0):RV w I φ (.trl sz es) v
 | agg {φ} (cs:List AV) (vs:Array Value) (hl:cs.length=vs.size) (h1:∀ (k:Nat) u,vs[k]? = some u->u.oneCell'=true)
   (hr:∀ (k:Nat) c u,cs[k]? = some c->vs[k]? = some u->RV w I φ c u):RV w I φ (.agg cs) (.agg vs)
 | tup {φ} (cs:List AV) (vs:Array Value) (hl:cs.length=vs.size)
   (hr:∀ (k:Nat) c u,cs[k]? = some c->vs[k]? = some u->RV w I φ c u):RV w I φ (.tup cs) (.tuple vs)
 | fn {φ} (f:Fn) (a c:List AV) (va vc:Array Value) (hla:a.length=va.size) (hlc:c.length=vc.size)
   (ha:∀ (k:Nat) x u,a[k]? = some x->va[k]? = some u->RV w I φ x u)
   (hc:∀ (k:Nat) x u,c[k]? = some x->vc[k]? = some u->RV w I φ x u):RV w I φ (.fn f a c) (.func f va vc)
 | nilf {φ}:RV w I φ .nilf .nilFunc
 | nilm {φ}:RV w I φ .nilm (.map none)
 | mp {φ} (b B:Nat) (h:φ b=some (B,0,0)):RV w I φ (.mp b) (.map (some B))
 | sn0 {φ} (sz b:Nat) (a:Option Addr):RV w I φ (.sn sz b 0) (.slice a 0 0)
 | sn {φ} (sz b n B o cap:Nat) (h:φ b=some (B,o,sz)) (hl:n<=cap) (hs:o+cap*sz<=csize w B):RV w I φ (.sn sz b n) (.slice (some ⟨B,o,none⟩) n cap)
 | tn {φ} (sz n:Nat) (f:Nat->List AV) (v:Value) (h:RV w I φ (.tr sz n f) v):RV w I φ (.tn sz n f) v
theorem RV.mono{w:World}{I:Nat->Prop}{φ:Phi}{v:AV}{u:Value}(h:RV w I φ v u){w':World}{I':Nat->Prop}
  (hI:∀ B,I B->I' B/\w'.heap[B]? = w.heap[B]?) (hs:∀ B,csize w B<=csize w' B):∀ {φ':Phi},Phi.le φ φ'->RV w' I' φ' v u:=by
 have hcell:∀ B o,I B->w'.cell? ⟨B,o,none⟩=w.cell? ⟨B,o,none⟩:=fun B o hB=>by simp[World.cell?,(hI B hB).2]
 induction h with
 | undef v=>intros;exact .undef v
 | bool b=>intros;exact .bool b
 | int k n=>intros;exact .int k n
 | flt k n=>intros;exact .flt k n
 | cplx k a b=>intros;exact .cplx k a b
 | str s l h=>intros;exact .str s l h
 | nilp=>intros;exact .nilp
 | ptr b B o sz i j q h hq=>intro φ' le;exact .ptr b B o sz i j q (le _ _ h) hq
 | tp cs j B o q u hB hq hc h1 _ ih=>
  intro φ' le
  exact .tp cs j B o q u (hI B hB).1 hq (fun k c e=>by rw[hcell _ _ hB];exact hc k c e) h1 (fun k c e=>ih k c e (Phi.le_refl _))
 | nils=>intros;exact .nils
 | sl sz b B o off len cm cap q h hq hl hc hsz=>intro φ' le;exact .sl sz b B o off len cm cap q (le _ _ h) hq hl hc (Nat.le_trans hsz (hs B))
 | sle sz b off a=>intros;exact .sle sz b off a
 | tr sz n f B o cap u hB hn hcp hlen hc h1 _ ih=>
  intro φ' le
  exact .tr sz n f B o cap u (fun h0=>(hI B (hB h0)).1) hn (fun h0=>Nat.le_trans (hcp h0) (hs B)) hlen (fun i k c hi e=>by rw[hcell _ _ (hB (by omega))];exact hc i k c hi e) h1 (fun i k c hi e=>ih i k c hi e (Phi.le_refl _))
 | trn sz f a=>intros;exact .trn sz f a
 | trl sz es v _ hz ih=>intro φ' le;exact .trl sz es v (ih le) hz
 | agg cs vs hl h1 _ ih=>intro φ' le;exact .agg cs vs hl h1 fun k c u e e'=>ih k c u e e' le
 | tup cs vs hl _ ih=>intro φ' le;exact .tup cs vs hl fun k c u e e'=>ih k c u e e' le
 | fn f a c va vc hla hlc _ _ iha ihc=>intro φ' le;exact .fn f a c va vc hla hlc (fun k c u e e'=>iha k c u e e' le) (fun k c u e e'=>ihc k c u e e' le)
 | nilf=>intros;exact .nilf
 | nilm=>intros;exact .nilm
 | mp b B h=>intro φ' le;exact .mp b B (le _ _ h)
 | sn0 sz b a=>intros;exact .sn0 sz b a
 | sn sz b n B o cap h hl hsz=>intro φ' le;exact .sn sz b n B o cap (le _ _ h) hl (Nat.le_trans hsz (hs B))
 | tn sz n f v _ ih=>intro φ' le;exact .tn sz n f v (ih le)
theorem RV.free{w:World}{I:Nat->Prop}{φ φ':Phi}{v:AV}{u:Value}(h:RV w I φ v u)(hf:refFree v=true):RV w I φ' v u:=by
 cases h with
 | undef _=>exact .undef _
 | bool b=>exact .bool b
 | int k n=>exact .int k n
 | flt k n=>exact .flt k n
 | cplx k a b=>exact .cplx k a b
 | str s l h=>exact .str s l h
 | nilp=>exact .nilp
 | ptr=>simp[refFree]at hf
 | tp cs j B o q u hB hq hc h1 hr=>exact .tp cs j B o q u hB hq hc h1 hr
 | nils=>exact .nils
 | sl=>simp[refFree]at hf
 | sle=>simp[refFree]at hf
 | tr sz n f B o cap u hB hn hcp hlen hc h1 hr=>exact .tr sz n f B o cap u hB hn hcp hlen hc h1 hr
 | trn sz f a=>exact .trn sz f a
 | trl sz es _ h hz=>
  refine .trl sz es _ ?_ hz
  generalize hn:es.length=n at h
  generalize (fun i=>es.getD i [])=f at h
  cases h with
  | tr _ _ _ B o cap u hB hn hcp hlen hc h1 hr=>exact .tr sz _ f B o cap u hB hn hcp hlen hc h1 hr
  | trn _ _ a=>exact .trn sz f a
 | agg=>simp[refFree]at hf
 | tup=>simp[refFree]at hf
 | fn=>simp[refFree]at hf
 | nilf=>exact .nilf
 | nilm=>exact .nilm
 | mp=>simp[refFree]at hf
 | sn0=>simp[refFree]at hf
 | sn=>simp[refFree]at hf
 | tn sz n f _ h=>
  refine .tn sz n f _ ?_
  cases h with
  | tr _ _ _ B o cap u hB hn hcp hlen hc h1 hr=>exact .tr sz n f B o cap u hB hn hcp hlen hc h1 hr
  | trn _ _ a=>exact .trn sz f a
theorem RV.flat{w:World}{I:Nat->Prop}{φ φ':Phi}{v:AV}{u:Value}(h:RV w I φ v u)(hf:flatFree v=true):RV w I φ' v u:=by
 cases v with
 | agg cs=>
  cases h with
  | agg _ vs hl h1 hr=>exact .agg cs vs hl h1 fun k c u e e'=>(hr k c u e e').free (List.all_eq_true.1 hf c (List.mem_of_getElem? e))
 | _=>exact h.free hf
theorem RV.one{w:World}{I:Nat->Prop}{φ:Phi}{v:AV}{u:Value}(h:RV w I φ v u)(hs:v.single=true):u.oneCell'=true:=by
 cases h <;> first | rfl | (simp[AV.single]at hs;done) | skip
 case trl hz h=>
  rename_i es
  generalize es.length=n at h
  generalize (fun i=>es.getD i [])=f at h
  cases h <;> rfl
 case tn h=>cases h <;> rfl
def RC(w:World)(I:Nat->Prop)(φ:Phi)(cs:List AV)(vs:Array Value):Prop:=
 cs.length=vs.size/\(∀ (k:Nat) u,vs[k]? = some u->u.oneCell'=true) /\ ∀ (k:Nat) c u,cs[k]? = some c->vs[k]? = some u->RV w I φ c u
theorem RC.one{w:World}{I:Nat->Prop}{φ:Phi}{v:AV}{u:Value}(h:RV w I φ v u)(hu:u.oneCell'=true):RC w I φ [v] #[u]:=by
 refine⟨rfl,fun k x e=>?_,fun k c x e e'=>?_⟩
 ·cases k with
  | zero=>simp at e;exact e ▸ hu
  | succ k=>simp at e
 ·cases k with
  | zero=>simp at e e';exact e ▸ e' ▸ h
  | succ k=>simp at e
theorem RV.cells{w:World}{I:Nat->Prop}{φ:Phi}{v:AV}{u:Value}(h:RV w I φ v u)(hs:v.storable=true):RC w I φ v.cells u.cells:=by
 cases h with
 | agg cs vs hl h1 hr=>exact⟨hl,h1,hr⟩
 | undef=>simp[AV.storable]at hs
 | tup=>simp[AV.storable]at hs
 | trl sz es _ h hz=>
  have h':RV w I φ (.trl sz es) u:=.trl sz es u h hz
  have ho:u.oneCell'=true:=RV.one h' rfl
  have:u.cells = #[u]:=by cases u <;> first | rfl | simp[Value.oneCell']at ho
  rw[this]
  exact RC.one h' ho
 | bool b=>exact RC.one (.bool b) rfl
 | int k n=>exact RC.one (.int k n) rfl
 | flt k n=>exact RC.one (.flt k n) rfl
 | cplx k a b=>exact RC.one (.cplx k a b) rfl
 | str s l h=>exact RC.one (.str s l h) rfl
 | nilp=>exact RC.one .nilp rfl
 | ptr b B o sz i j q h hq=>exact RC.one (.ptr b B o sz i j q h hq) rfl
 | tp cs j B o q u hB hq hc h1 hr=>exact RC.one (.tp cs j B o q u hB hq hc h1 hr) rfl
 | nils=>exact RC.one .nils rfl
 | sl sz b B o off len cm cap q h hq hl hc hz=>exact RC.one (.sl sz b B o off len cm cap q h hq hl hc hz) rfl
 | sle sz b off a=>exact RC.one (.sle sz b off a) rfl
 | tr sz n f B o cap u hB hn hcp hlen hc h1 hr=>exact RC.one (.tr sz n f B o cap u hB hn hcp hlen hc h1 hr) rfl
 | trn sz f a=>exact RC.one (.trn sz f a) rfl
 | fn f a c va vc hla hlc ha hc=>exact RC.one (.fn f a c va vc hla hlc ha hc) rfl
 | sn0 sz b a=>exact RC.one (.sn0 sz b a) rfl
 | sn sz b n B o cap h hl hz=>exact RC.one (.sn sz b n B o cap h hl hz) rfl
 | tn sz n f _ h=>
  have h':RV w I φ (.tn sz n f) u:=.tn sz n f u h
  have ho:u.oneCell'=true:=RV.one h' rfl
  have:u.cells = #[u]:=by cases u <;> first | rfl | simp[Value.oneCell']at ho
  rw[show(AV.tn sz n f).cells=[.tn sz n f] from rfl,this]
  exact RC.one h' ho
 | nilf=>exact RC.one .nilf rfl
 | nilm=>exact RC.one .nilm rfl
 | mp b B h=>exact RC.one (.mp b B h) rfl
theorem RC.mono{w:World}{I:Nat->Prop}{φ:Phi}{cs:List AV}{vs:Array Value}(h:RC w I φ cs vs){w':World}{I':Nat->Prop}{φ':Phi}
  (hI:∀ B,I B->I' B/\w'.heap[B]? = w.heap[B]?) (hs:∀ B,csize w B<=csize w' B) (le:Phi.le φ φ'):RC w' I' φ' cs vs:=
 ⟨h.1,h.2.1,fun k c u e e'=>(h.2.2 k c u e e').mono hI hs le⟩
theorem ofVal1_ok(w:World)(I:Nat->Prop)(φ:Phi)(v:Value):RV w I φ (ofVal1 v) v:=by
 unfold ofVal1
 split <;> first
  | exact .undef _ | exact .bool _ | exact .int _ _ | exact .flt _ _ | exact .cplx _ _ _ | exact .str _ _ rfl | exact .nilf | exact .nilp | exact .nils | exact .nilm
theorem ofVal_ok(w:World)(I:Nat->Prop)(φ:Phi)(v:Value):RV w I φ (ofVal v) v:=by
 unfold ofVal
 split
 ·rename_i cs
  cases h:cs.toList.all one1 with
  | false=>exact .undef _
  | true=>
   simp only[cond_true]
   refine .agg _ cs (by simp) (fun k u e=>?_) fun k c u e e'=>?_
   ·have hm:u ∈ cs.toList:=by
     have:cs.toList[k]? = some u:=by simpa using e
     exact List.mem_of_getElem? this
    have:=(List.all_eq_true.1 h) u hm
    rwa [one1_eq]at this
   ·simp only[List.getElem?_map,Array.getElem?_toList,e',Option.map_some,Option.some.injEq]at e
    exact e ▸ ofVal1_ok w I φ u
 ·exact ofVal1_ok w I φ v
def mutable:BS->Bool
 | .arr m _ _ | .seq m _ _ _ | .map m _ | .iter m _ _ | .sqr m _ _ _ _ _ _ _ | .pmap m _ _ | .piter m _ _ _ _=>m
 | _=>false
theorem live_of_mutable{x:BS}(h:mutable x=true):live x=true:=by cases x <;> simp_all [mutable,live]
def thawed(c:Array Value)(fz:Nat × Nat):Prop:=∀ k,k<c.size -> ¬ (fz.1<=k/\k<fz.2)
def notStr(c:Array Value)(fz:Nat × Nat)(sz:Nat):Prop:=sz=1 \/ ¬ (fz.1<=c.size/\c.size<fz.2)
def Row(w:World)(B:Nat)(m:Bool)(sz:Nat):Prop:=∃ c e fz,w.heap[B]? = some (.cells c e fz)/\(m=true->thawed c fz/\notStr c fz sz)
def PM(w:World)(I:Nat->Prop)(mes:Array MapEntry)(clock:Nat)(ks:List (List UInt8))(val:List UInt8->AV):Prop:=
 mes.size=ks.length/\(∀ (i:Nat) s e,ks[i]? = some s->mes[i]? = some e->(∃ t:ByteArray,e.key=.string t/\s=t.data.toList)/\RV w I Phi.no (val s) e.val) /\
  (∀ (i:Nat) e,mes[i]? = some e->e.born<clock)/\(∀ (i j:Nat) e e',i<j->mes[i]? = some e->mes[j]? = some e'->e.born<e'.born) /\
  ∀ (i j:Nat) s,ks[i]? = some s->ks[j]? = some s->i=j
theorem PM.mono{w:World}{I:Nat->Prop}{mes:Array MapEntry}{clock:Nat}{ks:List (List UInt8)}{val:List UInt8->AV}(h:PM w I mes clock ks val){w':World}{I':Nat->Prop}
  (hI:∀ B,I B->I' B/\w'.heap[B]? = w.heap[B]?) (hs:∀ B,csize w B<=csize w' B):PM w' I' mes clock ks val:=
 ⟨h.1,fun i s e a b=>let ⟨x,y⟩:=h.2.1 i s e a b;⟨x,y.mono hI hs (Phi.le_refl _)⟩,h.2.2⟩
def RB(w:World)(I:Nat->Prop)(φ:Phi)(B o sz:Nat):BS->Prop
 | .arr m s es=>s=sz/\Row w B m sz/\(∀ (i:Nat) cs,es[i]? = some cs->cs.length=sz) /\
   ∀ (i:Nat) cs (k:Nat) c,es[i]? = some cs->cs[k]? = some c -> ∃ u,w.cell? ⟨B,o+i*sz+k,none⟩=some u/\u.oneCell'=true/\RV w I φ c u
 | .seq m s n f=>s=sz/\Row w B m sz/\(∀ i,i<n->(f i).length=sz) /\
   ∀ (i k:Nat) c,i<n->(f i)[k]? = some c -> ∃ u,w.cell? ⟨B,o+i*sz+k,none⟩=some u/\u.oneCell'=true/\RV w I Phi.no c u
 | .map _ es=>o=0/\sz=0 /\ ∃ mes clock,w.heap[B]? = some (.map mes clock)/\mes.size=es.length /\
   (∀ (i:Nat) kv e,es[i]? = some kv->mes[i]? = some e->RV w I φ kv.1 e.key/\RV w I φ kv.2 e.val/\kv.1.single=true) /\ ∀ (i:Nat) e,mes[i]? = some e->e.born<clock
 | .iter _ es st=>o=0/\sz=0 /\ ∃ mm since seen mes clock,w.heap[B]? = some (.mapIter (some mm) since seen clock)/\I mm/\w.heap[mm]? = some (.map mes clock)/\mes.size=es.length/\es.length<=1 /\
   (∀ (i:Nat) kv e,es[i]? = some kv->mes[i]? = some e->RV w I Phi.no kv.1 e.key/\RV w I Phi.no kv.2 e.val)/\(∀ (i:Nat) e,mes[i]? = some e->e.born<since/\e.born<clock) /\
   seen=(bif st then mes.map (·.born)else #[])
 | .sqr m s n f i0 c0 _ _=>s=sz/\Row w B m sz/\(∀ i,i<n->(rowX f i0 c0 i).length=sz) /\
   ∀ (i k:Nat) c,i<n->(rowX f i0 c0 i)[k]? = some c -> ∃ u,w.cell? ⟨B,o+i*sz+k,none⟩=some u/\u.oneCell'=true/\RV w I φ c u
 | .pmap _ ks val=>o=0/\sz=0 /\ ∃ mes clock,w.heap[B]? = some (.map mes clock)/\PM w I mes clock ks val
 | .piter _ ks val rem cur=>o=0/\sz=0 /\ ∃ mm since seen mes clock,w.heap[B]? = some (.mapIter (some mm) since seen clock)/\I mm/\w.heap[mm]? = some (.map mes clock)/\PM w I mes clock ks val /\
   (since<=clock /\ ∀ (i:Nat) e,mes[i]? = some e->e.born<since)/\(∀ (i:Nat) s e,ks[i]? = some s->mes[i]? = some e->(e.born ∈ seen ↔ s ∉ rem))/\(∀ s ∈ rem,s ∈ ks) /\
   ∀ s,cur=some s -> ∃ (i:Nat) (e:MapEntry) (seen0:Array Nat),ks[i]? = some s/\mes[i]? = some e/\seen=seen0.push e.born
 | _=>True
theorem RB.mono{w:World}{I:Nat->Prop}{φ:Phi}{B o sz:Nat}{x:BS}(h:RB w I φ B o sz x){w':World}{I':Nat->Prop}{φ':Phi}
  (hI:∀ B,I B->I' B/\w'.heap[B]? = w.heap[B]?) (hs:∀ B,csize w B<=csize w' B) (le:Phi.le φ φ') (hB:w'.heap[B]? = w.heap[B]?):RB w' I' φ' B o sz x:=by
 have hcell:∀ q,w'.cell? ⟨B,q,none⟩=w.cell? ⟨B,q,none⟩:=fun q=>by simp[World.cell?,hB]
 cases x with
 | none=>trivial
 | dead=>trivial
 | arr m s es=>
  obtain⟨h0,⟨c,e,fz,hc,hf⟩,h1,h2⟩:=h
  refine⟨h0,⟨c,e,fz,hB.trans hc,hf⟩,h1,fun i cs k c e e'=>?_⟩
  obtain⟨u,a,b,r⟩:=h2 i cs k c e e'
  exact⟨u,(hcell _).trans a,b,r.mono hI hs le⟩
 | seq m s n f=>
  obtain⟨h0,⟨c,e,fz,hc,hf⟩,h1,h2⟩:=h
  refine⟨h0,⟨c,e,fz,hB.trans hc,hf⟩,h1,fun i k c e e'=>?_⟩
  obtain⟨u,a,b,r⟩:=h2 i k c e e'
  exact⟨u,(hcell _).trans a,b,r.mono hI hs (Phi.le_refl _)⟩
 | map m es=>
  obtain⟨h0,h1,mes,clock,hm,hsz,h2,hbn⟩:=h
  refine⟨h0,h1,mes,clock,hB.trans hm,hsz,fun i kv e a b=>?_,hbn⟩
  obtain⟨x,y,z⟩:=h2 i kv e a b
  exact⟨x.mono hI hs le,y.mono hI hs le,z⟩
 | iter m es st=>
  obtain⟨h0,h1,mm,since,seen,mes,clock,hm,hi,hmm,hsz,hle,h2,hbn,hseen⟩:=h
  refine⟨h0,h1,mm,since,seen,mes,clock,hB.trans hm,(hI mm hi).1,(hI mm hi).2.trans hmm,hsz,hle,fun i kv e a b=>?_,hbn,hseen⟩
  obtain⟨x,y⟩:=h2 i kv e a b
  exact⟨x.mono hI hs (Phi.le_refl _),y.mono hI hs (Phi.le_refl _)⟩
 | sqr m s n f i0 c0 ks cur=>
  obtain⟨h0,⟨c,e,fz,hc,hf⟩,h1,h2⟩:=h
  refine⟨h0,⟨c,e,fz,hB.trans hc,hf⟩,h1,fun i k c e e'=>?_⟩
  obtain⟨u,a,b,r⟩:=h2 i k c e e'
  exact⟨u,(hcell _).trans a,b,r.mono hI hs le⟩
 | pmap m ks val=>
  obtain⟨h0,h1,mes,clock,hm,hp⟩:=h
  exact⟨h0,h1,mes,clock,hB.trans hm,hp.mono hI hs⟩
 | piter m ks val rem cur=>
  obtain⟨h0,h1,mm,since,seen,mes,clock,hm,hi,hmm,hp,hr⟩:=h
  exact⟨h0,h1,mm,since,seen,mes,clock,hB.trans hm,(hI mm hi).1,(hI mm hi).2.trans hmm,hp.mono hI hs,hr⟩
def phantom:BS->Prop
 | .seq _ _ n _=>n=0
 | _=>False
structure RH(w:World)(I:Nat->Prop)(φ:Phi)(rd:Nat->BS):Prop where
 none:∀ b,rd b=.none->φ b=.none
 blk:∀ b,live (rd b)=true->(∃ B o sz,φ b=some (B,o,sz)/\RB w I φ B o sz (rd b))\/(φ b=Option.none/\phantom (rd b))
 inj:∀ b b' B o sz o' sz',mutable (rd b)=true->mutable (rd b')=true->φ b=some (B,o,sz)->φ b'=some (B,o',sz')->b=b'
 disj:∀ b B o sz,mutable (rd b)=true->φ b=some (B,o,sz) -> ¬ I B
 imm:∀ b B o sz,live (rd b)=true->mutable (rd b)=false->φ b=some (B,o,sz)->I B
 lt:∀ B,I B->B<w.heap.size
theorem RH.at{w:World}{I:Nat->Prop}{φ:Phi}{rd:Nat->BS}(h:RH w I φ rd){b B o sz:Nat}(e:φ b=some (B,o,sz))(hl:live (rd b)=true):RB w I φ B o sz (rd b):=by
 rcases h.blk b hl with ⟨B',o',sz',e',r⟩ | ⟨e',_⟩
 ·rw[e]at e';cases e';exact r
 ·rw[e]at e';cases e'
theorem RH.blkO{w:World}{I:Nat->Prop}{φ:Phi}{rd:Nat->BS}(h:RH w I φ rd){b:Nat}{p:Nat × Nat × Nat}(e:φ b=some p)(hl:live (rd b)=true):∃ B o sz,φ b=some (B,o,sz)/\RB w I φ B o sz (rd b):=
 ⟨p.1,p.2.1,p.2.2,e,h.at e hl⟩
theorem RH.blkN{w:World}{I:Nat->Prop}{φ:Phi}{rd:Nat->BS}(h:RH w I φ rd){b:Nat}(hn:¬ phantom (rd b))(hl:live (rd b)=true):∃ B o sz,φ b=some (B,o,sz)/\RB w I φ B o sz (rd b):=
 (h.blk b hl).elim id fun h=>absurd h.2 hn
def Mut(φ:Phi)(rd:Nat->BS)(B:Nat):Prop:=∃ b o sz,mutable (rd b)=true/\φ b=some (B,o,sz)
structure Ext(M:Nat->Prop)(w w':World):Prop where
 os:w'.os=w.os
 tape:w'.tape=w.tape
 output:w'.output=w.output
 size:w.heap.size<=w'.heap.size
 keep:∀ B,B<w.heap.size -> ¬ M B->w'.heap[B]? = w.heap[B]?
 shape:∀ (B:Nat) c e fz,w.heap[B]? = some (.cells c e fz) -> ∃ c',w'.heap[B]? = some (.cells c' e fz)/\c'.size=c.size
 back:∀ (B:Nat) c e fz,B<w.heap.size->w'.heap[B]? = some (.cells c e fz) -> ∃ c0,w.heap[B]? = some (.cells c0 e fz)/\c0.size=c.size
theorem Ext.refl(M:Nat->Prop)(w:World):Ext M w w:=⟨rfl,rfl,rfl,Nat.le_refl _,fun _ _ _=>rfl,fun _ c _ _ h=>⟨c,h,rfl⟩,fun _ c _ _ _ h=>⟨c,h,rfl⟩⟩
theorem Ext.csize{M:Nat->Prop}{w w':World}(h:Ext M w w')(B:Nat):csize w B<=csize w' B:=by
 unfold AM.csize
 cases e:w.heap[B]? with
 | none=>simp
 | some o=>
  cases o with
  | cells c t fz=>obtain⟨c',e',hs⟩:=h.shape B c t fz e;simp[e',hs]
  | _=>simp
theorem Ext.trans{M M':Nat->Prop}{w w' w'':World}(h:Ext M w w')(h':Ext M' w' w'')(hM:∀ B,M' B->M B\/w.heap.size<=B):Ext M w w'':=
 ⟨h'.os.trans h.os,h'.tape.trans h.tape,h'.output.trans h.output,Nat.le_trans h.size h'.size,
  fun B hB hn=>(h'.keep B (Nat.lt_of_lt_of_le hB h.size) (fun hm=>(hM B hm).elim hn (fun h=>by omega))).trans (h.keep B hB hn),
  fun B c e fz hc=>let ⟨c',e',s⟩:=h.shape B c e fz hc;let ⟨c'',e'',s'⟩:=h'.shape B c' e fz e';⟨c'',e'',s'.trans s⟩,
  fun B c e fz hB hc=>let ⟨c',e',s⟩:=h'.back B c e fz (Nat.lt_of_lt_of_le hB h.size) hc;let ⟨c'',e'',s'⟩:=h.back B c' e fz hB e';⟨c'',e'',s'.trans s⟩⟩
theorem Ext.weaken{M M':Nat->Prop}{w w':World}(h:Ext M w w')(hM:∀ B,M B->M' B):Ext M' w w':=
 ⟨h.os,h.tape,h.output,h.size,fun B hB hn=>h.keep B hB (fun hm=>hn (hM B hm)),h.shape,h.back⟩
structure Step(base:Nat)(rd:Nat->BS)(φ:Phi)(I:Nat->Prop)(w:World)(rd':Nat->BS)(φ':Phi)(I':Nat->Prop)(w':World):Prop where
 le:∀ b p,b<base->φ b=some p->φ' b=some p
 Ile:∀ B,I B->I' B
 Inew:∀ B,I' B->I B\/Mut φ rd B\/w.heap.size<=B
 mt:∀ B,Mut φ' rd' B->Mut φ rd B\/w.heap.size<=B
 ext:Ext (Mut φ rd) w w'
theorem Step.refl(base:Nat)(rd:Nat->BS)(φ:Phi)(I:Nat->Prop)(w:World):Step base rd φ I w rd φ I w:=
 ⟨fun _ _ _ h=>h,fun _ h=>h,fun _ h=>.inl h,fun _ h=>.inl h,Ext.refl _ _⟩
theorem Step.trans{base:Nat}{rd rd' rd'':Nat->BS}{φ φ' φ'':Phi}{I I' I'':Nat->Prop}{w w' w'':World}
  (h:Step base rd φ I w rd' φ' I' w') (h':Step base rd' φ' I' w' rd'' φ'' I'' w''):Step base rd φ I w rd'' φ'' I'' w'':=
 ⟨fun b p hb e=>h'.le b p hb (h.le b p hb e),fun B hB=>h'.Ile B (h.Ile B hB),
  fun B hB=>(h'.Inew B hB).elim (fun x=>h.Inew B x) (fun x=>x.elim (fun y=>.inr (h.mt B y)) (fun y=>.inr (.inr (Nat.le_trans h.ext.size y)))),
  fun B hB=>(h'.mt B hB).elim (fun x=>h.mt B x) (fun x=>.inr (Nat.le_trans h.ext.size x)),
  h.ext.trans h'.ext h.mt⟩
theorem Step.mono{base base':Nat}{rd rd':Nat->BS}{φ φ':Phi}{I I':Nat->Prop}{w w':World}(h:Step base rd φ I w rd' φ' I' w')(hb:base'<=base) :
  Step base' rd φ I w rd' φ' I' w':=⟨fun b p hlt e=>h.le b p (Nat.lt_of_lt_of_le hlt hb) e,h.Ile,h.Inew,h.mt,h.ext⟩
theorem RV.step{w w':World}{I I':Nat->Prop}{φ φ':Phi}{rd rd':Nat->BS}{base:Nat}{v:AV}{u:Value}(h:RV w I φ v u)(hh:RH w I φ rd)
  (s:Step base rd φ I w rd' φ' I' w') (le:Phi.le φ φ'):RV w' I' φ' v u:=
 h.mono (fun B hB=>⟨s.Ile B hB,s.ext.keep B (hh.lt B hB) (fun⟨b,o,sz,hm,e⟩=>hh.disj b B o sz hm e hB)⟩) s.ext.csize le
def rdput(rd:Nat->BS)(b:Nat)(x:BS):Nat->BS:=fun b'=>if b'=b then x else rd b'
def rdputs(rd:Nat->BS):Wr->Nat->BS
 | []=>rd
 | (b,x)::r=>rdputs (rdput rd b x) r
@[simp] theorem rdput_same(rd:Nat->BS)(b:Nat)(x:BS):rdput rd b x b=x:=by simp[rdput]
theorem rdput_ne(rd:Nat->BS){b b':Nat}(x:BS)(h:b' ≠ b):rdput rd b x b'=rd b':=by simp[rdput,h]
theorem hget_hput(h:Heap)(b:Nat)(x:BS)(b':Nat):hget (hput h b x) b'=rdput (hget h) b x b':=by
 induction b generalizing h b' with
 | zero=>cases h <;> cases b' <;> simp[hput,hget,rdput]
 | succ b ih=>
  cases h with
  | nil=>
   cases b' with
   | zero=>simp[hput,hget,rdput]
   | succ b'=>have:=ih [] b';simp[hput,hget,rdput]at this ⊢;simpa using this
  | cons y h=>
   cases b' with
   | zero=>simp[hput,hget,rdput]
   | succ b'=>have:=ih h b';simp[hput,hget,rdput]at this ⊢;simpa using this
theorem hget_hputs(h:Heap)(l:Wr):hget (hputs h l)=rdputs (hget h) l:=by
 induction l generalizing h with
 | nil=>rfl
 | cons p r ih=>
  obtain⟨b,x⟩:=p
  show hget (hputs (hput h b x) r)=_
  rw[ih]
  have:hget (hput h b x)=rdput (hget h) b x:=funext (hget_hput h b x)
  rw[this]
  rfl
def Phi.set(φ:Phi)(b:Nat)(p:Nat × Nat × Nat):Phi:=fun b'=>if b'=b then some p else φ b'
@[simp] theorem Phi.set_same(φ:Phi)(b:Nat)(p:Nat × Nat × Nat):φ.set b p b=some p:=by simp[Phi.set]
theorem Phi.set_ne(φ:Phi){b b':Nat}(p:Nat × Nat × Nat)(h:b' ≠ b):φ.set b p b'=φ b':=by simp[Phi.set,h]
theorem Phi.le_set{φ:Phi}{b:Nat}(h:φ b=none)(p:Nat × Nat × Nat):Phi.le φ (φ.set b p):=by
 intro b' q e
 by_cases hb:b'=b
 ·subst hb;rw[h]at e;cases e
 ·rw[Phi.set_ne _ _ hb];exact e
def World.setBlk(w:World)(B:Nat)(o:Obj):World:={w with heap:=w.heap.setIfInBounds B o}
theorem setBlk_same{w:World}{B:Nat}{o:Obj}(h:B<w.heap.size):(World.setBlk w B o).heap[B]? = some o:=by
 simp[World.setBlk,h]
theorem setBlk_ne{w:World}{B B':Nat}{o:Obj}(h:B' ≠ B):(World.setBlk w B o).heap[B']? = w.heap[B']? := by
 simp only[World.setBlk]
 rw[Array.getElem?_setIfInBounds_ne (fun e=>h e.symm)]
@[simp] theorem setBlk_size(w:World)(B:Nat)(o:Obj):(World.setBlk w B o).heap.size=w.heap.size:=by simp[World.setBlk]
theorem lt_of_heap{w:World}{B:Nat}{o:Obj}(h:w.heap[B]? = some o):B<w.heap.size:=by
 rcases Nat.lt_or_ge B w.heap.size with h' | h'
 ·exact h'
 ·rw[Array.getElem?_eq_none h']at h;cases h
theorem alloc_new(w:World)(o:Obj):(w.alloc o).heap[w.heap.size]? = some o:=by
 show(w.heap.push o)[w.heap.size]? = _
 simp
theorem alloc_old(w:World)(o:Obj){B:Nat}(h:B<w.heap.size):(w.alloc o).heap[B]? = w.heap[B]? := by
 show(w.heap.push o)[B]? = _
 rw[Array.getElem?_push,if_neg (by omega)]
def okObj(o:Obj):Prop:=∀ c e fz,o=.cells c e fz->thawed c fz
theorem okObj.row{c:Array Value}{e:TypeId}:okObj (.cells c e):=fun c' e' fz h=>by
 cases h
 exact fun k _ h=>Nat.lt_irrefl 0 (Nat.lt_of_le_of_lt (Nat.zero_le _) h.2)
theorem Ext.alloc(M:Nat->Prop)(w:World)(o:Obj)(ho:okObj o):Ext M w (w.alloc o):=
 ⟨rfl,rfl,rfl,by simp,fun B hB _=>alloc_old w o hB,fun B c e fz h=>⟨c,(alloc_old w o (lt_of_heap h)).trans h,rfl⟩,
  fun B c e fz hB h=>⟨c,(alloc_old w o hB).symm.trans h,rfl⟩⟩
theorem csize_alloc(w:World)(o:Obj)(B:Nat):csize w B<=csize (w.alloc o) B:=by
 unfold csize
 cases e:w.heap[B]? with
 | none=>exact Nat.zero_le _
 | some x=>rw[alloc_old w o (lt_of_heap e),e];exact Nat.le_refl _
theorem Ext.drew(M:Nat->Prop)(w:World):Ext M w w.drew:=
 ⟨rfl,rfl,rfl,Nat.le_refl _,fun _ _ _=>rfl,fun _ c _ _ h=>⟨c,h,rfl⟩,fun _ c _ _ _ h=>⟨c,h,rfl⟩⟩
theorem Ext.setBlk{M:Nat->Prop}{w:World}{B:Nat}{c c':Array Value}{e:TypeId}{fz:Nat × Nat}(h:w.heap[B]? = some (.cells c e fz))(hs:c'.size=c.size)
  (hM:M B):Ext M w (World.setBlk w B (.cells c' e fz)):=by
 refine⟨rfl,rfl,rfl,by simp,fun B' _ hn=>setBlk_ne (fun e=>hn (e ▸ hM)),fun B' c1 e1 fz1 h1=>?_,fun B' c1 e1 fz1 _ h1=>?_⟩
 ·by_cases hb:B'=B
  ·subst hb
   rw[h]at h1
   cases h1
   exact⟨c',setBlk_same (lt_of_heap h),hs⟩
  ·exact⟨c1,(setBlk_ne hb).trans h1,rfl⟩
 ·by_cases hb:B'=B
  ·subst hb
   rw[setBlk_same (lt_of_heap h)]at h1
   cases h1
   exact⟨c,h,hs.symm⟩
  ·exact⟨c1,(setBlk_ne hb).symm.trans h1,rfl⟩
theorem RH.change{w w':World}{I:Nat->Prop}{φ φ':Phi}{rd rd':Nat->BS}(h:RH w I φ rd)(le:Phi.le φ φ')(ext:Ext (Mut φ rd) w w')(C:Nat->Prop)
  (hsame:∀ b,¬ C b->rd' b=rd b/\φ' b=φ b)
  (hkeep:∀ b B o sz,¬ C b->live (rd b)=true->φ b=some (B,o,sz)->w'.heap[B]? = w.heap[B]?)
  (hnew:∀ b,C b->(rd' b=.none->φ' b=.none)/\(live (rd' b)=true->mutable (rd' b)=true /\ ∃ B o sz,φ' b=some (B,o,sz)/\RB w' I φ' B o sz (rd' b) /\ ¬ I B /\
   ∀ b',b' ≠ b->mutable (rd' b')=true -> ∀ o' sz',φ' b' ≠ some (B,o',sz'))):RH w' I φ' rd':=by
 have hI:∀ B,I B->I B/\w'.heap[B]? = w.heap[B]? := fun B hB=>⟨hB,ext.keep B (h.lt B hB) fun⟨b,o,sz,hm,e⟩=>h.disj b B o sz hm e hB⟩
 refine⟨fun b e=>?_,fun b hl=>?_,fun b b' B o sz o' sz' hm hm' e e'=>?_,fun b B o sz hm e hB=>?_,fun b B o sz hl hm e=>?_,fun B hB=>Nat.lt_of_lt_of_le (h.lt B hB) ext.size⟩
 ·by_cases hC:C b
  ·exact(hnew b hC).1 e
  ·obtain⟨h1,h2⟩:=hsame b hC;rw[h2];exact h.none b (h1 ▸ e)
 ·by_cases hC:C b
  ·obtain⟨_,B,o,sz,e,r,_⟩:=(hnew b hC).2 hl;exact .inl ⟨B,o,sz,e,r⟩
  ·obtain⟨h1,h2⟩:=hsame b hC
   rw[h1]at hl ⊢
   rcases h.blk b hl with ⟨B,o,sz,e,r⟩ | ⟨e,hp⟩
   ·exact .inl ⟨B,o,sz,by rw[h2];exact e,r.mono hI ext.csize le (hkeep b B o sz hC hl e)⟩
   ·exact .inr ⟨h2.trans e,hp⟩
 ·by_cases hC:C b
  ·obtain⟨_,B1,o1,s1,e1,_,_,hd⟩:=(hnew b hC).2 (live_of_mutable hm)
   rw[e1]at e;cases e
   by_cases hb:b'=b
   ·exact hb.symm
   ·exact absurd e' (hd b' hb hm' _ _)
  ·by_cases hC':C b'
   ·obtain⟨_,B1,o1,s1,e1,_,_,hd⟩:=(hnew b' hC').2 (live_of_mutable hm')
    rw[e1]at e';cases e'
    by_cases hb:b=b'
    ·exact hb
    ·exact absurd e (hd b hb hm _ _)
   ·obtain⟨h1,h2⟩:=hsame b hC
    obtain⟨h3,h4⟩:=hsame b' hC'
    rw[h1]at hm;rw[h3]at hm';rw[h2]at e;rw[h4]at e'
    exact h.inj b b' B o sz o' sz' hm hm' e e'
 ·by_cases hC:C b
  ·obtain⟨_,B1,o1,s1,e1,_,hn,_⟩:=(hnew b hC).2 (live_of_mutable hm)
   rw[e1]at e;cases e;exact hn hB
  ·obtain⟨h1,h2⟩:=hsame b hC
   rw[h1]at hm;rw[h2]at e;exact h.disj b B o sz hm e hB
 ·by_cases hC:C b
  ·obtain⟨hm',_⟩:=(hnew b hC).2 hl;rw[hm']at hm;cases hm
  ·obtain⟨h1,h2⟩:=hsame b hC
   rw[h1]at hm hl;rw[h2]at e;exact h.imm b B o sz hl hm e
theorem RH.alloc{w:World}{I:Nat->Prop}{φ:Phi}{rd:Nat->BS}(h:RH w I φ rd){nx:Nat}(hn:rd nx=.none)(o:Obj)(x:BS)(sz:Nat)
  (hm:mutable x=true) (hx:RB (w.alloc o) I (φ.set nx (w.heap.size,0,sz)) w.heap.size 0 sz x) (ho:okObj o) (base:Nat) :
  RH (w.alloc o) I (φ.set nx (w.heap.size,0,sz)) (rdput rd nx x)/\Step base rd φ I w (rdput rd nx x) (φ.set nx (w.heap.size,0,sz)) I (w.alloc o)/\Phi.le φ (φ.set nx (w.heap.size,0,sz)):=by
 have hφ:=h.none nx hn
 have le:=Phi.le_set hφ (w.heap.size,0,sz)
 have hlt:∀ b B o sz,live (rd b)=true->φ b=some (B,o,sz)->RB w I φ B o sz (rd b)->B<w.heap.size:=by
  intro b B o sz hl e r
  cases hx:rd b with
  | arr m s es=>rw[hx]at r;obtain⟨_,⟨c,t,fz,hc,_⟩,_⟩:=r;exact lt_of_heap hc
  | seq m s n f=>rw[hx]at r;obtain⟨_,⟨c,t,fz,hc,_⟩,_⟩:=r;exact lt_of_heap hc
  | map m es=>rw[hx]at r;obtain⟨_,_,mes,clock,hc,_⟩:=r;exact lt_of_heap hc
  | iter m es st=>rw[hx]at r;obtain⟨_,_,mm,since,seen,mes,clock,hc,_⟩:=r;exact lt_of_heap hc
  | sqr m s n f i0 c0 ks cur=>rw[hx]at r;obtain⟨_,⟨c,t,fz,hc,_⟩,_⟩:=r;exact lt_of_heap hc
  | pmap m ks val=>rw[hx]at r;obtain⟨_,_,mes,clock,hc,_⟩:=r;exact lt_of_heap hc
  | piter m ks val rem cur=>rw[hx]at r;obtain⟨_,_,mm,since,seen,mes,clock,hc,_⟩:=r;exact lt_of_heap hc
  | none=>rw[hx]at hl;cases hl
  | dead=>rw[hx]at hl;cases hl
 have hlt':∀ b B o sz,live (rd b)=true->φ b=some (B,o,sz)->B<w.heap.size:=by
  intro b B o sz hl e
  obtain⟨B',o',sz',e',r⟩:=h.blkO e hl
  rw[e]at e';cases e'
  exact hlt b B o sz hl e r
 refine⟨h.change le (Ext.alloc _ w o ho) (· = nx) (fun b hb=>⟨rdput_ne _ _ hb,Phi.set_ne _ _ hb⟩) (fun b B o' sz' _ hl e=>alloc_old w o (hlt' b B o' sz' hl e)) ?_,
  ⟨fun b p _ e=>le b p e,fun _ hB=>hB,fun _ hB=>.inl hB,?_,Ext.alloc _ w o ho⟩,le⟩
 ·rintro b rfl
  refine⟨(fun e=>(by rw[rdput_same]at e;rw[e]at hm;cases hm)),fun _=>⟨by rw[rdput_same];exact hm,_,0,sz,Phi.set_same _ _ _,by rw[rdput_same];exact hx,fun hI=>Nat.lt_irrefl _ (h.lt _ hI),?_⟩⟩
  intro b' hb hm' o' sz' e
  rw[rdput_ne _ _ hb]at hm'
  rw[Phi.set_ne _ _ hb]at e
  exact Nat.lt_irrefl _ (hlt' b' _ _ _ (live_of_mutable hm') e)
 ·rintro B ⟨b,o',sz',hm',e⟩
  by_cases hb:b=nx
  ·subst hb;rw[Phi.set_same]at e;cases e;exact .inr (Nat.le_refl _)
  ·rw[rdput_ne _ _ hb]at hm';rw[Phi.set_ne _ _ hb]at e;exact .inl ⟨b,o',sz',hm',e⟩
theorem RH.write{w:World}{I:Nat->Prop}{φ:Phi}{rd:Nat->BS}(h:RH w I φ rd){b B o sz:Nat}(hb:φ b=some (B,o,sz))(hm:mutable (rd b)=true)
  {c c':Array Value} {e:TypeId} {fz:Nat × Nat} (hc:w.heap[B]? = some (.cells c e fz)) (hs:c'.size=c.size) (x:BS) (hxm:mutable x=true)
  (hx:RB (World.setBlk w B (.cells c' e fz)) I φ B o sz x) (base:Nat) :
  RH (World.setBlk w B (.cells c' e fz)) I φ (rdput rd b x)/\Step base rd φ I w (rdput rd b x) φ I (World.setBlk w B (.cells c' e fz)):=by
 have hM:Mut φ rd B:=⟨b,o,sz,hm,hb⟩
 have ext:=Ext.setBlk (M:=Mut φ rd) hc hs hM
 refine⟨h.change (Phi.le_refl _) ext (· = b) (fun b' hb'=>⟨rdput_ne _ _ hb',rfl⟩) ?_ ?_,⟨fun _ _ _ e=>e,fun _ hB=>hB,fun _ hB=>.inl hB,?_,ext⟩⟩
 ·intro b' B' o' sz' hne hl e'
  refine setBlk_ne fun hB=>?_
  subst hB
  cases hmm:mutable (rd b')with
  | true=>exact hne (h.inj b' b _ _ _ _ _ hmm hm e' hb)
  | false=>exact h.disj b _ _ _ hm hb (h.imm b' _ _ _ hl hmm e')
 ·rintro b' rfl
  refine⟨(fun e'=>(by rw[rdput_same]at e';rw[e']at hxm;cases hxm)),fun _=>⟨by rw[rdput_same];exact hxm,B,o,sz,hb,by rw[rdput_same];exact hx,h.disj _ _ _ _ hm hb,?_⟩⟩
  intro b'' hne hm'' o' sz' e'
  rw[rdput_ne _ _ hne]at hm''
  exact hne (h.inj _ _ _ _ _ _ _ hm'' hm e' hb)
 ·rintro B' ⟨b',o',sz',hm',e'⟩
  by_cases hbb:b'=b
  ·subst hbb;rw[hb]at e';cases e';exact .inl hM
  ·rw[rdput_ne _ _ hbb]at hm';exact .inl ⟨b',o',sz',hm',e'⟩
theorem RH.move{w:World}{I:Nat->Prop}{φ:Phi}{rd:Nat->BS}(h:RH w I φ rd){b nx B o sz:Nat}(hb:φ b=some (B,o,sz))(hm:mutable (rd b)=true)(hn:rd nx=.none)
  {c c':Array Value} {e:TypeId} {fz:Nat × Nat} (hc:w.heap[B]? = some (.cells c e fz)) (hs:c'.size=c.size) (x:BS) (o':Nat) (hxm:mutable x=true)
  (hx:RB (World.setBlk w B (.cells c' e fz)) I (φ.set nx (B,o',sz)) B o' sz x) (base:Nat) :
  RH (World.setBlk w B (.cells c' e fz)) I (φ.set nx (B,o',sz)) (rdput (rdput rd b .dead) nx x) /\
   Step base rd φ I w (rdput (rdput rd b .dead) nx x) (φ.set nx (B,o',sz)) I (World.setBlk w B (.cells c' e fz))/\Phi.le φ (φ.set nx (B,o',sz)):=by
 have hM:Mut φ rd B:=⟨b,o,sz,hm,hb⟩
 have ext:=Ext.setBlk (M:=Mut φ rd) hc hs hM
 have le:=Phi.le_set (h.none nx hn) (B,o',sz)
 have hbn:b ≠ nx:=by rintro rfl;rw[hn]at hm;cases hm
 refine⟨h.change le ext (fun b'=>b'=b\/b'=nx) (fun b' hb'=>⟨by rw[rdput_ne _ _ (fun e=>hb' (.inr e)),rdput_ne _ _ (fun e=>hb' (.inl e))],Phi.set_ne _ _ (fun e=>hb' (.inr e))⟩) ?_ ?_,
  ⟨fun b' p _ e'=>le b' p e',fun _ hB=>hB,fun _ hB=>.inl hB,?_,ext⟩,le⟩
 ·intro b' B' o'' sz' hne hl e'
  refine setBlk_ne fun hB=>?_
  subst hB
  cases hmm:mutable (rd b')with
  | true=>exact hne (.inl (h.inj b' b _ _ _ _ _ hmm hm e' hb))
  | false=>exact h.disj b _ _ _ hm hb (h.imm b' _ _ _ hl hmm e')
 ·intro b' hb'
  by_cases hx':b'=nx
  ·subst hx'
   refine⟨(fun e'=>(by rw[rdput_same]at e';rw[e']at hxm;cases hxm)),fun _=>⟨by rw[rdput_same];exact hxm,B,o',sz,Phi.set_same _ _ _,by rw[rdput_same];exact hx,h.disj _ _ _ _ hm hb,?_⟩⟩
   intro b'' hne hm'' o'' sz' e'
   rw[rdput_ne _ _ hne]at hm''
   rw[Phi.set_ne _ _ hne]at e'
   by_cases h2:b''=b
   ·subst h2;rw[rdput_same]at hm'';cases hm''
   ·rw[rdput_ne _ _ h2]at hm''
    exact h2 (h.inj _ _ _ _ _ _ _ hm'' hm e' hb)
  ·have h3:b'=b:=hb'.resolve_right hx'
   subst h3
   rw[rdput_ne _ _ hx',rdput_same]
   exact⟨(fun e'=>(by cases e')),(fun e'=>(by cases e'))⟩
 ·rintro B' ⟨b',o'',sz',hm',e'⟩
  by_cases hx':b'=nx
  ·subst hx';rw[Phi.set_same]at e';cases e';exact .inl hM
  ·rw[rdput_ne _ _ hx']at hm'
   rw[Phi.set_ne _ _ hx']at e'
   by_cases h2:b'=b
   ·subst h2;rw[rdput_same]at hm';cases hm'
   ·rw[rdput_ne _ _ h2]at hm';exact .inl ⟨b',o'',sz',hm',e'⟩
theorem RH.phan{w:World}{I:Nat->Prop}{φ:Phi}{rd:Nat->BS}(h:RH w I φ rd){nx:Nat}(hn:rd nx=.none)(m:Bool)(sz:Nat)(f:Nat->List AV) :
  RH w I φ (rdput rd nx (.seq m sz 0 f)) /\ ∀ base,Step base rd φ I w (rdput rd nx (.seq m sz 0 f)) φ I w:=by
 have hφ:=h.none nx hn
 have hm:∀ {b B o sz'},φ b=some (B,o,sz')->rdput rd nx (.seq m sz 0 f) b=rd b:=fun {b B o sz'} e=>by
  refine rdput_ne _ _ ?_
  rintro rfl
  rw[hφ]at e;cases e
 refine⟨⟨fun b e=>?_,fun b hl=>?_,fun b b' B o s o' s' hb hb' e e'=>h.inj b b' B o s o' s' (hm e ▸ hb) (hm e' ▸ hb') e e',fun b B o s hb e=>h.disj b B o s (hm e ▸ hb) e,fun b B o s hl hb e=>h.imm b B o s (hm e ▸ hl) (hm e ▸ hb) e,h.lt⟩,
  fun base=>⟨fun _ _ _ e=>e,fun _ hB=>hB,fun _ hB=>.inl hB,fun B ⟨b,o,s,hb,e⟩=>.inl ⟨b,o,s,hm e ▸ hb,e⟩,Ext.refl _ _⟩⟩
 ·by_cases hb:b=nx
  ·subst hb;exact hφ
  ·rw[rdput_ne _ _ hb]at e;exact h.none b e
 ·by_cases hb:b=nx
  ·subst hb;exact .inr ⟨hφ,by rw[rdput_same];rfl⟩
  ·rw[rdput_ne _ _ hb]at hl ⊢;exact h.blk b hl
theorem RH.kill{w:World}{I:Nat->Prop}{φ:Phi}{rd:Nat->BS}(h:RH w I φ rd)(b:Nat)(hb:live (rd b)=true)(base:Nat) :
  RH w I φ (rdput rd b .dead)/\Step base rd φ I w (rdput rd b .dead) φ I w:=by
 refine⟨h.change (Phi.le_refl _) (Ext.refl _ _) (· = b) (fun b' hb'=>⟨rdput_ne _ _ hb',rfl⟩) (fun _ _ _ _ _ _ _=>rfl) ?_,⟨fun _ _ _ e=>e,fun _ hB=>hB,fun _ hB=>.inl hB,?_,Ext.refl _ _⟩⟩
 ·rintro b' rfl
  rw[rdput_same]
  exact⟨(fun e'=>(by cases e')),(fun e'=>(by cases e'))⟩
 ·rintro B' ⟨b',o',sz',hm',e'⟩
  by_cases hbb:b'=b
  ·subst hbb;rw[rdput_same]at hm';cases hm'
  ·rw[rdput_ne _ _ hbb]at hm';exact .inl ⟨b',o',sz',hm',e'⟩
theorem RH.drew{w:World}{I:Nat->Prop}{φ:Phi}{rd:Nat->BS}(h:RH w I φ rd)(base:Nat):RH w.drew I φ rd/\Step base rd φ I w rd φ I w.drew:=
 ⟨h.change (Phi.le_refl _) (Ext.drew _ w) (fun _=>False) (fun _ _=>⟨rfl,rfl⟩) (fun _ _ _ _ _ _ _=>rfl) (fun _ hf=>hf.elim),
  ⟨fun _ _ _ e=>e,fun _ hB=>hB,fun _ hB=>.inl hB,fun _ hB=>.inl hB,Ext.drew _ w⟩⟩
def splice(c:Array Value)(k:Nat):List Value->Array Value
 | []=>c
 | v::r=>splice (c.setIfInBounds k v) (k+1) r
@[simp] theorem splice_size(vs:List Value):∀ (c:Array Value) (k:Nat),(splice c k vs).size=c.size:=by
 induction vs with
 | nil=>intro c k;rfl
 | cons v r ih=>intro c k;rw[splice,ih];simp
theorem splice_get(vs:List Value):∀ (c:Array Value) (k q:Nat),k+vs.length<=c.size ->
  (splice c k vs)[q]? = if k<=q/\q<k+vs.length then vs[q - k]? else c[q]? := by
 induction vs with
 | nil=>intro c k q h;rw[splice,if_neg (by intro hh;simp at hh;omega)]
 | cons v r ih=>
  intro c k q h
  simp only[List.length_cons]at h ⊢
  rw[splice,ih _ _ _ (by simp;omega)]
  by_cases h1:k+1<=q/\q<k+1+r.length
  ·rw[if_pos h1,if_pos (by omega)]
   have:q - k=(q - (k+1))+1:=by omega
   rw[this];simp
  ·rw[if_neg h1]
   by_cases h2:q=k
   ·subst h2
    rw[if_pos (by omega)]
    simp[show q<c.size by omega]
   ·rw[if_neg (by omega),Array.getElem?_setIfInBounds_ne (fun e=>h2 e.symm)]
theorem cell_of{w:World}{B q:Nat}{c:Array Value}{e:TypeId}{fz:Nat × Nat}(h:w.heap[B]? = some (.cells c e fz)):w.cell? ⟨B,q,none⟩=c[q]? := by
 simp[World.cell?,h]
theorem frozen_of{w:World}{B q:Nat}{c:Array Value}{e:TypeId}{fz:Nat × Nat}(h:w.heap[B]? = some (.cells c e fz))(ht:thawed c fz)(hq:q<c.size) :
  w.frozen? ⟨B,q,none⟩=false:=by
 have:=ht q hq
 simp only[World.frozen?,h]
 simpa using this
theorem add_none(B o n:Nat):(⟨B,o,none⟩:Addr).add n=⟨B,o+n,none⟩:=by
 unfold Addr.add
 split
 ·rename_i h;subst h;rfl
 ·rfl
theorem run_storeCells{P:Program}{B o:Nat}{e:TypeId}{fz:Nat × Nat}:∀ (vs:List Value) (i:Nat) (c:Array Value) (w:World),w.heap[B]? = some (.cells c e fz) ->
  o+i+vs.length<=c.size->thawed c fz->(∀ v ∈ vs,v.oneCell'=true) ->
  (storeCells ⟨B,o,none⟩ vs i).run P w=.ok () (World.setBlk w B (.cells (splice c (o+i) vs) e fz))
 | [],i,c,w,h,_,_,_=>by
  simp only[storeCells,Sem.run_pure,splice]
  congr 1
  cases w
  simp only[World.setBlk,World.mk.injEq,and_true]
  apply Array.ext_getElem?
  intro j
  by_cases hj:j=B
  ·subst hj;rw[Array.getElem?_setIfInBounds_self_of_lt (lt_of_heap h)];exact h
  ·rw[Array.getElem?_setIfInBounds_ne (fun e=>hj e.symm)]
 | v::r,i,c,w,h,hl,ht,h1=>by
  simp only[List.length_cons]at hl
  have hq:o+i<c.size:=by omega
  have hv:=h1 v (by simp)
  have hset:w.setCell ⟨B,o+i,none⟩ v=World.setBlk w B (.cells (c.setIfInBounds (o+i) v) e fz):=by
   have hB:=lt_of_heap h
   cases w
   simp only[World.setCell,World.setBlk,World.mk.injEq,and_true]
   apply Array.ext_getElem?
   intro j
   by_cases hj:j=B
   ·subst hj
    rw[Array.getElem?_setIfInBounds_self_of_lt hB,Array.getElem?_modify,if_pos rfl,h]
    simp
   ·rw[Array.getElem?_setIfInBounds_ne (fun e=>hj e.symm),Array.getElem?_modify,if_neg (fun e=>hj e.symm)]
  have hst:(store ((⟨B,o,none⟩:Addr).add i) v).run P w=.ok () (World.setBlk w B (.cells (c.setIfInBounds (o+i) v) e fz)):=by
   rw[run_store P w _ v _ hv,add_none,cell_of h,Array.getElem?_eq_getElem hq]
   simp only[frozen_of h ht hq]
   rw[<- hset]
   rfl
  have ih:=run_storeCells (P:=P) (o:=o) r (i+1) (c.setIfInBounds (o+i) v) (World.setBlk w B (.cells (c.setIfInBounds (o+i) v) e fz)) (setBlk_same (lt_of_heap h))
   (by simp;omega) (fun k hk=>ht k (by simpa using hk)) (fun u hu=>h1 u (by simp[hu]))
  simp only[storeCells,Sem.run_bind,hst,Result.andThen_ok,ih]
  congr 1
  simp only[World.setBlk,splice,Array.setIfInBounds_setIfInBounds]
  rfl
theorem run_loadCells_of{P:Program}{w:World}{B o n:Nat}(vs:List Value)(hn:vs.length=n)(h:∀ (j:Nat) v,vs[j]? = some v->w.cell? ⟨B,o+j,none⟩=some v) :
  (loadCells ⟨B,o,none⟩ n).run P w=.ok vs.toArray w:=by
 subst hn
 exact run_loadCells_list w _ vs fun j v e=>by rw[add_none];exact h j v e
end Go.AM
end
noncomputable section
set_option linter.unusedVariables false
set_option linter.unusedSimpArgs false
namespace Go.AM
def TTok(P:Program)(tt:TT):Prop:=∀ t x,tt t=some x->tiOf P t=some x
section
variable {P:Program} {t:TypeId} {ti:TI}
theorem ti_spec(h:tiOf P t=some ti):∃ i,P.info? t=some i/\i.size=ti.size/\i.bytes=ti.bytes/\P.underlying t=some ti.desc /\
  ti.agg=(match ti.desc with | .struct _ | .array _ _=>true | _=>false)/\(ti.zero=i.zero.bind fun v=>bif(ofVal v).storable then some (ofVal v).cells else .none)/\ti.stood=P.stoodInHeld t /\
  ti.zv=(i.zero.bind fun v=>bif(ofVal v).storable then some (ofVal v)else .none):=by
 unfold tiOf at h
 split at h
 ·rename_i i d hi hd
  cases h
  exact⟨i,hi,rfl,rfl,hd,rfl,rfl,rfl,rfl⟩
 ·cases h
theorem run_sizeOf(h:tiOf P t=some ti)(w:World):(sizeOf t).run P w=.ok ti.size w:=by
 obtain⟨i,hi,hs,hb,_⟩:=ti_spec h
 simp[sizeOf,typeInfo,hi,hs]
theorem run_underlying(h:tiOf P t=some ti)(w:World):(underlying t).run P w=.ok ti.desc w:=by
 obtain⟨i,hi,hs,hb,hd,_⟩:=ti_spec h
 simp[underlying,hd]
theorem run_isAgg(h:tiOf P t=some ti)(w:World):(isAgg t).run P w=.ok ti.agg w:=by
 obtain⟨i,hi,hs,hb,hd,ha,_⟩:=ti_spec h
 unfold isAgg
 simp only[Sem.run_bind,run_underlying h,Result.andThen_ok]
 rw[ha]
 split <;> simp_all
theorem run_zero(h:tiOf P t=some ti){z:List AV}(hz:ti.zero=some z)(w:World)(I:Nat->Prop)(φ:Phi) :
  ∃ v,(zeroValue t).run P w=.ok v w/\(ofVal v).storable=true/\(ofVal v).cells=z/\RC w I φ z v.cells:=by
 obtain⟨i,hi,hs,hb,hd,ha,he,_⟩:=ti_spec h
 rw[he]at hz
 cases hv:i.zero with
 | none=>rw[hv]at hz;cases hz
 | some v=>
  rw[hv]at hz
  simp only[Option.bind_some]at hz
  cases hst:(ofVal v).storable with
  | false=>rw[hst]at hz;cases hz
  | true=>
   rw[hst]at hz
   simp only[cond_true,Option.some.injEq]at hz
   refine⟨v,by simp[zeroValue,typeInfo,hi,hv],hst,hz,?_⟩
   rw[<- hz]
   exact(ofVal_ok w I φ v).cells hst
theorem run_zv(h:tiOf P t=some ti){z:AV}(hz:ti.zv=some z)(w:World)(I:Nat->Prop)(φ:Phi):∃ v,(zeroValue t).run P w=.ok v w/\RV w I φ z v:=by
 obtain⟨i,hi,hs,hb,hd,ha,he,_,hzv⟩:=ti_spec h
 rw[hzv]at hz
 cases hv:i.zero with
 | none=>rw[hv]at hz;cases hz
 | some v=>
  rw[hv]at hz
  simp only[Option.bind_some]at hz
  cases hst:(ofVal v).storable with
  | false=>rw[hst]at hz;cases hz
  | true=>
   rw[hst]at hz
   simp only[cond_true,Option.some.injEq]at hz
   exact⟨v,by simp[zeroValue,typeInfo,hi,hv],hz ▸ ofVal_ok w I φ v⟩
def Cells(w:World)(I:Nat->Prop)(φ:Phi)(B o:Nat)(cs:List AV):Prop:=
 ∀ (k:Nat) c,cs[k]? = some c -> ∃ u,w.cell? ⟨B,o+k,none⟩=some u/\u.oneCell'=true/\RV w I φ c u
theorem agg_of_cells{w:World}{I:Nat->Prop}{φ:Phi}{B o j n:Nat}{cs:List AV}(hc:Cells w I φ B o cs)(hn:j+n<=cs.length) :
  ∃ us:List Value,us.length=n/\(∀ (q:Nat) v,us[q]? = some v->w.cell? ⟨B,o+j+q,none⟩=some v)/\RC w I φ ((cs.drop j).take n) us.toArray:=by
 refine⟨(List.range n).map fun q=>(w.cell? ⟨B,o+j+q,none⟩).getD undef,by simp,?_,?_,?_,?_⟩
 ·intro q v e
  by_cases hq:q<n
  ·rw[List.getElem?_map,List.getElem?_range hq]at e
   simp only[Option.map_some,Option.some.injEq]at e
   have:j+q<cs.length:=by omega
   obtain⟨u,h1,h2,h3⟩:=hc (j+q) _ (List.getElem?_eq_getElem this)
   rw[<- Nat.add_assoc]at h1
   rw[h1]at e ⊢
   simpa using e
  ·rw[List.getElem?_eq_none (by simp;omega)]at e;cases e
 ·simp;omega
 ·intro q v e
  have e:((List.range n).map fun q=>(w.cell? ⟨B,o+j+q,none⟩).getD undef)[q]? = some v:=by simpa using e
  by_cases hq:q<n
  ·rw[List.getElem?_map,List.getElem?_range hq]at e
   simp only[Option.map_some,Option.some.injEq]at e
   have:j+q<cs.length:=by omega
   obtain⟨u,h1,h2,h3⟩:=hc (j+q) _ (List.getElem?_eq_getElem this)
   rw[<- Nat.add_assoc]at h1
   rw[h1]at e
   simp only[Option.getD_some]at e
   exact e ▸ h2
  ·rw[List.getElem?_eq_none (by simp;omega)]at e;cases e
 ·intro q c v ec e
  have e:((List.range n).map fun q=>(w.cell? ⟨B,o+j+q,none⟩).getD undef)[q]? = some v:=by simpa using e
  by_cases hq:q<n
  ·rw[List.getElem?_map,List.getElem?_range hq]at e
   simp only[Option.map_some,Option.some.injEq]at e
   have hc':cs[j+q]? = some c:=by
    rw[List.getElem?_take,if_pos hq,List.getElem?_drop]at ec;exact ec
   obtain⟨u,h1,h2,h3⟩:=hc (j+q) _ hc'
   rw[<- Nat.add_assoc]at h1
   rw[h1]at e
   simp only[Option.getD_some]at e
   exact e ▸ h3
  ·rw[List.getElem?_eq_none (by simp;omega)]at e;cases e
variable {R:Type}
theorem load_ok(h:tiOf P t=some ti){w:World}{I:Nat->Prop}{φ:Phi}{B o j:Nat}{cs:List AV}(hc:Cells w I φ B o cs){k:AV->Option R}{r:R}
  (hk:partK ti cs j k=some r):∃ v u,k v=some r/\(loadVar t ⟨B,o+j,none⟩).run P w=.ok u w/\RV w I φ v u:=by
 unfold partK at hk
 cases ha:ti.agg with
 | true=>
  rw[ha,cond_true]at hk
  cases hn:Nat.ble (j+ti.size) cs.length with
  | false=>rw[hn]at hk;cases hk
  | true=>
   rw[hn,cond_true]at hk
   obtain⟨us,hl,hcell,hr⟩:=agg_of_cells hc (Nat.le_of_ble_eq_true hn)
   refine⟨_,.agg us.toArray,hk,?_,.agg _ _ hr.1 hr.2.1 hr.2.2⟩
   unfold loadVar
   simp only[Sem.run_bind,run_isAgg h,Result.andThen_ok,ha,if_true,run_sizeOf h]
   rw[run_loadCells_of us hl hcell]
   rfl
 | false=>
  rw[ha,cond_false]at hk
  split at hk
  ·rename_i c hcj
   obtain⟨u,h1,h2,h3⟩:=hc j c hcj
   refine⟨c,u,hk,?_,h3⟩
   unfold loadVar
   simp only[Sem.run_bind,run_isAgg h,Result.andThen_ok,ha,Bool.false_eq_true,if_false,run_load,h1]
  ·cases hk
theorem part_ok(h:tiOf P t=some ti){w:World}{I:Nat->Prop}{φ:Phi}{j:Nat}{cs:List AV}{vs:Array Value}(hc:RC w I φ cs vs){k:AV->Option R}{r:R}
  (hk:partK ti cs j k=some r):∃ v u,k v=some r/\(part t vs j).run P w=.ok u w/\RV w I φ v u:=by
 unfold partK at hk
 cases ha:ti.agg with
 | true=>
  rw[ha,cond_true]at hk
  cases hn:Nat.ble (j+ti.size) cs.length with
  | false=>rw[hn]at hk;cases hk
  | true=>
   rw[hn,cond_true]at hk
   have hn':=Nat.le_of_ble_eq_true hn
   refine⟨_,.agg (vs.extract j (j+ti.size)),hk,?_,.agg _ _ ?_ ?_ ?_⟩
   ·unfold part
    simp only[Sem.run_bind,run_isAgg h,Result.andThen_ok,ha,if_true,run_sizeOf h]
    rfl
   ·have:=hc.1;simp;omega
   ·intro q u e
    rw[Array.getElem?_extract]at e
    split at e
    ·exact hc.2.1 _ u e
    ·cases e
   ·intro q c u ec e
    rw[Array.getElem?_extract]at e
    split at e
    ·rw[List.getElem?_take]at ec
     split at ec
     ·rw[List.getElem?_drop]at ec;exact hc.2.2 _ c u ec e
     ·cases ec
    ·cases e
 | false=>
  rw[ha,cond_false]at hk
  split at hk
  ·rename_i c hcj
   have hj:j<vs.size:=by
    have:=hc.1
    rcases Nat.lt_or_ge j cs.length with h' | h'
    ·omega
    ·rw[List.getElem?_eq_none h']at hcj;cases hcj
   refine⟨c,vs[j],hk,?_,hc.2.2 j c _ hcj (Array.getElem?_eq_getElem hj)⟩
   unfold part
   simp only[Sem.run_bind,run_isAgg h,Result.andThen_ok,ha,Bool.false_eq_true,if_false,Array.getElem?_eq_getElem hj,Sem.run_pure]
  ·cases hk
end
def OpOk(P:Program)(ρ:Operand->Value)(o:Oper)(rd:Nat->BS)(φ:Phi)(I:Nat->Prop)(w:World)(v:AV)(wr:Wr):Prop:=
 ∃ u w' φ' I',((execOp ρ o).run P w=.ok (.value u) w'\/((execOp ρ o).run P w=.ok .skip w'/\u=undef))/\RV w' I' φ' v u/\RH w' I' φ' (rdputs rd wr) /\
  (∀ base,Step base rd φ I w (rdputs rd wr) φ' I' w')/\Phi.le φ φ'
def Sim(P:Program)(o:Oper)(ρ:Operand->AV)(rd:Nat->BS)(v:AV)(wr:Wr)(rdl:List Nat):Prop:=
 ∀ (rd':Nat->BS) (ρr:Operand->Value) (w:World) (φ:Phi) (I:Nat->Prop),(∀ b ∈ rdl,rd' b=rd b)->(∀ p ∈ wr,rd' p.1=rd p.1)->RH w I φ rd' ->
  (∀ x ∈ o.op.operands,RV w I φ (ρ x) (ρr x))->OpOk P ρr o rd' φ I w v wr
theorem OpOk.pure{P:Program}{ρ:Operand->Value}{o:Oper}{rd:Nat->BS}{φ:Phi}{I:Nat->Prop}{w:World}{v:AV}{u:Value}(hh:RH w I φ rd)
  (h:(execOp ρ o).run P w=.ok (.value u) w) (hv:RV w I φ v u):OpOk P ρ o rd φ I w v []:=
 ⟨u,w,φ,I,.inl h,hv,hh,fun _=>Step.refl _ _ _ _ _,Phi.le_refl _⟩
theorem OpOk.alloc{P:Program}{ρ:Operand->Value}{o:Oper}{rd:Nat->BS}{φ:Phi}{I:Nat->Prop}{w:World}{v:AV}{u:Value}(hh:RH w I φ rd){nx:Nat}
  (hn:rd nx=.none) (ob:Obj) (x:BS) (sz:Nat) (hm:mutable x=true) (hx:RB (w.alloc ob) I (φ.set nx (w.heap.size,0,sz)) w.heap.size 0 sz x)
  (h:(execOp ρ o).run P w=.ok (.value u) (w.alloc ob)) (hv:RV (w.alloc ob) I (φ.set nx (w.heap.size,0,sz)) v u) (ho:okObj ob):OpOk P ρ o rd φ I w v [(nx,x)]:=
 have a:=hh.alloc hn ob x sz hm hx ho
 ⟨u,w.alloc ob,_,I,.inl h,hv,(a 0).1,fun base=>(a base).2.1,(a 0).2.2⟩
theorem cells_new{w:World}{I:Nat->Prop}{φ φ':Phi}{cs:List AV}{vs:Array Value}(hc:RC w I φ cs vs)(hlt:∀ B,I B->B<w.heap.size)(le:Phi.le φ φ')(t:TypeId)(fz:Nat × Nat) :
  RC (w.alloc (.cells vs t fz)) I φ' cs vs:=
 hc.mono (fun B hB=>⟨hB,alloc_old w _ (hlt B hB)⟩) (csize_alloc w _) le
theorem cell_new(w:World)(vs:Array Value)(t:TypeId)(fz:Nat × Nat)(q:Nat):(w.alloc (.cells vs t fz)).cell? ⟨w.heap.size,q,none⟩=vs[q]? :=
 cell_of (alloc_new w _)
theorem Row.new(w:World)(vs:Array Value)(t:TypeId)(m:Bool){sz:Nat}:Row (w.alloc (.cells vs t)) w.heap.size m sz:=
 ⟨vs,t,(0,0),alloc_new w _,fun _=>⟨fun k _ h=>Nat.lt_irrefl 0 (Nat.lt_of_le_of_lt (Nat.zero_le _) h.2),.inr fun h=>Nat.not_lt_zero _ h.2⟩⟩
theorem RB.one{w:World}{I:Nat->Prop}{φ φ':Phi}{cs:List AV}{vs:Array Value}(hc:RC w I φ cs vs)(hlt:∀ B,I B->B<w.heap.size)(le:Phi.le φ φ')(t:TypeId) :
  RB (w.alloc (.cells vs t)) I φ' w.heap.size 0 cs.length (.arr true cs.length [cs]):=by
 have hc':=cells_new hc hlt le t (0,0)
 refine⟨rfl,Row.new w vs t true,fun i c e=>?_,fun i c k x e e'=>?_⟩
 ·cases i with
  | zero=>simp at e;exact e ▸ rfl
  | succ i=>simp at e
 ·cases i with
  | zero=>
   simp at e
   subst e
   have hk:k<vs.size:=by
    rcases Nat.lt_or_ge k cs.length with h | h
    ·have:=hc.1;omega
    ·rw[List.getElem?_eq_none h]at e';cases e'
   refine⟨vs[k],?_,hc.2.1 k _ (Array.getElem?_eq_getElem hk),hc'.2.2 k x _ e' (Array.getElem?_eq_getElem hk)⟩
   rw[cell_new];simp[hk]
  | succ i=>simp at e
theorem elem_ok{w:World}{I:Nat->Prop}{φ:Phi}{B o sz:Nat}{x:BS}(h:RB w I φ B o sz x){R:Type}{i:Nat}{k:List AV->Option R}{r:R}(hk:elemK x i k=some r) :
  ∃ cs,k cs=some r/\Cells w I φ B (o+i*sz) cs:=by
 unfold elemK at hk
 split at hk
 ·split at hk
  ·rename_i cs hcs
   exact⟨cs,hk,fun q c e=>h.2.2.2 i cs q c hcs e⟩
  ·cases hk
 ·rename_i m s n f
  cases hn:Nat.blt i n with
  | false=>rw[hn]at hk;cases hk
  | true=>
   rw[hn,cond_true]at hk
   have hi:i<n:=by simpa [Nat.blt_eq] using hn
   refine⟨_,hk,fun q c e=>?_⟩
   obtain⟨u,a,b,c'⟩:=h.2.2.2 i q c hi e
   exact⟨u,a,b,c'.mono (fun B hB=>⟨hB,rfl⟩) (fun _=>Nat.le_refl _) (Phi.no_le _)⟩
 ·rename_i m s n f i0 c0 ks
  cases hn:(Nat.blt i n&&Nat.beq i i0)with
  | false=>rw[hn]at hk;cases hk
  | true=>
   rw[hn,cond_true]at hk
   rw[Bool.and_eq_true]at hn
   obtain⟨hn,hq⟩:=hn
   have hi:i<n:=by simpa [Nat.blt_eq] using hn
   have e0:rowX f i0 c0 i=c0:=by unfold rowX;rw[hq];rfl
   exact⟨c0,hk,fun q c e=>h.2.2.2 i q c hi (by rw[e0];exact e)⟩
 ·rename_i m s n f i0 c0 ks
  cases hn:(Nat.blt i n && !Nat.beq i i0)with
  | false=>rw[hn]at hk;cases hk
  | true=>
   rw[hn,cond_true]at hk
   rw[Bool.and_eq_true]at hn
   obtain⟨hn,hq⟩:=hn
   have hi:i<n:=by simpa [Nat.blt_eq] using hn
   have hq:Nat.beq i i0=false:=by simpa using hq
   have e0:rowX f i0 c0 i=f i:=by unfold rowX;rw[hq];rfl
   exact⟨f i,hk,fun q c e=>h.2.2.2 i q c hi (by rw[e0];exact e)⟩
 ·cases hk
end Go.AM
end
noncomputable section
set_option linter.unusedVariables false
set_option linter.unusedSimpArgs false
namespace Go.AM
variable {R:Type}
theorem onK_some{α:Type}{b:Option α}{k:α->Option R}{r:R}(h:onK b k=some r):∃ x,b=some x/\k x=some r:=by
 cases b with
 | none=>cases h
 | some x=>exact⟨x,rfl,h⟩
theorem okK_some{α:Type}{b:Option α}{z:α}{k:α->Option R}{r:R}(h:okK b z k=some r):∃ x,b=some x/\k x=some r:=by
 cases b with
 | none=>cases h
 | some x=>exact⟨x,rfl,h⟩
theorem cond_some{c:Bool}{x:Option R}{r:R}(h:(bif c then x else .none)=some r):c=true/\x=some r:=by
 cases c with
 | false=>cases h
 | true=>exact⟨rfl,h⟩
theorem ncond_some{c:Bool}{x:Option R}{r:R}(h:(bif c then .none else x)=some r):c=false/\x=some r:=by
 cases c with
 | true=>cases h
 | false=>exact⟨rfl,h⟩
theorem and_true'{a b:Bool}(h:(a&&b)=true):a=true/\b=true:=by simpa using h
theorem partK_inv{ti:TI}{cs:List AV}{j:Nat}{k:AV->Option R}{r:R}(h:partK ti cs j k=some r) :
  ∃ v,k v=some r /\ ∀ {R':Type} (k':AV->Option R'),partK ti cs j k'=k' v:=by
 unfold partK at h ⊢
 cases ha:ti.agg with
 | true=>
  rw[ha,cond_true]at h
  obtain⟨h1,h2⟩:=cond_some h
  exact⟨_,h2,fun k'=>by simp[h1]⟩
 | false=>
  rw[ha,cond_false]at h
  cases hc:cs[j]? with
  | none=>rw[hc]at h;cases h
  | some c=>rw[hc]at h;exact⟨c,h,fun k'=>rfl⟩
theorem elemK_inv{x:BS}{i:Nat}{k:List AV->Option R}{r:R}(h:elemK x i k=some r) :
  ∃ cs,k cs=some r /\ ∀ {R':Type} (k':List AV->Option R'),elemK x i k'=k' cs:=by
 unfold elemK at h ⊢
 cases x with
 | arr m s es=>
  simp only at h ⊢
  cases hc:es[i]? with
  | none=>rw[hc]at h;cases h
  | some c=>rw[hc]at h;exact⟨c,h,fun k'=>rfl⟩
 | seq m s n f=>
  obtain⟨h1,h2⟩:=cond_some h
  exact⟨_,h2,fun k'=>by simp[h1]⟩
 | none=>cases h
 | dead=>cases h
 | sqr m s n f i0 c0 ks cur=>
  cases cur with
  | true=>
   obtain⟨h1,h2⟩:=cond_some h
   exact⟨_,h2,fun k'=>by simp only[h1,cond_true]⟩
  | false=>
   obtain⟨h1,h2⟩:=cond_some h
   exact⟨_,h2,fun k'=>by simp only[h1,cond_true]⟩
 | map m es=>cases h
 | iter m es st=>cases h
 | pmap m ks val=>cases h
 | piter m ks val rem cur=>cases h
section
variable {P:Program} {tt:TT} {ρ:Operand->AV} {rd:Nat->BS} {nx:Nat} {k:AopK R} {r:R} {o:Oper}
def Good(P:Program)(o:Oper)(ρ:Operand->AV)(rd:Nat->BS)(k:AopK R)(r:R):Prop:=
 ∃ v wr rdl,k v wr rdl=some r/\Sim P o ρ rd v wr rdl
theorem Good.pure{v:AV}(hk:k v [] []=some r)
  (h:∀ (ρr:Operand->Value) (w:World) (φ:Phi) (I:Nat->Prop),(∀ x ∈ o.op.operands,RV w I φ (ρ x) (ρr x)) -> ∃ u,(execOp ρr o).run P w=.ok (.value u) w/\RV w I φ v u) :
  Good P o ρ rd k r:=
 ⟨v,[],[],hk,fun rd' ρr w φ I _ _ hh hx=>let ⟨u,h1,h2⟩:=h ρr w φ I hx;OpOk.pure hh h1 h2⟩
theorem aop_move{x:Operand}(ho:o.op=.move x\/o.op=.assign x)(h:k (ρ x) [] []=some r):Good P o ρ rd k r:=
 Good.pure h fun ρr w φ I hx=>⟨ρr x,by rcases ho with ho | ho <;> simp[execOp,ho],hx x (by rcases ho with ho | ho <;> simp[ho,Op.operands])⟩
theorem aop_pick{c a b:Operand}(ho:o.op=.pick c a b)(h:aopK tt ρ rd nx (.pick c a b) k=some r):Good P o ρ rd k r:=by
 simp only[aopK]at h
 split at h
 ·rename_i cb hc
  cases cb with
  | true=>
   refine Good.pure h fun ρr w φ I hx=>⟨ρr a,?_,hx a (by simp[ho,Op.operands])⟩
   have:=hx c (by simp[ho,Op.operands])
   rw[hc]at this
   generalize hu:ρr c=u at this
   cases this
   simp[execOp,ho,hu,asBool]
  | false=>
   refine Good.pure h fun ρr w φ I hx=>⟨ρr b,?_,hx b (by simp[ho,Op.operands])⟩
   have:=hx c (by simp[ho,Op.operands])
   rw[hc]at this
   generalize hu:ρr c=u at this
   cases this
   simp[execOp,ho,hu,asBool]
 ·cases h
theorem aop_alloc(htt:TTok P tt)(hnx:rd nx=.none){t:TypeId}(ho:o.op=.alloc t)(h:aopK tt ρ rd nx (.alloc t) k=some r):Good P o ρ rd k r:=by
 simp only[aopK]at h
 obtain⟨ti,hti,h⟩:=onK_some h
 obtain⟨z,hz,h⟩:=onK_some h
 refine⟨_,_,_,h,fun rd' ρr w φ I _ hwr hh hx=>?_⟩
 have hn:rd' nx=.none:=(hwr _ List.mem_cons_self).trans hnx
 obtain⟨v,hv,hs,hc,hr⟩:=run_zero (htt t ti hti) hz w I φ
 have le:=Phi.le_set (hh.none nx hn) (w.heap.size,0,z.length)
 refine OpOk.alloc (u:=.pointer (some ⟨w.heap.size,0,none⟩)) hh hn (.cells v.cells t) _ z.length rfl (RB.one hr hh.lt le t) ?_ (.ptr nx _ 0 _ 0 0 0 (Phi.set_same _ _ _) (by simp)) okObj.row
 simp[execOp,ho,Instr.alloc,hv,newVar,newRow]
theorem aop_box(hnx:rd nx=.none){t:TypeId}{x:Operand}(ho:o.op=.box t x)(h:aopK tt ρ rd nx (.box t x) k=some r):Good P o ρ rd k r:=by
 simp only[aopK]at h
 obtain⟨hs,h⟩:=cond_some h
 refine⟨_,_,_,h,fun rd' ρr w φ I _ hwr hh hx=>?_⟩
 have hn:rd' nx=.none:=(hwr _ List.mem_cons_self).trans hnx
 have hr:=(hx x (by simp[ho,Op.operands])).cells hs
 have le:=Phi.le_set (hh.none nx hn) (w.heap.size,0,(ρ x).cells.length)
 refine OpOk.alloc (u:=.pointer (some ⟨w.heap.size,0,none⟩)) hh hn (.cells (ρr x).cells t) _ _ rfl (RB.one hr hh.lt le t) ?_ (.ptr nx _ 0 _ 0 0 0 (Phi.set_same _ _ _) (by simp)) okObj.row
 simp[execOp,ho,Instr.box,newVar,newRow]
theorem aop_load(htt:TTok P tt){t:TypeId}{a:Operand}(ho:o.op=.load t a)(h:aopK tt ρ rd nx (.load t a) k=some r):Good P o ρ rd k r:=by
 simp only[aopK]at h
 obtain⟨ti,hti,h⟩:=onK_some h
 split at h
 ·rename_i b i j ha
  have key:∃ v,k v [] [b]=some r /\ ∀ (w:World) (φ:Phi) (I:Nat->Prop) B o sz,φ b=some (B,o,sz)->RB w I φ B o sz (rd b) ->
    ∃ u,(loadVar t ⟨B,o+i*sz+j,none⟩).run P w=.ok u w/\RV w I φ v u:=by
   obtain⟨cs,h1,h2⟩:=elemK_inv h
   obtain⟨v,h3,h4⟩:=partK_inv h1
   refine⟨v,h3,fun w φ I B o sz _ hrb=>?_⟩
   obtain⟨cs',e,hc⟩:=elem_ok hrb (h2 (R':=List AV) some)
   cases e
   obtain⟨v',u,e',hl,hv⟩:=load_ok (htt t ti hti) hc (h4 (R':=AV) some)
   cases e'
   exact⟨u,hl,hv⟩
  obtain⟨v,hkv,hrun⟩:=key
  refine⟨v,[],[b],hkv,fun rd' ρr w φ I hrd _ hh hx=>?_⟩
  have hp:=hx a (by simp[ho,Op.operands])
  rw[ha]at hp
  generalize hu:ρr a=u at hp
  cases hp with
  | ptr _ B ob sz _ _ q hφ hq=>
   have hb:=hrd b (by simp)
   have hlive:live (rd' b)=true:=by
    rw[hb]
    cases hrb:rd b <;> first | rfl | (rw[hrb]at h;simp[elemK]at h)
   obtain⟨B',o',sz',e,hrb⟩:=hh.blkO hφ hlive
   rw[hφ]at e;cases e
   rw[hb]at hrb
   obtain⟨u,hl,hv⟩:=hrun w φ I B ob sz hφ hrb
   refine OpOk.pure hh ?_ hv
   rw[<- hq]at hl
   simp[execOp,ho,hu,Instr.loadAt,Instr.sureAddr,hl]
 ·rename_i cs j ha
  obtain⟨v,hkv,hpv⟩:=partK_inv h
  refine Good.pure hkv fun ρr w φ I hx=>?_
  have hp:=hx a (by simp[ho,Op.operands])
  rw[ha]at hp
  generalize hu:ρr a=u at hp
  cases hp with
  | tp _ _ B ob q uf hI hq hc h1 hr=>
   have hcells:Cells w I Phi.no B ob cs:=fun q c e=>⟨uf q,hc q c e,h1 q c e,hr q c e⟩
   obtain⟨v',u,e,hl,hv⟩:=load_ok (htt t ti hti) hcells (hpv (R':=AV) some)
   cases e
   refine⟨u,?_,hv.mono (fun B hB=>⟨hB,rfl⟩) (fun _=>Nat.le_refl _) (Phi.no_le _)⟩
   rw[<- hq]at hl
   simp[execOp,ho,hu,Instr.loadAt,Instr.sureAddr,hl]
 ·cases h
end
end Go.AM
end
noncomputable section
set_option linter.unusedVariables false
set_option linter.unusedSimpArgs false
namespace Go.AM
variable {R:Type}
theorem idx_ne{i i' sz k k':Nat}(h:i' ≠ i)(hk:k<sz)(hk':k'<sz):i'*sz+k ≠ i*sz+k':=by
 rcases Nat.lt_or_gt_of_ne h with h | h
 ·have:=Nat.mul_le_mul_right sz (Nat.succ_le_of_lt h)
  rw[Nat.succ_mul]at this
  omega
 ·have:=Nat.mul_le_mul_right sz (Nat.succ_le_of_lt h)
  rw[Nat.succ_mul]at this
  omega
theorem setAt_length{cs vs:List AV}{j:Nat}(h:j+vs.length<=cs.length):(setAt cs j vs).length=cs.length:=by
 simp[setAt];omega
theorem setAt_get{cs vs:List AV}{j:Nat}(h:j+vs.length<=cs.length)(q:Nat) :
  (setAt cs j vs)[q]? = if j<=q/\q<j+vs.length then vs[q - j]? else cs[q]? := by
 unfold setAt
 by_cases h1:q<j
 ·rw[List.getElem?_append_left (by simp;omega),if_neg (by omega),List.getElem?_take,if_pos h1]
 ·rw[List.getElem?_append_right (by simp;omega)]
  have hl:(cs.take j).length=j:=by simp;omega
  rw[hl]
  by_cases h2:q<j+vs.length
  ·rw[List.getElem?_append_left (by omega),if_pos (by omega)]
  ·rw[List.getElem?_append_right (by omega),if_neg (by omega),List.getElem?_drop]
   congr 1
   omega
def elemAt:BS->Nat->Option (List AV)
 | .arr _ _ es,i=>es[i]?
 | .seq _ _ n f,i=>if i<n then some (f i)else none
 | .sqr _ _ n f i0 c0 _ _,i=>if i<n then some (rowX f i0 c0 i)else none
 | _,_=>none
def vphi(φ:Phi):BS->Phi
 | .seq .. => Phi.no
 | _=>φ
def bsz:BS->Nat
 | .arr _ s _=>s
 | .seq _ s _ _=>s
 | .sqr _ s _ _ _ _ _ _=>s
 | _=>0
def isRow:BS->Bool
 | .arr .. | .seq .. | .sqr .. => true
 | _=>false
theorem RB.row{w:World}{I:Nat->Prop}{φ:Phi}{B o sz:Nat}{x:BS}(h:RB w I φ B o sz x)(hr:isRow x=true) :
  bsz x=sz/\Row w B (mutable x) sz /\ ∀ i cs,elemAt x i=some cs->cs.length=sz/\Cells w I (vphi φ x) B (o+i*sz) cs:=by
 cases x with
 | arr m s es=>exact⟨h.1,h.2.1,fun i cs e=>⟨h.2.2.1 i cs e,fun k c e'=>h.2.2.2 i cs k c e e'⟩⟩
 | seq m s n f=>
  refine⟨h.1,h.2.1,fun i cs e=>?_⟩
  simp only[elemAt]at e
  split at e
  ·rename_i hi;cases e;exact⟨h.2.2.1 i hi,fun k c e'=>h.2.2.2 i k c hi e'⟩
  ·cases e
 | sqr m s n f i0 c0 ks cur=>
  refine⟨h.1,h.2.1,fun i cs e=>?_⟩
  simp only[elemAt]at e
  split at e
  ·rename_i hi;cases e;exact⟨h.2.2.1 i hi,fun k c e'=>h.2.2.2 i k c hi e'⟩
  ·cases e
 | pmap m ks val=>cases hr
 | piter m ks val rem cur=>cases hr
 | none=>cases hr
 | dead=>cases hr
 | map m es=>cases hr
 | iter m es st=>cases hr
theorem RB.of_row{w:World}{I:Nat->Prop}{φ:Phi}{B o sz:Nat}{x:BS}(hr:isRow x=true)(h0:bsz x=sz)(h1:Row w B (mutable x) sz)
  (h2:∀ i cs,elemAt x i=some cs->cs.length=sz/\Cells w I (vphi φ x) B (o+i*sz) cs):RB w I φ B o sz x:=by
 cases x with
 | arr m s es=>exact⟨h0,h1,fun i cs e=>(h2 i cs e).1,fun i cs k c e e'=>(h2 i cs e).2 k c e'⟩
 | seq m s n f=>
  have he:∀ i,i<n->elemAt (.seq m s n f) i=some (f i):=fun i hi=>by simp[elemAt,hi]
  exact⟨h0,h1,fun i hi=>(h2 i _ (he i hi)).1,fun i k c hi e'=>(h2 i _ (he i hi)).2 k c e'⟩
 | sqr m s n f i0 c0 ks cur=>
  have he:∀ i,i<n->elemAt (.sqr m s n f i0 c0 ks cur) i=some (rowX f i0 c0 i):=fun i hi=>by simp[elemAt,hi]
  exact⟨h0,h1,fun i hi=>(h2 i _ (he i hi)).1,fun i k c hi e'=>(h2 i _ (he i hi)).2 k c e'⟩
 | pmap m ks val=>cases hr
 | piter m ks val rem cur=>cases hr
 | none=>cases hr
 | dead=>cases hr
 | map m es=>cases hr
 | iter m es st=>cases hr
section
variable {P:Program} {tt:TT} {ρ:Operand->AV} {rd:Nat->BS} {nx:Nat} {k:AopK R} {r:R} {o:Oper}
theorem write_elem{w:World}{I:Nat->Prop}{φ:Phi}{rd:Nat->BS}(hh:RH w I φ rd){b B ob sz i j:Nat}{cs vs:List AV}{us:Array Value}{x':BS}
  (hφ:φ b=some (B,ob,sz)) (hm:mutable (rd b)=true) (hr:isRow (rd b)=true) (he:elemAt (rd b) i=some cs) (hj:j+vs.length<=cs.length) (h1:1<=vs.length)
  (hv:RC w I (vphi φ x') vs us) (hx0:isRow x'=true) (hxm:mutable x'=true) (hxs:bsz x'=bsz (rd b)) (hxp:Phi.le (vphi φ (rd b)) (vphi φ x'))
  (hx:∀ i' cs',elemAt x' i'=some cs'->(i'=i/\cs'=setAt cs j vs)\/(i' ≠ i/\elemAt (rd b) i'=some cs')) :
  ∃ w',(storeCells ⟨B,ob+i*sz+j,none⟩ us.toList).run P w=.ok () w'/\RH w' I φ (rdput rd b x') /\ ∀ base,Step base rd φ I w (rdput rd b x') φ I w':=by
 obtain⟨B',o',sz',e,hrb⟩:=hh.blkO hφ (live_of_mutable hm)
 rw[hφ]at e;cases e
 obtain⟨hbs,⟨c,e,fz,hc,ht⟩,hel⟩:=hrb.row hr
 have hul:us.toList.length=vs.length:=by simpa using hv.1.symm
 have hcs:=hel i cs he
 have hlast:ob+i*sz+j+vs.length<=c.size:=by
  obtain⟨u,hu,_⟩:=hcs.2 (j+vs.length - 1) _ (List.getElem?_eq_getElem (by omega:j+vs.length - 1<cs.length))
  rw[cell_of hc]at hu
  have:ob+i*sz+(j+vs.length - 1)<c.size:=by
   rcases Nat.lt_or_ge (ob+i*sz+(j+vs.length - 1)) c.size with h | h
   ·exact h
   ·rw[Array.getElem?_eq_none h]at hu;cases hu
  omega
 have hrun:=run_storeCells (P:=P) (o:=ob+i*sz+j) us.toList 0 c w hc (by omega) (ht hm).1 (fun v hv'=>by
  obtain⟨q,hq⟩:=List.getElem?_of_mem hv'
  exact hv.2.1 q v (by simpa using hq))
 have hn:=RH.write hh hφ hm hc (splice_size us.toList c (ob+i*sz+j)) x' hxm (by
  refine RB.of_row hx0 (hxs.trans hbs) ⟨_,e,fz,setBlk_same (lt_of_heap hc),fun _=>⟨fun q hq=>(ht hm).1 q (by simpa using hq),by have:=(ht hm).2;unfold notStr at *;simpa using this⟩⟩ fun i' cs' e'=>?_
  have ext:=Ext.setBlk (M:=Mut φ rd) (c':=splice c (ob+i*sz+j) us.toList) hc (splice_size _ _ _) ⟨b,ob,sz,hm,hφ⟩
  have mono:∀ {φ':Phi} {v:AV} {u:Value},RV w I φ' v u->RV (World.setBlk w B (.cells (splice c (ob+i*sz+j) us.toList) e fz)) I φ' v u:=fun hvu=>
   hvu.mono (fun B hB=>⟨hB,ext.keep B (hh.lt B hB) fun⟨b,o,sz,hm,e⟩=>hh.disj b B o sz hm e hB⟩) ext.csize (Phi.le_refl _)
  have up:∀ {v:AV} {u:Value},RV w I (vphi φ (rd b)) v u->RV w I (vphi φ x') v u:=fun hvu=>hvu.mono (fun B hB=>⟨hB,rfl⟩) (fun _=>Nat.le_refl _) hxp
  rcases hx i' cs' e' with ⟨rfl,rfl⟩ | ⟨hne,hold⟩
  ·refine⟨by rw[setAt_length hj];exact hcs.1,fun q cc hq=>?_⟩
   rw[cell_of (setBlk_same (lt_of_heap hc)),splice_get _ _ _ _ (by rw[hul];exact hlast),hul]
   rw[setAt_get hj]at hq
   split at hq
   ·rename_i hin
    rw[if_pos (by omega)]
    have hlt:q - j<us.size:=by have:=hv.1;omega
    refine⟨us[q - j],?_,hv.2.1 _ _ (Array.getElem?_eq_getElem hlt),mono (hv.2.2 _ _ _ hq (Array.getElem?_eq_getElem hlt))⟩
    rw[show ob+i'*sz+q - (ob+i'*sz+j)=q - j by omega]
    simp[hlt]
   ·rename_i hout
    obtain⟨u,hu,h2,h3⟩:=hcs.2 q cc hq
    rw[cell_of hc]at hu
    exact⟨u,by rw[if_neg (by omega)];exact hu,h2,mono (up h3)⟩
  ·have hold':=hel i' cs' hold
   refine⟨hold'.1,fun q cc hq=>?_⟩
   obtain⟨u,hu,h2,h3⟩:=hold'.2 q cc hq
   rw[cell_of hc]at hu
   rw[cell_of (setBlk_same (lt_of_heap hc)),splice_get _ _ _ _ (by rw[hul];exact hlast),hul]
   have hql:q<cs'.length:=by
    rcases Nat.lt_or_ge q cs'.length with h | h
    ·exact h
    ·rw[List.getElem?_eq_none h]at hq;cases hq
   have hsz:q<sz:=hold'.1 ▸ hql
   have hcsz:=hcs.1
   refine⟨u,?_,h2,mono (up h3)⟩
   rw[if_neg]
   ·exact hu
   ·rintro⟨ha,hb⟩
    have:i'*sz+q=i*sz+(i'*sz+q - i*sz):=by omega
    exact idx_ne hne hsz (by omega:i'*sz+q - i*sz<sz) this)
 exact⟨_,hrun,(hn 0).1,fun base=>(hn base).2⟩
theorem aop_store(htt:TTok P tt){t:TypeId}{a x:Operand}(ho:o.op=.store t a x)(h:aopK tt ρ rd nx (.store t a x) k=some r):Good P o ρ rd k r:=by
 simp only[aopK]at h
 obtain⟨ti,hti,h⟩:=onK_some h
 obtain⟨hc,h⟩:=cond_some h
 obtain⟨hst,hc⟩:=and_true' hc
 obtain⟨hlen,hpos⟩:=and_true' hc
 have hlen:(ρ x).cells.length=ti.size:=Nat.eq_of_beq_eq_true hlen
 have hpos:1<=ti.size:=Nat.le_of_ble_eq_true hpos
 have hrun:∀ (ρr:Operand->Value) (w w':World) (φ:Phi) (I:Nat->Prop) B q,ρr a=.pointer (some ⟨B,q,none⟩)->RV w I φ (ρ x) (ρr x) ->
   (storeCells ⟨B,q,none⟩ (ρr x).cells.toList).run P w=.ok () w'->(execOp ρr o).run P w=.ok .skip w':=by
  intro ρr w w' φ I B q ha hx hs
  have hsz:(ρr x).cells.size=ti.size:=by have:=(hx.cells hst).1;omega
  simp[execOp,ho,Instr.storeAt,Instr.sureAddr,ha,storeVar,run_sizeOf (htt t ti hti),hsz,hs]
 have fin:∀ (b i j sz n:Nat) (f:Nat->List AV) (i0:Nat) (c0:List AV) (ks:List Nat) (cur:Bool) (f':Nat->List AV) (c0':List AV),ρ a=.ptr b i j->rd b=.sqr true sz n f i0 c0 ks cur->i<n->j+ti.size<=(rowX f i0 c0 i).length ->
   (∀ i',rowX f' i0 c0' i'=bif Nat.beq i' i then setAt (rowX f i0 c0 i) j (ρ x).cells else rowX f i0 c0 i') ->
   k .undef [(b,.sqr true sz n f' i0 c0' (ks++rootsL (ρ x).cells) cur)] [b]=some r->Good P o ρ rd k r:=by
  intro b i j sz n f i0 c0 ks cur f' c0' ha hb hin hjl hrow h
  refine⟨_,_,_,h,fun rd' ρr w φ I hrd _ hh hx=>?_⟩
  have hb':=hrd b (by simp)
  rw[hb]at hb'
  have hp:=hx a (by simp[ho,Op.operands])
  have hxx:=hx x (by simp[ho,Op.operands])
  rw[ha]at hp
  generalize hu:ρr a=u at hp
  cases hp with
  | ptr _ B ob sz' _ _ q hφ hq=>
   have hcells:=hxx.cells hst
   obtain⟨w',h1,h2,h3⟩:=write_elem (P:=P) (vs:=(ρ x).cells) (us:=(ρr x).cells) (x':=.sqr true sz n f' i0 c0' (ks++rootsL (ρ x).cells) cur) (i:=i) (j:=j) (cs:=rowX f i0 c0 i) hh hφ
    (by rw[hb'];rfl) (by rw[hb'];rfl) (by rw[hb'];simp[elemAt,hin]) (by omega) (by omega)
    (hcells)
    rfl rfl (by rw[hb'];rfl) (by rw[hb'];exact Phi.le_refl _)
    (fun i' cs' e=>by
     rw[hb']
     simp only[elemAt,hrow]at e ⊢
     by_cases hi:i'=i
     ·subst hi
      rw[if_pos hin]at e
      simp at e
      exact .inl ⟨rfl,e.symm⟩
     ·have:Nat.beq i' i=false:=by
       cases hq:Nat.beq i' i with
       | false=>rfl
       | true=>exact absurd (Nat.eq_of_beq_eq_true hq) hi
      rw[this,cond_false]at e
      exact .inr ⟨hi,e⟩)
   rw[<- hq]at h1
   exact⟨undef,w',φ,I,.inr ⟨hrun ρr w w' φ I B q hu hxx h1,rfl⟩,.undef _,h2,h3,Phi.le_refl _⟩
 split at h
 ·rename_i b i j ha
  split at h
  ·rename_i sz es hb
   split at h
   ·rename_i cs hcs
    obtain⟨hjl,h⟩:=cond_some h
    have hjl:=Nat.le_of_ble_eq_true hjl
    refine⟨_,_,_,h,fun rd' ρr w φ I hrd _ hh hx=>?_⟩
    have hb':=hrd b (by simp)
    rw[hb]at hb'
    have hp:=hx a (by simp[ho,Op.operands])
    have hxx:=hx x (by simp[ho,Op.operands])
    rw[ha]at hp
    generalize hu:ρr a=u at hp
    cases hp with
    | ptr _ B ob sz' _ _ q hφ hq=>
     obtain⟨w',h1,h2,h3⟩:=write_elem (P:=P) (vs:=(ρ x).cells) (us:=(ρr x).cells) (x':=.arr true sz (es.set i (setAt cs j (ρ x).cells))) (i:=i) (j:=j) (cs:=cs) hh hφ
      (by rw[hb'];rfl) (by rw[hb'];rfl) (by rw[hb'];exact hcs) (by omega) (by omega) (hxx.cells hst) rfl rfl (by rw[hb'];rfl) (by rw[hb'];exact Phi.le_refl _)
      (fun i' cs' e=>by
       rw[hb']
       simp only[elemAt]at e ⊢
       by_cases hi:i'=i
       ·subst hi
        have hlt:i'<es.length:=by
         rcases Nat.lt_or_ge i' es.length with h | h
         ·exact h
         ·rw[List.getElem?_eq_none h]at hcs;cases hcs
        rw[List.getElem?_set_self hlt]at e
        exact .inl ⟨rfl,by cases e;rfl⟩
       ·rw[List.getElem?_set_ne (fun e=>hi e.symm)]at e
        exact .inr ⟨hi,e⟩)
     rw[<- hq]at h1
     exact⟨undef,w',φ,I,.inr ⟨hrun ρr w w' φ I B q hu hxx h1,rfl⟩,.undef _,h2,h3,Phi.le_refl _⟩
   ·cases h
  ·rename_i sz n f hb
   obtain⟨hcc,h⟩:=cond_some h
   obtain⟨hin,hjl⟩:=and_true' hcc
   have hin:i<n:=by simpa [Nat.blt_eq] using hin
   have hjl:=Nat.le_of_ble_eq_true hjl
   cases hfree:(ρ x).cells.all refFree with
   | true=>
    rw[hfree,cond_true]at h
    refine⟨_,_,_,h,fun rd' ρr w φ I hrd _ hh hx=>?_⟩
    have hb':=hrd b (by simp)
    rw[hb]at hb'
    have hp:=hx a (by simp[ho,Op.operands])
    have hxx:=hx x (by simp[ho,Op.operands])
    rw[ha]at hp
    generalize hu:ρr a=u at hp
    cases hp with
    | ptr _ B ob sz' _ _ q hφ hq=>
     have hcells:=hxx.cells hst
     obtain⟨w',h1,h2,h3⟩:=write_elem (P:=P) (vs:=(ρ x).cells) (us:=(ρr x).cells) (x':=.seq true sz n fun i'=>bif Nat.beq i' i then setAt (f i) j (ρ x).cells else f i') (i:=i) (j:=j) (cs:=f i) hh hφ
      (by rw[hb'];rfl) (by rw[hb'];rfl) (by rw[hb'];simp[elemAt,hin]) (by omega) (by omega)
      (⟨hcells.1,hcells.2.1,fun q c u e e'=>(hcells.2.2 q c u e e').free ((List.all_eq_true.1 hfree) c (List.mem_of_getElem? e))⟩)
      rfl rfl (by rw[hb'];rfl) (by rw[hb'];exact Phi.le_refl _)
      (fun i' cs' e=>by
       rw[hb']
       simp only[elemAt]at e ⊢
       by_cases hi:i'=i
       ·subst hi
        rw[if_pos hin]at e
        simp at e
        exact .inl ⟨rfl,e.symm⟩
       ·have:Nat.beq i' i=false:=by
         cases hq:Nat.beq i' i with
         | false=>rfl
         | true=>exact absurd (Nat.eq_of_beq_eq_true hq) hi
        rw[this,cond_false]at e
        exact .inr ⟨hi,e⟩)
     rw[<- hq]at h1
     exact⟨undef,w',φ,I,.inr ⟨hrun ρr w w' φ I B q hu hxx h1,rfl⟩,.undef _,h2,h3,Phi.le_refl _⟩
   | false=>
    rw[hfree,cond_false]at h
    refine⟨_,_,_,h,fun rd' ρr w φ I hrd _ hh hx=>?_⟩
    have hb':=hrd b (by simp)
    rw[hb]at hb'
    have hp:=hx a (by simp[ho,Op.operands])
    have hxx:=hx x (by simp[ho,Op.operands])
    rw[ha]at hp
    generalize hu:ρr a=u at hp
    cases hp with
    | ptr _ B ob sz' _ _ q hφ hq=>
     have hcells:=hxx.cells hst
     obtain⟨w',h1,h2,h3⟩:=write_elem (P:=P) (vs:=(ρ x).cells) (us:=(ρr x).cells) (x':=.sqr true sz n f i (setAt (f i) j (ρ x).cells) (rootsL (ρ x).cells) true) (i:=i) (j:=j) (cs:=f i) hh hφ
      (by rw[hb'];rfl) (by rw[hb'];rfl) (by rw[hb'];simp[elemAt,hin]) (by omega) (by omega)
      (hcells)
      rfl rfl (by rw[hb'];rfl) (by rw[hb'];exact Phi.no_le _)
      (fun i' cs' e=>by
       rw[hb']
       simp only[elemAt,rowX]at e ⊢
       by_cases hi:i'=i
       ·subst hi
        rw[if_pos hin]at e
        simp at e
        exact .inl ⟨rfl,e.symm⟩
       ·have:Nat.beq i' i=false:=by
         cases hq:Nat.beq i' i with
         | false=>rfl
         | true=>exact absurd (Nat.eq_of_beq_eq_true hq) hi
        rw[this,cond_false]at e
        exact .inr ⟨hi,e⟩)
     rw[<- hq]at h1
     exact⟨undef,w',φ,I,.inr ⟨hrun ρr w w' φ I B q hu hxx h1,rfl⟩,.undef _,h2,h3,Phi.le_refl _⟩
  ·rename_i sz n f i0 c0 ks hb
   obtain⟨hin,h⟩:=cond_some h
   obtain⟨hin,hii⟩:=and_true' hin
   have hin:i<n:=by simpa [Nat.blt_eq] using hin
   have hie:=Nat.eq_of_beq_eq_true hii
   obtain⟨hjl,h⟩:=cond_some h
   have hjl:=Nat.le_of_ble_eq_true hjl
   have e0:rowX f i0 c0 i=c0:=by unfold rowX;rw[hii];rfl
   refine fin b i j sz n f i0 c0 ks true f (setAt c0 j (ρ x).cells) ha hb hin (by rw[e0];exact hjl) (fun i'=>?_) h
   rw[e0]
   unfold rowX
   rw[hie]
   cases Nat.beq i' i0 <;> rfl
  ·rename_i sz n f i0 c0 ks hb
   obtain⟨hin,h⟩:=cond_some h
   obtain⟨hin,hii⟩:=and_true' hin
   have hii:Nat.beq i i0=false:=by simpa using hii
   have hin:i<n:=by simpa [Nat.blt_eq] using hin
   obtain⟨hjl,h⟩:=cond_some h
   have hjl:=Nat.le_of_ble_eq_true hjl
   have e0:rowX f i0 c0 i=f i:=by unfold rowX;rw[hii];rfl
   refine fin b i j sz n f i0 c0 ks false _ c0 ha hb hin (by rw[e0];exact hjl) (fun i'=>?_) h
   rw[e0]
   unfold rowX
   cases h1:Nat.beq i' i0 with
   | false=>rfl
   | true=>
    have e1:=Nat.eq_of_beq_eq_true h1
    have:Nat.beq i' i=false:=by
     cases hq:Nat.beq i' i with
     | false=>rfl
     | true=>
      have:=Nat.eq_of_beq_eq_true hq
      rw[<- this,h1]at hii;cases hii
    rw[this];rfl
  ·cases h
 ·cases h
end
end Go.AM
end
noncomputable section
set_option linter.unusedVariables false
set_option linter.unusedSimpArgs false
namespace Go.AM
variable {R:Type}
section
variable {P:Program} {tt:TT} {ρ:Operand->AV} {rd:Nat->BS} {nx:Nat} {k:AopK R} {r:R} {o:Oper}
theorem aop_nilCheck{x:Operand}(ho:o.op=.nilCheck x)(h:aopK tt ρ rd nx (.nilCheck x) k=some r):Good P o ρ rd k r:=by
 simp only[aopK]at h
 have hm:x ∈ o.op.operands:=by simp[ho,Op.operands]
 split at h
 ·rename_i b i j ha
  refine Good.pure h fun ρr w φ I hx=>?_
  have hp:=hx x hm
  rw[ha]at hp
  generalize hu:ρr x=u at hp
  refine⟨u,?_,hp⟩
  cases hp
  simp[execOp,ho,hu]
 ·rename_i cs j ha
  refine Good.pure h fun ρr w φ I hx=>?_
  have hp:=hx x hm
  rw[ha]at hp
  generalize hu:ρr x=u at hp
  refine⟨u,?_,hp⟩
  cases hp
  simp[execOp,ho,hu]
 ·rename_i f a c ha
  refine Good.pure h fun ρr w φ I hx=>?_
  have hp:=hx x hm
  rw[ha]at hp
  generalize hu:ρr x=u at hp
  refine⟨u,?_,hp⟩
  cases hp
  simp[execOp,ho,hu]
 ·cases h
theorem aop_fieldAddr(htt:TTok P tt){t:TypeId}{x:Operand}{f:Nat}(ho:o.op=.fieldAddr t x f)(h:aopK tt ρ rd nx (.fieldAddr t x f) k=some r):Good P o ρ rd k r:=by
 simp only[aopK]at h
 have hm:x ∈ o.op.operands:=by simp[ho,Op.operands]
 obtain⟨ti,hti,h⟩:=onK_some h
 split at h
 ·rename_i fields hd
  obtain⟨fd,hfd,h⟩:=onK_some h
  obtain⟨tf,htf,h⟩:=onK_some h
  obtain⟨hz,h⟩:=ncond_some h
  have hz:tf.size ≠ 0:=fun e=>by rw[e]at hz;cases hz
  have hfd':fields[f]? = some fd:=by simpa using hfd
  have hrun:∀ (ρr:Operand->Value) (w:World) B q,ρr x=.pointer (some ⟨B,q,none⟩)->(execOp ρr o).run P w=.ok (.value (.pointer (some ⟨B,q+fd.offset,none⟩))) w:=by
   intro ρr w B q e
   simp[execOp,ho,Instr.fieldAt,run_underlying (htt t ti hti),hd,hfd',Instr.sureAddr,e,fieldPlace,run_sizeOf (htt fd.type tf htf),hz,add_none]
  split at h
  ·rename_i b i j ha
   refine Good.pure h fun ρr w φ I hx=>?_
   have hp:=hx x hm
   rw[ha]at hp
   generalize hu:ρr x=u at hp
   cases hp with
   | ptr _ B ob sz _ _ q hφ hq=>exact⟨_,hrun ρr w B q hu,.ptr b B ob sz i (j+fd.offset) _ hφ (by omega)⟩
  ·rename_i cs j ha
   refine Good.pure h fun ρr w φ I hx=>?_
   have hp:=hx x hm
   rw[ha]at hp
   generalize hu:ρr x=u at hp
   cases hp with
   | tp _ _ B ob q uf hI hq hc h1 hr=>exact⟨_,hrun ρr w B q hu,.tp cs (j+fd.offset) B ob _ uf hI (by omega) hc h1 hr⟩
  ·cases h
 ·cases h
theorem aop_field(htt:TTok P tt){t:TypeId}{x:Operand}{f:Nat}(ho:o.op=.field t x f)(h:aopK tt ρ rd nx (.field t x f) k=some r):Good P o ρ rd k r:=by
 simp only[aopK]at h
 have hm:x ∈ o.op.operands:=by simp[ho,Op.operands]
 obtain⟨ti,hti,h⟩:=onK_some h
 split at h
 ·rename_i fields cs hd ha
  obtain⟨fd,hfd,h⟩:=onK_some h
  obtain⟨tf,htf,h⟩:=onK_some h
  have hfd':fields[f]? = some fd:=by simpa using hfd
  obtain⟨v,hkv,hpv⟩:=partK_inv h
  refine Good.pure hkv fun ρr w φ I hx=>?_
  have hp:=hx x hm
  rw[ha]at hp
  generalize hu:ρr x=u at hp
  cases hp with
  | agg _ vs hl h1 hr=>
   obtain⟨v',u,e,hrun,hv⟩:=part_ok (htt fd.type tf htf) (w:=w) (I:=I) (φ:=φ) (vs:=vs) ⟨hl,h1,hr⟩ (hpv (R':=AV) some)
   cases e
   refine⟨u,?_,hv⟩
   simp[execOp,ho,Instr.field,run_underlying (htt t ti hti),hd,hfd',hu,asAgg,hrun]
 ·cases h
theorem in_range{i:Int}{n:Nat}(h:(decide (0<=i)&&decide (i<(n:Int)))=true):0<=i/\i<(n:Int)/\i.toNat<n:=by
 obtain⟨h1,h2⟩:=and_true' h
 have h1:=of_decide_eq_true h1
 have h2:=of_decide_eq_true h2
 omega
theorem aop_indexAddr(htt:TTok P tt){t:TypeId}{x ix:Operand}(ho:o.op=.indexAddr t x ix)(h:aopK tt ρ rd nx (.indexAddr t x ix) k=some r):Good P o ρ rd k r:=by
 simp only[aopK]at h
 have hm:x ∈ o.op.operands:=by simp[ho,Op.operands]
 have hmi:ix ∈ o.op.operands:=by simp[ho,Op.operands]
 obtain⟨ti,hti,h⟩:=onK_some h
 split at h
 ·rename_i kd i hi
  have hix:∀ (ρr:Operand->Value) (w:World) (φ:Phi) (I:Nat->Prop),(∀ x ∈ o.op.operands,RV w I φ (ρ x) (ρr x))->ρr ix=.int kd i:=by
   intro ρr w φ I hx
   have hp:=hx ix hmi
   rw[hi]at hp
   generalize ρr ix=u at hp
   cases hp
   rfl
  split at h
  ·rename_i n e hd
   obtain⟨te,hte,h⟩:=onK_some h
   obtain⟨hr,h⟩:=cond_some h
   obtain⟨h0,h1,_⟩:=in_range hr
   have hrun:∀ (ρr:Operand->Value) (w:World) B q,ρr ix=.int kd i->ρr x=.pointer (some ⟨B,q,none⟩) ->
     (execOp ρr o).run P w=.ok (.value (.pointer (some ⟨B,q+i.toNat*te.size,none⟩))) w:=by
    intro ρr w B q e1 e2
    simp[execOp,ho,Instr.indexAt,run_underlying (htt t ti hti),hd,e1,e2,Instr.sureAddr,asIntOf,run_sizeOf (htt e te hte),h0,h1,add_none]
   split at h
   ·rename_i b i' j ha
    refine Good.pure h fun ρr w φ I hx=>?_
    have hp:=hx x hm
    rw[ha]at hp
    generalize hu:ρr x=u at hp
    cases hp with
    | ptr _ B ob sz _ _ q hφ hq=>exact⟨_,hrun ρr w B q (hix ρr w φ I hx) hu,.ptr b B ob sz i' _ _ hφ (by omega)⟩
   ·rename_i cs j ha
    refine Good.pure h fun ρr w φ I hx=>?_
    have hp:=hx x hm
    rw[ha]at hp
    generalize hu:ρr x=u at hp
    cases hp with
    | tp _ _ B ob q uf hI hq hc h1 hr=>exact⟨_,hrun ρr w B q (hix ρr w φ I hx) hu,.tp cs _ B ob _ uf hI (by omega) hc h1 hr⟩
   ·cases h
  ·rename_i e hd
   obtain⟨te,hte,h⟩:=onK_some h
   have hrun:∀ (ρr:Operand->Value) (w:World) B q (n cap:Nat),ρr ix=.int kd i->0<=i->i<(n:Int)->ρr x=.slice (some ⟨B,q,none⟩) n cap ->
     (execOp ρr o).run P w=.ok (.value (.pointer (some ⟨B,q+i.toNat*te.size,none⟩))) w:=by
    intro ρr w B q n cap e1 h0 h1 e2
    simp[execOp,ho,Instr.indexAt,run_underlying (htt t ti hti),hd,e1,e2,asIntOf,run_sizeOf (htt e te hte),h0,h1,add_none]
   split at h
   ·rename_i sz b off len cm ha
    obtain⟨hr,h⟩:=cond_some h
    obtain⟨hsz,hr⟩:=and_true' hr
    have hsz:=Nat.eq_of_beq_eq_true hsz
    obtain⟨h0,h1,h2⟩:=in_range hr
    refine Good.pure h fun ρr w φ I hx=>?_
    have hp:=hx x hm
    rw[ha]at hp
    generalize hu:ρr x=u at hp
    cases hp with
    | sl _ _ B ob _ _ _ cap q hφ hq hl hc hs=>
     refine⟨_,hrun ρr w B q len cap (hix ρr w φ I hx) h0 h1 hu,.ptr b B ob sz _ 0 _ hφ ?_⟩
     rw[<- hsz,hq,Nat.add_mul];omega
    | sle=>omega
   ·rename_i sz es ha
    obtain⟨hr,h⟩:=cond_some h
    obtain⟨hsz,h0⟩:=and_true' hr
    have hsz:=Nat.eq_of_beq_eq_true hsz
    have h0:=of_decide_eq_true h0
    split at h
    ·rename_i cs hcs
     have hlt:i.toNat<es.length:=by
      rcases Nat.lt_or_ge i.toNat es.length with h | h
      ·exact h
      ·rw[List.getElem?_eq_none h]at hcs;cases hcs
     have hget:es.getD i.toNat []=cs:=by simp[List.getD,hcs]
     refine Good.pure h fun ρr w φ I hx=>?_
     have hp:=hx x hm
     rw[ha]at hp
     generalize hu:ρr x=u at hp
     cases hp with
     | trl _ _ _ hp hz=>
      generalize hn:es.length=n at hp
      generalize hf:(fun i=>es.getD i [])=f at hp
      cases hp with
      | tr _ _ _ B ob cap uf hI hn' hcp hlen hc h1 hr=>
       have hfi:f i.toNat=cs:=by rw[<- hf];exact hget
       refine⟨_,hrun ρr w B ob n cap (hix ρr w φ I hx) h0 (by omega) hu,.tp cs 0 B (ob+i.toNat*sz) _ (uf i.toNat) (hI (by omega)) (by rw[hsz];omega) ?_ ?_ ?_⟩
       ·intro q c e;exact hc i.toNat q c (by omega) (by rw[hfi];exact e)
       ·intro q c e;exact h1 i.toNat q c (by omega) (by rw[hfi];exact e)
       ·intro q c e;exact hr i.toNat q c (by omega) (by rw[hfi];exact e)
      | trn=>omega
    ·cases h
   ·rename_i sz n f ha
    obtain⟨hr,h⟩:=cond_some h
    obtain⟨hsz,hr⟩:=and_true' hr
    have hsz:=Nat.eq_of_beq_eq_true hsz
    obtain⟨h0,h1,h2⟩:=in_range hr
    refine Good.pure h fun ρr w φ I hx=>?_
    have hp:=hx x hm
    rw[ha]at hp
    generalize hu:ρr x=u at hp
    cases hp with
    | tr _ _ _ B ob cap uf hI hn' hcp hlen hc hh1 hr=>
     refine⟨_,hrun ρr w B ob n cap (hix ρr w φ I hx) h0 h1 hu,.tp (f i.toNat) 0 B (ob+i.toNat*sz) _ (uf i.toNat) (hI (by omega)) (by rw[hsz];omega) ?_ ?_ ?_⟩
     ·intro q c e;exact hc i.toNat q c h2 e
     ·intro q c e;exact hh1 i.toNat q c h2 e
     ·intro q c e;exact hr i.toNat q c h2 e
    | trn=>omega
   ·rename_i sz n f ha
    obtain⟨hr,h⟩:=cond_some h
    obtain⟨hsz,hr⟩:=and_true' hr
    have hsz:=Nat.eq_of_beq_eq_true hsz
    obtain⟨h0,h1,h2⟩:=in_range hr
    refine Good.pure h fun ρr w φ I hx=>?_
    have hp:=hx x hm
    rw[ha]at hp
    generalize hu:ρr x=u at hp
    cases hp with
    | tn _ _ _ _ hp=>
     cases hp with
     | tr _ _ _ B ob cap uf hI hn' hcp hlen hc hh1 hr=>
      refine⟨_,hrun ρr w B ob n cap (hix ρr w φ I hx) h0 h1 hu,.tp (f i.toNat) 0 B (ob+i.toNat*sz) _ (uf i.toNat) (hI (by omega)) (by rw[hsz];omega) ?_ ?_ ?_⟩
      ·intro q c e;exact hc i.toNat q c h2 e
      ·intro q c e;exact hh1 i.toNat q c h2 e
      ·intro q c e;exact hr i.toNat q c h2 e
     | trn=>omega
   ·rename_i sz b n ha
    obtain⟨hr,h⟩:=cond_some h
    obtain⟨hsz,hr⟩:=and_true' hr
    have hsz:=Nat.eq_of_beq_eq_true hsz
    obtain⟨h0,h1,h2⟩:=in_range hr
    refine Good.pure h fun ρr w φ I hx=>?_
    have hp:=hx x hm
    rw[ha]at hp
    generalize hu:ρr x=u at hp
    cases hp with
    | sn0=>omega
    | sn _ _ _ B ob cap hφ hl hs=>
     exact⟨_,hrun ρr w B ob n cap (hix ρr w φ I hx) h0 h1 hu,.ptr b B ob sz i.toNat 0 _ hφ (by rw[hsz];omega)⟩
   ·cases h
  ·cases h
 ·cases h
theorem aop_index(htt:TTok P tt){t:TypeId}{x ix:Operand}(ho:o.op=.index t x ix)(h:aopK tt ρ rd nx (.index t x ix) k=some r):Good P o ρ rd k r:=by
 simp only[aopK]at h
 have hm:x ∈ o.op.operands:=by simp[ho,Op.operands]
 have hmi:ix ∈ o.op.operands:=by simp[ho,Op.operands]
 obtain⟨ti,hti,h⟩:=onK_some h
 split at h
 ·rename_i kd i hi
  have hix:∀ (ρr:Operand->Value) (w:World) (φ:Phi) (I:Nat->Prop),(∀ x ∈ o.op.operands,RV w I φ (ρ x) (ρr x))->ρr ix=.int kd i:=by
   intro ρr w φ I hx
   have hp:=hx ix hmi
   rw[hi]at hp
   generalize ρr ix=u at hp
   cases hp
   rfl
  split at h
  ·rename_i s hd ha
   obtain⟨hr,h⟩:=cond_some h
   obtain⟨h0,h1,h2⟩:=in_range hr
   refine Good.pure h fun ρr w φ I hx=>?_
   have hp:=hx x hm
   rw[ha]at hp
   generalize hu:ρr x=u at hp
   cases hp with
   | str b _ hb=>
    subst hb
    refine⟨_,?_,.int _ _⟩
    have hlt:i.toNat<b.size:=by simpa using h2
    have hg:b[i.toNat]? = some b[i.toNat]:=by simp[getElem?_def,hlt]
    simp[execOp,ho,Instr.index,hix ρr w φ I hx,asIntOf,run_underlying (htt t ti hti),hd,hu,h0,hg]
    have:b.data[i.toNat]? = some b.data[i.toNat]:=Array.getElem?_eq_getElem hlt
    simp[this]
    rfl
  ·rename_i n e cs hd ha
   obtain⟨te,hte,h⟩:=onK_some h
   obtain⟨hr,h⟩:=cond_some h
   obtain⟨h0,h1,h2⟩:=in_range hr
   obtain⟨v,hkv,hpv⟩:=partK_inv h
   refine Good.pure hkv fun ρr w φ I hx=>?_
   have hp:=hx x hm
   rw[ha]at hp
   generalize hu:ρr x=u at hp
   cases hp with
   | agg _ vs hl hh1 hr=>
    obtain⟨v',u,e',hrun,hv⟩:=part_ok (htt e te hte) (w:=w) (I:=I) (φ:=φ) (vs:=vs) ⟨hl,hh1,hr⟩ (hpv (R':=AV) some)
    cases e'
    refine⟨u,?_,hv⟩
    simp[execOp,ho,Instr.index,hix ρr w φ I hx,asIntOf,run_underlying (htt t ti hti),hd,hu,h0,h1,run_sizeOf (htt e te hte),hrun]
  ·cases h
 ·cases h
theorem aop_extract{x:Operand}{i:Nat}(ho:o.op=.extract x i)(h:aopK tt ρ rd nx (.extract x i) k=some r):Good P o ρ rd k r:=by
 simp only[aopK]at h
 have hm:x ∈ o.op.operands:=by simp[ho,Op.operands]
 split at h
 ·rename_i vs ha
  obtain⟨v,hv,h⟩:=onK_some h
  refine Good.pure h fun ρr w φ I hx=>?_
  have hp:=hx x hm
  rw[ha]at hp
  generalize hu:ρr x=u at hp
  cases hp with
  | tup _ us hl hr=>
   have hi:i<us.size:=by
    rcases Nat.lt_or_ge i vs.length with h | h
    ·omega
    ·rw[List.getElem?_eq_none h]at hv;cases hv
   refine⟨us[i],?_,hr i v _ hv (Array.getElem?_eq_getElem hi)⟩
   simp[execOp,ho,Instr.extract,hu,hi]
 ·cases h
theorem aop_makeFunc{f:Fn}{first cap:Array Operand}(ho:o.op=.makeFunc f first cap)(h:aopK tt ρ rd nx (.makeFunc f first cap) k=some r):Good P o ρ rd k r:=by
 simp only[aopK]at h
 refine Good.pure h fun ρr w φ I hx=>?_
 refine⟨.func f (first.map ρr) (cap.map ρr),by simp[execOp,ho,Instr.makeFunc],.fn f _ _ _ _ (by simp) (by simp) ?_ ?_⟩
 ·intro q x u e e'
  rw[List.getElem?_map]at e
  rw[Array.getElem?_map]at e'
  rw[Array.getElem?_toList]at e
  cases hq:first[q]? with
  | none=>rw[hq]at e;cases e
  | some y=>
   rw[hq]at e e'
   cases e;cases e'
   exact hx y (by simp[ho,Op.operands,Array.mem_of_getElem? hq])
 ·intro q x u e e'
  rw[List.getElem?_map]at e
  rw[Array.getElem?_map]at e'
  rw[Array.getElem?_toList]at e
  cases hq:cap[q]? with
  | none=>rw[hq]at e;cases e
  | some y=>
   rw[hq]at e e'
   cases e;cases e'
   exact hx y (by simp[ho,Op.operands,Array.mem_of_getElem? hq])
end
end Go.AM
end
noncomputable section
set_option linter.unusedVariables false
set_option linter.unusedSimpArgs false
namespace Go.AM
variable {R:Type}
theorem strBeq_eq:∀ (a b:List UInt8),strBeq a b=(a == b)
 | [],[]=>rfl
 | [],_::_=>rfl
 | _::_,[]=>rfl
 | a::x,b::y=>by
  simp only[strBeq,strBeq_eq x y,List.cons_beq_cons]
  congr 1
  rw[Bool.eq_iff_iff,Nat.beq_eq]
  simp[UInt8.toNat_inj]
theorem strLt_eq:∀ (a b:List UInt8),strLt a b=Op.bytesLess a b
 | [],[]=>rfl
 | [],_::_=>rfl
 | _::_,[]=>rfl
 | a::x,b::y=>by
  simp only[strLt,Op.bytesLess,strLt_eq x y]
  have h1:Nat.blt a.toNat b.toNat=decide (a<b):=by
   rw[Bool.eq_iff_iff,Nat.blt_eq];simp[UInt8.lt_iff_toNat_lt]
  have h2:Nat.beq a.toNat b.toNat=(a == b):=by
   rw[Bool.eq_iff_iff,Nat.beq_eq];simp[UInt8.toNat_inj]
  rw[h1,h2]
theorem isO_eq(c:Option Ordering)(p:Ordering):isO c p=(c == some p):=by
 cases c with
 | none=>rfl
 | some c=>cases c <;> cases p <;> rfl
theorem kindEq_iff{a b:IntKind}(h:kindEq a b=true):a=b:=of_decide_eq_true h
theorem fkindEq_iff{a b:FloatKind}(h:fkindEq a b=true):a=b:=of_decide_eq_true h
theorem boolEq_eq(a b:Bool):boolEq a b=(a == b):=by cases a <;> cases b <;> rfl
theorem obK_some{b:Option Bool}{k:AV->Option R}{r:R}(h:obK b k=some r):∃ x,b=some x/\k (.bool x)=some r:=by
 cases b with
 | none=>cases h
 | some x=>exact⟨x,rfl,h⟩
section
variable {P:Program}
theorem run_strOp{op:BinOp}{a b:List UInt8}{x:Bool}(h:cmpS op a b=some x)(s s':ByteArray)(hs:a=s.data.toList)(hs':b=s'.data.toList)(w:World) :
  (Op.stringOp op s s').run P w=.ok (.bool x) w:=by
 subst hs;subst hs'
 unfold cmpS at h
 split at h <;> cases h <;> simp[Op.stringOp,ByteArray.toList_eq,strBeq_eq,strLt_eq]
theorem run_intCmp{op:BinOp}{a b:Int}{x:Bool}(h:cmpI op a b=some x)(w:World):(Op.intCmp op a b).run P w=.ok (.bool x) w:=by
 unfold cmpI at h
 split at h <;> cases h <;> simp[Op.intCmp] <;> first | rfl | (rw[Bool.eq_iff_iff];simp)
theorem run_floatCmp{op:BinOp}{k:FloatKind}{a b:Nat}{x:Bool}(h:cmpF op k a b=some x)(w:World):(Op.floatCmp op k a b).run P w=.ok (.bool x) w:=by
 unfold cmpF at h
 split at h <;> cases h <;> simp[Op.floatCmp,fEq,fLt,fGt,isO_eq,bne]
set_option maxHeartbeats 1000000 in
theorem run_eq1{tt:TT}(htt:TTok P tt){t:TypeId}{x y:AV}{b:Bool}(h:eq1 tt t x y=some b){w:World}{I:Nat->Prop}{φ:Phi}{u v:Value}
  (hx:RV w I φ x u) (hy:RV w I φ y v) (d:Nat):(Op.equalIn (d+1) t u v).run P w=.ok b w:=by
 unfold eq1 at h
 split at h
 ·cases h
 ·rename_i ti hti
  have hd:=run_underlying (htt t ti hti) w
  split at h
  all_goals first | cases h | skip
  ·rename_i e;rw[e]at hd;cases hx;cases hy;simp[Op.equalIn,hd,boolEq_eq]
  ·rename_i e;rw[e]at hd;cases hx;cases hy
   obtain⟨hk,h2⟩:=cond_some h
   clear h
   cases kindEq_iff hk
   cases h2
   simp[Op.equalIn,hd]
   rfl
  ·rename_i e;rw[e]at hd;cases hx;cases hy
   obtain⟨hk,h2⟩:=cond_some h
   clear h
   cases fkindEq_iff hk
   cases h2
   simp[Op.equalIn,hd,fEq,isO_eq,Op.floatEq]
  ·rename_i e;rw[e]at hd;cases hx;cases hy
   obtain⟨hk,h2⟩:=cond_some h
   clear h
   cases fkindEq_iff hk
   cases h2
   simp[Op.equalIn,hd,fEq,isO_eq,Op.floatEq]
  ·rename_i e;rw[e]at hd;cases hx with
   | str s _ hs=>cases hy with
    | str s' _ hs'=>subst hs;subst hs';simp[Op.equalIn,hd,strBeq_eq,beq_toListBytes,ByteArray.toList_eq]
  ·rename_i e;rw[e]at hd;cases hx;cases hy;simp[Op.equalIn,hd]
  ·rename_i e;rw[e]at hd;cases hx;cases hy;simp[Op.equalIn,hd]
  ·rename_i e;rw[e]at hd;cases hx;cases hy;simp[Op.equalIn,hd]
  ·rename_i e;rw[e]at hd;cases hx;cases hy;simp[Op.equalIn,hd]
  ·rename_i e;rw[e]at hd;cases hx;cases hy;simp[Op.equalIn,hd]
  ·rename_i e;rw[e]at hd;cases hx;cases hy;simp[Op.equalIn,hd]
  ·rename_i e;rw[e]at hd;cases hx;cases hy with
   | trl _ _ _ hy hz=>revert hy;generalize (fun i=>List.getD _ i _)=f;generalize List.length _=n;intro hy;cases hy <;> first | (simp[Op.equalIn,hd];done) | (rename_i a;cases a <;> simp_all [Op.equalIn])
  ·rename_i e;rw[e]at hd;cases hy;cases hx with
   | trl _ _ _ hx hz=>revert hx;generalize (fun i=>List.getD _ i _)=f;generalize List.length _=n;intro hx;cases hx <;> first | (simp[Op.equalIn,hd];done) | (rename_i a;cases a <;> simp_all [Op.equalIn])
  ·rename_i e;rw[e]at hd;cases hx <;> cases hy <;> simp[Op.equalIn,hd]
  ·rename_i e;rw[e]at hd;cases hy;cases hx <;> simp[Op.equalIn,hd]
  ·rename_i e;rw[e]at hd;cases hx;cases hy;simp[Op.equalIn,hd]
  ·rename_i e;rw[e]at hd;cases hx;cases hy;simp[Op.equalIn,hd]
  ·rename_i e;rw[e]at hd;cases hx;cases hy;simp[Op.equalIn,hd]
  ·rename_i e;rw[e]at hd;cases hx;cases hy;simp[Op.equalIn,hd]
theorem run_eqFields{tt:TT}(htt:TTok P tt){xs ys:List AV}{w:World}{I:Nat->Prop}{φ:Phi}{us vs:Array Value}(hx:RC w I φ xs us)(hy:RC w I φ ys vs)(d:Nat) :
  ∀ (fs : List Field) {b : Bool}, fs.all (fun f => f.name != "_") = true → eqFields tt xs ys fs = some b → (Op.eqFields (d + 1) us vs fs).run P w = .ok b w
 | [],b,_,h=>by cases h;rfl
 | f::fs,b,hn,h=>by
  simp only[List.all_cons,Bool.and_eq_true]at hn
  have hname : f.name ≠ "_" := by simpa using hn.1
  simp only[eqFields]at h
  split at h
  ·rename_i x y hxo hyo
   split at h
   ·rename_i a b' ha hb
    cases h
    have ih:=run_eqFields htt hx hy d fs hn.2 hb
    unfold eqFields.eqPart at ha
    split at ha
    ·rename_i ti hti
     obtain⟨hag,ha⟩:ti.agg=false/\eq1 tt f.type x y=some a:=by
      cases hg:ti.agg with
      | true=>rw[hg]at ha;cases ha
      | false=>rw[hg]at ha;exact⟨rfl,ha⟩
     have hu:f.offset<us.size:=by
      rcases Nat.lt_or_ge f.offset xs.length with h | h
      ·have:=hx.1;omega
      ·rw[List.getElem?_eq_none h]at hxo;cases hxo
     have hv:f.offset<vs.size:=by
      rcases Nat.lt_or_ge f.offset ys.length with h | h
      ·have:=hy.1;omega
      ·rw[List.getElem?_eq_none h]at hyo;cases hyo
     have hp1:(part f.type us f.offset).run P w=.ok us[f.offset] w:=by
      unfold part
      simp only[Sem.run_bind,run_isAgg (htt f.type ti hti),Result.andThen_ok,hag,Bool.false_eq_true,if_false,Array.getElem?_eq_getElem hu,Sem.run_pure]
     have hp2:(part f.type vs f.offset).run P w=.ok vs[f.offset] w:=by
      unfold part
      simp only[Sem.run_bind,run_isAgg (htt f.type ti hti),Result.andThen_ok,hag,Bool.false_eq_true,if_false,Array.getElem?_eq_getElem hv,Sem.run_pure]
     have he:=run_eq1 htt ha (hx.2.2 _ _ _ hxo (Array.getElem?_eq_getElem hu)) (hy.2.2 _ _ _ hyo (Array.getElem?_eq_getElem hv)) d
     simp only[Op.eqFields,hname,ne_eq,not_false_eq_true,if_true,Sem.run_bind,hp1,hp2,he,Result.andThen_ok]
     cases a with
     | true=>simp[ih]
     | false=>simp
    ·cases ha
   ·cases h
  ·cases h
theorem run_eqA{tt:TT}(htt:TTok P tt){t:TypeId}{x y:AV}{b:Bool}(h:eqA tt t x y=some b){w:World}{I:Nat->Prop}{φ:Phi}{u v:Value}
  (hx:RV w I φ x u) (hy:RV w I φ y v):(Op.equal t u v).run P w=.ok b w /\ ∀ (op:BinOp) (p q:Operand),(eqGuard op t p q u v).run P w=.ok () w:=by
 unfold eqA at h
 split at h
 ·rename_i xs ys
  split at h
  ·rename_i ti hti
   split at h
   ·rename_i fields hd
    obtain⟨hst,h⟩:=ncond_some h
    obtain⟨hn,h⟩:=cond_some h
    cases hx with
    | agg _ us hl1 h11 hr1=>cases hy with
     | agg _ vs hl2 h12 hr2=>
      obtain⟨i,hi,hs,hby,hdd,ha,hz,hstood,_⟩:=ti_spec (htt t ti hti)
      have hf:P.fieldsOf t=fields:=by simp[Program.fieldsOf,hdd,hd]
      have hu:P.underlying t=some (.struct (P.fieldsOf t)):=by rw[hf,hdd,hd]
      have hgt:P.eqGuardType P.depth t=false:=by
       have hdep:P.depth=(P.depth - 2)+1+1:=by unfold Program.depth;omega
       rw[hdep]
       simp only[Program.eqGuardType,hdd,hd]
       rw[Array.any_eq_false]
       intro q hq
       have hmem:fields[q] ∈ fields.toList:=by simp
       have hok:∀ (fs:List Field) (b:Bool),eqFields tt xs ys fs=some b -> ∀ f ∈ fs,∃ tf,tt f.type=some tf/\tf.agg=false /\ ∃ x y b,eq1 tt f.type x y=some b:=by
        intro fs
        induction fs with
        | nil=>intro b _ f hf;cases hf
        | cons g fs ih=>
         intro b hb f hf
         simp only[eqFields]at hb
         split at hb
         ·split at hb
          ·rename_i a b' ha hb'
           rcases List.mem_cons.1 hf with rfl | hf
           ·unfold eqFields.eqPart at ha
            split at ha
            ·rename_i tf htf
             cases hg:tf.agg with
             | true=>rw[hg]at ha;cases ha
             | false=>rw[hg]at ha;exact⟨tf,htf,hg,_,_,_,ha⟩
            ·cases ha
           ·exact ih _ hb' f hf
          ·cases hb
         ·cases hb
       obtain⟨tf,htf,hag,x1,y1,b1,he1⟩:=hok _ _ h _ hmem
       obtain⟨i2,hi2,hs2,hby2,hdd2,ha2,hz2,hst2,_⟩:=ti_spec (htt _ tf htf)
       simp only[hdd2]
       unfold eq1 at he1
       rw[htf]at he1
       simp only at he1
       split at he1 <;> first | (rename_i e;simp[e];done) | (cases he1;done)
      refine⟨?_,fun op p q=>run_eqGuard_agg (P:=P) w op t p q us vs hgt⟩
      unfold Op.equal Op.maxDepth
      rw[run_equalIn_struct w 9999 t us vs hu (hstood ▸ hst),hf]
      exact run_eqFields htt ⟨hl1,h11,hr1⟩ ⟨hl2,h12,hr2⟩ 9998 _ hn h
   ·cases h
  ·cases h
 ·rename_i hna
  refine⟨run_eq1 htt h hx hy 9999,fun op p q=>?_⟩
  have hni:∀ (z:AV) (u:Value),RV w I φ z u->u=.nilIface->z=.undef:=by
   intro z u hz e
   subst e
   cases hz with
   | undef=>rfl
   | trl _ _ _ h _=>generalize hn:List.length _=n at h;generalize (fun i=>List.getD _ i _)=f at h;cases h
   | tn _ _ _ _ h=>cases h
  have hag:∀ (z:AV) (u:Value) (c:Array Value),RV w I φ z u->u=.agg c->z=.undef \/ ∃ cs,z=.agg cs:=by
   intro z u c hz e
   subst e
   cases hz with
   | undef=>exact .inl rfl
   | agg cs=>exact .inr ⟨cs,rfl⟩
   | trl _ _ _ h _=>generalize hn:List.length _=n at h;generalize (fun i=>List.getD _ i _)=f at h;cases h
   | tn _ _ _ _ h=>cases h
  have hxu:x ≠ .undef/\y ≠ .undef:=by
   constructor
   ·rintro rfl;unfold eq1 at h;split at h <;> first | (cases h;done) | (split at h <;> first | (clear hx hy hni hag hna;simp_all;done) | (cases h;done))
   ·rintro rfl;unfold eq1 at h;split at h <;> first | (cases h;done) | (split at h <;> first | (clear hx hy hni hag hna;simp_all;done) | (cases h;done))
  have hfin:∀ (X:Sem Unit) (Y:Array Value->Array Value->Sem Unit),Sem.run P (match u,v with
    | .nilIface,.nilIface=>X
    | .agg a,.agg b=>Y a b
    | _,_=>pure ()) w=.ok () w:=by
   intro X Y
   split
   ·exact absurd (hni x _ hx rfl) hxu.1
   ·rcases hag x _ _ hx rfl with e | ⟨cs,e⟩
    ·exact absurd e hxu.1
    ·rcases hag y _ _ hy rfl with e' | ⟨cs',e'⟩
     ·exact absurd e' hxu.2
     ·exact(hna cs cs' e e').elim
   ·rfl
  cases op <;> first | rfl | (simp only[eqGuard,Bool.not_true,Bool.false_eq_true,if_false];exact hfin _ _)
end
end Go.AM
end
noncomputable section
set_option linter.unusedVariables false
set_option linter.unusedSimpArgs false
namespace Go.AM
variable {R:Type}
section
variable {P:Program} {tt:TT} {ρ:Operand->AV} {rd:Nat->BS} {nx:Nat} {k:AopK R} {r:R} {o:Oper}
theorem guard_plain(op:BinOp)(t:TypeId)(p q:Operand)(u v:Value)(w:World)(h:(∀ c,u ≠ .agg c)/\u ≠ .nilIface):(eqGuard op t p q u v).run P w=.ok () w:=by
 have hfin:∀ (X:Sem Unit) (Y:Array Value->Array Value->Sem Unit),Sem.run P (match u,v with
   | .nilIface,.nilIface=>X
   | .agg a,.agg b=>Y a b
   | _,_=>pure ()) w=.ok () w:=by
  intro X Y
  split
  ·exact absurd rfl h.2
  ·exact absurd rfl (h.1 _)
  ·rfl
 cases op <;> first | rfl | (simp only[eqGuard,Bool.not_true,Bool.false_eq_true,if_false];exact hfin _ _)
theorem aop_binOp(htt:TTok P tt){op:BinOp}{t t2:TypeId}{x y:Operand}(ho:o.op=.binOp op t x y t2)(h:aopK tt ρ rd nx (.binOp op t x y t2) k=some r):Good P o ρ rd k r:=by
 simp only[aopK]at h
 have hm:x ∈ o.op.operands:=by simp[ho,Op.operands]
 have hm2:y ∈ o.op.operands:=by simp[ho,Op.operands]
 have hex:∀ (ρr:Operand->Value) (w:World) (u:Value),(eqGuard op t x y (ρr x) (ρr y)).run P w=.ok () w->(binOp op t (ρr x) (ρr y)).run P w=.ok u w->(execOp ρr o).run P w=.ok (.value u) w:=by
  intro ρr w u h1 h2
  simp only[execOp,ho,Sem.run_bind,h1,h2,Result.andThen_ok,Sem.run_pure]
 unfold abinK at h
 split at h
 ·rename_i kd a kd' b hx0 hy0
  have hval:∀ {v:AV} {u:Value},k v [] []=some r->(∀ w,(binOp op t (.int kd a) (.int kd' b)).run P w=.ok u w)->(∀ w I φ,RV w I φ v u)->Good P o ρ rd k r:=by
   intro v u hk hrun hrv
   refine Good.pure hk fun ρr w φ I hx=>⟨u,?_,hrv w I φ⟩
   have h1:=hx x hm
   have h2:=hx y hm2
   rw[hx0]at h1
   rw[hy0]at h2
   generalize hu:ρr x=ux at h1
   generalize hv:ρr y=uy at h2
   cases h1
   cases h2
   refine hex ρr w u ?_ ?_
   ·rw[hu,hv];exact guard_plain op t x y _ _ w ⟨fun c e=>(by cases e),fun e=>(by cases e)⟩
   ·rw[hu,hv];exact hrun w
  split at h
  ·obtain⟨hb,h⟩:=ncond_some h
   have hb:=of_decide_eq_false hb
   exact hval h (fun w=>by simp[binOp,Op.shift,hb]) fun w I φ=>.int _ _
  ·obtain⟨hb,h⟩:=ncond_some h
   have hb:=of_decide_eq_false hb
   exact hval h (fun w=>by simp[binOp,Op.shift,hb]) fun w I φ=>.int _ _
  ·rename_i hn1 hn2
   obtain⟨hk,h2⟩:=cond_some h
   clear h
   cases kindEq_iff hk
   have h:=h2
   clear h2
   split at h
   ·exact hval h (fun w=>by simp[binOp,Op.intArith]) fun w I φ=>.int _ _
   ·exact hval h (fun w=>by simp[binOp,Op.intArith]) fun w I φ=>.int _ _
   ·exact hval h (fun w=>by simp[binOp,Op.intArith]) fun w I φ=>.int _ _
   ·obtain⟨hb,h⟩:=ncond_some h
    have hb:=of_decide_eq_false hb
    exact hval h (fun w=>by simp[binOp,Op.intDiv,hb]) fun w I φ=>.int _ _
   ·obtain⟨hb,h⟩:=ncond_some h
    have hb:=of_decide_eq_false hb
    exact hval h (fun w=>by simp[binOp,Op.intDiv,hb]) fun w I φ=>.int _ _
   ·exact hval h (fun w=>by simp[binOp,Op.intBits]) fun w I φ=>.int _ _
   ·exact hval h (fun w=>by simp[binOp,Op.intBits]) fun w I φ=>.int _ _
   ·exact hval h (fun w=>by simp[binOp,Op.intBits]) fun w I φ=>.int _ _
   ·exact hval h (fun w=>by simp[binOp,Op.intBits]) fun w I φ=>.int _ _
   ·obtain⟨c,hc,h⟩:=obK_some h
    refine hval h (fun w=>?_) fun w I φ=>.bool _
    have:=run_intCmp (P:=P) hc w
    unfold cmpI at hc
    split at hc <;> first | (cases hc;done) | (simpa [binOp] using this)
 ·rename_i kd a kd' b hx0 hy0
  obtain⟨hk,h2⟩:=cond_some h
  clear h
  cases fkindEq_iff hk
  have h:=h2
  clear h2
  have hval:∀ {v:AV} {u:Value},k v [] []=some r->(∀ w,(binOp op t (.float kd a) (.float kd b)).run P w=.ok u w)->(∀ w I φ,RV w I φ v u)->Good P o ρ rd k r:=by
   intro v u hk hrun hrv
   refine Good.pure hk fun ρr w φ I hx=>⟨u,?_,hrv w I φ⟩
   have h1:=hx x hm
   have h2:=hx y hm2
   rw[hx0]at h1
   rw[hy0]at h2
   generalize hu:ρr x=ux at h1
   generalize hv:ρr y=uy at h2
   cases h1
   cases h2
   refine hex ρr w u ?_ ?_
   ·rw[hu,hv];exact guard_plain op t x y _ _ w ⟨fun c e=>(by cases e),fun e=>(by cases e)⟩
   ·rw[hu,hv];exact hrun w
  split at h
  ·obtain⟨c,hc,h⟩:=okK_some h
   exact hval h (fun w=>by simp[binOp,Op.floatArith,hc]) fun w I φ=>.flt _ _
  ·obtain⟨c,hc,h⟩:=okK_some h
   exact hval h (fun w=>by simp[binOp,Op.floatArith,hc]) fun w I φ=>.flt _ _
  ·obtain⟨c,hc,h⟩:=okK_some h
   exact hval h (fun w=>by simp[binOp,Op.floatArith,hc]) fun w I φ=>.flt _ _
  ·obtain⟨c,hc,h⟩:=okK_some h
   exact hval h (fun w=>by simp[binOp,Op.floatArith,hc]) fun w I φ=>.flt _ _
  ·obtain⟨c,hc,h⟩:=obK_some h
   refine hval h (fun w=>?_) fun w I φ=>.bool _
   have:=run_floatCmp (P:=P) hc w
   unfold cmpF at hc
   split at hc <;> first | (cases hc;done) | (simpa [binOp] using this)
 ·rename_i kd a b kd' c d hx0 hy0
  obtain⟨hk,h2⟩:=cond_some h
  clear h
  cases fkindEq_iff hk
  have h:=h2
  clear h2
  have hval:∀ {v:AV} {u:Value},k v [] []=some r->(∀ w,(binOp op t (.complex kd a b) (.complex kd c d)).run P w=.ok u w)->(∀ w I φ,RV w I φ v u)->Good P o ρ rd k r:=by
   intro v u hk hrun hrv
   refine Good.pure hk fun ρr w φ I hx=>⟨u,?_,hrv w I φ⟩
   have h1:=hx x hm
   have h2:=hx y hm2
   rw[hx0]at h1
   rw[hy0]at h2
   generalize hu:ρr x=ux at h1
   generalize hv:ρr y=uy at h2
   cases h1
   cases h2
   refine hex ρr w u ?_ ?_
   ·rw[hu,hv];exact guard_plain op t x y _ _ w ⟨fun c e=>(by cases e),fun e=>(by cases e)⟩
   ·rw[hu,hv];exact hrun w
  split at h
  ·refine hval h (fun w=>?_) fun w I φ=>.bool _
   simp[binOp,Op.complexOp,Op.Complex.cmp,Op.floatCmp,asBool,fEq,isO_eq]
  ·refine hval h (fun w=>?_) fun w I φ=>.bool _
   simp[binOp,Op.complexOp,Op.Complex.cmp,Op.floatCmp,asBool,fEq,isO_eq]
  ·cases h
 ·rename_i a b hx0 hy0
  have hval:∀ {v:AV} (u:ByteArray->ByteArray->Value),k v [] []=some r->(∀ w (s s':ByteArray),a=s.data.toList->b=s'.data.toList->(binOp op t (.string s) (.string s')).run P w=.ok (u s s') w /\ ∀ I φ,RV w I φ v (u s s'))->Good P o ρ rd k r:=by
   intro v u hk hrun
   refine Good.pure hk fun ρr w φ I hx=>?_
   have h1:=hx x hm
   have h2:=hx y hm2
   rw[hx0]at h1
   rw[hy0]at h2
   generalize hu:ρr x=ux at h1
   generalize hv:ρr y=uy at h2
   cases h1 with
   | str s _ hs=>cases h2 with
    | str s' _ hs'=>
     obtain⟨g1,g2⟩:=hrun w s s' hs hs'
     refine⟨u s s',hex ρr w _ ?_ ?_,g2 I φ⟩
     ·rw[hu,hv];exact guard_plain op t x y _ _ w ⟨fun c e=>(by cases e),fun e=>(by cases e)⟩
     ·rw[hu,hv];exact g1
  split at h
  ·obtain⟨hl,h⟩:=cond_some h
   have hl:=Nat.le_of_ble_eq_true hl
   refine hval (fun s s'=>.string (s++s')) h fun w s s' hs hs'=>⟨?_,fun I φ=>.str _ _ ?_⟩
   ·subst hs;subst hs'
    have:¬ (((s.size+s'.size:Nat):Int) > IntKind.i64.max):=by
     have h1:s.data.toList.length=s.size:=rfl
     have h2:s'.data.toList.length=s'.size:=rfl
     have:IntKind.i64.max=9223372036854775807:=by decide
     rw[this];omega
    simp only[binOp,Op.stringOp,this,if_false,Sem.run_pure]
   ·subst hs;subst hs';simp[ByteArray.data_append]
  ·obtain⟨c,hc,h⟩:=obK_some h
   refine hval (fun _ _=>.bool c) h fun w s s' hs hs'=>⟨?_,fun I φ=>.bool c⟩
   have:=run_strOp (P:=P) hc s s' hs hs' w
   unfold cmpS at hc
   split at hc <;> first | (cases hc;done) | (simpa [binOp] using this)
 ·rename_i hni hnf hnc hns
  have key:∀ {b:Bool},eqA tt t (ρ x) (ρ y)=some b -> ∀ (ρr:Operand->Value) (w:World) (φ:Phi) (I:Nat->Prop),RV w I φ (ρ x) (ρr x)->RV w I φ (ρ y) (ρr y) ->
    (op=.eql->(binOp op t (ρr x) (ρr y)).run P w=.ok (.bool b) w)/\(op=.neq->(binOp op t (ρr x) (ρr y)).run P w=.ok (.bool (!b)) w):=by
   intro b he ρr w φ I h1 h2
   have hr:=(run_eqA htt he h1 h2).1
   have hnot:¬ (∃ k a k' a',ρr x=.int k a/\ρr y=.int k' a') /\ ¬ (∃ k a k' a',ρr x=.float k a/\ρr y=.float k' a') /\
     ¬ (∃ k a b k' a' b',ρr x=.complex k a b/\ρr y=.complex k' a' b') /\ ¬ (∃ a b,ρr x=.string a/\ρr y=.string b):=by
    have hxy:ρ x ≠ .undef/\ρ y ≠ .undef:=by
     constructor
     ·intro e;rw[e]at he;unfold eqA eq1 at he;split at he <;> first | (cases he;done) | (split at he <;> first | (cases he;done) | (split at he <;> first | (cases he;done) | (clear h1 h2 hr hex hm hm2 h;simp_all;done)))
     ·intro e;rw[e]at he;unfold eqA eq1 at he;split at he <;> first | (cases he;done) | (split at he <;> first | (cases he;done) | (split at he <;> first | (cases he;done) | (clear h1 h2 hr hex hm hm2 h;simp_all;done)))
    have hi:∀ (z:AV) k a,RV w I φ z (.int k a)->z ≠ .undef->z=.int k a:=by
     intro z k a hz hne
     cases hz with
     | undef=>exact absurd rfl hne
     | int=>rfl
     | trl _ _ _ h=>generalize hn:List.length _=n at h;generalize (fun i=>List.getD _ i _)=f at h;cases h
     | tn _ _ _ _ h=>cases h
    have hf:∀ (z:AV) k a,RV w I φ z (.float k a)->z ≠ .undef->z=.flt k a:=by
     intro z k a hz hne
     cases hz with
     | undef=>exact absurd rfl hne
     | flt=>rfl
     | trl _ _ _ h=>generalize hn:List.length _=n at h;generalize (fun i=>List.getD _ i _)=f at h;cases h
     | tn _ _ _ _ h=>cases h
    have hc:∀ (z:AV) k a b,RV w I φ z (.complex k a b)->z ≠ .undef->z=.cplx k a b:=by
     intro z k a b hz hne
     cases hz with
     | undef=>exact absurd rfl hne
     | cplx=>rfl
     | trl _ _ _ h=>generalize hn:List.length _=n at h;generalize (fun i=>List.getD _ i _)=f at h;cases h
     | tn _ _ _ _ h=>cases h
    have hs:∀ (z:AV) a,RV w I φ z (.string a)->z ≠ .undef->z=.str a.data.toList:=by
     intro z a hz hne
     cases hz with
     | undef=>exact absurd rfl hne
     | str _ _ e=>rw[e]
     | trl _ _ _ h=>generalize hn:List.length _=n at h;generalize (fun i=>List.getD _ i _)=f at h;cases h
     | tn _ _ _ _ h=>cases h
    refine⟨?_,?_,?_,?_⟩
    ·rintro⟨k,a,k',a',e1,e2⟩
     rw[e1]at h1;rw[e2]at h2
     exact hni _ _ _ _ (hi _ _ _ h1 hxy.1) (hi _ _ _ h2 hxy.2)
    ·rintro⟨k,a,k',a',e1,e2⟩
     rw[e1]at h1;rw[e2]at h2
     exact hnf _ _ _ _ (hf _ _ _ h1 hxy.1) (hf _ _ _ h2 hxy.2)
    ·rintro⟨k,a,b,k',a',b',e1,e2⟩
     rw[e1]at h1;rw[e2]at h2
     exact hnc _ _ _ _ _ _ (hc _ _ _ _ h1 hxy.1) (hc _ _ _ _ h2 hxy.2)
    ·rintro⟨a,b,e1,e2⟩
     rw[e1]at h1;rw[e2]at h2
     exact hns _ _ (hs _ _ h1 hxy.1) (hs _ _ h2 hxy.2)
   obtain⟨n1,n2,n3,n4⟩:=hnot
   constructor
   ·rintro rfl
    have:binOp .eql t (ρr x) (ρr y)=(do pure (.bool (<- Op.equal t (ρr x) (ρr y)))):=by
     generalize ρr x=u at n1 n2 n3 n4
     generalize ρr y=v at n1 n2 n3 n4
     unfold binOp
     split <;> first | rfl | (rename_i e _ _;cases e;done) | (exact absurd ⟨_,_,_,_,rfl,rfl⟩ n1) | (exact absurd ⟨_,_,_,_,rfl,rfl⟩ n2) | (exact absurd ⟨_,_,_,_,_,_,rfl,rfl⟩ n3) | (exact absurd ⟨_,_,rfl,rfl⟩ n4) | (simp_all;done)
    rw[this]
    simp[hr]
   ·rintro rfl
    have:binOp .neq t (ρr x) (ρr y)=(do pure (.bool (!(<- Op.equal t (ρr x) (ρr y))))):=by
     generalize ρr x=u at n1 n2 n3 n4
     generalize ρr y=v at n1 n2 n3 n4
     unfold binOp
     split <;> first | rfl | (rename_i e _ _;cases e;done) | (exact absurd ⟨_,_,_,_,rfl,rfl⟩ n1) | (exact absurd ⟨_,_,_,_,rfl,rfl⟩ n2) | (exact absurd ⟨_,_,_,_,_,_,rfl,rfl⟩ n3) | (exact absurd ⟨_,_,rfl,rfl⟩ n4) | (simp_all;done)
    rw[this]
    simp[hr]
  split at h
  ·obtain⟨b,hb,h⟩:=obK_some h
   refine Good.pure h fun ρr w φ I hx=>⟨_,hex ρr w _ ?_ ?_,.bool b⟩
   ·exact(run_eqA htt hb (hx x hm) (hx y hm2)).2 _ x y
   ·exact(key hb ρr w φ I (hx x hm) (hx y hm2)).1 rfl
  ·obtain⟨b,hb,h⟩:=obK_some h
   cases he:eqA tt t (ρ x) (ρ y)with
   | none=>rw[he]at hb;cases hb
   | some b'=>
    rw[he]at hb
    cases hb
    refine Good.pure h fun ρr w φ I hx=>⟨_,hex ρr w _ ?_ ?_,.bool _⟩
    ·exact(run_eqA htt he (hx x hm) (hx y hm2)).2 _ x y
    ·exact(key he ρr w φ I (hx x hm) (hx y hm2)).2 rfl
  ·cases h
theorem aop_unOp{op:UnOp}{t:TypeId}{x:Operand}(ho:o.op=.unOp op t x)(h:aopK tt ρ rd nx (.unOp op t x) k=some r):Good P o ρ rd k r:=by
 simp only[aopK]at h
 have hm:x ∈ o.op.operands:=by simp[ho,Op.operands]
 unfold aunK at h
 split at h
 ·rename_i kd n hx0
  refine Good.pure h fun ρr w φ I hx=>?_
  have hp:=hx x hm
  rw[hx0]at hp
  generalize hu:ρr x=u at hp
  cases hp
  exact⟨_,by simp[execOp,ho,hu,Op.unary,Op.intArith],.int _ _⟩
 ·rename_i kd n hx0
  refine Good.pure h fun ρr w φ I hx=>?_
  have hp:=hx x hm
  rw[hx0]at hp
  generalize hu:ρr x=u at hp
  cases hp
  exact⟨_,by simp[execOp,ho,hu,Op.unary,Op.intBits,Nat.xor_comm],.int _ _⟩
 ·rename_i b hx0
  refine Good.pure h fun ρr w φ I hx=>?_
  have hp:=hx x hm
  rw[hx0]at hp
  generalize hu:ρr x=u at hp
  cases hp
  exact⟨_,by simp[execOp,ho,hu,Op.unary],.bool _⟩
 ·cases h
end
end Go.AM
end
noncomputable section
set_option linter.unusedVariables false
set_option linter.unusedSimpArgs false
namespace Go.AM
variable {R:Type}
def wphi(φ:Phi):View->Phi
 | .list _=>φ
 | .fn .. => Phi.no
structure Flat(w:World)(I:Nat->Prop)(φ:Phi)(sz n:Nat)(f:Nat->List AV)(vs:Array Value):Prop where
 size:vs.size=n*sz
 one:∀ (p:Nat) u,vs[p]? = some u->u.oneCell'=true
 len:∀ i,i<n->(f i).length=sz
 val:∀ (i k:Nat) c u,i<n->(f i)[k]? = some c->vs[i*sz+k]? = some u->RV w I φ c u
theorem Flat.mono{w w':World}{I I':Nat->Prop}{φ φ':Phi}{sz n:Nat}{f:Nat->List AV}{vs:Array Value}(h:Flat w I φ sz n f vs)
  (hI:∀ B,I B->I' B/\w'.heap[B]? = w.heap[B]?) (hs:∀ B,csize w B<=csize w' B) (le:Phi.le φ φ'):Flat w' I' φ' sz n f vs:=
 ⟨h.size,h.one,h.len,fun i k c u hi e e'=>(h.val i k c u hi e e').mono hI hs le⟩
structure VRow(w:World)(I:Nat->Prop)(φ:Phi)(sz:Nat)(v:View)(B q:Nat):Prop where
 len:∀ i,i<v.len->(v.at i).length=sz
 cells:∀ i,i<v.len->Cells w I (wphi φ v) B (q+i*sz) (v.at i)
theorem list_at{es:List (List AV)}{i:Nat}(h:i<es.length):es[i]? = some (es.getD i []):=by
 simp[List.getD,List.getElem?_eq_getElem h]
theorem view_some{x:AV}{rd:Nat->BS}{sz:Nat}{v:View}(h:x.view rd sz=some v):x.viewG rd sz=some (v,true):=by
 unfold AV.view at h
 split at h
 ·rename_i w hw;cases h;exact hw
 ·cases h
theorem viewK_some{R:Type}{x:AV}{rd:Nat->BS}{sz:Nat}{k:View->Option R}{r:R}(h:viewK x rd sz k=some r):∃ v,x.view rd sz=some v/\k v=some r:=by
 unfold viewK at h
 split at h
 ·rename_i w g hw
  obtain⟨hg,h⟩:=cond_some h
  subst hg
  exact⟨w,by unfold AV.view;rw[hw],h⟩
 ·cases h
theorem view_agree{x:AV}{rd rd':Nat->BS}{sz:Nat}(h:∀ b ∈ x.viewIds,rd' b=rd b):x.view rd' sz=x.view rd sz:=by
 cases x with
 | sl s b off len cm=>
  have e:=h b (by simp[AV.viewIds])
  simp only[AV.view,AV.viewG,e]
 | sn s b n=>
  have e:=h b (by simp[AV.viewIds])
  simp only[AV.view,AV.viewG,e]
 | _=>rfl
theorem view_sl_size{rd:Nat->BS}{sz z b off len cm:Nat}{v:View}(h:(AV.sl sz b off len cm).view rd z=some v):sz=z:=by
 replace h:=view_some h
 simp only[AV.viewG]at h
 split at h <;>
 ·simp only[Option.some.injEq,Prod.mk.injEq]at h
  exact Nat.eq_of_beq_eq_true (and_true' h.2).1
theorem capNew_le(v:View):capNew v<=v.len:=by cases v <;> simp[capNew,View.len]
theorem or_true'{a b:Bool}(h:(a||b)=true):a=true\/b=true:=by cases a <;> simp_all
theorem view_ok{w:World}{I:Nat->Prop}{φ:Phi}{rd:Nat->BS}{sz:Nat}{x:AV}{v:View}{u:Value}(hh:RH w I φ rd)(hv:x.view rd sz=some v)(hx:RV w I φ x u) :
  (∃ s,u=.string s/\sz=1/\v=.fn s.size fun i=>[.int .u8 ((s.data.toList.getD i 0).toNat)]) \/
  (∃ B q cap,u=.slice (some ⟨B,q,none⟩) v.len cap/\VRow w I φ sz v B q)\/(∃ a n cap,u=.slice a n cap/\v.len=0/\n=0):=by
 replace hv:=view_some hv
 unfold AV.viewG at hv
 split at hv
 ·cases hv;cases hx;exact .inr (.inr ⟨_,_,_,rfl,rfl,rfl⟩)
 ·rename_i s es
  simp only[Option.some.injEq,Prod.mk.injEq]at hv
  obtain⟨rfl,hs⟩:=hv
  have hs':=Nat.eq_of_beq_eq_true hs
  clear hs
  subst hs'
  cases hx with
  | trl _ _ _ hx hz=>
   generalize hn:es.length=n at hx
   generalize hf:(fun i=>es.getD i [])=f at hx
   cases hx with
   | tr _ _ _ B ob cap uf hI hn' hcp hlen hc h1 hr=>
    refine .inr (.inl ⟨B,ob,cap,by simp[View.len,hn],⟨fun i hi=>?_,fun i hi k c e=>?_⟩⟩)
    ·simp only[View.len]at hi;have:=hlen i (by omega);rw[<- hf]at this;exact this
    ·simp only[View.len]at hi
     have e':(f i)[k]? = some c:=by rw[<- hf];exact e
     exact⟨_,hc i k c (by omega) e',h1 i k c (by omega) e',(hr i k c (by omega) e').mono (fun B hB=>⟨hB,rfl⟩) (fun _=>Nat.le_refl _) (Phi.no_le _)⟩
   | trn=>exact .inr (.inr ⟨_,_,_,rfl,by simp[View.len,hn],rfl⟩)
 ·rename_i s n f
  simp only[Option.some.injEq,Prod.mk.injEq]at hv
  obtain⟨rfl,hs⟩:=hv
  have hs':=Nat.eq_of_beq_eq_true hs
  clear hs
  subst hs'
  cases hx with
  | tr _ _ _ B ob cap uf hI hn' hcp hlen hc h1 hr=>
   exact .inr (.inl ⟨B,ob,cap,rfl,⟨hlen,fun i hi k c e=>⟨_,hc i k c hi e,h1 i k c hi e,hr i k c hi e⟩⟩⟩)
  | trn=>exact .inr (.inr ⟨_,_,_,rfl,rfl,rfl⟩)
 ·rename_i s b off len cm
  cases hx with
  | sle=>
   split at hv <;>
   ·simp only[Option.some.injEq,Prod.mk.injEq]at hv
    obtain⟨rfl,_⟩:=hv
    exact .inr (.inr ⟨_,_,_,rfl,by simp[View.len],rfl⟩)
  | sl _ _ B ob _ _ _ cap q hφ hq hl hc hsz=>
   by_cases hz:len=0
   ·subst hz
    split at hv <;>
    ·simp only[Option.some.injEq,Prod.mk.injEq]at hv
     obtain⟨rfl,_⟩:=hv
     exact .inr (.inr ⟨_,_,_,rfl,by simp[View.len],rfl⟩)
   ·have hz':Nat.beq len 0=false:=by
     cases hb:Nat.beq len 0 with
     | false=>rfl
     | true=>exact absurd (Nat.eq_of_beq_eq_true hb) hz
    have hrow:∀ (hlive:live (rd b)=true),RB w I φ B ob s (rd b):=by
     intro hlive
     obtain⟨B',o',sz',e,r⟩:=hh.blkO hφ hlive
     rw[hφ]at e;cases e;exact r
    split at hv
    ·rename_i m s' es hb
     simp only[Option.some.injEq,Prod.mk.injEq]at hv
     obtain⟨rfl,hg⟩:=hv
     obtain⟨hs,hg2⟩:=and_true' hg
     clear hg
     have hs:=Nat.eq_of_beq_eq_true hs
     subst hs
     rw[hz']at hg2
     have hle:=Nat.le_of_ble_eq_true ((or_true' hg2).resolve_left (by simp))
     rw[Nat.add_comm]at hle
     have hr:=hrow (by rw[hb];rfl)
     rw[hb]at hr
     have hlen:((es.drop off).take len).length=len:=by simp;omega
     have hat:∀ i,i<len->((es.drop off).take len).getD i []=es.getD (off+i) []:=by
      intro i hi
      simp only[List.getD,List.getElem?_take,if_pos hi,List.getElem?_drop]
     refine .inr (.inl ⟨B,q,cap,by simp[View.len];omega,⟨fun i hi=>?_,fun i hi k c e=>?_⟩⟩)
     ·simp only[View.len,hlen]at hi
      simp only[View.at,hat i hi]
      exact hr.2.2.1 _ _ (list_at (by omega))
     ·simp only[View.len,hlen]at hi
      simp only[View.at,hat i hi]at e
      have:=hr.2.2.2 (off+i) _ k c (list_at (by omega)) e
      rw[hq,show ob+off*s+i*s+k=ob+(off+i)*s+k by rw[Nat.add_mul];omega]
      exact this
    ·rename_i m s' n f hb
     simp only[Option.some.injEq,Prod.mk.injEq]at hv
     obtain⟨rfl,hg⟩:=hv
     obtain⟨hs,hg2⟩:=and_true' hg
     clear hg
     have hs:=Nat.eq_of_beq_eq_true hs
     subst hs
     rw[hz']at hg2
     have hle:=Nat.le_of_ble_eq_true ((or_true' hg2).resolve_left (by simp))
     rw[Nat.add_comm]at hle
     have hr:=hrow (by rw[hb];rfl)
     rw[hb]at hr
     refine .inr (.inl ⟨B,q,cap,rfl,⟨fun i hi=>?_,fun i hi k c e=>?_⟩⟩)
     ·simp only[View.len]at hi
      exact hr.2.2.1 (i+off) (by omega)
     ·simp only[View.len]at hi
      have:=hr.2.2.2 (i+off) k c (by omega) e
      rw[hq,show ob+off*s+i*s+k=ob+(i+off)*s+k by rw[Nat.add_mul];omega]
      obtain⟨u,a1,a2,a3⟩:=this
      exact⟨u,a1,a2,a3⟩
    ·simp only[Option.some.injEq,Prod.mk.injEq]at hv
     obtain⟨rfl,hg⟩:=hv
     obtain⟨_,hg⟩:=and_true' hg
     rw[hz']at hg;cases hg
 ·rename_i s
  simp only[Option.some.injEq,Prod.mk.injEq]at hv
  obtain⟨rfl,hs⟩:=hv
  have hs:=Nat.eq_of_beq_eq_true hs
  subst hs
  cases hx with
  | str s' _ hs=>
   subst hs
   exact .inl ⟨s',rfl,rfl,by simp⟩
 ·rename_i s n f
  simp only[Option.some.injEq,Prod.mk.injEq]at hv
  obtain⟨rfl,hs⟩:=hv
  have hs':=Nat.eq_of_beq_eq_true hs
  clear hs
  subst hs'
  cases hx with
  | tn _ _ _ _ hx=>
   cases hx with
   | tr _ _ _ B ob cap uf hI hn' hcp hlen hc h1 hr=>
    exact .inr (.inl ⟨B,ob,cap,rfl,⟨hlen,fun i hi k c e=>⟨_,hc i k c hi e,h1 i k c hi e,hr i k c hi e⟩⟩⟩)
   | trn=>exact .inr (.inr ⟨_,_,_,rfl,rfl,rfl⟩)
 ·rename_i s b n
  split at hv
  ·rename_i m s' n' f hb
   simp only[Option.some.injEq,Prod.mk.injEq]at hv
   obtain⟨rfl,hg⟩:=hv
   obtain⟨hs,hle⟩:=and_true' hg
   have hs':=Nat.eq_of_beq_eq_true hs
   clear hs hg
   subst hs'
   have hle:=Nat.le_of_ble_eq_true hle
   cases hx with
   | sn0=>exact .inr (.inr ⟨_,_,_,rfl,rfl,rfl⟩)
   | sn _ _ _ B ob cap hφ hl hsz=>
    have hr:=hh.at hφ (by rw[hb];rfl)
    rw[hb]at hr
    exact .inr (.inl ⟨B,ob,cap,rfl,⟨fun i hi=>hr.2.2.1 i (Nat.lt_of_lt_of_le hi hle),fun i hi k c e=>hr.2.2.2 i k c (Nat.lt_of_lt_of_le hi hle) e⟩⟩)
  ·simp only[Option.some.injEq,Prod.mk.injEq]at hv
   obtain⟨rfl,hg⟩:=hv
   obtain⟨_,hn⟩:=and_true' hg
   have hn:=Nat.eq_of_beq_eq_true hn
   subst hn
   cases hx <;> exact .inr (.inr ⟨_,_,_,rfl,rfl,rfl⟩)
  ·cases hv
 ·cases hv
theorem div_lt_of{p n sz:Nat}(h:p<n*sz):p / sz<n:=by
 rcases Nat.eq_zero_or_pos sz with h0 | h0
 ·subst h0;omega
 ·exact(Nat.div_lt_iff_lt_mul h0).2 h
theorem idx_lt{i n k sz:Nat}(hi:i<n)(hk:k<sz):i*sz+k<n*sz:=by
 have:=Nat.mul_le_mul_right sz (Nat.succ_le_of_lt hi)
 rw[Nat.succ_mul]at this
 omega
theorem vrow_cells{w:World}{I:Nat->Prop}{φ:Phi}{sz:Nat}{v:View}{B q:Nat}(h:VRow w I φ sz v B q) :
  ∃ vs:List Value,vs.length=v.len*sz/\(∀ (j:Nat) u,vs[j]? = some u->w.cell? ⟨B,q+j,none⟩=some u)/\Flat w I (wphi φ v) sz v.len v.at vs.toArray:=by
 have hcell:∀ p,p<v.len*sz -> ∃ u,w.cell? ⟨B,q+p,none⟩=some u/\u.oneCell'=true /\ ∀ i k c,p=i*sz+k->k<sz->(v.at i)[k]? = some c->RV w I (wphi φ v) c u:=by
  intro p hp
  have hi:=div_lt_of hp
  have hsz:0<sz:=by rcases Nat.eq_zero_or_pos sz with h0 | h0 <;> first | exact h0 | (subst h0;omega)
  have hk:=Nat.mod_lt p hsz
  have hpe:p=p / sz*sz+p % sz:=by rw[Nat.mul_comm];exact(Nat.div_add_mod p sz).symm
  have hl:=h.len _ hi
  obtain⟨u,h1,h2,h3⟩:=h.cells _ hi (p % sz) _ (List.getElem?_eq_getElem (by omega))
  refine⟨u,?_,h2,?_⟩
  ·rw[<- h1];congr 2;omega
  ·intro i k c e hk' hc
   have hii:i=p / sz:=by
    rw[e,Nat.mul_comm,Nat.mul_add_div hsz,Nat.div_eq_of_lt hk'];omega
   have hkk:k=p % sz:=by
    rw[e,Nat.mul_comm,Nat.mul_add_mod,Nat.mod_eq_of_lt hk']
   subst hii
   rw[hkk,List.getElem?_eq_getElem (by omega)]at hc
   cases hc
   exact h3
 refine⟨(List.range (v.len*sz)).map fun p=>(w.cell? ⟨B,q+p,none⟩).getD undef,by simp,?_,⟨by simp,?_,h.len,?_⟩⟩
 ·intro j u e
  by_cases hj:j<v.len*sz
  ·rw[List.getElem?_map,List.getElem?_range hj]at e
   simp only[Option.map_some,Option.some.injEq]at e
   obtain⟨u',h1,_⟩:=hcell j hj
   rw[h1]at e ⊢
   simpa using e
  ·rw[List.getElem?_eq_none (by simp;omega)]at e;cases e
 ·intro p u e
  have e:((List.range (v.len*sz)).map fun p=>(w.cell? ⟨B,q+p,none⟩).getD undef)[p]? = some u:=by simpa using e
  by_cases hj:p<v.len*sz
  ·rw[List.getElem?_map,List.getElem?_range hj]at e
   simp only[Option.map_some,Option.some.injEq]at e
   obtain⟨u',h1,h2,_⟩:=hcell p hj
   rw[h1]at e
   simp at e
   exact e ▸ h2
  ·rw[List.getElem?_eq_none (by simp;omega)]at e;cases e
 ·intro i k c u hi hc e
  have hk:k<sz:=by
   have:=h.len i hi
   rcases Nat.lt_or_ge k (v.at i).length with h' | h'
   ·omega
   ·rw[List.getElem?_eq_none h']at hc;cases hc
  have hp:=idx_lt hi hk
  have e:((List.range (v.len*sz)).map fun p=>(w.cell? ⟨B,q+p,none⟩).getD undef)[i*sz+k]? = some u:=by simpa using e
  rw[List.getElem?_map,List.getElem?_range hp]at e
  simp only[Option.map_some,Option.some.injEq]at e
  obtain⟨u',h1,_,h3⟩:=hcell _ hp
  rw[h1]at e
  simp at e
  exact e ▸ h3 i k c rfl hk hc
theorem str_flat(w:World)(I:Nat->Prop)(s:ByteArray) :
  Flat w I Phi.no 1 s.size (fun i=>[.int .u8 ((s.data.toList.getD i 0).toNat)]) (s.data.map fun b=>.int .u8 b.toNat):=by
 refine⟨by simp,fun p u e=>?_,fun i _=>rfl,fun i k c u hi hc e=>?_⟩
 ·rw[Array.getElem?_map]at e
  cases hb:s.data[p]? with
  | none=>rw[hb]at e;cases e
  | some b=>rw[hb]at e;cases e;rfl
 ·cases k with
  | succ k=>simp at hc
  | zero=>
   simp at hc
   subst hc
   simp only[Nat.mul_one,Nat.add_zero]at e
   rw[Array.getElem?_map]at e
   have hlt:i<s.data.size:=hi
   rw[Array.getElem?_eq_getElem hlt]at e
   simp at e
   subst e
   rw[Array.getElem?_eq_getElem hlt,Option.getD_some]
   exact .int _ _
section
variable {P:Program}
theorem read_view{w:World}{I:Nat->Prop}{φ:Phi}{rd:Nat->BS}{sz:Nat}{x:AV}{v:View}{u:Value}(hh:RH w I φ rd)(hv:x.view rd sz=some v)(hx:RV w I φ x u) :
  (∀ w',(Builtin.lenOf u).run P w'=.ok v.len w') /\ ∃ vs,(∀ w':World,w'.heap=w.heap->(Builtin.firstCells sz v.len u).run P w'=.ok vs w')/\Flat w I (wphi φ v) sz v.len v.at vs:=by
 rcases view_ok hh hv hx with ⟨s,rfl,rfl,rfl⟩ | ⟨B,q,cap,rfl,hr⟩ | ⟨a,n,cap,rfl,h0,rfl⟩
 ·refine⟨fun _=>rfl,_,fun _ _=>rfl,?_⟩
  have:s.extract 0 s.size=s:=by
   have h1:(s.extract 0 s.size).data=s.data:=by simp[ByteArray.data_extract]
   cases hs:s.extract 0 s.size;rw[hs]at h1;cases s;simp_all
  simp only[View.len]
  rw[this]
  exact str_flat w I s
 ·obtain⟨vs,hl,hc,hf⟩:=vrow_cells hr
  refine⟨fun _=>rfl,vs.toArray,fun w' hw=>?_,hf⟩
  simp only[Builtin.firstCells]
  refine run_loadCells_of vs hl fun j v e=>?_
  have:=hc j v e
  simpa [World.cell?,hw] using this
 ·refine⟨fun _=>by simp[Builtin.lenOf,h0],#[],fun _ _=>?_,⟨by simp[h0],by simp,fun i hi=>by omega,fun i k c u hi=>by omega⟩⟩
  rw[h0]
  cases a with
  | none=>rfl
  | some a=>simp[Builtin.firstCells,loadCells,loadCellsFrom]
end
theorem RB.of_flat{w:World}{I:Nat->Prop}{φ φ':Phi}{sz:Nat}{v:View}{vs rest:Array Value}(hf:Flat w I (wphi φ v) sz v.len v.at vs)(hlt:∀ B,I B->B<w.heap.size)
  (le:Phi.le φ φ') (t:TypeId) (fz:Nat × Nat) (hfz:thawed (vs++rest) fz) (hns:notStr (vs++rest) fz sz) :
  RB (w.alloc (.cells (vs++rest) t fz)) I φ' w.heap.size 0 sz (blk sz v):=by
 have hrow:Row (w.alloc (.cells (vs++rest) t fz)) w.heap.size true sz:=⟨_,t,fz,alloc_new w _,fun _=>⟨hfz,hns⟩⟩
 have mono:∀ {ψ ψ':Phi} {c:AV} {u:Value},Phi.le ψ ψ'->RV w I ψ c u->RV (w.alloc (.cells (vs++rest) t fz)) I ψ' c u:=fun le h=>
  h.mono (fun B hB=>⟨hB,alloc_old w _ (hlt B hB)⟩) (csize_alloc w _) le
 have hcells:∀ i,i<v.len -> ∀ k c,(v.at i)[k]? = some c -> ∃ u,(w.alloc (.cells (vs++rest) t fz)).cell? ⟨w.heap.size,0+i*sz+k,none⟩=some u/\u.oneCell'=true/\RV w I (wphi φ v) c u:=by
  intro i hi k c hc
  have hk:k<sz:=by
   have:=hf.len i hi
   rcases Nat.lt_or_ge k (v.at i).length with h' | h'
   ·omega
   ·rw[List.getElem?_eq_none h']at hc;cases hc
  have hp:=idx_lt hi hk
  have hlt':i*sz+k<vs.size:=by rw[hf.size];exact hp
  refine⟨vs[i*sz+k],?_,hf.one _ _ (Array.getElem?_eq_getElem hlt'),hf.val i k c _ hi hc (Array.getElem?_eq_getElem hlt')⟩
  rw[cell_of (alloc_new w _),Nat.zero_add,Array.getElem?_append_left hlt',Array.getElem?_eq_getElem hlt']
 cases v with
 | list es=>
  refine⟨rfl,hrow,fun i cs e=>?_,fun i cs k c e e'=>?_⟩
  ·have hi:i<es.length:=by
    rcases Nat.lt_or_ge i es.length with h' | h'
    ·exact h'
    ·rw[List.getElem?_eq_none h']at e;cases e
   have:=hf.len i hi
   rw[list_at hi]at e;cases e;exact this
  ·have hi:i<es.length:=by
    rcases Nat.lt_or_ge i es.length with h' | h'
    ·exact h'
    ·rw[List.getElem?_eq_none h']at e;cases e
   rw[list_at hi]at e;cases e
   obtain⟨u,h1,h2,h3⟩:=hcells i hi k c e'
   exact⟨u,h1,h2,mono le h3⟩
 | fn n f=>
  refine⟨rfl,hrow,hf.len,fun i k c hi e'=>?_⟩
  obtain⟨u,h1,h2,h3⟩:=hcells i hi k c e'
  exact⟨u,h1,h2,mono (Phi.le_refl _) h3⟩
end Go.AM
end
noncomputable section
set_option linter.unusedVariables false
set_option linter.unusedSimpArgs false
namespace Go.AM
variable {R:Type}
theorem byteOf_some{c:List AV}{b:UInt8}(h:byteOf c=some b):∃ n:Int,c=[.int .u8 n]/\b=UInt8.ofNat n.toNat:=by
 unfold byteOf at h
 split at h
 ·cases h;exact⟨_,rfl,rfl⟩
 ·cases h
theorem bytesOfL_some:∀ {es:List (List AV)} {l:List UInt8},bytesOfL es=some l -> ∃ ns:List Int,es=ns.map (fun n=>[.int .u8 n])/\l=ns.map fun n=>UInt8.ofNat n.toNat
 | [],l,h=>by cases h;exact⟨[],rfl,rfl⟩
 | c::r,l,h=>by
  simp only[bytesOfL]at h
  split at h
  ·rename_i b l' hb hl
   cases h
   obtain⟨n,h1,h2⟩:=byteOf_some hb
   obtain⟨ns,h3,h4⟩:=bytesOfL_some hl
   exact⟨n::ns,by simp[h1,h3],by simp[h2,h4]⟩
  ·cases h
section
variable {P:Program} {tt:TT} {ρ:Operand->AV} {rd:Nat->BS} {nx:Nat} {k:AopK R} {r:R} {o:Oper}
theorem run_pushBytes(w:World)(g:Value->ByteArray->Sem (ForInStep ByteArray))(hg:∀ (n:Int) s,g (.int .u8 n) s=pure (ForInStep.yield (s.push (UInt8.ofNat n.toNat)))) :
  ∀ (ns:List Int) (s:ByteArray),(forIn (ns.map fun n=>Value.int .u8 n) s g:Sem ByteArray).run P w=.ok ⟨(s.data.toList++ns.map fun n=>UInt8.ofNat n.toNat).toArray⟩ w
 | [],s=>by simp
 | n::ns,s=>by
  have ih:=run_pushBytes w g hg ns (s.push (UInt8.ofNat n.toNat))
  simp only[List.map_cons,List.forIn_cons,Sem.run_bind,Sem.run_pure,Result.andThen_ok,hg]
  rw[ih]
  congr 2
  simp[ByteArray.push]
theorem flat_bytes{w:World}{I:Nat->Prop}{φ:Phi}{n:Nat}{f:Nat->List AV}{vs:Array Value}(h:Flat w I φ 1 n f vs){ns:List Int}(hn:ns.length=n)
  (hf:∀ i x,ns[i]? = some x->f i=[.int .u8 x]):vs=(ns.map fun x=>Value.int .u8 x).toArray:=by
 apply Array.ext'
 simp only
 apply List.ext_getElem?
 intro i
 by_cases hi:i<n
 ·have h1:i<vs.size:=by rw[h.size];omega
  have h2:i<ns.length:=by omega
  rw[Array.getElem?_toList,Array.getElem?_eq_getElem h1,List.getElem?_map,List.getElem?_eq_getElem h2]
  have:=h.val i 0 (.int .u8 ns[i]) vs[i] hi (by rw[hf i _ (List.getElem?_eq_getElem h2)];rfl) (by simp[h1])
  generalize vs[i]=u at this
  cases this
  rfl
 ·have h1:vs.size<=i:=by rw[h.size];omega
  rw[Array.getElem?_toList,Array.getElem?_eq_none h1,List.getElem?_eq_none (by simp;omega)]
theorem aop_convert(htt:TTok P tt)(hnx:rd nx=.none){src dst:TypeId}{x:Operand}(ho:o.op=.convert src dst x)(h:aopK tt ρ rd nx (.convert src dst x) k=some r):Good P o ρ rd k r:=by
 simp only[aopK]at h
 have hm:x ∈ o.op.operands:=by simp[ho,Op.operands]
 obtain⟨ts,hts,h⟩:=onK_some h
 obtain⟨td,htd,h⟩:=onK_some h
 have hs:=run_underlying (htt src ts hts)
 have hd:=run_underlying (htt dst td htd)
 split at h
 ·rename_i kd k0 n hdd hx0
  refine Good.pure h fun ρr w φ I hx=>?_
  have hp:=hx x hm
  rw[hx0]at hp
  generalize hu:ρr x=u at hp
  cases hp
  refine⟨_,?_,.int _ _⟩
  simp only[execOp,ho,hu,convert,Sem.run_bind,hs,hd,hdd,Result.andThen_ok,Conv.intToInt,Sem.run_pure]
 ·rename_i kd k0 n hdd hx0
  refine Good.pure h fun ρr w φ I hx=>?_
  have hp:=hx x hm
  rw[hx0]at hp
  generalize hu:ρr x=u at hp
  cases hp
  refine⟨_,?_,.flt _ _⟩
  simp only[execOp,ho,hu,convert,Sem.run_bind,hs,hd,hdd,Result.andThen_ok,Conv.intToFloat,Sem.run_pure]
 ·rename_i kd k0 b hdd hx0
  obtain⟨n,hn,h⟩:=okK_some h
  obtain⟨hr,h⟩:=cond_some h
  obtain⟨h1,h2⟩:=and_true' hr
  have h1:=of_decide_eq_true h1
  have h2:=of_decide_eq_true h2
  refine Good.pure h fun ρr w φ I hx=>?_
  have hp:=hx x hm
  rw[hx0]at hp
  generalize hu:ρr x=u at hp
  cases hp
  refine⟨_,?_,.int _ _⟩
  simp only[execOp,ho,hu,convert,Sem.run_bind,hs,hd,hdd,Result.andThen_ok,Conv.floatToInt,hn,h1,h2,and_self,if_true,Sem.run_pure]
 ·rename_i kd k0 a b hdd hx0
  obtain⟨hk,h2⟩:=cond_some h
  clear h
  cases fkindEq_iff hk
  refine Good.pure h2 fun ρr w φ I hx=>?_
  have hp:=hx x hm
  rw[hx0]at hp
  generalize hu:ρr x=u at hp
  cases hp
  refine⟨_,?_,.cplx _ _ _⟩
  simp only[execOp,ho,hu,convert,Sem.run_bind,hs,hd,hdd,Result.andThen_ok,Conv.complexToComplex,Conv.floatToFloat,if_true,Sem.run_pure]
 ·rename_i l hdd hx0
  refine Good.pure h fun ρr w φ I hx=>?_
  have hp:=hx x hm
  rw[hx0]at hp
  generalize hu:ρr x=u at hp
  cases hp with
  | str s _ hl=>
   refine⟨.string s,?_,.str s l hl⟩
   simp only[execOp,ho,hu,convert,Sem.run_bind,hs,hd,hdd,Result.andThen_ok,Sem.run_pure]
 ·rename_i e l hdd hx0
  obtain⟨te,hte,h⟩:=onK_some h
  split at h
  ·rename_i hde
   refine⟨_,_,_,h,fun rd' ρr w φ I _ hwr hh hx=>?_⟩
   have hn:rd' nx=.none:=(hwr _ List.mem_cons_self).trans hnx
   have hp:=hx x hm
   rw[hx0]at hp
   generalize hu:ρr x=u at hp
   cases hp with
   | str s _ hl=>
    subst hl
    have hdr:=hh.drew 0
    have hhd:=hdr.1
    generalize hcap:(Question.appendCap s.size 0 e).cut (w.tape w.drawn (.appendCap s.size 0 e))=cap
    have hcapge:s.size<=cap:=by rw[<- hcap];simp[Question.cut]
    let rest:Array Value:=Array.replicate (cap - s.size) (.int .u8 0)
    let vs:Array Value:=s.data.map fun b=>.int .u8 b.toNat
    have hvs:vs.size=s.size:=by simp[vs]
    have hsz:(vs++rest).size=cap:=by simp[rest,hvs];omega
    have hfl:Flat w.drew I (wphi φ (.list (s.data.toList.map fun b=>[.int .u8 b.toNat]))) 1 s.size (View.at (.list (s.data.toList.map fun b=>[.int .u8 b.toNat]))) vs:=by
     have hf:Flat w.drew I φ 1 s.size _ vs:=(str_flat w.drew I s).mono (fun B hB=>⟨hB,rfl⟩) (fun _=>Nat.le_refl _) (Phi.no_le φ)
     refine⟨hf.size,hf.one,fun i hi=>?_,fun i k c u hi hc e=>?_⟩
     ·have:i<s.data.toList.length:=hi
      simp only[View.at,List.getD,List.getElem?_map,List.getElem?_eq_getElem this]
      rfl
     ·refine hf.val i k c u hi ?_ e
      have:i<s.data.toList.length:=hi
      simp only[View.at,List.getD,List.getElem?_map,List.getElem?_eq_getElem this]at hc ⊢
      exact hc
    have le:=Phi.le_set (hh.none nx hn) (w.heap.size,0,1)
    have hrb:=RB.of_flat (φ':=φ.set nx (w.heap.size,0,1)) (rest:=rest) (v:=.list (s.data.toList.map fun b=>[.int .u8 b.toNat])) (by
      have e1:View.len (.list (s.data.toList.map fun b=>[.int .u8 b.toNat]))=s.size:=by simp[View.len]
      rw[e1];exact hfl) hhd.lt le e (cap,cap+1) (fun q hq=>by rw[hsz]at hq;omega) (.inl rfl)
    have hal:=hhd.alloc hn (.cells (vs++rest) e (cap,cap+1)) _ 1 rfl hrb (fun c' e' fz' h=>by
     cases h
     intro k hk h'
     rw[hsz]at hk
     exact absurd h'.1 (Nat.not_le_of_lt hk))
    refine⟨.slice (some ⟨w.heap.size,0,none⟩) s.size cap,w.drew.alloc (.cells (vs++rest) e (cap,cap+1)),_,I,.inl ?_,?_,(hal 0).1,fun base=>((hh.drew base).2).trans (hal base).2.1,(hal 0).2.2⟩
    ·have hfz:((w.drew.alloc (.cells (vs++rest) e)).freeze ⟨w.heap.size,cap,none⟩ 1)=w.drew.alloc (.cells (vs++rest) e (cap,cap+1)):=by
      have:w.drew.heap.size=w.heap.size:=rfl
      simp only[World.freeze,World.alloc,Nat.one_ne_zero,if_false]
      congr 1
      apply Array.ext_getElem?
      intro j
      rw[Array.getElem?_modify]
      by_cases hj:w.heap.size=j
      ·subst hj
       rw[if_pos rfl,<- this,Array.getElem?_push,if_pos rfl,Array.getElem?_push,if_pos rfl]
       simp
      ·rw[if_neg hj,Array.getElem?_push,Array.getElem?_push]
       simp only[this]
       rw[if_neg (fun e=>hj e.symm),if_neg (fun e=>hj e.symm)]
     have hsh:(w.drew.alloc (.cells (vs++rest) e)).shape? w.heap.size=some (e,cap):=by
      have:(w.drew.alloc (.cells (vs++rest) e)).heap[w.heap.size]? = some (.cells (vs++rest) e):=alloc_new w.drew _
      unfold World.shape?
      rw[this]
      simp only[hsz]
     have hch:(choose (.appendCap s.size 0 e)).run P w=.ok cap w.drew:=by
      rw[run_choose];simp[Question.forced,hcap]
     simp only[execOp,ho,hu,convert,Sem.run_bind,hs,hd,hdd,Result.andThen_ok,run_underlying (htt e te hte),hde,Conv.stringToBytes,hch,newRow,run_newObj,Sem.run_pure,markStringish,run_shape]
     have hal':({w.drew with heap:=w.drew.heap.push (.cells (s.data.map (fun b=>Value.int .u8 b.toNat)++Array.replicate (cap - s.size) (.int .u8 0)) e)}:World)=w.drew.alloc (.cells (vs++rest) e):=rfl
     rw[hal']
     have hsz':w.drew.heap.size=w.heap.size:=rfl
     rw[hsz',hsh]
     simp only[run_freeze,hfz,Result.andThen_ok,Sem.run_pure]
    ·refine .sl 1 nx w.heap.size 0 0 _ _ cap 0 (Phi.set_same _ _ _) (by omega) ?_ ?_ ?_
     ·have:s.data.toList.length=s.size:=rfl
      simp;exact hcapge
     ·have:s.data.toList.length=s.size:=rfl
      simp;exact hcapge
     ·have:csize (w.drew.alloc (.cells (vs++rest) e (cap,cap+1))) w.heap.size=cap:=by
       unfold csize
       have:(w.drew.alloc (.cells (vs++rest) e (cap,cap+1))).heap[w.heap.size]? = some (.cells (vs++rest) e (cap,cap+1)):=alloc_new w.drew _
       rw[this];exact hsz
      rw[this];omega
  ·cases h
 ·have hdd:td.desc=.string:=by assumption
  split at h
  ·rename_i e hsd
   obtain⟨te,hte,h⟩:=onK_some h
   split at h
   ·rename_i hde
    have key:∃ vw l,(ρ x).view rd 1=some vw/\(∃ ns:List Int,ns.length=vw.len/\(∀ i y,ns[i]? = some y->vw.at i=[.int .u8 y])/\l=ns.map fun n=>UInt8.ofNat n.toNat) /\
      k (.str l) [] (ρ x).viewIds=some r/\(∀ s,ρ x ≠ .str s):=by
     split at h
     ·cases h
     ·rename_i hnstr
      obtain⟨vw,hv,h⟩:=viewK_some h
      split at h
      ·rename_i es
       obtain⟨l,hl,h⟩:=onK_some h
       obtain⟨ns,h1,h2⟩:=bytesOfL_some hl
       exact⟨_,l,hv,⟨ns,by simp[View.len,h1],fun i y e=>by simp[View.at,List.getD,h1,e],h2⟩,h,hnstr⟩
      ·rename_i n f
       obtain⟨l,hl,h⟩:=onK_some h
       obtain⟨ns,h1,h2⟩:=bytesOfL_some hl
       have hlen:ns.length=n:=by have:=congrArg List.length h1;simpa using this.symm
       refine⟨_,l,hv,⟨ns,hlen,fun i y e=>?_,h2⟩,h,hnstr⟩
       have hi:i<n:=by
        rcases Nat.lt_or_ge i ns.length with h' | h'
        ·omega
        ·rw[List.getElem?_eq_none h']at e;cases e
       have:=congrArg (fun l=>l[i]?) h1
       simp only[List.getElem?_map,List.getElem?_range hi,Option.map_some,e,Option.some.injEq]at this
       exact this
    obtain⟨vw,l,hv,⟨ns,hlen,hns,hl⟩,hk,hnstr⟩:=key
    refine⟨_,[],_,hk,fun rd' ρr w φ I hrd _ hh hx=>?_⟩
    have hp:=hx x hm
    have hv':(ρ x).view rd' 1=some vw:=by rw[view_agree hrd];exact hv
    have hrun:(execOp ρr o).run P w=((Conv.bytesToString (ρr x)).run P w).andThen (fun v w'=>.ok (.value v) w'):=by
     rcases view_ok hh hv' hp with ⟨s,e1,_⟩ | ⟨B,q,cap,e1,_⟩ | ⟨a,n,cap,e1,_⟩
     ·exfalso
      rw[e1]at hp
      generalize hra:ρ x=ra at hp
      cases hp with
      | undef=>rw[hra]at hv;cases hv
      | str=>exact hnstr _ hra
      | trl _ _ _ h=>generalize hn:List.length _=n at h;generalize (fun i=>List.getD _ i _)=f at h;cases h
      | tn _ _ _ _ h=>cases h
     ·rw[e1]
      simp only[execOp,ho,e1,convert,Sem.run_bind,hs,hd,hdd,hsd,Result.andThen_ok,run_underlying (htt e te hte),hde,Sem.run_pure]
     ·rw[e1]
      simp only[execOp,ho,e1,convert,Sem.run_bind,hs,hd,hdd,hsd,Result.andThen_ok,run_underlying (htt e te hte),hde,Sem.run_pure]
    have hb:(Conv.bytesToString (ρr x)).run P w=.ok (.string ⟨l.toArray⟩) w:=by
     rcases view_ok hh hv' hp with ⟨s,e1,_⟩ | ⟨B,q,cap,e1,hr⟩ | ⟨a,n,cap,e1,h0,hn0⟩
     ·exfalso
      rw[e1]at hp
      generalize hra:ρ x=ra at hp
      cases hp with
      | undef=>rw[hra]at hv;cases hv
      | str=>exact hnstr _ hra
      | trl _ _ _ h=>generalize hn:List.length _=n at h;generalize (fun i=>List.getD _ i _)=f at h;cases h
      | tn _ _ _ _ h=>cases h
     ·obtain⟨us,hul,huc,huf⟩:=vrow_cells hr
      have hus:=flat_bytes huf hlen hns
      have hld:(loadCells ⟨B,q,none⟩ vw.len).run P w=.ok us.toArray w:=by
       have:=run_loadCells_of (P:=P) us hul huc
       rwa [Nat.mul_one]at this
      rw[e1]
      simp only[Conv.bytesToString,Sem.run_bind,hld,Result.andThen_ok]
      rw[hus]
      rw[<- Array.forIn_toList]
      simp only[List.toList_toArray]
      rw[run_pushBytes (P:=P) w _ (fun n s=>rfl) ns ByteArray.empty]
      simp[hl]
     ·have:ns=[]:=by cases ns with
       | nil=>rfl
       | cons a b=>simp at hlen;omega
      subst this
      rw[e1,hn0,hl]
      cases a with
      | none=>rfl
      | some a=>simp[Conv.bytesToString,loadCells,loadCellsFrom];rfl
    refine OpOk.pure (u:=.string ⟨l.toArray⟩) hh ?_ (.str _ _ (by simp))
    rw[hrun,hb]
    rfl
   ·cases h
  ·cases h
 ·cases h
end
end Go.AM
end
noncomputable section
set_option linter.unusedVariables false
set_option linter.unusedSimpArgs false
namespace Go.AM
variable {R:Type}
section
variable {P:Program} {tt:TT} {ρ:Operand->AV} {rd:Nat->BS} {nx:Nat} {k:AopK R} {r:R} {o:Oper}
theorem slice_room{ob l cap a b z:Nat}(h:a=b)(hl:l<=cap)(hz:ob+cap*a<=z):ob+l*b+(cap - l)*a<=z:=by
 subst h
 have:l*a+(cap - l)*a=cap*a:=by rw[<- Nat.add_mul];congr 1;omega
 omega
theorem boundK_some{x:Option AV}{d y:Nat}{k:Nat->Option R}{r:R}(h:boundK x d y k=some r) :
  (x=none/\k d=some r) \/ ∃ kd i,x=some (.int kd i)/\0<=i/\i<=(y:Int)/\k i.toNat=some r:=by
 unfold boundK at h
 split at h
 ·exact .inl ⟨rfl,h⟩
 ·obtain⟨h1,h2⟩:=cond_some h
  obtain⟨h3,h4⟩:=and_true' h1
  exact .inr ⟨_,_,rfl,of_decide_eq_true h3,of_decide_eq_true h4,h2⟩
 ·cases h
theorem run_sliceBound{kd:IntKind}{i:Int}{y:Nat}(h0:0<=i)(h1:i<=(y:Int))(c:BoundsCode)(w:World):(Instr.sliceBound (.int kd i) y c).run P w=.ok i.toNat w:=by
 simp[Instr.sliceBound,asIntOf,h0,h1]
theorem bounds_ok{lo hi mx:Option Operand}{len cm:Nat}{k:Nat->Nat->Nat->Option R}{r:R}(hg:(mx.isSome&&hi.isNone)=false)(hlen:len<=cm)
  (h:boundsK (lo.map ρ) (hi.map ρ) (mx.map ρ) len cm k=some r) :
  ∃ l hh m,k l hh m=some r/\l<=hh/\hh<=m/\m<=cm /\ ∀ (ρr:Operand->Value) (w:World) (I:Nat->Prop) (φ:Phi) (b:Bool) (cap:Nat),cm<=cap ->
   (∀ x,x ∈ lo->RV w I φ (ρ x) (ρr x))->(∀ x,x ∈ hi->RV w I φ (ρ x) (ρr x))->(∀ x,x ∈ mx->RV w I φ (ρ x) (ρr x)) ->
   (Instr.sliceBounds b len cap (lo.map ρr) (hi.map ρr) (mx.map ρr)).run P w=.ok (l,hh,if mx.isSome then m else cap) w:=by
 unfold boundsK at h
 have hint:∀ {x:Operand} {kd i} {ρr:Operand->Value} {w:World} {I:Nat->Prop} {φ:Phi},ρ x=.int kd i->RV w I φ (ρ x) (ρr x)->ρr x=.int kd i:=by
  intro x kd i ρr w I φ e hx
  rw[e]at hx
  generalize ρr x=u at hx
  cases hx
  rfl
 have hN:∀ {d y:Nat} {k:Nat->Option R} {r:R},boundK none d y k=some r->k d=some r:=fun h=>by
  rcases boundK_some h with ⟨_,h'⟩ | ⟨_,_,e,_⟩
  ·exact h'
  ·cases e
 have hS:∀ {x:Operand} {d y:Nat} {k:Nat->Option R} {r:R},boundK (some (ρ x)) d y k=some r -> ∃ kd i,ρ x=.int kd i/\0<=i/\i<=(y:Int)/\k i.toNat=some r:=fun h=>by
  rcases boundK_some h with ⟨e,_⟩ | ⟨kd,i,e,h1,h2,h3⟩
  ·cases e
  ·exact⟨kd,i,by simpa using e,h1,h2,h3⟩
 cases mx with
 | none=>
  have hA:=hN h
  cases hi with
  | none=>
   have hB:=hN hA
   cases lo with
   | none=>
    have hC:=hN hB
    exact⟨0,len,cm,hC,by omega,hlen,Nat.le_refl _,fun ρr w I φ b cap hc _ _ _=>by simp[Instr.sliceBounds]⟩
   | some xl=>
    obtain⟨kl,il,el,l0,l1,hC⟩:=hS hB
    refine⟨il.toNat,len,cm,hC,by omega,hlen,Nat.le_refl _,fun ρr w I φ b cap hc h1 _ _=>?_⟩
    have e:=hint el (h1 xl rfl)
    simp[Instr.sliceBounds,e,run_sliceBound l0 l1]
  | some xh=>
   obtain⟨kh,ih,eh,h0,h1,hB⟩:=hS hA
   cases lo with
   | none=>
    have hC:=hN hB
    refine⟨0,ih.toNat,cm,hC,by omega,by omega,Nat.le_refl _,fun ρr w I φ b cap hc _ h2 _=>?_⟩
    have e:=hint eh (h2 xh rfl)
    have hb:ih<=(cap:Int):=by omega
    cases b <;> simp[Instr.sliceBounds,e,run_sliceBound h0 hb]
   | some xl=>
    obtain⟨kl,il,el,l0,l1,hC⟩:=hS hB
    refine⟨il.toNat,ih.toNat,cm,hC,by omega,by omega,Nat.le_refl _,fun ρr w I φ b cap hc h1' h2 _=>?_⟩
    have e:=hint eh (h2 xh rfl)
    have e':=hint el (h1' xl rfl)
    have hb:ih<=(cap:Int):=by omega
    cases b <;> simp[Instr.sliceBounds,e,e',run_sliceBound h0 hb,run_sliceBound l0 l1]
 | some xm=>
  obtain⟨km,im,em,m0,m1,hA⟩:=hS h
  cases hi with
  | none=>cases hg
  | some xh=>
   obtain⟨kh,ih,eh,h0,h1,hB⟩:=hS hA
   cases lo with
   | none=>
    have hC:=hN hB
    refine⟨0,ih.toNat,im.toNat,hC,by omega,by omega,by omega,fun ρr w I φ b cap hc _ h2 h3=>?_⟩
    have e:=hint eh (h2 xh rfl)
    have e2:=hint em (h3 xm rfl)
    have hb:im<=(cap:Int):=by omega
    cases b <;> simp[Instr.sliceBounds,e,e2,run_sliceBound m0 hb,run_sliceBound h0 h1]
   | some xl=>
    obtain⟨kl,il,el,l0,l1,hC⟩:=hS hB
    refine⟨il.toNat,ih.toNat,im.toNat,hC,by omega,by omega,by omega,fun ρr w I φ b cap hc h1' h2 h3=>?_⟩
    have e:=hint eh (h2 xh rfl)
    have e2:=hint em (h3 xm rfl)
    have e':=hint el (h1' xl rfl)
    have hb:im<=(cap:Int):=by omega
    cases b <;> simp[Instr.sliceBounds,e,e2,e',run_sliceBound m0 hb,run_sliceBound h0 h1,run_sliceBound l0 l1]
theorem aop_slice(htt:TTok P tt){t:TypeId}{x:Operand}{lo hi mx:Option Operand}(ho:o.op=.slice t x lo hi mx)(h:aopK tt ρ rd nx (.slice t x lo hi mx) k=some r):Good P o ρ rd k r:=by
 simp only[aopK]at h
 obtain⟨hg,h⟩:=ncond_some h
 obtain⟨ti,hti,h⟩:=onK_some h
 have hm:x ∈ o.op.operands:=by simp[ho,Op.operands]
 have hml:∀ y,y ∈ lo->y ∈ o.op.operands:=fun y hy=>by simp[ho,Op.operands];exact .inr (.inl (by simpa using hy))
 have hmh:∀ y,y ∈ hi->y ∈ o.op.operands:=fun y hy=>by simp[ho,Op.operands];exact .inr (.inr (.inl (by simpa using hy)))
 have hmm:∀ y,y ∈ mx->y ∈ o.op.operands:=fun y hy=>by simp[ho,Op.operands];exact .inr (.inr (.inr (by simpa using hy)))
 have hu:=run_underlying (htt t ti hti)
 split at h
 ·rename_i s hd hx0
  split at h
  ·obtain⟨l,hh,m,hk,h1,h2,h3,hb⟩:=bounds_ok (P:=P) (ρ:=ρ) (mx:=none) (by rfl) (Nat.le_refl s.length) h
   refine Good.pure hk fun ρr w φ I hx=>?_
   have hp:=hx x hm
   rw[hx0]at hp
   generalize hux:ρr x=u at hp
   cases hp with
   | str b _ hs=>
    subst hs
    have hb':=hb ρr w I φ false b.size (Nat.le_refl _) (fun y hy=>hx y (hml y hy)) (fun y hy=>hx y (hmh y hy)) (fun y hy=>by cases hy)
    refine⟨.string (b.extract l hh),?_,.str _ _ ?_⟩
    ·have hb'':(Instr.sliceBounds false b.size b.size (lo.map ρr) (hi.map ρr) none).run P w=.ok (l,hh,b.size) w:=hb'
     simp[execOp,ho,hux,Instr.sliceAt,hu,hd,Instr.slice,hb'']
    ·simp[ByteArray.data_extract,Array.toList_extract,List.extract_eq_take_drop]
  ·cases h
 ·rename_i x0 e hd
  obtain⟨te,hte,h⟩:=onK_some h
  have hrun:∀ (ρr:Operand->Value) (w:World) (a:Option Addr) (n cap l hh m:Nat),ρr x=.slice a n cap ->
    (Instr.sliceBounds true n cap (lo.map ρr) (hi.map ρr) (mx.map ρr)).run P w=.ok (l,hh,m) w ->
    (execOp ρr o).run P w=.ok (.value (.slice (if m=l then a else a.map (·.add (l*te.size))) (hh - l) (m - l))) w:=by
   intro ρr w a n cap l hh m e1 e2
   simp[execOp,ho,e1,Instr.sliceAt,hu,hd,Instr.slice,e2,run_sizeOf (htt e te hte)]
  split at h
  ·rename_i sz b off len cm hx0
   obtain⟨hsz,h2⟩:=cond_some h
   clear h
   have hsz:=Nat.eq_of_beq_eq_true hsz
   have hlc:len<=capOf len cm:=by cases cm with
    | zero=>exact Nat.le_refl _
    | succ c=>exact Nat.le_max_left _ _
   obtain⟨l,hh,m,hk,h1,h2',h3,hb⟩:=bounds_ok (P:=P) (ρ:=ρ) hg hlc h2
   refine Good.pure hk fun ρr w φ I hx=>?_
   have hp:=hx x hm
   rw[hx0]at hp
   generalize hux:ρr x=u at hp
   have hbb:∀ cap,capOf len cm<=cap->(Instr.sliceBounds true len cap (lo.map ρr) (hi.map ρr) (mx.map ρr)).run P w=.ok (l,hh,if mx.isSome then m else cap) w:=fun cap hc=>
    hb ρr w I φ true cap hc (fun y hy=>hx y (hml y hy)) (fun y hy=>hx y (hmh y hy)) (fun y hy=>hx y (hmm y hy))
   have hleft:m - l=0->capLeft mx.isSome cm (m - l)=0:=fun e=>by unfold capLeft;split <;> simp[e]
   cases hp with
   | sl _ _ B ob _ _ _ cap q hφ hq hl hc hs=>
    have hcc:capOf len cm<=cap:=by
     cases cm with
     | zero=>exact hl
     | succ c=>exact Nat.max_le.2 ⟨hl,hc⟩
    refine⟨_,hrun ρr w _ len cap l hh _ hux (hbb cap hcc),?_⟩
    have hmcap:m<=(if mx.isSome then m else cap)/\(if mx.isSome then m else cap)<=cap:=by split <;> omega
    generalize hM:(if mx.isSome then m else cap)=M at hmcap
    by_cases hml':M=l
    ·rw[if_pos hml']
     have e1:hh - l=0:=by omega
     have e2:m - l=0:=by omega
     have e3:M - l=0:=by omega
     rw[hleft e2,e1,e3]
     exact .sle sz b _ _
    ·rw[if_neg hml']
     simp only[Option.map_some,add_none]
     have hcl:capLeft mx.isSome cm (m - l)<=M - l:=by
      unfold capLeft
      split
      ·exact Nat.zero_le _
      ·omega
     refine .sl sz b B ob (off+l) (hh - l) _ (M - l) _ hφ ?_ (by omega) hcl ?_
     ·rw[hq,<- hsz,Nat.add_mul];omega
     ·refine Nat.le_trans ?_ hs
      have:off+l+(M - l)<=off+cap:=by omega
      exact Nat.add_le_add_left (Nat.mul_le_mul_right sz this) ob
   | sle _ _ _ a=>
    have hc0:capOf 0 0=0:=rfl
    rw[hc0]at h3
    have hl0:l=0:=by omega
    have hh0:hh=0:=by omega
    have hm0:m=0:=by omega
    refine⟨_,hrun ρr w _ 0 0 l hh _ hux (hbb 0 (Nat.le_refl 0)),?_⟩
    rw[hleft (by omega)]
    subst hl0;subst hh0;subst hm0
    simp
    exact .sle sz b _ _
  ·rename_i sz es hx0
   obtain⟨hsz,h2⟩:=cond_some h
   clear h
   have hsz:=Nat.eq_of_beq_eq_true hsz
   cases mx with
   | some y=>
    obtain⟨l,hh,m,hk,h1,h2',h3,hb⟩:=bounds_ok (P:=P) (ρ:=ρ) hg (Nat.le_refl es.length) h2
    obtain⟨hm0,hk⟩:=cond_some hk
    have hm0:=Nat.eq_of_beq_eq_true hm0
    refine Good.pure hk fun ρr w φ I hx=>?_
    have hp:=hx x hm
    rw[hx0]at hp
    generalize hux:ρr x=u at hp
    obtain⟨a,cap,hu2,hcap⟩:∃ (a:Addr) (cap:Nat),u=.slice (some a) es.length cap/\es.length<=cap:=by
     cases hp with
     | trl _ _ _ hp hz=>
      generalize es.length=nn at *
      cases hp with
      | tr _ _ _ B ob cap uf hI hn' hcp=>exact⟨_,cap,rfl,hn'⟩
      | trn _ _ a=>cases a with
       | none=>exact absurd rfl hz
       | some a=>exact⟨_,0,rfl,Nat.le_refl _⟩
    subst hu2
    have hbb:(Instr.sliceBounds true es.length cap (lo.map ρr) (hi.map ρr) (some (ρr y))).run P w=.ok (l,hh,m) w:=by
     have:=hb ρr w I φ true cap hcap (fun y hy=>hx y (hml y hy)) (fun y hy=>hx y (hmh y hy)) (fun y hy=>hx y (hmm y hy))
     simpa using this
    refine⟨_,hrun ρr w _ es.length cap l hh _ hux (by simpa using hbb),?_⟩
    rw[show hh - l=0 by omega,show m - l=0 by omega]
    split <;> exact .sle sz noB 0 _
   | none=>
   obtain⟨l,hh,m,hk,h1,h2',h3,hb⟩:=bounds_ok (P:=P) (ρ:=ρ) (mx:=none) (by rfl) (Nat.le_refl es.length) h2
   refine Good.pure hk fun ρr w φ I hx=>?_
   have hp:=hx x hm
   rw[hx0]at hp
   generalize hux:ρr x=u at hp
   have hbb:∀ cap,es.length<=cap->(Instr.sliceBounds true es.length cap (lo.map ρr) (hi.map ρr) none).run P w=.ok (l,hh,cap) w:=fun cap hc=>
    hb ρr w I φ true cap hc (fun y hy=>hx y (hml y hy)) (fun y hy=>hx y (hmh y hy)) (fun y hy=>by cases hy)
   have hlen:((es.drop l).take (hh - l)).length=hh - l:=by simp;omega
   have hat:∀ i,i<hh - l->((es.drop l).take (hh - l)).getD i []=es.getD (l+i) []:=by
    intro i hi
    simp only[List.getD,List.getElem?_take,if_pos hi,List.getElem?_drop]
   cases hp with
   | trl _ _ _ hp hz=>
    generalize hn:es.length=n at *
    generalize hf:(fun i=>es.getD i [])=f at hp
    have hfe:∀ i,f i=es.getD i []:=fun i=>by rw[<- hf]
    cases hp with
    | tr _ _ _ B ob cap uf hI hn' hcp hlen' hc hh1 hr=>
     refine⟨_,hrun ρr w _ n cap l hh _ hux (hbb cap hn'),.trl _ _ _ ?_ (by split <;> simp)⟩
     rw[hlen]
     by_cases hcl:cap=l
     ·rw[if_pos hcl]
      have e1:hh - l=0:=by omega
      rw[e1]
      exact .tr sz 0 _ B ob _ uf (fun h=>absurd h (Nat.lt_irrefl 0)) (Nat.zero_le _) (fun h=>absurd h (Nat.lt_irrefl 0)) (fun i hi=>by omega) (fun i k c hi=>by omega) (fun i k c hi=>by omega) (fun i k c hi=>by omega)
     ·rw[if_neg hcl]
      simp only[Option.map_some,add_none]
      refine .tr sz _ _ B (ob+l*te.size) _ (fun i k=>uf (l+i) k) (fun _=>hI (by omega)) (by omega) (fun _=>slice_room hsz (by omega) (hcp (by omega))) (fun i hi=>?_) (fun i k c hi e=>?_) (fun i k c hi e=>?_) (fun i k c hi e=>?_)
      ·simp only[hat i hi];rw[<- hfe];exact hlen' _ (by omega)
      ·simp only[hat i hi]at e;rw[<- hfe]at e
       rw[<- hsz,show ob+l*sz+i*sz+k=ob+(l+i)*sz+k by rw[Nat.add_mul];omega]
       exact hc (l+i) k c (by omega) e
      ·simp only[hat i hi]at e;rw[<- hfe]at e;exact hh1 (l+i) k c (by omega) e
      ·simp only[hat i hi]at e;rw[<- hfe]at e;exact hr (l+i) k c (by omega) e
    | trn=>
     have hl0:l=0:=by omega
     have hh0:hh=0:=by omega
     rename_i a
     have ha:a ≠ none:=by rintro rfl;exact hz rfl
     refine⟨_,hrun ρr w _ 0 0 l hh _ hux (hbb 0 (Nat.le_refl 0)),.trl _ _ _ ?_ (by subst hl0;simp[ha])⟩
     rw[hlen]
     subst hl0;subst hh0
     simp
     exact .trn _ _ _
  ·rename_i sz n f hx0
   obtain⟨hsz,h2⟩:=cond_some h
   clear h
   have hsz:=Nat.eq_of_beq_eq_true hsz
   cases mx with
   | some y=>
    obtain⟨l,hh,m,hk,h1,h2',h3,hb⟩:=bounds_ok (P:=P) (ρ:=ρ) hg (Nat.le_refl n) h2
    obtain⟨hm0,hk⟩:=cond_some hk
    obtain⟨hn0,hm0⟩:=and_true' hm0
    have hm0:=Nat.eq_of_beq_eq_true hm0
    refine Good.pure hk fun ρr w φ I hx=>?_
    have hp:=hx x hm
    rw[hx0]at hp
    generalize hux:ρr x=u at hp
    obtain⟨a,cap,hu2,hcap⟩:∃ (a:Addr) (cap:Nat),u=.slice (some a) n cap/\n<=cap:=by
     cases hp with
     | tr _ _ _ B ob cap uf hI hn' hcp=>exact⟨_,cap,rfl,hn'⟩
     | trn=>cases hn0
    subst hu2
    have hbb:(Instr.sliceBounds true n cap (lo.map ρr) (hi.map ρr) (some (ρr y))).run P w=.ok (l,hh,m) w:=by
     have:=hb ρr w I φ true cap hcap (fun y hy=>hx y (hml y hy)) (fun y hy=>hx y (hmh y hy)) (fun y hy=>hx y (hmm y hy))
     simpa using this
    refine⟨_,hrun ρr w _ n cap l hh _ hux (by simpa using hbb),?_⟩
    rw[show hh - l=0 by omega,show m - l=0 by omega]
    split <;> exact .sle sz noB 0 _
   | none=>
   obtain⟨l,hh,m,hk,h1,h2',h3,hb⟩:=bounds_ok (P:=P) (ρ:=ρ) (mx:=none) (by rfl) (Nat.le_refl n) h2
   refine Good.pure hk fun ρr w φ I hx=>?_
   have hp:=hx x hm
   rw[hx0]at hp
   generalize hux:ρr x=u at hp
   have hbb:∀ cap,n<=cap->(Instr.sliceBounds true n cap (lo.map ρr) (hi.map ρr) none).run P w=.ok (l,hh,cap) w:=fun cap hc=>
    hb ρr w I φ true cap hc (fun y hy=>hx y (hml y hy)) (fun y hy=>hx y (hmh y hy)) (fun y hy=>by cases hy)
   have hat:∀ i,i<hh - l->(bif Nat.blt i (hh - l)then f (l+i)else f n)=f (l+i):=by
    intro i hi
    have:Nat.blt i (hh - l)=true:=by rw[Nat.blt_eq];exact hi
    rw[this];rfl
   cases hp with
   | tr _ _ _ B ob cap uf hI hn' hcp hlen' hc hh1 hr=>
    refine⟨_,hrun ρr w _ n cap l hh _ hux (hbb cap hn'),?_⟩
    by_cases hcl:cap=l
    ·rw[if_pos hcl]
     have e1:hh - l=0:=by omega
     rw[e1]
     exact .tr sz 0 _ B ob _ uf (fun h=>absurd h (Nat.lt_irrefl 0)) (Nat.zero_le _) (fun h=>absurd h (Nat.lt_irrefl 0)) (fun i hi=>by omega) (fun i k c hi=>by omega) (fun i k c hi=>by omega) (fun i k c hi=>by omega)
    ·rw[if_neg hcl]
     simp only[Option.map_some,add_none]
     refine .tr sz _ _ B (ob+l*te.size) _ (fun i k=>uf (l+i) k) (fun _=>hI (by omega)) (by omega) (fun _=>slice_room hsz (by omega) (hcp (by omega))) (fun i hi=>?_) (fun i k c hi e=>?_) (fun i k c hi e=>?_) (fun i k c hi e=>?_)
     ·simp only[hat i hi];exact hlen' _ (by omega)
     ·simp only[hat i hi]at e
      rw[<- hsz,show ob+l*sz+i*sz+k=ob+(l+i)*sz+k by rw[Nat.add_mul];omega]
      exact hc (l+i) k c (by omega) e
     ·simp only[hat i hi]at e;exact hh1 (l+i) k c (by omega) e
     ·simp only[hat i hi]at e;exact hr (l+i) k c (by omega) e
   | trn=>
    have hl0:l=0:=by omega
    have hh0:hh=0:=by omega
    refine⟨_,hrun ρr w _ 0 0 l hh _ hux (hbb 0 (Nat.le_refl 0)),?_⟩
    subst hl0;subst hh0
    simp
    exact .trn _ _ _
  ·rename_i sz n f hx0
   obtain⟨hsz,h2⟩:=cond_some h
   clear h
   have hsz:=Nat.eq_of_beq_eq_true hsz
   cases mx with
   | some y=>
    obtain⟨l,hh,m,hk,h1,h2',h3,hb⟩:=bounds_ok (P:=P) (ρ:=ρ) hg (Nat.le_refl n) h2
    obtain⟨hm0,hk⟩:=cond_some hk
    have hm0:=Nat.eq_of_beq_eq_true hm0
    refine Good.pure hk fun ρr w φ I hx=>?_
    have hp:=hx x hm
    rw[hx0]at hp
    generalize hux:ρr x=u at hp
    obtain⟨a,cap,hu2,hcap⟩:∃ (a:Option Addr) (cap:Nat),u=.slice a n cap/\n<=cap:=by
     cases hp with
     | tn _ _ _ _ hp=>
      cases hp with
      | tr _ _ _ B ob cap uf hI hn' hcp=>exact⟨_,cap,rfl,hn'⟩
      | trn _ _ a=>exact⟨a,0,rfl,Nat.le_refl _⟩
    subst hu2
    have hbb:(Instr.sliceBounds true n cap (lo.map ρr) (hi.map ρr) (some (ρr y))).run P w=.ok (l,hh,m) w:=by
     have:=hb ρr w I φ true cap hcap (fun y hy=>hx y (hml y hy)) (fun y hy=>hx y (hmh y hy)) (fun y hy=>hx y (hmm y hy))
     simpa using this
    refine⟨_,hrun ρr w _ n cap l hh _ hux (by simpa using hbb),?_⟩
    rw[show hh - l=0 by omega,show m - l=0 by omega]
    split <;> exact .sn0 sz noB _
   | none=>
   obtain⟨l,hh,m,hk,h1,h2',h3,hb⟩:=bounds_ok (P:=P) (ρ:=ρ) (mx:=none) (by rfl) (Nat.le_refl n) h2
   refine Good.pure hk fun ρr w φ I hx=>?_
   have hp:=hx x hm
   rw[hx0]at hp
   generalize hux:ρr x=u at hp
   have hbb:∀ cap,n<=cap->(Instr.sliceBounds true n cap (lo.map ρr) (hi.map ρr) none).run P w=.ok (l,hh,cap) w:=fun cap hc=>
    hb ρr w I φ true cap hc (fun y hy=>hx y (hml y hy)) (fun y hy=>hx y (hmh y hy)) (fun y hy=>by cases hy)
   have hat:∀ i,i<hh - l->(bif Nat.blt i (hh - l)then f (l+i)else f n)=f (l+i):=by
    intro i hi
    have:Nat.blt i (hh - l)=true:=by rw[Nat.blt_eq];exact hi
    rw[this];rfl
   cases hp with
   | tn _ _ _ _ hp=>
   cases hp with
   | tr _ _ _ B ob cap uf hI hn' hcp hlen' hc hh1 hr=>
    refine⟨_,hrun ρr w _ n cap l hh _ hux (hbb cap hn'),.tn _ _ _ _ ?_⟩
    by_cases hcl:cap=l
    ·rw[if_pos hcl]
     have e1:hh - l=0:=by omega
     rw[e1]
     exact .tr sz 0 _ B ob _ uf (fun h=>absurd h (Nat.lt_irrefl 0)) (Nat.zero_le _) (fun h=>absurd h (Nat.lt_irrefl 0)) (fun i hi=>by omega) (fun i k c hi=>by omega) (fun i k c hi=>by omega) (fun i k c hi=>by omega)
    ·rw[if_neg hcl]
     simp only[Option.map_some,add_none]
     refine .tr sz _ _ B (ob+l*te.size) _ (fun i k=>uf (l+i) k) (fun _=>hI (by omega)) (by omega) (fun _=>slice_room hsz (by omega) (hcp (by omega))) (fun i hi=>?_) (fun i k c hi e=>?_) (fun i k c hi e=>?_) (fun i k c hi e=>?_)
     ·simp only[hat i hi];exact hlen' _ (by omega)
     ·simp only[hat i hi]at e
      rw[<- hsz,show ob+l*sz+i*sz+k=ob+(l+i)*sz+k by rw[Nat.add_mul];omega]
      exact hc (l+i) k c (by omega) e
     ·simp only[hat i hi]at e;exact hh1 (l+i) k c (by omega) e
     ·simp only[hat i hi]at e;exact hr (l+i) k c (by omega) e
   | trn=>
    have hl0:l=0:=by omega
    have hh0:hh=0:=by omega
    refine⟨_,hrun ρr w _ 0 0 l hh _ hux (hbb 0 (Nat.le_refl 0)),.tn _ _ _ _ ?_⟩
    subst hl0;subst hh0
    simp
    exact .trn _ _ _
  ·rename_i sz b n hx0
   obtain⟨hsz,h2⟩:=cond_some h
   clear h
   have hsz:=Nat.eq_of_beq_eq_true hsz
   have gen:∀ (hN:0<n) (l hh m:Nat),k (.sl sz b l (hh - l) (m - l)) [] []=some r->l<=hh->hh<=m->m<=n->(∀ (ρr:Operand->Value) (w:World) (I:Nat->Prop) (φ:Phi) (b:Bool) (cap:Nat),n<=cap ->
     (∀ x,x ∈ lo->RV w I φ (ρ x) (ρr x))->(∀ x,x ∈ hi->RV w I φ (ρ x) (ρr x))->(∀ x,x ∈ mx->RV w I φ (ρ x) (ρr x)) ->
     (Instr.sliceBounds b n cap (lo.map ρr) (hi.map ρr) (mx.map ρr)).run P w=.ok (l,hh,if mx.isSome then m else cap) w)->Good P o ρ rd k r:=by
    intro hN l hh m hk h1 h2' h3 hb
    refine Good.pure hk fun ρr w φ I hx=>?_
    have hp:=hx x hm
    rw[hx0]at hp
    generalize hux:ρr x=u at hp
    cases hp with
    | sn0=>exact absurd hN (Nat.lt_irrefl 0)
    | sn _ _ _ B ob cap hφ hl hs=>
     have hbb:=hb ρr w I φ true cap hl (fun y hy=>hx y (hml y hy)) (fun y hy=>hx y (hmh y hy)) (fun y hy=>hx y (hmm y hy))
     refine⟨_,hrun ρr w _ n cap l hh _ hux hbb,?_⟩
     have hmcap:m<=(if mx.isSome then m else cap)/\(if mx.isSome then m else cap)<=cap:=by split <;> omega
     generalize (if mx.isSome then m else cap)=M at hmcap
     by_cases hml':M=l
     ·rw[if_pos hml',show hh - l=0 by omega,show m - l=0 by omega,show M - l=0 by omega]
      exact .sle sz b _ _
     ·rw[if_neg hml']
      simp only[Option.map_some,add_none]
      refine .sl sz b B ob l (hh - l) _ (M - l) _ hφ (by rw[<- hsz]) (by omega) (by omega) ?_
      exact Nat.le_trans (Nat.add_le_add_left (Nat.mul_le_mul_right sz (by omega)) ob) hs
   cases lo with
   | some y=>
    simp only at h2
    obtain⟨l,hh,m,hk,h1,h2',h3,hb⟩:=bounds_ok (P:=P) (ρ:=ρ) (lo:=some y) hg (Nat.le_refl n) h2
    obtain⟨hN,hk⟩:=cond_some hk
    exact gen (by simpa [Nat.blt_eq] using hN) l hh m hk h1 h2' h3 hb
   | none=>
   cases mx with
   | some y=>
    simp only at h2
    obtain⟨l,hh,m,hk,h1,h2',h3,hb⟩:=bounds_ok (P:=P) (ρ:=ρ) (lo:=none) hg (Nat.le_refl n) h2
    obtain⟨hN,hk⟩:=cond_some hk
    exact gen (by simpa [Nat.blt_eq] using hN) l hh m hk h1 h2' h3 hb
   | none=>
    simp only at h2
    obtain⟨l,hh,m,hk,h1,h2',h3,hb⟩:=bounds_ok (P:=P) (ρ:=ρ) (lo:=none) (mx:=none) (by rfl) (Nat.le_refl n) h2
    obtain⟨hl0,hk⟩:=cond_some hk
    have hl0:=Nat.eq_of_beq_eq_true hl0
    subst hl0
    refine Good.pure hk fun ρr w φ I hx=>?_
    have hp:=hx x hm
    rw[hx0]at hp
    generalize hux:ρr x=u at hp
    have hbb:∀ cap,n<=cap->(Instr.sliceBounds true n cap none (hi.map ρr) none).run P w=.ok (0,hh,cap) w:=fun cap hc=>
     hb ρr w I φ true cap hc (fun y hy=>by cases hy) (fun y hy=>hx y (hmh y hy)) (fun y hy=>by cases hy)
    cases hp with
    | sn0 _ _ a=>
     refine⟨_,hrun ρr w _ 0 0 0 hh _ hux (hbb 0 (Nat.le_refl 0)),?_⟩
     have hh0:hh=0:=by omega
     subst hh0
     simp
     exact .sn0 _ _ _
    | sn _ _ _ B ob cap hφ hl hs=>
     refine⟨_,hrun ρr w _ n cap 0 hh _ hux (hbb cap hl),?_⟩
     by_cases hc0:cap=0
     ·have hh0:hh=0:=by omega
      subst hh0;subst hc0
      simp
      exact .sn0 _ _ _
     ·rw[if_neg hc0]
      simp only[Option.map_some,add_none,Nat.zero_mul,Nat.add_zero,Nat.sub_zero]
      exact .sn sz b hh B ob cap hφ (by omega) hs
  ·rename_i hx0
   obtain⟨l,hh,m,hk,h1,h2',h3,hb⟩:=bounds_ok (P:=P) (ρ:=ρ) hg (Nat.le_refl 0) h
   refine Good.pure hk fun ρr w φ I hx=>?_
   have hp:=hx x hm
   rw[hx0]at hp
   generalize hux:ρr x=u at hp
   cases hp
   have hl0:l=0:=by omega
   have hh0:hh=0:=by omega
   have hm0:m=0:=by omega
   have hb':=hb ρr w I φ true 0 (Nat.le_refl _) (fun y hy=>hx y (hml y hy)) (fun y hy=>hx y (hmh y hy)) (fun y hy=>hx y (hmm y hy))
   refine⟨_,hrun ρr w _ 0 0 l hh _ hux hb',?_⟩
   subst hl0;subst hh0;subst hm0
   simp
   exact .nils
  ·cases h
 ·cases h
end
end Go.AM
end
noncomputable section
set_option linter.unusedVariables false
set_option linter.unusedSimpArgs false
namespace Go.AM
variable {R:Type}
theorem foldl_zipIdx:∀ (l:List Value) (i off:Nat) (c:Array Value),
  (l.zipIdx i).foldl (fun(cs:Array Value) (p:Value × Nat)=>cs.setIfInBounds (off+p.2) p.1) c=splice c (off+i) l
 | [],i,off,c=>rfl
 | v::r,i,off,c=>by
  simp only[List.zipIdx_cons,List.foldl_cons,splice]
  rw[foldl_zipIdx r (i+1) off]
  rfl
theorem fill_ok{w:World}{I:Nat->Prop}{φ:Phi}{place place':Nat->Option (Nat × Nat)}(hp:∀ i p,place i=some p->place' i=some p) :
  ∀ {ps:List (Nat × AV)} {qs:List (Nat × Value)} {cs cs':List AV} {us:Array Value},ps.length=qs.length ->
   (∀ (n:Nat) p q,ps[n]? = some p->qs[n]? = some q->p.1=q.1/\RV w I φ p.2 q.2)->RC w I φ cs us->fillL place cs ps=some cs' ->
   ∃ us',Instr.fill place' us qs=some us'/\RC w I φ cs' us'
 | [],[],cs,cs',us,_,_,hc,h=>by cases h;exact⟨us,rfl,hc⟩
 | [],_::_,_,_,_,hl,_,_,_=>by simp at hl
 | _::_,[],_,_,_,hl,_,_,_=>by simp at hl
 | (i,v)::ps,(i',u)::qs,cs,cs',us,hl,hr,hc,h=>by
  obtain⟨he,hv⟩:=hr 0 _ _ rfl rfl
  simp only at he hv
  subst he
  simp only[fillL]at h
  split at h
  ·cases h
  ·rename_i off size hpl
   obtain⟨hcond,h⟩:=cond_some h
   obtain⟨hst,hcond⟩:=and_true' hcond
   obtain⟨h1,h2⟩:=and_true' hcond
   have h1:=Nat.eq_of_beq_eq_true h1
   have h2:=Nat.le_of_ble_eq_true h2
   have hvc:=hv.cells hst
   have hsz:u.cells.size=size:=by have:=hvc.1;omega
   have hus:cs.length=us.size:=hc.1
   have hnew:RC w I φ (setAt cs off v.cells) (splice us off u.cells.toList):=by
    have hle:off+v.cells.length<=cs.length:=by omega
    have hle':off+u.cells.toList.length<=us.size:=by rw[Array.length_toList];omega
    refine⟨?_,?_,?_⟩
    ·rw[setAt_length hle,splice_size];exact hc.1
    ·intro q x e
     rw[splice_get _ _ _ _ hle']at e
     split at e
     ·exact hvc.2.1 _ x (by simpa using e)
     ·exact hc.2.1 _ x e
    ·intro q c x ec e
     rw[splice_get _ _ _ _ hle']at e
     rw[setAt_get hle]at ec
     simp only[Array.length_toList]at e
     have:v.cells.length=u.cells.size:=hvc.1
     rw[this]at ec
     split at e
     ·rename_i hin;rw[if_pos hin]at ec;exact hvc.2.2 _ c x ec (by simpa using e)
     ·rename_i hin;rw[if_neg hin]at ec;exact hc.2.2 _ c x ec e
   obtain⟨us',h3,h4⟩:=fill_ok hp (by simpa using hl) (fun n p q e e'=>hr (n+1) p q (by simpa using e) (by simpa using e')) hnew h
   refine⟨us',?_,h4⟩
   simp only[Instr.fill,hp i _ hpl]
   rw[if_neg (by simp[hsz];omega)]
   rw[<- h3]
   congr 1
   rw[<- Array.foldl_toList,Array.toList_zipIdx]
   exact foldl_zipIdx _ 0 off us
section
variable {P:Program} {tt:TT} {ρ:Operand->AV} {rd:Nat->BS} {nx:Nat} {k:AopK R} {r:R} {o:Oper}
theorem run_places(htt:TTok P tt)(w:World):∀ (fs:List Field),fs.all (fun f=>(tt f.type).isSome)=true ->
  ∃ l:List (Nat × Nat),(fs.mapM fun f=>(do pure (f.offset,<- sizeOf f.type):Sem (Nat × Nat))).run P w=.ok l w/\l.length=fs.length /\
   ∀ (i:Nat) f,fs[i]? = some f -> ∃ ti,tt f.type=some ti/\l[i]? = some (f.offset,ti.size)
 | [],_=>⟨[],rfl,rfl,fun i f e=>by cases e⟩
 | f::fs,h=>by
  simp only[List.all_cons,Bool.and_eq_true]at h
  obtain⟨ti,hti⟩:=Option.isSome_iff_exists.1 h.1
  obtain⟨l,h1,h2,h3⟩:=run_places htt w fs h.2
  refine⟨(f.offset,ti.size)::l,?_,by simp[h2],?_⟩
  ·simp only[List.mapM_cons,Sem.run_bind,run_sizeOf (htt f.type ti hti),Result.andThen_ok,Sem.run_pure,h1]
  ·intro i g e
   cases i with
   | zero=>simp at e;subst e;exact⟨ti,hti,rfl⟩
   | succ i=>obtain⟨t,a,b⟩:=h3 i g (by simpa using e);exact⟨t,a,by simpa using b⟩
theorem parts_ok{w:World}{I:Nat->Prop}{φ:Phi}{ρr:Operand->Value}(parts:Array (Nat × Operand))(hx:∀ x ∈ (parts.toList.map (·.2)).toArray,RV w I φ (ρ x) (ρr x)) :
  ∀ (n:Nat) (p:Nat × AV) (q:Nat × Value),(parts.toList.map fun(i,x)=>(i,ρ x))[n]? = some p->((parts.map fun(i,x)=>(i,ρr x)).toList)[n]? = some q->p.1=q.1/\RV w I φ p.2 q.2:=by
 intro n p q e e'
 rw[List.getElem?_map]at e
 rw[Array.getElem?_toList,Array.getElem?_map]at e'
 rw[Array.getElem?_toList]at e
 cases hp:parts[n]? with
 | none=>rw[hp]at e;cases e
 | some y=>
  rw[hp]at e e'
  cases e;cases e'
  refine⟨rfl,hx y.2 ?_⟩
  have:y ∈ parts.toList:=by simpa using Array.mem_of_getElem? hp
  simp only[List.mem_toArray,List.mem_map]
  exact⟨y,this,rfl⟩
theorem aop_build(htt:TTok P tt){t:TypeId}{parts:Array (Nat × Operand)}(ho:o.op=.build t parts)(h:aopK tt ρ rd nx (.build t parts) k=some r):Good P o ρ rd k r:=by
 simp only[aopK]at h
 obtain⟨ti,hti,h⟩:=onK_some h
 obtain⟨z,hz,h⟩:=onK_some h
 have hlen:∀ ρr:Operand->Value,(parts.toList.map fun(x:Nat × Operand)=>(x.1,ρ x.2)).length=((parts.map fun(x:Nat × Operand)=>(x.1,ρr x.2)).toList).length:=fun ρr=>by simp
 split at h
 ·rename_i fields hd
  obtain⟨hall,h⟩:=cond_some h
  obtain⟨cs,hcs,h⟩:=onK_some h
  refine Good.pure h fun ρr w φ I hx=>?_
  have hx':∀ x ∈ (parts.toList.map (·.2)).toArray,RV w I φ (ρ x) (ρr x):=fun x hm=>hx x (by simp only[ho,Op.operands];exact hm)
  obtain⟨v,hv,hs,hc,hr⟩:=run_zero (htt t ti hti) hz w I φ
  obtain⟨l,hl1,hl2,hl3⟩:=run_places htt w fields.toList hall
  obtain⟨us',hf,hrc⟩:=fill_ok (place:=structPlace tt fields.toList) (place':=fun i=>l.toArray[i]?) (fun i p hp=>by
   unfold structPlace at hp
   split at hp
   ·rename_i f hfi
    split at hp
    ·rename_i tf htf
     cases hp
     obtain⟨tf',h1,h2⟩:=hl3 i f hfi
     rw[htf]at h1;cases h1
     simpa using h2
    ·cases hp
   ·cases hp) (hlen ρr) (parts_ok parts hx') hr hcs
  refine⟨.agg us',?_,.agg _ _ hrc.1 hrc.2.1 hrc.2.2⟩
  have hm:(fields.mapM fun f=>(do pure (f.offset,<- sizeOf f.type):Sem (Nat × Nat))).run P w=.ok l.toArray w:=by
   rw[Array.mapM_eq_mapM_toList]
   simp only[Sem.run_map,hl1,Result.andThen_ok]
  simp only[execOp,ho,Instr.build,Sem.run_bind,hv,run_underlying (htt t ti hti),hd,Result.andThen_ok,hm,hf,Sem.run_pure]
 ·rename_i n e hd
  obtain⟨te,hte,h⟩:=onK_some h
  obtain⟨cs,hcs,h⟩:=onK_some h
  refine Good.pure h fun ρr w φ I hx=>?_
  have hx':∀ x ∈ (parts.toList.map (·.2)).toArray,RV w I φ (ρ x) (ρr x):=fun x hm=>hx x (by simp only[ho,Op.operands];exact hm)
  obtain⟨v,hv,hs,hc,hr⟩:=run_zero (htt t ti hti) hz w I φ
  obtain⟨us',hf,hrc⟩:=fill_ok (place:=fun i=>some (i*te.size,te.size)) (place':=fun i=>some (i*te.size,te.size)) (fun i p hp=>hp) (hlen ρr) (parts_ok parts hx') hr hcs
  refine⟨.agg us',?_,.agg _ _ hrc.1 hrc.2.1 hrc.2.2⟩
  simp only[execOp,ho,Instr.build,Sem.run_bind,hv,run_underlying (htt t ti hti),hd,Result.andThen_ok,run_sizeOf (htt e te hte),hf,Sem.run_pure]
 ·cases h
theorem chunks_length(sz:Nat):∀ (n:Nat) (cs:List AV),(chunks sz n cs).length=n
 | 0,_=>rfl
 | n+1,cs=>by simp[chunks,chunks_length sz n]
theorem chunks_get(sz:Nat):∀ (n:Nat) (cs:List AV) (i:Nat),i<n->(chunks sz n cs)[i]? = some ((cs.drop (i*sz)).take sz)
 | 0,_,i,h=>by omega
 | n+1,cs,0,_=>by simp[chunks]
 | n+1,cs,i+1,h=>by
  simp only[chunks,List.getElem?_cons_succ]
  rw[chunks_get sz n _ i (by omega),List.drop_drop]
  congr 3
  rw[Nat.succ_mul];omega
theorem RB.of_chunks{w:World}{I:Nat->Prop}{φ φ':Phi}{sz n:Nat}{cs:List AV}{vs:Array Value}(hc:RC w I φ cs vs)(hn:cs.length=n*sz)(hlt:∀ B,I B->B<w.heap.size)
  (le:Phi.le φ φ') (t:TypeId):RB (w.alloc (.cells vs t)) I φ' w.heap.size 0 sz (.arr true sz (chunks sz n cs)):=by
 have hc':=cells_new hc hlt le t (0,0)
 have hi:∀ {i:Nat} {c:List AV},(chunks sz n cs)[i]? = some c->i<n/\c=(cs.drop (i*sz)).take sz:=by
  intro i c e
  have hin:i<n:=by
   rcases Nat.lt_or_ge i n with h | h
   ·exact h
   ·rw[List.getElem?_eq_none (by rw[chunks_length];exact h)]at e;cases e
  rw[chunks_get sz n cs i hin]at e
  cases e
  exact⟨hin,rfl⟩
 refine⟨rfl,Row.new w vs t true,fun i c e=>?_,fun i c k x e e'=>?_⟩
 ·obtain⟨h1,rfl⟩:=hi e
  have:=Nat.mul_le_mul_right sz (Nat.succ_le_of_lt h1)
  rw[Nat.succ_mul]at this
  simp;omega
 ·obtain⟨h1,rfl⟩:=hi e
  rw[List.getElem?_take]at e'
  split at e'
  ·rename_i hk
   rw[List.getElem?_drop]at e'
   have hp:=idx_lt h1 hk
   have hlt':i*sz+k<vs.size:=by have:=hc.1;omega
   refine⟨vs[i*sz+k],?_,hc.2.1 _ _ (Array.getElem?_eq_getElem hlt'),hc'.2.2 _ x _ e' (Array.getElem?_eq_getElem hlt')⟩
   rw[cell_new,Nat.zero_add,Array.getElem?_eq_getElem hlt']
  ·cases e'
theorem RC.zeros{w:World}{I:Nat->Prop}{φ:Phi}{z:List AV}{vs:Array Value}(h:RC w I φ z vs)(hz:1<=z.length)(n:Nat) :
  RC w I φ (zeros z n) ((Array.range (n*vs.size)).map fun i=>vs[i % vs.size]!):=by
 have hs:z.length=vs.size:=h.1
 have hget:∀ (q:Nat) u,((Array.range (n*vs.size)).map fun i=>vs[i % vs.size]!)[q]? = some u->q<n*vs.size/\vs[q % vs.size]? = some u:=by
  intro q u e
  rw[Array.getElem?_map]at e
  have hq:q<n*vs.size:=by
   rcases Nat.lt_or_ge q (n*vs.size)with h' | h'
   ·exact h'
   ·rw[Array.getElem?_eq_none (by simpa using h')]at e;cases e
  rw[Array.getElem?_range,if_pos hq]at e
  have hlt:q % vs.size<vs.size:=Nat.mod_lt _ (by omega)
  simp only[Option.map_some,Option.some.injEq]at e
  rw[getElem!_pos vs _ hlt]at e
  exact⟨hq,by rw[Array.getElem?_eq_getElem hlt,e]⟩
 refine⟨by simp[AM.zeros,hs],fun q u e=>h.2.1 _ u (hget q u e).2,fun q c u ec e=>?_⟩
 obtain⟨hq,hu⟩:=hget q u e
 unfold AM.zeros at ec
 rw[hs,List.getElem?_map,List.getElem?_range hq]at ec
 simp only[Option.map_some,Option.some.injEq]at ec
 have hlt:q % vs.size<z.length:=by rw[hs];exact Nat.mod_lt _ (by omega)
 have:z[q % vs.size]? = some c:=by
  rw[List.getElem?_eq_getElem hlt]
  rw[List.getD,List.getElem?_eq_getElem hlt,Option.getD_some]at ec
  rw[ec]
 exact h.2.2 _ c u this hu
theorem aop_buildSlice(htt:TTok P tt)(hnx:rd nx=.none){t:TypeId}{n:Nat}{parts:Array (Nat × Operand)}(ho:o.op=.buildSlice t n parts)
  (h:aopK tt ρ rd nx (.buildSlice t n parts) k=some r):Good P o ρ rd k r:=by
 simp only[aopK]at h
 obtain⟨ti,hti,h⟩:=onK_some h
 have hlen:∀ ρr:Operand->Value,(parts.toList.map fun(x:Nat × Operand)=>(x.1,ρ x.2)).length=((parts.map fun(x:Nat × Operand)=>(x.1,ρr x.2)).toList).length:=fun ρr=>by simp
 split at h
 ·rename_i e hd
  obtain⟨te,hte,h⟩:=onK_some h
  obtain⟨z,hz,h⟩:=onK_some h
  obtain⟨hcond,h⟩:=cond_some h
  obtain⟨hzl,hcond⟩:=and_true' hcond
  obtain⟨h1,h2⟩:=and_true' hcond
  have hzl:=Nat.eq_of_beq_eq_true hzl
  have h1:=Nat.le_of_ble_eq_true h1
  have h2:=Nat.le_of_ble_eq_true h2
  obtain⟨cs,hcs,h⟩:=onK_some h
  refine⟨_,_,_,h,fun rd' ρr w φ I _ hwr hh hx=>?_⟩
  have hn:rd' nx=.none:=(hwr _ List.mem_cons_self).trans hnx
  have hx':∀ x ∈ (parts.toList.map (·.2)).toArray,RV w I φ (ρ x) (ρr x):=fun x hm=>hx x (by simp only[ho,Op.operands];exact hm)
  obtain⟨v,hv,hs,hc,hr⟩:=run_zero (htt e te hte) hz w I φ
  have hvs:v.cells.size=te.size:=by have:=hr.1;omega
  have hz0:=hr.zeros (by omega) n
  obtain⟨us',hf,hrc⟩:=fill_ok (place:=fun i=>some (i*te.size,te.size)) (place':=fun i=>some (i*te.size,te.size)) (fun i p hp=>hp) (hlen ρr) (parts_ok parts hx') hz0 hcs
  have hcl:cs.length=n*te.size:=by
   have hfl:∀ (ps:List (Nat × AV)) (c c':List AV),fillL (fun i=>some (i*te.size,te.size)) c ps=some c'->c'.length=c.length:=by
    intro ps
    induction ps with
    | nil=>intro c c' e;cases e;rfl
    | cons p ps ih=>
     intro c c' e
     obtain⟨i,v⟩:=p
     simp only[fillL]at e
     obtain⟨hq,e⟩:=cond_some e
     obtain⟨_,hq⟩:=and_true' hq
     obtain⟨q1,q2⟩:=and_true' hq
     have q1:=Nat.eq_of_beq_eq_true q1
     have q2:=Nat.le_of_ble_eq_true q2
     rw[ih _ _ e,setAt_length (by omega)]
   rw[hfl _ _ _ hcs]
   simp[AM.zeros,hzl]
  have le:=Phi.le_set (hh.none nx hn) (w.heap.size,0,te.size)
  refine OpOk.alloc (u:=.slice (some ⟨w.heap.size,0,none⟩) n n) hh hn (.cells us' e) _ te.size rfl (RB.of_chunks hrc hcl hh.lt le e) ?_ ?_ okObj.row
  ·have hm:¬ (n*te.size > 2 ^ 24):=by
    have:(2:Nat) ^ 24=16777216:=by decide
    omega
   by_cases hn0:n*te.size=0
   ·have hn00:n=0:=by
     rcases Nat.eq_zero_or_pos n with h' | h'
     ·exact h'
     ·have:=Nat.mul_le_mul h' h1;omega
    subst hn00
    have hr0:Array.range 0 = #[]:=rfl
    have hm0:¬ (0 > 2 ^ 24):=by decide
    have hf':Instr.fill (fun i=>some (i*te.size,te.size)) (Array.map (fun x=>(#[]:Array Value)[x % (#[]:Array Value).size]!) (Array.range 0)) (Array.map (fun x=>(x.1,ρr x.2)) parts).toList=some us':=by
     rw[<- hf];simp only[Nat.zero_mul,hr0,Array.map_empty]
    simp only[execOp,ho,Instr.buildSlice,Sem.run_bind,run_underlying (htt t ti hti),hd,Result.andThen_ok,run_sizeOf (htt e te hte),Nat.zero_mul,hm0,if_false,if_true,Sem.run_pure]
    simp only[hf',newRow,Sem.run_bind,run_newObj,Result.andThen_ok,Sem.run_pure]
    rfl
   ·simp only[execOp,ho,Instr.buildSlice,Sem.run_bind,run_underlying (htt t ti hti),hd,Result.andThen_ok,run_sizeOf (htt e te hte),hm,if_false,hn0,hv,Sem.run_pure]
    rw[hvs]at hf
    simp only[hvs,hf,newRow,Sem.run_bind,run_newObj,Result.andThen_ok,Sem.run_pure]
    rfl
  ·refine .sl te.size nx w.heap.size 0 0 n n n 0 (Phi.set_same _ _ _) (by simp) (Nat.le_refl _) (Nat.le_refl _) ?_
   have:csize (w.alloc (.cells us' e)) w.heap.size=n*te.size:=by
    unfold csize
    rw[alloc_new]
    have:=hrc.1
    simp;omega
   rw[this];simp
 ·cases h
end
end Go.AM
end
noncomputable section
set_option linter.unusedVariables false
set_option linter.unusedSimpArgs false
namespace Go.AM
variable {R:Type}
section
variable {P:Program} {tt:TT} {ρ:Operand->AV} {rd:Nat->BS} {nx:Nat} {k:AopK R} {r:R} {o:Oper}
theorem RB.newMap(w:World)(I:Nat->Prop)(φ:Phi):RB (w.alloc (.map #[] 0)) I φ w.heap.size 0 0 (.map true []):=
 ⟨rfl,rfl,#[],0,alloc_new w _,rfl,(fun i kv e h=>by cases h),fun i e h=>by simp at h⟩
theorem aop_makeMap(htt:TTok P tt)(hnx:rd nx=.none){t:TypeId}{x:Option Operand}(ho:o.op=.makeMap t x)(h:aopK tt ρ rd nx (.makeMap t x) k=some r):Good P o ρ rd k r:=by
 simp only[aopK]at h
 have fin:∀ (hk:k (.mp nx) [(nx,.map true [])] []=some r) (hrun:∀ (ρr:Operand->Value) (w:World) (φ:Phi) (I:Nat->Prop),(∀ x ∈ o.op.operands,RV w I φ (ρ x) (ρr x)) ->
   (execOp ρr o).run P w=.ok (.value (.map (some w.heap.size))) (w.alloc (.map #[] 0))),Good P o ρ rd k r:=by
  intro hk hrun
  refine⟨_,_,_,hk,fun rd' ρr w φ I _ hwr hh hx=>?_⟩
  have hn:rd' nx=.none:=(hwr _ List.mem_cons_self).trans hnx
  exact OpOk.alloc (u:=.map (some w.heap.size)) hh hn (.map #[] 0) _ 0 rfl (RB.newMap w I _) (hrun ρr w φ I hx) (.mp nx _ (Phi.set_same _ _ _)) (fun _ _ _ h=>by cases h)
 cases x with
 | none=>exact fin h fun ρr w φ I hx=>by simp[execOp,ho,Instr.makeMap]
 | some y=>
  obtain⟨ti,hti,h⟩:=onK_some h
  split at h
  ·rename_i kt e kd n hd hy
   refine fin h fun ρr w φ I hx=>?_
   have hp:=hx y (by simp[ho,Op.operands])
   rw[hy]at hp
   generalize hu:ρr y=u at hp
   cases hp
   simp[execOp,ho,hu,Instr.makeMap,run_underlying (htt t ti hti),hd,asInt,asIntOf]
  ·cases h
theorem aop_makeSlice(htt:TTok P tt)(hnx:rd nx=.none){t:TypeId}{l c:Operand}(ho:o.op=.makeSlice t l c)(h:aopK tt ρ rd nx (.makeSlice t l c) k=some r):Good P o ρ rd k r:=by
 simp only[aopK]at h
 obtain⟨ti,hti,h⟩:=onK_some h
 split at h
 ·rename_i e kl ln kc cn hd hl hc
  obtain⟨te,hte,h⟩:=onK_some h
  obtain⟨z,hz,h⟩:=onK_some h
  obtain⟨hcond,h⟩:=cond_some h
  obtain⟨h12,h3⟩:=and_true' hcond
  obtain⟨hzl,h12⟩:=and_true' h12
  obtain⟨h1,h2⟩:=and_true' h12
  obtain⟨h3,h4⟩:=and_true' h3
  obtain⟨h4,h5⟩:=and_true' h4
  have hzl:=Nat.eq_of_beq_eq_true hzl
  have h1:=Nat.le_of_ble_eq_true h1
  have h2:=Nat.le_of_ble_eq_true h2
  have h3:=of_decide_eq_true h3
  have h4:=of_decide_eq_true h4
  have h5:=of_decide_eq_true h5
  refine⟨_,_,_,h,fun rd' ρr w φ I _ hwr hh hx=>?_⟩
  have hn:rd' nx=.none:=(hwr _ List.mem_cons_self).trans hnx
  have hpl:=hx l (by simp[ho,Op.operands])
  have hpc:=hx c (by simp[ho,Op.operands])
  rw[hl]at hpl
  rw[hc]at hpc
  generalize hul:ρr l=ul at hpl
  generalize huc:ρr c=uc at hpc
  cases hpl
  cases hpc
  obtain⟨v,hv,hs,hcells,hr⟩:=run_zero (htt e te hte) hz w I φ
  obtain⟨i,hi,hsz,hby,_,_,hzz,_⟩:=ti_spec (htt e te hte)
  obtain⟨i2,hi2,hs2,hb2,hd2,_⟩:=ti_spec (htt t ti hti)
  have hvz:i.zero=some v:=by
   simp only[zeroValue,typeInfo,Sem.run_bind,run_program,Result.andThen_ok,hi,Sem.run_pure]at hv
   cases hiz:i.zero with
   | none=>rw[hiz]at hv;simp at hv
   | some v'=>rw[hiz]at hv;simp at hv;rw[hv]
  have hrun:=run_make (P:=P) w t e i v (by rw[hd2,hd]) hi hvz kl kc ln cn h3 h4 (by
   have:(i.bytes:Int)<=65536:=by rw[hby];omega
   calc (i.bytes:Int)*cn<=65536*cn:=Int.mul_le_mul_of_nonneg_right this (by omega)
    _<=281474976710656:=by omega) (by omega)
  have hvs:v.cells.size=te.size:=by have:=hr.1;omega
  have le:=Phi.le_set (hh.none nx hn) (w.heap.size,0,te.size)
  refine OpOk.alloc (u:=.slice (some ⟨w.heap.size,0,none⟩) ln.toNat cn.toNat) hh hn (.cells (madeCells v.cells (cn.toNat*i.size)) e) _ te.size rfl ?_ ?_ ?_ okObj.row
  ·have hr':=cells_new hr hh.lt le e (0,0) (vs:=v.cells)
   have mono:∀ {c:AV} {u:Value},RV w I φ c u->RV (w.alloc (.cells (madeCells v.cells (cn.toNat*i.size)) e)) I (φ.set nx (w.heap.size,0,te.size)) c u:=fun h=>
    h.mono (fun B hB=>⟨hB,alloc_old w _ (hh.lt B hB)⟩) (csize_alloc w _) le
   refine⟨rfl,Row.new w _ e true,fun q cs eq=>?_,fun q cs j x eq ex=>?_⟩
   ·rw[List.getElem?_replicate]at eq;split at eq
    ·cases eq;exact hzl
    ·cases eq
   ·rw[List.getElem?_replicate]at eq
    split at eq
    ·rename_i hq
     cases eq
     have hj:j<te.size:=by
      rcases Nat.lt_or_ge j z.length with h' | h'
      ·omega
      ·rw[List.getElem?_eq_none h']at ex;cases ex
     have hp:q*te.size+j<cn.toNat*i.size:=by
      rw[hsz];exact idx_lt (by omega:q<cn.toNat) hj
     have hmod:(q*te.size+j) % v.cells.size=j:=by
      rw[hvs,Nat.mul_comm,Nat.mul_add_mod,Nat.mod_eq_of_lt hj]
     have hjv:j<v.cells.size:=by omega
     refine⟨v.cells[j],?_,hr.2.1 _ _ (Array.getElem?_eq_getElem hjv),mono (hr.2.2 j x _ ex (Array.getElem?_eq_getElem hjv))⟩
     rw[cell_new,Nat.zero_add]
     unfold madeCells
     rw[Array.getElem?_map,Array.getElem?_range,if_pos hp]
     simp only[Option.map_some,hmod]
     rw[getElem!_pos v.cells j hjv]
    ·cases eq
  ·simp only[execOp,ho,hul,huc,Sem.run_bind,hrun,Result.andThen_ok,Sem.run_pure]
  ·refine .sl te.size nx w.heap.size 0 0 _ _ _ 0 (Phi.set_same _ _ _) (by simp) (by omega) (by omega) ?_
   have:csize (w.alloc (.cells (madeCells v.cells (cn.toNat*i.size)) e)) w.heap.size=cn.toNat*i.size:=by
    unfold csize
    rw[alloc_new]
    exact size_madeCells _ _
   rw[this,hsz];simp
 ·cases h
theorem same_now{d:TypeDesc}{a b:AV}{x:Bool}{w:World}{I:Nat->Prop}{φ:Phi}{u v:Value}(hd:keyFits d a=true)(h:same a b=some x)
  (ha:RV w I φ a u) (hb:RV w I φ b v):Instr.sameNow d u v=some x:=by
 unfold same at h
 split at h
 ·obtain⟨hk,h2⟩:=cond_some h
  clear h
  cases ha;cases hb
  cases kindEq_iff hk
  cases h2
  unfold keyFits at hd
  split at hd
  ·simp[Instr.sameNow];rfl
  ·rename_i e;cases e
  ·cases hd
 ·cases ha with
  | str s _ hs=>cases hb with
   | str s' _ hs'=>
    subst hs;subst hs'
    cases h
    unfold keyFits at hd
    split at hd
    ·rename_i e;cases e
    ·simp[Instr.sameNow,strBeq_eq,beq_toListBytes,ByteArray.toList_eq]
    ·cases hd
 ·cases h
def lookIdx(key:AV):List (AV × AV)->Nat->Option (Option (Nat × AV))
 | [],_=>some .none
 | (a,v)::r,i=>match same key a with
  | some true=>some (some (i,v))
  | some false=>lookIdx key r (i+1)
  | .none=>.none
theorem look_idx{key:AV}:∀ {es:List (AV × AV)} {x:Option AV} (i:Nat),look key es=some x -> ∃ y,lookIdx key es i=some y/\y.map (·.2)=x
 | [],x,i,h=>by cases h;exact⟨none,rfl,rfl⟩
 | (a,v)::r,x,i,h=>by
  simp only[look]at h
  simp only[lookIdx]
  split at h
  ·rename_i e;cases h;exact⟨some (i,v),by simp[e],rfl⟩
  ·rename_i e;obtain⟨y,h1,h2⟩:=look_idx (i+1) h;exact⟨y,by simp[e,h1],h2⟩
  ·cases h
theorem lookIdx_spec{key:AV}:∀ {es:List (AV × AV)} {i n:Nat} {v:AV},lookIdx key es i=some (some (n,v))->i<=n/\(∃ a,es[n - i]? = some (a,v)) /\
  ∀ (u:AV),upd key u es=es.modify (n - i) fun p=>(p.1,u)
 | [],i,n,v,h=>by cases h
 | (a,v')::r,i,n,v,h=>by
  simp only[lookIdx]at h
  split at h
  ·rename_i e
   cases h
   refine⟨Nat.le_refl _,⟨a,by simp⟩,fun u=>by simp[upd,e]⟩
  ·rename_i e
   obtain⟨h1,⟨b,h2⟩,h3⟩:=lookIdx_spec h
   refine⟨by omega,⟨b,?_⟩,fun u=>?_⟩
   ·rw[show n - i=(n - (i+1))+1 by omega];simpa using h2
   ·rw[show n - i=(n - (i+1))+1 by omega]
    simp[upd,e,h3 u]
  ·cases h
theorem find_now{d:TypeDesc}{key:AV}{w:World}{I:Nat->Prop}{φ:Phi}{u:Value}(hd:keyFits d key=true)(hu:RV w I φ key u) :
  ∀ {es:List (AV × AV)} {mes:List MapEntry} {i:Nat} {x:Option (Nat × AV)},mes.length=es.length ->
   (∀ (j:Nat) kv e,es[j]? = some kv->mes[j]? = some e->RV w I φ kv.1 e.key/\RV w I φ kv.2 e.val/\kv.1.single=true)->lookIdx key es i=some x ->
   (x=none/\Instr.findNow d u mes i=some none) \/ ∃ n v uv,x=some (n,v)/\Instr.findNow d u mes i=some (some (n,uv))/\RV w I φ v uv
 | [],[],i,x,_,_,h=>by cases h;exact .inl ⟨rfl,rfl⟩
 | [],_::_,_,_,hl,_,_=>by simp at hl
 | _::_,[],_,_,hl,_,_=>by simp at hl
 | (a,v)::es,e::mes,i,x,hl,hr,h=>by
  obtain⟨hk,hv,_⟩:=hr 0 _ _ rfl rfl
  simp only[lookIdx]at h
  split at h
  ·rename_i hs
   cases h
   refine .inr ⟨i,v,e.val,rfl,?_,hv⟩
   simp[Instr.findNow,same_now hd hs hu hk]
  ·rename_i hs
   have:=find_now hd hu (es:=es) (mes:=mes) (i:=i+1) (by simpa using hl) (fun j kv e' h1 h2=>hr (j+1) kv e' (by simpa using h1) (by simpa using h2)) h
   simpa [Instr.findNow,same_now hd hs hu hk] using this
  ·cases h
theorem check_key'{tk:TI}{kt:TypeId}(htk:tiOf P kt=some tk){key:AV}{w:World}{I:Nat->Prop}{φ:Phi}{u:Value}(hd:keyFits tk.desc key=true)(hu:RV w I φ key u)(e:Bool)(n:Nat) :
  (Instr.checkKey e (n+1) kt u).run P w=.ok () w:=by
 have hn:=run_underlying htk w
 unfold keyFits at hd
 split at hd
 ·rename_i he;rw[he]at hn;cases hu
  simp only[Instr.checkKey,Sem.run_bind,hn,Result.andThen_ok,Sem.run_pure]
 ·rename_i he;rw[he]at hn;cases hu
  simp only[Instr.checkKey,Sem.run_bind,hn,Result.andThen_ok,Sem.run_pure]
 ·cases hd
theorem check_key{tk:TI}{kt:TypeId}(htk:tiOf P kt=some tk){key:AV}{w:World}{I:Nat->Prop}{φ:Phi}{u:Value}(hd:keyFits tk.desc key=true)(hu:RV w I φ key u)(e:Bool) :
  (Instr.checkKey e 10000 kt u).run P w=.ok () w:=check_key' htk hd hu e 9999
theorem find_key{tk:TI}{kt:TypeId}(htk:tiOf P kt=some tk){u:Value}{mes:List MapEntry}{x:Option (Nat × Value)}(h:Instr.findNow tk.desc u mes 0=some x)(w:World) :
  (Instr.findKey kt u mes).run P w=.ok x w:=by
 simp only[Instr.findKey,Sem.run_bind,run_underlying htk,Result.andThen_ok,h,Sem.run_pure]
theorem run_getMap{w:World}{B:Nat}{mes:Array MapEntry}{clock:Nat}(h:w.heap[B]? = some (.map mes clock)):(getObj B).run P w=.ok (.map mes clock) w:=by
 simp[getObj,Sem.run,h]
theorem run_setMap{w:World}{B:Nat}{mes mes':Array MapEntry}{clock clock':Nat}(h:w.heap[B]? = some (.map mes clock)) :
  (setObj B (.map mes' clock')).run P w=.ok () (World.setBlk w B (.map mes' clock')):=by
 simp[setObj,Sem.run,h,World.setBlk]
theorem Ext.setMap{M:Nat->Prop}{w:World}{B:Nat}{mes mes':Array MapEntry}{clock clock':Nat}(h:w.heap[B]? = some (.map mes clock))(hM:M B) :
  Ext M w (World.setBlk w B (.map mes' clock')):=by
 refine⟨rfl,rfl,rfl,by simp,fun B' _ hn=>setBlk_ne (fun e=>hn (e ▸ hM)),fun B' c1 e1 fz1 h1=>?_,fun B' c1 e1 fz1 _ h1=>?_⟩
 ·by_cases hb:B'=B
  ·subst hb;rw[h]at h1;cases h1
  ·exact⟨c1,(setBlk_ne hb).trans h1,rfl⟩
 ·by_cases hb:B'=B
  ·subst hb;rw[setBlk_same (lt_of_heap h)]at h1;cases h1
  ·exact⟨c1,(setBlk_ne hb).symm.trans h1,rfl⟩
theorem RH.writeMap{w:World}{I:Nat->Prop}{φ:Phi}{rd:Nat->BS}(h:RH w I φ rd){b B:Nat}(hb:φ b=some (B,0,0))(hm:mutable (rd b)=true)
  {mes mes':Array MapEntry} {clock clock':Nat} (hc:w.heap[B]? = some (.map mes clock)) (es':List (AV × AV))
  (hsz:mes'.size=es'.length) (hx:∀ (i:Nat) kv e,es'[i]? = some kv->mes'[i]? = some e->RV w I φ kv.1 e.key/\RV w I φ kv.2 e.val/\kv.1.single=true) (hbn:∀ (i:Nat) e,mes'[i]? = some e->e.born<clock') (base:Nat) :
  RH (World.setBlk w B (.map mes' clock')) I φ (rdput rd b (.map true es'))/\Step base rd φ I w (rdput rd b (.map true es')) φ I (World.setBlk w B (.map mes' clock')):=by
 have hM:Mut φ rd B:=⟨b,0,0,hm,hb⟩
 have ext:=Ext.setMap (M:=Mut φ rd) (mes':=mes') (clock':=clock') hc hM
 have mono:∀ {v:AV} {u:Value},RV w I φ v u->RV (World.setBlk w B (.map mes' clock')) I φ v u:=fun hvu=>
  hvu.mono (fun B hB=>⟨hB,ext.keep B (h.lt B hB) fun⟨b,o,sz,hm,e⟩=>h.disj b B o sz hm e hB⟩) ext.csize (Phi.le_refl _)
 refine⟨h.change (Phi.le_refl _) ext (· = b) (fun b' hb'=>⟨rdput_ne _ _ hb',rfl⟩) ?_ ?_,⟨fun _ _ _ e=>e,fun _ hB=>hB,fun _ hB=>.inl hB,?_,ext⟩⟩
 ·intro b' B' o' sz' hne hl e'
  refine setBlk_ne fun hB=>?_
  subst hB
  cases hmm:mutable (rd b')with
  | true=>exact hne (h.inj b' b _ _ _ _ _ hmm hm e' hb)
  | false=>exact h.disj b _ _ _ hm hb (h.imm b' _ _ _ hl hmm e')
 ·rintro b' rfl
  refine⟨(fun e'=>(by rw[rdput_same]at e';cases e')),fun _=>⟨by rw[rdput_same];rfl,B,0,0,hb,?_,h.disj _ _ _ _ hm hb,?_⟩⟩
  ·rw[rdput_same]
   exact⟨rfl,rfl,mes',clock',setBlk_same (lt_of_heap hc),hsz,fun i kv e h1 h2=>let ⟨a,b,c⟩:=hx i kv e h1 h2;⟨mono a,mono b,c⟩,hbn⟩
  ·intro b'' hne hm'' o' sz' e'
   rw[rdput_ne _ _ hne]at hm''
   exact hne (h.inj _ _ _ _ _ _ _ hm'' hm e' hb)
 ·rintro B' ⟨b',o',sz',hm',e'⟩
  by_cases hbb:b'=b
  ·subst hbb;rw[hb]at e';cases e';exact .inl hM
  ·rw[rdput_ne _ _ hbb]at hm';exact .inl ⟨b',o',sz',hm',e'⟩
theorem RH.writeMapX{w:World}{I:Nat->Prop}{φ:Phi}{rd:Nat->BS}(h:RH w I φ rd){b B:Nat}(hb:φ b=some (B,0,0))(hm:mutable (rd b)=true)
  {mes mes':Array MapEntry} {clock clock':Nat} (hc:w.heap[B]? = some (.map mes clock)) (x:BS) (hmx:mutable x=true)
  (hx:(∀ {φ':Phi} {v:AV} {u:Value},RV w I φ' v u->RV (World.setBlk w B (.map mes' clock')) I φ' v u)->RB (World.setBlk w B (.map mes' clock')) I φ B 0 0 x) (base:Nat) :
  RH (World.setBlk w B (.map mes' clock')) I φ (rdput rd b x)/\Step base rd φ I w (rdput rd b x) φ I (World.setBlk w B (.map mes' clock')):=by
 have hM:Mut φ rd B:=⟨b,0,0,hm,hb⟩
 have ext:=Ext.setMap (M:=Mut φ rd) (mes':=mes') (clock':=clock') hc hM
 have mono:∀ {φ':Phi} {v:AV} {u:Value},RV w I φ' v u->RV (World.setBlk w B (.map mes' clock')) I φ' v u:=fun hvu=>
  hvu.mono (fun B hB=>⟨hB,ext.keep B (h.lt B hB) fun⟨b,o,sz,hm,e⟩=>h.disj b B o sz hm e hB⟩) ext.csize (Phi.le_refl _)
 refine⟨h.change (Phi.le_refl _) ext (· = b) (fun b' hb'=>⟨rdput_ne _ _ hb',rfl⟩) ?_ ?_,⟨fun _ _ _ e=>e,fun _ hB=>hB,fun _ hB=>.inl hB,?_,ext⟩⟩
 ·intro b' B' o' sz' hne hl e'
  refine setBlk_ne fun hB=>?_
  subst hB
  cases hmm:mutable (rd b')with
  | true=>exact hne (h.inj b' b _ _ _ _ _ hmm hm e' hb)
  | false=>exact h.disj b _ _ _ hm hb (h.imm b' _ _ _ hl hmm e')
 ·rintro b' rfl
  refine⟨(fun e'=>(by rw[rdput_same]at e';rw[e']at hmx;cases hmx)),fun _=>⟨by rw[rdput_same];exact hmx,B,0,0,hb,?_,h.disj _ _ _ _ hm hb,?_⟩⟩
  ·rw[rdput_same];exact hx mono
  ·intro b'' hne hm'' o' sz' e'
   rw[rdput_ne _ _ hne]at hm''
   exact hne (h.inj _ _ _ _ _ _ _ hm'' hm e' hb)
 ·rintro B' ⟨b',o',sz',hm',e'⟩
  by_cases hbb:b'=b
  ·subst hbb;rw[hb]at e';cases e';exact .inl hM
  ·rw[rdput_ne _ _ hbb]at hm';exact .inl ⟨b',o',sz',hm',e'⟩
def encK(ks:List (List UInt8))(val:List UInt8->AV):List (AV × AV):=ks.map fun s=>(.str s,val s)
theorem lookIdx_enc(s:List UInt8)(val:List UInt8->AV):∀ (ks:List (List UInt8)) (i:Nat),
  (memS s ks=true -> ∃ n,lookIdx (.str s) (encK ks val) i=some (some (n,val s))/\i<=n/\ks[n - i]? = some s)/\(memS s ks=false->lookIdx (.str s) (encK ks val) i=some none/\s ∉ ks)
 | [],i=>by
  refine⟨fun h=>?_,fun _=>⟨rfl,List.not_mem_nil⟩⟩
  exact Bool.noConfusion h
 | a::r,i=>by
  simp only[memS,encK,List.map_cons,lookIdx,same]
  cases h:strBeq s a with
  | true=>
   have e:s=a:=by simpa [strBeq_eq] using h
   subst e
   exact⟨fun _=>⟨i,rfl,Nat.le_refl _,by simp⟩,fun h=>by cases h⟩
  | false=>
   have e:s ≠ a:=by simpa [strBeq_eq] using h
   obtain⟨h1,h2⟩:=lookIdx_enc s val r (i+1)
   refine⟨fun hm=>?_,fun hm=>?_⟩
   ·obtain⟨n,e1,e2,e3⟩:=h1 hm
    exact⟨n,e1,by omega,by rw[show n - i=n - (i+1)+1 by omega];simpa using e3⟩
   ·obtain⟨e1,e2⟩:=h2 hm
    exact⟨e1,by simp[e,e2]⟩
theorem PM.rel{w:World}{I:Nat->Prop}{φ:Phi}{mes:Array MapEntry}{clock:Nat}{ks:List (List UInt8)}{val:List UInt8->AV}(h:PM w I mes clock ks val) :
  ∀ (j:Nat) kv e,(encK ks val)[j]? = some kv->mes[j]? = some e->RV w I φ kv.1 e.key/\RV w I φ kv.2 e.val/\kv.1.single=true:=by
 intro j kv e h1 h2
 simp only[encK,List.getElem?_map]at h1
 cases hk:ks[j]? with
 | none=>rw[hk]at h1;cases h1
 | some s=>
  rw[hk]at h1;cases h1
  obtain⟨⟨t,e1,e2⟩,hv⟩:=h.2.1 j s e hk h2
  rw[e1]
  exact⟨.str t s e2,hv.mono (fun B hB=>⟨hB,rfl⟩) (fun _=>Nat.le_refl _) (Phi.no_le φ),rfl⟩
theorem key_single{d:TypeDesc}{key:AV}(h:keyFits d key=true):key.single=true:=by
 unfold keyFits at h
 split at h <;> first | rfl | cases h
theorem same_bits{a b:AV}{w:World}{I:Nat->Prop}{φ:Phi}{u v:Value}(h:same a b=some true)(ha:RV w I φ a u)(hb:RV w I φ b v):Instr.sameBits 10000 v u=true:=by
 unfold same at h
 split at h
 ·obtain⟨hk,h2⟩:=cond_some h
  clear h
  cases ha;cases hb
  cases kindEq_iff hk
  have:=of_decide_eq_true (by simpa using h2)
  subst this
  simp[Instr.sameBits]
 ·cases ha with
  | str s _ hs=>cases hb with
   | str s' _ hs'=>
    subst hs;subst hs'
    simp[strBeq_eq]at h
    have:s=s':=by cases s;cases s';simp_all
    subst this
    simp[Instr.sameBits,beq_toListBytes]
 ·cases h
theorem lookIdx_same{key:AV}:∀ {es:List (AV × AV)} {i n:Nat} {v:AV},lookIdx key es i=some (some (n,v)) -> ∃ a,es[n - i]? = some (a,v)/\same key a=some true
 | [],i,n,v,h=>by cases h
 | (a,v')::r,i,n,v,h=>by
  simp only[lookIdx]at h
  split at h
  ·rename_i e;cases h;exact⟨a,by simp,e⟩
  ·rename_i e
   obtain⟨b,h2,h3⟩:=lookIdx_same h
   obtain⟨h1,_⟩:=lookIdx_spec h
   exact⟨b,by rw[show n - i=(n - (i+1))+1 by omega];simpa using h2,h3⟩
  ·cases h
theorem aop_mapUpdate(htt:TTok P tt){t:TypeId}{m key v:Operand}(ho:o.op=.insert t m key v\/o.op=.mapUpdate t m key v)
  (h:aopK tt ρ rd nx (.mapUpdate t m key v) k=some r):Good P o ρ rd k r:=by
 simp only[aopK]at h
 have hm1:m ∈ o.op.operands:=by rcases ho with ho | ho <;> simp[ho,Op.operands]
 have hm2:key ∈ o.op.operands:=by rcases ho with ho | ho <;> simp[ho,Op.operands]
 have hm3:v ∈ o.op.operands:=by rcases ho with ho | ho <;> simp[ho,Op.operands]
 obtain⟨ti,hti,h⟩:=onK_some h
 split at h
 ·rename_i kt et b hd hm
  obtain⟨tk,htk,h⟩:=onK_some h
  split at h
  ·rename_i es hb
   obtain⟨hc,h⟩:=cond_some h
   obtain⟨hkf,hvs⟩:=and_true' hc
   obtain⟨x,hx,h⟩:=onK_some h
   obtain⟨y,hy,hyx⟩:=look_idx 0 hx
   have hex:∀ (ρr:Operand->Value) (w w':World),(Instr.mapUpdate t (ρr m) (ρr key) (ρr v)).run P w=.ok () w'->(execOp ρr o).run P w=.ok .skip w':=by
    intro ρr w w' e
    rcases ho with ho | ho <;> simp[execOp,ho,e]
   have hpre:∀ (rd':Nat->BS) (ρr:Operand->Value) (w:World) (φ:Phi) (I:Nat->Prop),rd' b=rd b->RH w I φ rd'->(∀ x ∈ o.op.operands,RV w I φ (ρ x) (ρr x)) ->
     ∃ B mes clock,φ b=some (B,0,0)/\ρr m=.map (some B)/\w.heap[B]? = some (.map mes clock)/\mes.size=es.length /\
      (∀ (i:Nat) kv e,es[i]? = some kv->mes[i]? = some e->RV w I φ kv.1 e.key/\RV w I φ kv.2 e.val/\kv.1.single=true) /\ ∀ (i:Nat) e,mes[i]? = some e->e.born<clock:=by
    intro rd' ρr w φ I hb' hh hx
    have hp:=hx m hm1
    rw[hm]at hp
    generalize hu:ρr m=u at hp
    cases hp with
    | mp _ B hφ=>
     obtain⟨B',o',sz',e,hrb⟩:=hh.blkO hφ (by rw[hb',hb];rfl)
     rw[hφ]at e;cases e
     rw[hb',hb]at hrb
     obtain⟨_,_,mes,clock,h1,h2,h3,h4⟩:=hrb
     exact⟨B,mes,clock,hφ,rfl,h1,h2,h3,h4⟩
   cases y with
   | none=>
    simp at hyx
    subst hyx
    refine⟨_,_,_,h,fun rd' ρr w φ I hrd _ hh hx=>?_⟩
    have hb':=hrd b (by simp)
    obtain⟨B,mes,clock,hφ,hu,hheap,hsz,hrel,hbn⟩:=hpre rd' ρr w φ I hb' hh hx
    have hk:=hx key hm2
    have hv:=hx v hm3
    rcases find_now hkf hk (mes:=mes.toList) (by simpa using hsz) (fun j kv e h1 h2=>hrel j kv e h1 (by simpa using h2)) hy with ⟨_,hf⟩ | ⟨n,v',uv,e,_⟩
    ·have hw:=hh.writeMap hφ (by rw[hb',hb];rfl) (mes':=mes.push {key:=ρr key,val:=ρr v,born:=clock}) (clock':=clock+1) hheap (es++[(ρ key,ρ v)]) (by simp[hsz]) (fun i kv e h1 h2=>by
      rw[Array.getElem?_push]at h2
      by_cases hi:i=mes.size
      ·rw[if_pos hi]at h2
       cases h2
       rw[List.getElem?_append_right (by omega),show i - es.length=0 by omega]at h1
       simp at h1
       subst h1
       exact⟨hk,hv,key_single hkf⟩
      ·rw[if_neg hi]at h2
       have hlt:i<es.length:=by
        rcases Nat.lt_or_ge i mes.size with h' | h'
        ·omega
        ·rw[Array.getElem?_eq_none h']at h2;cases h2
       rw[List.getElem?_append_left hlt]at h1
       exact hrel i kv e h1 h2) (fun i e h2=>by
      rw[Array.getElem?_push]at h2
      split at h2
      ·cases h2;exact Nat.lt_succ_self _
      ·exact Nat.lt_succ_of_lt (hbn i e h2))
     refine⟨undef,_,φ,I,.inr ⟨hex ρr w _ ?_,rfl⟩,.undef _,(hw 0).1,fun base=>(hw base).2,Phi.le_refl _⟩
     simp only[Instr.mapUpdate,Sem.run_bind,run_underlying (htt t ti hti),hd,Result.andThen_ok,hu,run_getMap hheap,check_key (htt kt tk htk) hkf hk,find_key (htt kt tk htk) hf,run_setMap hheap]
    ·cases e
   | some nv=>
    obtain⟨n,v'⟩:=nv
    simp at hyx
    subst hyx
    simp only at h
    refine⟨_,_,_,h,fun rd' ρr w φ I hrd _ hh hx=>?_⟩
    have hb':=hrd b (by simp)
    obtain⟨B,mes,clock,hφ,hu,hheap,hsz,hrel,hbn⟩:=hpre rd' ρr w φ I hb' hh hx
    have hk:=hx key hm2
    have hv:=hx v hm3
    obtain⟨_,⟨a,hes⟩,hupd⟩:=lookIdx_spec hy
    obtain⟨a',hes',hsame⟩:=lookIdx_same hy
    simp only[Nat.sub_zero]at hes hes' hupd
    rcases find_now hkf hk (mes:=mes.toList) (by simpa using hsz) (fun j kv e h1 h2=>hrel j kv e h1 (by simpa using h2)) hy with ⟨e,_⟩ | ⟨n',v'',uv,e,hf,huv⟩
    ·cases e
    ·cases e
     have hlt:n<mes.size:=by
      rcases Nat.lt_or_ge n es.length with h' | h'
      ·omega
      ·rw[List.getElem?_eq_none h']at hes;cases hes
     have hkr:=hrel n _ _ hes' (Array.getElem?_eq_getElem hlt)
     have hbits:=same_bits hsame hk hkr.1
     have hw:=hh.writeMap hφ (by rw[hb',hb];rfl) (mes':=mes.modify n fun e=>{e with key:=ρr key,val:=ρr v}) (clock':=clock) hheap (upd (ρ key) (ρ v) es) (by rw[hupd];simp[hsz]) (fun i kv e h1 h2=>by
      rw[hupd,List.getElem?_modify]at h1
      rw[Array.getElem?_modify]at h2
      by_cases hi:n=i
      ·subst hi
       rw[if_pos rfl]at h2
       rw[hes']at h1
       rw[Array.getElem?_eq_getElem hlt]at h2
       simp at h1 h2
       subst h1;subst h2
       refine⟨?_,hv,hkr.2.2⟩
       have:a'=ρ key:=by
        unfold same at hsame
        split at hsame
        ·obtain⟨hkk,h2⟩:=cond_some hsame
         cases kindEq_iff hkk
         have:=of_decide_eq_true (by simpa using h2)
         simp_all
        ·simp[strBeq_eq]at hsame;simp_all
        ·cases hsame
       rw[this];exact hk
      ·rw[if_neg hi]at h2
       have h1':es[i]? = some kv:=by
        cases hq:es[i]? with
        | none=>rw[hq]at h1;cases h1
        | some p=>rw[hq]at h1;simpa [hi] using h1
       exact hrel i kv e h1' h2) (fun i e h2=>by
      rw[Array.getElem?_modify]at h2
      split at h2
      ·cases hq:mes[i]? with
       | none=>rw[hq]at h2;cases h2
       | some e0=>rw[hq]at h2;simp at h2;subst h2;exact hbn i e0 hq
      ·exact hbn i e h2)
     refine⟨undef,_,φ,I,.inr ⟨hex ρr w _ ?_,rfl⟩,.undef _,(hw 0).1,fun base=>(hw base).2,Phi.le_refl _⟩
     have hkeep:(Instr.keyThatStays mes[n].key (ρr key)).run P w=.ok (ρr key) w:=by simp[Instr.keyThatStays,hbits]
     simp only[Instr.mapUpdate,Sem.run_bind,run_underlying (htt t ti hti),hd,Result.andThen_ok,hu,run_getMap hheap,check_key (htt kt tk htk) hkf hk,find_key (htt kt tk htk) hf,
      Array.getElem?_eq_getElem hlt,Option.map_some,Option.getD_some,hkeep,run_setMap hheap]
  ·rename_i ks val hb
   split at h
   ·rename_i s hks
    obtain⟨hc,h⟩:=cond_some h
    obtain⟨hkf,hvs⟩:=and_true' hc
    obtain⟨hst,hfree⟩:=and_true' hvs
    have hex:∀ (ρr:Operand->Value) (w w':World),(Instr.mapUpdate t (ρr m) (ρr key) (ρr v)).run P w=.ok () w'->(execOp ρr o).run P w=.ok .skip w':=by
     intro ρr w w' e
     rcases ho with ho | ho <;> simp[execOp,ho,e]
    have hpre:∀ (rd':Nat->BS) (ρr:Operand->Value) (w:World) (φ:Phi) (I:Nat->Prop),rd' b=rd b->RH w I φ rd'->(∀ x ∈ o.op.operands,RV w I φ (ρ x) (ρr x)) ->
      ∃ B mes clock,φ b=some (B,0,0)/\ρr m=.map (some B)/\w.heap[B]? = some (.map mes clock)/\PM w I mes clock ks val:=by
     intro rd' ρr w φ I hb' hh hx
     have hp:=hx m hm1
     rw[hm]at hp
     generalize hu:ρr m=u at hp
     cases hp with
     | mp _ B hφ=>
      obtain⟨B',o',sz',e,hrb⟩:=hh.blkO hφ (by rw[hb',hb];rfl)
      rw[hφ]at e;cases e
      rw[hb',hb]at hrb
      obtain⟨_,_,mes,clock,h1,h2⟩:=hrb
      exact⟨B,mes,clock,hφ,rfl,h1,h2⟩
    refine⟨_,_,_,h,fun rd' ρr w φ I hrd _ hh hx=>?_⟩
    have hb':=hrd b (by simp)
    obtain⟨B,mes,clock,hφ,hu,hheap,hpm⟩:=hpre rd' ρr w φ I hb' hh hx
    have hk:=hx key hm2
    rw[hks]at hk
    have hv:=hx v hm3
    have hvf:RV w I Phi.no (ρ v) (ρr v):=hv.free hfree
    obtain⟨tx,ht,hst⟩:∃ t:ByteArray,ρr key=.string t/\s=t.data.toList:=by
     generalize ρr key=u at hk
     cases hk with
     | str t _ e=>exact⟨t,rfl,e⟩
    have hsz:=hpm.1
    obtain⟨l1,l2⟩:=lookIdx_enc s val ks 0
    have hse:∀ x:List UInt8,strBeq x s=decide (x=s):=fun x=>by rw[strBeq_eq];by_cases h:x=s <;> simp[h]
    cases hmem:memS s ks with
    | false=>
     obtain⟨hy,hns⟩:=l2 hmem
     rcases find_now hkf hk (mes:=mes.toList) (by simpa [encK] using hsz) (fun j kv e h1 h2=>hpm.rel (φ:=φ) j kv e h1 (by simpa using h2)) hy with ⟨_,hf⟩ | ⟨n,v',uv,e,_⟩
     ·have hw:=hh.writeMapX hφ (by rw[hb',hb];rfl) (mes':=mes.push {key:=ρr key,val:=ρr v,born:=clock}) (clock':=clock+1) hheap (.pmap true (ks++[s]) (fun x=>bif strBeq x s then ρ v else val x)) rfl (fun mono=>by
       refine⟨rfl,rfl,_,_,setBlk_same (lt_of_heap hheap),by simp[hsz],fun i x e h1 h2=>?_,fun i e h2=>?_,fun i j e e' hij h1 h2=>?_,fun i j x h1 h2=>?_⟩
       ·rw[Array.getElem?_push]at h2
        by_cases hi:i=mes.size
        ·rw[if_pos hi]at h2
         cases h2
         rw[List.getElem?_append_right (by omega),show i - ks.length=0 by omega]at h1
         simp at h1
         subst h1
         exact⟨⟨tx,ht,hst⟩,by simp only[hse];simpa using mono hvf⟩
        ·rw[if_neg hi]at h2
         have hlt:i<ks.length:=by
          rcases Nat.lt_or_ge i mes.size with h' | h'
          ·omega
          ·rw[Array.getElem?_eq_none h']at h2;cases h2
         rw[List.getElem?_append_left hlt]at h1
         obtain⟨a1,a2⟩:=hpm.2.1 i x e h1 h2
         have hxs:x ≠ s:=by rintro rfl;exact hns (List.mem_of_getElem? h1)
         exact⟨a1,by simp only[hse];simpa [hxs] using mono a2⟩
       ·rw[Array.getElem?_push]at h2
        split at h2
        ·cases h2;exact Nat.lt_succ_self _
        ·exact Nat.lt_succ_of_lt (hpm.2.2.1 i e h2)
       ·rw[Array.getElem?_push]at h1 h2
        split at h1
        ·split at h2
         ·omega
         ·rw[Array.getElem?_eq_none (by omega)]at h2;cases h2
        ·split at h2
         ·cases h2;exact hpm.2.2.1 i e h1
         ·exact hpm.2.2.2.1 i j e e' hij h1 h2
       ·rw[List.getElem?_append]at h1 h2
        split at h1
        ·split at h2
         ·exact hpm.2.2.2.2 i j x h1 h2
         ·have:=List.mem_of_getElem? h2
          simp at this
          subst this
          exact absurd (List.mem_of_getElem? h1) hns
        ·split at h2
         ·have:=List.mem_of_getElem? h1
          simp at this
          subst this
          exact absurd (List.mem_of_getElem? h2) hns
         ·have e1:i - ks.length=0:=by
           rcases Nat.eq_zero_or_pos (i - ks.length)with h | h
           ·exact h
           ·rw[List.getElem?_eq_none (by simp;omega)]at h1;cases h1
          have e2:j - ks.length=0:=by
           rcases Nat.eq_zero_or_pos (j - ks.length)with h | h
           ·exact h
           ·rw[List.getElem?_eq_none (by simp;omega)]at h2;cases h2
          omega)
      rw[cond_false]
      refine⟨undef,_,φ,I,.inr ⟨hex ρr w _ ?_,rfl⟩,.undef _,(hw 0).1,fun base=>(hw base).2,Phi.le_refl _⟩
      simp only[Instr.mapUpdate,Sem.run_bind,run_underlying (htt t ti hti),hd,Result.andThen_ok,hu,run_getMap hheap,check_key (htt kt tk htk) hkf hk,find_key (htt kt tk htk) hf,run_setMap hheap]
     ·cases e
    | true=>
     obtain⟨n,hy,hn0,hn⟩:=l1 hmem
     simp only[Nat.sub_zero]at hn
     rcases find_now hkf hk (mes:=mes.toList) (by simpa [encK] using hsz) (fun j kv e h1 h2=>hpm.rel (φ:=φ) j kv e h1 (by simpa using h2)) hy with ⟨e,_⟩ | ⟨n',v'',uv,e,hf,huv⟩
     ·cases e
     ·cases e
      have hlt:n<mes.size:=by
       rcases Nat.lt_or_ge n ks.length with h' | h'
       ·omega
       ·rw[List.getElem?_eq_none h']at hn;cases hn
      obtain⟨⟨t',ht',hst'⟩,_⟩:=hpm.2.1 n s _ hn (Array.getElem?_eq_getElem hlt)
      have hbits:Instr.sameBits 10000 mes[n].key (ρr key)=true:=same_bits (a:=.str s) (b:=.str s) (I:=I) (w:=w) (φ:=φ) (by simp[same,strBeq_eq]) (by rw[ht];exact .str _ _ hst) (by rw[ht'];exact .str _ _ hst')
      have hw:=hh.writeMapX hφ (by rw[hb',hb];rfl) (mes':=mes.modify n fun e=>{e with key:=ρr key,val:=ρr v}) (clock':=clock) hheap (.pmap true ks (fun x=>bif strBeq x s then ρ v else val x)) rfl (fun mono=>by
       have hmod:∀ (i:Nat) e,(mes.modify n fun e=>{e with key:=ρr key,val:=ρr v})[i]? = some e -> ∃ e0,mes[i]? = some e0/\e.born=e0.born/\(i=n->e.key=ρr key/\e.val=ρr v)/\(i ≠ n->e=e0):=by
        intro i e h2
        rw[Array.getElem?_modify]at h2
        by_cases hi:n=i
        ·subst hi
         rw[if_pos rfl,Array.getElem?_eq_getElem hlt]at h2
         simp at h2
         subst h2
         exact⟨_,Array.getElem?_eq_getElem hlt,rfl,fun _=>⟨rfl,rfl⟩,fun h=>absurd rfl h⟩
        ·rw[if_neg hi]at h2
         exact⟨e,h2,rfl,fun h=>absurd h.symm hi,fun _=>rfl⟩
       refine⟨rfl,rfl,_,_,setBlk_same (lt_of_heap hheap),by simp[hsz],fun i x e h1 h2=>?_,fun i e h2=>?_,fun i j e e' hij h1 h2=>?_,hpm.2.2.2.2⟩
       ·obtain⟨e0,h3,_,h4,h5⟩:=hmod i e h2
        by_cases hi:i=n
        ·subst hi
         rw[hn]at h1;cases h1
         rw[(h4 rfl).1,(h4 rfl).2]
         exact⟨⟨tx,ht,hst⟩,by simp only[hse];simpa using mono hvf⟩
        ·rw[h5 hi]
         have hxs:x ≠ s:=by rintro rfl;exact hi (hpm.2.2.2.2 i n x h1 hn)
         obtain⟨a1,a2⟩:=hpm.2.1 i x e0 h1 h3
         exact⟨a1,by simp only[hse];simpa [hxs] using mono a2⟩
       ·obtain⟨e0,h3,h4,_⟩:=hmod i e h2
        rw[h4];exact hpm.2.2.1 i e0 h3
       ·obtain⟨e0,h3,h4,_⟩:=hmod i e h1
        obtain⟨e1,h5,h6,_⟩:=hmod j e' h2
        rw[h4,h6];exact hpm.2.2.2.1 i j e0 e1 hij h3 h5)
      rw[cond_true]
      refine⟨undef,_,φ,I,.inr ⟨hex ρr w _ ?_,rfl⟩,.undef _,(hw 0).1,fun base=>(hw base).2,Phi.le_refl _⟩
      have hkeep:(Instr.keyThatStays mes[n].key (ρr key)).run P w=.ok (ρr key) w:=by simp[Instr.keyThatStays,hbits]
      simp only[Instr.mapUpdate,Sem.run_bind,run_underlying (htt t ti hti),hd,Result.andThen_ok,hu,run_getMap hheap,check_key (htt kt tk htk) hkf hk,find_key (htt kt tk htk) hf,
       Array.getElem?_eq_getElem hlt,Option.map_some,Option.getD_some,hkeep,run_setMap hheap]
   ·cases h
  ·cases h
 ·cases h
end
end Go.AM
end
noncomputable section
set_option linter.unusedVariables false
set_option linter.unusedSimpArgs false
namespace Go.AM
variable {R:Type}
theorem RH.freeze{w:World}{I:Nat->Prop}{φ:Phi}{rd:Nat->BS}(h:RH w I φ rd){b B o sz:Nat}(hφ:φ b=some (B,o,sz))(hl:live (rd b)=true){x:BS}
  (hlx:live x=true) (hmx:mutable x=false) (hx:RB w I φ B o sz x) (hlt:B<w.heap.size) (base:Nat) :
  RH w (fun B'=>I B'\/B'=B) φ (rdput rd b x)/\Step base rd φ I w (rdput rd b x) φ (fun B'=>I B'\/B'=B) w:=by
 have hmono:∀ {b' B' o' sz'},RB w I φ B' o' sz' b'->RB w (fun B'=>I B'\/B'=B) φ B' o' sz' b':=fun r=>r.mono (fun B hB=>⟨.inl hB,rfl⟩) (fun _=>Nat.le_refl _) (Phi.le_refl _) rfl
 have hmut:∀ b',mutable (rdput rd b x b')=true->b' ≠ b/\mutable (rd b')=true:=by
  intro b' hm
  by_cases e:b'=b
  ·subst e;rw[rdput_same,hmx]at hm;cases hm
  ·rw[rdput_ne _ _ e]at hm;exact⟨e,hm⟩
 refine⟨⟨fun b' e=>?_,fun b' hl'=>?_,fun b1 b2 B' o1 s1 o2 s2 hm hm' e e'=>?_,fun b' B' o' sz' hm e=>?_,fun b' B' o' sz' hl' hm e=>?_,fun B' hB=>hB.elim (h.lt B') (fun e=>e ▸ hlt)⟩,
  ⟨fun _ _ _ e=>e,fun _ hB=>.inl hB,fun B' hB=>?_,fun B' hB=>?_,Ext.refl _ _⟩⟩
 ·by_cases hb:b'=b
  ·subst hb;rw[rdput_same]at e;subst e;cases hlx
  ·rw[rdput_ne _ _ hb]at e;exact h.none b' e
 ·by_cases hb:b'=b
  ·subst hb;exact .inl ⟨B,o,sz,hφ,by rw[rdput_same];exact hmono hx⟩
  ·rw[rdput_ne _ _ hb]at hl' ⊢
   rcases h.blk b' hl' with ⟨B',o',sz',e,r⟩ | hp
   ·exact .inl ⟨B',o',sz',e,hmono r⟩
   ·exact .inr hp
 ·exact h.inj b1 b2 B' o1 s1 o2 s2 (hmut b1 hm).2 (hmut b2 hm').2 e e'
 ·obtain⟨hne,hm'⟩:=hmut b' hm
  rintro(hB | hB)
  ·exact h.disj b' B' o' sz' hm' e hB
  ·subst hB
   cases hmb:mutable (rd b)with
   | true=>exact hne (h.inj b' b _ _ _ _ _ hm' hmb e hφ)
   | false=>exact h.disj b' _ _ _ hm' e (h.imm b _ _ _ hl hmb hφ)
 ·by_cases hb:b'=b
  ·subst hb;rw[hφ]at e;cases e;exact .inr rfl
  ·rw[rdput_ne _ _ hb]at hl' hm;exact .inl (h.imm b' B' o' sz' hl' hm e)
 ·rcases hB with hB | hB
  ·exact .inl hB
  ·subst hB
   cases hmb:mutable (rd b)with
   | true=>exact .inr (.inl ⟨b,o,sz,hmb,hφ⟩)
   | false=>exact .inl (h.imm b _ _ _ hl hmb hφ)
 ·obtain⟨b',o',sz',hm,e⟩:=hB
  exact .inl ⟨b',o',sz',(hmut b' hm).2,e⟩
theorem RH.writeIter{w:World}{I:Nat->Prop}{φ:Phi}{rd:Nat->BS}(h:RH w I φ rd){b B:Nat}(hb:φ b=some (B,0,0))(hm:mutable (rd b)=true)
  {m:Option Nat} {s c:Nat} {sn:Array Nat} (hc:w.heap[B]? = some (.mapIter m s sn c)) (ob:Obj) (hno:∀ c e fz,ob ≠ .cells c e fz) (x:BS) (hmx:mutable x=true) (hx:RB (World.setBlk w B ob) I φ B 0 0 x) (base:Nat) :
  RH (World.setBlk w B ob) I φ (rdput rd b x)/\Step base rd φ I w (rdput rd b x) φ I (World.setBlk w B ob):=by
 have hM:Mut φ rd B:=⟨b,0,0,hm,hb⟩
 have ext:Ext (Mut φ rd) w (World.setBlk w B ob):=by
  refine⟨rfl,rfl,rfl,by simp,fun B' _ hn=>setBlk_ne (fun e=>hn (e ▸ hM)),fun B' c1 e1 fz1 h1=>?_,fun B' c1 e1 fz1 _ h1=>?_⟩
  ·by_cases hb:B'=B
   ·subst hb;rw[hc]at h1;cases h1
   ·exact⟨c1,(setBlk_ne hb).trans h1,rfl⟩
  ·by_cases hb:B'=B
   ·subst hb;rw[setBlk_same (lt_of_heap hc)]at h1;exact(hno c1 e1 fz1 (Option.some.inj h1)).elim
   ·exact⟨c1,(setBlk_ne hb).symm.trans h1,rfl⟩
 refine⟨h.change (Phi.le_refl _) ext (· = b) (fun b' hb'=>⟨rdput_ne _ _ hb',rfl⟩) ?_ ?_,⟨fun _ _ _ e=>e,fun _ hB=>hB,fun _ hB=>.inl hB,?_,ext⟩⟩
 ·intro b' B' o' sz' hne hl e'
  refine setBlk_ne fun hB=>?_
  subst hB
  cases hmm:mutable (rd b')with
  | true=>exact hne (h.inj b' b _ _ _ _ _ hmm hm e' hb)
  | false=>exact h.disj b _ _ _ hm hb (h.imm b' _ _ _ hl hmm e')
 ·rintro b' rfl
  refine⟨(fun e'=>(by rw[rdput_same]at e';rw[e']at hmx;cases hmx)),fun _=>⟨by rw[rdput_same];exact hmx,B,0,0,hb,by rw[rdput_same];exact hx,h.disj _ _ _ _ hm hb,?_⟩⟩
  intro b'' hne hm'' o' sz' e'
  rw[rdput_ne _ _ hne]at hm''
  exact hne (h.inj _ _ _ _ _ _ _ hm'' hm e' hb)
 ·rintro B' ⟨b',o',sz',hm',e'⟩
  by_cases hbb:b'=b
  ·subst hbb;rw[hb]at e';cases e';exact .inl hM
  ·rw[rdput_ne _ _ hbb]at hm';exact .inl ⟨b',o',sz',hm',e'⟩
section
variable {P:Program} {tt:TT} {ρ:Operand->AV} {rd:Nat->BS} {nx:Nat} {k:AopK R} {r:R} {o:Oper}
theorem aop_range(htt:TTok P tt)(hnx:rd nx=.none){t:TypeId}{x:Operand}(ho:o.op=.range t x)(h:aopK tt ρ rd nx (.range t x) k=some r):Good P o ρ rd k r:=by
 simp only[aopK]at h
 obtain⟨ti,hti,h⟩:=onK_some h
 have hm:x ∈ o.op.operands:=by simp[ho,Op.operands]
 split at h
 ·rename_i kt et b hd hx0
  split at h
  ·rename_i mu es hb
   obtain⟨hc,h⟩:=cond_some h
   obtain⟨hle,hf⟩:=and_true' hc
   have hle:=Nat.le_of_ble_eq_true hle
   refine⟨_,_,_,h,fun rd' ρr w φ I hrd hwr hh hx=>?_⟩
   have hn:rd' nx=.none:=(hwr (nx,_) (.tail _ (.head _))).trans hnx
   have hb':=hrd b (by simp)
   have hne:nx ≠ b:=by rintro rfl;rw[hnx]at hb;cases hb
   have hp:=hx x hm
   rw[hx0]at hp
   generalize hux:ρr x=u at hp
   cases hp with
   | mp _ B hφ=>
    obtain⟨B',o',sz',e,hrb⟩:=hh.blkO hφ (by rw[hb',hb];rfl)
    rw[hφ]at e;cases e
    rw[hb',hb]at hrb
    have hrb2:RB w I φ B 0 0 (.map false es):=hrb
    obtain⟨_,_,mes,clock,h1,h2,h3,h4⟩:=hrb
    have hlt:=lt_of_heap h1
    have F:=fun base=>hh.freeze (x:=.map false es) hφ (by rw[hb',hb];rfl) rfl rfl hrb2 hlt base
    have hn2:rdput rd' b (.map false es) nx=.none:=by rw[rdput_ne _ _ hne];exact hn
    have G:=fun base=>(F 0).1.alloc hn2 (.mapIter (some B) clock #[] clock) (.iter true es false) 0 rfl (by
     refine⟨rfl,rfl,B,clock,#[],mes,clock,alloc_new w _,.inr rfl,(alloc_old w _ hlt).trans h1,h2,hle,fun i kv e a b=>?_,fun i e a=>⟨h4 i e a,h4 i e a⟩,rfl⟩
     obtain⟨g1,g2,_⟩:=h3 i kv e a b
     have hff:=List.all_eq_true.1 hf _ (List.mem_of_getElem? a)
     obtain⟨f1,f2⟩:=and_true' hff
     have mono:∀ {v:AV} {u:Value},RV w I Phi.no v u->RV (w.alloc (.mapIter (some B) clock #[] clock)) (fun B'=>I B'\/B'=B) Phi.no v u:=fun hvu=>
      hvu.mono (fun B' hB=>⟨.inl hB,alloc_old w _ (hh.lt B' hB)⟩) (csize_alloc w _) (Phi.le_refl _)
     exact⟨mono (g1.free f1),mono (g2.free f2)⟩) (fun _ _ _ h=>by cases h) base
    refine⟨.pointer (some ⟨w.heap.size,0,none⟩),_,_,_,.inl ?_,.ptr nx w.heap.size 0 0 0 0 0 (Phi.set_same _ _ _) rfl,(G 0).1,fun base=>(F base).2.trans (G base).2.1,(G 0).2.2⟩
    simp only[execOp,ho,hux,Instr.range,Sem.run_bind,run_underlying (htt t ti hti),hd,Result.andThen_ok,run_getMap h1,Sem.run_pure]
    rfl
  ·rename_i mu ks val hb
   refine⟨_,_,_,h,fun rd' ρr w φ I hrd hwr hh hx=>?_⟩
   have hn:rd' nx=.none:=(hwr (nx,_) (.tail _ (.head _))).trans hnx
   have hb':=hrd b (by simp)
   have hne:nx ≠ b:=by rintro rfl;rw[hnx]at hb;cases hb
   have hp:=hx x hm
   rw[hx0]at hp
   generalize hux:ρr x=u at hp
   cases hp with
   | mp _ B hφ=>
    obtain⟨B',o',sz',e,hrb⟩:=hh.blkO hφ (by rw[hb',hb];rfl)
    rw[hφ]at e;cases e
    rw[hb',hb]at hrb
    have hrb2:RB w I φ B 0 0 (.pmap false ks val):=hrb
    obtain⟨_,_,mes,clock,h1,hpm⟩:=hrb
    have hlt:=lt_of_heap h1
    have F:=fun base=>hh.freeze (x:=.pmap false ks val) hφ (by rw[hb',hb];rfl) rfl rfl hrb2 hlt base
    have hn2:rdput rd' b (.pmap false ks val) nx=.none:=by rw[rdput_ne _ _ hne];exact hn
    have G:=fun base=>(F 0).1.alloc hn2 (.mapIter (some B) clock #[] clock) (.piter true ks val ks none) 0 rfl (by
     refine⟨rfl,rfl,B,clock,#[],mes,clock,alloc_new w _,.inr rfl,(alloc_old w _ hlt).trans h1,hpm.mono (fun B' hB=>⟨.inl hB,alloc_old w _ (hh.lt B' hB)⟩) (csize_alloc w _),⟨Nat.le_refl _,fun i e a=>hpm.2.2.1 i e a⟩,fun i s e a _=>?_,fun s hs=>hs,fun s hs=>by cases hs⟩
     simp[List.mem_of_getElem? a]) (fun _ _ _ h=>by cases h) base
    refine⟨.pointer (some ⟨w.heap.size,0,none⟩),_,_,_,.inl ?_,.ptr nx w.heap.size 0 0 0 0 0 (Phi.set_same _ _ _) rfl,(G 0).1,fun base=>(F base).2.trans (G base).2.1,(G 0).2.2⟩
    simp only[execOp,ho,hux,Instr.range,Sem.run_bind,run_underlying (htt t ti hti),hd,Result.andThen_ok,run_getMap h1,Sem.run_pure]
    rfl
  ·cases h
 ·cases h
theorem aop_next{x:Operand}{str:Bool}(ho:o.op=.next x str)(h:aopK tt ρ rd nx (.next x str) k=some r):Good P o ρ rd k r:=by
 simp only[aopK]at h
 have hm:x ∈ o.op.operands:=by simp[ho,Op.operands]
 have hover:∀ (w:World) (I:Nat->Prop) (φ:Phi),RV w I φ (.tup [.bool false]) (.tuple #[.bool false]):=fun w I φ=>.tup _ _ rfl fun i c u e e'=>by
  cases i with
  | zero=>simp at e e';subst e;subst e';exact .bool _
  | succ i=>simp at e
 split at h
 ·rename_i b hx0
  have hopen:∀ (rd':Nat->BS) (ρr:Operand->Value) (w:World) (φ:Phi) (I:Nat->Prop) (es:List (AV × AV)) (st:Bool),rd b=.iter true es st->rd' b=rd b->RH w I φ rd'->(∀ x ∈ o.op.operands,RV w I φ (ρ x) (ρr x)) ->
    ∃ B mm since seen mes clock,φ b=some (B,0,0)/\ρr x=.pointer (some ⟨B,0,none⟩)/\w.heap[B]? = some (.mapIter (some mm) since seen clock)/\I mm/\w.heap[mm]? = some (.map mes clock)/\mes.size=es.length/\es.length<=1 /\
   (∀ (i:Nat) kv e,es[i]? = some kv->mes[i]? = some e->RV w I Phi.no kv.1 e.key/\RV w I Phi.no kv.2 e.val)/\(∀ (i:Nat) e,mes[i]? = some e->e.born<since/\e.born<clock) /\
   seen=(bif st then mes.map (·.born)else #[]):=by
   intro rd' ρr w φ I es st hb hb' hh hx
   obtain⟨B,oo,sz,e,hrb⟩:=hh.blkN (b:=b) (by rw[hb',hb];exact id) (by rw[hb',hb];rfl)
   rw[hb',hb]at hrb
   obtain⟨rfl,rfl,mm,since,seen,mes,clock,h1⟩:=hrb
   have hp:=hx x hm
   rw[hx0]at hp
   generalize hux:ρr x=u at hp
   cases hp with
   | ptr _ B' o' sz' _ _ q hφ hq=>
    rw[e]at hφ;cases hφ
    simp at hq
    subst hq
    exact⟨B,mm,since,seen,mes,clock,e,rfl,h1⟩
  have hone:∀ {mes:Array MapEntry} {p:AV × AV},mes.size=[p].length -> ∃ e,mes = #[e]:=by
   intro mes p hs
   obtain⟨l⟩:=mes
   match l,hs with
   | [e],_=>exact⟨e,rfl⟩
  split at h
  ·
   rename_i st hb
   refine⟨_,_,_,h,fun rd' ρr w φ I hrd _ hh hx=>?_⟩
   obtain⟨B,mm,since,seen,mes,clock,e1,e2,e3,e4,e5,e6,e7,e8,e9,e10⟩:=hopen rd' ρr w φ I _ _ hb (hrd b (by simp)) hh hx
   have hmes:mes = #[]:=Array.eq_empty_of_size_eq_zero e6
   subst hmes
   refine OpOk.pure hh (u:=.tuple #[.bool false]) ?_ (hover _ _ _)
   have hg:(getObj B).run P w=.ok (.mapIter (some mm) since seen clock) w:=by simp[getObj,Sem.run,e3]
   simp[execOp,ho,e2,Instr.next,hg,run_getMap e5,Question.forced]
  ·
   rename_i p hb
   refine⟨_,_,_,h,fun rd' ρr w φ I hrd _ hh hx=>?_⟩
   obtain⟨B,mm,since,seen,mes,clock,e1,e2,e3,e4,e5,e6,e7,e8,e9,e10⟩:=hopen rd' ρr w φ I _ _ hb (hrd b (by simp)) hh hx
   obtain⟨e,rfl⟩:=hone e6
   obtain⟨hs,hck⟩:=e9 0 e rfl
   refine OpOk.pure hh (u:=.tuple #[.bool false]) ?_ (hover _ _ _)
   have hg:(getObj B).run P w=.ok (.mapIter (some mm) since seen clock) w:=by simp[getObj,Sem.run,e3]
   subst e10
   have hck':¬ clock<=e.born:=by omega
   simp[execOp,ho,e2,Instr.next,hg,run_getMap e5,Question.forced,hck']
  ·
   rename_i p hb
   refine⟨_,_,_,h,fun rd' ρr w φ I hrd _ hh hx=>?_⟩
   have hb':=hrd b (by simp)
   obtain⟨B,mm,since,seen,mes,clock,e1,e2,e3,e4,e5,e6,e7,e8,e9,e10⟩:=hopen rd' ρr w φ I _ _ hb hb' hh hx
   obtain⟨e,rfl⟩:=hone e6
   obtain⟨hs,hck⟩:=e9 0 e rfl
   have hg:(getObj B).run P w=.ok (.mapIter (some mm) since seen clock) w:=by simp[getObj,Sem.run,e3]
   have hse:seen = #[]:=e10
   subst hse
   have hss:∀ ob,(setObj B ob).run P w=.ok () (World.setBlk w B ob):=fun ob=>by simp[setObj,Sem.run,e3,World.setBlk]
   have hmB:mm ≠ B:=by rintro rfl;rw[e3]at e5;cases e5
   have hmut:mutable (rd' b)=true:=by rw[hb',hb];rfl
   have hM:Mut φ rd' B:=⟨b,0,0,hmut,e1⟩
   have hIk:∀ B',I B'->I B'/\(World.setBlk w B (.mapIter (some mm) since #[e.born] clock)).heap[B']? = w.heap[B']? := fun B' hB=>⟨hB,setBlk_ne fun e=>hh.disj b B 0 0 hmut e1 (e ▸ hB)⟩
   have hcs:∀ B',csize w B'<=csize (World.setBlk w B (.mapIter (some mm) since #[e.born] clock)) B':=by
    intro B'
    by_cases hb:B'=B
    ·subst hb;unfold csize;rw[e3];exact Nat.zero_le _
    ·unfold csize;rw[setBlk_ne hb];exact Nat.le_refl _
   obtain⟨g1,g2⟩:=e8 0 p e rfl rfl
   have g1':=g1.mono hIk hcs (Phi.le_refl _)
   have g2':=g2.mono hIk hcs (Phi.le_refl _)
   have hW:=fun base=>hh.writeIter e1 hmut e3 (.mapIter (some mm) since #[e.born] clock) (fun _ _ _ h=>by cases h) (.iter true [p] true) rfl
    ⟨rfl,rfl,mm,since,#[e.born],#[e],clock,setBlk_same (lt_of_heap e3),e4,(setBlk_ne hmB).trans e5,rfl,Nat.le_refl _,fun i kv e' a b=>(by
     cases i with
     | zero=>simp at a b;subst a;subst b;exact⟨g1',g2'⟩
     | succ i=>simp at a),e9,by simp⟩ base
   refine⟨.tuple #[.bool true,e.key,e.val],_,φ,I,.inl ?_,.tup _ _ rfl fun i c u ec eu=>?_,(hW 0).1,fun base=>(hW base).2,Phi.le_refl _⟩
   ·have hss':=hss (.mapIter (some mm) since #[e.born] clock)
    have hns:¬ since<=e.born:=by omega
    simp[execOp,ho,e2,Instr.next,hg,run_getMap e5,Question.forced,hs,hns,hss']
   ·match i,ec,eu with
    | 0,ec,eu=>simp at ec eu;subst ec;subst eu;exact .bool _
    | 1,ec,eu=>simp at ec eu;subst ec;subst eu;exact g1'.mono (fun B hB=>⟨hB,rfl⟩) (fun _=>Nat.le_refl _) (Phi.no_le φ)
    | 2,ec,eu=>simp at ec eu;subst ec;subst eu;exact g2'.mono (fun B hB=>⟨hB,rfl⟩) (fun _=>Nat.le_refl _) (Phi.no_le φ)
    | i+3,ec,eu=>simp at ec
  ·cases h
 ·cases h
theorem aop_entry{x:Operand}(ho:o.op=.entry x)(h:aopK tt ρ rd nx (.entry x) k=some r):Good P o ρ rd k r:=by
 simp only[aopK]at h
 have hm:x ∈ o.op.operands:=by simp[ho,Op.operands]
 split at h
 ·rename_i b hx0
  split at h
  ·rename_i mu p hb
   refine⟨_,_,_,h,fun rd' ρr w φ I hrd _ hh hx=>?_⟩
   have hb':=hrd b (by simp)
   obtain⟨B,oo,sz,e,hrb⟩:=hh.blkN (b:=b) (by rw[hb',hb];exact id) (by rw[hb',hb];rfl)
   rw[hb',hb]at hrb
   obtain⟨rfl,rfl,mm,since,seen,mes,clock,e3,e4,e5,e6,e7,e8,e9,e10⟩:=hrb
   have hp:=hx x hm
   rw[hx0]at hp
   generalize hux:ρr x=u at hp
   cases hp with
   | ptr _ B' o' sz' _ _ q hφ hq=>
    rw[e]at hφ;cases hφ
    simp at hq
    subst hq
    obtain⟨e0,rfl⟩:∃ e,mes = #[e]:=by
     obtain⟨l⟩:=mes
     match l,e6 with
     | [e],_=>exact⟨e,rfl⟩
    obtain⟨g1,g2⟩:=e8 0 p e0 rfl rfl
    have hg:(getObj B).run P w=.ok (.mapIter (some mm) since seen clock) w:=by simp[getObj,Sem.run,e3]
    subst e10
    refine OpOk.pure hh (u:=.tuple #[e0.key,e0.val]) ?_ (.tup _ _ rfl fun i c u ec eu=>?_)
    ·simp[execOp,ho,hux,Instr.entry,hg,run_getMap e5]
    ·match i,ec,eu with
     | 0,ec,eu=>simp at ec eu;subst ec;subst eu;exact g1.mono (fun B hB=>⟨hB,rfl⟩) (fun _=>Nat.le_refl _) (Phi.no_le φ)
     | 1,ec,eu=>simp at ec eu;subst ec;subst eu;exact g2.mono (fun B hB=>⟨hB,rfl⟩) (fun _=>Nat.le_refl _) (Phi.no_le φ)
     | i+2,ec,eu=>simp at ec
  ·rename_i mu ks val rem s hb
   refine⟨_,_,_,h,fun rd' ρr w φ I hrd _ hh hx=>?_⟩
   have hb':=hrd b (by simp)
   obtain⟨B,oo,sz,e,hrb⟩:=hh.blkN (b:=b) (by rw[hb',hb];exact id) (by rw[hb',hb];rfl)
   rw[hb',hb]at hrb
   obtain⟨rfl,rfl,mm,since,seen,mes,clock,e3,e4,e5,hpm,_,_,_,hcur⟩:=hrb
   obtain⟨i0,e0,seen0,k1,k2,rfl⟩:=hcur s rfl
   have hp:=hx x hm
   rw[hx0]at hp
   generalize hux:ρr x=u at hp
   cases hp with
   | ptr _ B' o' sz' _ _ q hφ hq=>
    rw[e]at hφ;cases hφ
    simp at hq
    subst hq
    obtain⟨⟨t,t1,t2⟩,g2⟩:=hpm.2.1 i0 s e0 k1 k2
    have hnd:(mes.toList.map (·.born)).Nodup:=by
     rw[List.Nodup,List.pairwise_map,List.pairwise_iff_getElem]
     intro i j hi hj hij
     have:=hpm.2.2.2.1 i j mes[i] mes[j] hij (by simp at hi;simp[hi]) (by simp at hj;simp[hj])
     simp;omega
    have hr:=run_entry_at (P:=P) w B mm since seen0 mes clock e0 e3 e5 (by rw[<- Array.getElem?_toList]at k2;exact List.mem_of_getElem? k2) hnd
    refine OpOk.pure hh (u:=.tuple #[e0.key,e0.val]) ?_ (.tup _ _ rfl fun i c u ec eu=>?_)
    ·simp[execOp,ho,hux,hr]
    ·match i,ec,eu with
     | 0,ec,eu=>simp at ec eu;subst ec;subst eu;rw[t1,t2];exact .str _ _ rfl
     | 1,ec,eu=>simp at ec eu;subst ec;subst eu;exact g2.mono (fun B hB=>⟨hB,rfl⟩) (fun _=>Nat.le_refl _) (Phi.no_le φ)
     | i+2,ec,eu=>simp at ec
  ·cases h
 ·cases h
end
end Go.AM
end
noncomputable section
set_option linter.unusedVariables false
set_option linter.unusedSimpArgs false
namespace Go.AM
variable {R:Type}
section
variable {P:Program} {tt:TT} {ρ:Operand->AV} {rd:Nat->BS} {nx:Nat} {k:AopK R} {r:R} {o:Oper}
theorem tup2{w:World}{I:Nat->Prop}{φ:Phi}{a b:AV}{u v:Value}(ha:RV w I φ a u)(hb:RV w I φ b v):RV w I φ (.tup [a,b]) (.tuple #[u,v]):=by
 refine .tup _ _ rfl fun k c x e e'=>?_
 match k with
 | 0=>simp at e e';subst e;subst e';exact ha
 | 1=>simp at e e';subst e;subst e';exact hb
 | k+2=>simp at e
theorem aop_lookup(htt:TTok P tt){t:TypeId}{m key:Operand}{ok:Bool}(ho:o.op=.lookup t m key ok)(h:aopK tt ρ rd nx (.lookup t m key ok) k=some r):Good P o ρ rd k r:=by
 simp only[aopK]at h
 have hm1:m ∈ o.op.operands:=by simp[ho,Op.operands]
 have hm2:key ∈ o.op.operands:=by simp[ho,Op.operands]
 obtain⟨ti,hti,h⟩:=onK_some h
 split at h
 ·rename_i kt et hd
  obtain⟨tk,htk,h⟩:=onK_some h
  obtain⟨te,hte,h⟩:=onK_some h
  obtain⟨zv,hz,h⟩:=onK_some h
  obtain⟨hkf,h⟩:=cond_some h
  have hfin:∀ {v:AV} {b:Bool} {l:List Nat},(bif ok then k (.tup [v,.bool b]) [] l else k v [] l)=some r ->
    (∀ (rd':Nat->BS) (ρr:Operand->Value) (w:World) (φ:Phi) (I:Nat->Prop),(∀ b ∈ l,rd' b=rd b)->RH w I φ rd'->(∀ x ∈ o.op.operands,RV w I φ (ρ x) (ρr x)) ->
     ∃ u,(Instr.lookup t (ρr m) (ρr key) ok).run P w=.ok (if ok then .tuple #[u,.bool b]else u) w/\RV w I φ v u)->Good P o ρ rd k r:=by
   intro v b l hk hrun
   cases ok with
   | true=>
    refine⟨_,[],l,hk,fun rd' ρr w φ I hrd _ hh hx=>?_⟩
    obtain⟨u,h1,h2⟩:=hrun rd' ρr w φ I hrd hh hx
    refine OpOk.pure (u:=.tuple #[u,.bool b]) hh ?_ (tup2 h2 (.bool b))
    simp only[execOp,ho,Sem.run_bind,h1,Result.andThen_ok,Sem.run_pure]
    rfl
   | false=>
    refine⟨_,[],l,hk,fun rd' ρr w φ I hrd _ hh hx=>?_⟩
    obtain⟨u,h1,h2⟩:=hrun rd' ρr w φ I hrd hh hx
    refine OpOk.pure (u:=u) hh ?_ h2
    simp only[execOp,ho,Sem.run_bind,h1,Result.andThen_ok,Sem.run_pure]
    rfl
  split at h
  ·rename_i b hm
   split at h
   ·rename_i mu es hb
    obtain⟨x,hx,h⟩:=onK_some h
    obtain⟨y,hy,hyx⟩:=look_idx 0 hx
    have hpre:∀ (rd':Nat->BS) (ρr:Operand->Value) (w:World) (φ:Phi) (I:Nat->Prop),rd' b=rd b->RH w I φ rd'->(∀ x ∈ o.op.operands,RV w I φ (ρ x) (ρr x)) ->
      ∃ B mes clock,ρr m=.map (some B)/\w.heap[B]? = some (.map mes clock)/\mes.size=es.length /\
       (∀ (i:Nat) kv e,es[i]? = some kv->mes[i]? = some e->RV w I φ kv.1 e.key/\RV w I φ kv.2 e.val/\kv.1.single=true):=by
     intro rd' ρr w φ I hb' hh hx
     have hp:=hx m hm1
     rw[hm]at hp
     generalize hu:ρr m=u at hp
     cases hp with
     | mp _ B hφ=>
      obtain⟨B',o',sz',e,hrb⟩:=hh.blkO hφ (by rw[hb',hb];rfl)
      rw[hφ]at e;cases e
      rw[hb',hb]at hrb
      obtain⟨_,_,mes,clock,h1,h2,h3,_⟩:=hrb
      exact⟨B,mes,clock,rfl,h1,h2,h3⟩
    cases y with
    | none=>
     simp at hyx
     subst hyx
     refine hfin h fun rd' ρr w φ I hrd hh hx=>?_
     obtain⟨B,mes,clock,hu,hheap,hsz,hrel⟩:=hpre rd' ρr w φ I (hrd b (by simp)) hh hx
     have hk:=hx key hm2
     obtain⟨u,hzu,hrv⟩:=run_zv (htt et te hte) hz w I φ
     rcases find_now hkf hk (mes:=mes.toList) (by simpa using hsz) (fun j kv e h1 h2=>hrel j kv e h1 (by simpa using h2)) hy with ⟨_,hf⟩ | ⟨n,v',uv,e,_⟩
     ·refine⟨u,?_,hrv⟩
      simp only[Instr.lookup,Sem.run_bind,run_underlying (htt t ti hti),hd,Result.andThen_ok,hu,run_getMap hheap,Sem.run_pure,check_key (htt kt tk htk) hkf hk,find_key (htt kt tk htk) hf,hzu]
     ·cases e
    | some nv=>
     obtain⟨n,v'⟩:=nv
     simp at hyx
     subst hyx
     refine hfin h fun rd' ρr w φ I hrd hh hx=>?_
     obtain⟨B,mes,clock,hu,hheap,hsz,hrel⟩:=hpre rd' ρr w φ I (hrd b (by simp)) hh hx
     have hk:=hx key hm2
     rcases find_now hkf hk (mes:=mes.toList) (by simpa using hsz) (fun j kv e h1 h2=>hrel j kv e h1 (by simpa using h2)) hy with ⟨e,_⟩ | ⟨n',v'',uv,e,hf,huv⟩
     ·cases e
     ·cases e
      refine⟨uv,?_,huv⟩
      simp only[Instr.lookup,Sem.run_bind,run_underlying (htt t ti hti),hd,Result.andThen_ok,hu,run_getMap hheap,Sem.run_pure,check_key (htt kt tk htk) hkf hk,find_key (htt kt tk htk) hf]
   ·rename_i mu ks val hb
    split at h
    ·rename_i s hks
     have hpre:∀ (rd':Nat->BS) (ρr:Operand->Value) (w:World) (φ:Phi) (I:Nat->Prop),rd' b=rd b->RH w I φ rd'->(∀ x ∈ o.op.operands,RV w I φ (ρ x) (ρr x)) ->
       ∃ B mes clock,ρr m=.map (some B)/\w.heap[B]? = some (.map mes clock)/\PM w I mes clock ks val:=by
      intro rd' ρr w φ I hb' hh hx
      have hp:=hx m hm1
      rw[hm]at hp
      generalize hu:ρr m=u at hp
      cases hp with
      | mp _ B hφ=>
       obtain⟨B',o',sz',e,hrb⟩:=hh.blkO hφ (by rw[hb',hb];rfl)
       rw[hφ]at e;cases e
       rw[hb',hb]at hrb
       obtain⟨_,_,mes,clock,h1,h2⟩:=hrb
       exact⟨B,mes,clock,rfl,h1,h2⟩
     have hkf':keyFits tk.desc (.str s)=true:=hks ▸ hkf
     obtain⟨l1,l2⟩:=lookIdx_enc s val ks 0
     cases hmem:memS s ks with
     | false=>
      rw[hmem,cond_false]at h
      obtain⟨hy,_⟩:=l2 hmem
      refine hfin h fun rd' ρr w φ I hrd hh hx=>?_
      obtain⟨B,mes,clock,hu,hheap,hpm⟩:=hpre rd' ρr w φ I (hrd b (by simp)) hh hx
      have hk:=hx key hm2
      rw[hks]at hk
      obtain⟨u,hzu,hrv⟩:=run_zv (htt et te hte) hz w I φ
      rcases find_now hkf' hk (mes:=mes.toList) (by simpa [encK] using hpm.1) (fun j kv e h1 h2=>hpm.rel (φ:=φ) j kv e h1 (by simpa using h2)) hy with ⟨_,hf⟩ | ⟨n,v',uv,e,_⟩
      ·refine⟨u,?_,hrv⟩
       simp only[Instr.lookup,Sem.run_bind,run_underlying (htt t ti hti),hd,Result.andThen_ok,hu,run_getMap hheap,Sem.run_pure,check_key (htt kt tk htk) hkf' hk,find_key (htt kt tk htk) hf,hzu]
      ·cases e
     | true=>
      rw[hmem,cond_true]at h
      obtain⟨n,hy,_,_⟩:=l1 hmem
      refine hfin h fun rd' ρr w φ I hrd hh hx=>?_
      obtain⟨B,mes,clock,hu,hheap,hpm⟩:=hpre rd' ρr w φ I (hrd b (by simp)) hh hx
      have hk:=hx key hm2
      rw[hks]at hk
      rcases find_now hkf' hk (mes:=mes.toList) (by simpa [encK] using hpm.1) (fun j kv e h1 h2=>hpm.rel (φ:=φ) j kv e h1 (by simpa using h2)) hy with ⟨e,_⟩ | ⟨n',v'',uv,e,hf,huv⟩
      ·cases e
      ·cases e
       refine⟨uv,?_,huv⟩
       simp only[Instr.lookup,Sem.run_bind,run_underlying (htt t ti hti),hd,Result.andThen_ok,hu,run_getMap hheap,Sem.run_pure,check_key (htt kt tk htk) hkf' hk,find_key (htt kt tk htk) hf]
    ·cases h
   ·cases h
  ·rename_i hm
   refine hfin h fun rd' ρr w φ I hrd hh hx=>?_
   have hp:=hx m hm1
   rw[hm]at hp
   generalize hu:ρr m=u at hp
   cases hp
   have hk:=hx key hm2
   obtain⟨u,hzu,hrv⟩:=run_zv (htt et te hte) hz w I φ
   refine⟨u,?_,hrv⟩
   have hf:Instr.findNow tk.desc (ρr key) (#[]:Array MapEntry).toList 0=some none:=rfl
   simp only[Instr.lookup,Sem.run_bind,run_underlying (htt t ti hti),hd,Result.andThen_ok,hu,Sem.run_pure,check_key (htt kt tk htk) hkf hk,find_key (htt kt tk htk) hf,hzu]
  ·cases h
 ·cases h
theorem aop_ok(htt:TTok P tt)(hnx:rd nx=.none)(h:aopK tt ρ rd nx o.op k=some r):Good P o ρ rd k r:=by
 cases ho:o.op with
 | move x=>rw[ho]at h;exact aop_move (.inl ho) h
 | assign x=>rw[ho]at h;exact aop_move (.inr ho) h
 | pick c a b=>rw[ho]at h;exact aop_pick ho h
 | alloc t=>rw[ho]at h;exact aop_alloc htt hnx ho h
 | box t x=>rw[ho]at h;exact aop_box hnx ho h
 | build t ps=>rw[ho]at h;exact aop_build htt ho h
 | buildSlice t n ps=>rw[ho]at h;exact aop_buildSlice htt hnx ho h
 | insert t m key v=>rw[ho]at h;exact aop_mapUpdate (nx:=nx) htt (.inl ho) h
 | load t a=>rw[ho]at h;exact aop_load htt ho h
 | store t a x=>rw[ho]at h;exact aop_store htt ho h
 | nilCheck x=>rw[ho]at h;exact aop_nilCheck ho h
 | binOp op t x y t2=>rw[ho]at h;exact aop_binOp htt ho h
 | unOp op t x=>rw[ho]at h;exact aop_unOp ho h
 | convert s d x=>rw[ho]at h;exact aop_convert htt hnx ho h
 | makeFunc f a c=>rw[ho]at h;exact aop_makeFunc ho h
 | makeMap t x=>rw[ho]at h;exact aop_makeMap htt hnx ho h
 | makeSlice t l c=>rw[ho]at h;exact aop_makeSlice htt hnx ho h
 | slice t x lo hi mx=>rw[ho]at h;exact aop_slice htt ho h
 | fieldAddr t x f=>rw[ho]at h;exact aop_fieldAddr htt ho h
 | field t x f=>rw[ho]at h;exact aop_field htt ho h
 | indexAddr t x i=>rw[ho]at h;exact aop_indexAddr htt ho h
 | index t x i=>rw[ho]at h;exact aop_index htt ho h
 | lookup t m key ok=>rw[ho]at h;exact aop_lookup htt ho h
 | mapUpdate t m key v=>rw[ho]at h;exact aop_mapUpdate htt (.inr ho) h
 | extract x i=>rw[ho]at h;exact aop_extract ho h
 | range t x=>rw[ho]at h;exact aop_range htt hnx ho h
 | next x b=>rw[ho]at h;exact aop_next (tt:=tt) (nx:=nx) ho h
 | entry x=>rw[ho]at h;exact aop_entry (tt:=tt) (nx:=nx) ho h
 | _=>rw[ho]at h;simp[aopK]at h
end
end Go.AM
end
noncomputable section
set_option linter.unusedVariables false
set_option linter.unusedSimpArgs false
namespace Go.AM
variable {R:Type}
section
variable {P:Program}
theorem write_range{w:World}{I:Nat->Prop}{φ:Phi}{rd:Nat->BS}(hh:RH w I φ rd){b B ob sz p m:Nat}{nf:Nat->List AV}{vs:Array Value}{x':BS}
  (hφ:φ b=some (B,ob,sz)) (hm:mutable (rd b)=true) (hr:isRow (rd b)=true) (hf:Flat w I (vphi φ x') sz m nf vs) (hsz:1<=sz) (hmp:1<=m)
  (hin:∃ cs,elemAt (rd b) (p+m - 1)=some cs)
  (hx0:isRow x'=true) (hxm:mutable x'=true) (hxs:bsz x'=bsz (rd b)) (hxp:vphi φ x'=vphi φ (rd b))
  (hx:∀ i cs',elemAt x' i=some cs'->(p<=i/\i<p+m/\cs'=nf (i - p))\/(¬ (p<=i/\i<p+m)/\elemAt (rd b) i=some cs')) :
  ∃ w',(storeCells ⟨B,ob+p*sz,none⟩ vs.toList).run P w=.ok () w'/\RH w' I φ (rdput rd b x') /\ ∀ base,Step base rd φ I w (rdput rd b x') φ I w':=by
 obtain⟨B',o',sz',e,hrb⟩:=hh.blkO hφ (live_of_mutable hm)
 rw[hφ]at e;cases e
 obtain⟨hbs,⟨c,e,fz,hc,ht⟩,hel⟩:=hrb.row hr
 have hvl:vs.toList.length=m*sz:=by simpa using hf.size
 obtain⟨cl,hcl⟩:=hin
 have hclr:=hel _ cl hcl
 have hlast:ob+p*sz+m*sz<=c.size:=by
  obtain⟨u,hu,_⟩:=hclr.2 (sz - 1) _ (List.getElem?_eq_getElem (by rw[hclr.1];omega))
  rw[cell_of hc]at hu
  have:ob+(p+m - 1)*sz+(sz - 1)<c.size:=by
   rcases Nat.lt_or_ge (ob+(p+m - 1)*sz+(sz - 1)) c.size with h | h
   ·exact h
   ·rw[Array.getElem?_eq_none h]at hu;cases hu
  have e1:(p+m - 1)*sz+sz=p*sz+m*sz:=by
   have:p+m=(p+m - 1)+1:=by omega
   rw[<- Nat.add_mul]
   conv=>rhs;rw[this,Nat.succ_mul]
  omega
 have hrun:=run_storeCells (P:=P) (o:=ob+p*sz) vs.toList 0 c w hc (by rw[hvl];omega) (ht hm).1 (fun v hv'=>by
  obtain⟨q,hq⟩:=List.getElem?_of_mem hv'
  exact hf.one q v (by simpa using hq))
 have hn:=RH.write hh hφ hm hc (splice_size vs.toList c (ob+p*sz)) x' hxm (by
  refine RB.of_row hx0 (hxs.trans hbs) ⟨_,e,fz,setBlk_same (lt_of_heap hc),fun _=>⟨fun q hq=>(ht hm).1 q (by simpa using hq),by have:=(ht hm).2;unfold notStr at *;simpa using this⟩⟩ fun i' cs' e'=>?_
  have ext:=Ext.setBlk (M:=Mut φ rd) (c':=splice c (ob+p*sz) vs.toList) hc (splice_size _ _ _) ⟨b,ob,sz,hm,hφ⟩
  have mono:∀ {φ':Phi} {v:AV} {u:Value},RV w I φ' v u->RV (World.setBlk w B (.cells (splice c (ob+p*sz) vs.toList) e fz)) I φ' v u:=fun hvu=>
   hvu.mono (fun B hB=>⟨hB,ext.keep B (hh.lt B hB) fun⟨b,o,sz,hm,e⟩=>hh.disj b B o sz hm e hB⟩) ext.csize (Phi.le_refl _)
  rcases hx i' cs' e' with ⟨h1,h2,rfl⟩ | ⟨hne,hold⟩
  ·have hi:i' - p<m:=by omega
   refine⟨hf.len _ hi,fun q cc hq=>?_⟩
   have hqs:q<sz:=by
    have:=hf.len _ hi
    rcases Nat.lt_or_ge q (nf (i' - p)).length with h | h
    ·omega
    ·rw[List.getElem?_eq_none h]at hq;cases hq
   have hp:=idx_lt hi hqs
   rw[cell_of (setBlk_same (lt_of_heap hc)),splice_get _ _ _ _ (by rw[hvl];exact hlast),hvl]
   have e1:ob+i'*sz+q=ob+p*sz+((i' - p)*sz+q):=by
    have:i'=p+(i' - p):=by omega
    conv=>lhs;rw[this,Nat.add_mul]
    omega
   rw[e1,if_pos (by omega),Nat.add_sub_cancel_left]
   have hlt:(i' - p)*sz+q<vs.size:=by rw[hf.size];exact hp
   exact⟨vs[(i' - p)*sz+q],by simp[hlt],hf.one _ _ (Array.getElem?_eq_getElem hlt),mono (hf.val _ q cc _ hi hq (Array.getElem?_eq_getElem hlt))⟩
  ·have hold':=hel i' cs' hold
   rw[hxp]
   refine⟨hold'.1,fun q cc hq=>?_⟩
   obtain⟨u,hu,h2,h3⟩:=hold'.2 q cc hq
   rw[cell_of hc]at hu
   rw[cell_of (setBlk_same (lt_of_heap hc)),splice_get _ _ _ _ (by rw[hvl];exact hlast),hvl]
   have hqs:q<sz:=by
    rcases Nat.lt_or_ge q cs'.length with h | h
    ·have:=hold'.1;omega
    ·rw[List.getElem?_eq_none h]at hq;cases hq
   refine⟨u,?_,h2,mono h3⟩
   rw[if_neg]
   ·exact hu
   ·rintro⟨ha,hb⟩
    apply hne
    constructor
    ·rcases Nat.lt_or_ge i' p with hlt | hge
     ·have:=Nat.mul_le_mul_right sz (Nat.succ_le_of_lt hlt)
      rw[Nat.succ_mul]at this;omega
     ·exact hge
    ·rcases Nat.lt_or_ge i' (p+m)with hlt | hge
     ·exact hlt
     ·have:=Nat.mul_le_mul_right sz hge
      rw[Nat.add_mul]at this;omega)
 exact⟨_,hrun,(hn 0).1,fun base=>(hn base).2⟩
theorem app_len(v1 v2:View):(viewApp v1 v2).len=v1.len+v2.len:=by
 cases v1 with
 | list a=>cases v2 with
  | list b=>simp[viewApp,View.len]
  | fn n g=>cases a <;> simp[viewApp,View.len]
 | fn m f=>cases v2 <;> simp[viewApp,View.len]
theorem app_at1{v1 v2:View}{i:Nat}(hi:i<v1.len):(viewApp v1 v2).at i=v1.at i:=by
 have hb:Nat.blt i v1.len=true:=by rw[Nat.blt_eq];exact hi
 cases v1 with
 | list a=>cases v2 with
  | list b=>simp only[viewApp,View.at,List.getD];rw[List.getElem?_append_left hi]
  | fn n g=>cases a with
   | nil=>simp[View.len]at hi
   | cons x a=>simp only[viewApp,View.at];rw[hb];rfl
 | fn m f=>simp only[viewApp,View.at];rw[hb];rfl
theorem app_at2{v1 v2:View}{i:Nat}(hi:v1.len<=i)(hi2:i<v1.len+v2.len):(viewApp v1 v2).at i=v2.at (i - v1.len):=by
 have hb:Nat.blt i v1.len=false:=by
  cases h:Nat.blt i v1.len with
  | false=>rfl
  | true=>rw[Nat.blt_eq]at h;omega
 have hb2:Nat.blt i (v1.len+v2.len)=true:=by rw[Nat.blt_eq];exact hi2
 cases v1 with
 | list a=>cases v2 with
  | list b=>simp only[viewApp,View.at,List.getD];rw[List.getElem?_append_right hi];rfl
  | fn n g=>cases a with
   | nil=>rfl
   | cons x a=>simp only[viewApp,View.at];rw[hb,hb2];rfl
 | fn m f=>simp only[viewApp,View.at];rw[hb,hb2];rfl
theorem view_mem{es:List (List AV)}{i:Nat}(hi:i<es.length):View.at (.list es) i ∈ es:=by
 simp only[View.at,List.getD]
 rw[List.getElem?_eq_getElem hi]
 exact List.getElem_mem _
theorem app_rv1{w:World}{I:Nat->Prop}{φ:Phi}{v1 v2:View}(hl:(match viewApp v1 v2 with | .list _=>true | .fn _ _=>vfree v1)=true){i k:Nat}{c:AV}{u:Value}(hi:i<v1.len)
  (hc:(v1.at i)[k]? = some c) (hv:RV w I (wphi φ v1) c u):RV w I (wphi φ (viewApp v1 v2)) c u:=by
 cases v1 with
 | list a=>cases v2 with
  | list b=>exact hv
  | fn n g=>cases a with
   | nil=>simp[View.len]at hi
   | cons x a=>
    simp only[viewApp,vfree,List.all_eq_true]at hl
    exact hv.free (hl _ (view_mem hi) _ (List.mem_of_getElem? hc))
 | fn m f=>exact hv
theorem app_rv2{w:World}{I:Nat->Prop}{φ:Phi}{v1 v2:View}(hr:(vfree v2||(match viewApp v1 v2 with | .list _=>true | .fn _ _=>false))=true){i k:Nat}{c:AV}{u:Value}(hi:i<v2.len)
  (hc:(v2.at i)[k]? = some c) (hv:RV w I (wphi φ v2) c u):RV w I (wphi φ (viewApp v1 v2)) c u:=by
 cases v2 with
 | list b=>cases v1 with
  | list a=>exact hv
  | fn m f=>
   simp only[viewApp,Bool.or_false,vfree,List.all_eq_true]at hr
   exact hv.free (hr _ (view_mem hi) _ (List.mem_of_getElem? hc))
 | fn n g=>cases v1 with
  | list a=>cases a <;> exact hv
  | fn m f=>exact hv
theorem flat_k{w:World}{I:Nat->Prop}{φ:Phi}{sz n:Nat}{f:Nat->List AV}{vs:Array Value}(h:Flat w I φ sz n f vs){i k:Nat}{c:AV}(hi:i<n)(hc:(f i)[k]? = some c):k<sz:=by
 have:=h.len i hi
 rcases Nat.lt_or_ge k (f i).length with h' | h'
 ·omega
 ·rw[List.getElem?_eq_none h']at hc;cases hc
theorem flat_app{w:World}{I:Nat->Prop}{φ:Phi}{sz:Nat}{v1 v2:View}{vs1 vs2:Array Value}(h1:Flat w I (wphi φ v1) sz v1.len v1.at vs1)(h2:Flat w I (wphi φ v2) sz v2.len v2.at vs2)
  (hl:(match viewApp v1 v2 with | .list _=>true | .fn _ _=>vfree v1)=true) (hr:(vfree v2||(match viewApp v1 v2 with | .list _=>true | .fn _ _=>false))=true) :
  Flat w I (wphi φ (viewApp v1 v2)) sz (viewApp v1 v2).len (viewApp v1 v2).at (vs1++vs2):=by
 have hlen:=app_len v1 v2
 refine⟨by rw[hlen,Array.size_append,h1.size,h2.size,Nat.add_mul],fun p u e=>?_,fun i hi=>?_,fun i k c u hi hc e=>?_⟩
 ·rw[Array.getElem?_append]at e
  split at e
  ·exact h1.one p u e
  ·exact h2.one _ u e
 ·rw[hlen]at hi
  by_cases hi1:i<v1.len
  ·rw[app_at1 hi1];exact h1.len i hi1
  ·rw[app_at2 (by omega) hi];exact h2.len _ (by omega)
 ·rw[hlen]at hi
  by_cases hi1:i<v1.len
  ·rw[app_at1 hi1]at hc
   rw[Array.getElem?_append_left (by rw[h1.size];exact idx_lt hi1 (flat_k h1 hi1 hc))]at e
   exact app_rv1 hl hi1 hc (h1.val i k c u hi1 hc e)
  ·rw[app_at2 (by omega) hi]at hc
   have hge:vs1.size<=i*sz+k:=by
    rw[h1.size]
    have:=Nat.mul_le_mul_right sz (by omega:v1.len<=i)
    omega
   rw[Array.getElem?_append_right hge,h1.size]at e
   have e1:i*sz+k - v1.len*sz=(i - v1.len)*sz+k:=by
    rw[Nat.sub_mul]
    have:=Nat.mul_le_mul_right sz (by omega:v1.len<=i)
    omega
   rw[e1]at e
   exact app_rv2 hr (by omega) hc (h2.val _ k c u (by omega) hc e)
theorem run_append{t e:TypeId}{ti te:TI}(hti:tiOf P t=some ti)(hd:ti.desc=.slice e)(hte:tiOf P e=some te){z:List AV}(hz:te.zero=some z){argTypes:Array TypeId}{ty:TypeId}
  (ha0:argTypes[0]? = some t) (ha1:∀ t2,argTypes[1]? = some t2 -> ∃ d,P.underlying t2=some d /\ ∀ kd,d ≠ .int kd)
  {a:Option Addr} {n cap m:Nat} {ux:Value} {w:World} (hl:∀ w',(Builtin.lenOf ux).run P w'=.ok m w') {vo vn:Array Value} (ho:∀ w':World,w'.heap=w.heap->(Builtin.firstCells te.size n (.slice a n cap)).run P w'=.ok vo w')
  (hn:∀ w':World,w'.heap=w.heap->(Builtin.firstCells te.size m ux).run P w'=.ok vn w') (hb:(n+m)*te.bytes<=140737488355328) (hb2:n+m<=140737488355328) :
  (n+m<=cap->(Builtin.append_ argTypes ty #[.slice a n cap,ux]).run P w =
   ((match a with | some a=>storeCells (a.add (n*te.size)) vn.toList | none=>pure ()).run P w).andThen fun _ w'=>.ok (.slice a (n+m) cap) w') /\
  (cap<n+m -> ∃ (nc:Nat) (rest:Array Value),n+m<=nc/\rest.size=(nc - (n+m))*z.length /\
   (Builtin.append_ argTypes ty #[.slice a n cap,ux]).run P w=.ok (.slice (some ⟨w.heap.size,0,none⟩) (n+m) nc) (w.drew.alloc (.cells (vo++vn++rest) e))):=by
 obtain⟨i,hi0,hsi,hbi,_⟩:=ti_spec hte
 have hi:∀ w',(typeInfo e).run P w'=.ok i w':=fun w'=>by simp[typeInfo,hi0]
 constructor
 ·intro hle
  unfold Builtin.append_
  simp only[ha0,List.getElem?_toArray,List.getElem?_cons_zero,List.getElem?_cons_succ,Sem.run_bind,run_underlying hti,hd,Result.andThen_ok,run_sizeOf hte]
  cases h1:argTypes[1]? with
  | none=>
   simp only[Sem.run_pure,Sem.run_bind,Bool.false_eq_true,if_false,hl,Result.andThen_ok,hle,if_true,Bool.not_false,hn w rfl]
   cases a <;> simp
  | some t2=>
   obtain⟨d,hd2,hne⟩:=ha1 t2 h1
   have hu:(underlying t2).run P w=.ok d w:=by simp[underlying,hd2]
   have hf:(match d with | .int _=>true | _=>false)=false:=by cases d <;> first | rfl | exact absurd rfl (hne _)
   simp only[Sem.run_bind,hu,Result.andThen_ok,Sem.run_pure,hf,Bool.false_eq_true,if_false,hl,hle,if_true,Bool.not_false,hn w rfl]
   cases a <;> simp
 ·intro hlt
  have hgt:¬ (n+m<=cap):=by omega
  have hmax:¬ (((n+m:Nat):Int) > IntKind.i64.max/\(False\/i.bytes=0)):=by
   have:IntKind.i64.max=9223372036854775807:=by decide
   rw[this];omega
  have hnext:¬ (Builtin.nextslicecap (n+m) cap*i.bytes > 2 ^ 48):=by
   have h1:=nextslicecap_le hlt
   have h2:=Nat.mul_le_mul_right i.bytes h1
   have h3:2*(n+m)*i.bytes=2*((n+m)*i.bytes):=Nat.mul_assoc _ _ _
   rw[hbi]at h2 h3 ⊢
   have:(2:Nat) ^ 48=281474976710656:=by decide
   omega
  obtain⟨vz,hvz,_,_,hrz⟩:=run_zero hte hz w (fun _=>False) Phi.no
  have hvz':∀ w',(zeroValue e).run P w'=.ok vz w':=by
   intro w'
   obtain⟨i',hi',_,_,_,_,hzz,_⟩:=ti_spec hte
   simp only[zeroValue,typeInfo,Sem.run_bind,run_program,Result.andThen_ok,hi',Sem.run_pure]at hvz ⊢
   cases hiz:i'.zero with
   | none=>rw[hiz]at hvz;simp at hvz
   | some v'=>rw[hiz]at hvz;simp at hvz;simp[hvz]
  refine⟨(Question.appendCap (n+m) cap e).cut (w.tape w.drawn (.appendCap (n+m) cap e)),Builtin.zeroCells vz.cells ((Question.appendCap (n+m) cap e).cut (w.tape w.drawn (.appendCap (n+m) cap e)) - (n+m)),?_,?_,?_⟩
  rotate_left 2
  ·have hch:(choose (.appendCap (n+m) cap e)).run P w=.ok ((Question.appendCap (n+m) cap e).cut (w.tape w.drawn (.appendCap (n+m) cap e))) w.drew:=by
    rw[run_choose];rfl
   unfold Builtin.append_
   simp only[ha0,List.getElem?_toArray,List.getElem?_cons_zero,List.getElem?_cons_succ,Sem.run_bind,run_underlying hti,hd,Result.andThen_ok,run_sizeOf hte]
   cases h1:argTypes[1]? with
   | none=>
    simp only[Bool.false_eq_true,if_false,Sem.run_bind,hl,Result.andThen_ok,hgt,Bool.not_false,if_true,hi,hmax,hnext,hch,run_askRoom,ho w.drew rfl,hn w.drew rfl,hvz',newRow,run_newObj,Sem.run_pure]
    rfl
   | some t2=>
    obtain⟨d,hd2,hne⟩:=ha1 t2 h1
    have hu:(underlying t2).run P w=.ok d w:=by simp[underlying,hd2]
    have hf:(match d with | .int _=>true | _=>false)=false:=by cases d <;> first | rfl | exact absurd rfl (hne _)
    simp only[hu,hf,Bool.false_eq_true,if_false,Sem.run_bind,hl,Result.andThen_ok,hgt,Bool.not_false,if_true,hi,hmax,hnext,hch,run_askRoom,ho w.drew rfl,hn w.drew rfl,hvz',newRow,run_newObj,Sem.run_pure]
    rfl
  ·simp[Question.cut]
  ·simp only[Builtin.zeroCells,Array.size_map,Array.size_range]
   rw[hrz.1]
end
end Go.AM
end
