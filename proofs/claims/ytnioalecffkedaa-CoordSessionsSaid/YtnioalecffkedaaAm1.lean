/- The abstract machine: abstract values, blocks, and an evaluator of the model's code on them. What a run reads and does not write is a tree; what it writes lies in blocks of an abstract heap. It answers only where its answer holds for every tape: an 'append' that may or may not stay in place ends the old block; a region whose order is open is let by only where whatever touches one block stands in an order. -/
import GoSem.Dispatch
import GoSem.Step
namespace Go.AM

inductive AV where
  | undef
  | bool (b : Bool)
  | int (k : IntKind) (n : Int)
  | flt (k : FloatKind) (n : Nat)
  | cplx (k : FloatKind) (re im : Nat)
  | str (s : List UInt8)
  | nilp
  | ptr (b i j : Nat)
  | tp (cs : List AV) (j : Nat)
  | nils
  | sl (sz b off len cm : Nat)
  | tr (sz n : Nat) (f : Nat → List AV)
  | trl (sz : Nat) (es : List (List AV))
  | agg (cs : List AV)
  | tup (vs : List AV)
  | fn (f : Fn) (first cap : List AV)
  | nilf
  | nilm
  | mp (b : Nat)

instance : Inhabited AV := ⟨.undef⟩

inductive BS where
  | none
  | dead
  | arr (m : Bool) (sz : Nat) (es : List (List AV))
  | seq (m : Bool) (sz n : Nat) (f : Nat → List AV)
  | map (m : Bool) (es : List (AV × AV))
  | iter (m : Bool) (es : List (AV × AV)) (st : Bool)

instance : Inhabited BS := ⟨.none⟩

def AV.cells : AV → List AV
  | .agg cs => cs
  | v => [v]

/-- may a value stand in a cell, or in cells of its own? -/
def AV.storable : AV → Bool
  | .undef | .tup _ => false
  | _ => true

def AV.single : AV → Bool
  | .undef | .tup _ | .agg _ => false
  | _ => true

def ofVal1 : Value → AV
  | .bool b => .bool b
  | .int k n => .int k n
  | .float k n => .flt k n
  | .complex k a b => .cplx k a b
  | .string s => .str s.data.toList
  | .pointer .none => .nilp
  | .slice .none 0 0 => .nils
  | .map .none => .nilm
  | .nilFunc => .nilf
  | _ => .undef

def one1 : Value → Bool
  | .agg _ | .tuple _ => false
  | _ => true

def ofVal : Value → AV
  | .agg cs => bif cs.toList.all one1 then .agg (cs.toList.map ofVal1) else .undef
  | v => ofVal1 v

structure TI where
  size : Nat
  bytes : Nat
  agg : Bool
  desc : TypeDesc
  zero : Option (List AV)
  stood : Bool
  zv : Option AV

def tiOf (P : Program) (t : TypeId) : Option TI :=
  match P.info? t, P.underlying t with
  | some i, some d => some { size := i.size, bytes := i.bytes, agg := (match d with | .struct _ | .array _ _ => true | _ => false), desc := d, zero := i.zero.bind fun v => bif (ofVal v).storable then some (ofVal v).cells else .none, stood := P.stoodInHeld t, zv := i.zero.bind fun v => bif (ofVal v).storable then some (ofVal v) else .none }
  | _, _ => .none

abbrev TT := Nat → Option TI
abbrev Heap := List BS

def hget (h : Heap) (b : Nat) : BS := h.getD b .none

def hput : Heap → Nat → BS → Heap
  | [], 0, x => [x]
  | [], b + 1, x => .none :: hput [] b x
  | _ :: h, 0, x => x :: h
  | y :: h, b + 1, x => y :: hput h b x

abbrev Wr := List (Nat × BS)

def hputs (h : Heap) : Wr → Heap
  | [] => h
  | (b, x) :: r => hputs (hput h b x) r

abbrev Fr := List (Nat × AV)

def fget : Fr → Nat → AV
  | [], _ => .undef
  | (k, v) :: r, t => bif Nat.beq k t then v else fget r t

structure St where
  fr : Fr
  hp : Heap

def evalO (fr : Nat → AV) : Operand → AV
  | .tmp t => fr t
  | .const v => ofVal v
  | .global _ => .undef
  | .func f => .fn (.func f) [] []

variable {R : Type}

def elemK (x : BS) (i : Nat) (k : List AV → Option R) : Option R :=
  match x with
  | .arr _ _ es => match es[i]? with
    | some c => k c
    | .none => .none
  | .seq _ _ n f => bif Nat.blt i n then k (f i) else .none
  | _ => .none

def setAt (cs : List AV) (j : Nat) (vs : List AV) : List AV := cs.take j ++ (vs ++ cs.drop (j + vs.length))

/-- a cell that leads nowhere into the heap -/
def refFree : AV → Bool
  | .ptr .. | .sl .. | .mp _ | .agg _ | .tup _ | .fn .. => false
  | _ => true

inductive View where
  | list (es : List (List AV))
  | fn (n : Nat) (f : Nat → List AV)

def View.len : View → Nat
  | .list es => es.length
  | .fn n _ => n

def View.at : View → Nat → List AV
  | .list es => fun i => es.getD i []
  | .fn _ f => f

/-- what a slice (of elements of sz cells) or a string holds -/
def AV.view (h : Nat → BS) (sz : Nat) : AV → Option View
  | .nils => some (.list [])
  | .trl s es => bif Nat.beq s sz then some (.list es) else .none
  | .tr s n f => bif Nat.beq s sz then some (.fn n f) else .none
  | .sl s b off len _ =>
    bif Nat.beq s sz then
      bif Nat.beq len 0 then some (.list []) else
      match h b with
      | .arr _ _ es => bif Nat.ble (off + len) es.length then some (.list ((es.drop off).take len)) else .none
      | .seq _ _ n f => bif Nat.beq off 0 && Nat.beq len n then some (.fn n f) else
          bif Nat.ble (off + len) n then some (.fn len fun i => bif Nat.blt i len then f (off + i) else f n) else .none
      | _ => .none
    else .none
  | .str s => bif Nat.beq sz 1 then some (.fn s.length fun i => [.int .u8 ((s.getD i 0).toNat)]) else .none
  | _ => .none

def AV.viewIds : AV → List Nat
  | .sl _ b _ len _ => bif Nat.beq len 0 then [] else [b]
  | _ => []

def viewApp : View → View → View
  | .list a, .list b => .list (a ++ b)
  | x, y => .fn (x.len + y.len) fun i => bif Nat.blt i x.len then x.at i else bif Nat.blt i (x.len + y.len) then y.at (i - x.len) else x.at x.len

def vfree : View → Bool
  | .list es => es.all fun cs => cs.all refFree
  | .fn _ _ => true

/-- a new block of a view's elements -/
def blk (sz : Nat) : View → BS
  | .list es => .arr true sz es
  | .fn n f => .seq true sz n f

def boundK (x : Option AV) (d y : Nat) (k : Nat → Option R) : Option R :=
  match x with
  | .none => k d
  | some (.int _ i) => bif decide (0 ≤ i) && decide (i ≤ (y : Int)) then k i.toNat else .none
  | _ => .none

def boundsK (lo hi mx : Option AV) (len cap : Nat) (k : Nat → Nat → Nat → Option R) : Option R :=
  boundK mx cap cap fun m => boundK hi len m fun h => boundK lo 0 h fun l => k l h m

def cmpI (op : BinOp) (x y : Int) : Option Bool :=
  match op with
  | .eql => some (decide (x = y))
  | .neq => some (!decide (x = y))
  | .lss => some (decide (x < y))
  | .leq => some (decide (x ≤ y))
  | .gtr => some (decide (y < x))
  | .geq => some (decide (y ≤ x))
  | _ => .none

def isO (o : Option Ordering) (p : Ordering) : Bool :=
  match o, p with
  | some .lt, .lt | some .eq, .eq | some .gt, .gt => true
  | _, _ => false

def fEq (k : FloatKind) (x y : Nat) : Bool := isO (k.format.order x y) .eq
def fLt (k : FloatKind) (x y : Nat) : Bool := isO (k.format.order x y) .lt
def fGt (k : FloatKind) (x y : Nat) : Bool := isO (k.format.order x y) .gt

def cmpF (op : BinOp) (k : FloatKind) (x y : Nat) : Option Bool :=
  match op with
  | .eql => some (fEq k x y)
  | .neq => some (!fEq k x y)
  | .lss => some (fLt k x y)
  | .leq => some (fLt k x y || fEq k x y)
  | .gtr => some (fGt k x y)
  | .geq => some (fGt k x y || fEq k x y)
  | _ => .none

def strBeq : List UInt8 → List UInt8 → Bool
  | [], [] => true
  | a :: x, b :: y => Nat.beq a.toNat b.toNat && strBeq x y
  | _, _ => false

def strLt : List UInt8 → List UInt8 → Bool
  | _, [] => false
  | [], _ :: _ => true
  | a :: x, b :: y => Nat.blt a.toNat b.toNat || (Nat.beq a.toNat b.toNat && strLt x y)

def cmpS (op : BinOp) (x y : List UInt8) : Option Bool :=
  match op with
  | .eql => some (strBeq x y)
  | .neq => some (!strBeq x y)
  | .lss => some (strLt x y)
  | .leq => some (strLt x y || strBeq x y)
  | .gtr => some (!(strLt x y || strBeq x y))
  | .geq => some (!strLt x y)
  | _ => .none

def boolEq (a b : Bool) : Bool := bif a then b else !b

def kindEq (a b : IntKind) : Bool := decide (a = b)
def fkindEq (a b : FloatKind) : Bool := decide (a = b)

/-- one cell against another -/
def eq1 (tt : TT) (t : TypeId) (x y : AV) : Option Bool :=
  match tt t with
  | .none => .none
  | some ti => match ti.desc, x, y with
    | .bool, .bool a, .bool b => some (boolEq a b)
    | .int _, .int k a, .int k' b => bif kindEq k k' then some (decide (a = b)) else .none
    | .float _, .flt k a, .flt k' b => bif fkindEq k k' then some (fEq k a b) else .none
    | .complex _, .cplx k a b, .cplx k' a' b' => bif fkindEq k k' then some (fEq k a a' && fEq k b b') else .none
    | .string, .str a, .str b => some (strBeq a b)
    | .pointer _, .nilp, .nilp => some true
    | .pointer _, .nilp, .ptr .. | .pointer _, .ptr .., .nilp => some false
    | .pointer _, .nilp, .tp .. | .pointer _, .tp .., .nilp => some false
    | .slice _, .nils, .nils => some true
    | .slice _, .nils, .trl _ _ | .slice _, .trl _ _, .nils => some false
    | .slice _, .tr _ (_ + 1) _, .nils | .slice _, .sl _ _ _ _ _, .nils => some false
    | .map _ _, .nilm, .nilm => some true
    | .map _ _, .mp _, .nilm => some false
    | .func .., .nilf, .nilf => some true
    | .func .., .fn .., .nilf => some false
    | _, _, _ => .none

/-- the fields of a struct, each of one cell, against each other -/
def eqFields (tt : TT) (xs ys : List AV) : List Field → Option Bool
  | [] => some true
  | f :: r =>
    match xs[f.offset]?, ys[f.offset]? with
    | some x, some y => match eqPart tt f.type x y, eqFields tt xs ys r with
      | some a, some b => some (a && b)
      | _, _ => .none
    | _, _ => .none
where
  eqPart (tt : TT) (t : TypeId) (x y : AV) : Option Bool :=
    match tt t with
    | some ti => bif ti.agg then .none else eq1 tt t x y
    | .none => .none

def eqA (tt : TT) (t : TypeId) (x y : AV) : Option Bool :=
  match x, y with
  | .agg xs, .agg ys => match tt t with
    | some ti => match ti.desc with
      | .struct fields => bif ti.stood then .none else bif fields.toList.all (fun f => f.name != "_") then eqFields tt xs ys fields.toList else .none
      | _ => .none
    | .none => .none
  | x, y => eq1 tt t x y

def obK (b : Option Bool) (k : AV → Option R) : Option R :=
  match b with
  | some b => k (.bool b)
  | .none => .none

def onK {α : Type} (b : Option α) (k : α → Option R) : Option R :=
  match b with
  | some b => k b
  | .none => .none

def abinK (tt : TT) (op : BinOp) (t : TypeId) (x y : AV) (k : AV → Option R) : Option R :=
  match x, y with
  | .int kd a, .int kd' b =>
    match op with
    | .shl => bif decide (b < 0) then .none else k (.int kd (kd.wrap (a * 2 ^ (min b.toNat kd.bits))))
    | .shr => bif decide (b < 0) then .none else k (.int kd (a.fdiv (2 ^ (min b.toNat kd.bits))))
    | op =>
      bif kindEq kd kd' then
        match op with
        | .add => k (.int kd (kd.wrap (a + b)))
        | .sub => k (.int kd (kd.wrap (a - b)))
        | .mul => k (.int kd (kd.wrap (a * b)))
        | .quo => bif decide (b = 0) then .none else k (.int kd (kd.wrap (a.tdiv b)))
        | .rem => bif decide (b = 0) then .none else k (.int kd (a.tmod b))
        | .and => k (.int kd (kd.wrap ((BitVec.ofInt kd.bits a &&& BitVec.ofInt kd.bits b).toNat)))
        | .or => k (.int kd (kd.wrap ((BitVec.ofInt kd.bits a ||| BitVec.ofInt kd.bits b).toNat)))
        | .xor => k (.int kd (kd.wrap ((BitVec.ofInt kd.bits a ^^^ BitVec.ofInt kd.bits b).toNat)))
        | .andNot => k (.int kd (kd.wrap ((BitVec.ofInt kd.bits a &&& ~~~ BitVec.ofInt kd.bits b).toNat)))
        | _ => obK (cmpI op a b) k
      else .none
  | .flt kd a, .flt kd' b =>
    bif fkindEq kd kd' then
      match op with
      | .add => onK (kd.format.add a b) fun r => k (.flt kd r)
      | .sub => onK (kd.format.sub a b) fun r => k (.flt kd r)
      | .mul => onK (kd.format.mul a b) fun r => k (.flt kd r)
      | .quo => onK (kd.format.div a b) fun r => k (.flt kd r)
      | _ => obK (cmpF op kd a b) k
    else .none
  | .cplx kd a b, .cplx kd' c d =>
    bif fkindEq kd kd' then
      match op with
      | .eql => k (.bool (fEq kd a c && fEq kd b d))
      | .neq => k (.bool (!(fEq kd a c && fEq kd b d)))
      | _ => .none
    else .none
  | .str a, .str b =>
    match op with
    | .add => bif Nat.ble (a.length + b.length) 4611686018427387904 then k (.str (a ++ b)) else .none
    | _ => obK (cmpS op a b) k
  | x, y =>
    match op with
    | .eql => obK (eqA tt t x y) k
    | .neq => obK ((eqA tt t x y).map not) k
    | _ => .none

def aunK (op : UnOp) (x : AV) (k : AV → Option R) : Option R :=
  match op, x with
  | .neg, .int kd n => k (.int kd (kd.wrap (0 - n)))
  | .xor, .int kd n => k (.int kd (kd.wrap ((BitVec.ofInt kd.bits n ^^^ BitVec.ofInt kd.bits (if kd.signed then -1 else kd.max)).toNat)))
  | .not, .bool b => k (.bool (!b))
  | _, _ => .none

def fillL (place : Nat → Option (Nat × Nat)) (cells : List AV) : List (Nat × AV) → Option (List AV)
  | [] => some cells
  | (i, v) :: rest =>
    match place i with
    | .none => .none
    | some (off, size) =>
      bif v.storable && (Nat.beq v.cells.length size && Nat.ble (off + size) cells.length) then fillL place (setAt cells off v.cells) rest else .none

def chunks (sz : Nat) : Nat → List AV → List (List AV)
  | 0, _ => []
  | n + 1, cs => cs.take sz :: chunks sz n (cs.drop sz)

def zeros (z : List AV) (n : Nat) : List AV := (List.range (n * z.length)).map fun i => z.getD (i % z.length) .undef

def byteOf : List AV → Option UInt8
  | [.int .u8 n] => some (UInt8.ofNat n.toNat)
  | _ => .none

def bytesOfL : List (List AV) → Option (List UInt8)
  | [] => some []
  | c :: r => match byteOf c, bytesOfL r with
    | some b, some l => some (b :: l)
    | _, _ => .none

abbrev AopK (R : Type) := AV → Wr → List Nat → Option R

/-- the part of a type's cells at j -/
def partK (ti : TI) (cs : List AV) (j : Nat) (k : AV → Option R) : Option R :=
  bif ti.agg then (bif Nat.ble (j + ti.size) cs.length then k (.agg ((cs.drop j).take ti.size)) else .none)
  else match cs[j]? with
    | some c => k c
    | .none => .none

def same (a b : AV) : Option Bool :=
  match a, b with
  | .int k a, .int k' b => bif kindEq k k' then some (decide (a = b)) else .none
  | .str a, .str b => some (strBeq a b)
  | _, _ => .none

def look (key : AV) : List (AV × AV) → Option (Option AV)
  | [] => some .none
  | (a, v) :: r => match same key a with
    | some true => some (some v)
    | some false => look key r
    | .none => .none

def upd (key v : AV) : List (AV × AV) → List (AV × AV)
  | [] => []
  | (a, u) :: r => match same key a with
    | some true => (a, v) :: r
    | _ => (a, u) :: upd key v r

def keyFits (d : TypeDesc) (key : AV) : Bool :=
  match d, key with
  | .int _, .int .. | .string, .str _ => true
  | _, _ => false

def structPlace (tt : TT) (fields : List Field) (i : Nat) : Option (Nat × Nat) :=
  match fields[i]? with
  | some f => match tt f.type with
    | some ti => some (f.offset, ti.size)
    | .none => .none
  | .none => .none

/-- a block that is never made: slices of it have no room -/
def noB : Nat := 1000000007

/-- An operation that calls nothing: its value, what it writes, which blocks it reads. -/
def aopK (tt : TT) (ρ : Operand → AV) (h : Nat → BS) (nx : Nat) (o : Op) (k : AopK R) : Option R :=
  match o with
  | .move x | .assign x => k (ρ x) [] []
  | .pick c a b => match ρ c with
    | .bool c => bif c then k (ρ a) [] [] else k (ρ b) [] []
    | _ => .none
  | .alloc t => onK (tt t) fun ti => onK ti.zero fun z => k (.ptr nx 0 0) [(nx, .arr true z.length [z])] []
  | .box _ x => bif (ρ x).storable then k (.ptr nx 0 0) [(nx, .arr true (ρ x).cells.length [(ρ x).cells])] [] else .none
  | .build t parts =>
    onK (tt t) fun ti => onK ti.zero fun z =>
      match ti.desc with
      | .struct fields => bif fields.toList.all (fun f => (tt f.type).isSome) then
          onK (fillL (structPlace tt fields.toList) z (parts.toList.map fun (i, x) => (i, ρ x))) fun cs => k (.agg cs) [] []
        else .none
      | .array _ e => onK (tt e) fun te =>
          onK (fillL (fun i => some (i * te.size, te.size)) z (parts.toList.map fun (i, x) => (i, ρ x))) fun cs => k (.agg cs) [] []
      | _ => .none
  | .buildSlice t n parts =>
    onK (tt t) fun ti => match ti.desc with
    | .slice e => onK (tt e) fun te => onK te.zero fun z =>
      bif Nat.beq z.length te.size && (Nat.ble 1 te.size && Nat.ble (n * te.size) 16777216) then
        onK (fillL (fun i => some (i * te.size, te.size)) (zeros z n) (parts.toList.map fun (i, x) => (i, ρ x))) fun cs =>
          k (.sl te.size nx 0 n n) [(nx, .arr true te.size (chunks te.size n cs))] []
      else .none
    | _ => .none
  | .load t a =>
    onK (tt t) fun ti =>
      match ρ a with
      | .ptr b i j => elemK (h b) i fun cs => partK ti cs j fun v => k v [] [b]
      | .tp cs j => partK ti cs j fun v => k v [] []
      | _ => .none
  | .store t a x =>
    onK (tt t) fun ti =>
      bif (ρ x).storable && (Nat.beq (ρ x).cells.length ti.size && Nat.ble 1 ti.size) then
        match ρ a with
        | .ptr b i j => match h b with
          | .arr true sz es => match es[i]? with
            | some cs => bif Nat.ble (j + ti.size) cs.length then
                k .undef [(b, .arr true sz (es.set i (setAt cs j (ρ x).cells)))] [b] else .none
            | .none => .none
          | .seq true sz n f =>
            bif (ρ x).cells.all refFree && (Nat.blt i n && Nat.ble (j + ti.size) (f i).length) then
              k .undef [(b, .seq true sz n fun i' => bif Nat.beq i' i then setAt (f i) j (ρ x).cells else f i')] [b]
            else .none
          | _ => .none
        | _ => .none
      else .none
  | .nilCheck x => match ρ x with
    | .ptr b i j => k (.ptr b i j) [] []
    | .tp cs j => k (.tp cs j) [] []
    | .fn (.func f) a c => k (.fn (.func f) a c) [] []
    | _ => .none
  | .binOp op t x y _ => abinK tt op t (ρ x) (ρ y) fun v => k v [] []
  | .unOp op _ x => aunK op (ρ x) fun v => k v [] []
  | .convert src dst x =>
    onK (tt src) fun ts => onK (tt dst) fun td =>
    match td.desc, ρ x with
    | .int kd, .int _ n => k (.int kd (kd.wrap n)) [] []
    | .float kd, .int _ n => k (.flt kd (kd.nearest n)) [] []
    | .int kd, .flt s b => match (s.decode b).toInt .zero with
      | some n => bif decide (kd.min ≤ n) && decide (n ≤ kd.max) then k (.int kd n) [] [] else .none
      | .none => .none
    | .complex kd, .cplx s a b => bif fkindEq kd s then k (.cplx kd a b) [] [] else .none
    | .string, .str s => k (.str s) [] []
    | .slice e, .str s =>
      onK (tt e) fun te => match te.desc with
      | .int .u8 => k (.sl 1 nx 0 s.length s.length) [(nx, .arr true 1 (s.map fun b => [.int .u8 b.toNat]))] []
      | _ => .none
    | .string, v =>
      match ts.desc with
      | .slice e => onK (tt e) fun te => match te.desc with
        | .int .u8 => match v with
          | .str _ => .none
          | v => match v.view h 1 with
            | some (.list es) => onK (bytesOfL es) fun l => k (.str l) [] v.viewIds
            | some (.fn n f) => onK (bytesOfL ((List.range n).map f)) fun l => k (.str l) [] v.viewIds
            | .none => .none
        | _ => .none
      | _ => .none
    | _, _ => .none
  | .makeFunc fn first cap => k (.fn fn (first.toList.map ρ) (cap.toList.map ρ)) [] []
  | .makeMap t r => match r with
    | .none => k (.mp nx) [(nx, .map true [])] []
    | some r => onK (tt t) fun ti => match ti.desc, ρ r with
      | .map _ _, .int _ _ => k (.mp nx) [(nx, .map true [])] []
      | _, _ => .none
  | .makeSlice t l c =>
    onK (tt t) fun ti => match ti.desc, ρ l, ρ c with
    | .slice e, .int _ l, .int _ c => onK (tt e) fun te => onK te.zero fun z =>
      bif Nat.beq z.length te.size && (Nat.ble 1 te.size && Nat.ble te.bytes 65536) && (decide (0 ≤ l) && (decide (l ≤ c) && decide (c ≤ 1048576))) then
        k (.sl te.size nx 0 l.toNat l.toNat) [(nx, .arr true te.size (List.replicate l.toNat z))] []
      else .none
    | _, _, _ => .none
  | .slice t x lo hi mx =>
    bif mx.isSome && hi.isNone then .none else
    onK (tt t) fun ti => match ti.desc, ρ x with
    | .string, .str s => match mx with
      | .none => boundsK (lo.map ρ) (hi.map ρ) .none s.length s.length fun l h _ => k (.str ((s.drop l).take (h - l))) [] []
      | _ => .none
    | .slice e, x => onK (tt e) fun te => match x with
      | .sl sz b off len cm => bif Nat.beq sz te.size then
          boundsK (lo.map ρ) (hi.map ρ) (mx.map ρ) len cm fun l h m => k (.sl sz b (off + l) (h - l) (m - l)) [] [] else .none
      | .trl sz es => bif Nat.beq sz te.size then
          boundsK (lo.map ρ) (hi.map ρ) (mx.map ρ) es.length es.length fun l h m => match mx with
            | .none => k (.trl sz ((es.drop l).take (h - l))) [] []
            | _ => bif Nat.beq m 0 then k (.sl sz noB 0 0 0) [] [] else .none
          else .none
      | .tr sz n f => bif Nat.beq sz te.size then
          boundsK (lo.map ρ) (hi.map ρ) (mx.map ρ) n n fun l h m => match mx with
            | .none => k (.tr sz (h - l) fun i => bif Nat.blt i (h - l) then f (l + i) else f n) [] []
            | _ => bif Nat.blt 0 n && Nat.beq m 0 then k (.sl sz noB 0 0 0) [] [] else .none
          else .none
      | .nils => boundsK (lo.map ρ) (hi.map ρ) (mx.map ρ) 0 0 fun _ _ _ => k .nils [] []
      | _ => .none
    | _, _ => .none
  | .fieldAddr t x f =>
    onK (tt t) fun ti => match ti.desc with
    | .struct fields => onK (fields.toList[f]?) fun fd => onK (tt fd.type) fun tf =>
      bif Nat.beq tf.size 0 then .none else
      match ρ x with
      | .ptr b i j => k (.ptr b i (j + fd.offset)) [] []
      | .tp cs j => k (.tp cs (j + fd.offset)) [] []
      | _ => .none
    | _ => .none
  | .field t x f =>
    onK (tt t) fun ti => match ti.desc, ρ x with
    | .struct fields, .agg cs => onK (fields.toList[f]?) fun fd => onK (tt fd.type) fun tf => partK tf cs fd.offset fun v => k v [] []
    | _, _ => .none
  | .indexAddr t x ix =>
    onK (tt t) fun ti => match ρ ix with
    | .int _ i => match ti.desc with
      | .array n e => onK (tt e) fun te =>
        bif decide (0 ≤ i) && decide (i < (n : Int)) then
          match ρ x with
          | .ptr b i' j => k (.ptr b i' (j + i.toNat * te.size)) [] []
          | .tp cs j => k (.tp cs (j + i.toNat * te.size)) [] []
          | _ => .none
        else .none
      | .slice e => onK (tt e) fun te => match ρ x with
        | .sl sz b off len _ => bif Nat.beq sz te.size && (decide (0 ≤ i) && decide (i < (len : Int))) then k (.ptr b (off + i.toNat) 0) [] [] else .none
        | .trl sz es => bif Nat.beq sz te.size && decide (0 ≤ i) then (match es[i.toNat]? with
            | some cs => k (.tp cs 0) [] []
            | .none => .none) else .none
        | .tr sz n f => bif Nat.beq sz te.size && (decide (0 ≤ i) && decide (i < (n : Int))) then k (.tp (f i.toNat) 0) [] [] else .none
        | _ => .none
      | _ => .none
    | _ => .none
  | .index t x ix =>
    onK (tt t) fun ti => match ρ ix with
    | .int _ i => match ti.desc, ρ x with
      | .string, .str s => bif decide (0 ≤ i) && decide (i < (s.length : Int)) then k (.int .u8 (s.getD i.toNat 0).toNat) [] [] else .none
      | .array n e, .agg cs => onK (tt e) fun te =>
          bif decide (0 ≤ i) && decide (i < (n : Int)) then partK te cs (i.toNat * te.size) fun v => k v [] [] else .none
      | _, _ => .none
    | _ => .none
  | .extract t i => match ρ t with
    | .tup vs => onK (vs[i]?) fun v => k v [] []
    | _ => .none
  | .insert t m key v | .mapUpdate t m key v =>
    onK (tt t) fun ti => match ti.desc, ρ m with
    | .map kt _, .mp b => onK (tt kt) fun tk => match h b with
      | .map true es => bif keyFits tk.desc (ρ key) && (ρ v).storable then onK (look (ρ key) es) fun
          | some _ => k .undef [(b, .map true (upd (ρ key) (ρ v) es))] [b]
          | .none => k .undef [(b, .map true (es ++ [(ρ key, ρ v)]))] [b]
        else .none
      | _ => .none
    | _, _ => .none
  | .lookup t m key ok =>
    onK (tt t) fun ti => match ti.desc with
    | .map kt e => onK (tt kt) fun tk => onK (tt e) fun te => onK te.zv fun zv =>
      bif keyFits tk.desc (ρ key) then
        let fin (v : AV) (b' : Bool) (rd : List Nat) : Option R := bif ok then k (.tup [v, .bool b']) [] rd else k v [] rd
        match ρ m with
        | .mp b => match h b with
          | .map _ es => onK (look (ρ key) es) fun
            | some v => fin v true [b]
            | .none => fin zv false [b]
          | _ => .none
        | .nilm => fin zv false []
        | _ => .none
      else .none
    | _ => .none
  | .range t x =>
    onK (tt t) fun ti => match ti.desc, ρ x with
    | .map _ _, .mp b => match h b with
      | .map _ es => bif Nat.ble es.length 1 && es.all (fun p => refFree p.1 && refFree p.2) then
          k (.ptr nx 0 0) [(b, .map false es), (nx, .iter true es false)] [b] else .none
      | _ => .none
    | _, _ => .none
  | .next x str => match str, ρ x with
    | false, .ptr b 0 0 => match h b with
      | .iter true [] _ => k (.tup [.bool false]) [] [b]
      | .iter true [_] true => k (.tup [.bool false]) [] [b]
      | .iter true [p] false => k (.tup [.bool true, p.1, p.2]) [(b, .iter true [p] true)] [b]
      | _ => .none
    | _, _ => .none
  | .entry x => match ρ x with
    | .ptr b 0 0 => match h b with
      | .iter _ [p] true => k (.tup [p.1, p.2]) [] [b]
      | _ => .none
    | _ => .none
  | _ => .none

/-- The built-in functions. -/
def abuiltK (tt : TT) (h : Nat → BS) (nx : Nat) (b : Builtin) (argTypes : List TypeId) (args : List AV) (k : AopK R) : Option R :=
  match b, args, argTypes with
  | .len, [x], [t] => onK (tt t) fun ti => match ti.desc, x with
    | .string, .str s => k (.int .i64 s.length) [] []
    | .slice _, .nils => k (.int .i64 0) [] []
    | .slice _, .sl _ _ _ n _ => k (.int .i64 n) [] []
    | .slice _, .tr _ n _ => k (.int .i64 n) [] []
    | .slice _, .trl _ es => k (.int .i64 es.length) [] []
    | .array n _, _ => k (.int .i64 n) [] []
    | .map _ _, .nilm => k (.int .i64 0) [] []
    | .map _ _, .mp b => match h b with
      | .map _ es => k (.int .i64 es.length) [] [b]
      | _ => .none
    | _, _ => .none
  | .append, [s, x], t :: tr =>
    onK (tt t) fun ti => match ti.desc with
    | .slice e => onK (tt e) fun te => onK te.zero fun z =>
      bif Nat.beq z.length te.size && Nat.ble 1 te.size then
      match x with
      | .int .. => .none
      | x =>
      onK (match tr with
        | [] => some ()
        | t2 :: _ => onK (tt t2) fun t2 => match t2.desc with
          | .int _ => .none
          | _ => some ()) fun _ =>
      onK (s.view h te.size) fun old => onK (x.view h te.size) fun new =>
        bif Nat.ble ((old.len + new.len) * te.bytes) 140737488355328 && Nat.ble (old.len + new.len) 140737488355328 then
          match s with
          | .nils => bif Nat.beq new.len 0 then k .nils [] x.viewIds
              else k (.sl te.size nx 0 new.len new.len) [(nx, blk te.size new)] x.viewIds
          | .sl sz b off len cm =>
            bif Nat.beq new.len 0 then k s [] (s.viewIds ++ x.viewIds)
            else bif Nat.ble (len + new.len) cm then
              match h b, new with
              | .arr true sz' es, .list ns => bif Nat.ble (off + cm) es.length then
                  k (.sl sz b off (len + new.len) cm) [(b, .arr true sz' (es.take (off + len) ++ (ns ++ es.drop (off + (len + ns.length)))))] (b :: x.viewIds) else .none
              | .seq true sz' n f, nv => bif vfree nv && Nat.ble (off + cm) n then
                  k (.sl sz b off (len + nv.len) cm) [(b, .seq true sz' n fun i => bif Nat.blt i (off + len) then f i else bif Nat.blt i (off + (len + nv.len)) then nv.at (i - (off + len)) else f i)] (b :: x.viewIds) else .none
              | _, _ => .none
            else match h b with
              | .arr true _ _ | .seq true _ _ _ =>
                bif vfree new || (match viewApp old new with | .list _ => true | .fn _ _ => false) then
                  bif (match viewApp old new with | .list _ => true | .fn _ _ => vfree old) then
                    k (.sl te.size nx 0 (old.len + new.len) (old.len + new.len)) [(b, .dead), (nx, blk te.size (viewApp old new))] (b :: (s.viewIds ++ x.viewIds))
                  else .none
                else .none
              | .none => bif Nat.beq len 0 then k (.sl te.size nx 0 new.len new.len) [(nx, blk te.size new)] (b :: x.viewIds) else .none
              | _ => .none
          | _ => .none
        else .none
      else .none
    | _ => .none
  | .copy, [d, x], t :: _ =>
    onK (tt t) fun ti => match ti.desc, d with
    | .slice e, .sl sz b off len _ => onK (tt e) fun te => bif Nat.beq sz te.size && Nat.ble 1 te.size then onK (x.view h te.size) fun new =>
      match h b, new with
      | .arr true sz' es, .list ns => bif Nat.ble (off + len) es.length then
          k (.int .i64 (min ns.length len : Nat)) [(b, .arr true sz' (es.take off ++ (ns.take (min ns.length len) ++ es.drop (off + min ns.length len))))] (b :: x.viewIds) else .none
      | .seq true sz' m f, nv => bif vfree nv && Nat.ble (off + len) m then
          k (.int .i64 (min nv.len len : Nat)) [(b, .seq true sz' m fun i => bif Nat.blt i off then f i else bif Nat.blt i (off + min nv.len len) then nv.at (i - off) else f i)] (b :: x.viewIds) else .none
      | _, _ => .none
      else .none
    | _, _ => .none
  | .clear, [x], [t] =>
    onK (tt t) fun ti => match ti.desc, x with
    | .slice _, .nils => k (.tup []) [] []
    | .slice e, .sl sz b off len _ => onK (tt e) fun te => onK te.zero fun z =>
      bif Nat.beq len 0 then k (.tup []) [] [] else
      bif Nat.beq sz te.size && (Nat.beq z.length te.size && Nat.ble 1 te.size) then
      match h b with
      | .arr true sz' es => bif Nat.ble (off + len) es.length then
          k (.tup []) [(b, .arr true sz' (es.take off ++ (List.replicate len z ++ es.drop (off + len))))] [b] else .none
      | .seq true sz' m f => bif Nat.ble (off + len) m then
          k (.tup []) [(b, .seq true sz' m fun i => bif Nat.blt i off then f i else bif Nat.blt i (off + len) then z else f i)] [b] else .none
      | _ => .none
      else .none
    | _, _ => .none
  | .complex, [.flt kd a, .flt kd' b], _ => bif fkindEq kd kd' then k (.cplx kd a b) [] [] else .none
  | .real, [.cplx kd a _], _ => k (.flt kd a) [] []
  | .imag, [.cplx kd _ b], _ => k (.flt kd b) [] []
  | .min, [.int kd a, .int _ b], _ => k (.int kd (bif decide (b < a) then b else a)) [] []
  | .max, [.int kd a, .int _ b], _ => k (.int kd (bif decide (a < b) then b else a)) [] []
  | _, _, _ => .none

structure Rec where
  i : Nat
  rd : List Nat
  wr : List Nat
  all : Bool

def bindsAny (e : Edge) : Bool :=
  match e.ground with
  | .textOnly _ | .gcOnly _ => false
  | _ => true

/-- ancestors of each operation, as bits -/
def ancsGo : List Oper → List Nat → List Nat
  | [], acc => acc
  | o :: r, acc =>
    ancsGo r (acc ++ [o.after.toList.foldl (fun s e => bif bindsAny e then s ||| 2 ^ e.on ||| acc.getD e.on 0 else s) 0])

def meets (a b : List Nat) : Bool := a.any fun x => b.any fun y => Nat.beq x y

/-- the later one (i) stands behind the earlier one (j) -/
def behind (anc : List Nat) (i j : Nat) : Bool := Nat.testBit (anc.getD i 0) j

/-- do two operations (r the later) that touch one block stand in an order? -/
def quiet2 (anc : List Nat) (r s : Rec) : Bool :=
  behind anc r.i s.i || !(r.all || (s.all || (meets r.wr (s.rd ++ s.wr) || meets r.rd s.wr)))

/-- the same of all pairs; the later ones stand ahead -/
def quietAll (anc : List Nat) : List Rec → Bool
  | [] => true
  | r :: l => (l.all fun s => quiet2 anc r s) && quietAll anc l

inductive AX where
  | normal | exit (id : Nat) | goto (l : Nat) | ret

def guardV (ops : Array Oper) (fr : Nat → AV) (o : Oper) : Option Bool :=
  match o.guard with
  | .none => some true
  | some (j, want) => match (ops[j]?).bind (·.dst) with
    | some d => match fr d with
      | .bool b => some (boolEq b want)
      | .tup _ => some false
      | _ => .none
    | .none => .none

/- snapshots: what a value reads as, its blocks' contents written out as trees; and the blocks that were read -/
mutual
def snap : Nat → (Nat → BS) → AV → Option (AV × List Nat)
  | 0, _, _ => .none
  | d + 1, h, v => match v with
    | .ptr b i j => match h b with
      | .arr _ _ es => match es[i]? with
        | some cs => match snapL d h cs with
          | some (cs, l) => some (.tp cs j, b :: l)
          | .none => .none
        | .none => .none
      | .seq _ _ n f => bif Nat.blt i n then some (.tp (f i) j, [b]) else .none
      | _ => .none
    | .sl sz b off len _ =>
      bif Nat.beq len 0 then some (.trl sz [], []) else
      match h b with
      | .arr _ _ es => bif Nat.ble (off + len) es.length then match snapLL d h ((es.drop off).take len) with
          | some (es, l) => some (.trl sz es, b :: l)
          | .none => .none
        else .none
      | .seq _ _ n f => bif Nat.beq off 0 && Nat.beq len n then some (.tr sz n f, [b]) else
          bif Nat.ble (off + len) n then some (.tr sz len fun i => bif Nat.blt i len then f (off + i) else f n, [b]) else .none
      | _ => .none
    | .agg cs => match snapL d h cs with
      | some (cs, l) => some (.agg cs, l)
      | .none => .none
    | .tup cs => match snapL d h cs with
      | some (cs, l) => some (.tup cs, l)
      | .none => .none
    | .fn f a c => match snapL d h a, snapL d h c with
      | some (a, l), some (c, l') => some (.fn f a c, l ++ l')
      | _, _ => .none
    | .mp _ => .none
    | v => some (v, [])
def snapL : Nat → (Nat → BS) → List AV → Option (List AV × List Nat)
  | 0, _, _ => .none
  | _ + 1, _, [] => some ([], [])
  | d + 1, h, v :: r => match snap d h v, snapL d h r with
    | some (v, l), some (r, l') => some (v :: r, l ++ l')
    | _, _ => .none
def snapLL : Nat → (Nat → BS) → List (List AV) → Option (List (List AV) × List Nat)
  | 0, _, _ => .none
  | _ + 1, _, [] => some ([], [])
  | d + 1, h, v :: r => match snapL d h v, snapLL d h r with
    | some (v, l), some (r, l') => some (v :: r, l ++ l')
    | _, _ => .none
end

mutual
def roots : AV → List Nat
  | .ptr b _ _ => [b]
  | .sl _ b _ _ _ => [b]
  | .mp b => [b]
  | .agg cs | .tup cs => rootsL cs
  | .fn _ a c => rootsL a ++ rootsL c
  | _ => []
def rootsL : List AV → List Nat
  | [] => []
  | v :: r => roots v ++ rootsL r
end

def memb (b : Nat) : List Nat → Bool
  | [] => false
  | x :: r => bif Nat.beq x b then true else memb b r

def kids : BS → List Nat
  | .arr _ _ es => es.flatMap rootsL
  | .map _ es => es.flatMap fun (a, b) => roots a ++ roots b
  | _ => []

/-- depth first, in order of first sight -/
def reach : Nat → (Nat → BS) → List Nat → List Nat → List Nat
  | 0, _, _, acc => acc
  | _ + 1, _, [], acc => acc
  | d + 1, h, b :: r, acc => bif memb b acc then reach d h r acc else reach d h (kids (h b) ++ r) (acc ++ [b])

def indexOf (b : Nat) : List Nat → Nat → Option Nat
  | [], _ => .none
  | x :: r, i => bif Nat.beq x b then some i else indexOf b r (i + 1)

mutual
def ren (ρ : Nat → Option Nat) : AV → AV
  | .ptr b i j => match ρ b with
    | some b' => .ptr b' i j
    | .none => .undef
  | .sl sz b o len cm => match ρ b with
    | some b' => .sl sz b' o len cm
    | .none => .undef
  | .mp b => match ρ b with
    | some b' => .mp b'
    | .none => .undef
  | .agg cs => .agg (renL ρ cs)
  | .tup cs => .tup (renL ρ cs)
  | .fn f a c => .fn f (renL ρ a) (renL ρ c)
  | v => v
def renL (ρ : Nat → Option Nat) : List AV → List AV
  | [] => []
  | v :: r => ren ρ v :: renL ρ r
end

def renB (ρ : Nat → Option Nat) : BS → BS
  | .arr m sz es => .arr m sz (es.map (renL ρ))
  | .map m es => bif es.all (fun p => refFree p.1) then .map m (es.map fun p => (p.1, ren ρ p.2)) else .dead
  | x => x

mutual
def hasTree : AV → Bool
  | .tr .. | .trl _ (_ :: _) | .tp .. => true
  | .agg cs | .tup cs => hasTreeL cs
  | .fn _ a c => hasTreeL a || hasTreeL c
  | _ => false
def hasTreeL : List AV → Bool
  | [] => false
  | v :: r => hasTree v || hasTreeL r
end

/-- may a block hold trees, or may it not be written? -/
def blkHasTree : BS → Bool
  | .arr m _ es => !m || es.any hasTreeL
  | .seq m _ n f => !m || (List.range n).any fun i => hasTreeL (f i)
  | .map m es => !m || es.any fun p => hasTree p.1 || hasTree p.2
  | .iter .. => true
  | _ => false

def frozen : BS → BS
  | .arr _ sz es => .arr false sz es
  | .seq _ sz n f => .seq false sz n f
  | .map _ es => .map false es
  | .iter _ es st => .iter false es st
  | x => x

/-- what is known of a call: a guard, and the answer, told of a thing of its own -/
structure Answer where
  X : Type
  g : Bool
  a : X
  r : X → AV × Heap

/-- an application that stands still -/
def appX {X : Type} {α : Type} (k : X → α) (a : X) : α := k a

structure Env where
  tt : TT
  code : Nat → Option Func
  mode : Nat → Nat
  live : Nat → Nat → List Nat
  orc : Nat → List AV → Option Answer

def depth : Nat := 400
def big : Nat := 100000

abbrev CallK (R : Type) := Nat → List AV → Heap → (AV → Heap → Option R) → Option R

/-- at a loop's head: only the live slots stay, and what they lead to, numbered anew; the blocks below base stay as they are -/
def norm (base : Nat) (live : List Nat) (s : St) : St :=
  let ids := reach big (hget s.hp) ((s.hp.take base).flatMap kids ++ rootsL (live.map fun t => fget s.fr t)) (List.range base)
  { fr := live.map fun t => (t, ren (fun b => indexOf b ids 0) (fget s.fr t)), hp := ids.map fun b => renB (fun b => indexOf b ids 0) (hget s.hp b) }

/-- what an effect does to a heap -/
inductive Eff where
  | wr (l : Wr)
  | full (h : Heap)

abbrev OperK (R : Type) := AV → Eff → List Nat → Option R

def below (n b : Nat) : Option Nat := bif Nat.blt b n then some b else .none

def shift (nx n b : Nat) : Option Nat := bif Nat.blt b n then some (nx + b) else .none

def imports (nx : Nat) : Nat → List BS → Wr
  | _, [] => []
  | i, x :: r => (nx + i, x) :: imports nx (i + 1) r

def finishCall (m : Nat) (h : Nat → BS) (nx : Nat) (rch : List Nat) (r : AV) (bs : Heap) (k : OperK R) : Option R :=
  let fz : Wr := bif hasTree r || bs.any blkHasTree then rch.map fun b => (b, frozen (h b)) else []
  match m with
  | 1 => k (ren (shift nx bs.length) r) (.wr (fz ++ imports nx 0 (bs.map (renB (shift nx bs.length))))) rch
  | _ => match snap depth (hget bs) r with
    | some (r, _) => k r (.wr fz) rch
    | .none => .none

/-- the blocks of a list, by their own numbers -/
def insL (l : List Nat) (b : Nat) : Option Nat := bif memb b l then some b else .none

/-- a heap without the blocks that are not on a list -/
def keep (l : List Nat) : Nat → Heap → Heap
  | _, [] => []
  | i, x :: r => (bif memb i l then renB (insL l) x else .none) :: keep l (i + 1) r

/-- modes of a call: 4: on what the arguments lead to, in place; 2: on the heap as it is; 3: the same, but nothing that was there is written, and the answer leads nowhere; 1: on a heap of its own, whose blocks then are the caller's; else: on a heap of its own, the answer a tree -/
def callK (env : Env) (run : CallK R) (hp : Heap) (nx : Nat) (f : Nat) (args : List AV) (k : OperK R) : Option R :=
  match env.mode f with
  | 2 => run f args hp fun r h' => k r (.full h') (List.range hp.length)
  | 3 => run f (renL (below hp.length) args) (hp.map fun x => frozen (renB (below hp.length) x)) fun r _ => bif refFree r && !hasTree r then k r (.wr []) (List.range hp.length) else .none
  | 4 =>
    let ids := (reach big (hget hp) (rootsL args) []).filter fun b => Nat.blt b hp.length
    run f (renL (insL ids) args) (keep ids 0 hp) fun r h' =>
      let S := ids ++ (List.range (h'.length - hp.length)).map fun i => hp.length + i
      k (ren (insL S) r) (.wr (S.map fun b => (b, renB (insL S) (hget h' b)))) ids
  | m =>
    match snapL depth (hget hp) args with
    | .none => .none
    | some (args', rch) =>
      match env.orc f args' with
      | some A => bif A.g then appX (fun x => finishCall m (hget hp) nx rch (A.r x).1 (A.r x).2 k) A.a else .none
      | .none => run f args' [] fun r h' =>
        let ids := reach big (hget h') (roots r) []
        finishCall m (hget hp) nx rch (ren (fun b => indexOf b ids 0) r) (ids.map fun b => renB (fun b => indexOf b ids 0) (hget h' b)) k

def operK (env : Env) (run : CallK R) (fr : Nat → AV) (hp : Heap) (nx : Nat) (o : Oper) (k : OperK R) : Option R :=
  match o.op with
  | .call c =>
    match c.callee with
    | .builtin b => abuiltK env.tt (hget hp) nx b c.argTypes.toList (c.args.toList.map (evalO fr)) fun v wr rd => k v (.wr wr) rd
    | .invoke _ _ => .none
    | .value f => match evalO fr f with
      | .fn (.func g) first cap => callK env run hp nx g (first ++ (c.args.toList.map (evalO fr) ++ cap)) k
      | _ => .none
  | op => aopK env.tt (evalO fr) (hget hp) nx op fun v wr rd => k v (.wr wr) rd

def Eff.apply (h : Heap) : Eff → Heap
  | .wr l => hputs h l
  | .full h' => h'

def recOf (i : Nat) (e : Eff) (rd : List Nat) (recs : List Rec) : List Rec :=
  match e with
  | .wr [] => match rd with
    | [] => recs
    | rd => { i, rd, wr := [], all := false } :: recs
  | .wr l => { i, rd, wr := l.map (·.1), all := false } :: recs
  | .full _ => { i, rd, wr := [], all := true } :: recs

def fput (fr : Fr) (d : Option Nat) (v : AV) : Fr :=
  match d with
  | some d => (d, v) :: fr
  | .none => fr

def dstOk (nt : Nat) (d : Option Nat) : Bool :=
  match d with
  | some d => Nat.blt d nt
  | .none => true

/-- is an operation wanted? what was asked stands decided from then on -/
def guardK (ops : Array Oper) (o : Oper) (fr : Fr) (k : Bool → Fr → Option R) : Option R :=
  match o.guard with
  | .none => k true fr
  | some (j, want) => match (ops[j]?).bind (·.dst) with
    | some d => match fget fr d with
      | .bool b => bif b then k want ((d, .bool true) :: fr) else k (!want) ((d, .bool false) :: fr)
      | .tup _ => k false fr
      | _ => .none
    | .none => .none

def opsK (env : Env) (run : CallK R) (nt : Nat) (ops : Array Oper) (draw : Bool) : List Oper → Nat → List Rec → St → (St → Option R) → Option R
  | [], _, recs, s, k => bif draw then (bif quietAll (ancsGo ops.toList []) recs then k s else .none) else k s
  | o :: rest, i, recs, s, k =>
    bif dstOk nt o.dst then
      guardK ops o s.fr fun g fr => match g with
      | true =>
        operK env run (fget fr) s.hp s.hp.length o fun v e rd =>
          opsK env run nt ops draw rest (i + 1) (bif draw then recOf i e rd recs else recs)
            { fr := fput fr o.dst v, hp := e.apply s.hp } k
      | false => opsK env run nt ops draw rest (i + 1) recs { fr := fput fr o.dst (.tup []), hp := s.hp } k
    else .none

abbrev CodeK (R : Type) := (AX → St → Option R) → St → Option R

def loopK (nrm : St → St) (body : CodeK R) : Nat → CodeK R
  | 0, _, _ => .none
  | n + 1, k, s => body (fun e s' => match e with
    | .normal => loopK nrm body n k (nrm s')
    | e => k e s') s

def evC1 (env : Env) (run : CallK R) (fn nt n base : Nat) (jump : Code → Nat → CodeK R) : (cur : Nat) → Code → CodeK R
  | _, .skip, k, s => k .normal s
  | _, .region _ ops draw, k, s => opsK env run nt ops draw ops.toList 0 [] s fun s' => k .normal s'
  | cur, .seq a b, k, s => evC1 env run fn nt n base jump cur a (fun e s' => match e with
    | .normal => evC1 env run fn nt n base jump cur b k s'
    | e => k e s') s
  | cur, .cond c a b, k, s => match evalO (fget s.fr) c with
    | .bool c => bif c then evC1 env run fn nt n base jump cur a k s else evC1 env run fn nt n base jump cur b k s
    | _ => .none
  | _, .block id a, k, s => evC1 env run fn nt n base jump id a (fun e s' => match e with
    | .exit id' => bif Nat.beq id' id then k .normal s' else k (.exit id') s'
    | e => k e s') s
  | cur, .loop a, k, s => loopK (norm base (env.live fn cur)) (evC1 env run fn nt n base jump cur a) n k (norm base (env.live fn cur) s)
  | _, .exit id, k, s => k (.exit id) s
  | _, .label _, k, s => k .normal s
  | _, .goto l, k, s => k (.goto l) s
  | cur, .scope a, k, s => evC1 env run fn nt n base jump cur a (fun e s' => match e with
    | .goto l => match findLabel a l with
      | some _ => jump a l k (norm base (env.live fn (1000 + l)) s')
      | .none => k (.goto l) s'
    | e => k e s') s
  | _, .ret, k, s => k .ret s
  | _, _, _, _ => .none

/-- a scope's body from its label l on -/
def jumpK (env : Env) (run : CallK R) (fn nt n base : Nat) : Nat → Code → Nat → CodeK R
  | 0, _, _, _, _ => .none
  | m + 1, a, l, k, s =>
    match findLabel a l with
    | .none => .none
    | some rest => evC1 env run fn nt n base (jumpK env run fn nt n base m) 0 rest (fun e s' => match e with
      | .goto l' => match findLabel a l' with
        | some _ => jumpK env run fn nt n base m a l' k (norm base (env.live fn (1000 + l')) s')
        | .none => k (.goto l') s'
      | e => k e s') s

def evC (env : Env) (run : CallK R) (fn nt n base : Nat) : (cur : Nat) → Code → CodeK R :=
  evC1 env run fn nt n base (jumpK env run fn nt n base n)

def mkFrame : Nat → List AV → Fr
  | _, [] => []
  | i, v :: r => (i, v) :: mkFrame (i + 1) r

def resultsK (tt : TT) (s : St) : List ResultVar → (List AV → Option R) → Option R
  | [], k => k []
  | .tmp t :: r, k => resultsK tt s r fun vs => k (fget s.fr t :: vs)
  | .cell a t :: r, k => onK (tt t) fun ti => match fget s.fr a with
    | .ptr b i j => elemK (hget s.hp b) i fun cs => partK ti cs j fun v => resultsK tt s r fun vs => k (v :: vs)
    | _ => .none

def tupled : List AV → AV
  | [v] => v
  | vs => .tup vs

def runBody (env : Env) (run : CallK R) (n : Nat) : CallK R := fun f args hp k =>
  match env.code f with
  | some fn => match fn.body with
    | some c =>
      evC env run f fn.ntmps n hp.length 0 c (fun e s => match e with
        | .normal | .ret => resultsK env.tt s fn.results.toList fun vs => k (tupled vs) s.hp
        | _ => .none) { fr := mkFrame 0 args, hp := hp }
    | .none => .none
  | .none => .none

def evFn (env : Env) : Nat → CallK R
  | 0 => fun _ _ _ _ => .none
  | n + 1 => runBody env (evFn env n) n

/-- a call on a heap of its own, its answer as it is, with the blocks that it leads to -/
def topCall (env : Env) (n f : Nat) (args : List AV) : Option (AV × Heap) :=
  evFn env n f args [] fun r h' =>
    let ids := reach big (hget h') (roots r) []
    some (ren (fun b => indexOf b ids 0) r, ids.map fun b => renB (fun b => indexOf b ids 0) (hget h' b))

end Go.AM
