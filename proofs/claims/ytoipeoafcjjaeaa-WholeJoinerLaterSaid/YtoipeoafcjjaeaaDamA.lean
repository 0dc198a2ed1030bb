/- A machine of plain data for the Go code of this seat: values, heap, operations and the executor; no statement of the seat is proved here. -/
import GoSem.Dispatch
import Derived.Calls
import Derived.Laws.IdiomCopy
import Derived.Below
import Derived.Laws.Sem
import Derived.Laws.Cells
import Derived.ChangeKeysEq
import Derived.Laws.MakeOwn
namespace Go.Dam

/-! ### Values -/
inductive AV where
  | bool (b : Bool)
  | int (k : IntKind) (n : Int)
  | str (s : ByteArray)
  | ptr (b : Nat) (p : List Nat) (t : TypeId)
  | nilp
  | slice (b : Nat) (p : List Nat) (off len : Nat) (e : TypeId)
  | nils
  | map (b : Nat)
  | nilm
  | fn (f : FuncId) (first caps : List AV)
  | nilf
  | agg (t : TypeId) (xs : List AV)
  | tup (xs : List AV)
  deriving Inhabited

mutual
def AV.beq : AV → AV → Bool
  | .bool a, .bool b => a == b
  | .int k a, .int k' b => k == k' && a == b
  | .str a, .str b => a.data == b.data
  | .ptr b p t, .ptr b' p' t' => b == b' && p == p' && t == t'
  | .nilp, .nilp => true
  | .slice b p o l e, .slice b' p' o' l' e' => b == b' && p == p' && o == o' && l == l' && e == e'
  | .nils, .nils => true
  | .map b, .map b' => b == b'
  | .nilm, .nilm => true
  | .fn f x c, .fn f' x' c' => f == f' && AV.beqs x x' && AV.beqs c c'
  | .nilf, .nilf => true
  | .agg t xs, .agg t' ys => t == t' && AV.beqs xs ys
  | .tup xs, .tup ys => AV.beqs xs ys
  | _, _ => false
def AV.beqs : List AV → List AV → Bool
  | [], [] => true
  | x :: xs, y :: ys => AV.beq x y && AV.beqs xs ys
  | _, _ => false
end

def AV.isAgg : AV → Bool
  | .agg _ _ => true
  | _ => false
def AV.isTup : AV → Bool
  | .tup _ => true
  | _ => false

abbrev undefA : AV := .tup []
/-- what a value is, as far as its type says -/
inductive Kd where
  | bool | int (k : IntKind) | str | ptr | slice | map | fn
  | agg (t : TypeId)
  deriving Inhabited
def Kd.ok : Kd → AV → Bool
  | .bool, .bool _ => true
  | .int k, .int k' _ => k == k'
  | .str, .str _ => true
  | .ptr, .ptr .. | .ptr, .nilp => true
  | .slice, .slice .. | .slice, .nils => true
  | .map, .map _ | .map, .nilm => true
  | .fn, .fn .. | .fn, .nilf => true
  | .agg t, .agg t' _ => t == t'
  | _, _ => false
def AV.kd : AV → Option Kd
  | .bool _ => some .bool
  | .int k _ => some (.int k)
  | .str _ => some .str
  | .ptr .. | .nilp => some .ptr
  | .slice .. | .nils => some .slice
  | .map _ | .nilm => some .map
  | .fn .. | .nilf => some .fn
  | .agg t _ => some (.agg t)
  | .tup _ => none
def sameKind (old v : AV) : Bool := match old.kd with
  | some k => k.ok v
  | none => false
/-- what a closure may hold -/
def AV.simple : AV → Bool
  | .fn .. | .agg .. | .tup _ => false
  | _ => true

/-! ### Paths: the innermost index first -/
def at? : List Nat → AV → Option AV
  | [], v => some v
  | i :: p, v => match at? p v with
    | some (.agg _ xs) => xs[i]?
    | _ => none

def put? : List Nat → AV → AV → Option AV
  | [], _, x => some x
  | i :: p, v, x => match at? p v with
    | some (.agg t xs) => if i < xs.length then put? p v (.agg t (xs.set i x)) else none
    | _ => none

/-! ### The heap -/
inductive BK where
  | ro | fixed | grow
  deriving DecidableEq, Inhabited

inductive Blk where
  | row (k : BK) (e : TypeId) (xs : List AV)
  | map (es : List (AV × AV))
  deriving Inhabited

inductive Tr where
  | nil
  | leaf (l : List (Nat × Option Blk))
  | node (l r : Tr)
  deriving Inhabited

def alGet : List (Nat × Option Blk) → Nat → Option Blk
  | [], _ => none
  | (i, v) :: l, k => if k = i then v else alGet l k
def alSet : List (Nat × Option Blk) → Nat → Option Blk → List (Nat × Option Blk)
  | [], k, v => [(k, v)]
  | (i, u) :: l, k, v => if k = i then (i, v) :: l else (i, u) :: alSet l k v

def Tr.get : Nat → Nat → Nat → Tr → Option Blk
  | 0, _, k, .leaf l => alGet l k
  | d + 1, s, k, .node l r => if s % 2 = 0 then Tr.get d (s / 2) k l else Tr.get d (s / 2) k r
  | _, _, _, _ => none
def Tr.set : Nat → Nat → Nat → Option Blk → Tr → Tr
  | 0, _, k, v, .leaf l => .leaf (alSet l k v)
  | 0, _, k, v, _ => .leaf [(k, v)]
  | d + 1, s, k, v, .node l r => if s % 2 = 0 then .node (Tr.set d (s / 2) k v l) r else .node l (Tr.set d (s / 2) k v r)
  | d + 1, s, k, v, _ => if s % 2 = 0 then .node (Tr.set d (s / 2) k v .nil) .nil else .node .nil (Tr.set d (s / 2) k v .nil)

structure H where
  m : Tr
  next : Nat
  deriving Inhabited

def depth : Nat := 10
def H.get (h : H) (b : Nat) : Option Blk := Tr.get depth b b h.m
def H.put (h : H) (b : Nat) (x : Blk) : H := { h with m := Tr.set depth b b (some x) h.m }
def H.del (h : H) (b : Nat) : H := { h with m := Tr.set depth b b none h.m }
/-- a new block under a number: the next one, or one that was kept free -/
def H.newAt (h : H) (b : Nat) (x : Blk) : H := { m := Tr.set depth b b (some x) h.m, next := if b = h.next then h.next + 1 else h.next }
def H.new (h : H) (x : Blk) : H := h.newAt h.next x
def H.bump (h : H) (n : Nat) : H := { h with next := h.next + n }

def H.read (h : H) (b : Nat) (p : List Nat) : Option AV :=
  match h.get b with
  | some (.row _ e xs) => at? p (.agg e xs)
  | _ => none
def H.write (h : H) (b : Nat) (p : List Nat) (x : AV) : Option H :=
  match h.get b with
  | some (.row k e xs) =>
    if k = .ro then none else
    match put? p (.agg e xs) x with
    | some (.agg _ ys) => some (h.put b (.row k e ys))
    | _ => none
  | _ => none

/-- the elements of a slice -/
def H.elems (h : H) (b : Nat) (p : List Nat) (off len : Nat) : Option (List AV) :=
  match h.read b p with
  | some (.agg _ xs) => if off + len ≤ xs.length then some ((xs.drop off).take len) else none
  | _ => none
def H.putElems (h : H) (b : Nat) (p : List Nat) (off : Nat) (ys : List AV) : Option H :=
  match h.read b p with
  | some (.agg t xs) => if off + ys.length ≤ xs.length then h.write b p (.agg t (xs.take off ++ ys ++ xs.drop (off + ys.length))) else none
  | _ => none

/-! ### Types, as far as the machine asks -/
inductive ATy where
  | prim (z : AV)
  | struct (fs : List TypeId)
  | array (n : Nat) (e : TypeId)
  | other
  deriving Inhabited

def zeroOf (te : TypeId → ATy) : Nat → TypeId → AV
  | 0, _ => .tup []
  | k + 1, t => match te t with
    | .prim z => z
    | .struct fs => .agg t (fs.map (zeroOf te k))
    | .array n e => .agg t (List.replicate n (zeroOf te k e))
    | .other => .tup []

/-! ### Code -/
inductive Opnd where
  | t (i : Nat)
  | c (v : AV)
  deriving Inhabited

inductive AOp where
  | move (x : Opnd)
  | pick (c a b : Opnd)
  | alloc (e : TypeId)
  | box (e : TypeId) (k : Kd) (x : Opnd)
  | build (t : TypeId) (parts : List (Nat × Opnd))
  | buildSlice (e : TypeId) (n : Nat) (parts : List (Nat × Opnd))
  | load (t : TypeId) (x : Opnd)
  | store (t : TypeId) (k : Kd) (a x : Opnd)
  | nilCheck (x : Opnd)
  | bin (op : BinOp) (x y : Opnd)
  | eqv (neg : Bool) (k : Kd) (x y : Opnd)
  | un (op : UnOp) (x : Opnd)
  | conv (k : IntKind) (x : Opnd)
  | sameS (x : Opnd)
  | sameB (x : Opnd)
  | toStr (x : Opnd)
  | toBytes (e : TypeId) (x : Opnd)
  | mkFn (f : FuncId) (first caps : List Opnd)
  | mkSlice (e : TypeId) (lim : Nat) (len cap : Opnd)
  | sliceA (n : Nat) (t e : TypeId) (x : Opnd) (lo hi : Option Opnd)
  | sliceS (e : TypeId) (x : Opnd) (lo hi : Option Opnd)
  | sliceZ (e : TypeId) (x : Opnd)
  | sliceT (x : Opnd) (lo hi : Option Opnd)
  | fieldAddr (s : TypeId) (f : Nat) (t : TypeId) (x : Opnd)
  | field (s : TypeId) (f : Nat) (x : Opnd)
  | idxA (n : Nat) (a e : TypeId) (x i : Opnd)
  | idxS (e : TypeId) (x i : Opnd)
  | idxV (n : Nat) (a : TypeId) (x i : Opnd)
  | idxT (x i : Opnd)
  | extract (i : Nat) (x : Opnd)
  | lenS (x : Opnd)
  | lenT (x : Opnd)
  | lenA (n : Nat)
  | minmax (mx : Bool) (x y : Opnd)
  | append (e : TypeId) (s : Bool) (lim : Nat) (x y : Opnd)
  | copy (e : TypeId) (s : Bool) (x y : Opnd)
  | call (f : FuncId) (args : List Opnd)
  | callv (x : Opnd) (args : List Opnd)
  deriving Inhabited

structure AOper where
  dst : Option Nat
  op : AOp
  guard : Option (Option Nat × Bool)
  deriving Inhabited

inductive ACode where
  | skip
  | reg (ops : List AOper)
  | draw (ops : List (AOper × List Nat))
  | seq (a b : ACode)
  | cond (c : Opnd) (a b : ACode)
  | block (id : Nat) (a : ACode)
  | loop (a : ACode)
  | exit (id : Nat)
  | scope (a : ACode)
  | ret
  deriving Inhabited

inductive ARes where
  | tmp (t : Nat)
  | cell (t : Nat) (ty : TypeId)
  deriving Inhabited

structure AFunc where
  results : List ARes
  body : ACode
  deriving Inhabited

structure Tbl where
  te : TypeId → ATy
  /-- what is known of a function without running it: it gives back plain values, and leaves all that was there alone -/
  ext : FuncId → List AV → Option (List AV)
  fn : FuncId → Option AFunc

/-! ### Operations -/
abbrev Env := Nat → AV
def Env.set (r : Env) (d : Option Nat) (v : AV) : Env :=
  match d with
  | none => r
  | some t => fun i => if i = t then v else r i
def Opnd.ev (r : Env) : Opnd → AV
  | .t i => r i
  | .c v => v

def asI : AV → Option Int
  | .int _ n => some n
  | _ => none

/-- two numbers -/
def binI (op : BinOp) (k : IntKind) (a b : Int) : Option AV :=
  match op with
  | .add => some (.int k (k.wrap (a + b)))
  | .sub => some (.int k (k.wrap (a - b)))
  | .mul => some (.int k (k.wrap (a * b)))
  | .quo => if b = 0 then none else some (.int k (k.wrap (a.tdiv b)))
  | .rem => if b = 0 then none else some (.int k (a.tmod b))
  | .and => some (.int k (k.wrap (BitVec.ofInt k.bits a &&& BitVec.ofInt k.bits b).toNat))
  | .or => some (.int k (k.wrap (BitVec.ofInt k.bits a ||| BitVec.ofInt k.bits b).toNat))
  | .xor => some (.int k (k.wrap (BitVec.ofInt k.bits a ^^^ BitVec.ofInt k.bits b).toNat))
  | .andNot => some (.int k (k.wrap (BitVec.ofInt k.bits a &&& ~~~BitVec.ofInt k.bits b).toNat))
  | .eql => some (.bool (a == b))
  | .neq => some (.bool (a != b))
  | .lss => some (.bool (a < b))
  | .leq => some (.bool (a ≤ b))
  | .gtr => some (.bool (a > b))
  | .geq => some (.bool (a ≥ b))
  | _ => none
def shI (op : BinOp) (k : IntKind) (a b : Int) : Option AV :=
  if b < 0 then none else
  match op with
  | .shl => some (.int k (k.wrap (a * 2 ^ (min b.toNat k.bits))))
  | .shr => some (.int k (a.fdiv (2 ^ (min b.toNat k.bits))))
  | _ => none
def strLim : Nat := 2 ^ 62
def binS (op : BinOp) (a b : ByteArray) : Option AV :=
  match op with
  | .add => if a.size + b.size ≤ strLim then some (.str (a ++ b)) else none
  | .eql => some (.bool (a.toList == b.toList))
  | .neq => some (.bool !(a.toList == b.toList))
  | .lss => some (.bool (Op.bytesLess a.toList b.toList))
  | .leq => some (.bool (Op.bytesLess a.toList b.toList || a.toList == b.toList))
  | .gtr => some (.bool !(Op.bytesLess a.toList b.toList || a.toList == b.toList))
  | .geq => some (.bool !(Op.bytesLess a.toList b.toList))
  | _ => none
def binV (op : BinOp) (x y : AV) : Option AV :=
  match x, y with
  | .int k a, .int k' b =>
    match op with
    | .shl | .shr => shI op k a b
    | _ => if k = k' then binI op k a b else none
  | .str a, .str b => binS op a b
  | _, _ => none

/-- '==' on other things: bools; something against nil; structs and arrays of one type -/
def eqV (k : Kd) (x y : AV) : Option Bool :=
  match k, x, y with
  | .bool, .bool a, .bool b => some (a == b)
  | .ptr, .nilp, .nilp | .slice, .nils, .nils | .fn, .nilf, .nilf => some true
  | .ptr, .nilp, .ptr .. | .ptr, .ptr .., .nilp | .slice, .nils, .slice .. | .slice, .slice .., .nils | .fn, .nilf, .fn .. | .fn, .fn .., .nilf => some false
  | .agg t, .agg t1 xs, .agg t2 ys => if t1 = t ∧ t2 = t then some (AV.beqs xs ys) else none
  | _, _, _ => none

def unV (op : UnOp) (x : AV) : Option AV :=
  match op, x with
  | .neg, .int k n => some (.int k (k.wrap (0 - n)))
  | .xor, .int k n => some (.int k (k.wrap (BitVec.ofInt k.bits (if k.signed then -1 else k.max) ^^^ BitVec.ofInt k.bits n).toNat))
  | .not, .bool b => some (.bool !b)
  | _, _ => none

def fillA : List AV → List (Nat × AV) → Option (List AV)
  | xs, [] => some xs
  | xs, (i, v) :: r => match xs[i]? with
    | some old => if sameKind old v then fillA (xs.set i v) r else none
    | none => none

def bound (r : Env) (o : Option Opnd) (dflt : Nat) : Option Nat :=
  match o with
  | none => some dflt
  | some x => match x.ev r with
    | .int _ n => if 0 ≤ n then some n.toNat else none
    | _ => none

def bytesOf : List AV → Option (List UInt8)
  | [] => some []
  | .int .u8 n :: l => match bytesOf l with
    | some r => some (UInt8.ofNat n.toNat :: r)
    | none => none
  | _ :: _ => none
def ofBytes (s : ByteArray) : List AV := s.data.toList.map fun b => .int .u8 b.toNat

/-- the values behind 'append' and 'copy' -/
def srcElems (e : TypeId) (s : Bool) (h : H) : AV → Option (List AV)
  | .nils => if s then none else some []
  | .slice b p off len e' => if s then none else if e' = e then h.elems b p off len else none
  | .str t => if s then some (ofBytes t) else none
  | _ => none

def appendV (e : TypeId) (str : Bool) (lim : Nat) (h : H) (s x : AV) : Option (AV × H) :=
  match srcElems e str h x with
  | none => none
  | some new =>
    match s with
    | .nils =>
      if new.length = 0 then some (.nils, h) else
      if new.length ≤ lim then some (.slice h.next [] 0 new.length e, h.new (.row .grow e new)) else none
    | .slice b p off len e' =>
      if e' ≠ e then none else
      if new.length = 0 then some (s, h) else
      if len + new.length ≤ lim then
        match h.get b, h.read b p, h.elems b p off len with
        | some (.row k _ _), some (.agg _ ys), some old =>
          if p ≠ [] ∨ k = .fixed then
            if off + len + new.length ≤ ys.length then
              match h.putElems b p (off + len) new with
              | some h' => some (.slice b p off (len + new.length) e, h')
              | none => none
            else some (.slice h.next [] 0 (len + new.length) e, h.new (.row .grow e (old ++ new)))
          else if k = .grow then some (.slice h.next [] 0 (len + new.length) e, (h.del b).new (.row .grow e (old ++ new)))
          else none
        | _, _, _ => none
      else none
    | _ => none

def copyV (e : TypeId) (str : Bool) (h : H) (d s : AV) : Option (AV × H) :=
  match srcElems e str h s, d with
  | some _, .nils => some (.int .i64 0, h)
  | some xs, .slice b p off len e' =>
    if e' ≠ e then none else
    if min xs.length len = 0 then some (.int .i64 0, h) else
    match h.putElems b p off (xs.take (min xs.length len)) with
    | some h' => some (.int .i64 (min xs.length len : Nat), h')
    | none => none
  | _, _ => none

def zeroFuel : Nat := 12

/-- all but calls -/
def evOp (te : TypeId → ATy) (r : Env) (h : H) (nid : Nat) : AOp → Option (AV × H)
  | .move x => some (x.ev r, h)
  | .pick c a b => match c.ev r with
    | .bool t => some (if t then a.ev r else b.ev r, h)
    | _ => none
  | .alloc e => some (.ptr nid [0] e, h.newAt nid (.row .fixed e [zeroOf te zeroFuel e]))
  | .box e k x => if k.ok (x.ev r) then some (.ptr nid [0] e, h.newAt nid (.row .fixed e [x.ev r])) else none
  | .build t parts => match zeroOf te zeroFuel t with
    | .agg t' zs => (fillA zs (parts.map fun (i, x) => (i, x.ev r))).map fun ys => (.agg t' ys, h)
    | _ => none
  | .buildSlice e n parts => (fillA (List.replicate n (zeroOf te zeroFuel e)) (parts.map fun (i, x) => (i, x.ev r))).map fun ys =>
      (.slice nid [] 0 n e, h.newAt nid (.row .fixed e ys))
  | .load t x => match x.ev r with
    | .ptr b p t' => if t' = t then (h.read b p).map fun v => (v, h) else none
    | _ => none
  | .store t k a x => match a.ev r with
    | .ptr b p t' => if t' = t ∧ k.ok (x.ev r) = true then (h.write b p (x.ev r)).map fun h' => (undefA, h') else none
    | _ => none
  | .nilCheck x => match x.ev r with
    | .ptr b p t => some (.ptr b p t, h)
    | .fn f a c => some (.fn f a c, h)
    | _ => none
  | .bin op x y => (binV op (x.ev r) (y.ev r)).map fun v => (v, h)
  | .eqv neg k x y => (eqV k (x.ev r) (y.ev r)).map fun b => (.bool (if neg then !b else b), h)
  | .un op x => (unV op (x.ev r)).map fun v => (v, h)
  | .conv k x => match x.ev r with
    | .int _ n => some (.int k (k.wrap n), h)
    | _ => none
  | .sameS x => match x.ev r with
    | .str s => some (.str s, h)
    | _ => none
  | .sameB x => match x.ev r with
    | .slice b [] o l e => match h.get b with
      | some (.row k _ xs) => if k = .ro ∨ xs.length = 0 then none else some (.slice b [] o l e, h)
      | _ => none
    | _ => none
  | .toStr x => match x.ev r with
    | .nils => some (.str .empty, h)
    | .slice b p o l _ => match h.elems b p o l with
      | some xs => (bytesOf xs).map fun l => (.str ⟨l.toArray⟩, h)
      | none => none
    | _ => none
  | .toBytes e x => match x.ev r with
    | .str s => some (.slice nid [] 0 s.size e, h.newAt nid (.row .grow e (ofBytes s)))
    | _ => none
  | .mkFn f first caps => if (first.all fun x => (x.ev r).simple) && (caps.all fun x => (x.ev r).simple) then some (.fn f (first.map (Opnd.ev r)) (caps.map (Opnd.ev r)), h) else none
  | .mkSlice e lim l c => match l.ev r, c.ev r with
    | .int _ a, .int _ b => if 0 ≤ a ∧ a ≤ b ∧ b ≤ (lim : Int) then
        some (.slice nid [] 0 a.toNat e, h.newAt nid (.row .fixed e (List.replicate b.toNat (zeroOf te zeroFuel e)))) else none
    | _, _ => none
  | .sliceA n t e x lo hi => match x.ev r, bound r lo 0, bound r hi n with
    | .ptr b p t', some l, some u => if t' = t ∧ l ≤ u ∧ u ≤ n then some (.slice b p l (u - l) e, h) else none
    | _, _, _ => none
  | .sliceS e x lo hi => match x.ev r with
    | .nils => match bound r lo 0, bound r hi 0 with
      | some 0, some 0 => some (.nils, h)
      | _, _ => none
    | .slice b p off len e' => match bound r lo 0, bound r hi len with
      | some l, some u => if e' = e ∧ l ≤ u ∧ u ≤ len then some (.slice b p (off + l) (u - l) e, h) else none
      | _, _ => none
    | _ => none
  | .sliceZ e x => match x.ev r with
    | .nils => some (.nils, h)
    | .slice .. => some (.slice nid [] 0 0 e, h.newAt nid (.row .fixed e []))
    | _ => none
  | .sliceT x lo hi => match x.ev r with
    | .str s => match bound r lo 0, bound r hi s.size with
      | some l, some u => if l ≤ u ∧ u ≤ s.size then some (.str (s.extract l u), h) else none
      | _, _ => none
    | _ => none
  | .fieldAddr s f t x => match x.ev r with
    | .ptr b p s' => if s' = s then some (.ptr b (f :: p) t, h) else none
    | _ => none
  | .field s f x => match x.ev r with
    | .agg s' xs => if s' = s then (xs[f]?).map fun v => (v, h) else none
    | _ => none
  | .idxA n a e x i => match x.ev r, i.ev r with
    | .ptr b p a', .int _ j => if a' = a ∧ 0 ≤ j ∧ j < (n : Int) then some (.ptr b (j.toNat :: p) e, h) else none
    | _, _ => none
  | .idxS e x i => match x.ev r, i.ev r with
    | .slice b p off len e', .int _ j => if e' = e ∧ 0 ≤ j ∧ j < (len : Int) then some (.ptr b ((off + j.toNat) :: p) e, h) else none
    | _, _ => none
  | .idxV n a x i => match x.ev r, i.ev r with
    | .agg a' xs, .int _ j => if a' = a ∧ 0 ≤ j ∧ j < (n : Int) then (xs[j.toNat]?).map fun v => (v, h) else none
    | _, _ => none
  | .idxT x i => match x.ev r, i.ev r with
    | .str s, .int _ j => if 0 ≤ j then (s[j.toNat]?).map fun b => (.int .u8 b.toNat, h) else none
    | _, _ => none
  | .extract i x => match x.ev r with
    | .tup xs => (xs[i]?).map fun v => (v, h)
    | _ => none
  | .lenS x => match x.ev r with
    | .nils => some (.int .i64 0, h)
    | .slice _ _ _ l _ => some (.int .i64 l, h)
    | _ => none
  | .lenT x => match x.ev r with
    | .str s => some (.int .i64 s.size, h)
    | _ => none
  | .lenA n => some (.int .i64 n, h)
  | .minmax mx x y => match x.ev r, y.ev r with
    | .int k a, .int k' b => if k = k' then some (.int k (if mx then (if b > a then b else a) else (if b < a then b else a)), h) else none
    | _, _ => none
  | .append e s lim x y => appendV e s lim h (x.ev r) (y.ev r)
  | .copy e s x y => copyV e s h (x.ev r) (y.ev r)
  | .call .. | .callv .. => none

/-! ### Running -/
inductive Item where
  | code (c : ACode)
  | inBlock (id : Nat)
  | inLoop (c : ACode)
  | ops (l : List AOper)
  | dops (b i : Nat) (l : List (AOper × List Nat)) (rd : List (Nat × AOp × Env × AV)) (ef : List (Nat × H))
  deriving Inhabited

def exitA (id : Nat) : List Item → Option (List Item)
  | .inBlock j :: k => if j = id then some k else exitA id k
  | _ :: k => exitA id k
  | [] => none

def wantedA (r : Env) : Option (Option Nat × Bool) → Bool
  | none => true
  | some (none, _) => false
  | some (some t, b) => match r t with
    | .bool x => x == b
    | _ => false

/-- is it a call, and of what? -/
def callOf (r : Env) : AOp → Option (FuncId × List AV)
  | .call f args => some (f, args.map (Opnd.ev r))
  | .callv x args => match x.ev r with
    | .fn f first caps => some (f, first ++ args.map (Opnd.ev r) ++ caps)
    | _ => none
  | _ => none
def AOp.isCall : AOp → Bool
  | .call .. | .callv .. => true
  | _ => false

/-- effects: what must keep its order -/
def AOp.effect : AOp → Bool
  | .store .. | .append .. | .copy .. | .call .. | .callv .. => true
  | _ => false
def AOp.reads : AOp → Bool
  | .load .. | .toStr .. | .sameB .. => true
  | _ => false
def AOp.allocs : AOp → Bool
  | .alloc .. | .box .. | .buildSlice .. | .mkSlice .. | .sliceZ .. | .toBytes .. => true
  | _ => false

def envOf (args : List AV) : Env := fun i => (args[i]?).getD undefA

def resOf (r : Env) (h : H) : List ARes → Option (List AV)
  | [] => some []
  | .tmp t :: l => if (r t).isTup then none else (resOf r h l).map (r t :: ·)
  | .cell t ty :: l => match r t with
    | .ptr b p t' => if t' = ty then match h.read b p, resOf r h l with
      | some v, some vs => some (v :: vs)
      | _, _ => none else none
    | _ => none
def tupOf : List AV → AV
  | [v] => v
  | vs => .tup vs

/-- the earlier floating reads that this effect might disturb read the same behind it -/
def undisturbed (te : TypeId → ATy) (conf : List Nat) (h' : H) (rd : List (Nat × AOp × Env × AV)) : Bool :=
  rd.all fun (i, op, r, v) => !conf.contains i || (match evOp te r h' 0 op with | some (v', _) => AV.beq v' v | none => false)
/-- this floating read reads the same before the earlier effects that don't stand ahead of it -/
def unmoved (te : TypeId → ATy) (conf : List Nat) (r : Env) (op : AOp) (v : AV) (ef : List (Nat × H)) : Bool :=
  ef.all fun (i, h0) => !conf.contains i || (match evOp te r h0 0 op with | some (v', _) => AV.beq v' v | none => false)

/-- one operation, where calls are run so -/
def stepR (T : Tbl) (run : AFunc → List AV → Option (Env × H)) (r : Env) (h : H) (nid : Nat) (o : AOper) : Option (AV × H) :=
  if wantedA r o.guard then
    if o.op.isCall then
      match callOf r o.op with
      | none => none
      | some (f, args) => match T.ext f args with
        | some vs => some (tupOf vs, h)
        | none => match T.fn f with
          | none => none
          | some F => match run F args with
            | none => none
            | some (r1, h1) => match resOf r1 h1 F.results with
              | none => none
              | some vs => some (tupOf vs, h1)
    else evOp T.te r h nid o.op
  else some (undefA, h)

def exec (T : Tbl) : Nat → List Item → Env → H → Option (Env × H)
  | 0, _, _, _ => none
  | _ + 1, [], r, h => some (r, h)
  | n + 1, .code .skip :: k, r, h => exec T n k r h
  | n + 1, .code (.reg ops) :: k, r, h => exec T n (.ops ops :: k) r h
  | n + 1, .code (.draw ops) :: k, r, h => exec T n (.dops h.next 0 ops [] [] :: k) r (h.bump ops.length)
  | n + 1, .code (.seq a b) :: k, r, h => exec T n (.code a :: .code b :: k) r h
  | n + 1, .code (.cond c a b) :: k, r, h => match c.ev r with
    | .bool t => if t then exec T n (.code a :: k) r h else exec T n (.code b :: k) r h
    | _ => none
  | n + 1, .code (.block id a) :: k, r, h => exec T n (.code a :: .inBlock id :: k) r h
  | n + 1, .code (.loop a) :: k, r, h => exec T n (.code a :: .inLoop a :: k) r h
  | n + 1, .code (.exit id) :: k, r, h => match exitA id k with
    | some k' => exec T n k' r h
    | none => none
  | n + 1, .code (.scope a) :: k, r, h => exec T n (.code a :: k) r h
  | _ + 1, .code .ret :: _, r, h => some (r, h)
  | n + 1, .inBlock _ :: k, r, h => exec T n k r h
  | n + 1, .inLoop a :: k, r, h => exec T n (.code a :: .inLoop a :: k) r h
  | n + 1, .ops [] :: k, r, h => exec T n k r h
  | n + 1, .ops (o :: l) :: k, r, h =>
    match stepR T (fun F args => exec T n [.code F.body] (envOf args) h) r h h.next o with
    | none => none
    | some (v, h') => exec T n (.ops l :: k) (r.set o.dst v) h'
  | n + 1, .dops _ _ [] _ _ :: k, r, h => exec T n k r h
  | n + 1, .dops b i ((o, conf) :: l) rd ef :: k, r, h =>
    match stepR T (fun F args => exec T n [.code F.body] (envOf args) h) r h (b + i) o with
    | none => none
    | some (v, h') =>
      if o.op.effect then
        if undisturbed T.te conf h' rd then exec T n (.dops b (i + 1) l rd ((i, h) :: ef) :: k) (r.set o.dst v) h' else none
      else if o.op.reads && wantedA r o.guard then
        if unmoved T.te conf r o.op v ef then exec T n (.dops b (i + 1) l ((i, o.op, r, v) :: rd) ef :: k) (r.set o.dst v) h' else none
      else exec T n (.dops b (i + 1) l rd ef :: k) (r.set o.dst v) h'

end Go.Dam

namespace Go.Dam

def canon (P : Program) (t : TypeId) : TypeId := P.underlyingId t

def constA : Value → Option AV
  | .bool b => some (.bool b)
  | .int k n => some (.int k n)
  | .string s => some (.str s)
  | .pointer none => some .nilp
  | .slice none 0 0 => some .nils
  | .map none => some .nilm
  | .nilFunc => some .nilf
  | _ => none

def opnd : Operand → Option Opnd
  | .tmp t => some (.t t)
  | .const v => (constA v).map .c
  | .func f => some (.c (.fn f [] []))
  | .global _ => none

def opnds : List Operand → Option (List Opnd)
  | [] => some []
  | x :: l => match opnd x, opnds l with
    | some a, some b => some (a :: b)
    | _, _ => none
def parts? : List (Nat × Operand) → Option (List (Nat × Opnd))
  | [] => some []
  | (i, x) :: l => match opnd x, parts? l with
    | some a, some b => some ((i, a) :: b)
    | _, _ => none
def optOpnd : Option Operand → Option (Option Opnd)
  | none => some none
  | some x => (opnd x).map some

def teOf (P : Program) (t : TypeId) : ATy :=
  match P.underlying t with
  | some (.struct fs) => .struct (fs.toList.map fun f => canon P f.type)
  | some (.array n e) => .array n (canon P e)
  | some (.tuple _) | some .invalid | some (.named _ _) => .other
  | some _ => match P.info? t with
    | some i => match i.zero with
      | some z => match constA z with
        | some v => .prim v
        | none => .other
      | none => .other
    | none => .other
  | none => .other

def cellB : Value → Value → Bool
  | .bool a, .bool b => a == b
  | .int k a, .int k' b => k == k' && a == b
  | .string a, .string b => a.data == b.data
  | .pointer none, .pointer none => true
  | .slice none a b, .slice none c d => a == c && b == d
  | .map none, .map none => true
  | .nilFunc, .nilFunc => true
  | _, _ => false
def cellsB : List Value → List Value → Bool
  | [], [] => true
  | x :: xs, y :: ys => cellB x y && cellsB xs ys
  | _, _ => false

/- the cells of a closed value -/
mutual
def flatA : AV → Option (List Value)
  | .bool b => some [.bool b]
  | .int k n => some [.int k n]
  | .str s => some [.string s]
  | .nilp => some [.pointer none]
  | .nils => some [.slice none 0 0]
  | .nilm => some [.map none]
  | .nilf => some [.nilFunc]
  | .agg _ xs => flatAs xs
  | _ => none
def flatAs : List AV → Option (List Value)
  | [] => some []
  | x :: xs => match flatA x, flatAs xs with
    | some a, some b => some (a ++ b)
    | _, _ => none
end

def kdOf (P : Program) (t : TypeId) : Option Kd := match P.underlying t with
  | some .bool => some .bool
  | some (.int k) => some (.int k)
  | some .string => some .str
  | some (.pointer _) => some .ptr
  | some (.slice _) => some .slice
  | some (.map ..) => some .map
  | some (.func ..) => some .fn
  | some (.struct _) | some (.array ..) => some (.agg (canon P t))
  | _ => none
def Kd.isAgg : Kd → Bool
  | .agg _ => true
  | _ => false
/-- a value of one cell -/
def primOK (P : Program) (t : TypeId) (v : AV) : Bool := match kdOf P t with
  | some k => !k.isAgg && k.ok v && P.cellsOf t == 1
  | none => false
def aggD : TypeDesc → Bool
  | .struct _ | .array .. => true
  | _ => false
def isAggT (P : Program) (t : TypeId) : Bool := match P.underlying t with
  | some d => aggD d
  | none => false

/- has a value the form of a type? -/
mutual
def fitB (P : Program) (t : TypeId) : AV → Bool
  | .agg t' xs => t' == canon P t && (match P.underlying t with
    | some (.struct fs) => fitsB P (fs.toList.map (·.type)) xs
    | some (.array n e) => n == xs.length && fitAllB P e xs
    | _ => false)
  | .tup _ => false
  | v => primOK P t v
def fitsB (P : Program) : List TypeId → List AV → Bool
  | [], [] => true
  | t :: ts, x :: xs => fitB P t x && fitsB P ts xs
  | _, _ => false
def fitAllB (P : Program) (e : TypeId) : List AV → Bool
  | [] => true
  | x :: xs => fitB P e x && fitAllB P e xs
end

/-- a type whose zero value the machine knows -/
def zeroOK (P : Program) (t : TypeId) : Bool :=
  let z := zeroOf (teOf P) zeroFuel (canon P t)
  fitB P t z &&
  match (P.info? t).bind (·.zero), flatA z with
  | some v, some cs => (v matches .agg _) == z.isAgg && cellsB v.cells.toList cs
  | _, _ => false

/-- structs: the fields lie one behind the other; arrays: as many cells as the elements have -/
def layFields (P : Program) : Nat → List Field → Option Nat
  | o, [] => some o
  | o, f :: fs => if f.offset == o then layFields P (o + P.cellsOf f.type) fs else none
def namedB : TypeDesc → Bool
  | .named .. => true
  | _ => false
def layAt (P : Program) (t : TypeId) : Bool :=
  canon P t < P.types.size && canon P (canon P t) == canon P t && P.cellsOf (canon P t) == P.cellsOf t &&
  (match P.info? (canon P t) with | some i => !namedB i.desc | none => false) &&
  match P.underlying t with
  | some (.struct fs) => layFields P 0 fs.toList == some (P.cellsOf t) && fs.toList.all fun f => f.type < P.types.size
  | some (.array n e) => P.cellsOf t == n * P.cellsOf e && e < P.types.size
  | _ => true
def goodB (P : Program) : Bool := P.follows .mixedOrders && (List.range P.types.size).all (layAt P)

def isU8 (P : Program) (e : TypeId) : Bool := P.underlying e matches some (.int .u8)
/-- types that the machine holds: one cell, or a struct or an array of some cells -/
def heldT (P : Program) (t : TypeId) : Bool := t < P.types.size && P.cellsOf t != 0 && (match kdOf P t with | some k => k.isAgg || P.cellsOf t == 1 | none => false)
/-- types that may be compared as the machine does -/
def plainEq (P : Program) : Nat → TypeId → Bool
  | 0, _ => false
  | k + 1, t => heldT P t && match P.underlying t with
    | some .bool | some (.int _) | some .string => true
    | some (.struct fs) => !P.stoodInHeld t && fs.toList.all fun f => f.name != "_" && plainEq P k f.type
    | some (.array _ e) => plainEq P k e
    | _ => false

def roomOf (P : Program) (e : TypeId) : Nat := match P.info? e with
  | some i => 2 ^ 44 / (i.bytes + 1)
  | none => 0

def isNeq : BinOp → Bool
  | .neq => true
  | _ => false
def compileOp (P : Program) (o : Op) : Option AOp :=
  match o with
  | .move x | .assign x => (opnd x).map .move
  | .pick c a b => match opnd c, opnd a, opnd b with
    | some c, some a, some b => some (.pick c a b)
    | _, _, _ => none
  | .alloc e => if heldT P e && zeroOK P e then some (.alloc (canon P e)) else none
  | .box e x => if heldT P e then match kdOf P e with
    | some k => (opnd x).map (.box (canon P e) k)
    | none => none else none
  | .build t ps => if heldT P t && isAggT P t && zeroOK P t then (parts? ps.toList).map (.build (canon P t)) else none
  | .buildSlice t n ps => match P.underlying t with
    | some (.slice e) => if heldT P e && zeroOK P e && n * P.cellsOf e ≤ 2 ^ 24 then (parts? ps.toList).map (.buildSlice (canon P e) n) else none
    | _ => none
  | .load t x => if heldT P t then (opnd x).map (.load (canon P t)) else none
  | .store t a x => if heldT P t then match opnd a, opnd x, kdOf P t with
    | some a, some x, some k => some (.store (canon P t) k a x)
    | _, _, _ => none else none
  | .nilCheck x => (opnd x).map .nilCheck
  | .binOp op xt x y _ => match opnd x, opnd y with
    | some x, some y => match op with
      | .eql | .neq => match P.underlying xt with
        | some (.int _) | some .string => some (.bin op x y)
        | some .bool => some (.eqv (isNeq op) .bool x y)
        | some (.pointer _) => some (.eqv (isNeq op) .ptr x y)
        | some (.slice _) => some (.eqv (isNeq op) .slice x y)
        | some (.func ..) => some (.eqv (isNeq op) .fn x y)
        | some (.struct _) | some (.array ..) => if heldT P xt && plainEq P 10 xt && !P.eqGuardType P.depth xt then some (.eqv (isNeq op) (.agg (canon P xt)) x y) else none
        | _ => none
      | _ => some (.bin op x y)
    | _, _ => none
  | .unOp op _ x => (opnd x).map (.un op)
  | .convert src dst x => match opnd x with
    | some x => match P.underlying src, P.underlying dst with
      | some (.int _), some (.int k) => some (.conv k x)
      | some .string, some .string => some (.sameS x)
      | some (.slice e), some .string => if isU8 P e then some (.toStr x) else none
      | some .string, some (.slice e) => if isU8 P e && heldT P e then some (.toBytes (canon P e) x) else none
      | some (.slice _), some (.slice e) => if src == dst && isU8 P e then some (.sameB x) else none
      | _, _ => none
    | none => none
  | .makeFunc (.func f) first caps => match opnds first.toList, opnds caps.toList with
    | some a, some b => some (.mkFn f a b)
    | _, _ => none
  | .makeSlice t l c => match P.underlying t with
    | some (.slice e) => if heldT P e && zeroOK P e then match opnd l, opnd c with
      | some l, some c => some (.mkSlice (canon P e) (roomOf P e) l c)
      | _, _ => none else none
    | _ => none
  | .slice t x lo hi mx => match opnd x, optOpnd lo, optOpnd hi with
    | some x, some lo', some hi' => match P.underlying t, mx with
      | some (.array n e), none => if heldT P e && heldT P t then some (.sliceA n (canon P t) (canon P e) x lo' hi') else none
      | some (.slice e), none => if heldT P e then some (.sliceS (canon P e) x lo' hi') else none
      | some (.slice e), some (.const (.int _ 0)) => match lo, hi with
        | none, some (.const (.int _ 0)) => if heldT P e then some (.sliceZ (canon P e) x) else none
        | _, _ => none
      | some .string, none => some (.sliceT x lo' hi')
      | _, _ => none
    | _, _, _ => none
  | .fieldAddr s x f => match P.underlying s with
    | some (.struct fs) => match fs[f]? with
      | some fd => if heldT P s && heldT P fd.type then (opnd x).map (.fieldAddr (canon P s) f (canon P fd.type)) else none
      | none => none
    | _ => none
  | .field s x f => match P.underlying s with
    | some (.struct fs) => match fs[f]? with
      | some fd => if heldT P s && heldT P fd.type then (opnd x).map (.field (canon P s) f) else none
      | none => none
    | _ => none
  | .indexAddr t x i => match opnd x, opnd i with
    | some x, some i => match P.underlying t with
      | some (.array n e) => if heldT P e && heldT P t then some (.idxA n (canon P t) (canon P e) x i) else none
      | some (.slice e) => if heldT P e then some (.idxS (canon P e) x i) else none
      | _ => none
    | _, _ => none
  | .index t x i => match opnd x, opnd i with
    | some x, some i => match P.underlying t with
      | some (.array n e) => if heldT P e && heldT P t then some (.idxV n (canon P t) x i) else none
      | some .string => some (.idxT x i)
      | _ => none
    | _, _ => none
  | .extract x i => (opnd x).map (.extract i)
  | .call c => match opnds c.args.toList with
    | none => none
    | some args => match c.callee with
      | .value (.func f) => some (.call f args)
      | .value x => (opnd x).map fun x => .callv x args
      | .invoke .. => none
      | .builtin .len => match c.argTypes.toList, args with
        | [t], [x] => match P.underlying t with
          | some .string => some (.lenT x)
          | some (.slice _) => some (.lenS x)
          | some (.array n _) => some (.lenA n)
          | some (.pointer a) => match P.underlying a with
            | some (.array n _) => some (.lenA n)
            | _ => none
          | _ => none
        | _, _ => none
      | .builtin .min => match args with
        | [x, y] => some (.minmax false x y)
        | _ => none
      | .builtin .max => match args with
        | [x, y] => some (.minmax true x y)
        | _ => none
      | .builtin .append => match c.argTypes.toList, args with
        | [t, u], [x, y] => match P.underlying t, P.underlying u with
          | some (.slice e), some (.slice _) => if heldT P e && zeroOK P e then some (.append (canon P e) false (roomOf P e) x y) else none
          | some (.slice e), some .string => if heldT P e && zeroOK P e && isU8 P e then some (.append (canon P e) true (roomOf P e) x y) else none
          | _, _ => none
        | _, _ => none
      | .builtin .copy => match c.argTypes.toList, args with
        | [t, u], [x, y] => match P.underlying t, P.underlying u with
          | some (.slice e), some (.slice _) => if heldT P e then some (.copy (canon P e) false x y) else none
          | some (.slice e), some .string => if heldT P e && isU8 P e then some (.copy (canon P e) true x y) else none
          | _, _ => none
        | _, _ => none
      | _ => none
  | _ => none

def compileOper (P : Program) (ops : Array Oper) (o : Oper) : Option AOper :=
  (compileOp P o.op).map fun a => { dst := o.dst, op := a, guard := o.guard.map fun (j, b) => ((ops[j]?).bind (·.dst), b) }

def compileOps (P : Program) (ops : Array Oper) : List Oper → Option (List AOper)
  | [] => some []
  | o :: l => match compileOper P ops o, compileOps P ops l with
    | some a, some b => some (a :: b)
    | _, _ => none

/-! drawn regions -/
def Opnd.temps : Opnd → List Nat
  | .t i => [i]
  | .c _ => []
def optTemps : Option Opnd → List Nat
  | some x => x.temps
  | none => []
def AOp.temps : AOp → List Nat
  | .alloc _ | .lenA _ => []
  | .move x | .box _ _ x | .load _ x | .nilCheck x | .un _ x | .conv _ x | .sameS x | .sameB x | .toStr x | .toBytes _ x | .sliceZ _ x | .fieldAddr _ _ _ x | .field _ _ x | .extract _ x | .lenS x | .lenT x => x.temps
  | .pick a b c => a.temps ++ b.temps ++ c.temps
  | .build _ ps | .buildSlice _ _ ps => ps.flatMap fun (_, x) => x.temps
  | .store _ _ x y | .bin _ x y | .eqv _ _ x y | .mkSlice _ _ x y | .idxA _ _ _ x y | .idxS _ x y | .idxV _ _ x y | .idxT x y | .minmax _ x y | .append _ _ _ x y | .copy _ _ x y => x.temps ++ y.temps
  | .mkFn _ a b => a.flatMap (·.temps) ++ b.flatMap (·.temps)
  | .sliceA _ _ _ x l h | .sliceS _ x l h | .sliceT x l h => x.temps ++ optTemps l ++ optTemps h
  | .call _ as => as.flatMap (·.temps)
  | .callv x as => x.temps ++ as.flatMap (·.temps)
def AOper.temps (o : AOper) : List Nat := o.op.temps ++ (match o.guard with | some (some t, _) => [t] | _ => [])

def apartD (a b : AOper) : Bool :=
  (match a.dst, b.dst with | some i, some j => i != j | _, _ => true)
def apartT (a b : AOper) : Bool :=
  (match a.dst with | some i => !b.temps.contains i | none => true) && (match b.dst with | some j => !a.temps.contains j | none => true)
/-- may two operations stand in either order? -/
def mayFloat (a b : AOper) : Bool :=
  apartT a b && !(a.op.effect && b.op.effect) && !(a.op.effect && b.op.allocs) && !(a.op.allocs && b.op.effect)
def confPair (a b : AOper) : Bool := (a.op.effect && b.op.reads) || (a.op.reads && b.op.effect)

/-- a number worked out before it is used -/
def forced {α : Type} (n : Nat) (k : Nat → α) : α := match n with
  | 0 => k 0
  | m + 1 => k (m + 1)
theorem forced_eq {α : Type} (n : Nat) (k : Nat → α) : forced n k = k n := by cases n <;> rfl

/-- what stands before an operation in every order: the bits of a number; none if an edge leads onward -/
def befEdges (acc : List Nat) (j : Nat) : List Edge → Option Nat
  | [] => some 0
  | e :: l => if Region.binds .any e then
      if e.on < j then (befEdges acc j l).map fun m => m ||| (acc.getD e.on 0 ||| 1 <<< e.on) else none
    else befEdges acc j l
def befs (acc : List Nat) (j : Nat) : List Oper → Option (List Nat)
  | [] => some acc
  | o :: l => match befEdges acc j o.after.toList with
    | some m => forced m fun m => befs (acc ++ [m]) (j + 1) l
    | none => none

/-- a read of a slot, not of a constant -/
def AOp.plainRead : AOp → Bool
  | .load _ (.t _) | .toStr (.t _) | .sameB (.t _) => true
  | .load .. | .toStr .. | .sameB .. => false
  | _ => true

def drawOps (before : List Nat) (l : List AOper) : Option (List (AOper × List Nat)) :=
  let z := l.zipIdx
  if (z.all fun (b, j) => b.op.plainRead && (z.take j).all fun (a, i) => apartD a b && ((before.getD j 0).testBit i || mayFloat a b)) then
    some (z.map fun (b, j) => (b, ((z.take j).filter fun (a, i) => !(before.getD j 0).testBit i && confPair a b).map (·.2)))
  else none

def compile (P : Program) : Code → Option ACode
  | .skip => some .skip
  | .region _ ops draw => match compileOps P ops ops.toList with
    | some l => if draw then match befs [] 0 ops.toList with
      | some bs => (drawOps bs l).map .draw
      | none => none else some (.reg l)
    | none => none
  | .seq a b => match compile P a, compile P b with
    | some a, some b => some (.seq a b)
    | _, _ => none
  | .cond c a b => match opnd c, compile P a, compile P b with
    | some c, some a, some b => some (.cond c a b)
    | _, _, _ => none
  | .block id a => (compile P a).map (.block id)
  | .loop a => (compile P a).map .loop
  | .exit id => some (.exit id)
  | .scope a => (compile P a).map .scope
  | .ret => some .ret
  | .label _ => some .skip
  | _ => none

def compileRes (P : Program) : List ResultVar → Option (List ARes)
  | [] => some []
  | .tmp t :: l => (compileRes P l).map (.tmp t :: ·)
  | .cell a t :: l => if heldT P t then (compileRes P l).map (.cell a (canon P t) :: ·) else none

def dstsOK (n : Nat) : Code → Bool
  | .region _ ops _ => ops.toList.all fun o => match o.dst with | some d => d < n | none => true
  | .seq a b | .cond _ a b => dstsOK n a && dstsOK n b
  | .block _ a | .loop a | .scope a => dstsOK n a
  | _ => true

def compileFn (P : Program) (f : FuncId) : Option AFunc :=
  match P.funcs[f]? with
  | some fn => match fn.body with
    | some c => if fn.name != "runtime.NumGoroutine" && dstsOK fn.ntmps c then
      match compile P c, compileRes P fn.results.toList with
      | some b, some rs => some { results := rs, body := b }
      | _, _ => none else none
    | none => none
  | none => none

end Go.Dam

namespace Go.Dam

structure Good (P : Program) : Prop where
  mixed : P.follows .mixedOrders = true
  ty : ∀ t, t < P.types.size → layAt P t = true

theorem good_of {P : Program} (h : goodB P = true) : Good P := by
  simp only [goodB, Bool.and_eq_true, List.all_eq_true, List.mem_range] at h
  exact ⟨h.1, h.2⟩

section types
variable {P : Program} (g : Good P) {t : TypeId}
include g

theorem Good.canon_lt (h : t < P.types.size) : canon P t < P.types.size := by
  have := g.ty t h
  simp only [layAt, Bool.and_eq_true, decide_eq_true_eq] at this
  exact this.1.1.1.1
theorem Good.canon_canon (h : t < P.types.size) : canon P (canon P t) = canon P t := by
  have := g.ty t h
  simp only [layAt, Bool.and_eq_true, decide_eq_true_eq, beq_iff_eq] at this
  exact this.1.1.1.2
theorem Good.cells_canon (h : t < P.types.size) : P.cellsOf (canon P t) = P.cellsOf t := by
  have := g.ty t h
  simp only [layAt, Bool.and_eq_true, decide_eq_true_eq, beq_iff_eq] at this
  exact this.1.1.2
theorem Good.und_canon (h : t < P.types.size) : P.underlying (canon P t) = P.underlying t := by
  have := g.ty t h
  simp only [layAt, Bool.and_eq_true] at this
  have hn := this.1.2
  clear this
  cases hi : P.info? t with
  | none =>
    have hc : canon P t = t := by simp [canon, Program.underlyingId, hi]
    rw [hc]
  | some i =>
    obtain ⟨d, a1, a2, a3, a4, a5, a6, a7, a8, a9⟩ := i
    cases d <;> (try (have hc : canon P t = t := by simp [canon, Program.underlyingId, hi]
                      rw [hc]; done))
    rename_i n u
    have hc : canon P t = u := by simp [canon, Program.underlyingId, hi]
    rw [hc] at hn ⊢
    have hu : P.underlying t = (P.info? u).map (·.desc) := by simp [Program.underlying, hi]
    rw [hu]
    cases hj : P.info? u with
    | none => simp [Program.underlying, hj]
    | some j =>
      rw [hj] at hn
      obtain ⟨d, b1, b2, b3, b4, b5, b6, b7, b8, b9⟩ := j
      cases d <;> simp_all [Program.underlying, namedB]
theorem Good.struct (h : t < P.types.size) {fs : Array Field} (hu : P.underlying t = some (.struct fs)) : layFields P 0 fs.toList = some (P.cellsOf t) ∧ ∀ f ∈ fs.toList, f.type < P.types.size := by
  have := g.ty t h
  simp only [layAt, hu, Bool.and_eq_true, beq_iff_eq, List.all_eq_true, decide_eq_true_eq] at this
  exact ⟨this.2.1, this.2.2⟩
theorem Good.array (h : t < P.types.size) {n : Nat} {e : TypeId} (hu : P.underlying t = some (.array n e)) : P.cellsOf t = n * P.cellsOf e ∧ e < P.types.size := by
  have := g.ty t h
  simp only [layAt, hu, Bool.and_eq_true, beq_iff_eq, decide_eq_true_eq] at this
  exact this.2
end types

/-! ### Places -/
/-- where a block lies: the model's block, the row's first cell, how many elements there is room for, their type -/
structure BI where
  c : Nat
  o : Nat
  n : Nat
  e : TypeId
abbrev Phi := Nat → Option BI

/-- a variable in a row: its first cell (from the row's begin), its type -/
def place (P : Program) (e : TypeId) : List Nat → Option (Nat × TypeId)
  | [] => none
  | [i] => some (i * P.cellsOf e, e)
  | i :: j :: p => match place P e (j :: p) with
    | some (o, t) => match P.underlying t with
      | some (.struct fs) => match fs[i]? with
        | some f => some (o + f.offset, f.type)
        | none => none
      | some (.array n e') => if i < n then some (o + i * P.cellsOf e', e') else none
      | _ => none
    | none => none
/-- a row: of the block itself, or an array in it: first cell, how many, of which type -/
def rowPlace (P : Program) (n : Nat) (e : TypeId) (p : List Nat) : Option (Nat × Nat × TypeId) :=
  match p with
  | [] => some (0, n, e)
  | i :: q => match place P e (i :: q) with
    | some (o, t) => match P.underlying t with
      | some (.array m e') => some (o, m, e')
      | _ => none
    | none => none

/-! ### Values -/
/-- what lies in one cell, but closures -/
def SV0 (P : Program) (φ : Phi) : AV → Value → Prop
  | .bool b, v => v = .bool b
  | .int k n, v => v = .int k n
  | .str s, v => v = .string s
  | .ptr b p t, v => ∃ i off t', φ b = some i ∧ place P i.e p = some (off, t') ∧ canon P t' = t ∧ t' < P.types.size ∧ v = .pointer (some ⟨i.c, i.o + off, none⟩)
  | .nilp, v => v = .pointer none
  | .slice b p off len e, v => ∃ i off0 N e' a, φ b = some i ∧ rowPlace P i.n i.e p = some (off0, N, e') ∧ canon P e' = e ∧ e' < P.types.size ∧ off + len ≤ N ∧
      (a = ⟨i.c, i.o + off0 + off * P.cellsOf e', none⟩ ∨ (N = off ∧ a.block = i.c)) ∧ v = .slice (some a) len (N - off)
  | .nils, v => v = .slice none 0 0
  | .nilm, v => v = .map none
  | .nilf, v => v = .nilFunc
  | _, _ => False
def SV0s (P : Program) (φ : Phi) : List AV → List Value → Prop
  | [], vs => vs = []
  | x :: xs, vs => ∃ v r, SV0 P φ x v ∧ SV0s P φ xs r ∧ vs = v :: r
def SV (P : Program) (φ : Phi) : AV → Value → Prop
  | .fn f first caps, v => ∃ a c, SV0s P φ first a ∧ SV0s P φ caps c ∧ v = .func (.func f) a.toArray c.toArray
  | x, v => SV0 P φ x v
mutual
/-- the cells of a value -/
def CV (P : Program) (φ : Phi) : AV → List Value → Prop
  | .agg _ xs, cs => CVs P φ xs cs
  | .tup _, _ => False
  | x, cs => ∃ v, SV P φ x v ∧ cs = [v]
def CVs (P : Program) (φ : Phi) : List AV → List Value → Prop
  | [], cs => cs = []
  | x :: xs, cs => ∃ a b, CV P φ x a ∧ CVs P φ xs b ∧ cs = a ++ b
end
def Fit (P : Program) (t : TypeId) (v : AV) : Prop := fitB P t v = true
/-- a value that is no tuple -/
def VV1 (P : Program) (φ : Phi) : AV → Value → Prop
  | .agg t xs, v => (canon P t = t ∧ t < P.types.size ∧ Fit P t (.agg t xs)) ∧ ∃ cs, CVs P φ xs cs ∧ v = .agg cs.toArray
  | .tup _, _ => False
  | x, v => SV P φ x v
def VV1s (P : Program) (φ : Phi) : List AV → List Value → Prop
  | [], vs => vs = []
  | x :: xs, vs => ∃ v r, VV1 P φ x v ∧ VV1s P φ xs r ∧ vs = v :: r
def VV (P : Program) (φ : Phi) : AV → Value → Prop
  | .tup xs, v => ∃ vs, VV1s P φ xs vs ∧ v = .tuple vs.toArray
  | x, v => VV1 P φ x v

def PhiLe (φ φ' : Phi) : Prop := ∀ b i, φ b = some i → φ' b = some i
/-- more is known, but only of one block, or of new ones -/
def PhiTo (φ φ' : Phi) (n : Nat) : Prop := PhiLe φ φ' ∧ ∀ b, b ≠ n → φ' b = φ b
theorem PhiLe.refl (φ : Phi) : PhiLe φ φ := fun _ _ h => h
theorem PhiLe.trans {a b c : Phi} (h : PhiLe a b) (k : PhiLe b c) : PhiLe a c := fun x i hx => k x i (h x i hx)

section mono
variable {P : Program} {φ φ' : Phi} (h : PhiLe φ φ')
include h
theorem SV0.mono : ∀ {x : AV} {v : Value}, SV0 P φ x v → SV0 P φ' x v := by
  intro x v hx
  cases x <;> simp only [SV0] at hx ⊢ <;> try exact hx
  · obtain ⟨i, off, t', hb, r⟩ := hx
    exact ⟨i, off, t', h _ _ hb, r⟩
  · obtain ⟨i, off0, N, e', a, hb, r⟩ := hx
    exact ⟨i, off0, N, e', a, h _ _ hb, r⟩
theorem SV0s.mono : ∀ {xs : List AV} {vs : List Value}, SV0s P φ xs vs → SV0s P φ' xs vs
  | [], _, hx => hx
  | x :: xs, _, hx => by
    obtain ⟨v, r, h1, h2, rfl⟩ := hx
    exact ⟨v, r, SV0.mono h h1, SV0s.mono h2, rfl⟩
theorem SV.mono {x : AV} {v : Value} (hx : SV P φ x v) : SV P φ' x v := by
  cases x <;> simp only [SV] at hx ⊢ <;> try exact SV0.mono h hx
  obtain ⟨a, c, h1, h2, rfl⟩ := hx
  exact ⟨a, c, SV0s.mono h h1, SV0s.mono h h2, rfl⟩
end mono
mutual
theorem CV.mono {P : Program} {φ φ' : Phi} (h : PhiLe φ φ') : ∀ {x : AV} {cs : List Value}, CV P φ x cs → CV P φ' x cs
  | .agg t xs, cs, hx => by
    simp only [CV] at hx ⊢
    exact CVs.mono h hx
  | .tup _, _, hx => hx.elim
  | .bool _, _, hx | .int .., _, hx | .str _, _, hx | .ptr .., _, hx | .nilp, _, hx | .slice .., _, hx | .nils, _, hx | .map _, _, hx | .nilm, _, hx | .fn .., _, hx | .nilf, _, hx => by
    simp only [CV] at hx ⊢
    obtain ⟨v, hv, e⟩ := hx
    exact ⟨v, SV.mono h hv, e⟩
theorem CVs.mono {P : Program} {φ φ' : Phi} (h : PhiLe φ φ') : ∀ {xs : List AV} {cs : List Value}, CVs P φ xs cs → CVs P φ' xs cs
  | [], _, hx => hx
  | x :: xs, _, hx => by
    simp only [CVs] at hx ⊢
    obtain ⟨a, b, h1, h2, e⟩ := hx
    exact ⟨a, b, CV.mono h h1, CVs.mono h h2, e⟩
end
section mono2
variable {P : Program} {φ φ' : Phi} (h : PhiLe φ φ')
include h
theorem VV1.mono {x : AV} {v : Value} (hx : VV1 P φ x v) : VV1 P φ' x v := by
  cases x <;> simp only [VV1] at hx ⊢ <;> try exact SV.mono h hx
  obtain ⟨h1, cs, h2, e⟩ := hx
  exact ⟨h1, cs, CVs.mono h h2, e⟩
theorem VV1s.mono : ∀ {xs : List AV} {vs : List Value}, VV1s P φ xs vs → VV1s P φ' xs vs
  | [], _, hx => hx
  | x :: xs, _, hx => by
    obtain ⟨v, r, h1, h2, rfl⟩ := hx
    exact ⟨v, r, VV1.mono h h1, VV1s.mono h2, rfl⟩
theorem VV.mono {x : AV} {v : Value} (hx : VV P φ x v) : VV P φ' x v := by
  cases x <;> simp only [VV] at hx ⊢ <;> try exact VV1.mono h hx
  obtain ⟨vs, h2, e⟩ := hx
  exact ⟨vs, VV1s.mono h h2, e⟩
end mono2

end Go.Dam

namespace Go.Dam

section
variable {P : Program} (g : Good P)
include g

theorem fit_canon {t : TypeId} (h : t < P.types.size) (v : AV) : Fit P (canon P t) v ↔ Fit P t v := by
  have h1 := g.und_canon h
  have h2 := g.canon_canon h
  have h3 := g.cells_canon h
  unfold Fit
  have h4 : ∀ v, primOK P (canon P t) v = primOK P t v := by
    intro v
    simp only [primOK, kdOf, h1, h2, h3]
  cases v <;> simp only [fitB, h1, h2, h4]
end

def sumCells (P : Program) (ts : List TypeId) : Nat := (ts.map P.cellsOf).sum

theorem layFields_sum {P : Program} : ∀ (fs : List Field) (o r : Nat), layFields P o fs = some r → r = o + sumCells P (fs.map (·.type)) ∧ ∀ i f, fs[i]? = some f → f.offset = o + sumCells P ((fs.map (·.type)).take i)
  | [], o, r, h => by
    simp only [layFields, Option.some.injEq] at h
    exact ⟨by simp [sumCells, h], fun i f hf => by simp at hf⟩
  | f :: fs, o, r, h => by
    simp only [layFields] at h
    split at h
    · rename_i ho
      obtain ⟨h1, h2⟩ := layFields_sum fs _ r h
      refine ⟨by rw [h1]; simp [sumCells]; omega, fun i f' hf => ?_⟩
      cases i with
      | zero => simp at hf; subst hf; simp at ho; simp [sumCells, ho]
      | succ i =>
        simp only [List.getElem?_cons_succ] at hf
        rw [h2 i f' hf]
        simp [sumCells]; omega
    · cases h

theorem fitsB_get {P : Program} : ∀ {ts : List TypeId} {xs : List AV}, fitsB P ts xs = true → ∀ {i x}, xs[i]? = some x → ∃ t, ts[i]? = some t ∧ Fit P t x ∧ ∀ y, Fit P t y → fitsB P ts (xs.set i y) = true
  | [], [], _, i, x, hx => by simp at hx
  | [], _ :: _, h, _, _, _ => by simp [fitsB] at h
  | _ :: _, [], h, _, _, _ => by simp [fitsB] at h
  | t :: ts, z :: xs, h, i, x, hx => by
    simp only [fitsB, Bool.and_eq_true] at h
    cases i with
    | zero =>
      simp at hx; subst hx
      exact ⟨t, by simp, h.1, fun y hy => by simp only [List.set_cons_zero, fitsB, Bool.and_eq_true]; exact ⟨hy, h.2⟩⟩
    | succ i =>
      simp only [List.getElem?_cons_succ] at hx
      obtain ⟨t', h1, h2, h3⟩ := fitsB_get h.2 hx
      exact ⟨t', by simpa using h1, h2, fun y hy => by simp only [List.set_cons_succ, fitsB, Bool.and_eq_true]; exact ⟨h.1, h3 y hy⟩⟩

theorem fitsB_take {P : Program} : ∀ {ts : List TypeId} {xs : List AV}, fitsB P ts xs = true → ∀ i, fitsB P (ts.take i) (xs.take i) = true
  | [], [], _, i => by simp [fitsB]
  | [], _ :: _, h, _ => by simp [fitsB] at h
  | _ :: _, [], h, _ => by simp [fitsB] at h
  | t :: ts, z :: xs, h, i => by
    simp only [fitsB, Bool.and_eq_true] at h
    cases i with
    | zero => simp [fitsB]
    | succ i => simp only [List.take_succ_cons, fitsB, Bool.and_eq_true]; exact ⟨h.1, fitsB_take h.2 i⟩

theorem fitAllB_iff {P : Program} {e : TypeId} : ∀ {xs : List AV}, fitAllB P e xs = true ↔ ∀ x ∈ xs, Fit P e x
  | [] => by simp [fitAllB]
  | x :: xs => by simp only [fitAllB, Bool.and_eq_true, List.mem_cons, forall_eq_or_imp, fitAllB_iff (xs := xs), Fit]

/-- what a struct or an array that fits is -/
theorem fit_agg {P : Program} {t t' : TypeId} {xs : List AV} (h : Fit P t (.agg t' xs)) : t' = canon P t ∧ ((∃ fs, P.underlying t = some (.struct fs) ∧ fitsB P (fs.toList.map (·.type)) xs = true) ∨ (∃ n e, P.underlying t = some (.array n e) ∧ n = xs.length ∧ ∀ x ∈ xs, Fit P e x)) := by
  simp only [Fit, fitB, Bool.and_eq_true, beq_iff_eq] at h
  refine ⟨h.1, ?_⟩
  have h2 := h.2
  split at h2
  · rename_i fs hu; exact .inl ⟨fs, hu, h2⟩
  · rename_i n e hu
    simp only [Bool.and_eq_true, beq_iff_eq] at h2
    exact .inr ⟨n, e, hu, h2.1, fitAllB_iff.1 h2.2⟩
  · cases h2
theorem fit_struct {P : Program} {t : TypeId} {xs : List AV} {fs : Array Field} (hu : P.underlying t = some (.struct fs)) (h : fitsB P (fs.toList.map (·.type)) xs = true) : Fit P t (.agg (canon P t) xs) := by
  simp only [Fit, fitB, hu, beq_self_eq_true, Bool.true_and, h]
theorem fit_array {P : Program} {t e : TypeId} {xs : List AV} {n : Nat} (hu : P.underlying t = some (.array n e)) (hn : n = xs.length) (h : ∀ x ∈ xs, Fit P e x) : Fit P t (.agg (canon P t) xs) := by
  simp only [Fit, fitB, hu, beq_self_eq_true, Bool.true_and, hn, fitAllB_iff.2 h]

/-! ### lengths -/
mutual
theorem CV_len {P : Program} (g : Good P) {φ : Phi} : ∀ {x : AV} {t : TypeId} {cs : List Value}, t < P.types.size → Fit P t x → CV P φ x cs → cs.length = P.cellsOf t
  | .agg t' xs, t, cs, ht, hf, hc => by
    simp only [CV] at hc
    rcases fit_agg hf with ⟨_, ⟨fs, hu, hfs⟩ | ⟨n, e, hu, hn, hall⟩⟩
    · have hl := g.struct ht hu
      have h1 := CVs_len g (fun t ht' => by
        simp only [List.mem_map] at ht'
        obtain ⟨f, hf', rfl⟩ := ht'
        exact hl.2 f hf') hfs hc
      rw [h1]
      have := (layFields_sum _ _ _ hl.1).1
      omega
    · have ha := g.array ht hu
      rw [CVs_len_all g ha.2 hall hc, ha.1, hn]
  | .tup _, _, _, _, _, hc => hc.elim
  | .bool _, t, cs, ht, hf, hc | .int .., t, cs, ht, hf, hc | .str _, t, cs, ht, hf, hc | .ptr .., t, cs, ht, hf, hc | .nilp, t, cs, ht, hf, hc | .slice .., t, cs, ht, hf, hc | .nils, t, cs, ht, hf, hc | .map _, t, cs, ht, hf, hc | .nilm, t, cs, ht, hf, hc | .fn .., t, cs, ht, hf, hc | .nilf, t, cs, ht, hf, hc => by
    simp only [CV] at hc
    obtain ⟨v, _, rfl⟩ := hc
    simp only [Fit, fitB, primOK] at hf
    split at hf
    · simp only [Bool.and_eq_true, beq_iff_eq] at hf; simp [hf.2]
    · cases hf
theorem CVs_len {P : Program} (g : Good P) {φ : Phi} : ∀ {xs : List AV} {ts : List TypeId} {cs : List Value}, (∀ t ∈ ts, t < P.types.size) → fitsB P ts xs = true → CVs P φ xs cs → cs.length = sumCells P ts
  | [], [], cs, _, _, hc => by simp only [CVs] at hc; subst hc; simp [sumCells]
  | [], _ :: _, _, _, h, _ => by simp [fitsB] at h
  | _ :: _, [], _, _, h, _ => by simp [fitsB] at h
  | x :: xs, t :: ts, cs, ht, hf, hc => by
    simp only [fitsB, Bool.and_eq_true] at hf
    simp only [CVs] at hc
    obtain ⟨a, b, h1, h2, rfl⟩ := hc
    have e1 := CV_len g (ht t (by simp)) hf.1 h1
    have e2 := CVs_len g (fun u hu => ht u (by simp [hu])) hf.2 h2
    simp only [List.length_append, e1, e2, sumCells, List.map_cons, List.sum_cons]
theorem CVs_len_all {P : Program} (g : Good P) {φ : Phi} : ∀ {xs : List AV} {e : TypeId} {cs : List Value}, e < P.types.size → (∀ x ∈ xs, Fit P e x) → CVs P φ xs cs → cs.length = xs.length * P.cellsOf e
  | [], _, cs, _, _, hc => by simp only [CVs] at hc; subst hc; simp
  | x :: xs, e, cs, ht, hf, hc => by
    simp only [CVs] at hc
    obtain ⟨a, b, h1, h2, rfl⟩ := hc
    have e1 := CV_len g ht (hf x (by simp)) h1
    have e2 := CVs_len_all g ht (fun y hy => hf y (by simp [hy])) h2
    simp only [List.length_append, e1, e2, List.length_cons, Nat.add_mul]
    omega
end

/-! ### one of many -/
theorem CVs_split {P : Program} {φ : Phi} : ∀ {xs : List AV} {cs : List Value} {i : Nat} {x : AV}, CVs P φ xs cs → xs[i]? = some x →
    ∃ pre mid post, cs = pre ++ (mid ++ post) ∧ CVs P φ (xs.take i) pre ∧ CV P φ x mid ∧ ∀ y mid', CV P φ y mid' → CVs P φ (xs.set i y) (pre ++ (mid' ++ post))
  | [], _, i, x, _, hx => by simp at hx
  | z :: xs, cs, 0, x, hc, hx => by
    simp at hx; subst hx
    simp only [CVs] at hc
    obtain ⟨a, b, h1, h2, rfl⟩ := hc
    exact ⟨[], a, b, by simp, by simp [CVs], h1, fun y mid' hy => by simp only [List.set_cons_zero, CVs, List.nil_append]; exact ⟨mid', b, hy, h2, rfl⟩⟩
  | z :: xs, cs, i + 1, x, hc, hx => by
    simp only [List.getElem?_cons_succ] at hx
    simp only [CVs] at hc
    obtain ⟨a, b, h1, h2, rfl⟩ := hc
    obtain ⟨pre, mid, post, rfl, h3, h4, h5⟩ := CVs_split h2 hx
    refine ⟨a ++ pre, mid, post, by simp, ?_, h4, fun y mid' hy => ?_⟩
    · simp only [List.take_succ_cons, CVs]; exact ⟨a, pre, h1, h3, rfl⟩
    · simp only [List.set_cons_succ, CVs, List.append_assoc]; exact ⟨a, _, h1, h5 y mid' hy, rfl⟩

theorem CVs_append {P : Program} {φ : Phi} : ∀ {xs ys : List AV} {cs : List Value}, CVs P φ (xs ++ ys) cs ↔ ∃ a b, CVs P φ xs a ∧ CVs P φ ys b ∧ cs = a ++ b
  | [], ys, cs => by simp [CVs]
  | x :: xs, ys, cs => by
    simp only [List.cons_append, CVs, CVs_append (xs := xs)]
    constructor
    · rintro ⟨a, b, h1, ⟨c, d, h2, h3, rfl⟩, rfl⟩
      exact ⟨a ++ c, d, ⟨a, c, h1, h2, rfl⟩, h3, by simp⟩
    · rintro ⟨a, b, ⟨c, d, h1, h2, rfl⟩, h3, rfl⟩
      exact ⟨c, d ++ b, h1, ⟨d, b, h2, h3, rfl⟩, by simp⟩

/-! ### paths -/
section
variable {P : Program} (g : Good P) {φ : Phi} {e : TypeId} (he : e < P.types.size) {xs : List AV} {cs : List Value} (hf : ∀ x ∈ xs, Fit P e x) (hcs : CVs P φ xs cs)
include g he hf hcs

theorem path_sub : ∀ {p : List Nat} {v : AV} {off : Nat} {t : TypeId}, at? p (.agg e xs) = some v → place P e p = some (off, t) →
    t < P.types.size ∧ Fit P t v ∧ ∃ pre mid post, cs = pre ++ (mid ++ post) ∧ pre.length = off ∧ CV P φ v mid ∧
      ∀ y mid', Fit P t y → CV P φ y mid' → ∃ ys, put? p (.agg e xs) y = some (.agg e ys) ∧ ys.length = xs.length ∧ (∀ x ∈ ys, Fit P e x) ∧ CVs P φ ys (pre ++ (mid' ++ post))
  | [], v, off, t, _, hp => by simp [place] at hp
  | [i], v, off, t, ha, hp => by
    simp only [place, Option.some.injEq, Prod.mk.injEq] at hp
    obtain ⟨rfl, rfl⟩ := hp
    have hx : xs[i]? = some v := by simpa [at?] using ha
    have hlt : i < xs.length := (List.getElem?_eq_some_iff.1 hx).1
    obtain ⟨pre, mid, post, h1, h2, h3, h4⟩ := CVs_split hcs hx
    refine ⟨he, hf v (List.mem_of_getElem? hx), pre, mid, post, h1, ?_, h3, fun y mid' hy hm => ⟨xs.set i y, ?_, by simp, ?_, h4 y mid' hm⟩⟩
    · rw [CVs_len_all g he (fun x hx' => hf x (List.mem_of_mem_take hx')) h2, List.length_take, Nat.min_eq_left (Nat.le_of_lt hlt)]
    · simp [put?, at?, hlt]
    · intro x hx'
      rcases List.mem_or_eq_of_mem_set hx' with h | rfl
      · exact hf x h
      · exact hy
  | i :: j :: p, v, off, t, ha, hp => by
    rw [place] at hp
    cases hq : place P e (j :: p) with
    | none => rw [hq] at hp; cases hp
    | some ot =>
      obtain ⟨o, t0⟩ := ot
      rw [hq] at hp
      simp only at hp
      rw [at?] at ha
      cases hb : at? (j :: p) (.agg e xs) with
      | none => rw [hb] at ha; cases ha
      | some v0 =>
        rw [hb] at ha
        cases v0 <;> simp only at ha <;> try (cases ha; done)
        rename_i tt zs
        obtain ⟨ht0, hfit0, pre, mid, post, h1, h2, h3, h4⟩ := path_sub hb hq
        simp only [CV] at h3
        have hlt : i < zs.length := (List.getElem?_eq_some_iff.1 ha).1
        obtain ⟨pre1, mid1, post1, k1, k2, k3, k4⟩ := CVs_split h3 ha
        have hput : ∀ y, put? (i :: j :: p) (.agg e xs) y = put? (j :: p) (.agg e xs) (.agg tt (zs.set i y)) := by
          intro y
          rw [put?, hb]
          simp [hlt]
        rcases fit_agg hfit0 with ⟨htt, ⟨fs, hu, hfs⟩ | ⟨n, e', hu, hn, hall⟩⟩
        · rw [hu] at hp
          simp only at hp
          obtain ⟨tf, q1, q2, q3⟩ := fitsB_get hfs ha
          cases hfi : fs[i]? with
          | none => rw [hfi] at hp; cases hp
          | some f =>
            rw [hfi] at hp
            simp only [Option.some.injEq, Prod.mk.injEq] at hp
            obtain ⟨rfl, rfl⟩ := hp
            have hfl : fs.toList[i]? = some f := by simpa using hfi
            have htf : tf = f.type := by
              rw [List.getElem?_map, hfl] at q1
              simpa using q1.symm
            subst htf
            have hst := g.struct ht0 hu
            have hoff := (layFields_sum _ _ _ hst.1).2 i f hfl
            have hp1 : pre1.length = f.offset := by
              rw [CVs_len g (fun t ht' => by
                have := List.mem_of_mem_take ht'
                simp only [List.mem_map] at this
                obtain ⟨f', hf', rfl⟩ := this
                exact hst.2 f' hf') (fitsB_take hfs i) k2, hoff]
              omega
            refine ⟨hst.2 f (List.mem_of_getElem? hfl), q2, pre ++ pre1, mid1, post1 ++ post, by rw [h1, k1]; simp, by simp [h2, hp1], k3, fun y mid' hy hm => ?_⟩
            rw [hput]
            obtain ⟨ys, r1, r2, r3, r4⟩ := h4 (.agg tt (zs.set i y)) (pre1 ++ (mid' ++ post1)) (by rw [htt]; exact fit_struct hu (q3 y hy)) (by simp only [CV]; exact k4 y mid' hm)
            exact ⟨ys, r1, r2, r3, by simpa using r4⟩
        · rw [hu] at hp
          simp only at hp
          split at hp
          · simp only [Option.some.injEq, Prod.mk.injEq] at hp
            obtain ⟨rfl, rfl⟩ := hp
            have har := g.array ht0 hu
            have hp1 : pre1.length = i * P.cellsOf e' := by
              rw [CVs_len_all g har.2 (fun x hx' => hall x (List.mem_of_mem_take hx')) k2, List.length_take, Nat.min_eq_left (Nat.le_of_lt hlt)]
            refine ⟨har.2, hall v (List.mem_of_getElem? ha), pre ++ pre1, mid1, post1 ++ post, by rw [h1, k1]; simp, by simp [h2, hp1], k3, fun y mid' hy hm => ?_⟩
            rw [hput]
            obtain ⟨ys, r1, r2, r3, r4⟩ := h4 (.agg tt (zs.set i y)) (pre1 ++ (mid' ++ post1)) (by
              rw [htt]
              refine fit_array hu (by simp [hn]) (fun x hx' => ?_)
              rcases List.mem_or_eq_of_mem_set hx' with h | rfl
              · exact hall x h
              · exact hy) (by simp only [CV]; exact k4 y mid' hm)
            exact ⟨ys, r1, r2, r3, by simpa using r4⟩
          · cases hp

/-- a row: of the block, or an array in it -/
theorem row_sub {n : Nat} (hn : xs.length ≤ n) {p : List Nat} {tt : TypeId} {zs : List AV} {off N : Nat} {e' : TypeId} (ha : at? p (.agg e xs) = some (.agg tt zs)) (hp : rowPlace P n e p = some (off, N, e')) :
    e' < P.types.size ∧ zs.length ≤ N ∧ (p ≠ [] → zs.length = N) ∧ (∀ x ∈ zs, Fit P e' x) ∧ ∃ pre mid post, cs = pre ++ (mid ++ post) ∧ pre.length = off ∧ CVs P φ zs mid ∧
      ∀ zs' mid', zs'.length = zs.length → (∀ x ∈ zs', Fit P e' x) → CVs P φ zs' mid' → ∃ ys, put? p (.agg e xs) (.agg tt zs') = some (.agg e ys) ∧ ys.length = xs.length ∧ (∀ x ∈ ys, Fit P e x) ∧ CVs P φ ys (pre ++ (mid' ++ post)) := by
  cases p with
  | nil =>
    simp only [at?, Option.some.injEq, AV.agg.injEq] at ha
    simp only [rowPlace, Option.some.injEq, Prod.mk.injEq] at hp
    obtain ⟨rfl, rfl⟩ := ha
    obtain ⟨rfl, rfl, rfl⟩ := hp
    exact ⟨he, hn, fun h => (h rfl).elim, hf, [], cs, [], by simp, rfl, hcs, fun zs' mid' h1 h2 h3 => ⟨zs', rfl, h1, h2, by simpa using h3⟩⟩
  | cons i q =>
    simp only [rowPlace] at hp
    cases hq : place P e (i :: q) with
    | none => rw [hq] at hp; cases hp
    | some ot =>
      obtain ⟨o, t⟩ := ot
      rw [hq] at hp
      simp only at hp
      obtain ⟨ht, hfit, pre, mid, post, h1, h2, h3, h4⟩ := path_sub g he hf hcs ha hq
      split at hp <;> try (cases hp; done)
      rename_i m e2 hu
      simp only [Option.some.injEq, Prod.mk.injEq] at hp
      obtain ⟨rfl, rfl, rfl⟩ := hp
      rcases fit_agg hfit with ⟨htt, ⟨fs, hu', _⟩ | ⟨n', e3, hu', hn', hall⟩⟩
      · rw [hu] at hu'; cases hu'
      · rw [hu] at hu'
        simp only [Option.some.injEq, TypeDesc.array.injEq] at hu'
        obtain ⟨rfl, rfl⟩ := hu'
        refine ⟨(g.array ht hu).2, Nat.le_of_eq hn'.symm, fun _ => hn'.symm, hall, pre, mid, post, h1, h2, by simpa only [CV] using h3, fun zs' mid' q1 q2 q3 => ?_⟩
        exact h4 (.agg tt zs') mid' (by rw [htt]; exact fit_array hu (by rw [q1]; exact hn') q2) (by simpa only [CV] using q3)
end

end Go.Dam

namespace Go.Dam
open Go.RowKit (Below)

/-! ### the heap as a table -/
theorem alGet_alSet : ∀ (l : List (Nat × Option Blk)) (k : Nat) (v : Option Blk) (k' : Nat), alGet (alSet l k v) k' = if k' = k then v else alGet l k'
  | [], k, v, k' => by simp [alSet, alGet]
  | (i, u) :: l, k, v, k' => by
    simp only [alSet]
    by_cases h : k = i
    · subst h
      by_cases h2 : k' = k <;> simp [alGet, h2]
    · have ih := alGet_alSet l k v k'
      by_cases h2 : k' = i
      · subst h2
        have : ¬ k' = k := fun e => h e.symm
        simp [alGet, h, this]
      · simp [alGet, h, h2, ih]

theorem Tr.get_set : ∀ (d s s' k k' : Nat) (v : Option Blk) (t : Tr), (k' = k → s' = s) → Tr.get d s' k' (Tr.set d s k v t) = if k' = k then v else Tr.get d s' k' t
  | 0, s, s', k, k', v, t, _ => by
    cases t <;> simp [Tr.set, Tr.get, alGet_alSet, alGet]
  | d + 1, s, s', k, k', v, t, h => by
    have hn : ∀ u, Tr.get d u k' .nil = none := by intro u; cases d <;> rfl
    have hh : k' = k → s' / 2 = s / 2 := fun e => by rw [h e]
    have hm : k' = k → s' % 2 = s % 2 := fun e => by rw [h e]
    cases t with
    | node l r =>
      simp only [Tr.set]
      split
      · rename_i h0
        by_cases h1 : s' % 2 = 0
        · simp only [Tr.get, h1, if_true]
          exact Tr.get_set d (s / 2) (s' / 2) k k' v l hh
        · have : ¬ k' = k := fun e => h1 (by rw [hm e, h0])
          simp [Tr.get, h1, this]
      · rename_i h0
        by_cases h1 : s' % 2 = 0
        · have : ¬ k' = k := fun e => h0 (by rw [← hm e, h1])
          simp [Tr.get, h1, this]
        · simp only [Tr.get, h1, if_false]
          exact Tr.get_set d (s / 2) (s' / 2) k k' v r hh
    | nil =>
      simp only [Tr.set]
      have ih := Tr.get_set d (s / 2) (s' / 2) k k' v .nil hh
      rw [hn] at ih
      by_cases h0 : s % 2 = 0 <;> by_cases h1 : s' % 2 = 0 <;> simp only [h0, h1, if_true, if_false, Tr.get, ih, hn]
      all_goals
        have : ¬ k' = k := fun e => by have := hm e; omega
        simp [this]
    | leaf l =>
      simp only [Tr.set]
      have ih := Tr.get_set d (s / 2) (s' / 2) k k' v .nil hh
      rw [hn] at ih
      by_cases h0 : s % 2 = 0 <;> by_cases h1 : s' % 2 = 0 <;> simp only [h0, h1, if_true, if_false, Tr.get, ih, hn]
      all_goals
        have : ¬ k' = k := fun e => by have := hm e; omega
        simp [this]

theorem H.get_put (h : H) (b b' : Nat) (x : Blk) : (h.put b x).get b' = if b' = b then some x else h.get b' := Tr.get_set _ _ _ _ _ _ _ (fun e => e)
theorem H.get_del (h : H) (b b' : Nat) : (h.del b).get b' = if b' = b then none else h.get b' := Tr.get_set _ _ _ _ _ _ _ (fun e => e)
theorem H.get_newAt (h : H) (n b' : Nat) (x : Blk) : (h.newAt n x).get b' = if b' = n then some x else h.get b' := Tr.get_set _ _ _ _ _ _ _ (fun e => e)
theorem H.get_new (h : H) (b' : Nat) (x : Blk) : (h.new x).get b' = if b' = h.next then some x else h.get b' := H.get_newAt h h.next b' x

/-! ### the relation -/
structure RowR (P : Program) (base : Nat) (φ : Phi) (w : World) (k : BK) (e : TypeId) (xs : List AV) (i : BI) : Prop where
  ie : i.e = e
  held : heldT P e = true
  canon : canon P e = e
  fit : ∀ x ∈ xs, Fit P e x
  len : xs.length ≤ i.n
  fixed : k = .fixed → xs.length = i.n
  own : k ≠ .ro → i.n ≠ 0 → base ≤ i.c
  ro : k = .ro → i.n ≠ 0 → i.c < base
  mem : i.n ≠ 0 → ∃ cs, CVs P φ xs cs ∧ (∀ j v, cs[j]? = some v → w.cell? ⟨i.c, i.o + j, none⟩ = some v)
  room : k ≠ .ro → i.n ≠ 0 → ∃ arr T fz, w.heap[i.c]? = some (.cells arr T fz) ∧ i.o + i.n * P.cellsOf e ≤ arr.size ∧ (fz.1 = fz.2 ∨ arr.size ≤ fz.1)

structure HR (P : Program) (base : Nat) (φ : Phi) (h : H) (w : World) : Prop where
  size : base ≤ w.heap.size
  row : ∀ b k e xs, h.get b = some (.row k e xs) → ∃ i, φ b = some i ∧ RowR P base φ w k e xs i
  apart : ∀ b b' k k' e e' xs xs' i i', b ≠ b' → h.get b = some (.row k e xs) → h.get b' = some (.row k' e' xs') → k ≠ .ro → k' ≠ .ro → φ b = some i → φ b' = some i' → i.n ≠ 0 → i'.n ≠ 0 → i.c ≠ i'.c
  fresh : ∀ b, h.next ≤ b → φ b = none
  nomap : ∀ b es, h.get b ≠ some (.map es)

theorem HR.lt {P : Program} {base : Nat} {φ : Phi} {h : H} {w : World} (hr : HR P base φ h w) {b : Nat} {x : Blk} (hb : h.get b = some x) : b < h.next := by
  rcases Nat.lt_or_ge b h.next with h1 | h1
  · exact h1
  · cases x with
    | row k e xs =>
      obtain ⟨i, hi, _⟩ := hr.row b k e xs hb
      rw [hr.fresh b h1] at hi
      cases hi
    | map es => exact (hr.nomap b es hb).elim

theorem heldT_lt {P : Program} {e : TypeId} (h : heldT P e = true) : e < P.types.size := by
  simp only [heldT, Bool.and_eq_true, decide_eq_true_eq] at h
  exact h.1.1
theorem heldT_pos {P : Program} {e : TypeId} (h : heldT P e = true) : P.cellsOf e ≠ 0 := by
  simp only [heldT, Bool.and_eq_true, bne_iff_ne] at h
  exact h.1.2

/-! ### many cells set -/
theorem setCells_os (b : Nat) : ∀ (vs : List Value) (o : Nat) (w : World), (w.setCells b o vs).os = w.os ∧ (w.setCells b o vs).tape = w.tape ∧ (w.setCells b o vs).output = w.output ∧ (w.setCells b o vs).heap.size = w.heap.size
  | [], _, _ => ⟨rfl, rfl, rfl, rfl⟩
  | v :: r, o, w => by
    have := setCells_os b r (o + 1) (w.setCell ⟨b, o, none⟩ v)
    simp only [World.setCells]
    exact ⟨this.1, this.2.1, this.2.2.1, this.2.2.2.trans (World.size_setCell _ _ _)⟩
theorem setCells_other (b k : Nat) (hk : k ≠ b) : ∀ (vs : List Value) (o : Nat) (w : World), (w.setCells b o vs).heap[k]? = w.heap[k]?
  | [], _, _ => rfl
  | v :: r, o, w => by
    simp only [World.setCells]
    rw [setCells_other b k hk r]
    exact RowKit.Below.heap_setCell _ _ _ _ hk
theorem setCells_at (b : Nat) : ∀ (vs : List Value) (o : Nat) (w : World) (arr : Array Value) (T : TypeId) (fz : Nat × Nat), w.heap[b]? = some (.cells arr T fz) → ∃ arr', (w.setCells b o vs).heap[b]? = some (.cells arr' T fz) ∧ arr'.size = arr.size
  | [], _, _, arr, _, _, h => ⟨arr, h, rfl⟩
  | v :: r, o, w, arr, T, fz, h => by
    simp only [World.setCells]
    obtain ⟨arr', h1, h2⟩ := setCells_at b r (o + 1) (w.setCell ⟨b, o, none⟩ v) (arr.setIfInBounds o v) T fz (by
      simp [World.setCell, Array.getElem?_modify, h])
    exact ⟨arr', h1, by simpa using h2⟩

theorem below_setCells {base : Nat} {w : World} {c : Nat} (hc : base ≤ c) (o : Nat) (vs : List Value) : Below base w (w.setCells c o vs) := by
  obtain ⟨h1, h2, h3, h4⟩ := setCells_os c vs o w
  exact ⟨h1, h2, h3, Nat.le_of_eq h4.symm, fun k hk => setCells_other c k (by omega) vs o w⟩

theorem frozen_false {w : World} {c o : Nat} {arr : Array Value} {T : TypeId} {fz : Nat × Nat} (h : w.heap[c]? = some (.cells arr T fz)) (hf : fz.1 = fz.2 ∨ arr.size ≤ fz.1) (ho : o < arr.size) : w.frozen? ⟨c, o, none⟩ = false := by
  obtain ⟨lo, hi⟩ := fz
  simp only [World.frozen?, h]
  simp only at hf
  simp only [Bool.and_eq_false_iff, decide_eq_false_iff_not]
  omega
theorem cell_some {w : World} {c o : Nat} {arr : Array Value} {T : TypeId} {fz : Nat × Nat} (h : w.heap[c]? = some (.cells arr T fz)) (ho : o < arr.size) : (w.cell? ⟨c, o, none⟩).isSome = true := by
  simp [World.cell?, h, ho]

/-! ### cells are single -/
theorem SV0_one {P : Program} {φ : Phi} {x : AV} {v : Value} (h : SV0 P φ x v) : v.oneCell' = true := by
  cases x <;> simp only [SV0] at h <;> try (subst h; rfl)
  · obtain ⟨_, _, _, _, _, _, _, rfl⟩ := h; rfl
  · obtain ⟨_, _, _, _, _, _, _, _, _, _, _, rfl⟩ := h; rfl
theorem SV_one {P : Program} {φ : Phi} {x : AV} {v : Value} (h : SV P φ x v) : v.oneCell' = true := by
  cases x <;> simp only [SV] at h <;> try exact SV0_one h
  obtain ⟨_, _, _, _, rfl⟩ := h; rfl
mutual
theorem CV_one {P : Program} {φ : Phi} : ∀ {x : AV} {cs : List Value}, CV P φ x cs → ∀ v ∈ cs, v.oneCell' = true
  | .agg _ xs, cs, h => by
    simp only [CV] at h
    exact CVs_one h
  | .tup _, _, h => h.elim
  | .bool _, _, h | .int .., _, h | .str _, _, h | .ptr .., _, h | .nilp, _, h | .slice .., _, h | .nils, _, h | .map _, _, h | .nilm, _, h | .fn .., _, h | .nilf, _, h => by
    simp only [CV] at h
    obtain ⟨v, hv, rfl⟩ := h
    intro u hu
    simp at hu
    subst hu
    exact SV_one hv
theorem CVs_one {P : Program} {φ : Phi} : ∀ {xs : List AV} {cs : List Value}, CVs P φ xs cs → ∀ v ∈ cs, v.oneCell' = true
  | [], cs, h => by simp only [CVs] at h; subst h; simp
  | x :: xs, cs, h => by
    simp only [CVs] at h
    obtain ⟨a, b, h1, h2, rfl⟩ := h
    intro v hv
    rcases List.mem_append.1 hv with hv | hv
    · exact CV_one h1 v hv
    · exact CVs_one h2 v hv
end

/-! ### a new block -/
theorem HR.new {P : Program} {base : Nat} {φ : Phi} {h : H} {w w' : World} (hr : HR P base φ h w) {nid : Nat} (hnid : φ nid = none) (hle : nid ≤ h.next) (k : BK) (e : TypeId) (xs : List AV) (i : BI) (hb : Below w.heap.size w w')
    (hi : ∀ φ', PhiLe φ φ' → RowR P base φ' w' k e xs i) (hnew : i.n ≠ 0 → w.heap.size ≤ i.c) :
    ∃ φ', PhiTo φ φ' nid ∧ φ' nid = some i ∧ HR P base φ' (h.newAt nid (.row k e xs)) w' := by
  let φ' : Phi := fun b => if b = nid then some i else φ b
  have hle2 : PhiLe φ φ' := fun b j hj => by
    have : b ≠ nid := fun e => by rw [e, hnid] at hj; cases hj
    simp [φ', this, hj]
  have hclt : ∀ b k e xs j, h.get b = some (.row k e xs) → φ b = some j → k ≠ .ro → j.n ≠ 0 → j.c < w.heap.size := by
    intro b k e xs j hb' hj hk' hn
    obtain ⟨i2, hi2, hrow⟩ := hr.row b k e xs hb'
    rw [hj] at hi2
    cases hi2
    obtain ⟨arr, T, fz, hh, _⟩ := hrow.room hk' hn
    exact (Array.getElem?_eq_some_iff.1 hh).1
  refine ⟨φ', ⟨hle2, fun b hb => by simp [φ', hb]⟩, by simp [φ'], ⟨Nat.le_trans hr.size hb.size, ?_, ?_, ?_, ?_⟩⟩
  · intro b k2 e2 xs2 hg
    rw [H.get_newAt] at hg
    by_cases hbn : b = nid
    · simp only [hbn, if_true, Option.some.injEq, Blk.row.injEq] at hg
      obtain ⟨rfl, rfl, rfl⟩ := hg
      exact ⟨i, by simp [φ', hbn], hi φ' hle2⟩
    · simp only [hbn, if_false] at hg
      obtain ⟨j, hj, hrow⟩ := hr.row b k2 e2 xs2 hg
      refine ⟨j, hle2 _ _ hj, ?_⟩
      refine ⟨hrow.ie, hrow.held, hrow.canon, hrow.fit, hrow.len, hrow.fixed, hrow.own, hrow.ro, fun hn => ?_, fun hk2 hn => ?_⟩
      · obtain ⟨cs, h1, h2⟩ := hrow.mem hn
        refine ⟨cs, CVs.mono hle2 h1, fun m v hv => ?_⟩
        have := h2 m v hv
        rw [hb.cell (World.block_lt_of_cell? w _ this)]
        exact this
      · obtain ⟨arr, T, fz, h1, h2⟩ := hrow.room hk2 hn
        exact ⟨arr, T, fz, by rw [hb.block _ (Array.getElem?_eq_some_iff.1 h1).1]; exact h1, h2⟩
  · intro b b' k1 k2 e1 e2 xs1 xs2 i1 i2 hne g1 g2 n1 n2 p1 p2 z1 z2
    rw [H.get_newAt] at g1 g2
    by_cases hb1 : b = nid
    · have hb2 : b' ≠ nid := fun e => hne (hb1.trans e.symm)
      simp only [hb2, if_false] at g2
      have hp2 : φ b' = some i2 := by simpa [φ', hb2] using p2
      have hp1 : i1 = i := by simpa [φ', hb1] using p1.symm
      subst hp1
      have := hclt b' k2 e2 xs2 i2 g2 hp2 n2 z2
      have := hnew z1
      omega
    · simp only [hb1, if_false] at g1
      have hp1 : φ b = some i1 := by simpa [φ', hb1] using p1
      by_cases hb2 : b' = nid
      · have hp2 : i2 = i := by simpa [φ', hb2] using p2.symm
        subst hp2
        have := hclt b k1 e1 xs1 i1 g1 hp1 n1 z1
        have := hnew z2
        omega
      · simp only [hb2, if_false] at g2
        have hp2 : φ b' = some i2 := by simpa [φ', hb2] using p2
        exact hr.apart b b' k1 k2 e1 e2 xs1 xs2 i1 i2 hne g1 g2 n1 n2 hp1 hp2 z1 z2
  · intro b hb'
    simp only [H.newAt] at hb'
    have h1 : b ≠ nid := by split at hb' <;> omega
    simp [φ', h1, hr.fresh b (by split at hb' <;> omega)]
  · intro b es hg
    rw [H.get_newAt] at hg
    split at hg
    · cases hg
    · exact hr.nomap b es hg

/-! ### cells of a row set anew -/
theorem HR.set {P : Program} {base : Nat} {φ : Phi} {h : H} {w : World} (hr : HR P base φ h w) {b : Nat} {k : BK} {e : TypeId} {xs : List AV} (hb : h.get b = some (.row k e xs)) (hk : k ≠ .ro) {i : BI} (hi : φ b = some i) (hn : i.n ≠ 0)
    {pre mid post mid' : List Value} {ys : List AV} (hl : mid'.length = mid.length) (hys : CVs P φ ys (pre ++ (mid' ++ post))) (hlen : ys.length = xs.length) (hf : ∀ x ∈ ys, Fit P e x)
    (hcell : ∀ j v, (pre ++ (mid ++ post))[j]? = some v → w.cell? ⟨i.c, i.o + j, none⟩ = some v) :
    HR P base φ (h.put b (.row k e ys)) (w.setCells i.c (i.o + pre.length) mid') ∧ Below base w (w.setCells i.c (i.o + pre.length) mid') := by
  obtain ⟨i0, hi0, hrow⟩ := hr.row b k e xs hb
  rw [hi] at hi0
  cases hi0
  have hbase : base ≤ i.c := hrow.own hk hn
  have hbel := below_setCells (w := w) hbase (i.o + pre.length) mid'
  refine ⟨⟨Nat.le_trans hr.size hbel.size, ?_, ?_, hr.fresh, ?_⟩, hbel⟩
  · intro b2 k2 e2 xs2 hg
    rw [H.get_put] at hg
    by_cases hbb : b2 = b
    · simp only [hbb, if_true, Option.some.injEq, Blk.row.injEq] at hg
      obtain ⟨rfl, rfl, rfl⟩ := hg
      refine ⟨i, by rw [hbb]; exact hi, hrow.ie, hrow.held, hrow.canon, hf, by rw [hlen]; exact hrow.len, fun hfx => by rw [hlen]; exact hrow.fixed hfx, hrow.own, hrow.ro, fun _ => ⟨_, hys, fun j v hj => ?_⟩, fun hk2 hn2 => ?_⟩
      · by_cases hin : pre.length ≤ j ∧ j < pre.length + mid'.length
        · have hjj : j = pre.length + (j - pre.length) := by omega
          rw [hjj, ← Nat.add_assoc]
          rw [World.cell?_setCells_in i.c mid' (i.o + pre.length) w (fun m hm => by
            have hx : (pre ++ (mid ++ post))[pre.length + m]? = some mid[m] := by
              rw [List.getElem?_append_right (by omega), Nat.add_sub_cancel_left, List.getElem?_append_left (by omega)]
              simp
            have := hcell _ _ hx
            rw [Nat.add_assoc, this]; rfl) (j - pre.length) (by omega)]
          rw [hjj, List.getElem?_append_right (by omega), Nat.add_sub_cancel_left, List.getElem?_append_left (by omega)] at hj
          rw [← hj, List.getElem?_eq_getElem (by omega)]
        · rw [World.cell?_setCells_out i.c mid' _ w _ (fun _ _ => by simp only; omega)]
          apply hcell
          rw [← hj]
          rcases Nat.lt_or_ge j pre.length with h1 | h1
          · rw [List.getElem?_append_left h1, List.getElem?_append_left h1]
          · rw [List.getElem?_append_right h1, List.getElem?_append_right h1, List.getElem?_append_right (by omega), List.getElem?_append_right (by omega), hl]
      · obtain ⟨arr, T, fz, h1, h2, h3⟩ := hrow.room hk2 hn2
        obtain ⟨arr', q1, q2⟩ := setCells_at i.c mid' (i.o + pre.length) w arr T fz h1
        exact ⟨arr', T, fz, q1, by rw [q2]; exact h2, by rw [q2]; exact h3⟩
    · simp only [hbb, if_false] at hg
      obtain ⟨j, hj, hrow2⟩ := hr.row b2 k2 e2 xs2 hg
      have hne : j.n ≠ 0 → j.c ≠ i.c := by
        intro hjn hc
        by_cases hk2 : k2 = .ro
        · have := hrow2.ro hk2 hjn
          omega
        · exact hr.apart b2 b k2 k e2 e xs2 xs j i hbb hg hb hk2 hk hj hi hjn hn hc
      refine ⟨j, hj, hrow2.ie, hrow2.held, hrow2.canon, hrow2.fit, hrow2.len, hrow2.fixed, hrow2.own, hrow2.ro, fun hjn => ?_, fun hk2 hjn => ?_⟩
      · obtain ⟨cs, h1, h2⟩ := hrow2.mem hjn
        refine ⟨cs, h1, fun m v hv => ?_⟩
        rw [World.cell?_setCells_out i.c mid' _ w _ (fun hx _ => (hne hjn hx).elim)]
        exact h2 m v hv
      · obtain ⟨arr, T, fz, h1, h2⟩ := hrow2.room hk2 hjn
        exact ⟨arr, T, fz, by rw [setCells_other i.c j.c (hne hjn)]; exact h1, h2⟩
  · intro b1 b2 k1 k2 e1 e2 xs1 xs2 i1 i2 hne g1 g2 n1 n2 p1 p2 z1 z2
    rw [H.get_put] at g1 g2
    by_cases hb1 : b1 = b
    · have hb2 : b2 ≠ b := fun e => hne (hb1.trans e.symm)
      simp only [hb2, if_false] at g2
      rw [hb1] at p1
      exact hr.apart b b2 k k2 e e2 xs xs2 i1 i2 (Ne.symm hb2) hb g2 hk n2 p1 p2 z1 z2
    · simp only [hb1, if_false] at g1
      by_cases hb2 : b2 = b
      · rw [hb2] at p2
        exact hr.apart b1 b k1 k e1 e xs1 xs i1 i2 hb1 g1 hb n1 hk p1 p2 z1 z2
      · simp only [hb2, if_false] at g2
        exact hr.apart b1 b2 k1 k2 e1 e2 xs1 xs2 i1 i2 hne g1 g2 n1 n2 p1 p2 z1 z2
  · intro b2 es hg
    rw [H.get_put] at hg
    split at hg
    · cases hg
    · exact hr.nomap b2 es hg

/-! ### reading -/
theorem at?_empty (e : TypeId) : ∀ (i : Nat) (p : List Nat), at? (i :: p) (.agg e []) = none
  | i, [] => by simp [at?]
  | i, j :: p => by rw [at?, at?_empty e j p]

theorem HR.read {P : Program} (g : Good P) {base : Nat} {φ : Phi} {h : H} {w : World} (hr : HR P base φ h w) {b : Nat} {p : List Nat} {v : AV} (hv : h.read b p = some v) {i : BI} (hi : φ b = some i) {off : Nat} {t : TypeId} (hp : place P i.e p = some (off, t)) :
    t < P.types.size ∧ Fit P t v ∧ ∃ cs, CV P φ v cs ∧ cs.length = P.cellsOf t ∧ ∀ j u, cs[j]? = some u → w.cell? ⟨i.c, i.o + off + j, none⟩ = some u := by
  unfold H.read at hv
  split at hv <;> try (cases hv; done)
  rename_i k e xs hb
  obtain ⟨i0, hi0, hrow⟩ := hr.row b k e xs hb
  rw [hi] at hi0
  cases hi0
  rw [hrow.ie] at hp
  have hne : i.n ≠ 0 := by
    intro hn
    have : xs = [] := by
      have := hrow.len
      rw [hn] at this
      exact List.length_eq_zero_iff.1 (by omega)
    subst this
    cases p with
    | nil => simp [place] at hp
    | cons a q => rw [at?_empty] at hv; cases hv
  obtain ⟨cs, hcs, hcell⟩ := hrow.mem hne
  obtain ⟨h1, h2, pre, mid, post, h3, h4, h5, _⟩ := path_sub g (heldT_lt hrow.held) hrow.fit hcs hv hp
  refine ⟨h1, h2, mid, h5, CV_len g h1 h2 h5, fun j u hu => ?_⟩
  have hj : j < mid.length := (List.getElem?_eq_some_iff.1 hu).1
  have := hcell (off + j) u (by rw [h3, ← h4, List.getElem?_append_right (by omega), Nat.add_sub_cancel_left, List.getElem?_append_left hj]; exact hu)
  rwa [Nat.add_assoc]

/-- a part of a row -/
theorem CVs_part {P : Program} (g : Good P) {φ : Phi} {e : TypeId} (he : e < P.types.size) {xs : List AV} {cs : List Value} (hf : ∀ x ∈ xs, Fit P e x) (hc : CVs P φ xs cs) {off len : Nat} (hl : off + len ≤ xs.length) :
    ∃ pre mid post, cs = pre ++ (mid ++ post) ∧ pre.length = off * P.cellsOf e ∧ mid.length = len * P.cellsOf e ∧ CVs P φ ((xs.drop off).take len) mid ∧
      ∀ ys mid', CVs P φ ys mid' → CVs P φ (xs.take off ++ ys ++ xs.drop (off + len)) (pre ++ (mid' ++ post)) := by
  have e1 : xs = xs.take off ++ ((xs.drop off).take len ++ xs.drop (off + len)) := by
    rw [← List.drop_drop, List.take_append_drop, List.take_append_drop]
  rw [e1] at hc
  obtain ⟨pre, r, h1, h2, rfl⟩ := CVs_append.1 hc
  obtain ⟨mid, post, h3, h4, rfl⟩ := CVs_append.1 h2
  refine ⟨pre, mid, post, rfl, ?_, ?_, h3, fun ys mid' hy => ?_⟩
  · rw [CVs_len_all g he (fun x hx => hf x (List.mem_of_mem_take hx)) h1, List.length_take, Nat.min_eq_left (by omega)]
  · rw [CVs_len_all g he (fun x hx => hf x (List.mem_of_mem_drop (List.mem_of_mem_take hx))) h3, List.length_take, List.length_drop, Nat.min_eq_left (by omega)]
  · rw [List.append_assoc]
    exact CVs_append.2 ⟨pre, mid' ++ post, h1, CVs_append.2 ⟨mid', post, hy, h4, rfl⟩, rfl⟩

/-- a place in a block that is read: the block's parts -/
theorem HR.at {P : Program} {base : Nat} {φ : Phi} {h : H} {w : World} (hr : HR P base φ h w) {b : Nat} {p : List Nat} {v : AV} (hv : h.read b p = some v) {i : BI} (hi : φ b = some i) :
    ∃ k xs, h.get b = some (.row k i.e xs) ∧ at? p (.agg i.e xs) = some v ∧ RowR P base φ w k i.e xs i := by
  unfold H.read at hv
  split at hv <;> try (cases hv; done)
  rename_i k e xs hb
  obtain ⟨i0, hi0, hrow⟩ := hr.row b k e xs hb
  rw [hi] at hi0
  cases hi0
  have := hrow.ie
  subst this
  exact ⟨k, xs, hb, hv, hrow⟩

/-- the elements of a slice, read -/
theorem HR.elems {P : Program} (g : Good P) {base : Nat} {φ : Phi} {h : H} {w : World} (hr : HR P base φ h w) {b : Nat} {p : List Nat} {off len : Nat} {ys : List AV} (hv : h.elems b p off len = some ys) {i : BI} (hi : φ b = some i) {off0 N : Nat} {e' : TypeId} (hp : rowPlace P i.n i.e p = some (off0, N, e')) :
    ys.length = len ∧ (∀ x ∈ ys, Fit P e' x) ∧ ∃ cs, CVs P φ ys cs ∧ cs.length = len * P.cellsOf e' ∧ ∀ j u, cs[j]? = some u → w.cell? ⟨i.c, i.o + off0 + off * P.cellsOf e' + j, none⟩ = some u := by
  unfold H.elems at hv
  split at hv <;> try (cases hv; done)
  rename_i tt zs hread
  split at hv <;> try (cases hv; done)
  rename_i hl
  simp only [Option.some.injEq] at hv
  subst hv
  obtain ⟨k, xs, hb, hat, hrow⟩ := hr.at hread hi
  by_cases hz : i.n = 0
  · have hx : xs = [] := List.length_eq_zero_iff.1 (by have := hrow.len; omega)
    subst hx
    cases p with
    | nil =>
      simp only [at?, Option.some.injEq, AV.agg.injEq] at hat
      obtain ⟨rfl, rfl⟩ := hat
      simp only [List.length_nil, Nat.le_zero_eq, Nat.add_eq_zero_iff] at hl
      obtain ⟨rfl, rfl⟩ := hl
      simp only [rowPlace, Option.some.injEq, Prod.mk.injEq] at hp
      obtain ⟨rfl, rfl, rfl⟩ := hp
      exact ⟨by simp, by simp, [], by simp [CVs], by simp, by simp⟩
    | cons a q => rw [at?_empty] at hat; cases hat
  · obtain ⟨cs, hcs, hcell⟩ := hrow.mem hz
    obtain ⟨h1, h2, h3, h4, pre, mid, post, h5, h6, h7, _⟩ := row_sub g (heldT_lt hrow.held) hrow.fit hcs hrow.len hat hp
    obtain ⟨pre2, mid2, post2, k1, k2, k3, k4, _⟩ := CVs_part g h1 h4 h7 hl
    refine ⟨by rw [List.length_take, List.length_drop]; omega, fun x hx => h4 x (List.mem_of_mem_drop (List.mem_of_mem_take hx)), mid2, k4, k3, fun j u hu => ?_⟩
    have hj : j < mid2.length := (List.getElem?_eq_some_iff.1 hu).1
    have := hcell (off0 + off * P.cellsOf e' + j) u (by
      rw [h5, k1, ← h6, ← k2, List.getElem?_append_right (by omega), List.append_assoc, show pre.length + pre2.length + j - pre.length = pre2.length + j by omega, List.getElem?_append_right (by omega), show pre2.length + j - pre2.length = j by omega, List.append_assoc, List.getElem?_append_left hj]
      exact hu)
    rwa [show i.o + off0 + off * P.cellsOf e' + j = i.o + (off0 + off * P.cellsOf e' + j) by omega]

/-- what can be written -/
theorem HR.at_write {P : Program} {base : Nat} {φ : Phi} {h h' : H} {w : World} (hr : HR P base φ h w) {b : Nat} {p : List Nat} {y : AV} (hv : h.write b p y = some h') {i : BI} (hi : φ b = some i) :
    ∃ k xs t ys, k ≠ .ro ∧ h.get b = some (.row k i.e xs) ∧ put? p (.agg i.e xs) y = some (.agg t ys) ∧ h' = h.put b (.row k i.e ys) ∧ RowR P base φ w k i.e xs i := by
  unfold H.write at hv
  split at hv <;> try (cases hv; done)
  rename_i k e xs hb
  obtain ⟨i0, hi0, hrow⟩ := hr.row b k e xs hb
  rw [hi] at hi0
  cases hi0
  have := hrow.ie
  subst this
  split at hv <;> try (cases hv; done)
  rename_i hk
  split at hv <;> try (cases hv; done)
  rename_i t ys hp
  simp only [Option.some.injEq] at hv
  exact ⟨k, xs, t, ys, hk, hb, hp, hv.symm, hrow⟩

theorem put?_at {xs : List AV} {e : TypeId} : ∀ {p : List Nat} {y r : AV}, put? p (.agg e xs) y = some r → ∃ v, at? p (.agg e xs) = some v
  | [], y, r, _ => ⟨_, rfl⟩
  | i :: p, y, r, h => by
    rw [put?] at h
    split at h <;> try (cases h; done)
    rename_i t zs hz
    split at h <;> try (cases h; done)
    rename_i hl
    exact ⟨zs[i], by simp [at?, hz, hl]⟩

/-- a variable, written -/
theorem HR.write {P : Program} (g : Good P) {base : Nat} {φ : Phi} {h h' : H} {w : World} (hr : HR P base φ h w) {b : Nat} {p : List Nat} {y : AV} (hv : h.write b p y = some h') {i : BI} (hi : φ b = some i) {off : Nat} {t : TypeId} (hp : place P i.e p = some (off, t)) (hf : Fit P t y) {cs : List Value} (hc : CV P φ y cs) :
    HR P base φ h' (w.setCells i.c (i.o + off) cs) ∧ Below base w (w.setCells i.c (i.o + off) cs) ∧
      (∀ j, j < cs.length → (w.cell? ⟨i.c, i.o + off + j, none⟩).isSome = true) ∧ (∀ j, j < cs.length → w.frozen? ⟨i.c, i.o + off + j, none⟩ = false) := by
  obtain ⟨k, xs, t0, ys, hk, hb, hput, rfl, hrow⟩ := hr.at_write hv hi
  obtain ⟨v, hat⟩ := put?_at hput
  have hz : i.n ≠ 0 := by
    intro hz
    have hx : xs = [] := List.length_eq_zero_iff.1 (by have := hrow.len; omega)
    subst hx
    cases p with
    | nil => simp [place] at hp
    | cons a q => rw [at?_empty] at hat; cases hat
  obtain ⟨cs0, hcs, hcell⟩ := hrow.mem hz
  obtain ⟨h1, h2, pre, mid, post, h3, h4, h5, h6⟩ := path_sub g (heldT_lt hrow.held) hrow.fit hcs hat hp
  obtain ⟨ys', q1, q2, q3, q4⟩ := h6 y cs hf hc
  rw [q1] at hput
  simp only [Option.some.injEq, AV.agg.injEq] at hput
  obtain ⟨_, rfl⟩ := hput
  subst h3
  have hl : cs.length = mid.length := by rw [CV_len g h1 hf hc, CV_len g h1 h2 h5]
  have := hr.set hb hk hi hz (mid' := cs) hl q4 q2 q3 hcell
  rw [h4] at this
  obtain ⟨arr, T, fz, r1, r2, r3⟩ := hrow.room hk hz
  have hlen := CVs_len_all g (heldT_lt hrow.held) hrow.fit hcs
  have hle : xs.length * P.cellsOf i.e ≤ i.n * P.cellsOf i.e := Nat.mul_le_mul_right _ hrow.len
  simp only [List.length_append] at hlen
  exact ⟨this.1, this.2, fun j hj => cell_some r1 (by omega), fun j hj => frozen_false r1 r3 (by omega)⟩

/-- elements of a slice, written -/
theorem HR.putElems {P : Program} (g : Good P) {base : Nat} {φ : Phi} {h h' : H} {w : World} (hr : HR P base φ h w) {b : Nat} {p : List Nat} {off : Nat} {ys : List AV} (hv : h.putElems b p off ys = some h') (hys : ys ≠ []) {i : BI} (hi : φ b = some i) {off0 N : Nat} {e' : TypeId} (hp : rowPlace P i.n i.e p = some (off0, N, e')) (hf : ∀ x ∈ ys, Fit P e' x) {cs : List Value} (hc : CVs P φ ys cs) :
    HR P base φ h' (w.setCells i.c (i.o + off0 + off * P.cellsOf e') cs) ∧ Below base w (w.setCells i.c (i.o + off0 + off * P.cellsOf e') cs) ∧
      (∀ j, j < cs.length → (w.cell? ⟨i.c, i.o + off0 + off * P.cellsOf e' + j, none⟩).isSome = true) ∧ (∀ j, j < cs.length → w.frozen? ⟨i.c, i.o + off0 + off * P.cellsOf e' + j, none⟩ = false) := by
  unfold H.putElems at hv
  split at hv <;> try (cases hv; done)
  rename_i tt zs hread
  split at hv <;> try (cases hv; done)
  rename_i hl
  obtain ⟨k, xs, t0, ys', hk, hb, hput, rfl, hrow⟩ := hr.at_write hv hi
  obtain ⟨k2, xs2, hb2, hat, _⟩ := hr.at hread hi
  rw [hb] at hb2
  simp only [Option.some.injEq, Blk.row.injEq] at hb2
  obtain ⟨rfl, _, rfl⟩ := hb2
  have hz : i.n ≠ 0 := by
    intro hz
    have hx : xs = [] := List.length_eq_zero_iff.1 (by have := hrow.len; omega)
    subst hx
    cases p with
    | nil =>
      simp only [at?, Option.some.injEq, AV.agg.injEq] at hat
      obtain ⟨rfl, rfl⟩ := hat
      simp only [List.length_nil, Nat.le_zero_eq, Nat.add_eq_zero_iff] at hl
      exact hys (List.length_eq_zero_iff.1 hl.2)
    | cons a q => rw [at?_empty] at hat; cases hat
  obtain ⟨cs0, hcs, hcell⟩ := hrow.mem hz
  obtain ⟨h1, h2, _, h4, pre, mid, post, h5, h6, h7, h8⟩ := row_sub g (heldT_lt hrow.held) hrow.fit hcs hrow.len hat hp
  obtain ⟨pre2, mid2, post2, k1, k2', k3, k4, k5⟩ := CVs_part g h1 h4 h7 hl
  have hcl := CVs_len_all g h1 hf hc
  have hfz : ∀ x ∈ zs.take off ++ ys ++ zs.drop (off + ys.length), Fit P e' x := by
    intro x hx
    simp only [List.append_assoc, List.mem_append] at hx
    rcases hx with hx | hx | hx
    · exact h4 x (List.mem_of_mem_take hx)
    · exact hf x hx
    · exact h4 x (List.mem_of_mem_drop hx)
  obtain ⟨ys2, q1, q2, q3, q4⟩ := h8 (zs.take off ++ ys ++ zs.drop (off + ys.length)) (pre2 ++ (cs ++ post2)) (by simp only [List.length_append, List.length_take, List.length_drop]; omega) hfz (k5 ys cs hc)
  rw [q1] at hput
  simp only [Option.some.injEq, AV.agg.injEq] at hput
  obtain ⟨_, rfl⟩ := hput
  have e1 : cs0 = (pre ++ pre2) ++ (mid2 ++ (post2 ++ post)) := by rw [h5, k1]; simp
  have e2 : pre ++ (pre2 ++ (cs ++ post2) ++ post) = (pre ++ pre2) ++ (cs ++ (post2 ++ post)) := by simp
  rw [e2] at q4
  rw [e1] at hcell
  have := hr.set hb hk hi hz (mid' := cs) (by rw [hcl, k3]) q4 q2 q3 hcell
  rw [List.length_append, h6, k2', ← Nat.add_assoc] at this
  obtain ⟨arr, T, fz, r1, r2, r3⟩ := hrow.room hk hz
  have hlen := CVs_len_all g (heldT_lt hrow.held) hrow.fit hcs
  have hle : xs.length * P.cellsOf i.e ≤ i.n * P.cellsOf i.e := Nat.mul_le_mul_right _ hrow.len
  rw [e1] at hlen
  simp only [List.length_append] at hlen
  rw [hcl] at *
  exact ⟨this.1, this.2, fun j hj => cell_some r1 (by omega), fun j hj => frozen_false r1 r3 (by omega)⟩

end Go.Dam

namespace Go.Dam
open Go.RowKit (Below)

abbrev EnvR (P : Program) (φ : Phi) (r : Env) (a : Act) : Prop := ∀ t, VV P φ (r t) (a.tmps.getD t undef)

def Runs (P : Program) (o : Oper) (a : Act) (w : World) (cv : Value) (w' : World) : Prop :=
  (execOp a.eval o).run P w = .ok (.value cv) w' ∨ ((execOp a.eval o).run P w = .ok .skip w' ∧ cv = undef)

/-- below a number nothing has turned, but that of one block more is known -/
def PhiNx (φ φ' : Phi) (nx nid : Nat) : Prop := PhiLe φ φ' ∧ ∀ b, b < nx → b ≠ nid → φ' b = φ b
theorem PhiNx.refl (φ : Phi) (nx nid : Nat) : PhiNx φ φ nx nid := ⟨PhiLe.refl _, fun _ _ _ => rfl⟩
theorem PhiTo.atNext {φ φ' : Phi} {n : Nat} (h : PhiTo φ φ' n) (nid : Nat) : PhiNx φ φ' n nid := ⟨h.1, fun b hb _ => h.2 b (by omega)⟩
theorem PhiTo.nx {φ φ' : Phi} {nid : Nat} (h : PhiTo φ φ' nid) (nx : Nat) : PhiNx φ φ' nx nid := ⟨h.1, fun b _ hb => h.2 b hb⟩

def Out (P : Program) (base : Nat) (φ : Phi) (nx nid : Nat) (o : Oper) (a : Act) (w : World) (v : AV) (h' : H) : Prop :=
  ∃ φ' cv w', Runs P o a w cv w' ∧ PhiNx φ φ' nx nid ∧ VV P φ' v cv ∧ HR P base φ' h' w' ∧ Below base w w'

theorem Out.pure {P : Program} {base : Nat} {φ : Phi} {o : Oper} {a : Act} {w : World} {v : AV} {h : H} {cv : Value} {nx nid : Nat} (hr : HR P base φ h w) (h1 : (execOp a.eval o).run P w = .ok (.value cv) w) (h2 : VV P φ v cv) : Out P base φ nx nid o a w v h :=
  ⟨φ, cv, w, .inl h1, PhiNx.refl _ _ _, h2, hr, Below.refl _ _⟩

theorem undef_VV {P : Program} {φ : Phi} : VV P φ undefA undef := ⟨[], rfl, rfl⟩

theorem constA_VV {P : Program} {φ : Phi} {v : Value} {u : AV} (h : constA v = some u) : VV P φ u v := by
  unfold constA at h
  split at h <;> first | (cases h; done) | (simp only [Option.some.injEq] at h; subst h; exact rfl)

theorem opnd_VV {P : Program} {φ : Phi} {r : Env} {a : Act} (he : EnvR P φ r a) {x : Operand} {y : Opnd} (h : opnd x = some y) : VV P φ (y.ev r) (a.eval x) := by
  cases x with
  | tmp t => simp only [opnd, Option.some.injEq] at h; subst h; exact he t
  | const v =>
    simp only [opnd, Option.map_eq_some_iff] at h
    obtain ⟨u, hu, rfl⟩ := h
    exact constA_VV hu
  | func f => simp only [opnd, Option.some.injEq] at h; subst h; exact ⟨[], [], rfl, rfl, rfl⟩
  | global _ => simp [opnd] at h

/-! ### from a value to its cells and back -/
theorem agg_of {x : AV} (h : ¬ x.isAgg = false) : ∃ t xs, x = .agg t xs := by
  cases x <;> first | exact ⟨_, _, rfl⟩ | (exact (h rfl).elim)
theorem tup_of {x : AV} (h : ¬ x.isTup = false) : ∃ xs, x = .tup xs := by
  cases x <;> first | exact ⟨_, rfl⟩ | (exact (h rfl).elim)
theorem VV_sv {P : Program} {φ : Phi} {x : AV} {v : Value} (ha : x.isAgg = false) (ht : x.isTup = false) : VV P φ x v ↔ SV P φ x v := by
  cases x <;> first | exact Iff.rfl | (simp [AV.isAgg] at ha; done) | (simp [AV.isTup] at ht; done)
theorem CV_sv {P : Program} {φ : Phi} {x : AV} {cs : List Value} (ha : x.isAgg = false) (ht : x.isTup = false) : CV P φ x cs ↔ ∃ v, SV P φ x v ∧ cs = [v] := by
  cases x <;> first | (simp only [CV]; done) | (simp [AV.isAgg] at ha; done) | (simp [AV.isTup] at ht; done)
theorem fit_sv {P : Program} {t : TypeId} {x : AV} (ha : x.isAgg = false) (ht : x.isTup = false) : Fit P t x ↔ primOK P t x = true := by
  cases x <;> first | (simp only [Fit, fitB]; done) | (simp [AV.isAgg] at ha; done) | (simp [AV.isTup] at ht; done)
theorem kd_agg {P : Program} {t : TypeId} {k : Kd} (h : kdOf P t = some k) : isAggT P t = k.isAgg := by
  unfold kdOf at h
  unfold isAggT
  split at h <;> first | (cases h; done) | (simp only [Option.some.injEq] at h; subst h; rename_i hu; rw [hu]; rfl)
theorem prim_not_agg {P : Program} {t : TypeId} {x : AV} (h : primOK P t x = true) : isAggT P t = false := by
  unfold primOK at h
  split at h
  · rename_i k hk
    rw [kd_agg hk]
    simp only [Bool.and_eq_true, Bool.not_eq_true'] at h
    exact h.1.1
  · cases h
/-- what the kind of a type asks makes a value of that type -/
theorem fit_kd {P : Program} (g : Good P) {φ : Phi} {t : TypeId} (ht : heldT P t = true) {k : Kd} (hk : kdOf P t = some k) {x : AV} {v : Value} (hv : VV P φ x v) (h : k.ok x = true) : x.isTup = false ∧ Fit P t x := by
  have hlt := heldT_lt ht
  by_cases ha : k.isAgg = true
  · cases k <;> simp only [Kd.isAgg] at ha <;> try (cases ha; done)
    rename_i t1
    cases x <;> simp only [Kd.ok] at h <;> try (cases h; done)
    rename_i t2 xs
    simp only [beq_iff_eq] at h
    subst h
    have h1 : t1 = canon P t := by
      unfold kdOf at hk
      split at hk <;> simp only [Option.some.injEq, Kd.agg.injEq, reduceCtorEq] at hk
      · exact hk.symm
      · exact hk.symm
    subst h1
    exact ⟨rfl, (fit_canon g hlt _).1 hv.1.2.2⟩
  · have ha : k.isAgg = false := by simpa using ha
    have hx : x.isAgg = false ∧ x.isTup = false := by
      cases x <;> first | exact ⟨rfl, rfl⟩ | (cases k <;> simp [Kd.ok, Kd.isAgg] at h ha)
    refine ⟨hx.2, (fit_sv hx.1 hx.2).2 ?_⟩
    simp only [heldT, hk, ha, Bool.and_eq_true, Bool.false_or] at ht
    simp [primOK, hk, ha, h, ht.2]

theorem one_cells {v : Value} (h : v.oneCell' = true) : v.cells.toList = [v] := by
  cases v <;> first | rfl | (simp [Value.oneCell'] at h)

theorem cells_of {P : Program} {φ : Phi} {x : AV} {v : Value} (h : VV P φ x v) (ht : x.isTup = false) : CV P φ x v.cells.toList := by
  by_cases ha : x.isAgg = false
  · have hs := (VV_sv ha ht).1 h
    rw [one_cells (SV_one hs)]
    exact (CV_sv ha ht).2 ⟨v, hs, rfl⟩
  · obtain ⟨t, xs, rfl⟩ := agg_of ha
    obtain ⟨_, cs, h2, rfl⟩ := h
    simpa [Value.cells, CV] using h2

theorem agg_fit {P : Program} {φ : Phi} {t : TypeId} {xs : List AV} {v : Value} (h : VV P φ (.agg t xs) v) : canon P t = t ∧ t < P.types.size ∧ Fit P t (.agg t xs) := h.1

/-- a value of a type, out of its cells -/
theorem value_of {P : Program} (g : Good P) {φ : Phi} {x : AV} {t : TypeId} {cs : List Value} (ht : t < P.types.size) (hf : Fit P t x) (hc : CV P φ x cs) :
    (isAggT P t = true ∧ VV P φ x (.agg cs.toArray)) ∨ (isAggT P t = false ∧ ∃ v, cs = [v] ∧ VV P φ x v ∧ x.isAgg = false ∧ v.oneCell' = true) := by
  by_cases htup : x.isTup = false
  · by_cases ha : x.isAgg = false
    · obtain ⟨v, hv, rfl⟩ := (CV_sv ha htup).1 hc
      exact .inr ⟨prim_not_agg ((fit_sv ha htup).1 hf), v, rfl, (VV_sv ha htup).2 hv, ha, SV_one hv⟩
    · obtain ⟨t', xs, rfl⟩ := agg_of ha
      refine .inl ⟨?_, ?_⟩
      · rcases fit_agg hf with ⟨_, ⟨fs, hu, _⟩ | ⟨n, e, hu, _⟩⟩ <;> simp [isAggT, aggD, hu]
      · have h1 := (fit_agg hf).1
        subst h1
        exact ⟨⟨g.canon_canon ht, g.canon_lt ht, (fit_canon g ht _).2 hf⟩, cs, by simpa [CV] using hc, rfl⟩
  · obtain ⟨xs, rfl⟩ := tup_of htup
    exact hc.elim

theorem heldT_canon {P : Program} (g : Good P) {e : TypeId} (h : heldT P e = true) : heldT P (canon P e) = true := by
  have hlt := heldT_lt h
  simp only [heldT, kdOf, g.und_canon hlt, g.canon_canon hlt, g.cells_canon hlt, Bool.and_eq_true, decide_eq_true_eq] at h ⊢
  exact ⟨⟨g.canon_lt hlt, h.1.2⟩, h.2⟩

/-! ### a new row -/
theorem HR.alloc {P : Program} (g : Good P) {base : Nat} {φ : Phi} {h : H} {w : World} (hr : HR P base φ h w) {nid : Nat} (hnid : φ nid = none) (hle : nid ≤ h.next) {e0 : TypeId} (he : heldT P e0 = true) {xs : List AV} {cs : List Value} (hc : CVs P φ xs cs) (hf : ∀ x ∈ xs, Fit P e0 x)
    (arr : Array Value) (T : TypeId) (n : Nat) (k : BK) (hk : k ≠ .ro) (hfx : k = .fixed → xs.length = n) (hn : xs.length ≤ n) (harr : ∀ (j : Nat) (v : Value), cs[j]? = some v → arr[j]? = some v) (hsz : n * P.cellsOf e0 ≤ arr.size) :
    ∃ φ', PhiTo φ φ' nid ∧ φ' nid = some ⟨w.heap.size, 0, n, canon P e0⟩ ∧ HR P base φ' (h.newAt nid (.row k (canon P e0) xs)) (w.alloc (.cells arr T)) ∧ Below base w (w.alloc (.cells arr T)) := by
  have hlt := heldT_lt he
  have hbel : Below w.heap.size w (w.alloc (.cells arr T)) := (Below.refl _ _).alloc (Nat.le_refl _) _
  have hnew : (w.alloc (.cells arr T)).heap[w.heap.size]? = some (.cells arr T (0, 0)) := heap_alloc_new w _
  obtain ⟨φ', h1, h2, h3⟩ := hr.new hnid hle (k := k) (e := canon P e0) (xs := xs) (i := ⟨w.heap.size, 0, n, canon P e0⟩) hbel (fun φ' hle => by
    refine ⟨rfl, heldT_canon g he, g.canon_canon hlt, fun x hx => (fit_canon g hlt x).2 (hf x hx), hn, hfx, fun _ _ => hr.size, fun h => (hk h).elim, fun _ => ⟨cs, CVs.mono hle hc, fun j v hj => ?_⟩, fun _ _ => ⟨arr, T, (0, 0), hnew, ?_, .inl rfl⟩⟩
    · simp only [World.cell?, hnew, Nat.zero_add]
      simpa using harr j v hj
    · simpa [g.cells_canon hlt] using hsz) (fun _ => Nat.le_refl _)
  exact ⟨φ', h1, h2, h3, hbel.mono hr.size⟩

theorem ptr_new {P : Program} (g : Good P) {φ : Phi} {b c n : Nat} {e0 : TypeId} (he : e0 < P.types.size) (h : φ b = some ⟨c, 0, n, canon P e0⟩) : VV P φ (.ptr b [0] (canon P e0)) (.pointer (some ⟨c, 0, none⟩)) :=
  ⟨_, 0, canon P e0, h, by simp [place], g.canon_canon he, g.canon_lt he, by simp⟩
theorem slice_new {P : Program} (g : Good P) {φ : Phi} {b c n len : Nat} {e0 : TypeId} (he : e0 < P.types.size) (h : φ b = some ⟨c, 0, n, canon P e0⟩) (hl : len ≤ n) : VV P φ (.slice b [] 0 len (canon P e0)) (.slice (some ⟨c, 0, none⟩) len n) :=
  ⟨_, 0, n, canon P e0, ⟨c, 0, none⟩, h, by simp [rowPlace], g.canon_canon he, g.canon_lt he, by omega, .inl (by simp), by simp⟩

/-! ### zero values -/
theorem cellB_eq {a b : Value} (h : cellB a b = true) : a = b := by
  unfold cellB at h
  split at h
  · simp only [beq_iff_eq] at h; subst h; rfl
  · simp only [Bool.and_eq_true, beq_iff_eq] at h; obtain ⟨rfl, rfl⟩ := h; rfl
  · rename_i x y
    cases x; cases y; simp at h; subst h; rfl
  · rfl
  · simp only [Bool.and_eq_true, beq_iff_eq] at h; obtain ⟨rfl, rfl⟩ := h; rfl
  · rfl
  · rfl
  · cases h
theorem cellsB_eq : ∀ {a b : List Value}, cellsB a b = true → a = b
  | [], [], _ => rfl
  | [], _ :: _, h => by simp [cellsB] at h
  | _ :: _, [], h => by simp [cellsB] at h
  | x :: xs, y :: ys, h => by
    simp only [cellsB, Bool.and_eq_true] at h
    rw [cellB_eq h.1, cellsB_eq h.2]
mutual
theorem flatA_CV {P : Program} {φ : Phi} : ∀ {x : AV} {cs : List Value}, flatA x = some cs → CV P φ x cs
  | .agg t xs, cs, h => by
    simp only [flatA] at h
    simp only [CV]
    exact flatAs_CVs h
  | .tup _, _, h | .ptr .., _, h | .slice .., _, h | .map _, _, h | .fn .., _, h => by simp [flatA] at h
  | .bool _, _, h | .int .., _, h | .str _, _, h | .nilp, _, h | .nils, _, h | .nilm, _, h | .nilf, _, h => by
    simp only [flatA, Option.some.injEq] at h
    subst h
    simp only [CV]
    exact ⟨_, rfl, rfl⟩
theorem flatAs_CVs {P : Program} {φ : Phi} : ∀ {xs : List AV} {cs : List Value}, flatAs xs = some cs → CVs P φ xs cs
  | [], cs, h => by simp only [flatAs, Option.some.injEq] at h; subst h; simp [CVs]
  | x :: xs, cs, h => by
    simp only [flatAs] at h
    split at h <;> try (cases h; done)
    rename_i a b h1 h2
    simp only [Option.some.injEq] at h
    subst h
    simp only [CVs]
    exact ⟨a, b, flatA_CV h1, flatAs_CVs h2, rfl⟩
end

/-- the zero value: what the model has, what the machine has -/
theorem zero_VV {P : Program} {e : TypeId} (h : zeroOK P e = true) : ∃ i z, P.info? e = some i ∧ i.zero = some z ∧ Fit P e (zeroOf (teOf P) zeroFuel (canon P e)) ∧ (∀ φ, CV P φ (zeroOf (teOf P) zeroFuel (canon P e)) z.cells.toList) := by
  simp only [zeroOK, Bool.and_eq_true] at h
  obtain ⟨h1, h2⟩ := h
  split at h2 <;> try (cases h2; done)
  rename_i v cs hz hfl
  simp only [Bool.and_eq_true] at h2
  cases hi : P.info? e with
  | none => rw [hi] at hz; cases hz
  | some i =>
    rw [hi] at hz
    refine ⟨i, v, rfl, hz, h1, fun φ => ?_⟩
    rw [cellsB_eq h2.2]
    exact flatA_CV hfl
theorem run_zero {P : Program} {e : TypeId} {i : TypeInfo} {z : Value} (hi : P.info? e = some i) (hz : i.zero = some z) (w : World) : (zeroValue e).run P w = .ok z w := by
  simp [zeroValue, run_typeInfo w hi, hz]

end Go.Dam

namespace Go.Dam
open Go.RowKit (Below)

theorem addr_add (c o n : Nat) : (⟨c, o, none⟩ : Addr).add n = ⟨c, o + n, none⟩ := by
  unfold Addr.add; split <;> simp_all

theorem held_und {P : Program} {t : TypeId} (h : heldT P t = true) : ∃ d i, P.underlying t = some d ∧ P.info? t = some i ∧ isAggT P t = aggD d := by
  have : ∃ d, P.underlying t = some d := by
    cases hu : P.underlying t with
    | some d => exact ⟨d, rfl⟩
    | none => simp [heldT, kdOf, hu] at h
  obtain ⟨d, hd⟩ := this
  obtain ⟨i, hi⟩ := info_of_underlying hd
  exact ⟨d, i, hd, hi, by simp [isAggT, hd]⟩

section
variable {P : Program} (w : World)
theorem run_isAgg {t : TypeId} {d : TypeDesc} (h : P.underlying t = some d) : (isAgg t).run P w = .ok (aggD d) w := by
  unfold isAgg
  rw [Sem.run_bind, run_underlying h, Result.andThen_ok]
  cases d <;> rfl
theorem run_size {t : TypeId} (h : heldT P t = true) : (sizeOf t).run P w = .ok (P.cellsOf t) w := by
  obtain ⟨d, i, _, hi, _⟩ := held_und h
  exact run_sizeOf w hi
theorem run_und {t : TypeId} {d : TypeDesc} (h : P.underlying t = some d) : (underlying t).run P w = .ok d w := run_underlying h w
end

theorem run_loadVar {P : Program} (g : Good P) {φ : Phi} {w : World} {t : TypeId} {x : AV} {cs : List Value} {c o : Nat} (hh : heldT P t = true) (hf : Fit P t x) (hc : CV P φ x cs)
    (hcell : ∀ (j : Nat) (u : Value), cs[j]? = some u → w.cell? ⟨c, o + j, none⟩ = some u) : ∃ cv, (loadVar t ⟨c, o, none⟩).run P w = .ok cv w ∧ VV P φ x cv := by
  obtain ⟨d, i, hu, hi, hag⟩ := held_und hh
  have hlen := CV_len g (heldT_lt hh) hf hc
  have hcell' : ∀ (j : Nat) (u : Value), cs[j]? = some u → w.cell? ((⟨c, o, none⟩ : Addr).add j) = some u := fun j u hj => by rw [addr_add]; exact hcell j u hj
  rcases value_of g (heldT_lt hh) hf hc with ⟨ha, hv⟩ | ⟨ha, v, rfl, hv, _⟩
  · rw [hag] at ha
    refine ⟨_, ?_, hv⟩
    unfold loadVar
    have hl := run_loadCells_list (P := P) w ⟨c, o, none⟩ cs hcell'
    rw [hlen] at hl
    simp only [Sem.run_bind, run_isAgg w hu, ha, Result.andThen_ok, if_true, run_size w hh, hl, Sem.run_pure]
  · rw [hag] at ha
    refine ⟨v, ?_, hv⟩
    unfold loadVar
    have h0 := hcell 0 v (by simp)
    simp only [Sem.run_bind, run_isAgg w hu, ha, Result.andThen_ok, Bool.false_eq_true, if_false, run_load]
    rw [show (⟨c, o, none⟩ : Addr) = ⟨c, o + 0, none⟩ from rfl, h0]

theorem run_storeVar {P : Program} (g : Good P) {φ : Phi} {w : World} {t : TypeId} {x : AV} {v : Value} {c o : Nat} (hh : heldT P t = true) (hf : Fit P t x) (hv : VV P φ x v) (htup : x.isTup = false)
    (h1 : ∀ j, j < v.cells.toList.length → (w.cell? ⟨c, o + j, none⟩).isSome = true) (h2 : ∀ j, j < v.cells.toList.length → w.frozen? ⟨c, o + j, none⟩ = false) :
    (storeVar t ⟨c, o, none⟩ v).run P w = .ok () (w.setCells c o v.cells.toList) := by
  have hc := cells_of hv htup
  have hlen := CV_len g (heldT_lt hh) hf hc
  have := run_storeCells_cells (P := P) c o v.cells.toList 0 w (by simpa using h1) (by simpa using h2) (CV_one hc)
  unfold storeVar
  have hsz : v.cells.size = P.cellsOf t := by simpa using hlen
  simp only [Sem.run_bind, run_size w hh, Result.andThen_ok, hsz]
  simpa using this

section ops
variable {P : Program} (g : Good P) {base : Nat} {φ : Phi} {h h' : H} {w : World} (hr : HR P base φ h w) {nid : Nat} {r : Env} {a : Act} (he : EnvR P φ r a) {o : Oper} {v : AV}
include g hr he

omit g in
theorem s_move {x : Operand} {y : Opnd} (ho : o.op = .move x ∨ o.op = .assign x) (hx : opnd x = some y) (hv : evOp (teOf P) r h nid (.move y) = some (v, h')) : Out P base φ h.next nid o a w v h' := by
  simp only [evOp, Option.some.injEq, Prod.mk.injEq] at hv
  obtain ⟨rfl, rfl⟩ := hv
  refine Out.pure hr (cv := a.eval x) ?_ (opnd_VV he hx)
  rcases ho with ho | ho <;> simp [execOp, ho]

omit g in
theorem s_pick {c x y : Operand} {c' x' y' : Opnd} (ho : o.op = .pick c x y) (hc : opnd c = some c') (hx : opnd x = some x') (hy : opnd y = some y') (hv : evOp (teOf P) r h nid (.pick c' x' y') = some (v, h')) : Out P base φ h.next nid o a w v h' := by
  simp only [evOp] at hv
  split at hv <;> try (cases hv; done)
  rename_i t hct
  simp only [Option.some.injEq, Prod.mk.injEq] at hv
  obtain ⟨rfl, rfl⟩ := hv
  have h1 := opnd_VV he hc
  rw [hct] at h1
  have h1 : a.eval c = .bool t := h1
  refine Out.pure hr (cv := if t then a.eval x else a.eval y) ?_ ?_
  · simp [execOp, ho, h1, asBool]
  · cases t
    · exact opnd_VV he hy
    · exact opnd_VV he hx

theorem s_load {t : TypeId} {x : Operand} {y : Opnd} (ho : o.op = .load t x) (ht : heldT P t = true) (hx : opnd x = some y) (hv : evOp (teOf P) r h nid (.load (canon P t) y) = some (v, h')) : Out P base φ h.next nid o a w v h' := by
  simp only [evOp] at hv
  split at hv <;> try (cases hv; done)
  rename_i b p t' hy
  split at hv <;> try (cases hv; done)
  rename_i htt
  simp only [Option.map_eq_some_iff, Prod.mk.injEq] at hv
  obtain ⟨v', hread, rfl, rfl⟩ := hv
  have hp := opnd_VV he hx
  rw [hy] at hp
  obtain ⟨i, off, t2, hi, hpl, hcan, hlt2, hval⟩ := hp
  obtain ⟨h1, h2, cs, h3, _, h5⟩ := hr.read g hread hi hpl
  have hft : Fit P t v' := by
    rw [← fit_canon g (heldT_lt ht), ← htt, ← hcan, fit_canon g hlt2]; exact h2
  obtain ⟨cv, k1, k2⟩ := run_loadVar g ht hft h3 h5
  refine Out.pure hr (cv := cv) ?_ k2
  simp [execOp, ho, hval, Instr.loadAt, Instr.sureAddr, k1]

theorem s_store {t : TypeId} {x z : Operand} {x' z' : Opnd} {k : Kd} (ho : o.op = .store t x z) (ht : heldT P t = true) (hk : kdOf P t = some k) (hx : opnd x = some x') (hz : opnd z = some z') (hv : evOp (teOf P) r h nid (.store (canon P t) k x' z') = some (v, h')) : Out P base φ h.next nid o a w v h' := by
  simp only [evOp] at hv
  split at hv <;> try (cases hv; done)
  rename_i b p t' hy
  split at hv <;> try (cases hv; done)
  rename_i hc
  obtain ⟨htt, hok⟩ := hc
  simp only [Option.map_eq_some_iff, Prod.mk.injEq] at hv
  obtain ⟨h2, hw, rfl, rfl⟩ := hv
  have hp := opnd_VV he hx
  rw [hy] at hp
  obtain ⟨i, off, t2, hi, hpl, hcan, hlt2, hval⟩ := hp
  have hzv := opnd_VV he hz
  obtain ⟨htup, hft⟩ := fit_kd g ht hk hzv hok
  have hcv := cells_of hzv htup
  have hft2 : Fit P t2 (z'.ev r) := by
    rw [← fit_canon g hlt2, hcan, htt, fit_canon g (heldT_lt ht)]; exact hft
  obtain ⟨q1, q2, q3, q4⟩ := hr.write g hw hi hpl hft2 hcv
  refine ⟨φ, undef, _, .inr ⟨?_, rfl⟩, PhiNx.refl _ _ _, undef_VV, q1, q2⟩
  have := run_storeVar g ht hft hzv htup q3 q4
  simp [execOp, ho, hval, Instr.storeAt, Instr.sureAddr, this]

theorem s_fieldAddr {s : TypeId} {f : Nat} {x : Operand} {y : Opnd} {fs : Array Field} {fd : Field} (ho : o.op = .fieldAddr s x f) (hu : P.underlying s = some (.struct fs)) (hfd : fs[f]? = some fd) (hs : heldT P s = true) (hft : heldT P fd.type = true) (hx : opnd x = some y)
    (hv : evOp (teOf P) r h nid (.fieldAddr (canon P s) f (canon P fd.type) y) = some (v, h')) : Out P base φ h.next nid o a w v h' := by
  simp only [evOp] at hv
  split at hv <;> try (cases hv; done)
  rename_i b p s' hy
  split at hv <;> try (cases hv; done)
  rename_i hss
  simp only [Option.some.injEq, Prod.mk.injEq] at hv
  obtain ⟨rfl, rfl⟩ := hv
  have hp := opnd_VV he hx
  rw [hy] at hp
  obtain ⟨i, off, t2, hi, hpl, hcan, hlt2, hval⟩ := hp
  have hu2 : P.underlying t2 = some (.struct fs) := by rw [← g.und_canon hlt2, hcan, hss, g.und_canon (heldT_lt hs)]; exact hu
  refine Out.pure hr (cv := .pointer (some ⟨i.c, i.o + (off + fd.offset), none⟩)) ?_ ?_
  · have hne := heldT_pos hft
    simp [execOp, ho, hval, Instr.fieldAt, run_und w hu, hfd, Instr.sureAddr, fieldPlace, run_size w hft, hne, addr_add, Nat.add_assoc]
  · refine ⟨i, off + fd.offset, fd.type, hi, ?_, rfl, heldT_lt hft, rfl⟩
    cases p with
    | nil => simp [place] at hpl
    | cons j q => rw [place, hpl]; simp [hu2, hfd]

theorem s_idxA {t e : TypeId} {n : Nat} {x z : Operand} {x' z' : Opnd} (ho : o.op = .indexAddr t x z) (hu : P.underlying t = some (.array n e)) (hs : heldT P t = true) (hft : heldT P e = true) (hx : opnd x = some x') (hz : opnd z = some z')
    (hv : evOp (teOf P) r h nid (.idxA n (canon P t) (canon P e) x' z') = some (v, h')) : Out P base φ h.next nid o a w v h' := by
  simp only [evOp] at hv
  split at hv <;> try (cases hv; done)
  rename_i b p t' k j hy hj
  split at hv <;> try (cases hv; done)
  rename_i hc
  obtain ⟨hss, hj0, hjn⟩ := hc
  simp only [Option.some.injEq, Prod.mk.injEq] at hv
  obtain ⟨rfl, rfl⟩ := hv
  have hp := opnd_VV he hx
  rw [hy] at hp
  obtain ⟨i, off, t2, hi, hpl, hcan, hlt2, hval⟩ := hp
  have hzv := opnd_VV he hz
  rw [hj] at hzv
  have hzv : a.eval z = .int k j := hzv
  have hu2 : P.underlying t2 = some (.array n e) := by rw [← g.und_canon hlt2, hcan, hss, g.und_canon (heldT_lt hs)]; exact hu
  refine Out.pure hr (cv := .pointer (some ⟨i.c, i.o + (off + j.toNat * P.cellsOf e), none⟩)) ?_ ?_
  · simp [execOp, ho, hval, hzv, Instr.indexAt, asIntOf, run_und w hu, Instr.sureAddr, run_size w hft, addr_add, Nat.add_assoc, hj0, hjn]
  · refine ⟨i, off + j.toNat * P.cellsOf e, e, hi, ?_, rfl, heldT_lt hft, rfl⟩
    cases p with
    | nil => simp [place] at hpl
    | cons j' q =>
      have : j.toNat < n := by omega
      rw [place, hpl]; simp [hu2, this]

theorem s_idxS {t e : TypeId} {x z : Operand} {x' z' : Opnd} (ho : o.op = .indexAddr t x z) (hu : P.underlying t = some (.slice e)) (hft : heldT P e = true) (hx : opnd x = some x') (hz : opnd z = some z')
    (hv : evOp (teOf P) r h nid (.idxS (canon P e) x' z') = some (v, h')) : Out P base φ h.next nid o a w v h' := by
  simp only [evOp] at hv
  split at hv <;> try (cases hv; done)
  rename_i b p off len t' k j hy hj
  split at hv <;> try (cases hv; done)
  rename_i hc
  obtain ⟨hss, hj0, hjn⟩ := hc
  simp only [Option.some.injEq, Prod.mk.injEq] at hv
  obtain ⟨rfl, rfl⟩ := hv
  have hp := opnd_VV he hx
  rw [hy] at hp
  obtain ⟨i, off0, N, e', ad, hi, hpl, hcan, hlt2, hle, had, hval⟩ := hp
  have hzv := opnd_VV he hz
  rw [hj] at hzv
  have hzv : a.eval z = .int k j := hzv
  have had : ad = ⟨i.c, i.o + off0 + off * P.cellsOf e', none⟩ := by
    rcases had with h1 | ⟨h1, _⟩
    · exact h1
    · omega
  subst had
  have hce : P.cellsOf e' = P.cellsOf e := by rw [← g.cells_canon hlt2, hcan, hss, g.cells_canon (heldT_lt hft)]
  refine Out.pure hr (cv := .pointer (some ⟨i.c, i.o + (off0 + (off + j.toNat) * P.cellsOf e), none⟩)) ?_ ?_
  · have h5 : i.o + off0 + off * P.cellsOf e + j.toNat * P.cellsOf e = i.o + (off0 + (off + j.toNat) * P.cellsOf e) := by rw [Nat.add_mul]; omega
    simp [execOp, ho, hval, hzv, Instr.indexAt, asIntOf, run_und w hu, run_size w hft, addr_add, hj0, hjn, hce, h5]
  · refine ⟨i, off0 + (off + j.toNat) * P.cellsOf e, e', hi, ?_, by rw [hcan, hss], hlt2, rfl⟩
    cases p with
    | nil =>
      simp only [rowPlace, Option.some.injEq, Prod.mk.injEq] at hpl
      obtain ⟨rfl, rfl, rfl⟩ := hpl
      simp [place, hce]
    | cons j' q =>
      simp only [rowPlace] at hpl
      rw [place]
      split at hpl <;> try (cases hpl; done)
      rename_i o1 t1 hq
      split at hpl <;> try (cases hpl; done)
      rename_i m e1 hu1
      simp only [Option.some.injEq, Prod.mk.injEq] at hpl
      obtain ⟨rfl, rfl, rfl⟩ := hpl
      have : off + j.toNat < m := by omega
      simp [hu1, this, hce]
end ops

end Go.Dam

namespace Go.Dam
open Go.RowKit (Below)

theorem opnds_VV {P : Program} {φ : Phi} {r : Env} {a : Act} (he : EnvR P φ r a) : ∀ {xs : List Operand} {ys : List Opnd}, opnds xs = some ys → xs.length = ys.length ∧ ∀ j, j < xs.length → ∀ x y, xs[j]? = some x → ys[j]? = some y → VV P φ (y.ev r) (a.eval x)
  | [], ys, h => by simp only [opnds, Option.some.injEq] at h; subst h; simp
  | x :: xs, ys, h => by
    simp only [opnds] at h
    split at h <;> try (cases h; done)
    rename_i y ys' h1 h2
    simp only [Option.some.injEq] at h
    subst h
    obtain ⟨q1, q2⟩ := opnds_VV he h2
    refine ⟨by simp [q1], fun j hj x' y' hx hy => ?_⟩
    cases j with
    | zero => simp at hx hy; subst hx hy; exact opnd_VV he h1
    | succ j => simp at hx hy hj; exact q2 j hj x' y' hx hy

theorem opnds_SV0 {P : Program} {φ : Phi} {r : Env} {a : Act} (he : EnvR P φ r a) : ∀ {xs : List Operand} {ys : List Opnd}, opnds xs = some ys → (ys.all fun x => (x.ev r).simple) = true → SV0s P φ (ys.map (Opnd.ev r)) (xs.map a.eval)
  | [], ys, h, _ => by simp only [opnds, Option.some.injEq] at h; subst h; rfl
  | x :: xs, ys, h, hs => by
    simp only [opnds] at h
    split at h <;> try (cases h; done)
    rename_i y ys' h1 h2
    simp only [Option.some.injEq] at h
    subst h
    simp only [List.all_cons, Bool.and_eq_true] at hs
    have hv := opnd_VV he h1
    refine ⟨_, _, ?_, opnds_SV0 he h2 hs.2, rfl⟩
    have hs1 := hs.1
    revert hv hs1
    cases y.ev r <;> intro hv hs1 <;> first | exact hv | (simp [AV.simple] at hs1)

def partsR (P : Program) (φ : Phi) : List (Nat × Value) → List (Nat × AV) → Prop
  | [], [] => True
  | (i, v) :: ps, (j, x) :: qs => i = j ∧ VV P φ x v ∧ partsR P φ ps qs
  | _, _ => False

theorem parts_VV {P : Program} {φ : Phi} {r : Env} {a : Act} (he : EnvR P φ r a) : ∀ {xs : List (Nat × Operand)} {ys : List (Nat × Opnd)}, parts? xs = some ys →
    partsR P φ (xs.map fun (i, x) => (i, a.eval x)) (ys.map fun (i, x) => (i, x.ev r))
  | [], ys, h => by simp only [parts?, Option.some.injEq] at h; subst h; trivial
  | (i, x) :: xs, ys, h => by
    simp only [parts?] at h
    split at h <;> try (cases h; done)
    rename_i y ys' h1 h2
    simp only [Option.some.injEq] at h
    subst h
    exact ⟨rfl, opnd_VV he h1, parts_VV he h2⟩

/-! ### parts laid in -/
theorem setMany (off : Nat) : ∀ (l : List Value) (k : Nat) (arr : Array Value) (pre mid post : List Value), arr.toList = pre ++ (mid ++ post) → pre.length = off + k → mid.length = l.length →
    ((l.zipIdx k).foldl (fun cs (x : Value × Nat) => cs.setIfInBounds (off + x.2) x.1) arr).toList = pre ++ (l ++ post)
  | [], k, arr, pre, mid, post, h, _, hm => by
    have : mid = [] := List.length_eq_zero_iff.1 hm
    subst this
    simpa using h
  | v :: l, k, arr, pre, mid, post, h, hp, hm => by
    cases mid with
    | nil => simp at hm
    | cons m mid =>
      simp only [List.zipIdx_cons, List.foldl_cons]
      have := setMany off l (k + 1) (arr.setIfInBounds (off + k) v) (pre ++ [v]) mid post (by
        simp only [Array.toList_setIfInBounds, h, ← hp]
        simp) (by simp [hp, Nat.add_assoc]) (by simpa using hm)
      simpa using this

theorem sameKind_fit {P : Program} (g : Good P) {φ : Phi} {t : TypeId} (ht : t < P.types.size) {x y : AV} {v : Value} (hx : Fit P t x) (hv : VV P φ y v) (h : sameKind x y = true) : y.isTup = false ∧ Fit P t y := by
  by_cases htup : x.isTup = false
  · by_cases ha : x.isAgg = false
    · have hp := (fit_sv ha htup).1 hx
      have hy : y.isAgg = false ∧ y.isTup = false := by
        cases y <;> first | exact ⟨rfl, rfl⟩ | (cases x <;> first | (simp [sameKind, AV.kd, Kd.ok] at h; done) | (simp [AV.isAgg] at ha; done))
      refine ⟨hy.2, (fit_sv hy.1 hy.2).2 ?_⟩
      unfold primOK at hp ⊢
      split at hp
      · rename_i k hk
        simp only [Bool.and_eq_true] at hp ⊢
        refine ⟨⟨hp.1.1, ?_⟩, hp.2⟩
        have h1 := hp.1.2
        cases x <;> cases k <;> simp only [Kd.ok] at h1 <;> first | (cases h1; done) | (simp only [sameKind, AV.kd] at h; first | exact h | (simp only [beq_iff_eq] at h1; subst h1; exact h))
      · cases hp
    · obtain ⟨t1, xs, rfl⟩ := agg_of ha
      cases y <;> simp only [sameKind, AV.kd, Kd.ok] at h <;> try (cases h; done)
      simp only [beq_iff_eq] at h
      subst h
      have h1 := (fit_agg hx).1
      subst h1
      exact ⟨rfl, (fit_canon g ht _).1 hv.1.2.2⟩
  · obtain ⟨xs, rfl⟩ := tup_of htup
    simp [sameKind, AV.kd] at h

theorem fill_sound {P : Program} (g : Good P) {φ : Phi} {ts : List TypeId} (hts : ∀ t ∈ ts, t < P.types.size) {place : Nat → Option (Nat × Nat)} (hpl : ∀ i t, ts[i]? = some t → place i = some (sumCells P (ts.take i), P.cellsOf t)) :
    ∀ {ps : List (Nat × Value)} {qs : List (Nat × AV)} {zs ys : List AV} {cells : Array Value}, partsR P φ ps qs → fitsB P ts zs = true → CVs P φ zs cells.toList → fillA zs qs = some ys →
      ∃ cells', Instr.fill place cells ps = some cells' ∧ fitsB P ts ys = true ∧ CVs P φ ys cells'.toList
  | [], [], zs, ys, cells, _, hf, hc, h => by
    simp only [fillA, Option.some.injEq] at h
    subst h
    exact ⟨cells, rfl, hf, hc⟩
  | [], _ :: _, _, _, _, hp, _, _, _ => hp.elim
  | _ :: _, [], _, _, _, hp, _, _, _ => hp.elim
  | (i, v) :: ps, (j, x) :: qs, zs, ys, cells, hp, hf, hc, h => by
    obtain ⟨rfl, hv, hps⟩ := hp
    simp only [fillA] at h
    split at h <;> try (cases h; done)
    rename_i old hold
    split at h <;> try (cases h; done)
    rename_i hcomp
    obtain ⟨t, ht, hfit, hset⟩ := fitsB_get hf hold
    obtain ⟨pre, mid, post, h1, h2, h3, h4⟩ := CVs_split hc hold
    have htm : t ∈ ts := List.mem_of_getElem? ht
    have hlt := hts t htm
    have hx := sameKind_fit g hlt hfit hv hcomp
    have hcv := cells_of hv hx.1
    have hlen := CV_len g hlt hx.2 hcv
    have hmid := CV_len g hlt hfit h3
    have hpre : pre.length = sumCells P (ts.take i) := by
      rw [CVs_len g (fun t ht' => hts t (List.mem_of_mem_take ht')) (fitsB_take hf i) h2]
    have hsm := setMany pre.length v.cells.toList 0 cells pre mid post h1 rfl (by rw [hlen, hmid])
    obtain ⟨cells', q1, q2, q3⟩ := fill_sound g hts hpl (cells := (v.cells.toList.zipIdx 0).foldl (fun cs (x : Value × Nat) => cs.setIfInBounds (pre.length + x.2) x.1) cells) hps (hset x hx.2) (by rw [hsm]; exact h4 x _ hcv) h
    refine ⟨cells', ?_, q2, q3⟩
    simp only [Instr.fill, hpl i t ht]
    have hsz : v.cells.size = P.cellsOf t := by simpa using hlen
    have hbd : ¬ (sumCells P (ts.take i) + v.cells.size > cells.size) := by
      have : cells.size = cells.toList.length := by simp
      rw [this, h1]
      simp only [List.length_append]
      omega
    rw [if_neg (by simp [hsz]; simpa [hsz] using hbd), ← q1, ← hpre]
    congr 1
    rw [← Array.foldl_toList]
    simp

end Go.Dam

namespace Go.Dam
open Go.RowKit (Below)

theorem run_size_lt {P : Program} {w : World} {t : TypeId} {i : TypeInfo} (h : P.info? t = some i) : (sizeOf t).run P w = .ok i.size w := by
  simp [sizeOf, typeInfo, h]
theorem cellsOf_info {P : Program} {t : TypeId} {i : TypeInfo} (h : P.info? t = some i) : P.cellsOf t = i.size := by simp [Program.cellsOf, h]

theorem info_lt' {P : Program} {t : TypeId} (h : t < P.types.size) : ∃ i, P.info? t = some i := by
  have h1 : t < P.toTables.types.size := h
  simp only [Tables.info?, h1, if_true]
  exact ⟨_, Array.getElem?_eq_getElem h1⟩

/-- the cells of many alike values -/
theorem CVs_replicate {P : Program} {φ : Phi} {x : AV} {l : List Value} (h : CV P φ x l) : ∀ n, CVs P φ (List.replicate n x) (List.replicate n l).flatten
  | 0 => by simp [CVs]
  | n + 1 => by
    simp only [List.replicate_succ, CVs, List.flatten_cons]
    exact ⟨l, _, h, CVs_replicate h n, rfl⟩

theorem flatten_replicate_get (l : List Value) : ∀ (n j : Nat), j < n * l.length → (List.replicate n l).flatten[j]? = l[j % l.length]?
  | 0, j, h => by simp at h
  | n + 1, j, h => by
    simp only [List.replicate_succ, List.flatten_cons]
    rcases Nat.lt_or_ge j l.length with h1 | h1
    · rw [List.getElem?_append_left h1, Nat.mod_eq_of_lt h1]
    · rw [List.getElem?_append_right h1, flatten_replicate_get l n (j - l.length) (by rw [Nat.add_mul] at h; omega), ← Nat.mod_eq_sub_mod h1]

theorem madeRow {z : Array Value} (n : Nat) (hz : z.size ≠ 0) : ((Array.range (n * z.size)).map (z[· % z.size]!)).toList = (List.replicate n z.toList).flatten := by
  apply List.ext_getElem?
  intro j
  rcases Nat.lt_or_ge j (n * z.size) with h | h
  · rw [flatten_replicate_get z.toList n j (by simpa using h)]
    have hm : j % z.size < z.size := Nat.mod_lt _ (by omega)
    simp [h, hm]
  · rw [List.getElem?_eq_none (by simpa using h), List.getElem?_eq_none]
    simpa using h

theorem fitsB_replicate {P : Program} {e : TypeId} : ∀ {n : Nat} {xs : List AV}, xs.length = n → (∀ x ∈ xs, Fit P e x) → fitsB P (List.replicate n e) xs = true
  | 0, xs, h, _ => by rw [List.length_eq_zero_iff.1 h]; rfl
  | n + 1, [], h, _ => by simp at h
  | n + 1, x :: xs, h, hf => by
    simp only [List.replicate_succ, fitsB, Bool.and_eq_true]
    exact ⟨hf x (by simp), fitsB_replicate (by simpa using h) (fun y hy => hf y (by simp [hy]))⟩
theorem fitsB_len {P : Program} : ∀ {ts : List TypeId} {xs : List AV}, fitsB P ts xs = true → xs.length = ts.length
  | [], [], _ => rfl
  | [], _ :: _, h => by simp [fitsB] at h
  | _ :: _, [], h => by simp [fitsB] at h
  | t :: ts, x :: xs, h => by
    simp only [fitsB, Bool.and_eq_true] at h
    simp [fitsB_len h.2]
theorem fitsB_all {P : Program} {e : TypeId} : ∀ {n : Nat} {xs : List AV}, fitsB P (List.replicate n e) xs = true → ∀ x ∈ xs, Fit P e x
  | _, [], _ => by simp
  | 0, x :: xs, h => by simp [fitsB] at h
  | n + 1, x :: xs, h => by
    simp only [List.replicate_succ, fitsB, Bool.and_eq_true] at h
    intro y hy
    rcases List.mem_cons.1 hy with rfl | hy
    · exact h.1
    · exact fitsB_all h.2 y hy

theorem places_eq {P : Program} : ∀ {fs : List Field}, (∀ f ∈ fs, f.type < P.types.size) → fs.mapM (fun f => (P.info? f.type).map fun i => (f.offset, i.size)) = some (fs.map fun f => (f.offset, P.cellsOf f.type))
  | [], _ => by simp
  | f :: fs, h => by
    obtain ⟨i, hi⟩ := info_lt' (h f (by simp))
    have := places_eq (fs := fs) (fun f' hf' => h f' (by simp [hf']))
    simp [List.mapM_cons, this, hi, cellsOf_info hi]

theorem built_sound {P : Program} (g : Good P) {φ : Phi} {t : TypeId} (ht : t < P.types.size) (hz : zeroOK P t = true) {t' : TypeId} {zs : List AV} (hzz : zeroOf (teOf P) zeroFuel (canon P t) = .agg t' zs)
    {ps : List (Nat × Value)} {qs : List (Nat × AV)} {ys : List AV} (hp : partsR P φ ps qs) (hf : fillA zs qs = some ys) : ∃ cells, P.built t ps = some cells ∧ VV P φ (.agg t' ys) (.agg cells) := by
  obtain ⟨i, z, hi, hz1, hfit, hcv⟩ := zero_VV hz
  rw [hzz] at hfit hcv
  replace hcv := hcv φ
  simp only [CV] at hcv
  rcases fit_agg hfit with ⟨rfl, ⟨fs, hu, hfs⟩ | ⟨n, e, hu, hn, hall⟩⟩
  · have hst := g.struct ht hu
    have hlay := (layFields_sum _ _ _ hst.1).2
    have hpl := places_eq (P := P) hst.2
    obtain ⟨cells', q1, q2, q3⟩ := fill_sound g (ts := fs.toList.map (·.type)) (fun u hu' => by
        simp only [List.mem_map] at hu'
        obtain ⟨f, hf', rfl⟩ := hu'
        exact hst.2 f hf') (place := fun x => (fs.toList.map fun f => (f.offset, P.cellsOf f.type)).toArray[x]?) (fun j u hj => by
          rw [List.getElem?_map] at hj
          cases hfj : fs.toList[j]? with
          | none => rw [hfj] at hj; cases hj
          | some f =>
            rw [hfj] at hj
            simp only [Option.map_some, Option.some.injEq] at hj
            subst hj
            have h0 := hlay j f hfj
            have hfa : fs[j]? = some f := by simpa using hfj
            simp [hfa, h0]) hp hfs hcv hf
    refine ⟨cells', ?_, ⟨g.canon_canon ht, g.canon_lt ht, (fit_canon g ht _).2 (fit_struct hu q2)⟩, cells'.toList, q3, by simp⟩
    simp only [Program.built, hi, hu, hz1, hpl]
    exact q1
  · obtain ⟨ie, hie⟩ := info_lt' (g.array ht hu).2
    have hce := cellsOf_info hie
    obtain ⟨cells', q1, q2, q3⟩ := fill_sound g (ts := List.replicate n e) (fun u hu' => by rw [List.eq_of_mem_replicate hu']; exact (g.array ht hu).2) (place := fun i => some (i * ie.size, ie.size)) (fun j u hj => by
        have hin : j < n := by
          have := (List.getElem?_eq_some_iff.1 hj).1
          simpa using this
        have : u = e := by
          rw [List.getElem?_replicate, if_pos hin] at hj
          simpa using hj.symm
        subst this
        simp [sumCells, Nat.min_eq_left (Nat.le_of_lt hin), hce]) hp (fitsB_replicate hn.symm hall) hcv hf
    refine ⟨cells', ?_, ⟨g.canon_canon ht, g.canon_lt ht, (fit_canon g ht _).2 (fit_array hu (by simpa using (fitsB_len q2).symm) (fitsB_all q2))⟩, cells'.toList, q3, by simp⟩
    simp only [Program.built, hi, hu, hz1, hie]
    exact q1

section ops
variable {P : Program} (g : Good P) {base : Nat} {φ : Phi} {h h' : H} {w : World} (hr : HR P base φ h w) {nid : Nat} {r : Env} {a : Act} (he : EnvR P φ r a) {o : Oper} {v : AV}
include g hr

theorem s_alloc (hnid : φ nid = none) (hnl : nid ≤ h.next) {e : TypeId} (ho : o.op = .alloc e) (ht : heldT P e = true) (hz : zeroOK P e = true) (hv : evOp (teOf P) r h nid (.alloc (canon P e)) = some (v, h')) : Out P base φ h.next nid o a w v h' := by
  simp only [evOp, Option.some.injEq, Prod.mk.injEq] at hv
  obtain ⟨rfl, rfl⟩ := hv
  obtain ⟨i, z, hi, hz1, hfit, hcv⟩ := zero_VV hz
  have hlen := CV_len g (heldT_lt ht) hfit (hcv φ)
  obtain ⟨φ', h1, h2, h3, h4⟩ := hr.alloc g hnid hnl ht (xs := [zeroOf (teOf P) zeroFuel (canon P e)]) (cs := z.cells.toList) (by simp only [CVs]; exact ⟨_, [], hcv φ, rfl, by simp⟩) (by simpa using hfit) z.cells e 1 .fixed (by simp) (by simp) (by simp) (fun j v hj => by simpa using hj) (by simpa using Nat.le_of_eq hlen.symm)
  refine ⟨φ', .pointer (some ⟨w.heap.size, 0, none⟩), _, .inl ?_, h1.nx _, ptr_new g (heldT_lt ht) h2, h3, h4⟩
  simp [execOp, ho, Instr.alloc, run_zero hi hz1, newVar, newRow]

include he
theorem s_box (hnid : φ nid = none) (hnl : nid ≤ h.next) {e : TypeId} {x : Operand} {y : Opnd} {k : Kd} (ho : o.op = .box e x) (ht : heldT P e = true) (hk : kdOf P e = some k) (hx : opnd x = some y) (hv : evOp (teOf P) r h nid (.box (canon P e) k y) = some (v, h')) : Out P base φ h.next nid o a w v h' := by
  have hxv := opnd_VV he hx
  simp only [evOp] at hv
  split at hv <;> try (cases hv; done)
  rename_i hok
  simp only [Option.some.injEq, Prod.mk.injEq] at hv
  obtain ⟨rfl, rfl⟩ := hv
  obtain ⟨htup, hfit⟩ := fit_kd g ht hk hxv hok
  have hc := cells_of hxv htup
  have hlen := CV_len g (heldT_lt ht) hfit hc
  obtain ⟨φ', h1, h2, h3, h4⟩ := hr.alloc g hnid hnl ht (xs := [y.ev r]) (cs := (a.eval x).cells.toList) (by simp only [CVs]; exact ⟨_, [], hc, rfl, by simp⟩) (by simpa using hfit) (a.eval x).cells e 1 .fixed (by simp) (by simp) (by simp) (fun j v hj => by simpa using hj) (by simpa using Nat.le_of_eq hlen.symm)
  refine ⟨φ', .pointer (some ⟨w.heap.size, 0, none⟩), _, .inl ?_, h1.nx _, ptr_new g (heldT_lt ht) h2, h3, h4⟩
  simp [execOp, ho, Instr.box, newVar, newRow]

theorem s_build {t : TypeId} {ps : Array (Nat × Operand)} {qs : List (Nat × Opnd)} (ho : o.op = .build t ps) (ht : heldT P t = true) (hz : zeroOK P t = true) (hx : parts? ps.toList = some qs) (hv : evOp (teOf P) r h nid (.build (canon P t) qs) = some (v, h')) : Out P base φ h.next nid o a w v h' := by
  simp only [evOp] at hv
  split at hv <;> try (cases hv; done)
  rename_i t' zs hzz
  simp only [Option.map_eq_some_iff, Prod.mk.injEq] at hv
  obtain ⟨ys, hf, rfl, rfl⟩ := hv
  obtain ⟨cells, h1, h2⟩ := built_sound g (heldT_lt ht) hz hzz (parts_VV he hx) hf
  refine Out.pure hr (cv := .agg cells) ?_ h2
  have := run_build (P := P) w t (ps.map fun (i, x) => (i, a.eval x)) cells (by simpa using h1)
  simp [execOp, ho, this]

theorem s_buildSlice (hnid : φ nid = none) (hnl : nid ≤ h.next) {t e : TypeId} {n : Nat} {ps : Array (Nat × Operand)} {qs : List (Nat × Opnd)} (ho : o.op = .buildSlice t n ps) (hu : P.underlying t = some (.slice e)) (ht : heldT P e = true) (hz : zeroOK P e = true) (hn : n * P.cellsOf e ≤ 2 ^ 24) (hx : parts? ps.toList = some qs)
    (hv : evOp (teOf P) r h nid (.buildSlice (canon P e) n qs) = some (v, h')) : Out P base φ h.next nid o a w v h' := by
  simp only [evOp, Option.map_eq_some_iff, Prod.mk.injEq] at hv
  obtain ⟨ys, hf, rfl, rfl⟩ := hv
  obtain ⟨i, z, hi, hz1, hfit, hcv⟩ := zero_VV hz
  have hlt := heldT_lt ht
  have hlen := CV_len g hlt hfit (hcv φ)
  have hzs : z.cells.size = P.cellsOf e := by simpa using hlen
  have hpos := heldT_pos ht
  have hrow := madeRow (z := z.cells) n (by omega)
  have hfits : fitsB P (List.replicate n e) (List.replicate n (zeroOf (teOf P) zeroFuel (canon P e))) = true := fitsB_replicate (by simp) (fun x hx => by rw [List.eq_of_mem_replicate hx]; exact hfit)
  obtain ⟨cells', q1, q2, q3⟩ := fill_sound g (ts := List.replicate n e) (fun t ht => by rw [List.eq_of_mem_replicate ht]; exact hlt) (place := fun i => some (i * P.cellsOf e, P.cellsOf e)) (fun i t hit => by
      have hin : i < n := by
        have := (List.getElem?_eq_some_iff.1 hit).1
        simpa using this
      have : t = e := by
        rw [List.getElem?_replicate, if_pos hin] at hit
        simpa using hit.symm
      subst this
      simp [sumCells, Nat.min_eq_left (Nat.le_of_lt hin)])
    (parts_VV he hx) hfits (cells := (Array.range (n * z.cells.size)).map (z.cells[· % z.cells.size]!)) (by rw [hrow]; exact CVs_replicate (hcv φ) n) hf
  have hall := fitsB_all q2
  have hl2 : ys.length = n := by simpa using fitsB_len q2
  have hcl := CVs_len_all g hlt hall q3
  obtain ⟨φ', h1, h2, h3, h4⟩ := hr.alloc g hnid hnl ht q3 hall cells' e n .fixed (by simp) (fun _ => hl2) (Nat.le_of_eq hl2) (fun j v hj => by simpa using hj) (by rw [← hl2]; simpa using Nat.le_of_eq hcl.symm)
  refine ⟨φ', .slice (some ⟨w.heap.size, 0, none⟩) n n, _, .inl ?_, h1.nx _, slice_new g hlt h2 (Nat.le_refl _), h3, h4⟩
  have hps : (ps.map fun (i, x) => (i, a.eval x)).toList = ps.toList.map fun (i, x) => (i, a.eval x) := by simp
  have hnz : n = 0 ∨ ¬ n * P.cellsOf e = 0 := by
    rcases Nat.eq_zero_or_pos n with h0 | h0
    · exact .inl h0
    · right; have := Nat.mul_pos h0 (Nat.pos_of_ne_zero hpos); omega
  rw [hzs] at q1
  rcases hnz with hn0 | hn0
  · subst hn0
    have e0 : ∀ f : Nat → Value, (Array.range 0).map f = #[] := fun f => Array.eq_empty_of_size_eq_zero (by simp)
    simp only [Nat.zero_mul, e0] at q1
    simp only [execOp, ho, Instr.buildSlice, Sem.run_bind, run_und w hu, Result.andThen_ok, run_size w ht, Nat.zero_mul, hps, if_true, Sem.run_pure, e0, q1]
    simp [newRow]
  · have hn24 : ¬ n * P.cellsOf e > 2 ^ 24 := by omega
    simp only [execOp, ho, Instr.buildSlice, Sem.run_bind, run_und w hu, Result.andThen_ok, run_size w ht, hn24, hn0, if_false, run_zero hi hz1, Sem.run_pure, hps, hzs, q1]
    simp [newRow]
end ops

end Go.Dam
