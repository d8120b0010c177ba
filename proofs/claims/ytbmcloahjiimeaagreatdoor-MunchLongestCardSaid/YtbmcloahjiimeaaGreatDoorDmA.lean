/- A deterministic interpreter ("D-machine") of compiled Go code over a small heap of its own: definitions alone. -/
import GoSem.Dispatch
set_option linter.all false
noncomputable section
namespace Go.Dm

/-! ### A trie, its keys paths -/
abbrev Pth := List Bool
inductive T (α : Type) where
  | e
  | n (v : Option α) (l r : T α)

namespace T
variable {α : Type}
def val (t : T α) : Option α := T.rec none (fun v _ _ _ _ => v) t
def child (b : Bool) (t : T α) : T α := T.rec .e (fun _ l r _ _ => Bool.rec l r b) t
def get (t : T α) (p : Pth) : Option α :=
  List.rec (motive := fun _ => T α → Option α) (fun t => t.val) (fun b _ g t => g (t.child b)) p t
def here (x : Option α) (t : T α) : T α := T.rec (.n x .e .e) (fun _ l r _ _ => .n x l r) t
def setC (b : Bool) (g : T α → T α) (t : T α) : T α :=
  T.rec (Bool.rec (.n none (g .e) .e) (.n none .e (g .e)) b) (fun v l r _ _ => Bool.rec (.n v (g l) r) (.n v l (g r)) b) t
def set (t : T α) (p : Pth) (x : Option α) : T α :=
  List.rec (motive := fun _ => T α → T α) (here x) (fun b _ g t => setC b g t) p t
end T

/-- a number's path -/
def bitsA (f : Nat) : Nat → Pth :=
  Nat.rec (motive := fun _ => Nat → Pth) (fun _ => []) (fun _ g k => Nat.rec [] (fun _ _ => Nat.beq (Nat.mod k 2) 1 :: g (Nat.div k 2)) k) f
def bits (k : Nat) : Pth := bitsA k k

/-! ### Values -/
inductive DFn where
  | func (f : Nat)
  | yield (l : Nat)
  deriving DecidableEq

inductive DV where
  | bool (b : Bool)
  | int (k : IntKind) (n : Int)
  | str (s : List Nat)
  | ptr (a : Option (Nat × Nat))
  | slice (a : Option (Nat × Nat)) (len cap : Nat) (op : Bool)
  | sliceZ (d off alt : Nat)
  | map (m : Option Nat)
  | func (f : DFn) (first caps : List DV)
  | nilFunc
  | iface (t : Nat) (v : DV)
  | nilIface
  | agg (l : List DV)
  | tuple (l : List DV)

abbrev DV.undef : DV := .tuple []
instance : Inhabited DV := ⟨.undef⟩

def DV.one : DV → Bool
  | .agg _ | .tuple _ => false
  | _ => true
def DV.cells : DV → List DV
  | .agg l => l
  | v => [v]

def DV.tup : DV → Bool
  | .tuple _ => true
  | _ => false

/-- how a cell is compared -/
inductive CK where
  | bool
  | int
  | str
  deriving DecidableEq
/-- plain data: what a comparison looks at without memory -/
def beq1 (c : CK) (x y : DV) : Option Bool :=
  match c with
  | .bool => match x, y with
    | .bool a, .bool b => some (a == b)
    | _, _ => none
  | .int => match x, y with
    | .int k a, .int k' b => if k = k' then some (a == b) else none
    | _, _ => none
  | .str => match x, y with
    | .str a, .str b => some (a == b)
    | _, _ => none
def beqs : List CK → List DV → List DV → Option Bool
  | [], [], [] => some true
  | c :: cs, x :: xs, y :: ys =>
    match beq1 c x y with
    | some true => beqs cs xs ys
    | some false => match beqs cs xs ys with
      | some _ => some false
      | none => none
    | none => none
  | _, _, _ => none

/-! ### Compiled code -/
inductive DX where
  | t (i : Pth)
  | l (k : Nat)
  | c (v : DV)

/-- how a type is compared -/
inductive Pt where
  | one (c : CK)
  | agg (l : List CK)
/-- two values of which one may be nil -/
inductive EK where
  | bool | ptr | slice | map | func | iface
  deriving DecidableEq
inductive LK where
  | str | slice | map
  deriving DecidableEq

inductive DOp where
  | mv (x : DX)
  | pick (c a b : DX)
  | alloc (z : List DV) (e : Nat)
  | box (e : Nat) (x : DX)
  | build (z : List DV) (ps : List (Nat × Nat × DX))
  | bslice (e : Nat) (z : List DV) (ps : List (Nat × Nat × DX)) (len : Nat)
  | load1 (a : DX)
  | loadN (n : Nat) (a : DX)
  | store1 (a v : DX)
  | storeN (n : Nat) (a v : DX)
  | nilc (x : DX)
  | bin (op : BinOp) (x y : DX)
  | eqN (k : EK) (neg : Bool) (x y : DX)
  | eqA (l : List CK) (neg : Bool) (x y : DX)
  | un (op : UnOp) (x : DX)
  | toInt (k : IntKind) (x : DX)
  | toStr (x : DX)
  | same (x : DX)
  | mkI (t : Nat) (x : DX)
  | mkF (f : Nat) (first caps : List DX)
  | mkMap
  | mapSet (p : Pt) (m k v : DX)
  | mapGet (p : Pt) (z : DV) (ok : Bool) (m k : DX)
  | mkSlice (e sz bytes : Nat) (z : List DV) (l c : DX)
  | slStr (x : DX) (lo hi : Option DX)
  | slSl (sz : Nat) (x : DX) (lo hi mx : Option DX)
  | slArr (n sz : Nat) (x : DX) (lo hi mx : Option DX)
  | fldA (off : Nat) (x : DX)
  | fldV (off n : Nat) (ag : Bool) (x : DX)
  | idxA (len sz : Nat) (x i : DX)
  | idxS (sz : Nat) (x i : DX)
  | idxV (len sz : Nat) (ag : Bool) (x i : DX)
  | idxStr (x i : DX)
  | ext (i : Nat) (x : DX)
  | tas (t : Nat) (z : DV) (x : DX)
  | call (f : DX) (args : List DX)
  | len (k : LK) (x : DX)
  | lenA (n : Nat)
  | cap (x : DX)
  | append (e sz bytes : Nat) (s x : DX)
  | copy (sz : Nat) (d s : DX)
  | minI (x y : DX)
  | maxI (x y : DX)
  | recover
  | defer (f : DX) (args : List DX)
  | panic (x : DX)
  | sdata (x : DX)
  | ustr (p n : DX)
  | clear (z : List DV) (x : DX)

structure DOper where
  dst : Option Pth
  op : DOp
  guard : Option (DX × Bool)

/-- of an operation of a region that draws: its slot, its operation, its guard's slot; how many effects lie ahead of it at least, and at most -/
structure Draw where
  lo : Nat
  hi : Nat

inductive DC where
  | skip
  | reg (ops : List DOper)
  | draw (ops : List (DOper × Draw)) (id : Nat)
  | seq (a b : DC)
  | cond (c : DX) (a b : DC)
  | block (id : Nat) (b : DC)
  | loop (b : DC)
  | rf (f : DX) (ps : List Pth) (assign body : DC)
  | exit (id : Nat)
  | scope (b : DC)
  | label (l : Nat)
  | goto (l : Nat)
  | ret

inductive DRV where
  | tmp (t : Pth)
  | cell (a : Pth) (n : Nat) (ag : Bool)

structure DFunc where
  ntmps : Nat
  res : List DRV
  body : DC

/-! ### The heap -/
inductive LState where
  | ready | busy | done | exhausted
  deriving DecidableEq

inductive Jump where
  | ret
  | exit (id : Nat)
  | goto (l : Nat)

structure DLoop where
  st : LState
  pend : Option Jump
  fn : Nat
  n : Nat
  tm : T DV
  ps : List Pth
  assign : DC
  body : DC
  dfr : Nat

inductive Obj where
  | cells (cs : List DV) (e : Nat) (ro : Bool)
  | map (es : List (DV × DV))
  | loop (l : DLoop)
  | dfr

structure H where
  m : T Obj
  nx : Nat

def H.get (h : H) (d : Nat) : Option Obj := h.m.get (bits d)
def H.put (h : H) : Nat → Obj → H := H.rec (motive := fun _ => Nat → Obj → H) (fun m nx d o => ⟨m.set (bits d) (some o), nx⟩) h
def H.kill (h : H) : Nat → H := H.rec (motive := fun _ => Nat → H) (fun m nx d => ⟨m.set (bits d) none, nx⟩) h
def H.new (h : H) : Obj → H := H.rec (motive := fun _ => Obj → H) (fun m nx o => ⟨m.set (bits nx) (some o), Nat.succ nx⟩) h

/-! Lists, by their recursors: the kernel is quick at these. -/
section
variable {α : Type}
def consO (a : α) (o : Option (List α)) : Option (List α) := Option.rec none (fun l => some (a :: l)) o
def lget (l : List α) : Nat → Option α :=
  List.rec (motive := fun _ => Nat → Option α) (fun _ => none) (fun a _ g i => Nat.rec (some a) (fun j _ => g j) i) l
def lset (l : List α) : Nat → α → Option (List α) :=
  List.rec (motive := fun _ => Nat → α → Option (List α)) (fun _ _ => none) (fun a l g i v => Nat.rec (some (v :: l)) (fun j _ => consO a (g j v)) i) l
def lenIs (l : List α) : Nat → Bool :=
  List.rec (motive := fun _ => Nat → Bool) (fun n => Nat.beq n 0) (fun _ _ g n => Nat.rec false (fun j _ => g j) n) l
def ltake (n : Nat) : List α → Option (List α) :=
  Nat.rec (motive := fun _ => List α → Option (List α)) (fun _ => some []) (fun _ g l => List.rec none (fun a l _ => consO a (g l)) l) n
def ldrop (n : Nat) : List α → List α :=
  Nat.rec (motive := fun _ => List α → List α) (fun l => l) (fun _ g l => List.rec [] (fun _ l _ => g l) l) n
def lover (vs : List α) : List α → Option (List α) :=
  List.rec (motive := fun _ => List α → Option (List α)) (fun l => some l) (fun v _ g l => List.rec none (fun _ l _ => consO v (g l)) l) vs
def lsplice (off : Nat) (vs : List α) : List α → Option (List α) :=
  Nat.rec (motive := fun _ => List α → Option (List α)) (lover vs) (fun _ g l => List.rec none (fun a l _ => consO a (g l)) l) off
def lpart (l : List α) (off n : Nat) : Option (List α) := bif Nat.beq off 0 && lenIs l n then some l else ltake n (ldrop off l)
end

def rdN (h : H) (d off n : Nat) : Option (List DV) :=
  match h.get d with
  | some (.cells cs _ _) => lpart cs off n
  | _ => none
def rd1 (h : H) (d off : Nat) : Option DV :=
  match h.get d with
  | some (.cells cs _ _) => lget cs off
  | _ => none
def putO (h : H) (d e : Nat) (o : Option (List DV)) : Option H :=
  match o with
  | some cs => some (h.put d (.cells cs e false))
  | none => none
def wrN (h : H) (d off : Nat) (vs : List DV) : Option H :=
  match h.get d with
  | some (.cells cs e false) => putO h d e (lsplice off vs cs)
  | _ => none
def wr1 (h : H) (d off : Nat) (v : DV) : Option H :=
  match h.get d with
  | some (.cells cs e false) => putO h d e (lset cs off v)
  | _ => none

/-! ### Operations -/
/-- what an operation comes to -/
inductive N where
  | fail
  | val (v : DV) (h : H)
  | call (f : DFn) (args : List DV) (h : H)
  | defer (f : Nat) (args : List DV) (h : H)
  | recover (h : H)
  | panic (v : DV) (h : H)

abbrev Ev := DX → DV

def fills : List DV → List (Nat × Nat × DV) → Option (List DV)
  | cs, [] => some cs
  | cs, (off, n, v) :: r => bif lenIs v.cells n && !v.tup then match lsplice off v.cells cs with
      | some cs' => fills cs' r
      | none => none
    else none

def partV (cs : List DV) (off n : Nat) (ag : Bool) : Option DV :=
  match ag with
  | true => match lpart cs off n with
    | some l => some (.agg l)
    | none => none
  | false => lget cs off

def rep : Nat → List DV → List DV
  | 0, _ => []
  | n + 1, z => z ++ rep n z

def iLe (a b : Int) : Bool :=
  match a, b with
  | .ofNat a, .ofNat b => Nat.ble a b
  | .negSucc _, .ofNat _ => true
  | .ofNat _, .negSucc _ => false
  | .negSucc a, .negSucc b => Nat.ble b a
def iEq (a b : Int) : Bool :=
  match a, b with
  | .ofNat a, .ofNat b => Nat.beq a b
  | .negSucc a, .negSucc b => Nat.beq a b
  | _, _ => false
def maxN (k : IntKind) : Nat :=
  match k with
  | .i8 => 127 | .i16 => 32767 | .i32 => 2147483647 | .i64 => 9223372036854775807
  | .u8 => 255 | .u16 => 65535 | .u32 => 4294967295 | .u64 => 18446744073709551615
/-- as 'IntKind.wrap' -/
def wrapF (k : IntKind) (n : Int) : Int :=
  match n with
  | .ofNat m => bif Nat.ble m (maxN k) then .ofNat m else k.wrap (.ofNat m)
  | .negSucc m => bif k.signed && Nat.ble m (maxN k) then .negSucc m else k.wrap (.negSucc m)
def bitS (op : BinOp) (k : IntKind) (a b : Int) : Option Int :=
  match op with
  | .and => some (k.wrap (BitVec.ofInt k.bits a &&& BitVec.ofInt k.bits b).toNat)
  | .or => some (k.wrap (BitVec.ofInt k.bits a ||| BitVec.ofInt k.bits b).toNat)
  | .xor => some (k.wrap (BitVec.ofInt k.bits a ^^^ BitVec.ofInt k.bits b).toNat)
  | .andNot => some (k.wrap (BitVec.ofInt k.bits a &&& ~~~ BitVec.ofInt k.bits b).toNat)
  | _ => none
def bitN (op : BinOp) (a b : Nat) : Option Nat :=
  match op with
  | .and => some (Nat.land a b)
  | .or => some (Nat.lor a b)
  | .xor => some (Nat.xor a b)
  | .andNot => some (Nat.xor a (Nat.land a b))
  | _ => none
def intV (k : IntKind) (o : Option Int) : Option DV :=
  match o with
  | some n => some (.int k n)
  | none => none
def natV (k : IntKind) (o : Option Nat) : Option DV :=
  match o with
  | some n => some (.int k (.ofNat n))
  | none => none
def bitI (op : BinOp) (k : IntKind) (a b : Int) : Option DV :=
  match a, b with
  | .ofNat x, .ofNat y => bif Nat.ble x (maxN k) && Nat.ble y (maxN k) then natV k (bitN op x y) else intV k (bitS op k a b)
  | _, _ => intV k (bitS op k a b)
def binI (op : BinOp) (k : IntKind) (a b : Int) : Option DV :=
  match op with
  | .add => some (.int k (wrapF k (Int.add a b)))
  | .sub => some (.int k (wrapF k (Int.sub a b)))
  | .mul => some (.int k (wrapF k (Int.mul a b)))
  | .quo => bif iEq b 0 then none else some (.int k (wrapF k (a.tdiv b)))
  | .rem => bif iEq b 0 then none else some (.int k (a.tmod b))
  | .eql => some (.bool (iEq a b))
  | .neq => some (.bool (!iEq a b))
  | .lss => some (.bool (!iLe b a))
  | .leq => some (.bool (iLe a b))
  | .gtr => some (.bool (!iLe a b))
  | .geq => some (.bool (iLe b a))
  | op => bitI op k a b
def shI (left : Bool) (k : IntKind) (a b : Int) : Option DV :=
  match b with
  | .negSucc _ => none
  | .ofNat n => match left, a with
    | true, .ofNat x => some (.int k (wrapF k (.ofNat (Nat.shiftLeft x (bif Nat.ble n k.bits then n else k.bits)))))
    | true, .negSucc x => some (.int k (k.wrap (.negSucc x * 2 ^ (min n k.bits))))
    | false, .ofNat x => some (.int k (.ofNat (Nat.shiftRight x (bif Nat.ble n k.bits then n else k.bits))))
    | false, .negSucc x => some (.int k ((Int.negSucc x).fdiv (2 ^ (min n k.bits))))

def lessN : List Nat → List Nat → Bool
  | _, [] => false
  | [], _ :: _ => true
  | a :: x, b :: y => Nat.blt a b || (Nat.beq a b && lessN x y)

def binS (op : BinOp) (x y : List Nat) : Option DV :=
  match op with
  | .add => if x.length + y.length ≤ 1000000000000 then some (.str (x ++ y)) else none
  | .eql => some (.bool (x == y))
  | .neq => some (.bool (!(x == y)))
  | .lss => some (.bool (lessN x y))
  | .leq => some (.bool (lessN x y || x == y))
  | .gtr => some (.bool (!(lessN x y || x == y)))
  | .geq => some (.bool (!lessN x y))
  | _ => none

def bin (op : BinOp) (x y : DV) : Option DV :=
  match x, y with
  | .int k a, .int k' b => match op with
    | .shl => shI true k a b
    | .shr => shI false k a b
    | op => if k = k' then binI op k a b else none
  | .str a, .str b => binS op a b
  | _, _ => none

/-- a comparison in which one side is nil, or both are pointers into one block -/
def eqP (x y : DV) : Option Bool :=
  match x, y with
  | .ptr none, .ptr b => some b.isNone
  | .ptr (some _), .ptr none => some false
  | .ptr (some (d, o)), .ptr (some (d', o')) => if d = d' then some (o == o') else none
  | _, _ => none
def isNilS (x : DV) : Option Bool :=
  match x with
  | .slice none 0 0 _ => some true
  | .slice (some _) _ _ _ => some false
  | .sliceZ _ _ _ => some false
  | _ => none
def isNilM (x : DV) : Option Bool :=
  match x with
  | .map a => some a.isNone
  | _ => none
def isNilF (x : DV) : Option Bool :=
  match x with
  | .nilFunc => some true
  | .func _ _ _ => some false
  | _ => none
def isNilI (x : DV) : Option Bool :=
  match x with
  | .nilIface => some true
  | .iface _ _ => some false
  | _ => none
/-- one side at least is nil -/
def eqNil (a b : Option Bool) : Option Bool :=
  match a, b with
  | some true, some b => some b
  | some false, some true => some false
  | _, _ => none
def eqN (k : EK) (x y : DV) : Option Bool :=
  match k with
  | .bool => beq1 .bool x y
  | .ptr => eqP x y
  | .slice => eqNil (isNilS x) (isNilS y)
  | .map => eqNil (isNilM x) (isNilM y)
  | .func => eqNil (isNilF x) (isNilF y)
  | .iface => match x, y with
    | .nilIface, .nilIface => none
    | _, _ => eqNil (isNilI x) (isNilI y)

def eqA (l : List CK) (x y : DV) : Option Bool :=
  match x, y with
  | .agg a, .agg b => beqs l a b
  | _, _ => none

def keyEq (p : Pt) (x y : DV) : Option Bool :=
  match p with
  | .one c => beq1 c x y
  | .agg l => eqA l x y

/-- an entry's place, and its value; none: a key that does not fit -/
def findE (p : Pt) (k : DV) : List (DV × DV) → Nat → Option (Option (Nat × DV))
  | [], _ => some none
  | (k', v) :: r, i =>
    match keyEq p k k' with
    | some true => some (some (i, v))
    | some false => findE p k r (i + 1)
    | none => none

def bytesOf : List DV → Option (List Nat)
  | [] => some []
  | .int .u8 n :: r => if 0 ≤ n ∧ n < 256 then (bytesOf r).map (n.toNat :: ·) else none
  | _ :: _ => none

def intO : Option DV → Nat → Option Nat
  | none, d => some d
  | some (.int _ n), _ => if 0 ≤ n then some n.toNat else none
  | some _, _ => none

/-- the cells of so many elements at an address -/
def firstC (h : H) (sz : Nat) : DV → Option (List DV)
  | .slice none 0 0 _ => some []
  | .slice (some (d, off)) n _ _ => if n = 0 then some [] else rdN h d off (n * sz)
  | .sliceZ _ _ _ => some []
  | .str s => bif Nat.beq sz 1 then some (s.map fun b => .int .u8 (b : Nat)) else none
  | _ => none
def lenOf : DV → Option Nat
  | .slice none 0 0 _ => some 0
  | .slice (some _) n _ _ => some n
  | .sliceZ _ _ _ => some 0
  | .str s => some s.length
  | _ => none

/-- is a block one of cells of a type, so many of them? -/
def isCells (h : H) (d : Nat) (e : Nat) (n : Nat) : Bool :=
  match h.get d with
  | some (.cells cs e' false) => Nat.beq e e' && lenIs cs n
  | _ => false
def room : Nat := 35184372088832
/-- a row more, behind which so much may be spare as a draw says -/
def newOpen (h : H) (e bytes : Nat) (n : Nat) (cs : List DV) : Option (DV × H) :=
  bif Nat.ble (n * bytes) room then some (.slice (some (h.nx, 0)) n n true, h.new (.cells cs e false)) else none
def appGrow (h : H) (e sz bytes : Nat) (d off len cap : Nat) (op : Bool) (m : Nat) (new : List DV) : Option (DV × H) :=
  match rdN h d off (len * sz) with
  | some old =>
    match op with
    | false => newOpen h e bytes (len + m) (old ++ new)
    | true => bif isCells h d e (off + cap * sz) then newOpen (h.kill d) e bytes (len + m) (old ++ new) else none
  | none => none
def appIn (h : H) (sz : Nat) (d off len cap : Nat) (op : Bool) (m : Nat) (new : List DV) : Option (DV × H) :=
  match wrN h d (off + len * sz) new with
  | some h' => some (.slice (some (d, off)) (len + m) cap op, h')
  | none => none
def appendD (h : H) (e sz bytes : Nat) (s x : DV) : Option (DV × H) :=
  match lenOf x, firstC h sz x with
  | some m, some new =>
    match s with
    | .slice none 0 0 op => bif Nat.beq m 0 then some (.slice none 0 0 op, h) else newOpen h e bytes m new
    | .slice (some (d, off)) len cap op =>
      bif Nat.ble (len + m) cap then (bif Nat.beq m 0 then some (.slice (some (d, off)) len cap op, h) else appIn h sz d off len cap op m new)
      else bif Nat.ble len cap then appGrow h e sz bytes d off len cap op m new else none
    | .sliceZ d off alt =>
      bif Nat.beq m 0 then some (.sliceZ d off alt, h)
      else bif isCells h d e off then newOpen (h.kill d) e bytes m new else none
    | _ => none
  | _, _ => none

def cutTo (n : Nat) (x : DV) : DV :=
  match x with
  | .slice a _ c op => .slice a n c op
  | .str l => .str (l.take n)
  | v => v
def copyTo (h : H) (d : DV) (n : Nat) (new : List DV) : Option (DV × H) :=
  match d with
  | .slice (some (b, off)) _ _ _ => match wrN h b off new with
    | some h' => some (.int .i64 (n : Nat), h')
    | none => none
  | _ => none
def copyN (h : H) (sz : Nat) (d s : DV) (n : Nat) : Option (DV × H) :=
  bif Nat.beq n 0 then some (.int .i64 0, h) else
  match firstC h sz (cutTo n s) with
  | some new => copyTo h d n new
  | none => none
def lenS (x : DV) : Option Nat :=
  match x with
  | .slice none 0 0 _ => some 0
  | .slice (some _) n _ _ => some n
  | .sliceZ _ _ _ => some 0
  | _ => none
def copyD (h : H) (sz : Nat) (d s : DV) : Option (DV × H) :=
  match lenOf s, lenS d with
  | some ls, some ld => copyN h sz d s (bif Nat.ble ls ld then ls else ld)
  | _, _ => none

def sliceD (sz : Nat) (x : DV) (lo hi mx : Option DV) : Option DV :=
  match x with
  | .slice a len cap op =>
    match intO lo 0, intO hi len, intO mx cap with
    | some l, some hh, some m =>
      if l ≤ hh ∧ hh ≤ m ∧ m ≤ cap ∧ (a.isSome ∨ cap = 0) then
        match mx with
        | some _ => some (.slice (if m = l then a else a.map fun (d, off) => (d, off + l * sz)) (hh - l) (m - l) false)
        | none =>
          match op with
          | false => some (.slice (if m = l then a else a.map fun (d, off) => (d, off + l * sz)) (hh - l) (m - l) false)
          | true =>
            match a with
            | none => none
            | some (d, off) =>
              if m = l ∧ l ≠ 0 then some (.sliceZ d (off + l * sz) off) else some (.slice (some (d, off + l * sz)) (hh - l) (m - l) true)
      else none
    | _, _, _ => none
  | .sliceZ d off alt =>
    match intO lo 0, intO hi 0, mx with
    | some 0, some 0, none => some (.sliceZ d off alt)
    | _, _, _ => none
  | _ => none

def defs (ev : Ev) (l : List (Nat × Nat × DX)) : List (Nat × Nat × DV) := l.map fun (a, b, x) => (a, b, ev x)

def valO (o : Option DV) (h : H) : N :=
  match o with
  | some v => .val v h
  | none => .fail
def vhO (o : Option (DV × H)) : N :=
  match o with
  | some (v, h) => .val v h
  | none => .fail
def hO (o : Option H) : N :=
  match o with
  | some h => .val .undef h
  | none => .fail

/-- a number that is at least 0, and less than another one -/
def inB (n : Int) (len : Nat) : Option Nat :=
  match n with
  | .ofNat m => bif Nat.ble (Nat.succ m) len then some m else none
  | .negSucc _ => none
def ptrO (d o sz : Nat) (i : Option Nat) (h : H) : N :=
  match i with
  | some m => .val (.ptr (some (d, o + m * sz))) h
  | none => .fail

def oMv (x : DX) (ev : Ev) (h : H) : N := .val (ev x) h
def oPick (c : DX) (a : DX) (b : DX) (ev : Ev) (h : H) : N := match ev c with
    | .bool t => .val (bif t then ev a else ev b) h
    | _ => .fail
def oAlloc (z : List DV) (e : Nat) (_ev : Ev) (h : H) : N := .val (.ptr (some (h.nx, 0))) (h.new (.cells z e false))
def oBox (e : Nat) (x : DX) (ev : Ev) (h : H) : N := bif (ev x).tup then .fail else .val (.ptr (some (h.nx, 0))) (h.new (.cells (ev x).cells e false))
def oBuild (z : List DV) (ps : List (Nat × Nat × DX)) (ev : Ev) (h : H) : N := valO ((fills z (defs ev ps)).map .agg) h
def oBslice (e : Nat) (z : List DV) (ps : List (Nat × Nat × DX)) (len : Nat) (ev : Ev) (h : H) : N := match fills z (defs ev ps) with
    | some cs => .val (.slice (some (h.nx, 0)) len len false) (h.new (.cells cs e false))
    | none => .fail
def oLoad1 (a : DX) (ev : Ev) (h : H) : N := match ev a with
    | .ptr (some (d, off)) => valO (rd1 h d off) h
    | _ => .fail
def oLoadN (n : Nat) (a : DX) (ev : Ev) (h : H) : N := match ev a with
    | .ptr (some (d, off)) => valO ((rdN h d off n).map .agg) h
    | _ => .fail
def oStore1 (a : DX) (v : DX) (ev : Ev) (h : H) : N := match ev a with
    | .ptr (some (d, off)) => if (ev v).one then hO (wr1 h d off (ev v)) else .fail
    | _ => .fail
def oStoreN (n : Nat) (a : DX) (v : DX) (ev : Ev) (h : H) : N := match ev a, ev v with
    | .ptr (some (d, off)), .agg vs => bif lenIs vs n then hO (wrN h d off vs) else .fail
    | _, _ => .fail
def oNilc (x : DX) (ev : Ev) (h : H) : N := match ev x with
    | .ptr (some a) => .val (.ptr (some a)) h
    | _ => .fail
def oBin (op : BinOp) (x : DX) (y : DX) (ev : Ev) (h : H) : N := valO (bin op (ev x) (ev y)) h
def oEqN (k : EK) (neg : Bool) (x : DX) (y : DX) (ev : Ev) (h : H) : N := valO ((eqN k (ev x) (ev y)).map fun b => .bool (b != neg)) h
def oEqA (l : List CK) (neg : Bool) (x : DX) (y : DX) (ev : Ev) (h : H) : N := valO ((eqA l (ev x) (ev y)).map fun b => .bool (b != neg)) h
def oUn (op : UnOp) (x : DX) (ev : Ev) (h : H) : N := match op, ev x with
    | .neg, .int k n => .val (.int k (wrapF k (Int.neg n))) h
    | .xor, .int k n => .val (.int k (k.wrap (BitVec.ofInt k.bits (if k.signed then -1 else k.max) ^^^ BitVec.ofInt k.bits n).toNat)) h
    | .not, .bool b => .val (.bool !b) h
    | _, _ => .fail
def oToInt (k : IntKind) (x : DX) (ev : Ev) (h : H) : N := match ev x with
    | .int _ n => .val (.int k (wrapF k n)) h
    | _ => .fail
def oToStr (x : DX) (ev : Ev) (h : H) : N := match lenOf (ev x), ev x with
    | some _, .str _ => .fail
    | some _, v => valO (((firstC h 1 v).bind bytesOf).map .str) h
    | none, _ => .fail
def oSame (x : DX) (ev : Ev) (h : H) : N := match ev x with
    | .str s => .val (.str s) h
    | _ => .fail
def oMkI (t : Nat) (x : DX) (ev : Ev) (h : H) : N := .val (.iface t (ev x)) h
def oMkF (f : Nat) (first : List DX) (caps : List DX) (ev : Ev) (h : H) : N := .val (.func (.func f) (first.map ev) (caps.map ev)) h
def oMkMap (_ev : Ev) (h : H) : N := .val (.map (some h.nx)) (h.new (.map []))
def oMapSet (p : Pt) (m : DX) (k : DX) (v : DX) (ev : Ev) (h : H) : N := match ev m with
    | .map (some d) => match h.get d with
      | some (.map es) => match keyEq p (ev k) (ev k) with
        | none => .fail
        | some _ => match findE p (ev k) es 0 with
          | some (some (i, _)) => .val .undef (h.put d (.map (es.set i (ev k, ev v))))
          | some none => .val .undef (h.put d (.map (es ++ [(ev k, ev v)])))
          | none => .fail
      | _ => .fail
    | _ => .fail
def oMapGet (p : Pt) (z : DV) (ok : Bool) (m : DX) (k : DX) (ev : Ev) (h : H) : N :=
    let back (v : DV) (b : Bool) : N := .val (bif ok then .tuple [v, .bool b] else v) h
    match keyEq p (ev k) (ev k) with
    | none => .fail
    | some _ => match ev m with
      | .map none => back z false
      | .map (some d) => match h.get d with
        | some (.map es) => match findE p (ev k) es 0 with
          | some (some (_, v)) => back v true
          | some none => back z false
          | none => .fail
        | _ => .fail
      | _ => .fail
def oMkSlice (e : Nat) (sz : Nat) (bytes : Nat) (z : List DV) (l : DX) (c : DX) (ev : Ev) (h : H) : N := match ev l, ev c with
    | .int .i64 l, .int .i64 c => if 0 ≤ l ∧ l ≤ c ∧ bytes * c ≤ 35184372088832 ∧ sz = z.length ∧ c ≤ 35184372088832 then
        .val (.slice (some (h.nx, 0)) l.toNat c.toNat false) (h.new (.cells (rep c.toNat z) e false)) else .fail
    | _, _ => .fail
def oSlStr (x : DX) (lo : Option DX) (hi : Option DX) (ev : Ev) (h : H) : N := match ev x with
    | .str s => match intO (lo.map ev) 0, intO (hi.map ev) s.length with
      | some l, some hh => if l ≤ hh ∧ hh ≤ s.length then .val (.str ((s.drop l).take (hh - l))) h else .fail
      | _, _ => .fail
    | _ => .fail
def oSlSl (sz : Nat) (x : DX) (lo : Option DX) (hi : Option DX) (mx : Option DX) (ev : Ev) (h : H) : N := valO (sliceD sz (ev x) (lo.map ev) (hi.map ev) (mx.map ev)) h
def oSlArr (n : Nat) (sz : Nat) (x : DX) (lo : Option DX) (hi : Option DX) (mx : Option DX) (ev : Ev) (h : H) : N := match ev x with
    | .ptr (some a) => valO (sliceD sz (.slice (some a) n n false) (lo.map ev) (hi.map ev) (mx.map ev)) h
    | _ => .fail
def oFldA (off : Nat) (x : DX) (ev : Ev) (h : H) : N := match ev x with
    | .ptr (some (d, o)) => .val (.ptr (some (d, o + off))) h
    | _ => .fail
def oFldV (off : Nat) (n : Nat) (ag : Bool) (x : DX) (ev : Ev) (h : H) : N := match ev x with
    | .agg cs => valO (partV cs off n ag) h
    | _ => .fail
def oIdxA (len : Nat) (sz : Nat) (x : DX) (i : DX) (ev : Ev) (h : H) : N := match ev x, ev i with
    | .ptr (some (d, o)), .int _ n => ptrO d o sz (inB n len) h
    | _, _ => .fail
def oIdxS (sz : Nat) (x : DX) (i : DX) (ev : Ev) (h : H) : N := match ev x, ev i with
    | .slice (some (d, o)) len _ _, .int _ n => ptrO d o sz (inB n len) h
    | _, _ => .fail
def oIdxV (len : Nat) (sz : Nat) (ag : Bool) (x : DX) (i : DX) (ev : Ev) (h : H) : N := match ev x, ev i with
    | .agg cs, .int _ n => match inB n len with
      | some m => valO (partV cs (m * sz) sz ag) h
      | none => .fail
    | _, _ => .fail
def oIdxStr (x : DX) (i : DX) (ev : Ev) (h : H) : N := match ev x, ev i with
    | .str s, .int _ n => match n with
      | .ofNat m => valO ((lget s m).map fun b => .int .u8 (b : Nat)) h
      | .negSucc _ => .fail
    | _, _ => .fail
def oExt (i : Nat) (x : DX) (ev : Ev) (h : H) : N := match ev x with
    | .tuple l => valO (lget l i) h
    | _ => .fail
def oTas (t : Nat) (z : DV) (x : DX) (ev : Ev) (h : H) : N := match ev x with
    | .nilIface => .val (.tuple [z, .bool false]) h
    | .iface t' v => .val (bif Nat.beq t' t then .tuple [v, .bool true] else .tuple [z, .bool false]) h
    | _ => .fail
def oCall (f : DX) (args : List DX) (ev : Ev) (h : H) : N := match ev f with
    | .func fn first caps => .call fn (first ++ args.map ev ++ caps) h
    | _ => .fail
def lenK (k : LK) (x : DV) (h : H) : Option Nat :=
  match k with
  | .str => match x with
    | .str s => some s.length
    | _ => none
  | .slice => lenS x
  | .map => match x with
    | .map none => some 0
    | .map (some d) => match h.get d with
      | some (.map es) => some es.length
      | _ => none
    | _ => none
def oLen (k : LK) (x : DX) (ev : Ev) (h : H) : N := valO ((lenK k (ev x) h).map fun n => .int .i64 (n : Nat)) h
def oLenA (n : Nat) (_ev : Ev) (h : H) : N := .val (.int .i64 n) h
def oCap (x : DX) (ev : Ev) (h : H) : N := match ev x with
    | .slice none 0 0 _ => .val (.int .i64 0) h
    | .slice (some _) _ c false => .val (.int .i64 c) h
    | _ => .fail
def oAppend (e : Nat) (sz : Nat) (bytes : Nat) (s : DX) (x : DX) (ev : Ev) (h : H) : N := vhO (appendD h e sz bytes (ev s) (ev x))
def oCopy (sz : Nat) (d : DX) (s : DX) (ev : Ev) (h : H) : N := vhO (copyD h sz (ev d) (ev s))
def oMinI (x : DX) (y : DX) (ev : Ev) (h : H) : N := match ev x, ev y with
    | .int k a, .int _ b => .val (.int k (bif iLe a b then a else b)) h
    | _, _ => .fail
def oMaxI (x : DX) (y : DX) (ev : Ev) (h : H) : N := match ev x, ev y with
    | .int k a, .int _ b => .val (.int k (bif iLe b a then a else b)) h
    | _, _ => .fail
def oRecover (_ev : Ev) (h : H) : N := .recover h
def oDefer (f : DX) (args : List DX) (ev : Ev) (h : H) : N := match ev f with
    | .func (.func fn) first caps => .defer fn (first ++ args.map ev ++ caps) h
    | _ => .fail
def oPanic (x : DX) (ev : Ev) (h : H) : N := match ev x with
    | .iface t v => .panic (.iface t v) h
    | _ => .fail
def oSdata (x : DX) (ev : Ev) (h : H) : N := match ev x with
    | .slice none 0 0 _ => .val (.ptr none) h
    | .slice (some a) len _ _ => if len = 0 then .fail else .val (.ptr (some a)) h
    | _ => .fail
def oUstr (p : DX) (n : DX) (ev : Ev) (h : H) : N := match ev p, ev n with
    | .ptr none, .int _ 0 => .val (.str []) h
    | .ptr (some (d, off)), .int .i64 n => if 0 < n then
        match (rdN h d off n.toNat).bind bytesOf with
        | some l => match h.get d with
          | some (.cells _ _ false) => .val (.str l) (h.kill d)
          | _ => .fail
        | none => .fail
      else .fail
    | _, _ => .fail
def oClear (z : List DV) (x : DX) (ev : Ev) (h : H) : N := match ev x with
    | .slice none 0 0 _ => .val .undef h
    | .sliceZ _ _ _ => .val .undef h
    | .slice (some (d, off)) n _ _ => bif Nat.beq n 0 then .val .undef h else hO (wrN h d off (rep n z))
    | _ => .fail

def dop (o : DOp) : Ev → H → N :=
  DOp.rec (motive := fun _ => Ev → H → N) oMv oPick oAlloc oBox oBuild oBslice oLoad1 oLoadN oStore1 oStoreN oNilc oBin oEqN oEqA oUn oToInt oToStr oSame oMkI oMkF oMkMap oMapSet oMapGet oMkSlice oSlStr oSlSl oSlArr oFldA oFldV oIdxA oIdxS oIdxV oIdxStr oExt oTas oCall oLen oLenA oCap oAppend oCopy oMinI oMaxI oRecover oDefer oPanic oSdata oUstr oClear o

/-- 0: it gives a value that memory does not matter to; 1: it looks at memory; 2: it makes a variable, or a row; 3: it does more -/
def DOp.sort : DOp → Nat
  | .load1 .. | .loadN .. | .mapGet .. | .toStr .. | .len .. => 1
  | .alloc .. | .mkSlice .. => 2
  | .box .. | .bslice .. | .store1 .. | .storeN .. | .mkMap | .mapSet .. | .call .. | .append .. | .copy .. | .recover | .defer .. | .panic .. | .ustr .. | .clear .. => 3
  | _ => 0

/-! ### Running -/
inductive DExit where
  | normal
  | exit (id : Nat)
  | goto (l : Nat)
  | ret
  | panic (v : DV)

inductive DDef where
  | call (f : Nat) (args : List DV)
  | coll (d : Nat)

structure Fr where
  fn : Nat
  n : Nat
  tm : T DV
  df : List DDef
  rc : Option DV
  ro : Option Nat

def orU (o : Option DV) : DV := Option.rec .undef (fun v => v) o
/-- an operand: of the slots, of what the region at hand has come to so far (newest first), or a constant -/
def evX (x : DX) : T DV → List DV → DV :=
  DX.rec (motive := fun _ => T DV → List DV → DV) (fun i tm _ => orU (tm.get i)) (fun k _ st => orU (lget st k)) (fun v _ _ => v) x
def Fr.evS (fr : Fr) (st : List DV) (x : DX) : DV := evX x fr.tm st
def Fr.ev (fr : Fr) (x : DX) : DV := evX x fr.tm []
def Fr.putD (fr : Fr) : Pth → DV → Fr :=
  Fr.rec (motive := fun _ => Pth → DV → Fr) (fun fn n tm df rc ro d v => ⟨fn, n, tm.set d (some v), df, rc, ro⟩) fr
def Fr.put (fr : Fr) (dst : Option Pth) (v : DV) : Fr := Option.rec fr (fun d => fr.putD d v) dst
def Fr.setDf (fr : Fr) : List DDef → Fr :=
  Fr.rec (motive := fun _ => List DDef → Fr) (fun fn n tm _ rc ro df => ⟨fn, n, tm, df, rc, ro⟩) fr
def Fr.setRc (fr : Fr) : Option DV → Fr :=
  Fr.rec (motive := fun _ => Option DV → Fr) (fun fn n tm df _ ro rc => ⟨fn, n, tm, df, rc, ro⟩) fr

inductive DEnd where
  | ret (v : DV)
  | panic (v : DV)

inductive Job where
  | code (c : DC)
  | scope (body rest : DC)
  | call (f : Nat) (args : List DV)
  | round (l : Nat) (args : List DV)
  | unwind (res : List DRV) (pan : Option DV)

structure Env where
  fn : Nat → Option DFunc
  ext : Nat → Option (List DV → H → Option (DV × H))

/-- what running comes to -/
inductive R where
  | fail
  | nrm (fr : Fr) (h : H)
  | exc (e : DExit) (fr : Fr) (h : H)
  | fin (e : DEnd) (rc : Option DV) (h : H)

def findL : DC → Nat → Option DC
  | .seq a b, l =>
    match findL a l with
    | some rest => some (.seq rest b)
    | none => findL b l
  | .label l', l => bif Nat.beq l' l then some .skip else none
  | _, _ => none

abbrev K := Fr → H → R
abbrev Ih := Job → K

def wantS (want : Bool) (v : DV) : Bool :=
  match v with
  | .bool b => Bool.rec (Bool.rec true false want) want b
  | _ => false
def wanted (g : Option (DX × Bool)) (ev : Ev) : Bool :=
  Option.rec true (fun g => wantS g.2 (ev g.1)) g

/-- a call: an extern's answer, or a function's run -/
def callE (g : List DV → H → Option (DV × H)) (args : List DV) (h : H) : R :=
  match g args h with
  | some (v, h') => .fin (.ret v) none h'
  | none => .fail
def callF (E : Env) (ih : Ih) (f : DFn) (args : List DV) (fr : Fr) (h : H) : R :=
  match f with
  | .func f => match E.ext f with
    | some g => callE g args h
    | none => ih (.call f args) (fr.setRc none) h
  | .yield l => ih (.round l args) fr h

/-- what one operation comes to: a value, or the frame's end -/
inductive S where
  | fail
  | val (v : DV) (fr : Fr) (h : H)
  | exc (e : DExit) (fr : Fr) (h : H)

def backE (fr : Fr) (h : H) (e : DEnd) : S :=
  match e with
  | .ret v => .val v fr h
  | .panic v => .exc (.panic v) fr h
def backR (fr : Fr) (r : R) : S :=
  R.rec .fail (fun _ _ => .fail) (fun _ _ _ => .fail) (fun e _ h => backE fr h e) r
def nxDefer (fr : Fr) (f : Nat) (args : List DV) (h : H) : S :=
  match fr.ro with
  | none => .val .undef (fr.setDf (.call f args :: fr.df)) h
  | some _ => .fail
def nxRecover (fr : Fr) (h : H) : S :=
  match fr.ro with
  | none => match fr.rc with
    | some v => .val v (fr.setRc none) h
    | none => .val .nilIface fr h
  | some _ => .fail
def nxVal (fr : Fr) (v : DV) (h : H) : S := .val v fr h
def nxCall (E : Env) (ih : Ih) (fr : Fr) (f : DFn) (args : List DV) (h : H) : S := backR fr (callF E ih f args fr h)
def nxPanic (fr : Fr) (v : DV) (h : H) : S := .exc (.panic v) fr h
def nxt (E : Env) (ih : Ih) (fr : Fr) (n : N) : S :=
  N.rec .fail (nxVal fr) (nxCall E ih fr) (nxDefer fr) (nxRecover fr) (nxPanic fr) n
/-- one operation that is wanted -/
def dstep (E : Env) (ih : Ih) (o : DOp) (ev : Ev) (fr : Fr) (h : H) : S := nxt E ih fr (dop o ev h)

def goOn (k : K) (r : R) : R := R.rec .fail k .exc .fin r
abbrev KS := List DV → K
def ksPut (dst : Option Pth) (k : KS) (st : List DV) (v : DV) (fr : Fr) (h : H) : R := k (v :: st) (fr.put dst v) h
def goS (dst : Option Pth) (k : KS) (st : List DV) (x : S) : R := S.rec .fail (ksPut dst k st) .exc x
def dopsC (E : Env) (ih : Ih) (o : DOper) (k : KS) (st : List DV) (fr : Fr) (h : H) : R :=
  Bool.rec (ksPut o.dst k st .undef fr h) (goS o.dst k st (dstep E ih o.op (fr.evS st) fr h)) (wanted o.guard (fr.evS st))
def dopsN (_st : List DV) (fr : Fr) (h : H) : R := .nrm fr h
def dops (E : Env) (ih : Ih) (l : List DOper) : KS := List.rec dopsN (fun o _ k => dopsC E ih o k) l

/-- are two values surely the same? -/
def DV.same1 : DV → DV → Bool
  | .bool a, .bool b => a == b
  | .int k a, .int k' b => decide (k = k') && a == b
  | .str a, .str b => a == b
  | .ptr a, .ptr b => a == b
  | .slice a l c o, .slice a' l' c' o' => a == a' && l == l' && c == c' && o == o'
  | .sliceZ d o a, .sliceZ d' o' a' => d == d' && o == o' && a == a'
  | .map a, .map b => a == b
  | .nilFunc, .nilFunc => true
  | .nilIface, .nilIface => true
  | _, _ => false
def sames : List DV → List DV → Bool
  | [], [] => true
  | x :: xs, y :: ys => DV.same1 x y && sames xs ys
  | _, _ => false
def DV.same : DV → DV → Bool
  | .agg a, .agg b => sames a b
  | .tuple a, .tuple b => sames a b
  | a, b => DV.same1 a b

/-- what has been run of a region that draws, and must be as it was wherever else it might have been run -/
inductive Seen where
  | look (op : DOp) (fr : Fr) (v : DV) (dr : Draw)
  | made (d : Nat) (cs : List DV) (e : Nat) (dr : Draw)

def lookOk (op : DOp) (ev : Ev) (v : DV) (h : H) : Bool :=
  match dop op ev h with
  | .val v' _ => DV.same v' v
  | _ => false
def madeOk (d : Nat) (cs : List DV) (e : Nat) (h : H) : Bool :=
  match h.get d with
  | some (.cells cs' e' false) => sames cs' cs && Nat.beq e' e && Nat.ble (Nat.succ d) h.nx
  | _ => false
def within (hs : List H) (dr : Draw) : List H := (hs.reverse.drop dr.lo).take (dr.hi + 1 - dr.lo)
/-- heaps: one a count of effects, newest first -/
def seenOk (hs : List H) (s : Seen) : Bool :=
  match s with
  | .look op fr v dr => (within hs dr).all (lookOk op fr.ev v)
  | .made d cs e dr => (within hs dr).all (madeOk d cs e)

abbrev KD := Fr → H → List H → List Seen → R
def ddrawN (fr : Fr) (h : H) (hs : List H) (ss : List Seen) : R :=
  bif ss.all (seenOk hs) then .nrm fr h else .fail
/-- the block that has just been made -/
def madeS (h h' : H) (dr : Draw) : Option Seen :=
  match h'.get h.nx with
  | some (.cells cs e false) => some (.made h.nx cs e dr)
  | _ => none
def ddrawK (o : DOper) (dr : Draw) (k : KD) (fr : Fr) (h : H) (hs : List H) (ss : List Seen) (r : S) : R :=
  match r with
  | .val v fr' h' =>
    match o.op.sort with
    | 0 => k (fr'.put o.dst v) h' hs ss
    | 1 => k (fr'.put o.dst v) h' hs (.look o.op fr v dr :: ss)
    | 2 => match madeS h h' dr with
      | some s => bif Nat.beq hs.length (Nat.succ dr.lo) then k (fr'.put o.dst v) h' (h' :: hs.tail) (s :: ss) else .fail
      | none => .fail
    | _ => k (fr'.put o.dst v) h' (h' :: hs) ss
  | _ => .fail
def ddrawC (E : Env) (ih : Ih) (od : DOper × Draw) (k : KD) (fr : Fr) (h : H) (hs : List H) (ss : List Seen) : R :=
  match od with
  | (o, dr) =>
    bif wanted o.guard fr.ev then ddrawK o dr k fr h hs ss (dstep E ih o.op fr.ev fr h)
    else bif Nat.beq o.op.sort 3 then k (fr.put o.dst .undef) h (h :: hs) ss else k (fr.put o.dst .undef) h hs ss
def ddraw (E : Env) (ih : Ih) (l : List (DOper × Draw)) : KD :=
  List.rec ddrawN (fun od _ k => ddrawC E ih od k) l

def resV (fr : Fr) (h : H) : List DRV → Option (List DV)
  | [] => some []
  | .tmp t :: r => (resV fr h r).map (fr.ev (.t t) :: ·)
  | .cell a n ag :: r => match fr.ev (.t a) with
    | .ptr (some (d, off)) => match (match ag with | true => (rdN h d off n).map DV.agg | false => rd1 h d off), resV fr h r with
      | some v, some vs => some (v :: vs)
      | _, _ => none
    | _ => none
def oneV : List DV → DV
  | [v] => v
  | l => .tuple l

def setPs : T DV → List Pth → List DV → T DV
  | t, p :: ps, v :: vs => setPs (t.set p (some v)) ps vs
  | t, _, _ => t
def setArgs : T DV → Nat → List DV → T DV
  | t, _, [] => t
  | t, i, v :: vs => setArgs (t.set (bits i) (some v)) (Nat.succ i) vs

def kDraw (E : Env) (ih : Ih) (ops : List (DOper × Draw)) (fr : Fr) (h : H) : R := ddraw E ih ops fr h [h] []
def kSeq (ih : Ih) (a b : DC) (fr : Fr) (h : H) : R := goOn (ih (.code b)) (ih (.code a) fr h)
def kCondB (ih : Ih) (a b : DC) (fr : Fr) (h : H) (v : DV) : R :=
  match v with
  | .bool t => Bool.rec (ih (.code b) fr h) (ih (.code a) fr h) t
  | _ => .fail
def kCond (ih : Ih) (c : DX) (a b : DC) (fr : Fr) (h : H) : R := kCondB ih a b fr h (fr.ev c)
def exBlock (id : Nat) (e : DExit) (fr : Fr) (h : H) : R :=
  match e with
  | .exit id' => bif Nat.beq id' id then .nrm fr h else .exc (.exit id') fr h
  | e => .exc e fr h
def kBlock (ih : Ih) (id : Nat) (b : DC) (fr : Fr) (h : H) : R := R.rec .fail .nrm (exBlock id) .fin (ih (.code b) fr h)
def kLoop (ih : Ih) (b : DC) (fr : Fr) (h : H) : R := goOn (ih (.code (.loop b))) (ih (.code b) fr h)
def jumpR (j : Option Jump) (fr : Fr) (h : H) : R :=
  match j with
  | none => .nrm fr h
  | some .ret => .exc .ret fr h
  | some (.exit id) => .exc (.exit id) fr h
  | some (.goto k) => .exc (.goto k) fr h
def kRfEnd (l : Nat) (fr1 : Fr) (r : R) : R :=
  match r with
  | .fin (.ret _) _ h3 =>
    match h3.get l with
    | some (.loop L) =>
      match L.st with
      | .busy => .fail
      | _ => jumpR L.pend fr1 (h3.put l (.loop { L with st := .exhausted }))
    | _ => .fail
  | _ => .fail
def kRfB (fr : Fr) (h : H) : Option (Nat × H × Fr) :=
  match fr.ro with
  | none => some (h.nx, h.new .dfr, fr.setDf (.coll h.nx :: fr.df))
  | some l => match h.get l with
    | some (.loop L) => some (L.dfr, h, fr)
    | _ => none
def kRf (ih : Ih) (f : DX) (ps : List Pth) (assign body : DC) (fr : Fr) (h : H) : R :=
  match fr.ev f with
  | .func (.func fid) first caps =>
    match kRfB fr h with
    | none => .fail
    | some (b, h1, fr1) =>
      kRfEnd h1.nx fr1 (ih (.call fid (first ++ [.func (.yield h1.nx) [] []] ++ caps)) (fr1.setRc none)
        (h1.new (.loop ⟨.ready, none, fr.fn, fr.n, fr.tm, ps, assign, body, b⟩)))
  | _ => .fail
def jumpOf (e : DExit) : Option (Option Jump) :=
  match e with
  | .normal => some none
  | .ret => some (some .ret)
  | .exit id => some (some (.exit id))
  | .goto k => some (some (.goto k))
  | .panic _ => none
/-- a round is over: what it hands back to the function that yields -/
def endRound (l : Nat) (rc : Option DV) (e : DExit) (fr2 : Fr) (h2 : H) : R :=
  match fr2.df with
  | [] => match h2.get l with
    | some (.loop L2) =>
      match jumpOf e with
      | some none => .fin (.ret (.bool true)) rc (h2.put l (.loop { L2 with st := .ready, pend := none }))
      | some (some j) => .fin (.ret (.bool false)) rc (h2.put l (.loop { L2 with st := .done, pend := some j }))
      | none => .fail
    | _ => .fail
  | _ => .fail
def kRoundE (l : Nat) (rc : Option DV) (r : R) : R :=
  match r with
  | .nrm fr2 h2 => endRound l rc .normal fr2 h2
  | .exc e fr2 h2 => endRound l rc e fr2 h2
  | _ => .fail
def kRoundB (ih : Ih) (l : Nat) (body : DC) (rc : Option DV) (r : R) : R :=
  match r with
  | .nrm fr1 h1 =>
    match h1.get l with
    | some (.loop L1) =>
      match L1.st with
      | .ready => kRoundE l rc (ih (.code body) fr1 (h1.put l (.loop { L1 with st := .busy })))
      | _ => .fail
    | _ => .fail
  | _ => .fail
def kRound (ih : Ih) (l : Nat) (args : List DV) (fr : Fr) (h : H) : R :=
  match h.get l with
  | some (.loop L) =>
    if args.length = L.ps.length then
      kRoundB ih l L.body fr.rc (ih (.code L.assign) ⟨L.fn, L.n, setPs L.tm L.ps args, [], none, some l⟩ h)
    else .fail
  | _ => .fail
def exScope (ih : Ih) (b : DC) (e : DExit) (fr : Fr) (h : H) : R :=
  match e with
  | .goto l => match findL b l with
    | some rest' => ih (.scope b rest') fr h
    | none => .exc (.goto l) fr h
  | e => .exc e fr h
def kScope (ih : Ih) (b rest : DC) (fr : Fr) (h : H) : R := R.rec .fail .nrm (exScope ih b) .fin (ih (.code rest) fr h)
def kScope0 (ih : Ih) (b : DC) (fr : Fr) (h : H) : R := ih (.scope b b) fr h
def kCode (c : DC) : Env → Ih → K :=
  DC.rec (motive := fun _ => Env → Ih → K) (fun _ _ => .nrm) (fun ops E ih => dops E ih ops []) (fun ops _ E ih => kDraw E ih ops)
    (fun a b _ _ _ ih => kSeq ih a b) (fun c a b _ _ _ ih => kCond ih c a b) (fun id b _ _ ih => kBlock ih id b) (fun b _ _ ih => kLoop ih b)
    (fun f ps a b _ _ _ ih => kRf ih f ps a b) (fun id _ _ => .exc (.exit id)) (fun b _ _ ih => kScope0 ih b) (fun _ _ _ => .nrm)
    (fun l _ _ => .exc (.goto l)) (fun _ _ => .exc .ret) c
def exCall (ih : Ih) (res : List DRV) (e : DExit) (fr : Fr) (h : H) : R :=
  match e with
  | .ret => ih (.unwind res none) fr h
  | .panic v => ih (.unwind res (some v)) fr h
  | _ => .fail
def kCallE (ih : Ih) (res : List DRV) (r : R) : R :=
  R.rec .fail (fun fr h => ih (.unwind res none) fr h) (exCall ih res) (fun _ _ _ => .fail) r
def kCall (E : Env) (ih : Ih) (f : Nat) (args : List DV) (fr : Fr) (h : H) : R :=
  match E.fn f with
  | some F => bif Nat.ble args.length F.ntmps then kCallE ih F.res (ih (.code F.body) ⟨f, F.ntmps, setArgs .e 0 args, [], fr.rc, none⟩ h) else .fail
  | none => .fail
def kUnwN (res : List DRV) (pan : Option DV) (fr : Fr) (h : H) : R :=
  match pan with
  | none => match resV fr h res with
    | some vs => .fin (.ret (oneV vs)) fr.rc h
    | none => .fail
  | some v => .fin (.panic v) fr.rc h
def kUnwC (ih : Ih) (res : List DRV) (pan : Option DV) (fr : Fr) (r : List DDef) (x : R) : R :=
  match x with
  | .fin (.ret _) rc' h' => match pan with
    | none => ih (.unwind res none) (fr.setDf r) h'
    | some v => match rc' with
      | none => ih (.unwind res none) (fr.setDf r) h'
      | some _ => ih (.unwind res (some v)) (fr.setDf r) h'
  | _ => .fail
def kUnw (ih : Ih) (res : List DRV) (pan : Option DV) (fr : Fr) (h : H) : R :=
  match fr.df with
  | [] => kUnwN res pan fr h
  | .coll d :: r => match h.get d with
    | some .dfr => ih (.unwind res pan) (fr.setDf r) (h.kill d)
    | _ => .fail
  | .call f args :: r => kUnwC ih res pan fr r (ih (.call f args) (fr.setRc pan) h)
def step (E : Env) (ih : Ih) (j : Job) : K :=
  match j with
  | .code c => kCode c E ih
  | .scope b r => kScope ih b r
  | .call f args => kCall E ih f args
  | .round l args => kRound ih l args
  | .unwind res pan => kUnw ih res pan

def dex (E : Env) : Nat → Job → K := Nat.rec (fun _ _ _ => .fail) (fun _ ih => step E ih)

def fr0 : Fr := ⟨0, 0, .e, [], none, none⟩

end Go.Dm
