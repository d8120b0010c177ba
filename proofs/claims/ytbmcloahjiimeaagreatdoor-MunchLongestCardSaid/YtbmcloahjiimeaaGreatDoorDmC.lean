/- From the model's code to the D-machine's: what is compiled, and under which conditions. -/
import Derived.Test.YtbmcloahjiimeaaGreatDoorDmA
set_option linter.all false
namespace Go.Dm

/-- what is known of types -/
structure Ti where
  inf : Nat → Option TypeInfo
  held : Nat → Bool
  glob : Nat → Bool

namespace Ti
variable (E : Ti)
def und (t : Nat) : Option TypeDesc :=
  match E.inf t with
  | some { desc := .named _ u, .. } => match E.inf u with
    | some i => some i.desc
    | none => none
  | some i => some i.desc
  | none => none
def size (t : Nat) : Option Nat := match E.inf t with
  | some i => some i.size
  | none => none
def bytes (t : Nat) : Option Nat := match E.inf t with
  | some i => some i.bytes
  | none => none
def ag (t : Nat) : Option Bool := match E.und t with
  | some (.struct _) | some (.array _ _) => some true
  | some _ => some false
  | none => none
end Ti

def cval1 : Value → Option DV
  | .bool b => some (.bool b)
  | .int k n => some (.int k n)
  | .string s => some (.str (s.data.toList.map UInt8.toNat))
  | .pointer none => some (.ptr none)
  | .slice none 0 0 => some (.slice none 0 0 false)
  | .map none => some (.map none)
  | .nilFunc => some .nilFunc
  | .nilIface => some .nilIface
  | _ => none
def cvals : List Value → Option (List DV)
  | [] => some []
  | v :: r => match cval1 v, cvals r with
    | some d, some ds => some (d :: ds)
    | _, _ => none
def cval : Value → Option DV
  | .agg cs => (cvals cs.toList).map .agg
  | .tuple vs => if vs.toList.isEmpty then some .undef else none
  | v => cval1 v

/-- a slot's place for whoever reads it -/
abbrev Cx := Operand → Option DX
/-- slots that lie in the D-machine's frame (the bits of m), those that a region has come to (prev: the newest first), constants -/
def cx (E : Ti) (m : Nat) (prev : List (Option Nat)) : Cx
  | .tmp t => match prev.findIdx? (· == some t) with
    | some k => some (.l k)
    | none => if m.testBit t then some (.t (bits t)) else none
  | .const v => (cval v).map .c
  | .global g => if E.glob g then some (.c (.ptr (some (g, 0)))) else none
  | .func f => some (.c (.func (.func f) [] []))
def cxs (X : Cx) : List Operand → Option (List DX)
  | [] => some []
  | x :: r => match X x, cxs X r with
    | some d, some ds => some (d :: ds)
    | _, _ => none
def cxo (X : Cx) : Option Operand → Option (Option DX)
  | none => some none
  | some x => (X x).map some

def zero (E : Ti) (t : Nat) : Option DV := match E.inf t with
  | some i => match i.zero with
    | some v => match cval v with
      | some (.tuple _) => none
      | d => d
    | none => none
  | none => none

def fldPlace (E : Ti) (fs : Array Field) (i : Nat) : Option (Nat × Nat) := match fs.toList[i]? with
  | some f => match E.size f.type with
    | some n => some (f.offset, n)
    | none => none
  | none => none
/-- parts of a literal: where each lies, how many cells it has -/
def cparts (X : Cx) (place : Nat → Option (Nat × Nat)) : List (Nat × Operand) → Option (List (Nat × Nat × DX))
  | [] => some []
  | (i, x) :: r => match place i, X x, cparts X place r with
    | some (o, n), some d, some ds => some ((o, n, d) :: ds)
    | _, _, _ => none

/-- the fields of a struct, one behind the other: what each is, from a place on; in the end the place behind them -/
def flatF (g : Nat → Option (List CK)) : Nat → List Field → Option (List CK)
  | _, [] => some []
  | o, f :: r => match g f.type with
    | some l => if f.offset = o ∧ f.name ≠ "_" then (match flatF g (o + l.length) r with | some m => some (l ++ m) | none => none) else none
    | none => none
def repK : Nat → List CK → List CK
  | 0, _ => []
  | n + 1, l => l ++ repK n l
/-- a type whose cells are compared one by one (whole numbers, bools, strings, structs and arrays of them): how each is compared -/
def flat (E : Ti) : Nat → Nat → Option (List CK)
  | 0, _ => none
  | d + 1, t => match E.und t, E.size t with
    | some .bool, some n => if n = 1 then some [.bool] else none
    | some (.int _), some n => if n = 1 then some [.int] else none
    | some .string, some n => if n = 1 then some [.str] else none
    | some (.struct fs), some n => match flatF (flat E d) 0 fs.toList with
      | some l => if l.length = n ∧ E.held t = false then some l else none
      | none => none
    | some (.array len e), some n => match flat E d e with
      | some l => if l.length * len = n then some (repK len l) else none
      | none => none
    | _, _ => none

def ccmp (E : Ti) (op : BinOp) (neg : Bool) (t : Nat) (x y : DX) : Option DOp :=
  match E.und t with
  | some .bool => some (.eqN .bool neg x y)
  | some (.int _) | some .string => some (.bin op x y)
  | some (.struct _) | some (.array _ _) => (flat E 6 t).map fun l => .eqA l neg x y
  | some (.pointer e) => match E.size e with
    | some 0 | none => none
    | some _ => some (.eqN .ptr neg x y)
  | some (.slice _) => some (.eqN .slice neg x y)
  | some (.map _ _) => some (.eqN .map neg x y)
  | some (.func _ _ _) => some (.eqN .func neg x y)
  | some (.interface _) => some (.eqN .iface neg x y)
  | _ => none

def ckey (E : Ti) (t : Nat) : Option Pt := match E.und t with
  | some .bool => (flat E 6 t).map fun _ => .one .bool
  | some (.int _) => (flat E 6 t).map fun _ => .one .int
  | some .string => (flat E 6 t).map fun _ => .one .str
  | some (.struct _) | some (.array _ _) => (flat E 6 t).map .agg
  | _ => none

def cbuiltin (E : Ti) (b : Builtin) (args : List DX) (ts : List Nat) : Option DOp :=
  match b, args, ts with
  | .len, [x], [t] => match E.und t with
    | some .string => some (.len .str x)
    | some (.slice _) => some (.len .slice x)
    | some (.map _ _) => some (.len .map x)
    | some (.array n _) => some (.lenA n)
    | _ => none
  | .cap, [x], [t] => match E.und t with
    | some (.slice _) => some (.cap x)
    | _ => none
  | .append, [s, x], [t, u] => match E.und t, E.und u with
    | some (.slice e), some (.slice _) | some (.slice e), some .string => match E.size e, E.bytes e, zero E e with
      | some n, some b, some z => if n = 0 ∨ b = 0 ∨ n ≠ z.cells.length then none else some (.append e n b s x)
      | _, _, _ => none
    | _, _ => none
  | .copy, [d, s], [t, u] => match E.und t, E.und u with
    | some (.slice e), some _ => match E.size e with
      | some n => if n = 0 then none else some (.copy n d s)
      | none => none
    | _, _ => none
  | .min, [x, y], _ => some (.minI x y)
  | .max, [x, y], _ => some (.maxI x y)
  | .recover, [], _ => some .recover
  | .clear, [x], [t] => match E.und t with
    | some (.slice e) => match E.size e, zero E e with
      | some n, some z => if n = z.cells.length ∧ n ≠ 0 then some (.clear z.cells x) else none
      | _, _ => none
    | _ => none
  | _, _, _ => none

def fieldAt (E : Ti) (s f : Nat) : Option (Nat × Nat × Bool) := match E.und s with
  | some (.struct fs) => match fs.toList[f]? with
    | some f => match E.size f.type, E.ag f.type with
      | some n, some a => some (f.offset, n, a)
      | _, _ => none
    | none => none
  | _ => none

def cop (E : Ti) (X : Cx) (o : Op) : Option DOp :=
  match o with
  | .move x | .assign x => (X x).map .mv
  | .pick c a b => match X c, X a, X b with
    | some c, some a, some b => some (.pick c a b)
    | _, _, _ => none
  | .alloc e => match zero E e with
    | some z => some (.alloc z.cells e)
    | none => none
  | .box e x => (X x).map (.box e)
  | .build t ps => match zero E t, E.und t with
    | some (.agg z), some (.struct fs) => if fs.toList.any fun f => (E.size f.type).isNone then none else
      (cparts X (fldPlace E fs) ps.toList).map (.build z)
    | some (.agg z), some (.array _ e) => match E.size e with
      | some n => (cparts X (fun i => some (i * n, n)) ps.toList).map (.build z)
      | none => none
    | _, _ => none
  | .buildSlice t len ps => match E.und t with
    | some (.slice e) => match E.size e, zero E e with
      | some n, some z => if n = z.cells.length ∧ n ≠ 0 ∧ len * n ≤ 16777216 then
          (cparts X (fun i => some (i * n, n)) ps.toList).map fun ps => .bslice e (rep len z.cells) ps len else none
      | _, _ => none
    | _ => none
  | .load t a => match E.ag t, E.size t, X a with
    | some true, some n, some a => some (.loadN n a)
    | some false, some _, some a => some (.load1 a)
    | _, _, _ => none
  | .store t a v => match E.ag t, E.size t, X a, X v with
    | some true, some n, some a, some v => some (.storeN n a v)
    | some false, some 1, some a, some v => some (.store1 a v)
    | _, _, _, _ => none
  | .nilCheck x => (X x).map .nilc
  | .binOp op t x y _ => match X x, X y with
    | some x, some y => match op with
      | .eql => ccmp E .eql false t x y
      | .neq => ccmp E .neq true t x y
      | op => some (.bin op x y)
    | _, _ => none
  | .unOp op _ x => (X x).map (.un op)
  | .convert s d x => match E.und s, E.und d, X x with
    | some (.int _), some (.int k), some x => some (.toInt k x)
    | some .string, some .string, some x => some (.same x)
    | some (.slice e), some .string, some x => match E.und e with
      | some (.int .u8) => some (.toStr x)
      | _ => none
    | _, _, _ => none
  | .makeInterface t x => match E.und t, X x with
    | some (.interface _), _ => none
    | some _, some x => some (.mkI t x)
    | _, _ => none
  | .makeFunc (.func f) first caps => match cxs X first.toList, cxs X caps.toList with
    | some a, some b => some (.mkF f a b)
    | _, _ => none
  | .makeMap _ none => some .mkMap
  | .insert t m k v | .mapUpdate t m k v => match E.und t, X m, X k, X v with
    | some (.map kt _), some m, some k, some v => (ckey E kt).map fun p => .mapSet p m k v
    | _, _, _, _ => none
  | .lookup t m k ok => match E.und t, X m, X k with
    | some (.map kt et), some m, some k => match ckey E kt, zero E et with
      | some p, some z => some (.mapGet p z ok m k)
      | _, _ => none
    | _, _, _ => none
  | .makeSlice t l c => match E.und t, X l, X c with
    | some (.slice e), some l, some c => match E.size e, E.bytes e, zero E e with
      | some n, some b, some z => if n = z.cells.length ∧ n ≠ 0 then some (.mkSlice e n b z.cells l c) else none
      | _, _, _ => none
    | _, _, _ => none
  | .slice t x lo hi mx => match E.und t, X x, cxo X lo, cxo X hi, cxo X mx with
    | some .string, some x, some lo, some hi, some none => some (.slStr x lo hi)
    | some (.slice e), some x, some lo, some hi, some mx => match E.size e with
      | some n => if n = 0 ∨ (mx.isSome = true ∧ hi.isNone = true) then none else some (.slSl n x lo hi mx)
      | none => none
    | some (.array len e), some x, some lo, some hi, some mx => match E.size e with
      | some n => if n = 0 ∨ (mx.isSome = true ∧ hi.isNone = true) then none else some (.slArr len n x lo hi mx)
      | none => none
    | _, _, _, _, _ => none
  | .fieldAddr s x f => match fieldAt E s f, X x with
    | some (o, n, _), some x => if n = 0 then none else some (.fldA o x)
    | _, _ => none
  | .field s x f => match fieldAt E s f, X x with
    | some (o, n, a), some x => some (.fldV o n a x)
    | _, _ => none
  | .indexAddr t x i => match E.und t, X x, X i with
    | some (.array len e), some x, some i => (E.size e).map fun n => .idxA len n x i
    | some (.slice e), some x, some i => (E.size e).map fun n => .idxS n x i
    | _, _, _ => none
  | .index t x i => match E.und t, X x, X i with
    | some (.array len e), some x, some i => match E.size e, E.ag e with
      | some n, some a => some (.idxV len n a x i)
      | _, _ => none
    | some .string, some x, some i => some (.idxStr x i)
    | _, _, _ => none
  | .extract x i => (X x).map (.ext i)
  | .typeAssert x _ t true => match E.und t, X x, zero E t with
    | some (.interface _), _, _ => none
    | some _, some x, some z => some (.tas t z x)
    | _, _, _ => none
  | .call c => match c.callee, cxs X c.args.toList with
    | .value f, some args => (X f).map fun f => .call f args
    | .builtin b, some args => cbuiltin E b args c.argTypes.toList
    | _, _ => none
  | .defer c => match c.callee, cxs X c.args.toList with
    | .value f, some args => (X f).map fun f => .defer f args
    | _, _ => none
  | .panic x => (X x).map .panic
  | _ => none

/-- an operation of a region; n: how many slots there are; m: which lie in the D-machine's frame; prev: what was written ahead of it in its region -/
def coper (E : Ti) (n m : Nat) (ops : List Oper) (prev : List (Option Nat)) (o : Oper) : Option DOper :=
  match cop E (cx E m prev) o.op, (match o.dst with | some d => decide (d < n) | none => true) with
  | some op, true =>
    let dst := match o.dst with
      | some d => if m.testBit d then some (bits d) else none
      | none => none
    match o.guard with
    | none => some ⟨dst, op, none⟩
    | some (g, want) => match ops[g]? with
      | some og => match og.dst with
        | some s => match cx E m prev (.tmp s) with
          | some x => some ⟨dst, op, some (x, want)⟩
          | none => none
        | none => none
      | none => none
  | _, _ => none
def copers (E : Ti) (n m : Nat) (all : List Oper) : List (Option Nat) → List Oper → Option (List DOper)
  | _, [] => some []
  | prev, o :: r => match coper E n m all prev o, copers E n m all (o.dst :: prev) r with
    | some d, some ds => some (d :: ds)
    | _, _ => none
/-- of a region that draws: all its slots lie in the frame -/
def copersD (E : Ti) (n m : Nat) (all : List Oper) : List Oper → Option (List DOper)
  | [] => some []
  | o :: r => match coper E n m all [] o, (match o.dst with | some d => m.testBit d | none => true), copersD E n m all r with
    | some d, true, some ds => some (d :: ds)
    | _, _, _ => none

/-! ### Regions that draw: which operations wait for which -/
def edges (o : Oper) : List Nat := o.after.toList.filterMap fun e => bif Region.binds .any e then some e.on else none
/-- each operation's set (as bits) of those that lie ahead of it, whatever order is drawn -/
def befs : List Oper → List Nat → Option (List Nat)
  | [], acc => some acc
  | o :: r, acc =>
    if (edges o).all (· < acc.length) then befs r (acc ++ [(edges o).foldl (fun s j => s ||| 2 ^ j ||| acc.getD j 0) 0]) else none
def Oper.looks (ops : List Oper) (o : Oper) : List Nat :=
  (o.op.operands.toList.filterMap fun | .tmp t => some t | _ => none) ++
  (match o.guard with
   | some (g, _) => match ops[g]? with
     | some og => og.dst.toList
     | none => []
   | none => [])
def isE (o : DOper) : Bool := Nat.beq o.op.sort 3
def isEat (ds : List DOper) (i : Nat) : Bool := match ds[i]? with
  | some d => isE d
  | none => false

/-- are all of a set's numbers (below n) in another one? -/
def subB (n a b : Nat) : Bool := (List.range n).all fun i => !a.testBit i || b.testBit i
/-- the order in which the D-machine runs them: what does no more than look, and variables, as soon as they may -/
def canonA (ds : List DOper) (b : List Nat) : Nat → Nat → List Nat
  | 0, _ => []
  | f + 1, done =>
    let n := ds.length
    let may := (List.range n).filter fun i => !done.testBit i && subB n (b.getD i 0) done
    match may.find? fun i => !isEat ds i with
    | some i => i :: canonA ds b f (done ||| 2 ^ i)
    | none => match may with
      | i :: _ => i :: canonA ds b f (done ||| 2 ^ i)
      | [] => []
def canon (ds : List DOper) (b : List Nat) : List Nat := canonA ds b ds.length 0

def orderOk (n : Nat) (b : List Nat) : List Nat → Nat → Bool
  | [], _ => true
  | i :: r, done => decide (i < n) && !done.testBit i && subB n (b.getD i 0) done && orderOk n b r (done ||| 2 ^ i)

def slotsOk (ops : List Oper) (di : Oper) (oj : Oper) : Bool :=
  match di.dst with
  | some d => !((Oper.looks ops oj).contains d || oj.dst == some d)
  | none => true

def drawOk (ops : List Oper) (ds : List DOper) (b : List Nat) (p : List Nat) : Bool :=
  let n := ds.length
  let bef (j i : Nat) : Bool := (b.getD j 0).testBit i
  Nat.beq p.length n && orderOk n b p 0 && (List.range n).all (fun i => p.contains i) && (p.filter (isEat ds) == (List.range n).filter (isEat ds)) &&
  (List.range n).all fun j =>
    (match ds[j]? with | some d => !Nat.beq d.op.sort 2 || d.guard.isNone | none => false) &&
    (List.range n).all fun i =>
      (!(isEat ds i && isEat ds j && decide (i < j)) || bef j i) &&
      (match ops[i]?, ops[j]? with
       | some di, some oj => Nat.beq i j || slotsOk ops di oj || bef j i || bef i j
       | _, _ => false)

def draws (ds : List DOper) (b : List Nat) : List Nat → Option (List (DOper × Draw))
  | [] => some []
  | j :: r => match ds[j]?, draws ds b r with
    | some d, some l =>
      let es := (List.range ds.length).filter (isEat ds)
      some ((d, ⟨(es.filter fun e => (b.getD j 0).testBit e).length, es.length - (es.filter fun e => (b.getD e 0).testBit j).length⟩) :: l)
    | _, _ => none

def cdraw (E : Ti) (n m : Nat) (ops : List Oper) : Option (List (DOper × Draw)) :=
  match copersD E n m ops ops, befs ops [] with
  | some ds, some b => if drawOk ops ds b (canon ds b) then draws ds b (canon ds b) else none
  | _, _ => none

def cc (E : Ti) (n m : Nat) : Code → Option DC
  | .skip => some .skip
  | .region _ ops false => (copers E n m ops.toList [] ops.toList).map .reg
  | .region id ops true => (cdraw E n m ops.toList).map (.draw · id)
  | .seq a b => match cc E n m a, cc E n m b with
    | some a, some b => some (.seq a b)
    | _, _ => none
  | .cond c a b => match cx E m [] c, cc E n m a, cc E n m b with
    | some c, some a, some b => some (.cond c a b)
    | _, _, _ => none
  | .block id b => (cc E n m b).map (.block id)
  | .loop b => (cc E n m b).map .loop
  | .rangeFunc f ps a b => match cx E m [] f, cc E n m a, cc E n m b, ps.toList.all fun p => decide (p < n) with
    | some f, some a, some b, true => some (.rf f (ps.toList.map bits) a b)
    | _, _, _, _ => none
  | .exit id => some (.exit id)
  | .scope b => (cc E n m b).map .scope
  | .label l => some (.label l)
  | .goto l => some (.goto l)
  | .ret => some .ret
  | .refuse _ => some (.cond (.c .undef) .skip .skip)

def cres (E : Ti) (m : Nat) : List ResultVar → Option (List DRV)
  | [] => some []
  | .tmp t :: r => if m.testBit t then (cres E m r).map (.tmp (bits t) :: ·) else none
  | .cell a t :: r => match E.size t, E.ag t, m.testBit a, cres E m r with
    | some n, some g, true, some l => some (.cell (bits a) n g :: l)
    | _, _, _, _ => none

/-! which slots must lie in the frame: those that are read where their region has not written them -/
def slotsOf (l : List Operand) : List Nat := l.filterMap fun | .tmp t => some t | _ => none
def gOps (draw : Bool) (all : List Oper) : List (Option Nat) → List Oper → List Nat
  | _, [] => []
  | prev, o :: r =>
    let rd := Oper.looks all o
    (bif draw then rd ++ o.dst.toList else rd.filter fun t => !prev.contains (some t)) ++ gOps draw all (o.dst :: prev) r
def gCode : Code → List Nat
  | .region _ ops d => gOps d ops.toList [] ops.toList
  | .seq a b => gCode a ++ gCode b
  | .cond c a b => slotsOf [c] ++ gCode a ++ gCode b
  | .block _ b | .loop b | .scope b => gCode b
  | .rangeFunc f ps a b => slotsOf [f] ++ ps.toList ++ gCode a ++ gCode b
  | _ => []
def gMask (f : Func) (c : Code) : Nat :=
  ((f.results.toList.map fun (r : ResultVar) => match r with | .tmp t => t | .cell a _ => a) ++ gCode c).foldl (fun m t => m ||| 2 ^ t) 0

def cfunc (E : Ti) (f : Func) : Option DFunc :=
  match f.body with
  | some c => match cc E f.ntmps (gMask f c) c, cres E (gMask f c) f.results.toList with
    | some c, some r => some ⟨f.ntmps, r, c⟩
    | _, _ => none
  | none => none

end Go.Dm
