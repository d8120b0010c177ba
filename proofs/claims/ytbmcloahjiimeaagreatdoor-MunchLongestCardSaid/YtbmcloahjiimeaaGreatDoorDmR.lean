/- How the D-machine's values and heap lie in the model's world. -/
import Derived.Test.YtbmcloahjiimeaaGreatDoorDmB
import Derived.Test.YtbmcloahjiimeaaGreatDoorDmC
import Derived.Below
import Derived.Laws.Rows
import Derived.Laws.Cells
import Derived.Laws.Append
import Derived.Laws.StructEq
import Derived.Laws.Strings
set_option linter.all false
namespace Go.Dm
open Go.RowKit (Below)

/-- where a block of the D-heap lies: the real block, the cell at which it begins, how many elements are spare behind it -/
structure Loc where
  r : Nat
  o : Nat
  x : Nat

/-- where an empty slice lies of which no place is known; what comes in may bear any address -/
def zAddr (L : Loc) (o alt : Nat) : Addr := if alt ≤ o then ⟨L.r, L.o + alt, none⟩ else ⟨L.r, L.o, some (alt - o - 1)⟩

abbrev Bt := Nat → Option Loc
def Bt.le (β β' : Bt) : Prop := ∀ d L, β d = some L → β' d = some L
theorem Bt.le.refl (β : Bt) : β.le β := fun _ _ h => h
theorem Bt.le.trans {a b c : Bt} (h : a.le b) (k : b.le c) : a.le c := fun d L e => k d L (h d L e)

mutual
inductive VR (β : Bt) : DV → Value → Prop where
  | bool (b : Bool) : VR β (.bool b) (.bool b)
  | int (k : IntKind) (n : Int) : VR β (.int k n) (.int k n)
  | str (s : ByteArray) : VR β (.str (s.data.toList.map UInt8.toNat)) (.string s)
  | ptrN : VR β (.ptr none) (.pointer none)
  | ptr (d o : Nat) (L : Loc) (h : β d = some L) : VR β (.ptr (some (d, o))) (.pointer (some ⟨L.r, L.o + o, none⟩))
  | sliceN (op : Bool) : VR β (.slice none 0 0 op) (.slice none 0 0)
  | sliceC (d o len cap : Nat) (L : Loc) (h : β d = some L) : VR β (.slice (some (d, o)) len cap false) (.slice (some ⟨L.r, L.o + o, none⟩) len cap)
  | sliceO (d o len cap : Nat) (L : Loc) (h : β d = some L) : VR β (.slice (some (d, o)) len cap true) (.slice (some ⟨L.r, L.o + o, none⟩) len (cap + L.x))
  | sliceZ (d o alt : Nat) (L : Loc) (h : β d = some L) (hx : L.x ≠ 0) : VR β (.sliceZ d o alt) (.slice (some ⟨L.r, L.o + o, none⟩) 0 L.x)
  | sliceZ0 (d o alt : Nat) (L : Loc) (h : β d = some L) (hx : L.x = 0) : VR β (.sliceZ d o alt) (.slice (some (zAddr L o alt)) 0 0)
  | mapN : VR β (.map none) (.map none)
  | map (d : Nat) (L : Loc) (h : β d = some L) : VR β (.map (some d)) (.map (some L.r))
  | func (f : Nat) (a b : List DV) (a' b' : List Value) (ha : VRs β a a') (hb : VRs β b b') : VR β (.func (.func f) a b) (.func (.func f) a'.toArray b'.toArray)
  | yield (l : Nat) (L : Loc) (h : β l = some L) : VR β (.func (.yield l) [] []) (.func (.yield L.r) #[] #[])
  | nilFunc : VR β .nilFunc .nilFunc
  | iface (t : Nat) (v : DV) (v' : Value) (h : VR β v v') : VR β (.iface t v) (.iface t v')
  | nilIface : VR β .nilIface .nilIface
  | agg (l : List DV) (l' : List Value) (h : VRs β l l') (h1 : ∀ v ∈ l', v.oneCell' = true) : VR β (.agg l) (.agg l'.toArray)
  | tuple (l : List DV) (l' : List Value) (h : VRs β l l') : VR β (.tuple l) (.tuple l'.toArray)
inductive VRs (β : Bt) : List DV → List Value → Prop where
  | nil : VRs β [] []
  | cons (v : DV) (v' : Value) (l : List DV) (l' : List Value) (h : VR β v v') (hs : VRs β l l') : VRs β (v :: l) (v' :: l')
end

mutual
theorem VR.mono {β β' : Bt} (hb : β.le β') : {d : DV} → {v : Value} → VR β d v → VR β' d v
  | _, _, .bool b => .bool b
  | _, _, .int k n => .int k n
  | _, _, .str s => .str s
  | _, _, .ptrN => .ptrN
  | _, _, .ptr d o L h => .ptr d o L (hb _ _ h)
  | _, _, .sliceN op => .sliceN op
  | _, _, .sliceC d o l c L h => .sliceC d o l c L (hb _ _ h)
  | _, _, .sliceO d o l c L h => .sliceO d o l c L (hb _ _ h)
  | _, _, .sliceZ d o a L h hx => .sliceZ d o a L (hb _ _ h) hx
  | _, _, .sliceZ0 d o a L h hx => .sliceZ0 d o a L (hb _ _ h) hx
  | _, _, .mapN => .mapN
  | _, _, .map d L h => .map d L (hb _ _ h)
  | _, _, .func f a b a' b' x y => .func f a b a' b' (x.mono hb) (y.mono hb)
  | _, _, .yield l L h => .yield l L (hb _ _ h)
  | _, _, .nilFunc => .nilFunc
  | _, _, .iface t v v' h => .iface t v v' (h.mono hb)
  | _, _, .nilIface => .nilIface
  | _, _, .agg l l' h h1 => .agg l l' (h.mono hb) h1
  | _, _, .tuple l l' h => .tuple l l' (h.mono hb)
theorem VRs.mono {β β' : Bt} (hb : β.le β') : {d : List DV} → {v : List Value} → VRs β d v → VRs β' d v
  | _, _, .nil => .nil
  | _, _, .cons v v' l l' h hs => .cons v v' l l' (h.mono hb) (hs.mono hb)
end

theorem VR.sliceZ0' {β : Bt} (d o alt : Nat) (L : Loc) (h : β d = some L) (hx : L.x = 0) (ho : alt ≤ o) : VR β (.sliceZ d o alt) (.slice (some ⟨L.r, L.o + alt, none⟩) 0 0) := by
  have := VR.sliceZ0 d o alt L h hx
  unfold zAddr at this
  rwa [if_pos ho] at this

theorem VR.undef (β : Bt) : VR β .undef undef := .tuple [] [] .nil

namespace VRs
variable {β : Bt}
theorem length {l : List DV} {l' : List Value} (h : VRs β l l') : l.length = l'.length := by
  induction l generalizing l' with
  | nil => cases h; rfl
  | cons a l ih => cases h with | cons _ _ _ _ h hs => simp [ih hs]
theorem append {a b : List DV} {a' b' : List Value} (h : VRs β a a') (k : VRs β b b') : VRs β (a ++ b) (a' ++ b') := by
  induction a generalizing a' with
  | nil => cases h; exact k
  | cons x a ih => cases h with | cons _ _ _ _ h hs => exact .cons _ _ _ _ h (ih hs)
theorem get {l : List DV} {l' : List Value} (h : VRs β l l') {i : Nat} {v : DV} (hv : l[i]? = some v) : ∃ v', l'[i]? = some v' ∧ VR β v v' := by
  induction l generalizing l' i with
  | nil => simp at hv
  | cons x l ih => cases h with
    | cons _ v' _ l' h hs => cases i with
      | zero => simp at hv; subst hv; exact ⟨v', rfl, h⟩
      | succ i => exact ih hs (by simpa using hv)
theorem take {l : List DV} {l' : List Value} (h : VRs β l l') (n : Nat) : VRs β (l.take n) (l'.take n) := by
  induction n generalizing l l' with
  | zero => simp; exact .nil
  | succ n ih => cases h with
    | nil => simp; exact .nil
    | cons _ _ _ _ h hs => exact .cons _ _ _ _ h (ih hs)
theorem drop {l : List DV} {l' : List Value} (h : VRs β l l') (n : Nat) : VRs β (l.drop n) (l'.drop n) := by
  induction n generalizing l l' with
  | zero => simpa using h
  | succ n ih => cases h with
    | nil => simp; exact .nil
    | cons _ _ _ _ h hs => exact ih hs
theorem map {l : List DV} {l' : List Value} (f : DV → DV) (g : Value → Value) (h : VRs β l l') (hf : ∀ v v', VR β v v' → VR β (f v) (g v')) : VRs β (l.map f) (l'.map g) := by
  induction l generalizing l' with
  | nil => cases h; exact .nil
  | cons x l ih => cases h with | cons _ _ _ _ h hs => exact .cons _ _ _ _ (hf _ _ h) (ih hs)
theorem of_get {l : List DV} {l' : List Value} (hl : l.length = l'.length) (h : ∀ (i : Nat) v, l[i]? = some v → ∃ v', l'[i]? = some v' ∧ VR β v v') : VRs β l l' := by
  induction l generalizing l' with
  | nil => cases l' with
    | nil => exact .nil
    | cons _ _ => simp at hl
  | cons x l ih => cases l' with
    | nil => simp at hl
    | cons y l' =>
      obtain ⟨v', h1, h2⟩ := h 0 x rfl
      simp at h1; subst h1
      exact .cons _ _ _ _ h2 (ih (by simpa using hl) (fun i v hv => by simpa using h (i + 1) v (by simpa using hv)))
theorem set {l : List DV} {l' : List Value} (h : VRs β l l') (i : Nat) {v : DV} {v' : Value} (hv : VR β v v') : VRs β (l.set i v) (l'.set i v') := by
  induction l generalizing l' i with
  | nil => cases h; exact .nil
  | cons x l ih => cases h with
    | cons _ _ _ _ h hs => cases i with
      | zero => exact .cons _ _ _ _ hv hs
      | succ i => exact .cons _ _ _ _ h (ih hs i)
end VRs

/-! ### What the cells of a value are -/
theorem VR.cells {β : Bt} {d : DV} {v : Value} (h : VR β d v) : VRs β d.cells v.cells.toList := by
  cases h <;> first
    | exact .cons _ _ _ _ (by constructor <;> assumption) .nil
    | (rename_i h _; simpa [DV.cells, Value.cells] using h)
theorem VR.cells_one {β : Bt} {d : DV} {v : Value} (h : VR β d v) (hd : ∀ l, d ≠ .tuple l) : ∀ x ∈ v.cells.toList, x.oneCell' = true := by
  cases h <;> first
    | (rename_i h1; simpa [Value.cells] using h1)
    | exact absurd rfl (hd _)
    | (simp [Value.cells, Value.oneCell'])
theorem VR.one {β : Bt} {d : DV} {v : Value} (h : VR β d v) (hd : d.one = true) : v.oneCell' = true := by
  cases h <;> first
    | rfl
    | (simp [DV.one] at hd)
theorem VR.cells_of_one {β : Bt} {d : DV} {v : Value} (h : VR β d v) (hd : d.one = true) : v.cells = #[v] := by
  cases h <;> first
    | rfl
    | (simp [DV.one] at hd)

/-! ### The heap -/
/-- cells of a real block, from a place on, are those of a list -/
def CellsAt (β : Bt) (c : Array Value) (o : Nat) (cs : List DV) : Prop :=
  ∀ (i : Nat) v, cs[i]? = some v → ∃ v', c[o + i]? = some v' ∧ VR β v v' ∧ v'.oneCell' = true

/-- the first block that may be written; blocks of the D-heap that are not made yet (of a region that draws: made ahead of their time) -/
structure Bd where
  b : Nat
  G : Nat → Prop

/-- what is known of the program's types: 'Ti' tells the truth -/
structure Ti.Ok (E : Ti) (P : Program) : Prop where
  inf : ∀ t i, E.inf t = some i → P.info? t = some i
  held : ∀ t, E.held t = false → P.stoodInHeld t = false

structure BlkR (P : Program) (B : Bd) (β : Bt) (w : World) (L : Loc) (cs : List DV) (e : Nat) (ro : Bool) : Prop where
  ex : ∃ c t fz, w.heap[L.r]? = some (.cells c t fz) ∧ CellsAt β c L.o cs ∧
    (ro = false → t = e ∧ L.o + cs.length + L.x * P.cellsOf e ≤ c.size ∧ ∀ i, L.o ≤ i → i < L.o + cs.length + L.x * P.cellsOf e → ¬ (fz.1 ≤ i ∧ i < fz.2))
  own : ro = false → B.b ≤ L.r
  low : ro = true → L.r < B.b

def EntR (β : Bt) (x : DV × DV) (e : MapEntry) : Prop := VR β x.1 e.key ∧ VR β x.2 e.val
def EntsR (β : Bt) : List (DV × DV) → List MapEntry → Prop
  | [], [] => True
  | x :: xs, e :: es => EntR β x e ∧ EntsR β xs es
  | _, _ => False

def jumpCode : Option Jump → Option Code
  | none => none
  | some .ret => some .ret
  | some (.exit id) => some (.exit id)
  | some (.goto l) => some (.goto l)
def LState.real : LState → LoopState
  | .ready => .ready | .busy => .busy | .done => .done | .exhausted => .exhausted

/-- the slots that lie in the D-machine's frame (the bits of m) are those of the real one -/
structure TmR (β : Bt) (n m : Nat) (tm : T DV) (tms : Array Value) : Prop where
  size : tms.size = n
  get : ∀ t, m.testBit t = true → VR β (orU (tm.get (bits t))) (tms.getD t Go.undef)

/-- a function's code, its slots, and which of these lie in the frame -/
structure FnIs (P : Program) (f : Nat) (n m : Nat) : Prop where
  ex : ∃ F c, P.funcs[f]? = some F ∧ F.body = some c ∧ n = F.ntmps ∧ m = gMask F c

structure LoopR (E : Ti) (P : Program) (B : Bd) (β : Bt) (w : World) (L : Loc) (l : DLoop) : Prop where
  ex : ∃ q m, w.heap[L.r]? = some (.loop q) ∧ FnIs P l.fn l.n m ∧ q.state = l.st.real ∧ q.pending = jumpCode l.pend ∧ q.fn = l.fn ∧
    TmR β l.n m l.tm q.tmps ∧ l.ps = q.params.toList.map bits ∧ (∀ p ∈ q.params.toList, p < l.n) ∧
    cc E l.n m q.assign = some l.assign ∧ cc E l.n m q.body = some l.body ∧ ∃ D, β l.dfr = some D ∧ D.r = q.defers
  own : B.b ≤ L.r

def ObjR (E : Ti) (P : Program) (B : Bd) (β : Bt) (w : World) (L : Loc) : Obj → Prop
  | .cells cs e ro => BlkR P B β w L cs e ro
  | .map es => B.b ≤ L.r ∧ ∃ es' clock, w.heap[L.r]? = some (.map es' clock) ∧ EntsR β es es'.toList
  | .loop l => LoopR E P B β w L l
  | .dfr => B.b ≤ L.r ∧ w.heap[L.r]? = some (.deferred (some []))

def Obj.wr : Obj → Bool
  | .cells _ _ ro => !ro
  | _ => true
/-- how many cells an object takes at its place -/
def Obj.len (P : Program) (L : Loc) : Obj → Nat
  | .cells cs e _ => cs.length + L.x * P.cellsOf e
  | _ => 1
/-- two objects lie apart -/
def Apart (P : Program) (L1 L2 : Loc) (o1 o2 : Obj) : Prop :=
  L1.r = L2.r → (∃ a e b, o1 = .cells a e b) ∧ (∃ a e b, o2 = .cells a e b) ∧ (L1.o + o1.len P L1 ≤ L2.o ∨ L2.o + o2.len P L2 ≤ L1.o)

structure HR (E : Ti) (P : Program) (B : Bd) (β : Bt) (h : H) (w : World) : Prop where
  obj : ∀ d L o, β d = some L → h.get d = some o → ObjR E P B β w L o
  new : ∀ d, h.nx ≤ d → β d = none
  apart : ∀ d d' L L' o o', d ≠ d' → β d = some L → β d' = some L' → h.get d = some o → h.get d' = some o' → o.wr = true → o'.wr = true → Apart P L L' o o'
  base : B.b ≤ w.heap.size
  glob : ∀ g, E.glob g = true → β g = some ⟨g, 0, 0⟩
  ghost : ∀ d, B.G d → β d = none ∧ d < h.nx

end Go.Dm
