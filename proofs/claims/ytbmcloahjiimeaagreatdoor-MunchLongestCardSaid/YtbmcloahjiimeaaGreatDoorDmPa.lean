/- One step of the machine at an operation, with the frame written out. How a frame of the D-machine lies in the machine's: what it shares, what the callers are. One operation: the machine's step, or steps. Regions whose order is not drawn. -/
import Derived.Test.YtbmcloahjiimeaaGreatDoorDmOc
import Derived.AtR
import Derived.Defers
import Derived.RangeFuncLeaves
set_option linter.all false
namespace Go.Dm

section
variable {P : Program} {b : Frame} {a : Act} {ops : Array Oper} {i : Nat} {rest : List Nat} {k : List Item} {cs : List Frame} {w w' : World} {o : Oper}
  (ho : ops[i]? = some o) (hw : Region.wanted o (yielded ops a.tmps) = true)
include ho hw
theorem so_value {v : Value} (hr : (o.semAt b.roundOf a.eval).run P w = .ok (.value v) w') :
    Go.step P (lone (b.atR a (.inRegion ops (i :: rest) :: k)) cs w) = .next (lone (b.atR (a.put o.dst v) (.inRegion ops rest :: k)) cs w') := by
  have hfin := Frame.finish_atR b a ops i rest k v
  rw [ho] at hfin
  simp only [Option.bind_some] at hfin
  refine step_lone_go ?_
  rw [stepGR_op ho hw, ← hfin]; simp [stepG.apply, hr]
theorem so_skip (hr : (o.semAt b.roundOf a.eval).run P w = .ok .skip w') :
    Go.step P (lone (b.atR a (.inRegion ops (i :: rest) :: k)) cs w) = .next (lone (b.atR (a.put o.dst undef) (.inRegion ops rest :: k)) cs w') := by
  have hfin := Frame.finish_atR b a ops i rest k undef
  rw [ho] at hfin
  simp only [Option.bind_some] at hfin
  refine step_lone_go ?_
  rw [stepGR_op ho hw, ← hfin]; simp [stepG.apply, hr]
theorem so_enter {f : FuncId} {args : Array Value} (hr : (o.semAt b.roundOf a.eval).run P w = .ok (.enter f args) w') :
    Go.step P (lone (b.atR a (.inRegion ops (i :: rest) :: k)) cs w) = .next (lone (Frame.enter P f args .normal) (b.atR a (.inRegion ops (i :: rest) :: k) :: cs) w') := by
  refine step_lone_go ?_
  rw [stepGR_op ho hw]; simp [stepG.apply, hr, Frame.atR]
theorem so_round {l : Nat} {f : FuncId} {tmps : Array Value} {x y : Code} (hr : (o.semAt b.roundOf a.eval).run P w = .ok (.round l f tmps x y) w') :
    Go.step P (lone (b.atR a (.inRegion ops (i :: rest) :: k)) cs w) = .next (lone (Frame.round l f tmps x y .normal) (b.atR a (.inRegion ops (i :: rest) :: k) :: cs) w') := by
  refine step_lone_go ?_
  rw [stepGR_op ho hw]; simp [stepG.apply, hr, Frame.atR]
theorem so_defer {d : Deferred} (hr : (o.semAt b.roundOf a.eval).run P w = .ok (.defer d) w') :
    Go.step P (lone (b.atR a (.inRegion ops (i :: rest) :: k)) cs w) = .next (lone (b.atR ({ a with defers := d :: a.defers }.put o.dst undef) (.inRegion ops rest :: k)) cs w') := by
  have hfin := Frame.finish_atR b { a with defers := d :: a.defers } ops i rest k undef
  rw [ho] at hfin
  simp only [Option.bind_some] at hfin
  refine step_lone_go ?_
  rw [stepGR_op ho hw]; simp only [stepG.apply, Sem.runT_eq, hr, GStep.bare_after]
  exact congrArg (fun fr => GStep.go { frame := fr, callers := cs, status := .running, dying := none } w') hfin
theorem so_panic {v : Value} (hr : (o.semAt b.roundOf a.eval).run P w = .halt (.panic v) w') :
    Go.step P (lone (b.atR a (.inRegion ops (i :: rest) :: k)) cs w) = .next (lone { b.atR a (.inRegion ops (i :: rest) :: k) with mode := .panicking [{ v, recovered := false }] } cs w') := by
  refine step_lone_go ?_
  rw [stepGR_op ho hw, ← Frame.raise_atR]; simp [stepG.apply, hr]
theorem so_recover_none (hb : b.roundOf = none) (ht : tryRecover (b.atR a (.inRegion ops (i :: rest) :: k)) cs = none) (hr : (o.semAt b.roundOf a.eval).run P w = .ok .recover w') :
    Go.step P (lone (b.atR a (.inRegion ops (i :: rest) :: k)) cs w) = .next (lone (b.atR (a.put o.dst .nilIface) (.inRegion ops rest :: k)) cs w') := by
  have hfin := Frame.finish_atR b a ops i rest k .nilIface
  rw [ho] at hfin
  simp only [Option.bind_some] at hfin
  have hrec : (b.atR a (.inRegion ops (i :: rest) :: k)).roundOf = none := hb
  refine step_lone_go ?_
  rw [stepGR_op ho hw, ← hfin]; simp [stepG.apply, hr, ht, hrec]
theorem so_recover_some {v : Value} {cs' : List Frame} (hb : b.roundOf = none) (ht : tryRecover (b.atR a (.inRegion ops (i :: rest) :: k)) cs = some (v, cs')) (hr : (o.semAt b.roundOf a.eval).run P w = .ok .recover w') :
    Go.step P (lone (b.atR a (.inRegion ops (i :: rest) :: k)) cs w) = .next (lone (b.atR (a.put o.dst v) (.inRegion ops rest :: k)) cs' w') := by
  have hfin := Frame.finish_atR b a ops i rest k v
  rw [ho] at hfin
  simp only [Option.bind_some] at hfin
  have hrec : (b.atR a (.inRegion ops (i :: rest) :: k)).roundOf = none := hb
  refine step_lone_go ?_
  rw [stepGR_op ho hw, ← hfin]; simp [stepG.apply, hr, ht, hrec]
end
end Go.Dm

namespace Go.Dm
open Go.RowKit (Below)

/-! ### Who has called -/
/-- a frame's callers: it was called as calls go, or as a deferred call by a frame that is leaving -/
inductive Up where
  | normal (cs : List Frame)
  | dfr (c : Frame) (cs : List Frame) (u : FrameMode)
namespace Up
def cs : Up → List Frame
  | .normal cs => cs
  | .dfr c cs u => { c with mode := u } :: cs
def kind : Up → CallKind
  | .normal _ => .normal
  | .dfr _ _ _ => .deferred
/-- what may be recovered -/
def R (β : Bt) (rc : Option DV) : Up → Prop
  | .normal _ => rc = none
  | .dfr _ _ u => (u = .returning ∧ rc = none) ∨ (∃ v, u = .panicking [⟨v, true, false⟩] ∧ rc = none) ∨ (∃ v d, u = .panicking [⟨v, false, false⟩] ∧ rc = some d ∧ VR β d v)
/-- as it was, or recovered -/
def To (a b : Up) : Prop := b = a ∨ ∃ c cs v, a = .dfr c cs (.panicking [⟨v, false, false⟩]) ∧ b = .dfr c cs (.panicking [⟨v, true, false⟩])
theorem To.refl (a : Up) : To a a := .inl rfl
theorem To.trans {a b c : Up} (h : To a b) (k : To b c) : To a c := by
  rcases h with rfl | ⟨x, cs, v, rfl, rfl⟩
  · exact k
  · rcases k with rfl | ⟨y, cs', v', h1, h2⟩
    · exact .inr ⟨x, cs, v, rfl, rfl⟩
    · simp at h1
theorem To.kind {a b : Up} (h : To a b) : b.kind = a.kind := by
  rcases h with rfl | ⟨x, cs, v, rfl, rfl⟩ <;> rfl
theorem To.normal {cs : List Frame} {b : Up} (h : To (.normal cs) b) : b = .normal cs := by
  rcases h with rfl | ⟨x, cs, v, h, -⟩
  · rfl
  · cases h
theorem R.mono {β β' : Bt} {rc : Option DV} {a : Up} (hb : β.le β') (h : a.R β rc) : a.R β' rc := by
  cases a with
  | normal cs => exact h
  | dfr c cs u =>
    rcases h with h | h | ⟨v, d, h1, h2, h3⟩
    · exact .inl h
    · exact .inr (.inl h)
    · exact .inr (.inr ⟨v, d, h1, h2, h3.mono hb⟩)
end Up

/-! ### Frames -/
def DfR1 (β : Bt) (d : DDef) (x : Deferred) : Prop :=
  match d with
  | .call f args => ∃ as cs, x = { target := .fn (.func f) cs.toArray, args := List.toArray as } ∧ VRs β args (as ++ cs)
  | .coll d => ∃ L, β d = some L ∧ x = { target := .collected L.r, args := #[] }
def DfR (β : Bt) : List DDef → List Deferred → Prop
  | [], [] => True
  | d :: ds, x :: xs => DfR1 β d x ∧ DfR β ds xs
  | _, _ => False
theorem DfR1.mono {β β' : Bt} (hb : β.le β') {d : DDef} {x : Deferred} (h : DfR1 β d x) : DfR1 β' d x := by
  cases d with
  | call f args => obtain ⟨as, cs, h1, h2⟩ := h; exact ⟨as, cs, h1, h2.mono hb⟩
  | coll d => obtain ⟨L, h1, h2⟩ := h; exact ⟨L, hb _ _ h1, h2⟩
theorem DfR.mono {β β' : Bt} (hb : β.le β') : ∀ {ds : List DDef} {xs : List Deferred}, DfR β ds xs → DfR β' ds xs
  | [], [], _ => trivial
  | _ :: _, _ :: _, h => ⟨h.1.mono hb, DfR.mono hb h.2⟩
  | [], _ :: _, h => h.elim
  | _ :: _, [], h => h.elim

structure FrR (P : Program) (β : Bt) (m : Nat) (fr : Fr) (b : Frame) (a : Act) : Prop where
  fn : FnIs P fr.fn fr.n m
  bfn : b.fn = fr.fn
  tm : TmR β fr.n m fr.tm a.tmps
  df : DfR β fr.df a.defers
  ro : match fr.ro with | none => b.roundOf = none | some l => ∃ L, β l = some L ∧ b.roundOf = some L.r
theorem FrR.mono {P : Program} {β β' : Bt} {m : Nat} {fr : Fr} {b : Frame} {a : Act} (hb : β.le β') (h : FrR P β m fr b a) : FrR P β' m fr b a :=
  ⟨h.fn, h.bfn, h.tm.mono hb, h.df.mono hb, by
    have := h.ro
    cases hro : fr.ro with
    | none => rw [hro] at this; exact this
    | some l => rw [hro] at this; obtain ⟨L, h1, h2⟩ := this; exact ⟨L, hb _ _ h1, h2⟩⟩

/-! ### Slots -/
theorem TmR.put {β : Bt} {n m : Nat} {tm : T DV} {tms : Array Value} (h : TmR β n m tm tms) {d : Nat} (hd : d < n) {v : DV} {v' : Value} (hv : VR β v v') : TmR β n m (tm.set (bits d) (some v)) (tms.setIfInBounds d v') := by
  refine ⟨by simp [h.size], fun t ht => ?_⟩
  by_cases e : t = d
  · subst e
    rw [T.get_set]
    have : t < tms.size := by rw [h.size]; exact hd
    simp [this, orU]
    exact hv
  · rw [T.get_set_ne _ _ _ _ (bits_ne e)]
    have := h.get t ht
    simpa [Array.getElem?_setIfInBounds_ne (fun e' => e e'.symm)] using this
theorem TmR.skip {β : Bt} {n m : Nat} {tm : T DV} {tms : Array Value} (h : TmR β n m tm tms) {d : Nat} (hd : m.testBit d = false) (v' : Value) : TmR β n m tm (tms.setIfInBounds d v') := by
  refine ⟨by simp [h.size], fun t ht => ?_⟩
  have e : t ≠ d := fun e => by subst e; rw [hd] at ht; cases ht
  have := h.get t ht
  simpa [Array.getElem?_setIfInBounds_ne (fun e' => e e'.symm)] using this

/-- what a region has come to, and where it lies -/
structure StR (β : Bt) (prev : List (Option Nat)) (st : List DV) (tms : Array Value) : Prop where
  get : ∀ t k, prev.findIdx? (· == some t) = some k → VR β (orU (lget st k)) (tms.getD t undef)
theorem StR.nil (β : Bt) (st : List DV) (tms : Array Value) : StR β [] st tms := ⟨fun t k h => by simp at h⟩
theorem StR.mono {β β' : Bt} (hb : β.le β') {prev : List (Option Nat)} {st : List DV} {tms : Array Value} (h : StR β prev st tms) : StR β' prev st tms := ⟨fun t k hk => (h.get t k hk).mono hb⟩
def putT (tms : Array Value) (dst : Option Nat) (v : Value) : Array Value := match dst with | some d => tms.setIfInBounds d v | none => tms
theorem put_tmps (a : Act) (dst : Option Nat) (v : Value) : (a.put dst v).tmps = putT a.tmps dst v := by cases dst <;> rfl
theorem StR.push {β : Bt} {prev : List (Option Nat)} {st : List DV} {tms : Array Value} (h : StR β prev st tms) {dst : Option Nat} {v : DV} {v' : Value} (hv : VR β v v') (hd : ∀ d, dst = some d → d < tms.size) :
    StR β (dst :: prev) (v :: st) (putT tms dst v') := by
  refine ⟨fun t k hk => ?_⟩
  rw [List.findIdx?_cons] at hk
  cases dst with
  | none =>
    simp only [Option.none_beq_some, Bool.false_eq_true, if_false] at hk
    cases hf : prev.findIdx? (· == some t) with
    | none => rw [hf] at hk; cases hk
    | some j => rw [hf] at hk; cases hk; simpa [lget_succ, putT] using h.get t j hf
  | some d =>
    by_cases e : d = t
    · subst e
      simp only [beq_self_eq_true, if_true, Option.some.injEq] at hk
      subst hk
      have := hd d rfl
      simp [lget_zero, orU, this, putT]
      exact hv
    · have e2 : (some d == some t) = false := by simpa using e
      simp only [e2, Bool.false_eq_true, if_false] at hk
      cases hf : prev.findIdx? (· == some t) with
      | none => rw [hf] at hk; cases hk
      | some j =>
        rw [hf] at hk; cases hk
        have := h.get t j hf
        simpa [lget_succ, Array.getElem?_setIfInBounds_ne e, putT] using this

section
variable {E : Ti} {P : Program} {B : Bd} {β : Bt} {w : World} {h : H}
/-- operands -/
theorem cx_vr (hr : HR E P B β h w) {n m : Nat} {prev : List (Option Nat)} {st : List DV} {tm : T DV} {a : Act} (ht : TmR β n m tm a.tmps) (hs : StR β prev st a.tmps) (x : Operand) (d : DX) (hx : cx E m prev x = some d) : VR β (evX d tm st) (a.eval x) := by
  cases x with
  | tmp t =>
    simp only [cx] at hx
    split at hx
    · rename_i k hk; cases hx; exact hs.get t k hk
    · split at hx
      · rename_i hm; cases hx; exact ht.get t hm
      · cases hx
  | const v =>
    simp only [cx] at hx
    cases hc : cval v with
    | none => rw [hc] at hx; cases hx
    | some dv => rw [hc] at hx; cases hx; exact VR.ofCval hc
  | global g =>
    simp only [cx] at hx
    split at hx
    · rename_i hg
      cases hx
      have := VR.ptr (β := β) g 0 _ (hr.glob g hg)
      exact (by simpa using this : VR β (.ptr (some (g, 0))) (.pointer (some ⟨g, 0, none⟩)))
    · cases hx
  | func f => simp only [cx] at hx; cases hx; exact VR.func f [] [] [] [] .nil .nil
end
end Go.Dm

namespace Go.Dm
open Go.RowKit (Below)

/-! ### What is known of the functions -/
structure FnOk (E : Ti) (P : Program) (f : Nat) (F : DFunc) : Prop where
  ex : ∃ fn c, P.funcs[f]? = some fn ∧ fn.body = some c ∧ fn.name ≠ "runtime.NumGoroutine" ∧ F.ntmps = fn.ntmps ∧
    cc E fn.ntmps (gMask fn c) c = some F.body ∧ cres E (gMask fn c) fn.results.toList = some F.res
theorem FnOk.enter {E : Ti} {P : Program} {f : Nat} {F : DFunc} (h : FnOk E P f F) (args : Array Value) (w : World) : (callFunc f args).run P w = .ok (.enter f args) w := by
  obtain ⟨fn, c, h1, h2, h3, -⟩ := h.ex
  simp [callFunc, h1, h2, h3]

/-- a frame that has ended -/
def EndR (P : Program) (β : Bt) (kind : CallKind) (e : DEnd) (fr : Frame) (w : World) : Prop :=
  match e with
  | .ret v => fr.mode = .returning ∧ fr.defers = [] ∧ fr.kind = kind ∧ ∃ fn v', P.funcs[fr.fn]? = some fn ∧ (results fn fr.tmps).run P w = .ok v' w ∧ VR β v v'
  | .panic v => ∃ v', fr.mode = .panicking [⟨v', false, false⟩] ∧ fr.defers = [] ∧ fr.kind = kind ∧ (∃ fn, P.funcs[fr.fn]? = some fn) ∧ VR β v v'

section
variable (E : Ti) (P : Program) (B : Bd) (D : Env)

/-- further on: more blocks are known, the world below B is as it was, the callers are as they were or recovered -/
structure Fw (β : Bt) (w : World) (κ : Up) (β' : Bt) (w' : World) (κ' : Up) : Prop where
  le : β.le β'
  bl : Below B.b w w'
  up : κ.To κ'

/-- a call's run is sound -/
def CallS (ih : Ih) : Prop := ∀ (f : Nat) (args : List DV) (fr : Fr) (h : H) (e : DEnd) (rc : Option DV) (h' : H), ih (.call f args) fr h = .fin e rc h' →
  ∀ (β : Bt) (w : World) (κ : Up) (args' : List Value), HR E P B β h w → VRs β args args' → κ.R β fr.rc →
    (∀ w, (callFunc f args'.toArray).run P w = .ok (.enter f args'.toArray) w) ∧
    ∃ β' w' κ' frX, Fw B β w κ β' w' κ' ∧ HR E P B β' h' w' ∧ κ'.R β' rc ∧ Steps P (lone (Frame.enter P f args'.toArray κ.kind) κ.cs w) (lone frX κ'.cs w') ∧ EndR P β' κ.kind e frX w' ∧ frX.fn = f
/-- a round's run is sound -/
def RoundS (ih : Ih) : Prop := ∀ (l : Nat) (args : List DV) (fr : Fr) (h : H) (e : DEnd) (rc : Option DV) (h' : H), ih (.round l args) fr h = .fin e rc h' →
  ∃ v, e = .ret v ∧ ∀ (β : Bt) (w : World) (L : Loc) (args' : List Value), HR E P B β h w → VRs β args args' → β l = some L →
    ∃ lf tmps x y, (Instr.yield L.r args'.toArray).run P w = .ok (.round L.r lf tmps x y) w ∧ ∀ (c : Frame) (cs : List Frame),
      ∃ β' w' v', β.le β' ∧ Below B.b w w' ∧ HR E P B β' h' w' ∧ VR β' v v' ∧ Steps P (lone (Frame.round L.r lf tmps x y .normal) (c :: cs) w) (lone (c.finish v') cs w')
/-- an extern's answer is sound -/
def ExtS : Prop := ∀ (f : Nat) (g : List DV → H → Option (DV × H)), D.ext f = some g → ∀ (args : List DV) (h : H) (v : DV) (h' : H), g args h = some (v, h') →
  ∀ (β : Bt) (w : World) (args' : List Value), HR E P B β h w → VRs β args args' →
    (∃ β' w' v', (callFunc f args'.toArray).run P w = .ok (.value v') w' ∧ Good E P B β w β' v v' h' w') ∨
    ((callFunc f args'.toArray).run P w = .ok (.enter f args'.toArray) w ∧ ∀ cs : List Frame, ∃ β' w' frX, β.le β' ∧ Below B.b w w' ∧ HR E P B β' h' w' ∧
      Steps P (lone (Frame.enter P f args'.toArray .normal) cs w) (lone frX cs w') ∧ EndR P β' .normal (.ret v) frX w')
end

theorem leave_ret {P : Program} {β : Bt} {v : DV} {fr c : Frame} {cs : List Frame} {w : World} (h : EndR P β .normal (.ret v) fr w) :
    ∃ v', VR β v v' ∧ Go.step P (lone fr (c :: cs) w) = .next (lone (c.finish v') cs w) := by
  obtain ⟨h1, h2, h3, fn, v', h4, h5, h6⟩ := h
  exact ⟨v', h6, step_leave_returned ⟨h1, h2, h3, fn, h4, h5⟩⟩
theorem leave_panic {P : Program} {β : Bt} {v : DV} {fr c : Frame} {cs : List Frame} {w : World} (h : EndR P β .normal (.panic v) fr w) :
    ∃ v', VR β v v' ∧ Go.step P (lone fr (c :: cs) w) = .next (lone (c.raise [⟨v', false, false⟩]) cs w) := by
  obtain ⟨v', h1, h2, h3, h4, h5⟩ := h
  exact ⟨v', h5, step_leave_panicked ⟨h1, h2, h4⟩⟩

section
variable {E : Ti} {P : Program} {B : Bd} {D : Env} {ih : Ih}

/-- what one operation comes to -/
def StepR (E : Ti) (P : Program) (B : Bd) (β : Bt) (w : World) (κ : Up) (fr : Fr) (b : Frame) (a : Act) (ops : Array Oper) (i : Nat) (rest : List Nat) (k : List Item) (dst : Option Nat) (s : S) : Prop :=
  match s with
  | .fail => True
  | .val v fr' h' => ∃ (β' : Bt) (w' : World) (κ' : Up) (a1 : Act) (v' : Value), Fw B β w κ β' w' κ' ∧ HR E P B β' h' w' ∧ κ'.R β' fr'.rc ∧ VR β' v v' ∧ a1.tmps = a.tmps ∧ DfR β' fr'.df a1.defers ∧
      fr'.fn = fr.fn ∧ fr'.n = fr.n ∧ fr'.tm = fr.tm ∧ fr'.ro = fr.ro ∧
      Steps P (lone (b.atR a (.inRegion ops (i :: rest) :: k)) κ.cs w) (lone (b.atR (a1.put dst v') (.inRegion ops rest :: k)) κ'.cs w')
  | .exc e fr' h' => ∃ v, e = .panic v ∧ fr' = fr ∧ ∃ β' w' v', Fw B β w κ β' w' κ ∧ HR E P B β' h' w' ∧ VR β' v v' ∧
      Steps P (lone (b.atR a (.inRegion ops (i :: rest) :: k)) κ.cs w) (lone { b.atR a (.inRegion ops (i :: rest) :: k) with mode := .panicking [⟨v', false, false⟩] } κ.cs w')

theorem op_stepX (hE : E.Ok P) (hC : CallS E P B ih) (hR : RoundS E P B ih) (hX : ExtS E P B D) {β : Bt} {w : World} {h : H} {κ : Up} {fr : Fr} {b : Frame} {a : Act}
    (hr : HR E P B β h w) (hdf : DfR β fr.df a.defers) (hro : match fr.ro with | none => b.roundOf = none | some l => ∃ L, β l = some L ∧ b.roundOf = some L.r) (hκ : κ.R β fr.rc) (hkd : b.kind = κ.kind) {ops : Array Oper} {i : Nat} {rest : List Nat} {k : List Item} {o : Oper} (ho : ops[i]? = some o) (hw : Region.wanted o (yielded ops a.tmps) = true)
    {X : Cx} {st : List DV} (hXv : ∀ x dx, X x = some dx → VR β (fr.evS st dx) (a.eval x)) {d : DOp} (hd : cop E X o.op = some d) :
    StepR E P B β w κ fr b a ops i rest k o.dst (dstep D ih d (fr.evS st) fr h) := by
  have hsound := op_sound (ev := fr.evS st) (ρ := a.eval) hE hr hXv o hd
  -- what is run here: as 'execOp' says, unless it is a deferred call within a round
  have hsem : (o.semAt b.roundOf a.eval).run P w = (execOp a.eval o).run P w ∨ (fr.ro ≠ none ∧ ∃ c, o.op = .defer c) := by
    cases hro' : fr.ro with
    | none =>
      have := hro
      rw [hro'] at this
      simp only at this
      rw [this]; exact .inl rfl
    | some l =>
      by_cases hc : ∃ c, o.op = .defer c
      · exact .inr ⟨by simp, hc⟩
      · exact .inl (by rw [Oper.semAt_eq _ _ _ (fun c hcc => hc ⟨c, hcc⟩)])
  unfold dstep nxt
  rcases hsem with hsem | ⟨hro2, c, hc⟩
  · cases hn : dop d (fr.evS st) h with
    | fail => trivial
    | val v h' =>
      rw [hn] at hsound
      obtain ⟨β', v', w', h1, h2⟩ := hsound
      refine ⟨β', w', κ, a, v', ⟨h2.le, h2.bl, Up.To.refl κ⟩, h2.hr, hκ.mono h2.le, h2.vr, rfl, hdf.mono h2.le, rfl, rfl, rfl, rfl, ?_⟩
      rcases h1 with h1 | ⟨h1, rfl⟩
      · exact .one (so_value ho hw (by rw [hsem]; exact h1))
      · exact .one (so_skip ho hw (by rw [hsem]; exact h1))
    | call f args h' =>
      rw [hn] at hsound
      obtain ⟨rfl, as', hargs, hrun⟩ := hsound
      show StepR E P B β w κ fr b a ops i rest k o.dst (backR fr (callF D ih f args fr h'))
      have hfin : ∀ v, (b.atR a (.inRegion ops (i :: rest) :: k)).finish v = b.atR (a.put o.dst v) (.inRegion ops rest :: k) := by
        intro v
        have := Frame.finish_atR b a ops i rest k v
        rw [ho] at this
        exact this
      cases f with
      | func f =>
        simp only at hrun
        unfold callF
        simp only
        cases hext : D.ext f with
        | some g =>
          simp only [callE]
          split
          · rename_i v h2 hg
            show StepR E P B β w κ fr b a ops i rest k o.dst (.val v fr h2)
            rcases hX f g hext args h' v h2 hg β w as' hr hargs with ⟨β', w', v', e1, e2⟩ | ⟨e1, e2⟩
            · exact ⟨β', w', κ, a, v', ⟨e2.le, e2.bl, Up.To.refl κ⟩, e2.hr, hκ.mono e2.le, e2.vr, rfl, hdf.mono e2.le, rfl, rfl, rfl, rfl,
                .one (so_value ho hw (by rw [hsem, hrun]; exact e1))⟩
            · obtain ⟨β', w', frX, f1, f2, f3, f4, f5⟩ := e2 (b.atR a (.inRegion ops (i :: rest) :: k) :: κ.cs)
              obtain ⟨v', g1, g2⟩ := leave_ret (c := b.atR a (.inRegion ops (i :: rest) :: k)) (cs := κ.cs) f5
              refine ⟨β', w', κ, a, v', ⟨f1, f2, Up.To.refl κ⟩, f3, hκ.mono f1, g1, rfl, hdf.mono f1, rfl, rfl, rfl, rfl, ?_⟩
              rw [hfin] at g2
              exact .head (so_enter ho hw (by rw [hsem, hrun]; exact e1)) (f4.trans (.one g2))
          · trivial
        | none =>
          simp only
          cases hres : ih (.call f args) (fr.setRc none) h' with
          | fail => trivial
          | nrm _ _ => trivial
          | exc _ _ _ => trivial
          | fin e rc h2 =>
            show StepR E P B β w κ fr b a ops i rest k o.dst (backE fr h2 e)
            have hrc : (fr.setRc none).rc = none := by cases fr; rfl
            obtain ⟨e1, β', w', κ', frX, f1, f2, f3, f4, f5, -⟩ := hC f args (fr.setRc none) h' e rc h2 hres β w (.normal (b.atR a (.inRegion ops (i :: rest) :: k) :: κ.cs)) as' hr hargs hrc
            have hκ' := f1.up.normal
            subst hκ'
            cases e with
            | ret v =>
              obtain ⟨v', g1, g2⟩ := leave_ret (c := b.atR a (.inRegion ops (i :: rest) :: k)) (cs := κ.cs) f5
              refine ⟨β', w', κ, a, v', ⟨f1.le, f1.bl, Up.To.refl κ⟩, f2, hκ.mono f1.le, g1, rfl, hdf.mono f1.le, rfl, rfl, rfl, rfl, ?_⟩
              rw [hfin] at g2
              exact .head (so_enter ho hw (by rw [hsem, hrun]; exact e1 w)) (f4.trans (.one g2))
            | panic v =>
              obtain ⟨v', g1, g2⟩ := leave_panic (c := b.atR a (.inRegion ops (i :: rest) :: k)) (cs := κ.cs) f5
              refine ⟨v, rfl, rfl, β', w', v', ⟨f1.le, f1.bl, Up.To.refl κ⟩, f2, g1, ?_⟩
              rw [Frame.raise_atR] at g2
              exact .head (so_enter ho hw (by rw [hsem, hrun]; exact e1 w)) (f4.trans (.one g2))
      | yield l =>
        simp only at hrun
        obtain ⟨L, hL, hrun⟩ := hrun
        unfold callF
        simp only
        cases hres : ih (.round l args) fr h' with
        | fail => trivial
        | nrm _ _ => trivial
        | exc _ _ _ => trivial
        | fin e rc h2 =>
          show StepR E P B β w κ fr b a ops i rest k o.dst (backE fr h2 e)
          obtain ⟨v, rfl, hv⟩ := hR l args fr h' e rc h2 hres
          obtain ⟨lf, tmps, x, y, e1, e2⟩ := hv β w L as' hr hargs hL
          obtain ⟨β', w', v', f1, f2, f3, f4, f5⟩ := e2 (b.atR a (.inRegion ops (i :: rest) :: k)) κ.cs
          refine ⟨β', w', κ, a, v', ⟨f1, f2, Up.To.refl κ⟩, f3, hκ.mono f1, f4, rfl, hdf.mono f1, rfl, rfl, rfl, rfl, ?_⟩
          rw [hfin] at f5
          exact .head (so_round ho hw (by rw [hsem, hrun]; exact e1)) f5
    | defer f args h' =>
      rw [hn] at hsound
      obtain ⟨rfl, as', cs', hargs, hrun⟩ := hsound
      show StepR E P B β w κ fr b a ops i rest k o.dst (nxDefer fr f args h')
      unfold nxDefer
      split
      · refine ⟨β, w, κ, { a with defers := _ :: a.defers }, undef, ⟨Bt.le.refl β, Below.refl B.b w, Up.To.refl κ⟩, hr, ?_, VR.undef β, rfl, ?_, ?_, ?_, ?_, ?_, .one (so_defer ho hw (by rw [hsem]; exact hrun))⟩
        · cases fr; exact hκ
        · have : (fr.setDf (.call f args :: fr.df)).df = .call f args :: fr.df := by cases fr; rfl
          rw [this]
          exact ⟨⟨as', cs', rfl, hargs⟩, hdf⟩
        all_goals (cases fr; rfl)
      · trivial
    | recover h' =>
      rw [hn] at hsound
      obtain ⟨rfl, hrun⟩ := hsound
      show StepR E P B β w κ fr b a ops i rest k o.dst (nxRecover fr h')
      unfold nxRecover
      split
      · rename_i hro1
        have hbr : b.roundOf = none := by have := hro; rw [hro1] at this; exact this
        split
        · -- there is something to recover
          rename_i v hrc
          cases κ with
          | normal cs => rw [hrc] at hκ; cases hκ
          | dfr c cs u =>
            rcases hκ with ⟨-, h2⟩ | ⟨_, -, h2⟩ | ⟨v0, d0, rfl, h2, h3⟩
            · rw [hrc] at h2; cases h2
            · rw [hrc] at h2; cases h2
            · rw [hrc] at h2; cases h2
              refine ⟨β, w, .dfr c cs (.panicking [⟨v0, true, false⟩]), a, v0, ⟨Bt.le.refl β, Below.refl B.b w, .inr ⟨c, cs, v0, rfl, rfl⟩⟩, hr, ?_, h3, rfl, ?_, ?_, ?_, ?_, ?_, .one (so_recover_some ho hw hbr (cs' := { c with mode := .panicking [⟨v0, true, false⟩] } :: cs) ?_ (by rw [hsem]; exact hrun))⟩
              · have : (fr.setRc none).rc = none := by cases fr; rfl
                rw [this]
                exact .inr (.inl ⟨v0, rfl, rfl⟩)
              · have : (fr.setRc none).df = fr.df := by cases fr; rfl
                rw [this]; exact hdf
              all_goals first
                | (cases fr; rfl)
                | skip
              have hk : (b.atR a (.inRegion ops (i :: rest) :: k)).kind = .deferred := hkd
              simp [tryRecover, hk, Up.cs]
        · rename_i hrc
          refine ⟨β, w, κ, a, .nilIface, ⟨Bt.le.refl β, Below.refl B.b w, Up.To.refl κ⟩, hr, hκ, .nilIface, rfl, hdf, rfl, rfl, rfl, rfl, .one (so_recover_none ho hw hbr ?_ (by rw [hsem]; exact hrun))⟩
          have hk : (b.atR a (.inRegion ops (i :: rest) :: k)).kind = κ.kind := hkd
          cases κ with
          | normal cs =>
            have hk' : (b.atR a (.inRegion ops (i :: rest) :: k)).kind = .normal := hk
            unfold tryRecover; simp [hk']
          | dfr c cs u =>
            have hk' : (b.atR a (.inRegion ops (i :: rest) :: k)).kind = .deferred := hk
            rcases hκ with ⟨rfl, -⟩ | ⟨v0, rfl, -⟩ | ⟨v0, d0, -, h2, -⟩
            · unfold tryRecover; simp [hk', Up.cs]
            · unfold tryRecover; simp [hk', Up.cs]
            · rw [hrc] at h2; cases h2
      · trivial
    | panic v h' =>
      rw [hn] at hsound
      obtain ⟨rfl, v', hv, hrun⟩ := hsound
      exact ⟨v, rfl, rfl, β, w, v', ⟨Bt.le.refl β, Below.refl B.b w, Up.To.refl κ⟩, hr, hv, .one (so_panic ho hw (by rw [hsem]; exact hrun))⟩
  · -- a deferred call within a round: the D-machine does not know it
    rw [hc] at hd
    obtain ⟨callee, args, ts⟩ := c
    simp only [cop] at hd
    split at hd
    · rename_i _ f dargs h2
      cases hf : X f with
      | none => rw [hf] at hd; cases hd
      | some df =>
        rw [hf] at hd; cases hd
        show StepR E P B β w κ fr b a ops i rest k o.dst (N.rec .fail (nxVal fr) (nxCall D ih fr) (nxDefer fr) (nxRecover fr) (nxPanic fr) (oDefer df dargs (fr.evS st) h))
        unfold oDefer
        split
        · show StepR E P B β w κ fr b a ops i rest k o.dst (nxDefer fr _ _ h)
          unfold nxDefer
          split
          · rename_i hro'; exact absurd hro' hro2
          · trivial
        · trivial
    · cases hd
theorem op_step (hE : E.Ok P) (hC : CallS E P B ih) (hR : RoundS E P B ih) (hX : ExtS E P B D) {β : Bt} {w : World} {h : H} {κ : Up} {m : Nat} {fr : Fr} {b : Frame} {a : Act}
    (hr : HR E P B β h w) (hF : FrR P β m fr b a) (hκ : κ.R β fr.rc) (hkd : b.kind = κ.kind) {ops : Array Oper} {i : Nat} {rest : List Nat} {k : List Item} {o : Oper} (ho : ops[i]? = some o) (hw : Region.wanted o (yielded ops a.tmps) = true)
    {prev : List (Option Nat)} {st : List DV} (hst : StR β prev st a.tmps) {d : DOp} (hd : cop E (cx E m prev) o.op = some d) :
    StepR E P B β w κ fr b a ops i rest k o.dst (dstep D ih d (fr.evS st) fr h) :=
  op_stepX hE hC hR hX hr hF.df hF.ro hκ hkd ho hw (fun x dx hx => cx_vr hr (n := fr.n) hF.tm hst x dx hx) hd
end
end Go.Dm

namespace Go.Dm
open Go.RowKit (Below)

section
variable (E : Ti) (P : Program) (B : Bd)
/-- where a frame stands -/
structure St (β : Bt) (w : World) (κ : Up) (m : Nat) (fr0 fr : Fr) (b : Frame) (a : Act) (h : H) : Prop where
  hr : HR E P B β h w
  ff : FrR P β m fr b a
  up : κ.R β fr.rc
  kd : b.kind = κ.kind
  fn : fr.fn = fr0.fn
  n : fr.n = fr0.n
  ro : fr.ro = fr0.ro
/-- where a way out has led -/
def ArrE (P : Program) (β : Bt) (M : Machine) (b : Frame) (k : List Item) (κ : Up) (a : Act) (w : World) (e : DExit) : Prop :=
  match e with
  | .normal => False
  | .exit id => ∃ k', exitTo id k' = exitTo id k ∧ Steps P M (lone (b.atR a (.code (.exit id) :: k')) κ.cs w)
  | .goto l => ∃ k', gotoIn l k' = gotoIn l k ∧ Steps P M (lone (b.atR a (.code (.goto l) :: k')) κ.cs w)
  | .ret => ∃ k', Steps P M (lone (b.atR a (.code .ret :: k')) κ.cs w)
  | .panic v => ∃ todo v', VR β v v' ∧ Steps P M (lone { b.atR a todo with mode := .panicking [⟨v', false, false⟩] } κ.cs w)
def CodeR (β : Bt) (w : World) (κ : Up) (m : Nat) (fr0 : Fr) (b : Frame) (k : List Item) (M : Machine) (r : R) : Prop :=
  match r with
  | .nrm fr h => ∃ β' w' κ' a, Fw B β w κ β' w' κ' ∧ St E P B β' w' κ' m fr0 fr b a h ∧ Steps P M (lone (b.atR a k) κ'.cs w')
  | .exc e fr h => ∃ β' w' κ' a, Fw B β w κ β' w' κ' ∧ St E P B β' w' κ' m fr0 fr b a h ∧ ArrE P β' M b k κ' a w' e
  | _ => True
end

section
variable {E : Ti} {P : Program} {B : Bd}
theorem Fw.refl (β : Bt) (w : World) (κ : Up) : Fw B β w κ β w κ := ⟨Bt.le.refl β, Below.refl B.b w, Up.To.refl κ⟩
theorem Fw.trans {β β' β'' : Bt} {w w' w'' : World} {κ κ' κ'' : Up} (h : Fw B β w κ β' w' κ') (k : Fw B β' w' κ' β'' w'' κ'') : Fw B β w κ β'' w'' κ'' :=
  ⟨h.le.trans k.le, h.bl.trans k.bl, h.up.trans k.up⟩
theorem ArrE.of_steps {β : Bt} {M M' : Machine} {b : Frame} {k : List Item} {κ : Up} {a : Act} {w : World} {e : DExit} (hs : Steps P M M') (h : ArrE P β M' b k κ a w e) : ArrE P β M b k κ a w e := by
  cases e with
  | normal => exact h
  | exit id => obtain ⟨k', h1, h2⟩ := h; exact ⟨k', h1, hs.trans h2⟩
  | goto l => obtain ⟨k', h1, h2⟩ := h; exact ⟨k', h1, hs.trans h2⟩
  | ret => obtain ⟨k', h2⟩ := h; exact ⟨k', hs.trans h2⟩
  | panic v => obtain ⟨t, v', h1, h2⟩ := h; exact ⟨t, v', h1, hs.trans h2⟩
theorem CodeR.of_steps {β β' : Bt} {w w' : World} {κ κ' : Up} {m : Nat} {fr0 fr1 : Fr} {b : Frame} {k : List Item} {M M' : Machine} {r : R} (hf : Fw B β w κ β' w' κ') (h1 : fr1.fn = fr0.fn) (h2 : fr1.n = fr0.n) (h3 : fr1.ro = fr0.ro) (hs : Steps P M M')
    (h : CodeR E P B β' w' κ' m fr1 b k M' r) : CodeR E P B β w κ m fr0 b k M r := by
  have st : ∀ {β w κ fr a h}, St E P B β w κ m fr1 fr b a h → St E P B β w κ m fr0 fr b a h := fun s => ⟨s.hr, s.ff, s.up, s.kd, s.fn.trans h1, s.n.trans h2, s.ro.trans h3⟩
  cases r with
  | fail => trivial
  | fin _ _ _ => trivial
  | nrm fr hh => obtain ⟨β2, w2, κ2, a, g1, g2, g3⟩ := h; exact ⟨β2, w2, κ2, a, hf.trans g1, st g2, hs.trans g3⟩
  | exc e fr hh => obtain ⟨β2, w2, κ2, a, g1, g2, g3⟩ := h; exact ⟨β2, w2, κ2, a, hf.trans g1, st g2, g3.of_steps hs⟩

/-- a guard: there, and here -/
theorem wanted_eq {β : Bt} {w : World} {h : H} (hr : HR E P B β h w) {n m : Nat} {ops : Array Oper} {prev : List (Option Nat)} {st : List DV} {fr : Fr} {a : Act} (ht : TmR β n m fr.tm a.tmps) (hs : StR β prev st a.tmps) {o : Oper} {od : DOper}
    (hc : coper E n m ops.toList prev o = some od) : wanted od.guard (fr.evS st) = Region.wanted o (yielded ops a.tmps) := by
  unfold coper at hc
  split at hc
  · rename_i op hop hdst
    simp only at hc
    split at hc
    · rename_i hg
      cases hc
      simp [wanted, Region.wanted, hg]
    · rename_i g want hg
      split at hc
      · rename_i og hog
        split at hc
        · rename_i s hs'
          split at hc
          · rename_i x hx
            cases hc
            have hv := cx_vr hr (n := n) ht hs (.tmp s) x hx
            simp only [wanted, Region.wanted, hg]
            have hy : yielded ops a.tmps g = (match (a.tmps[s]? : Option Value) with | some (.bool b) => some b | _ => none) := by
              have : ops[g]? = some og := by simpa using hog
              simp only [yielded, this, Option.bind_some, hs']
              rfl
            rw [hy]
            show wantS want (fr.evS st x) = _
            have hv' : VR β (fr.evS st x) (a.tmps.getD s undef) := hv
            generalize fr.evS st x = dv at hv'
            cases hsz : (a.tmps[s]? : Option Value) with
            | none =>
              have : a.tmps.getD s undef = undef := by simp [hsz]
              rw [this] at hv'
              cases hv'
              rfl
            | some v =>
              have : a.tmps.getD s undef = v := by simp [hsz]
              rw [this] at hv'
              cases hv' with
              | bool t => cases t <;> cases want <;> rfl
              | _ => rfl
          · cases hc
        · cases hc
      · cases hc
  · cases hc
def dstD (m : Nat) (dst : Option Nat) : Option Pth := match dst with | some d => if m.testBit d then some (bits d) else none | none => none
theorem coper_inv {n m : Nat} {all : List Oper} {prev : List (Option Nat)} {o : Oper} {od : DOper} (hc : coper E n m all prev o = some od) :
    cop E (cx E m prev) o.op = some od.op ∧ (∀ d, o.dst = some d → d < n) ∧ od.dst = dstD m o.dst := by
  unfold coper at hc
  split at hc
  · rename_i op hop hdst
    have h2 : ∀ d, o.dst = some d → d < n := by
      intro d hd
      rw [hd] at hdst
      simpa using hdst
    simp only at hc
    split at hc
    · cases hc; exact ⟨hop, h2, rfl⟩
    · split at hc
      · split at hc
        · split at hc
          · cases hc; exact ⟨hop, h2, rfl⟩
          · cases hc
        · cases hc
      · cases hc
  · cases hc
/-- a slot is written -/
theorem FrR.put {β : Bt} {m : Nat} {fr : Fr} {b : Frame} {a : Act} (h : FrR P β m fr b a) {dst : Option Nat} (hd : ∀ d, dst = some d → d < fr.n) {v : DV} {v' : Value} (hv : VR β v v') :
    FrR P β m (fr.put (dstD m dst) v) b (a.put dst v') := by
  cases dst with
  | none => exact h
  | some d =>
    have hlt := hd d rfl
    simp only [Act.put, dstD]
    cases hm : m.testBit d with
    | true =>
      simp only [if_true]
      cases fr
      exact ⟨h.fn, h.bfn, h.tm.put hlt hv, h.df, h.ro⟩
    | false =>
      simp only [Bool.false_eq_true, if_false]
      exact ⟨h.fn, h.bfn, h.tm.skip hm v', h.df, h.ro⟩
theorem put_same (fr : Fr) (d : Option Pth) (v : DV) : (fr.put d v).fn = fr.fn ∧ (fr.put d v).n = fr.n ∧ (fr.put d v).ro = fr.ro ∧ (fr.put d v).rc = fr.rc ∧ (fr.put d v).df = fr.df := by
  cases d with
  | none => exact ⟨rfl, rfl, rfl, rfl, rfl⟩
  | some d => cases fr; exact ⟨rfl, rfl, rfl, rfl, rfl⟩

theorem reg_sound {D : Env} {ih : Ih} (hE : E.Ok P) (hC : CallS E P B ih) (hR : RoundS E P B ih) (hX : ExtS E P B D) {m : Nat} {b : Frame} {ops : Array Oper} {k : List Item} :
    ∀ (l : List Oper) (dl : List DOper) (pre : List Oper) (prev : List (Option Nat)) (st : List DV) (fr0 fr : Fr) (a : Act) (β : Bt) (w : World) (κ : Up) (h : H),
      ops.toList = pre ++ l → copers E fr.n m ops.toList prev l = some dl → StR β prev st a.tmps → St E P B β w κ m fr0 fr b a h →
      CodeR E P B β w κ m fr0 b k (lone (b.atR a (.inRegion ops (List.range' pre.length l.length) :: k)) κ.cs w) (dops D ih dl st fr h) := by
  intro l
  induction l with
  | nil =>
    intro dl pre prev st fr0 fr a β w κ h hops hc hst hS
    simp only [copers] at hc; cases hc
    exact ⟨β, w, κ, a, Fw.refl β w κ, hS, .one stepR_region_end⟩
  | cons o l ihl =>
    intro dl pre prev st fr0 fr a β w κ h hops hc hst hS
    simp only [copers] at hc
    split at hc
    · rename_i od ods h1 h2
      cases hc
      obtain ⟨c1, c2, c3⟩ := coper_inv h1
      have hi : ops[pre.length]? = some o := by
        have : ops.toList[pre.length]? = some o := by rw [hops]; simp
        simpa using this
      have hwant := wanted_eq hS.hr (n := fr.n) hS.ff.tm hst h1
      have hrest : List.range' pre.length (o :: l).length = pre.length :: List.range' (pre ++ [o]).length l.length := by
        simp [List.range'_succ]
      have hops' : ops.toList = (pre ++ [o]) ++ l := by rw [hops]; simp
      -- what comes behind
      have go : ∀ (β' : Bt) (w' : World) (κ' : Up) (a1 : Act) (v : DV) (v' : Value) (fr' : Fr) (h' : H), Fw B β w κ β' w' κ' → HR E P B β' h' w' → κ'.R β' fr'.rc → VR β' v v' → a1.tmps = a.tmps → DfR β' fr'.df a1.defers →
          fr'.fn = fr.fn → fr'.n = fr.n → fr'.tm = fr.tm → fr'.ro = fr.ro →
          Steps P (lone (b.atR a (.inRegion ops (pre.length :: List.range' (pre ++ [o]).length l.length) :: k)) κ.cs w) (lone (b.atR (a1.put o.dst v') (.inRegion ops (List.range' (pre ++ [o]).length l.length) :: k)) κ'.cs w') →
          CodeR E P B β w κ m fr0 b k (lone (b.atR a (.inRegion ops (pre.length :: List.range' (pre ++ [o]).length l.length) :: k)) κ.cs w) (dops D ih ods (v :: st) (fr'.put od.dst v) h') := by
        intro β' w' κ' a1 v v' fr' h' hf hr' hup hv ht hdf e1 e2 e3 e4 hsteps
        have hF' : FrR P β' m fr' b a1 := by
          have := hS.ff.mono hf.le
          refine ⟨by rw [e1, e2]; exact this.fn, by rw [e1]; exact this.bfn, by rw [e2, e3, ht]; exact this.tm, hdf, by rw [e4]; exact this.ro⟩
        have hF2 := hF'.put (dst := o.dst) (fun d hd => by rw [e2]; exact c2 d hd) hv
        rw [← c3] at hF2
        obtain ⟨q1, q2, q3, q4, q5⟩ := put_same fr' od.dst v
        have hst' : StR β' (o.dst :: prev) (v :: st) (a1.put o.dst v').tmps := by
          have := (hst.mono hf.le).push (dst := o.dst) hv (fun d hd => by rw [hS.ff.tm.size]; exact c2 d hd)
          rw [put_tmps, ht]; exact this
        refine CodeR.of_steps (fr1 := fr0) hf rfl rfl rfl hsteps ?_
        refine ihl ods (pre ++ [o]) (o.dst :: prev) (v :: st) fr0 (fr'.put od.dst v) _ β' w' κ' h' hops' (by rw [q2, e2]; exact h2) hst' ⟨hr', hF2, by rw [q4]; exact hup, by rw [hf.up.kind]; exact hS.kd, by rw [q1, e1]; exact hS.fn, by rw [q2, e2]; exact hS.n, by rw [q3, e4]; exact hS.ro⟩
      rw [hrest]
      show CodeR E P B β w κ m fr0 b k _ (dopsC D ih od (dops D ih ods) st fr h)
      unfold dopsC
      rw [hwant]
      cases hw : Region.wanted o (yielded ops a.tmps) with
      | false =>
        refine go β w κ a .undef undef fr h (Fw.refl β w κ) hS.hr hS.up (VR.undef β) rfl hS.ff.df rfl rfl rfl rfl (.one ?_)
        have := stepR_op_skip (P := P) (b := b) (a := a) (k := k) (cs := κ.cs) (w := w) (ops := ops) (i := pre.length) (rest := List.range' (pre ++ [o]).length l.length) (by rw [hi]; simpa using hw)
        rw [hi] at this
        exact this
      | true =>
        have hstep := op_step (D := D) (rest := List.range' (pre ++ [o]).length l.length) (k := k) hE hC hR hX hS.hr hS.ff hS.up hS.kd hi hw hst c1
        show CodeR E P B β w κ m fr0 b k _ (goS od.dst (dops D ih ods) st (dstep D ih od.op (fr.evS st) fr h))
        cases hd : dstep D ih od.op (fr.evS st) fr h with
        | fail => trivial
        | val v fr' h' =>
          rw [hd] at hstep
          obtain ⟨β', w', κ', a1, v', s1, s2, s3, s4, s5, s6, s7, s8, s9, s10, s11⟩ := hstep
          exact go β' w' κ' a1 v v' fr' h' s1 s2 s3 s4 s5 s6 s7 s8 s9 s10 s11
        | exc e fr' h' =>
          rw [hd] at hstep
          obtain ⟨v, rfl, rfl, β', w', v', s1, s2, s3, s4⟩ := hstep
          exact ⟨β', w', κ, a, s1, ⟨s2, hS.ff.mono s1.le, hS.up.mono s1.le, hS.kd, hS.fn, hS.n, hS.ro⟩, _, v', s3, s4⟩
    · cases hc
end
end Go.Dm
