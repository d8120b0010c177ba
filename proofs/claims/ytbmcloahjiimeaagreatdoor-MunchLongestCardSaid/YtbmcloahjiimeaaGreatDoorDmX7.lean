/- The tables that a row's condition names; what a law leaves that writes nothing of the caller's. -/
import Derived.Test.YtbmcloahjiimeaaGreatDoorDmX6
import Derived.Carry
import Derived.FnData
import Derived.ChangeAt
import Derived.ProofKit
set_option linter.all false
namespace Go.Dm
open Go.RowKit (Below)
open Go.ChangeShapes Go.WideShapes Go.ChangeAt Go.WideElems

def dlit : DV → DataW Unit
  | .int k n => .lit (.int k n)
  | _ => .nil
def ints (k : IntKind) (l : List DV) : Bool := l.all fun
  | .int k' _ => decide (k' = k)
  | _ => false
section
variable {E : Ti} {P : Program} {W : World} {β : Bt} {h : H}
theorem HR.laid (hr : HR E P (bd W) β h W) {nm : String} {g e n fuel : Nat} {t : TypeId} {k : IntKind} {l : List DV} {cs : Array Value} {p : List MemPlace} {enc : TypeId × Value → Unit} {hld : Bool} {sp : Nat → Bool} (hg : P.globalNamed nm = some g) (hv : W.var? P nm = some cs)
    (hd : DataW.trod enc P W 0 sp hld fuel t cs.toList = some (.agg (l.map dlit), p)) (ht : P.underlying t = some (.array n e)) (he : P.underlying e = some (.int k)) (hs : P.cellsOf e = 1) (hl : ints k l = true) (hn : l.length = n) (hgl : E.glob g = true) (hlt : g < h.nx) :
    HR E P (bd W) β (h.put g (.cells l 0 true)) W := by
  simp only [World.var?, hg, Option.bind_some] at hv
  split at hv
  · rename_i c u fz hc
    cases hv
    refine hr.table hgl 0 hc (fun i v hi => ?_) (Array.getElem?_eq_some_iff.1 hc).1 hlt
    obtain ⟨xs, m, -, hx, -, hxl, hel⟩ := DataW.trod_array ht hd
    have hil := (List.getElem?_eq_some_iff.1 hi).1
    have h1 := hel i (by omega)
    rw [hs, Nat.mul_one] at h1
    have h2 : xs[i]? = some (xs[i]'(by omega)) := by simp
    rw [h2] at h1
    obtain ⟨m2, e1, e2, -⟩ := DataW.trod_int he h1
    have h3 : (xs.map (·.1))[i]? = (l.map dlit)[i]? := by
      have := congrArg Prod.fst hx
      simp only [DataW.agg.injEq] at this
      rw [this]
    rw [List.getElem?_map, List.getElem?_map, h2, hi] at h3
    simp only [Option.map_some, Option.some.injEq] at h3
    rw [e2] at h3
    have hk := List.all_eq_true.1 hl v (List.mem_iff_getElem?.2 ⟨i, hi⟩)
    obtain ⟨n2, rfl⟩ : ∃ n2, v = .int k n2 := by
      cases v <;> simp at hk
      subst hk; exact ⟨_, rfl⟩
    simp only [dlit, DataW.lit.injEq, Lit.int.injEq, true_and] at h3
    subst h3
    have h4 := congrArg (fun x : List Value => x[0]?) e1
    simp only [List.getElem?_take, List.getElem?_drop, Nat.add_zero, Nat.zero_lt_one, if_true, List.getElem?_cons_zero] at h4
    exact ⟨.int k m2, by rw [Nat.zero_add, ← Array.getElem?_toList]; exact h4, .int _ _, rfl⟩
  · cases hv

theorem one_int {base : Nat} {t : TypeId} {v : Value} {k : IntKind} (ht : P.underlying t = some (.int k)) (hv : Value.okWide P W .any base t v) : v.cells.toList = [v] := by
  cases v <;> first | rfl | (simp [Value.okWide, ht, Cell.okWide, Cell.ok] at hv)
theorem one_bool {base : Nat} {t : TypeId} {v : Value} (ht : P.underlying t = some .bool) (hv : Value.okWide P W .any base t v) : v.cells.toList = [v] := by
  cases v <;> first | rfl | (simp [Value.okWide, ht, Cell.okWide, Cell.ok] at hv)
theorem one_str {base : Nat} {t : TypeId} {v : Value} (ht : P.underlying t = some .string) (hv : Value.okWide P W .any base t v) : v.cells.toList = [v] := by
  cases v <;> first | rfl | (simp [Value.okWide, ht, Cell.okWide, Cell.ok] at hv)
theorem one_slice {base : Nat} {t e : TypeId} {v : Value} (ht : P.underlying t = some (.slice e)) (hv : Value.okWide P W .any base t v) : v.cells.toList = [v] := by
  cases v <;> first | rfl | (simp [Value.okWide, ht, Cell.okWide, Cell.ok] at hv)
theorem vrs_one {ds : List DV} {v : Value} (h : VRs β ds [v]) : ∃ d, ds = [d] ∧ VR β d v := by
  cases h with
  | cons d _ l _ h1 h2 => cases h2; exact ⟨d, rfl, h1⟩

variable {K : Type} {enc : TypeId × Value → K}
theorem trodAll_stays {W' : World} (hl : laidOutB P = true) (hb : Below W.heap.size W W') : ∀ {ts : List TypeId} {vs : List Value} {ds : List (DataW K)} {ps : List MemPlace},
    (ts.all fun t => P.readableRec t && decide (t < P.types.size)) = true → DataW.TrodAll enc P W 0 (fun _ => true) true ts vs ds ps → (∀ x ∈ ps, x.block < W.heap.size) → DataW.TrodAll enc P W' 0 (fun b => decide (b < W.heap.size)) true ts vs ds ps
  | [], vs, ds, ps, _, h, _ => by
    obtain ⟨rfl, rfl, rfl⟩ := trodAll_nil h
    rfl
  | t :: ts, vs, ds, ps, ha, h, hlt => by
    obtain ⟨v, vs', d, ds', p, q, rfl, rfl, rfl, h1, h2⟩ := trodAll_cons h
    simp only [List.all_cons, Bool.and_eq_true, decide_eq_true_eq] at ha
    exact trodAll_cons_mk (h1 |> fun h1 => Below.trod hl ha.1.1 ha.1.2 h1 hb fun x hx => hlt x (List.mem_append_left _ hx)) (trodAll_stays hl hb (by simpa using ha.2) h2 fun x hx => hlt x (List.mem_append_right _ hx))
/-- a law that returns true and writes nothing of the caller's -/
theorem post_true {f : Func} {s : ChangeSpec} {apart fresh handsOn : Bool} {W' : World} {args : Array Value} {ds gs : List (DataW K)} {before : List MemPlace} {rt : TypeId} (hsv : s.vars = [])
    (hW : DataW.Whole enc P f.params.toList s.vars apart W args.toList ds gs before) (hrt : f.resultTypes.toList = [rt]) (hu : P.underlying rt = some .bool) (hfn : s.fn K ds = { results := [.lit (.bool true)], args := ds })
    (hl : laidOutB P = true) (hrd : (f.params.toList.all fun t => P.readableRec t && decide (t < P.types.size)) = true) (hb : Below W.heap.size W W') : s.post enc P f apart fresh handsOn false W args (.bool true) W' := by
  have hlt := hW.lt
  have hW2 := hW
  obtain ⟨p, q, hA, hV, e, hz, hn⟩ := hW
  rw [hsv] at hV
  obtain ⟨rfl, rfl⟩ := trodVars_none hV
  rw [List.append_nil] at e
  subst e
  have hsz : f.resultTypes.size = 1 := by rw [← Array.length_toList, hrt]; rfl
  refine ⟨ds, [], before, [], before, [], hW2, ?_, ?_, ?_, hb.frame _, fun h => by cases h⟩
  · rw [List.append_nil, hfn, hrt, hsz]
    exact trodAll_mk1 (Go.RowKit.shut_bool hu _)
  · rw [List.append_nil, hfn]
    exact trodAll_stays hl hb hrd hA hlt
  · rw [List.append_nil, hfn, hsv]
    rfl
end
end Go.Dm
