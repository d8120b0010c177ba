/- Operations, part 4: writing memory, making blocks. Operations, part 5: literals, rows, append, copy, clear. Operations, part 6: append, copy, clear, maps. -/
import Derived.Test.YtbmcloahjiimeaaGreatDoorDmOa
set_option linter.all false
namespace Go.Dm
open Go.RowKit (Below)

section
variable {E : Ti} {P : Program} {B : Bd} {β : Bt} {w : World} {h : H}

/-! ### Cells are stored -/
/-- a world in which the block r is another row, and nothing else is otherwise -/
structure Wr (w w' : World) (r : Nat) (c' : Array Value) (e : Nat) (fz : Nat × Nat) : Prop where
  blk : w'.heap[r]? = some (.cells c' e fz)
  other : ∀ k, k ≠ r → w'.heap[k]? = w.heap[k]?
  size : w'.heap.size = w.heap.size
  os : w'.os = w.os
  tape : w'.tape = w.tape
  output : w'.output = w.output
theorem Wr.below {w w' : World} {r : Nat} {c' : Array Value} {e : Nat} {fz : Nat × Nat} (h : Wr w w' r c' e fz) (hB : B.b ≤ r) : Below B.b w w' :=
  ⟨h.os, h.tape, h.output, by rw [h.size]; exact Nat.le_refl _, fun k hk => h.other k (by omega)⟩
theorem storeCells_run (vs : List Value) : ∀ (w : World) (r o i : Nat) (c : Array Value) (e : Nat) (fz : Nat × Nat), w.heap[r]? = some (.cells c e fz) → o + i + vs.length ≤ c.size →
    (∀ k, o + i ≤ k → k < o + i + vs.length → ¬ (fz.1 ≤ k ∧ k < fz.2)) → (∀ v ∈ vs, v.oneCell' = true) →
    ∃ w' c', (storeCells ⟨r, o, none⟩ vs i).run P w = .ok () w' ∧ Wr w w' r c' e fz ∧ c'.size = c.size ∧
      ∀ k, c'[k]? = if o + i ≤ k ∧ k < o + i + vs.length then vs[k - (o + i)]? else c[k]? := by
  induction vs with
  | nil =>
    intro w r o i c e fz hw _ _ _
    refine ⟨w, c, rfl, ⟨hw, fun _ _ => rfl, rfl, rfl, rfl, rfl⟩, rfl, fun k => ?_⟩
    rw [if_neg (by simp <;> omega)]
  | cons v vs ih =>
    intro w r o i c e fz hw hle hfz hone
    have hlt : o + i < c.size := by simp at hle; omega
    have hcell : w.cell? ((⟨r, o, none⟩ : Addr).add i) = some c[o + i] := by
      rw [addr_add]; simp [World.cell?, hw, Array.getElem?_eq_getElem hlt]
    have hfr : w.frozen? ((⟨r, o, none⟩ : Addr).add i) = false := by
      rw [addr_add]
      simp only [World.frozen?, hw]
      have := hfz (o + i) (Nat.le_refl _) (by simp <;> omega)
      simp only [Bool.and_eq_false_iff, decide_eq_false_iff_not]
      by_cases h1 : fz.1 ≤ o + i
      · exact .inr fun h2 => this ⟨h1, h2⟩
      · exact .inl h1
    have hstep : (store ((⟨r, o, none⟩ : Addr).add i) v).run P w = .ok () (w.setCell ⟨r, o + i, none⟩ v) := by
      rw [run_store P w _ v .plain (hone v (List.mem_cons_self ..)), hcell]
      rw [addr_add] at hfr
      simp [hfr, addr_add]
    have hw1 : (w.setCell ⟨r, o + i, none⟩ v).heap[r]? = some (.cells (c.setIfInBounds (o + i) v) e fz) := by
      simp only [World.setCell, Array.getElem?_modify, if_true, hw, Option.map_some]; rfl
    obtain ⟨w', c', h1, h2, h3, h4⟩ := ih (w.setCell ⟨r, o + i, none⟩ v) r o (i + 1) _ e fz hw1 (by simp at hle ⊢; omega) (fun k k1 k2 => hfz k (by omega) (by simp; omega)) (fun u hu => hone u (List.mem_cons_of_mem _ hu))
    refine ⟨w', c', ?_, ⟨h2.blk, fun k hk => (h2.other k hk).trans (heap_setCell_other w _ k v hk), h2.size.trans (by simp), h2.os, h2.tape, h2.output⟩, h3.trans (by simp), fun k => ?_⟩
    · simp only [storeCells, Sem.run_bind, hstep, Result.andThen_ok, h1]
    · rw [h4 k]
      by_cases hk : k = o + i
      · subst hk
        rw [if_neg (by omega), if_pos (by simp)]
        simp [hlt]
      · by_cases hk2 : o + i ≤ k ∧ k < o + i + (v :: vs).length
        · have hk2' := hk2
          simp at hk2'
          rw [if_pos (by omega), if_pos hk2]
          rw [show k - (o + i) = (k - (o + (i + 1))) + 1 by omega]
          rfl
        · have hk2' := hk2
          simp at hk2'
          rw [if_neg (by omega), if_neg hk2]
          rw [Array.getElem?_setIfInBounds_ne (by omega)]

/-- cells of a block of one's own are written: there, and here -/
theorem writes (hr : HR E P B β h w) {d off : Nat} {L : Loc} (hL : β d = some L) {ds : List DV} {vs : List Value} (hv : VRs β ds vs) (hone : ∀ v ∈ vs, v.oneCell' = true) {h' : H} (hw : wrN h d off ds = some h') :
    ∃ w', (storeCells ⟨L.r, L.o + off, none⟩ vs).run P w = .ok () w' ∧ HR E P B β h' w' ∧ Below B.b w w' := by
  unfold wrN at hw
  split at hw
  · rename_i cs e hd
    unfold putO at hw
    split at hw
    · rename_i cs' hs
      cases hw
      obtain ⟨hle, rfl⟩ := lsplice_some hs
      have hblk := hr.obj d L _ hL hd
      obtain ⟨⟨c, t, fz, h1, h2, h3⟩, h4, -⟩ := hblk
      obtain ⟨te, g1, g2⟩ := h3 rfl; rw [te] at h1
      have hlen := hv.length
      obtain ⟨w', c', k1, k2, k3, k4⟩ := storeCells_run (P := P) vs w L.r (L.o + off) 0 c e fz h1 (by omega) (fun k k1 k2 => g2 k (by omega) (by omega)) hone
      refine ⟨w', k1, hr.write hL hd h1 k2.blk k2.other k2.size k3 (by simp; omega) (fun i hi => ?_) (fun i v hi => ?_), k2.below (h4 rfl)⟩
      · rw [k4 i, if_neg (by omega)]
      · rw [k4 (L.o + i)]
        by_cases c1 : i < off
        · rw [if_neg (by omega)]
          rw [List.append_assoc, List.getElem?_append_left (by simp; omega), List.getElem?_take_of_lt c1] at hi
          exact h2 i v hi
        · by_cases c2 : i < off + ds.length
          · rw [if_pos (by omega)]
            rw [List.append_assoc, List.getElem?_append_right (by simp; omega), List.getElem?_append_left (by simp; omega)] at hi
            have hi' : ds[i - off]? = some v := by
              rw [← hi]; congr 1; simp; omega
            obtain ⟨v', q1, q2⟩ := hv.get hi'
            refine ⟨v', ?_, q2, hone v' (List.mem_of_getElem? q1)⟩
            rw [← q1]; congr 1; omega
          · rw [if_neg (by omega)]
            rw [List.getElem?_append_right (by simp; omega)] at hi
            rw [List.getElem?_drop] at hi
            refine h2 i v ?_
            rw [← hi]; congr 1; simp; omega
    · cases hw
  · cases hw
theorem wrN_of_wr1 {d off : Nat} {v : DV} {h' : H} (hw : wr1 h d off v = some h') : wrN h d off [v] = some h' := by
  unfold wr1 at hw
  unfold wrN
  split at hw
  · rename_i cs e hd
    unfold putO at hw
    split at hw
    · rename_i cs' hs
      cases hw
      obtain ⟨hlt, rfl⟩ := lset_some hs
      simp only [putO, lsplice_of_le (vs := [v]) (by simp <;> omega : off + [v].length ≤ cs.length)]
      rw [List.set_eq_take_append_cons_drop, if_pos hlt]
      simp
    · cases hw
  · cases hw
theorem NU.of {n : N} {r : Result Unit} {h' : H} (hn : n = .val .undef h') (hs : ∃ β' w', r = .ok () w' ∧ β.le β' ∧ HR E P B β' h' w' ∧ Below B.b w w') : NU E P B β w n r := by
  subst hn
  obtain ⟨β', w', h1, h2, h3, h4⟩ := hs
  exact ⟨rfl, β', w', h1, h2, VR.undef β', h3, h4⟩
theorem s_store1 (hE : E.Ok P) (hr : HR E P B β h w) {t : Nat} (hs : E.size t = some 1) {a x : DX} {ev : Ev} {va vx : Value} (hv : VR β (ev a) va) (hx : VR β (ev x) vx) : NU E P B β w (oStore1 a x ev h) ((Instr.storeAt t va vx).run P w) := by
  unfold oStore1
  split
  · rename_i d off hd
    rw [hd] at hv
    obtain ⟨L, hL, rfl⟩ := hv.ptr_inv
    split
    · rename_i ho
      unfold hO
      split
      · rename_i h' hw
        obtain ⟨w', k1, k2, k3⟩ := writes hr hL (.cons _ _ _ _ hx .nil) (by intro v hv; simp at hv; subst hv; exact hx.one ho) (wrN_of_wr1 hw)
        refine NU.of rfl ⟨β, w', ?_, Bt.le.refl β, k2, k3⟩
        simp only [Instr.storeAt, Instr.sureAddr, storeVar, Sem.run_bind, Sem.run_pure, Result.andThen_ok, hE.run_size w hs, hx.cells_of_one ho]
        exact k1
      · trivial
    · trivial
  · trivial
theorem s_storeN (hE : E.Ok P) (hr : HR E P B β h w) {t n : Nat} (hs : E.size t = some n) {a x : DX} {ev : Ev} {va vx : Value} (hv : VR β (ev a) va) (hx : VR β (ev x) vx) : NU E P B β w (oStoreN n a x ev h) ((Instr.storeAt t va vx).run P w) := by
  unfold oStoreN
  split
  · rename_i d off vs hd hvs
    rw [hd] at hv
    rw [hvs] at hx
    obtain ⟨L, hL, rfl⟩ := hv.ptr_inv
    obtain ⟨l', rfl, g1, g2⟩ := hx.agg_inv
    rw [lenIs_eq]
    by_cases hn : vs.length = n
    · simp only [hn, decide_true, cond_true]
      unfold hO
      split
      · rename_i h' hw
        obtain ⟨w', k1, k2, k3⟩ := writes hr hL g1 g2 hw
        refine NU.of rfl ⟨β, w', ?_, Bt.le.refl β, k2, k3⟩
        have : ¬ ((Value.agg l'.toArray).cells.size ≠ n) := by simp [Value.cells]; rw [← g1.length, hn]
        simp only [Instr.storeAt, Instr.sureAddr, storeVar, Sem.run_bind, Sem.run_pure, Result.andThen_ok, hE.run_size w hs]
        rw [if_neg this]
        exact k1
      · trivial
    · simp only [hn, decide_false, cond_false]; trivial
  · trivial

/-! ### Blocks are made -/
theorem cellsAt_zero {β : Bt} {cs : List DV} {c : List Value} (hc : VRs β cs c) (h1 : ∀ v ∈ c, v.oneCell' = true) (rest : List Value) : CellsAt β (c ++ rest).toArray 0 cs := by
  intro i v hv
  obtain ⟨v', g1, g2⟩ := hc.get hv
  refine ⟨v', ?_, g2, h1 v' (List.mem_of_getElem? g1)⟩
  rw [Nat.zero_add, List.getElem?_toArray, List.getElem?_append_left ((List.getElem?_eq_some_iff.1 g1).1)]
  exact g1
/-- a row of one's own more, so many elements of it spare -/
theorem HR.row (hr : HR E P B β h w) {w1 : World} {c : Array Value} {e : Nat} (hw1 : w1.heap = w.heap.push (.cells c e)) (h1 : w1.os = w.os) (h2 : w1.tape = w.tape) (h3 : w1.output = w.output) {cs : List DV} {c0 rest : List Value} (hc : VRs β cs c0) (hone : ∀ v ∈ c0, v.oneCell' = true)
    (hcc : c = (c0 ++ rest).toArray) {sp : Nat} (hsp : sp * P.cellsOf e ≤ rest.length) :
    β.le (β.upd h.nx ⟨w.heap.size, 0, sp⟩) ∧ HR E P B (β.upd h.nx ⟨w.heap.size, 0, sp⟩) (h.new (.cells cs e false)) w1 ∧ Below B.b w w1 := by
  have hle := Bt.le_upd (β := β) (L := ⟨w.heap.size, 0, sp⟩) (hr.new h.nx (Nat.le_refl _))
  refine ⟨hle, hr.alloc sp hw1 ⟨⟨c, e, (0, 0), ?_, ?_, fun _ => ⟨rfl, ?_, fun i _ _ hf => by simp at hf⟩⟩, fun _ => hr.base, fun hf => by cases hf⟩, ?_⟩
  · show w1.heap[w.heap.size]? = _
    rw [hw1]; simp
  · rw [hcc]; exact (cellsAt_zero hc hone rest).mono hle
  · simp only [hcc, List.size_toArray, List.length_append, hc.length]; omega
  · exact ⟨h1, h2, h3, by rw [hw1]; simp, fun k hk => by rw [hw1, Array.getElem?_push, if_neg]; have := hr.base; omega⟩
theorem NV.newPtr (hr : HR E P B β h w) {cs : List DV} {c0 : List Value} {e : Nat} {r : Result Value} (hc : VRs β cs c0) (hone : ∀ v ∈ c0, v.oneCell' = true)
    (hs : r = .ok (.pointer (some ⟨w.heap.size, 0, none⟩)) (w.alloc (.cells c0.toArray e))) : NV E P B β w h (.val (.ptr (some (h.nx, 0))) (h.new (.cells cs e false))) r := by
  obtain ⟨k1, k2, k3⟩ := hr.row (w1 := w.alloc (.cells c0.toArray e)) (e := e) (c := c0.toArray) rfl rfl rfl rfl hc hone (rest := []) (by simp) (sp := 0) (by simp)
  exact ⟨_, _, _, hs, k1, by have := VR.ptr (β := β.upd h.nx ⟨w.heap.size, 0, 0⟩) h.nx 0 _ (Bt.upd_self _ _ _); simpa using this, k2, k3⟩
theorem s_alloc (hE : E.Ok P) (hr : HR E P B β h w) {e : Nat} {z : DV} (hz : zero E e = some z) (ev : Ev) : NV E P B β w h (oAlloc z.cells e ev h) ((Instr.alloc e true (.tuple #[])).run P w) := by
  obtain ⟨i, zv, h1, h2, h3, h4⟩ := hE.zero hz
  refine NV.newPtr hr (c0 := zv.cells.toList) (h3 β).cells ((h3 β).cells_one h4) ?_
  simp only [Instr.alloc, Sem.run_bind, run_zeroValue' w h1 h2, Result.andThen_ok, newVar, newRow, run_newObj, Sem.run_pure, Array.toArray_toList]
  rfl
theorem tup_not {d : DV} (h : d.tup = false) : ∀ l, d ≠ .tuple l := by
  rintro l rfl; cases h
theorem s_box (hr : HR E P B β h w) {e : Nat} {x : DX} {ev : Ev} {vx : Value} (hx : VR β (ev x) vx) : NV E P B β w h (oBox e x ev h) ((Instr.box e vx).run P w) := by
  unfold oBox
  cases ht : (ev x).tup with
  | true => trivial
  | false =>
    simp only [cond_false]
    refine NV.newPtr hr (c0 := vx.cells.toList) hx.cells (hx.cells_one (tup_not ht)) ?_
    simp only [Instr.box, Sem.run_bind, Result.andThen_ok, newVar, newRow, run_newObj, Sem.run_pure, Array.toArray_toList]
    rfl
theorem s_mkMap (hr : HR E P B β h w) (t : Nat) (ev : Ev) : NV E P B β w h (oMkMap ev h) ((Instr.makeMap t none).run P w) := by
  refine ⟨β.upd h.nx ⟨w.heap.size, 0, 0⟩, .map (some w.heap.size), w.alloc (.map #[] 0), rfl, Bt.le_upd (hr.new h.nx (Nat.le_refl _)), ?_, ?_, ?_⟩
  · exact VR.map h.nx ⟨w.heap.size, 0, 0⟩ (Bt.upd_self _ _ _)
  · exact hr.alloc 0 rfl ⟨hr.base, #[], 0, heap_alloc_new w _, trivial⟩
  · exact (Below.refl B.b w).alloc hr.base _

/-! ### Literals -/
theorem splice_get {α : Type} (off : Nat) (vs l : List α) (k : Nat) (h : off + vs.length ≤ l.length) : (l.take off ++ vs ++ l.drop (off + vs.length))[k]? = if off ≤ k ∧ k < off + vs.length then vs[k - off]? else l[k]? := by
  by_cases c1 : k < off
  · rw [if_neg (by omega), List.append_assoc, List.getElem?_append_left (by simp; omega), List.getElem?_take_of_lt c1]
  · by_cases c2 : k < off + vs.length
    · rw [if_pos (by omega), List.append_assoc, List.getElem?_append_right (by simp; omega), List.getElem?_append_left (by simp; omega)]
      congr 1; simp; omega
    · rw [if_neg (by omega), List.getElem?_append_right (by simp; omega), List.getElem?_drop]
      congr 1; simp; omega
theorem foldl_setIf (l : List (Value × Nat)) : ∀ (cs : Array Value) (off : Nat), (l.foldl (fun cs (p : Value × Nat) => cs.setIfInBounds (off + p.2) p.1) cs).size = cs.size := by
  induction l with
  | nil => intro cs off; rfl
  | cons a l ih => intro cs off; rw [List.foldl_cons, ih]; simp
theorem foldl_zipIdx (vs : List Value) : ∀ (cs : Array Value) (off n : Nat) (k : Nat), off + n + vs.length ≤ cs.size →
    ((vs.zipIdx n).foldl (fun cs (p : Value × Nat) => cs.setIfInBounds (off + p.2) p.1) cs)[k]? = if off + n ≤ k ∧ k < off + n + vs.length then vs[k - (off + n)]? else cs[k]? := by
  induction vs with
  | nil => intro cs off n k _; rw [if_neg (by simp <;> omega)]; rfl
  | cons v vs ih =>
    intro cs off n k hle
    simp only [List.length_cons] at hle
    have := ih (cs.setIfInBounds (off + n) v) off (n + 1) k (by rw [Array.size_setIfInBounds]; omega)
    rw [List.zipIdx_cons, List.foldl_cons, this]
    by_cases c1 : k = off + n
    · subst c1
      rw [if_neg (by omega), if_pos (by simp)]
      simp [show off + n < cs.size by omega]
    · by_cases c2 : off + n ≤ k ∧ k < off + n + (v :: vs).length
      · have c2' := c2
        simp only [List.length_cons] at c2'
        rw [if_pos (by omega), if_pos c2, show k - (off + n) = (k - (off + (n + 1))) + 1 by omega]
        rfl
      · have c2' := c2
        simp only [List.length_cons] at c2'
        rw [if_neg (by omega), if_neg c2, Array.getElem?_setIfInBounds_ne (by omega)]
/-- parts of a literal: where each lies, there and here -/
inductive PartsR (β : Bt) (place : Nat → Option (Nat × Nat)) : List (Nat × Nat × DV) → List (Nat × Value) → Prop where
  | nil : PartsR β place [] []
  | cons (i o n : Nat) (d : DV) (v : Value) (l : List (Nat × Nat × DV)) (l' : List (Nat × Value)) (hp : place i = some (o, n)) (hv : VR β d v) (hs : PartsR β place l l') : PartsR β place ((o, n, d) :: l) ((i, v) :: l')
theorem fill_run {place : Nat → Option (Nat × Nat)} {ps : List (Nat × Nat × DV)} {ps' : List (Nat × Value)} (hp : PartsR β place ps ps') :
    ∀ {cs cs2 : List DV} {c : List Value}, VRs β cs c → (∀ v ∈ c, v.oneCell' = true) → fills cs ps = some cs2 →
      ∃ c2 : List Value, Instr.fill place c.toArray ps' = some c2.toArray ∧ VRs β cs2 c2 ∧ ∀ v ∈ c2, v.oneCell' = true := by
  induction hp with
  | nil => intro cs cs2 c hc h1 hf; simp only [fills] at hf; cases hf; exact ⟨c, rfl, hc, h1⟩
  | cons i o n d v l l' hpl hv hs ih =>
    intro cs cs2 c hc h1 hf
    simp only [fills, lenIs_eq] at hf
    cases ht : d.tup with
    | true => rw [ht] at hf; simp at hf
    | false =>
      rw [ht] at hf
      by_cases hn : d.cells.length = n
      · simp only [hn, decide_true, Bool.not_false, Bool.and_self, cond_true] at hf
        split at hf
        · rename_i cs' hsp
          obtain ⟨hle, rfl⟩ := lsplice_some hsp
          have hvl : v.cells.toList.length = n := by rw [← hv.cells.length, hn]
          have hvs : v.cells.size = n := by simpa using hvl
          have hcl := hc.length
          have hvone := hv.cells_one (tup_not ht)
          let c' : List Value := c.take o ++ v.cells.toList ++ c.drop (o + v.cells.toList.length)
          have hc' : VRs β (cs.take o ++ d.cells ++ cs.drop (o + d.cells.length)) c' := by
            have : d.cells.length = v.cells.toList.length := hv.cells.length
            rw [this]
            exact ((hc.take o).append hv.cells).append (hc.drop _)
          have h1' : ∀ u ∈ c', u.oneCell' = true := by
            intro u hu
            rcases List.mem_append.1 hu with hu | hu
            · rcases List.mem_append.1 hu with hu | hu
              · exact h1 u (List.mem_of_mem_take hu)
              · exact hvone u hu
            · exact h1 u (List.mem_of_mem_drop hu)
          obtain ⟨c2, k1, k2, k3⟩ := ih hc' h1' hf
          refine ⟨c2, ?_, k2, k3⟩
          have hfold : v.cells.zipIdx.foldl (fun cs (x : Value × Nat) => cs.setIfInBounds (o + x.2) x.1) c.toArray = c'.toArray := by
            rw [← Array.foldl_toList]
            apply Array.ext_getElem?
            intro k
            have := foldl_zipIdx v.cells.toList c.toArray o 0 k (by simp; omega)
            simp only [Nat.add_zero] at this
            rw [Array.toList_zipIdx, this, List.getElem?_toArray, List.getElem?_toArray]
            exact (splice_get o v.cells.toList c k (by omega)).symm
          have hcond : ((v.cells.size != n) || decide (o + v.cells.size > c.toArray.size)) = false := by
            simp [hvs]; omega
          simp only [Instr.fill, hpl]
          rw [if_neg]
          · rw [← k1]; congr 1
          · simp [hvs]; omega
        · cases hf
      · simp only [hn, decide_false, Bool.false_and, cond_false] at hf; cases hf
end
end Go.Dm

namespace Go.Dm
open Go.RowKit (Below)

section
variable {E : Ti} {P : Program} {B : Bd} {β : Bt} {w : World} {h : H}

/-! ### Zeros, so many -/
def zrep : Nat → List Value → List Value
  | 0, _ => []
  | n + 1, z => z ++ zrep n z
theorem zrep_length (n : Nat) (z : List Value) : (zrep n z).length = n * z.length := by
  induction n with
  | zero => simp [zrep]
  | succ n ih => simp only [zrep, List.length_append, ih, Nat.succ_mul]; omega
theorem rep_vrs {z : List DV} {zv : List Value} (hz : VRs β z zv) (n : Nat) : VRs β (rep n z) (zrep n zv) := by
  induction n with
  | zero => exact .nil
  | succ n ih => exact hz.append ih
theorem zrep_one {zv : List Value} (h1 : ∀ v ∈ zv, v.oneCell' = true) (n : Nat) : ∀ v ∈ zrep n zv, v.oneCell' = true := by
  induction n with
  | zero => intro v hv; cases hv
  | succ n ih =>
    intro v hv
    rcases List.mem_append.1 hv with hv | hv
    · exact h1 v hv
    · exact ih v hv
theorem zrep_get (n : Nat) (z : List Value) (i : Nat) (hi : i < n * z.length) : (zrep n z)[i]? = z[i % z.length]? := by
  induction n generalizing i with
  | zero => omega
  | succ n ih =>
    simp only [zrep]
    by_cases c : i < z.length
    · rw [List.getElem?_append_left c, Nat.mod_eq_of_lt c]
    · rw [List.getElem?_append_right (by omega), ih (i - z.length) (by rw [Nat.succ_mul] at hi; omega)]
      congr 1
      conv => rhs; rw [show i = (i - z.length) + z.length by omega, Nat.add_mod_right]
theorem zeros (z : Array Value) (n m : Nat) (hm : m = n * z.size) : (Array.range m).map (fun i => z[i % z.size]!) = (zrep n z.toList).toArray := by
  apply Array.ext_getElem?
  intro i
  by_cases c : i < m
  · have hz : 0 < z.size := by
      rcases Nat.eq_zero_or_pos z.size with h0 | h0
      · rw [h0] at hm; omega
      · exact h0
    have h2 := zrep_get n z.toList i (by simpa [hm] using c)
    simp only [Array.length_toList] at h2
    rw [show (zrep n z.toList).toArray[i]? = z.toList[i % z.size]? by rw [List.getElem?_toArray, h2]]
    have h3 : i % z.size < z.size := Nat.mod_lt _ hz
    simp [c, h3]
  · rw [Array.getElem?_eq_none (by simp; omega), List.getElem?_toArray, List.getElem?_eq_none (by rw [zrep_length]; simp [← hm]; omega)]
theorem zeroCells_eq (z : Array Value) (n : Nat) : Builtin.zeroCells z n = (zrep n z.toList).toArray := zeros z n _ rfl

/-! ### Rows -/
/-- a zero: there, here -/
structure ZeroR (E : Ti) (P : Program) (e n : Nat) (z : List DV) (i : TypeInfo) (zv : Value) : Prop where
  info : P.info? e = some i
  zero : i.zero = some zv
  vrs : ∀ β, VRs β z zv.cells.toList
  one : ∀ v ∈ zv.cells.toList, v.oneCell' = true
  size : i.size = n
  len : zv.cells.size = n
theorem Ti.Ok.zeroR (hE : E.Ok P) {e n : Nat} {z : DV} (hz : Go.Dm.zero E e = some z) (hs : E.size e = some n) (hn : n = z.cells.length) : ∃ i zv, ZeroR E P e n z.cells i zv := by
  obtain ⟨i, zv, h1, h2, h3, h4⟩ := hE.zero hz
  obtain ⟨j, g1, g2⟩ := hE.size hs
  rw [h1] at g1; cases g1
  refine ⟨i, zv, h1, h2, fun β => (h3 β).cells, (h3 (fun _ => none)).cells_one h4, g2, ?_⟩
  have := (h3 (fun _ => none)).cells.length
  simp at this
  omega
theorem NV.newSlice (hr : HR E P B β h w) {cs : List DV} {c0 : List Value} {e l c : Nat} {r : Result Value} (hc : VRs β cs c0) (hone : ∀ v ∈ c0, v.oneCell' = true)
    (hs : r = .ok (.slice (some ⟨w.heap.size, 0, none⟩) l c) (w.alloc (.cells c0.toArray e))) : NV E P B β w h (.val (.slice (some (h.nx, 0)) l c false) (h.new (.cells cs e false))) r := by
  obtain ⟨k1, k2, k3⟩ := hr.row (w1 := w.alloc (.cells c0.toArray e)) (e := e) (c := c0.toArray) rfl rfl rfl rfl hc hone (rest := []) (by simp) (sp := 0) (by simp)
  exact ⟨_, _, _, hs, k1, by have := VR.sliceC (β := β.upd h.nx ⟨w.heap.size, 0, 0⟩) h.nx 0 l c _ (Bt.upd_self _ _ _); simpa using this, k2, k3⟩
theorem wrap64 {n : Int} (h0 : 0 ≤ n) (h1 : n ≤ 9223372036854775807) : IntKind.i64.wrap n = n := by
  have e : n = ((n.toNat : Nat) : Int) := by omega
  rw [e]
  refine wrap_nat (k := .i64) ?_
  show n.toNat ≤ 9223372036854775807
  omega
theorem s_mkSlice (hE : E.Ok P) (hr : HR E P B β h w) {t e n b : Nat} {z : DV} (ht : E.und t = some (.slice e)) (hs : E.size e = some n) (hb : E.bytes e = some b) (hz : zero E e = some z) (hn : n = z.cells.length) (hn0 : n ≠ 0)
    {l c : DX} {ev : Ev} {vl vc : Value} (hl : VR β (ev l) vl) (hc : VR β (ev c) vc) : NV E P B β w h (oMkSlice e n b z.cells l c ev h) ((Instr.makeSlice t vl vc).run P w) := by
  obtain ⟨i, zv, hzr⟩ := hE.zeroR hz hs hn
  obtain ⟨j, g1, g2⟩ := hE.bytes hb
  rw [hzr.info] at g1; cases g1
  unfold oMkSlice
  split
  · rename_i l' c' h1 h2
    rw [h1] at hl; rw [h2] at hc
    rw [hl.int_inv, hc.int_inv]
    split
    · rename_i hcond
      obtain ⟨k1, k2, k3, -, k5⟩ := hcond
      refine NV.newSlice hr (c0 := zrep c'.toNat zv.cells.toList) (rep_vrs (hzr.vrs β) _) (zrep_one hzr.one _) ?_
      have w1 := wrap64 (n := l') (by omega) (by omega)
      have w2 := wrap64 (n := c') (by omega) (by omega)
      have t1 : (decide (c' < 0) || decide ((b : Int) * c' > 2 ^ 48)) = false := by
        rw [Bool.or_eq_false_iff]; refine ⟨by simp; omega, ?_⟩
        have : ¬ ((b : Int) * c' > 281474976710656) := by omega
        simpa using this
      have hcond2 : ((decide (c' < 0) || decide ((b : Int) * c' > 2 ^ 48)) || decide (l' < 0) || decide (l' > c')) = false := by
        rw [t1]; simp; omega
      simp only [Instr.makeSlice, Sem.run_bind, hE.run_und w ht, Result.andThen_ok, asInt, asIntOf, Sem.run_pure, run_typeInfo' w hzr.info, g2, w1, w2]
      rw [if_neg (by rw [hcond2]; simp)]
      simp only [Sem.run_bind, run_askRoom, Result.andThen_ok, run_sizeOf' w hzr.info, hzr.size]
      split
      · rename_i h0
        have : c'.toNat = 0 := by
          rcases Nat.mul_eq_zero.1 h0 with h | h
          · exact h
          · exact absurd h hn0
        simp only [Sem.run_bind, Sem.run_pure, Result.andThen_ok, newRow, run_newObj, this, Nat.zero_mul, zrep]
        have hr0 : (Array.range 0).map (fun x => (#[] : Array Value)[x % (#[] : Array Value).size]!) = [].toArray := by simp
        rw [hr0]
        rfl
      · simp only [Sem.run_bind, run_zeroValue' w hzr.info hzr.zero, Result.andThen_ok, newRow, run_newObj, Sem.run_pure, zeros zv.cells c'.toNat _ (by rw [hzr.len])]
        rfl
    · trivial
  · trivial
theorem parts_of {X : Cx} {ev : Ev} {ρ : Operand → Value} (hX : ∀ x d, X x = some d → VR β (ev d) (ρ x)) {place place' : Nat → Option (Nat × Nat)} (hp : ∀ i q, place i = some q → place' i = some q) :
    ∀ {ps : List (Nat × Operand)} {ds : List (Nat × Nat × DX)}, cparts X place ps = some ds → PartsR β place' (defs ev ds) (ps.map fun p => (p.1, ρ p.2))
  | [], ds, h => by simp only [cparts] at h; cases h; exact .nil
  | (i, x) :: r, ds, h => by
    simp only [cparts] at h
    split at h
    · rename_i o n d ds' h1 h2 h3
      cases h
      exact .cons i o n _ _ _ _ (hp _ _ h1) (hX _ _ h2) (parts_of hX hp h3)
    · cases h
theorem s_bslice (hE : E.Ok P) (hr : HR E P B β h w) {t e n len : Nat} {z : DV} (ht : E.und t = some (.slice e)) (hs : E.size e = some n) (hz : zero E e = some z) (hn : n = z.cells.length) (hn0 : n ≠ 0) (hlen : len * n ≤ 16777216)
    {X : Cx} {ev : Ev} {ρ : Operand → Value} (hX : ∀ x d, X x = some d → VR β (ev d) (ρ x)) {ps : Array (Nat × Operand)} {ds : List (Nat × Nat × DX)} (hp : cparts X (fun i => some (i * n, n)) ps.toList = some ds) :
    NV E P B β w h (oBslice e (rep len z.cells) ds len ev h) ((Instr.buildSlice t len (ps.map fun p => (p.1, ρ p.2))).run P w) := by
  obtain ⟨i, zv, hzr⟩ := hE.zeroR hz hs hn
  unfold oBslice
  split
  · rename_i cs hf
    obtain ⟨c2, k1, k2, k3⟩ := fill_run (parts_of hX (fun _ _ h => h) hp) (rep_vrs (hzr.vrs β) len) (zrep_one hzr.one len) hf
    refine NV.newSlice hr (c0 := c2) k2 k3 ?_
    have hnl : ¬ (len * n > 2 ^ 24) := by omega
    simp only [Instr.buildSlice, Sem.run_bind, hE.run_und w ht, Result.andThen_ok, run_sizeOf' w hzr.info, hzr.size]
    rw [if_neg hnl]
    split
    · rename_i h0
      have : len = 0 := by
        rcases Nat.mul_eq_zero.1 h0 with h | h
        · exact h
        · exact absurd h hn0
      subst this
      simp only [zrep] at k1
      simp only [Sem.run_bind, Sem.run_pure, Result.andThen_ok, newRow, run_newObj, Nat.zero_mul, Array.toList_map]
      have hr0 : (Array.range 0).map (fun x => (#[] : Array Value)[x % (#[] : Array Value).size]!) = [].toArray := by simp
      rw [hr0, k1]
      rfl
    · simp only [Sem.run_bind, run_zeroValue' w hzr.info hzr.zero, Result.andThen_ok, Sem.run_pure, zeros zv.cells len _ (by rw [hzr.len]), Array.toList_map, k1, newRow, run_newObj]
      rfl
  · trivial
theorem s_buildA (hE : E.Ok P) (hr : HR E P B β h w) {t e n len : Nat} {z : List DV} (ht : E.und t = some (.array len e)) (hs : E.size e = some n) (hz : zero E t = some (.agg z))
    {X : Cx} {ev : Ev} {ρ : Operand → Value} (hX : ∀ x d, X x = some d → VR β (ev d) (ρ x)) {ps : Array (Nat × Operand)} {ds : List (Nat × Nat × DX)} (hp : cparts X (fun i => some (i * n, n)) ps.toList = some ds) :
    NV E P B β w h (oBuild z ds ev h) ((Instr.build t (ps.map fun p => (p.1, ρ p.2))).run P w) := by
  obtain ⟨i, zv, h1, h2, h3, -⟩ := hE.zero hz
  obtain ⟨zl, rfl, g1, g2⟩ := (h3 β).agg_inv
  refine NV.valO hr fun v hv => ?_
  cases hf : fills z (defs ev ds) with
  | none => rw [hf] at hv; cases hv
  | some cs =>
    rw [hf] at hv; cases hv
    obtain ⟨c2, k1, k2, k3⟩ := fill_run (parts_of hX (fun _ _ h => h) hp) g1 g2 hf
    refine ⟨.agg c2.toArray, ?_, .agg _ _ k2 k3⟩
    simp only [Instr.build, Sem.run_bind, run_zeroValue' w h1 h2, hE.run_und w ht, Result.andThen_ok, hE.run_size w hs, Value.cells, Array.toList_map, k1, Sem.run_pure]
theorem run_places (hE : E.Ok P) : ∀ (fs : List Field), (fs.any fun f => (E.size f.type).isNone) = false →
    ∃ ps : List (Nat × Nat), (fs.mapM (m := Sem) fun f => (do Pure.pure (f.offset, ← sizeOf f.type))).run P w = .ok ps w ∧ ∀ (i : Nat) (f : Field) (n : Nat), fs[i]? = some f → E.size f.type = some n → ps[i]? = some (f.offset, n)
  | [], _ => ⟨[], rfl, fun i f n h _ => by simp at h⟩
  | f :: fs, h => by
    simp only [List.any_cons, Bool.or_eq_false_iff] at h
    obtain ⟨ps, h1, h2⟩ := run_places hE fs h.2
    cases hs : E.size f.type with
    | none => rw [hs] at h; simp at h
    | some n =>
      refine ⟨(f.offset, n) :: ps, ?_, fun i f' n' hi hn => ?_⟩
      · simp only [List.mapM_cons, Sem.run_bind, hE.run_size w hs, Result.andThen_ok, Sem.run_pure, h1]
      · cases i with
        | zero => simp at hi; subst hi; rw [hs] at hn; cases hn; rfl
        | succ i => exact h2 i f' n' (by simpa using hi) hn
theorem s_buildS (hE : E.Ok P) (hr : HR E P B β h w) {t : Nat} {fs : Array Field} {z : List DV} (ht : E.und t = some (.struct fs)) (hz : zero E t = some (.agg z)) (hall : (fs.toList.any fun f => (E.size f.type).isNone) = false)
    {X : Cx} {ev : Ev} {ρ : Operand → Value} (hX : ∀ x d, X x = some d → VR β (ev d) (ρ x)) {ps : Array (Nat × Operand)} {ds : List (Nat × Nat × DX)}
    (hp : cparts X (fldPlace E fs) ps.toList = some ds) :
    NV E P B β w h (oBuild z ds ev h) ((Instr.build t (ps.map fun p => (p.1, ρ p.2))).run P w) := by
  obtain ⟨i, zv, h1, h2, h3, -⟩ := hE.zero hz
  obtain ⟨zl, rfl, g1, g2⟩ := (h3 β).agg_inv
  obtain ⟨pl, q1, q2⟩ := run_places (w := w) hE fs.toList hall
  refine NV.valO hr fun v hv => ?_
  cases hf : fills z (defs ev ds) with
  | none => rw [hf] at hv; cases hv
  | some cs =>
    rw [hf] at hv; cases hv
    have hpl : ∀ (i : Nat) (q : Nat × Nat), fldPlace E fs i = some q → (fun (i : Nat) => pl.toArray[i]?) i = some q := by
      intro i q hq
      unfold fldPlace at hq
      split at hq
      · rename_i f hfi
        split at hq
        · rename_i n hn
          cases hq
          simpa using q2 i f n hfi hn
        · cases hq
      · cases hq
    obtain ⟨c2, k1, k2, k3⟩ := fill_run (parts_of hX hpl hp) g1 g2 hf
    refine ⟨.agg c2.toArray, ?_, .agg _ _ k2 k3⟩
    have hm : (fs.mapM (m := Sem) fun f => (do Pure.pure (f.offset, ← sizeOf f.type))).run P w = .ok pl.toArray w := by
      rw [Array.mapM_eq_mapM_toList]
      simp only [Sem.run_map, q1, Result.andThen_ok]
    simp only [Instr.build, Sem.run_bind, run_zeroValue' w h1 h2, hE.run_und w ht, Result.andThen_ok, hm, Value.cells, Array.toList_map, k1, Sem.run_pure]

/-! ### Append -/
/-- an append that has room -/
theorem app_in {t u ty e sz : Nat} {d : TypeDesc} {ts : List Nat} (ht : P.underlying t = some (.slice e)) (hu : P.underlying u = some d) (hd : d = .string ∨ ∃ e', d = .slice e') {i : TypeInfo} (hi : P.info? e = some i) (hs : i.size = sz)
    {base : Option Addr} {sLen sCap n : Nat} {vx : Value} (hn : (Builtin.lenOf vx).run P w = .ok n w) {new : Array Value} (hf : (Builtin.firstCells sz n vx).run P w = .ok new w) (hle : sLen + n ≤ sCap) {w' : World}
    (hst : match base with | some a => (storeCells (a.add (sLen * sz)) new.toList).run P w = .ok () w' | none => w' = w) :
    (Builtin.append_ (t :: u :: ts).toArray ty #[.slice base sLen sCap, vx]).run P w = .ok (.slice base (sLen + n) sCap) w' := by
  have e0 : (t :: u :: ts).toArray[0]? = some t := by simp
  have e1 : (t :: u :: ts).toArray[1]? = some u := by simp
  rcases hd with rfl | ⟨e', rfl⟩
  all_goals
    simp only [Builtin.append_, e0, e1, List.getElem?_toArray, List.getElem?_cons_zero, List.getElem?_cons_succ, Sem.run_bind, run_underlying' w ht, run_underlying' w hu, Result.andThen_ok, run_sizeOf' w hi, hs, Sem.run_pure, Bool.false_eq_true, if_false, hn]
    rw [if_pos hle]
    simp only [Bool.not_false, if_true, Sem.run_bind, hf, Result.andThen_ok]
    cases base with
    | none => simp only at hst; subst hst; rfl
    | some a => simp only [Sem.run_bind, hst, Result.andThen_ok, Sem.run_pure]
/-- an append that has none -/
theorem app_grow {t u ty e sz by_ : Nat} {d : TypeDesc} {ts : List Nat} (ht : P.underlying t = some (.slice e)) (hu : P.underlying u = some d) (hd : d = .string ∨ ∃ e', d = .slice e') {i : TypeInfo} {zv : Value} (hi : P.info? e = some i) (hs : i.size = sz) (hb : i.bytes = by_) (hz : i.zero = some zv)
    {base : Option Addr} {sLen sCap n : Nat} {vx : Value} (hn : (Builtin.lenOf vx).run P w = .ok n w) {old new : Array Value} (ho : (Builtin.firstCells sz sLen (.slice base sLen sCap)).run P w.drew = .ok old w.drew) (hf : (Builtin.firstCells sz n vx).run P w.drew = .ok new w.drew)
    (hgt : sCap < sLen + n) (hroom : (sLen + n) * by_ ≤ 35184372088832) (hb0 : by_ ≠ 0) :
    ∃ sp, (Builtin.append_ (t :: u :: ts).toArray ty #[.slice base sLen sCap, vx]).run P w = .ok (.slice (some ⟨w.heap.size, 0, none⟩) (sLen + n) (sLen + n + sp)) (w.drew.alloc (.cells (old ++ new ++ (zrep sp zv.cells.toList).toArray) e)) := by
  refine ⟨Question.cut (.appendCap (sLen + n) sCap e) (w.tape w.drawn (.appendCap (sLen + n) sCap e)) - (sLen + n), ?_⟩
  have hcut : sLen + n ≤ Question.cut (.appendCap (sLen + n) sCap e) (w.tape w.drawn (.appendCap (sLen + n) sCap e)) := Nat.le_add_right _ _
  have hle : ¬ (sLen + n ≤ sCap) := by omega
  have hneed : sLen + n ≤ 35184372088832 := Nat.le_trans (Nat.le_mul_of_pos_right _ (Nat.pos_of_ne_zero hb0)) hroom
  have h63 : ¬ ((((sLen + n : Nat) : Int) > IntKind.i64.max) ∧ (False ∨ by_ = 0)) := fun h => h.2.elim id hb0
  have hfit := growslice_fits (need := sLen + n) (old := sCap) (bytes := by_) hgt (by omega)
  have hfit' : ¬ (Builtin.nextslicecap (sLen + n) sCap * by_ > 2 ^ 48) := by omega
  have e0 : (t :: u :: ts).toArray[0]? = some t := by simp
  have e1 : (t :: u :: ts).toArray[1]? = some u := by simp
  have hask : ∀ k, (askRoom k).run P w.drew = .ok () w.drew := fun k => run_askRoom P w.drew k
  rcases hd with rfl | ⟨e', rfl⟩
  all_goals
    simp only [Builtin.append_, e0, e1, List.getElem?_toArray, List.getElem?_cons_zero, List.getElem?_cons_succ, Sem.run_bind, run_underlying' w ht, run_underlying' w hu, Result.andThen_ok, run_sizeOf' w hi, hs, Sem.run_pure, Bool.false_eq_true, if_false, hn]
    rw [if_neg hle]
    simp only [Sem.run_bind, run_typeInfo' w hi, Result.andThen_ok, hb]
    rw [if_neg (by simpa using h63)]
    simp only [Sem.run_bind, run_typeInfo' w hi, Result.andThen_ok, hb]
    rw [if_neg hfit']
    simp only [Bool.not_false, if_true, Sem.run_bind, run_choose, Question.forced, Bool.false_eq_true, if_false, Result.andThen_ok, World.drew_eq, run_typeInfo' w.drew hi, hask, ho, hf, run_zeroValue' w.drew hi hz, newRow, run_newObj, Sem.run_pure, zeroCells_eq]
    rw [Nat.add_sub_cancel' hcut]
    rfl
theorem cellsOf_eq {e : Nat} {i : TypeInfo} (hi : P.info? e = some i) : P.cellsOf e = i.size := by simp [Program.cellsOf, hi]
theorem below_drew_alloc (hr : HR E P B β h w) (o : Go.Obj) : Below B.b w (w.drew.alloc o) := ((Below.refl B.b w).drew).alloc hr.base o
/-- a new row behind an append: 'old', 'new', and what is spare -/
theorem NV.grown (hr : HR E P B β h w) {e sz b n sp : Nat} {i : TypeInfo} {zv : Value} (hi : P.info? e = some i) (hs : i.size = sz) (hzl : zv.cells.size = sz)
    {cs : List DV} {c0 : List Value} (hc : VRs β cs c0) (hone : ∀ v ∈ c0, v.oneCell' = true) {r : Result Value}
    (hrun : r = .ok (.slice (some ⟨w.heap.size, 0, none⟩) n (n + sp)) (w.drew.alloc (.cells (c0 ++ zrep sp zv.cells.toList).toArray e))) : NV E P B β w h (vhO (newOpen h e b n cs)) r := by
  unfold newOpen
  cases hb : Nat.ble (n * b) room with
  | false => trivial
  | true =>
    simp only [cond_true, vhO]
    obtain ⟨k1, k2, k3⟩ := hr.row (w1 := w.drew.alloc (.cells (c0 ++ zrep sp zv.cells.toList).toArray e)) (e := e) (c := (c0 ++ zrep sp zv.cells.toList).toArray) rfl rfl rfl rfl hc hone rfl (sp := sp)
      (by rw [zrep_length, cellsOf_eq hi, hs]; simp [hzl])
    exact ⟨_, _, _, hrun, k1, by have := VR.sliceO (β := β.upd h.nx ⟨w.heap.size, 0, sp⟩) h.nx 0 n n _ (Bt.upd_self _ _ _); simpa using this, k2, k3⟩
theorem NV.kill {d : Nat} {n : N} {r : Result Value} (hk : NV E P B β w (h.kill d) n r) (hn : ∀ v h', n ≠ .panic v h') : NV E P B β w h n r := by
  cases n with
  | fail => trivial
  | val v h' => exact hk
  | panic v h' => exact absurd rfl (hn _ _)
  | call _ _ _ => exact hk
  | defer _ _ _ => exact hk
  | recover _ => exact hk
theorem vhO_not_panic (o : Option (DV × H)) : ∀ v h', vhO o ≠ .panic v h' := by
  intro v h'
  unfold vhO
  split <;> simp
/-- a slice that may be written on in place: there the old block goes, and a new one comes -/
theorem app_open (hr : HR E P B β h w) {t u ty e sz b : Nat} {dd : TypeDesc} {ts : List Nat} (ht : P.underlying t = some (.slice e)) (hu : P.underlying u = some dd) (hd : dd = .string ∨ ∃ e', dd = .slice e') {i : TypeInfo} {zv : Value} (hi : P.info? e = some i) (hs : i.size = sz) (hb : i.bytes = b) (hz : i.zero = some zv) (hzl : zv.cells.size = sz) (hb0 : b ≠ 0)
    {d off len cap m : Nat} {cs : List DV} {L : Loc} (hL : β d = some L) (hcs : h.get d = some (.cells cs e false)) (hlen : cs.length = off + cap * sz) {A : Addr} (hA : len + m ≤ cap + L.x → A = ⟨L.r, L.o + off, none⟩)
    {vx : Value} (hn : (Builtin.lenOf vx).run P w = .ok m w) {old new : List DV} {vold vnew : List Value} (ho1 : VRs β old vold) (ho2 : ∀ v ∈ vold, v.oneCell' = true) (ho3 : vold.length = len * sz) (ho4 : ∀ (i : Nat) v, old[i]? = some v → cs[off + i]? = some v)
    (ho5 : ∀ w' : World, w'.heap = w.heap → (Builtin.firstCells sz len (.slice (some A) len (cap + L.x))).run P w' = .ok vold.toArray w')
    (hn1 : VRs β new vnew) (hn2 : ∀ v ∈ vnew, v.oneCell' = true) (hn3 : vnew.length = m * sz) (hn5 : ∀ w' : World, w'.heap = w.heap → (Builtin.firstCells sz m vx).run P w' = .ok vnew.toArray w') :
    NV E P B β w h (vhO (newOpen (h.kill d) e b (len + m) (old ++ new))) ((Builtin.append_ (t :: u :: ts).toArray ty #[.slice (some A) len (cap + L.x), vx]).run P w) := by
  by_cases hfits : len + m ≤ cap + L.x
  · -- in place
    have hA := hA hfits
    subst hA
    unfold newOpen
    cases hbl : Nat.ble ((len + m) * b) room with
    | false => trivial
    | true =>
      simp only [cond_true, vhO]
      obtain ⟨⟨c, t, fz, h1, h2, h3⟩, h4, -⟩ := hr.obj d L _ hL hcs
      obtain ⟨te, g1, g2⟩ := h3 rfl; rw [te] at h1
      have hce : P.cellsOf e = sz := by rw [cellsOf_eq hi, hs]
      rw [hce] at g1 g2
      obtain ⟨x', hx'⟩ : ∃ x', cap + L.x = len + m + x' := ⟨cap + L.x - (len + m), by omega⟩
      have harith : cap * sz + L.x * sz = len * sz + m * sz + x' * sz := by rw [← Nat.add_mul, ← Nat.add_mul, ← Nat.add_mul, hx']
      obtain ⟨w', c', k1, k2, k3, k4⟩ := storeCells_run (P := P) vnew w L.r (L.o + off + len * sz) 0 c e fz h1 (by rw [hn3]; omega) (fun k k1 k2 => g2 k (by omega) (by rw [hn3] at k2; omega)) hn2
      have hrun := app_in (P := P) (ts := ts) (ty := ty) ht hu hd hi hs (base := some ⟨L.r, L.o + off, none⟩) (sLen := len) (sCap := cap + L.x) hn (hn5 w rfl) hfits (w' := w') (by simp only [addr_add]; exact k1)
      refine ⟨β.upd h.nx ⟨L.r, L.o + off, x'⟩, _, w', hrun, Bt.le_upd (hr.new h.nx (Nat.le_refl _)), ?_, ?_, k2.below (h4 rfl)⟩
      · have := VR.sliceO (β := β.upd h.nx ⟨L.r, L.o + off, x'⟩) h.nx 0 (len + m) (len + m) _ (Bt.upd_self _ _ _)
        rw [H.nx_kill]
        simp only [Nat.add_zero] at this
        rw [hx']
        exact this
      · refine hr.inPlace hL hcs h1 k2.blk k2.other k2.size k3 (o := off) (x := x') ?_ (fun k hk => ?_) (fun k v hk => ?_)
        · rw [hce, List.length_append, ho1.length, hn1.length, ho3, hn3]; omega
        · rw [k4 k, if_neg]; rw [hce] at hk; rw [hn3]; omega
        · rw [k4]
          have hol : old.length = len * sz := by rw [ho1.length, ho3]
          by_cases c1 : k < len * sz
          · rw [if_neg (by omega)]
            rw [List.getElem?_append_left (by omega)] at hk
            have := h2 (off + k) v (ho4 k v hk)
            rwa [← Nat.add_assoc] at this
          · rw [List.getElem?_append_right (by omega), hol] at hk
            have hk2 : k - len * sz < new.length := (List.getElem?_eq_some_iff.1 hk).1
            rw [hn1.length] at hk2
            rw [if_pos (by omega)]
            obtain ⟨v', q1, q2⟩ := hn1.get hk
            refine ⟨v', ?_, q2, hn2 v' (List.mem_of_getElem? q1)⟩
            rw [← q1]; congr 1; omega
  · -- a new block
    by_cases hroom : (len + m) * b ≤ 35184372088832
    · obtain ⟨sp, hrun⟩ := app_grow (P := P) (ts := ts) (ty := ty) ht hu hd hi hs hb hz (base := some A) (sLen := len) (sCap := cap + L.x) hn (ho5 w.drew rfl) (hn5 w.drew rfl) (by omega) hroom hb0
      refine NV.kill (d := d) ?_ (vhO_not_panic _)
      refine NV.grown (hr.kill d) hi hs hzl (c0 := vold ++ vnew) (ho1.append hn1) (fun v hv => ?_) (sp := sp) ?_
      · rcases List.mem_append.1 hv with hv | hv
        · exact ho2 v hv
        · exact hn2 v hv
      · rw [hrun]; simp
    · have : newOpen (h.kill d) e b (len + m) (old ++ new) = none := by
        unfold newOpen
        rw [ble_dec]
        have : ¬ ((len + m) * b ≤ room) := hroom
        simp only [this, decide_false, cond_false]
      rw [this]; trivial
end
end Go.Dm

namespace Go.Dm
open Go.RowKit (Below)

section
variable {E : Ti} {P : Program} {B : Bd} {β : Bt} {w : World} {h : H}
theorem isCells_inv {d e n : Nat} (hi : isCells h d e n = true) : ∃ cs, h.get d = some (.cells cs e false) ∧ cs.length = n := by
  unfold isCells at hi
  split at hi
  · rename_i cs e' hd
    rw [beq_dec, lenIs_eq] at hi
    simp at hi
    obtain ⟨rfl, h2⟩ := hi
    exact ⟨cs, hd, h2⟩
  · cases hi
theorem rdN_get {d off n : Nat} {l cs : List DV} {e : Nat} {ro : Bool} (hd : h.get d = some (.cells cs e ro)) (hr : rdN h d off n = some l) (i : Nat) (v : DV) (hv : l[i]? = some v) : cs[off + i]? = some v := by
  unfold rdN at hr
  rw [hd] at hr
  obtain ⟨-, rfl⟩ := lpart_some hr
  have hi : i < n := by
    have := (List.getElem?_eq_some_iff.1 hv).1
    simp at this; omega
  rw [List.getElem?_take_of_lt hi, List.getElem?_drop] at hv
  exact hv
theorem s_append (hE : E.Ok P) (hr : HR E P B β h w) {t u ty e n b : Nat} {dd : TypeDesc} {ts : List Nat} {z : DV} (ht : E.und t = some (.slice e)) (hu : E.und u = some dd) (hd : dd = .string ∨ ∃ e', dd = .slice e')
    (hs : E.size e = some n) (hb : E.bytes e = some b) (hz : zero E e = some z) (hn : n = z.cells.length) (hb0 : b ≠ 0)
    {s x : DX} {ev : Ev} {vs vx : Value} (hvs : VR β (ev s) vs) (hvx : VR β (ev x) vx) : NV E P B β w h (oAppend e n b s x ev h) ((Builtin.append_ (t :: u :: ts).toArray ty #[vs, vx]).run P w) := by
  obtain ⟨i, zv, hzr⟩ := hE.zeroR hz hs hn
  obtain ⟨j, g1, g2⟩ := hE.bytes hb
  rw [hzr.info] at g1; cases g1
  unfold oAppend
  generalize ev s = ds at hvs
  have hx0 := hvx
  generalize ev x = dx at hvx hx0
  unfold appendD
  split
  · rename_i m new hm hnew
    obtain ⟨vnew, n1, n2, n3, n4, n5⟩ := firstC_run (P := P) hr hx0 hm hnew
    have hlen := lenOf_run (P := P) (w := w) hx0 hm
    have hnil : m = 0 → vnew = [] := fun h0 => by
      subst h0; simp at n1; exact n1
    -- nothing is appended
    have nothing : ∀ (base : Option Addr) (sl sc : Nat) (d0 : DV), m = 0 → sl ≤ sc → VR β d0 (.slice base sl sc) → NV E P B β w h (.val d0 h) ((Builtin.append_ (t :: u :: ts).toArray ty #[.slice base sl sc, vx]).run P w) := by
      intro base sl sc d0 h0 hle hv0
      refine NV.pure hr hv0 ?_
      have := app_in (P := P) (ts := ts) (ty := ty) (hE.und ht) (hE.und hu) hd hzr.info hzr.size (base := base) (sLen := sl) (sCap := sc) hlen n4 (by omega) (w' := w)
        (by rw [hnil h0]; cases base <;> rfl)
      rw [h0] at this
      exact this
    split
    · rename_i op
      cases hvs with
      | sliceN =>
      rw [beq_dec]
      by_cases h0 : m = 0
      · simp only [h0, decide_true, cond_true, vhO]
        exact nothing none 0 0 _ h0 (Nat.le_refl _) (.sliceN _)
      · simp only [h0, decide_false, cond_false]
        by_cases hroom : m * b ≤ 35184372088832
        · obtain ⟨sp, hrun⟩ := app_grow (P := P) (ts := ts) (ty := ty) (hE.und ht) (hE.und hu) hd hzr.info hzr.size g2 hzr.zero (base := none) (sLen := 0) (sCap := 0) (old := #[]) hlen (by rfl) (n5 w.drew rfl) (by omega) (by simpa using hroom) hb0
          refine NV.grown hr hzr.info hzr.size hzr.len (c0 := vnew) n2 n3 (sp := sp) ?_
          rw [hrun]; simp
        · have : newOpen h e b m new = none := by
            unfold newOpen
            rw [ble_dec]
            have : ¬ (m * b ≤ room) := hroom
            simp only [this, decide_false, cond_false]
          rw [this]; trivial
    · rename_i d off len cap op
      rw [ble_dec]
      -- how the slice lies here
      obtain ⟨L, sc, hL, hvs', hsc⟩ : ∃ L sc, β d = some L ∧ vs = .slice (some ⟨L.r, L.o + off, none⟩) len sc ∧ sc = if op then cap + L.x else cap := by
        cases hvs with
        | sliceC _ _ _ _ L hL => exact ⟨L, _, hL, rfl, rfl⟩
        | sliceO _ _ _ _ L hL => exact ⟨L, _, hL, rfl, rfl⟩
      subst hvs'
      have hcsc : cap ≤ sc := by rw [hsc]; split <;> omega
      by_cases hin : len + m ≤ cap
      · simp only [hin, decide_true, cond_true]
        rw [beq_dec]
        by_cases h0 : m = 0
        · simp only [h0, decide_true, cond_true, vhO]
          exact nothing _ _ _ _ h0 (by omega) hvs
        · simp only [h0, decide_false, cond_false]
          unfold appIn
          split
          · rename_i h' hw
            simp only [vhO]
            obtain ⟨w', k1, k2, k3⟩ := writes (P := P) hr hL n2 n3 hw
            have := app_in (P := P) (ts := ts) (ty := ty) (hE.und ht) (hE.und hu) hd hzr.info hzr.size (base := some ⟨L.r, L.o + off, none⟩) (sLen := len) (sCap := sc) hlen n4 (by omega) (w' := w')
              (by simp only [addr_add, Nat.add_assoc]; exact k1)
            refine ⟨β, _, w', this, Bt.le.refl β, ?_, k2, k3⟩
            rw [hsc]
            cases op with
            | true => exact .sliceO d off (len + m) cap L hL
            | false => exact .sliceC d off (len + m) cap L hL
          · trivial
      · simp only [hin, decide_false, cond_false]
        rw [ble_dec]
        by_cases hlc : len ≤ cap
        · simp only [hlc, decide_true, cond_true]
          unfold appGrow
          split
          · rename_i old hold
            obtain ⟨vold, o1, o2, o3, o4⟩ := rdN_cells hr hL hold
            have o5 : ∀ (c' : Nat) (w' : World), w'.heap = w.heap → (Builtin.firstCells n len (.slice (some ⟨L.r, L.o + off, none⟩) len c')).run P w' = .ok vold.toArray w' :=
              fun c' w' hw' => run_firstCells_some w' n len _ len c' vold o1 (fun j v hj => by have := o4 j v hj; simpa [World.cell?, hw'] using this)
            cases op with
            | false =>
              simp only [Bool.false_eq_true, if_false] at hsc
              subst hsc
              by_cases hroom : (len + m) * b ≤ 35184372088832
              · obtain ⟨sp, hrun⟩ := app_grow (P := P) (ts := ts) (ty := ty) (hE.und ht) (hE.und hu) hd hzr.info hzr.size g2 hzr.zero (base := some ⟨L.r, L.o + off, none⟩) (sLen := len) (sCap := sc) hlen (o5 _ w.drew rfl) (n5 w.drew rfl) (by omega) hroom hb0
                refine NV.grown hr hzr.info hzr.size hzr.len (c0 := vold ++ vnew) (o2.append n2) (fun v hv => ?_) (sp := sp) ?_
                · rcases List.mem_append.1 hv with hv | hv
                  · exact o3 v hv
                  · exact n3 v hv
                · rw [hrun]; simp
              · have : newOpen h e b (len + m) (old ++ new) = none := by
                  unfold newOpen
                  rw [ble_dec]
                  have : ¬ ((len + m) * b ≤ room) := hroom
                  simp only [this, decide_false, cond_false]
                rw [this]; trivial
            | true =>
              simp only [if_true] at hsc
              subst hsc
              cases hic : isCells h d e (off + cap * n) with
              | false => trivial
              | true =>
                simp only [cond_true]
                obtain ⟨cs, c1, c2⟩ := isCells_inv hic
                exact app_open hr (hE.und ht) (hE.und hu) hd hzr.info hzr.size g2 hzr.zero hzr.len hb0 hL c1 c2 (fun _ => rfl) hlen o2 o3 o1 (fun i v hv => rdN_get c1 hold i v hv) (o5 _) n2 n3 n1 n5
          · trivial
        · simp only [hlc, decide_false, cond_false]; trivial
    · rename_i d off alt
      rw [beq_dec]
      by_cases h0 : m = 0
      · simp only [h0, decide_true, cond_true, vhO]
        cases hvs with
        | sliceZ _ _ _ L hL hx => exact nothing _ _ _ _ h0 (Nat.zero_le _) (.sliceZ d off alt L hL hx)
        | sliceZ0 _ _ _ L hL hx => exact nothing _ _ _ _ h0 (Nat.zero_le _) (.sliceZ0 d off alt L hL hx)
      · simp only [h0, decide_false, cond_false]
        cases hic : isCells h d e off with
        | false => trivial
        | true =>
          simp only [cond_true]
          obtain ⟨cs, c1, c2⟩ := isCells_inv hic
          have o5 : ∀ (a : Addr) (c' : Nat) (w' : World), w'.heap = w.heap → (Builtin.firstCells n 0 (.slice (some a) 0 c')).run P w' = .ok ([] : List Value).toArray w' :=
            fun a c' w' _ => run_firstCells_some w' n 0 _ 0 c' [] (by simp) (by simp)
          have key : ∀ L A, β d = some L → (m ≤ L.x → A = ⟨L.r, L.o + off, none⟩) →
              NV E P B β w h (vhO (newOpen (h.kill d) e b m new)) ((Builtin.append_ (t :: u :: ts).toArray ty #[.slice (some A) 0 L.x, vx]).run P w) := by
            intro L A hL hA
            have := app_open (ts := ts) (ty := ty) hr (hE.und ht) (hE.und hu) hd hzr.info hzr.size g2 hzr.zero hzr.len hb0 hL c1 (len := 0) (cap := 0) (m := m) (off := off) (A := A) (by rw [c2]; simp) (by simpa using hA) hlen (old := []) (vold := []) .nil (by simp) (by simp) (by simp) (by simpa using o5 A L.x) n2 n3 n1 n5
            simpa using this
          cases hvs with
          | sliceZ _ _ _ L hL hx => exact key L _ hL (fun _ => rfl)
          | sliceZ0 _ _ _ L hL hx =>
            have := key L (zAddr L off alt) hL (fun h => by omega)
            rw [hx] at this
            exact this
    · trivial
  · trivial

/-! ### Copy, clear -/
theorem s_copy (hE : E.Ok P) (hr : HR E P B β h w) {t ty e n : Nat} {ts : List Nat} (ht : E.und t = some (.slice e)) (hs : E.size e = some n) {d s : DX} {ev : Ev} {vd vs : Value} (hvd : VR β (ev d) vd) (hvs : VR β (ev s) vs) :
    NV E P B β w h (oCopy n d s ev h) ((Builtin.copy_ (t :: ts).toArray ty #[vd, vs]).run P w) := by
  unfold oCopy
  generalize ev d = dd at hvd
  generalize ev s = ds at hvs
  unfold copyD
  split
  · rename_i ls ld hls hld
    have hlen := lenOf_run (P := P) (w := w) hvs hls
    have hmin : (bif Nat.ble ls ld then ls else ld) = min ls ld := by
      rw [ble_dec]
      by_cases hc : ls ≤ ld
      · simp only [hc, decide_true, cond_true]; omega
      · simp only [hc, decide_false, cond_false]; omega
    rw [hmin]
    have e0 : (t :: ts).toArray[0]? = some t := by simp
    -- the copy, here
    have run : ∀ (base : Option Addr) (c' : Nat) (new : Array Value) (w' : World), vd = .slice base ld c' → (Builtin.firstCells n (min ls ld) vs).run P w = .ok new w →
        (match base with | some a => (storeCells a new.toList).run P w = .ok () w' | none => w' = w) → (Builtin.copy_ (t :: ts).toArray ty #[vd, vs]).run P w = .ok (.int .i64 (min ls ld : Nat)) w' := by
      rintro base c' new w' rfl hf hst
      simp only [Builtin.copy_, e0, List.getElem?_toArray, List.getElem?_cons_zero, List.getElem?_cons_succ, Sem.run_bind, hE.run_und w ht, Result.andThen_ok, hlen, hE.run_size w hs]
      have hmin : Nat.min ls ld = min ls ld := rfl
      rw [hmin]
      simp only [hf, Result.andThen_ok]
      cases base with
      | none => simp only at hst; subst hst; rfl
      | some a => simp only [Sem.run_bind, hst, Result.andThen_ok, Sem.run_pure, goInt]
    have hbase : ∃ base c', vd = .slice base ld c' := by
      revert hld
      cases hvd with
      | sliceN => intro hld; simp only [lenS, Option.some.injEq] at hld; subst hld; exact ⟨_, _, rfl⟩
      | sliceC => intro hld; simp only [lenS, Option.some.injEq] at hld; subst hld; exact ⟨_, _, rfl⟩
      | sliceO => intro hld; simp only [lenS, Option.some.injEq] at hld; subst hld; exact ⟨_, _, rfl⟩
      | sliceZ => intro hld; simp only [lenS, Option.some.injEq] at hld; subst hld; exact ⟨_, _, rfl⟩
      | sliceZ0 => intro hld; simp only [lenS, Option.some.injEq] at hld; subst hld; exact ⟨_, _, rfl⟩
      | _ => intro hld; simp only [lenS] at hld; cases hld
    unfold copyN
    rw [beq_dec]
    by_cases h0 : min ls ld = 0
    · simp only [h0, decide_true, cond_true, vhO]
      rw [h0] at run
      have hf0 : (Builtin.firstCells n 0 vs).run P w = .ok #[] w := by
        have key : ∀ a len cap, (Builtin.firstCells n 0 (.slice (some a) len cap)).run P w = .ok #[] w := fun a len cap => run_firstCells_some w n 0 a len cap [] (by simp) (by simp)
        revert hls
        cases hvs <;> intro hls <;> simp only [lenOf] at hls <;> first | (cases hls; done) | exact key _ _ _ | rfl | skip
        simp [Builtin.firstCells]
      obtain ⟨base, c', hb⟩ := hbase
      refine NV.pure hr (.int _ _) ?_
      have := run base c' #[] w hb hf0 (by cases base <;> rfl)
      simpa using this
    · simp only [h0, decide_false, cond_false]
      cases hnew : firstC h n (cutTo (min ls ld) ds) with
      | none => trivial
      | some new =>
        simp only
        unfold copyTo
        split
        · rename_i b off dl dc dop
          split
          · rename_i h' hw
            simp only [vhO]
            -- the cells
            have hcells : ∃ vnew : List Value, VRs β new vnew ∧ (∀ v ∈ vnew, v.oneCell' = true) ∧ (Builtin.firstCells n (min ls ld) vs).run P w = .ok vnew.toArray w := by
              have key : ∀ (vs' : Value), VR β (cutTo (min ls ld) ds) vs' → lenOf (cutTo (min ls ld) ds) = some (min ls ld) → (Builtin.firstCells n (min ls ld) vs' = Builtin.firstCells n (min ls ld) vs) →
                  ∃ vnew : List Value, VRs β new vnew ∧ (∀ v ∈ vnew, v.oneCell' = true) ∧ (Builtin.firstCells n (min ls ld) vs).run P w = .ok vnew.toArray w := by
                intro vs' k1 k2 k3
                obtain ⟨vnew, q1, q2, q3, q4, -⟩ := firstC_run (P := P) hr k1 k2 hnew
                exact ⟨vnew, q2, q3, by rw [← k3]; exact q4⟩
              revert hls key
              cases hvs with
              | sliceN => intro hls; simp only [lenOf, Option.some.injEq] at hls; subst hls; simp at h0
              | sliceZ => intro hls; simp only [lenOf, Option.some.injEq] at hls; subst hls; simp at h0
              | sliceZ0 => intro hls; simp only [lenOf, Option.some.injEq] at hls; subst hls; simp at h0
              | sliceC _ _ _ _ L hL => intro hls key; exact key _ (.sliceC _ _ _ _ L hL) rfl rfl
              | sliceO _ _ _ _ L hL => intro hls key; exact key _ (.sliceO _ _ _ _ L hL) rfl rfl
              | str s =>
                intro hls key
                simp only [lenOf, Option.some.injEq, List.length_map, Array.length_toList] at hls
                have hle : min ls ld ≤ s.size := by
                  have : s.size = s.data.size := rfl
                  omega
                refine key (.string (s.extract 0 (min ls ld))) ?_ ?_ ?_
                · have : (s.data.toList.map UInt8.toNat).take (min ls ld) = (s.extract 0 (min ls ld)).data.toList.map UInt8.toNat := by
                    rw [extract_toList]; simp [List.map_take]
                  simp only [cutTo]
                  rw [this]; exact .str _
                · simp only [cutTo, lenOf, List.length_take, List.length_map, Array.length_toList, Option.some.injEq]
                  have : s.size = s.data.size := rfl
                  omega
                · simp only [Builtin.firstCells]
                  have : (s.extract 0 (min ls ld)).extract 0 (min ls ld) = s.extract 0 (min ls ld) := by
                    rw [ByteArray.extract_extract]; congr 1; omega
                  rw [this]
              | _ => intro hls; simp only [lenOf] at hls; cases hls
            obtain ⟨vnew, q1, q2, q3⟩ := hcells
            obtain ⟨L, hL, c', hvd'⟩ : ∃ L, β b = some L ∧ ∃ c', vd = .slice (some ⟨L.r, L.o + off, none⟩) ld c' := by
              simp only [lenS, Option.some.injEq] at hld
              subst hld
              cases hvd with
              | sliceC _ _ _ _ L hL => exact ⟨L, hL, _, rfl⟩
              | sliceO _ _ _ _ L hL => exact ⟨L, hL, _, rfl⟩
            obtain ⟨w', k1, k2, k3⟩ := writes (P := P) hr hL q1 q2 hw
            exact ⟨β, _, w', run _ _ _ w' hvd' q3 k1, Bt.le.refl β, .int _ _, k2, k3⟩
          · trivial
        · trivial
  · trivial
theorem s_clear (hE : E.Ok P) (hr : HR E P B β h w) {t ty e n : Nat} {ts : List Nat} {z : DV} (ht : E.und t = some (.slice e)) (hs : E.size e = some n) (hz : zero E e = some z) (hn : n = z.cells.length) {x : DX} {ev : Ev} {vx : Value} (hvx : VR β (ev x) vx) :
    NV E P B β w h (oClear z.cells x ev h) ((Builtin.clear_ (t :: ts).toArray ty #[vx]).run P w) := by
  obtain ⟨i, zv, hzr⟩ := hE.zeroR hz hs hn
  have e0 : (t :: ts).toArray[0]? = some t := by simp
  unfold oClear
  generalize ev x = dx at hvx
  split
  · cases hvx
    refine NV.pure hr (VR.undef β) ?_
    simp only [Builtin.clear_, e0, List.getElem?_toArray, List.getElem?_cons_zero, Sem.run_bind, hE.run_und w ht, Result.andThen_ok, Sem.run_pure]
    rfl
  · have key : ∀ a c, (Builtin.clear_ (t :: ts).toArray ty #[.slice (some a) 0 c]).run P w = .ok undef w := by
      intro a c
      simp only [Builtin.clear_, e0, List.getElem?_toArray, List.getElem?_cons_zero, Sem.run_bind, hE.run_und w ht, Result.andThen_ok, Sem.run_pure]
      rfl
    cases hvx with
    | sliceZ => exact NV.pure hr (VR.undef β) (key _ _)
    | sliceZ0 => exact NV.pure hr (VR.undef β) (key _ _)
  · rename_i d off m cap op
    obtain ⟨L, c', hL, hvs'⟩ : ∃ L sc, β d = some L ∧ vx = .slice (some ⟨L.r, L.o + off, none⟩) m sc := by
      cases hvx with
      | sliceC _ _ _ _ L hL => exact ⟨L, _, hL, rfl⟩
      | sliceO _ _ _ _ L hL => exact ⟨L, _, hL, rfl⟩
    subst hvs'
    rw [beq_dec]
    by_cases h0 : m = 0
    · subst h0
      simp only [decide_true, cond_true]
      refine NV.pure hr (VR.undef β) ?_
      simp only [Builtin.clear_, e0, List.getElem?_toArray, List.getElem?_cons_zero, Sem.run_bind, hE.run_und w ht, Result.andThen_ok, Sem.run_pure]
      rfl
    · simp only [h0, decide_false, cond_false]
      unfold hO
      split
      · rename_i h' hw
        obtain ⟨w', k1, k2, k3⟩ := writes (P := P) hr hL (rep_vrs (hzr.vrs β) m) (zrep_one hzr.one m) hw
        refine ⟨β, undef, w', ?_, Bt.le.refl β, VR.undef β, k2, k3⟩
        obtain ⟨m, rfl⟩ := Nat.exists_eq_succ_of_ne_zero h0
        simp only [Builtin.clear_, e0, List.getElem?_toArray, List.getElem?_cons_zero, Sem.run_bind, hE.run_und w ht, Result.andThen_ok, run_zeroValue' w hzr.info hzr.zero, zeroCells_eq, k1, Sem.run_pure]
        rfl
      · trivial
  · trivial
end
end Go.Dm
