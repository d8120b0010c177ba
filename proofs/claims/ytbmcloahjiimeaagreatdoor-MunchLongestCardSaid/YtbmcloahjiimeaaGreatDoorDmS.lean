/- What becomes of the relation between the D-heap and the world, as blocks are made, written, dropped. -/
import Derived.Test.YtbmcloahjiimeaaGreatDoorDmR
set_option linter.all false
namespace Go.Dm
open Go.RowKit (Below)

section
variable {E : Ti} {P : Program} {B : Bd} {β β' : Bt} {w w' : World} {L : Loc}

theorem CellsAt.mono {c : Array Value} {o : Nat} {cs : List DV} (hb : β.le β') (h : CellsAt β c o cs) : CellsAt β' c o cs :=
  fun i v hv => let ⟨v', h1, h2, h3⟩ := h i v hv; ⟨v', h1, h2.mono hb, h3⟩
theorem EntsR.mono (hb : β.le β') : ∀ {l : List (DV × DV)} {es : List MapEntry}, EntsR β l es → EntsR β' l es
  | [], [], _ => trivial
  | _ :: _, _ :: _, ⟨⟨h1, h2⟩, h3⟩ => ⟨⟨h1.mono hb, h2.mono hb⟩, h3.mono hb⟩
  | [], _ :: _, h => h.elim
  | _ :: _, [], h => h.elim
theorem TmR.mono {n m : Nat} {tm : T DV} {tms : Array Value} (hb : β.le β') (h : TmR β n m tm tms) : TmR β' n m tm tms :=
  ⟨h.size, fun t ht => (h.get t ht).mono hb⟩
theorem ObjR.mono {o : Obj} (hb : β.le β') (h : ObjR E P B β w L o) : ObjR E P B β' w L o := by
  cases o with
  | cells cs e ro => obtain ⟨⟨c, t, fz, h1, h2, h3⟩, h4, h5⟩ := h; exact ⟨⟨c, t, fz, h1, h2.mono hb, h3⟩, h4, h5⟩
  | map es => obtain ⟨h0, es', clock, h1, h2⟩ := h; exact ⟨h0, es', clock, h1, h2.mono hb⟩
  | loop l =>
    obtain ⟨⟨q, m, h1, h2, h3, h4, h5, h6, h7, h8, h9, h10, D, h11, h12⟩, h0⟩ := h
    exact ⟨⟨q, m, h1, h2, h3, h4, h5, h6.mono hb, h7, h8, h9, h10, D, hb _ _ h11, h12⟩, h0⟩
  | dfr => exact h
theorem ObjR.world {o : Obj} (hw : w'.heap[L.r]? = w.heap[L.r]?) (h : ObjR E P B β w L o) : ObjR E P B β w' L o := by
  cases o with
  | cells cs e ro => obtain ⟨⟨c, t, fz, h1, h2, h3⟩, h4, h5⟩ := h; exact ⟨⟨c, t, fz, hw.trans h1, h2, h3⟩, h4, h5⟩
  | map es => obtain ⟨h0, es', clock, h1, h2⟩ := h; exact ⟨h0, es', clock, hw.trans h1, h2⟩
  | loop l => obtain ⟨⟨q, m, h1, h2⟩, h0⟩ := h; exact ⟨⟨q, m, hw.trans h1, h2⟩, h0⟩
  | dfr => exact ⟨h.1, hw.trans h.2⟩
theorem ObjR.lt {o : Obj} (h : ObjR E P B β w L o) : L.r < w.heap.size := by
  have key : ∀ {x : Go.Obj}, w.heap[L.r]? = some x → L.r < w.heap.size := fun hx => by
    obtain ⟨hh, _⟩ := Array.getElem?_eq_some_iff.1 hx; exact hh
  cases o with
  | cells cs e ro => obtain ⟨⟨c, t, fz, h1, _⟩, _⟩ := h; exact key h1
  | map es => obtain ⟨_, es', clock, h1, _⟩ := h; exact key h1
  | loop l => obtain ⟨⟨q, m, h1, _⟩, _⟩ := h; exact key h1
  | dfr => exact key h.2
theorem ObjR.own {o : Obj} (h : ObjR E P B β w L o) (hw : o.wr = true) : B.b ≤ L.r := by
  cases o with
  | cells cs e ro => exact BlkR.own h (by simpa [Obj.wr] using hw)
  | map es => exact h.1
  | loop l => exact LoopR.own h
  | dfr => exact h.1

def Bt.upd (β : Bt) (d : Nat) (L : Loc) : Bt := fun k => if k = d then some L else β k
theorem Bt.upd_self (β : Bt) (d : Nat) (L : Loc) : β.upd d L d = some L := by simp [Bt.upd]
theorem Bt.upd_ne (β : Bt) {d k : Nat} (L : Loc) (h : k ≠ d) : β.upd d L k = β k := by simp [Bt.upd, h]
theorem Bt.le_upd {β : Bt} {d : Nat} {L : Loc} (h : β d = none) : β.le (β.upd d L) := fun k M hk => by
  by_cases e : k = d
  · subst e; rw [h] at hk; cases hk
  · rw [Bt.upd_ne _ _ e]; exact hk

variable {h : H}
/-- the world has turned nowhere that the relation looks -/
theorem HR.world (hr : HR E P B β h w) (hw : ∀ k, k < w.heap.size → w'.heap[k]? = w.heap[k]?) (hs : w.heap.size ≤ w'.heap.size) : HR E P B β h w' :=
  ⟨fun d L o h1 h2 => (hr.obj d L o h1 h2).world (hw _ (hr.obj d L o h1 h2).lt), hr.new, hr.apart, Nat.le_trans hr.base hs, hr.glob, hr.ghost⟩
theorem HR.drew (hr : HR E P B β h w) : HR E P B β h w.drew := hr.world (fun _ _ => rfl) (Nat.le_refl _)
theorem HR.kill (hr : HR E P B β h w) (d : Nat) : HR E P B β (h.kill d) w := by
  have key : ∀ {k o}, (h.kill d).get k = some o → h.get k = some o := fun {k o} hk => by
    by_cases e : k = d
    · subst e; rw [H.get_kill] at hk; cases hk
    · rwa [H.get_kill_ne _ e] at hk
  exact ⟨fun k L o h1 h2 => hr.obj k L o h1 (key h2), by rw [H.nx_kill]; exact hr.new,
    fun k k' L L' o o' hn h1 h2 h3 h4 => hr.apart k k' L L' o o' hn h1 h2 (key h3) (key h4), hr.base, hr.glob, by rw [H.nx_kill]; exact hr.ghost⟩

/-- a block more, in the world too -/
theorem HR.alloc (hr : HR E P B β h w) {x : Go.Obj} {o : Obj} (sp : Nat) (hh : w'.heap = w.heap.push x)
    (ho : ObjR E P B (β.upd h.nx ⟨w.heap.size, 0, sp⟩) w' ⟨w.heap.size, 0, sp⟩ o) : HR E P B (β.upd h.nx ⟨w.heap.size, 0, sp⟩) (h.new o) w' := by
  have hold : ∀ k, k < w.heap.size → w'.heap[k]? = w.heap[k]? := fun k hk => by
    rw [hh, Array.getElem?_push, if_neg (by omega)]
  have hnx := hr.new h.nx (Nat.le_refl _)
  have hle : β.le (β.upd h.nx ⟨w.heap.size, 0, sp⟩) := Bt.le_upd hnx
  refine ⟨fun d L o' h1 h2 => ?_, fun d hd => ?_, fun d d' L L' o1 o2 hn h1 h2 h3 h4 h5 h6 => ?_, ?_, fun g hg => hle _ _ (hr.glob g hg), fun d hd => (by have := hr.ghost d hd; rw [Bt.upd_ne _ _ (by omega), H.nx_new]; exact ⟨this.1, by omega⟩)⟩
  · by_cases e : d = h.nx
    · subst e
      rw [Bt.upd_self] at h1; cases h1
      rw [H.get_new] at h2; cases h2
      exact ho
    · rw [Bt.upd_ne _ _ e] at h1
      rw [H.get_new_ne _ _ e] at h2
      have := hr.obj d L o' h1 h2
      exact (this.world (hold _ this.lt)).mono hle
  · rw [H.nx_new] at hd
    rw [Bt.upd_ne _ _ (by omega)]
    exact hr.new d (by omega)
  · by_cases e : d = h.nx
    · subst e
      rw [Bt.upd_self] at h1; cases h1
      have e' : d' ≠ h.nx := fun e => hn e.symm
      rw [Bt.upd_ne _ _ e'] at h2
      rw [H.get_new_ne _ _ e'] at h4
      intro hrr
      have := (hr.obj d' L' o2 h2 h4).lt
      simp at hrr; omega
    · rw [Bt.upd_ne _ _ e] at h1
      rw [H.get_new_ne _ _ e] at h3
      by_cases e' : d' = h.nx
      · subst e'
        rw [Bt.upd_self] at h2; cases h2
        intro hrr
        have := (hr.obj d L o1 h1 h3).lt
        simp at hrr; omega
      · rw [Bt.upd_ne _ _ e'] at h2
        rw [H.get_new_ne _ _ e'] at h4
        exact hr.apart d d' L L' o1 o2 hn h1 h2 h3 h4 h5 h6
  · rw [hh]; simp; exact Nat.le_trans hr.base (by omega)

/-- cells of a block of its own are written -/
theorem HR.write (hr : HR E P B β h w) {d e : Nat} {cs cs' : List DV} {L : Loc} (hL : β d = some L) (hd : h.get d = some (.cells cs e false)) {c c' : Array Value} {fz : Nat × Nat}
    (hc : w.heap[L.r]? = some (.cells c e fz)) (hc' : w'.heap[L.r]? = some (.cells c' e fz)) (hother : ∀ k, k ≠ L.r → w'.heap[k]? = w.heap[k]?) (hsz : w'.heap.size = w.heap.size)
    (hcs : c'.size = c.size) (hlen : cs'.length = cs.length) (hout : ∀ i, ¬ (L.o ≤ i ∧ i < L.o + cs.length) → c'[i]? = c[i]?) (hat : CellsAt β c' L.o cs') : HR E P B β (h.put d (.cells cs' e false)) w' := by
  have hme := hr.obj d L _ hL hd
  refine ⟨fun k M o h1 h2 => ?_, by rw [H.nx_put]; exact hr.new, fun k k' M M' o o' hn h1 h2 h3 h4 h5 h6 => ?_, by rw [hsz]; exact hr.base, hr.glob, by rw [H.nx_put]; exact hr.ghost⟩
  · by_cases ek : k = d
    · subst ek
      rw [H.get_put] at h2; cases h2
      rw [hL] at h1; cases h1
      obtain ⟨⟨c0, t0, fz0, g1, g2, g3⟩, g4, g5⟩ := hme
      rw [hc] at g1; cases g1
      exact ⟨⟨c', e, fz, hc', hat, fun hf => by rw [hlen, hcs]; exact g3 hf⟩, g4, g5⟩
    · rw [H.get_put_ne _ _ ek] at h2
      have hk := hr.obj k M o h1 h2
      by_cases er : M.r = L.r
      · -- the same real block: it lies apart, or it is one that nobody writes
        cases hwr : o.wr with
        | false =>
          cases o with
          | cells cs2 e2 ro =>
            have hro : ro = true := by simpa [Obj.wr] using hwr
            have h7 : M.r < B.b := BlkR.low hk hro
            have h8 : B.b ≤ L.r := ObjR.own hme rfl
            omega
          | map _ => cases hwr
          | loop _ => cases hwr
          | dfr => cases hwr
        | true =>
          obtain ⟨⟨a2, e2, b2, ho⟩, -, hap⟩ := hr.apart k d M L o _ ek h1 hL h2 hd hwr rfl er
          subst ho
          obtain ⟨⟨c0, t0, fz0, g1, g2, g3⟩, g4, g5⟩ := hk
          rw [er, hc] at g1
          cases g1
          refine ⟨⟨c', e, fz, by rw [er]; exact hc', fun i v hv => ?_, fun hf => by rw [hcs]; exact g3 hf⟩, g4, g5⟩
          have hi : i < a2.length := (List.getElem?_eq_some_iff.1 hv).1
          rw [hout (M.o + i) (by simp only [Obj.len] at hap; omega)]
          exact g2 i v hv
      · exact hk.world (hother _ er)
  · have key : ∀ {k o}, (h.put d (.cells cs' e false)).get k = some o → ∃ o2, h.get k = some o2 ∧ o2.wr = o.wr ∧ (∀ M, o2.len P M = o.len P M) ∧ ((∃ a e b, o2 = .cells a e b) → ∃ a e b, o = .cells a e b) := fun {k o} hk => by
      by_cases ek : k = d
      · subst ek
        rw [H.get_put] at hk; cases hk
        exact ⟨_, hd, rfl, fun M => by simp [Obj.len, hlen], fun _ => ⟨_, _, _, rfl⟩⟩
      · rw [H.get_put_ne _ _ ek] at hk; exact ⟨o, hk, rfl, fun _ => rfl, id⟩
    obtain ⟨p, p1, p2, p3, p4⟩ := key h3
    obtain ⟨q, q1, q2, q3, q4⟩ := key h4
    intro hrr
    obtain ⟨r1, r2, r3⟩ := hr.apart k k' M M' p q hn h1 h2 p1 q1 (p2.trans h5) (q2.trans h6) hrr
    exact ⟨p4 r1, q4 r2, by rw [← p3, ← q3]; exact r3⟩

/-- an object of another kind is put in the place of one of its kind -/
theorem HR.putObj (hr : HR E P B β h w) {d : Nat} {o o' : Obj} {L : Loc} (hL : β d = some L) (hd : h.get d = some o) (hwr : o.wr = true) (hcell : ∀ a e b, o ≠ .cells a e b)
    (hother : ∀ k, k ≠ L.r → w'.heap[k]? = w.heap[k]?) (hsz : w'.heap.size = w.heap.size)
    (ho : ObjR E P B β w' L o') : HR E P B β (h.put d o') w' := by
  refine ⟨fun k M q h1 h2 => ?_, by rw [H.nx_put]; exact hr.new, fun k k' M M' p q hn h1 h2 h3 h4 h5 h6 => ?_, by rw [hsz]; exact hr.base, hr.glob, by rw [H.nx_put]; exact hr.ghost⟩
  · by_cases ek : k = d
    · subst ek
      rw [H.get_put] at h2; cases h2
      rw [hL] at h1; cases h1
      exact ho
    · rw [H.get_put_ne _ _ ek] at h2
      have hk := hr.obj k M q h1 h2
      by_cases er : M.r = L.r
      · cases hq : q.wr with
        | false =>
          cases q with
          | cells cs2 e2 ro =>
            have hro : ro = true := by simpa [Obj.wr] using hq
            have h7 : M.r < B.b := BlkR.low hk hro
            have h8 : B.b ≤ L.r := ObjR.own (hr.obj d L o hL hd) hwr
            omega
          | map _ => cases hq
          | loop _ => cases hq
          | dfr => cases hq
        | true =>
          obtain ⟨-, ⟨a2, e2, b2, hoo⟩, -⟩ := hr.apart k d M L q _ ek h1 hL h2 hd hq hwr er
          exact absurd hoo (hcell _ _ _)
      · exact hk.world (hother _ er)
  · by_cases ek : k = d
    · subst ek
      have ek' : k' ≠ k := fun e => hn e.symm
      rw [H.get_put_ne _ _ ek'] at h4
      rw [hL] at h1; cases h1
      intro hrr
      obtain ⟨⟨a, e, b, hoo⟩, -⟩ := hr.apart k k' L M' o q hn hL h2 hd h4 hwr h6 hrr
      exact absurd hoo (hcell _ _ _)
    · rw [H.get_put_ne _ _ ek] at h3
      by_cases ek' : k' = d
      · subst ek'
        rw [hL] at h2; cases h2
        intro hrr
        obtain ⟨-, ⟨a, e, b, hoo⟩, -⟩ := hr.apart k k' M L p o ek h1 hL h3 hd h5 hwr hrr
        exact absurd hoo (hcell _ _ _)
      · rw [H.get_put_ne _ _ ek'] at h4
        exact hr.apart k k' M M' p q hn h1 h2 h3 h4 h5 h6

/-- what a growing append makes of a block that may be written on in place: the old one is gone, a new one lies where it lay -/
theorem HR.inPlace (hr : HR E P B β h w) {d e : Nat} {cs cs' : List DV} {L : Loc} (hL : β d = some L) (hd : h.get d = some (.cells cs e false)) {c c' : Array Value} {fz : Nat × Nat} {o x : Nat}
    (hc : w.heap[L.r]? = some (.cells c e fz)) (hc' : w'.heap[L.r]? = some (.cells c' e fz)) (hother : ∀ k, k ≠ L.r → w'.heap[k]? = w.heap[k]?) (hsz : w'.heap.size = w.heap.size)
    (hcs : c'.size = c.size) (hin : cs'.length + x * P.cellsOf e + o = cs.length + L.x * P.cellsOf e) (hout : ∀ i, ¬ (L.o + o ≤ i ∧ i < L.o + cs.length + L.x * P.cellsOf e) → c'[i]? = c[i]?)
    (hat : CellsAt β c' (L.o + o) cs') :
    HR E P B (β.upd h.nx ⟨L.r, L.o + o, x⟩) ((h.kill d).new (.cells cs' e false)) w' := by
  have hme := hr.obj d L _ hL hd
  have hnx := hr.new h.nx (Nat.le_refl _)
  have hle : β.le (β.upd h.nx ⟨L.r, L.o + o, x⟩) := Bt.le_upd hnx
  have hdn : d ≠ h.nx := fun e => by subst e; rw [hnx] at hL; cases hL
  obtain ⟨⟨c0, t0, fz0, m1, m2, m3⟩, m4, m5⟩ := hme
  rw [hc] at m1; cases m1
  have hkn : (h.kill d).nx = h.nx := H.nx_kill _ _
  have hget : ∀ {k o2}, k ≠ h.nx → ((h.kill d).new (.cells cs' e false)).get k = some o2 → k ≠ d ∧ h.get k = some o2 := fun {k o2} hk hk2 => by
    rw [H.get_new_ne _ _ (by rw [hkn]; exact hk)] at hk2
    by_cases ek : k = d
    · subst ek; rw [H.get_kill] at hk2; cases hk2
    · rw [H.get_kill_ne _ ek] at hk2; exact ⟨ek, hk2⟩
  have hget0 : ((h.kill d).new (.cells cs' e false)).get h.nx = some (.cells cs' e false) := by rw [← hkn]; exact H.get_new _ _
  -- what lies apart from the old one lies apart from the new one
  have hap : ∀ {k M q}, k ≠ d → β k = some M → h.get k = some q → q.wr = true → M.r = L.r →
      (∃ a2 e2 b2, q = .cells a2 e2 b2) ∧ (M.o + q.len P M ≤ L.o + o ∨ L.o + cs.length + L.x * P.cellsOf e ≤ M.o) := fun {k M q} ek h1 h2 hq er => by
    obtain ⟨h7, -, h8⟩ := hr.apart k d M L q _ ek h1 hL h2 hd hq rfl er
    exact ⟨h7, by simp only [Obj.len] at h8 ⊢; omega⟩
  refine ⟨fun k M q h1 h2 => ?_, fun k hk => ?_, fun k k' M M' p q hn h1 h2 h3 h4 h5 h6 => ?_, by rw [hsz]; exact hr.base, fun g hg => hle _ _ (hr.glob g hg), fun k hk => (by have := hr.ghost k hk; rw [Bt.upd_ne _ _ (by omega), H.nx_new, hkn]; exact ⟨this.1, by omega⟩)⟩
  · by_cases ek : k = h.nx
    · subst ek
      rw [Bt.upd_self] at h1; cases h1
      rw [hget0] at h2; cases h2
      refine ⟨⟨c', e, fz, hc', hat.mono hle, fun hf => ?_⟩, fun _ => m4 rfl, fun hf => by cases hf⟩
      obtain ⟨-, g1, g2⟩ := m3 rfl
      simp only
      exact ⟨trivial, by omega, fun i hi1 hi2 => g2 i (by omega) (by omega)⟩
    · rw [Bt.upd_ne _ _ ek] at h1
      obtain ⟨ed, h2⟩ := hget ek h2
      have hk := hr.obj k M q h1 h2
      refine ObjR.mono hle ?_
      by_cases er : M.r = L.r
      · cases hq : q.wr with
        | false =>
          cases q with
          | cells cs2 e2 ro =>
            have hro : ro = true := by simpa [Obj.wr] using hq
            have h7 : M.r < B.b := BlkR.low hk hro
            have h8 : B.b ≤ L.r := m4 rfl
            omega
          | map _ => cases hq
          | loop _ => cases hq
          | dfr => cases hq
        | true =>
          obtain ⟨⟨a2, e2, b2, ho⟩, hap⟩ := hap ed h1 h2 hq er
          subst ho
          obtain ⟨⟨c0, t0, fz0, g1, g2, g3⟩, g4, g5⟩ := hk
          rw [er, hc] at g1
          cases g1
          refine ⟨⟨c', e, fz, by rw [er]; exact hc', fun i v hv => ?_, fun hf => by rw [hcs]; exact g3 hf⟩, g4, g5⟩
          have hi : i < a2.length := (List.getElem?_eq_some_iff.1 hv).1
          rw [hout (M.o + i) (by simp only [Obj.len] at hap; omega)]
          exact g2 i v hv
      · exact hk.world (hother _ er)
  · rw [H.nx_new, hkn] at hk
    rw [Bt.upd_ne _ _ (by omega)]
    exact hr.new k (by omega)
  · by_cases ek : k = h.nx
    · subst ek
      rw [Bt.upd_self] at h1; cases h1
      rw [hget0] at h3; cases h3
      have ek' : k' ≠ h.nx := fun e => hn e.symm
      rw [Bt.upd_ne _ _ ek'] at h2
      obtain ⟨ed', h4⟩ := hget ek' h4
      intro hrr
      obtain ⟨g1, g2⟩ := hap ed' h2 h4 h6 hrr.symm
      exact ⟨⟨_, _, _, rfl⟩, g1, by simp only [Obj.len] at g2 ⊢; omega⟩
    · rw [Bt.upd_ne _ _ ek] at h1
      obtain ⟨ed, h3⟩ := hget ek h3
      by_cases ek' : k' = h.nx
      · subst ek'
        rw [Bt.upd_self] at h2; cases h2
        rw [hget0] at h4; cases h4
        intro hrr
        obtain ⟨g1, g2⟩ := hap ed h1 h3 h5 hrr
        exact ⟨g1, ⟨_, _, _, rfl⟩, by simp only [Obj.len] at g2 ⊢; omega⟩
      · rw [Bt.upd_ne _ _ ek'] at h2
        obtain ⟨ed', h4⟩ := hget ek' h4
        exact hr.apart k k' M M' p q hn h1 h2 h3 h4 h5 h6
end
end Go.Dm
