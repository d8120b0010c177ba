/- A closed run, over the program's tables alone, is a run anywhere. What is read, as blocks that nobody writes. -/
import Derived.Test.YtbmcloahjiimeaaGreatDoorDmX2
set_option linter.all false
namespace Go.Dm
open Go.RowKit (Below)

/-- the blocks of a heap are tables of the program, and lie in another heap too -/
def Fit (E : Ti) (hc h : H) : Prop := (∀ g, E.glob g = true → g < hc.nx) ∧ ∀ d o, hc.get d = some o → ∃ cs e, o = .cells cs e true ∧ cs.all plain1 = true ∧ E.glob d = true ∧ ∃ e' ro, h.get d = some (.cells cs e' ro)
section
variable {E : Ti} {P : Program} {B : Bd} {β : Bt} {w : World} {h hc : H}
theorem HR.closed (hr : HR E P B β h w) (hf : Fit E hc h) : HR E P ⟨w.heap.size, fun _ => False⟩ (fun g => if E.glob g = true then some ⟨g, 0, 0⟩ else none) hc w := by
  obtain ⟨f1, f2⟩ := hf
  refine ⟨fun d L o h1 h2 => ?_, fun d hd => ?_, fun d d' L L' o o' _ h1 h2 h3 h4 h5 h6 => ?_, Nat.le_refl _, fun g hg => if_pos hg, fun d hd => hd.elim⟩
  · obtain ⟨cs, e, rfl, hp, hg, e', ro, hd⟩ := f2 d o h2
    simp only [hg, if_true] at h1; cases h1
    have ho := hr.obj d _ _ (hr.glob d hg) hd
    obtain ⟨⟨c, t, fz, a1, a2, a3⟩, a4, a5⟩ := ho
    exact ⟨⟨c, t, fz, a1, a2.plain hp, fun hf => (by cases hf)⟩, fun hf => (by cases hf), fun _ => (Array.getElem?_eq_some_iff.1 a1).1⟩
  · by_cases hg : E.glob d = true
    · have := f1 d hg; omega
    · simp [hg]
  · obtain ⟨cs, e, rfl, -⟩ := f2 d o h3
    cases h5
end
section
variable {E : Ti} {P : Program} {D D' : Env}
/-- a function without arguments, whose run over the tables is known -/
theorem Sound.closed (S0 : Sound E P D') (S : Sound E P D) {f : Nat} {g : Ext} {hc h2 : H} {n : Nat} {v0 : DV} (hrun : dex D' n (.call f []) fr0 hc = .fin (.ret v0) none h2) (hp : plain v0 = true)
    (hg0 : ∀ args h v h', g args h = some (v, h') → args = [] ∧ v = v0 ∧ h' = h ∧ Fit E hc h) : Sound E P (D.add f g) := by
  refine ⟨S.ti, S.mixed, S.fn, fun B i g' hg' args h v h' hgg β w args' hr ha => ?_⟩
  have hg' : (bif Nat.beq i f then some g else D.ext i) = some g' := hg'
  rw [beq_dec] at hg'
  by_cases hi : i = f
  · subst hi
    simp only [decide_true, cond_true] at hg'
    cases hg'
    obtain ⟨rfl, rfl, rfl, hfit⟩ := hg0 args h v h' hgg
    have hcl := hr.closed hfit
    have hall := dex_all (B := w.heap.size) S0.ti S0.mixed S0.fn (fun G => S0.ext ⟨w.heap.size, G⟩) n (fun _ => False)
    have hcall := fun (κ : Up) (hκ : κ.R (fun g => if E.glob g = true then some (⟨g, 0, 0⟩ : Loc) else none) fr0.rc) => hall.call i [] fr0 hc (.ret v) none h2 hrun _ w κ args' hcl (by cases ha; exact .nil) hκ
    refine .inr ⟨(hcall (.normal []) rfl).1 w, fun cs => ?_⟩
    obtain ⟨-, β2, w2, κ2, frX, f1, f2, f3, f4, f5, -⟩ := hcall (.normal cs) rfl
    obtain rfl := f1.up.normal
    obtain ⟨e1, e2, e3, fn, v', e4, e5, e6⟩ := f5
    exact ⟨β, w2, frX, Bt.le.refl β, f1.bl.mono hr.base, hr.world (fun k hk => f1.bl.block k hk) f1.bl.size, f4, e1, e2, e3, fn, v', e4, e5, plain_vr hp e6⟩
  · simp only [hi, decide_false, cond_false] at hg'
    exact S.ext B i g' hg' args h v h' hgg β w args' hr ha
end

/-! ### What comes in: blocks that nobody writes -/
section
variable {E : Ti} {P : Program} {B : Bd} {β : Bt} {w : World} {h : H}
/-- a block of the world below B is read as one more block -/
theorem HR.seen (hr : HR E P B β h w) {L : Loc} {cs : List DV} {t : Nat} (e : Nat) {c : Array Value} {fz : Nat × Nat} (hc : w.heap[L.r]? = some (.cells c t fz)) (hat : CellsAt β c L.o cs) (hlt : L.r < B.b) :
    HR E P B (β.upd h.nx L) (h.new (.cells cs e true)) w := by
  have hnew := hr.new h.nx (Nat.le_refl _)
  have hle : β.le (β.upd h.nx L) := Bt.le_upd hnew
  refine ⟨fun k M o h1 h2 => ?_, fun k hk => ?_, fun k k' M M' o o' hn h1 h2 h3 h4 h5 h6 => ?_, hr.base, fun g hg => hle _ _ (hr.glob g hg), fun k hk => ?_⟩
  · by_cases ek : k = h.nx
    · subst ek
      rw [Bt.upd_self] at h1; cases h1
      rw [H.get_new] at h2; cases h2
      exact ⟨⟨c, t, fz, hc, hat.mono hle, fun hf => (by cases hf)⟩, fun hf => (by cases hf), fun _ => hlt⟩
    · rw [Bt.upd_ne _ _ ek] at h1
      rw [H.get_new_ne _ _ ek] at h2
      exact (hr.obj k M o h1 h2).mono hle
  · rw [H.nx_new] at hk
    rw [Bt.upd_ne _ _ (by omega)]
    exact hr.new k (by omega)
  · by_cases ek : k = h.nx
    · subst ek
      rw [H.get_new] at h3; cases h3; cases h5
    · by_cases ek' : k' = h.nx
      · subst ek'
        rw [H.get_new] at h4; cases h4; cases h6
      · rw [Bt.upd_ne _ _ ek] at h1
        rw [Bt.upd_ne _ _ ek'] at h2
        rw [H.get_new_ne _ _ ek] at h3
        rw [H.get_new_ne _ _ ek'] at h4
        exact hr.apart k k' M M' o o' hn h1 h2 h3 h4 h5 h6
  · have := hr.ghost k hk
    rw [Bt.upd_ne _ _ (by omega), H.nx_new]; exact ⟨this.1, by omega⟩
/-- nothing is known of the world but where the program's variables lie -/
theorem HR.bare (E : Ti) (P : Program) (w : World) (n : Nat) (hn : ∀ g, E.glob g = true → g < n) : HR E P ⟨w.heap.size, fun _ => False⟩ (fun g => if E.glob g = true then some ⟨g, 0, 0⟩ else none) ⟨.e, n⟩ w := by
  refine ⟨fun d L o h1 h2 => ?_, fun d hd => ?_, fun d d' L L' o o' _ h1 h2 h3 h4 h5 h6 => ?_, Nat.le_refl _, fun g hg => if_pos hg, fun d hd => hd.elim⟩
  · have : (T.e : T Obj).get (bits d) = some o := h2
    rw [T.get_e] at this; cases this
  · by_cases hg : E.glob d = true
    · have := hn d hg
      have hd : n ≤ d := hd
      omega
    · simp [hg]
  · have : (T.e : T Obj).get (bits d) = some o := h3
    rw [T.get_e] at this; cases this
/-- a variable of the program is looked at -/
theorem HR.table (hr : HR E P B β h w) {g : Nat} (hg : E.glob g = true) {cs : List DV} {t : Nat} (e : Nat) {c : Array Value} {fz : Nat × Nat} (hc : w.heap[g]? = some (.cells c t fz)) (hat : CellsAt β c 0 cs) (hlt : g < B.b) (hlt2 : g < h.nx) :
    HR E P B β (h.put g (.cells cs e true)) w := by
  refine ⟨fun k M o h1 h2 => ?_, by rw [H.nx_put]; exact hr.new, fun k k' M M' o o' hn h1 h2 h3 h4 h5 h6 => ?_, hr.base, hr.glob, by rw [H.nx_put]; exact hr.ghost⟩
  · by_cases ek : k = g
    · subst ek
      rw [hr.glob k hg] at h1; cases h1
      rw [H.get_put] at h2; cases h2
      exact ⟨⟨c, t, fz, hc, hat, fun hf => (by cases hf)⟩, fun hf => (by cases hf), fun _ => hlt⟩
    · rw [H.get_put_ne _ _ ek] at h2
      exact hr.obj k M o h1 h2
  · by_cases ek : k = g
    · subst ek
      rw [H.get_put] at h3; cases h3; cases h5
    · by_cases ek' : k' = g
      · subst ek'
        rw [H.get_put] at h4; cases h4; cases h6
      · rw [H.get_put_ne _ _ ek] at h3
        rw [H.get_put_ne _ _ ek'] at h4
        exact hr.apart k k' M M' o o' hn h1 h2 h3 h4 h5 h6
end
end Go.Dm
