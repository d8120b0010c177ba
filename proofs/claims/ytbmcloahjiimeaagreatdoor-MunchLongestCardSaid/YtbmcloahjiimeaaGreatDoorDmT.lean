/- All that a trie holds. -/
import Derived.Test.YtbmcloahjiimeaaGreatDoorDmPa
set_option linter.all false
namespace Go.Dm

def T.Ev {α : Type} (q : Nat → α → Prop) : Nat → Nat → T α → Prop
  | _, _, .e => True
  | b, w, .n v l r => (∀ x, v = some x → q b x) ∧ T.Ev q b (2 * w) l ∧ T.Ev q (b + w) (2 * w) r
def T.evB {α : Type} (q : Nat → α → Bool) : Nat → Nat → T α → Bool
  | _, _, .e => true
  | b, w, .n v l r => (match v with | some x => q b x | none => true) && T.evB q b (2 * w) l && T.evB q (b + w) (2 * w) r
theorem evN {α : Type} {q : Nat → α → Prop} {b : Nat} : ∀ x, (none : Option α) = some x → q b x := fun x h => by cases h
theorem evS {α : Type} {q : Nat → α → Prop} {b : Nat} {y : α} (h : q b y) : ∀ x, some y = some x → q b x := fun x e2 => by cases e2; exact h
theorem evNode {α : Type} {q : Nat → α → Prop} {b w : Nat} {v : Option α} {l r : T α} (w2 b2 : Nat) (hw : Nat.beq w2 (2 * w) = true) (hb : Nat.beq b2 (b + w) = true) (hv : ∀ x, v = some x → q b x) (hl : T.Ev q b w2 l) (hr : T.Ev q b2 w2 r) : T.Ev q b w (.n v l r) := by
  rw [Nat.eq_of_beq_eq_true hw] at hl hr
  rw [Nat.eq_of_beq_eq_true hb] at hr
  exact ⟨hv, hl, hr⟩
theorem T.Ev.get {α : Type} {q : Nat → α → Prop} : ∀ (p : Pth) (t : T α) (b w : Nat) (x : α), T.Ev q b w t → t.get p = some x → q (b + w * unbits p) x
  | [], t, b, w, x, h, hg => by
    cases t with
    | e => cases hg
    | n v l r =>
      have : v = some x := hg
      have := h.1 x this
      simpa [unbits] using this
  | c :: p, t, b, w, x, h, hg => by
    cases t with
    | e => rw [T.get_cons] at hg; exact absurd hg (by show (T.e : T α).get p ≠ some x; rw [T.get_e]; simp)
    | n v l r =>
      cases c with
      | false =>
        have hg : l.get p = some x := hg
        have := T.Ev.get p l b (2 * w) x h.2.1 hg
        have e : b + w * unbits (false :: p) = b + 2 * w * unbits p := by simp [unbits, Nat.mul_assoc, Nat.mul_left_comm]
        rw [e]; exact this
      | true =>
        have hg : r.get p = some x := hg
        have := T.Ev.get p r (b + w) (2 * w) x h.2.2 hg
        have e : b + w * unbits (true :: p) = b + w + 2 * w * unbits p := by simp [unbits, Nat.mul_add, Nat.mul_assoc, Nat.mul_left_comm, Nat.add_assoc]
        rw [e]; exact this
theorem T.Ev.at {α : Type} {q : Nat → α → Prop} {t : T α} (h : T.Ev q 0 1 t) {k : Nat} {x : α} (hg : t.get (bits k) = some x) : q k x := by
  have := T.Ev.get (bits k) t 0 1 x h hg
  rw [unbits_bits] at this
  simpa using this
theorem T.evB_ev {α : Type} {q : Nat → α → Bool} : ∀ (t : T α) (b w : Nat), T.evB q b w t = true → T.Ev (fun k x => q k x = true) b w t
  | .e, _, _, _ => trivial
  | .n v l r, b, w, h => by
    simp only [T.evB, Bool.and_eq_true] at h
    refine ⟨fun x hx => ?_, T.evB_ev l _ _ h.1.2, T.evB_ev r _ _ h.2⟩
    subst hx; exact h.1.1
theorem T.evB_at {α : Type} {q : Nat → α → Bool} {t : T α} (h : T.evB q 0 1 t = true) {k : Nat} {x : α} (hg : t.get (bits k) = some x) : q k x = true := (T.evB_ev t 0 1 h).at hg

theorem FnOk.ofC {E : Ti} {P : Program} {k : Nat} {fn : Func} {F : DFunc} (h : cfunc E fn = some F) (hf : P.funcs[k]? = some fn) (hn : (fn.name == "runtime.NumGoroutine") = false) : FnOk E P k F := by
  unfold cfunc at h
  split at h
  · rename_i c hb
    split at h
    · rename_i c' r h1 h2
      cases h
      exact ⟨fn, c, hf, hb, fun e => by rw [e] at hn; simp at hn, rfl, h1, h2⟩
    · cases h
  · cases h
end Go.Dm
