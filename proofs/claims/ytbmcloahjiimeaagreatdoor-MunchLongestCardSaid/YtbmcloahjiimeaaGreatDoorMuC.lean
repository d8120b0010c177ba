/- All numbers of a set, as a row. -/
import Derived.Test.YtbmcloahjiimeaaGreatDoorMuB
set_option linter.all false
namespace Go.Proofs.YtbmcloahjiimeaaGreatDoor.Dm
open Go Go.Dm
noncomputable section

def listW : Nat → Nat → Nat → List Nat
  | 0, _, _ => []
  | f + 1, b, s => if s % 2 = 1 then b :: listW f (b + 1) (s / 2) else listW f (b + 1) (s / 2)
def listF (s : Nat) : List Nat := listW 64 0 s
def clr (s : Nat) : Nat := s &&& (s - 1)
theorem clr_odd {s : Nat} (h : s % 2 = 1) : clr s % 2 = 0 ∧ clr s / 2 = s / 2 := by
  unfold clr
  have hmod : (s &&& (s - 1)) % 2 = 1 ↔ s % 2 = 1 ∧ (s - 1) % 2 = 1 := Nat.and_mod_two_eq_one
  refine ⟨?_, ?_⟩
  · have : ¬ (s &&& (s - 1)) % 2 = 1 := fun hh => by have := (hmod.1 hh).2; omega
    omega
  · rw [Nat.and_div_two, show (s - 1) / 2 = s / 2 by omega, Nat.and_self]
theorem clr_even {s : Nat} (h : ¬ s % 2 = 1) (h0 : s ≠ 0) : clr s % 2 = 0 ∧ clr s / 2 = clr (s / 2) := by
  unfold clr
  have hmod : (s &&& (s - 1)) % 2 = 1 ↔ s % 2 = 1 ∧ (s - 1) % 2 = 1 := Nat.and_mod_two_eq_one
  refine ⟨?_, ?_⟩
  · have : ¬ (s &&& (s - 1)) % 2 = 1 := fun hh => h (hmod.1 hh).1
    omega
  · rw [Nat.and_div_two, show (s - 1) / 2 = s / 2 - 1 by omega]
theorem listW_zero : ∀ f b, listW f b 0 = []
  | 0, _ => rfl
  | f + 1, b => by simp [listW, listW_zero f (b + 1)]
theorem listW_clr : ∀ f b s, s ≠ 0 → s < 2 ^ f → listW f b s = (b + lowG f s) :: listW f b (clr s)
  | 0, b, s, h0, h1 => by simp at h1; omega
  | f + 1, b, s, h0, h1 => by
    have hp : 2 ^ (f + 1) = 2 * 2 ^ f := by rw [Nat.pow_succ]; omega
    by_cases ho : s % 2 = 1
    · obtain ⟨c1, c2⟩ := clr_odd ho
      simp only [listW, lowG, ho, if_true, c1, c2, Nat.add_zero]
      simp
    · obtain ⟨c1, c2⟩ := clr_even ho h0
      simp only [listW, lowG, ho, if_false, c1, c2]
      rw [listW_clr f (b + 1) (s / 2) (by omega) (by omega)]
      simp; omega
theorem clr_lt {s n : Nat} (h : s < n) : clr s < n := Nat.lt_of_le_of_lt Nat.and_le_left h
theorem listF_zero : listF 0 = [] := listW_zero _ _
theorem listF_clr {s : Nat} (h0 : s ≠ 0) (h1 : s < 2 ^ 64) : listF s = lowF s :: listF (clr s) := by
  have := listW_clr 64 0 s h0 h1
  simpa [listF, lowF] using this
theorem listW_len : ∀ f b s, (listW f b s).length ≤ f
  | 0, _, _ => by simp [listW]
  | f + 1, b, s => by
    have := listW_len f (b + 1) (s / 2)
    simp only [listW]; split
    · simp; omega
    · omega
theorem listW_mem : ∀ f b s n, n ∈ listW f b s ↔ b ≤ n ∧ n < b + f ∧ s.testBit (n - b) = true
  | 0, b, s, n => by simp [listW]; omega
  | f + 1, b, s, n => by
    have ih := listW_mem f (b + 1) (s / 2) n
    have key : (n ∈ listW f (b + 1) (s / 2)) ↔ (b + 1 ≤ n ∧ n < b + 1 + f ∧ s.testBit (n - b) = true) := by
      rw [ih]
      constructor
      · rintro ⟨h1, h2, h3⟩
        refine ⟨h1, h2, ?_⟩
        rw [show n - b = (n - (b + 1)) + 1 by omega, Nat.testBit_succ]; exact h3
      · rintro ⟨h1, h2, h3⟩
        refine ⟨h1, h2, ?_⟩
        rw [show n - b = (n - (b + 1)) + 1 by omega, Nat.testBit_succ] at h3; exact h3
    simp only [listW]
    split
    · rename_i ho
      rw [List.mem_cons, key]
      constructor
      · rintro (rfl | ⟨h1, h2, h3⟩)
        · refine ⟨Nat.le_refl _, by omega, ?_⟩
          rw [Nat.sub_self, Nat.testBit_zero]; simpa using ho
        · exact ⟨by omega, by omega, h3⟩
      · rintro ⟨h1, h2, h3⟩
        by_cases e : n = b
        · exact .inl e
        · exact .inr ⟨by omega, by omega, h3⟩
    · rename_i ho
      rw [key]
      constructor
      · rintro ⟨h1, h2, h3⟩; exact ⟨by omega, by omega, h3⟩
      · rintro ⟨h1, h2, h3⟩
        refine ⟨?_, by omega, h3⟩
        by_cases e : n = b
        · subst e; rw [Nat.sub_self, Nat.testBit_zero] at h3; exact absurd (by simpa using h3) ho
        · omega
theorem listF_mem (s n : Nat) : n ∈ listF s ↔ n < 64 ∧ s.testBit n = true := by
  unfold listF; rw [listW_mem]; simp

/-! ### Rows of whole numbers -/
def ints (l : List Nat) : List DV := l.map fun (n : Nat) => DV.int .i64 (n : Int)
theorem ints_plain (l : List Nat) : (ints l).all plain1 = true := by simp [ints, plain1]
theorem ints_append (a b : List Nat) : ints (a ++ b) = ints a ++ ints b := by simp [ints]
theorem ints_len (l : List Nat) : (ints l).length = l.length := by simp [ints]
theorem ltake_all {α : Type} (l : List α) : ltake l.length l = some l := by rw [ltake_eq, if_pos (Nat.le_refl _), List.take_length]
theorem lpart_all {α : Type} (l : List α) : lpart l 0 l.length = some l := by rw [lpart_eq, if_pos (.inl (by omega))]; simp
end
end Go.Proofs.YtbmcloahjiimeaaGreatDoor.Dm
