/- Who wins: what the law says, without the program. -/
import Derived.Test.YtbmcloahjiimeaaGreatDoorMuF
set_option linter.all false
namespace Go.Proofs.YtbmcloahjiimeaaGreatDoor.Dm
open Go Go.Dm
noncomputable section

theorem bitN_bit (n i : Nat) (hn : n < 64) : (bitN (n : Int)).testBit i = decide (n = i) := by rw [bitN_nat hn, Nat.testBit_two_pow]
theorem fold_bit2 (t : Nat) (l : List (Int × Int)) (i : Nat) : ∀ (x : List Nat) (o : Nat), (∀ n ∈ x, n < 64) → ((x.foldl (winStep t l) o).testBit i = true ↔ o.testBit i = true ∨ (i ∈ x ∧ beatenF t l (i : Int) = false))
  | [], o, _ => by simp
  | n :: x, o, hx => by
    rw [List.foldl_cons, fold_bit2 t l i x _ (fun m hm => hx m (List.mem_cons_of_mem _ hm))]
    have hn := hx n (List.mem_cons_self ..)
    unfold winStep
    by_cases hb : beatenF t l (n : Int) = true
    · rw [if_pos hb]
      constructor
      · rintro (h | ⟨h1, h2⟩)
        · exact .inl h
        · exact .inr ⟨List.mem_cons_of_mem _ h1, h2⟩
      · rintro (h | ⟨h1, h2⟩)
        · exact .inl h
        · rcases List.mem_cons.1 h1 with rfl | h1
          · rw [hb] at h2; cases h2
          · exact .inr ⟨h1, h2⟩
    · rw [if_neg hb, Nat.testBit_or, Bool.or_eq_true, bitN_bit n i hn, decide_eq_true_eq]
      constructor
      · rintro ((h | h) | ⟨h1, h2⟩)
        · exact .inl h
        · subst h; exact .inr ⟨List.mem_cons_self .., by simpa using hb⟩
        · exact .inr ⟨List.mem_cons_of_mem _ h1, h2⟩
      · rintro (h | ⟨h1, h2⟩)
        · exact .inl (.inl h)
        · rcases List.mem_cons.1 h1 with rfl | h1
          · exact .inl (.inr rfl)
          · exact .inr ⟨h1, h2⟩
theorem winF_bit (t : Nat) (l : List (Int × Int)) (i : Nat) : (winF t l).testBit i = true ↔ i < 64 ∧ t.testBit i = true ∧ beatenF t l (i : Int) = false := by
  unfold winF
  rw [fold_bit2 t l i _ _ (fun n hn => (listF_mem t n).1 hn |>.1), listF_mem]
  simp; constructor
  · rintro ⟨⟨h1, h2⟩, h3⟩; exact ⟨h1, h2, h3⟩
  · rintro ⟨h1, h2, h3⟩; exact ⟨⟨h1, h2⟩, h3⟩
theorem bit_lt {t i : Nat} (ht : t < 2 ^ 64) (h : t.testBit i = true) : i < 64 := by
  rcases Nat.lt_or_ge i 64 with h1 | h1
  · exact h1
  · have : t < 2 ^ i := Nat.lt_of_lt_of_le ht (Nat.pow_le_pow_right (by omega) h1)
    rw [Nat.testBit_lt_two_pow this] at h; cases h
theorem eq_of_bits {s t : Nat} (h : ∀ i, s.testBit i = true ↔ t.testBit i = true) : s = t := by
  apply Nat.eq_of_testBit_eq
  intro i
  rw [Bool.eq_iff_iff]; exact h i
theorem win_in (t : Nat) (l : List (Int × Int)) : inF (winF t l) t = true := by
  unfold inF
  rw [decide_eq_true_eq]
  apply eq_of_bits
  intro i
  rw [lessF_bit]
  simp
  intro h
  exact ((winF_bit t l i).1 h).2.1
theorem win_nil {t : Nat} (ht : t < 2 ^ 64) : winF t [] = t := by
  apply eq_of_bits
  intro i
  rw [winF_bit]
  constructor
  · rintro ⟨-, h, -⟩; exact h
  · intro h; exact ⟨bit_lt ht h, h, rfl⟩
theorem win_zero (l : List (Int × Int)) : winF 0 l = 0 := by unfold winF; rw [listF_zero]; rfl
theorem low_min {t : Nat} (h0 : t ≠ 0) (ht : t < 2 ^ 64) : t.testBit (lowF t) = true ∧ lowF t < 64 ∧ ∀ i, i < lowF t → t.testBit i = false := by
  obtain ⟨-, h2, h3, h4⟩ := low_spec 64 t (by omega) ht
  exact ⟨h2, h3, h4⟩
theorem beaten_false {t : Nat} {l : List (Int × Int)} {n : Nat} (h : ∀ p ∈ l, p.2 = (n : Int) → p.1 ≠ (n : Int) → hasF t p.1 = false) : beatenF t l (n : Int) = false := by
  unfold beatenF
  rw [List.any_eq_false]
  intro p hp
  by_cases c1 : p.2 = (n : Int)
  · by_cases c2 : p.1 = (n : Int)
    · simp [c2]
    · rw [h p hp c1 c2]; simp
  · simp [c1]
theorem win_first {t : Nat} {l : List (Int × Int)} (h0 : t ≠ 0) (ht : t < 2 ^ 64) (hl : ∀ p ∈ l, p.1 < p.2) : hasF (winF t l) (firstF t) = true := by
  obtain ⟨h1, h2, h3⟩ := low_min h0 ht
  rw [firstF_ne h0]
  unfold hasF
  simp only [Bool.and_eq_true, decide_eq_true_eq, Int.toNat_natCast]
  refine ⟨⟨by omega, by omega⟩, (winF_bit t l _).2 ⟨h2, h1, beaten_false fun p hp c1 c2 => ?_⟩⟩
  have := hl p hp
  unfold hasF
  by_cases c3 : 0 ≤ p.1
  · rw [h3 p.1.toNat (by omega)]; simp
  · simp [c3]
theorem win_one {n : Nat} (hn : n < 64) (l : List (Int × Int)) : winF (bitN (n : Int)) l = bitN (n : Int) := by
  apply eq_of_bits
  intro i
  rw [winF_bit, bitN_bit n i hn, decide_eq_true_eq]
  constructor
  · rintro ⟨-, h, -⟩; exact h
  · rintro rfl
    refine ⟨hn, rfl, beaten_false fun p hp c1 c2 => ?_⟩
    unfold hasF
    by_cases c3 : 0 ≤ p.1 ∧ p.1 < 64
    · rw [bitN_bit n _ hn]
      have : ¬ n = p.1.toNat := by omega
      simp [this]
    · simp only [Bool.and_eq_false_iff, decide_eq_false_iff_not]; left; omega
theorem win_single {t : Nat} (ht : t < 2 ^ 64) (l : List (Int × Int)) : winF (0 ||| bitN (firstF t)) l = (0 ||| bitN (firstF t)) := by
  rw [Nat.zero_or]
  by_cases h0 : t = 0
  · subst h0
    have : bitN (firstF 0) = 0 := by unfold firstF; rw [if_pos rfl, bitN_neg (by omega)]
    rw [this, win_zero]
  · rw [firstF_ne h0]; exact win_one (low_min h0 ht).2.1 l
end
end Go.Proofs.YtbmcloahjiimeaaGreatDoor.Dm
