/- Sets of small numbers: what the program's functions over them answer. -/
import Derived.Test.YtbmcloahjiimeaaGreatDoorMuT
import Derived.Test.YtbmcloahjiimeaaGreatDoorDmX4
set_option linter.all false
namespace Go.Proofs.YtbmcloahjiimeaaGreatDoor.Dm
open Go Go.Dm
noncomputable section

/-! ### Numbers -/
def bitN (n : Int) : Nat := if 0 ≤ n ∧ n < 64 then 2 ^ n.toNat else 0
theorem bitN_neg {n : Int} (h : n < 0) : bitN n = 0 := by unfold bitN; rw [if_neg (by omega)]
theorem bitN_big {n : Int} (h : 64 ≤ n) : bitN n = 0 := by unfold bitN; rw [if_neg (by omega)]
theorem bitN_nat {m : Nat} (h : m < 64) : bitN (m : Int) = 2 ^ m := by unfold bitN; rw [if_pos (by omega)]; rfl
theorem bitN_le (n : Int) : bitN n ≤ maxN .u64 := by
  unfold bitN; split
  · have : 2 ^ n.toNat ≤ 2 ^ 63 := Nat.pow_le_pow_right (by omega) (by omega)
    simp only [maxN]; omega
  · simp
def hasF (s : Nat) (n : Int) : Bool := decide (0 ≤ n) && decide (n < 64) && s.testBit n.toNat
theorem and_two_pow (s m : Nat) : (s &&& 2 ^ m ≠ 0) ↔ s.testBit m = true := by
  rw [Nat.testBit_eq_decide_div_mod_eq, decide_eq_true_eq]
  have h : s &&& 2 ^ m = (if s.testBit m then 2 ^ m else 0) := by
    apply Nat.eq_of_testBit_eq
    intro i
    rw [Nat.testBit_and, Nat.testBit_two_pow]
    by_cases e : m = i
    · subst e; cases hs : s.testBit m <;> simp
    · have : ∀ b : Bool, (if b then 2 ^ m else 0).testBit i = (b && decide (m = i)) := by intro b; cases b <;> simp [Nat.testBit_two_pow]
      rw [this]; simp [e]
  rw [h, Nat.testBit_eq_decide_div_mod_eq]
  have := Nat.two_pow_pos m
  by_cases e : s / 2 ^ m % 2 = 1
  · simp [e]
  · simp [e]
theorem hasF_and (s : Nat) (n : Int) : hasF s n = !decide (((s &&& bitN n : Nat) : Int) = 0) := by
  rw [Bool.eq_iff_iff]
  unfold hasF
  simp only [Bool.and_eq_true, decide_eq_true_eq, Bool.not_eq_true', decide_eq_false_iff_not]
  by_cases h : 0 ≤ n ∧ n < 64
  · obtain ⟨m, rfl⟩ : ∃ m : Nat, n = m := ⟨n.toNat, by omega⟩
    rw [bitN_nat (by omega)]
    have := and_two_pow s m
    simp only [Int.toNat_natCast]
    rw [← this]
    omega
  · have : bitN n = 0 := by unfold bitN; rw [if_neg h]
    rw [this]; simp; omega
theorem le64 {s : Nat} (h : s < 2 ^ 64) : s ≤ maxN .u64 := by simp only [maxN]; omega
theorem and_lt {a b : Nat} (h : a < 2 ^ 64) : a &&& b < 2 ^ 64 := Nat.lt_of_le_of_lt Nat.and_le_left h
theorem or_lt {a b : Nat} (h : a < 2 ^ 64) (h2 : b < 2 ^ 64) : a ||| b < 2 ^ 64 := Nat.or_lt_two_pow h h2
theorem bitN_lt (n : Int) : bitN n < 2 ^ 64 := by have := bitN_le n; simp only [maxN] at this; omega
theorem shl_one {m : Nat} (hm : m < 64) : bin .shl (.int .u64 1) (.int .i64 (m : Int)) = some (.int .u64 ((2 ^ m : Nat) : Int)) := by
  have := bin_shl .u64 .i64 1 m
  rw [show ((1 : Nat) : Int) = 1 from rfl] at this
  rw [this, Nat.min_eq_left (by show m ≤ 64; omega), Nat.one_shiftLeft]
  have : 2 ^ m ≤ 2 ^ 63 := Nat.pow_le_pow_right (by omega) (by omega)
  generalize 2 ^ m = x at *
  rw [wrap_u64 (by omega) (by omega)]

/-! ### The functions' contracts -/
abbrev Ext1 := List DV → Option DV
def ext1 (g : Ext1) : Ext := fun args h => match g args with
  | some v => some (v, h)
  | none => none
theorem ext1_inv {g : Ext1} {args : List DV} {h h' : H} {v : DV} (hg : ext1 g args h = some (v, h')) : g args = some v ∧ h' = h := by
  unfold ext1 at hg; split at hg
  · rename_i w hw; cases hg; exact ⟨hw, rfl⟩
  · cases hg
@[go_sem] theorem ext1_eq (g : Ext1) (args : List DV) (h : H) : ext1 g args h = (g args).map fun v => (v, h) := by unfold ext1; cases g args <;> rfl

theorem of_fn {D : Env} (hD : D.fn = fnE) {f : Nat} {F : DFunc} (h : fnE f = some F) : D.fn f = some F := by rw [hD]; exact h
def g_bit : Ext1
  | [.int .i64 n] => some (.int .u64 (bitN n : Nat))
  | _ => none
theorem c_bit : Contract D0 47 (ext1 g_bit) := by
  intro args h v h' hg fr hrc
  obtain ⟨hq, rfl⟩ := ext1_inv hg
  obtain ⟨n, rfl, rfl⟩ : ∃ n, args = [.int .i64 n] ∧ v = .int .u64 (bitN n : Nat) := by
    unfold g_bit at hq; split at hq
    · cases hq; exact ⟨_, rfl, rfl⟩
    · cases hq
  refine wp_call (F := df47) (of_fn D0_fn fe47) (Nat.le_of_ble_eq_true rfl) ?_
  by_cases h1 : n < 0
  · simp (decide := true) (disch := decide) only [go_sem, df47, hrc, h1]
    exact left_plain (by rw [bitN_neg h1]; rfl) rfl (Sub.refl _)
  · by_cases h2 : 64 ≤ n
    · simp (decide := true) (disch := decide) only [go_sem, df47, hrc, h1, h2]
      exact left_plain (by rw [bitN_big h2]; rfl) rfl (Sub.refl _)
    · obtain ⟨m, rfl⟩ : ∃ m : Nat, n = m := ⟨n.toNat, by omega⟩
      simp (decide := true) (disch := decide) only [go_sem, df47, hrc, h1, h2, shl_one (show m < 64 by omega)]
      exact left_plain (by rw [bitN_nat (by omega)]) rfl (Sub.refl _)
def D1 : Env := D0.add 47 (ext1 g_bit)
theorem D1_bit : D1.ext 47 = some (ext1 g_bit) := _root_.id rfl
theorem D1_fn : D1.fn = fnE := rfl
@[go_sem] theorem g_bit_run (n : Int) : g_bit [.int .i64 n] = some (.int .u64 (bitN n : Nat)) := _root_.id rfl

/-- a set, as it comes -/
def setN (s : Int) : Option Nat :=
  match s with
  | .ofNat n => if n < 18446744073709551616 then some n else none
  | .negSucc _ => none
theorem setN_inv {s : Int} {n : Nat} (h : setN s = some n) : s = (n : Int) ∧ n < 2 ^ 64 := by
  unfold setN at h; split at h
  · split at h
    · cases h; exact ⟨rfl, by omega⟩
    · cases h
  · cases h
theorem setN_of {n : Nat} (h : n < 2 ^ 64) : setN (n : Int) = some n := by
  show (if n < 18446744073709551616 then some n else none) = _
  rw [if_pos (by omega)]
def g_si (f : Nat → Int → DV) : Ext1
  | [.int .u64 s, .int .i64 n] => (setN s).map fun s => f s n
  | _ => none
theorem g_si_inv {f : Nat → Int → DV} {args : List DV} {v : DV} (h : g_si f args = some v) : ∃ (s : Nat) (n : Int), s < 2 ^ 64 ∧ args = [.int .u64 (s : Int), .int .i64 n] ∧ v = f s n := by
  unfold g_si at h; split at h
  · rename_i s n
    cases hs : setN s with
    | none => rw [hs] at h; cases h
    | some k => rw [hs] at h; cases h; obtain ⟨rfl, h2⟩ := setN_inv hs; exact ⟨k, n, h2, rfl, rfl⟩
  · cases h
theorem g_si_run {f : Nat → Int → DV} {s : Nat} (hs : s < 2 ^ 64) (n : Int) : g_si f [.int .u64 (s : Int), .int .i64 n] = some (f s n) := by
  unfold g_si; simp [setN_of hs]
def g_ss (f : Nat → Nat → DV) : Ext1
  | [.int .u64 s, .int .u64 t] => (setN s).bind fun s => (setN t).map fun t => f s t
  | _ => none
theorem g_ss_inv {f : Nat → Nat → DV} {args : List DV} {v : DV} (h : g_ss f args = some v) : ∃ (s t : Nat), s < 2 ^ 64 ∧ t < 2 ^ 64 ∧ args = [.int .u64 (s : Int), .int .u64 (t : Int)] ∧ v = f s t := by
  unfold g_ss at h; split at h
  · rename_i s t
    cases hs : setN s with
    | none => rw [hs] at h; cases h
    | some k =>
      cases ht : setN t with
      | none => rw [hs, ht] at h; cases h
      | some j => rw [hs, ht] at h; cases h; obtain ⟨rfl, h2⟩ := setN_inv hs; obtain ⟨rfl, h3⟩ := setN_inv ht; exact ⟨k, j, h2, h3, rfl, rfl⟩
  · cases h
theorem g_ss_run {f : Nat → Nat → DV} {s t : Nat} (hs : s < 2 ^ 64) (ht : t < 2 ^ 64) : g_ss f [.int .u64 (s : Int), .int .u64 (t : Int)] = some (f s t) := by
  unfold g_ss; simp [setN_of hs, setN_of ht]

def hasV (s : Nat) (n : Int) : DV := .bool (hasF s n)
theorem c_has : Contract D1 22 (ext1 (g_si hasV)) := by
  intro args h v h' hg fr hrc
  obtain ⟨hq, rfl⟩ := ext1_inv hg
  obtain ⟨s, n, hs, rfl, rfl⟩ := g_si_inv hq
  refine wp_call (F := df22) (of_fn D1_fn fe22) (Nat.le_of_ble_eq_true rfl) ?_
  have h1 := bitN_le n
  have h2 := le64 hs
  simp (decide := true) (disch := first | assumption | decide) only [go_sem, df22, hrc, D1_bit]
  exact left_plain (by rw [hasV, hasF_and]) rfl (Sub.refl _)
def withV (s : Nat) (n : Int) : DV := .int .u64 ((s ||| bitN n : Nat) : Int)
theorem c_with : Contract D1 24 (ext1 (g_si withV)) := by
  intro args h v h' hg fr hrc
  obtain ⟨hq, rfl⟩ := ext1_inv hg
  obtain ⟨s, n, hs, rfl, rfl⟩ := g_si_inv hq
  refine wp_call (F := df24) (of_fn D1_fn fe24) (Nat.le_of_ble_eq_true rfl) ?_
  have h1 := bitN_le n
  have h2 := le64 hs
  simp (decide := true) (disch := first | assumption | decide) only [go_sem, df24, hrc, D1_bit]
  exact left_plain rfl rfl (Sub.refl _)
def meetV (s t : Nat) : DV := .int .u64 ((s &&& t : Nat) : Int)
theorem c_meet : Contract D1 25 (ext1 (g_ss meetV)) := by
  intro args h v h' hg fr hrc
  obtain ⟨hq, rfl⟩ := ext1_inv hg
  obtain ⟨s, t, hs, ht, rfl, rfl⟩ := g_ss_inv hq
  refine wp_call (F := df25) (of_fn D1_fn fe25) (Nat.le_of_ble_eq_true rfl) ?_
  have h1 := le64 ht
  have h2 := le64 hs
  simp (decide := true) (disch := first | assumption | decide) only [go_sem, df25, hrc]
  exact left_plain rfl rfl (Sub.refl _)
def lessF (s t : Nat) : Nat := s ^^^ (s &&& t)
def lessV (s t : Nat) : DV := .int .u64 (lessF s t : Int)
theorem lessF_lt {s t : Nat} (hs : s < 2 ^ 64) : lessF s t < 2 ^ 64 := Nat.xor_lt_two_pow hs (and_lt hs)
theorem lessF_bit (s t i : Nat) : (lessF s t).testBit i = (s.testBit i && !t.testBit i) := by
  unfold lessF; rw [Nat.testBit_xor, Nat.testBit_and]; cases s.testBit i <;> cases t.testBit i <;> rfl
theorem c_less : Contract D1 48 (ext1 (g_ss lessV)) := by
  intro args h v h' hg fr hrc
  obtain ⟨hq, rfl⟩ := ext1_inv hg
  obtain ⟨s, t, hs, ht, rfl, rfl⟩ := g_ss_inv hq
  refine wp_call (F := df48) (of_fn D1_fn fe48) (Nat.le_of_ble_eq_true rfl) ?_
  have h1 := le64 ht
  have h2 := le64 hs
  simp (decide := true) (disch := first | assumption | decide) only [go_sem, df48, hrc]
  exact left_plain rfl rfl (Sub.refl _)
def D2 : Env := (((D1.add 22 (ext1 (g_si hasV))).add 24 (ext1 (g_si withV))).add 25 (ext1 (g_ss meetV))).add 48 (ext1 (g_ss lessV))
theorem D2_fn : D2.fn = fnE := rfl
theorem D2_less : D2.ext 48 = some (ext1 (g_ss lessV)) := _root_.id rfl
def inF (s t : Nat) : Bool := decide (lessF s t = 0)
def inV (s t : Nat) : DV := .bool (inF s t)
theorem c_in : Contract D2 21 (ext1 (g_ss inV)) := by
  intro args h v h' hg fr hrc
  obtain ⟨hq, rfl⟩ := ext1_inv hg
  obtain ⟨s, t, hs, ht, rfl, rfl⟩ := g_ss_inv hq
  refine wp_call (F := df21) (of_fn D2_fn fe21) (Nat.le_of_ble_eq_true rfl) ?_
  simp (decide := true) (disch := first | assumption | decide) only [go_sem, df21, hrc, D2_less, g_ss_run, lessV]
  exact left_plain (by rw [inV, inF]; simp) rfl (Sub.refl _)
end
end Go.Proofs.YtbmcloahjiimeaaGreatDoor.Dm
