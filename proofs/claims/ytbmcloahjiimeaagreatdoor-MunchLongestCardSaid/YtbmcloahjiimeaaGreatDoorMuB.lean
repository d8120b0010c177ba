/- The lowest number of a set; all numbers of a set. -/
import Derived.Test.YtbmcloahjiimeaaGreatDoorMuA
set_option linter.all false
namespace Go.Proofs.YtbmcloahjiimeaaGreatDoor.Dm
open Go Go.Dm
noncomputable section

/-! ### The lowest bit -/
def lowG : Nat → Nat → Nat
  | 0, _ => 0
  | f + 1, s => if s % 2 = 1 then 0 else lowG f (s / 2) + 1
def lowF (s : Nat) : Nat := lowG 64 s
theorem and_compl (w t : Nat) (ht : t < 2 ^ w) : t &&& (2 ^ w - (t + 1)) = 0 := by
  apply Nat.eq_of_testBit_eq
  intro i
  rw [Nat.testBit_and, Nat.testBit_two_pow_sub_succ ht, Nat.zero_testBit]
  cases t.testBit i <;> simp
theorem low_spec : ∀ (w s : Nat), 0 < s → s < 2 ^ w → s &&& (2 ^ w - s) = 2 ^ lowG w s ∧ s.testBit (lowG w s) = true ∧ lowG w s < w ∧ ∀ i, i < lowG w s → s.testBit i = false := by
  intro w
  induction w with
  | zero => intro s h1 h2; simp at h2; omega
  | succ w ih =>
    intro s h1 h2
    have hp : 2 ^ (w + 1) = 2 * 2 ^ w := by rw [Nat.pow_succ]; omega
    have hdiv : (s &&& (2 ^ (w + 1) - s)) / 2 = s / 2 &&& (2 ^ (w + 1) - s) / 2 := Nat.and_div_two
    have hmod : (s &&& (2 ^ (w + 1) - s)) % 2 = 1 ↔ s % 2 = 1 ∧ (2 ^ (w + 1) - s) % 2 = 1 := Nat.and_mod_two_eq_one
    by_cases ho : s % 2 = 1
    · have e0 : lowG (w + 1) s = 0 := by simp [lowG, ho]
      rw [e0]
      have e1 : (2 ^ (w + 1) - s) / 2 = 2 ^ w - (s / 2 + 1) := by omega
      rw [e1, and_compl w (s / 2) (by omega)] at hdiv
      have e2 : (s &&& (2 ^ (w + 1) - s)) % 2 = 1 := hmod.2 ⟨ho, by omega⟩
      refine ⟨by omega, ?_, by omega, fun i hi => by omega⟩
      rw [Nat.testBit_zero]; simpa using ho
    · have e0 : lowG (w + 1) s = lowG w (s / 2) + 1 := by simp [lowG, ho]
      obtain ⟨q1, q2, q3, q4⟩ := ih (s / 2) (by omega) (by omega)
      have e1 : (2 ^ (w + 1) - s) / 2 = 2 ^ w - s / 2 := by omega
      rw [e1, q1] at hdiv
      have e2 : (s &&& (2 ^ (w + 1) - s)) % 2 ≠ 1 := fun h => ho (hmod.1 h).1
      rw [e0]
      refine ⟨by rw [show 2 ^ (lowG w (s / 2) + 1) = 2 * 2 ^ lowG w (s / 2) by rw [Nat.pow_succ]; omega]; omega, ?_, by omega, fun i hi => ?_⟩
      · rw [Nat.testBit_succ]; exact q2
      · cases i with
        | zero => rw [Nat.testBit_zero]; simpa using ho
        | succ i => rw [Nat.testBit_succ]; exact q4 i (by omega)
theorem low_and {s : Nat} (h1 : 0 < s) (h2 : s < 2 ^ 64) : s &&& (2 ^ 64 - s) = 2 ^ lowF s := (low_spec 64 s h1 h2).1
theorem low_lt {s : Nat} (h1 : 0 < s) (h2 : s < 2 ^ 64) : lowF s < 64 := (low_spec 64 s h1 h2).2.2.1
def isU8 (o : Option DV) (k : Nat) : Bool := match o with
  | some (.int .u8 n) => n == (k : Int)
  | _ => false
theorem isU8_eq {o : Option DV} {k : Nat} (h : isU8 o k = true) : o = some (.int .u8 (k : Int)) := by
  unfold isU8 at h; split at h
  · rw [eq_of_beq h]
  · cases h
theorem tz_all : ((List.range 64).all fun k => isU8 (lget g64 ((2 ^ k * 285870213051353865 % 18446744073709551616) >>> 58)) k) = true := by decide +kernel
theorem tz_table (k : Nat) (hk : k < 64) : lget g64 ((2 ^ k * 285870213051353865 % 18446744073709551616) >>> 58) = some (.int .u8 (k : Int)) :=
  isU8_eq (List.all_eq_true.1 tz_all k (List.mem_range.2 hk))

/-! ### What the tables are -/
/-- the table of the program that the functions look at lies where it was laid -/
def okH (h : H) : Bool := Nat.ble 4 h.nx && (match h.get 0 with
  | some (.cells cs _ _) => sames cs g64
  | _ => false)
theorem okH_inv {h : H} (ho : okH h = true) : 4 ≤ h.nx ∧ ∃ e ro, h.get 0 = some (.cells g64 e ro) := by
  unfold okH at ho
  rw [Bool.and_eq_true, Nat.ble_eq] at ho
  refine ⟨ho.1, ?_⟩
  have h2 := ho.2
  split at h2
  · rename_i cs e ro hg; rw [sames_eq h2] at hg; exact ⟨e, ro, hg⟩
  · cases h2
theorem okH_sub {h h2 : H} (hs : Sub h h2) (ho : okH h = true) : okH h2 = true := by
  have h1 := (okH_inv ho).1
  unfold okH at ho ⊢
  rw [Bool.and_eq_true, Nat.ble_eq] at ho ⊢
  exact ⟨Nat.le_trans h1 hs.nx, by rw [hs.get 0 (by omega)]; exact ho.2⟩
/-- an answer that asks for the table -/
def extT (g : Ext1) : Ext := fun args h => bif okH h then ext1 g args h else none
theorem extT_inv {g : Ext1} {args : List DV} {h h' : H} {v : DV} (hg : extT g args h = some (v, h')) : g args = some v ∧ h' = h ∧ okH h = true := by
  unfold extT at hg
  cases ho : okH h with
  | true => rw [ho] at hg; obtain ⟨h1, h2⟩ := ext1_inv hg; exact ⟨h1, h2, rfl⟩
  | false => rw [ho] at hg; cases hg
theorem extT_eq {g : Ext1} {args : List DV} {h : H} (ho : okH h = true) : extT g args h = ext1 g args h := by unfold extT; rw [ho]; rfl
def g_s (f : Nat → DV) : Ext1
  | [.int .u64 s] => (setN s).map f
  | _ => none
theorem g_s_inv {f : Nat → DV} {args : List DV} {v : DV} (h : g_s f args = some v) : ∃ s : Nat, s < 2 ^ 64 ∧ args = [.int .u64 (s : Int)] ∧ v = f s := by
  unfold g_s at h; split at h
  · rename_i s
    cases hs : setN s with
    | none => rw [hs] at h; cases h
    | some k => rw [hs] at h; cases h; obtain ⟨rfl, h2⟩ := setN_inv hs; exact ⟨k, h2, rfl, rfl⟩
  · cases h
theorem g_s_run {f : Nat → DV} {s : Nat} (hs : s < 2 ^ 64) : g_s f [.int .u64 (s : Int)] = some (f s) := by
  unfold g_s; simp [setN_of hs]

def tzF (s : Nat) : Nat := if s = 0 then 64 else lowF s
def tzV (s : Nat) : DV := .int .i64 (tzF s : Int)
theorem wrap_neg {s : Nat} (h1 : 0 < s) (h2 : s < 2 ^ 64) : IntKind.u64.wrap (-(s : Int)) = ((2 ^ 64 - s : Nat) : Int) := by
  simp only [IntKind.wrap, IntKind.bits, IntKind.signed]; simp; omega
theorem wrap_mul (a : Nat) : IntKind.u64.wrap ((a : Int) * 285870213051353865) = ((a * 285870213051353865 % 18446744073709551616 : Nat) : Int) := by
  simp only [IntKind.wrap, IntKind.bits, IntKind.signed]; simp
theorem shr58 (a : Nat) : bin .shr (.int .u64 (a : Int)) (.int .u64 58) = some (.int .u64 ((a >>> 58 : Nat) : Int)) := bin_shr .u64 .u64 a 58
theorem shr58_lt {a : Nat} : (a % 18446744073709551616) >>> 58 < 64 := by rw [Nat.shiftRight_eq_div_pow]; omega
theorem c_tz : Contract D2 49 (extT (g_s tzV)) := by
  intro args h v h' hg fr hrc
  obtain ⟨hq, rfl, ho⟩ := extT_inv hg
  obtain ⟨s, hs, rfl, rfl⟩ := g_s_inv hq
  obtain ⟨hnx, e, ro, h0⟩ := okH_inv ho
  refine wp_call (F := df49) (of_fn D2_fn fe49) (Nat.le_of_ble_eq_true rfl) ?_
  by_cases hz : s = 0
  · subst hz
    simp (decide := true) (disch := first | assumption | decide) only [go_sem, df49, hrc]
    exact left_plain rfl rfl (Sub.refl _)
  · have hz' : ¬ ((s : Int) = 0) := by omega
    have hle := le64 hs
    have hle2 : 2 ^ 64 - s ≤ maxN .u64 := by simp only [maxN]; omega
    have hlow := low_lt (s := s) (by omega) hs
    simp (decide := true) (disch := first | assumption | decide) only [go_sem, df49, hrc, hz', wrap_neg (show 0 < s by omega) hs, low_and (show 0 < s by omega) hs, wrap_mul, shr58, inB_of_lt (shr58_lt (a := 2 ^ lowF s * 285870213051353865)), h0, Nat.zero_add, Nat.mul_one, tz_table (lowF s) hlow, wrap_i64 (n := (lowF s : Int)) (by omega) (by omega)]
    exact left_plain (by simp [tzV, tzF, hz]) rfl (Sub.refl _)
def D3 : Env := (D2.add 21 (ext1 (g_ss inV))).add 49 (extT (g_s tzV))
theorem D3_fn : D3.fn = fnE := rfl
theorem D3_tz : D3.ext 49 = some (extT (g_s tzV)) := _root_.id rfl
def firstF (s : Nat) : Int := if s = 0 then -1 else (lowF s : Int)
def firstV (s : Nat) : DV := .int .i64 (firstF s)
theorem c_first : Contract D3 23 (extT (g_s firstV)) := by
  intro args h v h' hg fr hrc
  obtain ⟨hq, rfl, ho⟩ := extT_inv hg
  obtain ⟨s, hs, rfl, rfl⟩ := g_s_inv hq
  refine wp_call (F := df23) (of_fn D3_fn fe23) (Nat.le_of_ble_eq_true rfl) ?_
  by_cases hz : s = 0
  · subst hz
    simp (decide := true) (disch := first | assumption | decide) only [go_sem, df23, hrc]
    exact left_plain rfl rfl (Sub.refl _)
  · have hz' : ¬ ((s : Int) = 0) := by omega
    simp (decide := true) (disch := first | assumption | decide) only [go_sem, df23, hrc, hz', D3_tz, extT_eq ho, g_s_run, tzV]
    exact left_plain (by simp [firstV, firstF, tzF, hz]) rfl (Sub.refl _)
end
end Go.Proofs.YtbmcloahjiimeaaGreatDoor.Dm
