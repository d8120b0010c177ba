/- No longer piece may be: the law's walk. -/
import Derived.Test.YtbmcloahjiimeaaGreatDoorMuK
set_option linter.all false
namespace Go.Proofs.YtbmcloahjiimeaaGreatDoor.Dm
open Go Go.Dm
noncomputable section

def vSlStr (x a b : DV) (h : H) : N := oSlStr (.c x) (some (.c a)) (some (.c b)) (fun z => match z with | .c v => v | _ => .undef) h
@[go_sem] theorem oSlStr_eq (x a b : DX) (ev : Ev) (h : H) : oSlStr x (some a) (some b) ev h = vSlStr (ev x) (ev a) (ev b) h := _root_.id rfl
@[go_sem] theorem vSlStr_p (s : List Nat) (a b : Nat) (h : H) (h1 : a ≤ b) (h2 : b ≤ s.length) : vSlStr (.str s) (.int .i64 (a : Int)) (.int .i64 (b : Int)) h = .val (.str ((s.drop a).take (b - a))) h := by
  unfold vSlStr oSlStr
  simp [intO, h1, h2]

@[go_sem] theorem eqN_tt : eqN .bool (.bool true) (.bool true) = some true := _root_.id rfl
@[go_sem] theorem eqN_ff : eqN .bool (.bool false) (.bool false) = some true := _root_.id rfl
@[go_sem] theorem eqN_tf : eqN .bool (.bool true) (.bool false) = some false := _root_.id rfl
@[go_sem] theorem eqN_ft : eqN .bool (.bool false) (.bool true) = some false := _root_.id rfl
@[go_sem] theorem bne_t : (true != false) = true := _root_.id rfl
@[go_sem] theorem bne_f : (false != false) = false := _root_.id rfl
@[go_sem] theorem bne_t2 : (true != true) = false := _root_.id rfl
@[go_sem] theorem bne_f2 : (false != true) = true := _root_.id rfl

/-! ### The law, without the program -/
theorem best_le (D : Dfa) (s : List Nat) (a may : Nat) : ∀ n, (a : Int) ≤ (bestF D s a may n).2 ∧ (bestF D s a may n).2 ≤ ((a + n : Nat) : Int)
  | 0 => by simp [bestF]
  | n + 1 => by
    have := best_le D s a may n
    unfold bestF; split
    · simp only; omega
    · omega
theorem best_zero (D : Dfa) (s : List Nat) (a may : Nat) : ∀ n, (bestF D s a may n).1 = 0 ↔ (bestF D s a may n).2 = (a : Int)
  | 0 => by simp [bestF]
  | n + 1 => by
    unfold bestF; split
    · rename_i hne
      constructor
      · intro h; exact absurd h hne
      · intro h; simp only at h; omega
    · exact best_zero D s a may n
theorem best_in (D : Dfa) (s : List Nat) (a may : Nat) : ∀ n, inF (bestF D s a may n).1 may = true
  | 0 => by unfold inF lessF bestF; simp
  | n + 1 => by
    unfold bestF; split
    · unfold inF lessF
      simp only [decide_eq_true_eq]
      apply Nat.eq_of_testBit_eq
      intro i
      simp only [Nat.testBit_xor, Nat.testBit_and, Nat.zero_testBit]
      cases (runF D ((s.drop a).take (n + 1))).testBit i <;> cases may.testBit i <;> rfl
    · exact best_in D s a may n
theorem best_none (D : Dfa) (s : List Nat) (a may : Nat) : ∀ n j, j < n → ((bestF D s a may n).2 < ((a + (j + 1) : Nat) : Int) → runF D ((s.drop a).take (j + 1)) &&& may = 0) ∧ (((a + (j + 1) : Nat) : Int) = (bestF D s a may n).2 → runF D ((s.drop a).take (j + 1)) &&& may = (bestF D s a may n).1)
  | 0, j, hj => by omega
  | n + 1, j, hj => by
    have hle := best_le D s a may n
    unfold bestF; split
    · rename_i hne
      simp only
      refine ⟨fun h => by omega, fun h => ?_⟩
      have : j = n := by omega
      subst this; rfl
    · rename_i hne
      by_cases hjn : j = n
      · subst hjn
        exact ⟨fun _ => by simpa using hne, fun h => by omega⟩
      · exact best_none D s a may n j (by omega)
theorem okT_sub' {h h2 : H} (hs : Sub h h2) {g : Nat} {cs : List DV} (hg : g < h.nx) (ho : okT h g cs = true) : okT h2 g cs = true := by
  unfold okT at *
  rw [hs.get g hg]; exact ho
theorem okW_sub' {h h2 : H} (hs : Sub h h2) (hn : 4 ≤ h.nx) (ho : okW h = true) : okW h2 = true := by
  unfold okW at *
  simp only [Bool.and_eq_true] at *
  exact ⟨⟨okT_sub' hs (by omega) ho.1.1, okT_sub' hs (by omega) ho.1.2⟩, okT_sub' hs (by omega) ho.2⟩
def D10 : Env := (D9.add 10 g_few).add 12 g_long
theorem D10_fn : D10.fn = fnE := rfl
theorem D10_works : D10.ext 9 = some g_works := _root_.id rfl
theorem D10_run : D10.ext 26 = some g_run := _root_.id rfl
theorem D10_few : D10.ext 10 = some g_few := _root_.id rfl
theorem D10_long : D10.ext 12 = some g_long := _root_.id rfl
theorem D10_meet : D10.ext 25 = some (ext1 (g_ss meetV)) := _root_.id rfl
theorem D10_in : D10.ext 21 = some (ext1 (g_ss inV)) := _root_.id rfl
theorem runF_lt {h : H} {D : Dfa} {l : List DV} {n t : DV} {ns : List DV} (I : IsDfa h D l n t ns) (s : List Nat) : runF D s < 2 ^ 64 := by
  unfold runF; split
  · omega
  · cases hg : D.tags[(stF D s).toNat]? with
    | none => show (0 : Nat) < 2 ^ 64; omega
    | some g => exact I.lt g (List.mem_of_getElem? hg)
theorem okS_part {s : List Nat} (ho : okS s = true) (a n : Nat) : okS ((s.drop a).take n) = true := by
  obtain ⟨h1, h2⟩ := okS_inv ho
  exact okS_of (fun b hb => h1 b (List.mem_of_mem_drop (List.mem_of_mem_take hb))) (by rw [List.length_take, List.length_drop]; omega)

theorem law_longest {h : H} {d : DV} {D : Dfa} {s : List Nat} {at_ : Int} {may : Nat} (hw : okW h = true) (hnx4 : 4 ≤ h.nx) (hd : dfaAt h d = some D) (ho : okS s = true) (hm : may < 2 ^ 64) (fr : Fr) (hrc : fr.rc = none) :
    Wp D10 (.call 7 [d, .str s, .int .i64 at_, .int .u64 (may : Int)]) fr h lawQ := by
  obtain ⟨hbs, hsl⟩ := okS_inv ho
  obtain ⟨l, n, t, ns, rfl, I⟩ := dfaAt_inv hd
  have hpart := I.part
  have hsam := I.sam
  have hd2 := dfaAt_sub (Sub.new h (.cells l 26 false)) hd
  have hw2 := okW_sub' (Sub.new h (.cells l 26 false)) hnx4 hw
  refine wp_call (F := df7) (of_fn D10_fn fe7) (Nat.le_of_ble_eq_true rfl) ?_
  have hpn : ∀ hh, pairsAt hh (.slice none 0 0 false) = some [] := fun hh => pairsAt_nil hh false
  by_cases hf : fewF D s [] = true
  · by_cases hin : 0 ≤ at_ ∧ at_ ≤ s.length
    · obtain ⟨a, rfl⟩ : ∃ a : Nat, at_ = (a : Int) := ⟨at_.toNat, by omega⟩
      have h1 : ¬ ((a : Int) < 0) := by omega
      have h2 : ¬ ((s.length : Int) < (a : Int)) := by omega
      have hlong : longF D s (a : Int) may = bestF D s a may (s.length - a) := by
        unfold longF; rw [if_pos hin, Int.toNat_natCast]
      have hadd0 : IntKind.i64.wrap ((a : Int) + 1) = ((a + (0 + 1) : Nat) : Int) := by
        rw [wrap_i64 (by omega) (by omega)]; rfl
      simp (decide := true) (disch := first | assumption | exact rfl | decide | omega | (simp only [H.nx_put, H.nx_new, H.nx_kill]; done) | (simp only [H.nx_put, H.nx_new, H.nx_kill]; omega)) only [go_sem, Nat.add_assoc, Nat.reduceAdd, Nat.reduceMul, Nat.zero_add, Nat.add_zero, Nat.mul_one, Nat.zero_mul, true_and, and_true, eq_self, df7, hrc, D10_works, g_works_run hw2, hpart, D10_few, g_few_run hd2 (hpn _), hf, h1, h2, D10_long, g_long_run hd2 ho _ hm, hlong, pieceDV, hadd0]
      have hle := best_le D s a may (s.length - a)
      have hzero := best_zero D s a may (s.length - a)
      have hbin := best_in D s a may (s.length - a)
      have hnone := best_none D s a may (s.length - a)
      have hPlt : (bestF D s a may (s.length - a)).1 < 2 ^ 64 := bestF_lt hm _
      generalize bestF D s a may (s.length - a) = P at *
      refine Go.Dm.wp_loop (fun k fr hh => ∃ (j : Nat) (tm : T DV), fr = ⟨7, 104, tm, [], none, none⟩ ∧ tm.get s1 = some (.str s) ∧ tm.get s2 = some (.int .i64 (a : Int)) ∧ tm.get s3 = some (.int .u64 (may : Int)) ∧ tm.get s4 = some (.ptr (some (h.nx, 0))) ∧ tm.get s9 = some (.bool true) ∧ tm.get s11 = some (.ptr (some (h.nx + 1, 0))) ∧
        tm.get s12 = some (.int .i64 ((a + (j + 1) : Nat) : Int)) ∧ a + j ≤ s.length ∧ k = s.length - a - j ∧ Sub h hh ∧ h.nx + 1 < hh.nx ∧ hh.get h.nx = some (.cells l 26 false) ∧ hh.get (h.nx + 1) = some (.cells [.int .u64 (P.1 : Int), .int .i64 P.2] 35 false)) ?_ (s.length - a) _ _ ?_
      · intro k fr hh ⟨j, tm, hfr, t1, t2, t3, t4, t9, t11, t12, hj, hk, hsub, hnx, hbx, hb11⟩
        subst hfr
        by_cases hlt1 : a + j < s.length
        · have hle' : (((a + (j + 1) : Nat) : Int) ≤ (s.length : Int)) := by omega
          have hab : a ≤ a + (j + 1) := by omega
          have hbl : a + (j + 1) ≤ s.length := by omega
          have hd3 := dfaAt_sub hsub hd
          have hrl := runF_lt I ((s.drop a).take (j + 1))
          have hsub1 : a + (j + 1) - a = j + 1 := by omega
          have hadd : IntKind.i64.wrap (((a + (j + 1) : Nat) : Int) + 1) = ((a + (j + 1 + 1) : Nat) : Int) := by
            rw [wrap_i64 (by omega) (by omega)]; rfl
          obtain ⟨g1, g2⟩ := hnone j (by omega)
          by_cases c : P.2 < ((a + (j + 1) : Nat) : Int)
          · have hz : ((runF D ((s.drop a).take (j + 1)) &&& may : Nat) : Int) = 0 := by rw [g1 c]; rfl
            have hne : ¬ (((a + (j + 1) : Nat) : Int) = P.2) := by omega
            simp (decide := true) (disch := first | assumption | exact rfl | decide | omega | (simp only [H.nx_put, H.nx_new, H.nx_kill]; done) | (simp only [H.nx_put, H.nx_new, H.nx_kill]; omega)) only [go_sem, Nat.add_assoc, Nat.reduceAdd, Nat.reduceMul, Nat.zero_add, Nat.add_zero, Nat.mul_one, Nat.zero_mul, true_and, and_true, eq_self, t1, t2, t3, t4, t9, t11, t12, hle', hbx, hpart, hsam, hb11, hab, hbl, D10_run, g_run_run hd3 (okS_part ho a (j + 1)), D10_meet, g_ss_run hrl hm, meetV, hsub1, hadd, c, hz, hne]
            refine ⟨s.length - a - (j + 1), by omega, j + 1, _, rfl, by simp (decide := true) (disch := first | assumption | exact rfl | decide | omega | (simp only [H.nx_put, H.nx_new, H.nx_kill]; done) | (simp only [H.nx_put, H.nx_new, H.nx_kill]; omega)) only [go_sem, Nat.add_assoc, Nat.reduceAdd, Nat.reduceMul, Nat.zero_add, Nat.add_zero, Nat.mul_one, Nat.zero_mul, true_and, and_true, eq_self, t1], by simp (decide := true) (disch := first | assumption | exact rfl | decide | omega | (simp only [H.nx_put, H.nx_new, H.nx_kill]; done) | (simp only [H.nx_put, H.nx_new, H.nx_kill]; omega)) only [go_sem, Nat.add_assoc, Nat.reduceAdd, Nat.reduceMul, Nat.zero_add, Nat.add_zero, Nat.mul_one, Nat.zero_mul, true_and, and_true, eq_self, t2], by simp (decide := true) (disch := first | assumption | exact rfl | decide | omega | (simp only [H.nx_put, H.nx_new, H.nx_kill]; done) | (simp only [H.nx_put, H.nx_new, H.nx_kill]; omega)) only [go_sem, Nat.add_assoc, Nat.reduceAdd, Nat.reduceMul, Nat.zero_add, Nat.add_zero, Nat.mul_one, Nat.zero_mul, true_and, and_true, eq_self, t3], by simp (decide := true) (disch := first | assumption | exact rfl | decide | omega | (simp only [H.nx_put, H.nx_new, H.nx_kill]; done) | (simp only [H.nx_put, H.nx_new, H.nx_kill]; omega)) only [go_sem, Nat.add_assoc, Nat.reduceAdd, Nat.reduceMul, Nat.zero_add, Nat.add_zero, Nat.mul_one, Nat.zero_mul, true_and, and_true, eq_self, t4], by simp (decide := true) (disch := first | assumption | exact rfl | decide | omega | (simp only [H.nx_put, H.nx_new, H.nx_kill]; done) | (simp only [H.nx_put, H.nx_new, H.nx_kill]; omega)) only [go_sem, Nat.add_assoc, Nat.reduceAdd, Nat.reduceMul, Nat.zero_add, Nat.add_zero, Nat.mul_one, Nat.zero_mul, true_and, and_true, eq_self, t9], by simp (decide := true) (disch := first | assumption | exact rfl | decide | omega | (simp only [H.nx_put, H.nx_new, H.nx_kill]; done) | (simp only [H.nx_put, H.nx_new, H.nx_kill]; omega)) only [go_sem, Nat.add_assoc, Nat.reduceAdd, Nat.reduceMul, Nat.zero_add, Nat.add_zero, Nat.mul_one, Nat.zero_mul, true_and, and_true, eq_self, t11], by simp (decide := true) (disch := first | assumption | exact rfl | decide | omega | (simp only [H.nx_put, H.nx_new, H.nx_kill]; done) | (simp only [H.nx_put, H.nx_new, H.nx_kill]; omega)) only [go_sem, Nat.add_assoc, Nat.reduceAdd, Nat.reduceMul, Nat.zero_add, Nat.add_zero, Nat.mul_one, Nat.zero_mul, true_and, and_true, eq_self, t12], by omega, rfl, hsub, hnx⟩
          · by_cases he : ((a + (j + 1) : Nat) : Int) = P.2
            · have hx : ((runF D ((s.drop a).take (j + 1)) &&& may : Nat) : Int) = (P.1 : Int) := by rw [g2 he]
              simp (decide := true) (disch := first | assumption | exact rfl | decide | omega | (simp only [H.nx_put, H.nx_new, H.nx_kill]; done) | (simp only [H.nx_put, H.nx_new, H.nx_kill]; omega)) only [go_sem, Nat.add_assoc, Nat.reduceAdd, Nat.reduceMul, Nat.zero_add, Nat.add_zero, Nat.mul_one, Nat.zero_mul, true_and, and_true, eq_self, t1, t2, t3, t4, t9, t11, t12, hle', hbx, hpart, hsam, hb11, hab, hbl, D10_run, g_run_run hd3 (okS_part ho a (j + 1)), D10_meet, g_ss_run hrl hm, meetV, hsub1, hadd, c, eq_true he, eq_true hx]
              refine ⟨s.length - a - (j + 1), by omega, j + 1, _, rfl, by simp (decide := true) (disch := first | assumption | exact rfl | decide | omega | (simp only [H.nx_put, H.nx_new, H.nx_kill]; done) | (simp only [H.nx_put, H.nx_new, H.nx_kill]; omega)) only [go_sem, Nat.add_assoc, Nat.reduceAdd, Nat.reduceMul, Nat.zero_add, Nat.add_zero, Nat.mul_one, Nat.zero_mul, true_and, and_true, eq_self, t1], by simp (decide := true) (disch := first | assumption | exact rfl | decide | omega | (simp only [H.nx_put, H.nx_new, H.nx_kill]; done) | (simp only [H.nx_put, H.nx_new, H.nx_kill]; omega)) only [go_sem, Nat.add_assoc, Nat.reduceAdd, Nat.reduceMul, Nat.zero_add, Nat.add_zero, Nat.mul_one, Nat.zero_mul, true_and, and_true, eq_self, t2], by simp (decide := true) (disch := first | assumption | exact rfl | decide | omega | (simp only [H.nx_put, H.nx_new, H.nx_kill]; done) | (simp only [H.nx_put, H.nx_new, H.nx_kill]; omega)) only [go_sem, Nat.add_assoc, Nat.reduceAdd, Nat.reduceMul, Nat.zero_add, Nat.add_zero, Nat.mul_one, Nat.zero_mul, true_and, and_true, eq_self, t3], by simp (decide := true) (disch := first | assumption | exact rfl | decide | omega | (simp only [H.nx_put, H.nx_new, H.nx_kill]; done) | (simp only [H.nx_put, H.nx_new, H.nx_kill]; omega)) only [go_sem, Nat.add_assoc, Nat.reduceAdd, Nat.reduceMul, Nat.zero_add, Nat.add_zero, Nat.mul_one, Nat.zero_mul, true_and, and_true, eq_self, t4], by simp (decide := true) (disch := first | assumption | exact rfl | decide | omega | (simp only [H.nx_put, H.nx_new, H.nx_kill]; done) | (simp only [H.nx_put, H.nx_new, H.nx_kill]; omega)) only [go_sem, Nat.add_assoc, Nat.reduceAdd, Nat.reduceMul, Nat.zero_add, Nat.add_zero, Nat.mul_one, Nat.zero_mul, true_and, and_true, eq_self, t9], by simp (decide := true) (disch := first | assumption | exact rfl | decide | omega | (simp only [H.nx_put, H.nx_new, H.nx_kill]; done) | (simp only [H.nx_put, H.nx_new, H.nx_kill]; omega)) only [go_sem, Nat.add_assoc, Nat.reduceAdd, Nat.reduceMul, Nat.zero_add, Nat.add_zero, Nat.mul_one, Nat.zero_mul, true_and, and_true, eq_self, t11], by simp (decide := true) (disch := first | assumption | exact rfl | decide | omega | (simp only [H.nx_put, H.nx_new, H.nx_kill]; done) | (simp only [H.nx_put, H.nx_new, H.nx_kill]; omega)) only [go_sem, Nat.add_assoc, Nat.reduceAdd, Nat.reduceMul, Nat.zero_add, Nat.add_zero, Nat.mul_one, Nat.zero_mul, true_and, and_true, eq_self, t12], by omega, rfl, hsub, hnx⟩
            · simp (decide := true) (disch := first | assumption | exact rfl | decide | omega | (simp only [H.nx_put, H.nx_new, H.nx_kill]; done) | (simp only [H.nx_put, H.nx_new, H.nx_kill]; omega)) only [go_sem, Nat.add_assoc, Nat.reduceAdd, Nat.reduceMul, Nat.zero_add, Nat.add_zero, Nat.mul_one, Nat.zero_mul, true_and, and_true, eq_self, t1, t2, t3, t4, t9, t11, t12, hle', hbx, hpart, hsam, hb11, hab, hbl, D10_run, g_run_run hd3 (okS_part ho a (j + 1)), D10_meet, g_ss_run hrl hm, meetV, hsub1, hadd, c, he]
              refine ⟨s.length - a - (j + 1), by omega, j + 1, _, rfl, by simp (decide := true) (disch := first | assumption | exact rfl | decide | omega | (simp only [H.nx_put, H.nx_new, H.nx_kill]; done) | (simp only [H.nx_put, H.nx_new, H.nx_kill]; omega)) only [go_sem, Nat.add_assoc, Nat.reduceAdd, Nat.reduceMul, Nat.zero_add, Nat.add_zero, Nat.mul_one, Nat.zero_mul, true_and, and_true, eq_self, t1], by simp (decide := true) (disch := first | assumption | exact rfl | decide | omega | (simp only [H.nx_put, H.nx_new, H.nx_kill]; done) | (simp only [H.nx_put, H.nx_new, H.nx_kill]; omega)) only [go_sem, Nat.add_assoc, Nat.reduceAdd, Nat.reduceMul, Nat.zero_add, Nat.add_zero, Nat.mul_one, Nat.zero_mul, true_and, and_true, eq_self, t2], by simp (decide := true) (disch := first | assumption | exact rfl | decide | omega | (simp only [H.nx_put, H.nx_new, H.nx_kill]; done) | (simp only [H.nx_put, H.nx_new, H.nx_kill]; omega)) only [go_sem, Nat.add_assoc, Nat.reduceAdd, Nat.reduceMul, Nat.zero_add, Nat.add_zero, Nat.mul_one, Nat.zero_mul, true_and, and_true, eq_self, t3], by simp (decide := true) (disch := first | assumption | exact rfl | decide | omega | (simp only [H.nx_put, H.nx_new, H.nx_kill]; done) | (simp only [H.nx_put, H.nx_new, H.nx_kill]; omega)) only [go_sem, Nat.add_assoc, Nat.reduceAdd, Nat.reduceMul, Nat.zero_add, Nat.add_zero, Nat.mul_one, Nat.zero_mul, true_and, and_true, eq_self, t4], by simp (decide := true) (disch := first | assumption | exact rfl | decide | omega | (simp only [H.nx_put, H.nx_new, H.nx_kill]; done) | (simp only [H.nx_put, H.nx_new, H.nx_kill]; omega)) only [go_sem, Nat.add_assoc, Nat.reduceAdd, Nat.reduceMul, Nat.zero_add, Nat.add_zero, Nat.mul_one, Nat.zero_mul, true_and, and_true, eq_self, t9], by simp (decide := true) (disch := first | assumption | exact rfl | decide | omega | (simp only [H.nx_put, H.nx_new, H.nx_kill]; done) | (simp only [H.nx_put, H.nx_new, H.nx_kill]; omega)) only [go_sem, Nat.add_assoc, Nat.reduceAdd, Nat.reduceMul, Nat.zero_add, Nat.add_zero, Nat.mul_one, Nat.zero_mul, true_and, and_true, eq_self, t11], by simp (decide := true) (disch := first | assumption | exact rfl | decide | omega | (simp only [H.nx_put, H.nx_new, H.nx_kill]; done) | (simp only [H.nx_put, H.nx_new, H.nx_kill]; omega)) only [go_sem, Nat.add_assoc, Nat.reduceAdd, Nat.reduceMul, Nat.zero_add, Nat.add_zero, Nat.mul_one, Nat.zero_mul, true_and, and_true, eq_self, t12], by omega, rfl, hsub, hnx⟩
        · have hle' : ¬ (((a + (j + 1) : Nat) : Int) ≤ (s.length : Int)) := by omega
          have q1 : (a : Int) ≤ P.2 := hle.1
          have q2 : P.2 ≤ (s.length : Int) := by omega
          by_cases hz : P.1 = 0
          · have hz1 : ((P.1 : Nat) : Int) = 0 := by omega
            have hz2 := hzero.1 hz
            simp (decide := true) (disch := first | assumption | exact rfl | decide | omega | (simp only [H.nx_put, H.nx_new, H.nx_kill]; done) | (simp only [H.nx_put, H.nx_new, H.nx_kill]; omega)) only [go_sem, Nat.add_assoc, Nat.reduceAdd, Nat.reduceMul, Nat.zero_add, Nat.add_zero, Nat.mul_one, Nat.zero_mul, true_and, and_true, eq_self, t1, t2, t3, t4, t9, t11, t12, hle', hbx, hb11, D10_in, g_ss_run hPlt hm, inV, hbin, q1, q2, eq_true hz1, eq_true hz2]
            exact ⟨hh, rfl⟩
          · have hz1 : ¬ ((P.1 : Nat) : Int) = 0 := by omega
            have hz2 : ¬ P.2 = (a : Int) := fun e => hz (hzero.2 e)
            simp (decide := true) (disch := first | assumption | exact rfl | decide | omega | (simp only [H.nx_put, H.nx_new, H.nx_kill]; done) | (simp only [H.nx_put, H.nx_new, H.nx_kill]; omega)) only [go_sem, Nat.add_assoc, Nat.reduceAdd, Nat.reduceMul, Nat.zero_add, Nat.add_zero, Nat.mul_one, Nat.zero_mul, true_and, and_true, eq_self, t1, t2, t3, t4, t9, t11, t12, hle', hbx, hb11, D10_in, g_ss_run hPlt hm, inV, hbin, q1, q2, hz1, hz2]
            exact ⟨hh, rfl⟩
      · refine ⟨0, _, rfl, by simp (decide := true) (disch := first | assumption | exact rfl | decide | omega | (simp only [H.nx_put, H.nx_new, H.nx_kill]; done) | (simp only [H.nx_put, H.nx_new, H.nx_kill]; omega)) only [go_sem, Nat.add_assoc, Nat.reduceAdd, Nat.reduceMul, Nat.zero_add, Nat.add_zero, Nat.mul_one, Nat.zero_mul, true_and, and_true, eq_self, s0], by simp (decide := true) (disch := first | assumption | exact rfl | decide | omega | (simp only [H.nx_put, H.nx_new, H.nx_kill]; done) | (simp only [H.nx_put, H.nx_new, H.nx_kill]; omega)) only [go_sem, Nat.add_assoc, Nat.reduceAdd, Nat.reduceMul, Nat.zero_add, Nat.add_zero, Nat.mul_one, Nat.zero_mul, true_and, and_true, eq_self, s0], by simp (decide := true) (disch := first | assumption | exact rfl | decide | omega | (simp only [H.nx_put, H.nx_new, H.nx_kill]; done) | (simp only [H.nx_put, H.nx_new, H.nx_kill]; omega)) only [go_sem, Nat.add_assoc, Nat.reduceAdd, Nat.reduceMul, Nat.zero_add, Nat.add_zero, Nat.mul_one, Nat.zero_mul, true_and, and_true, eq_self, s0], by simp (decide := true) (disch := first | assumption | exact rfl | decide | omega | (simp only [H.nx_put, H.nx_new, H.nx_kill]; done) | (simp only [H.nx_put, H.nx_new, H.nx_kill]; omega)) only [go_sem, Nat.add_assoc, Nat.reduceAdd, Nat.reduceMul, Nat.zero_add, Nat.add_zero, Nat.mul_one, Nat.zero_mul, true_and, and_true, eq_self, s0], by simp (decide := true) (disch := first | assumption | exact rfl | decide | omega | (simp only [H.nx_put, H.nx_new, H.nx_kill]; done) | (simp only [H.nx_put, H.nx_new, H.nx_kill]; omega)) only [go_sem, Nat.add_assoc, Nat.reduceAdd, Nat.reduceMul, Nat.zero_add, Nat.add_zero, Nat.mul_one, Nat.zero_mul, true_and, and_true, eq_self, s0], by simp (decide := true) (disch := first | assumption | exact rfl | decide | omega | (simp only [H.nx_put, H.nx_new, H.nx_kill]; done) | (simp only [H.nx_put, H.nx_new, H.nx_kill]; omega)) only [go_sem, Nat.add_assoc, Nat.reduceAdd, Nat.reduceMul, Nat.zero_add, Nat.add_zero, Nat.mul_one, Nat.zero_mul, true_and, and_true, eq_self, s0], by simp (decide := true) (disch := first | assumption | exact rfl | decide | omega | (simp only [H.nx_put, H.nx_new, H.nx_kill]; done) | (simp only [H.nx_put, H.nx_new, H.nx_kill]; omega)) only [go_sem, Nat.add_assoc, Nat.reduceAdd, Nat.reduceMul, Nat.zero_add, Nat.add_zero, Nat.mul_one, Nat.zero_mul, true_and, and_true, eq_self, s0], by omega, by omega, ?_, ?_, ?_, ?_⟩
        · repeat (first | exact Sub.refl _ | refine Sub.put ?_ (by omega) _ | refine Sub.kill ?_ (by omega) | refine Sub.new' ?_ _)
        · simp (decide := true) (disch := first | assumption | exact rfl | decide | omega | (simp only [H.nx_put, H.nx_new, H.nx_kill]; done) | (simp only [H.nx_put, H.nx_new, H.nx_kill]; omega)) only [go_sem, Nat.add_assoc, Nat.reduceAdd, Nat.reduceMul, Nat.zero_add, Nat.add_zero, Nat.mul_one, Nat.zero_mul, true_and, and_true, eq_self, s0]; omega
        · simp (decide := true) (disch := first | assumption | exact rfl | decide | omega | (simp only [H.nx_put, H.nx_new, H.nx_kill]; done) | (simp only [H.nx_put, H.nx_new, H.nx_kill]; omega)) only [go_sem, Nat.add_assoc, Nat.reduceAdd, Nat.reduceMul, Nat.zero_add, Nat.add_zero, Nat.mul_one, Nat.zero_mul, true_and, and_true, eq_self, s0]
        · simp (decide := true) (disch := first | assumption | exact rfl | decide | omega | (simp only [H.nx_put, H.nx_new, H.nx_kill]; done) | (simp only [H.nx_put, H.nx_new, H.nx_kill]; omega)) only [go_sem, Nat.add_assoc, Nat.reduceAdd, Nat.reduceMul, Nat.zero_add, Nat.add_zero, Nat.mul_one, Nat.zero_mul, true_and, and_true, eq_self, s0]
    · by_cases h1 : at_ < 0
      · simp (decide := true) (disch := first | assumption | exact rfl | decide | omega | (simp only [H.nx_put, H.nx_new, H.nx_kill]; done) | (simp only [H.nx_put, H.nx_new, H.nx_kill]; omega)) only [go_sem, Nat.add_assoc, Nat.reduceAdd, Nat.reduceMul, Nat.zero_add, Nat.add_zero, Nat.mul_one, Nat.zero_mul, true_and, and_true, eq_self, df7, hrc, D10_works, g_works_run hw2, hpart, D10_few, g_few_run hd2 (hpn _), hf, h1]
        exact ⟨_, rfl⟩
      · have h2 : (s.length : Int) < at_ := by omega
        simp (decide := true) (disch := first | assumption | exact rfl | decide | omega | (simp only [H.nx_put, H.nx_new, H.nx_kill]; done) | (simp only [H.nx_put, H.nx_new, H.nx_kill]; omega)) only [go_sem, Nat.add_assoc, Nat.reduceAdd, Nat.reduceMul, Nat.zero_add, Nat.add_zero, Nat.mul_one, Nat.zero_mul, true_and, and_true, eq_self, df7, hrc, D10_works, g_works_run hw2, hpart, D10_few, g_few_run hd2 (hpn _), hf, h1, h2]
        exact ⟨_, rfl⟩
  · have hf' : fewF D s [] = false := by simpa using hf
    simp (decide := true) (disch := first | assumption | exact rfl | decide | omega | (simp only [H.nx_put, H.nx_new, H.nx_kill]; done) | (simp only [H.nx_put, H.nx_new, H.nx_kill]; omega)) only [go_sem, Nat.add_assoc, Nat.reduceAdd, Nat.reduceMul, Nat.zero_add, Nat.add_zero, Nat.mul_one, Nat.zero_mul, true_and, and_true, eq_self, df7, hrc, D10_works, g_works_run hw2, hpart, D10_few, g_few_run hd2 (hpn _), hf']
    exact ⟨_, rfl⟩
end
end Go.Proofs.YtbmcloahjiimeaaGreatDoor.Dm
