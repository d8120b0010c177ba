/- All numbers of a set, as a row: the walk. -/
import Derived.Test.YtbmcloahjiimeaaGreatDoorMuC
set_option linter.all false
namespace Go.Proofs.YtbmcloahjiimeaaGreatDoor.Dm
open Go Go.Dm
noncomputable section

def D4 : Env := D3.add 23 (extT (g_s firstV))
theorem D4_fn : D4.fn = fnE := rfl
theorem D4_first : D4.ext 23 = some (extT (g_s firstV)) := _root_.id rfl
theorem D4_each : D4.ext 69 = none := _root_.id rfl

/-- the slice that has been appended to so far, and where it lies -/
def SlR (h0 h : H) (e : Nat) (acc : List DV) (v : DV) (r : Nat) : Prop :=
  (acc = [] ∧ v = .slice none 0 0 false) ∨ (acc ≠ [] ∧ v = .slice (some (r, 0)) acc.length acc.length true ∧ h.get r = some (.cells acc e false) ∧ h0.nx ≤ r ∧ r < h.nx)

theorem firstF_ne {s : Nat} (h : s ≠ 0) : firstF s = (lowF s : Int) := by unfold firstF; rw [if_neg h]
theorem sub_one {s : Nat} (h : s ≠ 0) (h2 : s < 2 ^ 64) : IntKind.u64.wrap ((s : Int) - 1) = ((s - 1 : Nat) : Int) := by rw [wrap_u64 (by omega) (by omega)]; omega
def listV (s : Nat) (h : H) : DV × H := if s = 0 then (.slice none 0 0 false, h) else (.slice (some (h.nx, 0)) (listF s).length (listF s).length true, h.new (.cells (ints (listF s)) 3 false))
def g_list : Ext := fun args h => bif okH h then (match args with
  | [.int .u64 s] => (setN s).map fun s => listV s h
  | _ => none) else none
theorem g_list_inv {args : List DV} {h h' : H} {v : DV} (hg : g_list args h = some (v, h')) : okH h = true ∧ ∃ s : Nat, s < 2 ^ 64 ∧ args = [.int .u64 (s : Int)] ∧ (v, h') = listV s h := by
  unfold g_list at hg
  cases ho : okH h with
  | false => rw [ho] at hg; cases hg
  | true =>
    rw [ho] at hg
    simp only [cond_true] at hg
    refine ⟨rfl, ?_⟩
    split at hg
    · rename_i s
      cases hs : setN s with
      | none => rw [hs] at hg; cases hg
      | some k => rw [hs] at hg; obtain ⟨rfl, h2⟩ := setN_inv hs; exact ⟨k, h2, rfl, (Option.some.inj hg).symm⟩
    · cases hg
def InvL (h : H) (s : Nat) (Lp : DLoop) (k : Nat) (fr : Fr) (hh : H) : Prop :=
  ∃ (cur : Nat) (acc : List Nat) (vs : DV) (r : Nat) (tm : T DV), fr = ⟨90, 14, tm, [], none, none⟩ ∧ tm.get s0 = some (.func (.yield (h.nx + 3)) [] []) ∧ tm.get s1 = some (.ptr (some (h.nx + 1, 0))) ∧
    Sub h hh ∧ h.nx + 4 ≤ hh.nx ∧ hh.get h.nx = some (.cells [vs] 82 false) ∧ hh.get (h.nx + 1) = some (.cells [.int .u64 (cur : Int)] 28 false) ∧ hh.get (h.nx + 2) = some .dfr ∧ hh.get (h.nx + 3) = some (.loop Lp) ∧
    cur < 2 ^ 64 ∧ acc ++ listF cur = listF s ∧ k = (listF cur).length ∧
    ((acc = [] ∧ vs = .slice none 0 0 false) ∨ (0 < acc.length ∧ vs = .slice (some (r, 0)) acc.length acc.length true ∧ hh.get r = some (.cells (ints acc) 3 false) ∧ h.nx + 4 ≤ r ∧ r < hh.nx))
theorem c_list : Contract D4 42 g_list := by
  intro args h v h' hg fr hrc
  obtain ⟨ho, s, hs, rfl, hvh⟩ := g_list_inv hg
  refine wp_call (F := df42) (of_fn D4_fn fe42) (Nat.le_of_ble_eq_true rfl) ?_
  simp (decide := true) (disch := first | assumption | exact rfl | decide | omega | (simp only [H.nx_put, H.nx_new, H.nx_kill]; done) | (simp only [H.nx_put, H.nx_new, H.nx_kill]; omega)) only [go_sem, Nat.add_assoc, Nat.reduceAdd, Nat.reduceMul, Nat.zero_add, Nat.add_zero, Nat.mul_one, Nat.zero_mul, true_and, and_true, eq_self, df42, hrc, D4_each]
  refine wp_call (F := df69) (of_fn D4_fn fe69) (Nat.le_of_ble_eq_true rfl) ?_
  simp (decide := true) (disch := first | assumption | exact rfl | decide | omega | (simp only [H.nx_put, H.nx_new, H.nx_kill]; done) | (simp only [H.nx_put, H.nx_new, H.nx_kill]; omega)) only [go_sem, Nat.add_assoc, Nat.reduceAdd, Nat.reduceMul, Nat.zero_add, Nat.add_zero, Nat.mul_one, Nat.zero_mul, true_and, and_true, eq_self, df69, D4_each]
  refine wp_rf (fid := 90) (first := []) (caps := [.ptr (some (h.nx + 1, 0))]) ?_ ?_
  · simp (decide := true) (disch := first | assumption | exact rfl | decide | omega | (simp only [H.nx_put, H.nx_new, H.nx_kill]; done) | (simp only [H.nx_put, H.nx_new, H.nx_kill]; omega)) only [go_sem, Nat.add_assoc, Nat.reduceAdd, Nat.reduceMul, Nat.zero_add, Nat.add_zero, Nat.mul_one, Nat.zero_mul, true_and, and_true, eq_self, H.nx_new]
  refine wp_call (F := df90) (of_fn D4_fn fe90) (Nat.le_of_ble_eq_true rfl) ?_
  simp (decide := true) (disch := first | assumption | exact rfl | decide | omega | (simp only [H.nx_put, H.nx_new, H.nx_kill]; done) | (simp only [H.nx_put, H.nx_new, H.nx_kill]; omega)) only [go_sem, Nat.add_assoc, Nat.reduceAdd, Nat.reduceMul, Nat.zero_add, Nat.add_zero, Nat.mul_one, Nat.zero_mul, true_and, and_true, eq_self, df90]
  generalize hLp : DLoop.mk _ _ _ _ _ _ _ _ _ = Lp
  refine Go.Dm.wp_loop (InvL h s Lp) ?_ (listF s).length _ _ ?_
  · intro k fr hh ⟨cur, acc, vs, r, tm, hfr, t0, t1, hsub, hnx, hv, hc, hd, hL, hcur, hacc, hk, hsl⟩
    subst hfr
    by_cases hz : cur = 0
    · subst hz
      simp (decide := true) (disch := first | assumption | exact rfl | decide | omega | (simp only [H.nx_put, H.nx_new, H.nx_kill]; done) | (simp only [H.nx_put, H.nx_new, H.nx_kill]; omega)) only [go_sem, Nat.add_assoc, Nat.reduceAdd, Nat.reduceMul, Nat.zero_add, Nat.add_zero, Nat.mul_one, Nat.zero_mul, true_and, and_true, eq_self, t0, t1, hc, hL]
      subst hLp
      have hd' : ∀ o, (hh.put (h.nx + 3) o).get (h.nx + 2) = some .dfr := fun o => by rw [H.get_put_ne _ _ (by omega)]; exact hd
      rw [listF_zero, List.append_nil] at hacc
      rcases hsl with ⟨rfl, rfl⟩ | ⟨a0, rfl, a1, a2, a3⟩
      · simp (decide := true) (disch := first | assumption | exact rfl | decide | omega | (simp only [H.nx_put, H.nx_new, H.nx_kill]; done) | (simp only [H.nx_put, H.nx_new, H.nx_kill]; omega)) only [go_sem, Nat.add_assoc, Nat.reduceAdd, Nat.reduceMul, Nat.zero_add, Nat.add_zero, Nat.mul_one, Nat.zero_mul, true_and, and_true, eq_self, hv]
        refine wp_unw_coll (hd' _) ?_
        simp (decide := true) (disch := first | assumption | exact rfl | decide | omega | (simp only [H.nx_put, H.nx_new, H.nx_kill]; done) | (simp only [H.nx_put, H.nx_new, H.nx_kill]; omega)) only [go_sem, Nat.add_assoc, Nat.reduceAdd, Nat.reduceMul, Nat.zero_add, Nat.add_zero, Nat.mul_one, Nat.zero_mul, true_and, and_true, eq_self, hv]
        have hs0 : s = 0 := by
          by_cases e : s = 0
          · exact e
          · rw [listF_clr e hs] at hacc; cases hacc
        subst hs0
        obtain ⟨rfl, rfl⟩ : v = .slice none 0 0 false ∧ h' = h := by simp [listV] at hvh; exact hvh
        refine left_plain rfl rfl ?_
        repeat (first | exact hsub | refine Sub.put ?_ (by omega) _ | refine Sub.kill ?_ (by omega))
      · simp (decide := true) (disch := first | assumption | exact rfl | decide | omega | (simp only [H.nx_put, H.nx_new, H.nx_kill]; done) | (simp only [H.nx_put, H.nx_new, H.nx_kill]; omega)) only [go_sem, Nat.add_assoc, Nat.reduceAdd, Nat.reduceMul, Nat.zero_add, Nat.add_zero, Nat.mul_one, Nat.zero_mul, true_and, and_true, eq_self, hv]
        refine wp_unw_coll (hd' _) ?_
        simp (decide := true) (disch := first | assumption | exact rfl | decide | omega | (simp only [H.nx_put, H.nx_new, H.nx_kill]; done) | (simp only [H.nx_put, H.nx_new, H.nx_kill]; omega)) only [go_sem, Nat.add_assoc, Nat.reduceAdd, Nat.reduceMul, Nat.zero_add, Nat.add_zero, Nat.mul_one, Nat.zero_mul, true_and, and_true, eq_self, hv]
        have hs0 : s ≠ 0 := fun e => by subst e; rw [listF_zero] at hacc; rw [hacc] at a0; simp at a0
        obtain ⟨rfl, rfl⟩ : v = .slice (some (h.nx, 0)) acc.length acc.length true ∧ h' = h.new (.cells (ints acc) 3 false) := by simp [listV, hs0, ← hacc] at hvh; exact hvh
        refine left_row ?_ (by omega) ?_ (ints_plain _)
        · repeat (first | exact hsub | refine Sub.put ?_ (by omega) _ | refine Sub.kill ?_ (by omega))
        · simp (decide := true) (disch := first | assumption | exact rfl | decide | omega | (simp only [H.nx_put, H.nx_new, H.nx_kill]; done) | (simp only [H.nx_put, H.nx_new, H.nx_kill]; omega)) only [go_sem, Nat.add_assoc, Nat.reduceAdd, Nat.reduceMul, Nat.zero_add, Nat.add_zero, Nat.mul_one, Nat.zero_mul, true_and, and_true, eq_self, a1]
    · have hz' : ¬ ((cur : Int) = 0) := by omega
      have hl0 := listF_clr hz hcur
      have hl1 : (listF cur).length = (listF (clr cur)).length + 1 := by rw [hl0]; rfl
      have hl2 : (listF s).length ≤ 64 := listW_len _ _ _
      have hl3 : acc.length + (listF cur).length = (listF s).length := by rw [← hacc, List.length_append]
      have hlen : (ints acc).length = acc.length * 1 := by rw [ints_len, Nat.mul_one]
      have e1 := le64 hcur
      have e2 : cur - 1 ≤ maxN .u64 := Nat.le_trans (Nat.sub_le _ _) e1
      simp (decide := true) (disch := first | assumption | exact rfl | decide | omega | (simp only [H.nx_put, H.nx_new, H.nx_kill]; done) | (simp only [H.nx_put, H.nx_new, H.nx_kill]; omega)) only [go_sem, Nat.add_assoc, Nat.reduceAdd, Nat.reduceMul, Nat.zero_add, Nat.add_zero, Nat.mul_one, Nat.zero_mul, true_and, and_true, eq_self, t0, t1, hc, hz', D4_first, extT_eq (okH_sub hsub ho), g_s_run, firstV, firstF_ne hz]
      refine wp_round hL (by subst hLp; rfl) ?_
      subst hLp
      rcases hsl with ⟨rfl, rfl⟩ | ⟨a0, rfl, a1, a2, a3⟩
      · simp (decide := true) (disch := first | assumption | exact rfl | decide | omega | (simp only [H.nx_put, H.nx_new, H.nx_kill]; done) | (simp only [H.nx_put, H.nx_new, H.nx_kill]; omega)) only [go_sem, Nat.add_assoc, Nat.reduceAdd, Nat.reduceMul, Nat.zero_add, Nat.add_zero, Nat.mul_one, Nat.zero_mul, true_and, and_true, eq_self, hL, hv, t0, t1, hc, Nat.reduceMul, sub_one hz hcur]
        refine ⟨_, by omega, clr cur, [lowF cur], .slice (some (hh.nx + 1, 0)) 1 1 true, hh.nx + 1, _, rfl, by simp (decide := true) (disch := first | assumption | exact rfl | decide | omega | (simp only [H.nx_put, H.nx_new, H.nx_kill]; done) | (simp only [H.nx_put, H.nx_new, H.nx_kill]; omega)) only [go_sem, Nat.add_assoc, Nat.reduceAdd, Nat.reduceMul, Nat.zero_add, Nat.add_zero, Nat.mul_one, Nat.zero_mul, true_and, and_true, eq_self, t0], by simp (decide := true) (disch := first | assumption | exact rfl | decide | omega | (simp only [H.nx_put, H.nx_new, H.nx_kill]; done) | (simp only [H.nx_put, H.nx_new, H.nx_kill]; omega)) only [go_sem, Nat.add_assoc, Nat.reduceAdd, Nat.reduceMul, Nat.zero_add, Nat.add_zero, Nat.mul_one, Nat.zero_mul, true_and, and_true, eq_self, t1], ?_, ?_, ?_, ?_, ?_, ?_, clr_lt hcur, ?_, rfl, .inr ⟨by simp, rfl, ?_, by omega, ?_⟩⟩
        · repeat (first | exact hsub | refine Sub.put ?_ (by omega) _ | refine Sub.kill ?_ (by omega) | refine Sub.new' ?_ _)
        · simp only [H.nx_put, H.nx_new, H.nx_kill]; omega
        · simp (decide := true) (disch := first | assumption | exact rfl | decide | omega | (simp only [H.nx_put, H.nx_new, H.nx_kill]; done) | (simp only [H.nx_put, H.nx_new, H.nx_kill]; omega)) only [go_sem, Nat.add_assoc, Nat.reduceAdd, Nat.reduceMul, Nat.zero_add, Nat.add_zero, Nat.mul_one, Nat.zero_mul, true_and, and_true, eq_self, hv]
        · simp (decide := true) (disch := first | assumption | exact rfl | decide | omega | (simp only [H.nx_put, H.nx_new, H.nx_kill]; done) | (simp only [H.nx_put, H.nx_new, H.nx_kill]; omega)) only [go_sem, Nat.add_assoc, Nat.reduceAdd, Nat.reduceMul, Nat.zero_add, Nat.add_zero, Nat.mul_one, Nat.zero_mul, true_and, and_true, eq_self, hc]; rfl
        · simp (decide := true) (disch := first | assumption | exact rfl | decide | omega | (simp only [H.nx_put, H.nx_new, H.nx_kill]; done) | (simp only [H.nx_put, H.nx_new, H.nx_kill]; omega)) only [go_sem, Nat.add_assoc, Nat.reduceAdd, Nat.reduceMul, Nat.zero_add, Nat.add_zero, Nat.mul_one, Nat.zero_mul, true_and, and_true, eq_self, hd]
        · simp (decide := true) (disch := first | assumption | exact rfl | decide | omega | (simp only [H.nx_put, H.nx_new, H.nx_kill]; done) | (simp only [H.nx_put, H.nx_new, H.nx_kill]; omega)) only [go_sem, Nat.add_assoc, Nat.reduceAdd, Nat.reduceMul, Nat.zero_add, Nat.add_zero, Nat.mul_one, Nat.zero_mul, true_and, and_true, eq_self, hL]
        · rw [← hacc, hl0]; rfl
        · simp (decide := true) (disch := first | assumption | exact rfl | decide | omega | (simp only [H.nx_put, H.nx_new, H.nx_kill]; done) | (simp only [H.nx_put, H.nx_new, H.nx_kill]; omega)) only [go_sem, Nat.add_assoc, Nat.reduceAdd, Nat.reduceMul, Nat.zero_add, Nat.add_zero, Nat.mul_one, Nat.zero_mul, true_and, and_true, eq_self, hv]; rfl
        · simp only [H.nx_put, H.nx_new, H.nx_kill]; omega
      · simp (decide := true) (disch := first | assumption | exact rfl | decide | omega | (simp only [H.nx_put, H.nx_new, H.nx_kill]; done) | (simp only [H.nx_put, H.nx_new, H.nx_kill]; omega)) only [go_sem, Nat.add_assoc, Nat.reduceAdd, Nat.reduceMul, Nat.zero_add, Nat.add_zero, Nat.mul_one, Nat.zero_mul, true_and, and_true, eq_self, hL, hv, t0, t1, hc, a1, Nat.reduceMul, sub_one hz hcur]
        refine ⟨_, by omega, clr cur, acc ++ [lowF cur], .slice (some (hh.nx + 1, 0)) (acc.length + 1) (acc.length + 1) true, hh.nx + 1, _, rfl, by simp (decide := true) (disch := first | assumption | exact rfl | decide | omega | (simp only [H.nx_put, H.nx_new, H.nx_kill]; done) | (simp only [H.nx_put, H.nx_new, H.nx_kill]; omega)) only [go_sem, Nat.add_assoc, Nat.reduceAdd, Nat.reduceMul, Nat.zero_add, Nat.add_zero, Nat.mul_one, Nat.zero_mul, true_and, and_true, eq_self, t0], by simp (decide := true) (disch := first | assumption | exact rfl | decide | omega | (simp only [H.nx_put, H.nx_new, H.nx_kill]; done) | (simp only [H.nx_put, H.nx_new, H.nx_kill]; omega)) only [go_sem, Nat.add_assoc, Nat.reduceAdd, Nat.reduceMul, Nat.zero_add, Nat.add_zero, Nat.mul_one, Nat.zero_mul, true_and, and_true, eq_self, t1], ?_, ?_, ?_, ?_, ?_, ?_, clr_lt hcur, ?_, rfl, .inr ⟨by simp, by simp, ?_, by omega, ?_⟩⟩
        · repeat (first | exact hsub | refine Sub.put ?_ (by omega) _ | refine Sub.kill ?_ (by omega) | refine Sub.new' ?_ _)
        · simp only [H.nx_put, H.nx_new, H.nx_kill]; omega
        · simp (decide := true) (disch := first | assumption | exact rfl | decide | omega | (simp only [H.nx_put, H.nx_new, H.nx_kill]; done) | (simp only [H.nx_put, H.nx_new, H.nx_kill]; omega)) only [go_sem, Nat.add_assoc, Nat.reduceAdd, Nat.reduceMul, Nat.zero_add, Nat.add_zero, Nat.mul_one, Nat.zero_mul, true_and, and_true, eq_self, hv]
        · simp (decide := true) (disch := first | assumption | exact rfl | decide | omega | (simp only [H.nx_put, H.nx_new, H.nx_kill]; done) | (simp only [H.nx_put, H.nx_new, H.nx_kill]; omega)) only [go_sem, Nat.add_assoc, Nat.reduceAdd, Nat.reduceMul, Nat.zero_add, Nat.add_zero, Nat.mul_one, Nat.zero_mul, true_and, and_true, eq_self, hc]; rfl
        · simp (decide := true) (disch := first | assumption | exact rfl | decide | omega | (simp only [H.nx_put, H.nx_new, H.nx_kill]; done) | (simp only [H.nx_put, H.nx_new, H.nx_kill]; omega)) only [go_sem, Nat.add_assoc, Nat.reduceAdd, Nat.reduceMul, Nat.zero_add, Nat.add_zero, Nat.mul_one, Nat.zero_mul, true_and, and_true, eq_self, hd]
        · simp (decide := true) (disch := first | assumption | exact rfl | decide | omega | (simp only [H.nx_put, H.nx_new, H.nx_kill]; done) | (simp only [H.nx_put, H.nx_new, H.nx_kill]; omega)) only [go_sem, Nat.add_assoc, Nat.reduceAdd, Nat.reduceMul, Nat.zero_add, Nat.add_zero, Nat.mul_one, Nat.zero_mul, true_and, and_true, eq_self, hL]
        · rw [← hacc, hl0]; simp
        · simp (decide := true) (disch := first | assumption | exact rfl | decide | omega | (simp only [H.nx_put, H.nx_new, H.nx_kill]; done) | (simp only [H.nx_put, H.nx_new, H.nx_kill]; omega)) only [go_sem, Nat.add_assoc, Nat.reduceAdd, Nat.reduceMul, Nat.zero_add, Nat.add_zero, Nat.mul_one, Nat.zero_mul, true_and, and_true, eq_self, hv]; rw [ints_append]; rfl
        · simp only [H.nx_put, H.nx_new, H.nx_kill]; omega
  · refine ⟨s, [], .slice none 0 0 false, 0, _, rfl, by simp (decide := true) (disch := first | assumption | exact rfl | decide | omega | (simp only [H.nx_put, H.nx_new, H.nx_kill]; done) | (simp only [H.nx_put, H.nx_new, H.nx_kill]; omega)) only [go_sem, Nat.add_assoc, Nat.reduceAdd, Nat.reduceMul, Nat.zero_add, Nat.add_zero, Nat.mul_one, Nat.zero_mul, true_and, and_true, eq_self, s0], by simp (decide := true) (disch := first | assumption | exact rfl | decide | omega | (simp only [H.nx_put, H.nx_new, H.nx_kill]; done) | (simp only [H.nx_put, H.nx_new, H.nx_kill]; omega)) only [go_sem, Nat.add_assoc, Nat.reduceAdd, Nat.reduceMul, Nat.zero_add, Nat.add_zero, Nat.mul_one, Nat.zero_mul, true_and, and_true, eq_self, s1], ?_, ?_, ?_, ?_, ?_, ?_, hs, rfl, rfl, .inl ⟨rfl, rfl⟩⟩
    · exact (((Sub.new _ _).new' _).new' _).new' _
    · simp only [H.nx_put, H.nx_new, H.nx_kill]; omega
    · simp (decide := true) (disch := first | assumption | exact rfl | decide | omega | (simp only [H.nx_put, H.nx_new, H.nx_kill]; done) | (simp only [H.nx_put, H.nx_new, H.nx_kill]; omega)) only [go_sem, Nat.add_assoc, Nat.reduceAdd, Nat.reduceMul, Nat.zero_add, Nat.add_zero, Nat.mul_one, Nat.zero_mul, true_and, and_true, eq_self, s0]
    · simp (decide := true) (disch := first | assumption | exact rfl | decide | omega | (simp only [H.nx_put, H.nx_new, H.nx_kill]; done) | (simp only [H.nx_put, H.nx_new, H.nx_kill]; omega)) only [go_sem, Nat.add_assoc, Nat.reduceAdd, Nat.reduceMul, Nat.zero_add, Nat.add_zero, Nat.mul_one, Nat.zero_mul, true_and, and_true, eq_self, s0]
    · simp (decide := true) (disch := first | assumption | exact rfl | decide | omega | (simp only [H.nx_put, H.nx_new, H.nx_kill]; done) | (simp only [H.nx_put, H.nx_new, H.nx_kill]; omega)) only [go_sem, Nat.add_assoc, Nat.reduceAdd, Nat.reduceMul, Nat.zero_add, Nat.add_zero, Nat.mul_one, Nat.zero_mul, true_and, and_true, eq_self, s0]
    · simp (decide := true) (disch := first | assumption | exact rfl | decide | omega | (simp only [H.nx_put, H.nx_new, H.nx_kill]; done) | (simp only [H.nx_put, H.nx_new, H.nx_kill]; omega)) only [go_sem, Nat.add_assoc, Nat.reduceAdd, Nat.reduceMul, Nat.zero_add, Nat.add_zero, Nat.mul_one, Nat.zero_mul, true_and, and_true, eq_self, s0]
end
end Go.Proofs.YtbmcloahjiimeaaGreatDoor.Dm
