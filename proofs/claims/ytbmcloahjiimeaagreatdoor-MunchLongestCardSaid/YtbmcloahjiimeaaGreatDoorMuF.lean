/- Who wins: the walk. -/
import Derived.Test.YtbmcloahjiimeaaGreatDoorMuE
set_option linter.all false
namespace Go.Proofs.YtbmcloahjiimeaaGreatDoor.Dm
open Go Go.Dm
noncomputable section

def winStep (t : Nat) (l : List (Int × Int)) (o n : Nat) : Nat := if beatenF t l (n : Int) = true then o else o ||| bitN (n : Int)
def winF (t : Nat) (l : List (Int × Int)) : Nat := (listF t).foldl (winStep t l) 0
theorem winStep_lt {t : Nat} {l : List (Int × Int)} {o n : Nat} (h : o < 2 ^ 64) : winStep t l o n < 2 ^ 64 := by
  unfold winStep; split
  · exact h
  · exact or_lt h (bitN_lt _)
theorem fold_lt {t : Nat} {l : List (Int × Int)} : ∀ (x : List Nat) (o : Nat), o < 2 ^ 64 → x.foldl (winStep t l) o < 2 ^ 64
  | [], o, h => h
  | n :: x, o, h => fold_lt x _ (winStep_lt h)
theorem winF_lt (t : Nat) (l : List (Int × Int)) : winF t l < 2 ^ 64 := fold_lt _ _ (by decide)
def g_sp (f : Nat → List (Int × Int) → DV) : Ext := fun args h => bif okH h then (match args with
  | [.int .u64 t, s] => (match setN t, pairsAt h s with
    | some t, some l => some (f t l, h)
    | _, _ => none)
  | _ => none) else none
theorem g_sp_inv {f : Nat → List (Int × Int) → DV} {args : List DV} {h h' : H} {v : DV} (hg : g_sp f args h = some (v, h')) : ∃ (t : Nat) (s : DV) (l : List (Int × Int)), args = [.int .u64 (t : Int), s] ∧ t < 2 ^ 64 ∧ pairsAt h s = some l ∧ okH h = true ∧ v = f t l ∧ h' = h := by
  unfold g_sp at hg
  cases ho : okH h with
  | false => rw [ho] at hg; cases hg
  | true =>
    rw [ho] at hg
    simp only [cond_true] at hg
    split at hg
    · rename_i t s
      split at hg
      · rename_i t' l ht hl
        cases hg
        obtain ⟨rfl, h2⟩ := setN_inv ht
        exact ⟨t', s, l, rfl, h2, hl, rfl, rfl, rfl⟩
      · cases hg
    · cases hg
theorem g_sp_run {f : Nat → List (Int × Int) → DV} {h : H} (ho : okH h = true) {t : Nat} (ht : t < 2 ^ 64) {s : DV} {l : List (Int × Int)} (hl : pairsAt h s = some l) : g_sp f [.int .u64 (t : Int), s] h = some (f t l, h) := by
  unfold g_sp; rw [ho]; simp only [cond_true, setN_of ht, hl]
def winV (t : Nat) (l : List (Int × Int)) : DV := .int .u64 (winF t l : Int)
def D6 : Env := D5.add 41 g_beaten
theorem D6_fn : D6.fn = fnE := rfl
theorem D6_list : D6.ext 42 = some g_list := _root_.id rfl
theorem D6_with : D6.ext 24 = some (ext1 (g_si withV)) := _root_.id rfl
theorem D6_beaten : D6.ext 41 = some g_beaten := _root_.id rfl
theorem g_list_run {h : H} (ho : okH h = true) {s : Nat} (hs : s < 2 ^ 64) : g_list [.int .u64 (s : Int)] h = some (listV s h) := by
  unfold g_list; rw [ho]; simp [setN_of hs]
theorem g_beaten_run {h : H} {n : Int} {a b t : Nat} {s : DV} {l : List (Int × Int)} {e1 e2 : Nat} {r1 r2 : Bool} (ha : a < h.nx) (hb : b < h.nx) (hga : h.get a = some (.cells [s] e1 r1)) (hgb : h.get b = some (.cells [.int .u64 (t : Int)] e2 r2)) (ht : t < 2 ^ 64) (hl : pairsAt h s = some l) :
    g_beaten [.int .i64 n, .ptr (some (a, 0)), .ptr (some (b, 0))] h = some (.bool (beatenF t l n), h) := by
  unfold g_beaten
  simp only [ble_t (show a + 1 ≤ h.nx by omega), ble_t (show b + 1 ≤ h.nx by omega), Bool.and_true, cond_true, hga, hgb, setN_of ht, hl]
theorem ints_get : ∀ (l : List Nat) (i n : Nat), l[i]? = some n → ((ints l).drop (i * 1)).take 1 = [DV.int .i64 (n : Int)]
  | [], i, n, h => by simp at h
  | q :: l, 0, n, h => by simp at h; subst h; rfl
  | q :: l, i + 1, n, h => by
    have := ints_get l i n (by simpa using h)
    simpa [ints] using this
theorem listV_row {s : Nat} {h : H} (hs : s < 2 ^ 64) : ∃ (S : DV) (h1 : H), listV s h = (S, h1) ∧ Sub h h1 ∧ (∀ hh, lenK .slice S hh = some (listF s).length) ∧ rowAt h1 S 1 = some (ints (listF s)) := by
  by_cases e : s = 0
  · subst e
    exact ⟨.slice none 0 0 false, h, rfl, Sub.refl h, fun _ => by rw [listF_zero]; rfl, by rw [listF_zero]; rfl⟩
  · have hl : (listF s).length ≤ 64 := listW_len _ _ _
    refine ⟨.slice (some (h.nx, 0)) (listF s).length (listF s).length true, h.new (.cells (ints (listF s)) 3 false), by simp [listV, e], Sub.new _ _, fun _ => rfl, ?_⟩
    unfold rowAt
    simp only [ble_t (show h.nx + 1 ≤ (h.new (.cells (ints (listF s)) 3 false)).nx by rw [H.nx_new]; omega), ble_t (show (listF s).length ≤ 281474976710656 by omega), Bool.and_true, cond_true]
    unfold rdN
    rw [H.get_new]
    simp only [Nat.mul_one]
    rw [← ints_len]
    exact lpart_all _
theorem fold_take {α β : Type} (f : β → α → β) : ∀ (l : List α) (o : β) (i : Nat) (n : α), l[i]? = some n → (l.take (i + 1)).foldl f o = f ((l.take i).foldl f o) n := by
  intro l o i n h
  rw [List.take_add_one, h, List.foldl_append]; rfl
theorem c_win : Contract D6 16 (g_sp winV) := by
  intro args h v h' hg fr hrc
  obtain ⟨t, s, l, rfl, ht, hl, ho, rfl, rfl⟩ := g_sp_inv hg
  obtain ⟨hnx4, -⟩ := okH_inv ho
  refine wp_call (F := df16) (of_fn D6_fn fe16) (Nat.le_of_ble_eq_true rfl) ?_
  have hbx : ∀ (e : Nat) (hh : H), vBox e s hh = .val (.ptr (some (hh.nx, 0))) (hh.new (.cells [s] e false)) := by
    intro e hh
    obtain ⟨cs, hcs, -⟩ := pairsAt_inv hl
    rcases rowAt_inv hcs with ⟨op, rfl, rfl⟩ | ⟨d, o, len, cap, op, cs', e, ro, rfl, -⟩ <;> rfl
  have hsub1 : Sub h' ((h'.new (.cells [.int .u64 (t : Int)] 28 false)).new (.cells [s] 29 false)) := (Sub.new _ _).new' _
  simp (decide := true) (disch := first | assumption | exact rfl | decide | omega | (simp only [H.nx_put, H.nx_new, H.nx_kill]; done) | (simp only [H.nx_put, H.nx_new, H.nx_kill]; omega)) only [go_sem, Nat.add_assoc, Nat.reduceAdd, Nat.reduceMul, Nat.zero_add, Nat.add_zero, Nat.mul_one, Nat.zero_mul, true_and, and_true, eq_self, df16, hrc, hbx, D6_list, g_list_run (okH_sub hsub1 ho) ht]
  obtain ⟨S, h1, hS, hsub2, hlen, hrow⟩ := listV_row (s := t) (h := (h'.new (.cells [.int .u64 (t : Int)] 28 false)).new (.cells [s] 29 false)) ht
  have hl64 : (listF t).length ≤ 64 := listW_len _ _ _
  have g0 : h1.get h'.nx = some (.cells [.int .u64 (t : Int)] 28 false) := by rw [hsub2.get _ (by simp only [H.nx_new]; omega)]; simp (decide := true) (disch := first | assumption | exact rfl | decide | omega | (simp only [H.nx_put, H.nx_new, H.nx_kill]; done) | (simp only [H.nx_put, H.nx_new, H.nx_kill]; omega)) only [go_sem, Nat.add_assoc, Nat.reduceAdd, Nat.reduceMul, Nat.zero_add, Nat.add_zero, Nat.mul_one, Nat.zero_mul, true_and, and_true, eq_self, ht]
  have g1 : h1.get (h'.nx + 1) = some (.cells [s] 29 false) := by rw [hsub2.get _ (by simp only [H.nx_new]; omega)]; simp (decide := true) (disch := first | assumption | exact rfl | decide | omega | (simp only [H.nx_put, H.nx_new, H.nx_kill]; done) | (simp only [H.nx_put, H.nx_new, H.nx_kill]; omega)) only [go_sem, Nat.add_assoc, Nat.reduceAdd, Nat.reduceMul, Nat.zero_add, Nat.add_zero, Nat.mul_one, Nat.zero_mul, true_and, and_true, eq_self, ht]
  have hs01 : Sub h' h1 := hsub1.trans hsub2
  have hnx1 : h'.nx + 2 ≤ h1.nx := by have := hsub2.nx; simp only [H.nx_new] at this; omega
  have hl1' := pairsAt_sub hs01 hl
  clear hsub2
  simp (decide := true) (disch := first | assumption | exact rfl | decide | omega | (simp only [H.nx_put, H.nx_new, H.nx_kill]; done) | (simp only [H.nx_put, H.nx_new, H.nx_kill]; omega)) only [go_sem, Nat.add_assoc, Nat.reduceAdd, Nat.reduceMul, Nat.zero_add, Nat.add_zero, Nat.mul_one, Nat.zero_mul, true_and, and_true, eq_self, hS, hlen]
  refine Go.Dm.wp_loop (fun k fr hh => ∃ (i : Nat) (tm : T DV), fr = ⟨16, 26, tm, [], none, none⟩ ∧ tm.get s5 = some (.func (.func 41) [] [.ptr (some (h'.nx + 1, 0)), .ptr (some (h'.nx, 0))]) ∧ tm.get s6 = some (.int .u64 (((listF t).take i).foldl (winStep t l) 0 : Nat)) ∧
    tm.get s11 = some S ∧ tm.get s12 = some (.int .i64 ((listF t).length : Int)) ∧ tm.get s13 = some (.int .i64 (i : Int)) ∧ i ≤ (listF t).length ∧ k = (listF t).length - i ∧ Sub h1 hh) ?_ (listF t).length _ _ ?_
  · intro k fr hh ⟨i, tm, hfr, t5, t6, t11, t12, t13, hi, hk, hsub⟩
    subst hfr
    by_cases hin : i < (listF t).length
    · obtain ⟨n, hp⟩ : ∃ n, (listF t)[i]? = some n := ⟨(listF t)[i], by simp [hin]⟩
      have hlt : ((i : Int) < ((listF t).length : Int)) := by omega
      have hadd : IntKind.i64.wrap ((i : Int) + 1) = ((i + 1 : Nat) : Int) := by rw [wrap_i64 (by omega) (by omega)]; rfl
      rcases rowAt_inv hrow with ⟨op, rfl, hnil⟩ | ⟨d, o, len, cap, op, cs', e, ro, rfl, hd, hgd, hpart, hcsl, -⟩
      · have := ints_len (listF t); rw [hnil] at this; simp at this; omega
      have hll : (listF t).length = len := by rw [ints_len] at hcsl; omega
      have hgd' : hh.get d = some (.cells cs' e ro) := by rw [hsub.get d hd]; exact hgd
      have g0' : hh.get h'.nx = some (.cells [.int .u64 (t : Int)] 28 false) := by rw [hsub.get _ (by omega)]; exact g0
      have g1' : hh.get (h'.nx + 1) = some (.cells [s] 29 false) := by rw [hsub.get _ (by omega)]; exact g1
      have hnx := hsub.nx
      have hlp : lpart cs' (o + i) 1 = some [.int .i64 (n : Int)] := by
        have := lpart_sub (i := i) (sz := 1) hpart (by omega)
        rw [ints_get _ i n hp] at this; simpa using this
      have hl1 : lget cs' (o + i) = some (.int .i64 (n : Int)) := by
        rw [lget_eq]
        obtain ⟨q1, q2⟩ := lpart_some hlp
        have q3 : (cs'.drop (o + i)).take 1 = [DV.int .i64 (n : Int)] := q2.symm
        have : (cs'.drop (o + i))[0]? = some (.int .i64 (n : Int)) := by
          have := congrArg (fun x : List DV => x[0]?) q3
          simpa using this
        simpa using this
      have hiB : inB (i : Int) len = some i := inB_of_lt (by omega)
      have hb := g_beaten_run (n := (n : Int)) (show h'.nx + 1 < hh.nx by omega) (show h'.nx < hh.nx by omega) g1' g0' ht (pairsAt_sub hsub hl1')
      have hf := fold_take (winStep t l) (listF t) 0 i n hp
      have hflt : ((listF t).take i).foldl (winStep t l) 0 < 2 ^ 64 := fold_lt _ _ (by decide)
      have next : ∀ (hh2 : H) (tm2 : T DV), Sub h1 hh2 → tm2.get s5 = some (.func (.func 41) [] [.ptr (some (h'.nx + 1, 0)), .ptr (some (h'.nx, 0))]) → tm2.get s6 = some (.int .u64 (winStep t l (((listF t).take i).foldl (winStep t l) 0) n : Nat)) → tm2.get s11 = some (.slice (some (d, o)) len cap op) → tm2.get s12 = some (.int .i64 ((listF t).length : Int)) → tm2.get s13 = some (.int .i64 ((i + 1 : Nat) : Int)) →
          ∃ k', k' < k ∧ ∃ (i : Nat) (tm : T DV), (⟨16, 26, tm2, [], none, none⟩ : Fr) = ⟨16, 26, tm, [], none, none⟩ ∧ tm.get s5 = some (.func (.func 41) [] [.ptr (some (h'.nx + 1, 0)), .ptr (some (h'.nx, 0))]) ∧ tm.get s6 = some (.int .u64 (((listF t).take i).foldl (winStep t l) 0 : Nat)) ∧
            tm.get s11 = some (.slice (some (d, o)) len cap op) ∧ tm.get s12 = some (.int .i64 ((listF t).length : Int)) ∧ tm.get s13 = some (.int .i64 (i : Int)) ∧ i ≤ (listF t).length ∧ k' = (listF t).length - i ∧ Sub h1 hh2 := by
        intro hh2 tm2 q1 q2 q3 q4 q5 q6
        exact ⟨(listF t).length - (i + 1), by omega, i + 1, tm2, rfl, q2, by rw [hf]; exact q3, q4, q5, q6, by omega, rfl, q1⟩
      cases hbt : beatenF t l (n : Int) with
      | true =>
        rw [hbt] at hb
        simp (decide := true) (disch := first | assumption | exact rfl | decide | omega | (simp only [H.nx_put, H.nx_new, H.nx_kill]; done) | (simp only [H.nx_put, H.nx_new, H.nx_kill]; omega)) only [go_sem, Nat.add_assoc, Nat.reduceAdd, Nat.reduceMul, Nat.zero_add, Nat.add_zero, Nat.mul_one, Nat.zero_mul, true_and, and_true, eq_self, t5, t6, t11, t12, t13, hlt, hiB, hgd', hl1, D6_beaten, hb, hadd]
        refine next _ _ ?_ ?_ ?_ ?_ ?_ ?_
        · exact hsub
        · simp (decide := true) (disch := first | assumption | exact rfl | decide | omega | (simp only [H.nx_put, H.nx_new, H.nx_kill]; done) | (simp only [H.nx_put, H.nx_new, H.nx_kill]; omega)) only [go_sem, Nat.add_assoc, Nat.reduceAdd, Nat.reduceMul, Nat.zero_add, Nat.add_zero, Nat.mul_one, Nat.zero_mul, true_and, and_true, eq_self, t5]
        · simp (decide := true) (disch := first | assumption | exact rfl | decide | omega | (simp only [H.nx_put, H.nx_new, H.nx_kill]; done) | (simp only [H.nx_put, H.nx_new, H.nx_kill]; omega)) only [go_sem, Nat.add_assoc, Nat.reduceAdd, Nat.reduceMul, Nat.zero_add, Nat.add_zero, Nat.mul_one, Nat.zero_mul, true_and, and_true, eq_self, t6]; rw [winStep, if_pos hbt]
        · simp (decide := true) (disch := first | assumption | exact rfl | decide | omega | (simp only [H.nx_put, H.nx_new, H.nx_kill]; done) | (simp only [H.nx_put, H.nx_new, H.nx_kill]; omega)) only [go_sem, Nat.add_assoc, Nat.reduceAdd, Nat.reduceMul, Nat.zero_add, Nat.add_zero, Nat.mul_one, Nat.zero_mul, true_and, and_true, eq_self, t11]
        · simp (decide := true) (disch := first | assumption | exact rfl | decide | omega | (simp only [H.nx_put, H.nx_new, H.nx_kill]; done) | (simp only [H.nx_put, H.nx_new, H.nx_kill]; omega)) only [go_sem, Nat.add_assoc, Nat.reduceAdd, Nat.reduceMul, Nat.zero_add, Nat.add_zero, Nat.mul_one, Nat.zero_mul, true_and, and_true, eq_self, t12]
        · simp (decide := true) (disch := first | assumption | exact rfl | decide | omega | (simp only [H.nx_put, H.nx_new, H.nx_kill]; done) | (simp only [H.nx_put, H.nx_new, H.nx_kill]; omega)) only [go_sem, Nat.add_assoc, Nat.reduceAdd, Nat.reduceMul, Nat.zero_add, Nat.add_zero, Nat.mul_one, Nat.zero_mul, true_and, and_true, eq_self, t13]
      | false =>
        rw [hbt] at hb
        simp (decide := true) (disch := first | assumption | exact rfl | decide | omega | (simp only [H.nx_put, H.nx_new, H.nx_kill]; done) | (simp only [H.nx_put, H.nx_new, H.nx_kill]; omega)) only [go_sem, Nat.add_assoc, Nat.reduceAdd, Nat.reduceMul, Nat.zero_add, Nat.add_zero, Nat.mul_one, Nat.zero_mul, true_and, and_true, eq_self, t5, t6, t11, t12, t13, hlt, hiB, hgd', hl1, D6_beaten, hb, hadd, D6_with, g_si_run hflt, withV]
        refine next _ _ ?_ ?_ ?_ ?_ ?_ ?_
        · exact hsub
        · simp (decide := true) (disch := first | assumption | exact rfl | decide | omega | (simp only [H.nx_put, H.nx_new, H.nx_kill]; done) | (simp only [H.nx_put, H.nx_new, H.nx_kill]; omega)) only [go_sem, Nat.add_assoc, Nat.reduceAdd, Nat.reduceMul, Nat.zero_add, Nat.add_zero, Nat.mul_one, Nat.zero_mul, true_and, and_true, eq_self, t5]
        · simp (decide := true) (disch := first | assumption | exact rfl | decide | omega | (simp only [H.nx_put, H.nx_new, H.nx_kill]; done) | (simp only [H.nx_put, H.nx_new, H.nx_kill]; omega)) only [go_sem, Nat.add_assoc, Nat.reduceAdd, Nat.reduceMul, Nat.zero_add, Nat.add_zero, Nat.mul_one, Nat.zero_mul, true_and, and_true, eq_self, t6]; rw [winStep, if_neg (by simp [hbt])]
        · simp (decide := true) (disch := first | assumption | exact rfl | decide | omega | (simp only [H.nx_put, H.nx_new, H.nx_kill]; done) | (simp only [H.nx_put, H.nx_new, H.nx_kill]; omega)) only [go_sem, Nat.add_assoc, Nat.reduceAdd, Nat.reduceMul, Nat.zero_add, Nat.add_zero, Nat.mul_one, Nat.zero_mul, true_and, and_true, eq_self, t11]
        · simp (decide := true) (disch := first | assumption | exact rfl | decide | omega | (simp only [H.nx_put, H.nx_new, H.nx_kill]; done) | (simp only [H.nx_put, H.nx_new, H.nx_kill]; omega)) only [go_sem, Nat.add_assoc, Nat.reduceAdd, Nat.reduceMul, Nat.zero_add, Nat.add_zero, Nat.mul_one, Nat.zero_mul, true_and, and_true, eq_self, t12]
        · simp (decide := true) (disch := first | assumption | exact rfl | decide | omega | (simp only [H.nx_put, H.nx_new, H.nx_kill]; done) | (simp only [H.nx_put, H.nx_new, H.nx_kill]; omega)) only [go_sem, Nat.add_assoc, Nat.reduceAdd, Nat.reduceMul, Nat.zero_add, Nat.add_zero, Nat.mul_one, Nat.zero_mul, true_and, and_true, eq_self, t13]
    · have hlt : ¬ ((i : Int) < ((listF t).length : Int)) := by omega
      simp (decide := true) (disch := first | assumption | exact rfl | decide | omega | (simp only [H.nx_put, H.nx_new, H.nx_kill]; done) | (simp only [H.nx_put, H.nx_new, H.nx_kill]; omega)) only [go_sem, Nat.add_assoc, Nat.reduceAdd, Nat.reduceMul, Nat.zero_add, Nat.add_zero, Nat.mul_one, Nat.zero_mul, true_and, and_true, eq_self, t5, t6, t11, t12, t13, hlt]
      refine left_plain ?_ rfl (hs01.trans hsub)
      rw [List.take_of_length_le (by omega)]; rfl
  · refine ⟨0, _, rfl, by simp (decide := true) (disch := first | assumption | exact rfl | decide | omega | (simp only [H.nx_put, H.nx_new, H.nx_kill]; done) | (simp only [H.nx_put, H.nx_new, H.nx_kill]; omega)) only [go_sem, Nat.add_assoc, Nat.reduceAdd, Nat.reduceMul, Nat.zero_add, Nat.add_zero, Nat.mul_one, Nat.zero_mul, true_and, and_true, eq_self, ht], by simp (decide := true) (disch := first | assumption | exact rfl | decide | omega | (simp only [H.nx_put, H.nx_new, H.nx_kill]; done) | (simp only [H.nx_put, H.nx_new, H.nx_kill]; omega)) only [go_sem, Nat.add_assoc, Nat.reduceAdd, Nat.reduceMul, Nat.zero_add, Nat.add_zero, Nat.mul_one, Nat.zero_mul, true_and, and_true, eq_self, ht]; rfl, by simp (decide := true) (disch := first | assumption | exact rfl | decide | omega | (simp only [H.nx_put, H.nx_new, H.nx_kill]; done) | (simp only [H.nx_put, H.nx_new, H.nx_kill]; omega)) only [go_sem, Nat.add_assoc, Nat.reduceAdd, Nat.reduceMul, Nat.zero_add, Nat.add_zero, Nat.mul_one, Nat.zero_mul, true_and, and_true, eq_self, ht], by simp (decide := true) (disch := first | assumption | exact rfl | decide | omega | (simp only [H.nx_put, H.nx_new, H.nx_kill]; done) | (simp only [H.nx_put, H.nx_new, H.nx_kill]; omega)) only [go_sem, Nat.add_assoc, Nat.reduceAdd, Nat.reduceMul, Nat.zero_add, Nat.add_zero, Nat.mul_one, Nat.zero_mul, true_and, and_true, eq_self, ht], by simp (decide := true) (disch := first | assumption | exact rfl | decide | omega | (simp only [H.nx_put, H.nx_new, H.nx_kill]; done) | (simp only [H.nx_put, H.nx_new, H.nx_kill]; omega)) only [go_sem, Nat.add_assoc, Nat.reduceAdd, Nat.reduceMul, Nat.zero_add, Nat.add_zero, Nat.mul_one, Nat.zero_mul, true_and, and_true, eq_self, ht]; rfl, by omega, by omega, Sub.refl _⟩
end
end Go.Proofs.YtbmcloahjiimeaaGreatDoor.Dm
