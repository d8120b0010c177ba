/- Who is beaten; who wins. -/
import Derived.Test.YtbmcloahjiimeaaGreatDoorMuD
set_option linter.all false
namespace Go.Proofs.YtbmcloahjiimeaaGreatDoor.Dm
open Go Go.Dm
noncomputable section

/-! ### Rows that are read -/
def rowAt (h : H) (s : DV) (sz : Nat) : Option (List DV) :=
  match s with
  | .slice none 0 0 _ => some []
  | .slice (some (d, o)) len _ _ => bif Nat.ble (d + 1) h.nx && Nat.ble len 281474976710656 then rdN h d o (len * sz) else none
  | _ => none
theorem rowAt_inv {h : H} {s : DV} {sz : Nat} {cs : List DV} (hr : rowAt h s sz = some cs) :
    (∃ op, s = .slice none 0 0 op ∧ cs = []) ∨ (∃ d o len cap op cs' e ro, s = .slice (some (d, o)) len cap op ∧ d < h.nx ∧ h.get d = some (.cells cs' e ro) ∧ lpart cs' o (len * sz) = some cs ∧ cs.length = len * sz ∧ len ≤ 281474976710656) := by
  unfold rowAt at hr
  split at hr
  · rename_i op; cases hr; exact .inl ⟨op, rfl, rfl⟩
  · rename_i d o len cap op
    rw [ble_dec, ble_dec] at hr
    by_cases hd : d + 1 ≤ h.nx ∧ len ≤ 281474976710656
    · simp only [hd.1, hd.2, decide_true, Bool.and_true, cond_true] at hr
      unfold rdN at hr
      split at hr
      · rename_i cs' e ro hg
        refine .inr ⟨d, o, len, cap, op, cs', e, ro, rfl, by omega, hg, hr, ?_, hd.2⟩
        obtain ⟨h1, h2⟩ := lpart_some hr
        rw [h2, List.length_take, List.length_drop]
        rcases h1 with h1 | h1
        · omega
        · rw [h1]; simp
      · cases hr
    · rw [show (decide (d + 1 ≤ h.nx) && decide (len ≤ 281474976710656)) = false by
        rw [Bool.and_eq_false_iff]; simp only [decide_eq_false_iff_not]; omega] at hr
      cases hr
  · cases hr
theorem lpart_sub {cs' cs : List DV} {o n i sz : Nat} (hp : lpart cs' o n = some cs) (hi : i * sz + sz ≤ n) : lpart cs' (o + i * sz) sz = some ((cs.drop (i * sz)).take sz) := by
  obtain ⟨h1, h2⟩ := lpart_some hp
  rw [lpart_eq]
  by_cases hz : sz = 0
  · subst hz; simp
  · rcases h1 with h1 | h1
    · rw [if_pos (.inl (by omega)), h2, List.drop_take, List.drop_drop, List.take_take]
      rw [Nat.min_eq_left (by omega)]
    · omega
theorem rowAt_sub {h h2 : H} (hs : Sub h h2) {s : DV} {sz : Nat} {cs : List DV} (hr : rowAt h s sz = some cs) : rowAt h2 s sz = some cs := by
  unfold rowAt at hr ⊢
  split at hr
  · exact hr
  · rename_i d o len cap op
    rw [ble_dec, ble_dec] at hr ⊢
    by_cases hd : d + 1 ≤ h.nx ∧ len ≤ 281474976710656
    · have hd2 : d + 1 ≤ h2.nx := Nat.le_trans hd.1 hs.nx
      simp only [hd.1, hd.2, decide_true, Bool.and_true, cond_true] at hr
      simp only [hd2, hd.2, decide_true, Bool.and_true, cond_true]
      unfold rdN at hr ⊢
      rw [hs.get d (by omega)]; exact hr
    · rw [show (decide (d + 1 ≤ h.nx) && decide (len ≤ 281474976710656)) = false by
        rw [Bool.and_eq_false_iff]; simp only [decide_eq_false_iff_not]; omega] at hr
      cases hr
  · cases hr

/-! ### Pairs -/
def pairsOf : List DV → Option (List (Int × Int))
  | [] => some []
  | .int .i64 a :: .int .i64 b :: r => (pairsOf r).map ((a, b) :: ·)
  | _ => none
theorem pairsOf_inv {cs : List DV} {l : List (Int × Int)} (h : pairsOf cs = some l) : cs = l.flatMap fun p => [DV.int .i64 p.1, DV.int .i64 p.2] := by
    induction l generalizing cs with
    | nil =>
      unfold pairsOf at h
      split at h
      · rfl
      · rename_i a b r
        cases hr : pairsOf r with
        | none => rw [hr] at h; cases h
        | some l2 => rw [hr] at h; cases h
      · cases h
    | cons p l ih =>
      unfold pairsOf at h
      split at h
      · cases h
      · rename_i a b r
        cases hr : pairsOf r with
        | none => rw [hr] at h; cases h
        | some l2 => rw [hr] at h; cases h; rw [ih hr]; rfl
      · cases h
theorem pairs_len (l : List (Int × Int)) : (l.flatMap fun p => [DV.int .i64 p.1, DV.int .i64 p.2]).length = l.length * 2 := by
  induction l with
  | nil => rfl
  | cons p l ih => simp [ih]; omega
theorem pairs_get : ∀ (l : List (Int × Int)) (i : Nat) (p : Int × Int), l[i]? = some p → ((l.flatMap fun p => [DV.int .i64 p.1, DV.int .i64 p.2]).drop (i * 2)).take 2 = [DV.int .i64 p.1, DV.int .i64 p.2]
  | [], i, p, h => by simp at h
  | q :: l, 0, p, h => by simp at h; subst h; rfl
  | q :: l, i + 1, p, h => by
    have := pairs_get l i p (by simpa using h)
    rw [show (i + 1) * 2 = i * 2 + 2 by omega]
    simpa using this
def pairsAt (h : H) (s : DV) : Option (List (Int × Int)) := (rowAt h s 2).bind pairsOf
theorem pairsAt_inv {h : H} {s : DV} {l : List (Int × Int)} (hp : pairsAt h s = some l) : ∃ cs, rowAt h s 2 = some cs ∧ cs = l.flatMap fun p => [DV.int .i64 p.1, DV.int .i64 p.2] := by
  unfold pairsAt at hp
  cases hr : rowAt h s 2 with
  | none => rw [hr] at hp; cases hp
  | some cs => rw [hr] at hp; exact ⟨cs, rfl, pairsOf_inv hp⟩
theorem pairsAt_sub {h h2 : H} (hs : Sub h h2) {s : DV} {l : List (Int × Int)} (hp : pairsAt h s = some l) : pairsAt h2 s = some l := by
  unfold pairsAt at hp ⊢
  cases hr : rowAt h s 2 with
  | none => rw [hr] at hp; cases hp
  | some cs => rw [hr] at hp; rw [rowAt_sub hs hr]; exact hp
theorem pairsAt_len {h : H} {s : DV} {l : List (Int × Int)} (hp : pairsAt h s = some l) : lenK .slice s h = some l.length ∧ l.length ≤ 281474976710656 := by
  obtain ⟨cs, h1, h2⟩ := pairsAt_inv hp
  have h3 := pairs_len l
  rw [← h2] at h3
  rcases rowAt_inv h1 with ⟨op, rfl, rfl⟩ | ⟨d, o, len, cap, op, cs', e, ro, rfl, -, -, -, h4, h5⟩
  · simp at h3; have : l.length = 0 := by omega
    rw [this]; exact ⟨rfl, by omega⟩
  · have : l.length = len := by omega
    rw [this]; exact ⟨rfl, h5⟩

def beatenF (t : Nat) (l : List (Int × Int)) (n : Int) : Bool := l.any fun p => decide (p.2 = n) && !decide (p.1 = n) && hasF t p.1
/-- the closure's answer: by what the two variables that it holds are -/
def g_beaten : Ext := fun args h => match args with
  | [.int .i64 n, .ptr (some (a, 0)), .ptr (some (b, 0))] => bif Nat.ble (a + 1) h.nx && Nat.ble (b + 1) h.nx then (match h.get a, h.get b with
    | some (.cells [s] _ _), some (.cells [.int .u64 t] _ _) => (match setN t, pairsAt h s with
      | some t, some l => some (.bool (beatenF t l n), h)
      | _, _ => none)
    | _, _ => none) else none
  | _ => none
theorem g_beaten_inv {args : List DV} {h h' : H} {v : DV} (hg : g_beaten args h = some (v, h')) : ∃ (n : Int) (a b : Nat) (s : DV) (t : Nat) (l : List (Int × Int)) (e1 e2 : Nat) (r1 r2 : Bool), args = [.int .i64 n, .ptr (some (a, 0)), .ptr (some (b, 0))] ∧ a < h.nx ∧ b < h.nx ∧
    h.get a = some (.cells [s] e1 r1) ∧ h.get b = some (.cells [.int .u64 (t : Int)] e2 r2) ∧ t < 2 ^ 64 ∧ pairsAt h s = some l ∧ v = .bool (beatenF t l n) ∧ h' = h := by
  unfold g_beaten at hg
  split at hg
  · rename_i n a b
    rw [ble_dec, ble_dec] at hg
    by_cases hab : a + 1 ≤ h.nx ∧ b + 1 ≤ h.nx
    · simp only [hab.1, hab.2, decide_true, Bool.and_true, cond_true] at hg
      split at hg
      · rename_i s e1 r1 t e2 r2 ha hb
        split at hg
        · rename_i t' l ht hl
          cases hg
          obtain ⟨rfl, h2⟩ := setN_inv ht
          exact ⟨n, a, b, s, t', l, e1, e2, r1, r2, rfl, by omega, by omega, ha, hb, h2, hl, rfl, rfl⟩
        · cases hg
      · cases hg
    · rw [show (decide (a + 1 ≤ h.nx) && decide (b + 1 ≤ h.nx)) = false by
        rw [Bool.and_eq_false_iff]; simp only [decide_eq_false_iff_not]; omega] at hg
      cases hg
  · cases hg
def D5 : Env := D4.add 42 g_list
theorem D5_fn : D5.fn = fnE := rfl
theorem D5_has : D5.ext 22 = some (ext1 (g_si hasV)) := _root_.id rfl
theorem c_beaten : Contract D5 41 g_beaten := by
  intro args h v h' hg fr hrc
  obtain ⟨n, a, b, s, t, l, e1, e2, r1, r2, rfl, ha, hb, hga, hgb, ht, hl, rfl, rfl⟩ := g_beaten_inv hg
  obtain ⟨hlen, hmax⟩ := pairsAt_len hl
  refine wp_call (F := df41) (of_fn D5_fn fe41) (Nat.le_of_ble_eq_true rfl) ?_
  simp (decide := true) (disch := first | assumption | exact rfl | decide | omega | (simp only [H.nx_put, H.nx_new, H.nx_kill]; done) | (simp only [H.nx_put, H.nx_new, H.nx_kill]; omega)) only [go_sem, Nat.add_assoc, Nat.reduceAdd, Nat.reduceMul, Nat.zero_add, Nat.add_zero, Nat.mul_one, Nat.zero_mul, true_and, and_true, eq_self, df41, hrc, hga, hlen]
  refine Go.Dm.wp_loop (fun k fr hh => ∃ (i : Nat) (tm : T DV), fr = ⟨41, 30, tm, [], none, none⟩ ∧ tm.get s0 = some (.int .i64 n) ∧ tm.get s2 = some (.ptr (some (b, 0))) ∧ tm.get s7 = some s ∧ tm.get s8 = some (.int .i64 (l.length : Int)) ∧ tm.get s9 = some (.int .i64 (i : Int)) ∧
    i ≤ l.length ∧ k = l.length - i ∧ Sub h' hh ∧ (∀ p ∈ l.take i, (decide (p.2 = n) && !decide (p.1 = n) && hasF t p.1) = false)) ?_ l.length _ _ ?_
  · intro k fr hh ⟨i, tm, hfr, t0, t2, t7, t8, t9, hi, hk, hsub, hno⟩
    subst hfr
    by_cases hin : i < l.length
    · obtain ⟨p, hp⟩ : ∃ p, l[i]? = some p := ⟨l[i], by simp [hin]⟩
      obtain ⟨cs, hcs, hcl⟩ := pairsAt_inv hl
      rcases rowAt_inv hcs with ⟨op, rfl, rfl⟩ | ⟨d, o, len, cap, op, cs', e, ro, rfl, hd, hgd, hpart, hcsl, -⟩
      · have := pairs_len l; rw [← hcl] at this; simp at this; omega
      have hll : l.length = len := by have := pairs_len l; rw [← hcl] at this; omega
      have hgd' : hh.get d = some (.cells cs' e ro) := by rw [hsub.get d hd]; exact hgd
      have hgb' : hh.get b = some (.cells [.int .u64 (t : Int)] e2 r2) := by rw [hsub.get b hb]; exact hgb
      have hnx := hsub.nx
      have hlp : lpart cs' (o + i * 2) 2 = some [.int .i64 p.1, .int .i64 p.2] := by
        rw [lpart_sub hpart (by omega), hcl, pairs_get l i p hp]
      have hiB : inB (i : Int) len = some i := inB_of_lt (by omega)
      have hlt : ((i : Int) < (l.length : Int)) := by omega
      have hadd : IntKind.i64.wrap ((i : Int) + 1) = ((i + 1 : Nat) : Int) := by
        rw [wrap_i64 (by omega) (by omega)]; rfl
      have next : ∀ (hh2 : H) (tm2 : T DV), Sub h' hh2 → tm2.get s0 = some (.int .i64 n) → tm2.get s2 = some (.ptr (some (b, 0))) → tm2.get s7 = some (.slice (some (d, o)) len cap op) → tm2.get s8 = some (.int .i64 (l.length : Int)) → tm2.get s9 = some (.int .i64 ((i + 1 : Nat) : Int)) → (decide (p.2 = n) && !decide (p.1 = n) && hasF t p.1) = false →
          ∃ k', k' < k ∧ ∃ (i : Nat) (tm : T DV), (⟨41, 30, tm2, [], none, none⟩ : Fr) = ⟨41, 30, tm, [], none, none⟩ ∧ tm.get s0 = some (.int .i64 n) ∧ tm.get s2 = some (.ptr (some (b, 0))) ∧ tm.get s7 = some (.slice (some (d, o)) len cap op) ∧ tm.get s8 = some (.int .i64 (l.length : Int)) ∧ tm.get s9 = some (.int .i64 (i : Int)) ∧
            i ≤ l.length ∧ k' = l.length - i ∧ Sub h' hh2 ∧ (∀ p ∈ l.take i, (decide (p.2 = n) && !decide (p.1 = n) && hasF t p.1) = false) := by
        intro hh2 tm2 q1 q2 q3 q4 q5 q6 q7
        refine ⟨l.length - (i + 1), by omega, i + 1, tm2, rfl, q2, q3, q4, q5, q6, by omega, rfl, q1, fun p' hp' => ?_⟩
        rw [List.take_add_one, hp] at hp'
        rcases List.mem_append.1 hp' with hp' | hp'
        · exact hno p' hp'
        · simp at hp'; subst hp'; exact q7
      by_cases c1 : p.2 = n
      · by_cases c2 : p.1 = n
        · simp (decide := true) (disch := first | assumption | exact rfl | decide | omega | (simp only [H.nx_put, H.nx_new, H.nx_kill]; done) | (simp only [H.nx_put, H.nx_new, H.nx_kill]; omega)) only [go_sem, Nat.add_assoc, Nat.reduceAdd, Nat.reduceMul, Nat.zero_add, Nat.add_zero, Nat.mul_one, Nat.zero_mul, true_and, and_true, eq_self, t0, t2, t7, t8, t9, hlt, hiB, hgd', hlp, c1, c2, hadd]
          refine next _ _ ?_ ?_ ?_ ?_ ?_ ?_ (by simp [c1, c2])
          · repeat (first | exact hsub | refine Sub.put ?_ (by omega) _ | refine Sub.kill ?_ (by omega) | refine Sub.new' ?_ _)
          · simp (decide := true) (disch := first | assumption | exact rfl | decide | omega | (simp only [H.nx_put, H.nx_new, H.nx_kill]; done) | (simp only [H.nx_put, H.nx_new, H.nx_kill]; omega)) only [go_sem, Nat.add_assoc, Nat.reduceAdd, Nat.reduceMul, Nat.zero_add, Nat.add_zero, Nat.mul_one, Nat.zero_mul, true_and, and_true, eq_self, t0]
          · simp (decide := true) (disch := first | assumption | exact rfl | decide | omega | (simp only [H.nx_put, H.nx_new, H.nx_kill]; done) | (simp only [H.nx_put, H.nx_new, H.nx_kill]; omega)) only [go_sem, Nat.add_assoc, Nat.reduceAdd, Nat.reduceMul, Nat.zero_add, Nat.add_zero, Nat.mul_one, Nat.zero_mul, true_and, and_true, eq_self, t2]
          · simp (decide := true) (disch := first | assumption | exact rfl | decide | omega | (simp only [H.nx_put, H.nx_new, H.nx_kill]; done) | (simp only [H.nx_put, H.nx_new, H.nx_kill]; omega)) only [go_sem, Nat.add_assoc, Nat.reduceAdd, Nat.reduceMul, Nat.zero_add, Nat.add_zero, Nat.mul_one, Nat.zero_mul, true_and, and_true, eq_self, t7]
          · simp (decide := true) (disch := first | assumption | exact rfl | decide | omega | (simp only [H.nx_put, H.nx_new, H.nx_kill]; done) | (simp only [H.nx_put, H.nx_new, H.nx_kill]; omega)) only [go_sem, Nat.add_assoc, Nat.reduceAdd, Nat.reduceMul, Nat.zero_add, Nat.add_zero, Nat.mul_one, Nat.zero_mul, true_and, and_true, eq_self, t8]
          · simp (decide := true) (disch := first | assumption | exact rfl | decide | omega | (simp only [H.nx_put, H.nx_new, H.nx_kill]; done) | (simp only [H.nx_put, H.nx_new, H.nx_kill]; omega)) only [go_sem, Nat.add_assoc, Nat.reduceAdd, Nat.reduceMul, Nat.zero_add, Nat.add_zero, Nat.mul_one, Nat.zero_mul, true_and, and_true, eq_self, t9]
        · by_cases c3 : hasF t p.1 = true
          · simp (decide := true) (disch := first | assumption | exact rfl | decide | omega | (simp only [H.nx_put, H.nx_new, H.nx_kill]; done) | (simp only [H.nx_put, H.nx_new, H.nx_kill]; omega)) only [go_sem, Nat.add_assoc, Nat.reduceAdd, Nat.reduceMul, Nat.zero_add, Nat.add_zero, Nat.mul_one, Nat.zero_mul, true_and, and_true, eq_self, t0, t2, t7, t8, t9, hlt, hiB, hgd', hgb', hlp, c1, c2, c3, hadd, D5_has, g_si_run ht, hasV]
            refine left_plain ?_ rfl ?_
            · rw [show beatenF t l n = true from List.any_eq_true.2 ⟨p, List.mem_of_getElem? hp, by simp [c1, c2, c3]⟩]
            · repeat (first | exact hsub | refine Sub.put ?_ (by omega) _ | refine Sub.kill ?_ (by omega) | refine Sub.new' ?_ _)
          · have c3' : hasF t p.1 = false := by simpa using c3
            simp (decide := true) (disch := first | assumption | exact rfl | decide | omega | (simp only [H.nx_put, H.nx_new, H.nx_kill]; done) | (simp only [H.nx_put, H.nx_new, H.nx_kill]; omega)) only [go_sem, Nat.add_assoc, Nat.reduceAdd, Nat.reduceMul, Nat.zero_add, Nat.add_zero, Nat.mul_one, Nat.zero_mul, true_and, and_true, eq_self, t0, t2, t7, t8, t9, hlt, hiB, hgd', hgb', hlp, c1, c2, c3', hadd, D5_has, g_si_run ht, hasV]
            refine next _ _ ?_ ?_ ?_ ?_ ?_ ?_ (by simp [c3'])
            · repeat (first | exact hsub | refine Sub.put ?_ (by omega) _ | refine Sub.kill ?_ (by omega) | refine Sub.new' ?_ _)
            · simp (decide := true) (disch := first | assumption | exact rfl | decide | omega | (simp only [H.nx_put, H.nx_new, H.nx_kill]; done) | (simp only [H.nx_put, H.nx_new, H.nx_kill]; omega)) only [go_sem, Nat.add_assoc, Nat.reduceAdd, Nat.reduceMul, Nat.zero_add, Nat.add_zero, Nat.mul_one, Nat.zero_mul, true_and, and_true, eq_self, t0]
            · simp (decide := true) (disch := first | assumption | exact rfl | decide | omega | (simp only [H.nx_put, H.nx_new, H.nx_kill]; done) | (simp only [H.nx_put, H.nx_new, H.nx_kill]; omega)) only [go_sem, Nat.add_assoc, Nat.reduceAdd, Nat.reduceMul, Nat.zero_add, Nat.add_zero, Nat.mul_one, Nat.zero_mul, true_and, and_true, eq_self, t2]
            · simp (decide := true) (disch := first | assumption | exact rfl | decide | omega | (simp only [H.nx_put, H.nx_new, H.nx_kill]; done) | (simp only [H.nx_put, H.nx_new, H.nx_kill]; omega)) only [go_sem, Nat.add_assoc, Nat.reduceAdd, Nat.reduceMul, Nat.zero_add, Nat.add_zero, Nat.mul_one, Nat.zero_mul, true_and, and_true, eq_self, t7]
            · simp (decide := true) (disch := first | assumption | exact rfl | decide | omega | (simp only [H.nx_put, H.nx_new, H.nx_kill]; done) | (simp only [H.nx_put, H.nx_new, H.nx_kill]; omega)) only [go_sem, Nat.add_assoc, Nat.reduceAdd, Nat.reduceMul, Nat.zero_add, Nat.add_zero, Nat.mul_one, Nat.zero_mul, true_and, and_true, eq_self, t8]
            · simp (decide := true) (disch := first | assumption | exact rfl | decide | omega | (simp only [H.nx_put, H.nx_new, H.nx_kill]; done) | (simp only [H.nx_put, H.nx_new, H.nx_kill]; omega)) only [go_sem, Nat.add_assoc, Nat.reduceAdd, Nat.reduceMul, Nat.zero_add, Nat.add_zero, Nat.mul_one, Nat.zero_mul, true_and, and_true, eq_self, t9]
      · simp (decide := true) (disch := first | assumption | exact rfl | decide | omega | (simp only [H.nx_put, H.nx_new, H.nx_kill]; done) | (simp only [H.nx_put, H.nx_new, H.nx_kill]; omega)) only [go_sem, Nat.add_assoc, Nat.reduceAdd, Nat.reduceMul, Nat.zero_add, Nat.add_zero, Nat.mul_one, Nat.zero_mul, true_and, and_true, eq_self, t0, t2, t7, t8, t9, hlt, hiB, hgd', hlp, c1, hadd]
        refine next _ _ ?_ ?_ ?_ ?_ ?_ ?_ (by simp [c1])
        · repeat (first | exact hsub | refine Sub.put ?_ (by omega) _ | refine Sub.kill ?_ (by omega) | refine Sub.new' ?_ _)
        · simp (decide := true) (disch := first | assumption | exact rfl | decide | omega | (simp only [H.nx_put, H.nx_new, H.nx_kill]; done) | (simp only [H.nx_put, H.nx_new, H.nx_kill]; omega)) only [go_sem, Nat.add_assoc, Nat.reduceAdd, Nat.reduceMul, Nat.zero_add, Nat.add_zero, Nat.mul_one, Nat.zero_mul, true_and, and_true, eq_self, t0]
        · simp (decide := true) (disch := first | assumption | exact rfl | decide | omega | (simp only [H.nx_put, H.nx_new, H.nx_kill]; done) | (simp only [H.nx_put, H.nx_new, H.nx_kill]; omega)) only [go_sem, Nat.add_assoc, Nat.reduceAdd, Nat.reduceMul, Nat.zero_add, Nat.add_zero, Nat.mul_one, Nat.zero_mul, true_and, and_true, eq_self, t2]
        · simp (decide := true) (disch := first | assumption | exact rfl | decide | omega | (simp only [H.nx_put, H.nx_new, H.nx_kill]; done) | (simp only [H.nx_put, H.nx_new, H.nx_kill]; omega)) only [go_sem, Nat.add_assoc, Nat.reduceAdd, Nat.reduceMul, Nat.zero_add, Nat.add_zero, Nat.mul_one, Nat.zero_mul, true_and, and_true, eq_self, t7]
        · simp (decide := true) (disch := first | assumption | exact rfl | decide | omega | (simp only [H.nx_put, H.nx_new, H.nx_kill]; done) | (simp only [H.nx_put, H.nx_new, H.nx_kill]; omega)) only [go_sem, Nat.add_assoc, Nat.reduceAdd, Nat.reduceMul, Nat.zero_add, Nat.add_zero, Nat.mul_one, Nat.zero_mul, true_and, and_true, eq_self, t8]
        · simp (decide := true) (disch := first | assumption | exact rfl | decide | omega | (simp only [H.nx_put, H.nx_new, H.nx_kill]; done) | (simp only [H.nx_put, H.nx_new, H.nx_kill]; omega)) only [go_sem, Nat.add_assoc, Nat.reduceAdd, Nat.reduceMul, Nat.zero_add, Nat.add_zero, Nat.mul_one, Nat.zero_mul, true_and, and_true, eq_self, t9]
    · have hlt : ¬ ((i : Int) < (l.length : Int)) := by omega
      simp (decide := true) (disch := first | assumption | exact rfl | decide | omega | (simp only [H.nx_put, H.nx_new, H.nx_kill]; done) | (simp only [H.nx_put, H.nx_new, H.nx_kill]; omega)) only [go_sem, Nat.add_assoc, Nat.reduceAdd, Nat.reduceMul, Nat.zero_add, Nat.add_zero, Nat.mul_one, Nat.zero_mul, true_and, and_true, eq_self, t0, t2, t7, t8, t9, hlt]
      refine left_plain ?_ rfl hsub
      have : beatenF t l n = false := by
        unfold beatenF
        rw [List.any_eq_false]
        intro p hp
        rw [hno p (by rw [List.take_of_length_le (by omega)]; exact hp)]; simp
      rw [this]
  · refine ⟨0, _, rfl, by simp (decide := true) (disch := first | assumption | exact rfl | decide | omega | (simp only [H.nx_put, H.nx_new, H.nx_kill]; done) | (simp only [H.nx_put, H.nx_new, H.nx_kill]; omega)) only [go_sem, Nat.add_assoc, Nat.reduceAdd, Nat.reduceMul, Nat.zero_add, Nat.add_zero, Nat.mul_one, Nat.zero_mul, true_and, and_true, eq_self, s0], by simp (decide := true) (disch := first | assumption | exact rfl | decide | omega | (simp only [H.nx_put, H.nx_new, H.nx_kill]; done) | (simp only [H.nx_put, H.nx_new, H.nx_kill]; omega)) only [go_sem, Nat.add_assoc, Nat.reduceAdd, Nat.reduceMul, Nat.zero_add, Nat.add_zero, Nat.mul_one, Nat.zero_mul, true_and, and_true, eq_self, s0], by simp (decide := true) (disch := first | assumption | exact rfl | decide | omega | (simp only [H.nx_put, H.nx_new, H.nx_kill]; done) | (simp only [H.nx_put, H.nx_new, H.nx_kill]; omega)) only [go_sem, Nat.add_assoc, Nat.reduceAdd, Nat.reduceMul, Nat.zero_add, Nat.add_zero, Nat.mul_one, Nat.zero_mul, true_and, and_true, eq_self, s0], by simp (decide := true) (disch := first | assumption | exact rfl | decide | omega | (simp only [H.nx_put, H.nx_new, H.nx_kill]; done) | (simp only [H.nx_put, H.nx_new, H.nx_kill]; omega)) only [go_sem, Nat.add_assoc, Nat.reduceAdd, Nat.reduceMul, Nat.zero_add, Nat.add_zero, Nat.mul_one, Nat.zero_mul, true_and, and_true, eq_self, s0], by simp (decide := true) (disch := first | assumption | exact rfl | decide | omega | (simp only [H.nx_put, H.nx_new, H.nx_kill]; done) | (simp only [H.nx_put, H.nx_new, H.nx_kill]; omega)) only [go_sem, Nat.add_assoc, Nat.reduceAdd, Nat.reduceMul, Nat.zero_add, Nat.add_zero, Nat.mul_one, Nat.zero_mul, true_and, and_true, eq_self, s0]; rfl, by omega, by omega, Sub.refl _, by simp⟩
end
end Go.Proofs.YtbmcloahjiimeaaGreatDoor.Dm
