/- The longest piece: the walk. -/
import Derived.Test.YtbmcloahjiimeaaGreatDoorMuJ
set_option linter.all false
namespace Go.Proofs.YtbmcloahjiimeaaGreatDoor.Dm
open Go Go.Dm
noncomputable section

@[go_sem] theorem thenQ_exc (k : Fr → H → Prop) (Q : R → Prop) (e : DExit) (fr : Fr) (h : H) : thenQ k Q (.exc e fr h) = Q (.exc e fr h) := _root_.id rfl
@[go_sem] theorem thenQ_nrm (k : Fr → H → Prop) (Q : R → Prop) (fr : Fr) (h : H) : thenQ k Q (.nrm fr h) = k fr h := _root_.id rfl
def D9 : Env := (D8.add 26 g_run).add 36 g_little
theorem D9_fn : D9.fn = fnE := rfl
theorem D9_go : D9.ext 37 = some g_go := _root_.id rfl
theorem D9_run : D9.ext 26 = some g_run := _root_.id rfl
theorem D9_little : D9.ext 36 = some g_little := _root_.id rfl
theorem D9_meet : D9.ext 25 = some (ext1 (g_ss meetV)) := _root_.id rfl

/-! ### few -/
def fewF (D : Dfa) (s : List Nat) (l : List (Int × Int)) : Bool := littleF D && decide (s.length ≤ 40) && decide (l.length ≤ 40)
def g_few : Ext := fun args h => match args with
  | [d, .str s, ov] => match dfaAt h d, pairsAt h ov with
    | some D, some l => some (.bool (fewF D s l), h)
    | _, _ => none
  | _ => none
theorem g_few_inv {args : List DV} {h h' : H} {v : DV} (hg : g_few args h = some (v, h')) : ∃ d s ov D l, args = [d, .str s, ov] ∧ dfaAt h d = some D ∧ pairsAt h ov = some l ∧ v = .bool (fewF D s l) ∧ h' = h := by
  unfold g_few at hg
  split at hg
  · rename_i d s ov
    split at hg
    · rename_i D l hd hl
      cases hg; exact ⟨d, s, ov, D, l, rfl, hd, hl, rfl, rfl⟩
    · cases hg
  · cases hg
theorem g_few_run {h : H} {d ov : DV} {D : Dfa} {s : List Nat} {l : List (Int × Int)} (hd : dfaAt h d = some D) (hl : pairsAt h ov = some l) : g_few [d, .str s, ov] h = some (.bool (fewF D s l), h) := by
  unfold g_few
  simp only [hd, hl]
theorem c_few : Contract D9 10 g_few := by
  intro args h v h' hg fr hrc
  obtain ⟨d, s, ov, D, pl, rfl, hd, hl, rfl, rfl⟩ := g_few_inv hg
  obtain ⟨l, n, t, ns, rfl, I⟩ := dfaAt_inv hd
  have hpart := I.part
  have hd2 := dfaAt_sub (Sub.new h' (.cells l 26 false)) hd
  obtain ⟨hlen, hmax⟩ := pairsAt_len (pairsAt_sub (Sub.new h' (.cells l 26 false)) hl)
  refine wp_call (F := df10) (of_fn D9_fn fe10) (Nat.le_of_ble_eq_true rfl) ?_
  by_cases c1 : littleF D = true
  · by_cases c2 : (s.length : Int) ≤ 40
    · by_cases c3 : (pl.length : Int) ≤ 40
      · simp (decide := true) (disch := first | assumption | exact rfl | decide | omega | (simp only [H.nx_put, H.nx_new, H.nx_kill]; done) | (simp only [H.nx_put, H.nx_new, H.nx_kill]; omega)) only [go_sem, Nat.add_assoc, Nat.reduceAdd, Nat.reduceMul, Nat.zero_add, Nat.add_zero, Nat.mul_one, Nat.zero_mul, true_and, and_true, eq_self, df10, hrc, hpart, D9_little, g_little_run hd2, hlen, c1, c2, c3]
        refine left_plain ?_ (by rfl) (Sub.new _ _)
        rw [show fewF D s pl = true by unfold fewF; rw [c1, show decide (s.length ≤ 40) = true by simp; omega, show decide (pl.length ≤ 40) = true by simp; omega]; rfl]
      · simp (decide := true) (disch := first | assumption | exact rfl | decide | omega | (simp only [H.nx_put, H.nx_new, H.nx_kill]; done) | (simp only [H.nx_put, H.nx_new, H.nx_kill]; omega)) only [go_sem, Nat.add_assoc, Nat.reduceAdd, Nat.reduceMul, Nat.zero_add, Nat.add_zero, Nat.mul_one, Nat.zero_mul, true_and, and_true, eq_self, df10, hrc, hpart, D9_little, g_little_run hd2, hlen, c1, c2, c3]
        refine left_plain ?_ (by rfl) (Sub.new _ _)
        rw [show fewF D s pl = false by unfold fewF; rw [show decide (pl.length ≤ 40) = false by simp; omega]; simp]
    · simp (decide := true) (disch := first | assumption | exact rfl | decide | omega | (simp only [H.nx_put, H.nx_new, H.nx_kill]; done) | (simp only [H.nx_put, H.nx_new, H.nx_kill]; omega)) only [go_sem, Nat.add_assoc, Nat.reduceAdd, Nat.reduceMul, Nat.zero_add, Nat.add_zero, Nat.mul_one, Nat.zero_mul, true_and, and_true, eq_self, df10, hrc, hpart, D9_little, g_little_run hd2, hlen, c1, c2]
      refine left_plain ?_ (by rfl) (Sub.new _ _)
      rw [show fewF D s pl = false by unfold fewF; rw [show decide (s.length ≤ 40) = false by simp; omega]; simp]
  · have c1' : littleF D = false := by simpa using c1
    simp (decide := true) (disch := first | assumption | exact rfl | decide | omega | (simp only [H.nx_put, H.nx_new, H.nx_kill]; done) | (simp only [H.nx_put, H.nx_new, H.nx_kill]; omega)) only [go_sem, Nat.add_assoc, Nat.reduceAdd, Nat.reduceMul, Nat.zero_add, Nat.add_zero, Nat.mul_one, Nat.zero_mul, true_and, and_true, eq_self, df10, hrc, hpart, D9_little, g_little_run hd2, hlen, c1']
    refine left_plain ?_ (by rfl) (Sub.new _ _)
    rw [show fewF D s pl = false by unfold fewF; rw [c1']; rfl]

/-! ### Longest -/
def bestF (D : Dfa) (s : List Nat) (a may : Nat) : Nat → Nat × Int
  | 0 => (0, (a : Int))
  | j + 1 => if runF D ((s.drop a).take (j + 1)) &&& may ≠ 0 then (runF D ((s.drop a).take (j + 1)) &&& may, ((a + (j + 1) : Nat) : Int)) else bestF D s a may j
def longF (D : Dfa) (s : List Nat) (at_ : Int) (may : Nat) : Nat × Int := if 0 ≤ at_ ∧ at_ ≤ s.length then bestF D s at_.toNat may (s.length - at_.toNat) else (0, at_)
theorem goF_neg {D : Dfa} {a : Int} (h : a < 0) (b : Nat) : goF D a b = -1 := if_pos (.inl h)
theorem goF_range (D : Dfa) (a : Int) (b : Nat) : -1 ≤ goF D a b ∧ goF D a b < max 0 D.nxt.length := by
  unfold goF
  split
  · omega
  · simp only
    split
    · omega
    · split <;> omega
theorem stF_neg {D : Dfa} {x : List Nat} (h : stF D x < 0) : ∀ y : List Nat, stF D (x ++ y) < 0
  | [] => by rwa [List.append_nil]
  | b :: y => by
    have h1 : stF D (x ++ [b]) < 0 := by
      unfold stF at h ⊢
      rw [List.foldl_append]
      show goF D _ b < 0
      rw [goF_neg h]; decide
    have := stF_neg h1 y
    rwa [List.append_assoc] at this
theorem runF_neg {D : Dfa} {x : List Nat} (h : stF D x < 0) : runF D x = 0 := if_pos (.inl h)
theorem bestF_neg {D : Dfa} {s : List Nat} {a may j : Nat} (h : stF D ((s.drop a).take j) < 0) : ∀ k, bestF D s a may (j + k) = bestF D s a may j
  | 0 => rfl
  | k + 1 => by
    have h1 : stF D ((s.drop a).take (j + k + 1)) < 0 := by
      have := stF_neg h (((s.drop a).drop j).take (k + 1))
      rw [← List.take_add] at this
      rwa [show j + k + 1 = j + (k + 1) by omega]
    show (if runF D ((s.drop a).take (j + k + 1)) &&& may ≠ 0 then _ else bestF D s a may (j + k)) = _
    rw [runF_neg h1, if_neg (by simp)]
    exact bestF_neg h k
theorem bestF_lt {D : Dfa} {s : List Nat} {a may : Nat} (hm : may < 2 ^ 64) : ∀ j, (bestF D s a may j).1 < 2 ^ 64
  | 0 => by show (0 : Nat) < 2 ^ 64; omega
  | j + 1 => by
    unfold bestF; split
    · exact Nat.lt_of_le_of_lt Nat.and_le_right hm
    · exact bestF_lt hm j
def pieceDV (p : Nat × Int) : DV := .agg [.int .u64 (p.1 : Int), .int .i64 p.2]
def g_long : Ext := fun args h => match args with
  | [d, .str s, .int .i64 a, .int .u64 m] => match dfaAt h d, setN m with
    | some D, some m => bif okS s then some (pieceDV (longF D s a m), h) else none
    | _, _ => none
  | _ => none
theorem g_long_inv {args : List DV} {h h' : H} {v : DV} (hg : g_long args h = some (v, h')) : ∃ d s a m D, args = [d, .str s, .int .i64 a, .int .u64 ((m : Nat) : Int)] ∧ dfaAt h d = some D ∧ m < 2 ^ 64 ∧ okS s = true ∧ v = pieceDV (longF D s a m) ∧ h' = h := by
  unfold g_long at hg
  split at hg
  · rename_i d s a m
    split at hg
    · rename_i D m' hd hm
      cases ho : okS s with
      | false => rw [ho] at hg; cases hg
      | true =>
        rw [ho] at hg; cases hg
        obtain ⟨rfl, h2⟩ := setN_inv hm
        exact ⟨d, s, a, m', D, rfl, hd, h2, ho, rfl, rfl⟩
    · cases hg
  · cases hg
theorem g_long_run {h : H} {d : DV} {D : Dfa} (hd : dfaAt h d = some D) {s : List Nat} (ho : okS s = true) (a : Int) {m : Nat} (hm : m < 2 ^ 64) : g_long [d, .str s, .int .i64 a, .int .u64 (m : Int)] h = some (pieceDV (longF D s a m), h) := by
  unfold g_long
  simp only [hd, ho, setN_of hm, cond_true]
theorem c_long : Contract D9 12 g_long := by
  intro args h v h' hg fr hrc
  obtain ⟨d, s, at_, may, D, rfl, hd, hm, ho, rfl, rfl⟩ := g_long_inv hg
  obtain ⟨hbs, hsl⟩ := okS_inv ho
  obtain ⟨l, n, t, ns, rfl, I⟩ := dfaAt_inv hd
  have hln := I.nxt
  have hlt := I.tag
  have hsam := I.sam
  have hpart := I.part
  have htl := fun hh => I.tlen hh
  refine wp_call (F := df12) (of_fn D9_fn fe12) (Nat.le_of_ble_eq_true rfl) ?_
  by_cases hin : 0 ≤ at_ ∧ at_ ≤ s.length
  · obtain ⟨a, rfl⟩ : ∃ a : Nat, at_ = (a : Int) := ⟨at_.toNat, by omega⟩
    have hlong : longF D s (a : Int) may = bestF D s a may (s.length - a) := by
      unfold longF; rw [if_pos hin, Int.toNat_natCast]
    simp (decide := true) (disch := first | assumption | exact rfl | decide | omega | (simp only [H.nx_put, H.nx_new, H.nx_kill]; done) | (simp only [H.nx_put, H.nx_new, H.nx_kill]; omega)) only [go_sem, Nat.add_assoc, Nat.reduceAdd, Nat.reduceMul, Nat.zero_add, Nat.add_zero, Nat.mul_one, Nat.zero_mul, true_and, and_true, eq_self, df12, hrc]
    refine Go.Dm.wp_loop (fun k fr hh => ∃ (j : Nat) (tm : T DV), fr = ⟨12, 59, tm, [], none, none⟩ ∧ tm.get s1 = some (.str s) ∧ tm.get s3 = some (.int .u64 (may : Int)) ∧ tm.get s4 = some (.ptr (some (h'.nx, 0))) ∧ tm.get s8 = some (.ptr (some (h'.nx + 1, 0))) ∧ tm.get s9 = some (.ptr (some (h'.nx + 2, 0))) ∧
      tm.get s10 = some (.int .i64 (stF D ((s.drop a).take j))) ∧ tm.get s11 = some (.int .i64 ((a + j : Nat) : Int)) ∧ a + j ≤ s.length ∧ k = s.length - a - j ∧ Sub h' hh ∧ h'.nx + 2 < hh.nx ∧ hh.get h'.nx = some (.cells l 26 false) ∧
      hh.get (h'.nx + 1) = some (.cells [.int .u64 0, .int .i64 0] 35 false) ∧ hh.get (h'.nx + 2) = some (.cells [.int .u64 ((bestF D s a may j).1 : Int), .int .i64 (bestF D s a may j).2] 35 false)) ?_ (s.length - a) _ _ ?_
    · intro k fr hh ⟨j, tm, hfr, t1, t3, t4, t8, t9, t10, t11, hj, hk, hsub, hnx, hb4, hb8, hb9⟩
      subst hfr
      have h0 : (0 : Int) ≤ ((a + j : Nat) : Int) := by omega
      by_cases hlt1 : a + j < s.length
      · have hlt' : (((a + j : Nat) : Int) < (s.length : Int)) := by omega
        by_cases hX : 0 ≤ stF D ((s.drop a).take j)
        · obtain ⟨b, hb⟩ : ∃ b, s[a + j]? = some b := ⟨s[a + j], by simp [hlt1]⟩
          have hlb : lget s (a + j) = some b := by rw [lget_eq]; exact hb
          have hb2 := hbs b (List.mem_of_getElem? hb)
          have hst : stF D ((s.drop a).take (j + 1)) = goF D (stF D ((s.drop a).take j)) b := stF_take (by rw [List.getElem?_drop]; exact hb)
          have hadd : IntKind.i64.wrap (((a + j : Nat) : Int) + 1) = ((a + (j + 1) : Nat) : Int) := by
            rw [wrap_i64 (by omega) (by omega)]; rfl
          have hd2 := dfaAt_sub hsub hd
          have hrange := goF_range D (stF D ((s.drop a).take j)) b
          by_cases c1 : goF D (stF D ((s.drop a).take j)) b < 0
          · have hbest : bestF D s a may (j + 1) = bestF D s a may j := by
              show (if runF D ((s.drop a).take (j + 1)) &&& may ≠ 0 then _ else _) = _
              rw [runF_neg (by rw [hst]; exact c1), if_neg (by simp)]
            simp (decide := true) (disch := first | assumption | exact rfl | decide | omega | (simp only [H.nx_put, H.nx_new, H.nx_kill]; done) | (simp only [H.nx_put, H.nx_new, H.nx_kill]; omega)) only [go_sem, Nat.add_assoc, Nat.reduceAdd, Nat.reduceMul, Nat.zero_add, Nat.add_zero, Nat.mul_one, Nat.zero_mul, true_and, and_true, eq_self, t1, t3, t4, t8, t9, t10, t11, h0, hlt', hX, hb4, hb8, hb9, hpart, hlb, D9_go, g_go_run hd2 _ hb2, hadd, hsam, c1]
            refine ⟨s.length - a - (j + 1), by omega, j + 1, _, rfl, by simp (decide := true) (disch := first | assumption | exact rfl | decide | omega | (simp only [H.nx_put, H.nx_new, H.nx_kill]; done) | (simp only [H.nx_put, H.nx_new, H.nx_kill]; omega)) only [go_sem, Nat.add_assoc, Nat.reduceAdd, Nat.reduceMul, Nat.zero_add, Nat.add_zero, Nat.mul_one, Nat.zero_mul, true_and, and_true, eq_self, t1], by simp (decide := true) (disch := first | assumption | exact rfl | decide | omega | (simp only [H.nx_put, H.nx_new, H.nx_kill]; done) | (simp only [H.nx_put, H.nx_new, H.nx_kill]; omega)) only [go_sem, Nat.add_assoc, Nat.reduceAdd, Nat.reduceMul, Nat.zero_add, Nat.add_zero, Nat.mul_one, Nat.zero_mul, true_and, and_true, eq_self, t3], by simp (decide := true) (disch := first | assumption | exact rfl | decide | omega | (simp only [H.nx_put, H.nx_new, H.nx_kill]; done) | (simp only [H.nx_put, H.nx_new, H.nx_kill]; omega)) only [go_sem, Nat.add_assoc, Nat.reduceAdd, Nat.reduceMul, Nat.zero_add, Nat.add_zero, Nat.mul_one, Nat.zero_mul, true_and, and_true, eq_self, t4], by simp (decide := true) (disch := first | assumption | exact rfl | decide | omega | (simp only [H.nx_put, H.nx_new, H.nx_kill]; done) | (simp only [H.nx_put, H.nx_new, H.nx_kill]; omega)) only [go_sem, Nat.add_assoc, Nat.reduceAdd, Nat.reduceMul, Nat.zero_add, Nat.add_zero, Nat.mul_one, Nat.zero_mul, true_and, and_true, eq_self, t8], by simp (decide := true) (disch := first | assumption | exact rfl | decide | omega | (simp only [H.nx_put, H.nx_new, H.nx_kill]; done) | (simp only [H.nx_put, H.nx_new, H.nx_kill]; omega)) only [go_sem, Nat.add_assoc, Nat.reduceAdd, Nat.reduceMul, Nat.zero_add, Nat.add_zero, Nat.mul_one, Nat.zero_mul, true_and, and_true, eq_self, t9], by simp (decide := true) (disch := first | assumption | exact rfl | decide | omega | (simp only [H.nx_put, H.nx_new, H.nx_kill]; done) | (simp only [H.nx_put, H.nx_new, H.nx_kill]; omega)) only [go_sem, Nat.add_assoc, Nat.reduceAdd, Nat.reduceMul, Nat.zero_add, Nat.add_zero, Nat.mul_one, Nat.zero_mul, true_and, and_true, eq_self, hst], by simp (decide := true) (disch := first | assumption | exact rfl | decide | omega | (simp only [H.nx_put, H.nx_new, H.nx_kill]; done) | (simp only [H.nx_put, H.nx_new, H.nx_kill]; omega)) only [go_sem, Nat.add_assoc, Nat.reduceAdd, Nat.reduceMul, Nat.zero_add, Nat.add_zero, Nat.mul_one, Nat.zero_mul, true_and, and_true, eq_self, t11], by omega, rfl, ?_, ?_, ?_⟩
            · repeat (first | exact hsub | refine Sub.put ?_ (by omega) _ | refine Sub.kill ?_ (by omega) | refine Sub.new' ?_ _)
            · exact hnx
            · rw [hbest]
          · by_cases c2 : (D.tags.length : Int) ≤ goF D (stF D ((s.drop a).take j)) b
            · have hbest : bestF D s a may (j + 1) = bestF D s a may j := by
                show (if runF D ((s.drop a).take (j + 1)) &&& may ≠ 0 then _ else _) = _
                rw [show runF D ((s.drop a).take (j + 1)) = 0 from if_pos (.inr (by rw [hst]; omega)), if_neg (by simp)]
              simp (decide := true) (disch := first | assumption | exact rfl | decide | omega | (simp only [H.nx_put, H.nx_new, H.nx_kill]; done) | (simp only [H.nx_put, H.nx_new, H.nx_kill]; omega)) only [go_sem, Nat.add_assoc, Nat.reduceAdd, Nat.reduceMul, Nat.zero_add, Nat.add_zero, Nat.mul_one, Nat.zero_mul, true_and, and_true, eq_self, t1, t3, t4, t8, t9, t10, t11, h0, hlt', hX, hb4, hb8, hb9, hpart, hlb, D9_go, g_go_run hd2 _ hb2, hadd, hsam, c1, c2, hlt, htl]
              refine ⟨s.length - a - (j + 1), by omega, j + 1, _, rfl, by simp (decide := true) (disch := first | assumption | exact rfl | decide | omega | (simp only [H.nx_put, H.nx_new, H.nx_kill]; done) | (simp only [H.nx_put, H.nx_new, H.nx_kill]; omega)) only [go_sem, Nat.add_assoc, Nat.reduceAdd, Nat.reduceMul, Nat.zero_add, Nat.add_zero, Nat.mul_one, Nat.zero_mul, true_and, and_true, eq_self, t1], by simp (decide := true) (disch := first | assumption | exact rfl | decide | omega | (simp only [H.nx_put, H.nx_new, H.nx_kill]; done) | (simp only [H.nx_put, H.nx_new, H.nx_kill]; omega)) only [go_sem, Nat.add_assoc, Nat.reduceAdd, Nat.reduceMul, Nat.zero_add, Nat.add_zero, Nat.mul_one, Nat.zero_mul, true_and, and_true, eq_self, t3], by simp (decide := true) (disch := first | assumption | exact rfl | decide | omega | (simp only [H.nx_put, H.nx_new, H.nx_kill]; done) | (simp only [H.nx_put, H.nx_new, H.nx_kill]; omega)) only [go_sem, Nat.add_assoc, Nat.reduceAdd, Nat.reduceMul, Nat.zero_add, Nat.add_zero, Nat.mul_one, Nat.zero_mul, true_and, and_true, eq_self, t4], by simp (decide := true) (disch := first | assumption | exact rfl | decide | omega | (simp only [H.nx_put, H.nx_new, H.nx_kill]; done) | (simp only [H.nx_put, H.nx_new, H.nx_kill]; omega)) only [go_sem, Nat.add_assoc, Nat.reduceAdd, Nat.reduceMul, Nat.zero_add, Nat.add_zero, Nat.mul_one, Nat.zero_mul, true_and, and_true, eq_self, t8], by simp (decide := true) (disch := first | assumption | exact rfl | decide | omega | (simp only [H.nx_put, H.nx_new, H.nx_kill]; done) | (simp only [H.nx_put, H.nx_new, H.nx_kill]; omega)) only [go_sem, Nat.add_assoc, Nat.reduceAdd, Nat.reduceMul, Nat.zero_add, Nat.add_zero, Nat.mul_one, Nat.zero_mul, true_and, and_true, eq_self, t9], by simp (decide := true) (disch := first | assumption | exact rfl | decide | omega | (simp only [H.nx_put, H.nx_new, H.nx_kill]; done) | (simp only [H.nx_put, H.nx_new, H.nx_kill]; omega)) only [go_sem, Nat.add_assoc, Nat.reduceAdd, Nat.reduceMul, Nat.zero_add, Nat.add_zero, Nat.mul_one, Nat.zero_mul, true_and, and_true, eq_self, hst], by simp (decide := true) (disch := first | assumption | exact rfl | decide | omega | (simp only [H.nx_put, H.nx_new, H.nx_kill]; done) | (simp only [H.nx_put, H.nx_new, H.nx_kill]; omega)) only [go_sem, Nat.add_assoc, Nat.reduceAdd, Nat.reduceMul, Nat.zero_add, Nat.add_zero, Nat.mul_one, Nat.zero_mul, true_and, and_true, eq_self, t11], by omega, rfl, ?_, ?_, ?_⟩
              · repeat (first | exact hsub | refine Sub.put ?_ (by omega) _ | refine Sub.kill ?_ (by omega) | refine Sub.new' ?_ _)
              · exact hnx
              · rw [hbest]
            · obtain ⟨m, hmq⟩ : ∃ m : Nat, goF D (stF D ((s.drop a).take j)) b = (m : Int) := ⟨(goF D (stF D ((s.drop a).take j)) b).toNat, by omega⟩
              obtain ⟨g, hg⟩ : ∃ g, D.tags[m]? = some g := ⟨D.tags[m]'(by omega), by simp⟩
              have hglt := I.lt g (List.mem_of_getElem? hg)
              have hrun : runF D ((s.drop a).take (j + 1)) = g := by
                unfold runF; rw [hst, hmq, if_neg (by omega), Int.toNat_natCast, hg]; rfl
              obtain ⟨-, -, -, k4⟩ := rowZ_inv I.rowt
              obtain ⟨dt, o, cap, op, cs', e, ro, rfl, hdt, hgt, hlg⟩ := k4 m (setDV g) (by rw [List.getElem?_map, hg]; rfl)
              rw [List.length_map] at *
              have hlg' : lget cs' (o + m) = some (.int .u64 (g : Int)) := hlg
              have hgt' : hh.get dt = some (.cells cs' e ro) := by rw [hsub.get dt hdt]; exact hgt
              have him : inB (m : Int) D.tags.length = some m := inB_of_lt (by omega)
              rw [hmq] at c1 c2 hst
              by_cases c3 : g &&& may = 0
              · have hbest : bestF D s a may (j + 1) = bestF D s a may j := by
                  show (if runF D ((s.drop a).take (j + 1)) &&& may ≠ 0 then _ else _) = _
                  rw [hrun, c3, if_neg (by simp)]
                have c3' : ((g &&& may : Nat) : Int) = 0 := by rw [c3]; rfl
                simp (decide := true) (disch := first | assumption | exact rfl | decide | omega | (simp only [H.nx_put, H.nx_new, H.nx_kill]; done) | (simp only [H.nx_put, H.nx_new, H.nx_kill]; omega)) only [go_sem, Nat.add_assoc, Nat.reduceAdd, Nat.reduceMul, Nat.zero_add, Nat.add_zero, Nat.mul_one, Nat.zero_mul, true_and, and_true, eq_self, t1, t3, t4, t8, t9, t10, t11, h0, hlt', hX, hb4, hb8, hb9, hpart, hlb, D9_go, g_go_run hd2 _ hb2, hadd, hsam, hmq, c1, c2, hlt, htl, him, hgt', hlg', D9_meet, g_ss_run hglt hm, meetV, c3']
                refine ⟨s.length - a - (j + 1), by omega, j + 1, _, rfl, by simp (decide := true) (disch := first | assumption | exact rfl | decide | omega | (simp only [H.nx_put, H.nx_new, H.nx_kill]; done) | (simp only [H.nx_put, H.nx_new, H.nx_kill]; omega)) only [go_sem, Nat.add_assoc, Nat.reduceAdd, Nat.reduceMul, Nat.zero_add, Nat.add_zero, Nat.mul_one, Nat.zero_mul, true_and, and_true, eq_self, t1], by simp (decide := true) (disch := first | assumption | exact rfl | decide | omega | (simp only [H.nx_put, H.nx_new, H.nx_kill]; done) | (simp only [H.nx_put, H.nx_new, H.nx_kill]; omega)) only [go_sem, Nat.add_assoc, Nat.reduceAdd, Nat.reduceMul, Nat.zero_add, Nat.add_zero, Nat.mul_one, Nat.zero_mul, true_and, and_true, eq_self, t3], by simp (decide := true) (disch := first | assumption | exact rfl | decide | omega | (simp only [H.nx_put, H.nx_new, H.nx_kill]; done) | (simp only [H.nx_put, H.nx_new, H.nx_kill]; omega)) only [go_sem, Nat.add_assoc, Nat.reduceAdd, Nat.reduceMul, Nat.zero_add, Nat.add_zero, Nat.mul_one, Nat.zero_mul, true_and, and_true, eq_self, t4], by simp (decide := true) (disch := first | assumption | exact rfl | decide | omega | (simp only [H.nx_put, H.nx_new, H.nx_kill]; done) | (simp only [H.nx_put, H.nx_new, H.nx_kill]; omega)) only [go_sem, Nat.add_assoc, Nat.reduceAdd, Nat.reduceMul, Nat.zero_add, Nat.add_zero, Nat.mul_one, Nat.zero_mul, true_and, and_true, eq_self, t8], by simp (decide := true) (disch := first | assumption | exact rfl | decide | omega | (simp only [H.nx_put, H.nx_new, H.nx_kill]; done) | (simp only [H.nx_put, H.nx_new, H.nx_kill]; omega)) only [go_sem, Nat.add_assoc, Nat.reduceAdd, Nat.reduceMul, Nat.zero_add, Nat.add_zero, Nat.mul_one, Nat.zero_mul, true_and, and_true, eq_self, t9], by simp (decide := true) (disch := first | assumption | exact rfl | decide | omega | (simp only [H.nx_put, H.nx_new, H.nx_kill]; done) | (simp only [H.nx_put, H.nx_new, H.nx_kill]; omega)) only [go_sem, Nat.add_assoc, Nat.reduceAdd, Nat.reduceMul, Nat.zero_add, Nat.add_zero, Nat.mul_one, Nat.zero_mul, true_and, and_true, eq_self, hst], by simp (decide := true) (disch := first | assumption | exact rfl | decide | omega | (simp only [H.nx_put, H.nx_new, H.nx_kill]; done) | (simp only [H.nx_put, H.nx_new, H.nx_kill]; omega)) only [go_sem, Nat.add_assoc, Nat.reduceAdd, Nat.reduceMul, Nat.zero_add, Nat.add_zero, Nat.mul_one, Nat.zero_mul, true_and, and_true, eq_self, t11], by omega, rfl, ?_, ?_, ?_⟩
                · repeat (first | exact hsub | refine Sub.put ?_ (by omega) _ | refine Sub.kill ?_ (by omega) | refine Sub.new' ?_ _)
                · exact hnx
                · rw [hbest]
              · have hbest : bestF D s a may (j + 1) = (g &&& may, ((a + (j + 1) : Nat) : Int)) := by
                  show (if runF D ((s.drop a).take (j + 1)) &&& may ≠ 0 then _ else _) = _
                  rw [hrun, if_pos c3]
                have c3' : ¬ ((g &&& may : Nat) : Int) = 0 := by omega
                simp (decide := true) (disch := first | assumption | exact rfl | decide | omega | (simp only [H.nx_put, H.nx_new, H.nx_kill]; done) | (simp only [H.nx_put, H.nx_new, H.nx_kill]; omega)) only [go_sem, Nat.add_assoc, Nat.reduceAdd, Nat.reduceMul, Nat.zero_add, Nat.add_zero, Nat.mul_one, Nat.zero_mul, true_and, and_true, eq_self, t1, t3, t4, t8, t9, t10, t11, h0, hlt', hX, hb4, hb8, hb9, hpart, hlb, D9_go, g_go_run hd2 _ hb2, hadd, hsam, hmq, c1, c2, hlt, htl, him, hgt', hlg', D9_meet, g_ss_run hglt hm, meetV, c3']
                refine ⟨s.length - a - (j + 1), by omega, j + 1, _, rfl, by simp (decide := true) (disch := first | assumption | exact rfl | decide | omega | (simp only [H.nx_put, H.nx_new, H.nx_kill]; done) | (simp only [H.nx_put, H.nx_new, H.nx_kill]; omega)) only [go_sem, Nat.add_assoc, Nat.reduceAdd, Nat.reduceMul, Nat.zero_add, Nat.add_zero, Nat.mul_one, Nat.zero_mul, true_and, and_true, eq_self, t1], by simp (decide := true) (disch := first | assumption | exact rfl | decide | omega | (simp only [H.nx_put, H.nx_new, H.nx_kill]; done) | (simp only [H.nx_put, H.nx_new, H.nx_kill]; omega)) only [go_sem, Nat.add_assoc, Nat.reduceAdd, Nat.reduceMul, Nat.zero_add, Nat.add_zero, Nat.mul_one, Nat.zero_mul, true_and, and_true, eq_self, t3], by simp (decide := true) (disch := first | assumption | exact rfl | decide | omega | (simp only [H.nx_put, H.nx_new, H.nx_kill]; done) | (simp only [H.nx_put, H.nx_new, H.nx_kill]; omega)) only [go_sem, Nat.add_assoc, Nat.reduceAdd, Nat.reduceMul, Nat.zero_add, Nat.add_zero, Nat.mul_one, Nat.zero_mul, true_and, and_true, eq_self, t4], by simp (decide := true) (disch := first | assumption | exact rfl | decide | omega | (simp only [H.nx_put, H.nx_new, H.nx_kill]; done) | (simp only [H.nx_put, H.nx_new, H.nx_kill]; omega)) only [go_sem, Nat.add_assoc, Nat.reduceAdd, Nat.reduceMul, Nat.zero_add, Nat.add_zero, Nat.mul_one, Nat.zero_mul, true_and, and_true, eq_self, t8], by simp (decide := true) (disch := first | assumption | exact rfl | decide | omega | (simp only [H.nx_put, H.nx_new, H.nx_kill]; done) | (simp only [H.nx_put, H.nx_new, H.nx_kill]; omega)) only [go_sem, Nat.add_assoc, Nat.reduceAdd, Nat.reduceMul, Nat.zero_add, Nat.add_zero, Nat.mul_one, Nat.zero_mul, true_and, and_true, eq_self, t9], by simp (decide := true) (disch := first | assumption | exact rfl | decide | omega | (simp only [H.nx_put, H.nx_new, H.nx_kill]; done) | (simp only [H.nx_put, H.nx_new, H.nx_kill]; omega)) only [go_sem, Nat.add_assoc, Nat.reduceAdd, Nat.reduceMul, Nat.zero_add, Nat.add_zero, Nat.mul_one, Nat.zero_mul, true_and, and_true, eq_self, hst], by simp (decide := true) (disch := first | assumption | exact rfl | decide | omega | (simp only [H.nx_put, H.nx_new, H.nx_kill]; done) | (simp only [H.nx_put, H.nx_new, H.nx_kill]; omega)) only [go_sem, Nat.add_assoc, Nat.reduceAdd, Nat.reduceMul, Nat.zero_add, Nat.add_zero, Nat.mul_one, Nat.zero_mul, true_and, and_true, eq_self, t11], by omega, rfl, ?_, ?_, ?_⟩
                · repeat (first | exact hsub | refine Sub.put ?_ (by omega) _ | refine Sub.kill ?_ (by omega) | refine Sub.new' ?_ _)
                · first | exact hnx | (rw [H.nx_put]; exact hnx)
                · rw [hbest]
        · have hj2 : bestF D s a may (s.length - a) = bestF D s a may j := by
            have := bestF_neg (may := may) (show stF D ((s.drop a).take j) < 0 by omega) (s.length - a - j)
            rwa [show j + (s.length - a - j) = s.length - a by omega] at this
          simp (decide := true) (disch := first | assumption | exact rfl | decide | omega | (simp only [H.nx_put, H.nx_new, H.nx_kill]; done) | (simp only [H.nx_put, H.nx_new, H.nx_kill]; omega)) only [go_sem, Nat.add_assoc, Nat.reduceAdd, Nat.reduceMul, Nat.zero_add, Nat.add_zero, Nat.mul_one, Nat.zero_mul, true_and, and_true, eq_self, t1, t3, t4, t8, t9, t10, t11, h0, hlt', hX, hb4, hb8, hb9]
          refine left_plain ?_ (by rfl) ?_
          · rw [hlong, hj2]; rfl
          · repeat (first | exact hsub | refine Sub.put ?_ (by omega) _ | refine Sub.kill ?_ (by omega) | refine Sub.new' ?_ _)
      · have hlt' : ¬ (((a + j : Nat) : Int) < (s.length : Int)) := by omega
        simp (decide := true) (disch := first | assumption | exact rfl | decide | omega | (simp only [H.nx_put, H.nx_new, H.nx_kill]; done) | (simp only [H.nx_put, H.nx_new, H.nx_kill]; omega)) only [go_sem, Nat.add_assoc, Nat.reduceAdd, Nat.reduceMul, Nat.zero_add, Nat.add_zero, Nat.mul_one, Nat.zero_mul, true_and, and_true, eq_self, t1, t3, t4, t8, t9, t10, t11, h0, hlt', hb4, hb8, hb9]
        refine left_plain ?_ (by rfl) ?_
        · rw [hlong, show s.length - a = j by omega]; rfl
        · repeat (first | exact hsub | refine Sub.put ?_ (by omega) _ | refine Sub.kill ?_ (by omega) | refine Sub.new' ?_ _)
    · refine ⟨0, _, rfl, by simp (decide := true) (disch := first | assumption | exact rfl | decide | omega | (simp only [H.nx_put, H.nx_new, H.nx_kill]; done) | (simp only [H.nx_put, H.nx_new, H.nx_kill]; omega)) only [go_sem, Nat.add_assoc, Nat.reduceAdd, Nat.reduceMul, Nat.zero_add, Nat.add_zero, Nat.mul_one, Nat.zero_mul, true_and, and_true, eq_self, s0], by simp (decide := true) (disch := first | assumption | exact rfl | decide | omega | (simp only [H.nx_put, H.nx_new, H.nx_kill]; done) | (simp only [H.nx_put, H.nx_new, H.nx_kill]; omega)) only [go_sem, Nat.add_assoc, Nat.reduceAdd, Nat.reduceMul, Nat.zero_add, Nat.add_zero, Nat.mul_one, Nat.zero_mul, true_and, and_true, eq_self, s0], by simp (decide := true) (disch := first | assumption | exact rfl | decide | omega | (simp only [H.nx_put, H.nx_new, H.nx_kill]; done) | (simp only [H.nx_put, H.nx_new, H.nx_kill]; omega)) only [go_sem, Nat.add_assoc, Nat.reduceAdd, Nat.reduceMul, Nat.zero_add, Nat.add_zero, Nat.mul_one, Nat.zero_mul, true_and, and_true, eq_self, s0], by simp (decide := true) (disch := first | assumption | exact rfl | decide | omega | (simp only [H.nx_put, H.nx_new, H.nx_kill]; done) | (simp only [H.nx_put, H.nx_new, H.nx_kill]; omega)) only [go_sem, Nat.add_assoc, Nat.reduceAdd, Nat.reduceMul, Nat.zero_add, Nat.add_zero, Nat.mul_one, Nat.zero_mul, true_and, and_true, eq_self, s0], by simp (decide := true) (disch := first | assumption | exact rfl | decide | omega | (simp only [H.nx_put, H.nx_new, H.nx_kill]; done) | (simp only [H.nx_put, H.nx_new, H.nx_kill]; omega)) only [go_sem, Nat.add_assoc, Nat.reduceAdd, Nat.reduceMul, Nat.zero_add, Nat.add_zero, Nat.mul_one, Nat.zero_mul, true_and, and_true, eq_self, s0], by simp (decide := true) (disch := first | assumption | exact rfl | decide | omega | (simp only [H.nx_put, H.nx_new, H.nx_kill]; done) | (simp only [H.nx_put, H.nx_new, H.nx_kill]; omega)) only [go_sem, Nat.add_assoc, Nat.reduceAdd, Nat.reduceMul, Nat.zero_add, Nat.add_zero, Nat.mul_one, Nat.zero_mul, true_and, and_true, eq_self, s0]; rfl, by simp (decide := true) (disch := first | assumption | exact rfl | decide | omega | (simp only [H.nx_put, H.nx_new, H.nx_kill]; done) | (simp only [H.nx_put, H.nx_new, H.nx_kill]; omega)) only [go_sem, Nat.add_assoc, Nat.reduceAdd, Nat.reduceMul, Nat.zero_add, Nat.add_zero, Nat.mul_one, Nat.zero_mul, true_and, and_true, eq_self, s0], by omega, by omega, ?_, ?_, ?_, ?_, ?_⟩
      · repeat (first | exact Sub.refl _ | refine Sub.put ?_ (by omega) _ | refine Sub.kill ?_ (by omega) | refine Sub.new' ?_ _)
      · simp (decide := true) (disch := first | assumption | exact rfl | decide | omega | (simp only [H.nx_put, H.nx_new, H.nx_kill]; done) | (simp only [H.nx_put, H.nx_new, H.nx_kill]; omega)) only [go_sem, Nat.add_assoc, Nat.reduceAdd, Nat.reduceMul, Nat.zero_add, Nat.add_zero, Nat.mul_one, Nat.zero_mul, true_and, and_true, eq_self, s0]; omega
      · simp (decide := true) (disch := first | assumption | exact rfl | decide | omega | (simp only [H.nx_put, H.nx_new, H.nx_kill]; done) | (simp only [H.nx_put, H.nx_new, H.nx_kill]; omega)) only [go_sem, Nat.add_assoc, Nat.reduceAdd, Nat.reduceMul, Nat.zero_add, Nat.add_zero, Nat.mul_one, Nat.zero_mul, true_and, and_true, eq_self, s0]
      · simp (decide := true) (disch := first | assumption | exact rfl | decide | omega | (simp only [H.nx_put, H.nx_new, H.nx_kill]; done) | (simp only [H.nx_put, H.nx_new, H.nx_kill]; omega)) only [go_sem, Nat.add_assoc, Nat.reduceAdd, Nat.reduceMul, Nat.zero_add, Nat.add_zero, Nat.mul_one, Nat.zero_mul, true_and, and_true, eq_self, s0]
      · simp (decide := true) (disch := first | assumption | exact rfl | decide | omega | (simp only [H.nx_put, H.nx_new, H.nx_kill]; done) | (simp only [H.nx_put, H.nx_new, H.nx_kill]; omega)) only [go_sem, Nat.add_assoc, Nat.reduceAdd, Nat.reduceMul, Nat.zero_add, Nat.add_zero, Nat.mul_one, Nat.zero_mul, true_and, and_true, eq_self, s0]; rfl
  · have hlong : longF D s at_ may = (0, at_) := if_neg hin
    by_cases h0 : 0 ≤ at_
    · have hlt' : ¬ (at_ < (s.length : Int)) := by omega
      simp (decide := true) (disch := first | assumption | exact rfl | decide | omega | (simp only [H.nx_put, H.nx_new, H.nx_kill]; done) | (simp only [H.nx_put, H.nx_new, H.nx_kill]; omega)) only [go_sem, Nat.add_assoc, Nat.reduceAdd, Nat.reduceMul, Nat.zero_add, Nat.add_zero, Nat.mul_one, Nat.zero_mul, true_and, and_true, eq_self, df12, hrc]
      refine Go.Dm.wp_loop1 ?_
      simp (decide := true) (disch := first | assumption | exact rfl | decide | omega | (simp only [H.nx_put, H.nx_new, H.nx_kill]; done) | (simp only [H.nx_put, H.nx_new, H.nx_kill]; omega)) only [go_sem, Nat.add_assoc, Nat.reduceAdd, Nat.reduceMul, Nat.zero_add, Nat.add_zero, Nat.mul_one, Nat.zero_mul, true_and, and_true, eq_self, h0, hlt']
      refine left_plain ?_ (by rfl) ?_
      · rw [hlong]; rfl
      · repeat (first | exact Sub.refl _ | refine Sub.put ?_ (by omega) _ | refine Sub.kill ?_ (by omega) | refine Sub.new' ?_ _)
    · simp (decide := true) (disch := first | assumption | exact rfl | decide | omega | (simp only [H.nx_put, H.nx_new, H.nx_kill]; done) | (simp only [H.nx_put, H.nx_new, H.nx_kill]; omega)) only [go_sem, Nat.add_assoc, Nat.reduceAdd, Nat.reduceMul, Nat.zero_add, Nat.add_zero, Nat.mul_one, Nat.zero_mul, true_and, and_true, eq_self, df12, hrc]
      refine Go.Dm.wp_loop1 ?_
      simp (decide := true) (disch := first | assumption | exact rfl | decide | omega | (simp only [H.nx_put, H.nx_new, H.nx_kill]; done) | (simp only [H.nx_put, H.nx_new, H.nx_kill]; omega)) only [go_sem, Nat.add_assoc, Nat.reduceAdd, Nat.reduceMul, Nat.zero_add, Nat.add_zero, Nat.mul_one, Nat.zero_mul, true_and, and_true, eq_self, h0]
      refine left_plain ?_ (by rfl) ?_
      · rw [hlong]; rfl
      · repeat (first | exact Sub.refl _ | refine Sub.put ?_ (by omega) _ | refine Sub.kill ?_ (by omega) | refine Sub.new' ?_ _)
end
end Go.Proofs.YtbmcloahjiimeaaGreatDoor.Dm
