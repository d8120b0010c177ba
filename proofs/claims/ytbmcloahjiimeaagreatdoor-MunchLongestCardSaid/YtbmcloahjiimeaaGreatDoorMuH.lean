/- Who wins: the law's walk. -/
import Derived.Test.YtbmcloahjiimeaaGreatDoorMuG
set_option linter.all false
namespace Go.Proofs.YtbmcloahjiimeaaGreatDoor.Dm
open Go Go.Dm
noncomputable section

def okT (h : H) (g : Nat) (cs : List DV) : Bool := match h.get g with
  | some (.cells cs' _ _) => sames cs' cs
  | _ => false
theorem okT_inv {h : H} {g : Nat} {cs : List DV} (ho : okT h g cs = true) : ∃ e ro, h.get g = some (.cells cs e ro) := by
  unfold okT at ho; split at ho
  · rename_i cs' e' ro hg
    rw [sames_eq ho] at hg
    exact ⟨e', ro, hg⟩
  · cases ho
def okW (h : H) : Bool := okT h 0 g64 && okT h 2 gp10 && okT h 3 g32
def g_works : Ext := fun args h => match args with
  | [] => bif okW h then some (.bool true, h) else none
  | _ => none
def D7 : Env := (D6.add 16 (g_sp winV)).add 9 g_works
theorem D7_fn : D7.fn = fnE := rfl
theorem D7_works : D7.ext 9 = some g_works := _root_.id rfl
theorem D7_win : D7.ext 16 = some (g_sp winV) := _root_.id rfl
theorem D7_in : D7.ext 21 = some (ext1 (g_ss inV)) := _root_.id rfl
theorem D7_first : D7.ext 23 = some (extT (g_s firstV)) := _root_.id rfl
theorem D7_has : D7.ext 22 = some (ext1 (g_si hasV)) := _root_.id rfl
theorem D7_with : D7.ext 24 = some (ext1 (g_si withV)) := _root_.id rfl
theorem g_works_run {h : H} (ho : okW h = true) : g_works [] h = some (.bool true, h) := by unfold g_works; simp only [ho, cond_true]
def lawQ (r : R) : Prop := ∃ h2, r = .fin (.ret (.bool true)) none h2
theorem pairsAt_nil (h : H) (op : Bool) : pairsAt h (.slice none 0 0 op) = some [] := rfl
theorem g_sp_run0 {f : Nat → List (Int × Int) → DV} {h : H} (ho : okH h = true) {s : DV} {l : List (Int × Int)} (hl : pairsAt h s = some l) : g_sp f [.int .u64 0, s] h = some (f 0 l, h) := g_sp_run (t := 0) ho (by decide) hl
theorem g_si_run0 {f : Nat → Int → DV} (n : Int) : g_si f [.int .u64 0, .int .i64 n] = some (f 0 n) := g_si_run (s := 0) (by decide) n
theorem cast0 : ((0 : Nat) : Int) = 0 := rfl
def pairDV (l : List (Int × Int)) : List DV := l.flatMap fun p => [DV.int .i64 p.1, DV.int .i64 p.2]
theorem pairDV_len (l : List (Int × Int)) : (pairDV l).length = l.length * 2 := pairs_len l
theorem pairDV_append (a b : List (Int × Int)) : pairDV (a ++ b) = pairDV a ++ pairDV b := by simp [pairDV]
theorem pairsOf_DV : ∀ l : List (Int × Int), pairsOf (pairDV l) = some l
  | [] => rfl
  | p :: l => by
    show (pairsOf (pairDV l)).map _ = _
    rw [pairsOf_DV l]; rfl
theorem pairsAt_row {h : H} {r e : Nat} {ro : Bool} {l : List (Int × Int)} (hr : r < h.nx) (hl : l.length ≤ 281474976710656) (hg : h.get r = some (.cells (pairDV l) e ro)) (c : Nat) (op : Bool) : pairsAt h (.slice (some (r, 0)) l.length c op) = some l := by
  unfold pairsAt rowAt
  simp only [ble_t (show r + 1 ≤ h.nx by omega), ble_t hl, Bool.and_true, cond_true]
  unfold rdN
  rw [hg]
  simp only
  rw [← pairDV_len, lpart_all]
  exact pairsOf_DV l
theorem lpart_two {cs : List DV} {o : Nat} {a b : DV} (hp : lpart cs o 2 = some [a, b]) : lget cs o = some a ∧ lget cs (o + 1) = some b := by
  obtain ⟨q1, q2⟩ := lpart_some hp
  rw [lget_eq, lget_eq]
  have e0 := congrArg (fun x : List DV => x[0]?) q2
  have e1 := congrArg (fun x : List DV => x[1]?) q2
  constructor
  · simpa using e0.symm
  · simpa using e1.symm
/-- a pair of a row, where it lies -/
theorem pair_at {h : H} {s : DV} {l : List (Int × Int)} (hl : pairsAt h s = some l) {i : Nat} (hi : i < l.length) : ∃ (d o len cap : Nat) (op : Bool) (cs' : List DV) (e : Nat) (ro : Bool) (p : Int × Int), s = .slice (some (d, o)) len cap op ∧ d < h.nx ∧ h.get d = some (.cells cs' e ro) ∧ l.length = len ∧ l[i]? = some p ∧ lpart cs' (o + i * 2) 2 = some [.int .i64 p.1, .int .i64 p.2] ∧
    lget cs' (o + i * 2) = some (.int .i64 p.1) ∧ lget cs' (o + (i * 2 + 1)) = some (.int .i64 p.2) := by
  obtain ⟨p, hp⟩ : ∃ p, l[i]? = some p := ⟨l[i], by simp [hi]⟩
  obtain ⟨cs, hcs, hcl⟩ := pairsAt_inv hl
  have hpl := pairs_len l
  rcases rowAt_inv hcs with ⟨op, rfl, rfl⟩ | ⟨d, o, len, cap, op, cs', e, ro, rfl, hd, hgd, hpart, hcsl, -⟩
  · rw [← hcl] at hpl; simp at hpl; omega
  · have hll : l.length = len := by rw [← hcl] at hpl; omega
    have hlp : lpart cs' (o + i * 2) 2 = some [.int .i64 p.1, .int .i64 p.2] := by
      rw [lpart_sub hpart (by omega), hcl, pairs_get l i p hp]
    obtain ⟨h1, h2⟩ := lpart_two hlp
    exact ⟨d, o, len, cap, op, cs', e, ro, p, rfl, hd, hgd, hll, hp, hlp, h1, by rw [← Nat.add_assoc]; exact h2⟩
def upF (l : List (Int × Int)) : List (Int × Int) := l.filter fun p => decide (p.1 < p.2)
def InvU (h : H) (t : Nat) (s : DV) (l : List (Int × Int)) (k : Nat) (fr : Fr) (hh : H) : Prop :=
  ∃ (i : Nat) (tm : T DV) (vs : DV) (r : Nat), fr = ⟨6, 83, tm, [], none, none⟩ ∧ tm.get s0 = some (.int .u64 (t : Int)) ∧ tm.get s1 = some s ∧ tm.get s5 = some (.bool true) ∧ tm.get s6 = some (.int .u64 (winF t l : Int)) ∧ tm.get s7 = some vs ∧ tm.get s8 = some (.int .i64 (i : Int)) ∧
    i ≤ l.length ∧ k = l.length - i ∧ Sub h hh ∧ ((upF (l.take i) = [] ∧ vs = .slice none 0 0 false) ∨ (0 < (upF (l.take i)).length ∧ vs = .slice (some (r, 0)) (upF (l.take i)).length (upF (l.take i)).length true ∧ hh.get r = some (.cells (pairDV (upF (l.take i))) 52 false) ∧ h.nx ≤ r ∧ r < hh.nx))
theorem upF_take {l : List (Int × Int)} {i : Nat} {p : Int × Int} (hp : l[i]? = some p) : upF (l.take (i + 1)) = if p.1 < p.2 then upF (l.take i) ++ [p] else upF (l.take i) := by
  unfold upF
  rw [List.take_add_one, hp, List.filter_append]
  by_cases c : p.1 < p.2
  · simp [c]
  · simp [c]
theorem upF_len (l : List (Int × Int)) (i : Nat) : (upF (l.take i)).length ≤ i := by
  unfold upF
  exact Nat.le_trans (List.length_filter_le _ _) (by simp; omega)
theorem law_wins {h : H} {t : Nat} {s : DV} {l : List (Int × Int)} (ho : okH h = true) (hw : okW h = true) (ht : t < 2 ^ 64) (hl : pairsAt h s = some l) (fr : Fr) (hrc : fr.rc = none) :
    Wp D7 (.call 6 [.int .u64 (t : Int), s]) fr h lawQ := by
  obtain ⟨hlen, hmax⟩ := pairsAt_len hl
  refine wp_call (F := df6) (of_fn D7_fn fe6) (Nat.le_of_ble_eq_true rfl) ?_
  by_cases hb : (40 : Int) < (l.length : Int)
  · simp (decide := true) (disch := first | assumption | exact rfl | decide | omega | (simp only [H.nx_put, H.nx_new, H.nx_kill]; done) | (simp only [H.nx_put, H.nx_new, H.nx_kill]; omega)) only [go_sem, Nat.add_assoc, Nat.reduceAdd, Nat.reduceMul, Nat.zero_add, Nat.add_zero, Nat.mul_one, Nat.zero_mul, true_and, and_true, eq_self, df6, hrc, D7_works, g_works_run hw, hlen, hb]
    exact ⟨h, rfl⟩
  · simp (decide := true) (disch := first | assumption | exact rfl | decide | omega | (simp only [H.nx_put, H.nx_new, H.nx_kill]; done) | (simp only [H.nx_put, H.nx_new, H.nx_kill]; omega)) only [go_sem, Nat.add_assoc, Nat.reduceAdd, Nat.reduceMul, Nat.zero_add, Nat.add_zero, Nat.mul_one, Nat.zero_mul, true_and, and_true, eq_self, df6, hrc, D7_works, g_works_run hw, hlen, hb, D7_win, g_sp_run ho ht hl, winV]
    have hlenA : ∀ hh, lenK .slice s hh = some l.length := fun hh => by
      obtain ⟨cs, hcs, -⟩ := pairsAt_inv hl
      rcases rowAt_inv hcs with ⟨op, rfl, rfl⟩ | ⟨d, o, len, cap, op, cs', e, ro, rfl, -⟩
      · exact hlen
      · exact hlen
    refine Go.Dm.wp_loop (InvU h t s l) ?_ l.length _ _ ?_
    · intro k fr hh ⟨i, tm, vs, r, hfr, t0, t1, t5, t6, t7, t8, hi, hk, hsub, hsl⟩
      subst hfr
      by_cases hin : i < l.length
      · obtain ⟨d, o, len, cap, op, cs', e, ro, p, rfl, hd, hgd, hll, hp, hlp, hl0, hl1⟩ := pair_at hl hin
        have hlt : ((i : Int) < (l.length : Int)) := by omega
        have hadd : IntKind.i64.wrap ((i : Int) + 1) = ((i + 1 : Nat) : Int) := by rw [wrap_i64 (by omega) (by omega)]; rfl
        have hgd' : hh.get d = some (.cells cs' e ro) := by rw [hsub.get d hd]; exact hgd
        have hnx := hsub.nx
        have hiB : inB (i : Int) len = some i := inB_of_lt (by omega)
        have hul := upF_len l i
        have hul2 := pairDV_len (upF (l.take i))
        by_cases c : p.1 < p.2
        · rcases hsl with ⟨u0, rfl⟩ | ⟨u0, rfl, u1, u2, u3⟩
          · simp (decide := true) (disch := first | assumption | exact rfl | decide | omega | (simp only [H.nx_put, H.nx_new, H.nx_kill]; done) | (simp only [H.nx_put, H.nx_new, H.nx_kill]; omega)) only [go_sem, Nat.add_assoc, Nat.reduceAdd, Nat.reduceMul, Nat.zero_add, Nat.add_zero, Nat.mul_one, Nat.zero_mul, true_and, and_true, eq_self, t0, t1, t5, t6, t7, t8, hlenA, hlt, hiB, hgd', hlp, hl0, hl1, c, hadd]
            refine ⟨_, ?_, i + 1, _, .slice (some (hh.nx + 1, 0)) 1 1 true, hh.nx + 1, rfl, by simp (decide := true) (disch := first | assumption | exact rfl | decide | omega | (simp only [H.nx_put, H.nx_new, H.nx_kill]; done) | (simp only [H.nx_put, H.nx_new, H.nx_kill]; omega)) only [go_sem, Nat.add_assoc, Nat.reduceAdd, Nat.reduceMul, Nat.zero_add, Nat.add_zero, Nat.mul_one, Nat.zero_mul, true_and, and_true, eq_self, t0], by simp (decide := true) (disch := first | assumption | exact rfl | decide | omega | (simp only [H.nx_put, H.nx_new, H.nx_kill]; done) | (simp only [H.nx_put, H.nx_new, H.nx_kill]; omega)) only [go_sem, Nat.add_assoc, Nat.reduceAdd, Nat.reduceMul, Nat.zero_add, Nat.add_zero, Nat.mul_one, Nat.zero_mul, true_and, and_true, eq_self, t1], by simp (decide := true) (disch := first | assumption | exact rfl | decide | omega | (simp only [H.nx_put, H.nx_new, H.nx_kill]; done) | (simp only [H.nx_put, H.nx_new, H.nx_kill]; omega)) only [go_sem, Nat.add_assoc, Nat.reduceAdd, Nat.reduceMul, Nat.zero_add, Nat.add_zero, Nat.mul_one, Nat.zero_mul, true_and, and_true, eq_self, t5], by simp (decide := true) (disch := first | assumption | exact rfl | decide | omega | (simp only [H.nx_put, H.nx_new, H.nx_kill]; done) | (simp only [H.nx_put, H.nx_new, H.nx_kill]; omega)) only [go_sem, Nat.add_assoc, Nat.reduceAdd, Nat.reduceMul, Nat.zero_add, Nat.add_zero, Nat.mul_one, Nat.zero_mul, true_and, and_true, eq_self, t6], by simp (decide := true) (disch := first | assumption | exact rfl | decide | omega | (simp only [H.nx_put, H.nx_new, H.nx_kill]; done) | (simp only [H.nx_put, H.nx_new, H.nx_kill]; omega)) only [go_sem, Nat.add_assoc, Nat.reduceAdd, Nat.reduceMul, Nat.zero_add, Nat.add_zero, Nat.mul_one, Nat.zero_mul, true_and, and_true, eq_self, t7], by simp (decide := true) (disch := first | assumption | exact rfl | decide | omega | (simp only [H.nx_put, H.nx_new, H.nx_kill]; done) | (simp only [H.nx_put, H.nx_new, H.nx_kill]; omega)) only [go_sem, Nat.add_assoc, Nat.reduceAdd, Nat.reduceMul, Nat.zero_add, Nat.add_zero, Nat.mul_one, Nat.zero_mul, true_and, and_true, eq_self, t8], by omega, rfl, ?_, .inr ⟨?_, ?_, ?_, by omega, ?_⟩⟩
            · omega
            · repeat (first | exact hsub | refine Sub.put ?_ (by omega) _ | refine Sub.kill ?_ (by omega) | refine Sub.new' ?_ _)
            · rw [upF_take hp, if_pos c, u0]; simp
            · rw [upF_take hp, if_pos c, u0]; rfl
            · rw [upF_take hp, if_pos c, u0]; simp (decide := true) (disch := first | assumption | exact rfl | decide | omega | (simp only [H.nx_put, H.nx_new, H.nx_kill]; done) | (simp only [H.nx_put, H.nx_new, H.nx_kill]; omega)) only [go_sem, Nat.add_assoc, Nat.reduceAdd, Nat.reduceMul, Nat.zero_add, Nat.add_zero, Nat.mul_one, Nat.zero_mul, true_and, and_true, eq_self, t0]; rfl
            · simp only [H.nx_put, H.nx_new, H.nx_kill]; omega
          · simp (decide := true) (disch := first | assumption | exact rfl | decide | omega | (simp only [H.nx_put, H.nx_new, H.nx_kill]; done) | (simp only [H.nx_put, H.nx_new, H.nx_kill]; omega)) only [go_sem, Nat.add_assoc, Nat.reduceAdd, Nat.reduceMul, Nat.zero_add, Nat.add_zero, Nat.mul_one, Nat.zero_mul, true_and, and_true, eq_self, t0, t1, t5, t6, t7, t8, hlenA, hlt, hiB, hgd', hlp, hl0, hl1, c, hadd, u1]
            refine ⟨_, ?_, i + 1, _, .slice (some (hh.nx + 1, 0)) ((upF (l.take i)).length + 1) ((upF (l.take i)).length + 1) true, hh.nx + 1, rfl, by simp (decide := true) (disch := first | assumption | exact rfl | decide | omega | (simp only [H.nx_put, H.nx_new, H.nx_kill]; done) | (simp only [H.nx_put, H.nx_new, H.nx_kill]; omega)) only [go_sem, Nat.add_assoc, Nat.reduceAdd, Nat.reduceMul, Nat.zero_add, Nat.add_zero, Nat.mul_one, Nat.zero_mul, true_and, and_true, eq_self, t0], by simp (decide := true) (disch := first | assumption | exact rfl | decide | omega | (simp only [H.nx_put, H.nx_new, H.nx_kill]; done) | (simp only [H.nx_put, H.nx_new, H.nx_kill]; omega)) only [go_sem, Nat.add_assoc, Nat.reduceAdd, Nat.reduceMul, Nat.zero_add, Nat.add_zero, Nat.mul_one, Nat.zero_mul, true_and, and_true, eq_self, t1], by simp (decide := true) (disch := first | assumption | exact rfl | decide | omega | (simp only [H.nx_put, H.nx_new, H.nx_kill]; done) | (simp only [H.nx_put, H.nx_new, H.nx_kill]; omega)) only [go_sem, Nat.add_assoc, Nat.reduceAdd, Nat.reduceMul, Nat.zero_add, Nat.add_zero, Nat.mul_one, Nat.zero_mul, true_and, and_true, eq_self, t5], by simp (decide := true) (disch := first | assumption | exact rfl | decide | omega | (simp only [H.nx_put, H.nx_new, H.nx_kill]; done) | (simp only [H.nx_put, H.nx_new, H.nx_kill]; omega)) only [go_sem, Nat.add_assoc, Nat.reduceAdd, Nat.reduceMul, Nat.zero_add, Nat.add_zero, Nat.mul_one, Nat.zero_mul, true_and, and_true, eq_self, t6], by simp (decide := true) (disch := first | assumption | exact rfl | decide | omega | (simp only [H.nx_put, H.nx_new, H.nx_kill]; done) | (simp only [H.nx_put, H.nx_new, H.nx_kill]; omega)) only [go_sem, Nat.add_assoc, Nat.reduceAdd, Nat.reduceMul, Nat.zero_add, Nat.add_zero, Nat.mul_one, Nat.zero_mul, true_and, and_true, eq_self, t7], by simp (decide := true) (disch := first | assumption | exact rfl | decide | omega | (simp only [H.nx_put, H.nx_new, H.nx_kill]; done) | (simp only [H.nx_put, H.nx_new, H.nx_kill]; omega)) only [go_sem, Nat.add_assoc, Nat.reduceAdd, Nat.reduceMul, Nat.zero_add, Nat.add_zero, Nat.mul_one, Nat.zero_mul, true_and, and_true, eq_self, t8], by omega, rfl, ?_, .inr ⟨?_, ?_, ?_, by omega, ?_⟩⟩
            · omega
            · repeat (first | exact hsub | refine Sub.put ?_ (by omega) _ | refine Sub.kill ?_ (by omega) | refine Sub.new' ?_ _)
            · rw [upF_take hp, if_pos c]; simp
            · rw [upF_take hp, if_pos c]; simp
            · rw [upF_take hp, if_pos c, pairDV_append]; simp (decide := true) (disch := first | assumption | exact rfl | decide | omega | (simp only [H.nx_put, H.nx_new, H.nx_kill]; done) | (simp only [H.nx_put, H.nx_new, H.nx_kill]; omega)) only [go_sem, Nat.add_assoc, Nat.reduceAdd, Nat.reduceMul, Nat.zero_add, Nat.add_zero, Nat.mul_one, Nat.zero_mul, true_and, and_true, eq_self, t0]; rfl
            · simp only [H.nx_put, H.nx_new, H.nx_kill]; omega
        · simp (decide := true) (disch := first | assumption | exact rfl | decide | omega | (simp only [H.nx_put, H.nx_new, H.nx_kill]; done) | (simp only [H.nx_put, H.nx_new, H.nx_kill]; omega)) only [go_sem, Nat.add_assoc, Nat.reduceAdd, Nat.reduceMul, Nat.zero_add, Nat.add_zero, Nat.mul_one, Nat.zero_mul, true_and, and_true, eq_self, t0, t1, t5, t6, t7, t8, hlenA, hlt, hiB, hgd', hlp, hl0, hl1, c, hadd]
          refine ⟨_, ?_, i + 1, _, vs, r, rfl, by simp (decide := true) (disch := first | assumption | exact rfl | decide | omega | (simp only [H.nx_put, H.nx_new, H.nx_kill]; done) | (simp only [H.nx_put, H.nx_new, H.nx_kill]; omega)) only [go_sem, Nat.add_assoc, Nat.reduceAdd, Nat.reduceMul, Nat.zero_add, Nat.add_zero, Nat.mul_one, Nat.zero_mul, true_and, and_true, eq_self, t0], by simp (decide := true) (disch := first | assumption | exact rfl | decide | omega | (simp only [H.nx_put, H.nx_new, H.nx_kill]; done) | (simp only [H.nx_put, H.nx_new, H.nx_kill]; omega)) only [go_sem, Nat.add_assoc, Nat.reduceAdd, Nat.reduceMul, Nat.zero_add, Nat.add_zero, Nat.mul_one, Nat.zero_mul, true_and, and_true, eq_self, t1], by simp (decide := true) (disch := first | assumption | exact rfl | decide | omega | (simp only [H.nx_put, H.nx_new, H.nx_kill]; done) | (simp only [H.nx_put, H.nx_new, H.nx_kill]; omega)) only [go_sem, Nat.add_assoc, Nat.reduceAdd, Nat.reduceMul, Nat.zero_add, Nat.add_zero, Nat.mul_one, Nat.zero_mul, true_and, and_true, eq_self, t5], by simp (decide := true) (disch := first | assumption | exact rfl | decide | omega | (simp only [H.nx_put, H.nx_new, H.nx_kill]; done) | (simp only [H.nx_put, H.nx_new, H.nx_kill]; omega)) only [go_sem, Nat.add_assoc, Nat.reduceAdd, Nat.reduceMul, Nat.zero_add, Nat.add_zero, Nat.mul_one, Nat.zero_mul, true_and, and_true, eq_self, t6], by simp (decide := true) (disch := first | assumption | exact rfl | decide | omega | (simp only [H.nx_put, H.nx_new, H.nx_kill]; done) | (simp only [H.nx_put, H.nx_new, H.nx_kill]; omega)) only [go_sem, Nat.add_assoc, Nat.reduceAdd, Nat.reduceMul, Nat.zero_add, Nat.add_zero, Nat.mul_one, Nat.zero_mul, true_and, and_true, eq_self, t7], by simp (decide := true) (disch := first | assumption | exact rfl | decide | omega | (simp only [H.nx_put, H.nx_new, H.nx_kill]; done) | (simp only [H.nx_put, H.nx_new, H.nx_kill]; omega)) only [go_sem, Nat.add_assoc, Nat.reduceAdd, Nat.reduceMul, Nat.zero_add, Nat.add_zero, Nat.mul_one, Nat.zero_mul, true_and, and_true, eq_self, t8], by omega, rfl, hsub, ?_⟩
          · omega
          · rw [upF_take hp, if_neg c]; exact hsl
      · have hlt : ¬ ((i : Int) < (l.length : Int)) := by omega
        have hup : pairsAt hh vs = some (upF l) := by
          have hle : l.take i = l := List.take_of_length_le (by omega)
          rw [hle] at hsl
          rcases hsl with ⟨u0, rfl⟩ | ⟨u0, rfl, u1, u2, u3⟩
          · rw [u0]; rfl
          · refine pairsAt_row u3 ?_ u1 _ _
            have := upF_len l i; rw [hle] at this; omega
        have ho2 := okH_sub hsub ho
        have hup2 : ∀ p ∈ upF l, p.1 < p.2 := fun p hp => by
          have := (List.mem_filter.1 hp).2; simpa using this
        have hbl : 0 ||| bitN (firstF t) < 2 ^ 64 := or_lt (by decide) (bitN_lt _)
        by_cases hz : t = 0
        · have hz' : decide ((t : Int) = 0) = true := by rw [hz]; rfl
          simp (decide := true) (disch := first | assumption | exact rfl | decide | omega | (simp only [H.nx_put, H.nx_new, H.nx_kill]; done) | (simp only [H.nx_put, H.nx_new, H.nx_kill]; omega)) only [go_sem, Nat.add_assoc, Nat.reduceAdd, Nat.reduceMul, Nat.zero_add, Nat.add_zero, Nat.mul_one, Nat.zero_mul, true_and, and_true, eq_self, t0, t1, t5, t6, t7, t8, hlenA, hlt, hz', D7_in, g_ss_run (winF_lt t l) ht, inV, win_in, D7_win, g_sp_run ho2 ht (pairsAt_nil hh false), winV, win_nil ht, g_sp_run0 ho2 (pairsAt_sub hsub hl), win_zero, cast0, D7_first, extT_eq ho2, g_s_run ht, firstV, D7_with, g_si_run0, withV, g_sp_run ho2 hbl (pairsAt_sub hsub hl), win_single ht]
          exact ⟨hh, rfl⟩
        · have hz' : ¬ ((t : Int) = 0) := by omega
          simp (decide := true) (disch := first | assumption | exact rfl | decide | omega | (simp only [H.nx_put, H.nx_new, H.nx_kill]; done) | (simp only [H.nx_put, H.nx_new, H.nx_kill]; omega)) only [go_sem, Nat.add_assoc, Nat.reduceAdd, Nat.reduceMul, Nat.zero_add, Nat.add_zero, Nat.mul_one, Nat.zero_mul, true_and, and_true, eq_self, t0, t1, t5, t6, t7, t8, hlenA, hlt, hz', D7_in, g_ss_run (winF_lt t l) ht, inV, win_in, D7_win, g_sp_run ho2 ht (pairsAt_nil hh false), winV, win_nil ht, g_sp_run0 ho2 (pairsAt_sub hsub hl), win_zero, cast0, D7_first, extT_eq ho2, g_s_run ht, firstV, D7_with, g_si_run0, withV, g_sp_run ho2 hbl (pairsAt_sub hsub hl), win_single ht, D7_has, g_sp_run ho2 ht hup, g_si_run (winF_lt t (upF l)), hasV, win_first hz ht hup2]
          exact ⟨hh, rfl⟩
    · refine ⟨0, _, .slice none 0 0 false, 0, rfl, by simp (decide := true) (disch := first | assumption | exact rfl | decide | omega | (simp only [H.nx_put, H.nx_new, H.nx_kill]; done) | (simp only [H.nx_put, H.nx_new, H.nx_kill]; omega)) only [go_sem, Nat.add_assoc, Nat.reduceAdd, Nat.reduceMul, Nat.zero_add, Nat.add_zero, Nat.mul_one, Nat.zero_mul, true_and, and_true, eq_self, hrc], by simp (decide := true) (disch := first | assumption | exact rfl | decide | omega | (simp only [H.nx_put, H.nx_new, H.nx_kill]; done) | (simp only [H.nx_put, H.nx_new, H.nx_kill]; omega)) only [go_sem, Nat.add_assoc, Nat.reduceAdd, Nat.reduceMul, Nat.zero_add, Nat.add_zero, Nat.mul_one, Nat.zero_mul, true_and, and_true, eq_self, hrc], by simp (decide := true) (disch := first | assumption | exact rfl | decide | omega | (simp only [H.nx_put, H.nx_new, H.nx_kill]; done) | (simp only [H.nx_put, H.nx_new, H.nx_kill]; omega)) only [go_sem, Nat.add_assoc, Nat.reduceAdd, Nat.reduceMul, Nat.zero_add, Nat.add_zero, Nat.mul_one, Nat.zero_mul, true_and, and_true, eq_self, hrc], by simp (decide := true) (disch := first | assumption | exact rfl | decide | omega | (simp only [H.nx_put, H.nx_new, H.nx_kill]; done) | (simp only [H.nx_put, H.nx_new, H.nx_kill]; omega)) only [go_sem, Nat.add_assoc, Nat.reduceAdd, Nat.reduceMul, Nat.zero_add, Nat.add_zero, Nat.mul_one, Nat.zero_mul, true_and, and_true, eq_self, hrc], by simp (decide := true) (disch := first | assumption | exact rfl | decide | omega | (simp only [H.nx_put, H.nx_new, H.nx_kill]; done) | (simp only [H.nx_put, H.nx_new, H.nx_kill]; omega)) only [go_sem, Nat.add_assoc, Nat.reduceAdd, Nat.reduceMul, Nat.zero_add, Nat.add_zero, Nat.mul_one, Nat.zero_mul, true_and, and_true, eq_self, hrc], by simp (decide := true) (disch := first | assumption | exact rfl | decide | omega | (simp only [H.nx_put, H.nx_new, H.nx_kill]; done) | (simp only [H.nx_put, H.nx_new, H.nx_kill]; omega)) only [go_sem, Nat.add_assoc, Nat.reduceAdd, Nat.reduceMul, Nat.zero_add, Nat.add_zero, Nat.mul_one, Nat.zero_mul, true_and, and_true, eq_self, hrc]; rfl, by omega, by omega, Sub.refl _, .inl ⟨rfl, rfl⟩⟩
end
end Go.Proofs.YtbmcloahjiimeaaGreatDoor.Dm
