/- Where an automaton goes; what is accepted: the walks. -/
import Derived.Test.YtbmcloahjiimeaaGreatDoorMuI
set_option linter.all false
namespace Go.Proofs.YtbmcloahjiimeaaGreatDoor.Dm
open Go Go.Dm
noncomputable section

@[go_sem] theorem vBox_agg (e : Nat) (l : List DV) (h : H) : vBox e (.agg l) h = .val (.ptr (some (h.nx, 0))) (h.new (.cells l e false)) := _root_.id rfl
def vMinI (x y : DV) (h : H) : N := oMinI (.c x) (.c y) (fun z => match z with | .c v => v | _ => .undef) h
@[go_sem] theorem oMinI_eq (x y : DX) (ev : Ev) (h : H) : oMinI x y ev h = vMinI (ev x) (ev y) h := _root_.id rfl
@[go_sem] theorem vMinI_i (k : IntKind) (a b : Int) (h : H) : vMinI (.int k a) (.int k b) h = .val (.int k (min a b)) h := by
  show N.val (.int k (bif iLe a b then a else b)) h = _
  rw [iLe_eq]
  by_cases hab : a ≤ b
  · rw [show min a b = a by omega]; simp [hab]
  · rw [show min a b = b by omega]; simp [hab]
theorem cls_at {D : Dfa} (hc : D.cls.length = 256) {b : Nat} (hb : b < 256) : ∃ c, D.cls[b]? = some c := ⟨D.cls[b]'(by omega), by simp [hc, hb]⟩
theorem row_at {D : Dfa} {m : Nat} (hm : m < D.nxt.length) : ∃ r, D.nxt[m]? = some r := ⟨D.nxt[m], by simp [hm]⟩

theorem c_go : Contract D7 37 g_go := by
  intro args h v h' hg fr hrc
  obtain ⟨d, a, b, D, rfl, hd, hb, rfl, rfl⟩ := g_go_inv hg
  obtain ⟨l, n, t, ns, rfl, I⟩ := dfaAt_inv hd
  obtain ⟨c, hc⟩ := cls_at I.cls hb
  have hlb := I.at_ b c hc
  have hib : inB (b : Int) 256 = some b := inB_of_lt hb
  have hn := fun hh => I.nlen hh
  have hln := I.nxt
  refine wp_call (F := df37) (of_fn D7_fn fe37) (Nat.le_of_ble_eq_true rfl) ?_
  by_cases c1 : a < 0
  · simp (decide := true) (disch := first | assumption | exact rfl | decide | omega | (simp only [H.nx_put, H.nx_new, H.nx_kill]; done) | (simp only [H.nx_put, H.nx_new, H.nx_kill]; omega)) only [go_sem, Nat.add_assoc, Nat.reduceAdd, Nat.reduceMul, Nat.zero_add, Nat.add_zero, Nat.mul_one, Nat.zero_mul, true_and, and_true, eq_self, df37, hrc, hlb, hib, c1, hn, hln]
    refine left_plain ?_ rfl (by repeat (first | exact Sub.refl _ | refine Sub.new' ?_ _))
    rw [show goF D a b = -1 from if_pos (.inl c1)]
  · by_cases c2 : (D.nxt.length : Int) ≤ a
    · simp (decide := true) (disch := first | assumption | exact rfl | decide | omega | (simp only [H.nx_put, H.nx_new, H.nx_kill]; done) | (simp only [H.nx_put, H.nx_new, H.nx_kill]; omega)) only [go_sem, Nat.add_assoc, Nat.reduceAdd, Nat.reduceMul, Nat.zero_add, Nat.add_zero, Nat.mul_one, Nat.zero_mul, true_and, and_true, eq_self, df37, hrc, hlb, hib, c1, c2, hn, hln]
      refine left_plain ?_ rfl (by repeat (first | exact Sub.refl _ | refine Sub.new' ?_ _))
      rw [show goF D a b = -1 from if_pos (.inr c2)]
    · obtain ⟨m, rfl⟩ : ∃ m : Nat, a = (m : Int) := ⟨a.toNat, by omega⟩
      obtain ⟨r, hr⟩ := row_at (D := D) (m := m) (by omega)
      obtain ⟨dn, o, cap, op, cs', e, ro, s, rfl, hdn, hgd, hls, hrow⟩ := I.row hr
      obtain ⟨k1, -, k3, k4⟩ := rowZ_inv hrow
      rw [List.length_map] at k1 k3 k4
      have him : inB (m : Int) D.nxt.length = some m := inB_of_lt (by omega)
      have hgo : goF D (m : Int) b = if c < 0 ∨ (r.length : Int) ≤ c then -1 else (if (r[c.toNat]?).getD 0 < 0 ∨ (D.nxt.length : Int) ≤ (r[c.toNat]?).getD 0 then -1 else (r[c.toNat]?).getD 0) := by
        unfold goF
        rw [if_neg (by omega)]
        simp only [hc, Option.getD_some, Int.toNat_natCast, hr]
      by_cases c3 : c < 0
      · simp (decide := true) (disch := first | assumption | exact rfl | decide | omega | (simp only [H.nx_put, H.nx_new, H.nx_kill]; done) | (simp only [H.nx_put, H.nx_new, H.nx_kill]; omega)) only [go_sem, Nat.add_assoc, Nat.reduceAdd, Nat.reduceMul, Nat.zero_add, Nat.add_zero, Nat.mul_one, Nat.zero_mul, true_and, and_true, eq_self, df37, hrc, hlb, hib, c1, c2, hn, hln, c3]
        refine left_plain ?_ rfl (by repeat (first | exact Sub.refl _ | refine Sub.new' ?_ _))
        rw [hgo, if_pos (.inl c3)]
      · by_cases c4 : (r.length : Int) ≤ c
        · simp (decide := true) (disch := first | assumption | exact rfl | decide | omega | (simp only [H.nx_put, H.nx_new, H.nx_kill]; done) | (simp only [H.nx_put, H.nx_new, H.nx_kill]; omega)) only [go_sem, Nat.add_assoc, Nat.reduceAdd, Nat.reduceMul, Nat.zero_add, Nat.add_zero, Nat.mul_one, Nat.zero_mul, true_and, and_true, eq_self, df37, hrc, hlb, hib, c1, c2, hn, hln, c3, him, hgd, hls, k1, c4]
          refine left_plain ?_ rfl (by repeat (first | exact Sub.refl _ | refine Sub.new' ?_ _))
          rw [hgo, if_pos (.inr c4)]
        · obtain ⟨q, rfl⟩ : ∃ q : Nat, c = (q : Int) := ⟨c.toNat, by omega⟩
          obtain ⟨to, hto⟩ : ∃ to, r[q]? = some to := ⟨r[q]'(by omega), by simp⟩
          obtain ⟨d2, o2, cap2, op2, cs2, e2, ro2, rfl, hd2, hg2, hl2⟩ := k4 q (intDV to) (by rw [List.getElem?_map, hto]; rfl)
          have hl2' : lget cs2 (o2 + q) = some (.int .i64 to) := hl2
          have hiq : inB (q : Int) r.length = some q := inB_of_lt (by omega)
          rw [if_neg (by omega), Int.toNat_natCast, hto, Option.getD_some] at hgo
          by_cases c5 : to < 0
          · simp (decide := true) (disch := first | assumption | exact rfl | decide | omega | (simp only [H.nx_put, H.nx_new, H.nx_kill]; done) | (simp only [H.nx_put, H.nx_new, H.nx_kill]; omega)) only [go_sem, Nat.add_assoc, Nat.reduceAdd, Nat.reduceMul, Nat.zero_add, Nat.add_zero, Nat.mul_one, Nat.zero_mul, true_and, and_true, eq_self, df37, hrc, hlb, hib, c1, c2, hn, hln, c3, him, hgd, hls, k1, c4, hiq, hg2, hl2', c5]
            refine left_plain ?_ rfl (by repeat (first | exact Sub.refl _ | refine Sub.new' ?_ _))
            rw [hgo, if_pos (.inl c5)]
          · by_cases c6 : (D.nxt.length : Int) ≤ to
            · simp (decide := true) (disch := first | assumption | exact rfl | decide | omega | (simp only [H.nx_put, H.nx_new, H.nx_kill]; done) | (simp only [H.nx_put, H.nx_new, H.nx_kill]; omega)) only [go_sem, Nat.add_assoc, Nat.reduceAdd, Nat.reduceMul, Nat.zero_add, Nat.add_zero, Nat.mul_one, Nat.zero_mul, true_and, and_true, eq_self, df37, hrc, hlb, hib, c1, c2, hn, hln, c3, him, hgd, hls, k1, c4, hiq, hg2, hl2', c5, c6]
              refine left_plain ?_ rfl (by repeat (first | exact Sub.refl _ | refine Sub.new' ?_ _))
              rw [hgo, if_pos (.inr c6)]
            · simp (decide := true) (disch := first | assumption | exact rfl | decide | omega | (simp only [H.nx_put, H.nx_new, H.nx_kill]; done) | (simp only [H.nx_put, H.nx_new, H.nx_kill]; omega)) only [go_sem, Nat.add_assoc, Nat.reduceAdd, Nat.reduceMul, Nat.zero_add, Nat.add_zero, Nat.mul_one, Nat.zero_mul, true_and, and_true, eq_self, df37, hrc, hlb, hib, c1, c2, hn, hln, c3, him, hgd, hls, k1, c4, hiq, hg2, hl2', c5, c6]
              refine left_plain ?_ rfl (by repeat (first | exact Sub.refl _ | refine Sub.new' ?_ _))
              rw [hgo, if_neg (by omega)]

def D8 : Env := D7.add 37 g_go
theorem D8_fn : D8.fn = fnE := rfl
theorem D8_go : D8.ext 37 = some g_go := _root_.id rfl

/-! ### Texts -/
def okS (s : List Nat) : Bool := s.all (fun b => Nat.blt b 256) && Nat.ble s.length 281474976710656
theorem okS_inv {s : List Nat} (h : okS s = true) : (∀ b ∈ s, b < 256) ∧ s.length ≤ 281474976710656 := by
  unfold okS at h
  rw [Bool.and_eq_true, List.all_eq_true] at h
  exact ⟨fun b hb => by have := h.1 b hb; rwa [Nat.blt_eq] at this, by have := h.2; rwa [Nat.ble_eq] at this⟩
theorem okS_of {s : List Nat} (h1 : ∀ b ∈ s, b < 256) (h2 : s.length ≤ 281474976710656) : okS s = true := by
  unfold okS
  rw [Bool.and_eq_true, List.all_eq_true]
  exact ⟨fun b hb => by rw [Nat.blt_eq]; exact h1 b hb, by rw [Nat.ble_eq]; exact h2⟩
def stF (D : Dfa) (s : List Nat) : Int := s.foldl (goF D) 0
def runF (D : Dfa) (s : List Nat) : Nat := if stF D s < 0 ∨ min (D.tags.length : Int) D.nxt.length ≤ stF D s then 0 else (D.tags[(stF D s).toNat]?).getD 0
def g_run : Ext := fun args h => match args with
  | [d, .str s] => match dfaAt h d with
    | some D => bif okS s then some (.int .u64 (runF D s : Nat), h) else none
    | none => none
  | _ => none
theorem g_run_inv {args : List DV} {h h' : H} {v : DV} (hg : g_run args h = some (v, h')) : ∃ d s D, args = [d, .str s] ∧ dfaAt h d = some D ∧ okS s = true ∧ v = .int .u64 (runF D s : Nat) ∧ h' = h := by
  unfold g_run at hg
  split at hg
  · rename_i d s
    split at hg
    · rename_i D hd
      cases ho : okS s with
      | false => rw [ho] at hg; cases hg
      | true => rw [ho] at hg; cases hg; exact ⟨d, s, D, rfl, hd, ho, rfl, rfl⟩
    · cases hg
  · cases hg
theorem g_run_run {h : H} {d : DV} {D : Dfa} (hd : dfaAt h d = some D) {s : List Nat} (ho : okS s = true) : g_run [d, .str s] h = some (.int .u64 (runF D s : Nat), h) := by
  unfold g_run
  simp only [hd, ho, cond_true]
theorem stF_take {D : Dfa} {s : List Nat} {i b : Nat} (hb : s[i]? = some b) : stF D (s.take (i + 1)) = goF D (stF D (s.take i)) b := by
  unfold stF
  rw [List.take_add_one, hb, List.foldl_append]; rfl
theorem dfaAt_agg {h : H} {l : List DV} {D : Dfa} (hd : dfaAt h (.agg l) = some D) : ∃ n t ns, IsDfa h D l n t ns := by
  obtain ⟨l', n, t, ns, e, I⟩ := dfaAt_inv hd
  cases e
  exact ⟨n, t, ns, I⟩
theorem cast0' : ((0 : Nat) : Int) = 0 := rfl

theorem c_run : Contract D8 26 g_run := by
  intro args h v h' hg fr hrc
  obtain ⟨d, s, D, rfl, hd, ho, rfl, rfl⟩ := g_run_inv hg
  obtain ⟨hbs, hsl⟩ := okS_inv ho
  obtain ⟨l, n, t, ns, rfl, I⟩ := dfaAt_inv hd
  have hln := I.nxt
  have hlt := I.tag
  have hsam := I.sam
  have hpart := I.part
  refine wp_call (F := df26) (of_fn D8_fn fe26) (Nat.le_of_ble_eq_true rfl) ?_
  simp (decide := true) (disch := first | assumption | exact rfl | decide | omega | (simp only [H.nx_put, H.nx_new, H.nx_kill]; done) | (simp only [H.nx_put, H.nx_new, H.nx_kill]; omega)) only [go_sem, Nat.add_assoc, Nat.reduceAdd, Nat.reduceMul, Nat.zero_add, Nat.add_zero, Nat.mul_one, Nat.zero_mul, true_and, and_true, eq_self, df26, hrc]
  refine Go.Dm.wp_loop (fun k fr hh => ∃ (i : Nat) (tm : T DV), fr = ⟨26, 37, tm, [], none, none⟩ ∧ tm.get s1 = some (.str s) ∧ tm.get s2 = some (.ptr (some (h'.nx, 0))) ∧ tm.get s5 = some (.int .i64 (stF D (s.take i))) ∧ tm.get s8 = some (.int .i64 (s.length : Int)) ∧ tm.get s9 = some (.int .i64 (i : Int)) ∧
    i ≤ s.length ∧ k = s.length - i ∧ Sub h' hh ∧ h'.nx < hh.nx ∧ hh.get h'.nx = some (.cells l 26 false)) ?_ s.length _ _ ?_
  · intro k fr hh ⟨i, tm, hfr, t1, t2, t5, t8, t9, hi, hk, hsub, hnx, hbx⟩
    subst hfr
    by_cases hin : i < s.length
    · obtain ⟨b, hb⟩ : ∃ b, s[i]? = some b := ⟨s[i], by simp [hin]⟩
      have hlb : lget s i = some b := by rw [lget_eq]; exact hb
      have hlt' : ((i : Int) < (s.length : Int)) := by omega
      have hadd : IntKind.i64.wrap ((i : Int) + 1) = ((i + 1 : Nat) : Int) := by
        rw [wrap_i64 (by omega) (by omega)]; rfl
      have hd2 := dfaAt_sub hsub hd
      have hb2 := hbs b (List.mem_of_getElem? hb)
      simp (decide := true) (disch := first | assumption | exact rfl | decide | omega | (simp only [H.nx_put, H.nx_new, H.nx_kill]; done) | (simp only [H.nx_put, H.nx_new, H.nx_kill]; omega)) only [go_sem, Nat.add_assoc, Nat.reduceAdd, Nat.reduceMul, Nat.zero_add, Nat.add_zero, Nat.mul_one, Nat.zero_mul, true_and, and_true, eq_self, t1, t2, t5, t8, t9, hlt', hbx, hpart, hlb, D8_go, g_go_run hd2 _ hb2, hadd, hsam]
      refine ⟨s.length - (i + 1), by omega, i + 1, _, rfl, by simp (decide := true) (disch := first | assumption | exact rfl | decide | omega | (simp only [H.nx_put, H.nx_new, H.nx_kill]; done) | (simp only [H.nx_put, H.nx_new, H.nx_kill]; omega)) only [go_sem, Nat.add_assoc, Nat.reduceAdd, Nat.reduceMul, Nat.zero_add, Nat.add_zero, Nat.mul_one, Nat.zero_mul, true_and, and_true, eq_self, t1], by simp (decide := true) (disch := first | assumption | exact rfl | decide | omega | (simp only [H.nx_put, H.nx_new, H.nx_kill]; done) | (simp only [H.nx_put, H.nx_new, H.nx_kill]; omega)) only [go_sem, Nat.add_assoc, Nat.reduceAdd, Nat.reduceMul, Nat.zero_add, Nat.add_zero, Nat.mul_one, Nat.zero_mul, true_and, and_true, eq_self, t2], by simp (decide := true) (disch := first | assumption | exact rfl | decide | omega | (simp only [H.nx_put, H.nx_new, H.nx_kill]; done) | (simp only [H.nx_put, H.nx_new, H.nx_kill]; omega)) only [go_sem, Nat.add_assoc, Nat.reduceAdd, Nat.reduceMul, Nat.zero_add, Nat.add_zero, Nat.mul_one, Nat.zero_mul, true_and, and_true, eq_self, stF_take hb], by simp (decide := true) (disch := first | assumption | exact rfl | decide | omega | (simp only [H.nx_put, H.nx_new, H.nx_kill]; done) | (simp only [H.nx_put, H.nx_new, H.nx_kill]; omega)) only [go_sem, Nat.add_assoc, Nat.reduceAdd, Nat.reduceMul, Nat.zero_add, Nat.add_zero, Nat.mul_one, Nat.zero_mul, true_and, and_true, eq_self, t8], by simp (decide := true) (disch := first | assumption | exact rfl | decide | omega | (simp only [H.nx_put, H.nx_new, H.nx_kill]; done) | (simp only [H.nx_put, H.nx_new, H.nx_kill]; omega)) only [go_sem, Nat.add_assoc, Nat.reduceAdd, Nat.reduceMul, Nat.zero_add, Nat.add_zero, Nat.mul_one, Nat.zero_mul, true_and, and_true, eq_self, t9], by omega, rfl, hsub, hnx⟩
    · have hlt' : ¬ ((i : Int) < (s.length : Int)) := by omega
      have hst : s.take i = s := List.take_of_length_le (by omega)
      rw [hst] at t5
      have hnl := fun hh => I.nlen hh
      have htl := fun hh => I.tlen hh
      by_cases c1 : stF D s < 0
      · simp (decide := true) (disch := first | assumption | exact rfl | decide | omega | (simp only [H.nx_put, H.nx_new, H.nx_kill]; done) | (simp only [H.nx_put, H.nx_new, H.nx_kill]; omega)) only [go_sem, Nat.add_assoc, Nat.reduceAdd, Nat.reduceMul, Nat.zero_add, Nat.add_zero, Nat.mul_one, Nat.zero_mul, true_and, and_true, eq_self, t1, t2, t5, t8, t9, hlt', hbx, hln, hlt, c1]
        refine left_plain ?_ (by rfl) hsub
        rw [show runF D s = 0 from if_pos (.inl c1)]; rfl
      · by_cases c2 : min (D.tags.length : Int) D.nxt.length ≤ stF D s
        · simp (decide := true) (disch := first | assumption | exact rfl | decide | omega | (simp only [H.nx_put, H.nx_new, H.nx_kill]; done) | (simp only [H.nx_put, H.nx_new, H.nx_kill]; omega)) only [go_sem, Nat.add_assoc, Nat.reduceAdd, Nat.reduceMul, Nat.zero_add, Nat.add_zero, Nat.mul_one, Nat.zero_mul, true_and, and_true, eq_self, t1, t2, t5, t8, t9, hlt', hbx, hln, hlt, c1, c2, hnl, htl]
          refine left_plain ?_ (by rfl) hsub
          rw [show runF D s = 0 from if_pos (.inr c2)]; rfl
        · obtain ⟨m, hm⟩ : ∃ m : Nat, stF D s = (m : Int) := ⟨(stF D s).toNat, by omega⟩
          obtain ⟨g, hg⟩ : ∃ g, D.tags[m]? = some g := ⟨D.tags[m]'(by omega), by simp⟩
          obtain ⟨-, -, -, k4⟩ := rowZ_inv I.rowt
          obtain ⟨dt, o, cap, op, cs', e, ro, rfl, hdt, hgt, hlg⟩ := k4 m (setDV g) (by rw [List.getElem?_map, hg]; rfl)
          rw [List.length_map] at *
          have hlg' : lget cs' (o + m) = some (.int .u64 (g : Int)) := hlg
          have hgt' : hh.get dt = some (.cells cs' e ro) := by rw [hsub.get dt hdt]; exact hgt
          have him : inB (m : Int) D.tags.length = some m := inB_of_lt (by omega)
          rw [hm] at t5 c1 c2
          simp (decide := true) (disch := first | assumption | exact rfl | decide | omega | (simp only [H.nx_put, H.nx_new, H.nx_kill]; done) | (simp only [H.nx_put, H.nx_new, H.nx_kill]; omega)) only [go_sem, Nat.add_assoc, Nat.reduceAdd, Nat.reduceMul, Nat.zero_add, Nat.add_zero, Nat.mul_one, Nat.zero_mul, true_and, and_true, eq_self, t1, t2, t5, t8, t9, hlt', hbx, hln, hlt, c1, c2, hnl, htl, him, hgt', hlg']
          refine left_plain ?_ (by rfl) hsub
          rw [show runF D s = g by unfold runF; rw [hm, if_neg (by omega), Int.toNat_natCast, hg]; rfl]
  · refine ⟨0, _, rfl, by simp (decide := true) (disch := first | assumption | exact rfl | decide | omega | (simp only [H.nx_put, H.nx_new, H.nx_kill]; done) | (simp only [H.nx_put, H.nx_new, H.nx_kill]; omega)) only [go_sem, Nat.add_assoc, Nat.reduceAdd, Nat.reduceMul, Nat.zero_add, Nat.add_zero, Nat.mul_one, Nat.zero_mul, true_and, and_true, eq_self, s0], by simp (decide := true) (disch := first | assumption | exact rfl | decide | omega | (simp only [H.nx_put, H.nx_new, H.nx_kill]; done) | (simp only [H.nx_put, H.nx_new, H.nx_kill]; omega)) only [go_sem, Nat.add_assoc, Nat.reduceAdd, Nat.reduceMul, Nat.zero_add, Nat.add_zero, Nat.mul_one, Nat.zero_mul, true_and, and_true, eq_self, s0], by simp (decide := true) (disch := first | assumption | exact rfl | decide | omega | (simp only [H.nx_put, H.nx_new, H.nx_kill]; done) | (simp only [H.nx_put, H.nx_new, H.nx_kill]; omega)) only [go_sem, Nat.add_assoc, Nat.reduceAdd, Nat.reduceMul, Nat.zero_add, Nat.add_zero, Nat.mul_one, Nat.zero_mul, true_and, and_true, eq_self, s0]; rfl, by simp (decide := true) (disch := first | assumption | exact rfl | decide | omega | (simp only [H.nx_put, H.nx_new, H.nx_kill]; done) | (simp only [H.nx_put, H.nx_new, H.nx_kill]; omega)) only [go_sem, Nat.add_assoc, Nat.reduceAdd, Nat.reduceMul, Nat.zero_add, Nat.add_zero, Nat.mul_one, Nat.zero_mul, true_and, and_true, eq_self, s0], by simp (decide := true) (disch := first | assumption | exact rfl | decide | omega | (simp only [H.nx_put, H.nx_new, H.nx_kill]; done) | (simp only [H.nx_put, H.nx_new, H.nx_kill]; omega)) only [go_sem, Nat.add_assoc, Nat.reduceAdd, Nat.reduceMul, Nat.zero_add, Nat.add_zero, Nat.mul_one, Nat.zero_mul, true_and, and_true, eq_self, s0]; rfl, by omega, by omega, Sub.new _ _, by rw [H.nx_new]; omega, H.get_new _ _⟩

/-! ### Is there so little of it? -/
def littleF (D : Dfa) : Bool := (D.nxt.take 30).all (fun r => decide (r.length ≤ 20)) && decide (D.nxt.length < 30) && decide (D.tags.length < 30)
def g_little : Ext := fun args h => match args with
  | [d] => match dfaAt h d with
    | some D => some (.bool (littleF D), h)
    | none => none
  | _ => none
theorem g_little_inv {args : List DV} {h h' : H} {v : DV} (hg : g_little args h = some (v, h')) : ∃ d D, args = [d] ∧ dfaAt h d = some D ∧ v = .bool (littleF D) ∧ h' = h := by
  unfold g_little at hg
  split at hg
  · rename_i d
    split at hg
    · rename_i D hd
      cases hg; exact ⟨d, D, rfl, hd, rfl, rfl⟩
    · cases hg
  · cases hg
theorem g_little_run {h : H} {d : DV} {D : Dfa} (hd : dfaAt h d = some D) : g_little [d] h = some (.bool (littleF D), h) := by
  unfold g_little
  simp only [hd]
theorem c_little : Contract D8 36 g_little := by
  intro args h v h' hg fr hrc
  obtain ⟨d, D, rfl, hd, rfl, rfl⟩ := g_little_inv hg
  obtain ⟨l, n, t, ns, rfl, I⟩ := dfaAt_inv hd
  have hln := I.nxt
  have hlt := I.tag
  have hnl := fun hh => I.nlen hh
  have htl := fun hh => I.tlen hh
  have hnle := I.nle
  refine wp_call (F := df36) (of_fn D8_fn fe36) (Nat.le_of_ble_eq_true rfl) ?_
  simp (decide := true) (disch := first | assumption | exact rfl | decide | omega | (simp only [H.nx_put, H.nx_new, H.nx_kill]; done) | (simp only [H.nx_put, H.nx_new, H.nx_kill]; omega)) only [go_sem, Nat.add_assoc, Nat.reduceAdd, Nat.reduceMul, Nat.zero_add, Nat.add_zero, Nat.mul_one, Nat.zero_mul, true_and, and_true, eq_self, df36, hrc]
  refine Go.Dm.wp_loop (fun k fr hh => ∃ (i : Nat) (tm : T DV), fr = ⟨36, 32, tm, [], none, none⟩ ∧ tm.get s1 = some (.ptr (some (h'.nx, 0))) ∧ tm.get s3 = some (.int .i64 (i : Int)) ∧
    i ≤ D.nxt.length ∧ k = D.nxt.length - i ∧ Sub h' hh ∧ h'.nx < hh.nx ∧ hh.get h'.nx = some (.cells l 26 false) ∧ (∀ r ∈ (D.nxt.take 30).take i, r.length ≤ 20)) ?_ D.nxt.length _ _ ?_
  · intro k fr hh ⟨i, tm, hfr, t1, t3, hi, hk, hsub, hnx, hbx, hall⟩
    subst hfr
    have hout : 30 ≤ i ∨ D.nxt.length ≤ i → ∀ r ∈ D.nxt.take 30, r.length ≤ 20 := by
      intro ho r hr
      refine hall r ?_
      rcases ho with ho | ho
      · rw [List.take_take, Nat.min_eq_right (by omega)]; exact hr
      · rw [List.take_of_length_le (l := D.nxt.take 30) (by rw [List.length_take]; omega)]; exact hr
    by_cases hin : i < D.nxt.length
    · have hlt' : ((i : Int) < (D.nxt.length : Int)) := by omega
      by_cases h30 : i < 30
      · have h30' : ((i : Int) < 30) := by omega
        obtain ⟨r, hr⟩ := row_at (D := D) (m := i) hin
        obtain ⟨dn, o, cap, op, cs', e, ro, s, rfl, hdn, hgd, hls, hrow⟩ := I.row hr
        obtain ⟨k1, -, k3, k4⟩ := rowZ_inv hrow
        rw [List.length_map] at k1 k3 k4
        have hgd' : hh.get dn = some (.cells cs' e ro) := by rw [hsub.get dn hdn]; exact hgd
        have him : inB (i : Int) D.nxt.length = some i := inB_of_lt hin
        have hadd : IntKind.i64.wrap ((i : Int) + 1) = ((i + 1 : Nat) : Int) := by
          rw [wrap_i64 (by omega) (by omega)]; rfl
        have htk : (D.nxt.take 30).take (i + 1) = (D.nxt.take 30).take i ++ [r] := by
          rw [List.take_add_one, List.getElem?_take, if_pos h30, hr]; rfl
        by_cases c1 : (20 : Int) < r.length
        · simp (decide := true) (disch := first | assumption | exact rfl | decide | omega | (simp only [H.nx_put, H.nx_new, H.nx_kill]; done) | (simp only [H.nx_put, H.nx_new, H.nx_kill]; omega)) only [go_sem, Nat.add_assoc, Nat.reduceAdd, Nat.reduceMul, Nat.zero_add, Nat.add_zero, Nat.mul_one, Nat.zero_mul, true_and, and_true, eq_self, t1, t3, hlt', hbx, hln, hlt, hnl, h30', him, hgd', hls, k1, c1]
          refine left_plain ?_ (by rfl) hsub
          rw [show littleF D = false by
            unfold littleF
            rw [show ((D.nxt.take 30).all fun r => decide (r.length ≤ 20)) = false by
              rw [List.all_eq_false]
              exact ⟨r, List.mem_iff_getElem?.2 ⟨i, by rw [List.getElem?_take, if_pos h30, hr]⟩, by simp; omega⟩]
            rfl]
        · simp (decide := true) (disch := first | assumption | exact rfl | decide | omega | (simp only [H.nx_put, H.nx_new, H.nx_kill]; done) | (simp only [H.nx_put, H.nx_new, H.nx_kill]; omega)) only [go_sem, Nat.add_assoc, Nat.reduceAdd, Nat.reduceMul, Nat.zero_add, Nat.add_zero, Nat.mul_one, Nat.zero_mul, true_and, and_true, eq_self, t1, t3, hlt', hbx, hln, hlt, hnl, h30', him, hgd', hls, k1, c1, hadd]
          refine ⟨D.nxt.length - (i + 1), by omega, i + 1, _, rfl, by simp (decide := true) (disch := first | assumption | exact rfl | decide | omega | (simp only [H.nx_put, H.nx_new, H.nx_kill]; done) | (simp only [H.nx_put, H.nx_new, H.nx_kill]; omega)) only [go_sem, Nat.add_assoc, Nat.reduceAdd, Nat.reduceMul, Nat.zero_add, Nat.add_zero, Nat.mul_one, Nat.zero_mul, true_and, and_true, eq_self, t1], by simp (decide := true) (disch := first | assumption | exact rfl | decide | omega | (simp only [H.nx_put, H.nx_new, H.nx_kill]; done) | (simp only [H.nx_put, H.nx_new, H.nx_kill]; omega)) only [go_sem, Nat.add_assoc, Nat.reduceAdd, Nat.reduceMul, Nat.zero_add, Nat.add_zero, Nat.mul_one, Nat.zero_mul, true_and, and_true, eq_self, t3], by omega, rfl, hsub, hnx, fun r' hr' => ?_⟩
          rw [htk] at hr'
          rcases List.mem_append.1 hr' with hr' | hr'
          · exact hall r' hr'
          · simp at hr'; subst hr'; omega
      · have h30' : ¬ ((i : Int) < 30) := by omega
        have hn30 : ¬ ((D.nxt.length : Int) < 30) := by omega
        simp (decide := true) (disch := first | assumption | exact rfl | decide | omega | (simp only [H.nx_put, H.nx_new, H.nx_kill]; done) | (simp only [H.nx_put, H.nx_new, H.nx_kill]; omega)) only [go_sem, Nat.add_assoc, Nat.reduceAdd, Nat.reduceMul, Nat.zero_add, Nat.add_zero, Nat.mul_one, Nat.zero_mul, true_and, and_true, eq_self, t1, t3, hlt', hbx, hln, hlt, hnl, h30', hn30]
        refine left_plain ?_ (by rfl) hsub
        rw [show littleF D = false by
          unfold littleF
          rw [show decide (D.nxt.length < 30) = false by simp; omega]
          simp]
    · have hlt' : ¬ ((i : Int) < (D.nxt.length : Int)) := by omega
      have ha : ((D.nxt.take 30).all fun r => decide (r.length ≤ 20)) = true := by
        rw [List.all_eq_true]
        intro r hr
        exact decide_eq_true (hout (.inr (by omega)) r hr)
      by_cases c1 : (D.nxt.length : Int) < 30
      · by_cases c2 : (D.tags.length : Int) < 30
        · simp (decide := true) (disch := first | assumption | exact rfl | decide | omega | (simp only [H.nx_put, H.nx_new, H.nx_kill]; done) | (simp only [H.nx_put, H.nx_new, H.nx_kill]; omega)) only [go_sem, Nat.add_assoc, Nat.reduceAdd, Nat.reduceMul, Nat.zero_add, Nat.add_zero, Nat.mul_one, Nat.zero_mul, true_and, and_true, eq_self, t1, t3, hlt', hbx, hln, hlt, hnl, htl, c1, c2]
          refine left_plain ?_ (by rfl) hsub
          rw [show littleF D = true by
            unfold littleF
            rw [ha, show decide (D.nxt.length < 30) = true by simp; omega, show decide (D.tags.length < 30) = true by simp; omega]; rfl]
        · simp (decide := true) (disch := first | assumption | exact rfl | decide | omega | (simp only [H.nx_put, H.nx_new, H.nx_kill]; done) | (simp only [H.nx_put, H.nx_new, H.nx_kill]; omega)) only [go_sem, Nat.add_assoc, Nat.reduceAdd, Nat.reduceMul, Nat.zero_add, Nat.add_zero, Nat.mul_one, Nat.zero_mul, true_and, and_true, eq_self, t1, t3, hlt', hbx, hln, hlt, hnl, htl, c1, c2]
          refine left_plain ?_ (by rfl) hsub
          rw [show littleF D = false by
            unfold littleF
            rw [show decide (D.tags.length < 30) = false by simp; omega]; simp]
      · simp (decide := true) (disch := first | assumption | exact rfl | decide | omega | (simp only [H.nx_put, H.nx_new, H.nx_kill]; done) | (simp only [H.nx_put, H.nx_new, H.nx_kill]; omega)) only [go_sem, Nat.add_assoc, Nat.reduceAdd, Nat.reduceMul, Nat.zero_add, Nat.add_zero, Nat.mul_one, Nat.zero_mul, true_and, and_true, eq_self, t1, t3, hlt', hbx, hln, hlt, hnl, htl, c1]
        refine left_plain ?_ (by rfl) hsub
        rw [show littleF D = false by
          unfold littleF
          rw [show decide (D.nxt.length < 30) = false by simp; omega]; simp]
  · refine ⟨0, _, rfl, by simp (decide := true) (disch := first | assumption | exact rfl | decide | omega | (simp only [H.nx_put, H.nx_new, H.nx_kill]; done) | (simp only [H.nx_put, H.nx_new, H.nx_kill]; omega)) only [go_sem, Nat.add_assoc, Nat.reduceAdd, Nat.reduceMul, Nat.zero_add, Nat.add_zero, Nat.mul_one, Nat.zero_mul, true_and, and_true, eq_self, s0], by simp (decide := true) (disch := first | assumption | exact rfl | decide | omega | (simp only [H.nx_put, H.nx_new, H.nx_kill]; done) | (simp only [H.nx_put, H.nx_new, H.nx_kill]; omega)) only [go_sem, Nat.add_assoc, Nat.reduceAdd, Nat.reduceMul, Nat.zero_add, Nat.add_zero, Nat.mul_one, Nat.zero_mul, true_and, and_true, eq_self, s0]; rfl, by omega, by omega, Sub.new _ _, by rw [H.nx_new]; omega, H.get_new _ _, by simp⟩
end
end Go.Proofs.YtbmcloahjiimeaaGreatDoor.Dm
