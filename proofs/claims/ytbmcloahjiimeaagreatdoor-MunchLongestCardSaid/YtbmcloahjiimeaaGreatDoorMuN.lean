/- An automaton that comes in, opened; the contracts of the longest piece are sound. -/
import Derived.Test.YtbmcloahjiimeaaGreatDoorMuR
import Derived.Test.YtbmcloahjiimeaaGreatDoorMuL
import Derived.Test.YtbmcloahjiimeaaGreatDoorDmX8
set_option linter.all false
namespace Go.Proofs.YtbmcloahjiimeaaGreatDoor.Dm
open Go Go.Dm

theorem so8 : Sound tiE Tryz.prog D8 := so7.add so7 c_go
theorem so9 : Sound tiE Tryz.prog D9 := so8.add (so8.add so8 c_run) c_little
theorem so10 : Sound tiE Tryz.prog D10 := so9.add (so9.add so9 c_few) c_long

abbrev intQ (_ : H) (ds : List DV) : Prop := ∃ n, ds = [.int .i64 n] ∧ (Lit.int .i64 n).wf = true
abbrev setQ (_ : H) (ds : List DV) : Prop := ∃ n, ds = [.int .u64 n] ∧ (Lit.int .u64 n).wf = true
def dfaQs : Nat → H → List DV → Prop
  | 0 => arrQ 256 intQ
  | 1 => sliceZQ 1 (sliceZQ 1 intQ)
  | 2 => sliceZQ 1 setQ
  | _ => fun _ _ => True
theorem mono_arr {n : Nat} {Q : H → List DV → Prop} (hQ : Mono Q) : Mono (arrQ n Q) := fun _ _ _ hs ⟨dss, q1, q2, q3⟩ => ⟨dss, q1, q2, fun x hx => hQ _ _ _ hs (q3 x hx)⟩
theorem mono_int : Mono intQ := fun _ _ _ _ h => h
theorem mono_set : Mono setQ := fun _ _ _ _ h => h
theorem dfaQs_mono : ∀ i, Mono (dfaQs i)
  | 0 => mono_arr mono_int
  | 1 => sliceZQ.mono (sliceZQ.mono mono_int)
  | 2 => sliceZQ.mono mono_set
  | _ + 3 => fun _ _ _ _ _ => trivial
theorem o_classes (W : World) : Opens tiE Tryz.prog W 22 (fun _ => True) (arrQ 256 intQ) := Opens.array (sz := 1) Tryz.underlying22 (by kernel_rfl) (by kernel_rfl) (o_int W)
theorem o_ints (W : World) : Opens tiE Tryz.prog W 82 (fun _ => True) (sliceZQ 1 intQ) := Opens.sliceZ (sz := 1) Tryz.underlying82 (by kernel_rfl) (by decide) (Nat.le_of_ble_eq_true (by kernel_rfl)) (o_int W)
theorem o_next (W : World) : Opens tiE Tryz.prog W 23 (fun _ => True) (sliceZQ 1 (sliceZQ 1 intQ)) := Opens.sliceZ (sz := 1) Tryz.underlying23 (by kernel_rfl) (by decide) (Nat.le_of_ble_eq_true (by kernel_rfl)) (o_ints W)
theorem o_sets (W : World) : Opens tiE Tryz.prog W 24 (fun _ => True) (sliceZQ 1 setQ) := Opens.sliceZ (sz := 1) Tryz.underlying24 (by kernel_rfl) (by decide) (Nat.le_of_ble_eq_true (by kernel_rfl)) (o_set W)
theorem o_dfa (W : World) : Opens tiE Tryz.prog W 26 (fun _ => True) (structQ 3 dfaQs) := by
  refine Opens.struct (Qs := dfaQs) Tryz.underlying26 dfaQs_mono (fun i f hf => ?_) (by kernel_rfl)
  match i, hf with
  | 0, hf => cases hf; exact o_classes W
  | 1, hf => cases hf; exact o_next W
  | 2, hf => cases hf; exact o_sets W
  | i + 3, hf => simp at hf

theorem rowZ_open {h : H} {Q : H → List DV → Prop} {ds : List DV} (hq : sliceZQ 1 Q h ds) : ∃ s cs, ds = [s] ∧ rowZ h s = some cs ∧ ∀ x ∈ cs, Q h [x] := by
  rcases hq with ⟨d, o, a, rfl⟩ | rfl | ⟨d, len, cap, dss, e, rfl, q1, q2, q3, q4, q5, q6⟩
  · exact ⟨_, [], rfl, rfl, fun x hx => by cases hx⟩
  · exact ⟨_, [], rfl, rfl, fun x hx => by cases hx⟩
  · have hfl := flat_len (sz := 1) fun x hx => (q6 x hx).1
    refine ⟨_, dss.flatten.take len, rfl, ?_, fun x hx => ?_⟩
    · have hm : len ≤ 281474976710656 := by unfold reachBytes at q3; omega
      unfold rowZ
      simp only [ble_t (show d + 1 ≤ h.nx by omega), ble_t hm, Bool.and_true, cond_true]
      unfold rdN
      rw [q4]
      simp only
      rw [lpart_eq, if_pos (.inl (by omega))]; rfl
    · obtain ⟨y, hy, hxy⟩ := List.mem_flatten.1 (List.mem_of_mem_take hx)
      obtain ⟨z1, z2⟩ := q6 y hy
      match y, z1, hxy, z2 with
      | [z], _, hxy, z2 =>
        simp at hxy; subst hxy; exact z2
theorem ints_open {h : H} : ∀ {cs : List DV}, (∀ x ∈ cs, intQ h [x]) → ∃ l, intsOf cs = some l
  | [], _ => ⟨[], rfl⟩
  | v :: cs, hq => by
    obtain ⟨n, e, -⟩ := hq v (by simp)
    cases e
    obtain ⟨l, hl⟩ := ints_open fun x hx => hq x (List.mem_cons_of_mem _ hx)
    exact ⟨n :: l, by show (intsOf cs).map _ = _; rw [hl]; rfl⟩
theorem sets_open {h : H} : ∀ {cs : List DV}, (∀ x ∈ cs, setQ h [x]) → ∃ l, setsOf cs = some l
  | [], _ => ⟨[], rfl⟩
  | v :: cs, hq => by
    obtain ⟨n, e, hw⟩ := hq v (by simp)
    cases e
    obtain ⟨l, hl⟩ := sets_open fun x hx => hq x (List.mem_cons_of_mem _ hx)
    obtain ⟨b1, b2⟩ := bounds_u64 hw
    obtain ⟨m, rfl⟩ : ∃ m : Nat, n = (m : Int) := ⟨n.toNat, by omega⟩
    refine ⟨m :: l, ?_⟩
    show (match setN (m : Int) with | some m => (setsOf cs).map (m :: ·) | none => none) = _
    rw [setN_of (by omega), hl]; rfl
theorem next_open {h : H} : ∀ {cs : List DV}, (∀ x ∈ cs, sliceZQ 1 intQ h [x]) → ∃ l, nextOf h cs = some l
  | [], _ => ⟨[], rfl⟩
  | v :: cs, hq => by
    obtain ⟨s, c, e, hr, hc⟩ := rowZ_open (hq v (by simp))
    cases e
    obtain ⟨r, hr2⟩ := ints_open hc
    obtain ⟨l, hl⟩ := next_open fun x hx => hq x (List.mem_cons_of_mem _ hx)
    refine ⟨r :: l, ?_⟩
    show (match (rowZ h v).bind intsOf with | some l => (nextOf h cs).map (l :: ·) | none => none) = _
    rw [hr]
    simp only [Option.bind_some, hr2, hl]; rfl
theorem classes_open {h : H} {ds : List DV} (hq : arrQ 256 intQ h ds) : ∃ c, ds.length = 256 ∧ intsOf ds = some c := by
  obtain ⟨dss, rfl, hl, ha⟩ := hq
  have h1 : ∀ x ∈ dss, x.length = 1 := fun x hx => by obtain ⟨n, rfl, -⟩ := ha x hx; rfl
  have h2 : ∀ x ∈ dss.flatten, intQ h [x] := fun x hx => by
    obtain ⟨y, hy, hxy⟩ := List.mem_flatten.1 hx
    obtain ⟨n, rfl, hn⟩ := ha y hy
    simp at hxy; subst hxy; exact ⟨n, rfl, hn⟩
  obtain ⟨c, hc⟩ := ints_open h2
  exact ⟨c, by rw [flat_len h1, hl], hc⟩
theorem dfa_open {h : H} {ds : List DV} (hq : structQ 3 dfaQs h ds) : ∃ D, dfaAt h (.agg ds) = some D := by
  obtain ⟨dss, rfl, hl, ha⟩ := hq
  match dss, hl, ha with
  | [x0, x1, x2], _, ha =>
    obtain ⟨c, c1, c2⟩ := classes_open (ha 0 x0 rfl)
    obtain ⟨n, ns, rfl, n1, n2⟩ := rowZ_open (ha 1 x1 rfl)
    obtain ⟨t, ts, rfl, t1, t2⟩ := rowZ_open (ha 2 x2 rfl)
    obtain ⟨nx, hnx⟩ := next_open n2
    obtain ⟨tg, htg⟩ := sets_open t2
    refine ⟨⟨c, nx, tg⟩, ?_⟩
    have e1 : [x0, [n], [t]].flatten = x0 ++ [n, t] := by simp
    have e2 : (x0 ++ [n, t]).length = 258 := by simp [c1]
    have e3 : (x0 ++ [n, t]).take 256 = x0 := by rw [← c1]; simp
    have e4 : (x0 ++ [n, t])[256]? = some n := by rw [List.getElem?_append_right (by omega), c1]; rfl
    have e5 : (x0 ++ [n, t])[257]? = some t := by rw [List.getElem?_append_right (by omega), c1]; rfl
    rw [e1]
    unfold dfaAt
    simp only [e2, e3, e4, e5, c2, n1, t1, Option.bind_some, hnx, htg]
    rfl
theorem str_open {ds : List DV} (hq : ∃ s : ByteArray, ds = [.str (s.data.toList.map UInt8.toNat)] ∧ s.size ≤ reachBytes) : ∃ s, ds = [.str s] ∧ okS s = true := by
  obtain ⟨s, rfl, hs⟩ := hq
  refine ⟨_, rfl, okS_of (fun b hb => ?_) ?_⟩
  · obtain ⟨u, -, rfl⟩ := List.mem_map.1 hb
    exact u.toNat_lt
  · rw [List.length_map, Array.length_toList]
    have : s.data.size ≤ reachBytes := hs
    unfold reachBytes at this; omega
end Go.Proofs.YtbmcloahjiimeaaGreatDoor.Dm
