/- MunchLongest returns true, whatever the input, and the input reads as it did. Conditions: those of the given row and card, no other. -/
import Derived.Test.YtbmcloahjiimeaaGreatDoorMuN
set_option linter.all false
namespace Go.Proofs.YtbmcloahjiimeaaGreatDoor
open Go Go.Dm
open Go.ChangeShapes Go.WideShapes Go.ChangeAt Go.WideElems
open Go.RowKit (Below trodAll_four)

set_option maxRecDepth 100000 in
theorem longest_lifted (os : Os) (started : os.Started) (K : Type) (enc : TypeId × Value → K) :
    ReturnsInHanded {} Tryz.checked os 7 .any (fun w args => (Rows.munchLongestSpec.pre enc Tryz.prog Tryz.f7 [] false w args ∧ laidMetH Tryz.prog Dm.laid3 w) ∧ sizedMet enc Tryz.prog Tryz.f7 (OpenSpec.ofChange Rows.munchLongestSpec) false w args)
      (Rows.munchLongestSpec.post enc Tryz.prog Tryz.f7 false true false false) := by
  refine returnsInHanded_of_change_and (C := Tryz.checked) (X := fun w _ => laidMetH Tryz.prog Dm.laid3 w) (fun _ _ _ hh h => h.of_heap hh) Dm.own started (by kernel_rfl) Tryz.func7
    (ChangeSpec.witness_shaped (enc := enc) (C := Tryz.checked) (os := os) (X := fun w _ => laidMetH Tryz.prog Dm.laid3 w) false (World.doorLaid Tryz.prog 400 os) #[.agg ((Array.replicate 256 (.int .i64 0)) ++ #[.slice none 0 0, .slice none 0 0]), .string ⟨#[]⟩, .int .i64 0, .int .u64 0] 8 rfl (World.shaped_of_RefB (by kernel_rfl) (by kernel_rfl)) (by kernel_rfl) (by kernel_rfl) (by kernel_rfl) (Dm.door_met os _)) ?_
  intro W base args ds gs before hval0 hW _ hwt hL _
  have hval : ∀ (j : Nat) t v, Tryz.f7.params[j]? = some t → args[j]? = some v → Value.okWide Tryz.prog W .any base t v := hval0
  have hW' := hW
  obtain ⟨p, q, hA0, hV, -, -, -⟩ := hW
  have hA : DataW.TrodAll enc Tryz.prog W 0 (fun _ => true) true Tryz.f7.params.toList args.toList ds p := hA0
  rw [Tryz.params7] at hA hval
  obtain ⟨v1, v2, v3, v4, d1, d2, d3, d4, p1, p2, p3, p4, rfl, rfl, -, h1, h2, h3, h4⟩ := trodAll_four hA
  have hwt : (DataW.weightsEach Tryz.prog (Tryz.f7.params.toList ++ []) ([d1, d2, d3, d4] ++ gs)).all (· ≤ reachBytes) = true := hwt
  rw [Tryz.params7] at hwt
  have k1 := hval 0 _ v1 rfl rfl
  have k2 := hval 1 _ v2 rfl rfl
  have k3 := hval 2 _ v3 rfl rfl
  have k4 := hval 3 _ v4 rfl rfl
  have w1 := weightsEach_all hwt (j := 0) rfl rfl
  have w2 := weightsEach_all hwt (j := 1) rfl rfl
  have w3 := weightsEach_all hwt (j := 2) rfl rfl
  have w4 := weightsEach_all hwt (j := 3) rfl rfl
  have hr0 := Dm.start hL
  obtain ⟨β1, s1, ds1, a1, a2, a3, a4, a5, a6⟩ := (Dm.o_dfa W).arg h1 w1 trivial _ _ hr0
  obtain ⟨D, hD⟩ := Dm.dfa_open a6
  obtain ⟨β2, s2, ds2, b1, b2, b3, b4, -, b6⟩ := (Opens.str (N := fun _ => True) (E := Dm.tiE) Tryz.underlying9).arg h2 w2 trivial _ _ a3
  obtain ⟨s, rfl, hs⟩ := Dm.str_open b6
  obtain ⟨β3, s3, ds3, c1, c2, c3, c4, -, n, rfl, hn⟩ := (Dm.o_int W).arg h3 w3 trivial _ _ b3
  obtain ⟨β4, s4, ds4, e1, e2, e3, e4, -, m, rfl, hm⟩ := (Dm.o_set W).arg h4 w4 trivial _ _ c3
  have x1 := vr_agg (.inl ⟨_, Tryz.underlying26⟩) k1 a4 a5
  rw [one_str Tryz.underlying9 k2] at b4
  rw [one_int Tryz.underlying3 k3] at c4
  rw [one_int Tryz.underlying28 k4] at e4
  obtain ⟨m1, m2⟩ := bounds_u64 hm
  have hsA := (b2.trans c2).trans e2
  have hs4 := a2.trans hsA
  have hm2 : ((m.toNat : Nat) : Int) = m := Int.toNat_of_nonneg m1
  have hlaw := Dm.law_longest (h := s4) (d := .agg ds1) (D := D) (s := s) (at_ := n) (may := m.toNat) (Dm.okW_sub hs4 (by rw [Dm.hS_nx]; decide) Dm.okW_S) (Nat.le_trans (by rw [Dm.hS_nx]; decide) hs4.nx) (Dm.dfaAt_sub hsA hD) hs (by omega) fr0 rfl
  obtain ⟨r, ⟨q, hq⟩, h5, rfl⟩ := hlaw
  rw [hm2] at hq
  have hv : VRs β4 [.agg ds1, .str s, .int .i64 n, .int .u64 m] [v1, v2, v3, v4] :=
    .cons _ _ _ _ (x1.mono ((b1.trans c1).trans e1)) ((b4.mono (c1.trans e1)).append ((c4.mono e1).append e4))
  have hc := dex_calls (B := W.heap.size) Dm.so10.ti Dm.so10.mixed Dm.so10.fn (fun G => Dm.so10.ext ⟨W.heap.size, G⟩) (hq q (Nat.le_refl _)) rfl e3 hv
  refine hc.mono fun e W' ⟨β3, v', he, hv', _, _, hb⟩ => ?_
  cases hv'
  subst he
  exact ⟨_, rfl, post_true rfl hW' (by kernel_rfl) Tryz.underlying4 rfl Dm.laidOut (by kernel_rfl) hb⟩

theorem munchLongest_row : Rows.MunchLongestSaid :=
  OpenClaim.holds_of_wide 7 Tryz.f7 rfl rfl rfl rfl rfl rfl rfl ⟨rfl, rfl, rfl, rfl, rfl⟩ rfl rfl rfl rfl rfl (by kernel_rfl) Tryz.func7 (by kernel_rfl)
    (of_decide_eq_true (by kernel_rfl)) (by unfold Func.isWrapper; first | (rw [if_pos (by decide +kernel)]; kernel_rfl) | (rw [if_neg (by decide +kernel)]; exact ⟨rfl, rfl⟩))
    (fun os started K enc _ => longest_lifted os started K enc)
theorem munchLongest_holds : Rows.MunchLongestCardSaid :=
  Claim7.holds_tied_plain_at .later [] [.data, .data, .data] true (true, "1b684a7f113b3b293a79be6cfe6d06ee4e4883f3737380650d33ba6842911840") true
    munchLongest_row (fun _ h => by cases h) (by kernel_rfl) (fun _ h => by cases h) munchLongest_row_tie rfl ⟨rfl, rfl⟩ (by kernel_rfl) rfl
    (fun f fn hf hfn => by
      obtain rfl : f = 7 := Option.some.inj ((show Tryz.prog.funcNamed "syntagm/syntagmlaw07.MunchLongest" = some 7 by kernel_rfl).symm.trans hf) |>.symm
      obtain rfl : fn = Tryz.f7 := (Option.some.inj (Tryz.func7.symm.trans hfn)).symm
      exact ⟨by kernel_rfl, fun j t ht => by
        rw [Tryz.params7] at ht
        have hm : t ∈ Tryz.f7.params.toList := by rw [Tryz.params7]; simpa using Array.mem_of_getElem? ht
        have hall : (Tryz.f7.params.toList.all fun u => !Tryz.prog.wantsStandIn u) = true := by kernel_rfl
        exact (show Tryz.prog.wantsStandIn t = false by simpa using List.all_eq_true.1 hall t hm)⟩)
    (by kernel_rfl)
#print axioms munchLongest_holds
end Go.Proofs.YtbmcloahjiimeaaGreatDoor
