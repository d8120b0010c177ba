/- MunchWins returns true, whatever the input, and the input reads as it did. Conditions: those of the given row and card, no other. -/
import Derived.Test.YtbmcloahjiimeaaGreatDoorMuR
set_option linter.all false
namespace Go.Proofs.YtbmcloahjiimeaaGreatDoor
open Go Go.Dm
open Go.ChangeShapes Go.WideShapes Go.ChangeAt Go.WideElems
open Go.RowKit (Below)

set_option maxRecDepth 100000 in
theorem wins_lifted (os : Os) (started : os.Started) (K : Type) (enc : TypeId × Value → K) :
    ReturnsInHanded {} Tryz.checked os 6 .any (fun w args => (Rows.munchWinsSpec.pre enc Tryz.prog Tryz.f6 [] false w args ∧ laidMetH Tryz.prog Dm.laid3 w) ∧ sizedMet enc Tryz.prog Tryz.f6 (OpenSpec.ofChange Rows.munchWinsSpec) false w args)
      (Rows.munchWinsSpec.post enc Tryz.prog Tryz.f6 false true false false) := by
  refine returnsInHanded_of_change_and (C := Tryz.checked) (X := fun w _ => laidMetH Tryz.prog Dm.laid3 w) (fun _ _ _ hh h => h.of_heap hh) Dm.own started (by kernel_rfl) Tryz.func6
    (ChangeSpec.witness_shaped (enc := enc) (C := Tryz.checked) (os := os) (X := fun w _ => laidMetH Tryz.prog Dm.laid3 w) false (World.doorLaid Tryz.prog 400 os) #[.int .u64 0, .slice none 0 0] 8 rfl (World.shaped_of_RefB (by kernel_rfl) (by kernel_rfl)) (by kernel_rfl) (by kernel_rfl) (by kernel_rfl) (Dm.door_met os _)) ?_
  intro W base args ds gs before hval0 hW _ hwt hL _
  have hval : ∀ (j : Nat) t v, Tryz.f6.params[j]? = some t → args[j]? = some v → Value.okWide Tryz.prog W .any base t v := hval0
  have hW' := hW
  obtain ⟨p, q, hA0, hV, -, -, -⟩ := hW
  have hA : DataW.TrodAll enc Tryz.prog W 0 (fun _ => true) true Tryz.f6.params.toList args.toList ds p := hA0
  rw [Tryz.params6] at hA hval
  obtain ⟨v1, v2, d1, d2, p1, p2, rfl, rfl, -, h1, h2⟩ := trodAll_two hA
  have hwt : (DataW.weightsEach Tryz.prog (Tryz.f6.params.toList ++ []) ([d1, d2] ++ gs)).all (· ≤ reachBytes) = true := hwt
  rw [Tryz.params6] at hwt
  have k1 := hval 0 _ v1 rfl rfl
  have k2 := hval 1 _ v2 rfl rfl
  have w1 := weightsEach_all hwt (j := 0) rfl rfl
  have w2 := weightsEach_all hwt (j := 1) rfl rfl
  have hr0 := Dm.start hL
  obtain ⟨β1, s1, ds1, a1, a2, a3, a4, -, n, rfl, hn⟩ := (Dm.o_set W).arg h1 w1 trivial _ _ hr0
  obtain ⟨β2, s2, ds2, b1, b2, b3, b4, -, b6⟩ := (Dm.o_pairs W).arg h2 w2 (lies_of_ok Tryz.underlying29 k2) _ _ a3
  obtain ⟨s, l, rfl, hl⟩ := Dm.pairs_open b6
  rw [one_int Tryz.underlying28 k1] at a4
  rw [one_slice Tryz.underlying29 k2] at b4
  obtain ⟨e1, e2⟩ := bounds_u64 hn
  have hs := a2.trans b2
  have hn2 : ((n.toNat : Nat) : Int) = n := Int.toNat_of_nonneg e1
  have hlaw := Dm.law_wins (h := s2) (t := n.toNat) (s := s) (l := l) (Dm.okH_sub hs Dm.okH_S) (Dm.okW_sub hs (by rw [Dm.hS_nx]; decide) Dm.okW_S) (by omega) hl fr0 rfl
  obtain ⟨r, ⟨m, hm⟩, h3, rfl⟩ := hlaw
  rw [hn2] at hm
  have hc := dex_calls (B := W.heap.size) Dm.so7.ti Dm.so7.mixed Dm.so7.fn (fun G => Dm.so7.ext ⟨W.heap.size, G⟩) (hm m (Nat.le_refl _)) rfl b3 ((a4.mono b1).append b4)
  refine hc.mono fun e W' ⟨β3, v', he, hv', _, _, hb⟩ => ?_
  cases hv'
  subst he
  exact ⟨_, rfl, post_true rfl hW' (by kernel_rfl) Tryz.underlying4 rfl Dm.laidOut (by kernel_rfl) hb⟩

theorem munchWins_row : Rows.MunchWinsSaid :=
  OpenClaim.holds_of_wide 6 Tryz.f6 rfl rfl rfl rfl rfl rfl rfl ⟨rfl, rfl, rfl, rfl, rfl⟩ rfl rfl rfl rfl rfl (by kernel_rfl) Tryz.func6 (by kernel_rfl)
    (of_decide_eq_true (by kernel_rfl)) (by unfold Func.isWrapper; first | (rw [if_pos (by decide +kernel)]; kernel_rfl) | (rw [if_neg (by decide +kernel)]; exact ⟨rfl, rfl⟩))
    (fun os started K enc _ => wins_lifted os started K enc)
theorem munchWins_holds : Rows.MunchWinsCardSaid :=
  Claim7.holds_tied_plain_at .later [] [.data, .data, .data] true (true, "1b684a7f113b3b293a79be6cfe6d06ee4e4883f3737380650d33ba6842911840") true
    munchWins_row (fun _ h => by cases h) (by kernel_rfl) (fun _ h => by cases h) munchWins_row_tie rfl ⟨rfl, rfl⟩ (by kernel_rfl) rfl
    (fun f fn hf hfn => by
      obtain rfl : f = 6 := Option.some.inj ((show Tryz.prog.funcNamed "syntagm/syntagmlaw07.MunchWins" = some 6 by kernel_rfl).symm.trans hf) |>.symm
      obtain rfl : fn = Tryz.f6 := (Option.some.inj (Tryz.func6.symm.trans hfn)).symm
      exact ⟨by kernel_rfl, fun j t ht => by
        rw [Tryz.params6] at ht
        have hm : t ∈ Tryz.f6.params.toList := by rw [Tryz.params6]; simpa using Array.mem_of_getElem? ht
        have hall : (Tryz.f6.params.toList.all fun u => !Tryz.prog.wantsStandIn u) = true := by kernel_rfl
        exact (show Tryz.prog.wantsStandIn t = false by simpa using List.all_eq_true.1 hall t hm)⟩)
    (by kernel_rfl)
#print axioms munchWins_holds
end Go.Proofs.YtbmcloahjiimeaaGreatDoor
