/- What stands as an extern is sound: of this program. -/
import Derived.Test.YtbmcloahjiimeaaGreatDoorDmH
import Derived.Test.YtbmcloahjiimeaaGreatDoorDmX5
import Derived.Test.YtbmcloahjiimeaaGreatDoorMuH
import Derived.Test.YtbmcloahjiimeaaGreatDoorMuW
set_option linter.all false
namespace Go.Proofs.YtbmcloahjiimeaaGreatDoor.Dm
open Go Go.Dm

theorem ti_ok : tiE.Ok Tryz.prog := by
  refine ⟨fun t i h => ?_, fun t h => ?_⟩
  · have h : tyT.get (Go.Dm.bits t) = some i := h
    have h2 : Tryz.prog.types[t]? = some i := ty_all.at h
    obtain ⟨hlt, _⟩ := Array.getElem?_eq_some_iff.1 h2
    unfold Tables.info?
    rw [if_pos hlt]; exact h2
  · have h : (heldT.get (Go.Dm.bits t)).isNone = false := h
    cases hg : heldT.get (Go.Dm.bits t) with
    | none => rw [hg] at h; cases h
    | some u => have := T.evB_at held_all hg; simpa using this
theorem gl_lt (g : Nat) (h : tiE.glob g = true) : g < 4 := by
  have h : (glT.get (Go.Dm.bits g)).isSome = true := h
  cases hg : glT.get (Go.Dm.bits g) with
  | none => rw [hg] at h; cases h
  | some u => have := T.evB_at gl_all hg; rw [Nat.blt_eq] at this; exact this
theorem gl_in : tiE.glob 0 = true ∧ tiE.glob 2 = true ∧ tiE.glob 3 = true := ⟨by kernel_rfl, by kernel_rfl, by kernel_rfl⟩
theorem so0 : Sound tiE Tryz.prog D0 := Sound.base ti_ok (Checked.mixed Tryz.checked) fun _ _ h => fn_all.at h
theorem so1 : Sound tiE Tryz.prog D1 := so0.add so0 c_bit
theorem so2 : Sound tiE Tryz.prog D2 := so1.add (so1.add (so1.add (so1.add so1 c_has) c_with) c_meet) c_less
theorem so3 : Sound tiE Tryz.prog D3 := so2.add (so2.add so2 c_in) c_tz
theorem so4 : Sound tiE Tryz.prog D4 := so3.add so3 c_first
theorem so5 : Sound tiE Tryz.prog D5 := so4.add so4 c_list
theorem so6 : Sound tiE Tryz.prog D6 := so5.add so5 c_beaten
theorem h0_get (d : Nat) (o : Dm.Obj) (h : h0.get d = some o) : (d = 0 ∧ o = .cells g64 0 true) ∨ (d = 2 ∧ o = .cells gp10 0 true) ∨ (d = 3 ∧ o = .cells g32 0 true) := by
  have h : (((T.e.set (Go.Dm.bits 0) (some (Dm.Obj.cells g64 0 true))).set (Go.Dm.bits 2) (some (.cells gp10 0 true))).set (Go.Dm.bits 3) (some (.cells g32 0 true))).get (Go.Dm.bits d) = some o := h
  by_cases e3 : d = 3
  · subst e3; rw [T.get_set] at h; cases h; exact .inr (.inr ⟨rfl, rfl⟩)
  · rw [T.get_set_ne _ _ _ _ (bits_ne e3)] at h
    by_cases e2 : d = 2
    · subst e2; rw [T.get_set] at h; cases h; exact .inr (.inl ⟨rfl, rfl⟩)
    · rw [T.get_set_ne _ _ _ _ (bits_ne e2)] at h
      by_cases e0 : d = 0
      · subst e0; rw [T.get_set] at h; cases h; exact .inl ⟨rfl, rfl⟩
      · rw [T.get_set_ne _ _ _ _ (bits_ne e0), T.get_e] at h; cases h
theorem fit_h0 {h : H} (hw : okW h = true) : Fit tiE h0 h := by
  unfold okW at hw
  simp only [Bool.and_eq_true] at hw
  obtain ⟨⟨w0, w2⟩, w3⟩ := hw
  refine ⟨fun g hg => gl_lt g hg, fun d o hd => ?_⟩
  rcases h0_get d o hd with ⟨rfl, rfl⟩ | ⟨rfl, rfl⟩ | ⟨rfl, rfl⟩
  · exact ⟨_, _, rfl, by decide +kernel, gl_in.1, okT_inv w0⟩
  · exact ⟨_, _, rfl, by decide +kernel, gl_in.2.1, okT_inv w2⟩
  · exact ⟨_, _, rfl, by decide +kernel, gl_in.2.2, okT_inv w3⟩
theorem isTrue1_inv {r : R} (h : isTrue1 r = true) : ∃ h2, r = .fin (.ret (.bool true)) none h2 := by
  unfold isTrue1 at h
  split at h
  · exact ⟨_, rfl⟩
  · cases h
theorem so7 : Sound tiE Tryz.prog D7 := by
  obtain ⟨h2, hr⟩ := isTrue1_inv works_run
  refine so0.closed (so6.add so6 c_win) (hc := h0) hr rfl fun args h v h' hg => ?_
  unfold g_works at hg
  split at hg
  · cases ho : okW h with
    | false => rw [ho] at hg; cases hg
    | true => rw [ho] at hg; cases hg; exact ⟨rfl, rfl, rfl, fit_h0 ho⟩
  · cases hg
end Go.Proofs.YtbmcloahjiimeaaGreatDoor.Dm
