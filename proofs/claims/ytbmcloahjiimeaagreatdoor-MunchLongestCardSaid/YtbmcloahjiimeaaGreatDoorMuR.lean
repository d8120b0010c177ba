/- What the rows' condition gives: the program's tables on the D-machine's heap. -/
import Derived.Test.YtbmcloahjiimeaaGreatDoorMuS
import Derived.Test.YtbmcloahjiimeaaGreatDoorDmX7
import Derived.Test.YtbmcloahjiimeaaGreatDoorTie
import Derived.Test.YtbmcloahjiimeaaGreatDoorCards
import Derived.LaidMore
import Derived.Stop.Joined
set_option linter.all false
namespace Go.Proofs.YtbmcloahjiimeaaGreatDoor.Dm
open Go Go.Dm
open Go.RowKit (Below)

def laid3 : List (String × DataW Unit) := [("math/bits.deBruijn32tab", Rows.laid_math_bits_deBruijn32tab), ("math/bits.deBruijn64tab", Rows.laid_math_bits_deBruijn64tab), ("internal/strconv.uint64pow10", Rows.laid_internal_strconv_uint64pow10)]
theorem own : ownKnob Tryz.prog.godebug = none := by kernel_rfl
theorem laidOut : laidOutB Tryz.prog = true := by kernel_rfl
/-- The door's own heap meets the condition. -/
theorem door_met (os : Os) (args : Array Value) : laidMetH Tryz.prog laid3 ((World.doorLaid Tryz.prog 400 os).forCall (fun _ _ => 0) ⟨#[], args, []⟩).memory :=
  laidMetH_of_parts3 (fuel := 8) (laidMet_of_run' 8 (by kernel_rfl) (by kernel_rfl)) (by kernel_rfl) (by kernel_rfl)
theorem n0 : Tryz.prog.globalNamed "math/bits.deBruijn64tab" = some 0 := by kernel_rfl
theorem n2 : Tryz.prog.globalNamed "internal/strconv.uint64pow10" = some 2 := by kernel_rfl
theorem n3 : Tryz.prog.globalNamed "math/bits.deBruijn32tab" = some 3 := by kernel_rfl
theorem t0' : (Tryz.prog.globals[0]?).map (·.type) = some 125 := by kernel_rfl
theorem t2' : (Tryz.prog.globals[2]?).map (·.type) = some 183 := by kernel_rfl
theorem t3' : (Tryz.prog.globals[3]?).map (·.type) = some 202 := by kernel_rfl
noncomputable def hS : H := ((((⟨.e, 4⟩ : H).put 3 (.cells g32 0 true)).put 0 (.cells g64 0 true)).put 2 (.cells gp10 0 true))
theorem okH_S : okH hS = true := by kernel_rfl
theorem okW_S : okW hS = true := by kernel_rfl
theorem okT_sub {h h2 : H} (hs : Sub h h2) {g : Nat} {cs : List DV} (hg : g < h.nx) (ho : okT h g cs = true) : okT h2 g cs = true := by
  unfold okT at *
  rw [hs.get g hg]; exact ho
theorem okW_sub {h h2 : H} (hs : Sub h h2) (hn : 4 ≤ h.nx) (ho : okW h = true) : okW h2 = true := by
  unfold okW at *
  simp only [Bool.and_eq_true] at *
  exact ⟨⟨okT_sub hs (by omega) ho.1.1, okT_sub hs (by omega) ho.1.2⟩, okT_sub hs (by omega) ho.2⟩
noncomputable def β0 : Bt := fun g => if tiE.glob g = true then some ⟨g, 0, 0⟩ else none
theorem start {W : World} (hL : laidMetH Tryz.prog laid3 W) : HR tiE Tryz.prog (bd W) β0 hS W := by
  rw [MakeChecks.laidMetH_plain _ _ _ (by kernel_rfl)] at hL
  obtain ⟨ps, ⟨ga, ta, ca, fa, pa, qa, hga, hta, hva, hda, ⟨gb, tb, cb, fb, pb, qb, hgb, htb, hvb, hdb, ⟨gc, tc, cc, fc, pc, qc, hgc, htc, hvc, hdc, -, -⟩, -⟩, -⟩, -, -⟩ := hL
  obtain rfl := Option.some.inj (n3.symm.trans hga)
  obtain rfl := Option.some.inj (n0.symm.trans hgb)
  obtain rfl := Option.some.inj (n2.symm.trans hgc)
  obtain rfl := Option.some.inj (t3'.symm.trans hta)
  obtain rfl := Option.some.inj (t0'.symm.trans htb)
  obtain rfl := Option.some.inj (t2'.symm.trans htc)
  have c5 : Tryz.prog.cellsOf 5 = 1 := by kernel_rfl
  have c27 : Tryz.prog.cellsOf 27 = 1 := by kernel_rfl
  have h0 := HR.bare tiE Tryz.prog W 4 gl_lt
  have h1 := h0.laid (l := g32) hga hva hda Tryz.underlying202 Tryz.underlying5 c5 (by kernel_rfl) (by kernel_rfl) gl_in.2.2 (by decide)
  have h2 := h1.laid (l := g64) hgb hvb hdb Tryz.underlying125 Tryz.underlying5 c5 (by kernel_rfl) (by kernel_rfl) gl_in.1 (by rw [H.nx_put]; decide)
  exact h2.laid (l := gp10) hgc hvc hdc Tryz.underlying183 Tryz.underlying27 c27 (by kernel_rfl) (by kernel_rfl) gl_in.2.1 (by rw [H.nx_put, H.nx_put]; decide)
theorem hS_nx : hS.nx = 4 := by unfold hS; rw [H.nx_put, H.nx_put, H.nx_put]

/-! ### The arguments -/
theorem o_set (W : World) : Opens tiE Tryz.prog W 28 (fun _ => True) (fun _ ds => ∃ n, ds = [.int .u64 n] ∧ (Lit.int .u64 n).wf = true) := Opens.int Tryz.underlying28
theorem o_int (W : World) : Opens tiE Tryz.prog W 3 (fun _ => True) (fun _ ds => ∃ n, ds = [.int .i64 n] ∧ (Lit.int .i64 n).wf = true) := Opens.int Tryz.underlying3
theorem o_pair (W : World) : Opens tiE Tryz.prog W 52 (fun _ => True) (arrQ 2 fun _ ds => ∃ n, ds = [.int .i64 n] ∧ (Lit.int .i64 n).wf = true) :=
  Opens.array (sz := 1) Tryz.underlying52 (by kernel_rfl) (by kernel_rfl) (o_int W)
theorem o_pairs (W : World) : Opens tiE Tryz.prog W 29 (Lies W) (sliceQ 2 (arrQ 2 fun _ ds => ∃ n, ds = [.int .i64 n] ∧ (Lit.int .i64 n).wf = true)) :=
  Opens.slice (sz := 2) Tryz.underlying29 (by kernel_rfl) (by decide) (Nat.le_of_ble_eq_true (by kernel_rfl)) (o_pair W)
theorem arr2 {h : H} {ds : List DV} (hq : arrQ 2 (fun _ ds => ∃ n, ds = [.int .i64 n] ∧ (Lit.int .i64 n).wf = true) h ds) : ∃ a b, ds = [.int .i64 a, .int .i64 b] := by
  obtain ⟨dss, rfl, hl, ha⟩ := hq
  match dss, hl, ha with
  | [x, y], _, ha =>
    obtain ⟨a, rfl, -⟩ := ha x (by simp)
    obtain ⟨b, rfl, -⟩ := ha y (by simp)
    exact ⟨a, b, rfl⟩
theorem pairs_flat : ∀ {dss : List (List DV)}, (∀ x ∈ dss, ∃ a b, x = [DV.int .i64 a, .int .i64 b]) → ∃ l, l.length = dss.length ∧ dss.flatten = pairDV l
  | [], _ => ⟨[], rfl, rfl⟩
  | x :: dss, h => by
    obtain ⟨a, b, rfl⟩ := h x (by simp)
    obtain ⟨l, h1, h2⟩ := pairs_flat fun y hy => h y (List.mem_cons_of_mem _ hy)
    exact ⟨(a, b) :: l, by simp [h1], by simp [pairDV, h2]⟩
theorem pairDV_take : ∀ (l : List (Int × Int)) (n : Nat), (pairDV l).take (n * 2) = pairDV (l.take n)
  | [], n => by simp [pairDV]
  | p :: l, 0 => by simp [pairDV]
  | p :: l, n + 1 => by
    have := pairDV_take l n
    rw [Nat.add_mul]
    simpa [pairDV] using this
theorem pairs_open {h : H} {ds : List DV} (hq : sliceQ 2 (arrQ 2 fun _ ds => ∃ n, ds = [.int .i64 n] ∧ (Lit.int .i64 n).wf = true) h ds) : ∃ s l, ds = [s] ∧ pairsAt h s = some l := by
  rcases hq with rfl | ⟨d, len, cap, dss, e, rfl, q1, q2, q3, q4, q5, q6⟩
  · exact ⟨_, [], rfl, rfl⟩
  · obtain ⟨l, h1, h2⟩ := pairs_flat fun x hx => arr2 (q6 x hx).2
    refine ⟨_, l.take len, rfl, ?_⟩
    have hm : len ≤ 281474976710656 := by unfold reachBytes at q3; omega
    unfold pairsAt rowAt
    simp only [ble_t (show d + 1 ≤ h.nx by omega), ble_t hm, Bool.and_true, cond_true]
    unfold rdN
    rw [q4]
    simp only
    have hp : lpart dss.flatten 0 (len * 2) = some ((pairDV l).take (len * 2)) := by
      rw [h2]
      have hle : len * 2 ≤ (pairDV l).length := by rw [pairDV_len, h1]; omega
      rw [lpart_eq]
      simp [hle]
    rw [hp, pairDV_take]
    exact pairsOf_DV _
end Go.Proofs.YtbmcloahjiimeaaGreatDoor.Dm
