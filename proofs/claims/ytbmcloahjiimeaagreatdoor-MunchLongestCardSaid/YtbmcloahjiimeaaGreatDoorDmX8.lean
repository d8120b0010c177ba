/- What comes in is opened, more: structs; slices within other data, of which no place need be known where they are empty. -/
import Derived.Test.YtbmcloahjiimeaaGreatDoorDmX7
set_option linter.all false
namespace Go.Dm

section
variable {E : Ti} {P : Program} {W : World} {t e : TypeId} {N : List Value → Prop} {Q : H → List DV → Prop} {β : Bt} {h : H} {B : Bd} {w : World}
/-- a number for a block of which nothing is known -/
theorem HR.name (hr : HR E P B β h w) (L : Loc) : HR E P B (β.upd h.nx L) ((h.new (.cells [] 0 true)).kill h.nx) w := by
  have hnew := hr.new h.nx (Nat.le_refl _)
  have hle : β.le (β.upd h.nx L) := Bt.le_upd hnew
  refine ⟨fun k M o h1 h2 => ?_, fun k hk => ?_, fun k k' M M' o o' hn h1 h2 h3 h4 h5 h6 => ?_, hr.base, fun g hg => hle _ _ (hr.glob g hg), fun k hk => ?_⟩
  · by_cases ek : k = h.nx
    · subst ek
      rw [H.get_kill] at h2; cases h2
    · rw [Bt.upd_ne _ _ ek] at h1
      rw [H.get_kill_ne _ ek, H.get_new_ne _ _ ek] at h2
      exact (hr.obj k M o h1 h2).mono hle
  · rw [H.nx_kill, H.nx_new] at hk
    rw [Bt.upd_ne _ _ (by omega)]
    exact hr.new k (by omega)
  · by_cases ek : k = h.nx
    · subst ek
      rw [H.get_kill] at h3; cases h3
    · by_cases ek' : k' = h.nx
      · subst ek'
        rw [H.get_kill] at h4; cases h4
      · rw [Bt.upd_ne _ _ ek] at h1
        rw [Bt.upd_ne _ _ ek'] at h2
        rw [H.get_kill_ne _ ek, H.get_new_ne _ _ ek] at h3
        rw [H.get_kill_ne _ ek', H.get_new_ne _ _ ek'] at h4
        exact hr.apart k k' M M' o o' hn h1 h2 h3 h4 h5 h6
  · have := hr.ghost k hk
    rw [Bt.upd_ne _ _ (by omega), H.nx_kill, H.nx_new]; exact ⟨this.1, by omega⟩
theorem zAddr_any (a : Addr) : ∃ L o alt, L.x = 0 ∧ zAddr L o alt = a := by
  obtain ⟨r, f, sp⟩ := a
  cases sp with
  | none => exact ⟨⟨r, f, 0⟩, 0, 0, rfl, by unfold zAddr; rw [if_pos (Nat.le_refl _)]; rfl⟩
  | some k => exact ⟨⟨r, f, 0⟩, 0, k + 1, rfl, by unfold zAddr; rw [if_neg (by omega)]; simp⟩

def sliceZQ (sz : Nat) (Q : H → List DV → Prop) (h : H) (ds : List DV) : Prop := (∃ d o a, ds = [.sliceZ d o a]) ∨ sliceQ sz Q h ds
theorem sliceZQ.mono {sz : Nat} (hQ : Mono Q) : Mono (sliceZQ sz Q) := by
  intro h h' ds hs hq
  rcases hq with hq | hq
  · exact .inl hq
  · exact .inr (sliceQ.mono hQ _ _ _ hs hq)
theorem Opens.sliceZ {sz : Nat} (ht : P.underlying t = some (.slice e)) (hs : P.cellsOf e = sz) (h0 : 0 < sz) (hb : 0 < P.bytesOf e) (He : Opens E P W e (fun _ => True) Q) : Opens E P W t N (sliceZQ sz Q) := by
  have S := Opens.slice ht hs h0 hb He
  refine ⟨sliceZQ.mono He.1, fun K enc fuel cs x hx hw hN β h hr => ?_⟩
  have old : Lies W cs → ∃ β' h' ds, β.le β' ∧ Sub h h' ∧ HR E P (bd W) β' h' W ∧ VRs β' ds cs ∧ (∀ v ∈ cs, v.oneCell' = true) ∧ sliceZQ sz Q h' ds := fun hl => by
    obtain ⟨β', h', ds, a1, a2, a3, a4, a5, a6⟩ := S.2 K enc fuel cs x hx hw hl β h hr
    exact ⟨β', h', ds, a1, a2, a3, a4, a5, .inr a6⟩
  rcases DataW.trod_slice ht hx with ⟨rfl, -⟩ | ⟨a, len, cap, elems, rest, n, rfl, rfl, rfl, -, hlc, -, hel, he, hr1, -⟩
  · exact old fun a l c e => by cases e
  by_cases hc : cap = 0
  · subst hc
    obtain rfl : len = 0 := by omega
    obtain ⟨L, o, alt, hx0, hz⟩ := zAddr_any a
    have hle : β.le (β.upd h.nx L) := Bt.le_upd (hr.new h.nx (Nat.le_refl _))
    refine ⟨_, _, [.sliceZ h.nx o alt], hle, (Sub.new h _).kill (Nat.le_refl _), hr.name L, .cons _ _ _ _ ?_ .nil, by intro v hv; simp at hv; subst hv; rfl, .inl ⟨_, _, _, rfl⟩⟩
    have := VR.sliceZ0 (β := β.upd h.nx L) h.nx o alt L (Bt.upd_self _ _ _) hx0
    rwa [hz] at this
  · refine old fun a' l' c' e => ?_
    simp only [List.cons.injEq, Value.slice.injEq, Option.some.injEq, and_true] at e
    obtain ⟨rfl, -, -⟩ := e
    obtain ⟨hrl, hre⟩ := hr1 rfl
    have h1 : ∃ csi, W.cells? 0 (a.add (0 * P.cellsOf e)) (P.cellsOf e) = some csi := by
      by_cases hl0 : 0 < len
      · have h1 := he 0 hl0
        rw [show elems[0]? = some (elems[0]'(by omega)) by simp] at h1
        obtain ⟨csi, g1, -⟩ := Option.bind_eq_some_iff.1 h1
        exact ⟨csi, g1⟩
      · have h1 := hre 0 (by omega)
        rw [show rest[0]? = some (rest[0]'(by omega)) by simp, show len + 0 = 0 by omega] at h1
        obtain ⟨csi, g1, -⟩ := Option.bind_eq_some_iff.1 h1
        exact ⟨csi, g1⟩
    obtain ⟨csi, g1⟩ := h1
    unfold World.cells? at g1
    rw [if_pos (Nat.zero_le _)] at g1
    have hl : csi.length = P.cellsOf e := by simpa using mapM_some_length g1
    have g2 := mapM_some_get g1 0 0 (List.getElem?_range (by omega))
    rw [show csi[0]? = some (csi[0]'(by omega)) by simp] at g2
    rw [Nat.zero_mul] at g2
    have g3 : W.cell? a = some (csi[0]'(by omega)) := g2
    refine ⟨World.cell?_spot g3, ?_⟩
    unfold World.cell? at g3
    split at g3
    · rename_i c u fz hcc
      exact ⟨c, u, fz, hcc⟩
    · cases g3

/-- the fields of a struct lie one behind the other -/
def contig (P : Program) : List Field → Nat → Nat → Bool
  | [], o, n => o == n
  | f :: r, o, n => f.offset == o && contig P r (o + P.cellsOf f.type) n
theorem contig_vrs {β : Bt} {cs : List Value} : ∀ (fs : List Field) (dss : List (List DV)) (o : Nat), contig P fs o cs.length = true → dss.length = fs.length →
    (∀ (i : Nat) ds f, dss[i]? = some ds → fs[i]? = some f → VRs β ds ((cs.drop f.offset).take (P.cellsOf f.type))) → VRs β dss.flatten (cs.drop o)
  | [], dss, o, hc, hl, _ => by
    have : dss = [] := List.length_eq_zero_iff.1 (by simpa using hl)
    subst this
    simp only [contig, beq_iff_eq] at hc
    subst hc
    rw [List.drop_length]; exact .nil
  | f :: fs, dss, o, hc, hl, hv => by
    cases dss with
    | nil => simp at hl
    | cons ds dss =>
      simp only [contig, Bool.and_eq_true, beq_iff_eq] at hc
      obtain ⟨rfl, hc⟩ := hc
      have h1 := hv 0 ds f rfl rfl
      have h2 := contig_vrs fs dss _ hc (by simpa using hl) fun i ds' f' hd hf => hv (i + 1) ds' f' (by simpa using hd) (by simpa using hf)
      have := h1.append h2
      rw [← List.drop_drop] at this
      rwa [List.take_append_drop] at this
theorem contig_mem {cs : List Value} : ∀ (fs : List Field) (o : Nat), contig P fs o cs.length = true → ∀ v ∈ cs.drop o, ∃ (i : Nat) (f : Field), fs[i]? = some f ∧ v ∈ (cs.drop f.offset).take (P.cellsOf f.type)
  | [], o, hc, v, hv => by
    simp only [contig, beq_iff_eq] at hc
    subst hc
    rw [List.drop_length] at hv; cases hv
  | f :: fs, o, hc, v, hv => by
    simp only [contig, Bool.and_eq_true, beq_iff_eq] at hc
    obtain ⟨rfl, hc⟩ := hc
    rw [← List.take_append_drop (P.cellsOf f.type) (cs.drop f.offset), List.drop_drop] at hv
    rcases List.mem_append.1 hv with hv | hv
    · exact ⟨0, f, rfl, hv⟩
    · obtain ⟨i, f', h1, h2⟩ := contig_mem fs _ hc v hv
      exact ⟨i + 1, f', by simpa using h1, h2⟩
def structQ (n : Nat) (Qs : Nat → H → List DV → Prop) (h : H) (ds : List DV) : Prop := ∃ dss : List (List DV), ds = dss.flatten ∧ dss.length = n ∧ ∀ (i : Nat) x, dss[i]? = some x → Qs i h x
theorem Opens.struct {fs : Array Field} {Qs : Nat → H → List DV → Prop} (ht : P.underlying t = some (.struct fs)) (mono : ∀ i, Mono (Qs i)) (hQ : ∀ (i : Nat) f, fs[i]? = some f → Opens E P W f.type (fun _ => True) (Qs i)) (hc : contig P fs.toList 0 (P.cellsOf t) = true) :
    Opens E P W t N (structQ fs.size Qs) := by
  refine ⟨fun h h' ds hs ⟨dss, q1, q2, q3⟩ => ⟨dss, q1, q2, fun i x hx => mono i _ _ _ hs (q3 i x hx)⟩, fun K enc fuel cs x hx hw _ β h hr => ?_⟩
  obtain ⟨xs, m, rfl, rfl, hl, hxl, hel⟩ := DataW.trod_struct ht hx
  rw [DataW.weights, ht] at hw
  have hw : (DataW.weightsEach P (fs.toList.map (·.type)) (xs.map (·.1))).all (· ≤ reachBytes) = true := hw
  rw [← hl] at hc
  obtain ⟨β', h', dss, a1, a2, a3, a4, a5⟩ := opn_seq (E := E) (P := P) (W := W) (Qs := Qs) (css := fun i => match fs[i]? with | some f => (cs.drop f.offset).take (P.cellsOf f.type) | none => []) mono fs.size (fun i hi => by
    have hf : fs[i]? = some fs[i] := by simp [hi]
    show Opn E P W (match fs[i]? with | some f => (cs.drop f.offset).take (P.cellsOf f.type) | none => []) (Qs i)
    rw [hf]
    have h2 : xs[i]? = some (xs[i]'(by omega)) := by simp
    refine (hQ i _ hf).2 K enc m _ (xs[i]'(by omega)) (by rw [hel i _ hf, h2]) ?_ trivial
    exact weightsEach_all hw (j := i) (by rw [List.getElem?_map, Array.getElem?_toList, hf]; rfl) (by rw [List.getElem?_map, h2]; rfl)) β h hr
  refine ⟨β', h', dss.flatten, a1, a2, a3, ?_, fun v hv => ?_, dss, rfl, a4, fun i x hx => (a5 i x hx).2.2⟩
  · have := contig_vrs (P := P) (β := β') fs.toList dss 0 hc (by simpa using a4) fun i ds f hd hf => by
      rw [Array.getElem?_toList] at hf
      have := (a5 i ds hd).1
      simp only [hf] at this
      exact this
    rwa [List.drop_zero] at this
  · obtain ⟨i, f, h1, h2⟩ := contig_mem (P := P) (cs := cs) fs.toList 0 hc v (by rwa [List.drop_zero])
    rw [Array.getElem?_toList] at h1
    have hi : i < dss.length := by rw [a4]; exact (Array.getElem?_eq_some_iff.1 h1).1
    obtain ⟨-, b2, -⟩ := a5 i dss[i] (by simp)
    simp only [h1] at b2
    exact b2 v h2
/-- a struct or an array, as an argument -/
theorem vr_agg {base : Nat} {v : Value} {ds : List DV} (ht : (∃ fs, P.underlying t = some (.struct fs)) ∨ ∃ n e, P.underlying t = some (.array n e)) (hv : Value.okWide P W .any base t v) (h1 : VRs β ds v.cells.toList) (h2 : ∀ x ∈ v.cells.toList, x.oneCell' = true) : VR β (.agg ds) v := by
  have : ∃ cs, v = .agg cs := by
    rcases ht with ⟨fs, ht⟩ | ⟨n, e, ht⟩
    · rw [Value.okWide, ht] at hv; obtain ⟨cs, hc, -⟩ := hv; exact ⟨cs, hc⟩
    · rw [Value.okWide, ht] at hv; obtain ⟨cs, hc, -⟩ := hv; exact ⟨cs, hc⟩
  obtain ⟨cs, rfl⟩ := this
  have := VR.agg ds cs.toList h1 h2
  simpa using this
end
end Go.Dm
