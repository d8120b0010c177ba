/- What comes in is opened: plain data, read as blocks that nobody writes. -/
import Derived.Test.YtbmcloahjiimeaaGreatDoorDmX5
import Derived.ChangeArms
import Derived.OpenShut
import GoSem.ClaimJoined
set_option linter.all false
namespace Go.Dm

abbrev bd (W : World) : Bd := ⟨W.heap.size, fun _ => False⟩
/-- cells of a type, once read by the kit, stand for values of the D-machine of which Q holds -/
def Opn (E : Ti) (P : Program) (W : World) (cs : List Value) (Q : H → List DV → Prop) : Prop :=
  ∀ β h, HR E P (bd W) β h W → ∃ β' h' ds, β.le β' ∧ Sub h h' ∧ HR E P (bd W) β' h' W ∧ VRs β' ds cs ∧ (∀ v ∈ cs, v.oneCell' = true) ∧ Q h' ds
def Mono (Q : H → List DV → Prop) : Prop := ∀ h h' ds, Sub h h' → Q h ds → Q h' ds
def Opens (E : Ti) (P : Program) (W : World) (t : TypeId) (N : List Value → Prop) (Q : H → List DV → Prop) : Prop :=
  Mono Q ∧ ∀ (K : Type) (enc : TypeId × Value → K) (fuel : Nat) (cs : List Value) (x : DataW K × List MemPlace),
    DataW.trod enc P W 0 (fun _ => true) true fuel t cs = some x → (x.1.weights P t).all (· ≤ reachBytes) = true → N cs → Opn E P W cs Q

section
variable {E : Ti} {P : Program} {W : World} {t e : TypeId} {N : List Value → Prop} {Q : H → List DV → Prop}
theorem Opens.bool (ht : P.underlying t = some .bool) : Opens E P W t N (fun _ ds => ∃ b, ds = [.bool b]) := by
  refine ⟨fun _ _ _ _ h => h, fun K enc fuel cs x hx _ _ β h hr => ?_⟩
  obtain ⟨b, rfl, -⟩ := DataW.trod_bool ht hx
  exact ⟨β, h, [.bool b], Bt.le.refl _, Sub.refl _, hr, .cons _ _ _ _ (.bool b) .nil, by intro v hv; simp at hv; subst hv; rfl, b, rfl⟩
theorem Opens.int {k : IntKind} (ht : P.underlying t = some (.int k)) : Opens E P W t N (fun _ ds => ∃ n, ds = [.int k n] ∧ (Lit.int k n).wf = true) := by
  refine ⟨fun _ _ _ _ h => h, fun K enc fuel cs x hx _ _ β h hr => ?_⟩
  obtain ⟨n, rfl, -, hw⟩ := DataW.trod_int ht hx
  exact ⟨β, h, [.int k n], Bt.le.refl _, Sub.refl _, hr, .cons _ _ _ _ (.int k n) .nil, by intro v hv; simp at hv; subst hv; rfl, n, rfl, hw⟩
theorem Opens.str (ht : P.underlying t = some .string) : Opens E P W t N (fun _ ds => ∃ s : ByteArray, ds = [.str (s.data.toList.map UInt8.toNat)] ∧ s.size ≤ reachBytes) := by
  refine ⟨fun _ _ _ _ h => h, fun K enc fuel cs x hx hw _ β h hr => ?_⟩
  obtain ⟨s, rfl, rfl, -⟩ := DataW.trod_string ht hx
  refine ⟨β, h, [.str _], Bt.le.refl _, Sub.refl _, hr, .cons _ _ _ _ (.str s) .nil, by intro v hv; simp at hv; subst hv; rfl, s, rfl, ?_⟩
  simp only [DataW.weights, List.all_cons, List.all_nil, Bool.and_true, decide_eq_true_eq, Array.length_toList] at hw
  exact hw

/-- one after the other -/
theorem opn_seq {Qs : Nat → H → List DV → Prop} {css : Nat → List Value} (mono : ∀ i, Mono (Qs i)) : ∀ (n : Nat), (∀ i, i < n → Opn E P W (css i) (Qs i)) →
    ∀ β h, HR E P (bd W) β h W → ∃ (β' : Bt) (h' : H) (dss : List (List DV)), β.le β' ∧ Sub h h' ∧ HR E P (bd W) β' h' W ∧ dss.length = n ∧ ∀ (i : Nat) ds, dss[i]? = some ds → VRs β' ds (css i) ∧ (∀ v ∈ css i, v.oneCell' = true) ∧ Qs i h' ds
  | 0, _, β, h, hr => ⟨β, h, [], Bt.le.refl _, Sub.refl _, hr, rfl, fun i ds hd => by simp at hd⟩
  | n + 1, ho, β, h, hr => by
    obtain ⟨β1, h1, dss, a1, a2, a3, a4, a5⟩ := opn_seq mono n (fun i hi => ho i (by omega)) β h hr
    obtain ⟨β2, h2, ds, b1, b2, b3, b4, b5, b6⟩ := ho n (by omega) β1 h1 a3
    refine ⟨β2, h2, dss ++ [ds], a1.trans b1, a2.trans b2, b3, by simp [a4], fun i ds' hd => ?_⟩
    rw [List.getElem?_append] at hd
    split at hd
    · obtain ⟨c1, c2, c3⟩ := a5 i ds' hd
      exact ⟨c1.mono b1, c2, mono i _ _ _ b2 c3⟩
    · rename_i hlt
      have hi : i = n := by
        have := (List.getElem?_eq_some_iff.1 hd).1
        simp at this; omega
      subst hi
      rw [a4, Nat.sub_self] at hd
      simp only [List.getElem?_cons_zero, Option.some.injEq] at hd
      subst hd
      exact ⟨b4, b5, b6⟩

theorem flat_len {sz : Nat} : ∀ {dss : List (List DV)}, (∀ x ∈ dss, x.length = sz) → dss.flatten.length = dss.length * sz
  | [], _ => by simp
  | x :: dss, h => by
    rw [List.flatten_cons, List.length_append, flat_len (fun y hy => h y (List.mem_cons_of_mem _ hy)), h x (by simp), List.length_cons, Nat.add_mul]
    omega
theorem flat_get {sz : Nat} (h0 : 0 < sz) : ∀ {dss : List (List DV)}, (∀ x ∈ dss, x.length = sz) → ∀ {p : Nat} {v : DV}, dss.flatten[p]? = some v → ∃ i j ds, p = i * sz + j ∧ j < sz ∧ dss[i]? = some ds ∧ ds[j]? = some v
  | [], _, p, v, h => by simp at h
  | x :: dss, hl, p, v, h => by
    have hx := hl x (by simp)
    rw [List.flatten_cons, List.getElem?_append, hx] at h
    split at h
    · rename_i hp
      exact ⟨0, p, x, by omega, hp, rfl, h⟩
    · rename_i hp
      obtain ⟨i, j, ds, e1, e2, e3, e4⟩ := flat_get h0 (fun y hy => hl y (List.mem_cons_of_mem _ hy)) h
      refine ⟨i + 1, j, ds, ?_, e2, by simpa using e3, e4⟩
      rw [Nat.add_mul]; omega
theorem flat_vrs {β : Bt} {sz : Nat} : ∀ (dss : List (List DV)) (cs : List Value), cs.length = dss.length * sz → (∀ (i : Nat) ds, dss[i]? = some ds → VRs β ds ((cs.drop (i * sz)).take sz)) → VRs β dss.flatten cs
  | [], cs, hl, _ => by
    have : cs = [] := List.length_eq_zero_iff.1 (by simpa using hl)
    subst this; exact .nil
  | x :: dss, cs, hl, h => by
    rw [List.length_cons, Nat.add_mul] at hl
    have h1 := h 0 x rfl
    rw [Nat.zero_mul, List.drop_zero] at h1
    have h2 := flat_vrs (β := β) (sz := sz) dss (cs.drop sz) (by rw [List.length_drop]; omega) fun i ds hd => by
      have := h (i + 1) ds (by simpa using hd)
      rw [List.drop_drop]
      rw [Nat.add_mul] at this
      rwa [show sz + i * sz = i * sz + 1 * sz by omega]
    have := h1.append h2
    rwa [List.take_append_drop] at this

theorem weightsAll_all {K : Type} : ∀ {l : List (DataW K)}, (DataW.weightsAll P e l).all (· ≤ reachBytes) = true → ∀ d ∈ l, (d.weights P e).all (· ≤ reachBytes) = true
  | [], _, d, hd => by simp at hd
  | x :: l, h, d, hd => by
    rw [DataW.weightsAll, List.all_append, Bool.and_eq_true] at h
    rcases List.mem_cons.1 hd with rfl | hd
    · exact h.1
    · exact weightsAll_all h.2 d hd

def arrQ (n : Nat) (Q : H → List DV → Prop) (h : H) (ds : List DV) : Prop := ∃ dss : List (List DV), ds = dss.flatten ∧ dss.length = n ∧ ∀ x ∈ dss, Q h x
theorem Opens.array {n sz : Nat} (ht : P.underlying t = some (.array n e)) (hs : P.cellsOf e = sz) (hn : P.cellsOf t = n * sz) (He : Opens E P W e (fun _ => True) Q) : Opens E P W t N (arrQ n Q) := by
  refine ⟨fun h h' ds hs ⟨dss, q1, q2, q3⟩ => ⟨dss, q1, q2, fun x hx => He.1 _ _ _ hs (q3 x hx)⟩, fun K enc fuel cs x hx hw _ β h hr => ?_⟩
  obtain ⟨xs, m, rfl, rfl, hl, hxl, hel⟩ := DataW.trod_array ht hx
  rw [hs] at hel
  rw [hn] at hl
  rw [DataW.weights, ht] at hw
  have hw : (DataW.weightsAll P e (xs.map (·.1))).all (· ≤ reachBytes) = true := hw
  obtain ⟨β', h', dss, a1, a2, a3, a4, a5⟩ := opn_seq (E := E) (P := P) (W := W) (Qs := fun _ => Q) (css := fun i => (cs.drop (i * sz)).take sz) (fun _ => He.1) n (fun i hi => by
    have hi2 : i < xs.length := by omega
    refine He.2 K enc m _ (xs[i]) (by rw [hel i hi]; simp [hi2]) ?_ trivial
    exact weightsAll_all hw _ (List.mem_map.2 ⟨xs[i], by simp, rfl⟩)) β h hr
  refine ⟨β', h', dss.flatten, a1, a2, a3, flat_vrs dss cs (by rw [hl, a4]) fun i ds hd => (a5 i ds hd).1, fun v hv => ?_, dss, rfl, a4, fun x hx => ?_⟩
  · obtain ⟨p, hp⟩ := List.mem_iff_getElem?.1 hv
    have hpl := (List.getElem?_eq_some_iff.1 hp).1
    rw [hl] at hpl
    have h0 : 0 < sz := by
      rcases Nat.eq_zero_or_pos sz with h | h
      · subst h; simp at hpl
      · exact h
    have hq : p / sz < n := Nat.div_lt_of_lt_mul (by rw [Nat.mul_comm]; exact hpl)
    obtain ⟨-, b2, -⟩ := a5 (p / sz) (dss[p / sz]'(by omega)) (by simp)
    refine b2 v (List.mem_iff_getElem?.2 ⟨p % sz, ?_⟩)
    rw [List.getElem?_take, if_pos (Nat.mod_lt _ h0), List.getElem?_drop, Nat.div_add_mod']
    exact hp
  · obtain ⟨i, hi⟩ := List.mem_iff_getElem?.1 hx
    exact (a5 i x hi).2.2

def sliceQ (sz : Nat) (Q : H → List DV → Prop) (h : H) (ds : List DV) : Prop :=
  ds = [.slice none 0 0 false] ∨ ∃ (d len cap : Nat) (dss : List (List DV)) (e : Nat), ds = [.slice (some (d, 0)) len cap false] ∧ d < h.nx ∧ len ≤ cap ∧ cap ≤ reachBytes ∧ h.get d = some (.cells dss.flatten e true) ∧ dss.length = cap ∧ ∀ x ∈ dss, x.length = sz ∧ Q h x
theorem sliceQ.mono {sz : Nat} (hQ : Mono Q) : Mono (sliceQ sz Q) := by
  intro h h' ds hs hq
  rcases hq with rfl | ⟨d, len, cap, dss, e, rfl, q1, q2, q3, q4, q5, q6⟩
  · exact .inl rfl
  · exact .inr ⟨d, len, cap, dss, e, rfl, Nat.lt_of_lt_of_le q1 hs.nx, q2, q3, by rw [hs.get d q1]; exact q4, q5, fun x hx => ⟨(q6 x hx).1, hQ _ _ _ hs (q6 x hx).2⟩⟩
/-- where a slice lies that the form's own condition lets in -/
def Lies (W : World) (cs : List Value) : Prop := ∀ a len cap, cs = [.slice (some a) len cap] → a.spot = none ∧ ∃ c t fz, W.heap[a.block]? = some (.cells c t fz)
theorem cells?_get {W : World} {r o k sz : Nat} {cs : List Value} {c : Array Value} {u : Nat} {fz : Nat × Nat} (hc : W.heap[r]? = some (.cells c u fz)) (h : W.cells? 0 ((⟨r, o, none⟩ : Addr).add k) sz = some cs) : cs.length = sz ∧ ∀ j, j < sz → c[o + (k + j)]? = cs[j]? := by
  unfold World.cells? at h
  rw [if_pos (Nat.zero_le _)] at h
  have hl : cs.length = sz := by simpa using mapM_some_length h
  refine ⟨hl, fun j hj => ?_⟩
  have := mapM_some_get h j j (by simp [hj])
  rw [← this]
  have e1 : ((⟨r, o, none⟩ : Addr).add k).add j = ⟨r, o + (k + j), none⟩ := by
    unfold Addr.add
    by_cases h1 : k = 0 <;> by_cases h2 : j = 0 <;> simp [h1, h2, Nat.add_assoc]
  show c[o + (k + j)]? = W.cell? _
  rw [e1]
  unfold World.cell?
  simp only [hc]
  rfl
theorem Opens.slice {sz : Nat} (ht : P.underlying t = some (.slice e)) (hs : P.cellsOf e = sz) (h0 : 0 < sz) (hb : 0 < P.bytesOf e) (He : Opens E P W e (fun _ => True) Q) : Opens E P W t (Lies W) (sliceQ sz Q) := by
  refine ⟨sliceQ.mono He.1, fun K enc fuel cs x hx hw hN β h hr => ?_⟩
  rcases DataW.trod_slice ht hx with ⟨rfl, -⟩ | ⟨a, len, cap, elems, rest, n, rfl, rfl, rfl, -, hlc, -, hel, he, hr1, -⟩
  · exact ⟨β, h, [.slice none 0 0 false], Bt.le.refl _, Sub.refl _, hr, .cons _ _ _ _ (.sliceN false) .nil, by intro v hv; simp at hv; subst hv; rfl, .inl rfl⟩
  obtain ⟨hrl, hre⟩ := hr1 rfl
  obtain ⟨hsp, c, u, fz, hc⟩ := hN a len cap rfl
  obtain ⟨r, o, sp⟩ := a
  obtain rfl : sp = none := hsp
  rw [hs] at he hre
  rw [DataW.weights, ht] at hw
  have hw : (((elems.map (·.1)).length + (rest.map (·.1)).length) * P.bytesOf e :: (DataW.weightsAll P e (elems.map (·.1)) ++ DataW.weightsAll P e (rest.map (·.1)))).all (· ≤ reachBytes) = true := hw
  rw [List.all_cons, List.all_append, Bool.and_eq_true, Bool.and_eq_true] at hw
  obtain ⟨hw0, hw1, hw2⟩ := hw
  have hcap : cap ≤ reachBytes := by
    simp only [List.length_map, decide_eq_true_eq, hel, hrl] at hw0
    have : (len + (cap - len)) * 1 ≤ (len + (cap - len)) * P.bytesOf e := Nat.mul_le_mul_left _ hb
    omega
  have hall : ∀ i, i < cap → ∃ csi y, W.cells? 0 ((⟨r, o, none⟩ : Addr).add (i * sz)) sz = some csi ∧ DataW.trod enc P W 0 (fun _ => true) true n e csi = some y ∧ (y.1.weights P e).all (· ≤ reachBytes) = true := by
    intro i hi
    by_cases hil : i < len
    · have h1 := he i hil
      have h2 : elems[i]? = some (elems[i]'(by omega)) := by simp
      rw [h2] at h1
      obtain ⟨csi, g1, g2⟩ := Option.bind_eq_some_iff.1 h1
      exact ⟨csi, _, g1, g2, weightsAll_all hw1 _ (List.mem_map.2 ⟨_, List.getElem_mem _, rfl⟩)⟩
    · have h1 := hre (i - len) (by omega)
      rw [show len + (i - len) = i by omega] at h1
      have h2 : rest[i - len]? = some (rest[i - len]'(by omega)) := by simp
      rw [h2] at h1
      obtain ⟨csi, g1, g2⟩ := Option.bind_eq_some_iff.1 h1
      exact ⟨csi, _, g1, g2, weightsAll_all hw2 _ (List.mem_map.2 ⟨_, List.getElem_mem _, rfl⟩)⟩
  obtain ⟨β', h', dss, a1, a2, a3, a4, a5⟩ := opn_seq (E := E) (P := P) (W := W) (Qs := fun _ => Q) (css := fun i => (W.cells? 0 ((⟨r, o, none⟩ : Addr).add (i * sz)) sz).getD []) (fun _ => He.1) cap (fun i hi => by
    obtain ⟨csi, y, g1, g2, g3⟩ := hall i hi
    show Opn E P W ((W.cells? 0 ((⟨r, o, none⟩ : Addr).add (i * sz)) sz).getD []) Q
    rw [g1]
    exact He.2 K enc n csi y g2 g3 trivial) β h hr
  have hlen : ∀ x ∈ dss, x.length = sz := fun x hx => by
    obtain ⟨i, hi⟩ := List.mem_iff_getElem?.1 hx
    have hil := (List.getElem?_eq_some_iff.1 hi).1
    obtain ⟨csi, y, g1, g2, g3⟩ := hall i (by omega)
    have := (a5 i x hi).1.length
    rw [this, g1]
    exact (cells?_get hc g1).1
  have hat : CellsAt β' c o dss.flatten := fun p v hp => by
    obtain ⟨i, j, ds, rfl, e2, e3, e4⟩ := flat_get h0 hlen hp
    have hil := (List.getElem?_eq_some_iff.1 e3).1
    obtain ⟨csi, y, g1, g2, g3⟩ := hall i (by omega)
    obtain ⟨b1, b2, -⟩ := a5 i ds e3
    simp only [g1, Option.getD_some] at b1 b2
    obtain ⟨v', f1, f2⟩ := b1.get e4
    exact ⟨v', by rw [(cells?_get hc g1).2 j e2]; exact f1, f2, b2 v' (List.mem_iff_getElem?.2 ⟨j, f1⟩)⟩
  have hlt : r < W.heap.size := (Array.getElem?_eq_some_iff.1 hc).1
  have hseen := a3.seen (L := ⟨r, o, 0⟩) e hc hat hlt
  have hle : β'.le (β'.upd h'.nx ⟨r, o, 0⟩) := Bt.le_upd (a3.new h'.nx (Nat.le_refl _))
  refine ⟨_, _, [.slice (some (h'.nx, 0)) len cap false], a1.trans hle, a2.trans (Sub.new _ _), hseen, .cons _ _ _ _ (.sliceC h'.nx 0 len cap ⟨r, o, 0⟩ (Bt.upd_self _ _ _)) .nil, by intro v hv; simp at hv; subst hv; rfl, .inr ⟨h'.nx, len, cap, dss, e, rfl, by rw [H.nx_new]; omega, hlc, hcap, H.get_new _ _, a4, fun x hx => ⟨hlen x hx, ?_⟩⟩⟩
  obtain ⟨i, hi⟩ := List.mem_iff_getElem?.1 hx
  exact He.1 _ _ _ (Sub.new _ _) (a5 i x hi).2.2
/-- one argument -/
theorem Opens.arg {K : Type} {enc : TypeId × Value → K} {v : Value} {d : DataW K} {p : List MemPlace} (ho : Opens E P W t N Q) (h1 : DataW.Trod enc P W 0 (fun _ => true) true t v d p) (hw : (d.weights P t).all (· ≤ reachBytes) = true) (hN : N v.cells.toList) : Opn E P W v.cells.toList Q := by
  obtain ⟨fuel, hf⟩ := h1
  exact ho.2 K enc fuel _ _ hf hw hN
theorem weightsEach_all {K : Type} : ∀ {ts : List TypeId} {ds : List (DataW K)}, (DataW.weightsEach P ts ds).all (· ≤ reachBytes) = true → ∀ {j : Nat} {t : TypeId} {d : DataW K}, ts[j]? = some t → ds[j]? = some d → (d.weights P t).all (· ≤ reachBytes) = true
  | [], _, _, _, _, _, ht, _ => by simp at ht
  | _ :: _, [], _, _, _, _, _, hd => by simp at hd
  | t :: ts, d :: ds, h, j, t', d', ht, hd => by
    rw [DataW.weightsEach, List.all_append, Bool.and_eq_true] at h
    cases j with
    | zero => simp at ht hd; subst ht; subst hd; exact h.1
    | succ j => exact weightsEach_all h.2 (j := j) (by simpa using ht) (by simpa using hd)
/-- a slice that the form's own condition lets in lies somewhere -/
theorem lies_of_ok {base : Nat} {v : Value} (ht : P.underlying t = some (.slice e)) (hv : Value.okWide P W .any base t v) : Lies W v.cells.toList := by
  intro a len cap hcs
  have hv1 : v = .slice (some a) len cap := by
    cases v <;> simp [Value.cells] at hcs ⊢ <;> first | exact hcs | skip
    all_goals (rw [Value.okWide, ht] at hv; simp [Cell.okWide, ht, Cell.ok] at hv)
  subst hv1
  simp only [Value.okWide, ht, Cell.okWide, Cell.ok] at hv
  obtain ⟨-, -, -, hsp, row, k, hsh, -⟩ := hv
  refine ⟨hsp, ?_⟩
  unfold World.shape? at hsh
  split at hsh
  · rename_i c elem fz hc
    exact ⟨c, elem, fz, hc⟩
  · cases hsh
end
end Go.Dm
