/- Regions that draw: what an operation looks at. Regions that draw: blocks that are made ahead of their time. Regions that draw: the D-machine's run of one, written down. Regions that draw: variables and rows that are made. Regions that draw: what the trace of a run says. -/
import Derived.Test.YtbmcloahjiimeaaGreatDoorDmPb
set_option linter.all false
namespace Go.Dm
open Go.RowKit (Below)

section
variable {E : Ti} {X Y : Cx}
theorem cxs_congr : ∀ {l : List Operand}, (∀ x ∈ l, X x = Y x) → cxs X l = cxs Y l
  | [], _ => rfl
  | x :: r, h => by
    simp only [cxs]
    rw [h x (List.mem_cons_self ..), cxs_congr fun y hy => h y (List.mem_cons_of_mem _ hy)]
theorem cxo_congr {o : Option Operand} (h : ∀ x, o = some x → X x = Y x) : cxo X o = cxo Y o := by
  cases o with
  | none => rfl
  | some x => simp only [cxo]; rw [h x rfl]
theorem cparts_congr {place : Nat → Option (Nat × Nat)} : ∀ {l : List (Nat × Operand)}, (∀ p ∈ l, X p.2 = Y p.2) → cparts X place l = cparts Y place l
  | [], _ => rfl
  | (i, x) :: r, h => by
    simp only [cparts]
    rw [h (i, x) (List.mem_cons_self ..), cparts_congr fun y hy => h y (List.mem_cons_of_mem _ hy)]
/-- an operation is compiled by what its operands are -/
theorem cop_congr {o : Op} (h : ∀ x ∈ o.operands.toList, X x = Y x) : cop E X o = cop E Y o := by
  have one : ∀ x, o.operands = #[x] → X x = Y x := fun x hx => h x (by rw [hx]; simp)
  cases o with
  | move x => simp only [cop]; rw [one x rfl]
  | assign x => simp only [cop]; rw [one x rfl]
  | pick a b c => simp only [cop]; rw [h a (by simp [Op.operands]), h b (by simp [Op.operands]), h c (by simp [Op.operands])]
  | alloc e => rfl
  | box e x => simp only [cop]; rw [one x rfl]
  | build t ps =>
    have hp : ∀ p ∈ ps.toList, X p.2 = Y p.2 := fun p hp => h p.2 (by simp only [Op.operands]; exact List.mem_map.2 ⟨p, hp, rfl⟩)
    simp only [cop]
    have e : ∀ place, cparts X place ps.toList = cparts Y place ps.toList := fun place => cparts_congr hp
    simp only [e]
  | buildSlice t len ps =>
    have hp : ∀ p ∈ ps.toList, X p.2 = Y p.2 := fun p hp => h p.2 (by simp only [Op.operands]; exact List.mem_map.2 ⟨p, hp, rfl⟩)
    simp only [cop]
    have e : ∀ place, cparts X place ps.toList = cparts Y place ps.toList := fun place => cparts_congr hp
    simp only [e]
  | load t x => simp only [cop]; rw [one x rfl]
  | store t a v => simp only [cop]; rw [h a (by simp [Op.operands]), h v (by simp [Op.operands])]
  | nilCheck x => simp only [cop]; rw [one x rfl]
  | binOp op t a v yt => simp only [cop]; rw [h a (by simp [Op.operands]), h v (by simp [Op.operands])]
  | unOp op t x => simp only [cop]; rw [one x rfl]
  | convert s d x => simp only [cop]; rw [one x rfl]
  | makeInterface t x => simp only [cop]; rw [one x rfl]
  | makeFunc fn a c =>
    have h1 : cxs X a.toList = cxs Y a.toList := cxs_congr fun x hx => h x (by simp [Op.operands]; exact .inl (by simpa using hx))
    have h2 : cxs X c.toList = cxs Y c.toList := cxs_congr fun x hx => h x (by simp [Op.operands]; exact .inr (by simpa using hx))
    cases fn <;> simp only [cop, h1, h2]
  | makeMap t r => cases r <;> rfl
  | makeSlice t a v => simp only [cop]; rw [h a (by simp [Op.operands]), h v (by simp [Op.operands])]
  | slice t x lo hi mx =>
    simp only [cop]
    rw [h x (by simp [Op.operands]), cxo_congr (X := X) (Y := Y) (o := lo) (fun y hy => h y (by simp [Op.operands, hy])), cxo_congr (X := X) (Y := Y) (o := hi) (fun y hy => h y (by simp [Op.operands, hy])), cxo_congr (X := X) (Y := Y) (o := mx) (fun y hy => h y (by simp [Op.operands, hy]))]
  | fieldAddr s x f => simp only [cop]; rw [one x rfl]
  | field s x f => simp only [cop]; rw [one x rfl]
  | indexAddr t a v => simp only [cop]; rw [h a (by simp [Op.operands]), h v (by simp [Op.operands])]
  | index t a v => simp only [cop]; rw [h a (by simp [Op.operands]), h v (by simp [Op.operands])]
  | lookup t a v ok => simp only [cop]; rw [h a (by simp [Op.operands]), h v (by simp [Op.operands])]
  | mapUpdate t m k v => simp only [cop]; rw [h m (by simp [Op.operands]), h k (by simp [Op.operands]), h v (by simp [Op.operands])]
  | insert t m k v => simp only [cop]; rw [h m (by simp [Op.operands]), h k (by simp [Op.operands]), h v (by simp [Op.operands])]
  | typeAssert x xt t ok =>
    cases ok with
    | false => rfl
    | true => simp only [cop]; rw [one x rfl]
  | extract x i => simp only [cop]; rw [one x rfl]
  | call c =>
    obtain ⟨callee, args, ts⟩ := c
    cases callee with
    | value f =>
      have h1 : cxs X args.toList = cxs Y args.toList := cxs_congr fun x hx => h x (by simp [Op.operands, Call.operands]; exact .inr (by simpa using hx))
      have hf := h f (by simp [Op.operands, Call.operands])
      simp only [cop, h1]
      cases cxs Y args.toList with
      | none => rfl
      | some l => simp only [hf]
    | builtin b =>
      have h1 : cxs X args.toList = cxs Y args.toList := cxs_congr fun x hx => h x (by simp [Op.operands, Call.operands]; (try simpa using hx))
      simp only [cop, h1]
      cases cxs Y args.toList <;> rfl
    | invoke _ _ => simp only [cop]
  | defer c =>
    obtain ⟨callee, args, ts⟩ := c
    cases callee with
    | value f =>
      have h1 : cxs X args.toList = cxs Y args.toList := cxs_congr fun x hx => h x (by simp [Op.operands, Call.operands]; exact .inr (by simpa using hx))
      have hf := h f (by simp [Op.operands, Call.operands])
      simp only [cop, h1]
      cases cxs Y args.toList with
      | none => rfl
      | some l => simp only [hf]
    | builtin b => simp only [cop]
    | invoke _ _ => simp only [cop]
  | panic x => simp only [cop]; rw [one x rfl]
  | _ => rfl

/-! ### What an operation does not do -/
/-- what memory does not matter to gives the same everywhere, and leaves memory alone -/
theorem sort0 {o : DOp} (hs : o.sort = 0) {ev : Ev} {h h' : H} {v : DV} (hd : dop o ev h = .val v h') : h' = h ∧ ∀ h2, dop o ev h2 = .val v h2 := by
  have pure : ∀ (w : DV), N.val w h = .val v h' → h' = h ∧ ∀ h2 : H, N.val w h2 = .val v h2 := by
    intro w hw; cases hw; exact ⟨rfl, fun _ => rfl⟩
  have opt : ∀ (w : Option DV), valO w h = .val v h' → h' = h ∧ ∀ h2 : H, valO w h2 = .val v h2 := by
    intro w hw
    cases w with
    | none => cases hw
    | some w => cases hw; exact ⟨rfl, fun _ => rfl⟩
  cases o with
  | mv x => exact pure _ hd
  | pick c a b =>
    have e : ∀ h2, dop (.pick c a b) ev h2 = oPick c a b ev h2 := fun _ => rfl
    simp only [e, oPick] at hd ⊢
    cases hx : ev c <;> simp only [hx] at hd ⊢ <;> first | (cases hd; done) | exact pure _ hd
  | build z ps => exact opt _ hd
  | nilc x =>
    have e : ∀ h2, dop (.nilc x) ev h2 = oNilc x ev h2 := fun _ => rfl
    simp only [e, oNilc] at hd ⊢
    cases hx : ev x <;> simp only [hx] at hd ⊢ <;> try (cases hd; done)
    rename_i a; cases a <;> first | (cases hd; done) | exact pure _ hd
  | bin op x y => exact opt _ hd
  | eqN k n x y => exact opt _ hd
  | eqA l n x y => exact opt _ hd
  | un op x =>
    have e : ∀ h2, dop (.un op x) ev h2 = oUn op x ev h2 := fun _ => rfl
    simp only [e, oUn] at hd ⊢
    cases op <;> cases hx : ev x <;> simp only [hx] at hd ⊢ <;> first | (cases hd; done) | exact pure _ hd
  | toInt k x =>
    have e : ∀ h2, dop (.toInt k x) ev h2 = oToInt k x ev h2 := fun _ => rfl
    simp only [e, oToInt] at hd ⊢
    cases hx : ev x <;> simp only [hx] at hd ⊢ <;> try (cases hd; done)
    exact pure _ hd
  | same x =>
    have e : ∀ h2, dop (.same x) ev h2 = oSame x ev h2 := fun _ => rfl
    simp only [e, oSame] at hd ⊢
    cases hx : ev x <;> simp only [hx] at hd ⊢ <;> try (cases hd; done)
    exact pure _ hd
  | mkI t x => exact pure _ hd
  | mkF f a b => exact pure _ hd
  | slStr x lo hi =>
    have e : ∀ h2, dop (.slStr x lo hi) ev h2 = oSlStr x lo hi ev h2 := fun _ => rfl
    simp only [e, oSlStr] at hd ⊢
    cases hx : ev x <;> simp only [hx] at hd ⊢ <;> try (cases hd; done)
    rename_i s
    cases e1 : intO (lo.map ev) 0 <;> cases e2 : intO (hi.map ev) s.length <;> simp only [e1, e2] at hd ⊢ <;> try (cases hd; done)
    split at hd
    · rename_i hc; simp only [if_pos hc]; exact pure _ hd
    · cases hd
  | slSl sz x lo hi mx => exact opt _ hd
  | slArr n sz x lo hi mx =>
    have e : ∀ h2, dop (.slArr n sz x lo hi mx) ev h2 = oSlArr n sz x lo hi mx ev h2 := fun _ => rfl
    simp only [e, oSlArr] at hd ⊢
    cases hx : ev x <;> simp only [hx] at hd ⊢ <;> try (cases hd; done)
    rename_i a; cases a <;> first | (cases hd; done) | exact opt _ hd
  | fldA off x =>
    have e : ∀ h2, dop (.fldA off x) ev h2 = oFldA off x ev h2 := fun _ => rfl
    simp only [e, oFldA] at hd ⊢
    cases hx : ev x <;> simp only [hx] at hd ⊢ <;> try (cases hd; done)
    rename_i a; cases a <;> first | (cases hd; done) | exact pure _ hd
  | fldV off n ag x =>
    have e : ∀ h2, dop (.fldV off n ag x) ev h2 = oFldV off n ag x ev h2 := fun _ => rfl
    simp only [e, oFldV] at hd ⊢
    cases hx : ev x <;> simp only [hx] at hd ⊢ <;> try (cases hd; done)
    exact opt _ hd
  | idxA len sz x i =>
    have e : ∀ h2, dop (.idxA len sz x i) ev h2 = oIdxA len sz x i ev h2 := fun _ => rfl
    simp only [e, oIdxA] at hd ⊢
    cases hx : ev x <;> simp only [hx] at hd ⊢ <;> try (cases hd; done)
    rename_i a; cases a <;> try (cases hd; done)
    cases hy : ev i <;> simp only [hy] at hd ⊢ <;> try (cases hd; done)
    rename_i k n
    cases hc : inB n len <;> simp only [hc, ptrO] at hd ⊢ <;> first | (cases hd; done) | exact pure _ hd
  | idxS sz x i =>
    have e : ∀ h2, dop (.idxS sz x i) ev h2 = oIdxS sz x i ev h2 := fun _ => rfl
    simp only [e, oIdxS] at hd ⊢
    cases hx : ev x <;> simp only [hx] at hd ⊢ <;> try (cases hd; done)
    rename_i a len cap op; cases a <;> try (cases hd; done)
    cases hy : ev i <;> simp only [hy] at hd ⊢ <;> try (cases hd; done)
    rename_i k n
    cases hc : inB n len <;> simp only [hc, ptrO] at hd ⊢ <;> first | (cases hd; done) | exact pure _ hd
  | idxV len sz ag x i =>
    have e : ∀ h2, dop (.idxV len sz ag x i) ev h2 = oIdxV len sz ag x i ev h2 := fun _ => rfl
    simp only [e, oIdxV] at hd ⊢
    cases hx : ev x <;> simp only [hx] at hd ⊢ <;> try (cases hd; done)
    cases hy : ev i <;> simp only [hy] at hd ⊢ <;> try (cases hd; done)
    rename_i k n
    cases hc : inB n len <;> simp only [hc] at hd ⊢ <;> first | (cases hd; done) | exact opt _ hd
  | idxStr x i =>
    have e : ∀ h2, dop (.idxStr x i) ev h2 = oIdxStr x i ev h2 := fun _ => rfl
    simp only [e, oIdxStr] at hd ⊢
    cases hx : ev x <;> simp only [hx] at hd ⊢ <;> try (cases hd; done)
    cases hy : ev i <;> simp only [hy] at hd ⊢ <;> try (cases hd; done)
    rename_i k n
    cases n <;> simp only at hd ⊢ <;> first | (cases hd; done) | exact opt _ hd
  | ext i x =>
    have e : ∀ h2, dop (.ext i x) ev h2 = oExt i x ev h2 := fun _ => rfl
    simp only [e, oExt] at hd ⊢
    cases hx : ev x <;> simp only [hx] at hd ⊢ <;> try (cases hd; done)
    exact opt _ hd
  | tas t z x =>
    have e : ∀ h2, dop (.tas t z x) ev h2 = oTas t z x ev h2 := fun _ => rfl
    simp only [e, oTas] at hd ⊢
    cases hx : ev x <;> simp only [hx] at hd ⊢ <;> try (cases hd; done)
    all_goals exact pure _ hd
  | lenA n => exact pure _ hd
  | cap x =>
    have e : ∀ h2, dop (.cap x) ev h2 = oCap x ev h2 := fun _ => rfl
    simp only [e, oCap] at hd ⊢
    cases hx : ev x <;> simp only [hx] at hd ⊢ <;> try (cases hd; done)
    rename_i a len c op
    cases a with
    | none => cases len <;> cases c <;> first | (cases hd; done) | exact pure _ hd
    | some a => cases op <;> first | (cases hd; done) | exact pure _ hd
  | minI x y =>
    have e : ∀ h2, dop (.minI x y) ev h2 = oMinI x y ev h2 := fun _ => rfl
    simp only [e, oMinI] at hd ⊢
    cases hx : ev x <;> simp only [hx] at hd ⊢ <;> try (cases hd; done)
    cases hy : ev y <;> simp only [hy] at hd ⊢ <;> first | (cases hd; done) | exact pure _ hd
  | maxI x y =>
    have e : ∀ h2, dop (.maxI x y) ev h2 = oMaxI x y ev h2 := fun _ => rfl
    simp only [e, oMaxI] at hd ⊢
    cases hx : ev x <;> simp only [hx] at hd ⊢ <;> try (cases hd; done)
    cases hy : ev y <;> simp only [hy] at hd ⊢ <;> first | (cases hd; done) | exact pure _ hd
  | sdata x =>
    have e : ∀ h2, dop (.sdata x) ev h2 = oSdata x ev h2 := fun _ => rfl
    simp only [e, oSdata] at hd ⊢
    cases hx : ev x <;> simp only [hx] at hd ⊢ <;> try (cases hd; done)
    rename_i a len c op
    cases a with
    | none => cases len <;> cases c <;> first | (cases hd; done) | exact pure _ hd
    | some a =>
      simp only at hd ⊢
      split at hd
      · cases hd
      · rename_i hc; simp only [if_neg hc]; exact pure _ hd
  | _ => cases hs
theorem valO_h {o : Option DV} {h h' : H} {v : DV} (hd : valO o h = .val v h') : h' = h := by
  cases o with
  | none => cases hd
  | some w => cases hd; rfl
/-- what looks leaves memory alone -/
theorem sort1 {o : DOp} (hs : o.sort = 1) {ev : Ev} {h h' : H} {v : DV} (hd : dop o ev h = .val v h') : h' = h := by
  cases o with
  | load1 a =>
    have e : dop (.load1 a) ev h = oLoad1 a ev h := rfl
    rw [e] at hd
    unfold oLoad1 at hd
    split at hd
    · exact valO_h hd
    · cases hd
  | loadN n a =>
    have e : dop (.loadN n a) ev h = oLoadN n a ev h := rfl
    rw [e] at hd
    unfold oLoadN at hd
    split at hd
    · exact valO_h hd
    · cases hd
  | mapGet p z ok m k =>
    have e : dop (.mapGet p z ok m k) ev h = oMapGet p z ok m k ev h := rfl
    rw [e] at hd
    unfold oMapGet at hd
    simp only at hd
    split at hd
    · cases hd
    · split at hd
      · cases hd; rfl
      · split at hd
        · split at hd
          · cases hd; rfl
          · cases hd; rfl
          · cases hd
        · cases hd
      · cases hd
  | toStr x =>
    have e : dop (.toStr x) ev h = oToStr x ev h := rfl
    rw [e] at hd
    unfold oToStr at hd
    split at hd
    · cases hd
    · exact valO_h hd
    · cases hd
  | len k x => exact valO_h hd
  | _ => cases hs
theorem same1_eq {x y : DV} (h : DV.same1 x y = true) : x = y := by
  unfold DV.same1 at h
  split at h <;> simp at h <;> first | (subst h; rfl) | (obtain ⟨rfl, rfl⟩ := h; rfl) | (obtain ⟨⟨rfl, rfl⟩, rfl⟩ := h; rfl) | (obtain ⟨⟨⟨rfl, rfl⟩, rfl⟩, rfl⟩ := h; rfl) | rfl | skip
theorem sames_eq : ∀ {x y : List DV}, sames x y = true → x = y
  | [], [], _ => rfl
  | x :: xs, y :: ys, h => by
    simp only [sames, Bool.and_eq_true] at h
    rw [same1_eq h.1, sames_eq h.2]
  | [], _ :: _, h => by simp [sames] at h
  | _ :: _, [], h => by simp [sames] at h
theorem same_eq {x y : DV} (h : DV.same x y = true) : x = y := by
  unfold DV.same at h
  split at h
  · rw [sames_eq h]
  · rw [sames_eq h]
  · exact same1_eq h
end
end Go.Dm

namespace Go.Dm
open Go.RowKit (Below)

section
variable {E : Ti} {P : Program} {b : Nat} {G : Nat → Prop} {β : Bt} {w : World} {h : H}
/-- a block that the D-heap has had for a while is made -/
theorem HR.phantom (hr : HR E P ⟨b, G⟩ β h w) {d e : Nat} {cs : List DV} (hβ : β d = none) (hd : h.get d = some (.cells cs e false)) (hlt : d < h.nx) {c0 : List Value} (hc : VRs β cs c0) (hone : ∀ v ∈ c0, v.oneCell' = true)
    {w1 : World} (hw1 : w1.heap = w.heap.push (.cells c0.toArray e)) {G' : Nat → Prop} (hG : ∀ k, G' k → G k ∧ k ≠ d) :
    HR E P ⟨b, G'⟩ (β.upd d ⟨w.heap.size, 0, 0⟩) h w1 := by
  have hle : β.le (β.upd d ⟨w.heap.size, 0, 0⟩) := Bt.le_upd hβ
  have hold : ∀ k, k < w.heap.size → w1.heap[k]? = w.heap[k]? := fun k hk => by rw [hw1, Array.getElem?_push, if_neg (by omega)]
  have mono : ∀ {L : Loc} {o : Obj} {β' : Bt} {w' : World}, ObjR E P ⟨b, G⟩ β' w' L o → ObjR E P ⟨b, G'⟩ β' w' L o := by
    intro L o β' w' ho
    cases o with
    | cells cs e ro => obtain ⟨x1, x2, x3⟩ := ho; exact ⟨x1, x2, x3⟩
    | map es => exact ho
    | loop l => obtain ⟨x1, x2⟩ := ho; exact ⟨x1, x2⟩
    | dfr => exact ho
  refine ⟨fun k L o h1 h2 => ?_, fun k hk => ?_, fun k k' L L' o o' hn h1 h2 h3 h4 h5 h6 => ?_, ?_, fun g hg => hle _ _ (hr.glob g hg), fun k hk => ?_⟩
  · by_cases e1 : k = d
    · subst e1
      rw [Bt.upd_self] at h1; cases h1
      rw [hd] at h2; cases h2
      refine ⟨⟨c0.toArray, e, (0, 0), ?_, ?_, fun _ => ⟨rfl, ?_, fun i _ _ hf => by simp at hf⟩⟩, fun _ => hr.base, fun hf => by cases hf⟩
      · show w1.heap[w.heap.size]? = _
        rw [hw1]; simp
      · have := cellsAt_zero hc hone []
        simp only [List.append_nil] at this
        exact this.mono hle
      · simp [hc.length]
    · rw [Bt.upd_ne _ _ e1] at h1
      have := hr.obj k L o h1 h2
      exact mono ((this.world (hold _ this.lt)).mono hle)
  · rw [Bt.upd_ne _ _ (by omega)]
    exact hr.new k hk
  · by_cases e1 : k = d
    · subst e1
      rw [Bt.upd_self] at h1; cases h1
      have e2 : k' ≠ k := fun e => hn e.symm
      rw [Bt.upd_ne _ _ e2] at h2
      intro hrr
      have := (hr.obj k' L' o' h2 h4).lt
      simp at hrr; omega
    · rw [Bt.upd_ne _ _ e1] at h1
      by_cases e2 : k' = d
      · subst e2
        rw [Bt.upd_self] at h2; cases h2
        intro hrr
        have := (hr.obj k L o h1 h3).lt
        simp at hrr; omega
      · rw [Bt.upd_ne _ _ e2] at h2
        exact hr.apart k k' L L' o o' hn h1 h2 h3 h4 h5 h6
  · rw [hw1]; simp; exact Nat.le_trans hr.base (by omega)
  · obtain ⟨g1, g2⟩ := hG k hk
    rw [Bt.upd_ne _ _ g2]
    exact hr.ghost k g1
/-- blocks that nobody knows of yet are more in the D-heap -/
theorem HR.ahead (hr : HR E P ⟨b, G⟩ β h w) {h2 : H} (hold : ∀ d, d < h.nx → h2.get d = h.get d) (hnx : h.nx ≤ h2.nx) {G' : Nat → Prop} (hG : ∀ k, G' k → (G k ∨ h.nx ≤ k) ∧ k < h2.nx) :
    HR E P ⟨b, G'⟩ β h2 w := by
  have mono : ∀ {L : Loc} {o : Obj}, ObjR E P ⟨b, G⟩ β w L o → ObjR E P ⟨b, G'⟩ β w L o := by
    intro L o ho
    cases o with
    | cells cs e ro => obtain ⟨x1, x2, x3⟩ := ho; exact ⟨x1, x2, x3⟩
    | map es => exact ho
    | loop l => obtain ⟨x1, x2⟩ := ho; exact ⟨x1, x2⟩
    | dfr => exact ho
  have lt : ∀ {k L}, β k = some L → k < h.nx := fun {k L} hk => by
    rcases Nat.lt_or_ge k h.nx with h1 | h1
    · exact h1
    · rw [hr.new k h1] at hk; cases hk
  refine ⟨fun k L o h1 h2 => mono (hr.obj k L o h1 (by rw [← hold k (lt h1)]; exact h2)), fun k hk => hr.new k (by omega), fun k k' L L' o o' hn h1 h2 h3 h4 h5 h6 =>
    hr.apart k k' L L' o o' hn h1 h2 (by rw [← hold k (lt h1)]; exact h3) (by rw [← hold k' (lt h2)]; exact h4) h5 h6, hr.base, hr.glob, fun k hk => ?_⟩
  obtain ⟨g1, g2⟩ := hG k hk
  rcases g1 with g1 | g1
  · exact ⟨(hr.ghost k g1).1, g2⟩
  · exact ⟨hr.new k g1, g2⟩
end
end Go.Dm

namespace Go.Dm

/-- one operation's run: what it was run in (frame, heap, how many effects lay behind it), what it has come to -/
structure Rc where
  od : DOper
  dr : Draw
  fr : Fr
  h : H
  c : Nat
  w : Bool
  v : DV
  fr' : Fr
  h' : H

/-- the run of an operation is as the record says -/
structure RcOk (D : Env) (ih : Ih) (r : Rc) : Prop where
  w : r.w = wanted r.od.guard r.fr.ev
  yes : r.w = true → dstep D ih r.od.op r.fr.ev r.fr r.h = .val r.v r.fr' r.h'
  no : r.w = false → r.v = .undef ∧ r.fr' = r.fr ∧ r.h' = r.h

/-- the heaps behind an operation -/
def Rc.next (r : Rc) (hs : List H) : List H :=
  match r.od.op.sort with
  | 0 => hs
  | 1 => hs
  | 2 => bif r.w then r.h' :: hs.tail else hs
  | _ => r.h' :: hs
noncomputable def Rc.seen (r : Rc) (ss : List Seen) : Option (List Seen) :=
  match r.od.op.sort with
  | 0 => some ss
  | 1 => bif r.w then some (.look r.od.op r.fr r.v r.dr :: ss) else some ss
  | 2 => bif r.w then (match madeS r.h r.h' r.dr with | some s => some (s :: ss) | none => none) else some ss
  | _ => some ss

inductive RunT (D : Env) (ih : Ih) : List (DOper × Draw) → Fr → H → List H → List Seen → List Rc → Fr → H → List H → List Seen → Prop where
  | nil (fr : Fr) (h : H) (hs : List H) (ss : List Seen) : RunT D ih [] fr h hs ss [] fr h hs ss
  | cons (r : Rc) (l : List (DOper × Draw)) (hs : List H) (ss ss1 : List Seen) (rs : List Rc) (fr2 : Fr) (h2 : H) (hs2 : List H) (ss2 : List Seen) (hok : RcOk D ih r) (hc : r.c + 1 = hs.length) (hss : r.seen ss = some ss1) (hlo : r.od.op.sort = 2 → r.w = true → r.c = r.dr.lo)
      (hrun : RunT D ih l (r.fr'.put r.od.dst r.v) r.h' (r.next hs) ss1 rs fr2 h2 hs2 ss2) : RunT D ih ((r.od, r.dr) :: l) r.fr r.h hs ss (r :: rs) fr2 h2 hs2 ss2

theorem ddraw_run {D : Env} {ih : Ih} : ∀ (l : List (DOper × Draw)) (fr : Fr) (h : H) (hs : List H) (ss : List Seen) (fr2 : Fr) (h2 : H), hs ≠ [] → ddraw D ih l fr h hs ss = .nrm fr2 h2 →
    ∃ rs hs2 ss2, RunT D ih l fr h hs ss rs fr2 h2 hs2 ss2 ∧ (ss2.all (seenOk hs2)) = true := by
  intro l
  induction l with
  | nil =>
    intro fr h hs ss fr2 h2 _ hd
    have hd : (bif ss.all (seenOk hs) then R.nrm fr h else .fail) = .nrm fr2 h2 := hd
    cases hall : ss.all (seenOk hs) with
    | false => rw [hall] at hd; cases hd
    | true => rw [hall] at hd; cases hd; exact ⟨[], hs, ss, .nil _ _ _ _, hall⟩
  | cons od l ih' =>
    intro fr h hs ss fr2 h2 hne hd
    obtain ⟨o, dr⟩ := od
    have hlen : hs.length - 1 + 1 = hs.length := by
      cases hs with
      | nil => exact absurd rfl hne
      | cons a b => rfl
    have hd : (bif wanted o.guard fr.ev then ddrawK o dr (ddraw D ih l) fr h hs ss (dstep D ih o.op fr.ev fr h)
      else bif Nat.beq o.op.sort 3 then ddraw D ih l (fr.put o.dst .undef) h (h :: hs) ss else ddraw D ih l (fr.put o.dst .undef) h hs ss) = .nrm fr2 h2 := hd
    cases hw : wanted o.guard fr.ev with
    | true =>
      rw [hw] at hd
      simp only [cond_true] at hd
      cases hs' : dstep D ih o.op fr.ev fr h with
      | fail => rw [hs'] at hd; cases hd
      | exc _ _ _ => rw [hs'] at hd; cases hd
      | val v fr' h' =>
        rw [hs'] at hd
        simp only [ddrawK] at hd
        let r : Rc := ⟨o, dr, fr, h, hs.length - 1, true, v, fr', h'⟩
        have hok : RcOk D ih r := ⟨hw.symm, fun _ => hs', fun hf => by cases hf⟩
        have go : ∀ (hs1 : List H) (ss1 : List Seen), r.next hs = hs1 → r.seen ss = some ss1 → (r.od.op.sort = 2 → r.c = r.dr.lo) → hs1 ≠ [] → ddraw D ih l (fr'.put o.dst v) h' hs1 ss1 = .nrm fr2 h2 →
            ∃ rs hs2 ss2, RunT D ih ((o, dr) :: l) fr h hs ss rs fr2 h2 hs2 ss2 ∧ (ss2.all (seenOk hs2)) = true := by
          intro hs1 ss1 e1 e2 e3 hn hrun
          obtain ⟨rs, hs2, ss2, q1, q2⟩ := ih' _ _ hs1 ss1 fr2 h2 hn hrun
          exact ⟨r :: rs, hs2, ss2, .cons r l hs ss ss1 rs fr2 h2 hs2 ss2 hok hlen e2 (fun h _ => e3 h) (by rw [e1]; exact q1), q2⟩
        split at hd
        · rename_i hsort; exact go hs ss (by simp only [Rc.next, r, hsort]) (by simp only [Rc.seen, r, hsort]) (fun h => by rw [hsort] at h; cases h) hne hd
        · rename_i hsort; exact go hs _ (by simp only [Rc.next, r, hsort]) (by simp only [Rc.seen, r, hsort, cond_true]) (fun h => by rw [hsort] at h; cases h) hne hd
        · rename_i hsort
          split at hd
          · rename_i s hm
            cases hb : Nat.beq hs.length (Nat.succ dr.lo) with
            | false => rw [hb] at hd; cases hd
            | true =>
              rw [hb] at hd
              have hb' := Nat.eq_of_beq_eq_true hb
              exact go _ _ (by simp only [Rc.next, r, hsort, cond_true]) (by simp only [Rc.seen, r, hsort, cond_true, hm]) (fun _ => by show hs.length - 1 = dr.lo; omega) (by simp) hd
          · cases hd
        · rename_i h0 h1 h2'
          exact go _ ss (by simp only [Rc.next, r]) (by simp only [Rc.seen, r]) (fun h => absurd h h2') (by simp) hd
    | false =>
      rw [hw] at hd
      simp only [cond_false] at hd
      let r : Rc := ⟨o, dr, fr, h, hs.length - 1, false, .undef, fr, h⟩
      have hok : RcOk D ih r := ⟨hw.symm, fun hf => (by cases hf), fun _ => ⟨rfl, rfl, rfl⟩⟩
      have go : ∀ (hs1 : List H) (ss1 : List Seen), r.next hs = hs1 → r.seen ss = some ss1 → hs1 ≠ [] → ddraw D ih l (fr.put o.dst .undef) h hs1 ss1 = .nrm fr2 h2 →
          ∃ rs hs2 ss2, RunT D ih ((o, dr) :: l) fr h hs ss rs fr2 h2 hs2 ss2 ∧ (ss2.all (seenOk hs2)) = true := by
        intro hs1 ss1 e1 e2 hn hrun
        obtain ⟨rs, hs2, ss2, q1, q2⟩ := ih' _ _ hs1 ss1 fr2 h2 hn hrun
        exact ⟨r :: rs, hs2, ss2, .cons r l hs ss ss1 rs fr2 h2 hs2 ss2 hok hlen e2 (fun _ h => by cases h) (by rw [e1]; exact q1), q2⟩
      rw [beq_dec] at hd
      by_cases hsort : o.op.sort = 3
      · simp only [hsort, decide_true, cond_true] at hd
        exact go _ ss (by simp only [Rc.next, r, hsort]) (by simp only [Rc.seen, r, hsort]) (by simp) hd
      · simp only [hsort, decide_false, cond_false] at hd
        have hlt : o.op.sort ≤ 3 := by cases o.op <;> simp [DOp.sort]
        have h012 : o.op.sort = 0 ∨ o.op.sort = 1 ∨ o.op.sort = 2 := by omega
        rcases h012 with h0 | h0 | h0
        · exact go hs ss (by simp only [Rc.next, r, h0]) (by simp only [Rc.seen, r, h0]) hne hd
        · exact go hs ss (by simp only [Rc.next, r, h0]) (by simp only [Rc.seen, r, h0, cond_false]) hne hd
        · exact go hs ss (by simp only [Rc.next, r, h0, cond_false]) (by simp only [Rc.seen, r, h0, cond_false]) hne hd
end Go.Dm

namespace Go.Dm

section
variable {E : Ti} {P : Program} {w : World}
/-- a variable is made: here -/
theorem alloc_run (hE : E.Ok P) {e : Nat} {z : DV} (hz : zero E e = some z) : ∃ c0 : List Value, (Instr.alloc e true (.tuple #[])).run P w = .ok (.pointer (some ⟨w.heap.size, 0, none⟩)) (w.alloc (.cells c0.toArray e)) ∧ (∀ β, VRs β z.cells c0) ∧ ∀ v ∈ c0, v.oneCell' = true := by
  obtain ⟨i, zv, h1, h2, h3, h4⟩ := hE.zero hz
  refine ⟨zv.cells.toList, ?_, fun β => (h3 β).cells, (h3 (fun _ => none)).cells_one h4⟩
  simp only [Instr.alloc, Sem.run_bind, run_zeroValue' w h1 h2, Result.andThen_ok, newVar, newRow, run_newObj, Sem.run_pure, Array.toArray_toList]
  rfl
/-- a row is made: here -/
theorem mkSlice_run (hE : E.Ok P) {t e n b : Nat} {z : DV} (ht : E.und t = some (.slice e)) (hs : E.size e = some n) (hb : E.bytes e = some b) (hz : zero E e = some z) (hn : n = z.cells.length) (hn0 : n ≠ 0)
    {l' c' : Int} (k1 : 0 ≤ l') (k2 : l' ≤ c') (k3 : (b : Int) * c' ≤ 35184372088832) (k5 : c' ≤ 35184372088832) :
    ∃ c0 : List Value, (Instr.makeSlice t (.int .i64 l') (.int .i64 c')).run P w = .ok (.slice (some ⟨w.heap.size, 0, none⟩) l'.toNat c'.toNat) (w.alloc (.cells c0.toArray e)) ∧ (∀ β, VRs β (rep c'.toNat z.cells) c0) ∧ ∀ v ∈ c0, v.oneCell' = true := by
  obtain ⟨i, zv, hzr⟩ := hE.zeroR hz hs hn
  obtain ⟨j, g1, g2⟩ := hE.bytes hb
  rw [hzr.info] at g1; cases g1
  refine ⟨zrep c'.toNat zv.cells.toList, ?_, fun β => rep_vrs (hzr.vrs β) _, zrep_one hzr.one _⟩
  have w1 := wrap64 (n := l') (by omega) (by omega)
  have w2 := wrap64 (n := c') (by omega) (by omega)
  have t1 : (decide (c' < 0) || decide ((b : Int) * c' > 2 ^ 48)) = false := by
    rw [Bool.or_eq_false_iff]; refine ⟨by simp; omega, ?_⟩
    have : ¬ ((b : Int) * c' > 281474976710656) := by omega
    simpa using this
  have hcond2 : ((decide (c' < 0) || decide ((b : Int) * c' > 2 ^ 48)) || decide (l' < 0) || decide (l' > c')) = false := by
    rw [t1]; simp; omega
  simp only [Instr.makeSlice, Sem.run_bind, hE.run_und w ht, Result.andThen_ok, asInt, asIntOf, Sem.run_pure, run_typeInfo' w hzr.info, g2, w1, w2]
  rw [if_neg (by rw [hcond2]; simp)]
  simp only [Sem.run_bind, run_askRoom, Result.andThen_ok, run_sizeOf' w hzr.info, hzr.size]
  split
  · rename_i h0
    have : c'.toNat = 0 := by
      rcases Nat.mul_eq_zero.1 h0 with h | h
      · exact h
      · exact absurd h hn0
    simp only [Sem.run_bind, Sem.run_pure, Result.andThen_ok, newRow, run_newObj, this, Nat.zero_mul, zrep]
    have hr0 : (Array.range 0).map (fun x => (#[] : Array Value)[x % (#[] : Array Value).size]!) = [].toArray := by simp
    rw [hr0]
    rfl
  · simp only [Sem.run_bind, run_zeroValue' w hzr.info hzr.zero, Result.andThen_ok, newRow, run_newObj, Sem.run_pure, zeros zv.cells c'.toNat _ (by rw [hzr.len])]
    rfl
end
end Go.Dm

namespace Go.Dm

def N.plain : N → Bool
  | .fail => true
  | .val _ _ => true
  | _ => false
theorem plain_valO (o : Option DV) (h : H) : (valO o h).plain = true := by cases o <;> rfl
theorem dop_plain {o : DOp} (hs : o.sort ≠ 3) (ev : Ev) (h : H) : (dop o ev h).plain = true := by
  cases o
  case mv => rfl
  case pick c a b =>
    show (oPick c a b ev h).plain = true
    unfold oPick; split <;> rfl
  case alloc => rfl
  case build => exact plain_valO _ _
  case load1 a =>
    show (oLoad1 a ev h).plain = true
    unfold oLoad1; split <;> first | rfl | exact plain_valO _ _
  case loadN n a =>
    show (oLoadN n a ev h).plain = true
    unfold oLoadN; split <;> first | rfl | exact plain_valO _ _
  case nilc x =>
    show (oNilc x ev h).plain = true
    unfold oNilc; split <;> rfl
  case bin => exact plain_valO _ _
  case eqN => exact plain_valO _ _
  case eqA => exact plain_valO _ _
  case un op x =>
    show (oUn op x ev h).plain = true
    unfold oUn; split <;> rfl
  case toInt k x =>
    show (oToInt k x ev h).plain = true
    unfold oToInt; split <;> rfl
  case toStr x =>
    show (oToStr x ev h).plain = true
    unfold oToStr; split <;> first | rfl | exact plain_valO _ _
  case same x =>
    show (oSame x ev h).plain = true
    unfold oSame; split <;> rfl
  case mkI => rfl
  case mkF => rfl
  case mapGet p z ok m k =>
    show (oMapGet p z ok m k ev h).plain = true
    unfold oMapGet
    simp only
    split
    · rfl
    · split
      · rfl
      · split
        · split <;> rfl
        · rfl
      · rfl
  case mkSlice e sz by_ z l c =>
    show (oMkSlice e sz by_ z l c ev h).plain = true
    unfold oMkSlice; split
    · split <;> rfl
    · rfl
  case slStr x lo hi =>
    show (oSlStr x lo hi ev h).plain = true
    unfold oSlStr; split
    · split
      · split <;> rfl
      · rfl
    · rfl
  case slSl => exact plain_valO _ _
  case slArr n sz x lo hi mx =>
    show (oSlArr n sz x lo hi mx ev h).plain = true
    unfold oSlArr; split <;> first | rfl | exact plain_valO _ _
  case fldA off x =>
    show (oFldA off x ev h).plain = true
    unfold oFldA; split <;> rfl
  case fldV off n ag x =>
    show (oFldV off n ag x ev h).plain = true
    unfold oFldV; split <;> first | rfl | exact plain_valO _ _
  case idxA len sz x i =>
    show (oIdxA len sz x i ev h).plain = true
    unfold oIdxA; split
    · unfold ptrO; split <;> rfl
    · rfl
  case idxS sz x i =>
    show (oIdxS sz x i ev h).plain = true
    unfold oIdxS; split
    · unfold ptrO; split <;> rfl
    · rfl
  case idxV len sz ag x i =>
    show (oIdxV len sz ag x i ev h).plain = true
    unfold oIdxV; split
    · split <;> first | rfl | exact plain_valO _ _
    · rfl
  case idxStr x i =>
    show (oIdxStr x i ev h).plain = true
    unfold oIdxStr; split
    · split <;> first | rfl | exact plain_valO _ _
    · rfl
  case ext i x =>
    show (oExt i x ev h).plain = true
    unfold oExt; split <;> first | rfl | exact plain_valO _ _
  case tas t z x =>
    show (oTas t z x ev h).plain = true
    unfold oTas; split <;> rfl
  case len => exact plain_valO _ _
  case lenA => rfl
  case cap x =>
    show (oCap x ev h).plain = true
    unfold oCap; split <;> rfl
  case minI x y =>
    show (oMinI x y ev h).plain = true
    unfold oMinI; split <;> rfl
  case maxI x y =>
    show (oMaxI x y ev h).plain = true
    unfold oMaxI; split <;> rfl
  case sdata x =>
    show (oSdata x ev h).plain = true
    unfold oSdata; split
    · rfl
    · split <;> rfl
    · rfl
  all_goals exact absurd rfl hs

section
variable {D : Env} {ih : Ih}
theorem dstep_plain {o : DOp} {ev : Ev} {fr fr' : Fr} {h h' : H} {v : DV} (hs : o.sort ≠ 3) (hd : dstep D ih o ev fr h = .val v fr' h') : dop o ev h = .val v h' ∧ fr' = fr := by
  have hp := dop_plain hs ev h
  unfold dstep nxt at hd
  cases hn : dop o ev h with
  | fail => rw [hn] at hd; cases hd
  | val v2 h2 => rw [hn] at hd; cases hd; exact ⟨rfl, rfl⟩
  | _ => rw [hn] at hp; cases hp
theorem dstep_keep {o : DOp} {ev : Ev} {fr fr' : Fr} {h h' : H} {v : DV} (hd : dstep D ih o ev fr h = .val v fr' h') : fr'.tm = fr.tm ∧ fr'.fn = fr.fn ∧ fr'.n = fr.n ∧ fr'.ro = fr.ro := by
  unfold dstep nxt at hd
  cases hn : dop o ev h with
  | fail => rw [hn] at hd; cases hd
  | val v2 h2 => rw [hn] at hd; cases hd; exact ⟨rfl, rfl, rfl, rfl⟩
  | call f args h2 =>
    rw [hn] at hd
    change backR fr (callF D ih f args fr h2) = .val v fr' h' at hd
    cases hc : callF D ih f args fr h2 with
    | fin e rc h3 =>
      rw [hc] at hd
      change backE fr h3 e = .val v fr' h' at hd
      cases e with
      | ret v2 => cases hd; exact ⟨rfl, rfl, rfl, rfl⟩
      | panic v2 => cases hd
    | _ => rw [hc] at hd; cases hd
  | defer f args h2 =>
    rw [hn] at hd
    change nxDefer fr f args h2 = .val v fr' h' at hd
    unfold nxDefer at hd
    split at hd
    · cases hd; cases fr; exact ⟨rfl, rfl, rfl, rfl⟩
    · cases hd
  | recover h2 =>
    rw [hn] at hd
    change nxRecover fr h2 = .val v fr' h' at hd
    unfold nxRecover at hd
    split at hd
    · split at hd
      · cases hd; cases fr; exact ⟨rfl, rfl, rfl, rfl⟩
      · cases hd; exact ⟨rfl, rfl, rfl, rfl⟩
    · cases hd
  | panic v2 h2 => rw [hn] at hd; cases hd
theorem sort2 {o : DOp} (hs : o.sort = 2) {ev : Ev} {h h' : H} {v : DV} (hd : dop o ev h = .val v h') : ∃ cs e, h' = h.new (.cells cs e false) := by
  cases o with
  | alloc z e => cases hd; exact ⟨_, _, rfl⟩
  | mkSlice e sz by_ z l c =>
    have hd : oMkSlice e sz by_ z l c ev h = .val v h' := hd
    unfold oMkSlice at hd
    split at hd
    · split at hd
      · cases hd; exact ⟨_, _, rfl⟩
      · cases hd
    · cases hd
  | _ => cases hs
end

/-! ### What a trace says -/
noncomputable def putM (tm : T DV) (dst : Option Pth) (v : DV) : T DV := Option.rec tm (fun d => tm.set d (some v)) dst
theorem put_tm (fr : Fr) (dst : Option Pth) (v : DV) : (fr.put dst v).tm = putM fr.tm dst v := by cases dst <;> cases fr <;> rfl
def Rc.mk2 (r : Rc) : Prop := r.od.op.sort = 2 ∧ r.w = true
/-- a frame but for its slots -/
structure Core where
  fn : Nat
  n : Nat
  df : List DDef
  rc : Option DV
  ro : Option Nat
def Fr.core (fr : Fr) : Core := ⟨fr.fn, fr.n, fr.df, fr.rc, fr.ro⟩
theorem core_put (fr : Fr) (dst : Option Pth) (v : DV) : (fr.put dst v).core = fr.core := by cases dst <;> cases fr <;> rfl
structure Seg (a g : H) : Prop where
  get : ∀ d, d < a.nx → g.get d = a.get d
  nx : a.nx ≤ g.nx
theorem Seg.refl (a : H) : Seg a a := ⟨fun _ _ => rfl, Nat.le_refl _⟩
noncomputable def replay (tm : T DV) : List Rc → T DV
  | [] => tm
  | r :: rs => replay (putM tm r.od.dst r.v) rs

section
variable {D : Env} {ih : Ih}
theorem RunT.seen {l : List (DOper × Draw)} {fr : Fr} {h : H} {hs : List H} {ss : List Seen} {rs : List Rc} {fr2 : Fr} {h2 : H} {hs2 : List H} {ss2 : List Seen} (hr : RunT D ih l fr h hs ss rs fr2 h2 hs2 ss2) :
    (∀ s ∈ ss, s ∈ ss2) ∧ l = rs.map (fun r => (r.od, r.dr)) ∧ (∀ r ∈ rs, RcOk D ih r) ∧ (∀ r ∈ rs, r.od.op.sort = 1 → r.w = true → Seen.look r.od.op r.fr r.v r.dr ∈ ss2) ∧
    (∀ r ∈ rs, r.mk2 → r.c = r.dr.lo ∧ ∃ cs e, r.h' = r.h.new (.cells cs e false) ∧ Seen.made r.h.nx cs e r.dr ∈ ss2) := by
  induction hr with
  | nil => exact ⟨fun s h => h, rfl, fun r h => absurd h (by simp), fun r h => absurd h (by simp), fun r h => absurd h (by simp)⟩
  | cons r l hs ss ss1 rs fr2 h2 hs2 ss2 hok hc hss hlo hrun ih' =>
    obtain ⟨q1, q2, q3, q4, q5⟩ := ih'
    have hsub : ∀ s ∈ ss, s ∈ ss1 := by
      intro s hs'
      unfold Rc.seen at hss
      split at hss
      · cases hss; exact hs'
      · cases hw : r.w with
        | true => rw [hw] at hss; cases hss; exact List.mem_cons_of_mem _ hs'
        | false => rw [hw] at hss; cases hss; exact hs'
      · cases hw : r.w with
        | true =>
          rw [hw] at hss
          simp only [cond_true] at hss
          split at hss
          · cases hss; exact List.mem_cons_of_mem _ hs'
          · cases hss
        | false => rw [hw] at hss; cases hss; exact hs'
      · cases hss; exact hs'
    refine ⟨fun s h => q1 s (hsub s h), by rw [q2]; rfl, fun r' hr' => ?_, fun r' hr' h1 h2 => ?_, fun r' hr' hm => ?_⟩
    · rcases List.mem_cons.1 hr' with rfl | hr'
      · exact hok
      · exact q3 r' hr'
    · rcases List.mem_cons.1 hr' with rfl | hr'
      · refine q1 _ ?_
        simp only [Rc.seen, h1, h2, cond_true] at hss
        cases hss
        exact List.mem_cons_self ..
      · exact q4 r' hr' h1 h2
    · rcases List.mem_cons.1 hr' with rfl | hr'
      · obtain ⟨h1, h2⟩ := hm
        refine ⟨hlo h1 h2, ?_⟩
        have hd := hok.yes h2
        obtain ⟨hd1, -⟩ := dstep_plain (by rw [h1]; decide) hd
        obtain ⟨cs, e, he⟩ := sort2 h1 hd1
        refine ⟨cs, e, he, q1 _ ?_⟩
        have hg : r'.h'.get r'.h.nx = some (.cells cs e false) := by rw [he]; exact H.get_new _ _
        simp only [Rc.seen, h1, h2, cond_true, madeS, hg] at hss
        cases hss
        exact List.mem_cons_self ..
      · exact q5 r' hr' hm

/-- heaps and frames by how many effects lie behind -/
structure Tr (fr : Fr) (h : H) (tl : List H) (rs : List Rc) (fr2 : Fr) (h2 : H) (hs2 : List H) (hF : Nat → H) (cF : Nat → Core) : Prop where
  len : hs2.length = tl.length + 1 + rs.countP (fun r => r.od.op.sort == 3)
  old : ∀ i, i < tl.length → hs2.reverse[i]? = tl.reverse[i]?
  at_ : ∀ i, tl.length ≤ i → i < hs2.length → hs2.reverse[i]? = some (hF i)
  seg : Seg h (hF tl.length)
  fst : ∀ r ∈ rs, r.mk2 → r.c = tl.length → h.nx ≤ r.h.nx ∧ r.h.nx < (hF r.c).nx
  ge : ∀ r ∈ rs, tl.length ≤ r.c ∧ r.c < hs2.length
  eff : ∀ r ∈ rs, r.od.op.sort = 3 → hF r.c = r.h ∧ Seg r.h' (hF (r.c + 1)) ∧ r.fr'.core = cF (r.c + 1) ∧ ∀ r' ∈ rs, r'.mk2 → r'.c = r.c + 1 → r.h'.nx ≤ r'.h.nx ∧ r'.h.nx < (hF r'.c).nx
  dis : rs.Pairwise (fun r r' => r.mk2 → r'.mk2 → r.c = r'.c → r.h.nx ≠ r'.h.nx)
  core0 : cF tl.length = fr.core
  coreR : ∀ r ∈ rs, r.fr.core = cF r.c
  core2 : fr2.core = cF (hs2.length - 1)
  end_ : h2 = hF (hs2.length - 1)

theorem getLast_rev {α : Type} (tl : List α) (h : α) : (h :: tl).reverse[tl.length]? = some h := by
  simp
theorem RunT.tr {l : List (DOper × Draw)} {fr : Fr} {h : H} {hs : List H} {ss : List Seen} {rs : List Rc} {fr2 : Fr} {h2 : H} {hs2 : List H} {ss2 : List Seen} (hr : RunT D ih l fr h hs ss rs fr2 h2 hs2 ss2) :
    ∀ tl, hs = h :: tl → ∃ hF cF, Tr fr h tl rs fr2 h2 hs2 hF cF := by
  induction hr with
  | nil fr h hs ss =>
    intro tl he
    subst he
    refine ⟨fun _ => h, fun _ => fr.core, by simp, fun i hi => ?_, fun i h1 h2 => ?_, Seg.refl h, fun r h => absurd h (by simp), fun r h => absurd h (by simp), fun r h => absurd h (by simp), .nil, rfl, fun r h => absurd h (by simp), rfl, rfl⟩
    · rw [List.reverse_cons, List.getElem?_append_left (by simpa using hi)]
    · have : i = tl.length := by simp at h2; omega
      subst this
      exact getLast_rev tl h
  | cons r l hs ss ss1 rs fr2 h2 hs2 ss2 hok hc hss hlo hrun ih' =>
    intro tl he
    have hcl : r.c = tl.length := by rw [he] at hc; simpa using hc
    have hcp : (r.fr'.put r.od.dst r.v).core = r.fr'.core := core_put _ _ _
    by_cases h3 : r.od.op.sort = 3
    · -- an effect
      have hn : r.next hs = r.h' :: (r.h :: tl) := by simp only [Rc.next, h3, he]
      obtain ⟨hF, cF, t⟩ := ih' (r.h :: tl) hn
      have hl1 : (r.h :: tl).length = tl.length + 1 := rfl
      let hF' : Nat → H := fun i => if i = tl.length then r.h else hF i
      let cF' : Nat → Core := fun i => if i = tl.length then r.fr.core else cF i
      have hFn : ∀ i, i ≠ tl.length → hF' i = hF i := fun i hi => if_neg hi
      have cFn : ∀ i, i ≠ tl.length → cF' i = cF i := fun i hi => if_neg hi
      have hlen := t.len
      have hge : ∀ r' ∈ rs, tl.length + 1 ≤ r'.c := fun r' h => (t.ge r' h).1
      refine ⟨hF', cF', ?_, fun i hi => ?_, fun i h1 h2 => ?_, ?_, fun r' h' hm hc' => ?_, fun r' h' => ?_, fun r' h' hs3 => ?_, ?_, ?_, fun r' h' => ?_, ?_, ?_⟩
      · rw [hlen, hl1, List.countP_cons]; simp [h3]; omega
      · rw [t.old i (by rw [hl1]; omega), List.reverse_cons, List.getElem?_append_left (by simpa using hi)]
      · by_cases e : i = tl.length
        · subst e
          rw [t.old _ (by rw [hl1]; omega), getLast_rev]
          simp [hF']
        · rw [t.at_ i (by rw [hl1]; omega) h2, hFn i e]
      · simp only [hF', if_pos]; exact Seg.refl _
      · rcases List.mem_cons.1 h' with rfl | h'
        · have := hm.1; rw [h3] at this; cases this
        · have := hge r' h'; omega
      · rcases List.mem_cons.1 h' with rfl | h'
        · rw [hlen, hl1]; omega
        · have := t.ge r' h'; rw [hl1] at this; omega
      · rcases List.mem_cons.1 h' with rfl | h'
        · have hseg := t.seg
          rw [hl1] at hseg
          have hc1 : r'.c + 1 ≠ tl.length := by omega
          refine ⟨by simp [hF', hcl], ?_, ?_, fun r2 h2 hm hc2 => ?_⟩
          · rw [hFn _ hc1, hcl]; exact hseg
          · rw [cFn _ hc1, hcl]; have := t.core0; rw [hl1, hcp] at this; exact this.symm
          · rcases List.mem_cons.1 h2 with rfl | h2
            · have := hm.1; rw [h3] at this; cases this
            · have := t.fst r2 h2 hm (by rw [hl1]; omega)
              rw [hFn _ (by omega)]; exact this
        · obtain ⟨e1, e2, e3, e4⟩ := t.eff r' h' hs3
          have g1 := hge r' h'
          refine ⟨by rw [hFn _ (by omega)]; exact e1, by rw [hFn _ (by omega)]; exact e2, by rw [cFn _ (by omega)]; exact e3, fun r2 h2 hm hc2 => ?_⟩
          rcases List.mem_cons.1 h2 with rfl | h2
          · have := hm.1; rw [h3] at this; cases this
          · rw [hFn _ (by omega)]; exact e4 r2 h2 hm hc2
      · exact .cons (fun r' _ hm => by have := hm.1; rw [h3] at this; cases this) t.dis
      · simp [cF']
      · rcases List.mem_cons.1 h' with rfl | h'
        · simp [cF', hcl]
        · rw [cFn _ (by have := hge r' h'; omega)]; exact t.coreR r' h'
      · rw [cFn _ (by rw [hlen, hl1]; omega)]; exact t.core2
      · rw [hFn _ (by rw [hlen, hl1]; omega)]; exact t.end_
    · -- no effect: the heap that lies on top is put in its place
      have hcore : r.fr'.core = r.fr.core := by
        cases hw : r.w with
        | true => obtain ⟨-, e⟩ := dstep_plain h3 (hok.yes hw); rw [e]
        | false => rw [(hok.no hw).2.1]
      have key : r.next hs = r.h' :: tl ∧ Seg r.h r.h' ∧ (r.mk2 → r.h'.nx = r.h.nx + 1) := by
        by_cases hm : r.mk2
        · obtain ⟨h1, h2⟩ := hm
          have hd := hok.yes h2
          obtain ⟨hd1, -⟩ := dstep_plain h3 hd
          obtain ⟨cs, e, he'⟩ := sort2 h1 hd1
          refine ⟨by simp only [Rc.next, h1, h2, cond_true, he, List.tail_cons], ⟨fun d hd => ?_, ?_⟩, fun _ => ?_⟩
          · rw [he']; exact H.get_new_ne _ _ (by omega)
          · rw [he', H.nx_new]; omega
          · rw [he', H.nx_new]
        · have hh : r.h' = r.h := by
            cases hw : r.w with
            | false => exact (hok.no hw).2.2
            | true =>
              obtain ⟨hd1, -⟩ := dstep_plain h3 (hok.yes hw)
              have hlt : r.od.op.sort ≤ 3 := by cases r.od.op <;> simp [DOp.sort]
              have h2 : r.od.op.sort ≠ 2 := fun h => hm ⟨h, hw⟩
              have h01 : r.od.op.sort = 0 ∨ r.od.op.sort = 1 := by omega
              rcases h01 with h0 | h0
              · exact (sort0 h0 hd1).1
              · exact sort1 h0 hd1
          refine ⟨?_, by rw [hh]; exact Seg.refl _, fun h => absurd h hm⟩
          have hlt : r.od.op.sort ≤ 3 := by cases r.od.op <;> simp [DOp.sort]
          have h012 : r.od.op.sort = 0 ∨ r.od.op.sort = 1 ∨ r.od.op.sort = 2 := by omega
          rcases h012 with h0 | h0 | h0
          · simp only [Rc.next, h0, he, hh]
          · simp only [Rc.next, h0, he, hh]
          · cases hw : r.w with
            | false => simp only [Rc.next, h0, hw, he, hh, cond_false]
            | true => exact absurd ⟨h0, hw⟩ hm
      obtain ⟨hn, hsg, hmk⟩ := key
      obtain ⟨hF, cF, t⟩ := ih' tl hn
      have hlen := t.len
      refine ⟨hF, cF, ?_, t.old, t.at_, ⟨fun d hd => ?_, Nat.le_trans hsg.nx t.seg.nx⟩, fun r' h' hm hc' => ?_, fun r' h' => ?_, fun r' h' hs3 => ?_, ?_, ?_, fun r' h' => ?_, t.core2, t.end_⟩
      · rw [hlen, List.countP_cons]; simp [h3]
      · rw [t.seg.get d (by have := hsg.nx; omega), hsg.get d hd]
      · rcases List.mem_cons.1 h' with rfl | h'
        · refine ⟨Nat.le_refl _, ?_⟩
          have h1 := hmk hm
          have h2 := t.seg.nx
          rw [hc']; omega
        · have := t.fst r' h' hm hc'
          have h2 := hsg.nx
          exact ⟨by omega, this.2⟩
      · rcases List.mem_cons.1 h' with rfl | h'
        · rw [hlen]; omega
        · exact t.ge r' h'
      · rcases List.mem_cons.1 h' with rfl | h'
        · exact absurd hs3 h3
        · obtain ⟨e1, e2, e3, e4⟩ := t.eff r' h' hs3
          have hge := (t.ge r' h').1
          refine ⟨e1, e2, e3, fun r2 h2 hm hc2 => ?_⟩
          rcases List.mem_cons.1 h2 with e | h2
          · rw [e, hcl] at hc2; omega
          · exact e4 r2 h2 hm hc2
      · refine .cons (fun r' h' hm hm' hcc => ?_) t.dis
        have h1 := hmk hm
        have := t.fst r' h' hm' (by omega)
        omega
      · rw [t.core0, hcp, hcore]
      · rcases List.mem_cons.1 h' with rfl | h'
        · rw [hcl, t.core0, hcp, hcore]
        · exact t.coreR r' h'
theorem RunT.tms {l : List (DOper × Draw)} {fr : Fr} {h : H} {hs : List H} {ss : List Seen} {rs : List Rc} {fr2 : Fr} {h2 : H} {hs2 : List H} {ss2 : List Seen} (hr : RunT D ih l fr h hs ss rs fr2 h2 hs2 ss2) :
    fr2.tm = replay fr.tm rs ∧ ∀ (pre : List Rc) (r : Rc) (post : List Rc), rs = pre ++ r :: post → r.fr.tm = replay fr.tm pre := by
  induction hr with
  | nil => exact ⟨rfl, fun pre r post h => by simp at h⟩
  | cons r l hs ss ss1 rs fr2 h2 hs2 ss2 hok hc hss hlo hrun ih' =>
    have htm : (r.fr'.put r.od.dst r.v).tm = putM r.fr.tm r.od.dst r.v := by
      rw [put_tm]
      cases hw : r.w with
      | true => rw [(dstep_keep (hok.yes hw)).1]
      | false => rw [(hok.no hw).2.1]
    obtain ⟨q1, q2⟩ := ih'
    rw [htm] at q1 q2
    refine ⟨q1, fun pre r' post he => ?_⟩
    cases pre with
    | nil => simp at he; rw [← he.1]; rfl
    | cons a pre =>
      simp at he
      obtain ⟨rfl, he⟩ := he
      exact q2 pre r' post he
end
end Go.Dm
