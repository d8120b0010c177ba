/- Functions whose runs are known: they stand as externs, and leave nothing behind. -/
import Derived.Test.YtbmcloahjiimeaaGreatDoorDmQc
import Derived.Test.YtbmcloahjiimeaaGreatDoorDmX1
set_option linter.all false
namespace Go.Dm
open Go.RowKit (Below)

theorem toNat_map_inj : ∀ {a b : List UInt8}, a.map UInt8.toNat = b.map UInt8.toNat → a = b
  | [], [], _ => rfl
  | [], _ :: _, h => by simp at h
  | _ :: _, [], h => by simp at h
  | x :: a, y :: b, h => by
    simp only [List.map_cons, List.cons.injEq] at h
    rw [UInt8.toNat_inj.1 h.1, toNat_map_inj h.2]
theorem bytes_inj {s t : ByteArray} (h : s.data.toList.map UInt8.toNat = t.data.toList.map UInt8.toNat) : s = t := by
  have := toNat_map_inj h
  cases s; cases t
  simp only [Array.toList_inj] at this
  rw [this]

mutual
/-- what stands for a value is one -/
theorem VR.fn {β : Bt} : {d : DV} → {v v' : Value} → VR β d v → VR β d v' → v = v'
  | _, _, _, .bool b, h => by cases h; rfl
  | _, _, _, .int k n, h => by cases h; rfl
  | _, _, v', .str s, h => by
    generalize hx : DV.str (s.data.toList.map UInt8.toNat) = x at h
    cases h with
    | str t => simp only [DV.str.injEq] at hx; rw [bytes_inj hx]
    | _ => cases hx
  | _, _, _, .ptrN, h => by cases h; rfl
  | _, _, _, .ptr d o L e, h => by cases h with | ptr _ _ L' e' => rw [e] at e'; cases e'; rfl
  | _, _, _, .sliceN op, h => by cases h; rfl
  | _, _, _, .sliceC d o l c L e, h => by cases h with | sliceC _ _ _ _ L' e' => rw [e] at e'; cases e'; rfl
  | _, _, _, .sliceO d o l c L e, h => by cases h with | sliceO _ _ _ _ L' e' => rw [e] at e'; cases e'; rfl
  | _, _, _, .sliceZ d o a L e hx, h => by cases h with
    | sliceZ _ _ _ L' e' hx' => rw [e] at e'; cases e'; rfl
    | sliceZ0 _ _ _ L' e' hx' => rw [e] at e'; cases e'; exact absurd hx' hx
  | _, _, _, .sliceZ0 d o a L e hx, h => by cases h with
    | sliceZ _ _ _ L' e' hx' => rw [e] at e'; cases e'; exact absurd hx hx'
    | sliceZ0 _ _ _ L' e' hx' => rw [e] at e'; cases e'; rfl
  | _, _, _, .mapN, h => by cases h; rfl
  | _, _, _, .map d L e, h => by cases h with | map _ L' e' => rw [e] at e'; cases e'; rfl
  | _, _, _, .func f a b a' b' x y, h => by cases h with | func _ _ _ a2 b2 x2 y2 => rw [VRs.fn x x2, VRs.fn y y2]
  | _, _, _, .yield l L e, h => by cases h with | yield _ L' e' => rw [e] at e'; cases e'; rfl
  | _, _, _, .nilFunc, h => by cases h; rfl
  | _, _, _, .iface t v v1 e, h => by cases h with | iface _ _ v2 e2 => rw [VR.fn e e2]
  | _, _, _, .nilIface, h => by cases h; rfl
  | _, _, _, .agg l l' e h1, h => by cases h with | agg _ l2 e2 _ => rw [VRs.fn e e2]
  | _, _, _, .tuple l l' e, h => by cases h with | tuple _ l2 e2 => rw [VRs.fn e e2]
theorem VRs.fn {β : Bt} : {d : List DV} → {v v' : List Value} → VRs β d v → VRs β d v' → v = v'
  | _, _, _, .nil, h => by cases h; rfl
  | _, _, _, .cons v v1 l l1 e es, h => by cases h with | cons _ v2 _ l2 e2 es2 => rw [VR.fn e e2, VRs.fn es es2]
end
theorem VR.back {β β2 : Bt} (hle : β.le β2) {d : DV} {v v2 : Value} (h : VR β d v) (h2 : VR β2 d v2) : v2 = v := VR.fn h2 (h.mono hle)

section
variable {E : Ti} {P : Program} {B : Bd} {β β2 : Bt} {w w2 : World} {L : Loc} {h h2 : H}
theorem EntsR.back (hle : β.le β2) : ∀ {l : List (DV × DV)} {es es2 : List MapEntry}, EntsR β l es → EntsR β2 l es2 → EntsR β l es2
  | [], [], [], _, _ => trivial
  | x :: l, e :: es, e2 :: es2, ⟨⟨h1, h2⟩, h3⟩, ⟨⟨g1, g2⟩, g3⟩ => ⟨⟨by rw [VR.back hle h1 g1]; exact h1, by rw [VR.back hle h2 g2]; exact h2⟩, EntsR.back hle h3 g3⟩
  | [], [], _ :: _, _, h => h.elim
  | [], _ :: _, _, h, _ => h.elim
  | _ :: _, [], _, h, _ => h.elim
  | _ :: _, _ :: _, [], _, h => h.elim
theorem ObjR.back (hle : β.le β2) {o : Obj} (h1 : ObjR E P B β w L o) (h2 : ObjR E P B β2 w2 L o) : ObjR E P B β w2 L o := by
  cases o with
  | cells cs e ro =>
    obtain ⟨⟨c, t, fz, a1, a2, a3⟩, a4, a5⟩ := h1
    obtain ⟨⟨c', t', fz', b1, b2, b3⟩, b4, b5⟩ := h2
    refine ⟨⟨c', t', fz', b1, fun i v hv => ?_, b3⟩, b4, b5⟩
    obtain ⟨v1, p1, p2, p3⟩ := a2 i v hv
    obtain ⟨v2, q1, q2, q3⟩ := b2 i v hv
    exact ⟨v2, q1, by rw [VR.back hle p2 q2]; exact p2, q3⟩
  | map es =>
    obtain ⟨a0, es1, c1, a1, a2⟩ := h1
    obtain ⟨b0, es2, c2, b1, b2⟩ := h2
    exact ⟨b0, es2, c2, b1, a2.back hle b2⟩
  | loop l =>
    obtain ⟨⟨q, m, a1, a2, a3, a4, a5, a6, a7, a8, a9, a10, D, a11, a12⟩, a0⟩ := h1
    obtain ⟨⟨q', m', b1, b2, b3, b4, b5, b6, b7, b8, b9, b10, D', b11, b12⟩, b0⟩ := h2
    refine ⟨⟨q', m', b1, b2, b3, b4, b5, ⟨b6.size, fun t ht => ?_⟩, b7, b8, b9, b10, D, a11, ?_⟩, b0⟩
    · obtain ⟨F, c, f1, f2, f3, f4⟩ := a2.ex
      obtain ⟨F', c', g1, g2, g3, g4⟩ := b2.ex
      rw [f1] at g1; cases g1
      rw [f2] at g2; cases g2
      have hm : m = m' := by rw [f4, g4]
      subst hm
      have p1 := a6.get t ht
      have p2 := b6.get t ht
      rw [VR.back hle p1 p2]; exact p1
    · have := hle _ _ a11
      rw [this] at b11; cases b11; exact b12
  | dfr => exact h2
/-- more blocks, the old ones as they were -/
structure Sub (h h2 : H) : Prop where
  nx : h.nx ≤ h2.nx
  get : ∀ d, d < h.nx → h2.get d = h.get d
theorem Sub.refl (h : H) : Sub h h := ⟨Nat.le_refl _, fun _ _ => rfl⟩
theorem Sub.trans {h h2 h3 : H} (a : Sub h h2) (b : Sub h2 h3) : Sub h h3 := ⟨Nat.le_trans a.nx b.nx, fun d hd => by rw [b.get d (by have := a.nx; omega), a.get d hd]⟩
theorem Sub.new (h : H) (o : Obj) : Sub h (h.new o) := ⟨by rw [H.nx_new]; omega, fun d hd => H.get_new_ne _ _ (by omega)⟩
theorem Sub.put {h h2 : H} (s : Sub h h2) {d : Nat} (hd : h.nx ≤ d) (o : Obj) : Sub h (h2.put d o) := ⟨by rw [H.nx_put]; exact s.nx, fun k hk => by rw [H.get_put_ne _ _ (by omega)]; exact s.get k hk⟩
theorem Sub.kill {h h2 : H} (s : Sub h h2) {d : Nat} (hd : h.nx ≤ d) : Sub h (h2.kill d) := ⟨by rw [H.nx_kill]; exact s.nx, fun k hk => by rw [H.get_kill_ne _ (by omega)]; exact s.get k hk⟩
theorem HR.lt (hr : HR E P B β h w) {d : Nat} (hd : β d = some L) : d < h.nx := by
  rcases Nat.lt_or_ge d h.nx with h1 | h1
  · exact h1
  · rw [hr.new d h1] at hd; cases hd
theorem HR.back (hr : HR E P B β h w) (hr2 : HR E P B β2 h2 w2) (hle : β.le β2) (hs : Sub h h2) : HR E P B β h w2 :=
  ⟨fun d L o h1 h3 => (hr.obj d L o h1 h3).back hle (hr2.obj d L o (hle _ _ h1) (by rw [hs.get d (hr.lt h1)]; exact h3)), hr.new, hr.apart, hr2.base, hr.glob, hr.ghost⟩
end

/-! ### What bears no address -/
def plain1 : DV → Bool
  | .bool _ | .int _ _ | .str _ | .ptr none | .slice none 0 0 _ | .map none | .nilFunc | .nilIface => true
  | _ => false
def plain2 : DV → Bool
  | .agg l => l.all plain1
  | v => plain1 v
def plain : DV → Bool
  | .agg l => l.all plain1
  | .tuple l => l.all plain2
  | v => plain1 v
theorem plain1_vr {β β2 : Bt} {d : DV} {v : Value} (hp : plain1 d = true) (h : VR β d v) : VR β2 d v := by
  cases h <;> first
    | (cases hp; done)
    | (constructor; done)
theorem all_vrs {β β2 : Bt} {q : DV → Bool} (hq : ∀ d v, q d = true → VR β d v → VR β2 d v) {l : List DV} : ∀ {l' : List Value}, l.all q = true → VRs β l l' → VRs β2 l l' := by
  induction l with
  | nil => intro l' _ h; cases h; exact .nil
  | cons x l ih =>
    intro l' hp h
    simp only [List.all_cons, Bool.and_eq_true] at hp
    cases h with
    | cons _ v' _ l' h hs => exact .cons _ _ _ _ (hq _ _ hp.1 h) (ih hp.2 hs)
theorem plain2_vr {β β2 : Bt} {d : DV} {v : Value} (hp : plain2 d = true) (h : VR β d v) : VR β2 d v := by
  cases h with
  | agg l l' h h1 => exact .agg _ _ (all_vrs (fun _ _ => plain1_vr) hp h) h1
  | _ => first
    | (cases hp; done)
    | exact plain1_vr (β := β) hp (by constructor <;> assumption)
theorem plain_vr {β β2 : Bt} {d : DV} {v : Value} (hp : plain d = true) (h : VR β d v) : VR β2 d v := by
  cases h with
  | agg l l' h h1 => exact .agg _ _ (all_vrs (fun _ _ => plain1_vr) hp h) h1
  | tuple l l' h => exact .tuple _ _ (all_vrs (fun _ _ => plain2_vr) hp h)
  | _ => first
    | (cases hp; done)
    | exact plain1_vr (β := β) hp (by constructor <;> assumption)

/-! ### Functions that stand as externs -/
abbrev Ext := List DV → H → Option (DV × H)
def Env.add (D : Env) (f : Nat) (g : Ext) : Env := ⟨D.fn, fun i => bif Nat.beq i f then some g else D.ext i⟩
/-- what a run is asked to be, for an answer: nothing is left behind, or one row that is returned -/
inductive Left1 (h h2 : H) : DV → DV → H → Prop where
  | none (v : DV) (hp : plain v = true) (hs : Sub h h2) : Left1 h h2 v v h
  | row (d e len cap : Nat) (op : Bool) (cs : List DV) (hs : Sub h h2) (hd : h.nx ≤ d) (hg : h2.get d = some (.cells cs e false)) (hp : cs.all plain1 = true) :
      Left1 h h2 (.slice (some (d, 0)) len cap op) (.slice (some (h.nx, 0)) len cap op) (h.new (.cells cs e false))
def Contract (D : Env) (f : Nat) (g : Ext) : Prop := ∀ args h v h', g args h = some (v, h') → ∀ fr : Fr, fr.rc = none → Wp D (.call f args) fr h fun r => ∃ v2 h2, r = .fin (.ret v2) none h2 ∧ Left1 h h2 v2 v h'

section
variable {E : Ti} {P : Program} {D : Env}
/-- an environment whose externs are sound, wherever -/
structure Sound (E : Ti) (P : Program) (D : Env) : Prop where
  ti : E.Ok P
  mixed : P.follows .mixedOrders = true
  fn : ∀ f F, D.fn f = some F → FnOk E P f F
  ext : ∀ B, ExtS E P B D
theorem CellsAt.plain {β β2 : Bt} {c : Array Value} {o : Nat} {cs : List DV} (hp : cs.all plain1 = true) (h : CellsAt β c o cs) : CellsAt β2 c o cs := fun i v hv => by
  obtain ⟨v', h1, h2, h3⟩ := h i v hv
  exact ⟨v', h1, plain1_vr (List.all_eq_true.1 hp v (List.mem_of_getElem? hv)) h2, h3⟩
theorem Sound.add {D' : Env} (S0 : Sound E P D') (S : Sound E P D) {f : Nat} {g : Ext} (hC : Contract D' f g) : Sound E P (D.add f g) := by
  refine ⟨S.ti, S.mixed, S.fn, fun B i g' hg' args h v h' hgg β w args' hr ha => ?_⟩
  have hg' : (bif Nat.beq i f then some g else D.ext i) = some g' := hg'
  rw [beq_dec] at hg'
  by_cases hi : i = f
  · subst hi
    simp only [decide_true, cond_true] at hg'
    cases hg'
    obtain ⟨r, ⟨n, hrun⟩, v2, h2, rfl, hl⟩ := hC args h v h' hgg fr0 rfl
    have hrun := hrun n (Nat.le_refl _)
    have hall := dex_all (B := B.b) S0.ti S0.mixed S0.fn (fun G => S0.ext ⟨B.b, G⟩) n B.G
    have hcall := fun (κ : Up) (hκ : κ.R β fr0.rc) => hall.call i args fr0 h (.ret v2) none h2 hrun β w κ args' hr ha hκ
    refine .inr ⟨(hcall (.normal []) rfl).1 w, fun cs => ?_⟩
    obtain ⟨-, β2, w2, κ2, frX, f1, f2, f3, f4, f5, -⟩ := hcall (.normal cs) rfl
    obtain rfl := f1.up.normal
    obtain ⟨e1, e2, e3, fn, v', e4, e5, e6⟩ := f5
    cases hl with
    | none _ hp hs =>
      exact ⟨β, w2, frX, Bt.le.refl β, f1.bl, hr.back f2 f1.le hs, f4, e1, e2, e3, fn, v', e4, e5, plain_vr hp e6⟩
    | row d e len cap op cs' hs hd hg hp =>
      obtain ⟨L, hL, hv⟩ : ∃ L, β2 d = some L ∧ v' = (match op with | false => .slice (some ⟨L.r, L.o, none⟩) len cap | true => .slice (some ⟨L.r, L.o, none⟩) len (cap + L.x)) := by
        cases e6 with
        | sliceC _ _ _ _ L hL => exact ⟨L, hL, by simp⟩
        | sliceO _ _ _ _ L hL => exact ⟨L, hL, by simp⟩
      have hb := hr.back f2 f1.le hs
      have hnew := hr.new h.nx (Nat.le_refl _)
      have hle : β.le (β.upd h.nx L) := Bt.le_upd hnew
      have ho2 := f2.obj d L _ hL hg
      have hne : ∀ k M, β k = some M → k ≠ d := fun k M hk e => by have := hr.lt hk; omega
      refine ⟨β.upd h.nx L, w2, frX, hle, f1.bl, ⟨fun k M o k1 k2 => ?_, fun k hk => ?_, fun k k' M M' o o' hn k1 k2 k3 k4 k5 k6 => ?_, hb.base, fun q hq => hle _ _ (hr.glob q hq), fun k hk => ?_⟩, f4, e1, e2, e3, fn, v', e4, e5, ?_⟩
      · by_cases ek : k = h.nx
        · subst ek
          rw [Bt.upd_self] at k1; cases k1
          rw [H.get_new] at k2; cases k2
          obtain ⟨⟨c, t, fz, q1, q2, q3⟩, q4, q5⟩ := ho2
          exact ⟨⟨c, t, fz, q1, q2.plain hp, q3⟩, q4, q5⟩
        · rw [Bt.upd_ne _ _ ek] at k1
          rw [H.get_new_ne _ _ ek] at k2
          exact (hb.obj k M o k1 k2).mono hle
      · rw [H.nx_new] at hk
        rw [Bt.upd_ne _ _ (by omega)]
        exact hr.new k (by omega)
      · by_cases ek : k = h.nx
        · subst ek
          rw [Bt.upd_self] at k1; cases k1
          rw [H.get_new] at k3; cases k3
          have ek' : k' ≠ h.nx := fun e => hn e.symm
          rw [Bt.upd_ne _ _ ek'] at k2
          rw [H.get_new_ne _ _ ek'] at k4
          exact f2.apart d k' L M' _ _ (hne k' M' k2).symm hL (f1.le _ _ k2) hg (by rw [hs.get _ (hr.lt k2)]; exact k4) rfl k6
        · rw [Bt.upd_ne _ _ ek] at k1
          rw [H.get_new_ne _ _ ek] at k3
          by_cases ek' : k' = h.nx
          · subst ek'
            rw [Bt.upd_self] at k2; cases k2
            rw [H.get_new] at k4; cases k4
            exact f2.apart k d M L _ _ (hne k M k1) (f1.le _ _ k1) hL (by rw [hs.get _ (hr.lt k1)]; exact k3) hg k5 rfl
          · rw [Bt.upd_ne _ _ ek'] at k2
            rw [H.get_new_ne _ _ ek'] at k4
            exact hr.apart k k' M M' o o' hn k1 k2 k3 k4 k5 k6
      · have := hr.ghost k hk
        rw [Bt.upd_ne _ _ (by omega), H.nx_new]; exact ⟨this.1, by omega⟩
      · rw [hv]
        cases op with
        | false => have := VR.sliceC (β := β.upd h.nx L) h.nx 0 len cap L (Bt.upd_self _ _ _); simpa using this
        | true => have := VR.sliceO (β := β.upd h.nx L) h.nx 0 len cap L (Bt.upd_self _ _ _); simpa using this
  · simp only [hi, decide_false, cond_false] at hg'
    exact S.ext B i g' hg' args h v h' hgg β w args' hr ha
theorem Sound.base {fn : Nat → Option DFunc} (h1 : E.Ok P) (h2 : P.follows .mixedOrders = true) (h3 : ∀ f F, fn f = some F → FnOk E P f F) : Sound E P ⟨fn, fun _ => none⟩ :=
  ⟨h1, h2, h3, fun B i g hg => by cases hg⟩
end
end Go.Dm
