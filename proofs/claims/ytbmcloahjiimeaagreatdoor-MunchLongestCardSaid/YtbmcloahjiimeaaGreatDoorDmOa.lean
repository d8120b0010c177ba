/- Operations, one by one: what they come to there is what they come to here. Part 1: the frame of it; operations that memory does not matter to. Operations, part 2: reading memory; parts of values; slices of slices. Operations, part 3: slices of slices and of strings, conversions, lengths, comparisons. -/
import Derived.Test.YtbmcloahjiimeaaGreatDoorDmS
set_option linter.all false
namespace Go.Dm
open Go.RowKit (Below)

namespace Ti.Ok
variable {E : Ti} {P : Program} (hE : E.Ok P)
include hE
theorem und {t : Nat} {d : TypeDesc} (h : E.und t = some d) : P.underlying t = some d := by
  unfold Ti.und at h
  unfold Program.underlying
  cases ht : E.inf t with
  | none => rw [ht] at h; cases h
  | some i =>
    rw [ht] at h
    rw [hE.inf t i ht]
    obtain ⟨desc, _, _, _, _, _, _, _, _, _⟩ := i
    cases desc <;> first | exact h | skip
    rename_i u
    simp only at h ⊢
    cases hu : E.inf u with
    | none => rw [hu] at h; cases h
    | some j => rw [hu] at h; rw [hE.inf u j hu]; exact h
theorem size {t n : Nat} (h : E.size t = some n) : ∃ i, P.info? t = some i ∧ i.size = n := by
  unfold Ti.size at h
  cases ht : E.inf t with
  | none => rw [ht] at h; cases h
  | some i => rw [ht] at h; exact ⟨i, hE.inf t i ht, by simpa using h⟩
theorem bytes {t n : Nat} (h : E.bytes t = some n) : ∃ i, P.info? t = some i ∧ i.bytes = n := by
  unfold Ti.bytes at h
  cases ht : E.inf t with
  | none => rw [ht] at h; cases h
  | some i => rw [ht] at h; exact ⟨i, hE.inf t i ht, by simpa using h⟩
end Ti.Ok

/-! ### Constants -/
theorem VR.ofCval1 {β : Bt} {v : Value} {d : DV} (h : cval1 v = some d) : VR β d v := by
  unfold cval1 at h
  split at h <;> first | (cases h; constructor; done) | cases h
theorem VRs.ofCvals {β : Bt} {l : List Value} {ds : List DV} (h : cvals l = some ds) : VRs β ds l := by
  induction l generalizing ds with
  | nil => simp only [cvals] at h; cases h; exact .nil
  | cons v l ih =>
    simp only [cvals] at h
    split at h
    · rename_i h1 h2; cases h; exact .cons _ _ _ _ (VR.ofCval1 h1) (ih h2)
    · cases h
theorem cval1_one {v : Value} {d : DV} (h : cval1 v = some d) : v.oneCell' = true := by
  unfold cval1 at h
  split at h <;> first | rfl | cases h
theorem cvals_one {l : List Value} {ds : List DV} (h : cvals l = some ds) : ∀ v ∈ l, v.oneCell' = true := by
  induction l generalizing ds with
  | nil => intro v hv; cases hv
  | cons v l ih =>
    simp only [cvals] at h
    split at h
    · rename_i h1 h2
      intro u hu
      rcases List.mem_cons.1 hu with rfl | hu
      · exact cval1_one h1
      · exact ih h2 u hu
    · cases h
theorem VR.ofCval {β : Bt} {v : Value} {d : DV} (h : cval v = some d) : VR β d v := by
  unfold cval at h
  split at h
  · rename_i cs
    cases hc : cvals cs.toList with
    | none => rw [hc] at h; cases h
    | some ds => rw [hc] at h; cases h; exact VR.agg _ cs.toList (VRs.ofCvals hc) (cvals_one hc)
  · rename_i vs
    split at h
    · rename_i he
      cases h
      have : vs.toList = [] := by simpa using he
      have : vs = #[] := by cases vs; simp_all
      subst this
      exact VR.undef β
    · cases h
  · exact VR.ofCval1 h

namespace Ti.Ok
variable {E : Ti} {P : Program} (hE : E.Ok P)
include hE
theorem zero {t : Nat} {d : DV} (h : Go.Dm.zero E t = some d) : ∃ i z, P.info? t = some i ∧ i.zero = some z ∧ (∀ β, VR β d z) ∧ ∀ l, d ≠ .tuple l := by
  unfold Go.Dm.zero at h
  cases ht : E.inf t with
  | none => rw [ht] at h; cases h
  | some i =>
    rw [ht] at h
    cases hz : i.zero with
    | none => simp only [hz] at h; cases h
    | some z =>
      simp only [hz] at h
      refine ⟨i, z, hE.inf t i ht, hz, ?_⟩
      cases hc : cval z with
      | none => rw [hc] at h; cases h
      | some d' =>
        rw [hc] at h
        cases d' <;> simp only at h <;> first | (cases h; done) | (cases h; exact ⟨fun β => VR.ofCval hc, fun l hl => by cases hl⟩)
end Ti.Ok

/-! ### What an operation comes to -/
section
variable (E : Ti) (P : Program) (B : Bd) (β : Bt) (w : World)
/-- a value more, a world further on -/
structure Good (β' : Bt) (v : DV) (v' : Value) (h' : H) (w' : World) : Prop where
  le : β.le β'
  vr : VR β' v v'
  hr : HR E P B β' h' w'
  bl : Below B.b w w'
def NV (h : H) (n : N) (r : Result Value) : Prop :=
  match n with
  | .fail => True
  | .val v h' => ∃ β' v' w', r = .ok v' w' ∧ Good E P B β w β' v v' h' w'
  | .panic v h' => h' = h ∧ ∃ v', VR β v v' ∧ r = .halt (.panic v') w
  | _ => False
def NU (n : N) (r : Result Unit) : Prop :=
  match n with
  | .fail => True
  | .val v h' => v = .undef ∧ ∃ β' w', r = .ok () w' ∧ Good E P B β w β' .undef undef h' w'
  | _ => False
def NR (h : H) (n : N) (r : Result Next) : Prop :=
  match n with
  | .fail => True
  | .val v h' => ∃ β' v' w', (r = .ok (.value v') w' ∨ (r = .ok .skip w' ∧ v' = undef)) ∧ Good E P B β w β' v v' h' w'
  | .call f args h' => h' = h ∧ ∃ as', VRs β args as' ∧ match f with
    | .func f => r = (callFunc f as'.toArray).run P w
    | .yield l => ∃ L, β l = some L ∧ r = (Instr.yield L.r as'.toArray).run P w
  | .defer f args h' => h' = h ∧ ∃ as' cs', VRs β args (as' ++ cs') ∧ r = .ok (.defer { target := .fn (.func f) cs'.toArray, args := as'.toArray }) w
  | .recover h' => h' = h ∧ r = .ok .recover w
  | .panic v h' => h' = h ∧ ∃ v', VR β v v' ∧ r = .halt (.panic v') w
end

section
variable {E : Ti} {P : Program} {B : Bd} {β : Bt} {w : World} {h : H} {n : N}
theorem NR.ofV {s : Sem Value} (hv : NV E P B β w h n (s.run P w)) : NR E P B β w h n ((do pure (Next.value (← s)) : Sem Next).run P w) := by
  cases n with
  | fail => trivial
  | val v h' =>
    obtain ⟨β', v', w', h1, h2⟩ := hv
    exact ⟨β', v', w', .inl (by simp [h1]), h2⟩
  | panic v h' =>
    obtain ⟨h0, v', h1, h2⟩ := hv
    exact ⟨h0, v', h1, by simp [h2]⟩
  | call _ _ _ => exact hv.elim
  | defer _ _ _ => exact hv.elim
  | recover _ => exact hv.elim
theorem NR.ofU {s : Sem Unit} (hv : NU E P B β w n (s.run P w)) : NR E P B β w h n ((do s; pure Next.skip : Sem Next).run P w) := by
  cases n with
  | fail => trivial
  | val v h' =>
    obtain ⟨h0, β', w', h1, h2⟩ := hv
    subst h0
    exact ⟨β', undef, w', .inr ⟨by simp [h1], rfl⟩, h2⟩
  | panic v h' => exact hv.elim
  | call _ _ _ => exact hv.elim
  | defer _ _ _ => exact hv.elim
  | recover _ => exact hv.elim
variable (hr : HR E P B β h w)
include hr
theorem Good.pure {v : DV} {v' : Value} (hv : VR β v v') : Good E P B β w β v v' h w := ⟨Bt.le.refl β, hv, hr, Below.refl B.b w⟩
theorem NV.pure {v : DV} {v' : Value} {r : Result Value} (hv : VR β v v') (hs : r = .ok v' w) : NV E P B β w h (.val v h) r := ⟨β, v', w, hs, Good.pure hr hv⟩
theorem NV.valO {o : Option DV} {r : Result Value} (hs : ∀ v, o = some v → ∃ v', r = .ok v' w ∧ VR β v v') : NV E P B β w h (valO o h) r := by
  cases o with
  | none => trivial
  | some v => obtain ⟨v', h1, h2⟩ := hs v rfl; exact NV.pure hr h2 h1
theorem NR.pure {v : DV} {v' : Value} {r : Result Next} (hv : VR β v v') (hs : r = .ok (.value v') w) : NR E P B β w h (.val v h) r := ⟨β, v', w, .inl hs, Good.pure hr hv⟩
end

/-! ### Running -/
section
variable {E : Ti} {P : Program} (w : World)
theorem run_typeInfo' {t : Nat} {i : TypeInfo} (h : P.info? t = some i) : (typeInfo t).run P w = .ok i w := by simp [typeInfo, h]
theorem run_sizeOf' {t : Nat} {i : TypeInfo} (h : P.info? t = some i) : (sizeOf t).run P w = .ok i.size w := by simp [sizeOf, run_typeInfo' w h]
theorem run_zeroValue' {t : Nat} {i : TypeInfo} {z : Value} (h : P.info? t = some i) (hz : i.zero = some z) : (zeroValue t).run P w = .ok z w := by simp [zeroValue, run_typeInfo' w h, hz]
theorem run_underlying' {t : Nat} {d : TypeDesc} (h : P.underlying t = some d) : (underlying t).run P w = .ok d w := by simp [underlying, h]
theorem Ti.Ok.run_size (hE : E.Ok P) {t n : Nat} (h : E.size t = some n) : (sizeOf t).run P w = .ok n w := by
  obtain ⟨i, h1, h2⟩ := hE.size h
  rw [run_sizeOf' w h1, h2]
theorem Ti.Ok.run_und (hE : E.Ok P) {t : Nat} {d : TypeDesc} (h : E.und t = some d) : (underlying t).run P w = .ok d w := run_underlying' w (hE.und h)
theorem Ti.Ok.run_isAgg (hE : E.Ok P) {t : Nat} {b : Bool} (h : E.ag t = some b) : (isAgg t).run P w = .ok b w := by
  unfold Ti.ag at h
  split at h <;> first
    | (rename_i hu; cases h; simp [isAgg, run_underlying' w (hE.und hu)]; done)
    | (cases h; done)
    | (cases h; rename_i d hd hx hu; simp only [isAgg, Sem.run_bind, run_underlying' w (hE.und hu), Result.andThen_ok]; cases d <;> simp_all; done)
end
theorem addr_add (r o k : Nat) : (⟨r, o, none⟩ : Addr).add k = ⟨r, o + k, none⟩ := by
  unfold Addr.add; split <;> simp_all

section
variable {E : Ti} {P : Program} {B : Bd} {β : Bt} {w : World} {h : H} (hr : HR E P B β h w) {ev : Ev} {ρ : Operand → Value} {X : Cx}
  (hX : ∀ x d, X x = some d → VR β (ev d) (ρ x))

/-! ### Whole numbers -/
omit w in
theorem ble_dec (a b : Nat) : Nat.ble a b = decide (a ≤ b) := by
  by_cases h : a ≤ b
  · rw [Nat.ble_eq_true_of_le h]; simp [h]
  · cases hb : Nat.ble a b
    · simp [h]
    · exact absurd (Nat.le_of_ble_eq_true hb) h
theorem beq_dec (a b : Nat) : Nat.beq a b = decide (a = b) := by
  by_cases h : a = b
  · subst h; simp
  · cases hb : Nat.beq a b
    · simp [h]
    · exact absurd (Nat.eq_of_beq_eq_true hb) h
omit w in
theorem wrap_nat {k : IntKind} {n : Nat} (h : n ≤ maxN k) : k.wrap (n : Int) = n := by
  have := wrapF_eq k (n : Int)
  rw [← this]
  show wrapF k (Int.ofNat n) = _
  unfold wrapF
  simp only [ble_dec, h, decide_true, cond_true]
  rfl
theorem maxN_lt (k : IntKind) : maxN k < 2 ^ k.bits := by cases k <;> decide
theorem maxN_eq (k : IntKind) : ∃ j, maxN k + 1 = 2 ^ j ∧ j ≤ k.bits := by
  cases k
  · exact ⟨7, by decide, by decide⟩
  · exact ⟨15, by decide, by decide⟩
  · exact ⟨31, by decide, by decide⟩
  · exact ⟨63, by decide, by decide⟩
  · exact ⟨8, by decide, by decide⟩
  · exact ⟨16, by decide, by decide⟩
  · exact ⟨32, by decide, by decide⟩
  · exact ⟨64, by decide, by decide⟩
theorem ofInt_nat {k : IntKind} {n : Nat} (h : n ≤ maxN k) : (BitVec.ofInt k.bits (n : Int)).toNat = n := by
  have h2 := maxN_lt k
  simp only [BitVec.ofInt_natCast, BitVec.toNat_ofNat]
  exact Nat.mod_eq_of_lt (by omega)
theorem bitN_eq {op : BinOp} {k : IntKind} {a b c : Nat} (ha : a ≤ maxN k) (hb : b ≤ maxN k) (h : bitN op a b = some c) : bitS op k (a : Int) (b : Int) = some (c : Int) := by
  obtain ⟨j, hj, hjb⟩ := maxN_eq k
  have ha' : a < 2 ^ j := by omega
  have hb' : b < 2 ^ j := by omega
  have key : ∀ m : Nat, m < 2 ^ j → k.wrap (m : Int) = m := fun m hm => wrap_nat (by omega)
  have hlt : 2 ^ j ≤ 2 ^ k.bits := Nat.pow_le_pow_right (by decide) hjb
  cases op <;> simp only [bitN] at h <;> first | (cases h; done) | skip
  all_goals cases h
  all_goals simp only [bitS, BitVec.toNat_and, BitVec.toNat_or, BitVec.toNat_xor, BitVec.toNat_not, ofInt_nat ha, ofInt_nat hb]
  · rw [key _ (Nat.lt_of_le_of_lt Nat.and_le_left ha')]; rfl
  · rw [key _ (Nat.or_lt_two_pow ha' hb')]; rfl
  · rw [key _ (Nat.xor_lt_two_pow ha' hb')]; rfl
  · have e : a &&& (2 ^ k.bits - 1 - b) = Nat.xor a (Nat.land a b) := by
      show a &&& (2 ^ k.bits - 1 - b) = a ^^^ (a &&& b)
      apply Nat.eq_of_testBit_eq
      intro i
      have h1 : (2 ^ k.bits - 1 - b).testBit i = (decide (i < k.bits) && !b.testBit i) := by
        rw [show 2 ^ k.bits - 1 - b = 2 ^ k.bits - (b + 1) by omega]
        exact Nat.testBit_two_pow_sub_succ (by omega) i
      simp only [Nat.testBit_and, Nat.testBit_xor, h1]
      cases hai : a.testBit i
      · simp
      · have : i < k.bits := by
          rcases Nat.lt_or_ge i k.bits with h | h
          · exact h
          · exfalso
            have := Nat.testBit_lt_two_pow (x := a) (i := i) (Nat.lt_of_lt_of_le ha' (Nat.le_trans hlt (Nat.pow_le_pow_right (by decide) h)))
            rw [this] at hai; cases hai
        simp [this]
    rw [e]
    have e2 : Nat.xor a (Nat.land a b) < 2 ^ j := Nat.xor_lt_two_pow ha' (Nat.lt_of_le_of_lt Nat.and_le_left ha')
    rw [key _ e2]
theorem bitI_run {op : BinOp} {k : IntKind} {a b : Int} {v : DV} {w : World} (hv : bitI op k a b = some v) :
    ∃ v', (Op.intBits op k a b).run P w = .ok v' w ∧ VR β v v' := by
  have slow : ∀ {v}, intV k (bitS op k a b) = some v → ∃ v', (Op.intBits op k a b).run P w = .ok v' w ∧ VR β v v' := by
    intro v hv
    cases op <;> simp only [bitS, intV] at hv <;> first | (cases hv; done) | (cases hv; exact ⟨_, rfl, .int _ _⟩)
  unfold bitI at hv
  split at hv
  · rename_i x y
    simp only [ble_dec] at hv
    by_cases hc : x ≤ maxN k ∧ y ≤ maxN k
    · simp only [hc.1, hc.2, decide_true, Bool.and_self, cond_true] at hv
      cases hN : bitN op x y with
      | none => rw [hN] at hv; cases hv
      | some c =>
        rw [hN] at hv; cases hv
        apply slow
        show intV k (bitS op k (x : Int) (y : Int)) = _
        rw [bitN_eq hc.1 hc.2 hN]; rfl
    · have : (decide (x ≤ maxN k) && decide (y ≤ maxN k)) = false := by
        cases h : (decide (x ≤ maxN k) && decide (y ≤ maxN k))
        · rfl
        · simp at h; exact absurd h hc
      simp only [this, cond_false] at hv
      exact slow hv
  · exact slow hv
theorem binI_run {op : BinOp} {k : IntKind} {a b : Int} {v : DV} {w : World} (hn1 : op ≠ .shl) (hn2 : op ≠ .shr) (hv : binI op k a b = some v) (t : Nat) :
    ∃ v', (Go.binOp op t (.int k a) (.int k b)).run P w = .ok v' w ∧ VR β v v' := by
  cases op
  all_goals first | exact absurd rfl hn1 | exact absurd rfl hn2 | skip
  all_goals simp only [Go.binOp, ne_eq, not_true_eq_false, if_false]
  all_goals simp only [binI, iEq_eq, iLe_eq, wrapF_eq] at hv
  all_goals first
    | exact bitI_run hv
    | (cases hv; exact ⟨_, rfl, .int _ _⟩)
    | skip
  case quo | rem =>
    by_cases hb : b = 0
    · simp only [hb, beq_self_eq_true, cond_true] at hv; cases hv
    · have hb' : (b == 0) = false := by simpa using hb
      simp only [hb', cond_false] at hv
      cases hv
      simp only [Op.intDiv, if_neg hb]
      exact ⟨_, rfl, .int _ _⟩
  all_goals cases hv
  all_goals refine ⟨_, rfl, ?_⟩
  case eql => exact VR.bool _
  case neq => exact VR.bool _
  case leq => exact VR.bool _
  case geq => exact VR.bool _
  case lss =>
    have : decide (a < b) = !decide (b ≤ a) := by simp [← Int.not_le]
    rw [this]; exact VR.bool _
  case gtr =>
    have : decide (a > b) = !decide (a ≤ b) := by simp [← Int.not_le]
    rw [this]; exact VR.bool _
theorem shI_run {op : BinOp} {left : Bool} {k k' : IntKind} {a b : Int} {v : DV} {w : World} (ho : op = if left then .shl else .shr) (hv : shI left k a b = some v) (t : Nat) :
    ∃ v', (Go.binOp op t (.int k a) (.int k' b)).run P w = .ok v' w ∧ VR β v v' := by
  have hmin : ∀ n, (bif Nat.ble n k.bits then n else k.bits) = min n k.bits := fun n => by
    rw [ble_dec]
    by_cases h : n ≤ k.bits
    · simp only [h, decide_true, cond_true]; omega
    · simp only [h, decide_false, cond_false]; omega
  cases b with
  | negSucc _ => simp only [shI] at hv; cases hv
  | ofNat n =>
    have hn : ¬ (Int.ofNat n < 0) := by simp
    have hn2 : (Int.ofNat n).toNat = n := rfl
    cases left
    · subst ho
      have hd : ∀ v', VR β v v' → v' = .int k (a.fdiv (2 ^ min n k.bits)) → ∃ v', (Go.binOp (if false = true then BinOp.shl else BinOp.shr) t (.int k a) (.int k' (Int.ofNat n))).run P w = .ok v' w ∧ VR β v v' := by
        intro v' h1 h2
        refine ⟨v', ?_, h1⟩
        simp only [Bool.false_eq_true, if_false, Go.binOp, Op.shift, if_neg hn, hn2, h2]
        rfl
      cases a with
      | ofNat x =>
        simp only [shI, hmin] at hv
        cases hv
        refine hd _ (.int _ _) ?_
        congr 1
        show ((x >>> min n k.bits : Nat) : Int) = (x : Int).fdiv (2 ^ min n k.bits)
        rw [Nat.shiftRight_eq_div_pow, Int.fdiv_eq_ediv_of_nonneg _ (by exact Int.le_of_lt (Int.pow_pos (by decide)))]
        simp
      | negSucc x =>
        simp only [shI] at hv
        cases hv
        exact hd _ (.int _ _) rfl
    · subst ho
      have hd : ∀ v', VR β v v' → v' = .int k (k.wrap (a * 2 ^ min n k.bits)) → ∃ v', (Go.binOp (if true = true then BinOp.shl else BinOp.shr) t (.int k a) (.int k' (Int.ofNat n))).run P w = .ok v' w ∧ VR β v v' := by
        intro v' h1 h2
        refine ⟨v', ?_, h1⟩
        simp only [if_true, Go.binOp, Op.shift, if_neg hn, hn2, h2]
        rfl
      cases a with
      | ofNat x =>
        simp only [shI, hmin, wrapF_eq] at hv
        cases hv
        refine hd _ (.int _ _) ?_
        congr 2
        show ((x <<< min n k.bits : Nat) : Int) = (x : Int) * 2 ^ min n k.bits
        rw [Nat.shiftLeft_eq]; simp
      | negSucc x =>
        simp only [shI] at hv
        cases hv
        exact hd _ (.int _ _) rfl

/-! ### Strings -/
theorem lessN_eq (x y : List UInt8) : lessN (x.map UInt8.toNat) (y.map UInt8.toNat) = Op.bytesLess x y := by
  induction x generalizing y with
  | nil => cases y <;> rfl
  | cons a x ih =>
    cases y with
    | nil => rfl
    | cons b y =>
      simp only [List.map_cons, lessN, Op.bytesLess, ih]
      have e1 : Nat.blt a.toNat b.toNat = decide (a < b) := by
        show Nat.ble (a.toNat + 1) b.toNat = _
        rw [ble_dec]; rfl
      have e2 : Nat.beq a.toNat b.toNat = (a == b) := by
        rw [beq_dec]
        by_cases h : a = b
        · subst h; simp
        · have : a.toNat ≠ b.toNat := fun e => h (UInt8.toNat_inj.1 e)
          simp [h, this]
      rw [e1, e2]
theorem map_toNat_inj {x y : List UInt8} (h : x.map UInt8.toNat = y.map UInt8.toNat) : x = y := by
  induction x generalizing y with
  | nil => cases y <;> simp_all
  | cons a x ih =>
    cases y with
    | nil => simp at h
    | cons b y =>
      simp only [List.map_cons, List.cons.injEq] at h
      rw [UInt8.toNat_inj.1 h.1, ih h.2]
theorem beq_toNat (x y : List UInt8) : (x.map UInt8.toNat == y.map UInt8.toNat) = (x == y) := by
  by_cases h : x = y
  · subst h; simp
  · have : x.map UInt8.toNat ≠ y.map UInt8.toNat := fun e => h (map_toNat_inj e)
    rw [beq_eq_false_iff_ne.2 this, beq_eq_false_iff_ne.2 h]
theorem binS_run {op : BinOp} {a b : ByteArray} {v : DV} {w : World} (hv : binS op (a.data.toList.map UInt8.toNat) (b.data.toList.map UInt8.toNat) = some v) (t : Nat) :
    ∃ v', (Go.binOp op t (.string a) (.string b)).run P w = .ok v' w ∧ VR β v v' := by
  have h0 : Go.binOp op t (.string a) (.string b) = Op.stringOp op a b := by cases op <;> rfl
  rw [h0]
  cases op <;> simp only [binS, lessN_eq, beq_toNat] at hv <;> first | (cases hv; done) | skip
  case add =>
    split at hv
    · rename_i hl
      cases hv
      simp only [List.length_map, Array.length_toList] at hl
      have hl2 : ¬ (((a.size + b.size : Nat) : Int) > IntKind.i64.max) := by
        have : a.size = a.data.size := rfl
        have : b.size = b.data.size := rfl
        show ¬ (((a.size + b.size : Nat) : Int) > 9223372036854775807)
        omega
      refine ⟨.string (a ++ b), ?_, ?_⟩
      · simp only [Op.stringOp, if_neg hl2]; rfl
      · have : a.data.toList.map UInt8.toNat ++ b.data.toList.map UInt8.toNat = (a ++ b).data.toList.map UInt8.toNat := by simp
        rw [this]; exact .str _
    · cases hv
  all_goals cases hv
  all_goals refine ⟨_, rfl, ?_⟩
  all_goals simp only [ByteArray.toList_eq]
  all_goals exact VR.bool _
end
end Go.Dm

namespace Go.Dm
open Go.RowKit (Below)

section
variable {E : Ti} {P : Program} {B : Bd} {β : Bt} {w : World} {h : H}

/-! ### Reading -/
theorem CellsAt.cell {c : Array Value} {e : Nat} {fz : Nat × Nat} {r o : Nat} {cs : List DV} (hw : w.heap[r]? = some (.cells c e fz)) (hc : CellsAt β c o cs) {i : Nat} {v : DV} (hv : cs[i]? = some v) :
    ∃ v', w.cell? ⟨r, o + i, none⟩ = some v' ∧ VR β v v' ∧ v'.oneCell' = true := by
  obtain ⟨v', h1, h2, h3⟩ := hc i v hv
  exact ⟨v', by simp [World.cell?, hw, h1], h2, h3⟩
/-- so many cells, one behind the other -/
theorem CellsAt.cells {c : Array Value} {e : Nat} {fz : Nat × Nat} {r o : Nat} {cs : List DV} (hw : w.heap[r]? = some (.cells c e fz)) (hc : CellsAt β c o cs) (off n : Nat) (hn : off + n ≤ cs.length ∨ n = 0) :
    ∃ vs : List Value, vs.length = n ∧ VRs β ((cs.drop off).take n) vs ∧ (∀ v ∈ vs, v.oneCell' = true) ∧ ∀ j v, vs[j]? = some v → w.cell? ((⟨r, o + off, none⟩ : Addr).add j) = some v := by
  induction n with
  | zero => exact ⟨[], rfl, by simp; exact .nil, by simp, by simp⟩
  | succ n ih =>
    obtain ⟨vs, h1, h2, h3, h4⟩ := ih (by omega)
    have hlt : off + n < cs.length := by omega
    obtain ⟨v', g1, g2, g3⟩ := hc.cell hw (List.getElem?_eq_getElem hlt)
    refine ⟨vs ++ [v'], by simp [h1], ?_, ?_, ?_⟩
    · have : (cs.drop off).take (n + 1) = (cs.drop off).take n ++ [cs[off + n]] := by
        rw [List.take_add_one]; simp [List.getElem?_drop, List.getElem?_eq_getElem hlt]
      rw [this]
      exact h2.append (.cons _ _ _ _ g2 .nil)
    · intro v hv
      rcases List.mem_append.1 hv with hv | hv
      · exact h3 v hv
      · simp at hv; subst hv; exact g3
    · intro j v hv
      rw [List.getElem?_append] at hv
      rw [addr_add]
      split at hv
      · have := h4 j v hv
        rwa [addr_add] at this
      · rename_i hj
        have : j = n := by
          by_cases e : j = n
          · exact e
          · have h5 : j - vs.length ≠ 0 := by omega
            obtain ⟨k, hk⟩ := Nat.exists_eq_succ_of_ne_zero h5
            rw [hk] at hv; simp at hv
        subst this
        rw [← h1] at hv ⊢
        simp at hv
        subst hv
        rw [Nat.add_assoc, h1]; exact g1
variable (hr : HR E P B β h w)
include hr
theorem rd1_run {d off : Nat} {v : DV} {L : Loc} (hL : β d = some L) (hv : rd1 h d off = some v) :
    ∃ v', (load ⟨L.r, L.o + off, none⟩).run P w = .ok v' w ∧ VR β v v' := by
  unfold rd1 at hv
  split at hv
  · rename_i cs e ro hd
    rw [lget_eq] at hv
    obtain ⟨⟨c, t, fz, h1, h2, -⟩, -⟩ := hr.obj d L _ hL hd
    obtain ⟨v', g1, g2, -⟩ := h2.cell h1 hv
    exact ⟨v', by simp [g1], g2⟩
  · cases hv
theorem rdN_cells {d off n : Nat} {l : List DV} {L : Loc} (hL : β d = some L) (hv : rdN h d off n = some l) :
    ∃ vs : List Value, vs.length = n ∧ VRs β l vs ∧ (∀ v ∈ vs, v.oneCell' = true) ∧ (∀ j v, vs[j]? = some v → w.cell? ((⟨L.r, L.o + off, none⟩ : Addr).add j) = some v) := by
  unfold rdN at hv
  split at hv
  · rename_i cs e ro hd
    obtain ⟨hn, rfl⟩ := lpart_some hv
    obtain ⟨⟨c, t, fz, h1, h2, -⟩, -⟩ := hr.obj d L _ hL hd
    exact h2.cells h1 off n hn
  · cases hv
theorem rdN_run {d off n : Nat} {l : List DV} {L : Loc} (hL : β d = some L) (hv : rdN h d off n = some l) :
    ∃ vs : List Value, vs.length = n ∧ VRs β l vs ∧ (∀ v ∈ vs, v.oneCell' = true) ∧ (loadCells ⟨L.r, L.o + off, none⟩ n).run P w = .ok vs.toArray w := by
  obtain ⟨vs, h1, h2, h3, h4⟩ := rdN_cells hr hL hv
  exact ⟨vs, h1, h2, h3, by rw [← h1]; exact run_loadCells_list w _ vs h4⟩
omit hr
theorem VR.ptr_inv {d o : Nat} {v : Value} (hv : VR β (.ptr (some (d, o))) v) : ∃ L, β d = some L ∧ v = .pointer (some ⟨L.r, L.o + o, none⟩) := by
  cases hv with | ptr _ _ L h => exact ⟨L, h, rfl⟩
theorem loadVar1 (hE : E.Ok P) {t : Nat} (ha : E.ag t = some false) (a : Addr) : (loadVar t a).run P w = (load a).run P w := by
  simp only [loadVar, Sem.run_bind, hE.run_isAgg w ha, Result.andThen_ok, Bool.false_eq_true, if_false]
theorem loadVarN (hE : E.Ok P) {t n : Nat} (ha : E.ag t = some true) (hs : E.size t = some n) (a : Addr) :
    (loadVar t a).run P w = ((loadCells a n).run P w).andThen fun cs w => .ok (.agg cs) w := by
  simp only [loadVar, Sem.run_bind, hE.run_isAgg w ha, Result.andThen_ok, if_true, hE.run_size w hs, Sem.run_pure]
theorem s_load1 (hE : E.Ok P) (hr : HR E P B β h w) {t : Nat} (ha : E.ag t = some false) {a : DX} {ev : Ev} {va : Value} (hv : VR β (ev a) va) : NV E P B β w h (oLoad1 a ev h) ((Instr.loadAt t va).run P w) := by
  unfold oLoad1
  split
  · rename_i d off hd
    rw [hd] at hv
    obtain ⟨L, hL, rfl⟩ := hv.ptr_inv
    refine NV.valO hr fun v hv => ?_
    obtain ⟨v', h1, h2⟩ := rd1_run hr hL hv
    exact ⟨v', by simp only [Instr.loadAt, Instr.sureAddr, Sem.run_bind, Sem.run_pure, Result.andThen_ok, loadVar1 hE ha]; exact h1, h2⟩
  · trivial
theorem s_loadN (hE : E.Ok P) (hr : HR E P B β h w) {t n : Nat} (ha : E.ag t = some true) (hs : E.size t = some n) {a : DX} {ev : Ev} {va : Value} (hv : VR β (ev a) va) : NV E P B β w h (oLoadN n a ev h) ((Instr.loadAt t va).run P w) := by
  unfold oLoadN
  split
  · rename_i d off hd
    rw [hd] at hv
    obtain ⟨L, hL, rfl⟩ := hv.ptr_inv
    refine NV.valO hr fun v hv => ?_
    cases hn : rdN h d off n with
    | none => rw [hn] at hv; cases hv
    | some l =>
      rw [hn] at hv; cases hv
      obtain ⟨vs, h1, h2, h3, h4⟩ := rdN_run hr hL hn
      exact ⟨.agg vs.toArray, by simp only [Instr.loadAt, Instr.sureAddr, Sem.run_bind, Sem.run_pure, Result.andThen_ok, loadVarN hE ha hs, h4], .agg _ _ h2 h3⟩
  · trivial

/-! ### Parts of values -/
theorem partV_run (hE : E.Ok P) {t n off : Nat} {ag : Bool} (ha : E.ag t = some ag) (hs : E.size t = some n) {cs : List DV} {cs' : List Value} (hc : VRs β cs cs') (h1 : ∀ v ∈ cs', v.oneCell' = true)
    {v : DV} (hv : partV cs off n ag = some v) : ∃ v', (part t cs'.toArray off).run P w = .ok v' w ∧ VR β v v' := by
  unfold partV at hv
  cases ag with
  | true =>
    simp only at hv
    cases hl : lpart cs off n with
    | none => rw [hl] at hv; cases hv
    | some l =>
      rw [hl] at hv; cases hv
      obtain ⟨hn, rfl⟩ := lpart_some hl
      refine ⟨.agg (cs'.toArray.extract off (off + n)), ?_, ?_⟩
      · simp only [part, Sem.run_bind, hE.run_isAgg w ha, Result.andThen_ok, if_true, hE.run_size w hs, Sem.run_pure]
      · have : cs'.toArray.extract off (off + n) = ((cs'.drop off).take n).toArray := by
          simp [List.extract_toArray, List.extract_eq_take_drop]
        rw [this]
        refine .agg _ _ ((hc.drop off).take n) fun v hv => h1 v ?_
        exact List.mem_of_mem_drop (List.mem_of_mem_take hv)
  | false =>
    simp only [lget_eq] at hv
    obtain ⟨v', g1, g2⟩ := hc.get hv
    refine ⟨v', ?_, g2⟩
    simp only [part, Sem.run_bind, hE.run_isAgg w ha, Result.andThen_ok, Bool.false_eq_true, if_false, List.getElem?_toArray, g1, Sem.run_pure]
theorem VR.agg_inv {l : List DV} {v : Value} (hv : VR β (.agg l) v) : ∃ l', v = .agg l'.toArray ∧ VRs β l l' ∧ ∀ v ∈ l', v.oneCell' = true := by
  cases hv with | agg _ l' h h1 => exact ⟨l', rfl, h, h1⟩
theorem VR.int_inv {k : IntKind} {n : Int} {v : Value} (hv : VR β (.int k n) v) : v = .int k n := by cases hv; rfl
theorem VR.bool_inv {b : Bool} {v : Value} (hv : VR β (.bool b) v) : v = .bool b := by cases hv; rfl
theorem VR.str_inv {l : List Nat} {v : Value} (hv : VR β (.str l) v) : ∃ s : ByteArray, l = s.data.toList.map UInt8.toNat ∧ v = .string s := by
  cases hv with | str s => exact ⟨s, rfl, rfl⟩
theorem VR.tuple_inv {l : List DV} {v : Value} (hv : VR β (.tuple l) v) : ∃ l', v = .tuple l'.toArray ∧ VRs β l l' := by
  cases hv with | tuple _ l' h => exact ⟨l', rfl, h⟩
theorem fieldAt_inv {s f : Nat} {o n : Nat} {a : Bool} (hf : fieldAt E s f = some (o, n, a)) : ∃ fs fd, E.und s = some (.struct fs) ∧ fs[f]? = some fd ∧ fd.offset = o ∧ E.size fd.type = some n ∧ E.ag fd.type = some a := by
  unfold fieldAt at hf
  split at hf
  · rename_i fs hfs
    split at hf
    · rename_i fd hfd
      split at hf
      · rename_i n' a' h1 h2
        cases hf
        exact ⟨fs, fd, hfs, by simpa using hfd, rfl, h1, h2⟩
      · cases hf
    · cases hf
  · cases hf
theorem s_fldV (hE : E.Ok P) (hr : HR E P B β h w) {s f o n : Nat} {a : Bool} (hf : fieldAt E s f = some (o, n, a)) {x : DX} {ev : Ev} {vx : Value} (hv : VR β (ev x) vx) :
    NV E P B β w h (oFldV o n a x ev h) ((Instr.field s vx f).run P w) := by
  obtain ⟨fs, fd, h1, h2, rfl, h3, h4⟩ := fieldAt_inv hf
  unfold oFldV
  split
  · rename_i cs hc
    rw [hc] at hv
    obtain ⟨l', rfl, g1, g2⟩ := hv.agg_inv
    refine NV.valO hr fun v hv => ?_
    obtain ⟨v', k1, k2⟩ := partV_run (w := w) hE h4 h3 g1 g2 hv
    refine ⟨v', ?_, k2⟩
    simp only [Instr.field, Sem.run_bind, hE.run_und w h1, Result.andThen_ok, h2, asAgg, Sem.run_pure, k1]
  · trivial
theorem s_fldA (hE : E.Ok P) (hr : HR E P B β h w) {s f o n : Nat} {a : Bool} (hf : fieldAt E s f = some (o, n, a)) (hn : n ≠ 0) {x : DX} {ev : Ev} {vx : Value} (hv : VR β (ev x) vx) :
    NV E P B β w h (oFldA o x ev h) ((Instr.fieldAt s vx f).run P w) := by
  obtain ⟨fs, fd, h1, h2, rfl, h3, h4⟩ := fieldAt_inv hf
  unfold oFldA
  split
  · rename_i d off hd
    rw [hd] at hv
    obtain ⟨L, hL, rfl⟩ := hv.ptr_inv
    refine NV.pure hr (VR.ptr d (off + fd.offset) L hL) ?_
    simp only [Instr.fieldAt, Sem.run_bind, hE.run_und w h1, Result.andThen_ok, h2, Instr.sureAddr, Sem.run_pure, fieldPlace, hE.run_size w h3, if_neg hn, addr_add, Nat.add_assoc]
  · trivial
theorem s_idxA (hE : E.Ok P) (hr : HR E P B β h w) {t len e n : Nat} (ht : E.und t = some (.array len e)) (hs : E.size e = some n) {x i : DX} {ev : Ev} {vx vi : Value} (hv : VR β (ev x) vx) (hi : VR β (ev i) vi) :
    NV E P B β w h (oIdxA len n x i ev h) ((Instr.indexAt t vx vi).run P w) := by
  unfold oIdxA
  split
  · rename_i d off k m hd hm
    rw [hd] at hv; rw [hm] at hi
    obtain ⟨L, hL, rfl⟩ := hv.ptr_inv
    rw [hi.int_inv]
    unfold ptrO
    split
    · rename_i j hj
      obtain ⟨rfl, hlt⟩ := inB_some hj
      refine NV.pure hr (VR.ptr d (off + j * n) L hL) ?_
      have hc : 0 ≤ (j : Int) ∧ (j : Int) < len := ⟨by omega, by omega⟩
      simp only [Instr.indexAt, asIntOf, Sem.run_bind, Sem.run_pure, hE.run_und w ht, Result.andThen_ok, Instr.sureAddr, if_pos hc, hE.run_size w hs, Int.toNat_natCast, addr_add, Nat.add_assoc]
    · trivial
  · trivial
theorem s_idxS (hE : E.Ok P) (hr : HR E P B β h w) {t e n : Nat} (ht : E.und t = some (.slice e)) (hs : E.size e = some n) {x i : DX} {ev : Ev} {vx vi : Value} (hv : VR β (ev x) vx) (hi : VR β (ev i) vi) :
    NV E P B β w h (oIdxS n x i ev h) ((Instr.indexAt t vx vi).run P w) := by
  unfold oIdxS
  split
  · rename_i d off len cap op k m hd hm
    rw [hd] at hv; rw [hm] at hi
    rw [hi.int_inv]
    obtain ⟨L, c', hL, rfl⟩ : ∃ L c', β d = some L ∧ vx = .slice (some ⟨L.r, L.o + off, none⟩) len c' := by
      cases hv with
      | sliceC _ _ _ _ L h => exact ⟨L, _, h, rfl⟩
      | sliceO _ _ _ _ L h => exact ⟨L, _, h, rfl⟩
    unfold ptrO
    split
    · rename_i j hj
      obtain ⟨rfl, hlt⟩ := inB_some hj
      refine NV.pure hr (VR.ptr d (off + j * n) L hL) ?_
      have hc : 0 ≤ (j : Int) ∧ (j : Int) < len := ⟨by omega, by omega⟩
      simp only [Instr.indexAt, asIntOf, Sem.run_bind, Sem.run_pure, hE.run_und w ht, Result.andThen_ok, Instr.sureAddr, if_pos hc, hE.run_size w hs, Int.toNat_natCast, addr_add, Nat.add_assoc]
    · trivial
  · trivial
theorem s_idxV (hE : E.Ok P) (hr : HR E P B β h w) {t len e n : Nat} {a : Bool} (ht : E.und t = some (.array len e)) (hs : E.size e = some n) (ha : E.ag e = some a) {x i : DX} {ev : Ev} {vx vi : Value} (hv : VR β (ev x) vx) (hi : VR β (ev i) vi) :
    NV E P B β w h (oIdxV len n a x i ev h) ((Instr.index t vx vi).run P w) := by
  unfold oIdxV
  split
  · rename_i cs k m hd hm
    rw [hd] at hv; rw [hm] at hi
    obtain ⟨l', rfl, g1, g2⟩ := hv.agg_inv
    rw [hi.int_inv]
    split
    · rename_i j hj
      obtain ⟨rfl, hlt⟩ := inB_some hj
      refine NV.valO hr fun v hv => ?_
      obtain ⟨v', k1, k2⟩ := partV_run (w := w) hE ha hs g1 g2 hv
      refine ⟨v', ?_, k2⟩
      have hc : 0 ≤ (j : Int) ∧ (j : Int) < len := ⟨by omega, by omega⟩
      simp only [Instr.index, asIntOf, Sem.run_bind, Sem.run_pure, hE.run_und w ht, Result.andThen_ok, if_pos hc, hE.run_size w hs, Int.toNat_natCast, k1]
    · trivial
  · trivial
theorem s_idxStr (hE : E.Ok P) (hr : HR E P B β h w) {t : Nat} (ht : E.und t = some .string) {x i : DX} {ev : Ev} {vx vi : Value} (hv : VR β (ev x) vx) (hi : VR β (ev i) vi) :
    NV E P B β w h (oIdxStr x i ev h) ((Instr.index t vx vi).run P w) := by
  unfold oIdxStr
  split
  · rename_i l k m hd hm
    rw [hd] at hv; rw [hm] at hi
    obtain ⟨s, rfl, rfl⟩ := hv.str_inv
    rw [hi.int_inv]
    split
    · rename_i j
      refine NV.valO hr fun v hv => ?_
      rw [lget_eq, List.getElem?_map] at hv
      cases hb : s.data.toList[j]? with
      | none => rw [hb] at hv; cases hv
      | some b =>
        rw [hb] at hv; cases hv
        have hlt : j < s.size := by
          have := (List.getElem?_eq_some_iff.1 hb).1
          simpa using this
        have hb2 : s[j]? = some b := by
          rw [ByteArray.getElem?_lt' s j hlt]
          have := (List.getElem?_eq_some_iff.1 hb).2
          rw [← this]; rfl
        refine ⟨.int .u8 b.toNat, ?_, .int _ _⟩
        have hc : 0 ≤ Int.ofNat j := by simp
        have hj : (Int.ofNat j).toNat = j := rfl
        simp only [Instr.index, asIntOf, Sem.run_bind, Sem.run_pure, hE.run_und w ht, Result.andThen_ok, if_pos hc, hj, hb2]
    · trivial
  · trivial
theorem s_ext (hr : HR E P B β h w) {i : Nat} {x : DX} {ev : Ev} {vx : Value} (hv : VR β (ev x) vx) : NV E P B β w h (oExt i x ev h) ((Instr.extract vx i).run P w) := by
  unfold oExt
  split
  · rename_i l hl
    rw [hl] at hv
    obtain ⟨l', rfl, g1⟩ := hv.tuple_inv
    refine NV.valO hr fun v hv => ?_
    rw [lget_eq] at hv
    obtain ⟨v', k1, k2⟩ := g1.get hv
    exact ⟨v', by simp only [Instr.extract, List.getElem?_toArray, k1, Sem.run_pure], k2⟩
  · trivial
theorem s_tas (hE : E.Ok P) (hr : HR E P B β h w) {t xt : Nat} {d : TypeDesc} (ht : E.und t = some d) (hd : ∀ ms, d ≠ .interface ms) {z : DV} (hz : zero E t = some z) {x : DX} {ev : Ev} {vx : Value} (hv : VR β (ev x) vx) :
    NV E P B β w h (oTas t z x ev h) ((Instr.typeAssert vx xt t true).run P w) := by
  obtain ⟨i, zv, h1, h2, h3, -⟩ := hE.zero hz
  have hfail : VR β (.tuple [z, .bool false]) (.tuple #[zv, .bool false]) := .tuple _ [_, _] (.cons _ _ _ _ (h3 β) (.cons _ _ _ _ (.bool _) .nil))
  unfold oTas
  split
  · rename_i hx
    rw [hx] at hv
    cases hv
    refine NV.pure hr hfail ?_
    simp only [Instr.typeAssert, Sem.run_bind, hE.run_und w ht, Result.andThen_ok]
    cases d <;> first | exact absurd rfl (hd _) | simp only [if_true, Sem.run_bind, run_zeroValue' w h1 h2, Result.andThen_ok, Sem.run_pure]
  · rename_i t' v hx
    rw [hx] at hv
    cases hv with
    | iface _ _ v' hv' =>
    rw [beq_dec]
    by_cases e : t' = t
    · subst e
      simp only [decide_true, cond_true]
      refine NV.pure hr (VR.tuple [v, .bool true] [v', .bool true] (.cons _ _ _ _ hv' (.cons _ _ _ _ (.bool _) .nil))) ?_
      simp only [Instr.typeAssert, Sem.run_bind, hE.run_und w ht, Result.andThen_ok]
      cases d <;> first | exact absurd rfl (hd _) | simp
    · simp only [e, decide_false, cond_false]
      refine NV.pure hr hfail ?_
      simp only [Instr.typeAssert, Sem.run_bind, hE.run_und w ht, Result.andThen_ok]
      cases d <;> first | exact absurd rfl (hd _) | (simp only [if_neg e]; simp only [if_true, Sem.run_bind, run_zeroValue' w h1 h2, Result.andThen_ok, Sem.run_pure])
  · trivial
end
end Go.Dm

namespace Go.Dm
open Go.RowKit (Below)

section
variable {E : Ti} {P : Program} {B : Bd} {β : Bt} {w : World} {h : H}

/-! ### Slices of slices -/
theorem intO_some {β : Bt} {o : Option DV} {o' : Option Value} (ho : ∀ v, o = some v → ∃ v', o' = some v' ∧ VR β v v') {v : DV} (h : o = some v) {d n : Nat} (hi : intO o d = some n) :
    ∃ k m, o' = some (.int k m) ∧ 0 ≤ m ∧ m.toNat = n := by
  subst h
  obtain ⟨v', h1, h2⟩ := ho v rfl
  cases v <;> simp only [intO] at hi <;> first | (cases hi; done) | skip
  rename_i k m
  split at hi
  · rename_i hm; cases hi; rw [h2.int_inv] at h1; exact ⟨k, m, h1, hm, rfl⟩
  · cases hi
theorem sliceBound_ok {k : IntKind} {m : Int} {y : Nat} {c : BoundsCode} (h0 : 0 ≤ m) (hy : m.toNat ≤ y) : (Instr.sliceBound (.int k m) y c).run P w = .ok m.toNat w := by
  have : 0 ≤ m ∧ m ≤ y := ⟨h0, by omega⟩
  simp only [Instr.sliceBound, asIntOf, Sem.run_bind, Sem.run_pure, Result.andThen_ok, if_pos this]

/-- the bounds of a slice of a slice: there, and here, where the capacity may be greater -/
theorem sliceBounds_run {isS : Bool} {len cap cap' : Nat} {lo hi mx : Option DV} {lo' hi' mx' : Option Value} (hlo : ∀ v, lo = some v → ∃ v', lo' = some v' ∧ VR β v v') (hhi : ∀ v, hi = some v → ∃ v', hi' = some v' ∧ VR β v v')
    (hmx : ∀ v, mx = some v → ∃ v', mx' = some v' ∧ VR β v v') (nlo : lo = none → lo' = none) (nhi : hi = none → hi' = none) (nmx : mx = none → mx' = none)
    {l hh m : Nat} (e1 : intO lo 0 = some l) (e2 : intO hi len = some hh) (e3 : intO mx cap = some m) (hl : l ≤ hh) (hm : hh ≤ m) (hc : m ≤ cap) (hcc : cap ≤ cap') (hmh : mx ≠ none → hi ≠ none) :
    (Instr.sliceBounds isS len cap' lo' hi' mx').run P w = .ok (l, hh, if mx = none then cap' else m) w := by
  cases hmxe : mx with
  | none =>
    rw [nmx hmxe]
    rw [hmxe] at e3
    have e3' : cap = m := by simpa [intO] using e3
    subst e3'
    cases hhie : hi with
    | none =>
      rw [nhi hhie]
      rw [hhie] at e2
      have e2' : len = hh := by simpa [intO] using e2
      subst e2'
      cases hloe : lo with
      | none =>
        rw [nlo hloe]
        rw [hloe] at e1
        have e1' : 0 = l := by simpa [intO] using e1
        subst e1'
        simp only [Instr.sliceBounds, Sem.run_bind, Sem.run_pure, Result.andThen_ok, if_true]
      | some v =>
        obtain ⟨k, n, h1, h2, h3⟩ := intO_some hlo hloe e1
        rw [h1]
        simp only [Instr.sliceBounds, Sem.run_bind, Sem.run_pure, Result.andThen_ok, if_true, sliceBound_ok h2 (by omega : n.toNat ≤ len), h3]
    | some v2 =>
      obtain ⟨k2, n2, g1, g2, g3⟩ := intO_some hhi hhie e2
      rw [g1]
      have gb := fun c => sliceBound_ok (P := P) (w := w) (k := k2) (c := c) g2 (by omega : n2.toNat ≤ cap')
      cases hloe : lo with
      | none =>
        rw [nlo hloe]
        rw [hloe] at e1
        have e1' : 0 = l := by simpa [intO] using e1
        subst e1'
        simp only [Instr.sliceBounds, Sem.run_bind, Sem.run_pure, Result.andThen_ok, if_true, gb, g3]
      | some v =>
        obtain ⟨k, n, h1, h2, h3⟩ := intO_some hlo hloe e1
        rw [h1]
        simp only [Instr.sliceBounds, Sem.run_bind, Sem.run_pure, Result.andThen_ok, if_true, gb, g3, sliceBound_ok h2 (by omega : n.toNat ≤ hh), h3]
  | some v3 =>
    obtain ⟨k3, n3, f1, f2, f3⟩ := intO_some hmx hmxe e3
    rw [f1]
    have fb := fun c => sliceBound_ok (P := P) (w := w) (k := k3) (c := c) f2 (by omega : n3.toNat ≤ cap')
    cases hhie : hi with
    | none => exact absurd hhie (hmh (by rw [hmxe]; simp))
    | some v2 =>
      obtain ⟨k2, n2, g1, g2, g3⟩ := intO_some hhi hhie e2
      rw [g1]
      have gb := fun c => sliceBound_ok (P := P) (w := w) (k := k2) (c := c) g2 (by omega : n2.toNat ≤ m)
      cases hloe : lo with
      | none =>
        rw [nlo hloe]
        rw [hloe] at e1
        have e1' : 0 = l := by simpa [intO] using e1
        subst e1'
        simp only [Instr.sliceBounds, Sem.run_bind, Sem.run_pure, Result.andThen_ok, fb, f3, gb, g3]; simp
      | some v =>
        obtain ⟨k, n, h1, h2, h3⟩ := intO_some hlo hloe e1
        rw [h1]
        simp only [Instr.sliceBounds, Sem.run_bind, Sem.run_pure, Result.andThen_ok, fb, f3, gb, g3, sliceBound_ok h2 (by omega : n.toNat ≤ hh), h3]; simp

/-- an operand that may be missing -/
structure OptR (β : Bt) (o : Option DV) (o' : Option Value) : Prop where
  some : ∀ v, o = some v → ∃ v', o' = some v' ∧ VR β v v'
  none : o = none → o' = none
theorem slice_closed {d o l c : Nat} {L : Loc} (hL : β d = some L) : VR β (.slice (some (d, o)) l c false) (.slice (some ⟨L.r, L.o + o, none⟩) l c) := .sliceC d o l c L hL
/-- a slice of so much: what it is here -/
theorem sliceD_run {isS : Bool} {sz len cap : Nat} {a : Option (Nat × Nat)} {op : Bool} {va : Option Addr} {cap' : Nat}
    (hva : ∀ d o, a = some (d, o) → ∃ L, β d = some L ∧ va = some ⟨L.r, L.o + o, none⟩ ∧ cap' = if op then cap + L.x else cap) (hnone : a = none → va = none ∧ cap' = cap)
    {lo hi mx : Option DV} {lo' hi' mx' : Option Value} (hlo : OptR β lo lo') (hhi : OptR β hi hi') (hmx : OptR β mx mx') (hmh : mx ≠ none → hi ≠ none) {v : DV} (hv : sliceD sz (.slice a len cap op) lo hi mx = some v) :
    ∃ l hh m, (Instr.sliceBounds isS len cap' lo' hi' mx').run P w = .ok (l, hh, m) w ∧ VR β v (.slice (if m = l then va else va.map (·.add (l * sz))) (hh - l) (m - l)) := by
  simp only [sliceD] at hv
  split at hv
  · rename_i l hh m e1 e2 e3
    split at hv
    · rename_i hc
      obtain ⟨c1, c2, c3, c4⟩ := hc
      have hcc : cap ≤ cap' := by
        cases a with
        | none => rw [(hnone rfl).2]; exact Nat.le_refl _
        | some p => obtain ⟨L, -, -, h3⟩ := hva p.1 p.2 rfl; rw [h3]; split <;> omega
      refine ⟨l, hh, _, sliceBounds_run hlo.some hhi.some hmx.some hlo.none hhi.none hmx.none e1 e2 e3 c1 c2 c3 hcc hmh, ?_⟩
      -- a slice whose capacity is known
      have closed : ∀ M, m = M → (∀ d o, a = some (d, o) → ∃ L, β d = some L ∧ va = some ⟨L.r, L.o + o, none⟩) → (a = none → va = none) →
          VR β (.slice (if m = l then a else a.map fun (d, off) => (d, off + l * sz)) (hh - l) (m - l) false) (.slice (if M = l then va else va.map (·.add (l * sz))) (hh - l) (M - l)) := by
        rintro M rfl k1 k2
        cases a with
        | none =>
          rw [k2 rfl]
          have : cap = 0 := by simpa using c4
          have e4 : hh - l = 0 := by omega
          have e5 : m - l = 0 := by omega
          simp only [Option.map_none, ite_self, e4, e5]
          exact .sliceN _
        | some p =>
          obtain ⟨d, o⟩ := p
          obtain ⟨L, hL, hva'⟩ := k1 d o rfl
          rw [hva']
          split
          · exact slice_closed hL
          · simp only [Option.map_some, addr_add, Nat.add_assoc]; exact slice_closed hL
      have k1 : ∀ d o, a = some (d, o) → ∃ L, β d = some L ∧ va = some ⟨L.r, L.o + o, none⟩ := fun d o h => let ⟨L, x, y, _⟩ := hva d o h; ⟨L, x, y⟩
      have k2 : a = none → va = none := fun h => (hnone h).1
      cases hmxe : mx with
      | some v3 =>
        rw [hmxe] at hv
        simp only at hv
        cases hv
        simp only [reduceCtorEq, if_false]
        exact closed m rfl k1 k2
      | none =>
        rw [hmxe] at hv e3
        have e3' : cap = m := by simpa [intO] using e3
        subst e3'
        simp only [if_true]
        cases op with
        | false =>
          simp only at hv
          cases hv
          have : cap' = cap := by
            cases a with
            | none => exact (hnone rfl).2
            | some p => obtain ⟨L, -, -, h3⟩ := hva p.1 p.2 rfl; simpa using h3
          rw [this]
          exact closed cap rfl k1 k2
        | true =>
          simp only at hv
          cases a with
          | none => simp only at hv; cases hv
          | some p =>
            obtain ⟨d, o⟩ := p
            obtain ⟨L, hL, hva', hcap⟩ := hva d o rfl
            simp only [if_true] at hcap
            simp only at hv
            rw [hva']
            split at hv
            · rename_i hz
              obtain ⟨z1, z2⟩ := hz
              cases hv
              have e4 : hh - l = 0 := by omega
              rw [e4]
              by_cases hx : L.x = 0
              · have : cap' = l := by omega
                rw [if_pos this, this, Nat.sub_self]
                exact VR.sliceZ0' d (o + l * sz) o L hL hx (Nat.le_add_right _ _)
              · have : cap' ≠ l := by omega
                rw [if_neg this]
                have e5 : cap' - l = L.x := by omega
                simp only [Option.map_some, addr_add, Nat.add_assoc, e5]
                exact .sliceZ d (o + l * sz) o L hL hx
            · rename_i hz
              cases hv
              by_cases hx : cap' = l
              · rw [if_pos hx]
                have h0 : l = 0 := by
                  by_cases h0 : l = 0
                  · exact h0
                  · exact absurd ⟨by omega, h0⟩ hz
                subst h0
                have e6 : cap' - 0 = (cap - 0) + L.x := by omega
                rw [Nat.zero_mul, Nat.add_zero, e6]
                exact .sliceO d o (hh - 0) (cap - 0) L hL
              · rw [if_neg hx]
                have e6 : cap' - l = (cap - l) + L.x := by omega
                simp only [Option.map_some, addr_add, Nat.add_assoc, e6]
                exact .sliceO d (o + l * sz) (hh - l) (cap - l) L hL
    · cases hv
  · cases hv
theorem s_slSl (hE : E.Ok P) (hr : HR E P B β h w) {t e n : Nat} (ht : E.und t = some (.slice e)) (hs : E.size e = some n) {x : DX} {lo hi mx : Option DX} {ev : Ev} {vx : Value} {lo' hi' mx' : Option Value} (hv : VR β (ev x) vx)
    (hlo : OptR β (lo.map ev) lo') (hhi : OptR β (hi.map ev) hi') (hmx : OptR β (mx.map ev) mx') (hmh : mx ≠ none → hi ≠ none) : NV E P B β w h (oSlSl n x lo hi mx ev h) ((Instr.sliceAt t vx lo' hi' mx').run P w) := by
  refine NV.valO hr fun v hd => ?_
  have hmh' : mx.map ev ≠ none → hi.map ev ≠ none := by simpa using hmh
  have main : ∀ (va : Option Addr) (len cap' : Nat), vx = .slice va len cap' →
      (∃ l hh m, (Instr.sliceBounds true len cap' lo' hi' mx').run P w = .ok (l, hh, m) w ∧ VR β v (.slice (if m = l then va else va.map (·.add (l * n))) (hh - l) (m - l))) →
      ∃ v', (Instr.sliceAt t vx lo' hi' mx').run P w = .ok v' w ∧ VR β v v' := by
    rintro va len cap' rfl ⟨l, hh, m, h1, h2⟩
    refine ⟨_, ?_, h2⟩
    simp only [Instr.sliceAt, Sem.run_bind, hE.run_und w ht, Result.andThen_ok, Instr.slice, h1, hE.run_size w hs, Sem.run_pure]
  cases hx : ev x with
  | slice a len cap op =>
    rw [hx] at hv hd
    cases hv with
    | sliceN => exact main _ _ _ rfl (sliceD_run (fun _ _ e => by cases e) (fun _ => ⟨rfl, rfl⟩) hlo hhi hmx hmh' hd)
    | sliceC d o _ _ L hL => exact main _ _ _ rfl (sliceD_run (fun _ _ e => by cases e; exact ⟨L, hL, rfl, rfl⟩) (fun e => by cases e) hlo hhi hmx hmh' hd)
    | sliceO d o _ _ L hL => exact main _ _ _ rfl (sliceD_run (fun _ _ e => by cases e; exact ⟨L, hL, rfl, rfl⟩) (fun e => by cases e) hlo hhi hmx hmh' hd)
  | sliceZ d o alt =>
    rw [hx] at hv hd
    simp only [sliceD] at hd
    split at hd
    · rename_i e1 e2 e3
      cases hd
      have hmx' : mx' = none := hmx.none e3
      have key : ∀ (va : Addr) (cap' : Nat), vx = .slice (some va) 0 cap' → VR β (.sliceZ d o alt) (.slice (some va) 0 cap') → ∃ v', (Instr.sliceAt t vx lo' hi' mx').run P w = .ok v' w ∧ VR β (.sliceZ d o alt) v' := by
        rintro va cap' rfl hvr
        refine main _ _ _ rfl ⟨0, 0, cap', ?_, ?_⟩
        · have := sliceBounds_run (P := P) (w := w) (isS := true) (cap := cap') (cap' := cap') hlo.some hhi.some hmx.some hlo.none hhi.none hmx.none e1 e2 (m := cap') (by rw [e3]; rfl) (Nat.le_refl _) (Nat.zero_le _) (Nat.le_refl _) (Nat.le_refl _) hmh'
          rw [this, if_pos e3]
        · have : (if cap' = 0 then some va else (some va).map (·.add (0 * n))) = some va := by simp [Addr.add]
          rw [this]; exact hvr
      cases hv with
      | sliceZ _ _ _ L hL hx2 => exact key _ _ rfl (.sliceZ d o alt L hL hx2)
      | sliceZ0 _ _ _ L hL hx2 => exact key _ _ rfl (.sliceZ0 d o alt L hL hx2)
    · cases hd
  | _ => rw [hx] at hd; simp only [sliceD] at hd; cases hd
theorem s_slArr (hE : E.Ok P) (hr : HR E P B β h w) {t e len n : Nat} (ht : E.und t = some (.array len e)) (hs : E.size e = some n) {x : DX} {lo hi mx : Option DX} {ev : Ev} {vx : Value} {lo' hi' mx' : Option Value} (hv : VR β (ev x) vx)
    (hlo : OptR β (lo.map ev) lo') (hhi : OptR β (hi.map ev) hi') (hmx : OptR β (mx.map ev) mx') (hmh : mx ≠ none → hi ≠ none) : NV E P B β w h (oSlArr len n x lo hi mx ev h) ((Instr.sliceAt t vx lo' hi' mx').run P w) := by
  have hmh' : mx.map ev ≠ none → hi.map ev ≠ none := by simpa using hmh
  unfold oSlArr
  split
  · rename_i a hx
    obtain ⟨d, o⟩ := a
    rw [hx] at hv
    obtain ⟨L, hL, rfl⟩ := hv.ptr_inv
    refine NV.valO hr fun v hd => ?_
    obtain ⟨l, hh, m, h1, h2⟩ := sliceD_run (P := P) (w := w) (isS := false) (va := some ⟨L.r, L.o + o, none⟩) (cap' := len) (fun _ _ e => by cases e; exact ⟨L, hL, rfl, rfl⟩) (fun e => by cases e) hlo hhi hmx hmh' hd
    refine ⟨_, ?_, h2⟩
    simp only [Instr.sliceAt, Sem.run_bind, hE.run_und w ht, Result.andThen_ok, Instr.sureAddr, Sem.run_pure, h1, hE.run_size w hs]
    congr 2
    split <;> simp
  · trivial
theorem extract_toList (s : ByteArray) (l hh : Nat) : (s.extract l hh).data.toList = (s.data.toList.drop l).take (hh - l) := by
  rw [ByteArray.data_extract]; simp [List.extract_eq_take_drop]
theorem s_slStr (hE : E.Ok P) (hr : HR E P B β h w) {t : Nat} (ht : E.und t = some .string) {x : DX} {lo hi : Option DX} {ev : Ev} {vx : Value} {lo' hi' : Option Value} (hv : VR β (ev x) vx)
    (hlo : OptR β (lo.map ev) lo') (hhi : OptR β (hi.map ev) hi') : NV E P B β w h (oSlStr x lo hi ev h) ((Instr.sliceAt t vx lo' hi' none).run P w) := by
  unfold oSlStr
  split
  · rename_i s hx
    rw [hx] at hv
    obtain ⟨s, rfl, rfl⟩ := hv.str_inv
    have hlen : (s.data.toList.map UInt8.toNat).length = s.size := by simp
    split
    · rename_i l hh e1 e2
      split
      · rename_i hc
        rw [hlen] at hc e2
        have hb := sliceBounds_run (β := β) (P := P) (w := w) (isS := false) (len := s.size) (cap := s.size) (cap' := s.size) hlo.some hhi.some (mx := none) (mx' := none) (fun _ e => by cases e) hlo.none hhi.none (fun _ => rfl) e1 e2 (m := s.size) rfl hc.1 hc.2 (Nat.le_refl _) (Nat.le_refl _) (fun h => absurd rfl h)
        refine NV.pure hr (v' := .string (s.extract l hh)) ?_ ?_
        · have : ((s.data.toList.map UInt8.toNat).drop l).take (hh - l) = (s.extract l hh).data.toList.map UInt8.toNat := by
            rw [extract_toList]; simp [List.map_take, List.map_drop]
          rw [this]; exact .str _
        · simp only [Instr.sliceAt, Sem.run_bind, hE.run_und w ht, Result.andThen_ok, Instr.slice, Option.isSome_none, Bool.false_eq_true, if_false, Sem.run_pure, hb]
      · trivial
    · trivial
  · trivial

/-! ### Conversions, lengths -/
theorem s_toInt (hE : E.Ok P) (hr : HR E P B β h w) {s d : Nat} {k0 k : IntKind} (hs : E.und s = some (.int k0)) (hd : E.und d = some (.int k)) {x : DX} {ev : Ev} {vx : Value} (hv : VR β (ev x) vx) :
    NV E P B β w h (oToInt k x ev h) ((convert s d vx).run P w) := by
  unfold oToInt
  split
  · rename_i k1 n hx
    rw [hx] at hv
    rw [hv.int_inv, wrapF_eq]
    refine NV.pure hr (.int _ _) ?_
    simp only [convert, Sem.run_bind, hE.run_und w hs, hE.run_und w hd, Result.andThen_ok, Conv.intToInt, Sem.run_pure]
  · trivial
theorem s_same (hE : E.Ok P) (hr : HR E P B β h w) {s d : Nat} (hs : E.und s = some .string) (hd : E.und d = some .string) {x : DX} {ev : Ev} {vx : Value} (hv : VR β (ev x) vx) :
    NV E P B β w h (oSame x ev h) ((convert s d vx).run P w) := by
  unfold oSame
  split
  · rename_i l hl
    rw [hl] at hv
    have hv2 := hv
    obtain ⟨s', -, rfl⟩ := hv2.str_inv
    refine NV.pure hr hv ?_
    simp only [convert, Sem.run_bind, hE.run_und w hs, hE.run_und w hd, Result.andThen_ok, Sem.run_pure]
  · trivial
theorem bytesOf_some {β : Bt} {l : List DV} {r : List Nat} (h : bytesOf l = some r) {l' : List Value} (hl : VRs β l l') :
    ∃ bs : List UInt8, r = bs.map UInt8.toNat ∧ l' = bs.map fun b => Value.int .u8 (b.toNat : Nat) := by
  induction l generalizing r l' with
  | nil => cases hl; simp only [bytesOf] at h; cases h; exact ⟨[], rfl, rfl⟩
  | cons a l ih =>
    unfold bytesOf at h
    split at h
    · rename_i e; cases e
    · rename_i n r' e
      cases e
      split at h
      · rename_i hn
        cases hr : bytesOf l with
        | none => rw [hr] at h; cases h
        | some q =>
          rw [hr] at h; cases h
          cases hl with
          | cons _ _ _ _ h1 hs =>
            obtain ⟨bs, rfl, rfl⟩ := ih hr hs
            refine ⟨UInt8.ofNat n.toNat :: bs, ?_, ?_⟩
            · simp only [List.map_cons]; congr 1
              have : n.toNat < 256 := by omega
              simp [UInt8.toNat_ofNat', Nat.mod_eq_of_lt this]
            · rw [h1.int_inv]
              have : n.toNat < 256 := by omega
              simp only [List.map_cons, UInt8.toNat_ofNat', Nat.mod_eq_of_lt this]
              congr 2
              omega
      · cases h
    · cases h

/-- how long, and which cells: there and here -/
theorem lenOf_run {x : DV} {vx : Value} (hv : VR β x vx) {m : Nat} (hm : lenOf x = some m) : (Builtin.lenOf vx).run P w = .ok m w := by
  unfold lenOf at hm
  split at hm <;> first | (cases hm; done) | skip
  all_goals cases hm
  · cases hv; rfl
  · cases hv <;> rfl
  · cases hv <;> rfl
  · obtain ⟨s, h1, rfl⟩ := hv.str_inv
    subst h1
    simp only [Builtin.lenOf, Sem.run_pure, List.length_map, Array.length_toList]; rfl
theorem firstC_run (hr : HR E P B β h w) {sz : Nat} {x : DV} {vx : Value} (hv : VR β x vx) {m : Nat} (hm : lenOf x = some m) {new : List DV} (hc : firstC h sz x = some new) :
    ∃ vs : List Value, vs.length = m * sz ∧ VRs β new vs ∧ (∀ v ∈ vs, v.oneCell' = true) ∧ (Builtin.firstCells sz m vx).run P w = .ok vs.toArray w ∧
      (∀ w', w'.heap = w.heap → (Builtin.firstCells sz m vx).run P w' = .ok vs.toArray w') := by
  have cells : ∀ (a : Addr) (vs : List Value) (n len cap : Nat), vs.length = n * sz → (∀ j v, vs[j]? = some v → w.cell? (a.add j) = some v) →
      ∀ w', w'.heap = w.heap → (Builtin.firstCells sz n (.slice (some a) len cap)).run P w' = .ok vs.toArray w' := by
    intro a vs n len cap h1 h2 w' hw'
    exact run_firstCells_some w' sz n a len cap vs h1 (fun j v hj => by have := h2 j v hj; simpa [World.cell?, hw'] using this)
  unfold firstC at hc
  split at hc
  · cases hc; cases hm; cases hv
    exact ⟨[], by simp, .nil, by simp, rfl, fun _ _ => rfl⟩
  · rename_i d off n cap op
    have hm' : n = m := by simpa [lenOf] using hm
    subst hm'
    obtain ⟨L, c', hL, rfl⟩ : ∃ L c', β d = some L ∧ vx = .slice (some ⟨L.r, L.o + off, none⟩) n c' := by
      cases hv with
      | sliceC _ _ _ _ L h => exact ⟨L, _, h, rfl⟩
      | sliceO _ _ _ _ L h => exact ⟨L, _, h, rfl⟩
    split at hc
    · rename_i h0
      cases hc
      subst h0
      have := cells ⟨L.r, L.o + off, none⟩ [] 0 0 c' (by simp) (by simp)
      exact ⟨[], by simp, .nil, by simp, this w rfl, this⟩
    · obtain ⟨vs, h1, h2, h3, h4⟩ := rdN_cells hr hL hc
      have := cells ⟨L.r, L.o + off, none⟩ vs n n c' h1 h4
      exact ⟨vs, h1, h2, h3, this w rfl, this⟩
  · cases hc; cases hm
    cases hv with
    | sliceZ _ _ _ L hL hx => exact ⟨[], by simp, .nil, by simp, cells _ [] 0 _ _ (by simp) (by simp) w rfl, cells _ [] 0 _ _ (by simp) (by simp)⟩
    | sliceZ0 _ _ _ L hL hx => exact ⟨[], by simp, .nil, by simp, cells _ [] 0 _ _ (by simp) (by simp) w rfl, cells _ [] 0 _ _ (by simp) (by simp)⟩
  · rename_i s
    rw [beq_dec] at hc
    by_cases h1 : sz = 1
    · subst h1
      simp only [decide_true, cond_true] at hc
      cases hc
      simp only [lenOf] at hm
      cases hm
      obtain ⟨s', h1, rfl⟩ := hv.str_inv
      subst h1
      have e : (s'.extract 0 s'.size) = s' := by simp
      have run : ∀ w' : World, (Builtin.firstCells 1 (List.map UInt8.toNat s'.data.toList).length (.string s')).run P w' = .ok (s'.data.toList.map fun b => Value.int .u8 (b.toNat : Nat)).toArray w' := by
        intro w'
        have : (List.map UInt8.toNat s'.data.toList).length = s'.size := by simp
        simp only [Builtin.firstCells, this, e, Sem.run_pure]
        congr 1
        apply Array.ext'
        simp
      refine ⟨s'.data.toList.map fun b => Value.int .u8 (b.toNat : Nat), by simp, ?_, ?_, run w, fun w' _ => run w'⟩
      · rw [List.map_map]
        generalize s'.data.toList = l
        induction l with
        | nil => exact .nil
        | cons b l ih => exact .cons _ _ _ _ (.int _ _) ih
      · intro v hv
        obtain ⟨b, -, rfl⟩ := List.mem_map.1 hv
        rfl
    · simp only [h1, decide_false, cond_false] at hc; cases hc
  · cases hc
theorem s_toStr (hE : E.Ok P) (hr : HR E P B β h w) {s d e : Nat} (hs : E.und s = some (.slice e)) (hd : E.und d = some .string) (he : E.und e = some (.int .u8)) {x : DX} {ev : Ev} {vx : Value} (hv : VR β (ev x) vx) :
    NV E P B β w h (oToStr x ev h) ((convert s d vx).run P w) := by
  unfold oToStr
  split
  · trivial
  · rename_i n hn hns
    refine NV.valO hr fun v hd' => ?_
    cases hc : firstC h 1 (ev x) with
    | none => rw [hc] at hd'; cases hd'
    | some cs =>
      rw [hc] at hd'
      simp only [Option.bind_some] at hd'
      cases hb : bytesOf cs with
      | none => rw [hb] at hd'; cases hd'
      | some bs =>
        rw [hb] at hd'; cases hd'
        obtain ⟨vs, h1, h2, h3, h4, -⟩ := firstC_run hr hv hn hc
        obtain ⟨l, rfl, hvs⟩ := bytesOf_some hb h2
        refine ⟨.string ⟨l.toArray⟩, ?_, ?_⟩
        · have hloop : ∀ (l : List UInt8) (s0 : ByteArray),
              (forIn (l.map fun b => Value.int .u8 (b.toNat : Nat)) s0 (fun (c : Value) (__s : ByteArray) => (match c with
                | Value.int IntKind.u8 n => Pure.pure (ForInStep.yield (__s.push (UInt8.ofNat n.toNat)))
                | x => do
                  stuck "bytesToString: byte expected"
                  Pure.pure (ForInStep.yield __s) : Sem (ForInStep ByteArray)))).run P w = .ok (s0 ++ ⟨l.toArray⟩) w := by
            intro l
            induction l with
            | nil => intro s0; simp only [List.map_nil, List.forIn_nil, Sem.run_pure]; congr 1; apply ByteArray.ext; simp
            | cons b l ih =>
              intro s0
              simp only [List.map_cons, List.forIn_cons, Sem.run_bind, Sem.run_pure, Result.andThen_ok, ih, Int.toNat_natCast]
              congr 1
              apply ByteArray.ext
              apply Array.ext'
              simp
          have key : ∀ (a : Addr) (cap : Nat), vx = .slice (some a) n cap → (convert s d vx).run P w = .ok (.string ⟨l.toArray⟩) w := by
            rintro a cap rfl
            simp only [Builtin.firstCells, Nat.mul_one] at h4
            simp only [convert, Sem.run_bind, hE.run_und w hs, hE.run_und w hd, Result.andThen_ok, hE.run_und w he, Conv.bytesToString, h4, hvs, List.forIn_toArray, Sem.run_pure]
            refine Eq.trans (congrArg (fun r : Result ByteArray => r.andThen fun a w' => .ok (Value.string a) w') (hloop l ByteArray.empty)) ?_
            simp only [Result.andThen_ok]
            congr 2
          revert hn hns hc key
          generalize ev x = dx at hv
          intro hn hns hc key
          cases hv with
          | sliceN =>
            cases hc
            cases h2
            simp only [convert, Sem.run_bind, hE.run_und w hs, hE.run_und w hd, Result.andThen_ok, hE.run_und w he, Conv.bytesToString, Sem.run_pure]
            have : l = [] := by simpa using hvs.symm
            subst this
            rfl
          | sliceC _ _ _ _ L hL => simp only [lenOf, Option.some.injEq] at hn; subst hn; exact key _ _ rfl
          | sliceO _ _ _ _ L hL => simp only [lenOf, Option.some.injEq] at hn; subst hn; exact key _ _ rfl
          | sliceZ _ _ _ L hL => simp only [lenOf, Option.some.injEq] at hn; subst hn; exact key _ _ rfl
          | sliceZ0 _ _ _ L hL => simp only [lenOf, Option.some.injEq] at hn; subst hn; exact key _ _ rfl
          | str s => exact absurd rfl (hns _)
          | _ => simp only [lenOf] at hn; cases hn
        · exact .str ⟨l.toArray⟩
  · trivial
theorem s_len (hE : E.Ok P) (hr : HR E P B β h w) {t : Nat} {k : LK} (hk : match k with | .str => E.und t = some .string | .slice => ∃ e, E.und t = some (.slice e) | .map => ∃ a b, E.und t = some (.map a b)) {x : DX} {ev : Ev} {vx : Value} (hv : VR β (ev x) vx) (ty : Nat) (ts : List Nat) :
    NV E P B β w h (oLen k x ev h) ((Builtin.len_ (t :: ts).toArray ty #[vx]).run P w) := by
  refine NV.valO hr fun v hd => ?_
  cases hl : lenK k (ev x) h with
  | none => rw [hl] at hd; cases hd
  | some n =>
    rw [hl] at hd; cases hd
    refine ⟨.int .i64 (n : Nat), ?_, .int _ _⟩
    cases k with
    | str =>
      simp only at hk
      simp only [lenK] at hl
      split at hl
      · rename_i s hx
        cases hl
        rw [hx] at hv
        obtain ⟨s', rfl, rfl⟩ := hv.str_inv
        simp [Builtin.len_, run_underlying' w (hE.und hk), goInt]
      · cases hl
    | slice =>
      obtain ⟨e, he⟩ := hk
      simp only [lenK, lenS] at hl
      split at hl <;> first | (cases hl; done) | skip
      all_goals rename_i hx
      all_goals rw [hx] at hv
      all_goals cases hl
      all_goals cases hv
      all_goals simp [Builtin.len_, run_underlying' w (hE.und he), goInt]
    | map =>
      obtain ⟨a, b, he⟩ := hk
      simp only [lenK] at hl
      split at hl
      · rename_i hx
        cases hl
        rw [hx] at hv
        cases hv
        simp [Builtin.len_, run_underlying' w (hE.und he), goInt]
      · rename_i d hx
        split at hl
        · rename_i es hes
          cases hl
          rw [hx] at hv
          cases hv with
          | map _ L hL =>
          obtain ⟨-, es', clock, g1, g2⟩ := hr.obj d L _ hL hes
          have hlen : es'.size = es.length := by
            have : ∀ (l : List (DV × DV)) (m : List MapEntry), EntsR β l m → m.length = l.length := by
              intro l
              induction l with
              | nil => intro m hm; cases m with
                | nil => rfl
                | cons _ _ => exact hm.elim
              | cons a l ih => intro m hm; cases m with
                | nil => exact hm.elim
                | cons _ m => simp [ih m hm.2]
            have := this _ _ g2
            simpa using this
          simp [Builtin.len_, run_underlying' w (hE.und he), goInt, getObj, Sem.run, g1, hlen]
        · cases hl
      · cases hl
theorem s_cap (hE : E.Ok P) (hr : HR E P B β h w) {t e : Nat} (he : E.und t = some (.slice e)) {x : DX} {ev : Ev} {vx : Value} (hv : VR β (ev x) vx) (ty : Nat) (ts : List Nat) :
    NV E P B β w h (oCap x ev h) ((Builtin.cap_ (t :: ts).toArray ty #[vx]).run P w) := by
  unfold oCap
  split
  · rename_i hx
    rw [hx] at hv
    cases hv
    exact NV.pure hr (.int _ _) (by simp [Builtin.cap_, run_underlying' w (hE.und he), goInt])
  · rename_i hx
    rw [hx] at hv
    cases hv
    exact NV.pure hr (.int _ _) (by simp [Builtin.cap_, run_underlying' w (hE.und he), goInt])
  · trivial
theorem s_minI (hr : HR E P B β h w) {x y : DX} {ev : Ev} {vx vy : Value} (hx : VR β (ev x) vx) (hy : VR β (ev y) vy) (ts : Array Nat) (ty : Nat) :
    NV E P B β w h (oMinI x y ev h) ((Builtin.min_ ts ty #[vx, vy]).run P w) := by
  unfold oMinI
  split
  · rename_i k a k' b h1 h2
    rw [h1] at hx; rw [h2] at hy
    rw [hx.int_inv, hy.int_inv, iLe_eq]
    refine NV.pure hr (.int _ _) ?_
    simp only [Builtin.min_, List.foldlM_cons, List.foldlM_nil, Builtin.min2, Sem.run_bind, Sem.run_pure, Result.andThen_ok]
    by_cases hab : a ≤ b
    · simp [hab]; omega
    · have : b < a := by omega
      simp [hab, this]
  · trivial
theorem s_maxI (hr : HR E P B β h w) {x y : DX} {ev : Ev} {vx vy : Value} (hx : VR β (ev x) vx) (hy : VR β (ev y) vy) (ts : Array Nat) (ty : Nat) :
    NV E P B β w h (oMaxI x y ev h) ((Builtin.max_ ts ty #[vx, vy]).run P w) := by
  unfold oMaxI
  split
  · rename_i k a k' b h1 h2
    rw [h1] at hx; rw [h2] at hy
    rw [hx.int_inv, hy.int_inv, iLe_eq]
    refine NV.pure hr (.int _ _) ?_
    simp only [Builtin.max_, List.foldlM_cons, List.foldlM_nil, Builtin.max2, Sem.run_bind, Sem.run_pure, Result.andThen_ok]
    by_cases hab : b ≤ a
    · simp [hab]; omega
    · have : b > a := by omega
      simp [hab, this]
  · trivial
theorem s_un (hr : HR E P B β h w) {op : UnOp} {x : DX} {ev : Ev} {vx : Value} (hx : VR β (ev x) vx) : NV E P B β w h (oUn op x ev h) ((Op.unary op vx).run P w) := by
  unfold oUn
  split
  · rename_i k n h1
    rw [h1] at hx
    rw [hx.int_inv, wrapF_eq]
    refine NV.pure hr (.int _ _) ?_
    have : (0 : Int) - n = Int.neg n := by show 0 - n = -n; omega
    simp only [Op.unary, Op.intArith, Sem.run_pure, this]
  · rename_i k n h1
    rw [h1] at hx
    rw [hx.int_inv]
    exact NV.pure hr (.int _ _) rfl
  · rename_i b h1
    rw [h1] at hx
    rw [hx.bool_inv]
    exact NV.pure hr (.bool _) rfl
  · trivial
theorem s_bin (hr : HR E P B β h w) {op : BinOp} {x y : DX} {ev : Ev} {t : Nat} {vx vy : Value} {ox oy : Operand} (hx : VR β (ev x) vx) (hy : VR β (ev y) vy) :
    NV E P B β w h (oBin op x y ev h) ((do eqGuard op t ox oy vx vy; Go.binOp op t vx vy : Sem Value).run P w) := by
  refine NV.valO hr fun v hd => ?_
  have guard : (∀ a, vx ≠ .agg a) → vx ≠ .nilIface → (eqGuard op t ox oy vx vy).run P w = .ok () w := by
    intro h1 h2
    unfold eqGuard
    cases op <;> first | rfl | (cases vx <;> first | exact absurd rfl (h1 _) | exact absurd rfl h2 | rfl)
  cases hxe : ev x with
  | int k a =>
    cases hye : ev y with
    | int k' b =>
      rw [hxe, hye] at hd
      rw [hxe] at hx; rw [hye] at hy
      have e1 := hx.int_inv
      have e2 := hy.int_inv
      subst e1 e2
      rw [Sem.run_bind, guard (by simp) (by simp), Result.andThen_ok]
      by_cases c1 : op = .shl
      · subst c1; exact shI_run (left := true) rfl hd t
      · by_cases c2 : op = .shr
        · subst c2; exact shI_run (left := false) rfl hd t
        · have hd' : (if k = k' then binI op k a b else none) = some v := by
            rw [← hd]; cases op <;> first | rfl | exact absurd rfl c1 | exact absurd rfl c2
          split at hd'
          · rename_i hk; subst hk; exact binI_run c1 c2 hd' t
          · cases hd'
    | _ => rw [hxe, hye] at hd; simp only [bin] at hd; cases hd
  | str a =>
    cases hye : ev y with
    | str b =>
      rw [hxe, hye] at hd
      rw [hxe] at hx; rw [hye] at hy
      obtain ⟨s, rfl, rfl⟩ := hx.str_inv
      obtain ⟨s2, rfl, rfl⟩ := hy.str_inv
      rw [Sem.run_bind, guard (by simp) (by simp), Result.andThen_ok]
      exact binS_run hd t
    | _ => rw [hxe, hye] at hd; simp only [bin] at hd; cases hd
  | _ => rw [hxe] at hd; simp only [bin] at hd; cases hd
end
end Go.Dm
