/- Operations, part 7: comparisons. Operations, part 8: comparisons, maps. Operations, part 9: maps. What an operation comes to there is what it comes to here. -/
import Derived.Test.YtbmcloahjiimeaaGreatDoorDmOb
import Derived.ChangeKeysEq
set_option linter.all false
namespace Go.Dm
open Go.RowKit (Below)

/-! ### Cells compared one by one -/
theorem beqs_cons (c : CK) (cs : List CK) (x y : DV) (xs ys : List DV) : beqs (c :: cs) (x :: xs) (y :: ys) = (beq1 c x y).bind fun a => (beqs cs xs ys).bind fun b => some (a && b) := by
  simp only [beqs]
  cases beq1 c x y with
  | none => rfl
  | some a => cases a <;> cases beqs cs xs ys <;> rfl
theorem beqs_length {l : List CK} {xs ys : List DV} {b : Bool} (h : beqs l xs ys = some b) : xs.length = l.length ∧ ys.length = l.length := by
  induction l generalizing xs ys b with
  | nil => cases xs <;> cases ys <;> simp [beqs] at h ⊢
  | cons c l ih =>
    cases xs with
    | nil => simp [beqs] at h
    | cons x xs => cases ys with
      | nil => simp [beqs] at h
      | cons y ys =>
        rw [beqs_cons] at h
        cases h1 : beq1 c x y with
        | none => rw [h1] at h; cases h
        | some a => cases h2 : beqs l xs ys with
          | none => rw [h1, h2] at h; cases h
          | some a2 => have := ih h2; simp [this]
theorem beqs_append {l m : List CK} {xs ys : List DV} {b : Bool} (h : beqs (l ++ m) xs ys = some b) :
    ∃ b1 b2, beqs l (xs.take l.length) (ys.take l.length) = some b1 ∧ beqs m (xs.drop l.length) (ys.drop l.length) = some b2 ∧ b = (b1 && b2) := by
  induction l generalizing xs ys b with
  | nil => exact ⟨true, b, by simp [beqs], by simpa using h, by simp⟩
  | cons c l ih =>
    cases xs with
    | nil => simp [beqs] at h
    | cons x xs => cases ys with
      | nil => simp [beqs] at h
      | cons y ys =>
        rw [List.cons_append, beqs_cons] at h
        cases h1 : beq1 c x y with
        | none => rw [h1] at h; cases h
        | some a => cases h2 : beqs (l ++ m) xs ys with
          | none => rw [h1, h2] at h; cases h
          | some a2 =>
            rw [h1, h2] at h
            cases h
            obtain ⟨b1, b2, k1, k2, rfl⟩ := ih h2
            refine ⟨a && b1, b2, ?_, by simpa using k2, by rw [Bool.and_assoc]⟩
            simp only [List.length_cons, List.take_succ_cons, beqs_cons, h1, k1, Option.bind_some]

section
variable {E : Ti} {P : Program} {B : Bd} {β : Bt} {w : World} {h : H}

/-! ### Flat types -/
theorem flatF_cons {g : Nat → Option (List CK)} {o : Nat} {f : Field} {r : List Field} {l : List CK} (h : flatF g o (f :: r) = some l) :
    ∃ l1 m, g f.type = some l1 ∧ f.offset = o ∧ f.name ≠ "_" ∧ flatF g (o + l1.length) r = some m ∧ l = l1 ++ m := by
  simp only [flatF] at h
  split at h
  · rename_i l1 h1
    split at h
    · rename_i hc
      split at h
      · rename_i m hm; cases h; exact ⟨l1, m, h1, hc.1, hc.2, hm, rfl⟩
      · cases h
    · cases h
  · cases h
/-- what a flat type is -/
inductive Flat (E : Ti) (d t : Nat) (l : List CK) : Prop where
  | bool (hu : E.und t = some .bool) (hl : l = [.bool])
  | int (k : IntKind) (hu : E.und t = some (.int k)) (hl : l = [.int])
  | str (hu : E.und t = some .string) (hl : l = [.str])
  | struct (fs : Array Field) (hu : E.und t = some (.struct fs)) (hf : flatF (flat E d) 0 fs.toList = some l) (hh : E.held t = false)
  | array (len e : Nat) (l1 : List CK) (hu : E.und t = some (.array len e)) (hf : flat E d e = some l1) (hl : l = repK len l1)
theorem repK_length (n : Nat) (l : List CK) : (repK n l).length = l.length * n := by
  induction n with
  | zero => simp [repK]
  | succ n ih => simp only [repK, List.length_append, ih, Nat.mul_succ]; omega
theorem flat_inv {d t : Nat} {l : List CK} (h : flat E (d + 1) t = some l) : Flat E d t l ∧ E.size t = some l.length := by
  unfold flat at h
  split at h
  · rename_i n hu hs
    split at h
    · rename_i hn; cases h; exact ⟨.bool hu rfl, by rw [hs, hn]; rfl⟩
    · cases h
  · rename_i k n hu hs
    split at h
    · rename_i hn; cases h; exact ⟨.int k hu rfl, by rw [hs, hn]; rfl⟩
    · cases h
  · rename_i n hu hs
    split at h
    · rename_i hn; cases h; exact ⟨.str hu rfl, by rw [hs, hn]; rfl⟩
    · cases h
  · rename_i fs n hu hs
    split at h
    · rename_i l' hf
      split at h
      · rename_i hn; cases h; exact ⟨.struct fs hu hf hn.2, by rw [hs, hn.1]⟩
      · cases h
    · cases h
  · rename_i len e n hu hs
    split at h
    · rename_i l1 hf
      split at h
      · rename_i hn; cases h; exact ⟨.array len e l1 hu hf rfl, by rw [hs, repK_length, hn]⟩
      · cases h
    · cases h
  · cases h
theorem flat_pos {d t : Nat} {l : List CK} (h : flat E d t = some l) : ∃ d', d = d' + 1 := by
  cases d with
  | zero => simp [flat] at h
  | succ d => exact ⟨d, rfl⟩
theorem flat_ag {d t : Nat} {l : List CK} (h : flat E d t = some l) : ∃ a, E.ag t = some a := by
  obtain ⟨d, rfl⟩ := flat_pos h
  cases (flat_inv h).1 with
  | bool hu => exact ⟨false, by simp [Ti.ag, hu]⟩
  | int k hu => exact ⟨false, by simp [Ti.ag, hu]⟩
  | str hu => exact ⟨false, by simp [Ti.ag, hu]⟩
  | struct fs hu => exact ⟨true, by simp [Ti.ag, hu]⟩
  | array len e l1 hu => exact ⟨true, by simp [Ti.ag, hu]⟩
theorem flat_size {d t : Nat} {l : List CK} (h : flat E d t = some l) : E.size t = some l.length := by
  obtain ⟨d, rfl⟩ := flat_pos h
  exact (flat_inv h).2
/-- a value of a type, by its cells -/
def Sh (E : Ti) (t : Nat) (x : Value) (xs : List Value) : Prop := (E.ag t = some true → x = .agg xs.toArray) ∧ (E.ag t = some false → xs = [x])
theorem part_run (hE : E.Ok P) {t n : Nat} {a : Bool} (ha : E.ag t = some a) (hs : E.size t = some n) (h1 : a = false → n = 1) (xs : List Value) (off : Nat) (hle : n ≠ 0 → off + n ≤ xs.length) :
    ∃ x, (part t xs.toArray off).run P w = .ok x w ∧ Sh E t x ((xs.drop off).take n) := by
  cases a with
  | true =>
    refine ⟨.agg (xs.toArray.extract off (off + n)), ?_, ⟨fun _ => ?_, fun h => (by rw [ha] at h; cases h)⟩⟩
    · simp only [part, Sem.run_bind, hE.run_isAgg w ha, Result.andThen_ok, if_true, hE.run_size w hs, Sem.run_pure]
    · simp [List.extract_toArray, List.extract_eq_take_drop]
  | false =>
    have hn := h1 rfl
    subst hn
    have hlt : off < xs.length := by omega
    refine ⟨xs[off], ?_, ⟨fun h => (by rw [ha] at h; cases h), fun _ => ?_⟩⟩
    · simp only [part, Sem.run_bind, hE.run_isAgg w ha, Result.andThen_ok, Bool.false_eq_true, if_false, List.getElem?_toArray, List.getElem?_eq_getElem hlt, Sem.run_pure]
    · rw [List.drop_eq_getElem_cons hlt]; rfl
theorem flat_one {d t : Nat} {l : List CK} (h : flat E d t = some l) (ha : E.ag t = some false) : l.length = 1 := by
  obtain ⟨d, rfl⟩ := flat_pos h
  cases (flat_inv h).1 with
  | bool hu hl => rw [hl]; rfl
  | int k hu hl => rw [hl]; rfl
  | str hu hl => rw [hl]; rfl
  | struct fs hu => simp [Ti.ag, hu] at ha
  | array len e l1 hu => simp [Ti.ag, hu] at ha
theorem flat_part (hE : E.Ok P) {d t : Nat} {l : List CK} (h : flat E d t = some l) (xs : List Value) (off : Nat) (hle : l.length ≠ 0 → off + l.length ≤ xs.length) :
    ∃ x, (part t xs.toArray off).run P w = .ok x w ∧ Sh E t x ((xs.drop off).take l.length) := by
  obtain ⟨a, ha⟩ := flat_ag h
  exact part_run hE ha (flat_size h) (fun e => by subst e; exact flat_one h ha) xs off hle

/-- what a comparison is of: all of its cells -/
theorem equalIn_flat (hE : E.Ok P) : ∀ (d t : Nat) (l : List CK), flat E d t = some l → ∀ k, d ≤ k → ∀ (dx dy : List DV) (xs ys : List Value) (x y : Value) (b : Bool), VRs β dx xs → VRs β dy ys → Sh E t x xs → Sh E t y ys →
    beqs l dx dy = some b → (Op.equalIn k t x y).run P w = .ok b w := by
  intro d
  induction d with
  | zero => intro t l h; simp [flat] at h
  | succ d ih =>
    intro t l h k hk dx dy xs ys x y b hx hy sx sy hb
    obtain ⟨k, rfl⟩ : ∃ k', k = k' + 1 := ⟨k - 1, by omega⟩
    obtain ⟨hlx, hly⟩ := beqs_length hb
    have single : ∀ c, l = [c] → E.ag t = some false → ∃ a a' , dx = [a] ∧ dy = [a'] ∧ VR β a x ∧ VR β a' y ∧ beq1 c a a' = some b := by
      rintro c rfl ha
      have e1 := sx.2 ha
      have e2 := sy.2 ha
      subst e1 e2
      cases hx with
      | cons a _ l1 _ v1 vs1 => cases vs1; cases hy with
        | cons a' _ l2 _ v2 vs2 => cases vs2
                                   refine ⟨a, a', rfl, rfl, v1, v2, ?_⟩
                                   rw [beqs_cons] at hb
                                   cases h1 : beq1 c a a' with
                                   | none => rw [h1] at hb; cases hb
                                   | some q => rw [h1] at hb; simpa [beqs] using hb
    cases (flat_inv h).1 with
    | bool hu hl =>
      obtain ⟨a, a', -, -, v1, v2, h1⟩ := single _ hl (by simp [Ti.ag, hu])
      simp only [beq1] at h1
      split at h1
      · cases h1
        rw [v1.bool_inv, v2.bool_inv]
        exact run_equalIn_bool w k t _ _ (hE.und hu)
      · cases h1
    | int kk hu hl =>
      obtain ⟨a, a', -, -, v1, v2, h1⟩ := single _ hl (by simp [Ti.ag, hu])
      simp only [beq1] at h1
      split at h1
      · split at h1
        · rename_i hkk; subst hkk
          cases h1
          rw [v1.int_inv, v2.int_inv]
          exact run_equalIn_int w k t _ _ _ _ (hE.und hu)
        · cases h1
      · cases h1
    | str hu hl =>
      obtain ⟨a, a', -, -, v1, v2, h1⟩ := single _ hl (by simp [Ti.ag, hu])
      simp only [beq1] at h1
      split at h1
      · cases h1
        obtain ⟨s1, rfl, rfl⟩ := v1.str_inv
        obtain ⟨s2, rfl, rfl⟩ := v2.str_inv
        rw [beq_toNat, ← ByteArray.toList_eq, ← ByteArray.toList_eq]
        exact run_equalIn_string w k t _ _ (hE.und hu)
      · cases h1
    | struct fs hu hf hh =>
      have e1 := sx.1 (by simp [Ti.ag, hu])
      have e2 := sy.1 (by simp [Ti.ag, hu])
      subst e1 e2
      have hfo : P.fieldsOf t = fs := by simp [Program.fieldsOf, hE.und hu]
      rw [run_equalIn_struct w k t _ _ (by rw [hfo]; exact hE.und hu) (hE.held t hh), hfo]
      -- field by field
      have loop : ∀ (fs : List Field) (o : Nat) (m : List CK), flatF (flat E d) o fs = some m → ∀ b, beqs m (dx.drop o) (dy.drop o) = some b →
          (Op.eqFields k xs.toArray ys.toArray fs).run P w = .ok b w := by
        intro fs
        induction fs with
        | nil =>
          intro o m hm b hb
          simp only [flatF] at hm; cases hm
          have := beqs_length hb
          have e1 : dx.drop o = [] := List.length_eq_zero_iff.1 this.1
          have e2 : dy.drop o = [] := List.length_eq_zero_iff.1 this.2
          rw [e1, e2] at hb
          simp only [beqs] at hb; cases hb
          rfl
        | cons f fs ihf =>
          intro o m hm b hb
          obtain ⟨l1, m', g1, g2, g3, g4, rfl⟩ := flatF_cons hm
          obtain ⟨b1, b2, q1, q2, rfl⟩ := beqs_append hb
          have hlen := beqs_length hb
          simp only [List.length_drop, List.length_append] at hlen
          have hle1 : l1.length ≠ 0 → o + l1.length ≤ xs.length := fun h0 => by
            have := hx.length
            omega
          have hle2 : l1.length ≠ 0 → o + l1.length ≤ ys.length := fun h0 => by
            have := hy.length
            omega
          obtain ⟨p1, r1, s1⟩ := flat_part (w := w) hE g1 xs o hle1
          obtain ⟨p2, r2, s2⟩ := flat_part (w := w) hE g1 ys o hle2
          have heq := ih f.type l1 g1 k (by omega) _ _ _ _ p1 p2 b1 ((hx.drop o).take _) ((hy.drop o).take _) s1 s2 q1
          have hrest := ihf (o + l1.length) m' g4 b2 (by rw [List.drop_drop, List.drop_drop] at q2; exact q2)
          simp only [Op.eqFields, if_pos g3, Sem.run_bind, g2, r1, r2, Result.andThen_ok, heq]
          cases b1
          · simp
          · simpa using hrest
      exact loop fs.toList 0 l hf b (by simpa using hb)
    | array len e l1 hu hf hl =>
      have e1 := sx.1 (by simp [Ti.ag, hu])
      have e2 := sy.1 (by simp [Ti.ag, hu])
      subst e1 e2 hl
      rw [repK_length] at hlx hly
      have loop : ∀ (n s : Nat), s + n = len → ∀ b, beqs (repK n l1) (dx.drop (s * l1.length)) (dy.drop (s * l1.length)) = some b →
          (Op.eqItems k e l1.length xs.toArray ys.toArray (List.range' s n)).run P w = .ok b w := by
        intro n
        induction n with
        | zero =>
          intro s hs b hb
          simp only [repK] at hb
          have := beqs_length hb
          have e1 : dx.drop (s * l1.length) = [] := List.length_eq_zero_iff.1 this.1
          have e2 : dy.drop (s * l1.length) = [] := List.length_eq_zero_iff.1 this.2
          rw [e1, e2] at hb
          simp only [beqs] at hb; cases hb
          rfl
        | succ n ihn =>
          intro s hs b hb
          simp only [repK] at hb
          obtain ⟨b1, b2, q1, q2, rfl⟩ := beqs_append hb
          have hmul : s * l1.length + l1.length ≤ l1.length * len := by
            have : (s + 1) * l1.length ≤ len * l1.length := Nat.mul_le_mul_right _ (by omega)
            rw [Nat.succ_mul] at this
            rw [Nat.mul_comm l1.length len]; exact this
          have hlenx := hx.length
          have hleny := hy.length
          obtain ⟨p1, r1, s1⟩ := flat_part (w := w) hE hf xs (s * l1.length) (fun _ => by omega)
          obtain ⟨p2, r2, s2⟩ := flat_part (w := w) hE hf ys (s * l1.length) (fun _ => by omega)
          have heq := ih e l1 hf k (by omega) _ _ _ _ p1 p2 b1 ((hx.drop _).take _) ((hy.drop _).take _) s1 s2 q1
          have hrest := ihn (s + 1) (by omega) b2 (by rw [List.drop_drop, List.drop_drop] at q2; rw [Nat.succ_mul]; exact q2)
          simp only [List.range'_succ, Op.eqItems, Sem.run_bind, r1, r2, Result.andThen_ok, heq]
          cases b1
          · simp
          · simpa using hrest
      have := loop len 0 (by omega) b (by simpa using hb)
      obtain ⟨i, hi, his⟩ := hE.size (flat_size hf)
      rw [run_equalIn_array w k xs.toArray ys.toArray (hE.und hu) hi, cellsOf_eq hi, his, List.range_eq_range']
      exact this
end
end Go.Dm

namespace Go.Dm
open Go.RowKit (Below)

section
variable {E : Ti} {P : Program} {B : Bd} {β : Bt} {w : World} {h : H}

theorem flat_guard (hE : E.Ok P) : ∀ (d t : Nat) (l : List CK), flat E d t = some l → ∀ k, d ≤ k → P.eqGuardType k t = false := by
  intro d
  induction d with
  | zero => intro t l h; simp [flat] at h
  | succ d ih =>
    intro t l h k hk
    obtain ⟨k, rfl⟩ : ∃ k', k = k' + 1 := ⟨k - 1, by omega⟩
    cases (flat_inv h).1 with
    | bool hu => simp [Program.eqGuardType, hE.und hu]
    | int k hu => simp [Program.eqGuardType, hE.und hu]
    | str hu => simp [Program.eqGuardType, hE.und hu]
    | struct fs hu hf =>
      have loop : ∀ (fs : List Field) (o : Nat) (m : List CK), flatF (flat E d) o fs = some m → (fs.any fun f => f.name != "_" && P.eqGuardType k f.type) = false := by
        intro fs
        induction fs with
        | nil => intros; rfl
        | cons f fs ihf =>
          intro o m hm
          obtain ⟨l1, m', g1, g2, g3, g4, rfl⟩ := flatF_cons hm
          rw [List.any_cons, ih f.type l1 g1 k (by omega), ihf _ _ g4]; simp
      simp only [Program.eqGuardType, hE.und hu]
      rw [← Array.any_toList]
      exact loop fs.toList 0 l hf
    | array len e l1 hu hf => simp only [Program.eqGuardType, hE.und hu]; exact ih e l1 hf k (by omega)

theorem checkKey_flat (hE : E.Ok P) (em : Bool) : ∀ (d t : Nat) (l : List CK), flat E d t = some l → ∀ k, d ≤ k → ∀ (x : Value) (xs : List Value), Sh E t x xs → xs.length = l.length → (Instr.checkKey em k t x).run P w = .ok () w := by
  intro d
  induction d with
  | zero => intro t l h; simp [flat] at h
  | succ d ih =>
    intro t l h k hk x xs sx hl
    obtain ⟨k, rfl⟩ : ∃ k', k = k' + 1 := ⟨k - 1, by omega⟩
    cases (flat_inv h).1 with
    | bool hu => simp only [Instr.checkKey, Sem.run_bind, hE.run_und w hu, Result.andThen_ok]; cases x <;> rfl
    | int kk hu => simp only [Instr.checkKey, Sem.run_bind, hE.run_und w hu, Result.andThen_ok]; cases x <;> rfl
    | str hu => simp only [Instr.checkKey, Sem.run_bind, hE.run_und w hu, Result.andThen_ok]; cases x <;> rfl
    | struct fs hu hf =>
      have e1 := sx.1 (by simp [Ti.ag, hu])
      subst e1
      have loop : ∀ (fs : List Field) (o : Nat) (m : List CK), flatF (flat E d) o fs = some m → o + m.length = xs.length →
          (forIn (m := Sem) fs PUnit.unit (fun (f : Field) (_ : PUnit) => (do
            if f.name ≠ "_" then
              Instr.checkKey em k f.type (← part f.type xs.toArray f.offset)
              Pure.pure (ForInStep.yield PUnit.unit)
            else Pure.pure (ForInStep.yield PUnit.unit)))).run P w = .ok PUnit.unit w := by
        intro fs
        induction fs with
        | nil => intros; rfl
        | cons f fs ihf =>
          intro o m hm ho
          obtain ⟨l1, m', g1, g2, g3, g4, rfl⟩ := flatF_cons hm
          simp only [List.length_append] at ho
          obtain ⟨p1, r1, s1⟩ := flat_part (w := w) hE g1 xs o (fun _ => by omega)
          have hc := ih f.type l1 g1 k (by omega) p1 _ s1 (by simp; omega)
          simp only [List.forIn_cons, if_pos g3, Sem.run_bind, g2, r1, Result.andThen_ok, hc, Sem.run_pure]
          exact ihf (o + l1.length) m' g4 (by omega)
      simp only [Instr.checkKey, Sem.run_bind, hE.run_und w hu, Result.andThen_ok]
      rw [← Array.forIn_toList]
      have := loop fs.toList 0 l hf (by omega)
      simp only [Sem.run_pure]
      first | exact this | (simp only [this]; done) | (rw [this]; rfl)
    | array len e l1 hu hf hle =>
      have e1 := sx.1 (by simp [Ti.ag, hu])
      subst e1 hle
      rw [repK_length] at hl
      obtain ⟨i, hi, his⟩ := hE.size (flat_size hf)
      simp only [Instr.checkKey, Sem.run_bind, hE.run_und w hu, Result.andThen_ok]
      simp only [Std.Legacy.Range.forIn_eq_forIn_range', Std.Legacy.Range.size, Nat.sub_zero, Nat.add_one_sub_one, Nat.div_one]
      have hall : ∀ j ∈ List.range' 0 len, (j + 1) * l1.length ≤ xs.length := by
        intro j hj
        have hj' : j < len := by simpa using hj
        rw [hl, Nat.mul_comm l1.length len]
        exact Nat.mul_le_mul_right _ hj'
      generalize List.range' 0 len = is at hall ⊢
      induction is with
      | nil => rfl
      | cons j is ihl =>
        have hj := hall j (by simp)
        rw [Nat.succ_mul] at hj
        obtain ⟨p1, r1, s1⟩ := flat_part (w := w) hE hf xs (j * l1.length) (fun _ => by omega)
        have hc := ih e l1 hf k (by omega) p1 _ s1 (by simp; omega)
        simp only [List.forIn_cons, Sem.run_bind, run_sizeOf' w hi, his, Result.andThen_ok, r1, hc, Sem.run_pure]
        exact ihl (fun y hy => hall y (by simp [hy]))

/-! ### Comparisons -/
theorem ckey_flat {t : Nat} {p : Pt} (h : ckey E t = some p) : ∃ l, flat E 6 t = some l ∧ (match p with | .one c => l = [c] ∧ E.ag t = some false | .agg l' => l' = l ∧ E.ag t = some true) := by
  unfold ckey at h
  split at h
  all_goals first
    | (cases h; done)
    | skip
  all_goals
    cases hf : flat E 6 t with
    | none => rw [hf] at h; cases h
    | some l =>
      rw [hf] at h; cases h
      refine ⟨l, rfl, ?_⟩
      first
        | exact ⟨rfl, by simp_all [Ti.ag]⟩
        | (refine ⟨?_, by simp_all [Ti.ag]⟩
           cases (flat_inv hf).1 <;> simp_all)
/-- two keys: what their comparison is, here -/
theorem keyEq_run (hE : E.Ok P) {t : Nat} {p : Pt} (hp : ckey E t = some p) {dx dy : DV} {x y : Value} (hx : VR β dx x) (hy : VR β dy y) {b : Bool} (hb : keyEq p dx dy = some b) :
    (Op.equal t x y).run P w = .ok b w ∧ ∃ (l : List CK) (xs : List Value), flat E 6 t = some l ∧ Sh E t x xs ∧ xs.length = l.length := by
  obtain ⟨l, hl, hpl⟩ := ckey_flat hp
  cases p with
  | one c =>
    obtain ⟨rfl, ha⟩ := hpl
    have hbb : beqs [c] [dx] [dy] = some b := by
      have hb' : beq1 c dx dy = some b := hb
      rw [beqs_cons, hb']; simp [beqs]
    have sx : Sh E t x [x] := ⟨fun h => (by rw [ha] at h; cases h), fun _ => rfl⟩
    have sy : Sh E t y [y] := ⟨fun h => (by rw [ha] at h; cases h), fun _ => rfl⟩
    exact ⟨equalIn_flat hE 6 t _ hl 10000 (by omega) _ _ _ _ x y b (.cons _ _ _ _ hx .nil) (.cons _ _ _ _ hy .nil) sx sy hbb, _, _, hl, sx, rfl⟩
  | agg l' =>
    obtain ⟨rfl, ha⟩ := hpl
    simp only [keyEq, eqA] at hb
    split at hb
    · rename_i a c
      obtain ⟨xs, rfl, v1, -⟩ := hx.agg_inv
      obtain ⟨ys, rfl, v2, -⟩ := hy.agg_inv
      have sx : Sh E t (.agg xs.toArray) xs := ⟨fun _ => rfl, fun h => (by rw [ha] at h; cases h)⟩
      have sy : Sh E t (.agg ys.toArray) ys := ⟨fun _ => rfl, fun h => (by rw [ha] at h; cases h)⟩
      exact ⟨equalIn_flat hE 6 t _ hl 10000 (by omega) _ _ _ _ _ _ b v1 v2 sx sy hb, _, _, hl, sx, by rw [← v1.length, (beqs_length hb).1]⟩
    · cases hb
theorem eqNil_some {a b : Option Bool} {r : Bool} (h : eqNil a b = some r) : ∃ x y, a = some x ∧ b = some y ∧ (x = true ∨ y = true) ∧ r = (x == y) := by
  unfold eqNil at h
  split at h
  · rename_i y; cases h; exact ⟨true, _, rfl, rfl, .inl rfl, by simp⟩
  · cases h; exact ⟨false, true, rfl, rfl, .inr rfl, rfl⟩
  · cases h
theorem neg_run {op : BinOp} {neg : Bool} (ho : (op = .eql ∧ neg = false) ∨ (op = .neq ∧ neg = true)) {t : Nat} {x y : Value} {b : Bool} (hnn : Go.binOp .eql t x y = (do Pure.pure (.bool (← Op.equal t x y))) ∧ Go.binOp .neq t x y = (do Pure.pure (.bool (!(← Op.equal t x y)))))
    (he : (Op.equal t x y).run P w = .ok b w) : (Go.binOp op t x y).run P w = .ok (.bool (b != neg)) w := by
  rcases ho with ⟨rfl, rfl⟩ | ⟨rfl, rfl⟩
  · rw [hnn.1]; simp [he]
  · rw [hnn.2]; simp [he]
theorem guard_run {op : BinOp} {t : Nat} {ox oy : Operand} {x y : Value} (h1 : ∀ a, x ≠ .agg a) (h2 : x ≠ .nilIface ∨ y ≠ .nilIface) : (eqGuard op t ox oy x y).run P w = .ok () w := by
  unfold eqGuard
  cases op <;> first
    | rfl
    | (cases x <;> first
        | exact absurd rfl (h1 _)
        | rfl
        | (cases y <;> first
            | rfl
            | (rcases h2 with h | h <;> exact absurd rfl h)))
theorem s_eqA (hE : E.Ok P) (hr : HR E P B β h w) {op : BinOp} {neg : Bool} (ho : (op = .eql ∧ neg = false) ∨ (op = .neq ∧ neg = true)) {t : Nat} {l : List CK} (hf : flat E 6 t = some l) (ha : E.ag t = some true)
    {x y : DX} {ev : Ev} {vx vy : Value} {ox oy : Operand} (hx : VR β (ev x) vx) (hy : VR β (ev y) vy) :
    NV E P B β w h (oEqA l neg x y ev h) ((do eqGuard op t ox oy vx vy; Go.binOp op t vx vy : Sem Value).run P w) := by
  refine NV.valO hr fun v hv => ?_
  cases hq : eqA l (ev x) (ev y) with
  | none => rw [hq] at hv; cases hv
  | some b =>
    rw [hq] at hv; cases hv
    refine ⟨.bool (b != neg), ?_, .bool _⟩
    unfold eqA at hq
    split at hq
    · rename_i a c h1 h2
      rw [h1] at hx; rw [h2] at hy
      obtain ⟨xs, rfl, v1, -⟩ := hx.agg_inv
      obtain ⟨ys, rfl, v2, -⟩ := hy.agg_inv
      have sx : Sh E t (.agg xs.toArray) xs := ⟨fun _ => rfl, fun h => (by rw [ha] at h; cases h)⟩
      have sy : Sh E t (.agg ys.toArray) ys := ⟨fun _ => rfl, fun h => (by rw [ha] at h; cases h)⟩
      have he := equalIn_flat (w := w) hE 6 t l hf 10000 (by omega) _ _ _ _ _ _ b v1 v2 sx sy hq
      have hg : (eqGuard op t ox oy (.agg xs.toArray) (.agg ys.toArray)).run P w = .ok () w :=
        run_eqGuard_agg w op t ox oy _ _ (flat_guard hE 6 t l hf _ (by simp only [Program.depth, Made.depth]; omega))
      rw [Sem.run_bind, hg, Result.andThen_ok]
      exact neg_run ho ⟨rfl, rfl⟩ he
    · cases hq
theorem equal_of {t : Nat} {x y : Value} {r : Result Bool} (h : ∀ k, (Op.equalIn (k + 1) t x y).run P w = r) : (Op.equal t x y).run P w = r := h 9999
theorem sameAddr_run {r a b : Nat} : (sameAddr ⟨r, a, none⟩ ⟨r, b, none⟩).run P w = .ok (a == b) w := by
  have : ((⟨r, a, none⟩ : Addr) == ⟨r, b, none⟩) = (a == b) := by
    by_cases h : a = b
    · subst h; simp
    · rw [beq_eq_false_iff_ne.2 h, beq_eq_false_iff_ne.2 (by intro e; cases e; exact h rfl)]
  simp [sameAddr, this]
/-- is what a type's values are compared for, in one of its kinds -/
def EKOk (E : Ti) (t : Nat) : EK → Prop
  | .bool => E.und t = some .bool
  | .ptr => ∃ e n, E.und t = some (.pointer e) ∧ E.size e = some n ∧ n ≠ 0
  | .slice => ∃ e, E.und t = some (.slice e)
  | .map => ∃ a b, E.und t = some (.map a b)
  | .func => ∃ a b c, E.und t = some (.func a b c)
  | .iface => ∃ ms, E.und t = some (.interface ms)
theorem s_eqN (hE : E.Ok P) (hr : HR E P B β h w) {op : BinOp} {neg : Bool} (ho : (op = .eql ∧ neg = false) ∨ (op = .neq ∧ neg = true)) {t : Nat} {k : EK} (hk : EKOk E t k)
    {x y : DX} {ev : Ev} {vx vy : Value} {ox oy : Operand} (hx : VR β (ev x) vx) (hy : VR β (ev y) vy) :
    NV E P B β w h (oEqN k neg x y ev h) ((do eqGuard op t ox oy vx vy; Go.binOp op t vx vy : Sem Value).run P w) := by
  refine NV.valO hr fun v hv => ?_
  revert hx hy hv
  generalize ev x = dx
  generalize ev y = dy
  intro hx hy hv
  cases hq : eqN k dx dy with
  | none => rw [hq] at hv; cases hv
  | some b =>
    rw [hq] at hv; cases hv
    refine ⟨.bool (b != neg), ?_, .bool _⟩
    have fin : (∀ a, vx ≠ .agg a) → (vx ≠ .nilIface ∨ vy ≠ .nilIface) → (Go.binOp .eql t vx vy = (do Pure.pure (.bool (← Op.equal t vx vy))) ∧ Go.binOp .neq t vx vy = (do Pure.pure (.bool (!(← Op.equal t vx vy))))) →
        (Op.equal t vx vy).run P w = .ok b w → (do eqGuard op t ox oy vx vy; Go.binOp op t vx vy : Sem Value).run P w = .ok (.bool (b != neg)) w := by
      intro h1 h2 h3 h4
      rw [Sem.run_bind, guard_run h1 h2, Result.andThen_ok]
      exact neg_run ho h3 h4
    cases k with
    | bool =>
      simp only [eqN, beq1] at hq
      split at hq
      · cases hq
        have e1 := hx.bool_inv
        have e2 := hy.bool_inv
        subst e1 e2
        exact fin (by simp) (by simp) ⟨rfl, rfl⟩ (run_equalIn_bool w 9999 t _ _ (hE.und hk))
      · cases hq
    | ptr =>
      obtain ⟨e, n, hu, hs, hn⟩ := hk
      obtain ⟨i, hi, his⟩ := hE.size hs
      simp only [eqN, eqP] at hq
      split at hq
      · cases hq
        cases hx
        have : ∃ o, vy = .pointer o ∧ o.isNone = (‹Option (Nat × Nat)›).isNone := by
          cases hy with
          | ptrN => exact ⟨_, rfl, rfl⟩
          | ptr d o L h => exact ⟨_, rfl, rfl⟩
        obtain ⟨o, rfl, h2⟩ := this
        refine fin (by simp) (by simp) ⟨rfl, rfl⟩ ?_
        refine equal_of fun kk => ?_; simp only [Op.equalIn, Sem.run_bind, hE.run_und w hu, Result.andThen_ok]
        cases o <;> simp_all
      · cases hq
        cases hx
        cases hy
        refine fin (by simp) (by simp) ⟨rfl, rfl⟩ ?_
        refine equal_of fun kk => ?_; simp only [Op.equalIn, Sem.run_bind, hE.run_und w hu, Result.andThen_ok, Sem.run_pure]
      · split at hq
        · rename_i d o d' o' hd
          cases hq
          subst hd
          cases hx with
          | ptr _ _ L hL => cases hy with
            | ptr _ _ L' hL' =>
              rw [hL] at hL'; cases hL'
              refine fin (by simp) (by simp) ⟨rfl, rfl⟩ ?_
              refine equal_of fun kk => ?_; simp only [Op.equalIn, Sem.run_bind, hE.run_und w hu, Result.andThen_ok, run_sizeOf' w hi, his]
              rw [if_pos (by simpa using hn), sameAddr_run]
              congr 1
              by_cases ho : o = o'
              · subst ho; simp
              · rw [beq_eq_false_iff_ne.2 ho, beq_eq_false_iff_ne.2 (by omega)]
        · cases hq
      · cases hq
    | slice =>
      obtain ⟨e, hu⟩ := hk
      obtain ⟨p, q, h1, h2, h3, rfl⟩ := eqNil_some hq
      have shape : ∀ {d : DV} {v : Value} {p : Bool}, VR β d v → isNilS d = some p → ∃ a l c, v = .slice a l c ∧ p = a.isNone := by
        intro d v p hv hp
        cases hv <;> simp only [isNilS] at hp <;> first | (cases hp; done) | (cases hp; exact ⟨_, _, _, rfl, rfl⟩)
      obtain ⟨a1, l1, c1, rfl, rfl⟩ := shape hx h1
      obtain ⟨a2, l2, c2, rfl, rfl⟩ := shape hy h2
      refine fin (by simp) (by simp) ⟨rfl, rfl⟩ ?_
      refine equal_of fun kk => ?_; simp only [Op.equalIn, Sem.run_bind, hE.run_und w hu, Result.andThen_ok]
      cases a1 <;> cases a2 <;> simp_all
    | map =>
      obtain ⟨e, e2, hu⟩ := hk
      obtain ⟨p, q, h1, h2, h3, rfl⟩ := eqNil_some hq
      have shape : ∀ {d : DV} {v : Value} {p : Bool}, VR β d v → isNilM d = some p → ∃ a, v = .map a ∧ p = a.isNone := by
        intro d v p hv hp
        cases hv <;> simp only [isNilM] at hp <;> first | (cases hp; done) | (cases hp; exact ⟨_, rfl, rfl⟩)
      obtain ⟨a1, rfl, rfl⟩ := shape hx h1
      obtain ⟨a2, rfl, rfl⟩ := shape hy h2
      refine fin (by simp) (by simp) ⟨rfl, rfl⟩ ?_
      refine equal_of fun kk => ?_; simp only [Op.equalIn, Sem.run_bind, hE.run_und w hu, Result.andThen_ok]
      cases a1 <;> cases a2 <;> simp_all
    | func =>
      obtain ⟨e, e2, e3, hu⟩ := hk
      obtain ⟨p, q, h1, h2, h3, rfl⟩ := eqNil_some hq
      have shape : ∀ {d : DV} {v : Value} {p : Bool}, VR β d v → isNilF d = some p → (v = .nilFunc ∧ p = true) ∨ (∃ f a b, v = .func f a b ∧ p = false) := by
        intro d v p hv hp
        cases hv <;> simp only [isNilF] at hp <;> first | (cases hp; done) | (cases hp; exact .inl ⟨rfl, rfl⟩) | (cases hp; exact .inr ⟨_, _, _, rfl, rfl⟩)
      rcases shape hx h1 with ⟨rfl, rfl⟩ | ⟨f, a, b, rfl, rfl⟩ <;> rcases shape hy h2 with ⟨rfl, rfl⟩ | ⟨f', a', b', rfl, rfl⟩
      all_goals first
        | (rcases h3 with h3 | h3 <;> cases h3; done)
        | (refine fin (by simp) (by simp) ⟨rfl, rfl⟩ ?_
           refine equal_of fun kk => ?_; simp only [Op.equalIn, Sem.run_bind, hE.run_und w hu, Result.andThen_ok]
           rfl)
    | iface =>
      obtain ⟨ms, hu⟩ := hk
      simp only [eqN] at hq
      split at hq
      · cases hq
      · rename_i hnn
        obtain ⟨p, q, h1, h2, h3, rfl⟩ := eqNil_some hq
        have shape : ∀ {d : DV} {v : Value} {p : Bool}, VR β d v → isNilI d = some p → (d = .nilIface ∧ v = .nilIface ∧ p = true) ∨ (∃ f a, v = .iface f a ∧ p = false) := by
          intro d v p hv hp
          cases hv <;> simp only [isNilI] at hp <;> first | (cases hp; done) | (cases hp; exact .inl ⟨rfl, rfl, rfl⟩) | (cases hp; exact .inr ⟨_, _, rfl, rfl⟩)
        rcases shape hx h1 with ⟨rfl, rfl, rfl⟩ | ⟨f, a, rfl, rfl⟩ <;> rcases shape hy h2 with ⟨rfl, rfl, rfl⟩ | ⟨f', a', rfl, rfl⟩
        all_goals first
          | exact absurd rfl (hnn rfl)
          | (rcases h3 with h3 | h3 <;> cases h3; done)
          | (refine fin (by simp) (by simp) ⟨rfl, rfl⟩ ?_
             refine equal_of fun kk => ?_; simp only [Op.equalIn, Sem.run_bind, hE.run_und w hu, Result.andThen_ok]
             rfl)
end
end Go.Dm

namespace Go.Dm
open Go.RowKit (Below)

section
variable {E : Ti} {P : Program} {B : Bd} {β : Bt} {w : World} {h : H}

theorem EntsR.length : ∀ {l : List (DV × DV)} {m : List MapEntry}, EntsR β l m → m.length = l.length
  | [], [], _ => rfl
  | _ :: _, _ :: _, h => by simp [EntsR.length h.2]
  | [], _ :: _, h => h.elim
  | _ :: _, [], h => h.elim
theorem EntsR.get : ∀ {l : List (DV × DV)} {m : List MapEntry}, EntsR β l m → ∀ {i : Nat} {x : DV × DV}, l[i]? = some x → ∃ e, m[i]? = some e ∧ EntR β x e
  | [], [], _, i, x, hx => by simp at hx
  | a :: l, e :: m, h, 0, x, hx => by simp at hx; subst hx; exact ⟨e, rfl, h.1⟩
  | a :: l, e :: m, h, i + 1, x, hx => by simpa using EntsR.get h.2 (by simpa using hx)
  | [], _ :: _, h, _, _, _ => h.elim
  | _ :: _, [], h, _, _, _ => h.elim
theorem EntsR.modify : ∀ {l : List (DV × DV)} {m : List MapEntry}, EntsR β l m → ∀ (i : Nat) (x : DV × DV) (f : MapEntry → MapEntry), (∀ e, EntR β x (f e)) → EntsR β (l.set i x) (m.modify i f)
  | [], [], _, i, x, f, _ => by simp; trivial
  | a :: l, e :: m, h, 0, x, f, hf => ⟨hf e, h.2⟩
  | a :: l, e :: m, h, i + 1, x, f, hf => ⟨h.1, EntsR.modify h.2 i x f hf⟩
  | [], _ :: _, h, _, _, _, _ => h.elim
  | _ :: _, [], h, _, _, _, _ => h.elim
theorem EntsR.push : ∀ {l : List (DV × DV)} {m : List MapEntry}, EntsR β l m → ∀ (x : DV × DV) (e : MapEntry), EntR β x e → EntsR β (l ++ [x]) (m ++ [e])
  | [], [], _, _, _, he => ⟨he, trivial⟩
  | _ :: _, _ :: _, h, x, e, he => ⟨h.1, EntsR.push h.2 x e he⟩
  | [], _ :: _, h, _, _, _ => h.elim
  | _ :: _, [], h, _, _, _ => h.elim

/-- what a search comes to, there and here -/
def FR (β : Bt) : Option (Nat × DV) → Option (Nat × Value) → Prop
  | none, none => True
  | some (i, v), some (j, v') => i = j ∧ VR β v v'
  | _, _ => False
theorem sameNow_eq {t : Nat} {d : TypeDesc} (hu : E.und t = some d) {p : Pt} (hp : ckey E t = some p) {dx dy : DV} {x y : Value} (hx : VR β dx x) (hy : VR β dy y) {b b' : Bool} (hb : keyEq p dx dy = some b) (hs : Instr.sameNow d x y = some b') : b' = b := by
  unfold Instr.sameNow at hs
  split at hs
  · -- whole numbers
    rename_i kk k a k' c
    have hpp : p = .one .int := by
      unfold ckey at hp
      rw [hu] at hp
      simp only at hp
      cases hf : flat E 6 t with
      | none => rw [hf] at hp; cases hp
      | some l => rw [hf] at hp; cases hp; rfl
    subst hpp
    simp only [keyEq, beq1] at hb
    split at hb
    · cases hx; cases hy
      split at hb
      · rename_i hk; subst hk; simp at hs; cases hb; exact hs.symm
      · cases hb
    · cases hb
  · have hpp : p = .one .str := by
      unfold ckey at hp
      rw [hu] at hp
      simp only at hp
      cases hf : flat E 6 t with
      | none => rw [hf] at hp; cases hp
      | some l => rw [hf] at hp; cases hp; rfl
    subst hpp
    simp only [keyEq, beq1] at hb
    split at hb
    · cases hb
      obtain ⟨s1, rfl, e1⟩ := hx.str_inv
      obtain ⟨s2, rfl, e2⟩ := hy.str_inv
      cases e1; cases e2
      simp only [Option.some.injEq] at hs
      rw [beq_toNat, ← hs, beq_toListBytes, ByteArray.toList_eq, ByteArray.toList_eq]
    · cases hb
  · have hpp : p = .one .bool := by
      unfold ckey at hp
      rw [hu] at hp
      simp only at hp
      cases hf : flat E 6 t with
      | none => rw [hf] at hp; cases hp
      | some l => rw [hf] at hp; cases hp; rfl
    subst hpp
    simp only [keyEq, beq1] at hb
    split at hb
    · cases hx; cases hy; cases hb; simpa using hs.symm
    · cases hb
  · cases hs
theorem findNow_eq {t : Nat} {d : TypeDesc} (hu : E.und t = some d) {p : Pt} (hp : ckey E t = some p) {dk : DV} {k : Value} (hk : VR β dk k) : ∀ {l : List (DV × DV)} {m : List MapEntry}, EntsR β l m → ∀ {i : Nat} {r : Option (Nat × DV)} {r' : Option (Nat × Value)},
    findE p dk l i = some r → Instr.findNow d k m i = some r' → FR β r r'
  | [], [], _, i, r, r', h1, h2 => by simp only [findE] at h1; simp only [Instr.findNow] at h2; cases h1; cases h2; trivial
  | (a, b) :: l, e :: m, h, i, r, r', h1, h2 => by
    simp only [findE] at h1
    simp only [Instr.findNow] at h2
    cases hq : keyEq p dk a with
    | none => rw [hq] at h1; cases h1
    | some c =>
      cases hs : Instr.sameNow d k e.key with
      | none => rw [hs] at h2; cases h2
      | some c' =>
        have := sameNow_eq hu hp hk h.1.1 hq hs
        subst this
        rw [hq] at h1
        rw [hs] at h2
        cases c' with
        | true => cases h1; cases h2; exact ⟨rfl, h.1.2⟩
        | false => exact findNow_eq hu hp hk h.2 h1 h2
  | [], _ :: _, h, _, _, _, _, _ => h.elim
  | _ :: _, [], h, _, _, _, _, _ => h.elim
theorem findAsking_run (hE : E.Ok P) {t : Nat} {p : Pt} (hp : ckey E t = some p) {dk : DV} {k : Value} (hk : VR β dk k) : ∀ {l : List (DV × DV)} {m : List MapEntry}, EntsR β l m → ∀ {i : Nat} {r : Option (Nat × DV)},
    findE p dk l i = some r → ∃ r', (Instr.findAsking t k m i).run P w = .ok r' w ∧ FR β r r'
  | [], [], _, i, r, h1 => by simp only [findE] at h1; cases h1; exact ⟨none, rfl, trivial⟩
  | (a, b) :: l, e :: m, h, i, r, h1 => by
    simp only [findE] at h1
    cases hq : keyEq p dk a with
    | none => rw [hq] at h1; cases h1
    | some c =>
      have he := (keyEq_run (w := w) hE hp hk h.1.1 hq).1
      rw [hq] at h1
      cases c with
      | true =>
        cases h1
        exact ⟨some (i, e.val), by simp [Instr.findAsking, he], rfl, h.1.2⟩
      | false =>
        obtain ⟨r', h2, h3⟩ := findAsking_run hE hp hk h.2 h1
        exact ⟨r', by simp only [Instr.findAsking, Sem.run_bind, he, Result.andThen_ok, Bool.false_eq_true, if_false, h2], h3⟩
  | [], _ :: _, h, _, _, _ => h.elim
  | _ :: _, [], h, _, _, _ => h.elim
theorem findKey_run (hE : E.Ok P) {t : Nat} {d : TypeDesc} (hu : E.und t = some d) {p : Pt} (hp : ckey E t = some p) {dk : DV} {k : Value} (hk : VR β dk k) {l : List (DV × DV)} {m : List MapEntry} (he : EntsR β l m) {r : Option (Nat × DV)} (h1 : findE p dk l 0 = some r) :
    ∃ r', (Instr.findKey t k m).run P w = .ok r' w ∧ FR β r r' := by
  simp only [Instr.findKey, Sem.run_bind, hE.run_und w hu, Result.andThen_ok]
  cases hf : Instr.findNow d k m 0 with
  | some r' => exact ⟨r', rfl, findNow_eq hu hp hk he h1 hf⟩
  | none => exact findAsking_run hE hp hk he h1
theorem ckey_und {t : Nat} {p : Pt} (hp : ckey E t = some p) : ∃ d, E.und t = some d := by
  cases hu : E.und t with
  | none => simp [ckey, hu] at hp
  | some d => exact ⟨d, rfl⟩
theorem getObj_run {r : Nat} {o : Go.Obj} (hw : w.heap[r]? = some o) (hn : ∀ c e f, o ≠ .cells c e f) : (getObj r).run P w = .ok o w := by
  simp only [getObj, Sem.run, hw]
theorem setObj_run {r : Nat} {o o' : Go.Obj} (hw : w.heap[r]? = some o) (hn : ∀ c e f, o ≠ .cells c e f) : (setObj r o').run P w = .ok () { w with heap := w.heap.setIfInBounds r o' } := by
  simp only [setObj, Sem.run, hw]
/-- keys that are alike are alike in their bits -/
theorem beq1_same {c : CK} {dx dy : DV} {x y : Value} (hx : VR β dx x) (hy : VR β dy y) (hb : beq1 c dx dy = some true) (n : Nat) : Instr.sameBits n x y = true := by
  cases c with
  | bool =>
    simp only [beq1] at hb
    split at hb
    · rw [hx.bool_inv, hy.bool_inv]
      simp only [Option.some.injEq, beq_iff_eq] at hb; subst hb; cases n <;> simp [Instr.sameBits]
    · cases hb
  | int =>
    simp only [beq1] at hb
    split at hb
    · rw [hx.int_inv, hy.int_inv]
      split at hb
      · rename_i hk; subst hk; simp only [Option.some.injEq, beq_iff_eq] at hb; subst hb; cases n <;> simp [Instr.sameBits]
      · cases hb
    · cases hb
  | str =>
    simp only [beq1] at hb
    split at hb
    · obtain ⟨s1, rfl, rfl⟩ := hx.str_inv
      obtain ⟨s2, rfl, rfl⟩ := hy.str_inv
      simp only [Option.some.injEq, beq_iff_eq] at hb
      have := map_toNat_inj hb
      have e : s1 = s2 := by
        apply ByteArray.ext
        apply Array.ext'
        exact this
      subst e
      have e2 : (s1 == s1) = true := by rw [beq_toListBytes]; simp
      cases n <;> simp only [Instr.sameBits, e2]
    · cases hb
theorem beqs_same : ∀ {l : List CK} {dx dy : List DV} {xs ys : List Value}, VRs β dx xs → VRs β dy ys → beqs l dx dy = some true → ∀ n, xs.length = ys.length ∧ ((xs.zip ys).all fun (p : Value × Value) => Instr.sameBits n p.1 p.2) = true
  | [], [], [], _, _, hx, hy, _, n => by cases hx; cases hy; simp
  | c :: l, a :: dx, b :: dy, _, _, hx, hy, hb, n => by
    cases hx with
    | cons _ x _ xs hx hxs => cases hy with
      | cons _ y _ ys hy hys =>
        rw [beqs_cons] at hb
        cases h1 : beq1 c a b with
        | none => rw [h1] at hb; cases hb
        | some q =>
          cases h2 : beqs l dx dy with
          | none => rw [h1, h2] at hb; cases hb
          | some q2 =>
            rw [h1, h2] at hb
            simp only [Option.bind_some, Option.some.injEq, Bool.and_eq_true] at hb
            obtain ⟨rfl, rfl⟩ := hb
            obtain ⟨k1, k2⟩ := beqs_same hxs hys h2 n
            refine ⟨by simp [k1], ?_⟩
            simp only [List.zip_cons_cons, List.all_cons, beq1_same hx hy h1, k2, Bool.and_self]
  | [], _ :: _, _, _, _, _, _, hb, _ => by simp [beqs] at hb
  | [], [], _ :: _, _, _, _, _, hb, _ => by simp [beqs] at hb
  | _ :: _, [], _, _, _, _, _, hb, _ => by simp [beqs] at hb
  | _ :: _, _ :: _, [], _, _, _, _, hb, _ => by simp [beqs] at hb
theorem keyEq_same {p : Pt} {dx dy : DV} {x y : Value} (hx : VR β dx x) (hy : VR β dy y) (hb : keyEq p dx dy = some true) (n : Nat) : Instr.sameBits (n + 1) y x = true := by
  have symm1 : ∀ {c : CK} {a b : DV}, beq1 c a b = some true → beq1 c b a = some true := by
    intro c a b h
    cases c <;> simp only [beq1] at h ⊢ <;> split at h <;> first | (cases h; done) | skip
    · simp only [Option.some.injEq, beq_iff_eq] at h; subst h; simp
    · split at h
      · rename_i hk; subst hk; simp only [Option.some.injEq, beq_iff_eq] at h; subst h; simp
      · cases h
    · simp only [Option.some.injEq, beq_iff_eq] at h; subst h; simp
  have symm2 : ∀ {l : List CK} {a b : List DV}, beqs l a b = some true → beqs l b a = some true := by
    intro l
    induction l with
    | nil => intro a b h; cases a <;> cases b <;> simp [beqs] at h ⊢
    | cons c l ih =>
      intro a b h
      cases a with
      | nil => simp [beqs] at h
      | cons a as => cases b with
        | nil => simp [beqs] at h
        | cons b bs =>
          rw [beqs_cons] at h ⊢
          cases h1 : beq1 c a b with
          | none => rw [h1] at h; cases h
          | some q => cases h2 : beqs l as bs with
            | none => rw [h1, h2] at h; cases h
            | some q2 =>
              rw [h1, h2] at h
              simp only [Option.bind_some, Option.some.injEq, Bool.and_eq_true] at h
              obtain ⟨rfl, rfl⟩ := h
              rw [symm1 h1, ih h2]; rfl
  cases p with
  | one c => exact beq1_same hy hx (symm1 hb) _
  | agg l =>
    simp only [keyEq, eqA] at hb
    split at hb
    · obtain ⟨xs, rfl, v1, -⟩ := hx.agg_inv
      obtain ⟨ys, rfl, v2, -⟩ := hy.agg_inv
      obtain ⟨k1, k2⟩ := beqs_same v2 v1 (symm2 hb) n
      simp only [Instr.sameBits, List.size_toArray, k1, beq_self_eq_true, Bool.true_and]
      exact k2
    · cases hb
theorem s_mapGet (hE : E.Ok P) (hr : HR E P B β h w) {t kt et : Nat} (ht : E.und t = some (.map kt et)) {p : Pt} (hp : ckey E kt = some p) {z : DV} (hz : zero E et = some z) {ok : Bool} {m k : DX} {ev : Ev} {vm vk : Value} (hm : VR β (ev m) vm) (hk : VR β (ev k) vk) :
    NV E P B β w h (oMapGet p z ok m k ev h) ((Instr.lookup t vm vk ok).run P w) := by
  obtain ⟨d, hu⟩ := ckey_und hp
  obtain ⟨i, zv, z1, z2, z3, -⟩ := hE.zero hz
  unfold oMapGet
  simp only
  revert hm hk
  generalize ev m = dm
  generalize ev k = dk
  intro hm hk
  split
  · trivial
  · rename_i b hkk
    obtain ⟨-, l, xs, f1, f2, f3⟩ := keyEq_run (w := w) hE hp hk hk hkk
    have hck : ∀ em, (Instr.checkKey em 10000 kt vk).run P w = .ok () w := fun em => checkKey_flat hE em 6 kt l f1 10000 (by omega) vk xs f2 f3
    -- what is given back
    have back : ∀ (v : DV) (v' : Value) (q : Bool) (r : Result Value), VR β v v' → r = .ok (if ok = true then .tuple #[v', .bool q] else v') w →
        NV E P B β w h (.val (bif ok then .tuple [v, .bool q] else v) h) r := by
      intro v v' q r hv hrr
      cases ok with
      | true => exact NV.pure hr (VR.tuple [_, _] [_, _] (.cons _ _ _ _ hv (.cons _ _ _ _ (.bool _) .nil))) (by simpa using hrr)
      | false => exact NV.pure hr hv (by simpa using hrr)
    split
    · cases hm
      refine back z zv false _ (z3 β) ?_
      obtain ⟨r', g1, g2⟩ := findKey_run (w := w) hE hu hp hk (l := []) (m := []) (trivial : EntsR β [] []) (r := none) rfl
      have hr' : r' = none := by cases r' with
        | none => rfl
        | some q => exact g2.elim
      subst hr'
      simp only [Instr.lookup, Sem.run_bind, hE.run_und w ht, Result.andThen_ok, Sem.run_pure, hck, g1, run_zeroValue' w z1 z2]
    · rename_i dd
      split
      · rename_i es hes
        cases hm with
        | map _ L hL =>
        obtain ⟨-, es', clock, m1, m2⟩ := hr.obj dd L _ hL hes
        have hg := getObj_run (P := P) (w := w) m1 (by intro c e f h; cases h)
        have common : ∀ r, findE p dk es 0 = some r → ∃ r', (Instr.lookup t (.map (some L.r)) vk ok).run P w =
            ((match r' with
              | some (_, v) => (Pure.pure (v, true) : Sem (Value × Bool))
              | none => (do Pure.pure (← zeroValue et, false))).run P w).andThen (fun (p : Value × Bool) w => .ok (if ok = true then .tuple #[p.1, .bool p.2] else p.1) w) ∧ FR β r r' := by
          intro r hf
          obtain ⟨r', g1, g2⟩ := findKey_run (w := w) hE hu hp hk m2 hf
          refine ⟨r', ?_, g2⟩
          simp only [Instr.lookup, Sem.run_bind, hE.run_und w ht, Result.andThen_ok, hg, Sem.run_pure, hck, g1]
          cases r' with
          | none => simp only [Sem.run_bind, run_zeroValue' w z1 z2, Result.andThen_ok, Sem.run_pure]
          | some q => rfl
        split
        · rename_i i' v' hf
          obtain ⟨r', g1, g2⟩ := common _ hf
          cases r' with
          | none => exact g2.elim
          | some q =>
            obtain ⟨j, v2⟩ := q
            exact back _ v2 true _ g2.2 (by rw [g1]; rfl)
        · rename_i hf
          obtain ⟨r', g1, g2⟩ := common _ hf
          cases r' with
          | some q => exact g2.elim
          | none => exact back _ zv false _ (z3 β) (by rw [g1]; simp only [Sem.run_bind, run_zeroValue' w z1 z2, Result.andThen_ok, Sem.run_pure])
        · trivial
      · trivial
    · trivial
theorem s_mapSet (hE : E.Ok P) (hr : HR E P B β h w) {t kt et : Nat} (ht : E.und t = some (.map kt et)) {p : Pt} (hp : ckey E kt = some p) {m k v : DX} {ev : Ev} {vm vk vv : Value} (hm : VR β (ev m) vm) (hk : VR β (ev k) vk) (hv : VR β (ev v) vv) :
    NU E P B β w (oMapSet p m k v ev h) ((Instr.mapUpdate t vm vk vv).run P w) := by
  obtain ⟨d, hu⟩ := ckey_und hp
  unfold oMapSet
  revert hm hk hv
  generalize ev m = dm
  generalize ev k = dk
  generalize ev v = dv
  intro hm hk hv
  split
  · rename_i dd
    cases hm with
    | map _ L hL =>
    split
    · rename_i es hes
      split
      · trivial
      · rename_i b hkk
        obtain ⟨-, l, xs, f1, f2, f3⟩ := keyEq_run (w := w) hE hp hk hk hkk
        have hck : ∀ em, (Instr.checkKey em 10000 kt vk).run P w = .ok () w := fun em => checkKey_flat hE em 6 kt l f1 10000 (by omega) vk xs f2 f3
        have hobj := hr.obj dd L _ hL hes
        obtain ⟨m0, es', clock, m1, m2⟩ := hobj
        have hg := getObj_run (P := P) (w := w) m1 (by intro c e f h; cases h)
        have hlt : L.r < w.heap.size := by
          obtain ⟨hh, _⟩ := Array.getElem?_eq_some_iff.1 m1; exact hh
        -- the map is put
        have put : ∀ (es2 : List (DV × DV)) (es2' : Array MapEntry) (c2 : Nat) (r : Result Unit), EntsR β es2 es2'.toList → r = .ok () { w with heap := w.heap.setIfInBounds L.r (.map es2' c2) } → NU E P B β w (.val .undef (h.put dd (.map es2))) r := by
          intro es2 es2' c2 r he hrr
          have hsame : ({ w with heap := w.heap.setIfInBounds L.r (.map es2' c2) } : World).heap[L.r]? = some (.map es2' c2) := by
            show (w.heap.setIfInBounds L.r (.map es2' c2))[L.r]? = _
            simp [hlt]
          have hother : ∀ k, k ≠ L.r → ({ w with heap := w.heap.setIfInBounds L.r (.map es2' c2) } : World).heap[k]? = w.heap[k]? := by
            intro k hkn
            show (w.heap.setIfInBounds L.r (.map es2' c2))[k]? = _
            rw [Array.getElem?_setIfInBounds_ne (fun e => hkn e.symm)]
          refine NU.of rfl ⟨β, _, hrr, Bt.le.refl β, ?_, ⟨rfl, rfl, rfl, by simp, fun k hk => hother k (by omega)⟩⟩
          exact hr.putObj hL hes rfl (by intro a e b hh; cases hh) hother (by simp) ⟨m0, es2', c2, hsame, he⟩
        split
        · rename_i i' v' hf
          obtain ⟨r', g1, g2⟩ := findKey_run (w := w) hE hu hp hk m2 hf
          cases r' with
          | none => exact g2.elim
          | some q =>
            obtain ⟨j, v2⟩ := q
            obtain ⟨rfl, -⟩ := g2
            -- the key that is there is alike
            have hold : ∃ x, es[i']? = some x ∧ keyEq p dk x.1 = some true := by
              have gen : ∀ (es : List (DV × DV)) (s : Nat), findE p dk es s = some (some (i', v')) → s ≤ i' ∧ ∃ x, es[i' - s]? = some x ∧ keyEq p dk x.1 = some true := by
                intro es
                induction es with
                | nil => intro s h; simp [findE] at h
                | cons a es ih =>
                  intro s h
                  obtain ⟨a1, a2⟩ := a
                  simp only [findE] at h
                  split at h
                  · rename_i hq; simp only [Option.some.injEq, Prod.mk.injEq] at h; obtain ⟨rfl, -⟩ := h; exact ⟨Nat.le_refl _, (a1, a2), by simp, hq⟩
                  · obtain ⟨h1, x, h2, h3⟩ := ih (s + 1) h
                    refine ⟨by omega, x, ?_, h3⟩
                    rw [show i' - s = (i' - (s + 1)) + 1 by omega]; simpa using h2
                  · cases h
              have := (gen es 0 hf).2
              simpa using this
            obtain ⟨x, x1, x2⟩ := hold
            obtain ⟨e, e1, e2⟩ := m2.get x1
            have hkeep : (Instr.keyThatStays (((es'[i']?).map (·.key)).getD vk) vk).run P w = .ok vk w := by
              have : es'[i']? = some e := by simpa using e1
              simp only [this, Option.map_some, Option.getD_some, Instr.keyThatStays]
              rw [if_pos (keyEq_same hk e2.1 x2 9999)]
              rfl
            refine put _ (es'.modify i' fun e => { e with key := vk, val := vv }) clock _ ?_ ?_
            · rw [Array.toList_modify]
              exact m2.modify i' (dk, dv) _ (fun e => ⟨hk, hv⟩)
            · simp only [Instr.mapUpdate, Sem.run_bind, hE.run_und w ht, Result.andThen_ok, hg, hck, g1, hkeep]
              exact setObj_run (P := P) m1 (by intro c e f h; cases h)
        · rename_i hf
          obtain ⟨r', g1, g2⟩ := findKey_run (w := w) hE hu hp hk m2 hf
          cases r' with
          | some q => exact g2.elim
          | none =>
            refine put _ (es'.push { key := vk, val := vv, born := clock }) (clock + 1) _ ?_ ?_
            · rw [Array.toList_push]
              exact m2.push (dk, dv) _ ⟨hk, hv⟩
            · simp only [Instr.mapUpdate, Sem.run_bind, hE.run_und w ht, Result.andThen_ok, hg, hck, g1]
              exact setObj_run (P := P) m1 (by intro c e f h; cases h)
        · trivial
    · trivial
  · trivial
end
end Go.Dm

namespace Go.Dm
open Go.RowKit (Below)

section
variable {E : Ti} {P : Program} {B : Bd} {β : Bt} {w : World} {h : H} {X : Cx} {ev : Ev} {ρ : Operand → Value}

theorem cxs_vrs (hX : ∀ x d, X x = some d → VR β (ev d) (ρ x)) : ∀ {l : List Operand} {ds : List DX}, cxs X l = some ds → VRs β (ds.map ev) (l.map ρ)
  | [], ds, h => by simp only [cxs] at h; cases h; exact .nil
  | x :: r, ds, h => by
    simp only [cxs] at h
    split at h
    · rename_i h1 h2; cases h; exact .cons _ _ _ _ (hX _ _ h1) (cxs_vrs hX h2)
    · cases h
theorem cxo_optR (hX : ∀ x d, X x = some d → VR β (ev d) (ρ x)) {o : Option Operand} {d : Option DX} (h : cxo X o = some d) : OptR β (d.map ev) (o.map ρ) := by
  cases o with
  | none => simp only [cxo] at h; cases h; exact ⟨fun v hv => by simp at hv, fun _ => rfl⟩
  | some x =>
    simp only [cxo] at h
    cases hx : X x with
    | none => rw [hx] at h; cases h
    | some dx => rw [hx] at h; cases h; exact ⟨fun v hv => by simp at hv; subst hv; exact ⟨_, rfl, hX _ _ hx⟩, fun hn => by simp at hn⟩
theorem cxo_none {o : Option Operand} {d : Option DX} (h : cxo X o = some d) : d = none ↔ o = none := by
  cases o with
  | none => simp only [cxo] at h; cases h; simp
  | some x =>
    simp only [cxo] at h
    cases hx : X x with
    | none => rw [hx] at h; cases h
    | some dx => rw [hx] at h; cases h; simp

theorem cxs_inv : ∀ {l : List Operand} {ds : List DX}, cxs X l = some ds → l.length = ds.length
  | [], ds, h => by simp only [cxs] at h; cases h; rfl
  | x :: r, ds, h => by
    simp only [cxs] at h
    split at h
    · rename_i h1 h2; cases h; simp [cxs_inv h2]
    · cases h
theorem cxs_one {l : List Operand} {a : DX} (h : cxs X l = some [a]) : ∃ x, l = [x] ∧ X x = some a := by
  cases l with
  | nil => simp [cxs] at h
  | cons x r =>
    simp only [cxs] at h
    split at h
    · rename_i h1 h2
      cases h
      cases r with
      | nil => exact ⟨x, rfl, h1⟩
      | cons _ _ => have := cxs_inv h2; simp at this
    · cases h
theorem cxs_two {l : List Operand} {a b : DX} (h : cxs X l = some [a, b]) : ∃ x y, l = [x, y] ∧ X x = some a ∧ X y = some b := by
  cases l with
  | nil => simp [cxs] at h
  | cons x r =>
    simp only [cxs] at h
    split at h
    · rename_i h1 h2
      cases h
      obtain ⟨y, rfl, h3⟩ := cxs_one h2
      exact ⟨x, y, rfl, h1, h3⟩
    · cases h
theorem arr_of_toList {α : Type} {a : Array α} {l : List α} (h : a.toList = l) : a = l.toArray := by
  rw [← h, Array.toArray_toList]
theorem builtin_sound (hE : E.Ok P) (hr : HR E P B β h w) (hX : ∀ x d, X x = some d → VR β (ev d) (ρ x)) {b : Builtin} {args : Array Operand} {argTypes : Array TypeId} {type : TypeId} {dargs : List DX} {d : DOp}
    (ha : cxs X args.toList = some dargs) (hd : cbuiltin E b dargs argTypes.toList = some d) :
    NR E P B β w h (dop d ev h) ((do let d ← resolve ρ { callee := .builtin b, args, argTypes } type; invoke d.target d.args : Sem Next).run P w) := by
  simp only [resolve, Sem.run_bind, Sem.run_pure, Result.andThen_ok, invoke]
  unfold cbuiltin at hd
  split at hd
  -- len
  · rename_i x t ht
    obtain ⟨x', hx1, hx2⟩ := cxs_one ha
    rw [arr_of_toList hx1, arr_of_toList ht]
    simp only [List.map_toArray, List.map_cons, List.map_nil]
    have hv := hX _ _ hx2
    split at hd
    · rename_i hu; cases hd; exact NR.ofV (s_len hE hr (k := .str) hu hv _ _)
    · rename_i e hu; cases hd; exact NR.ofV (s_len hE hr (k := .slice) ⟨e, hu⟩ hv _ _)
    · rename_i a b hu; cases hd; exact NR.ofV (s_len hE hr (k := .map) ⟨a, b, hu⟩ hv _ _)
    · rename_i n e hu
      cases hd
      refine NR.ofV (NV.pure hr (v' := .int .i64 (n : Nat)) (.int _ _) ?_)
      simp [Builtin.len_, run_underlying' w (hE.und hu), goInt]
    · cases hd
  -- cap
  · rename_i x t ht
    obtain ⟨x', hx1, hx2⟩ := cxs_one ha
    rw [arr_of_toList hx1, arr_of_toList ht]
    simp only [List.map_toArray, List.map_cons, List.map_nil]
    have hv := hX _ _ hx2
    split at hd
    · rename_i e hu; cases hd; exact NR.ofV (s_cap hE hr hu hv _ _)
    · cases hd
  -- append
  · rename_i s x t u ht
    obtain ⟨s', x', hx1, hx2, hx3⟩ := cxs_two ha
    rw [arr_of_toList hx1, arr_of_toList ht]
    simp only [List.map_toArray, List.map_cons, List.map_nil]
    split at hd
    · rename_i e e2 hu1 hu2
      split at hd
      · rename_i n by_ z g1 g2 g3
        split at hd
        · cases hd
        · rename_i hc
          cases hd
          exact NR.ofV (s_append hE hr (ts := []) hu1 hu2 (.inr ⟨_, rfl⟩) g1 g2 g3 (by by_cases h0 : n = z.cells.length; exact h0; exact absurd (.inr (.inr h0)) hc) (fun h0 => hc (.inr (.inl h0))) (hX _ _ hx2) (hX _ _ hx3))
      · cases hd
    · rename_i e hu1 hu2
      split at hd
      · rename_i n by_ z g1 g2 g3
        split at hd
        · cases hd
        · rename_i hc
          cases hd
          exact NR.ofV (s_append hE hr (ts := []) hu1 hu2 (.inl rfl) g1 g2 g3 (by by_cases h0 : n = z.cells.length; exact h0; exact absurd (.inr (.inr h0)) hc) (fun h0 => hc (.inr (.inl h0))) (hX _ _ hx2) (hX _ _ hx3))
      · cases hd
    · cases hd
  -- copy
  · rename_i s x t u ht
    obtain ⟨s', x', hx1, hx2, hx3⟩ := cxs_two ha
    rw [arr_of_toList hx1, arr_of_toList ht]
    simp only [List.map_toArray, List.map_cons, List.map_nil]
    split at hd
    · rename_i e u' hu1 hu2
      split at hd
      · rename_i n g1
        split at hd
        · cases hd
        · cases hd
          exact NR.ofV (s_copy hE hr (ts := [u]) hu1 g1 (hX _ _ hx2) (hX _ _ hx3))
      · cases hd
    · cases hd
  -- min
  · rename_i x y
    cases hd
    obtain ⟨x', y', hx1, hx2, hx3⟩ := cxs_two ha
    rw [arr_of_toList hx1]
    simp only [List.map_toArray, List.map_cons, List.map_nil]
    exact NR.ofV (s_minI hr (hX _ _ hx2) (hX _ _ hx3) _ _)
  -- max
  · rename_i x y
    cases hd
    obtain ⟨x', y', hx1, hx2, hx3⟩ := cxs_two ha
    rw [arr_of_toList hx1]
    simp only [List.map_toArray, List.map_cons, List.map_nil]
    exact NR.ofV (s_maxI hr (hX _ _ hx2) (hX _ _ hx3) _ _)
  -- recover
  · cases hd
    exact ⟨rfl, rfl⟩
  -- clear
  · rename_i x t ht
    obtain ⟨x', hx1, hx2⟩ := cxs_one ha
    rw [arr_of_toList hx1, arr_of_toList ht]
    simp only [List.map_toArray, List.map_cons, List.map_nil]
    have hv := hX _ _ hx2
    split at hd
    · rename_i e hu
      split at hd
      · rename_i n z g1 g2
        split at hd
        · rename_i hc; cases hd; exact NR.ofV (s_clear hE hr (ts := []) hu g1 g2 hc.1 hv)
        · cases hd
      · cases hd
    · cases hd
  · cases hd

theorem op_sound (hE : E.Ok P) (hr : HR E P B β h w) (hX : ∀ x d, X x = some d → VR β (ev d) (ρ x)) (o : Oper) {d : DOp} (hd : cop E X o.op = some d) : NR E P B β w h (dop d ev h) ((execOp ρ o).run P w) := by
  obtain ⟨dst, op, type, guard, after, pos⟩ := o
  simp only at hd
  unfold execOp
  simp only
  cases op with
  | move x =>
    simp only [cop] at hd
    cases hx : X x with
    | none => rw [hx] at hd; cases hd
    | some dx => rw [hx] at hd; cases hd; exact NR.pure hr (hX _ _ hx) rfl
  | assign x =>
    simp only [cop] at hd
    cases hx : X x with
    | none => rw [hx] at hd; cases hd
    | some dx => rw [hx] at hd; cases hd; exact NR.pure hr (hX _ _ hx) rfl
  | pick c a b =>
    simp only [cop] at hd
    split at hd
    · rename_i dc da db h1 h2 h3
      cases hd
      dsimp only
      show NR E P B β w h (oPick dc da db ev h) _
      unfold oPick
      split
      · rename_i t ht
        have hc := hX _ _ h1
        rw [ht] at hc
        rw [hc.bool_inv]
        cases t
        · exact NR.pure hr (hX _ _ h3) (by simp [asBool])
        · exact NR.pure hr (hX _ _ h2) (by simp [asBool])
      · trivial
    · cases hd
  | alloc e =>
    simp only [cop] at hd
    split at hd
    · rename_i z hz; cases hd; exact NR.ofV (s_alloc hE hr hz ev)
    · cases hd
  | box e x =>
    simp only [cop] at hd
    cases hx : X x with
    | none => rw [hx] at hd; cases hd
    | some dx => rw [hx] at hd; cases hd; exact NR.ofV (s_box hr (hX _ _ hx))
  | build t ps =>
    simp only [cop] at hd
    split at hd
    · rename_i z fs hz hu
      split at hd
      · cases hd
      · rename_i hall
        cases hp : cparts X (fldPlace E fs) ps.toList with
        | none => rw [hp] at hd; cases hd
        | some ds => rw [hp] at hd; cases hd; exact NR.ofV (s_buildS hE hr hu hz (by simpa using hall) hX hp)
    · rename_i z len e hz hu
      split at hd
      · rename_i n hs
        cases hp : cparts X (fun i => some (i * n, n)) ps.toList with
        | none => rw [hp] at hd; cases hd
        | some ds => rw [hp] at hd; cases hd; exact NR.ofV (s_buildA hE hr hu hs hz hX hp)
      · cases hd
    · cases hd
  | buildSlice t len ps =>
    simp only [cop] at hd
    split at hd
    · rename_i e hu
      split at hd
      · rename_i n z hs hz
        split at hd
        · rename_i hc
          cases hp : cparts X (fun i => some (i * n, n)) ps.toList with
          | none => rw [hp] at hd; cases hd
          | some ds => rw [hp] at hd; cases hd; exact NR.ofV (s_bslice hE hr hu hs hz hc.1 hc.2.1 hc.2.2 hX hp)
        · cases hd
      · cases hd
    · cases hd
  | load t a =>
    simp only [cop] at hd
    split at hd
    · rename_i n da h1 h2 h3; cases hd; exact NR.ofV (s_loadN hE hr h1 h2 (hX _ _ h3))
    · rename_i n da h1 h2 h3; cases hd; exact NR.ofV (s_load1 hE hr h1 (hX _ _ h3))
    · cases hd
  | store t a x =>
    simp only [cop] at hd
    split at hd
    · rename_i n da dv h1 h2 h3 h4; cases hd; exact NR.ofU (s_storeN hE hr h2 (hX _ _ h3) (hX _ _ h4))
    · rename_i da dv h1 h2 h3 h4; cases hd; exact NR.ofU (s_store1 hE hr h2 (hX _ _ h3) (hX _ _ h4))
    · cases hd
  | nilCheck x =>
    simp only [cop] at hd
    cases hx : X x with
    | none => rw [hx] at hd; cases hd
    | some dx =>
      rw [hx] at hd; cases hd
      dsimp only
      show NR E P B β w h (oNilc dx ev h) _
      unfold oNilc
      have hv := hX _ _ hx
      split
      · rename_i a ha
        rw [ha] at hv
        obtain ⟨d', o'⟩ := a
        have hv2 := hv
        obtain ⟨L, hL, he⟩ := hv.ptr_inv
        rw [he] at hv2 ⊢
        exact NR.pure hr hv2 rfl
      · trivial
  | binOp op t x y yt =>
    simp only [cop] at hd
    split at hd
    · rename_i dx dy h1 h2
      have hx := hX _ _ h1
      have hy := hX _ _ h2
      have cmp : ∀ (neg : Bool), ((op = .eql ∧ neg = false) ∨ (op = .neq ∧ neg = true)) → ccmp E op neg t dx dy = some d → NR E P B β w h (dop d ev h) ((do pure (Next.value (← (do eqGuard op t x y (ρ x) (ρ y); Go.binOp op t (ρ x) (ρ y)))) : Sem Next).run P w) := by
        intro neg ho hc
        unfold ccmp at hc
        split at hc
        · rename_i hu; cases hc; exact NR.ofV (s_eqN hE hr ho (k := .bool) hu hx hy)
        · cases hc; exact NR.ofV (s_bin hr hx hy)
        · cases hc; exact NR.ofV (s_bin hr hx hy)
        · rename_i fs hu
          cases hf : flat E 6 t with
          | none => rw [hf] at hc; cases hc
          | some l => rw [hf] at hc; cases hc; exact NR.ofV (s_eqA hE hr ho hf (by simp [Ti.ag, hu]) hx hy)
        · rename_i n e hu
          cases hf : flat E 6 t with
          | none => rw [hf] at hc; cases hc
          | some l => rw [hf] at hc; cases hc; exact NR.ofV (s_eqA hE hr ho hf (by simp [Ti.ag, hu]) hx hy)
        · rename_i e hu
          split at hc
          · cases hc
          · cases hc
          · rename_i n hn0 hs; cases hc; exact NR.ofV (s_eqN hE hr ho (k := .ptr) ⟨e, n, hu, hs, fun h0 => hn0 h0⟩ hx hy)
        · rename_i e hu; cases hc; exact NR.ofV (s_eqN hE hr ho (k := .slice) ⟨e, hu⟩ hx hy)
        · rename_i a b hu; cases hc; exact NR.ofV (s_eqN hE hr ho (k := .map) ⟨a, b, hu⟩ hx hy)
        · rename_i a b c hu; cases hc; exact NR.ofV (s_eqN hE hr ho (k := .func) ⟨a, b, c, hu⟩ hx hy)
        · rename_i ms hu; cases hc; exact NR.ofV (s_eqN hE hr ho (k := .iface) ⟨ms, hu⟩ hx hy)
        · cases hc
      split at hd
      · exact cmp false (.inl ⟨rfl, rfl⟩) hd
      · exact cmp true (.inr ⟨rfl, rfl⟩) hd
      · cases hd; exact NR.ofV (s_bin hr hx hy)
    · cases hd
  | unOp op t x =>
    simp only [cop] at hd
    cases hx : X x with
    | none => rw [hx] at hd; cases hd
    | some dx => rw [hx] at hd; cases hd; exact NR.ofV (s_un hr (hX _ _ hx))
  | convert s dd x =>
    simp only [cop] at hd
    split at hd
    · rename_i k0 k dx h1 h2 h3; cases hd; exact NR.ofV (s_toInt hE hr h1 h2 (hX _ _ h3))
    · rename_i dx h1 h2 h3; cases hd; exact NR.ofV (s_same hE hr h1 h2 (hX _ _ h3))
    · rename_i e dx h1 h2 h3
      split at hd
      · rename_i h4; cases hd; exact NR.ofV (s_toStr hE hr h1 h2 h4 (hX _ _ h3))
      · cases hd
    · cases hd
  | makeInterface t x =>
    simp only [cop] at hd
    split at hd
    · cases hd
    · rename_i dd dx hn h1 h2
      cases hd
      refine NR.ofV (NV.pure hr (VR.iface t _ _ (hX _ _ h2)) ?_)
      simp only [Instr.makeInterface, Sem.run_bind, hE.run_und w h1, Result.andThen_ok]
      cases dd <;> first | rfl | exact absurd h1 (hn _)
    · cases hd
  | makeFunc fn first caps =>
    cases fn with
    | func f =>
      simp only [cop] at hd
      split at hd
      · rename_i a b h1 h2
        cases hd
        refine NR.ofV (NV.pure hr (VR.func f _ _ _ _ (cxs_vrs hX h1) (cxs_vrs hX h2)) ?_)
        simp only [Instr.makeFunc, Sem.run_pure]
        congr 2 <;> (apply Array.ext'; simp)
      · cases hd
    | method _ => simp only [cop] at hd; cases hd
    | methodOf _ _ => simp only [cop] at hd; cases hd
    | via _ _ _ _ => simp only [cop] at hd; cases hd
    | yield _ => simp only [cop] at hd; cases hd
  | makeMap t r =>
    cases r with
    | none => simp only [cop] at hd; cases hd; exact NR.ofV (s_mkMap hr t ev)
    | some r => simp only [cop] at hd; cases hd
  | makeSlice t l c =>
    simp only [cop] at hd
    split at hd
    · rename_i e dl dc h1 h2 h3
      split at hd
      · rename_i n b z g1 g2 g3
        split at hd
        · rename_i hc; cases hd; exact NR.ofV (s_mkSlice hE hr h1 g1 g2 g3 hc.1 hc.2 (hX _ _ h2) (hX _ _ h3))
        · cases hd
      · cases hd
    · cases hd
  | slice t x lo hi mx =>
    simp only [cop] at hd
    have mh : ∀ {hi' mx' : Option DX}, ¬ (mx'.isSome = true ∧ hi'.isNone = true) → mx' ≠ none → hi' ≠ none := by
      intro hi' mx' hn hm hh
      refine hn ⟨?_, by rw [hh]; rfl⟩
      cases mx' with
      | none => exact absurd rfl hm
      | some _ => rfl
    split at hd
    · rename_i dx dlo dhi h1 h2 h3 h4 h5
      cases hd
      have : mx = none := (cxo_none h5).1 rfl
      subst this
      exact NR.ofV (s_slStr hE hr h1 (hX _ _ h2) (cxo_optR hX h3) (cxo_optR hX h4))
    · rename_i e dx dlo dhi dmx h1 h2 h3 h4 h5
      split at hd
      · rename_i n hs
        split at hd
        · cases hd
        · rename_i hc
          cases hd
          exact NR.ofV (s_slSl hE hr h1 hs (hX _ _ h2) (cxo_optR hX h3) (cxo_optR hX h4) (cxo_optR hX h5) (mh fun hh => hc (.inr hh)))
      · cases hd
    · rename_i len e dx dlo dhi dmx h1 h2 h3 h4 h5
      split at hd
      · rename_i n hs
        split at hd
        · cases hd
        · rename_i hc
          cases hd
          exact NR.ofV (s_slArr hE hr h1 hs (hX _ _ h2) (cxo_optR hX h3) (cxo_optR hX h4) (cxo_optR hX h5) (mh fun hh => hc (.inr hh)))
      · cases hd
    · cases hd
  | fieldAddr s x f =>
    simp only [cop] at hd
    split at hd
    · rename_i o n a dx h1 h2
      split at hd
      · cases hd
      · rename_i hn; cases hd; exact NR.ofV (s_fldA hE hr h1 hn (hX _ _ h2))
    · cases hd
  | field s x f =>
    simp only [cop] at hd
    split at hd
    · rename_i o n a dx h1 h2; cases hd; exact NR.ofV (s_fldV hE hr h1 (hX _ _ h2))
    · cases hd
  | indexAddr t x i =>
    simp only [cop] at hd
    split at hd
    · rename_i len e dx di h1 h2 h3
      cases hs : E.size e with
      | none => rw [hs] at hd; cases hd
      | some n => rw [hs] at hd; cases hd; exact NR.ofV (s_idxA hE hr h1 hs (hX _ _ h2) (hX _ _ h3))
    · rename_i e dx di h1 h2 h3
      cases hs : E.size e with
      | none => rw [hs] at hd; cases hd
      | some n => rw [hs] at hd; cases hd; exact NR.ofV (s_idxS hE hr h1 hs (hX _ _ h2) (hX _ _ h3))
    · cases hd
  | index t x i =>
    simp only [cop] at hd
    split at hd
    · rename_i len e dx di h1 h2 h3
      split at hd
      · rename_i n a hs ha; cases hd; exact NR.ofV (s_idxV hE hr h1 hs ha (hX _ _ h2) (hX _ _ h3))
      · cases hd
    · rename_i dx di h1 h2 h3; cases hd; exact NR.ofV (s_idxStr hE hr h1 (hX _ _ h2) (hX _ _ h3))
    · cases hd
  | lookup t m k ok =>
    simp only [cop] at hd
    split at hd
    · rename_i kt et dm dk h1 h2 h3
      split at hd
      · rename_i p z g1 g2; cases hd; exact NR.ofV (s_mapGet hE hr h1 g1 g2 (hX _ _ h2) (hX _ _ h3))
      · cases hd
    · cases hd
  | mapUpdate t m k x =>
    simp only [cop] at hd
    split at hd
    · rename_i kt et dm dk dv h1 h2 h3 h4
      cases hp : ckey E kt with
      | none => rw [hp] at hd; cases hd
      | some p => rw [hp] at hd; cases hd; exact NR.ofU (s_mapSet hE hr h1 hp (hX _ _ h2) (hX _ _ h3) (hX _ _ h4))
    · cases hd
  | insert t m k x =>
    simp only [cop] at hd
    split at hd
    · rename_i kt et dm dk dv h1 h2 h3 h4
      cases hp : ckey E kt with
      | none => rw [hp] at hd; cases hd
      | some p => rw [hp] at hd; cases hd; exact NR.ofU (s_mapSet hE hr h1 hp (hX _ _ h2) (hX _ _ h3) (hX _ _ h4))
    · cases hd
  | typeAssert x xt t ok =>
    cases ok with
    | false => simp only [cop] at hd; cases hd
    | true =>
      simp only [cop] at hd
      split at hd
      · cases hd
      · rename_i dd dx z hn h1 h2 h3
        cases hd
        exact NR.ofV (s_tas hE hr h1 (fun ms hm => hn ms hm) h3 (hX _ _ h2))
      · cases hd
  | extract x i =>
    simp only [cop] at hd
    cases hx : X x with
    | none => rw [hx] at hd; cases hd
    | some dx => rw [hx] at hd; cases hd; exact NR.ofV (s_ext hr (hX _ _ hx))
  | call c =>
    obtain ⟨callee, args, argTypes⟩ := c
    simp only [cop] at hd
    dsimp only
    split at hd
    · rename_i _ f dargs h2
      cases hf : X f with
      | none => rw [hf] at hd; cases hd
      | some df =>
        rw [hf] at hd; cases hd
        show NR E P B β w h (oCall df dargs ev h) _
        unfold oCall
        have hv := hX _ _ hf
        have ha := cxs_vrs hX h2
        simp only [resolve]
        split
        · rename_i fn first caps hfn
          rw [hfn] at hv
          generalize ρ f = rf at hv ⊢
          cases hv with
          | func f' _ _ a' b' v1 v2 =>
            refine ⟨rfl, a' ++ args.toList.map ρ ++ b', (v1.append ha).append v2, ?_⟩
            simp only [Deferred.ofValue, Sem.run_bind, Sem.run_pure, Result.andThen_ok, invoke]
            congr 2
            apply Array.ext'
            simp
          | yield l L hL =>
            refine ⟨rfl, args.toList.map ρ, by simpa using ha, L, hL, ?_⟩
            simp only [Deferred.ofValue, Sem.run_bind, Sem.run_pure, Result.andThen_ok, invoke]
            congr 2
            apply Array.ext'
            simp
        · trivial
    · rename_i _ b dargs h2
      exact builtin_sound hE hr hX h2 hd
    · cases hd
  | defer c =>
    obtain ⟨callee, args, argTypes⟩ := c
    simp only [cop] at hd
    dsimp only
    split at hd
    · rename_i _ f dargs h2
      cases hf : X f with
      | none => rw [hf] at hd; cases hd
      | some df =>
        rw [hf] at hd; cases hd
        show NR E P B β w h (oDefer df dargs ev h) _
        unfold oDefer
        have hv := hX _ _ hf
        have ha := cxs_vrs hX h2
        simp only [resolve]
        split
        · rename_i fn first caps hfn
          rw [hfn] at hv
          generalize ρ f = rf at hv ⊢
          cases hv with
          | func f' _ _ a' b' v1 v2 =>
            refine ⟨rfl, a' ++ args.toList.map ρ, b', (v1.append ha).append v2, ?_⟩
            simp only [Deferred.ofValue, Sem.run_bind, Sem.run_pure, Result.andThen_ok]
            congr 3
            apply Array.ext'
            simp
        · trivial
    · cases hd
  | panic x =>
    simp only [cop] at hd
    cases hx : X x with
    | none => rw [hx] at hd; cases hd
    | some dx =>
      rw [hx] at hd; cases hd
      refine NR.ofV ?_
      show NV E P B β w h (oPanic dx ev h) _
      unfold oPanic
      have hv := hX _ _ hx
      split
      · rename_i t v hp
        rw [hp] at hv
        obtain ⟨v', hv', he⟩ : ∃ v', VR β v v' ∧ ρ x = .iface t v' := by
          revert hv
          generalize ρ x = r
          intro hv
          cases hv with
          | iface _ _ v' hv' => exact ⟨v', hv', rfl⟩
        rw [he]
        exact ⟨rfl, _, .iface t v v' hv', rfl⟩
      · trivial
  | _ => simp only [cop] at hd; cases hd
end
end Go.Dm
