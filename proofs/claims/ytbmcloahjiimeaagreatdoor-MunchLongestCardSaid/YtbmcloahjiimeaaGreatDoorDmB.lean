/- The D-machine's tries, paths and list functions: what they come to. -/
import Derived.Test.YtbmcloahjiimeaaGreatDoorDmA
set_option linter.all false
namespace Go.Dm
open T

/-! ### Tries -/
namespace T
variable {α : Type}
theorem get_nil (t : T α) : t.get [] = t.val := rfl
theorem get_cons (t : T α) (b : Bool) (p : Pth) : t.get (b :: p) = (t.child b).get p := rfl
theorem set_nil (t : T α) (x : Option α) : t.set [] x = here x t := rfl
theorem set_cons (t : T α) (b : Bool) (p : Pth) (x : Option α) : t.set (b :: p) x = setC b (fun t => t.set p x) t := rfl
theorem val_here (x : Option α) (t : T α) : (here x t).val = x := by cases t <;> rfl
theorem child_here (x : Option α) (t : T α) (b : Bool) : (here x t).child b = t.child b := by cases t <;> cases b <;> rfl
theorem val_setC (b : Bool) (g : T α → T α) (t : T α) : (setC b g t).val = t.val := by cases t <;> cases b <;> rfl
theorem child_setC (b : Bool) (g : T α → T α) (t : T α) : (setC b g t).child b = g (t.child b) := by cases t <;> cases b <;> rfl
theorem child_setC_ne (b c : Bool) (h : c ≠ b) (g : T α → T α) (t : T α) : (setC b g t).child c = t.child c := by
  cases t <;> cases b <;> cases c <;> first | rfl | exact absurd rfl h
theorem get_set (t : T α) (p : Pth) (x : Option α) : (t.set p x).get p = x := by
  induction p generalizing t with
  | nil => rw [set_nil, get_nil, val_here]
  | cons b p ih => rw [set_cons, get_cons, child_setC, ih]
theorem get_set_ne (t : T α) (p q : Pth) (x : Option α) (h : q ≠ p) : (t.set p x).get q = t.get q := by
  induction p generalizing t q with
  | nil =>
    cases q with
    | nil => exact absurd rfl h
    | cons c q => rw [set_nil, get_cons, child_here, get_cons]
  | cons b p ih =>
    cases q with
    | nil => rw [set_cons, get_nil, val_setC, get_nil]
    | cons c q =>
      by_cases hc : c = b
      · subst hc
        rw [set_cons, get_cons, child_setC, get_cons]
        exact ih _ _ (fun e => h (by rw [e]))
      · rw [set_cons, get_cons, child_setC_ne _ _ hc, get_cons]
theorem get_e (p : Pth) : (T.e : T α).get p = none := by
  induction p with
  | nil => rfl
  | cons b p ih => rw [get_cons]; exact ih
end T

/-! ### Paths of numbers -/
def unbits : Pth → Nat
  | [] => 0
  | b :: p => (if b then 1 else 0) + 2 * unbits p
theorem bitsA_zero (k : Nat) : bitsA 0 k = [] := rfl
theorem bitsA_succ_zero (f : Nat) : bitsA (f + 1) 0 = [] := rfl
theorem bitsA_succ (f k : Nat) : bitsA (f + 1) (k + 1) = Nat.beq (Nat.mod (k + 1) 2) 1 :: bitsA f (Nat.div (k + 1) 2) := rfl
theorem unbits_bitsA (f : Nat) : ∀ k, k ≤ f → unbits (bitsA f k) = k := by
  induction f with
  | zero => intro k h; obtain rfl : k = 0 := by omega
            rfl
  | succ f ih =>
    intro k h
    cases k with
    | zero => rfl
    | succ k =>
      rw [bitsA_succ]
      show (if Nat.beq ((k + 1) % 2) 1 then 1 else 0) + 2 * unbits (bitsA f ((k + 1) / 2)) = k + 1
      rw [ih _ (by omega)]
      have e : (Nat.beq ((k + 1) % 2) 1) = decide ((k + 1) % 2 = 1) := by
        rw [Bool.eq_iff_iff, Nat.beq_eq, decide_eq_true_eq]
      rw [e]
      by_cases hm : (k + 1) % 2 = 1
      · simp [hm]; omega
      · simp [hm]; omega
theorem unbits_bits (k : Nat) : unbits (bits k) = k := unbits_bitsA k k (Nat.le_refl _)
theorem bits_inj {a b : Nat} (h : bits a = bits b) : a = b := by rw [← unbits_bits a, h, unbits_bits]
theorem bits_ne {a b : Nat} (h : a ≠ b) : bits a ≠ bits b := fun e => h (bits_inj e)

/-! ### The heap's map -/
theorem H.get_put (h : H) (d : Nat) (o : Obj) : (h.put d o).get d = some o := by cases h; exact T.get_set _ _ _
theorem H.get_put_ne (h : H) {d d' : Nat} (o : Obj) (hn : d' ≠ d) : (h.put d o).get d' = h.get d' := by cases h; exact T.get_set_ne _ _ _ _ (bits_ne hn)
theorem H.nx_put (h : H) (d : Nat) (o : Obj) : (h.put d o).nx = h.nx := by cases h; rfl
theorem H.get_kill (h : H) (d : Nat) : (h.kill d).get d = none := by cases h; exact T.get_set _ _ _
theorem H.get_kill_ne (h : H) {d d' : Nat} (hn : d' ≠ d) : (h.kill d).get d' = h.get d' := by cases h; exact T.get_set_ne _ _ _ _ (bits_ne hn)
theorem H.nx_kill (h : H) (d : Nat) : (h.kill d).nx = h.nx := by cases h; rfl
theorem H.get_new (h : H) (o : Obj) : (h.new o).get h.nx = some o := by cases h; exact T.get_set _ _ _
theorem H.get_new_ne (h : H) {d : Nat} (o : Obj) (hn : d ≠ h.nx) : (h.new o).get d = h.get d := by cases h; exact T.get_set_ne _ _ _ _ (bits_ne hn)
theorem H.nx_new (h : H) (o : Obj) : (h.new o).nx = h.nx + 1 := by cases h; rfl

/-! ### Lists -/
section
variable {α : Type}
theorem lget_nil (i : Nat) : lget ([] : List α) i = none := rfl
theorem lget_zero (a : α) (l : List α) : lget (a :: l) 0 = some a := rfl
theorem lget_succ (a : α) (l : List α) (i : Nat) : lget (a :: l) (i + 1) = lget l i := rfl
theorem lget_eq (l : List α) (i : Nat) : lget l i = l[i]? := by
  induction l generalizing i with
  | nil => rfl
  | cons a l ih => cases i with
    | zero => rfl
    | succ i => rw [lget_succ, ih]; rfl
theorem lset_some {l : List α} {i : Nat} {v : α} {l' : List α} (h : lset l i v = some l') : i < l.length ∧ l' = l.set i v := by
  induction l generalizing i l' with
  | nil => cases h
  | cons a l ih => cases i with
    | zero => cases h; exact ⟨by simp, rfl⟩
    | succ i =>
      change consO a (lset l i v) = some l' at h
      cases hl : lset l i v with
      | none => rw [hl] at h; cases h
      | some m =>
        rw [hl] at h
        obtain ⟨h1, rfl⟩ := ih hl
        cases h
        exact ⟨by simp; omega, rfl⟩
theorem lset_of_lt {l : List α} {i : Nat} {v : α} (h : i < l.length) : lset l i v = some (l.set i v) := by
  induction l generalizing i with
  | nil => simp at h
  | cons a l ih => cases i with
    | zero => rfl
    | succ i =>
      change consO a (lset l i v) = _
      rw [ih (by simpa using h)]; rfl
theorem lenIs_eq (l : List α) (n : Nat) : lenIs l n = decide (l.length = n) := by
  induction l generalizing n with
  | nil => show Nat.beq n 0 = _; rw [Bool.eq_iff_iff, Nat.beq_eq, decide_eq_true_eq]; exact eq_comm
  | cons a l ih => cases n with
    | zero => rfl
    | succ n => change lenIs l n = _; rw [ih]; simp
theorem ltake_eq (n : Nat) (l : List α) : ltake n l = if n ≤ l.length then some (l.take n) else none := by
  induction n generalizing l with
  | zero => rfl
  | succ n ih => cases l with
    | nil => rfl
    | cons a l =>
      change consO a (ltake n l) = _
      rw [ih]
      by_cases h : n ≤ l.length
      · rw [if_pos h, if_pos (by simpa using h)]; rfl
      · rw [if_neg h, if_neg (by simpa using h)]; rfl
theorem ldrop_eq (n : Nat) (l : List α) : ldrop n l = l.drop n := by
  induction n generalizing l with
  | zero => rfl
  | succ n ih => cases l with
    | nil => rfl
    | cons a l => change ldrop n l = _; rw [ih]; rfl
theorem lpart_eq (l : List α) (off n : Nat) : lpart l off n = if off + n ≤ l.length ∨ n = 0 then some ((l.drop off).take n) else none := by
  unfold lpart
  rw [lenIs_eq, ltake_eq, ldrop_eq]
  by_cases h : (Nat.beq off 0 && decide (l.length = n)) = true
  · rw [h]
    simp only [Bool.and_eq_true, Nat.beq_eq, decide_eq_true_eq] at h
    obtain ⟨rfl, rfl⟩ := h
    simp
  · rw [Bool.not_eq_true] at h
    rw [h]
    simp only [cond_false, List.length_drop]
    by_cases h2 : off + n ≤ l.length
    · rw [if_pos (by omega), if_pos (.inl h2)]
    · by_cases h3 : n = 0
      · subst h3; simp
      · rw [if_neg (by omega), if_neg (by omega)]
theorem lpart_some {l : List α} {off n : Nat} {r : List α} (h : lpart l off n = some r) : (off + n ≤ l.length ∨ n = 0) ∧ r = (l.drop off).take n := by
  rw [lpart_eq] at h
  split at h
  · cases h; exact ⟨‹_›, rfl⟩
  · cases h
theorem lover_some {vs l r : List α} (h : lover vs l = some r) : vs.length ≤ l.length ∧ r = vs ++ l.drop vs.length := by
  induction vs generalizing l r with
  | nil => cases h; simp
  | cons v vs ih => cases l with
    | nil => cases h
    | cons a l =>
      change consO v (lover vs l) = some r at h
      cases hl : lover vs l with
      | none => rw [hl] at h; cases h
      | some m => rw [hl] at h; obtain ⟨h1, rfl⟩ := ih hl; cases h; exact ⟨by simpa using h1, by simp⟩
theorem lsplice_some {off : Nat} {vs l r : List α} (h : lsplice off vs l = some r) : off + vs.length ≤ l.length ∧ r = l.take off ++ vs ++ l.drop (off + vs.length) := by
  induction off generalizing l r with
  | zero => obtain ⟨h1, rfl⟩ := lover_some h; exact ⟨by omega, by simp⟩
  | succ off ih => cases l with
    | nil => cases h
    | cons a l =>
      change consO a (lsplice off vs l) = some r at h
      cases hl : lsplice off vs l with
      | none => rw [hl] at h; cases h
      | some m =>
        rw [hl] at h; obtain ⟨h1, rfl⟩ := ih hl; cases h
        refine ⟨by simp; omega, ?_⟩
        rw [show off + 1 + vs.length = (off + vs.length) + 1 by omega]
        simp
theorem lover_of_le {vs l : List α} (h : vs.length ≤ l.length) : lover vs l = some (vs ++ l.drop vs.length) := by
  induction vs generalizing l with
  | nil => simp; rfl
  | cons v vs ih => cases l with
    | nil => simp at h
    | cons a l => change consO v (lover vs l) = _; rw [ih (by simpa using h)]; simp [consO]
theorem lsplice_of_le {off : Nat} {vs l : List α} (h : off + vs.length ≤ l.length) : lsplice off vs l = some (l.take off ++ vs ++ l.drop (off + vs.length)) := by
  induction off generalizing l with
  | zero => rw [show lsplice 0 vs l = lover vs l from rfl, lover_of_le (by omega)]; simp
  | succ off ih => cases l with
    | nil => simp at h
    | cons a l =>
      change consO a (lsplice off vs l) = _
      rw [ih (by simp at h; omega), show off + 1 + vs.length = (off + vs.length) + 1 by omega]
      simp [consO]
end

/-! ### Numbers -/
theorem iLe_eq (a b : Int) : iLe a b = decide (a ≤ b) := by
  cases a <;> cases b <;> simp only [iLe]
  · rw [Bool.eq_iff_iff, Nat.ble_eq, decide_eq_true_eq]; simp
  · rw [eq_comm, decide_eq_false_iff_not, Int.ofNat_eq_natCast]; omega
  · rw [eq_comm, decide_eq_true_eq, Int.ofNat_eq_natCast]; omega
  · rw [Bool.eq_iff_iff, Nat.ble_eq, decide_eq_true_eq]; omega
theorem iEq_eq (a b : Int) : iEq a b = (a == b) := by
  rw [Bool.eq_iff_iff, beq_iff_eq]
  cases a <;> cases b <;> simp only [iEq, Nat.beq_eq, Int.ofNat_eq_natCast, Bool.false_eq_true, false_iff, Int.negSucc.injEq] <;> omega
theorem wrapF_eq (k : IntKind) (n : Int) : wrapF k n = k.wrap n := by
  cases n with
  | ofNat m =>
    simp only [wrapF]
    cases h : Nat.ble m (maxN k) with
    | false => rfl
    | true =>
      rw [Nat.ble_eq] at h
      show (m : Int) = k.wrap (m : Int)
      cases k <;> simp only [maxN] at h <;> simp only [IntKind.wrap, IntKind.bits, IntKind.signed] <;> simp <;> omega
  | negSucc m =>
    simp only [wrapF]
    cases h : (k.signed && Nat.ble m (maxN k)) with
    | false => rfl
    | true =>
      rw [Bool.and_eq_true, Nat.ble_eq] at h
      obtain ⟨h1, h2⟩ := h
      show Int.negSucc m = k.wrap (Int.negSucc m)
      cases k <;> simp only [IntKind.signed, Bool.false_eq_true] at h1 <;> simp only [maxN] at h2 <;> simp only [IntKind.wrap, IntKind.bits, IntKind.signed] <;> simp <;> omega
theorem inB_some {n : Int} {len m : Nat} (h : inB n len = some m) : n = (m : Int) ∧ m < len := by
  cases n with
  | ofNat k =>
    simp only [inB] at h
    cases hb : Nat.ble (Nat.succ k) len with
    | false => rw [hb] at h; cases h
    | true => rw [hb] at h; cases h; rw [Nat.ble_eq] at hb; exact ⟨rfl, hb⟩
  | negSucc k => cases h
theorem inB_of_lt {m len : Nat} (h : m < len) : inB (m : Int) len = some m := by
  show (bif Nat.ble (Nat.succ m) len then some m else none) = some m
  rw [show Nat.ble (Nat.succ m) len = true by rw [Nat.ble_eq]; exact h]; rfl
end Go.Dm
