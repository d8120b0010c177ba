/- Regions that draw: what was checked as they were compiled. Regions that draw: the order in which the D-machine runs, and which others there are. Regions that draw: slots, counts. Regions that draw: one operation, in whatever order. -/
import Derived.Test.YtbmcloahjiimeaaGreatDoorDmQa
set_option linter.all false
namespace Go.Dm
open Go.RowKit (Below)

/-! ### What is made, is made here -/
section
variable {E : Ti} {P : Program} {X : Cx}
theorem made_run (hE : E.Ok P) {o : Oper} {op : DOp} {ev : Ev} {ρ : Operand → Value} {h h' : H} {v : DV} (hc : cop E X o.op = some op) (hs : op.sort = 2) (hd : dop op ev h = .val v h') {β0 : Bt} (hX : ∀ x dx, X x = some dx → VR β0 (ev dx) (ρ x)) (w : World) :
    ∃ (cs : List DV) (e : Nat) (c0 : List Value) (v' : Value), h' = h.new (.cells cs e false) ∧ (∀ β, VRs β cs c0) ∧ (∀ x ∈ c0, x.oneCell' = true) ∧ (execOp ρ o).run P w = .ok (.value v') (w.alloc (.cells c0.toArray e)) ∧
      ∀ β, β h.nx = some ⟨w.heap.size, 0, 0⟩ → VR β v v' := by
  cases ho : o.op with
  | alloc e =>
    rw [ho] at hc
    simp only [cop] at hc
    split at hc
    · rename_i z hz
      cases hc
      cases hd
      obtain ⟨c0, h1, h2, h3⟩ := alloc_run (w := w) hE hz
      refine ⟨z.cells, e, c0, .pointer (some ⟨w.heap.size, 0, none⟩), rfl, fun β => (h2 β), h3, ?_, fun β hβ => ?_⟩
      · unfold execOp; rw [ho]; simp [h1]
      · have := VR.ptr (β := β) h.nx 0 _ hβ
        simpa using this
    · cases hc
  | makeSlice t l c =>
    rw [ho] at hc
    simp only [cop] at hc
    split at hc
    · rename_i e dl dc g1 g2 g3
      split at hc
      · rename_i n by_ z g4 g5 g6
        split at hc
        · rename_i hcond
          cases hc
          have hd : oMkSlice e n by_ z.cells dl dc ev h = .val v h' := hd
          unfold oMkSlice at hd
          split at hd
          · rename_i l' c' el ec
            split at hd
            · rename_i hk
              obtain ⟨k1, k2, k3, k4, k5⟩ := hk
              cases hd
              have vl := hX _ _ g2
              have vc := hX _ _ g3
              rw [el] at vl; rw [ec] at vc
              have el' : ρ l = .int .i64 l' := by generalize ρ l = x at vl; cases vl; rfl
              have ec' : ρ c = .int .i64 c' := by generalize ρ c = x at vc; cases vc; rfl
              obtain ⟨c0, h1, h2, h3⟩ := mkSlice_run (w := w) hE g1 g4 g5 g6 hcond.1 hcond.2 (l' := l') (c' := c') k1 k2 k3 k5
              refine ⟨_, e, c0, .slice (some ⟨w.heap.size, 0, none⟩) l'.toNat c'.toNat, rfl, fun β => h2 β, h3, ?_, fun β hβ => ?_⟩
              · unfold execOp; rw [ho]; simp only [el', ec']; simp [h1]
              · have := VR.sliceC (β := β) h.nx 0 l'.toNat c'.toNat _ hβ
                simpa using this
            · cases hd
          · cases hd
        · cases hc
      · cases hc
    · cases hc
  | binOp op' t x y z =>
    exfalso
    rw [ho] at hc
    simp only [cop] at hc
    split at hc
    · split at hc
      · unfold ccmp at hc
        split at hc <;> first
          | (cases hc; cases hs; done)
          | (cases hf : flat E 6 t with
             | none => rw [hf] at hc; cases hc
             | some l => rw [hf] at hc; cases hc; cases hs)
          | (split at hc <;> first | (cases hc; done) | (cases hc; cases hs; done))
          | (cases hc; done)
      · unfold ccmp at hc
        split at hc <;> first
          | (cases hc; cases hs; done)
          | (cases hf : flat E 6 t with
             | none => rw [hf] at hc; cases hc
             | some l => rw [hf] at hc; cases hc; cases hs)
          | (split at hc <;> first | (cases hc; done) | (cases hc; cases hs; done))
          | (cases hc; done)
      · cases hc; cases hs
    · cases hc
  | call c =>
    exfalso
    rw [ho] at hc
    simp only [cop] at hc
    split at hc
    · rename_i f args _ _
      cases hf : X f with
      | none => rw [hf] at hc; cases hc
      | some df => rw [hf] at hc; cases hc; cases hs
    · unfold cbuiltin at hc
      repeat' split at hc
      all_goals first
        | (cases hc; done)
        | (cases hc; cases hs; done)
    · cases hc
  | build t ps =>
    exfalso
    rw [ho] at hc
    simp only [cop] at hc
    have key : ∀ (z : List DV) (o : Option (List (Nat × Nat × DX))), o.map (DOp.build z) = some op → False := by
      intro z o h; cases o with
      | none => cases h
      | some x => cases h; cases hs
    repeat' split at hc
    all_goals first
      | (cases hc; done)
      | exact key _ _ hc
  | buildSlice t len ps =>
    exfalso
    rw [ho] at hc
    simp only [cop] at hc
    repeat' split at hc
    all_goals first
      | (cases hc; done)
      | skip
    cases hq : cparts X _ ps.toList with
    | none => rw [hq] at hc; cases hc
    | some x => rw [hq] at hc; cases hc; cases hs
  | _ =>
    exfalso
    rw [ho] at hc
    simp only [cop] at hc
    all_goals first
      | (cases hc; done)
      | (cases hc; cases hs; done)
      | (cases hf : X _ with
         | none => rw [hf] at hc; cases hc
         | some df => rw [hf] at hc; cases hc; cases hs)
      | skip
    all_goals try (repeat' split at hc)
    all_goals first
      | (cases hc; done)
      | (cases hc; cases hs; done)
      | (unfold Option.map at hc; split at hc <;> first | (cases hc; done) | (cases hc; cases hs; done))
      | contradiction
end
end Go.Dm

namespace Go.Dm

def bf (b : List Nat) (j i : Nat) : Prop := (b.getD j 0).testBit i = true
theorem copersD_spec {E : Ti} {n m : Nat} {all : List Oper} : ∀ {l : List Oper} {ds : List DOper}, copersD E n m all l = some ds → ds.length = l.length ∧ ∀ (i : Nat) o, l[i]? = some o → ∃ d, ds[i]? = some d ∧ coper E n m all [] o = some d ∧ ∀ t, o.dst = some t → m.testBit t = true
  | [], ds, h => by simp only [copersD] at h; cases h; exact ⟨rfl, fun i o h => by simp at h⟩
  | o :: r, ds, h => by
    simp only [copersD] at h
    split at h
    · rename_i d ds' h1 h2 h3
      cases h
      obtain ⟨q1, q2⟩ := copersD_spec h3
      refine ⟨by simp [q1], fun i o' hi => ?_⟩
      cases i with
      | zero =>
        simp at hi; subst hi
        exact ⟨d, rfl, h1, fun t ht => by rw [ht] at h2; exact h2⟩
      | succ i => simpa using q2 i o' (by simpa using hi)
    · cases h
theorem fold_bit (g : Nat → Nat) (i : Nat) : ∀ (l : List Nat) (s : Nat), (l.foldl (fun s j => s ||| 2 ^ j ||| g j) s).testBit i = true ↔ (s.testBit i = true ∨ ∃ e ∈ l, i = e ∨ (g e).testBit i = true)
  | [], s => by simp
  | a :: l, s => by
    rw [List.foldl_cons, fold_bit g i l]
    simp only [Nat.testBit_or, Nat.testBit_two_pow, Bool.or_eq_true, decide_eq_true_eq, List.mem_cons]
    constructor
    · rintro (h | ⟨e, h1, h2⟩)
      · rcases h with (h | h) | h
        · exact .inl h
        · exact .inr ⟨a, .inl rfl, .inl h.symm⟩
        · exact .inr ⟨a, .inl rfl, .inr h⟩
      · exact .inr ⟨e, .inr h1, h2⟩
    · rintro (h | ⟨e, h1, h2⟩)
      · exact .inl (.inl (.inl h))
      · rcases h1 with rfl | h1
        · rcases h2 with h2 | h2
          · exact .inl (.inl (.inr h2.symm))
          · exact .inl (.inr h2)
        · exact .inr ⟨e, h1, h2⟩
theorem fold_congr {f g : Nat → Nat} : ∀ (l : List Nat) (s : Nat), (∀ e ∈ l, f e = g e) → l.foldl (fun s j => s ||| 2 ^ j ||| f j) s = l.foldl (fun s j => s ||| 2 ^ j ||| g j) s
  | [], s, _ => rfl
  | a :: l, s, h => by
    rw [List.foldl_cons, List.foldl_cons, h a (List.mem_cons_self ..)]
    exact fold_congr l _ fun e he => h e (List.mem_cons_of_mem _ he)
theorem befs_spec : ∀ {l : List Oper} {acc b : List Nat}, befs l acc = some b → acc.length + l.length = b.length ∧ (∀ i, i < acc.length → b[i]? = acc[i]?) ∧
    ∀ (i : Nat) o, l[i]? = some o → (∀ e ∈ edges o, e < acc.length + i) ∧ b.getD (acc.length + i) 0 = (edges o).foldl (fun s j => s ||| 2 ^ j ||| b.getD j 0) 0
  | [], acc, b, h => by simp only [befs] at h; cases h; exact ⟨rfl, fun _ _ => rfl, fun i o h => by simp at h⟩
  | o :: r, acc, b, h => by
    simp only [befs] at h
    split at h
    · rename_i hall
      obtain ⟨q1, q2, q3⟩ := befs_spec h
      simp only [List.length_append, List.length_singleton] at q1 q2 q3
      have hlt : ∀ e ∈ edges o, e < acc.length := fun e he => by simpa using List.all_eq_true.1 hall e he
      have hold : ∀ i, i < acc.length → b[i]? = acc[i]? := fun i hi => by rw [q2 i (by omega), List.getElem?_append_left hi]
      refine ⟨by simp only [List.length_cons]; omega, hold, fun i o' hi => ?_⟩
      cases i with
      | zero =>
        simp at hi; subst hi
        refine ⟨fun e he => by simpa using hlt e he, ?_⟩
        rw [List.getD_eq_getElem?_getD, Nat.add_zero, q2 acc.length (by omega), List.getElem?_append_right (Nat.le_refl _)]
        simp only [Nat.sub_self, List.getElem?_cons_zero, Option.getD_some]
        exact fold_congr _ _ fun e he => by rw [List.getD_eq_getElem?_getD, List.getD_eq_getElem?_getD, hold e (hlt e he)]
      | succ i =>
        have := q3 i o' (by simpa using hi)
        rw [show acc.length + (i + 1) = acc.length + 1 + i by omega]
        exact this
    · cases h
theorem subB_spec {n a b : Nat} (h : subB n a b = true) : ∀ i, i < n → a.testBit i = true → b.testBit i = true := fun i hi ha => by
  have := List.all_eq_true.1 h i (List.mem_range.2 hi)
  rw [ha] at this
  simpa using this
theorem orderOk_spec {n : Nat} {b : List Nat} : ∀ {p : List Nat} {done : Nat}, orderOk n b p done = true → ∀ pre j post, p = pre ++ j :: post →
    j < n ∧ done.testBit j = false ∧ j ∉ pre ∧ ∀ i, i < n → bf b j i → done.testBit i = true ∨ i ∈ pre
  | [], done, _, pre, j, post, he => by simp at he
  | a :: r, done, h, pre, j, post, he => by
    simp only [orderOk, Bool.and_eq_true, decide_eq_true_eq, Bool.not_eq_true'] at h
    obtain ⟨⟨⟨h1, h2⟩, h3⟩, h4⟩ := h
    cases pre with
    | nil =>
      simp at he
      obtain ⟨rfl, rfl⟩ := he
      exact ⟨h1, h2, by simp, fun i hi hb => .inl (subB_spec h3 i hi hb)⟩
    | cons c pre =>
      simp at he
      obtain ⟨rfl, he⟩ := he
      obtain ⟨q1, q2, q3, q4⟩ := orderOk_spec h4 pre j post he
      rw [Nat.testBit_or, Nat.testBit_two_pow, Bool.or_eq_false_iff] at q2
      have hne : a ≠ j := by simpa using q2.2
      refine ⟨q1, q2.1, by simp [q3]; exact fun h => hne h.symm, fun i hi hb => ?_⟩
      rcases q4 i hi hb with h | h
      · rw [Nat.testBit_or, Nat.testBit_two_pow, Bool.or_eq_true, decide_eq_true_eq] at h
        rcases h with h | h
        · exact .inl h
        · exact .inr (by simp [h])
      · exact .inr (List.mem_cons_of_mem _ h)
def loOf (ds : List DOper) (b : List Nat) (j : Nat) : Nat := (((List.range ds.length).filter (isEat ds)).filter fun e => (b.getD j 0).testBit e).length
def hiOf (ds : List DOper) (b : List Nat) (j : Nat) : Nat := ((List.range ds.length).filter (isEat ds)).length - (((List.range ds.length).filter (isEat ds)).filter fun e => (b.getD e 0).testBit j).length
theorem draws_spec {ds : List DOper} {b : List Nat} : ∀ {p : List Nat} {dl : List (DOper × Draw)}, draws ds b p = some dl → dl.length = p.length ∧ ∀ (k j : Nat), p[k]? = some j → ∃ d, ds[j]? = some d ∧ dl[k]? = some (d, ⟨loOf ds b j, hiOf ds b j⟩)
  | [], dl, h => by simp only [draws] at h; cases h; exact ⟨rfl, fun k j h => by simp at h⟩
  | a :: r, dl, h => by
    simp only [draws] at h
    split at h
    · rename_i d l h1 h2
      cases h
      obtain ⟨q1, q2⟩ := draws_spec h2
      refine ⟨by simp [q1], fun k j hk => ?_⟩
      cases k with
      | zero => simp at hk; subst hk; exact ⟨d, h1, rfl⟩
      | succ k => simpa using q2 k j (by simpa using hk)
    · cases h

/-- what is known of a region that draws -/
structure DrR (E : Ti) (n m : Nat) (ops : List Oper) (ds : List DOper) (b p : List Nat) : Prop where
  len : ds.length = ops.length
  op : ∀ (j : Nat) o, ops[j]? = some o → ∃ d, ds[j]? = some d ∧ coper E n m ops [] o = some d ∧ ∀ t, o.dst = some t → m.testBit t = true
  edge : ∀ (j : Nat) o, ops[j]? = some o → ∀ e ∈ edges o, e < j ∧ bf b j e
  bef : ∀ (j : Nat) o, ops[j]? = some o → ∀ i, bf b j i → ∃ e ∈ edges o, i = e ∨ bf b e i
  lt : ∀ j i, j < ops.length → bf b j i → i < j
  ord : ∀ pre j post, p = pre ++ j :: post → j < ops.length ∧ j ∉ pre ∧ ∀ i, bf b j i → i ∈ pre
  all : ∀ j, j < ops.length → j ∈ p
  eff : p.filter (isEat ds) = (List.range ds.length).filter (isEat ds)
  ee : ∀ i j, i < j → j < ops.length → isEat ds i = true → isEat ds j = true → bf b j i
  made : ∀ (j : Nat) (d : DOper), ds[j]? = some d → d.op.sort = 2 → d.guard = none
  slot : ∀ (i j : Nat) oi oj, ops[i]? = some oi → ops[j]? = some oj → i ≠ j → slotsOk ops oi oj = true ∨ bf b j i ∨ bf b i j
theorem cdraw_spec {E : Ti} {n m : Nat} {ops : List Oper} {dl : List (DOper × Draw)} (h : cdraw E n m ops = some dl) : ∃ ds b p, DrR E n m ops ds b p ∧ draws ds b p = some dl := by
  unfold cdraw at h
  split at h
  · rename_i ds b h1 h2
    split at h
    · rename_i hok
      refine ⟨ds, b, canon ds b, ?_, h⟩
      obtain ⟨c1, c2⟩ := copersD_spec h1
      obtain ⟨b1, b2, b3⟩ := befs_spec h2
      simp only [List.length_nil, Nat.zero_add] at b1 b3
      generalize canon ds b = p at hok h
      simp only [drawOk, Bool.and_eq_true, beq_iff_eq] at hok
      obtain ⟨⟨⟨⟨k1, k2⟩, k3⟩, k4⟩, k5⟩ := hok
      have hget : ∀ j, j < ops.length → ∃ o, ops[j]? = some o := fun j hj => ⟨ops[j], by simp [hj]⟩
      have hbef : ∀ (j : Nat) o, ops[j]? = some o → ∀ i, bf b j i ↔ ∃ e ∈ edges o, i = e ∨ bf b e i := fun j o ho i => by
        unfold bf
        rw [(b3 j o ho).2, fold_bit]
        simp
      have hlt : ∀ j, ∀ i, j < ops.length → bf b j i → i < j := by
        intro j
        induction j using Nat.strongRecOn with
        | _ j ihj =>
          intro i hj hb
          obtain ⟨o, ho⟩ := hget j hj
          obtain ⟨e, he, h3⟩ := (hbef j o ho i).1 hb
          have h4 := (b3 j o ho).1 e he
          rcases h3 with rfl | h3
          · exact h4
          · have := ihj e h4 i (by omega) h3; omega
      have hin := List.all_eq_true.1 k5
      refine ⟨c1, c2, fun j o ho e he => ⟨(b3 j o ho).1 e he, (hbef j o ho e).2 ⟨e, he, .inl rfl⟩⟩, fun j o ho i hb => (hbef j o ho i).1 hb, fun j i => hlt j i, ?_, ?_, k4, ?_, ?_, ?_⟩
      · intro pre j post he
        obtain ⟨q1, q2, q3, q4⟩ := orderOk_spec k2 pre j post he
        rw [c1] at q1
        refine ⟨q1, q3, fun i hb => ?_⟩
        rcases q4 i (by rw [c1]; have := hlt j i q1 hb; omega) hb with h | h
        · simp at h
        · exact h
      · intro j hj
        have := List.all_eq_true.1 k3 j (by rw [List.mem_range, c1]; exact hj)
        simpa using this
      · intro i j hij hj hi hej
        have h3 := hin j (by rw [List.mem_range, c1]; exact hj)
        rw [Bool.and_eq_true] at h3
        have h4 := List.all_eq_true.1 h3.2 i (by rw [List.mem_range, c1]; omega)
        rw [Bool.and_eq_true] at h4
        have h5 := h4.1
        rw [hi, hej] at h5
        simpa [hij, bf] using h5
      · intro j d hd hs
        have hj : j < ds.length := (List.getElem?_eq_some_iff.1 hd).1
        have h3 := hin j (List.mem_range.2 hj)
        rw [Bool.and_eq_true] at h3
        have h4 := h3.1
        rw [hd] at h4
        simp only [hs] at h4
        have : Nat.beq 2 2 = true := rfl
        rw [this] at h4
        simpa using h4
      · intro i j oi oj hi hj hne
        have hi' : i < ops.length := (List.getElem?_eq_some_iff.1 hi).1
        have hj' : j < ops.length := (List.getElem?_eq_some_iff.1 hj).1
        have h3 := hin j (by rw [List.mem_range, c1]; exact hj')
        rw [Bool.and_eq_true] at h3
        have h4 := List.all_eq_true.1 h3.2 i (by rw [List.mem_range, c1]; exact hi')
        rw [Bool.and_eq_true] at h4
        have h5 := h4.2
        rw [hi, hj] at h5
        simp only [Bool.or_eq_true] at h5
        rcases h5 with ((h5 | h5) | h5) | h5
        · have := Nat.eq_of_beq_eq_true h5; exact absurd this hne
        · exact .inl h5
        · exact .inr (.inl h5)
        · exact .inr (.inr h5)
    · cases h
  · cases h
end Go.Dm

namespace Go.Dm
open Go.RowKit (Below)

noncomputable def rplS (S : Nat → Bool) (tm : T DV) : List (Nat × Rc) → T DV
  | [] => tm
  | x :: l => rplS S (bif S x.1 then putM tm x.2.od.dst x.2.v else tm) l
theorem putM_get (tm : T DV) (dst : Option Pth) (v : DV) (q : Pth) : (putM tm dst v).get q = if dst = some q then some v else tm.get q := by
  cases dst with
  | none => simp [putM]
  | some d =>
    show (tm.set d (some v)).get q = _
    by_cases e : d = q
    · subst e; simp [T.get_set]
    · rw [T.get_set_ne _ _ _ _ (fun h => e h.symm), if_neg (by simpa using e)]
theorem rplS_same {S S' : Nat → Bool} {q : Pth} : ∀ (l : List (Nat × Rc)) (tm tm' : T DV), tm.get q = tm'.get q → (∀ x ∈ l, x.2.od.dst = some q → S x.1 = S' x.1) → (rplS S tm l).get q = (rplS S' tm' l).get q
  | [], _, _, h, _ => h
  | x :: l, tm, tm', h, hs => by
    simp only [rplS]
    refine rplS_same l _ _ ?_ fun y hy => hs y (List.mem_cons_of_mem _ hy)
    have h1 := hs x (List.mem_cons_self ..)
    by_cases e : x.2.od.dst = some q
    · rw [h1 e]
      cases S' x.1 with
      | true => simp only [cond_true, putM_get, if_pos e]
      | false => simpa using h
    · have g : ∀ (b : Bool) (t : T DV), (bif b then putM t x.2.od.dst x.2.v else t).get q = t.get q := fun b t => by
        cases b with
        | true => simp only [cond_true, putM_get, if_neg e]
        | false => rfl
      rw [g, g]; exact h
theorem rplS_none {S : Nat → Bool} {q : Pth} : ∀ (l : List (Nat × Rc)) (tm : T DV), (∀ x ∈ l, x.2.od.dst = some q → S x.1 = false) → (rplS S tm l).get q = tm.get q
  | [], _, _ => rfl
  | x :: l, tm, hs => by
    simp only [rplS]
    rw [rplS_none l _ fun y hy => hs y (List.mem_cons_of_mem _ hy)]
    by_cases e : x.2.od.dst = some q
    · rw [hs x (List.mem_cons_self ..) e]; rfl
    · cases S x.1 with
      | true => simp only [cond_true, putM_get, if_neg e]
      | false => rfl
theorem rplS_append (S : Nat → Bool) (a b : List (Nat × Rc)) (tm : T DV) : rplS S tm (a ++ b) = rplS S (rplS S tm a) b := by
  induction a generalizing tm with
  | nil => rfl
  | cons x a ih => simp only [List.cons_append, rplS]; rw [ih]
theorem rplS_all (l : List (Nat × Rc)) (tm : T DV) : replay tm (l.map (·.2)) = rplS (fun _ => true) tm l := by
  induction l generalizing tm with
  | nil => rfl
  | cons x l ih => simp only [List.map_cons, replay, rplS, cond_true]; rw [ih]
theorem RunT.cnt {D : Env} {ih : Ih} {l : List (DOper × Draw)} {fr : Fr} {h : H} {hs : List H} {ss : List Seen} {rs : List Rc} {fr2 : Fr} {h2 : H} {hs2 : List H} {ss2 : List Seen} (hr : RunT D ih l fr h hs ss rs fr2 h2 hs2 ss2) :
    hs ≠ [] → ∀ (pre : List Rc) (r : Rc) (post : List Rc), rs = pre ++ r :: post → r.c + 1 = hs.length + pre.countP (fun r => r.od.op.sort == 3) := by
  induction hr with
  | nil => intro _ pre r post h; simp at h
  | cons r l hs ss ss1 rs fr2 h2 hs2 ss2 hok hc hss hlo hrun ih' =>
    intro hne pre r' post he
    cases pre with
    | nil => simp at he; rw [← he.1]; simpa using hc
    | cons a pre =>
      simp at he
      obtain ⟨rfl, he⟩ := he
      have hlt : r.od.op.sort ≤ 3 := by cases r.od.op <;> simp [DOp.sort]
      have hn : (r.next hs).length = hs.length + (if r.od.op.sort = 3 then 1 else 0) ∧ r.next hs ≠ [] := by
        have h0 : hs.tail.length + 1 = hs.length := by cases hs with
          | nil => exact absurd rfl hne
          | cons a b => rfl
        have h0123 : r.od.op.sort = 0 ∨ r.od.op.sort = 1 ∨ r.od.op.sort = 2 ∨ r.od.op.sort = 3 := by omega
        rcases h0123 with h3 | h3 | h3 | h3
        · simp only [Rc.next, h3]; exact ⟨rfl, hne⟩
        · simp only [Rc.next, h3]; exact ⟨rfl, hne⟩
        · simp only [Rc.next, h3]
          cases r.w with
          | true => exact ⟨by simpa using h0, by simp⟩
          | false => exact ⟨rfl, hne⟩
        · simp only [Rc.next, h3]; exact ⟨rfl, by simp⟩
      have := ih' hn.2 pre r' post he
      rw [this, hn.1, List.countP_cons]
      by_cases h3 : r.od.op.sort = 3
      · simp [h3]; omega
      · simp [h3]

/-- a region's run on the D-machine -/
structure Sim (E : Ti) (D : Env) (ih : Ih) (ops : List Oper) (n m : Nat) (ds : List DOper) (b : List Nat) (pr : List (Nat × Rc)) (fr : Fr) (h : H) (fr2 : Fr) (h2 : H) (hs2 : List H) (hF : Nat → H) (cF : Nat → Core) : Prop where
  dr : DrR E n m ops ds b (pr.map (·.1))
  rec_ : ∀ x ∈ pr, ds[x.1]? = some x.2.od ∧ x.2.dr = ⟨loOf ds b x.1, hiOf ds b x.1⟩ ∧ RcOk D ih x.2
  tr : Tr fr h [] (pr.map (·.2)) fr2 h2 hs2 hF cF
  tms : ∀ pre x post, pr = pre ++ x :: post → x.2.fr.tm = rplS (fun _ => true) fr.tm pre
  tm2 : fr2.tm = rplS (fun _ => true) fr.tm pr
  cnt : ∀ pre x post, pr = pre ++ x :: post → x.2.c = pre.countP (fun x => x.2.od.op.sort == 3)
  look : ∀ x ∈ pr, x.2.od.op.sort = 1 → x.2.w = true → ∀ c, x.2.dr.lo ≤ c → c ≤ x.2.dr.hi → c < hs2.length → lookOk x.2.od.op x.2.fr.ev x.2.v (hF c) = true
  made : ∀ x ∈ pr, x.2.mk2 → x.2.c = x.2.dr.lo ∧ ∃ cs e, x.2.h' = x.2.h.new (.cells cs e false) ∧ ∀ c, x.2.dr.lo ≤ c → c ≤ x.2.dr.hi → c < hs2.length → madeOk x.2.h.nx cs e (hF c) = true

theorem mem_within {hs2 : List H} {hF : Nat → H} (hat : ∀ i, i < hs2.length → hs2.reverse[i]? = some (hF i)) {dr : Draw} {c : Nat} (h1 : dr.lo ≤ c) (h2 : c ≤ dr.hi) (h3 : c < hs2.length) : hF c ∈ within hs2 dr := by
  unfold within
  refine List.mem_of_getElem? (i := c - dr.lo) ?_
  rw [List.getElem?_take_of_lt (by omega), List.getElem?_drop, show dr.lo + (c - dr.lo) = c by omega]
  exact hat c h3
theorem sim_of_run {E : Ti} {D : Env} {ih : Ih} {ops : List Oper} {n m : Nat} {dl : List (DOper × Draw)} (hc : cdraw E n m ops = some dl) {fr : Fr} {h : H} {fr2 : Fr} {h2 : H} (hd : ddraw D ih dl fr h [h] [] = .nrm fr2 h2) :
    ∃ ds b pr hs2 hF cF, Sim E D ih ops n m ds b pr fr h fr2 h2 hs2 hF cF := by
  obtain ⟨ds, b, p, hdr, hp⟩ := cdraw_spec hc
  obtain ⟨rs, hs2, ss2, hrun, hall⟩ := ddraw_run dl fr h [h] [] fr2 h2 (by simp) hd
  obtain ⟨hF, cF, htr⟩ := hrun.tr [] rfl
  obtain ⟨-, hl, hok, hlook, hmade⟩ := hrun.seen
  obtain ⟨htm2, htms⟩ := hrun.tms
  have hcnt := hrun.cnt (by simp)
  obtain ⟨hlen, hget⟩ := draws_spec hp
  have hrl : rs.length = p.length := by rw [← hlen, hl]; simp
  have h1 : (p.zip rs).map (·.1) = p := by rw [List.map_fst_zip (by omega)]
  have h2' : (p.zip rs).map (·.2) = rs := by rw [List.map_snd_zip (by omega)]
  have hat : ∀ i, i < hs2.length → hs2.reverse[i]? = some (hF i) := fun i hi => htr.at_ i (Nat.zero_le _) hi
  have hmem : ∀ x ∈ p.zip rs, x.2 ∈ rs := fun x hx => by rw [← h2']; exact List.mem_map_of_mem hx
  have hsplit : ∀ pre x post, p.zip rs = pre ++ x :: post → rs = pre.map (·.2) ++ x.2 :: post.map (·.2) := fun pre x post he => by
    rw [← h2', he]; simp
  refine ⟨ds, b, p.zip rs, hs2, hF, cF, ⟨by rw [h1]; exact hdr, fun x hx => ?_, by rw [h2']; exact htr, fun pre x post he => ?_, ?_, fun pre x post he => ?_, fun x hx hs hw c c1 c2 c3 => ?_, fun x hx hm => ?_⟩⟩
  · obtain ⟨k, hk⟩ := List.mem_iff_getElem?.1 hx
    obtain ⟨g1, g2⟩ := List.getElem?_zip_eq_some.1 hk
    obtain ⟨d, g3, g4⟩ := hget k x.1 g1
    rw [hl, List.getElem?_map, g2] at g4
    simp only [Option.map_some, Option.some.injEq, Prod.mk.injEq] at g4
    exact ⟨by rw [g3, g4.1], g4.2, hok _ (hmem x hx)⟩
  · rw [← rplS_all]; exact htms _ _ _ (hsplit pre x post he)
  · rw [← rplS_all, h2']; exact htm2
  · have := hcnt _ _ _ (hsplit pre x post he)
    simp only [List.length_singleton, List.countP_map] at this
    have e : x.2.c = List.countP ((fun r => r.od.op.sort == 3) ∘ fun x => x.2) pre := by omega
    exact e
  · have hs1 := hlook _ (hmem x hx) hs hw
    have hs2' := List.all_eq_true.1 hall _ hs1
    simp only [seenOk] at hs2'
    exact List.all_eq_true.1 hs2' _ (mem_within hat c1 c2 c3)
  · obtain ⟨e1, cs, e, e2, e3⟩ := hmade _ (hmem x hx) hm
    refine ⟨e1, cs, e, e2, fun c c1 c2 c3 => ?_⟩
    have hs2' := List.all_eq_true.1 hall _ e3
    simp only [seenOk] at hs2'
    exact List.all_eq_true.1 hs2' _ (mem_within hat c1 c2 c3)

/-! ### Slots, counts -/
def cntS (ds : List DOper) (S : Nat → Bool) : Nat := ((List.range ds.length).filter (isEat ds)).countP S
def addS (S : Nat → Bool) (j : Nat) : Nat → Bool := fun i => S i || Nat.beq i j
theorem addS_self (S : Nat → Bool) (j : Nat) : addS S j j = true := by simp [addS, Nat.beq_refl]
theorem addS_ne (S : Nat → Bool) {i j : Nat} (h : i ≠ j) : addS S j i = S i := by
  have : Nat.beq i j = false := by rw [beq_dec]; simpa using h
  simp [addS, this]
section
variable {E : Ti} {D : Env} {ih : Ih} {ops : List Oper} {n m : Nat} {ds : List DOper} {b : List Nat} {pr : List (Nat × Rc)} {fr : Fr} {h : H} {fr2 : Fr} {h2 : H} {hs2 : List H} {hF : Nat → H} {cF : Nat → Core}
  (s : Sim E D ih ops n m ds b pr fr h fr2 h2 hs2 hF cF) {S : Nat → Bool} (down : ∀ j i, j < ops.length → S j = true → bf b j i → S i = true)
include s
theorem Sim.split {j : Nat} (hj : j < ops.length) : ∃ pre r post, pr = pre ++ (j, r) :: post := by
  obtain ⟨x, hx, he⟩ := List.mem_map.1 (s.dr.all j hj)
  obtain ⟨pre, post, hp⟩ := List.append_of_mem hx
  exact ⟨pre, x.2, post, by rw [hp, ← he]⟩
theorem Sim.at_ {pre : List (Nat × Rc)} {j : Nat} {r : Rc} {post : List (Nat × Rc)} (hp : pr = pre ++ (j, r) :: post) :
    j < ops.length ∧ (∀ x ∈ pre, x.1 ≠ j) ∧ (∀ x ∈ post, x.1 ≠ j) ∧ (∀ i, bf b j i → ∃ x ∈ pre, x.1 = i) ∧ (∀ x ∈ pre, ¬ bf b x.1 j) ∧ (∀ x ∈ post, ¬ bf b j x.1) := by
  have h1 : pr.map (·.1) = pre.map (·.1) ++ j :: post.map (·.1) := by rw [hp]; simp
  obtain ⟨q1, q2, q3⟩ := s.dr.ord _ _ _ h1
  have hpost : ∀ x ∈ post, x.1 ≠ j ∧ x.1 ∉ pre.map (·.1) := fun x hx => by
    obtain ⟨a, c, hac⟩ := List.append_of_mem hx
    have h2 : pr.map (·.1) = (pre.map (·.1) ++ j :: a.map (·.1)) ++ x.1 :: c.map (·.1) := by rw [hp, hac]; simp
    obtain ⟨-, p2, -⟩ := s.dr.ord _ _ _ h2
    simp only [List.mem_append, List.mem_cons, not_or] at p2
    exact ⟨p2.2.1, p2.1⟩
  refine ⟨q1, fun x hx e => q2 (by rw [← e]; exact List.mem_map_of_mem hx), fun x hx => (hpost x hx).1, fun i hi => by simpa using List.mem_map.1 (q3 i hi), fun x hx hb => ?_, fun x hx hb => (hpost x hx).2 (q3 _ hb)⟩
  obtain ⟨a, c, hac⟩ := List.append_of_mem hx
  have h2 : pr.map (·.1) = a.map (·.1) ++ x.1 :: (c.map (·.1) ++ j :: post.map (·.1)) := by rw [hp, hac]; simp
  obtain ⟨-, -, p3⟩ := s.dr.ord _ _ _ h2
  have hja := p3 j hb
  refine q2 ?_
  rw [hac]; simp only [List.map_append, List.mem_append]; exact .inl hja
/-- who writes a slot -/
theorem Sim.writes {x : Nat × Rc} (hx : x ∈ pr) {t : Nat} (hd : x.2.od.dst = some (bits t)) : ∃ o, ops[x.1]? = some o ∧ o.dst = some t := by
  obtain ⟨h1, -, -⟩ := s.rec_ x hx
  have hlt : x.1 < ds.length := (List.getElem?_eq_some_iff.1 h1).1
  rw [s.dr.len] at hlt
  obtain ⟨o, ho⟩ : ∃ o, ops[x.1]? = some o := ⟨ops[x.1], by simp [hlt]⟩
  obtain ⟨d, g1, g2, g3⟩ := s.dr.op _ o ho
  rw [h1] at g1; cases g1
  obtain ⟨-, -, c3⟩ := coper_inv g2
  rw [hd] at c3
  refine ⟨o, ho, ?_⟩
  cases hod : o.dst with
  | none => rw [hod] at c3; cases c3
  | some d =>
    rw [hod] at c3
    simp only [dstD, g3 d hod, if_true, Option.some.injEq] at c3
    rw [bits_inj c3]
include down
/-- what an operation reads is what it has read there -/
theorem Sim.read {pre : List (Nat × Rc)} {j : Nat} {r : Rc} {post : List (Nat × Rc)} (hp : pr = pre ++ (j, r) :: post) {o : Oper} (ho : ops[j]? = some o) (hj : S j = false) (hb : ∀ i, bf b j i → S i = true)
    {t : Nat} (ht : t ∈ Oper.looks ops o) : r.fr.tm.get (bits t) = (rplS S fr.tm pr).get (bits t) := by
  obtain ⟨a1, a2, a3, a4, a5, a6⟩ := s.at_ hp
  have ne : ∀ x ∈ pr, x.1 ≠ j → x.2.od.dst = some (bits t) → bf b j x.1 ∨ (bf b x.1 j ∧ x.1 < ops.length) := fun x hx hne hd => by
    obtain ⟨ox, h1, h2⟩ := s.writes hx hd
    rcases s.dr.slot x.1 j ox o h1 ho hne with h | h | h
    · exfalso
      simp only [slotsOk, h2, Bool.not_eq_true', Bool.or_eq_false_iff] at h
      rw [List.contains_eq_mem] at h
      simpa [ht] using h.1
    · exact .inl h
    · exact .inr ⟨h, (List.getElem?_eq_some_iff.1 h1).1⟩
  rw [s.tms _ _ _ hp, show rplS S fr.tm pr = rplS S (rplS S fr.tm pre) ((j, r) :: post) by rw [hp, rplS_append], rplS_none ((j, r) :: post)]
  · refine rplS_same pre _ _ rfl fun x hx hd => ?_
    rcases ne x (by rw [hp]; exact List.mem_append_left _ hx) (a2 x hx) hd with h | h
    · exact (hb _ h).symm
    · exact absurd h.1 (a5 x hx)
  · intro x hx hd
    rcases List.mem_cons.1 hx with rfl | hx
    · exact hj
    · rcases ne x (by rw [hp]; exact List.mem_append_right _ (List.mem_cons_of_mem _ hx)) (a3 x hx) hd with h | h
      · exact absurd h (a6 x hx)
      · cases hs : S x.1 with
        | false => rfl
        | true => have := down _ _ h.2 hs h.1; rw [hj] at this; cases this
theorem Sim.write {pre : List (Nat × Rc)} {j : Nat} {r : Rc} {post : List (Nat × Rc)} (hp : pr = pre ++ (j, r) :: post) {o : Oper} (ho : ops[j]? = some o) (hj : S j = false) (t : Nat) :
    (rplS (addS S j) fr.tm pr).get (bits t) = (putM (rplS S fr.tm pr) r.od.dst r.v).get (bits t) := by
  obtain ⟨a1, a2, a3, a4, a5, a6⟩ := s.at_ hp
  rw [putM_get]
  by_cases e : r.od.dst = some (bits t)
  · rw [if_pos e]
    obtain ⟨o', ho', hdst⟩ := s.writes (x := (j, r)) (by rw [hp]; simp) e
    rw [ho] at ho'; cases ho'
    rw [show rplS (addS S j) fr.tm pr = rplS (addS S j) (rplS (addS S j) fr.tm pre) ((j, r) :: post) by rw [hp, rplS_append]]
    simp only [rplS, addS_self, cond_true]
    rw [rplS_none post]
    · rw [putM_get, if_pos e]
    · intro x hx hd
      have hne := a3 x hx
      rw [addS_ne S hne]
      obtain ⟨ox, h1, h2⟩ := s.writes (x := x) (by rw [hp]; exact List.mem_append_right _ (List.mem_cons_of_mem _ hx)) hd
      rcases s.dr.slot x.1 j ox o h1 ho hne with h | h | h
      · exfalso
        simp only [slotsOk, h2, hdst, Bool.not_eq_true', Bool.or_eq_false_iff] at h
        simpa using h.2
      · exact absurd h (a6 x hx)
      · cases hs : S x.1 with
        | false => rfl
        | true => have := down _ _ (List.getElem?_eq_some_iff.1 h1).1 hs h; rw [hj] at this; cases this
  · rw [if_neg e]
    refine rplS_same pr _ _ rfl fun x hx hd => ?_
    by_cases ex : x.1 = j
    · exfalso
      rw [hp] at hx
      rcases List.mem_append.1 hx with hx | hx
      · exact a2 x hx ex
      · rcases List.mem_cons.1 hx with rfl | hx
        · exact e hd
        · exact a3 x hx ex
    · exact addS_ne S ex
omit down
theorem Sim.isE {x : Nat × Rc} (hx : x ∈ pr) : isEat ds x.1 = (x.2.od.op.sort == 3) := by
  obtain ⟨h1, -, -⟩ := s.rec_ x hx
  simp only [isEat, h1, Dm.isE]
  rw [beq_dec]; rfl
theorem Sim.hlen : hs2.length = ((List.range ds.length).filter (isEat ds)).length + 1 := by
  have h1 := s.tr.len
  simp only [List.length_nil, Nat.zero_add] at h1
  rw [h1, ← s.dr.eff, List.filter_map, List.length_map, ← List.countP_eq_length_filter, List.countP_map]
  have : List.countP ((fun r => r.od.op.sort == 3) ∘ fun x => x.2) pr = List.countP ((isEat ds) ∘ fun x => x.1) pr := by
    refine List.countP_congr fun x hx => ?_
    simp only [Function.comp_apply, s.isE hx]
  rw [this]; omega
theorem Sim.cnt_lt : cntS ds S < hs2.length := by
  rw [s.hlen]; exact Nat.lt_succ_of_le List.countP_le_length
theorem Sim.lo_le {j : Nat} (hb : ∀ i, bf b j i → S i = true) : loOf ds b j ≤ cntS ds S := by
  unfold loOf cntS
  rw [← List.countP_eq_length_filter]
  exact List.countP_mono_left fun e _ he => hb e he
include down
theorem Sim.le_hi {j : Nat} (hj : S j = false) : cntS ds S ≤ hiOf ds b j := by
  unfold hiOf cntS
  generalize hes : (List.range ds.length).filter (isEat ds) = es
  have hlt : ∀ e ∈ es, e < ops.length := fun e he => by
    rw [← hes] at he
    have := (List.mem_filter.1 he).1
    rw [List.mem_range, s.dr.len] at this; exact this
  rw [← List.countP_eq_length_filter]
  have key : ∀ l : List Nat, (∀ e ∈ l, e < ops.length) → List.countP S l + List.countP (fun e => (b.getD e 0).testBit j) l ≤ l.length := by
    intro l
    induction l with
    | nil => intro _; simp
    | cons e l ihl =>
      intro hl
      have h1 := ihl fun x hx => hl x (List.mem_cons_of_mem _ hx)
      rw [List.countP_cons, List.countP_cons, List.length_cons]
      cases hs : S e with
      | false => simp only [Bool.false_eq_true, if_false]; split <;> omega
      | true =>
        have hn : (b.getD e 0).testBit j = false := by
          cases hb : (b.getD e 0).testBit j with
          | false => rfl
          | true => have := down e j (hl e (List.mem_cons_self ..)) hs hb; rw [hj] at this; cases this
        rw [hn]; simp only [Bool.false_eq_true, if_false, if_true]; omega
  have := key es hlt
  omega
/-- an effect's count is how many effects lie behind -/
theorem Sim.cnt_eff {pre : List (Nat × Rc)} {j : Nat} {r : Rc} {post : List (Nat × Rc)} (hp : pr = pre ++ (j, r) :: post) (h3 : r.od.op.sort = 3) (hj : S j = false) (hb : ∀ i, bf b j i → S i = true) :
    r.c = cntS ds S ∧ cntS ds (addS S j) = cntS ds S + 1 := by
  obtain ⟨a1, a2, a3, a4, a5, a6⟩ := s.at_ hp
  have hje : isEat ds j = true := by
    have := s.isE (x := (j, r)) (by rw [hp]; simp)
    simp only [h3] at this; simpa using this
  have hes : (List.range ds.length).filter (isEat ds) = (pre.map (·.1)).filter (isEat ds) ++ j :: (post.map (·.1)).filter (isEat ds) := by
    rw [← s.dr.eff, hp]
    simp [List.filter_append, List.filter_cons, hje]
  have hlt : ∀ x ∈ pr, x.1 < ops.length := fun x hx => by
    have := (List.getElem?_eq_some_iff.1 (s.rec_ x hx).1).1
    rw [s.dr.len] at this; exact this
  have hpre : ∀ x ∈ pre, isEat ds x.1 = true → S x.1 = true := fun x hx he => by
    have hxp : x ∈ pr := by rw [hp]; exact List.mem_append_left _ hx
    have hne := a2 x hx
    rcases Nat.lt_or_gt_of_ne hne with h | h
    · exact hb _ (s.dr.ee x.1 j h a1 he hje)
    · exact absurd (s.dr.ee j x.1 h (hlt x hxp) hje he) (a5 x hx)
  have hpost : ∀ x ∈ post, isEat ds x.1 = true → S x.1 = false := fun x hx he => by
    have hxp : x ∈ pr := by rw [hp]; exact List.mem_append_right _ (List.mem_cons_of_mem _ hx)
    have hne := a3 x hx
    rcases Nat.lt_or_gt_of_ne hne with h | h
    · exact absurd (s.dr.ee x.1 j h a1 he hje) (a6 x hx)
    · cases hs : S x.1 with
      | false => rfl
      | true => have := down _ _ (hlt x hxp) hs (s.dr.ee j x.1 h (hlt x hxp) hje he); rw [hj] at this; cases this
  have c1 : List.countP S ((pre.map (·.1)).filter (isEat ds)) = ((pre.map (·.1)).filter (isEat ds)).length := by
    rw [List.countP_eq_length]
    intro i hi
    obtain ⟨h1, h2⟩ := List.mem_filter.1 hi
    obtain ⟨x, hx, rfl⟩ := List.mem_map.1 h1
    exact hpre x hx h2
  have c2 : List.countP S ((post.map (·.1)).filter (isEat ds)) = 0 := by
    rw [List.countP_eq_zero]
    intro i hi
    obtain ⟨h1, h2⟩ := List.mem_filter.1 hi
    obtain ⟨x, hx, rfl⟩ := List.mem_map.1 h1
    rw [hpost x hx h2]; simp
  have d1 : List.countP (addS S j) ((pre.map (·.1)).filter (isEat ds)) = List.countP S ((pre.map (·.1)).filter (isEat ds)) := by
    refine List.countP_congr fun i hi => ?_
    obtain ⟨x, hx, rfl⟩ := List.mem_map.1 (List.mem_filter.1 hi).1
    rw [addS_ne S (a2 x hx)]
  have d2 : List.countP (addS S j) ((post.map (·.1)).filter (isEat ds)) = List.countP S ((post.map (·.1)).filter (isEat ds)) := by
    refine List.countP_congr fun i hi => ?_
    obtain ⟨x, hx, rfl⟩ := List.mem_map.1 (List.mem_filter.1 hi).1
    rw [addS_ne S (a3 x hx)]
  constructor
  · rw [s.cnt _ _ _ hp]
    unfold cntS
    rw [hes, List.countP_append, List.countP_cons, c1, c2, hj]
    simp only [Bool.false_eq_true, if_false, Nat.add_zero]
    rw [List.filter_map, List.length_map, ← List.countP_eq_length_filter]
    refine List.countP_congr fun x hx => ?_
    have := s.isE (x := x) (by rw [hp]; exact List.mem_append_left _ hx)
    simp only [Function.comp_apply, this]
  · unfold cntS
    rw [hes, List.countP_append, List.countP_append, List.countP_cons, List.countP_cons, d1, d2, hj, addS_self]
    simp; omega
omit down s
theorem Sim.cnt_other {j : Nat} (h3 : isEat ds j = false) : cntS ds (addS S j) = cntS ds S := by
  unfold cntS
  refine List.countP_congr fun i hi => ?_
  have hne : i ≠ j := fun e => by subst e; rw [(List.mem_filter.1 hi).2] at h3; cases h3
  rw [addS_ne S hne]
end
end Go.Dm

namespace Go.Dm
open Go.RowKit (Below)

def GS (G : Nat → Prop) (pr : List (Nat × Rc)) (S : Nat → Bool) (c : Nat) : Nat → Prop := fun d => G d ∨ ∃ x ∈ pr, S x.1 = false ∧ x.2.mk2 ∧ x.2.c ≤ c ∧ d = x.2.h.nx
def RoR (β : Bt) (ro : Option Nat) (fb : Frame) : Prop := match ro with | none => fb.roundOf = none | some l => ∃ L, β l = some L ∧ fb.roundOf = some L.r
theorem RoR.mono {β β' : Bt} (hb : β.le β') {ro : Option Nat} {fb : Frame} (h : RoR β ro fb) : RoR β' ro fb := by
  cases ro with
  | none => exact h
  | some l => obtain ⟨L, h1, h2⟩ := h; exact ⟨L, hb _ _ h1, h2⟩

theorem pairwise_sym {α : Type} {R : α → α → Prop} (sym : ∀ x y, R x y → R y x) : ∀ {l : List α}, l.Pairwise R → ∀ x ∈ l, ∀ y ∈ l, x ≠ y → R x y
  | [], _, x, hx, _, _, _ => by simp at hx
  | a :: l, h, x, hx, y, hy, hne => by
    rw [List.pairwise_cons] at h
    rcases List.mem_cons.1 hx with e1 | hx'
    · rcases List.mem_cons.1 hy with e2 | hy'
      · exact absurd (e1.trans e2.symm) hne
      · rw [e1]; exact h.1 y hy'
    · rcases List.mem_cons.1 hy with e2 | hy'
      · rw [e2]; exact sym _ _ (h.1 x hx')
      · exact pairwise_sym sym h.2 x hx' y hy' hne

theorem evX_congr {E : Ti} {m : Nat} {x : Operand} {dx : DX} (h : cx E m [] x = some dx) {tm tm' : T DV} (ht : ∀ t, x = .tmp t → tm.get (bits t) = tm'.get (bits t)) : evX dx tm [] = evX dx tm' [] := by
  cases x with
  | tmp t =>
    simp only [cx, List.findIdx?_nil] at h
    split at h
    · cases h; show orU (tm.get (bits t)) = orU (tm'.get (bits t)); rw [ht t rfl]
    · cases h
  | const v =>
    simp only [cx] at h
    cases hc : cval v with
    | none => rw [hc] at h; cases h
    | some dv => rw [hc] at h; cases h; rfl
  | global g =>
    simp only [cx] at h
    split at h
    · cases h; rfl
    · cases h
  | func f => simp only [cx] at h; cases h; rfl
theorem guard_congr {E : Ti} {n m : Nat} {all : List Oper} {o : Oper} {od : DOper} (hc : coper E n m all [] o = some od) {tm tm' : T DV} (ht : ∀ t ∈ Oper.looks all o, tm.get (bits t) = tm'.get (bits t)) :
    wanted od.guard (fun x => evX x tm []) = wanted od.guard (fun x => evX x tm' []) := by
  unfold coper at hc
  split at hc
  · simp only at hc
    split at hc
    · cases hc; rfl
    · rename_i g want hg
      split at hc
      · rename_i og hog
        split at hc
        · rename_i s hs'
          split at hc
          · rename_i x hx
            cases hc
            simp only [wanted]
            rw [evX_congr hx fun t he => ?_]
            cases he
            refine ht s ?_
            simp only [Oper.looks, List.mem_append]
            right
            simp [hg, hog, hs']
          · cases hc
        · cases hc
      · cases hc
  · cases hc

section
variable (E : Ti) (P : Program) (b0 : Nat) (G : Nat → Prop) (ops : List Oper) (n m : Nat) (ds : List DOper) (b : List Nat) (pr : List (Nat × Rc)) (fr : Fr) (hF : Nat → H) (cF : Nat → Core) (fb : Frame)
structure Inv (S : Nat → Bool) (β : Bt) (w : World) (κ : Up) (a : Act) : Prop where
  hr : HR E P ⟨b0, GS G pr S (cntS ds S)⟩ β (hF (cntS ds S)) w
  tm : TmR β n m (rplS S fr.tm pr) a.tmps
  df : DfR β (cF (cntS ds S)).df a.defers
  up : κ.R β (cF (cntS ds S)).rc
  kd : fb.kind = κ.kind
  same : (cF (cntS ds S)).ro = fr.ro ∧ (cF (cntS ds S)).fn = fr.fn ∧ (cF (cntS ds S)).n = fr.n
  rr : RoR β fr.ro fb
  down : ∀ j i, j < ops.length → S j = true → bf b j i → S i = true
  d1 : ∀ x ∈ pr, ∀ y ∈ pr, S x.1 = false → S y.1 = false → x.2.mk2 → y.2.mk2 → x.2.c ≤ cntS ds S → y.2.c ≤ cntS ds S → x.2.h.nx = y.2.h.nx → x.1 = y.1
  d2 : ∀ x ∈ pr, S x.1 = false → x.2.mk2 → x.2.c ≤ cntS ds S → ¬ G x.2.h.nx
end

section
variable {E : Ti} {P : Program} {b0 : Nat} {G : Nat → Prop} {ops : Array Oper} {n m : Nat} {ds : List DOper} {b : List Nat} {pr : List (Nat × Rc)} {fr : Fr} {hF : Nat → H} {cF : Nat → Core} {fb : Frame}
  {D : Env} {ih : Ih} {h : H} {fr2 : Fr} {h2 : H} {hs2 : List H} (s : Sim E D ih ops.toList n m ds b pr fr h fr2 h2 hs2 hF cF)
  {S : Nat → Bool} {β : Bt} {w : World} {κ : Up} {a : Act} (I : Inv E P b0 G ops.toList n m ds b pr fr hF cF fb S β w κ a)
include s I
/-- slots, as one operation more has been run -/
theorem Inv.tms {pre : List (Nat × Rc)} {j : Nat} {r : Rc} {post : List (Nat × Rc)} (hp : pr = pre ++ (j, r) :: post) {o : Oper} (ho : ops.toList[j]? = some o) (hc : coper E n m ops.toList [] o = some r.od) (hd : ∀ t, o.dst = some t → m.testBit t = true) (hj : S j = false)
    {β' : Bt} (hle : β.le β') {v' : Value} (hv : VR β' r.v v') : TmR β' n m (rplS (addS S j) fr.tm pr) (putT a.tmps o.dst v') := by
  obtain ⟨-, c2, c3⟩ := coper_inv hc
  have h1 : TmR β' n m (putM (rplS S fr.tm pr) r.od.dst r.v) (putT a.tmps o.dst v') := by
    have h0 := I.tm.mono hle
    rw [c3]
    cases hod : o.dst with
    | none => exact h0
    | some d =>
      simp only [dstD, hd d hod, if_true]
      exact h0.put (c2 d hod) hv
  exact ⟨h1.size, fun t ht => by rw [s.write I.down hp ho hj t]; exact h1.get t ht⟩
theorem Inv.adv {pre : List (Nat × Rc)} {j : Nat} {r : Rc} {post : List (Nat × Rc)} (hp : pr = pre ++ (j, r) :: post) {o : Oper} (ho : ops.toList[j]? = some o) (hc : coper E n m ops.toList [] o = some r.od) (hd : ∀ t, o.dst = some t → m.testBit t = true) (hj : S j = false) (hb : ∀ i, bf b j i → S i = true)
    {β' : Bt} {w' : World} {κ' : Up} {a1 : Act} {v' : Value} (hle : β.le β') (hk : κ'.kind = κ.kind) (hr : HR E P ⟨b0, GS G pr (addS S j) (cntS ds (addS S j))⟩ β' (hF (cntS ds (addS S j))) w') (hv : VR β' r.v v') (ht : a1.tmps = a.tmps)
    (hdf : DfR β' (cF (cntS ds (addS S j))).df a1.defers) (hup : κ'.R β' (cF (cntS ds (addS S j))).rc) (hs : (cF (cntS ds (addS S j))).ro = fr.ro ∧ (cF (cntS ds (addS S j))).fn = fr.fn ∧ (cF (cntS ds (addS S j))).n = fr.n)
    (hd1 : ∀ x ∈ pr, ∀ y ∈ pr, addS S j x.1 = false → addS S j y.1 = false → x.2.mk2 → y.2.mk2 → x.2.c ≤ cntS ds (addS S j) → y.2.c ≤ cntS ds (addS S j) → x.2.h.nx = y.2.h.nx → x.1 = y.1)
    (hd2 : ∀ x ∈ pr, addS S j x.1 = false → x.2.mk2 → x.2.c ≤ cntS ds (addS S j) → ¬ G x.2.h.nx) :
    Inv E P b0 G ops.toList n m ds b pr fr hF cF fb (addS S j) β' w' κ' (a1.put o.dst v') := by
  refine ⟨hr, ?_, ?_, hup, by rw [hk]; exact I.kd, hs, I.rr.mono hle, fun k i hk hkS hbf => ?_, hd1, hd2⟩
  · rw [put_tmps, ht]; exact I.tms s hp ho hc hd hj hle hv
  · have : (a1.put o.dst v').defers = a1.defers := by cases o.dst <;> rfl
    rw [this]; exact hdf
  · have key : S i = true → addS S j i = true := fun h => by simp [addS, h]
    by_cases e : k = j
    · subst e; exact key (hb i hbf)
    · rw [addS_ne S e] at hkS
      exact key (I.down k i hk hkS hbf)
omit s I
theorem addS_false {S : Nat → Bool} {i j : Nat} (h : addS S j i = false) : S i = false ∧ i ≠ j := by
  by_cases e : i = j
  · subst e; rw [addS_self] at h; cases h
  · rw [addS_ne S e] at h; exact ⟨h, e⟩
include I
theorem Inv.same_cnt {j : Nat} (hcnt : cntS ds (addS S j) = cntS ds S) : (∀ x ∈ pr, ∀ y ∈ pr, addS S j x.1 = false → addS S j y.1 = false → x.2.mk2 → y.2.mk2 → x.2.c ≤ cntS ds (addS S j) → y.2.c ≤ cntS ds (addS S j) → x.2.h.nx = y.2.h.nx → x.1 = y.1) ∧
    (∀ x ∈ pr, addS S j x.1 = false → x.2.mk2 → x.2.c ≤ cntS ds (addS S j) → ¬ G x.2.h.nx) := by
  rw [hcnt]
  exact ⟨fun x hx y hy h1 h2 => I.d1 x hx y hy (addS_false h1).1 (addS_false h2).1, fun x hx h1 => I.d2 x hx (addS_false h1).1⟩
omit I
theorem Inv.hr_less {j : Nat} (hcnt : cntS ds (addS S j) = cntS ds S) {β' : Bt} {w' : World} (hr : HR E P ⟨b0, GS G pr S (cntS ds S)⟩ β' (hF (cntS ds S)) w') :
    HR E P ⟨b0, GS G pr (addS S j) (cntS ds (addS S j))⟩ β' (hF (cntS ds (addS S j))) w' := by
  rw [hcnt]
  refine hr.ahead (fun _ _ => rfl) (Nat.le_refl _) fun k hk => ?_
  have : GS G pr S (cntS ds S) k := by
    rcases hk with hk | ⟨x, h1, h2, h3⟩
    · exact .inl hk
    · exact .inr ⟨x, h1, (addS_false h2).1, h3⟩
  exact ⟨.inl this, (hr.ghost k this).2⟩
include s I
/-- as an effect has been run -/
theorem Inv.eff {pre : List (Nat × Rc)} {j : Nat} {r : Rc} {post : List (Nat × Rc)} (hp : pr = pre ++ (j, r) :: post) (h3 : r.od.op.sort = 3) (hj : S j = false) (hb : ∀ i, bf b j i → S i = true)
    {β' : Bt} {w' : World} (hr : HR E P ⟨b0, GS G pr S (cntS ds S)⟩ β' r.h' w') :
    hF (cntS ds S) = r.h ∧ r.fr.core = cF (cntS ds S) ∧ r.fr'.core = cF (cntS ds (addS S j)) ∧ HR E P ⟨b0, GS G pr (addS S j) (cntS ds (addS S j))⟩ β' (hF (cntS ds (addS S j))) w' ∧
    (∀ x ∈ pr, ∀ y ∈ pr, addS S j x.1 = false → addS S j y.1 = false → x.2.mk2 → y.2.mk2 → x.2.c ≤ cntS ds (addS S j) → y.2.c ≤ cntS ds (addS S j) → x.2.h.nx = y.2.h.nx → x.1 = y.1) ∧
    (∀ x ∈ pr, addS S j x.1 = false → x.2.mk2 → x.2.c ≤ cntS ds (addS S j) → ¬ G x.2.h.nx) := by
  obtain ⟨e1, e2⟩ := s.cnt_eff I.down hp h3 hj hb
  have hx : (j, r) ∈ pr := by rw [hp]; simp
  have hrm : ∀ x ∈ pr, x.2 ∈ pr.map (·.2) := fun x hx => List.mem_map_of_mem hx
  obtain ⟨t1, t2, t3, t4⟩ := s.tr.eff r (hrm _ hx) h3
  have t5 := s.tr.coreR r (hrm _ hx)
  rw [e1] at t1 t2 t3 t4 t5
  rw [e2]
  have gh := hr.ghost
  have old : ∀ x ∈ pr, S x.1 = false → x.2.mk2 → x.2.c ≤ cntS ds S → x.2.h.nx < r.h'.nx := fun x hx h1 h2 h3 => (gh _ (.inr ⟨x, hx, h1, h2, h3, rfl⟩)).2
  refine ⟨t1, t5, t3, hr.ahead t2.get t2.nx fun k hk => ?_, fun x hx y hy g1 g2 g3 g4 g5 g6 g7 => ?_, fun x hx g1 g2 g3 g4 => ?_⟩
  · have hn := t2.nx
    rcases hk with hk | ⟨x, q1, q2, q3, q4, q5⟩
    · have := (gh k (.inl hk)).2
      exact ⟨.inl (.inl hk), by omega⟩
    · by_cases hc : x.2.c ≤ cntS ds S
      · have := old x q1 (addS_false q2).1 q3 hc
        exact ⟨.inl (.inr ⟨x, q1, (addS_false q2).1, q3, hc, q5⟩), by omega⟩
      · obtain ⟨u1, u2⟩ := t4 x.2 (hrm x q1) q3 (by omega)
        have hcx : x.2.c = cntS ds S + 1 := by omega
        rw [hcx] at u2
        exact ⟨.inr (by omega), by omega⟩
  · by_cases c1 : x.2.c ≤ cntS ds S
    · by_cases c2 : y.2.c ≤ cntS ds S
      · exact I.d1 x hx y hy (addS_false g1).1 (addS_false g2).1 g3 g4 c1 c2 g7
      · have := old x hx (addS_false g1).1 g3 c1
        obtain ⟨u1, u2⟩ := t4 y.2 (hrm y hy) g4 (by omega)
        omega
    · by_cases c2 : y.2.c ≤ cntS ds S
      · have := old y hy (addS_false g2).1 g4 c2
        obtain ⟨u1, u2⟩ := t4 x.2 (hrm x hx) g3 (by omega)
        omega
      · by_cases e : x.1 = y.1
        · exact e
        · have hne : x ≠ y := fun h => e (by rw [h])
          have := pairwise_sym (R := fun x y : Nat × Rc => x.2.mk2 → y.2.mk2 → x.2.c = y.2.c → x.2.h.nx ≠ y.2.h.nx) (fun x y h a1 a2 a3 a4 => h a2 a1 a3.symm a4.symm) (List.pairwise_map.1 s.tr.dis) x hx y hy hne g3 g4 (by omega)
          exact absurd g7 this
  · by_cases c1 : x.2.c ≤ cntS ds S
    · exact I.d2 x hx (addS_false g1).1 g2 c1 g4
    · obtain ⟨u1, u2⟩ := t4 x.2 (hrm x hx) g2 (by omega)
      have := (gh _ (.inl g4)).2
      omega
end
end Go.Dm
