/- Code. Calls, and frames that leave. Ranges over functions: rounds, and the statement itself. Ranges over functions: the statement. -/
import Derived.Test.YtbmcloahjiimeaaGreatDoorDmPa
set_option linter.all false
namespace Go.Dm
open Go.RowKit (Below)

/-- code whose second round begins elsewhere -/
def isLoop : Code → Bool
  | .loop _ => true
  | _ => false
section
variable (E : Ti) (P : Program) (B : Bd)
def CodeS (ih : Ih) : Prop := ∀ (c : Code) (dc : DC) (m : Nat) (fr : Fr) (b : Frame) (a : Act) (k : List Item) (β : Bt) (w : World) (κ : Up) (h : H) (M : Machine), cc E fr.n m c = some dc → St E P B β w κ m fr fr b a h →
  (M = lone (b.atR a (.code c :: k)) κ.cs w ∨ (isLoop c = true ∧ Go.step P M = Go.step P (lone (b.atR a (.code c :: k)) κ.cs w))) → CodeR E P B β w κ m fr b k M (ih (.code dc) fr h)
def ScopeS (ih : Ih) : Prop := ∀ (c rest : Code) (dc drest : DC) (m : Nat) (fr : Fr) (b : Frame) (a : Act) (k : List Item) (β : Bt) (w : World) (κ : Up) (h : H), cc E fr.n m c = some dc → cc E fr.n m rest = some drest → St E P B β w κ m fr fr b a h →
  CodeR E P B β w κ m fr b k (lone (b.atR a (.code rest :: .inScope c :: k)) κ.cs w) (ih (.scope dc drest) fr h)
def modeOf (β : Bt) (pan : Option DV) (u : FrameMode) : Prop :=
  match pan with
  | none => u = .returning
  | some v => ∃ v', VR β v v' ∧ u = .panicking [⟨v', false, false⟩]
def UnwS (ih : Ih) : Prop := ∀ (res : List DRV) (pan : Option DV) (fr : Fr) (h : H) (e : DEnd) (rc : Option DV) (h' : H), ih (.unwind res pan) fr h = .fin e rc h' →
  ∀ (β : Bt) (w : World) (κ : Up) (m : Nat) (b : Frame) (a : Act) (todo : List Item) (u : FrameMode) (fn : Func), St E P B β w κ m fr fr b a h → P.funcs[fr.fn]? = some fn → cres E m fn.results.toList = some res → modeOf β pan u →
    ∃ β' w' κ' frX, Fw B β w κ β' w' κ' ∧ HR E P B β' h' w' ∧ κ'.R β' rc ∧ Steps P (lone { b.atR a todo with mode := u } κ.cs w) (lone frX κ'.cs w') ∧ EndR P β' κ.kind e frX w' ∧ frX.fn = b.fn
structure AllS (ih : Ih) : Prop where
  code : CodeS E P B ih
  scope : ScopeS E P B ih
  call : CallS E P B ih
  round : RoundS E P B ih
  unw : UnwS E P B ih
/-- what is known of the functions, of what stands for externs -/
structure EnvOk (D : Env) : Prop where
  fn : ∀ f F, D.fn f = some F → FnOk E P f F
  ext : ExtS E P B D
/-- regions that draw -/
def DrawAt (D : Env) (ih : Ih) : Prop := ∀ (ops : Array Oper) (dl : List (DOper × Draw)) (id m : Nat) (fr : Fr) (b : Frame) (a : Act) (k : List Item) (β : Bt) (w : World) (κ : Up) (h : H),
  cdraw E fr.n m ops.toList = some dl → St E P B β w κ m fr fr b a h → CodeR E P B β w κ m fr b k (lone (b.atR a (.code (.region id ops true) :: k)) κ.cs w) (kDraw D ih dl fr h)
/-- they are sound where calls are, whatever blocks are not made yet -/
def DrawS (b : Nat) (D : Env) : Prop := ∀ (ih : Ih), (∀ G, CallS E P ⟨b, G⟩ ih) → (∀ G, RoundS E P ⟨b, G⟩ ih) → ∀ G, DrawAt E P ⟨b, G⟩ D ih
end

section
variable {E : Ti} {P : Program} {B : Bd} {D : Env} {ih : Ih}
theorem St.self {β : Bt} {w : World} {κ : Up} {m : Nat} {fr0 fr : Fr} {b : Frame} {a : Act} {h : H} (s : St E P B β w κ m fr0 fr b a h) : St E P B β w κ m fr fr b a h := ⟨s.hr, s.ff, s.up, s.kd, rfl, rfl, rfl⟩
/-- an item that no way out stops at -/
theorem ArrE.pass {β : Bt} {M : Machine} {b : Frame} {k : List Item} {x : Item} {κ : Up} {a : Act} {w : World} {e : DExit} (h1 : ∀ id, e = .exit id → exitTo id (x :: k) = exitTo id k) (h2 : ∀ l, e = .goto l → gotoIn l (x :: k) = gotoIn l k)
    (h : ArrE P β M b (x :: k) κ a w e) : ArrE P β M b k κ a w e := by
  cases e with
  | normal => exact h
  | exit id => obtain ⟨k', g1, g2⟩ := h; exact ⟨k', g1.trans (h1 id rfl), g2⟩
  | goto l => obtain ⟨k', g1, g2⟩ := h; exact ⟨k', g1.trans (h2 l rfl), g2⟩
  | ret => exact h
  | panic v => exact h
theorem stepR_scope {b : Frame} {a : Act} {k : List Item} {cs : List Frame} {w : World} {c : Code} :
    Go.step P (lone (b.atR a (.code (.scope c) :: k)) cs w) = .next (lone (b.atR a (.code c :: .inScope c :: k)) cs w) :=
  step_lone_go (by simp [stepG, stepG.exec, Frame.atR])
theorem stepR_inScope {b : Frame} {a : Act} {k : List Item} {cs : List Frame} {w : World} {c : Code} :
    Go.step P (lone (b.atR a (.inScope c :: k)) cs w) = .next (lone (b.atR a k) cs w) :=
  step_lone_go (by simp [stepG, stepG.exec, Frame.atR])
theorem findL_label {n m : Nat} (l : Nat) : ∀ (c : Code) (dc : DC), cc E n m c = some dc → (∀ dr, findL dc l = some dr → ∃ r, findLabel c l = some r ∧ cc E n m r = some dr) ∧ (findL dc l = none → findLabel c l = none) := by
  intro c
  induction c with
  | seq x y ihx ihy =>
    intro dc hc
    simp only [cc] at hc
    split at hc
    · rename_i dx dy h1 h2
      cases hc
      obtain ⟨p1, p2⟩ := ihx dx h1
      obtain ⟨q1, q2⟩ := ihy dy h2
      constructor
      · intro dr hd
        simp only [findL] at hd
        split at hd
        · rename_i dr' hx
          cases hd
          obtain ⟨r, r1, r2⟩ := p1 _ hx
          exact ⟨.seq r y, by simp [findLabel, r1], by simp [cc, r2, h2]⟩
        · rename_i hx
          obtain ⟨r, r1, r2⟩ := q1 _ hd
          exact ⟨r, by simp [findLabel, p2 hx, r1], r2⟩
      · intro hd
        simp only [findL] at hd
        split at hd
        · cases hd
        · rename_i hx
          simp [findLabel, p2 hx, q2 hd]
    · cases hc
  | label l' =>
    intro dc hc
    simp only [cc] at hc; cases hc
    simp only [findL, findLabel, beq_dec]
    by_cases e : l' = l
    · subst e; simp [cc]
    · simp [e]
  | region id ops d =>
    intro dc hc
    cases d with
    | false =>
      simp only [cc] at hc
      cases hq : copers E n m ops.toList [] ops.toList with
      | none => rw [hq] at hc; cases hc
      | some x => rw [hq] at hc; cases hc; exact ⟨fun dr h => (by cases h), fun _ => rfl⟩
    | true =>
      simp only [cc] at hc
      cases hq : cdraw E n m ops.toList with
      | none => rw [hq] at hc; cases hc
      | some x => rw [hq] at hc; cases hc; exact ⟨fun dr h => (by cases h), fun _ => rfl⟩
  | skip => intro dc hc; simp only [cc] at hc; cases hc; exact ⟨fun dr h => (by cases h), fun _ => rfl⟩
  | cond c x y _ _ =>
    intro dc hc
    simp only [cc] at hc
    split at hc
    · cases hc; exact ⟨fun dr h => (by cases h), fun _ => rfl⟩
    · cases hc
  | block id x _ =>
    intro dc hc
    simp only [cc] at hc
    cases hq : cc E n m x with
    | none => rw [hq] at hc; cases hc
    | some x => rw [hq] at hc; cases hc; exact ⟨fun dr h => (by cases h), fun _ => rfl⟩
  | loop x _ =>
    intro dc hc
    simp only [cc] at hc
    cases hq : cc E n m x with
    | none => rw [hq] at hc; cases hc
    | some x => rw [hq] at hc; cases hc; exact ⟨fun dr h => (by cases h), fun _ => rfl⟩
  | scope x _ =>
    intro dc hc
    simp only [cc] at hc
    cases hq : cc E n m x with
    | none => rw [hq] at hc; cases hc
    | some x => rw [hq] at hc; cases hc; exact ⟨fun dr h => (by cases h), fun _ => rfl⟩
  | rangeFunc f ps x y _ _ =>
    intro dc hc
    simp only [cc] at hc
    split at hc
    · cases hc; exact ⟨fun dr h => (by cases h), fun _ => rfl⟩
    · cases hc
  | exit id => intro dc hc; simp only [cc] at hc; cases hc; exact ⟨fun dr h => (by cases h), fun _ => rfl⟩
  | goto id => intro dc hc; simp only [cc] at hc; cases hc; exact ⟨fun dr h => (by cases h), fun _ => rfl⟩
  | ret => intro dc hc; simp only [cc] at hc; cases hc; exact ⟨fun dr h => (by cases h), fun _ => rfl⟩
  | refuse _ => intro dc hc; simp only [cc] at hc; cases hc; exact ⟨fun dr h => (by cases h), fun _ => rfl⟩

theorem scope_step (hA : AllS E P B ih) : ScopeS E P B (step D ih) := by
  intro c rest dc drest m fr b a k β w κ h hc hrest hS
  show CodeR E P B β w κ m fr b k _ (kScope ih dc drest fr h)
  unfold kScope
  have := hA.code rest drest m fr b a (.inScope c :: k) β w κ h _ hrest hS (.inl rfl)
  cases hr : ih (.code drest) fr h with
  | fail => trivial
  | fin _ _ _ => trivial
  | nrm fr' h' =>
    rw [hr] at this
    obtain ⟨β', w', κ', a', g1, g2, g3⟩ := this
    exact ⟨β', w', κ', a', g1, g2, g3.trans (.one stepR_inScope)⟩
  | exc e fr' h' =>
    rw [hr] at this
    obtain ⟨β', w', κ', a', g1, g2, g3⟩ := this
    show CodeR E P B β w κ m fr b k _ (exScope ih dc e fr' h')
    unfold exScope
    cases e with
    | goto l =>
      simp only
      obtain ⟨k', q1, q2⟩ := g3
      cases hf : findL dc l with
      | none =>
        have := (findL_label (E := E) l c dc hc).2 hf
        refine ⟨β', w', κ', a', g1, g2, k', ?_, q2⟩
        rw [q1]; simp [gotoIn, this]
      | some dr =>
        obtain ⟨r, r1, r2⟩ := (findL_label (E := E) l c dc hc).1 dr hf
        have hgo : gotoIn l k' = some (.code r :: .inScope c :: k) := by rw [q1]; simp [gotoIn, r1]
        have := hA.scope c r dc dr m fr' b a' k β' w' κ' h' (by rw [g2.n]; exact hc) (by rw [g2.n]; exact r2) g2.self
        exact CodeR.of_steps g1 g2.fn g2.n g2.ro (q2.trans (.one (stepR_goto hgo))) this
    | normal => exact g3.elim
    | exit id => exact ⟨β', w', κ', a', g1, g2, g3.pass (fun id _ => by simp [exitTo]) (fun l hl => by cases hl)⟩
    | ret => exact ⟨β', w', κ', a', g1, g2, g3⟩
    | panic v => exact ⟨β', w', κ', a', g1, g2, g3⟩

theorem code_step (hE : E.Ok P) (hD : EnvOk E P B D) (hDr : DrawAt E P B D ih) (hA : AllS E P B ih)
    (hRf : ∀ (f : Operand) (ps : Array Tmp) (x y : Code) (df : DX) (dx dy : DC) (m : Nat) (fr : Fr) (b : Frame) (a : Act) (k : List Item) (β : Bt) (w : World) (κ : Up) (h : H), cx E m [] f = some df → cc E fr.n m x = some dx → cc E fr.n m y = some dy →
      (∀ p ∈ ps.toList, p < fr.n) → St E P B β w κ m fr fr b a h → CodeR E P B β w κ m fr b k (lone (b.atR a (.code (.rangeFunc f ps x y) :: k)) κ.cs w) (kRf ih df (ps.toList.map bits) dx dy fr h)) :
    CodeS E P B (step D ih) := by
  intro c dc m fr b a k β w κ h M hc hS hM
  show CodeR E P B β w κ m fr b k M (kCode dc D ih fr h)
  -- anything but a loop begins where it says
  have canon : isLoop c = false → M = lone (b.atR a (.code c :: k)) κ.cs w := fun hl => by
    rcases hM with h | ⟨h, -⟩
    · exact h
    · rw [hl] at h; cases h
  have st0 : StR β [] [] a.tmps := StR.nil β [] a.tmps
  cases c with
  | skip =>
    simp only [cc] at hc; cases hc
    rw [canon rfl]
    exact ⟨β, w, κ, a, Fw.refl β w κ, hS, .one stepR_skip⟩
  | region id ops d =>
    rw [canon rfl]
    cases d with
    | false =>
      simp only [cc] at hc
      cases hq : copers E fr.n m ops.toList [] ops.toList with
      | none => rw [hq] at hc; cases hc
      | some dl =>
        rw [hq] at hc; cases hc
        have := reg_sound (D := D) (k := k) hE hA.call hA.round hD.ext ops.toList dl [] [] [] fr fr a β w κ h rfl hq st0 hS
        refine CodeR.of_steps (Fw.refl β w κ) rfl rfl rfl (.one stepR_region) ?_
        show CodeR E P B β w κ m fr b k _ (dops D ih dl [] fr h)
        simpa [List.range_eq_range'] using this
    | true =>
      simp only [cc] at hc
      cases hq : cdraw E fr.n m ops.toList with
      | none => rw [hq] at hc; cases hc
      | some dl =>
        rw [hq] at hc; cases hc
        exact hDr ops dl id m fr b a k β w κ h hq hS
  | seq x y =>
    rw [canon rfl]
    simp only [cc] at hc
    split at hc
    · rename_i dx dy h1 h2
      cases hc
      show CodeR E P B β w κ m fr b k _ (goOn (ih (.code dy)) (ih (.code dx) fr h))
      have := hA.code x dx m fr b a (.code y :: k) β w κ h _ h1 hS (.inl rfl)
      refine CodeR.of_steps (Fw.refl β w κ) rfl rfl rfl (.one stepR_seq) ?_
      cases hr : ih (.code dx) fr h with
      | fail => trivial
      | fin _ _ _ => trivial
      | nrm fr' h' =>
        rw [hr] at this
        obtain ⟨β', w', κ', a', g1, g2, g3⟩ := this
        exact CodeR.of_steps g1 g2.fn g2.n g2.ro g3 (hA.code y dy m fr' b a' k β' w' κ' h' _ (by rw [g2.n]; exact h2) g2.self (.inl rfl))
      | exc e fr' h' =>
        rw [hr] at this
        obtain ⟨β', w', κ', a', g1, g2, g3⟩ := this
        exact ⟨β', w', κ', a', g1, g2, g3.pass (fun id _ => by simp [exitTo]) (fun l _ => by simp [gotoIn])⟩
    · cases hc
  | cond x y z =>
    rw [canon rfl]
    simp only [cc] at hc
    split at hc
    · rename_i dx dy dz h1 h2 h3
      cases hc
      show CodeR E P B β w κ m fr b k _ (kCondB ih dy dz fr h (fr.ev dx))
      have hv := cx_vr hS.hr (n := fr.n) hS.ff.tm st0 x dx h1
      have hv' : VR β (fr.ev dx) (a.eval x) := hv
      cases hd : fr.ev dx with
      | bool t =>
        rw [hd] at hv'
        have he := hv'.bool_inv
        cases t with
        | true => exact CodeR.of_steps (Fw.refl β w κ) rfl rfl rfl (.one (by have := stepR_cond (P := P) (b := b) (k := k) (cs := κ.cs) (w := w) (x := y) (y := z) he; simpa using this)) (hA.code y dy m fr b a k β w κ h _ h2 hS (.inl rfl))
        | false => exact CodeR.of_steps (Fw.refl β w κ) rfl rfl rfl (.one (by have := stepR_cond (P := P) (b := b) (k := k) (cs := κ.cs) (w := w) (x := y) (y := z) he; simpa using this)) (hA.code z dz m fr b a k β w κ h _ h3 hS (.inl rfl))
      | _ => trivial
    · cases hc
  | block id x =>
    rw [canon rfl]
    simp only [cc] at hc
    cases hq : cc E fr.n m x with
    | none => rw [hq] at hc; cases hc
    | some dx =>
      rw [hq] at hc; cases hc
      show CodeR E P B β w κ m fr b k _ (kBlock ih id dx fr h)
      unfold kBlock
      have := hA.code x dx m fr b a (.inBlock id :: k) β w κ h _ hq hS (.inl rfl)
      refine CodeR.of_steps (Fw.refl β w κ) rfl rfl rfl (.one stepR_block) ?_
      cases hr : ih (.code dx) fr h with
      | fail => trivial
      | fin _ _ _ => trivial
      | nrm fr' h' =>
        rw [hr] at this
        obtain ⟨β', w', κ', a', g1, g2, g3⟩ := this
        exact ⟨β', w', κ', a', g1, g2, g3.trans (.one stepR_inBlock)⟩
      | exc e fr' h' =>
        rw [hr] at this
        obtain ⟨β', w', κ', a', g1, g2, g3⟩ := this
        show CodeR E P B β w κ m fr b k _ (exBlock id e fr' h')
        cases e with
        | exit id' =>
          simp only [exBlock, beq_dec]
          by_cases e : id' = id
          · subst e
            simp only [decide_true, cond_true]
            obtain ⟨k', q1, q2⟩ := g3
            exact ⟨β', w', κ', a', g1, g2, q2.trans (.one (stepR_exit (by rw [q1]; simp [exitTo])))⟩
          · simp only [e, decide_false, cond_false]
            exact ⟨β', w', κ', a', g1, g2, g3.pass (fun id2 h2 => by cases h2; simp [exitTo]; intro h3; exact absurd h3.symm e) (fun l hl => by cases hl)⟩
        | normal => exact g3.elim
        | goto l => exact ⟨β', w', κ', a', g1, g2, g3.pass (fun id hl => by cases hl) (fun l _ => by simp [gotoIn])⟩
        | ret => exact ⟨β', w', κ', a', g1, g2, g3⟩
        | panic v => exact ⟨β', w', κ', a', g1, g2, g3⟩
  | loop x =>
    simp only [cc] at hc
    cases hq : cc E fr.n m x with
    | none => rw [hq] at hc; cases hc
    | some dx =>
      rw [hq] at hc; cases hc
      show CodeR E P B β w κ m fr b k M (goOn (ih (.code (.loop dx))) (ih (.code dx) fr h))
      have hMs : Go.step P M = .next (lone (b.atR a (.code x :: .inLoop x :: k)) κ.cs w) := by
        rcases hM with h | ⟨-, h⟩
        · rw [h]; exact stepR_loop
        · rw [h]; exact stepR_loop
      have := hA.code x dx m fr b a (.inLoop x :: k) β w κ h _ hq hS (.inl rfl)
      refine CodeR.of_steps (Fw.refl β w κ) rfl rfl rfl (.one hMs) ?_
      cases hr : ih (.code dx) fr h with
      | fail => trivial
      | fin _ _ _ => trivial
      | nrm fr' h' =>
        rw [hr] at this
        obtain ⟨β', w', κ', a', g1, g2, g3⟩ := this
        exact CodeR.of_steps g1 g2.fn g2.n g2.ro g3 (hA.code (.loop x) (.loop dx) m fr' b a' k β' w' κ' h' _ (by rw [g2.n]; simp [cc, hq]) g2.self (.inr ⟨rfl, by rw [stepR_inLoop, stepR_loop]⟩))
      | exc e fr' h' =>
        rw [hr] at this
        obtain ⟨β', w', κ', a', g1, g2, g3⟩ := this
        exact ⟨β', w', κ', a', g1, g2, g3.pass (fun id _ => by simp [exitTo]) (fun l _ => by simp [gotoIn])⟩
  | rangeFunc f ps x y =>
    rw [canon rfl]
    simp only [cc] at hc
    split at hc
    · rename_i df dx dy h1 h2 h3 h4
      cases hc
      exact hRf f ps x y df dx dy m fr b a k β w κ h h1 h2 h3 (fun p hp => by have := List.all_eq_true.1 h4 p hp; simpa using this) hS
    · cases hc
  | exit id =>
    rw [canon rfl]
    simp only [cc] at hc; cases hc
    exact ⟨β, w, κ, a, Fw.refl β w κ, hS, k, rfl, Steps.refl P _⟩
  | scope x =>
    rw [canon rfl]
    simp only [cc] at hc
    cases hq : cc E fr.n m x with
    | none => rw [hq] at hc; cases hc
    | some dx =>
      rw [hq] at hc; cases hc
      exact CodeR.of_steps (Fw.refl β w κ) rfl rfl rfl (.one stepR_scope) (hA.scope x x dx dx m fr b a k β w κ h hq hq hS)
  | label l =>
    rw [canon rfl]
    simp only [cc] at hc; cases hc
    exact ⟨β, w, κ, a, Fw.refl β w κ, hS, .one stepR_label⟩
  | goto l =>
    rw [canon rfl]
    simp only [cc] at hc; cases hc
    exact ⟨β, w, κ, a, Fw.refl β w κ, hS, k, rfl, Steps.refl P _⟩
  | ret =>
    rw [canon rfl]
    simp only [cc] at hc; cases hc
    exact ⟨β, w, κ, a, Fw.refl β w κ, hS, k, Steps.refl P _⟩
  | refuse why =>
    simp only [cc] at hc; cases hc
    trivial
end
end Go.Dm

namespace Go.Dm
open Go.RowKit (Below)

section
variable {E : Ti} {P : Program} {B : Bd} {D : Env} {ih : Ih}

theorem setArgs_get : ∀ (args : List DV) (t : T DV) (i j : Nat), (setArgs t i args).get (bits j) = if i ≤ j ∧ j < i + args.length then args[j - i]? else t.get (bits j)
  | [], t, i, j => by
    rw [if_neg (by simp <;> omega)]; rfl
  | v :: vs, t, i, j => by
    show (setArgs (t.set (bits i) (some v)) (i + 1) vs).get (bits j) = _
    rw [setArgs_get vs]
    simp only [List.length_cons]
    by_cases c1 : i + 1 ≤ j ∧ j < i + 1 + vs.length
    · rw [if_pos c1, if_pos (by omega), show j - i = (j - (i + 1)) + 1 by omega]; rfl
    · rw [if_neg c1]
      by_cases c2 : j = i
      · subst c2; rw [T.get_set, if_pos (by omega)]; simp
      · rw [T.get_set_ne _ _ _ _ (bits_ne c2), if_neg (by omega)]
theorem args_tm {β : Bt} {args : List DV} {args' : List Value} (h : VRs β args args') {n m : Nat} (hn : args.length ≤ n) : TmR β n m (setArgs .e 0 args) (args'.toArray ++ Array.replicate (n - args'.toArray.size) undef) := by
  have hl := h.length
  refine ⟨by simp; omega, fun t _ => ?_⟩
  rw [setArgs_get]
  by_cases c : t < args.length
  · rw [if_pos (by omega)]
    have hv : args[t]? = some args[t] := List.getElem?_eq_getElem c
    obtain ⟨v', g1, g2⟩ := h.get hv
    have c' : t < args'.length := by omega
    have e : (args'.toArray ++ Array.replicate (n - args'.toArray.size) undef).getD t undef = v' := by
      rw [Array.getD_eq_getD_getElem?, Array.getElem?_append_left (by simpa using c')]
      simp [g1]
    rw [e, Nat.sub_zero, hv]; exact g2
  · rw [if_neg (by omega), T.get_e]
    have e : (args'.toArray ++ Array.replicate (n - args'.toArray.size) undef).getD t undef = undef := by
      rw [Array.getD_eq_getD_getElem?, Array.getElem?_append_right (by simp; omega), Array.getElem?_replicate]
      split <;> rfl
    rw [e]; exact VR.undef β

theorem call_step (hD : EnvOk E P B D) (hA : AllS E P B ih) : CallS E P B (step D ih) := by
  intro f args fr h e rc h' hres β w κ args' hr hargs hup
  have hk : kCall D ih f args fr h = .fin e rc h' := hres
  unfold kCall at hk
  split at hk
  · rename_i F hF
    have hok := hD.fn f F hF
    refine ⟨fun w => hok.enter _ w, ?_⟩
    rw [ble_dec] at hk
    by_cases hle : args.length ≤ F.ntmps
    · simp only [hle, decide_true, cond_true] at hk
      obtain ⟨fn, c, p1, p2, p3, p4, p5, p6⟩ := hok.ex
      let b : Frame := { (default : Frame) with fn := f, kind := κ.kind }
      let a : Act := { tmps := args'.toArray ++ Array.replicate (fn.ntmps - args'.toArray.size) undef, defers := [] }
      have henter : Frame.enter P f args'.toArray κ.kind = b.atR a [.code c] := by
        simp [Frame.enter, Frame.atR, p1, p2, b, a]; rfl
      rw [henter]
      let fr1 : Fr := ⟨f, F.ntmps, setArgs .e 0 args, [], fr.rc, none⟩
      have hS : St E P B β w κ (gMask fn c) fr1 fr1 b a h :=
        ⟨hr, ⟨⟨fn, c, p1, p2, p4, rfl⟩, rfl, by show TmR β F.ntmps _ _ _; rw [p4]; exact args_tm hargs (by omega), trivial, rfl⟩, hup, rfl, rfl, rfl, rfl⟩
      have hcode := hA.code c F.body (gMask fn c) fr1 b a [] β w κ h _ (by show cc E F.ntmps _ _ = _; rw [p4]; exact p5) hS (.inl rfl)
      have hk' : kCallE ih F.res (ih (.code F.body) fr1 h) = .fin e rc h' := hk
      -- it leaves
      have leave : ∀ (pan : Option DV) (u : FrameMode) (fr2 : Fr) (h2 : H) (β2 : Bt) (w2 : World) (κ2 : Up) (a2 : Act) (todo : List Item), ih (.unwind F.res pan) fr2 h2 = .fin e rc h' → Fw B β w κ β2 w2 κ2 → St E P B β2 w2 κ2 (gMask fn c) fr1 fr2 b a2 h2 → modeOf β2 pan u →
          Steps P (lone (b.atR a [.code c]) κ.cs w) (lone { b.atR a2 todo with mode := u } κ2.cs w2) →
          ∃ β' w' κ' frX, Fw B β w κ β' w' κ' ∧ HR E P B β' h' w' ∧ κ'.R β' rc ∧ Steps P (lone (b.atR a [.code c]) κ.cs w) (lone frX κ'.cs w') ∧ EndR P β' κ.kind e frX w' ∧ frX.fn = f := by
        intro pan u fr2 h2 β2 w2 κ2 a2 todo hu hf hs hm hst
        obtain ⟨β', w', κ', frX, g1, g2, g3, g4, g5, g6⟩ := hA.unw F.res pan fr2 h2 e rc h' hu β2 w2 κ2 (gMask fn c) b a2 todo u fn hs.self (by rw [hs.fn]; exact p1) p6 hm
        exact ⟨β', w', κ', frX, hf.trans g1, g2, g3, hst.trans g4, by rw [← hf.up.kind]; exact g5, g6⟩
      cases hrr : ih (.code F.body) fr1 h with
      | fail => rw [hrr] at hk'; cases hk'
      | fin _ _ _ => rw [hrr] at hk'; cases hk'
      | nrm fr2 h2 =>
        rw [hrr] at hk' hcode
        obtain ⟨β2, w2, κ2, a2, g1, g2, g3⟩ := hcode
        exact leave none .returning fr2 h2 β2 w2 κ2 a2 [] hk' g1 g2 rfl (g3.trans (.one (stepR_end rfl)))
      | exc e2 fr2 h2 =>
        rw [hrr] at hk' hcode
        obtain ⟨β2, w2, κ2, a2, g1, g2, g3⟩ := hcode
        cases e2 with
        | ret =>
          obtain ⟨k', g3⟩ := g3
          exact leave none .returning fr2 h2 β2 w2 κ2 a2 _ hk' g1 g2 rfl (g3.trans (.one (stepR_ret rfl)))
        | panic v =>
          obtain ⟨todo, v', q1, q2⟩ := g3
          exact leave (some v) _ fr2 h2 β2 w2 κ2 a2 todo hk' g1 g2 ⟨v', q1, rfl⟩ q2
        | normal => exact g3.elim
        | exit id => cases hk'
        | goto l => cases hk'
    · simp only [hle, decide_false, cond_false] at hk; cases hk
  · cases hk

/-! ### Leaving -/
theorem res_run (hE : E.Ok P) {β : Bt} {w : World} {h : H} (hr : HR E P B β h w) {m : Nat} {fr : Fr} {a : Act} (ht : TmR β fr.n m fr.tm a.tmps) : ∀ (l : List ResultVar) (res : List DRV) (vs : List DV), cres E m l = some res → resV fr h res = some vs →
    ∃ vs' : List Value, (l.mapM (m := Sem) fun
      | .tmp t => pure (a.tmps.getD t undef)
      | .cell x t => do loadVar t (← asAddr (a.tmps.getD x undef))).run P w = .ok vs' w ∧ VRs β vs vs'
  | [], res, vs, hc, hv => by simp only [cres] at hc; cases hc; simp only [resV] at hv; cases hv; exact ⟨[], rfl, .nil⟩
  | .tmp t :: r, res, vs, hc, hv => by
    simp only [cres] at hc
    split at hc
    · rename_i hm
      cases hq : cres E m r with
      | none => rw [hq] at hc; cases hc
      | some rr =>
        rw [hq] at hc; cases hc
        simp only [resV] at hv
        cases hq2 : resV fr h rr with
        | none => rw [hq2] at hv; cases hv
        | some vs2 =>
          rw [hq2] at hv; cases hv
          obtain ⟨vs', g1, g2⟩ := res_run hE hr ht r rr vs2 hq hq2
          refine ⟨a.tmps.getD t undef :: vs', ?_, .cons _ _ _ _ (ht.get t hm) g2⟩
          simp only [List.mapM_cons, Sem.run_bind, Sem.run_pure, Result.andThen_ok, g1]
    · cases hc
  | .cell x t :: r, res, vs, hc, hv => by
    simp only [cres] at hc
    split at hc
    · rename_i n g rr h1 h2 h3 h4
      cases hc
      simp only [resV] at hv
      split at hv
      · rename_i d off hd
        have hp : VR β (fr.ev (.t (bits x))) (a.tmps.getD x undef) := ht.get x h3
        rw [hd] at hp
        obtain ⟨L, hL, he⟩ := hp.ptr_inv
        split at hv
        · rename_i v vs2 hv1 hv2
          cases hv
          obtain ⟨vs', g1, g2⟩ := res_run hE hr ht r rr vs2 h4 hv2
          have hload : ∃ v', (loadVar t ⟨L.r, L.o + off, none⟩).run P w = .ok v' w ∧ VR β v v' := by
            cases g with
            | true =>
              simp only at hv1
              cases hn : rdN h d off n with
              | none => rw [hn] at hv1; cases hv1
              | some l =>
                rw [hn] at hv1; cases hv1
                obtain ⟨ws, k1, k2, k3, k4⟩ := rdN_run hr hL hn
                exact ⟨.agg ws.toArray, by rw [loadVarN hE h2 h1, k4]; rfl, .agg _ _ k2 k3⟩
            | false =>
              obtain ⟨v', k1, k2⟩ := rd1_run hr hL hv1
              exact ⟨v', by rw [loadVar1 hE h2]; exact k1, k2⟩
          obtain ⟨v', k1, k2⟩ := hload
          refine ⟨v' :: vs', ?_, .cons _ _ _ _ k2 g2⟩
          have hadr : (asAddr (a.tmps.getD x undef)).run P w = .ok ⟨L.r, L.o + off, none⟩ w := by rw [he]; rfl
          simp only [List.mapM_cons, Sem.run_bind, hadr, Sem.run_pure, Result.andThen_ok, k1, g1]
        · cases hv
      · cases hv
    · cases hc
theorem results_run (hE : E.Ok P) {β : Bt} {w : World} {h : H} (hr : HR E P B β h w) {m : Nat} {fr : Fr} {a : Act} (ht : TmR β fr.n m fr.tm a.tmps) {fn : Func} {res : List DRV} {vs : List DV} (hc : cres E m fn.results.toList = some res) (hv : resV fr h res = some vs) :
    ∃ v', (results fn a.tmps).run P w = .ok v' w ∧ VR β (oneV vs) v' := by
  obtain ⟨vs', g1, g2⟩ := res_run hE hr ht fn.results.toList res vs hc hv
  have hm : (fn.results.mapM (m := Sem) fun
      | .tmp t => pure (a.tmps.getD t undef)
      | .cell x t => do loadVar t (← asAddr (a.tmps.getD x undef))).run P w = .ok vs'.toArray w := by
    rw [Array.mapM_eq_mapM_toList]
    simp only [Sem.run_map, g1, Result.andThen_ok]
  refine ⟨if h : vs'.toArray.size = 1 then vs'.toArray[0] else .tuple vs'.toArray, ?_, ?_⟩
  · simp only [results, Sem.run_bind]
    refine Eq.trans (congrArg (fun r : Result (Array Value) => r.andThen fun a w' => Sem.run P (pure (if h : a.size = 1 then a[0] else .tuple a)) w') hm) ?_
    rfl
  · cases g2 with
    | nil => exact VR.tuple [] [] .nil
    | cons v v' l l' hv1 hs =>
      cases hs with
      | nil => simpa [oneV] using hv1
      | cons v2 v2' l2 l2' hv2 hs2 =>
        have : ¬ ((v' :: v2' :: l2').toArray.size = 1) := by simp
        rw [dif_neg this]
        exact VR.tuple _ _ (.cons _ _ _ _ hv1 (.cons _ _ _ _ hv2 hs2))
/-- a block of deferred calls is shut -/
theorem HR.shut {β : Bt} {w w' : World} {h : H} (hr : HR E P B β h w) {d : Nat} {L : Loc} (hL : β d = some L) {o : Obj} (hd : h.get d = some o) (hwr : o.wr = true) (hcell : ∀ a e b, o ≠ .cells a e b) (hother : ∀ k, k ≠ L.r → w'.heap[k]? = w.heap[k]?) (hsz : w'.heap.size = w.heap.size) :
    HR E P B β (h.kill d) w' := by
  have key : ∀ {k q}, (h.kill d).get k = some q → k ≠ d ∧ h.get k = some q := fun {k q} hk => by
    by_cases e : k = d
    · subst e; rw [H.get_kill] at hk; cases hk
    · exact ⟨e, by rwa [H.get_kill_ne _ e] at hk⟩
  refine ⟨fun k M q h1 h2 => ?_, by rw [H.nx_kill]; exact hr.new, fun k k' M M' p q hn h1 h2 h3 h4 => hr.apart k k' M M' p q hn h1 h2 (key h3).2 (key h4).2, by rw [hsz]; exact hr.base, hr.glob, by rw [H.nx_kill]; exact hr.ghost⟩
  obtain ⟨e, h2⟩ := key h2
  have hk := hr.obj k M q h1 h2
  by_cases er : M.r = L.r
  · cases hq : q.wr with
    | false =>
      cases q with
      | cells cs2 e2 ro =>
        have hro : ro = true := by simpa [Obj.wr] using hq
        have h7 : M.r < B.b := BlkR.low hk hro
        have h8 : B.b ≤ L.r := ObjR.own (hr.obj d L o hL hd) hwr
        omega
      | map _ => cases hq
      | loop _ => cases hq
      | dfr => cases hq
    | true =>
      obtain ⟨-, ⟨a2, e2, b2, hoo⟩, -⟩ := hr.apart k d M L q _ e h1 hL h2 hd hq hwr er
      exact absurd hoo (hcell _ _ _)
  · exact hk.world (hother _ er)

theorem unw_step (hE : E.Ok P) (hA : AllS E P B ih) : UnwS E P B (step D ih) := by
  intro res pan fr h e rc h' hres β w κ m b a todo u fn hS hfn hcres hmode
  have hk : kUnw ih res pan fr h = .fin e rc h' := hres
  have hune : u ≠ .run := by
    cases pan with
    | none => rw [show u = .returning from hmode]; simp
    | some v => obtain ⟨v', -, rfl⟩ := hmode; simp
  have hdf := hS.ff.df
  unfold kUnw at hk
  split at hk
  · -- nothing deferred any more
    rename_i hnil
    have hdn : a.defers = [] := by
      rw [hnil] at hdf
      cases hx : a.defers with
      | nil => rfl
      | cons x xs => rw [hx] at hdf; exact hdf.elim
    unfold kUnwN at hk
    split at hk
    · split at hk
      · rename_i vs hvs
        cases hk
        obtain ⟨v', g1, g2⟩ := results_run hE hS.hr hS.ff.tm hcres hvs
        refine ⟨β, w, κ, _, Fw.refl β w κ, hS.hr, hS.up, Steps.refl P _, ⟨hmode, hdn, hS.kd, fn, v', ?_, g1, g2⟩, rfl⟩
        show P.funcs[b.fn]? = _
        rw [hS.ff.bfn]; exact hfn
      · cases hk
    · rename_i v
      cases hk
      obtain ⟨v', q1, rfl⟩ := hmode
      exact ⟨β, w, κ, _, Fw.refl β w κ, hS.hr, hS.up, Steps.refl P _, ⟨v', rfl, hdn, hS.kd, ⟨fn, by show P.funcs[b.fn]? = _; rw [hS.ff.bfn]; exact hfn⟩, q1⟩, rfl⟩
  · -- a mark
    rename_i d r hcons
    rw [hcons] at hdf
    cases hx : a.defers with
    | nil => rw [hx] at hdf; exact hdf.elim
    | cons x xs =>
      rw [hx] at hdf
      obtain ⟨⟨L, hL, rfl⟩, hrest⟩ := hdf
      split at hk
      · rename_i hd
        obtain ⟨hown, hblk⟩ := hS.hr.obj d L _ hL hd
        have hlt : L.r < w.heap.size := by
          obtain ⟨hh, _⟩ := Array.getElem?_eq_some_iff.1 hblk; exact hh
        let w1 : World := { w with heap := w.heap.setIfInBounds L.r (.deferred none) }
        have hother : ∀ k, k ≠ L.r → w1.heap[k]? = w.heap[k]? := by
          intro k hkn
          show (w.heap.setIfInBounds L.r (.deferred none))[k]? = _
          rw [Array.getElem?_setIfInBounds_ne (fun e => hkn e.symm)]
        have htake : (Instr.takeDeferred L.r).run P w = .ok [] w1 := by
          simp only [Instr.takeDeferred, Sem.run_bind, getObj_run (P := P) hblk (by intro c e f h; cases h), Result.andThen_ok, setObj_run (P := P) hblk (by intro c e f h; cases h), Sem.run_pure]
          rfl
        have hr1 : HR E P B β (h.kill d) w1 := hS.hr.shut hL hd rfl (by intro a e b hh; cases hh) hother (by simp [w1])
        have hf1 : Fw B β w κ β w1 κ := ⟨Bt.le.refl β, ⟨rfl, rfl, rfl, by simp [w1], fun k hk => hother k (by omega)⟩, Up.To.refl κ⟩
        have hstep := step_collected (P := P) (fr := { b.atR a todo with mode := u }) (cs := κ.cs) (ds := xs) hune hx rfl htake
        have hS1 : St E P B β w1 κ m (fr.setDf r) (fr.setDf r) b { a with defers := xs } (h.kill d) := by
          cases fr
          exact ⟨hr1, ⟨hS.ff.fn, hS.ff.bfn, hS.ff.tm, hrest, hS.ff.ro⟩, hS.up, hS.kd, rfl, rfl, rfl⟩
        obtain ⟨β', w', κ', frX, g1, g2, g3, g4, g5⟩ := hA.unw res pan (fr.setDf r) (h.kill d) e rc h' hk β w1 κ m b { a with defers := xs } todo u fn hS1 (by cases fr; exact hfn) hcres hmode
        exact ⟨β', w', κ', frX, hf1.trans g1, g2, g3, .head hstep g4, g5⟩
      · cases hk
  · -- a call
    rename_i f args r hcons
    rw [hcons] at hdf
    cases hx : a.defers with
    | nil => rw [hx] at hdf; exact hdf.elim
    | cons x xs =>
      rw [hx] at hdf
      obtain ⟨⟨as, cs, rfl, hargs⟩, hrest⟩ := hdf
      unfold kUnwC at hk
      split at hk
      · rename_i v rc' h2 hcall
        -- the callee's callers
        let c0 : Frame := { b.atR a todo with mode := u, defers := xs }
        have hup0 : (Up.dfr c0 κ.cs u).R β (fr.setRc pan).rc := by
          have : (fr.setRc pan).rc = pan := by cases fr; rfl
          rw [this]
          cases pan with
          | none => exact .inl ⟨hmode, rfl⟩
          | some v => obtain ⟨v', q1, q2⟩ := hmode; exact .inr (.inr ⟨v', v, q2, rfl, q1⟩)
        obtain ⟨e1, β1, w1, κ1, frX, f1, f2, f3, f4, f5, -⟩ := hA.call f args (fr.setRc pan) h (.ret v) rc' h2 hcall β w (.dfr c0 κ.cs u) (as ++ cs) hS.hr hargs hup0
        have hinv : (invoke (.fn (.func f) cs.toArray) as.toArray).run P w = .ok (.enter f (as ++ cs).toArray) w := by
          have : as.toArray ++ cs.toArray = (as ++ cs).toArray := by simp
          simp only [invoke, this]; exact e1 w
        have hstep := step_defer (P := P) (fr := { b.atR a todo with mode := u }) (cs := κ.cs) (ds := xs) hune hx rfl hinv
        obtain ⟨m1, m2, m3, fn2, v2, m4, m5, m6⟩ := f5
        -- what has become of the mode
        have hmodes : ∃ u1 pan1, κ1 = .dfr c0 κ.cs u1 ∧ modeOf β1 pan1 (settle u1) ∧ ih (.unwind res pan1) (fr.setDf r) h2 = .fin e rc h' := by
          cases pan with
          | none =>
            have hu : u = .returning := hmode
            rcases f1.up with rfl | ⟨c, cs', v', h1, h2⟩
            · exact ⟨u, none, rfl, by rw [hu]; rfl, hk⟩
            · simp only [Up.dfr.injEq] at h1; rw [hu] at h1; cases h1.2.2
          | some v0 =>
            obtain ⟨v0', q1, rfl⟩ := hmode
            rcases f1.up with rfl | ⟨c, cs', v', h1, rfl⟩
            · rcases f3 with ⟨h1, -⟩ | ⟨_, h1, -⟩ | ⟨v1, d1, h1, h2, h3⟩
              · cases h1
              · simp at h1
              · subst h2
                refine ⟨_, some v0, rfl, ⟨v0', q1.mono f1.le, ?_⟩, hk⟩
                simp [settle]
            · simp only [Up.dfr.injEq, FrameMode.panicking.injEq, List.cons.injEq, PanicEntry.mk.injEq, and_true] at h1
              obtain ⟨rfl, rfl, rfl⟩ := h1
              rcases f3 with ⟨h1, -⟩ | ⟨_, -, h1⟩ | ⟨v1, d1, h1, h2, h3⟩
              · cases h1
              · subst h1
                refine ⟨_, none, rfl, ?_, hk⟩
                show settle _ = .returning
                simp [settle]
              · simp at h1
        obtain ⟨u1, pan1, rfl, hm1, hk1⟩ := hmodes
        have hback := step_going_returned (P := P) (c := { c0 with mode := u1 }) (cs := κ.cs) (w := w1) (v := v2) m3 ⟨m1, m2, fn2, m4, m5⟩
        have hS1 : St E P B β1 w1 κ m (fr.setDf r) (fr.setDf r) b { a with defers := xs } h2 := by
          cases fr
          exact ⟨f2, ⟨hS.ff.fn, hS.ff.bfn, hS.ff.tm.mono f1.le, hrest.mono f1.le, (hS.ff.mono f1.le).ro⟩, hS.up.mono f1.le, hS.kd, rfl, rfl, rfl⟩
        obtain ⟨β', w', κ', frY, g1, g2, g3, g4, g5⟩ := hA.unw res pan1 (fr.setDf r) h2 e rc h' hk1 β1 w1 κ m b { a with defers := xs } todo (settle u1) fn hS1 (by cases fr; exact hfn) hcres hm1
        refine ⟨β', w', κ', frY, ⟨f1.le.trans g1.le, f1.bl.trans g1.bl, g1.up⟩, g2, g3, ?_, g5⟩
        exact .head hstep (f4.trans (.head hback g4))
      · cases hk
end
end Go.Dm

namespace Go.Dm
open Go.RowKit (Below)

section
variable {E : Ti} {P : Program} {B : Bd} {D : Env} {ih : Ih}

theorem setPs_tm {β : Bt} {n m : Nat} : ∀ (ps : List Nat) (args : List DV) (args' : List Value) (tm : T DV) (tms : Array Value), TmR β n m tm tms → (∀ p ∈ ps, p < n) → VRs β args args' → ps.length = args.length →
    TmR β n m (setPs tm (ps.map bits) args) ((ps.zip args').foldl (fun tmps (x : Nat × Value) => tmps.setIfInBounds x.1 x.2) tms)
  | [], args, args', tm, tms, ht, _, _, hl => by
    have : args = [] := List.length_eq_zero_iff.1 hl.symm
    subst this; exact ht
  | p :: ps, args, args', tm, tms, ht, hp, hv, hl => by
    cases hv with
    | nil => simp at hl
    | cons v v' l l' h1 h2 =>
      show TmR β n m (setPs (tm.set (bits p) (some v)) (ps.map bits) l) _
      simp only [List.zip_cons_cons, List.foldl_cons]
      exact setPs_tm ps l l' _ _ (ht.put (hp p (List.mem_cons_self ..)) h1) (fun q hq => hp q (List.mem_cons_of_mem _ hq)) h2 (by simpa using hl)
/-- a loop's record is written -/
theorem HR.putLoop {β : Bt} {w : World} {h : H} (hr : HR E P B β h w) {l : Nat} {L : Loc} {dl : DLoop} {q : Loop} (hL : β l = some L) (hd : h.get l = some (.loop dl)) (hq : w.heap[L.r]? = some (.loop q))
    (st : LState) (pend : Option Jump) (q' : Loop) (hq' : q' = { q with state := st.real, pending := jumpCode pend }) :
    HR E P B β (h.put l (.loop { dl with st := st, pend := pend })) { w with heap := w.heap.setIfInBounds L.r (.loop q') } ∧ Below B.b w { w with heap := w.heap.setIfInBounds L.r (.loop q') } := by
  obtain ⟨⟨q0, m, h1, h2, h3, h4, h5, h6, h7, h8, h9, h10, D, h11, h12⟩, h0⟩ := hr.obj l L _ hL hd
  rw [hq] at h1; cases h1
  have hlt : L.r < w.heap.size := by
    obtain ⟨hh, _⟩ := Array.getElem?_eq_some_iff.1 hq; exact hh
  have hsame : ({ w with heap := w.heap.setIfInBounds L.r (.loop q') } : World).heap[L.r]? = some (.loop q') := by
    show (w.heap.setIfInBounds L.r (.loop q'))[L.r]? = _
    simp [hlt]
  have hother : ∀ k, k ≠ L.r → ({ w with heap := w.heap.setIfInBounds L.r (.loop q') } : World).heap[k]? = w.heap[k]? := by
    intro k hkn
    show (w.heap.setIfInBounds L.r (.loop q'))[k]? = _
    rw [Array.getElem?_setIfInBounds_ne (fun e => hkn e.symm)]
  refine ⟨hr.putObj hL hd rfl (by intro a e b hh; cases hh) hother (by simp) ?_, ⟨rfl, rfl, rfl, by simp, fun k hk => hother k (by omega)⟩⟩
  subst hq'
  exact ⟨⟨_, m, hsame, h2, rfl, rfl, h5, h6, h7, h8, h9, h10, D, h11, h12⟩, h0⟩
theorem loop_at {β : Bt} {w : World} {h : H} (hr : HR E P B β h w) {l : Nat} {L : Loc} {dl : DLoop} (hL : β l = some L) (hd : h.get l = some (.loop dl)) :
    ∃ q m, w.heap[L.r]? = some (.loop q) ∧ FnIs P dl.fn dl.n m ∧ q.state = dl.st.real ∧ q.pending = jumpCode dl.pend ∧ q.fn = dl.fn ∧
    TmR β dl.n m dl.tm q.tmps ∧ dl.ps = q.params.toList.map bits ∧ (∀ p ∈ q.params.toList, p < dl.n) ∧
    cc E dl.n m q.assign = some dl.assign ∧ cc E dl.n m q.body = some dl.body ∧ ∃ D, β dl.dfr = some D ∧ D.r = q.defers := (hr.obj l L _ hL hd).ex
theorem getLoop_run {w : World} {r : Nat} {q : Loop} (hq : w.heap[r]? = some (.loop q)) : (Instr.getLoop r).run P w = .ok q w := by
  simp only [Instr.getLoop, Sem.run_bind, getObj_run (P := P) hq (by intro c e f h; cases h), Result.andThen_ok, Sem.run_pure]

theorem round_step (hA : AllS E P B ih) : RoundS E P B (step D ih) := by
  intro l args fr h e rc h' hres
  have hk : kRound ih l args fr h = .fin e rc h' := hres
  unfold kRound at hk
  split at hk
  · rename_i dl hdl
    split at hk
    · rename_i hlen
      -- what is given back
      have hret : ∃ v, e = .ret v := by
        unfold kRoundB at hk
        split at hk
        · split at hk
          · split at hk
            · unfold kRoundE at hk
              have key : ∀ (e2 : DExit) (fr2 : Fr) (h2 : H), endRound l fr.rc e2 fr2 h2 = .fin e rc h' → ∃ v, e = .ret v := by
                intro e2 fr2 h2 hh
                unfold endRound at hh
                split at hh
                · split at hh
                  · split at hh
                    · cases hh; exact ⟨_, rfl⟩
                    · cases hh; exact ⟨_, rfl⟩
                    · cases hh
                  · cases hh
                · cases hh
              split at hk
              · exact key _ _ _ hk
              · exact key _ _ _ hk
              · cases hk
            · cases hk
          · cases hk
        · cases hk
      obtain ⟨v, rfl⟩ := hret
      refine ⟨v, rfl, fun β w L args' hr hargs hL => ?_⟩
      obtain ⟨q, m, q1, q2, q3, q4, q5, q6, q7, q8, q9, q10, Dl, q11, q12⟩ := loop_at hr hL hdl
      have hl2 : args'.toArray.size = q.params.size := by
        have := hargs.length
        rw [q7] at hlen
        simp at hlen ⊢; omega
      refine ⟨q.fn, (q.params.zip args'.toArray).foldl (fun tmps (x : Tmp × Value) => tmps.setIfInBounds x.1 x.2) q.tmps, q.assign, q.body, ?_, fun c cs => ?_⟩
      · simp only [Instr.yield, Sem.run_bind, getLoop_run (P := P) q1, Result.andThen_ok]
        rw [if_neg (by simpa using hl2)]
        rfl
      · let b : Frame := { (default : Frame) with fn := q.fn, kind := .normal, roundOf := some L.r }
        let tms : Array Value := (q.params.zip args'.toArray).foldl (fun tmps (x : Tmp × Value) => tmps.setIfInBounds x.1 x.2) q.tmps
        let a : Act := { tmps := tms, defers := [] }
        have hround : Frame.round L.r q.fn tms q.assign q.body .normal = b.atR a [.code q.assign, .beginRound, .code q.body] := rfl
        show ∃ β' w' v', _ ∧ _ ∧ _ ∧ _ ∧ Steps P (lone (Frame.round L.r q.fn tms q.assign q.body .normal) (c :: cs) w) _
        rw [hround]
        let κ : Up := .normal (c :: cs)
        let fr1 : Fr := ⟨dl.fn, dl.n, setPs dl.tm dl.ps args, [], none, some l⟩
        have htm : TmR β dl.n m (setPs dl.tm dl.ps args) tms := by
          have := setPs_tm (n := dl.n) (m := m) q.params.toList args args' dl.tm q.tmps q6 q8 hargs (by rw [hlen, q7]; simp)
          rw [← q7] at this
          have e : tms = (q.params.toList.zip args').foldl (fun tmps (x : Nat × Value) => tmps.setIfInBounds x.1 x.2) q.tmps := by
            show (q.params.zip args'.toArray).foldl _ q.tmps = _
            rw [← Array.foldl_toList, Array.toList_zip]
          rw [e]; exact this
        have hS : St E P B β w κ m fr1 fr1 b a h := ⟨hr, ⟨q2, q5, htm, trivial, L, hL, rfl⟩, rfl, rfl, rfl, rfl, rfl⟩
        have hcode := hA.code q.assign dl.assign m fr1 b a [.beginRound, .code q.body] β w κ h _ q9 hS (.inl rfl)
        unfold kRoundB at hk
        cases hra : ih (.code dl.assign) fr1 h with
        | fail => rw [show ih (.code dl.assign) ⟨dl.fn, dl.n, setPs dl.tm dl.ps args, [], none, some l⟩ h = _ from hra] at hk; cases hk
        | fin _ _ _ => rw [show ih (.code dl.assign) ⟨dl.fn, dl.n, setPs dl.tm dl.ps args, [], none, some l⟩ h = _ from hra] at hk; cases hk
        | exc _ _ _ => rw [show ih (.code dl.assign) ⟨dl.fn, dl.n, setPs dl.tm dl.ps args, [], none, some l⟩ h = _ from hra] at hk; cases hk
        | nrm fr2 h2 =>
          rw [show ih (.code dl.assign) ⟨dl.fn, dl.n, setPs dl.tm dl.ps args, [], none, some l⟩ h = _ from hra] at hk
          rw [hra] at hcode
          obtain ⟨β2, w2, κ2, a2, f1, f2, f3⟩ := hcode
          have hκ2 := f1.up.normal
          subst hκ2
          simp only at hk
          split at hk
          · rename_i dl2 hdl2
            split at hk
            · rename_i hst
              have hL2 := f1.le _ _ hL
              obtain ⟨p, m2, p1, p2, p3, p4, -⟩ := loop_at f2.hr hL2 hdl2
              obtain ⟨r1, r2⟩ := f2.hr.putLoop hL2 hdl2 p1 .busy dl2.pend { p with state := .busy } (by rw [← p4]; rfl)
              have hbegin : (Instr.beginRound L.r).run P w2 = .ok () { w2 with heap := w2.heap.setIfInBounds L.r (.loop { p with state := .busy }) } := by
                have hps : p.state = .ready := by rw [p3, hst]; rfl
                simp only [Instr.beginRound, Sem.run_bind, getLoop_run (P := P) p1, Result.andThen_ok, setObj_run (P := P) p1 (by intro c e f h; cases h), hps, Sem.run_pure]
              let w3 : World := { w2 with heap := w2.heap.setIfInBounds L.r (.loop { p with state := .busy }) }
              let h3 : H := h2.put l (.loop { dl2 with st := .busy, pend := dl2.pend })
              have hS3 : St E P B β2 w3 (.normal (c :: cs)) m fr2 fr2 b a2 h3 := ⟨r1, f2.ff, f2.up, f2.kd, rfl, rfl, rfl⟩
              have hbody := hA.code q.body dl.body m fr2 b a2 [] β2 w3 (.normal (c :: cs)) h3 _ (by rw [f2.n]; exact q10) hS3 (.inl rfl)
              have hst3 : Steps P (lone (b.atR a [.code q.assign, .beginRound, .code q.body]) (c :: cs) w) (lone (b.atR a2 [.code q.body]) (c :: cs) w3) := f3.trans (.one (stepR_beginRound rfl hbegin))
              -- the round's end
              have fin : ∀ (j : Option Jump) (β4 : Bt) (w4 : World) (a4 : Act) (h4 : H) (fr4 : Fr) (todo : List Item) (dl4 : DLoop), Fw B β2 w3 (.normal (c :: cs)) β4 w4 (.normal (c :: cs)) → HR E P B β4 h4 w4 → h4.get l = some (.loop dl4) →
                  (∀ v' w5, (Instr.endRound L.r (jumpCode j)).run P w4 = .ok v' w5 → Steps P (lone (b.atR a2 [.code q.body]) (c :: cs) w3) (lone (c.finish v') cs w5)) →
                  R.fin (.ret (.bool j.isNone)) fr.rc (h4.put l (.loop { dl4 with st := if j.isNone then .ready else .done, pend := j })) = .fin (.ret v) rc h' →
                  ∃ β' w' v', β.le β' ∧ Below B.b w w' ∧ HR E P B β' h' w' ∧ VR β' v v' ∧ Steps P (lone (b.atR a [.code q.assign, .beginRound, .code q.body]) (c :: cs) w) (lone (c.finish v') cs w') := by
                intro j β4 w4 a4 h4 fr4 todo dl4 g1 g2 g3 g4 hfin
                have hL4 := g1.le _ _ hL2
                obtain ⟨s, m4, s1, s2, s3, s4, -⟩ := loop_at g2 hL4 g3
                obtain ⟨t1, t2⟩ := g2.putLoop hL4 g3 s1 (if j.isNone then .ready else .done) j { s with state := if (jumpCode j).isNone then .ready else .done, pending := jumpCode j }
                  (by cases j with
                    | none => rfl
                    | some j => cases j <;> rfl)
                have hend : (Instr.endRound L.r (jumpCode j)).run P w4 = .ok (.bool j.isNone) { w4 with heap := w4.heap.setIfInBounds L.r (.loop { s with state := if (jumpCode j).isNone then .ready else .done, pending := jumpCode j }) } := by
                  simp only [Instr.endRound, Sem.run_bind, getLoop_run (P := P) s1, Result.andThen_ok, setObj_run (P := P) s1 (by intro c e f h; cases h), Sem.run_pure]
                  cases j with
                  | none => rfl
                  | some j => cases j <;> rfl
                cases hfin
                exact ⟨β4, _, _, f1.le.trans g1.le, (f1.bl.trans r2).trans (g1.bl.trans t2), t1, .bool _, hst3.trans (g4 _ _ hend)⟩
              unfold kRoundE at hk
              have hk3 : (match ih (.code dl.body) fr2 h3 with
                | .nrm fr2 h2 => endRound l fr.rc .normal fr2 h2
                | .exc e fr2 h2 => endRound l fr.rc e fr2 h2
                | _ => .fail) = .fin (.ret v) rc h' := hk
              cases hrb : ih (.code dl.body) fr2 h3 with
              | fail => rw [hrb] at hk3; cases hk3
              | fin _ _ _ => rw [hrb] at hk3; cases hk3
              | nrm fr4 h4 =>
                rw [hrb] at hk3 hbody
                obtain ⟨β4, w4, κ4, a4, g1, g2, g3⟩ := hbody
                have hκ4 := g1.up.normal
                subst hκ4
                simp only [endRound] at hk3
                split at hk3
                · split at hk3
                  · rename_i dl4 hdl4
                    exact fin none β4 w4 a4 h4 fr4 [] dl4 g1 g2.hr hdl4 (fun v' w5 he => g3.trans (.one (stepR_round_end rfl rfl he))) hk3
                  · cases hk3
                · cases hk3
              | exc e4 fr4 h4 =>
                rw [hrb] at hk3 hbody
                obtain ⟨β4, w4, κ4, a4, g1, g2, g3⟩ := hbody
                have hκ4 := g1.up.normal
                subst hκ4
                simp only [endRound] at hk3
                split at hk3
                · split at hk3
                  · rename_i dl4 hdl4
                    cases e4 with
                    | normal => exact g3.elim
                    | panic v => cases hk3
                    | ret =>
                      obtain ⟨k', g3⟩ := g3
                      exact fin (some .ret) β4 w4 a4 h4 fr4 [] dl4 g1 g2.hr hdl4 (fun v' w5 he => g3.trans (.one (stepR_round_ret rfl rfl he))) hk3
                    | exit id =>
                      obtain ⟨k', g4, g3⟩ := g3
                      exact fin (some (.exit id)) β4 w4 a4 h4 fr4 [] dl4 g1 g2.hr hdl4 (fun v' w5 he => g3.trans (.one (stepR_round_exit rfl rfl (by rw [g4]; rfl) he))) hk3
                    | goto t =>
                      obtain ⟨k', g4, g3⟩ := g3
                      exact fin (some (.goto t)) β4 w4 a4 h4 fr4 [] dl4 g1 g2.hr hdl4 (fun v' w5 he => g3.trans (.one (stepR_round_goto rfl rfl (by rw [g4]; rfl) he))) hk3
                  · cases hk3
                · cases hk3
            · cases hk
          · cases hk
    · cases hk
  · cases hk
end
end Go.Dm

namespace Go.Dm
open Go.RowKit (Below)

section
variable {E : Ti} {P : Program} {B : Bd} {D : Env} {ih : Ih}

theorem rf_step (hA : AllS E P B ih) (f : Operand) (ps : Array Tmp) (x y : Code) (df : DX) (dx dy : DC) (m : Nat) (fr : Fr) (b : Frame) (a : Act) (k : List Item) (β : Bt) (w : World) (κ : Up) (h : H)
    (hf : cx E m [] f = some df) (hx : cc E fr.n m x = some dx) (hy : cc E fr.n m y = some dy) (hps : ∀ p ∈ ps.toList, p < fr.n) (hS : St E P B β w κ m fr fr b a h) :
    CodeR E P B β w κ m fr b k (lone (b.atR a (.code (.rangeFunc f ps x y) :: k)) κ.cs w) (kRf ih df (ps.toList.map bits) dx dy fr h) := by
  unfold kRf
  split
  · rename_i fid first caps hfe
    have hv := cx_vr hS.hr (n := fr.n) hS.ff.tm (StR.nil β [] a.tmps) f df hf
    have hv' : VR β (fr.ev df) (a.eval f) := hv
    rw [hfe] at hv'
    obtain ⟨first', caps', he, v1, v2⟩ : ∃ a' b' : List Value, a.eval f = .func (.func fid) a'.toArray b'.toArray ∧ VRs β first a' ∧ VRs β caps b' := by
      generalize a.eval f = r at hv'
      cases hv' with
      | func _ _ _ a' b' h1 h2 => exact ⟨a', b', rfl, h1, h2⟩
    split
    · trivial
    · rename_i db h1 fr1 hB
      -- the loop's record is laid
      have enter : ∃ (β1 : Bt) (w1 : World) (mark : List Deferred) (Db : Loc), Fw B β w κ β1 w1 κ ∧ HR E P B β1 h1 w1 ∧ β1 db = some Db ∧ DfR β1 fr1.df (mark ++ a.defers) ∧ fr1.fn = fr.fn ∧ fr1.n = fr.n ∧ fr1.tm = fr.tm ∧ fr1.ro = fr.ro ∧ fr1.rc = fr.rc ∧
          (Instr.enterLoop b.fn a.tmps ps x y b.roundOf).run P w = .ok (w1.heap.size, mark) (w1.alloc (.loop { state := .ready, pending := none, fn := b.fn, tmps := a.tmps, params := ps, assign := x, body := y, defers := Db.r })) := by
        unfold kRfB at hB
        split at hB
        · rename_i hro
          cases hB
          have hbr : b.roundOf = none := by have := hS.ff.ro; rw [hro] at this; exact this
          have hr1 : HR E P B (β.upd h.nx ⟨w.heap.size, 0, 0⟩) (h.new .dfr) (w.alloc (.deferred (some []))) := hS.hr.alloc 0 rfl ⟨hS.hr.base, heap_alloc_new w _⟩
          have hle := Bt.le_upd (β := β) (L := ⟨w.heap.size, 0, 0⟩) (hS.hr.new h.nx (Nat.le_refl _))
          refine ⟨_, w.alloc (.deferred (some [])), [{ target := .collected w.heap.size, args := #[] }], ⟨w.heap.size, 0, 0⟩, ⟨hle, (Below.refl B.b w).alloc hS.hr.base _, Up.To.refl κ⟩, hr1, Bt.upd_self _ _ _, ?_, ?_, ?_, ?_, ?_, ?_, ?_⟩
          · have : (fr.setDf (.coll h.nx :: fr.df)).df = .coll h.nx :: fr.df := by cases fr; rfl
            rw [this]
            exact ⟨⟨⟨w.heap.size, 0, 0⟩, Bt.upd_self _ _ _, rfl⟩, hS.ff.df.mono hle⟩
          all_goals first
            | (cases fr; rfl)
            | skip
          rw [hbr]
          simp only [Instr.enterLoop, Sem.run_bind, run_newObj, Result.andThen_ok, Sem.run_pure]
          rfl
        · rename_i l hro
          split at hB
          · rename_i dl hdl
            cases hB
            have := hS.ff.ro
            rw [hro] at this
            obtain ⟨L, hL, hbr⟩ := this
            obtain ⟨q, m1, q1, -, -, -, -, -, -, -, -, -, Dl, q2, q3⟩ := loop_at hS.hr hL hdl
            refine ⟨β, w, [], Dl, Fw.refl β w κ, hS.hr, q2, hS.ff.df, rfl, rfl, rfl, rfl, rfl, ?_⟩
            rw [hbr]
            simp only [Instr.enterLoop, Sem.run_bind, getLoop_run (P := P) q1, Result.andThen_ok, Sem.run_pure, run_newObj, q3]
            rfl
          · cases hB
      obtain ⟨β1, w1, mark, Db, g1, g2, g3, g4, g5, g6, g7, g8, g9, g10⟩ := enter
      let q : Loop := { state := .ready, pending := none, fn := b.fn, tmps := a.tmps, params := ps, assign := x, body := y, defers := Db.r }
      let dl : DLoop := ⟨.ready, none, fr.fn, fr.n, fr.tm, ps.toList.map bits, dx, dy, db⟩
      let w2 : World := w1.alloc (.loop q)
      let β2 : Bt := β1.upd h1.nx ⟨w1.heap.size, 0, 0⟩
      have hle2 : β1.le β2 := Bt.le_upd (g2.new h1.nx (Nat.le_refl _))
      have hr2 : HR E P B β2 (h1.new (.loop dl)) w2 :=
        g2.alloc 0 rfl ⟨⟨q, m, heap_alloc_new w1 _, hS.ff.fn, rfl, rfl, hS.ff.bfn, (hS.ff.tm.mono g1.le).mono hle2, rfl, hps, hx, hy, Db, hle2 _ _ g3, rfl⟩, g2.base⟩
      have hf2 : Fw B β w κ β2 w2 κ := ⟨g1.le.trans hle2, g1.bl.alloc g2.base _, Up.To.refl κ⟩
      have hL : β2 h1.nx = some ⟨w1.heap.size, 0, 0⟩ := Bt.upd_self _ _ _
      -- the call
      have hargs : VRs β2 (first ++ [.func (.yield h1.nx) [] []] ++ caps) (first' ++ [Value.func (.yield w1.heap.size) #[] #[]] ++ caps') :=
        ((v1.mono hf2.le).append (.cons _ _ _ _ (VR.yield h1.nx ⟨w1.heap.size, 0, 0⟩ hL) .nil)).append (v2.mono hf2.le)
      let a1 : Act := { a with defers := mark ++ a.defers }
      let c0 : Frame := b.atR a1 (.inRangeFunc w1.heap.size :: k)
      cases hcall : ih (.call fid (first ++ [.func (.yield h1.nx) [] []] ++ caps)) (fr1.setRc none) (h1.new (.loop dl)) with
      | fail => trivial
      | nrm _ _ => trivial
      | exc _ _ _ => trivial
      | fin e rc h3 =>
        cases e with
        | panic v => trivial
        | ret v =>
          simp only [kRfEnd]
          obtain ⟨e1, β3, w3, κ3, frX, f1, f2, f3, f4, f5, -⟩ := hA.call fid _ (fr1.setRc none) _ (.ret v) rc h3 hcall β2 w2 (.normal (c0 :: κ.cs)) _ hr2 hargs (by cases fr1; rfl)
          have hκ3 := f1.up.normal
          subst hκ3
          obtain ⟨v', l1, l2⟩ := leave_ret (c := c0) (cs := κ.cs) f5
          have hfin : c0.finish v' = b.atR a1 (.endRangeFunc w1.heap.size :: k) := finish_atR_inRangeFunc _ _
          rw [hfin] at l2
          have hinv : (invoke (.fn (.func fid) caps'.toArray) (first'.toArray ++ #[Value.func (.yield w1.heap.size) #[] #[]])).run P w2 = .ok (.enter fid (first' ++ [Value.func (.yield w1.heap.size) #[] #[]] ++ caps').toArray) w2 := by
            have : first'.toArray ++ #[Value.func (.yield w1.heap.size) #[] #[]] ++ caps'.toArray = (first' ++ [Value.func (.yield w1.heap.size) #[] #[]] ++ caps').toArray := by simp
            simp only [invoke, this]; exact e1 w2
          have hres : (resolve a.eval (rangeCall f w1.heap.size) 0).run P w2 = .ok { target := .fn (.func fid) caps'.toArray, args := first'.toArray ++ #[Value.func (.yield w1.heap.size) #[] #[]] } w2 := by
            simp only [resolve, rangeCall, he, Deferred.ofValue, Sem.run_pure]
            congr 3
            simp [Act.eval]
          have hstart := stepR_rangeFunc (P := P) (b := b) (a := a) (k := k) (cs := κ.cs) (g := f) (ps := ps) (assign := x) (body := y) g10 hres hinv
          have hsteps : Steps P (lone (b.atR a (.code (.rangeFunc f ps x y) :: k)) κ.cs w) (lone (b.atR a1 (.endRangeFunc w1.heap.size :: k)) κ.cs w3) := .head hstart (f4.trans (.one l2))
          split
          · rename_i dl3 hdl3
            have hL3 := f1.le _ _ hL
            obtain ⟨q3, m3, p1, p2, p3, p4, -⟩ := loop_at f2 hL3 hdl3
            -- the statement's end
            have key : dl3.st ≠ .busy → CodeR E P B β w κ m fr b k (lone (b.atR a (.code (.rangeFunc f ps x y) :: k)) κ.cs w) (jumpR dl3.pend fr1 (h3.put h1.nx (.loop { dl3 with st := .exhausted }))) := by
              intro hnb
              obtain ⟨t1, t2⟩ := f2.putLoop hL3 hdl3 p1 .exhausted dl3.pend { q3 with state := .exhausted } (by rw [← p4]; rfl)
              let w4 : World := { w3 with heap := w3.heap.setIfInBounds w1.heap.size (.loop { q3 with state := .exhausted }) }
              have hend : (Instr.endLoop w1.heap.size).run P w3 = .ok (jumpCode dl3.pend) w4 := by
                have hnb' : (q3.state == .busy) = false := by
                  rw [p3]
                  cases hst : dl3.st <;> first | exact absurd hst hnb | rfl
                simp only [Instr.endLoop, Sem.run_bind, getLoop_run (P := P) p1, Result.andThen_ok, hnb', Bool.false_eq_true, if_false, setObj_run (P := P) p1 (by intro c e f h; cases h), Sem.run_pure]
                rw [← p4]
              have hfw : Fw B β w κ β3 w4 κ := ⟨hf2.le.trans f1.le, hf2.bl.trans (f1.bl.trans t2), Up.To.refl κ⟩
              have hSt : St E P B β3 w4 κ m fr fr1 b a1 (h3.put h1.nx (.loop { dl3 with st := .exhausted })) := by
                refine ⟨t1, ⟨by rw [g5, g6]; exact hS.ff.fn, by rw [g5]; exact hS.ff.bfn, by rw [g6, g7]; exact hS.ff.tm.mono hfw.le, g4.mono (hle2.trans f1.le), by rw [g8]; exact (hS.ff.mono hfw.le).ro⟩, by rw [g9]; exact hS.up.mono hfw.le, hS.kd, g5, g6, g8⟩
              have hst4 := stepR_endRangeFunc (P := P) (b := b) (a := a1) (k := k) (cs := κ.cs) hend
              have hs4 := hsteps.trans (.one hst4)
              generalize h3.put h1.nx (.loop { dl3 with st := .exhausted }) = h4 at hSt ⊢
              cases hp : dl3.pend with
              | none => rw [hp] at hs4; exact ⟨β3, w4, κ, a1, hfw, hSt, hs4⟩
              | some j =>
                rw [hp] at hs4
                cases j with
                | ret => exact ⟨β3, w4, κ, a1, hfw, hSt, k, hs4⟩
                | exit id => exact ⟨β3, w4, κ, a1, hfw, hSt, k, rfl, hs4⟩
                | goto t => exact ⟨β3, w4, κ, a1, hfw, hSt, k, rfl, hs4⟩
            cases hst : dl3.st with
            | busy => trivial
            | ready => exact key (by rw [hst]; simp)
            | done => exact key (by rw [hst]; simp)
            | exhausted => exact key (by rw [hst]; simp)
          · trivial
  · trivial

/-- what the D-machine runs to, the machine runs to -/
theorem dex_sound {B0 : Nat} (hE : E.Ok P) (hD : ∀ G, EnvOk E P ⟨B0, G⟩ D) (hDr : DrawS E P B0 D) : ∀ n G, AllS E P ⟨B0, G⟩ (dex D n)
  | 0, _ => ⟨fun _ _ _ _ _ _ _ _ _ _ _ _ _ _ _ => trivial, fun _ _ _ _ _ _ _ _ _ _ _ _ _ _ _ _ => trivial, fun _ _ _ _ _ _ _ h => (by cases h), fun _ _ _ _ _ _ _ h => (by cases h), fun _ _ _ _ _ _ _ h => (by cases h)⟩
  | n + 1, G =>
    have hA := dex_sound hE hD hDr n
    ⟨code_step hE (hD G) (hDr (dex D n) (fun G => (hA G).call) (fun G => (hA G).round) G) (hA G) (rf_step (hA G)), scope_step (hA G), call_step (hD G) (hA G), round_step (hA G), unw_step hE (hA G)⟩
end
end Go.Dm
