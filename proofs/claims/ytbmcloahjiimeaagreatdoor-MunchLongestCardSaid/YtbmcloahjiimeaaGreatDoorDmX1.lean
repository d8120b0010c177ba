/- What a run of the D-machine comes to, by rules. -/
import Derived.Test.YtbmcloahjiimeaaGreatDoorDmB
set_option linter.all false
namespace Go.Dm

/-- a job's run comes to r, with as much fuel as one likes -/
def Runs (D : Env) (j : Job) (fr : Fr) (h : H) (r : R) : Prop := ∃ n, ∀ m, n ≤ m → dex D m j fr h = r
def Wp (D : Env) (j : Job) (fr : Fr) (h : H) (Q : R → Prop) : Prop := ∃ r, Runs D j fr h r ∧ Q r
theorem Wp.mono {D : Env} {j : Job} {fr : Fr} {h : H} {Q Q' : R → Prop} (hq : ∀ r, Q r → Q' r) (w : Wp D j fr h Q) : Wp D j fr h Q' := by
  obtain ⟨r, h1, h2⟩ := w; exact ⟨r, h1, hq r h2⟩
theorem dex_succ (D : Env) (m : Nat) (j : Job) (fr : Fr) (h : H) : dex D (m + 1) j fr h = step D (dex D m) j fr h := rfl
theorem Runs.step {D : Env} {j : Job} {fr : Fr} {h : H} {r : R} (n : Nat) (hs : ∀ m, n ≤ m → step D (dex D m) j fr h = r) : Runs D j fr h r :=
  ⟨n + 1, fun m hm => by
    obtain ⟨k, rfl⟩ : ∃ k, m = k + 1 := ⟨m - 1, by omega⟩
    rw [dex_succ]; exact hs k (by omega)⟩
theorem Wp.step {D : Env} {j : Job} {fr : Fr} {h : H} {Q : R → Prop} (n : Nat) (r : R) (hs : ∀ m, n ≤ m → step D (dex D m) j fr h = r) (hq : Q r) : Wp D j fr h Q := ⟨r, .step n hs, hq⟩

/-! ### Operations -/
def callQ (fr : Fr) (K : DV → Fr → H → Prop) (Q : R → Prop) (r : R) : Prop :=
  match r with
  | .fin (.ret v) _ h => K v fr h
  | .fin (.panic v) _ h => Q (.exc (.panic v) fr h)
  | _ => False
def extQ (o : Option (DV × H)) (fr : Fr) (K : DV → Fr → H → Prop) : Prop :=
  match o with
  | some (v, h) => K v fr h
  | none => False
def wpCall (D : Env) (fr : Fr) (f : DFn) (args : List DV) (h : H) (K : DV → Fr → H → Prop) (Q : R → Prop) : Prop :=
  match f with
  | .func f => match D.ext f with
    | some g => extQ (g args h) fr K
    | none => Wp D (.call f args) (fr.setRc none) h (callQ fr K Q)
  | .yield l => Wp D (.round l args) fr h (callQ fr K Q)
def wpDefer (fr : Fr) (f : Nat) (args : List DV) (h : H) (K : DV → Fr → H → Prop) : Prop :=
  match fr.ro with
  | none => K .undef (fr.setDf (.call f args :: fr.df)) h
  | some _ => False
def wpRecover (fr : Fr) (h : H) (K : DV → Fr → H → Prop) : Prop :=
  match fr.ro with
  | none => match fr.rc with
    | some v => K v (fr.setRc none) h
    | none => K .nilIface fr h
  | some _ => False
def wpN (D : Env) (fr : Fr) (n : N) (K : DV → Fr → H → Prop) (Q : R → Prop) : Prop :=
  match n with
  | .fail => False
  | .val v h => K v fr h
  | .call f args h => wpCall D fr f args h K Q
  | .defer f args h => wpDefer fr f args h K
  | .recover h => wpRecover fr h K
  | .panic v h => Q (.exc (.panic v) fr h)
def wpG (b : Bool) (x y : Prop) : Prop :=
  match b with
  | true => x
  | false => y
def wpO (D : Env) : List DOper → List DV → Fr → H → (R → Prop) → Prop
  | [], _, fr, h, Q => Q (.nrm fr h)
  | o :: l, st, fr, h, Q => wpG (wanted o.guard (fr.evS st)) (wpN D fr (dop o.op (fr.evS st) h) (fun v fr h => wpO D l (v :: st) (fr.put o.dst v) h Q) Q) (wpO D l (.undef :: st) (fr.put o.dst .undef) h Q)
def wpMade (x : Option Seen) (K : Seen → Prop) : Prop :=
  match x with
  | some s => K s
  | none => False
def wpDr (D : Env) : List (DOper × Draw) → Fr → H → List H → List Seen → (R → Prop) → Prop
  | [], fr, h, hs, ss, Q => ss.all (seenOk hs) = true ∧ Q (.nrm fr h)
  | (o, dr) :: l, fr, h, hs, ss, Q =>
    wpG (wanted o.guard fr.ev)
      (wpN D fr (dop o.op fr.ev h) (fun v fr' h' =>
        match o.op.sort with
        | 0 => wpDr D l (fr'.put o.dst v) h' hs ss Q
        | 1 => wpDr D l (fr'.put o.dst v) h' hs (.look o.op fr v dr :: ss) Q
        | 2 => wpMade (madeS h h' dr) fun s => hs.length = dr.lo + 1 ∧ wpDr D l (fr'.put o.dst v) h' (h' :: hs.tail) (s :: ss) Q
        | _ => wpDr D l (fr'.put o.dst v) h' (h' :: hs) ss Q) (fun _ => False))
      (wpG (Nat.beq o.op.sort 3) (wpDr D l (fr.put o.dst .undef) h (h :: hs) ss Q) (wpDr D l (fr.put o.dst .undef) h hs ss Q))

/-! ### Code -/
def thenQ (k : Fr → H → Prop) (Q : R → Prop) (r : R) : Prop :=
  match r with
  | .nrm fr h => k fr h
  | .exc e fr h => Q (.exc e fr h)
  | _ => False
def wpB (v : DV) (x y : Prop) : Prop :=
  match v with
  | .bool b => wpG b x y
  | _ => False
def blockQ (id : Nat) (Q : R → Prop) (r : R) : Prop :=
  match r with
  | .nrm fr h => Q (.nrm fr h)
  | .exc (.exit id') fr h => wpG (Nat.beq id' id) (Q (.nrm fr h)) (Q (.exc (.exit id') fr h))
  | .exc e fr h => Q (.exc e fr h)
  | _ => False
def wpC (D : Env) : DC → Fr → H → (R → Prop) → Prop
  | .skip, fr, h, Q => Q (.nrm fr h)
  | .reg ops, fr, h, Q => wpO D ops [] fr h Q
  | .draw ops _, fr, h, Q => wpDr D ops fr h [h] [] Q
  | .seq a b, fr, h, Q => wpC D a fr h (thenQ (fun fr h => wpC D b fr h Q) Q)
  | .cond c a b, fr, h, Q => wpB (fr.ev c) (wpC D a fr h Q) (wpC D b fr h Q)
  | .block id b, fr, h, Q => wpC D b fr h (blockQ id Q)
  | .loop b, fr, h, Q => Wp D (.code (.loop b)) fr h Q
  | .rf f ps a b, fr, h, Q => Wp D (.code (.rf f ps a b)) fr h Q
  | .exit id, fr, h, Q => Q (.exc (.exit id) fr h)
  | .scope b, fr, h, Q => Wp D (.code (.scope b)) fr h Q
  | .label _, fr, h, Q => Q (.nrm fr h)
  | .goto l, fr, h, Q => Q (.exc (.goto l) fr h)
  | .ret, fr, h, Q => Q (.exc .ret fr h)

section
variable {D : Env}
theorem wpN_sound {fr : Fr} {o : DOp} {ev : Ev} {h : H} {K : DV → Fr → H → Prop} {Q : R → Prop} (hw : wpN D fr (dop o ev h) K Q) :
    ∃ s, (∃ n, ∀ m, n ≤ m → dstep D (dex D m) o ev fr h = s) ∧ match s with | .val v fr' h' => K v fr' h' | .exc e fr' h' => Q (.exc e fr' h') | .fail => False := by
  have key : ∀ n : N, wpN D fr n K Q → ∃ s, (∃ k, ∀ m, k ≤ m → nxt D (dex D m) fr n = s) ∧ match s with | .val v fr' h' => K v fr' h' | .exc e fr' h' => Q (.exc e fr' h') | .fail => False := by
    intro n hn
    cases n with
    | fail => exact hn.elim
    | val v h2 => exact ⟨_, ⟨0, fun _ _ => rfl⟩, hn⟩
    | call f args h2 =>
      have back : ∀ (j : Job) (fr0 : Fr) (h0 : H), (∀ m, callF D (dex D m) f args fr h2 = dex D m j fr0 h0) → Wp D j fr0 h0 (callQ fr K Q) → ∃ s, (∃ k, ∀ m, k ≤ m → nxt D (dex D m) fr (.call f args h2) = s) ∧ match s with | .val v fr' h' => K v fr' h' | .exc e fr' h' => Q (.exc e fr' h') | .fail => False := by
        intro j fr0 h0 hj ⟨r, ⟨n, hr⟩, hq⟩
        refine ⟨backR fr r, ⟨n, fun m hm => ?_⟩, ?_⟩
        · show backR fr (callF D (dex D m) f args fr h2) = _
          rw [hj, hr m hm]
        · cases r with
          | fail => exact hq.elim
          | nrm _ _ => exact hq.elim
          | exc _ _ _ => exact hq.elim
          | fin e rc h3 => cases e <;> exact hq
      cases f with
      | func f =>
        simp only [wpN, wpCall] at hn
        cases hg : D.ext f with
        | some g =>
          rw [hg] at hn
          simp only [extQ] at hn
          refine ⟨backR fr (callE g args h2), ⟨0, fun m _ => ?_⟩, ?_⟩
          · show backR fr (callF D (dex D m) (.func f) args fr h2) = _
            simp only [callF, hg]
          · unfold callE
            cases hgg : g args h2 with
            | none => rw [hgg] at hn; exact hn.elim
            | some p => obtain ⟨v, h3⟩ := p; rw [hgg] at hn; exact hn
        | none =>
          rw [hg] at hn
          exact back _ _ _ (fun m => by simp only [callF, hg]) hn
      | yield l => exact back _ _ _ (fun m => rfl) hn
    | defer f args h2 =>
      simp only [wpN, wpDefer] at hn
      refine ⟨nxDefer fr f args h2, ⟨0, fun _ _ => rfl⟩, ?_⟩
      unfold nxDefer
      cases hro : fr.ro with
      | none => rw [hro] at hn; exact hn
      | some _ => rw [hro] at hn; exact hn.elim
    | recover h2 =>
      simp only [wpN, wpRecover] at hn
      refine ⟨nxRecover fr h2, ⟨0, fun _ _ => rfl⟩, ?_⟩
      unfold nxRecover
      cases hro : fr.ro with
      | none =>
        rw [hro] at hn
        simp only at hn ⊢
        cases hrc : fr.rc with
        | some v => rw [hrc] at hn; exact hn
        | none => rw [hrc] at hn; exact hn
      | some _ => rw [hro] at hn; exact hn.elim
    | panic v h2 => exact ⟨.exc (.panic v) fr h2, ⟨0, fun _ _ => rfl⟩, hn⟩
  exact key _ hw

theorem wpO_sound : ∀ (l : List DOper) (st : List DV) (fr : Fr) (h : H) (Q : R → Prop), wpO D l st fr h Q → ∃ r, (∃ n, ∀ m, n ≤ m → dops D (dex D m) l st fr h = r) ∧ Q r := by
  intro l
  induction l with
  | nil => intro st fr h Q hw; exact ⟨_, ⟨0, fun _ _ => rfl⟩, hw⟩
  | cons o l ihl =>
    intro st fr h Q hw
    have e : ∀ m, dops D (dex D m) (o :: l) st fr h = dopsC D (dex D m) o (dops D (dex D m) l) st fr h := fun _ => rfl
    simp only [wpO] at hw
    cases hg : wanted o.guard (fr.evS st) with
    | false =>
      rw [hg] at hw
      obtain ⟨r, ⟨n, h1⟩, h2⟩ := ihl _ _ _ _ hw
      refine ⟨r, ⟨n, fun m hm => ?_⟩, h2⟩
      rw [e]; unfold dopsC; rw [hg]; exact h1 m hm
    | true =>
      rw [hg] at hw
      simp only [wpG] at hw
      obtain ⟨s, ⟨n, h1⟩, h2⟩ := wpN_sound hw
      cases s with
      | fail => exact h2.elim
      | val v fr' h' =>
        obtain ⟨r, ⟨n2, h3⟩, h4⟩ := ihl _ _ _ _ h2
        refine ⟨r, ⟨max n n2, fun m hm => ?_⟩, h4⟩
        rw [e]; unfold dopsC; rw [hg]
        show goS o.dst (dops D (dex D m) l) st (dstep D (dex D m) o.op (fr.evS st) fr h) = r
        rw [h1 m (by omega)]; exact h3 m (by omega)
      | exc e' fr' h' =>
        refine ⟨_, ⟨n, fun m hm => ?_⟩, h2⟩
        rw [e]; unfold dopsC; rw [hg]
        show goS o.dst (dops D (dex D m) l) st (dstep D (dex D m) o.op (fr.evS st) fr h) = _
        rw [h1 m hm]; rfl
theorem wpDr_sound : ∀ (l : List (DOper × Draw)) (fr : Fr) (h : H) (hs : List H) (ss : List Seen) (Q : R → Prop), wpDr D l fr h hs ss Q → ∃ r, (∃ n, ∀ m, n ≤ m → ddraw D (dex D m) l fr h hs ss = r) ∧ Q r := by
  intro l
  induction l with
  | nil =>
    intro fr h hs ss Q hw
    refine ⟨_, ⟨0, fun m _ => ?_⟩, hw.2⟩
    show (bif ss.all (seenOk hs) then R.nrm fr h else .fail) = _
    rw [hw.1]; rfl
  | cons od l ihl =>
    intro fr h hs ss Q hw
    obtain ⟨o, dr⟩ := od
    have e : ∀ m, ddraw D (dex D m) ((o, dr) :: l) fr h hs ss = (bif wanted o.guard fr.ev then ddrawK o dr (ddraw D (dex D m) l) fr h hs ss (dstep D (dex D m) o.op fr.ev fr h)
      else bif Nat.beq o.op.sort 3 then ddraw D (dex D m) l (fr.put o.dst .undef) h (h :: hs) ss else ddraw D (dex D m) l (fr.put o.dst .undef) h hs ss) := fun _ => rfl
    simp only [wpDr] at hw
    cases hg : wanted o.guard fr.ev with
    | false =>
      rw [hg] at hw
      simp only [wpG] at hw
      cases h3 : Nat.beq o.op.sort 3 with
      | true =>
        rw [h3] at hw
        obtain ⟨r, ⟨n, h1⟩, h2⟩ := ihl _ _ _ _ _ hw
        exact ⟨r, ⟨n, fun m hm => by rw [e, hg, h3]; exact h1 m hm⟩, h2⟩
      | false =>
        rw [h3] at hw
        obtain ⟨r, ⟨n, h1⟩, h2⟩ := ihl _ _ _ _ _ hw
        exact ⟨r, ⟨n, fun m hm => by rw [e, hg, h3]; exact h1 m hm⟩, h2⟩
    | true =>
      rw [hg] at hw
      simp only [wpG] at hw
      obtain ⟨s, ⟨n, h1⟩, h2⟩ := wpN_sound hw
      cases s with
      | fail => exact h2.elim
      | exc _ _ _ => exact h2.elim
      | val v fr' h' =>
        have go : ∀ (hs1 : List H) (ss1 : List Seen), (∀ m, ddrawK o dr (ddraw D (dex D m) l) fr h hs ss (.val v fr' h') = ddraw D (dex D m) l (fr'.put o.dst v) h' hs1 ss1) → wpDr D l (fr'.put o.dst v) h' hs1 ss1 Q →
            ∃ r, (∃ n, ∀ m, n ≤ m → ddraw D (dex D m) ((o, dr) :: l) fr h hs ss = r) ∧ Q r := by
          intro hs1 ss1 hk hw1
          obtain ⟨r, ⟨n2, h3⟩, h4⟩ := ihl _ _ _ _ _ hw1
          refine ⟨r, ⟨max n n2, fun m hm => ?_⟩, h4⟩
          rw [e, hg]
          simp only [cond_true]
          rw [h1 m (by omega), hk]; exact h3 m (by omega)
        simp only at h2
        split at h2
        · rename_i hsort; exact go hs ss (fun m => by simp only [ddrawK, hsort]) h2
        · rename_i hsort; exact go _ _ (fun m => by simp only [ddrawK, hsort]) h2
        · rename_i hsort
          unfold wpMade at h2
          split at h2
          · rename_i s hs'
            obtain ⟨h3, h4⟩ := h2
            refine go _ _ (fun m => ?_) h4
            simp only [ddrawK, hsort, hs']
            have : Nat.beq hs.length (Nat.succ dr.lo) = true := by rw [h3]; exact Nat.beq_refl _
            rw [this]; rfl
          · exact h2.elim
        · rename_i h0 h1' h2'
          refine go _ _ (fun m => ?_) h2
          simp only [ddrawK]

theorem wpC_sound : ∀ (c : DC) (fr : Fr) (h : H) (Q : R → Prop), wpC D c fr h Q → Wp D (.code c) fr h Q := by
  intro c
  induction c with
  | skip => intro fr h Q hw; exact .step 0 _ (fun _ _ => rfl) hw
  | reg ops => intro fr h Q hw; obtain ⟨r, ⟨n, h1⟩, h2⟩ := wpO_sound ops [] fr h Q hw; exact .step n r (fun m hm => h1 m hm) h2
  | draw ops id => intro fr h Q hw; obtain ⟨r, ⟨n, h1⟩, h2⟩ := wpDr_sound ops fr h [h] [] Q hw; exact .step n r (fun m hm => h1 m hm) h2
  | seq a b iha ihb =>
    intro fr h Q hw
    obtain ⟨r, ⟨n, h1⟩, h2⟩ := iha fr h _ hw
    cases r with
    | fail => exact h2.elim
    | fin _ _ _ => exact h2.elim
    | nrm fr1 h1' =>
      obtain ⟨r2, ⟨n2, h3⟩, h4⟩ := ihb fr1 h1' Q h2
      refine .step (max n n2) r2 (fun m hm => ?_) h4
      show goOn (dex D m (.code b)) (dex D m (.code a) fr h) = r2
      rw [h1 m (by omega)]; exact h3 m (by omega)
    | exc e fr1 h1' =>
      refine .step n _ (fun m hm => ?_) h2
      show goOn (dex D m (.code b)) (dex D m (.code a) fr h) = _
      rw [h1 m hm]; rfl
  | cond c a b iha ihb =>
    intro fr h Q hw
    simp only [wpC, wpB] at hw
    cases hc : fr.ev c with
    | bool t =>
      rw [hc] at hw
      cases t with
      | true =>
        obtain ⟨r, ⟨n, h1⟩, h2⟩ := iha fr h Q hw
        refine .step n r (fun m hm => ?_) h2
        show kCondB (dex D m) a b fr h (fr.ev c) = r
        rw [hc]; exact h1 m hm
      | false =>
        obtain ⟨r, ⟨n, h1⟩, h2⟩ := ihb fr h Q hw
        refine .step n r (fun m hm => ?_) h2
        show kCondB (dex D m) a b fr h (fr.ev c) = r
        rw [hc]; exact h1 m hm
    | _ => rw [hc] at hw; exact hw.elim
  | block id b ihb =>
    intro fr h Q hw
    obtain ⟨r, ⟨n, h1⟩, h2⟩ := ihb fr h _ hw
    have e : ∀ m, n ≤ m → Go.Dm.step D (dex D m) (.code (.block id b)) fr h = @R.rec (fun _ => R) .fail .nrm (exBlock id) .fin r := fun m hm => by
      show @R.rec (fun _ => R) .fail .nrm (exBlock id) .fin (dex D m (.code b) fr h) = _
      rw [h1 m hm]
    refine .step n _ e ?_
    cases r with
    | fail => exact h2.elim
    | fin _ _ _ => exact h2.elim
    | nrm fr1 h1' => exact h2
    | exc ex fr1 h1' =>
      cases ex with
      | exit id' =>
        show Q (exBlock id (.exit id') fr1 h1')
        simp only [blockQ] at h2
        unfold exBlock
        simp only
        cases hb : Nat.beq id' id with
        | true => rw [hb] at h2; exact h2
        | false => rw [hb] at h2; exact h2
      | _ => exact h2
  | loop b _ => intro fr h Q hw; exact hw
  | rf f ps a b _ _ => intro fr h Q hw; exact hw
  | exit id => intro fr h Q hw; exact .step 0 _ (fun _ _ => rfl) hw
  | scope b _ => intro fr h Q hw; exact hw
  | label l => intro fr h Q hw; exact .step 0 _ (fun _ _ => rfl) hw
  | goto l => intro fr h Q hw; exact .step 0 _ (fun _ _ => rfl) hw
  | ret => intro fr h Q hw; exact .step 0 _ (fun _ _ => rfl) hw

/-- one round of a loop, and what follows -/
theorem wp_loop1 {b : DC} {fr : Fr} {h : H} {Q : R → Prop} (hw : wpC D b fr h (thenQ (fun fr h => Wp D (.code (.loop b)) fr h Q) Q)) : Wp D (.code (.loop b)) fr h Q := by
  obtain ⟨r, ⟨n, h1⟩, h2⟩ := wpC_sound b fr h _ hw
  cases r with
  | fail => exact h2.elim
  | fin _ _ _ => exact h2.elim
  | nrm fr1 h1' =>
    obtain ⟨r2, ⟨n2, h3⟩, h4⟩ := h2
    refine .step (max n n2) r2 (fun m hm => ?_) h4
    show goOn (dex D m (.code (.loop b))) (dex D m (.code b) fr h) = r2
    rw [h1 m (by omega)]; exact h3 m (by omega)
  | exc e fr1 h1' =>
    refine .step n _ (fun m hm => ?_) h2
    show goOn (dex D m (.code (.loop b))) (dex D m (.code b) fr h) = _
    rw [h1 m hm]; rfl
def loopQ (I : Nat → Fr → H → Prop) (k : Nat) (Q : R → Prop) (r : R) : Prop :=
  match r with
  | .nrm fr h => ∃ k', k' < k ∧ I k' fr h
  | .exc e fr h => Q (.exc e fr h)
  | _ => False
/-- a loop, by what holds ahead of each round, with a measure that falls -/
theorem wp_loop {b : DC} {Q : R → Prop} (I : Nat → Fr → H → Prop) (hstep : ∀ k fr h, I k fr h → wpC D b fr h (loopQ I k Q)) : ∀ k fr h, I k fr h → Wp D (.code (.loop b)) fr h Q := by
  intro k
  induction k using Nat.strongRecOn with
  | _ k ihk =>
    intro fr h hI
    have hw := hstep k fr h hI
    obtain ⟨r, ⟨n, h1⟩, h2⟩ := wpC_sound b fr h _ hw
    cases r with
    | fail => exact h2.elim
    | fin _ _ _ => exact h2.elim
    | nrm fr1 h1' =>
      obtain ⟨k', hk, hI'⟩ := h2
      obtain ⟨r2, ⟨n2, h3⟩, h4⟩ := ihk k' hk fr1 h1' hI'
      refine .step (max n n2) r2 (fun m hm => ?_) h4
      show goOn (dex D m (.code (.loop b))) (dex D m (.code b) fr h) = r2
      rw [h1 m (by omega)]; exact h3 m (by omega)
    | exc e fr1 h1' =>
      refine .step n _ (fun m hm => ?_) h2
      show goOn (dex D m (.code (.loop b))) (dex D m (.code b) fr h) = _
      rw [h1 m hm]; rfl

/-! ### Calls -/
def unwQ (D : Env) (res : List DRV) (pan : Option DV) (fr : Fr) (h : H) (Q : R → Prop) : Prop :=
  match fr.df with
  | [] => match pan with
    | none => (match resV fr h res with
      | some vs => Q (.fin (.ret (oneV vs)) fr.rc h)
      | none => False)
    | some v => Q (.fin (.panic v) fr.rc h)
  | _ :: _ => Wp D (.unwind res pan) fr h Q
def bodyQ (D : Env) (res : List DRV) (Q : R → Prop) (r : R) : Prop :=
  match r with
  | .nrm fr h => unwQ D res none fr h Q
  | .exc .ret fr h => unwQ D res none fr h Q
  | .exc (.panic v) fr h => unwQ D res (some v) fr h Q
  | _ => False
theorem unwQ_sound {res : List DRV} {pan : Option DV} {fr : Fr} {h : H} {Q : R → Prop} (hw : unwQ D res pan fr h Q) : Wp D (.unwind res pan) fr h Q := by
  unfold unwQ at hw
  split at hw
  · rename_i hdf
    have e : ∀ m, Go.Dm.step D (dex D m) (.unwind res pan) fr h = kUnwN res pan fr h := fun m => by
      show kUnw (dex D m) res pan fr h = _
      unfold kUnw; rw [hdf]
    refine .step 0 _ (fun m _ => e m) ?_
    unfold kUnwN
    split at hw
    · split at hw
      · rename_i vs hv; rw [hv]; exact hw
      · exact hw.elim
    · exact hw
  · exact hw
theorem wp_call {f : Nat} {args : List DV} {fr : Fr} {h : H} {Q : R → Prop} {F : DFunc} (hF : D.fn f = some F) (hn : args.length ≤ F.ntmps)
    (hw : wpC D F.body ⟨f, F.ntmps, setArgs .e 0 args, [], fr.rc, none⟩ h (bodyQ D F.res Q)) : Wp D (.call f args) fr h Q := by
  obtain ⟨r, ⟨n, h1⟩, h2⟩ := wpC_sound F.body _ h _ hw
  have e : ∀ m, n ≤ m → Go.Dm.step D (dex D m) (.call f args) fr h = kCallE (dex D m) F.res r := fun m hm => by
    show kCall D (dex D m) f args fr h = _
    unfold kCall
    rw [hF]
    simp only
    rw [show Nat.ble args.length F.ntmps = true by rw [Nat.ble_eq]; exact hn]
    simp only [cond_true]
    rw [h1 m hm]
  have fin : ∀ pan fr2 h2, (∀ m, kCallE (dex D m) F.res r = dex D m (.unwind F.res pan) fr2 h2) → unwQ D F.res pan fr2 h2 Q → Wp D (.call f args) fr h Q := by
    intro pan fr2 h2 hk hu
    obtain ⟨r2, ⟨n2, h3⟩, h4⟩ := unwQ_sound hu
    exact .step (max n n2) r2 (fun m hm => by rw [e m (by omega), hk, h3 m (by omega)]) h4
  cases r with
  | fail => exact h2.elim
  | fin _ _ _ => exact h2.elim
  | nrm fr1 h1' => exact fin none fr1 h1' (fun m => rfl) h2
  | exc ex fr1 h1' =>
    cases ex with
    | ret => exact fin none fr1 h1' (fun m => rfl) h2
    | panic v => exact fin (some v) fr1 h1' (fun m => rfl) h2
    | normal => exact h2.elim
    | exit _ => exact h2.elim
    | goto _ => exact h2.elim
end
end Go.Dm
