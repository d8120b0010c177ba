/- Ranges over functions, deferred calls: rules. What runs leave. -/
import Derived.Test.YtbmcloahjiimeaaGreatDoorDmX2
import Derived.Test.YtbmcloahjiimeaaGreatDoorDmX3
set_option linter.all false
namespace Go.Dm

section
variable {D : Env} {Q : R → Prop}
def jumpQ (Q : R → Prop) (fr : Fr) (h : H) (j : Option Jump) : Prop :=
  match j with
  | none => Q (.nrm fr h)
  | some .ret => Q (.exc .ret fr h)
  | some (.exit id) => Q (.exc (.exit id) fr h)
  | some (.goto k) => Q (.exc (.goto k) fr h)
@[go_sem] theorem jumpQ_none (fr : Fr) (h : H) : jumpQ Q fr h none = Q (.nrm fr h) := _root_.id rfl
@[go_sem] theorem jumpQ_ret (fr : Fr) (h : H) : jumpQ Q fr h (some .ret) = Q (.exc .ret fr h) := _root_.id rfl
@[go_sem] theorem jumpQ_exit (fr : Fr) (h : H) (id : Nat) : jumpQ Q fr h (some (.exit id)) = Q (.exc (.exit id) fr h) := _root_.id rfl
def rfE (l : Nat) (fr : Fr) (Q : R → Prop) (h : H) (o : Option Obj) : Prop :=
  match o with
  | some (.loop L) => L.st ≠ .busy ∧ jumpQ Q fr (h.put l (.loop { L with st := .exhausted })) L.pend
  | _ => False
@[go_sem] theorem rfE_loop (l : Nat) (fr : Fr) (h : H) (L : DLoop) : rfE l fr Q h (some (.loop L)) = (L.st ≠ .busy ∧ jumpQ Q fr (h.put l (.loop { L with st := .exhausted })) L.pend) := _root_.id rfl
def rfQ (l : Nat) (fr : Fr) (Q : R → Prop) (r : R) : Prop :=
  match r with
  | .fin (.ret _) _ h3 => rfE l fr Q h3 (h3.get l)
  | _ => False
@[go_sem] theorem rfQ_ret (l : Nat) (fr : Fr) (v : DV) (rc : Option DV) (h : H) : rfQ l fr Q (.fin (.ret v) rc h) = rfE l fr Q h (h.get l) := _root_.id rfl
/-- a range over a function, in a function's own frame -/
theorem wp_rf {f : DX} {ps : List Pth} {a b : DC} {fn n : Nat} {tm : T DV} {df : List DDef} {rc : Option DV} {h : H} {fid : Nat} {first caps : List DV} (hf : (⟨fn, n, tm, df, rc, none⟩ : Fr).ev f = .func (.func fid) first caps)
    (hw : Wp D (.call fid (first ++ [.func (.yield (h.nx + 1)) [] []] ++ caps)) ⟨fn, n, tm, .coll h.nx :: df, none, none⟩ ((h.new .dfr).new (.loop ⟨.ready, none, fn, n, tm, ps, a, b, h.nx⟩)) (rfQ (h.nx + 1) ⟨fn, n, tm, .coll h.nx :: df, rc, none⟩ Q)) :
    Wp D (.code (.rf f ps a b)) ⟨fn, n, tm, df, rc, none⟩ h Q := by
  obtain ⟨r, ⟨k, h1⟩, h2⟩ := hw
  have hnx : (h.new .dfr).nx = h.nx + 1 := H.nx_new _ _
  have e : ∀ m, k ≤ m → step D (dex D m) (.code (.rf f ps a b)) ⟨fn, n, tm, df, rc, none⟩ h = kRfEnd (h.nx + 1) ⟨fn, n, tm, .coll h.nx :: df, rc, none⟩ r := fun m hm => by
    show kRf (dex D m) f ps a b ⟨fn, n, tm, df, rc, none⟩ h = _
    unfold kRf
    rw [hf]
    show kRfEnd (h.new .dfr).nx ⟨fn, n, tm, .coll h.nx :: df, rc, none⟩ (dex D m (.call fid (first ++ [.func (.yield (h.new .dfr).nx) [] []] ++ caps)) ⟨fn, n, tm, .coll h.nx :: df, none, none⟩ ((h.new .dfr).new (.loop ⟨.ready, none, fn, n, tm, ps, a, b, h.nx⟩))) = _
    rw [hnx, h1 m hm]
  refine .step k _ e ?_
  cases r with
  | fin en rc' h3 =>
    cases en with
    | panic v => exact h2.elim
    | ret v =>
      simp only [rfQ, rfE] at h2
      unfold kRfEnd
      simp only
      split at h2
      · rename_i L hL
        rw [hL]
        simp only
        obtain ⟨h3', h4⟩ := h2
        have key : ∀ x : R, Q x → Q (match L.st with | .busy => .fail | _ => x) := by
          intro x hx
          cases hs : L.st with
          | busy => exact absurd hs h3'
          | _ => exact hx
        refine key _ ?_
        unfold jumpQ at h4
        unfold jumpR
        cases hp : L.pend with
        | none => rw [hp] at h4; exact h4
        | some j => rw [hp] at h4; cases j <;> exact h4
      · exact h2.elim
  | _ => exact h2.elim

def endQ (l : Nat) (Q : R → Prop) (rc : Option DV) (h : H) (j : Option Jump) (o : Option Obj) : Prop :=
  match o with
  | some (.loop L) => match j with
    | none => Q (.fin (.ret (.bool true)) rc (h.put l (.loop { L with st := .ready, pend := none })))
    | some j => Q (.fin (.ret (.bool false)) rc (h.put l (.loop { L with st := .done, pend := some j })))
  | _ => False
@[go_sem] theorem endQ_none (l : Nat) (rc : Option DV) (h : H) (L : DLoop) : endQ l Q rc h none (some (.loop L)) = Q (.fin (.ret (.bool true)) rc (h.put l (.loop { L with st := .ready, pend := none }))) := _root_.id rfl
@[go_sem] theorem endQ_some (l : Nat) (rc : Option DV) (h : H) (L : DLoop) (j : Jump) : endQ l Q rc h (some j) (some (.loop L)) = Q (.fin (.ret (.bool false)) rc (h.put l (.loop { L with st := .done, pend := some j }))) := _root_.id rfl
def roundQ (l : Nat) (rc : Option DV) (Q : R → Prop) (r : R) : Prop :=
  match r with
  | .nrm fr h => fr.df = [] ∧ endQ l Q rc h none (h.get l)
  | .exc .ret fr h => fr.df = [] ∧ endQ l Q rc h (some .ret) (h.get l)
  | .exc (.exit id) fr h => fr.df = [] ∧ endQ l Q rc h (some (.exit id)) (h.get l)
  | .exc (.goto k) fr h => fr.df = [] ∧ endQ l Q rc h (some (.goto k)) (h.get l)
  | _ => False
@[go_sem] theorem roundQ_nrm (l : Nat) (rc : Option DV) (fr : Fr) (h : H) : roundQ l rc Q (.nrm fr h) = (fr.df = [] ∧ endQ l Q rc h none (h.get l)) := _root_.id rfl
@[go_sem] theorem roundQ_ret (l : Nat) (rc : Option DV) (fr : Fr) (h : H) : roundQ l rc Q (.exc .ret fr h) = (fr.df = [] ∧ endQ l Q rc h (some .ret) (h.get l)) := _root_.id rfl
@[go_sem] theorem roundQ_exit (l : Nat) (rc : Option DV) (fr : Fr) (h : H) (id : Nat) : roundQ l rc Q (.exc (.exit id) fr h) = (fr.df = [] ∧ endQ l Q rc h (some (.exit id)) (h.get l)) := _root_.id rfl
def roundB (D : Env) (l : Nat) (body : DC) (rc : Option DV) (Q : R → Prop) (fr : Fr) (h : H) (o : Option Obj) : Prop :=
  match o with
  | some (.loop L1) => L1.st = .ready ∧ wpC D body fr (h.put l (.loop { L1 with st := .busy })) (roundQ l rc Q)
  | _ => False
@[go_sem] theorem roundB_loop (l : Nat) (body : DC) (rc : Option DV) (fr : Fr) (h : H) (L1 : DLoop) : roundB D l body rc Q fr h (some (.loop L1)) = (L1.st = .ready ∧ wpC D body fr (h.put l (.loop { L1 with st := .busy })) (roundQ l rc Q)) := _root_.id rfl
def roundA (D : Env) (l : Nat) (body : DC) (rc : Option DV) (Q : R → Prop) (r : R) : Prop :=
  match r with
  | .nrm fr h => roundB D l body rc Q fr h (h.get l)
  | _ => False
@[go_sem] theorem roundA_nrm (l : Nat) (body : DC) (rc : Option DV) (fr : Fr) (h : H) : roundA D l body rc Q (.nrm fr h) = roundB D l body rc Q fr h (h.get l) := _root_.id rfl
/-- one round: what the function that yields calls -/
theorem wp_round {l : Nat} {args : List DV} {fr : Fr} {h : H} {L : DLoop} (hg : h.get l = some (.loop L)) (hn : args.length = L.ps.length)
    (hw : wpC D L.assign ⟨L.fn, L.n, setPs L.tm L.ps args, [], none, some l⟩ h (roundA D l L.body fr.rc Q)) : Wp D (.round l args) fr h Q := by
  obtain ⟨r, ⟨k, h1⟩, h2⟩ := wpC_sound _ _ _ _ hw
  cases r with
  | nrm fr1 h1' =>
    simp only [roundA, roundB] at h2
    split at h2
    · rename_i L1 hL1
      obtain ⟨h3, h4⟩ := h2
      obtain ⟨r2, ⟨k2, h5⟩, h6⟩ := wpC_sound _ _ _ _ h4
      have e : ∀ m, max k k2 ≤ m → step D (dex D m) (.round l args) fr h = kRoundE l fr.rc r2 := fun m hm => by
        show kRound (dex D m) l args fr h = _
        unfold kRound
        rw [hg]
        simp only [hn, if_true]
        rw [h1 m (by omega)]
        unfold kRoundB
        simp only [hL1, h3]
        rw [h5 m (by omega)]
      refine .step (max k k2) _ e ?_
      have fin : ∀ (ex : DExit) (fr2 : Fr) (h2 : H) (j : Option Jump), jumpOf ex = some j → fr2.df = [] → endQ l Q fr.rc h2 j (h2.get l) → Q (endRound l fr.rc ex fr2 h2) := by
        intro ex fr2 h2 j hj hdf hq
        unfold endRound
        rw [hdf]
        simp only
        unfold endQ at hq
        split at hq
        · rename_i L2 hL2
          rw [hL2]
          simp only [hj]
          cases j with
          | none => exact hq
          | some j => exact hq
        · exact hq.elim
      cases r2 with
      | nrm fr2 h2 => exact fin .normal fr2 h2 none rfl h6.1 h6.2
      | exc ex fr2 h2 =>
        cases ex with
        | ret => exact fin .ret fr2 h2 (some .ret) rfl h6.1 h6.2
        | exit id => exact fin (.exit id) fr2 h2 (some (.exit id)) rfl h6.1 h6.2
        | goto k => exact fin (.goto k) fr2 h2 (some (.goto k)) rfl h6.1 h6.2
        | _ => exact h6.elim
      | _ => exact h6.elim
    · exact h2.elim
  | _ => exact h2.elim
/-- a mark among what was deferred -/
theorem wp_unw_coll {res : List DRV} {pan : Option DV} {fn n : Nat} {tm : T DV} {df : List DDef} {rc : Option DV} {ro : Option Nat} {h : H} {d : Nat} (hg : h.get d = some .dfr) (hw : unwQ D res pan ⟨fn, n, tm, df, rc, ro⟩ (h.kill d) Q) :
    Wp D (.unwind res pan) ⟨fn, n, tm, .coll d :: df, rc, ro⟩ h Q := by
  obtain ⟨r, ⟨k, h1⟩, h2⟩ := unwQ_sound hw
  refine .step k r (fun m hm => ?_) h2
  show kUnw (dex D m) res pan ⟨fn, n, tm, .coll d :: df, rc, ro⟩ h = r
  unfold kUnw
  simp only [hg]
  exact h1 m hm
def unwC (D : Env) (res : List DRV) (pan : Option DV) (fr : Fr) (Q : R → Prop) (r : R) : Prop :=
  match r with
  | .fin (.ret _) rc' h' => match pan with
    | none => unwQ D res none fr h' Q
    | some v => match rc' with
      | none => unwQ D res none fr h' Q
      | some _ => unwQ D res (some v) fr h' Q
  | _ => False
/-- a deferred call -/
theorem wp_unw_call {res : List DRV} {pan : Option DV} {fn n : Nat} {tm : T DV} {df : List DDef} {rc : Option DV} {ro : Option Nat} {h : H} {f : Nat} {args : List DV}
    (hw : Wp D (.call f args) ⟨fn, n, tm, .call f args :: df, pan, ro⟩ h (unwC D res pan ⟨fn, n, tm, df, rc, ro⟩ Q)) : Wp D (.unwind res pan) ⟨fn, n, tm, .call f args :: df, rc, ro⟩ h Q := by
  obtain ⟨r, ⟨k, h1⟩, h2⟩ := hw
  have e : ∀ m, k ≤ m → step D (dex D m) (.unwind res pan) ⟨fn, n, tm, .call f args :: df, rc, ro⟩ h = kUnwC (dex D m) res pan ⟨fn, n, tm, .call f args :: df, rc, ro⟩ df r := fun m hm => by
    show kUnw (dex D m) res pan ⟨fn, n, tm, .call f args :: df, rc, ro⟩ h = _
    unfold kUnw
    show kUnwC (dex D m) res pan ⟨fn, n, tm, .call f args :: df, rc, ro⟩ df (dex D m (.call f args) ⟨fn, n, tm, .call f args :: df, pan, ro⟩ h) = _
    rw [h1 m hm]
  cases r with
  | fin en rc' h' =>
    cases en with
    | panic v => exact h2.elim
    | ret v =>
      have fin : ∀ pan', (∀ m, kUnwC (dex D m) res pan ⟨fn, n, tm, .call f args :: df, rc, ro⟩ df (.fin (.ret v) rc' h') = dex D m (.unwind res pan') ⟨fn, n, tm, df, rc, ro⟩ h') → unwQ D res pan' ⟨fn, n, tm, df, rc, ro⟩ h' Q → Wp D (.unwind res pan) ⟨fn, n, tm, .call f args :: df, rc, ro⟩ h Q := by
        intro pan' hk hu
        obtain ⟨r2, ⟨k2, h3⟩, h4⟩ := unwQ_sound hu
        exact .step (max k k2) r2 (fun m hm => by rw [e m (by omega), hk, h3 m (by omega)]) h4
      cases pan with
      | none => exact fin none (fun m => rfl) h2
      | some v0 =>
        cases rc' with
        | none => exact fin none (fun m => rfl) h2
        | some x => exact fin (some v0) (fun m => rfl) h2
  | _ => exact h2.elim
end

/-! ### What is left -/
theorem Sub.new' {h h2 : H} (s : Sub h h2) (o : Obj) : Sub h (h2.new o) := s.trans (Sub.new _ _)
theorem left_plain {v v' : DV} {h h2 : H} (hv : v = v') (hp : plain v' = true) (hs : Sub h h2) : ∃ v2 h3, R.fin (.ret v) none h2 = .fin (.ret v2) none h3 ∧ Left1 h h3 v2 v' h :=
  ⟨v, h2, rfl, by subst hv; exact .none v hp hs⟩
theorem left_row {d e len cap : Nat} {op : Bool} {cs : List DV} {h h2 : H} (hs : Sub h h2) (hd : h.nx ≤ d) (hg : h2.get d = some (.cells cs e false)) (hp : cs.all plain1 = true) :
    ∃ v2 h3, R.fin (.ret (.slice (some (d, 0)) len cap op)) none h2 = .fin (.ret v2) none h3 ∧ Left1 h h3 v2 (.slice (some (h.nx, 0)) len cap op) (h.new (.cells cs e false)) :=
  ⟨_, h2, rfl, .row d e len cap op cs hs hd hg hp⟩
end Go.Dm
