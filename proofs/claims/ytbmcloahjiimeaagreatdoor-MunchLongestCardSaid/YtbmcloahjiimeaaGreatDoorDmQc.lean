/- Regions that draw: the step of one operation; the whole region, in whatever order is drawn. Regions that draw: the whole region, in whatever order is drawn. A run of the D-machine is a call's. -/
import Derived.Test.YtbmcloahjiimeaaGreatDoorDmQb
import Derived.Orders
set_option linter.all false
namespace Go.Dm
open Go.RowKit (Below)

section
variable {E : Ti} {P : Program} {b0 : Nat} {G : Nat → Prop} {ops : Array Oper} {n m : Nat} {ds : List DOper} {b : List Nat} {pr : List (Nat × Rc)} {fr : Fr} {hF : Nat → H} {cF : Nat → Core} {fb : Frame}
  {D : Env} {ih : Ih} {h : H} {fr2 : Fr} {h2 : H} {hs2 : List H} (s : Sim E D ih ops.toList n m ds b pr fr h fr2 h2 hs2 hF cF)
  {S : Nat → Bool} {β : Bt} {w : World} {κ : Up} {a : Act} (I : Inv E P b0 G ops.toList n m ds b pr fr hF cF fb S β w κ a)

theorem sim_step (hE : E.Ok P) (hC : ∀ G, CallS E P ⟨b0, G⟩ ih) (hR : ∀ G, RoundS E P ⟨b0, G⟩ ih) (hX : ∀ G, ExtS E P ⟨b0, G⟩ D)
    (s : Sim E D ih ops.toList n m ds b pr fr h fr2 h2 hs2 hF cF) (I : Inv E P b0 G ops.toList n m ds b pr fr hF cF fb S β w κ a) {j : Nat} (hjn : j < ops.size) (hj : S j = false) (hb : ∀ i, bf b j i → S i = true) (rest : List Nat) (k : List Item) :
    ∃ β' w' κ' a', Fw ⟨b0, G⟩ β w κ β' w' κ' ∧ Inv E P b0 G ops.toList n m ds b pr fr hF cF fb (addS S j) β' w' κ' a' ∧
      Steps P (lone (fb.atR a (.inRegion ops (j :: rest) :: k)) κ.cs w) (lone (fb.atR a' (.inRegion ops rest :: k)) κ'.cs w') := by
  obtain ⟨pre, r, post, hp⟩ := s.split (j := j) (by simpa using hjn)
  have hx : (j, r) ∈ pr := by rw [hp]; simp
  have hrm : r ∈ pr.map (·.2) := List.mem_map.2 ⟨_, hx, rfl⟩
  obtain ⟨o, ho⟩ : ∃ o, ops[j]? = some o := ⟨ops[j], by simp [hjn]⟩
  have hol : ops.toList[j]? = some o := by simpa using ho
  obtain ⟨d, g1, hc, hdst⟩ := s.dr.op j o hol
  obtain ⟨g2, hdr, hok⟩ := s.rec_ _ hx
  simp only at g2 hdr hok
  rw [g2] at g1; cases g1
  obtain ⟨c1, c2, c3⟩ := coper_inv hc
  have hread : ∀ t ∈ Oper.looks ops.toList o, r.fr.tm.get (bits t) = (rplS S fr.tm pr).get (bits t) := fun t ht => s.read I.down hp hol hj hb ht
  -- operands
  have hval : ∀ x dx, x ∈ o.op.operands.toList → cx E m [] x = some dx → VR β (evX dx r.fr.tm []) (a.eval x) := fun x dx hxm hxx => by
    have h1 := cx_vr I.hr (n := n) I.tm (StR.nil β [] a.tmps) x dx hxx
    rw [evX_congr hxx (tm := r.fr.tm) (tm' := rplS S fr.tm pr) fun t he => hread t ?_]
    · exact h1
    · subst he
      simp only [Oper.looks, List.mem_append]
      left
      exact List.mem_filterMap.2 ⟨.tmp t, hxm, rfl⟩
  have hXex : ∃ X : Cx, cop E X o.op = some r.od.op ∧ ∀ x dx, X x = some dx → VR β (evX dx r.fr.tm []) (a.eval x) := by
    classical
    refine ⟨fun x => if x ∈ o.op.operands.toList then cx E m [] x else none, ?_, fun x dx hxx => ?_⟩
    · rw [cop_congr (Y := cx E m []) fun x hx => if_pos hx]; exact c1
    · simp only at hxx
      split at hxx
      · rename_i hm; exact hval x dx hm hxx
      · cases hxx
  obtain ⟨X, hXc, hXv⟩ := hXex
  -- the guard
  have hguard : r.w = Region.wanted o (yielded ops a.tmps) := by
    have h1 := wanted_eq (E := E) (P := P) (fr := ⟨fr.fn, fr.n, rplS S fr.tm pr, [], none, none⟩) I.hr (n := n) I.tm (StR.nil β [] a.tmps) hc
    have h2 := guard_congr hc hread
    rw [hok.w, ← h1]
    exact h2
  have hlo : r.dr.lo ≤ cntS ds S := by rw [hdr]; exact s.lo_le hb
  have hhi : cntS ds S ≤ r.dr.hi := by rw [hdr]; exact s.le_hi I.down hj
  have hclt : cntS ds S < hs2.length := s.cnt_lt
  have hisE : isEat ds j = (r.od.op.sort == 3) := s.isE hx
  cases hw : r.w with
  | false =>
    -- it is not wanted
    obtain ⟨n1, n2, n3⟩ := hok.no hw
    have hskip : Steps P (lone (fb.atR a (.inRegion ops (j :: rest) :: k)) κ.cs w) (lone (fb.atR (a.put o.dst undef) (.inRegion ops rest :: k)) κ.cs w) := by
      have := stepR_op_skip (P := P) (b := fb) (a := a) (k := k) (cs := κ.cs) (w := w) (ops := ops) (i := j) (rest := rest) (by rw [ho]; simpa [← hguard] using hw)
      rw [ho] at this
      exact .one this
    by_cases h3 : r.od.op.sort = 3
    · have t1 := (s.tr.eff r hrm h3).1
      obtain ⟨e1, -⟩ := s.cnt_eff I.down hp h3 hj hb
      rw [e1] at t1
      obtain ⟨q1, q2, q3, q4, q5, q6⟩ := I.eff s hp h3 hj hb (β' := β) (w' := w) (by rw [n3, ← t1]; exact I.hr)
      have hcc : cF (cntS ds (addS S j)) = cF (cntS ds S) := by rw [← q3, ← q2, n2]
      exact ⟨β, w, κ, _, Fw.refl β w κ, I.adv s hp hol hc hdst hj hb (Bt.le.refl β) rfl q4 (by rw [n1]; exact VR.undef β) rfl (by rw [hcc]; exact I.df) (by rw [hcc]; exact I.up) (by rw [hcc]; exact I.same) q5 q6, hskip⟩
    · have hcnt : cntS ds (addS S j) = cntS ds S := Sim.cnt_other (by rw [hisE]; simpa using h3)
      obtain ⟨q5, q6⟩ := I.same_cnt hcnt
      exact ⟨β, w, κ, _, Fw.refl β w κ, I.adv s hp hol hc hdst hj hb (Bt.le.refl β) rfl (Inv.hr_less hcnt I.hr) (by rw [n1]; exact VR.undef β) rfl (by rw [hcnt]; exact I.df) (by rw [hcnt]; exact I.up) (by rw [hcnt]; exact I.same) q5 q6, hskip⟩
  | true =>
    have hwr : Region.wanted o (yielded ops a.tmps) = true := by rw [← hguard]; exact hw
    have hrun := hok.yes hw
    by_cases h3 : r.od.op.sort = 3
    · -- an effect
      obtain ⟨e1, -⟩ := s.cnt_eff I.down hp h3 hj hb
      have t1 := (s.tr.eff r hrm h3).1
      have t5 := s.tr.coreR r hrm
      rw [e1] at t1 t5
      have hrh : HR E P ⟨b0, GS G pr S (cntS ds S)⟩ β r.h w := by rw [← t1]; exact I.hr
      have d1 : r.fr.df = (cF (cntS ds S)).df := congrArg Core.df t5
      have d2 : r.fr.rc = (cF (cntS ds S)).rc := congrArg Core.rc t5
      have d3 : r.fr.ro = (cF (cntS ds S)).ro := congrArg Core.ro t5
      have hst := op_stepX (D := D) (ih := ih) (fr := r.fr) (st := []) (rest := rest) (k := k) hE (hC _) (hR _) (hX _) hrh (by rw [d1]; exact I.df) (by rw [d3, I.same.1]; exact I.rr) (by rw [d2]; exact I.up) I.kd ho hwr hXv hXc
      have hrun' : dstep D ih r.od.op (r.fr.evS []) r.fr r.h = .val r.v r.fr' r.h' := hrun
      rw [hrun'] at hst
      obtain ⟨β', w', κ', a1, v', s1, s2, s3, s4, s5, s6, s7, s8, s9, s10, s11⟩ := hst
      obtain ⟨q1, q2, q3, q4, q5, q6⟩ := I.eff s hp h3 hj hb s2
      obtain ⟨i1, i2, i3⟩ := I.same
      refine ⟨β', w', κ', _, ⟨s1.le, s1.bl, s1.up⟩, I.adv s hp hol hc hdst hj hb s1.le s1.up.kind q4 s4 s5 (by rw [← q3]; exact s6) (by rw [← q3]; exact s3) ?_ q5 q6, s11⟩
      rw [← q3]
      have f1 : r.fr.fn = (cF (cntS ds S)).fn := congrArg Core.fn t5
      have f2 : r.fr.n = (cF (cntS ds S)).n := congrArg Core.n t5
      exact ⟨show r.fr'.ro = fr.ro by rw [s10, d3, i1], show r.fr'.fn = fr.fn by rw [s7, f1, i2], show r.fr'.n = fr.n by rw [s8, f2, i3]⟩
    · have hcnt : cntS ds (addS S j) = cntS ds S := Sim.cnt_other (by rw [hisE]; simpa using h3)
      obtain ⟨q5, q6⟩ := I.same_cnt hcnt
      obtain ⟨p1, p2⟩ := dstep_plain h3 hrun
      by_cases hs2 : r.od.op.sort = 2
      · -- a variable, or a row, is made
        obtain ⟨m1, cs, e, m2, m3⟩ := s.made _ hx ⟨hs2, hw⟩
        simp only at m1 m2 m3
        have mok := m3 (cntS ds S) hlo hhi hclt
        have hghost : GS G pr S (cntS ds S) r.h.nx := .inr ⟨(j, r), hx, hj, ⟨hs2, hw⟩, by simp only; omega, rfl⟩
        obtain ⟨gh1, gh2⟩ := I.hr.ghost _ hghost
        have hget : (hF (cntS ds S)).get r.h.nx = some (.cells cs e false) := by
          unfold madeOk at mok
          split at mok
          · rename_i cs' e' hg
            simp only [Bool.and_eq_true] at mok
            obtain ⟨⟨k1, k2⟩, k3⟩ := mok
            rw [hg, sames_eq k1, Nat.eq_of_beq_eq_true k2]
          · cases mok
        obtain ⟨cs2, e2, c0, v', r1, r2, r3, r4, r5⟩ := made_run (P := P) (ρ := a.eval) hE hXc hs2 p1 hXv w
        have hsame : cs2 = cs ∧ e2 = e := by
          have h1 : r.h'.get r.h.nx = some (.cells cs e false) := by rw [m2]; exact H.get_new _ _
          have h2 : r.h'.get r.h.nx = some (.cells cs2 e2 false) := by rw [r1]; exact H.get_new _ _
          rw [h1] at h2; cases h2; exact ⟨rfl, rfl⟩
        obtain ⟨rfl, rfl⟩ := hsame
        have hle : β.le (β.upd r.h.nx ⟨w.heap.size, 0, 0⟩) := Bt.le_upd gh1
        have hph := I.hr.phantom gh1 hget gh2 (r2 β) r3 (w1 := w.alloc (.cells c0.toArray e2)) rfl (G' := GS G pr (addS S j) (cntS ds (addS S j))) fun q hq => by
          rw [hcnt] at hq
          rcases hq with hq | ⟨x, u1, u2, u3, u4, u5⟩
          · refine ⟨.inl hq, fun e => ?_⟩
            subst e
            exact I.d2 _ hx hj ⟨hs2, hw⟩ (by simp only; omega) hq
          · refine ⟨.inr ⟨x, u1, (addS_false u2).1, u3, u4, u5⟩, fun e => ?_⟩
            exact (addS_false u2).2 (I.d1 x u1 (j, r) hx (addS_false u2).1 hj u3 ⟨hs2, hw⟩ u4 (by simp only; omega) (u5.symm.trans e))
        have hnd : ∀ c, o.op ≠ .defer c := fun c hdc => by
          rw [hdc] at c1
          obtain ⟨callee, args, ts⟩ := c
          simp only [cop] at c1
          split at c1
          · unfold Option.map at c1
            split at c1
            · rw [← Option.some.inj c1] at hs2; cases hs2
            · cases c1
          · cases c1
        refine ⟨_, _, κ, _, ⟨hle, (Below.refl b0 w).alloc I.hr.base _, Up.To.refl κ⟩, I.adv s hp hol hc hdst hj hb (a1 := a) (v' := v') hle rfl ?_ (r5 _ (Bt.upd_self _ _ _)) rfl (by rw [hcnt]; exact I.df.mono hle) (by rw [hcnt]; exact I.up.mono hle) (by rw [hcnt]; exact I.same) q5 q6,
          .one (so_value ho hwr (by rw [Oper.semAt_eq _ _ _ hnd]; exact r4))⟩
        rw [hcnt] at hph ⊢
        exact hph
      · -- it looks, or not even that
        have hdop : dop r.od.op r.fr.ev (hF (cntS ds S)) = .val r.v (hF (cntS ds S)) := by
          have hlt : r.od.op.sort ≤ 3 := by cases r.od.op <;> simp [DOp.sort]
          have h01 : r.od.op.sort = 0 ∨ r.od.op.sort = 1 := by omega
          rcases h01 with h0 | h0
          · exact (sort0 h0 p1).2 _
          · have hl := s.look _ hx h0 hw (cntS ds S) hlo hhi hclt
            simp only [lookOk] at hl
            split at hl
            · rename_i v2 h3' hd2
              rw [hd2, sort1 h0 hd2, same_eq hl]
            · cases hl
        let fr1 : Fr := ⟨r.fr.fn, r.fr.n, r.fr.tm, (cF (cntS ds S)).df, (cF (cntS ds S)).rc, (cF (cntS ds S)).ro⟩
        have hst := op_stepX (D := D) (ih := ih) (fr := fr1) (st := []) (rest := rest) (k := k) hE (hC _) (hR _) (hX _) I.hr I.df (by show RoR β (cF (cntS ds S)).ro fb; rw [I.same.1]; exact I.rr) I.up I.kd ho hwr hXv hXc
        have hdst' : dstep D ih r.od.op (fr1.evS []) fr1 (hF (cntS ds S)) = .val r.v fr1 (hF (cntS ds S)) := by
          have : dop r.od.op (fr1.evS []) (hF (cntS ds S)) = .val r.v (hF (cntS ds S)) := hdop
          unfold dstep nxt; rw [this]; rfl
        rw [hdst'] at hst
        obtain ⟨β', w', κ', a1, v', s1, s2, s3, s4, s5, s6, s7, s8, s9, s10, s11⟩ := hst
        exact ⟨β', w', κ', _, ⟨s1.le, s1.bl, s1.up⟩, I.adv s hp hol hc hdst hj hb s1.le s1.up.kind (Inv.hr_less hcnt s2) s4 s5 (by rw [hcnt]; exact s6) (by rw [hcnt]; exact s3) (by rw [hcnt]; exact I.same) q5 q6, s11⟩
end
end Go.Dm

namespace Go.Dm
open Go.RowKit (Below)

section
variable {E : Ti} {P : Program} {b0 : Nat} {G : Nat → Prop} {ops : Array Oper} {n m : Nat} {ds : List DOper} {b : List Nat} {pr : List (Nat × Rc)} {fr : Fr} {hF : Nat → H} {cF : Nat → Core} {fb : Frame}
  {D : Env} {ih : Ih} {h : H} {fr2 : Fr} {h2 : H} {hs2 : List H}

theorem least_not {N : Nat} {S : Nat → Bool} {i : Nat} (hi : i < N) (hs : S i = false) : ∃ j, j < N ∧ S j = false ∧ ∀ k, k < j → S k = true := by
  induction i using Nat.strongRecOn with
  | _ i ihi =>
    by_cases hall : ∀ k, k < i → S k = true
    · exact ⟨i, hi, hs, hall⟩
    · simp only [Classical.not_forall] at hall
      obtain ⟨k, h1, h2⟩ := hall
      exact ihi k h1 (by omega) (by simpa using h2)

theorem edges_all {o : Oper} {listed : Array Bool} (h : (o.after.all fun e => !Region.binds .any e || listed.getD e.on false) = true) : ∀ e ∈ edges o, listed.getD e false = true := fun e he => by
  simp only [edges, List.mem_filterMap] at he
  obtain ⟨x, hx, hxe⟩ := he
  rw [Array.all_eq_true] at h
  obtain ⟨i, hi, rfl⟩ := Array.getElem_of_mem (by simpa using hx : x ∈ o.after)
  have := h i hi
  cases hb : Region.binds .any o.after[i] with
  | false => rw [hb] at hxe; cases hxe
  | true => rw [hb] at hxe this; cases hxe; simpa using this
theorem all_edges {o : Oper} {listed : Array Bool} (h : ∀ e ∈ edges o, listed.getD e false = true) : (o.after.all fun e => !Region.binds .any e || listed.getD e.on false) = true := by
  rw [Array.all_eq_true]
  intro i hi
  cases hb : Region.binds .any o.after[i] with
  | false => rfl
  | true =>
    have := h o.after[i].on (List.mem_filterMap.2 ⟨o.after[i], by simp, by rw [hb]; rfl⟩)
    simpa using this
theorem getD_tf {listed : Array Bool} {i : Nat} (h : i < listed.size) : listed.getD i false = listed.getD i true := by simp [h]
theorem unl_lt {N : Nat} {S : Nat → Bool} {j : Nat} (hj : j < N) (hs : S j = false) : (List.range N).countP (fun i => !addS S j i) + 1 = (List.range N).countP (fun i => !S i) := by
  obtain ⟨pre, post, hp⟩ := List.append_of_mem (List.mem_range.2 hj)
  have hnd : (List.range N).Nodup := List.nodup_range
  rw [hp] at hnd ⊢
  rw [List.nodup_append] at hnd
  obtain ⟨-, n2, n3⟩ := hnd
  rw [List.nodup_cons] at n2
  have e1 : pre.countP (fun i => !addS S j i) = pre.countP (fun i => !S i) := List.countP_congr fun i hi => by
    rw [addS_ne S (fun e => (n3 i hi j (List.mem_cons_self ..)) e)]
  have e2 : post.countP (fun i => !addS S j i) = post.countP (fun i => !S i) := List.countP_congr fun i hi => by
    rw [addS_ne S (fun e : i = j => n2.1 (by rw [← e]; exact hi))]
  rw [List.countP_append, List.countP_append, List.countP_cons, List.countP_cons, e1, e2, addS_self, hs]
  simp; omega

theorem sim_go (hE : E.Ok P) (hC : ∀ G, CallS E P ⟨b0, G⟩ ih) (hR : ∀ G, RoundS E P ⟨b0, G⟩ ih) (hX : ∀ G, ExtS E P ⟨b0, G⟩ D)
    (s : Sim E D ih ops.toList n m ds b pr fr h fr2 h2 hs2 hF cF) (k : List Item) : ∀ (fuel t : Nat) (listed : Array Bool) (S : Nat → Bool) (β : Bt) (w : World) (κ : Up) (a : Act), Inv E P b0 G ops.toList n m ds b pr fr hF cF fb S β w κ a →
      listed.size = ops.size → (∀ i, i < ops.size → listed.getD i true = S i) → (List.range ops.size).countP (fun i => !S i) ≤ fuel →
      ∃ β' w' κ' a' S', Fw ⟨b0, G⟩ β w κ β' w' κ' ∧ Inv E P b0 G ops.toList n m ds b pr fr hF cF fb S' β' w' κ' a' ∧ (∀ i, i < ops.size → S' i = true) ∧
        Steps P (lone (fb.atR a (.inRegion ops (Region.linearise.go .any ops fuel t listed []) :: k)) κ.cs w) (lone (fb.atR a' k) κ'.cs w') := by
  intro fuel
  induction fuel with
  | zero =>
    intro t listed S β w κ a I hsz hl hcnt
    refine ⟨β, w, κ, a, S, Fw.refl β w κ, I, fun i hi => ?_, ?_⟩
    · have h0 : (List.range ops.size).countP (fun i => !S i) = 0 := by omega
      have := List.countP_eq_zero.1 h0 i (List.mem_range.2 hi)
      simpa using this
    · simp only [Region.linearise.go, List.reverse_nil]
      exact .one stepR_region_end
  | succ fuel ihf =>
    intro t listed S β w κ a I hsz hl hcnt
    have hgo : Region.linearise.go .any ops (fuel + 1) t listed [] = (match (Region.ready .any ops listed)[t % (Region.ready .any ops listed).length]? with
      | some i => Region.linearise.go .any ops fuel (t / (Region.ready .any ops listed).length) (listed.setIfInBounds i true) [i]
      | none => [].reverse) := rfl
    rw [hgo]
    have hdn := s.dr
    have hrd : ∀ i, i ∈ Region.ready .any ops listed ↔ (i < ops.size ∧ S i = false ∧ ∃ o, ops[i]? = some o ∧ ∀ e ∈ edges o, listed.getD e false = true) := fun i => by
      unfold Region.ready
      rw [List.mem_filter, List.mem_range, Bool.and_eq_true]
      constructor
      · rintro ⟨h1, h3, h4⟩
        have ho : ops[i]? = some ops[i] := by simp [h1]
        rw [ho] at h4
        refine ⟨h1, by rw [← hl i h1]; simpa using h3, ops[i], ho, edges_all (by simpa using h4)⟩
      · rintro ⟨h1, h3, o, h4, h5⟩
        refine ⟨h1, by rw [hl i h1, h3]; rfl, ?_⟩
        rw [h4]
        simpa using all_edges h5
    cases hi : (Region.ready .any ops listed)[t % (Region.ready .any ops listed).length]? with
    | none =>
      have hnil : Region.ready .any ops listed = [] := by
        cases hr : Region.ready .any ops listed with
        | nil => rfl
        | cons x xs =>
          rw [hr] at hi
          have hlt : t % (x :: xs).length < (x :: xs).length := Nat.mod_lt _ (by simp)
          rw [List.getElem?_eq_none_iff] at hi
          omega
      simp only [List.reverse_nil]
      refine ⟨β, w, κ, a, S, Fw.refl β w κ, I, fun i hi => ?_, .one stepR_region_end⟩
      cases hs : S i with
      | true => rfl
      | false =>
        exfalso
        obtain ⟨j, j1, j2, j3⟩ := least_not hi hs
        have ho : ops[j]? = some ops[j] := by simp [j1]
        have : j ∈ Region.ready .any ops listed := (hrd j).2 ⟨j1, j2, ops[j], ho, fun e he => by
          have := (hdn.edge j ops[j] (by simpa using ho) e he).1
          rw [getD_tf (by rw [hsz]; omega), hl e (by omega)]
          exact j3 e this⟩
        rw [hnil] at this; cases this
    | some j =>
      simp only
      rw [linearise_go_acc, List.reverse_singleton, List.singleton_append]
      obtain ⟨j1, j2, o, j3, j4⟩ := (hrd j).1 (List.mem_of_getElem? hi)
      have jl : ops.toList[j]? = some o := by simpa using j3
      have hb : ∀ i, bf b j i → S i = true := fun i hbf => by
        obtain ⟨e, he, h5⟩ := hdn.bef j o jl i hbf
        have hlt := (hdn.edge j o jl e he).1
        have hse : S e = true := by
          rw [← hl e (by omega), ← getD_tf (by rw [hsz]; omega)]
          exact j4 e he
        rcases h5 with rfl | h5
        · exact hse
        · exact I.down e i (by simp; omega) hse h5
      obtain ⟨β1, w1, κ1, a1, f1, I1, s1⟩ := sim_step hE hC hR hX s I j1 j2 hb (Region.linearise.go .any ops fuel (t / (Region.ready .any ops listed).length) (listed.setIfInBounds j true) []) k
      obtain ⟨β2, w2, κ2, a2, S2, f2, I2, q, s2⟩ := ihf (t / (Region.ready .any ops listed).length) (listed.setIfInBounds j true) (addS S j) β1 w1 κ1 a1 I1 (by simp [hsz]) (fun i hi => by
        by_cases e : i = j
        · subst e; rw [addS_self]; simp [hsz, hi]
        · rw [addS_ne S e, ← hl i hi]; simp [Array.getElem?_setIfInBounds_ne (fun h => e h.symm)]) (by have := unl_lt j1 j2; omega)
      exact ⟨β2, w2, κ2, a2, S2, f1.trans f2, I2, q, s1.trans s2⟩
end

theorem ddraw_two {D : Env} {ih : Ih} : ∀ (l : List (DOper × Draw)) (fr : Fr) (h : H) (hs : List H) (ss : List Seen), ddraw D ih l fr h hs ss = .fail ∨ ∃ fr2 h2, ddraw D ih l fr h hs ss = .nrm fr2 h2 := by
  intro l
  induction l with
  | nil =>
    intro fr h hs ss
    show (bif ss.all (seenOk hs) then R.nrm fr h else .fail) = .fail ∨ ∃ fr2 h2, (bif ss.all (seenOk hs) then R.nrm fr h else .fail) = .nrm fr2 h2
    cases ss.all (seenOk hs) with
    | true => exact .inr ⟨fr, h, rfl⟩
    | false => exact .inl rfl
  | cons od l ih' =>
    intro fr h hs ss
    obtain ⟨o, dr⟩ := od
    have e : ddraw D ih ((o, dr) :: l) fr h hs ss = (bif wanted o.guard fr.ev then ddrawK o dr (ddraw D ih l) fr h hs ss (dstep D ih o.op fr.ev fr h)
      else bif Nat.beq o.op.sort 3 then ddraw D ih l (fr.put o.dst .undef) h (h :: hs) ss else ddraw D ih l (fr.put o.dst .undef) h hs ss) := rfl
    rw [e]
    cases wanted o.guard fr.ev with
    | false =>
      simp only [cond_false]
      cases Nat.beq o.op.sort 3 with
      | true => exact ih' _ _ _ _
      | false => exact ih' _ _ _ _
    | true =>
      simp only [cond_true]
      unfold ddrawK
      split
      · split
        · exact ih' _ _ _ _
        · exact ih' _ _ _ _
        · split
          · cases Nat.beq hs.length (Nat.succ dr.lo) with
            | true => exact ih' _ _ _ _
            | false => exact .inl rfl
          · exact .inl rfl
        · exact ih' _ _ _ _
      · exact .inl rfl

section
variable {E : Ti} {P : Program} {b0 : Nat} {D : Env}
/-- regions that draw are sound -/
theorem draw_sound (hE : E.Ok P) (hm : P.follows .mixedOrders = true) (hX : ∀ G, ExtS E P ⟨b0, G⟩ D) : DrawS E P b0 D := by
  intro ih hC hR G ops dl id m fr fb a k β w κ h hc hS
  show CodeR E P ⟨b0, G⟩ β w κ m fr fb k _ (ddraw D ih dl fr h [h] [])
  rcases ddraw_two (D := D) (ih := ih) dl fr h [h] [] with hd | ⟨fr2, h2, hd⟩
  · rw [hd]; trivial
  rw [hd]
  obtain ⟨ds, b, pr, hs2, hF, cF, s⟩ := sim_of_run hc hd
  have ht := s.tr
  let S0 : Nat → Bool := fun _ => false
  have hc0 : cntS ds S0 = 0 := by
    unfold cntS; rw [List.countP_eq_zero]; intro i _; simp [S0]
  have hcore : cF 0 = fr.core := ht.core0
  have hseg : Seg h (hF 0) := ht.seg
  have hrm : ∀ x ∈ pr, x.2 ∈ pr.map (·.2) := fun x hx => List.mem_map_of_mem hx
  have hr0 := hS.hr.drew
  have rpl0 : rplS S0 fr.tm pr = fr.tm := by
    have : ∀ (l : List (Nat × Rc)) (tm : T DV), rplS S0 tm l = tm := by
      intro l
      induction l with
      | nil => intro tm; rfl
      | cons x l ihl => intro tm; simp only [rplS]; exact ihl tm
    exact this _ _
  have I0 : Inv E P b0 G ops.toList fr.n m ds b pr fr hF cF fb S0 β w.drew κ a := by
    have fst : ∀ x ∈ pr, x.2.mk2 → x.2.c ≤ 0 → h.nx ≤ x.2.h.nx ∧ x.2.h.nx < (hF 0).nx := fun x hx hm hc => by
      have h0 : x.2.c = 0 := by omega
      have := ht.fst x.2 (hrm x hx) hm h0
      rw [h0] at this; exact this
    refine ⟨?_, ?_, ?_, ?_, hS.kd, ?_, hS.ff.ro, fun j i _ h => (by simp [S0] at h), ?_, ?_⟩
    · rw [hc0]
      refine hr0.ahead hseg.get hseg.nx fun q hq => ?_
      have hn := hseg.nx
      rcases hq with hq | ⟨x, q1, q2, q3, q4, q5⟩
      · have := (hr0.ghost q hq).2
        exact ⟨.inl hq, by omega⟩
      · have := fst x q1 q3 q4
        exact ⟨.inr (by omega), by omega⟩
    · rw [rpl0]; exact hS.ff.tm
    · rw [hc0, hcore]; exact hS.ff.df
    · rw [hc0, hcore]; exact hS.up
    · rw [hc0, hcore]; exact ⟨rfl, rfl, rfl⟩
    · rw [hc0]
      intro x hx y hy _ _ m1 m2 c1 c2 he
      by_cases e : x.1 = y.1
      · exact e
      · have hne : x ≠ y := fun h => e (by rw [h])
        have := pairwise_sym (R := fun x y : Nat × Rc => x.2.mk2 → y.2.mk2 → x.2.c = y.2.c → x.2.h.nx ≠ y.2.h.nx) (fun x y h a1 a2 a3 a4 => h a2 a1 a3.symm a4.symm) (List.pairwise_map.1 ht.dis) x hx y hy hne m1 m2 (by omega)
        exact absurd he this
    · rw [hc0]
      intro x hx _ m1 c1 hG
      have := fst x hx m1 c1
      have := (hr0.ghost _ hG).2
      omega
  have hsched : Region.schedule (P.follows .mixedOrders) ops (w.tape w.drawn (.order fb.fn id)) = Region.linearise.go .any ops ops.size (w.tape w.drawn (.order fb.fn id)) (Array.replicate ops.size false) [] := by
    simp only [Region.schedule, hm, Bool.true_or, if_true]; rfl
  obtain ⟨β', w', κ', a', S', f1, I1, hall, hst⟩ := sim_go hE hC hR hX s k ops.size (w.tape w.drawn (.order fb.fn id)) (Array.replicate ops.size false) S0 β w.drew κ a I0 (by simp) (fun i hi => by simp [S0, hi])
    (by have := List.countP_le_length (p := fun i => !S0 i) (l := List.range ops.size); simpa using this)
  have hlt : ∀ x ∈ pr, x.1 < ops.size := fun x hx => by
    have := (List.getElem?_eq_some_iff.1 (s.rec_ x hx).1).1
    rw [s.dr.len] at this; simpa using this
  have hc1 : cntS ds S' = hs2.length - 1 := by
    rw [s.hlen]
    unfold cntS
    rw [Nat.add_sub_cancel, List.countP_eq_length]
    intro i hi
    have := (List.mem_filter.1 hi).1
    rw [List.mem_range, s.dr.len] at this
    exact hall i (by simpa using this)
  have hr1 := I1.hr
  rw [hc1, ← ht.end_] at hr1
  have hr2 : HR E P ⟨b0, G⟩ β' h2 w' := hr1.ahead (fun _ _ => rfl) (Nat.le_refl _) fun q hq => ⟨.inl (.inl hq), (hr1.ghost q (.inl hq)).2⟩
  have hcf : cF (cntS ds S') = fr2.core := by rw [hc1]; exact ht.core2.symm
  obtain ⟨i1, i2, i3⟩ := I1.same
  have htm : TmR β' fr.n m fr2.tm a'.tmps := by
    refine ⟨I1.tm.size, fun t hmt => ?_⟩
    have := I1.tm.get t hmt
    rw [s.tm2, ← rplS_same pr fr.tm fr.tm rfl (S := S') (S' := fun _ => true) fun x hx _ => hall _ (hlt x hx)]
    exact this
  rw [hcf] at i1 i2 i3
  have i1 : fr2.ro = fr.ro := i1
  have i2 : fr2.fn = fr.fn := i2
  have i3 : fr2.n = fr.n := i3
  have hdf := I1.df
  have hup := I1.up
  rw [hcf] at hdf hup
  refine ⟨β', w', κ', a', ⟨f1.le, ((Below.refl b0 w).drew).trans f1.bl, f1.up⟩, ⟨hr2, ⟨by rw [i2, i3]; exact hS.ff.fn, by rw [i2]; exact hS.ff.bfn, by rw [i3]; exact htm, hdf, by rw [i1]; exact I1.rr⟩, hup, by rw [f1.up.kind]; exact hS.kd, i2, i3, i1⟩, ?_⟩
  refine .head stepR_region_draw ?_
  rw [hsched]
  exact hst
end
end Go.Dm

namespace Go.Dm
open Go.RowKit (Below)

section
variable {E : Ti} {P : Program} {B : Nat} {D : Env}
theorem dex_all (hE : E.Ok P) (hm : P.follows .mixedOrders = true) (hfn : ∀ f F, D.fn f = some F → FnOk E P f F) (hX : ∀ G, ExtS E P ⟨B, G⟩ D) (n : Nat) (G : Nat → Prop) : AllS E P ⟨B, G⟩ (dex D n) :=
  dex_sound hE (fun G => ⟨hfn, hX G⟩) (draw_sound hE hm hX) n G
/-- what a call comes to there, it comes to here -/
theorem dex_calls (hE : E.Ok P) (hm : P.follows .mixedOrders = true) (hfn : ∀ f F, D.fn f = some F → FnOk E P f F) (hX : ∀ G, ExtS E P ⟨B, G⟩ D) {n f : Nat} {args : List DV} {fr : Fr} {h h' : H} {v : DV} {rc : Option DV}
    (hrun : dex D n (.call f args) fr h = .fin (.ret v) rc h') (hrc : fr.rc = none) {β : Bt} {w : World} {args' : List Value} (hr : HR E P ⟨B, fun _ => False⟩ β h w) (ha : VRs β args args') :
    Calls P f args'.toArray w fun e w' => ∃ β' v', e = .returned v' ∧ VR β' v v' ∧ β.le β' ∧ HR E P ⟨B, fun _ => False⟩ β' h' w' ∧ Below B w w' := by
  intro cs
  obtain ⟨-, β', w', κ', frX, f1, f2, f3, f4, f5, f6⟩ := (dex_all hE hm hfn hX n _).call f args fr h (.ret v) rc h' hrun β w (.normal cs) args' hr ha hrc
  obtain rfl := f1.up.normal
  obtain ⟨h1, h2, h3, fn, v', h4, h5, h6⟩ := f5
  exact ⟨.returned v', w', frX, ⟨β', v', rfl, h6, f1.le, f2, f1.bl⟩, f4, f6, h1, h2, h3, fn, h4, h5⟩
end
end Go.Dm
