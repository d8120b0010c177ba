/- An automaton that comes in: how it is read; where it goes. -/
import Derived.Test.YtbmcloahjiimeaaGreatDoorMuH
set_option linter.all false
namespace Go.Proofs.YtbmcloahjiimeaaGreatDoor.Dm
open Go Go.Dm
noncomputable section

/-! ### Rows of one cell each; also those of which no place is known -/
def rowZ (h : H) (s : DV) : Option (List DV) :=
  match s with
  | .slice none 0 0 _ => some []
  | .sliceZ _ _ _ => some []
  | .slice (some (d, o)) len _ _ => bif Nat.ble (d + 1) h.nx && Nat.ble len 281474976710656 then rdN h d o len else none
  | _ => none
theorem lpart_get {cs' cs : List DV} {o n i : Nat} {v : DV} (hp : lpart cs' o n = some cs) (hv : cs[i]? = some v) : lget cs' (o + i) = some v := by
  obtain ⟨h1, h2⟩ := lpart_some hp
  rw [lget_eq]
  rw [h2, List.getElem?_take, List.getElem?_drop] at hv
  split at hv
  · exact hv
  · cases hv
theorem rowZ_inv {h : H} {s : DV} {cs : List DV} (hr : rowZ h s = some cs) : (∀ hh, lenK .slice s hh = some cs.length) ∧ sam s = true ∧ cs.length ≤ 281474976710656 ∧
    ∀ (i : Nat) v, cs[i]? = some v → ∃ (d o cap : Nat) (op : Bool) (cs' : List DV) (e : Nat) (ro : Bool), s = .slice (some (d, o)) cs.length cap op ∧ d < h.nx ∧ h.get d = some (.cells cs' e ro) ∧ lget cs' (o + i) = some v := by
  unfold rowZ at hr
  split at hr
  · cases hr; exact ⟨fun _ => rfl, rfl, by simp, fun i v hv => by simp at hv⟩
  · cases hr; exact ⟨fun _ => rfl, rfl, by simp, fun i v hv => by simp at hv⟩
  · rename_i d o len cap op
    rw [ble_dec, ble_dec] at hr
    by_cases hd : d + 1 ≤ h.nx ∧ len ≤ 281474976710656
    · simp only [hd.1, hd.2, decide_true, Bool.and_true, cond_true] at hr
      unfold rdN at hr
      split at hr
      · rename_i cs' e ro hg
        obtain ⟨h1, h2⟩ := lpart_some hr
        have hl : cs.length = len := by
          rw [h2, List.length_take, List.length_drop]
          rcases h1 with h1 | h1 <;> omega
        rw [hl]
        exact ⟨fun _ => rfl, rfl, hd.2, fun i v hv => ⟨d, o, cap, op, cs', e, ro, rfl, by omega, hg, lpart_get hr hv⟩⟩
      · cases hr
    · rw [show (decide (d + 1 ≤ h.nx) && decide (len ≤ 281474976710656)) = false by
        rw [Bool.and_eq_false_iff]; simp only [decide_eq_false_iff_not]; omega] at hr
      cases hr
  · cases hr
theorem rowZ_sub {h h2 : H} (hs : Sub h h2) {s : DV} {cs : List DV} (hr : rowZ h s = some cs) : rowZ h2 s = some cs := by
  unfold rowZ at hr ⊢
  split at hr
  · exact hr
  · exact hr
  · rename_i d o len cap op
    rw [ble_dec, ble_dec] at hr ⊢
    by_cases hd : d + 1 ≤ h.nx ∧ len ≤ 281474976710656
    · have hd2 : d + 1 ≤ h2.nx := Nat.le_trans hd.1 hs.nx
      simp only [hd.1, hd.2, decide_true, Bool.and_true, cond_true] at hr
      simp only [hd2, hd.2, decide_true, Bool.and_true, cond_true]
      unfold rdN at hr ⊢
      rw [hs.get d (by omega)]; exact hr
    · rw [show (decide (d + 1 ≤ h.nx) && decide (len ≤ 281474976710656)) = false by
        rw [Bool.and_eq_false_iff]; simp only [decide_eq_false_iff_not]; omega] at hr
      cases hr
  · cases hr

def intDV (n : Int) : DV := .int .i64 n
def setDV (m : Nat) : DV := .int .u64 (m : Int)
def intsOf : List DV → Option (List Int)
  | [] => some []
  | .int .i64 n :: r => (intsOf r).map (n :: ·)
  | _ => none
theorem intsOf_inv : ∀ {cs : List DV} {l : List Int}, intsOf cs = some l → cs = l.map intDV
  | [], l, h => by cases h; rfl
  | v :: cs, l, h => by
    unfold intsOf at h
    split at h
    · cases ‹_ = []›
    · rename_i n r heq
      cases heq
      cases hr : intsOf cs with
      | none => rw [hr] at h; cases h
      | some l' => rw [hr] at h; cases h; rw [intsOf_inv hr]; rfl
    · cases h
theorem intsOf_of : ∀ l : List Int, intsOf (l.map intDV) = some l
  | [] => rfl
  | n :: l => by show (intsOf (l.map intDV)).map _ = _; rw [intsOf_of l]; rfl
def setsOf : List DV → Option (List Nat)
  | [] => some []
  | .int .u64 n :: r => match setN n with
    | some m => (setsOf r).map (m :: ·)
    | none => none
  | _ => none
theorem setsOf_inv : ∀ {cs : List DV} {l : List Nat}, setsOf cs = some l → cs = l.map setDV ∧ ∀ m ∈ l, m < 2 ^ 64
  | [], l, h => by cases h; exact ⟨rfl, by simp⟩
  | v :: cs, l, h => by
    unfold setsOf at h
    split at h
    · cases ‹_ = []›
    · rename_i n r heq
      cases heq
      split at h
      · rename_i m hm
        cases hr : setsOf cs with
        | none => rw [hr] at h; cases h
        | some l' =>
          rw [hr] at h; cases h
          obtain ⟨e1, e2⟩ := setN_inv hm
          obtain ⟨r1, r2⟩ := setsOf_inv hr
          exact ⟨by rw [r1, e1]; rfl, fun k hk => (List.mem_cons.1 hk).elim (fun e => e ▸ e2) (r2 k)⟩
      · cases h
    · cases h
theorem setsOf_of : ∀ {l : List Nat}, (∀ m ∈ l, m < 2 ^ 64) → setsOf (l.map setDV) = some l
  | [], _ => rfl
  | n :: l, h => by
    show (match setN (n : Int) with | some m => (setsOf (l.map setDV)).map (m :: ·) | none => none) = _
    rw [setN_of (h n (by simp))]
    show (setsOf (l.map setDV)).map _ = _
    rw [setsOf_of fun m hm => h m (List.mem_cons_of_mem _ hm)]; rfl
def nextOf (h : H) : List DV → Option (List (List Int))
  | [] => some []
  | s :: r => match (rowZ h s).bind intsOf with
    | some l => (nextOf h r).map (l :: ·)
    | none => none
theorem nextOf_inv {h : H} : ∀ {cs : List DV} {nx : List (List Int)}, nextOf h cs = some nx → cs.length = nx.length ∧ ∀ (i : Nat) row, nx[i]? = some row → ∃ s, cs[i]? = some s ∧ rowZ h s = some (row.map intDV)
  | [], nx, hn => by cases hn; exact ⟨rfl, fun i row hr => by simp at hr⟩
  | s :: cs, nx, hn => by
    unfold nextOf at hn
    split at hn
    · rename_i l hl
      cases hr : nextOf h cs with
      | none => rw [hr] at hn; cases hn
      | some nx' =>
        rw [hr] at hn; cases hn
        obtain ⟨r1, r2⟩ := nextOf_inv hr
        refine ⟨by simp [r1], fun i row hrow => ?_⟩
        cases i with
        | zero =>
          simp at hrow; subst hrow
          obtain ⟨c, c1, c2⟩ := Option.bind_eq_some_iff.1 hl
          exact ⟨s, rfl, by rw [c1, intsOf_inv c2]⟩
        | succ i => exact r2 i row (by simpa using hrow)
    · cases hn
theorem nextOf_sub {h h2 : H} (hs : Sub h h2) : ∀ {cs : List DV} {nx : List (List Int)}, nextOf h cs = some nx → nextOf h2 cs = some nx
  | [], nx, hn => hn
  | s :: cs, nx, hn => by
    unfold nextOf at hn ⊢
    split at hn
    · rename_i l hl
      obtain ⟨c, c1, c2⟩ := Option.bind_eq_some_iff.1 hl
      rw [rowZ_sub hs c1]
      simp only [Option.bind_some, c2]
      cases hr : nextOf h cs with
      | none => rw [hr] at hn; cases hn
      | some nx' => rw [hr] at hn; rw [nextOf_sub hs hr]; exact hn
    · cases hn

/-! ### An automaton -/
structure Dfa where
  cls : List Int
  nxt : List (List Int)
  tags : List Nat
def dfaAt (h : H) (v : DV) : Option Dfa :=
  match v with
  | .agg l => bif Nat.beq l.length 258 then (match intsOf (l.take 256), l[256]?, l[257]? with
    | some c, some n, some t => match (rowZ h n).bind (nextOf h), (rowZ h t).bind setsOf with
      | some nx, some tg => some ⟨c, nx, tg⟩
      | _, _ => none
    | _, _, _ => none) else none
  | _ => none
/-- what is read: its cells; its two rows -/
structure IsDfa (h : H) (D : Dfa) (l : List DV) (n t : DV) (ns : List DV) : Prop where
  len : l.length = 258
  part : lpart l 0 258 = some l
  sam : l.all sam = true
  cls : D.cls.length = 256
  at_ : ∀ b c, D.cls[b]? = some c → lget l b = some (.int .i64 c)
  nxt : lget l 256 = some n
  tag : lget l 257 = some t
  rown : rowZ h n = some ns
  next : nextOf h ns = some D.nxt
  rowt : rowZ h t = some (D.tags.map setDV)
  lt : ∀ m ∈ D.tags, m < 2 ^ 64
theorem dfaAt_inv {h : H} {v : DV} {D : Dfa} (hd : dfaAt h v = some D) : ∃ l n t ns, v = .agg l ∧ IsDfa h D l n t ns := by
  unfold dfaAt at hd
  split at hd
  · rename_i l
    rw [beq_dec] at hd
    by_cases hl : l.length = 258
    · simp only [hl, decide_true, cond_true] at hd
      split at hd
      · rename_i c n t hc hn ht
        split at hd
        · rename_i nx tg hnx htg
          cases hd
          obtain ⟨ns, n1, n2⟩ := Option.bind_eq_some_iff.1 hnx
          obtain ⟨ts, t1, t2⟩ := Option.bind_eq_some_iff.1 htg
          obtain ⟨s1, s2⟩ := setsOf_inv t2
          have hci := intsOf_inv hc
          have hcl : c.length = 256 := by
            have := congrArg List.length hci
            rw [List.length_take, hl, List.length_map] at this
            omega
          have h256 := hn
          have h257 := ht
          refine ⟨l, n, t, ns, rfl, hl, ?_, ?_, hcl, fun b cc hb => ?_, by rw [lget_eq]; exact hn, by rw [lget_eq]; exact ht, n1, n2, by rw [t1, s1], s2⟩
          · rw [← hl]; exact lpart_all l
          · have hsp : l = l.take 256 ++ [n, t] := by
              have h1 : l.drop 256 = [n, t] := by
                apply List.ext_getElem?
                intro i
                rw [List.getElem?_drop]
                match i with
                | 0 => simpa using hn
                | 1 => simpa using ht
                | i + 2 => simp [hl]; omega
              rw [← h1, List.take_append_drop]
            rw [hsp, hci, List.all_append, Bool.and_eq_true]
            refine ⟨?_, ?_⟩
            · rw [List.all_eq_true]
              intro x hx
              obtain ⟨y, -, rfl⟩ := List.mem_map.1 hx
              rfl
            · simp only [List.all_cons, List.all_nil, Bool.and_true, Bool.and_eq_true]
              exact ⟨(rowZ_inv n1).2.1, (rowZ_inv t1).2.1⟩
          · rw [lget_eq]
            have hb2 : b < 256 := by have : b < c.length := (List.getElem?_eq_some_iff.1 hb).1; omega
            have h1 : (l.take 256)[b]? = l[b]? := by rw [List.getElem?_take, if_pos hb2]
            rw [← h1, hci, List.getElem?_map, hb]; rfl
        · cases hd
      · cases hd
    · simp only [hl, decide_false, cond_false] at hd; cases hd
  · cases hd
theorem dfaAt_sub {h h2 : H} (hs : Sub h h2) {v : DV} {D : Dfa} (hd : dfaAt h v = some D) : dfaAt h2 v = some D := by
  unfold dfaAt at hd ⊢
  split at hd
  · rename_i l
    cases hl : Nat.beq l.length 258 with
    | false => rw [hl] at hd; cases hd
    | true =>
      rw [hl] at hd
      simp only [cond_true] at hd ⊢
      split at hd
      · rename_i c n t hc hn ht
        split at hd
        · rename_i nx tg hnx htg
          obtain ⟨ns, n1, n2⟩ := Option.bind_eq_some_iff.1 hnx
          obtain ⟨ts, t1, t2⟩ := Option.bind_eq_some_iff.1 htg
          rw [rowZ_sub hs n1, rowZ_sub hs t1]
          simp only [Option.bind_some, nextOf_sub hs n2, t2]
          exact hd
        · cases hd
      · cases hd
  · cases hd
/-- a state's row, where it lies -/
theorem IsDfa.row {h : H} {D : Dfa} {l : List DV} {n t : DV} {ns : List DV} (I : IsDfa h D l n t ns) {i : Nat} {row : List Int} (hr : D.nxt[i]? = some row) : ∃ (d o cap : Nat) (op : Bool) (cs' : List DV) (e : Nat) (ro : Bool) (s : DV), n = .slice (some (d, o)) D.nxt.length cap op ∧ d < h.nx ∧
    h.get d = some (.cells cs' e ro) ∧ lget cs' (o + i) = some s ∧ rowZ h s = some (row.map intDV) := by
  obtain ⟨h1, h2⟩ := nextOf_inv I.next
  obtain ⟨s, s1, s2⟩ := h2 i row hr
  obtain ⟨-, -, -, hx⟩ := rowZ_inv I.rown
  obtain ⟨d, o, cap, op, cs', e, ro, q1, q2, q3, q4⟩ := hx i s s1
  rw [h1] at q1
  exact ⟨d, o, cap, op, cs', e, ro, s, q1, q2, q3, q4, s2⟩
theorem IsDfa.nlen {h : H} {D : Dfa} {l : List DV} {n t : DV} {ns : List DV} (I : IsDfa h D l n t ns) (hh : H) : lenK .slice n hh = some D.nxt.length := by
  rw [(rowZ_inv I.rown).1 hh, (nextOf_inv I.next).1]
theorem IsDfa.tlen {h : H} {D : Dfa} {l : List DV} {n t : DV} {ns : List DV} (I : IsDfa h D l n t ns) (hh : H) : lenK .slice t hh = some D.tags.length := by
  rw [(rowZ_inv I.rowt).1 hh, List.length_map]
theorem IsDfa.nle {h : H} {D : Dfa} {l : List DV} {n t : DV} {ns : List DV} (I : IsDfa h D l n t ns) : D.nxt.length ≤ 281474976710656 := by
  have := (rowZ_inv I.rown).2.2.1
  rwa [(nextOf_inv I.next).1] at this
theorem IsDfa.tle {h : H} {D : Dfa} {l : List DV} {n t : DV} {ns : List DV} (I : IsDfa h D l n t ns) : D.tags.length ≤ 281474976710656 := by
  have := (rowZ_inv I.rowt).2.2.1
  rwa [List.length_map] at this

/-! ### Where it goes -/
def goF (D : Dfa) (a : Int) (b : Nat) : Int :=
  if a < 0 ∨ (D.nxt.length : Int) ≤ a then -1 else
  let c := (D.cls[b]?).getD 0
  let r := (D.nxt[a.toNat]?).getD []
  if c < 0 ∨ (r.length : Int) ≤ c then -1 else
  let t := (r[c.toNat]?).getD 0
  if t < 0 ∨ (D.nxt.length : Int) ≤ t then -1 else t
def byteN (b : Int) : Option Nat := if 0 ≤ b ∧ b < 256 then some b.toNat else none
theorem byteN_inv {b : Int} {n : Nat} (h : byteN b = some n) : b = (n : Int) ∧ n < 256 := by
  unfold byteN at h; split at h
  · cases h; omega
  · cases h
theorem byteN_of {n : Nat} (h : n < 256) : byteN (n : Int) = some n := by unfold byteN; rw [if_pos (by omega)]; rfl
def g_go : Ext := fun args h => match args with
  | [d, .int .i64 a, .int .u8 b] => match dfaAt h d, byteN b with
    | some D, some b => some (.int .i64 (goF D a b), h)
    | _, _ => none
  | _ => none
theorem g_go_inv {args : List DV} {h h' : H} {v : DV} (hg : g_go args h = some (v, h')) : ∃ d a b D, args = [d, .int .i64 a, .int .u8 ((b : Nat) : Int)] ∧ dfaAt h d = some D ∧ b < 256 ∧ v = .int .i64 (goF D a b) ∧ h' = h := by
  unfold g_go at hg
  split at hg
  · rename_i d a b
    split at hg
    · rename_i D b' hd hb
      cases hg
      obtain ⟨rfl, h2⟩ := byteN_inv hb
      exact ⟨d, a, b', D, rfl, hd, h2, rfl, rfl⟩
    · cases hg
  · cases hg
theorem g_go_run {h : H} {d : DV} {D : Dfa} (hd : dfaAt h d = some D) (a : Int) {b : Nat} (hb : b < 256) : g_go [d, .int .i64 a, .int .u8 (b : Int)] h = some (.int .i64 (goF D a b), h) := by
  unfold g_go
  simp only [hd, byteN_of hb]
end
end Go.Proofs.YtbmcloahjiimeaaGreatDoor.Dm
