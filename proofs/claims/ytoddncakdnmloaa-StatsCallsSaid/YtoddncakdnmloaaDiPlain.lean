/- The plain law: what the reader makes of events is what the document says. -/
import Derived.Test.YtoddncakdnmloaaDiRefSp
namespace Go.Proofs.Ytoddncakdnmloaa.diary
open Go Go.Vx

theorem ownTo_mem {es : List Ev} {w : Int} {n i : Nat} : i ∈ ownTo es w n ↔ i < n ∧ (ev es i).who = w := by
  unfold ownTo; rw [List.mem_filter, List.mem_range]; simp
theorem ownTo_prefix {es : List Ev} {w : Int} {n m : Nat} (h : n ≤ m) : ∃ r, ownTo es w m = ownTo es w n ++ r := by
  induction m with
  | zero => obtain rfl : n = 0 := by omega
            exact ⟨[], by simp⟩
  | succ m ih =>
    rcases Nat.lt_or_ge m n with hm | hm
    · obtain rfl : n = m + 1 := by omega
      exact ⟨[], by simp⟩
    · obtain ⟨r, hr⟩ := ih hm
      exact ⟨r ++ if (ev es m).who = w then [m] else [], by rw [ownTo_succ, hr, List.append_assoc]⟩
theorem evAt_congr {es : List Ev} {a b : List Nat} {k : Nat} (h1 : a.getD k 0 = b.getD k 0) (h2 : a.getD (k - 1) 0 = b.getD (k - 1) 0) : EvAt es a k ↔ EvAt es b k := by
  unfold EvAt; rw [h1, h2]
theorem evAt_append {es : List Ev} {a r : List Nat} {k : Nat} (h : k < a.length) : EvAt es (a ++ r) k ↔ EvAt es a k := by
  refine evAt_congr ?_ ?_ <;> rw [List.getD_eq_getElem?_getD, List.getD_eq_getElem?_getD, List.getElem?_append_left (by omega)]
/-- the spans, as far as the first n events tell -/
def refSpN (es : List Ev) (n : Nat) : Nat → List Sp
  | 0 => []
  | i + 1 => if (ev es i).ends then refSpN es n i else refSpN es n i ++ [spanTo es i (n - (i + 1))]
theorem refSpN_all {es : List Ev} {i : Nat} : refSpN es es.length i = refSp es i := by
  induction i with
  | zero => rfl
  | succ i ih => unfold refSpN refSp; rw [ih]
theorem refSpN_succ {es : List Ev} {n : Nat} : ∀ {i : Nat}, i ≤ n → refSpN es (n + 1) i = (refSpN es n i).map fun s => updS es s n
  | 0, _ => rfl
  | i + 1, h => by
    unfold refSpN
    rw [refSpN_succ (by omega)]
    split
    · rfl
    · rw [List.map_append, List.map_singleton, show n + 1 - (i + 1) = (n - (i + 1)) + 1 by omega]
      show _ ++ [updS es _ _] = _
      rw [show i + 1 + (n - (i + 1)) = n by omega]
structure Inv (es : List Ev) (n : Nat) (st : St) : Prop where
  step : ∀ j, n = j + 1 → st.step = (ev es j).step
  step0 : n = 0 → st.step = 0
  nthl : st.nth.length = 16
  opl : st.op.length = 16
  nth : ∀ w : Nat, w < 16 → st.nth.getD w 0 = ((ownTo es w n).length / 2 : Nat)
  ok : ∀ i, i < n → StepAt es i
  ev : ∀ w : Nat, w < 16 → ∀ k, k < (ownTo es w n).length → EvAt es (ownTo es w n) k
  opn : ∀ w : Nat, w < 16 → (ownTo es w n).length % 2 = 0 → st.op.getD w 0 = -1
  opk : ∀ w : Nat, w < 16 → (ownTo es w n).length % 2 = 1 → ∃ (k : Nat) (s : Sp), st.op.getD w 0 = (k : Int) ∧ st.spans[k]? = some s ∧ s.who = w ∧ s.nth = ((ownTo es w n).length / 2 : Nat) ∧
    s.kind = (Go.Proofs.Ytoddncakdnmloaa.diary.ev es ((ownTo es w n).getD ((ownTo es w n).length - 1) 0)).kind ∧ s.task = (Go.Proofs.Ytoddncakdnmloaa.diary.ev es ((ownTo es w n).getD ((ownTo es w n).length - 1) 0)).task ∧ s.vs = (Go.Proofs.Ytoddncakdnmloaa.diary.ev es ((ownTo es w n).getD ((ownTo es w n).length - 1) 0)).vs
  lt : ∀ s ∈ st.spans, ∀ w : Nat, w < 16 → s.who = w → s.nth * 2 < ((ownTo es w n).length : Int)
  apart : ∀ (a b : Nat) (x y : Sp), st.spans[a]? = some x → st.spans[b]? = some y → x.who = y.who → x.nth = y.nth → a = b
  who : ∀ s ∈ st.spans, 0 ≤ s.who ∧ s.who ≤ 15
  spans : st.spans = refSpN es n n
theorem inv0 {es : List Ev} : Inv es 0 init := by
  have hr : ∀ (w : Nat) (x : Int), w < 16 → (List.replicate 16 x).getD w 0 = x := fun w x hw => by
    rw [List.getD_eq_getElem?_getD, List.getElem?_replicate, if_pos hw]; rfl
  refine ⟨fun j hj => by omega, fun _ => rfl, rfl, rfl, fun w hw => by show (List.replicate 16 (0 : Int)).getD w 0 = _; rw [hr w 0 hw]; simp [ownTo], fun i hi => by omega, fun w _ k hk => by simp [ownTo] at hk, fun w hw _ => hr w (-1) hw, fun w hw h => by simp [ownTo] at h, fun s hs => by simp [init] at hs, fun a b x y hx => by simp [init] at hx, fun s hs => by simp [init] at hs, rfl⟩
theorem own_last {es : List Ev} {w : Int} {n : Nat} (h : (ev es n).who = w) : ownTo es w (n + 1) = ownTo es w n ++ [n] := by rw [ownTo_succ, if_pos h]
theorem own_same {es : List Ev} {w : Int} {n : Nat} (h : (ev es n).who ≠ w) : ownTo es w (n + 1) = ownTo es w n := by rw [ownTo_succ, if_neg h, List.append_nil]
/-- the event that comes, as the document looks at it -/
def Next (es : List Ev) (n w : Nat) : Prop := EvAt es (ownTo es w n ++ [n]) (ownTo es w n).length
theorem next_iff {es : List Ev} {n w : Nat} : Next es n w ↔ (ev es n).nth = ((ownTo es w n).length / 2 : Nat) ∧ ((ev es n).ends = decide ((ownTo es w n).length % 2 = 1)) ∧
    ((ev es n).ends = false → (ev es n).code = 0 ∧ (ev es n).v = 0 ∧ (ev es n).ls = []) ∧
    ((ev es n).ends = true → (ev es n).kind = (ev es ((ownTo es w n).getD ((ownTo es w n).length - 1) 0)).kind ∧ (ev es n).task = (ev es ((ownTo es w n).getD ((ownTo es w n).length - 1) 0)).task ∧ (ev es n).vs = (ev es ((ownTo es w n).getD ((ownTo es w n).length - 1) 0)).vs) := by
  unfold Next EvAt
  have e1 : (ownTo es w n ++ [n]).getD (ownTo es w n).length 0 = n := by
    rw [List.getD_eq_getElem?_getD, List.getElem?_append_right (Nat.le_refl _), Nat.sub_self]; rfl
  rw [e1]
  have e2 : (ownTo es w n).length % 2 = 1 → (ownTo es w n ++ [n]).getD ((ownTo es w n).length - 1) 0 = (ownTo es w n).getD ((ownTo es w n).length - 1) 0 := fun h => by
    rw [List.getD_eq_getElem?_getD, List.getD_eq_getElem?_getD, List.getElem?_append_left (by omega)]
  constructor
  · rintro ⟨h1, h2, h3, h4⟩
    refine ⟨h1, h2, h3, fun h => ?_⟩
    have := h4 h
    rwa [e2 (by rw [h] at h2; simpa using h2.symm)] at this
  · rintro ⟨h1, h2, h3, h4⟩
    refine ⟨h1, h2, h3, fun h => ?_⟩
    have := h4 h
    rwa [← e2 (by rw [h] at h2; simpa using h2.symm)] at this
theorem right_next {es : List Ev} {n w : Nat} (h : RightP es) (hn : n < es.length) (hw : (ev es n).who = w) (h16 : w < 16) : Next es n w := by
  obtain ⟨r, hr⟩ := ownTo_prefix (es := es) (w := w) (n := n + 1) (m := es.length) hn
  have hk : (ownTo es w n).length < (ownL es w).length := by
    show _ < (ownTo es w es.length).length
    rw [hr, own_last hw]; simp
  have := h.2 w h16 _ hk
  unfold Next
  rw [show ownL es w = (ownTo es w n ++ [n]) ++ r by rw [← own_last hw]; exact hr] at this
  exact (evAt_append (by simp)).1 this
theorem step_ok {es : List Ev} {n : Nat} {st : St} (h : Inv es n st) : StepAt es n ↔ ¬ (ev es n).step < st.step ∧ ¬ (ev es n).who < 0 ∧ ¬ (ev es n).who ≥ 16 := by
  unfold StepAt
  cases n with
  | zero =>
    rw [h.step0 rfl]
    constructor
    · rintro ⟨h1, h2, h3, h4⟩; exact ⟨by omega, by omega, by omega⟩
    · rintro ⟨h1, h2, h3⟩; exact ⟨by omega, fun j hj => by omega, by omega, by omega⟩
  | succ n =>
    have := (h.ok n (by omega)).1
    rw [h.step n rfl]
    constructor
    · rintro ⟨h1, h2, h3, h4⟩; have := h2 n rfl; exact ⟨by omega, by omega, by omega⟩
    · rintro ⟨h1, h2, h3⟩; exact ⟨by omega, fun j hj => by obtain rfl : n = j := (by omega); omega, by omega, by omega⟩
/-- An event that may not stand there. -/
theorem take_none {es : List Ev} {n : Nat} {st : St} (h : Inv es n st) (hn : n < es.length) (ht : takeP n st (ev es n) = none) : ¬ RightP es := by
  intro hr
  have hs := (step_ok h).1 (hr.1 n hn)
  obtain ⟨w, hw⟩ : ∃ w : Nat, (ev es n).who = w := ⟨(ev es n).who.toNat, by omega⟩
  have hwt : (ev es n).who.toNat = w := by omega
  have h16 : w < 16 := by omega
  obtain ⟨n1, n2, n3, n4⟩ := next_iff.1 (right_next hr hn hw h16)
  unfold takeP at ht
  rw [hwt, if_neg (by rw [h.nth w h16]; simp only [not_or]; exact ⟨hs.1, hs.2.1, hs.2.2, fun hne => hne n1⟩)] at ht
  cases hends : (ev es n).ends with
  | true =>
    rw [hends] at n2 n4
    have hodd : (ownTo es w n).length % 2 = 1 := by simpa using n2.symm
    obtain ⟨k, s, k1, k2, k3, k4, k5, k6, k7⟩ := h.opk w h16 hodd
    obtain ⟨m1, m2, m3⟩ := n4 rfl
    rw [hends, if_pos rfl, k1, if_neg (by omega), Int.toNat_natCast, k2] at ht
    simp only at ht
    rw [if_pos ⟨by rw [k5, m1], by rw [k6, m2], by rw [k7, m3]⟩] at ht
    cases ht
  | false =>
    rw [hends] at n2 n3
    have hev : (ownTo es w n).length % 2 = 0 := by
      have : ¬ (ownTo es w n).length % 2 = 1 := by simpa using n2.symm
      omega
    rw [hends] at ht
    simp only [Bool.false_eq_true, if_false] at ht
    rw [h.opn w h16 hev, if_neg (by rw [not_or]; exact ⟨by omega, fun h => h (n3 rfl)⟩)] at ht
    cases ht
theorem getD_set {l : List Int} {i j : Nat} {x : Int} (h : i < l.length) : (l.set i x).getD j 0 = if i = j then x else l.getD j 0 := by
  rw [List.getD_eq_getElem?_getD, List.getD_eq_getElem?_getD, List.getElem?_set]
  split
  · first | rfl | (rw [if_pos h]; rfl)
  · rfl
theorem updS_who {es : List Ev} {s : Sp} {k : Nat} : (updS es s k).who = s.who ∧ (updS es s k).nth = s.nth ∧ (updS es s k).kind = s.kind ∧ (updS es s k).task = s.task ∧ (updS es s k).vs = s.vs := by
  unfold updS; split <;> simp
/-- An event that may stand there. -/
theorem take_some {es : List Ev} {n : Nat} {st st' : St} (h : Inv es n st) (ht : takeP n st (ev es n) = some st') (hn : n < 100000) : Inv es (n + 1) st' := by
  have hcond : ¬ ((ev es n).step < st.step ∨ (ev es n).who < 0 ∨ (ev es n).who ≥ 16 ∨ (ev es n).nth ≠ st.nth.getD (ev es n).who.toNat 0) := fun hc => by
    unfold takeP at ht; rw [if_pos hc] at ht; cases ht
  simp only [not_or] at hcond
  obtain ⟨w, hw⟩ : ∃ w : Nat, (ev es n).who = w := ⟨(ev es n).who.toNat, by omega⟩
  have hwt : (ev es n).who.toNat = w := by omega
  have h16 : w < 16 := by omega
  have hstep := (step_ok h).2 ⟨hcond.1, hcond.2.1, hcond.2.2.1⟩
  have hnth : (ev es n).nth = ((ownTo es w n).length / 2 : Nat) := by
    have := hcond.2.2.2
    rw [hwt, h.nth w h16] at this
    exact Decidable.not_not.1 this
  have hlast := own_last (es := es) (n := n) hw
  have hlen : (ownTo es w (n + 1)).length = (ownTo es w n).length + 1 := by rw [hlast]; simp
  have hother : ∀ w' : Nat, w' ≠ w → ownTo es w' (n + 1) = ownTo es w' n := fun w' hne => own_same (by rw [hw]; omega)
  have hnl := ownTo_len (es := es) (w := w) (n := n)
  have hgetl : (ownTo es w (n + 1)).getD ((ownTo es w (n + 1)).length - 1) 0 = n := by
    rw [hlen, hlast, Nat.add_sub_cancel, List.getD_eq_getElem?_getD, List.getElem?_append_right (Nat.le_refl _), Nat.sub_self]; rfl
  have hok : ∀ i, i < n + 1 → StepAt es i := fun i hi => by
    rcases Nat.lt_or_ge i n with hl | hl
    · exact h.ok i hl
    · rw [show i = n by omega]; exact hstep
  have hev : Next es n w → ∀ w' : Nat, w' < 16 → ∀ k, k < (ownTo es w' (n + 1)).length → EvAt es (ownTo es w' (n + 1)) k := fun hnx w' hw' k hk => by
    by_cases hww : w' = w
    · subst hww
      rw [hlast]
      rcases Nat.lt_or_ge k (ownTo es w' n).length with hl | hl
      · exact (evAt_append hl).2 (h.ev w' hw' k hl)
      · rw [show k = (ownTo es w' n).length by omega]; exact hnx
    · rw [hother w' hww] at hk ⊢
      exact h.ev w' hw' k hk
  unfold takeP at ht
  rw [hwt, if_neg (by rw [h.nth w h16]; simp only [not_or]; exact ⟨hcond.1, hcond.2.1, hcond.2.2.1, fun hne => hne hnth⟩)] at ht
  have hw15 : 0 ≤ (ev es n).who ∧ (ev es n).who ≤ 15 := by omega
  cases hends : (ev es n).ends with
  | false =>
    rw [hends] at ht
    simp only [Bool.false_eq_true, if_false] at ht
    split at ht
    · cases ht
    rename_i hz
    rw [not_or, Decidable.not_not] at hz
    obtain ⟨hz1, hz2⟩ := hz
    have heven : (ownTo es w n).length % 2 = 0 := by
      rcases Nat.mod_two_eq_zero_or_one (ownTo es w n).length with h0 | h1
      · exact h0
      · obtain ⟨k, s, k1, _⟩ := h.opk w h16 h1
        rw [k1] at hz1; omega
    have hnx : Next es n w := next_iff.2 ⟨hnth, by rw [hends]; simp; omega, fun _ => hz2, fun he => by rw [hends] at he; cases he⟩
    have hnew : refSpN es (n + 1) (n + 1) = st.spans ++ [beg es n] := by
      rw [refSpN, hends]
      simp only [Bool.false_eq_true, if_false, Nat.sub_self]
      rw [refSpN_succ (Nat.le_refl n), ← h.spans]
      congr 1
      conv => rhs; rw [← List.map_id st.spans]
      apply List.map_congr_left
      intro s _
      unfold updS
      rw [if_neg (by rw [hends]; simp)]; rfl
    have hbeg : (⟨(ev es n).who, (ev es n).nth, (n : Int), -1, (ev es n).kind, (ev es n).task, (ev es n).vs, 0, 0, []⟩ : Sp) = beg es n := rfl
    rw [hbeg] at ht
    cases ht
    refine ⟨fun j hj => by obtain rfl : n = j := (by omega); rfl, fun h0 => by omega, h.nthl, by rw [List.length_set]; exact h.opl, fun w' hw' => ?_, hok, hev hnx, fun w' hw' he => ?_, fun w' hw' ho => ?_, fun s hs w' hw' hsw => ?_, fun a b x y hx hy h1 h2 => ?_, fun s hs => ?_, hnew.symm⟩
    · show st.nth.getD w' 0 = _
      rw [h.nth w' hw']
      by_cases hww : w' = w
      · subst hww; rw [hlen, show ((ownTo es w' n).length + 1) / 2 = (ownTo es w' n).length / 2 by omega]
      · rw [hother w' hww]
    · show (st.op.set w _).getD w' 0 = _
      rw [getD_set (by rw [h.opl]; exact h16)]
      by_cases hww : w' = w
      · subst hww; rw [hlen] at he; omega
      · rw [if_neg (fun h => hww h.symm)]; rw [hother w' hww] at he; exact h.opn w' hw' he
    · show ∃ (k : Nat) (s : Sp), (st.op.set w _).getD w' 0 = _ ∧ (st.spans ++ [beg es n])[k]? = some s ∧ _
      rw [getD_set (by rw [h.opl]; exact h16)]
      by_cases hww : w' = w
      · subst hww
        refine ⟨st.spans.length, beg es n, by rw [if_pos rfl], by simp, hw, ?_, ?_⟩
        · rw [hlen, show ((ownTo es w' n).length + 1) / 2 = (ownTo es w' n).length / 2 by omega]; exact hnth
        · rw [hgetl]; exact ⟨rfl, rfl, rfl⟩
      · rw [if_neg (fun h => hww h.symm)]
        rw [hother w' hww] at ho ⊢
        obtain ⟨k, s, k1, k2, k3⟩ := h.opk w' hw' ho
        exact ⟨k, s, k1, by rw [List.getElem?_append_left (List.getElem?_eq_some_iff.1 k2).1]; exact k2, k3⟩
    · rcases List.mem_append.1 hs with hs | hs
      · have := h.lt s hs w' hw' hsw
        by_cases hww : w' = w
        · subst hww; rw [hlen]; omega
        · rw [hother w' hww]; exact this
      · simp only [List.mem_singleton] at hs
        subst hs
        have hww : w' = w := by
          have : ((ev es n).who : Int) = w' := hsw
          omega
        subst hww
        rw [hlen]
        show (ev es n).nth * 2 < _
        rw [hnth]; omega
    · have hnewlt : ∀ (a : Nat) (x : Sp), st.spans[a]? = some x → x.who = (ev es n).who → x.nth ≠ (ev es n).nth := fun a x hx hxw hxn => by
        have := h.lt x (List.mem_of_getElem? hx) w h16 (by rw [hxw, hw])
        rw [hxn, hnth] at this; omega
      rcases Nat.lt_or_ge a st.spans.length with ha | ha <;> rcases Nat.lt_or_ge b st.spans.length with hb | hb
      · rw [List.getElem?_append_left ha] at hx
        rw [List.getElem?_append_left hb] at hy
        exact h.apart a b x y hx hy h1 h2
      · rw [List.getElem?_append_left ha] at hx
        rw [List.getElem?_append_right hb] at hy
        have hy' := List.mem_of_getElem? hy
        simp only [List.mem_singleton] at hy'
        subst hy'
        exact absurd h2 (hnewlt a x hx h1)
      · rw [List.getElem?_append_right ha] at hx
        rw [List.getElem?_append_left hb] at hy
        have hx' := List.mem_of_getElem? hx
        simp only [List.mem_singleton] at hx'
        subst hx'
        exact absurd h2.symm (hnewlt b y hy h1.symm)
      · have h3 := (List.getElem?_eq_some_iff.1 hx).1
        have h4 := (List.getElem?_eq_some_iff.1 hy).1
        simp at h3 h4; omega
    · rcases List.mem_append.1 hs with hs | hs
      · exact h.who s hs
      · simp only [List.mem_singleton] at hs
        subst hs; exact hw15
  | true =>
    rw [hends] at ht
    simp only [if_true] at ht
    split at ht
    · cases ht
    rename_i hk0
    have hodd : (ownTo es w n).length % 2 = 1 := by
      rcases Nat.mod_two_eq_zero_or_one (ownTo es w n).length with h0 | h1
      · rw [h.opn w h16 h0] at hk0; omega
      · exact h1
    obtain ⟨k, s, k1, k2, k3, k4, k5, k6, k7⟩ := h.opk w h16 hodd
    rw [k1, Int.toNat_natCast, k2] at ht
    simp only at ht
    split at ht
    rotate_left
    · cases ht
    rename_i hz
    obtain ⟨hz1, hz2, hz3⟩ := hz
    have hnx : Next es n w := next_iff.2 ⟨hnth, by rw [hends]; simp [hodd], (fun he => by rw [hends] at he; cases he), fun _ => ⟨by rw [← hz1, k5], by rw [← hz2, k6], by rw [← hz3, k7]⟩⟩
    have hkl := (List.getElem?_eq_some_iff.1 k2).1
    have hnew : refSpN es (n + 1) (n + 1) = st.spans.set k { s with to := n, code := (ev es n).code, v := (ev es n).v, ls := (ev es n).ls } := by
      rw [refSpN, hends, if_pos rfl, refSpN_succ (Nat.le_refl n), ← h.spans]
      apply List.ext_getElem?
      intro a
      rw [List.getElem?_map, List.getElem?_set]
      split
      · rename_i hak; subst hak
        try rw [if_pos hkl]
        rw [k2, Option.map_some]
        congr 1
        unfold updS
        rw [if_pos ⟨by rw [k3, hw], hends, by rw [k4, hnth]⟩]
      · rename_i hak
        cases hx : st.spans[a]? with
        | none => rfl
        | some x =>
          rw [Option.map_some]
          congr 1
          unfold updS
          rw [if_neg]
          rintro ⟨q1, _, q2⟩
          exact hak (h.apart k a s x k2 hx (by rw [k3, ← q1, hw]) (by rw [k4, ← q2, hnth]))
    cases ht
    have hset : ∀ (a : Nat) (x : Sp), (st.spans.set k { s with to := n, code := (ev es n).code, v := (ev es n).v, ls := (ev es n).ls })[a]? = some x → ∃ x0, st.spans[a]? = some x0 ∧ x.who = x0.who ∧ x.nth = x0.nth ∧ x.kind = x0.kind ∧ x.task = x0.task ∧ x.vs = x0.vs := fun a x hx => by
      rw [List.getElem?_set] at hx
      split at hx
      · rename_i hak; subst hak
        try rw [if_pos hkl] at hx
        cases hx
        exact ⟨s, k2, rfl, rfl, rfl, rfl, rfl⟩
      · exact ⟨x, hx, rfl, rfl, rfl, rfl, rfl⟩
    refine ⟨fun j hj => by obtain rfl : n = j := (by omega); rfl, fun h0 => by omega, by rw [List.length_set]; exact h.nthl, by rw [List.length_set]; exact h.opl, fun w' hw' => ?_, hok, hev hnx, fun w' hw' he => ?_, fun w' hw' ho => ?_, fun x hx w' hw' hsw => ?_, fun a b x y hx hy h1 h2 => ?_, fun x hx => ?_, hnew.symm⟩
    · show (st.nth.set w _).getD w' 0 = _
      rw [getD_set (by rw [h.nthl]; exact h16)]
      by_cases hww : w' = w
      · subst hww
        rw [if_pos rfl, hlen, h.nth w' hw', wrapF_small (by omega) (by omega)]; omega
      · rw [if_neg (fun h => hww h.symm), hother w' hww]; exact h.nth w' hw'
    · show (st.op.set w _).getD w' 0 = _
      rw [getD_set (by rw [h.opl]; exact h16)]
      by_cases hww : w' = w
      · subst hww; rw [if_pos rfl]
      · rw [if_neg (fun h => hww h.symm)]; rw [hother w' hww] at he; exact h.opn w' hw' he
    · show ∃ (k' : Nat) (s' : Sp), (st.op.set w _).getD w' 0 = _ ∧ (st.spans.set k _)[k']? = some s' ∧ _
      rw [getD_set (by rw [h.opl]; exact h16)]
      by_cases hww : w' = w
      · subst hww; rw [hlen] at ho; omega
      · rw [if_neg (fun h => hww h.symm)]
        rw [hother w' hww] at ho ⊢
        obtain ⟨k', s', q1, q2, q3⟩ := h.opk w' hw' ho
        have hne : k ≠ k' := fun he => by
          subst he; rw [k2] at q2; cases q2
          have := q3.1; rw [k3] at this; omega
        exact ⟨k', s', q1, by rw [List.getElem?_set_ne hne]; exact q2, q3⟩
    · obtain ⟨a, ha⟩ := List.mem_iff_getElem?.1 hx
      obtain ⟨x0, q1, q2, q3, _⟩ := hset a x ha
      have := h.lt x0 (List.mem_of_getElem? q1) w' hw' (by rw [← q2]; exact hsw)
      rw [q3]
      by_cases hww : w' = w
      · subst hww; rw [hlen]; omega
      · rw [hother w' hww]; exact this
    · obtain ⟨x0, q1, q2, q3, _⟩ := hset a x hx
      obtain ⟨y0, r1, r2, r3, _⟩ := hset b y hy
      exact h.apart a b x0 y0 q1 r1 (by rw [← q2, ← r2, h1]) (by rw [← q3, ← r3, h2])
    · obtain ⟨a, ha⟩ := List.mem_iff_getElem?.1 hx
      obtain ⟨x0, q1, q2, _⟩ := hset a x ha
      rw [q2]; exact h.who x0 (List.mem_of_getElem? q1)
theorem run_law {es : List Ev} (hl : es.length ≤ 1000) : ∀ (m n : Nat) (st : St), n + m = es.length → Inv es n st →
    match runP n st (es.drop n) with
    | none => ¬ RightP es
    | some st' => RightP es ∧ st'.spans = refSp es es.length
  | 0, n, st, hm, h => by
    rw [List.drop_of_length_le (by omega)]
    have hn : n = es.length := by omega
    subst hn
    exact ⟨⟨h.ok, h.ev⟩, by rw [h.spans, refSpN_all]⟩
  | m + 1, n, st, hm, h => by
    have hn : n < es.length := by omega
    rw [List.drop_eq_getElem_cons hn, ev_at hn]
    simp only [runP]
    cases ht : takeP n st (ev es n) with
    | none => exact take_none h hn ht
    | some st' => exact run_law hl m (n + 1) st' (by omega) (take_some h ht (by omega))
theorem run_spec {es : List Ev} (hl : es.length ≤ 1000) : match runP 0 init es with
    | none => ¬ RightP es
    | some st => RightP es ∧ st.spans = refSp es es.length := run_law hl es.length 0 init (by omega) inv0
end Go.Proofs.Ytoddncakdnmloaa.diary
