/- The plain law of beginnings of a diary. -/
import Derived.Test.YtgmdbnjjflaaiaaDiPlain
import Derived.Test.YtgmdbnjjflaaiaaDiMost
namespace Go.Proofs.Ytgmdbnjjflaaiaa.diary
open Go Go.Vx

structure Gd (s : Sp) : Prop where
  from_ : 0 ≤ s.from_
  to : s.to = -1 ∨ s.from_ ≤ s.to
structure InvD (es : List Ev) (n : Nat) (st : St) : Prop where
  inv : Inv es n st
  opn : ∀ w : Nat, w < 16 → ∀ k : Nat, st.op.getD w 0 = (k : Int) → ∃ s, st.spans[k]? = some s ∧ s.who = w ∧ s.to = -1
  good : ∀ s ∈ st.spans, Gd s ∧ s.from_ < n ∧ s.to < n
/-- the spans of a beginning, and those of all -/
structure CutRel (n : Nat) (cut all : List Sp) : Prop where
  len : cut.length ≤ all.length
  low : ∀ (i : Nat) s, cut[i]? = some s → ∃ s', all[i]? = some s' ∧ s.from_ = s'.from_ ∧ (s.to ≥ 0 → s'.to = s.to) ∧ (s.to < 0 → s'.to < 0 ∨ s'.to ≥ n)
  high : ∀ (i : Nat) s', cut.length ≤ i → all[i]? = some s' → s'.from_ ≥ n
theorem invD0 {es : List Ev} : InvD es 0 init := by
  refine ⟨inv0, fun w hw k hk => ?_, fun s hs => by simp [init] at hs⟩
  have : init.op.getD w 0 = -1 := by
    show (List.replicate 16 (-1 : Int)).getD w 0 = -1
    rw [List.getD_eq_getElem?_getD, List.getElem?_replicate, if_pos hw]; rfl
  rw [this] at hk; omega
/-- what one event does to the spans: one more, or an open one ends -/
theorem take_form {es : List Ev} {n : Nat} {st st' : St} (h : InvD es n st) (ht : takeP n st (ev es n) = some st') :
    ∃ w : Nat, w < 16 ∧ (ev es n).who = w ∧ ((st'.op = st.op.set w st.spans.length ∧ ∃ s : Sp, st'.spans = st.spans ++ [s] ∧ s.who = w ∧ s.from_ = n ∧ s.to = -1) ∨
      ∃ (k : Nat) (s s' : Sp), st.op.getD w 0 = (k : Int) ∧ st.spans[k]? = some s ∧ s.who = w ∧ s.to = -1 ∧ st'.op = st.op.set w (-1) ∧ st'.spans = st.spans.set k s' ∧ s'.who = s.who ∧ s'.from_ = s.from_ ∧ s'.to = n) := by
  unfold takeP at ht
  split at ht
  · cases ht
  rename_i hc
  simp only [not_or] at hc
  obtain ⟨w, hw⟩ : ∃ w : Nat, (ev es n).who = w := ⟨(ev es n).who.toNat, by omega⟩
  have hwt : (ev es n).who.toNat = w := by omega
  have h16 : w < 16 := by omega
  rw [hwt] at ht
  refine ⟨w, h16, hw, ?_⟩
  split at ht
  · split at ht
    · cases ht
    rename_i hk
    obtain ⟨k, hk'⟩ : ∃ k : Nat, st.op.getD w 0 = k := ⟨(st.op.getD w 0).toNat, by omega⟩
    rw [hk', Int.toNat_natCast] at ht
    obtain ⟨s, hs, hsw, hst⟩ := h.opn w h16 k hk'
    rw [hs] at ht
    simp only at ht
    split at ht
    · cases ht
      exact .inr ⟨k, s, _, hk', hs, hsw, hst, rfl, rfl, rfl, rfl, rfl⟩
    · cases ht
  · split at ht
    · cases ht
    · cases ht
      exact .inl ⟨rfl, _, rfl, hw, rfl, rfl⟩
theorem take_D {es : List Ev} {n : Nat} {st st' : St} (h : InvD es n st) (ht : takeP n st (ev es n) = some st') (hn : n < 100000) : InvD es (n + 1) st' := by
  obtain ⟨w, h16, hw, hf⟩ := take_form h ht
  have hol := h.inv.opl
  rcases hf with ⟨ho, s, hs, hsw, hsf, hst⟩ | ⟨k, s, s', hk, hs, hsw, hst, ho, hs', hw', hf', ht'⟩
  · refine ⟨take_some h.inv ht hn, fun w' hw' k hk => ?_, fun y hy => ?_⟩
    · rw [ho, getD_set (by omega)] at hk
      rw [hs]
      split at hk
      · rename_i hww; subst hww
        obtain rfl : st.spans.length = k := by omega
        exact ⟨s, by simp, hsw, hst⟩
      · obtain ⟨y, hy, h1, h2⟩ := h.opn w' hw' k hk
        exact ⟨y, by rw [List.getElem?_append_left (List.getElem?_eq_some_iff.1 hy).1]; exact hy, h1, h2⟩
    · rw [hs] at hy
      rcases List.mem_append.1 hy with hy | hy
      · obtain ⟨h1, h2, h3⟩ := h.good y hy
        exact ⟨h1, by omega, by omega⟩
      · simp only [List.mem_singleton] at hy
        subst hy
        exact ⟨⟨by omega, .inl hst⟩, by omega, by omega⟩
  · have hkl := (List.getElem?_eq_some_iff.1 hs).1
    refine ⟨take_some h.inv ht hn, fun w' hw'' k' hk' => ?_, fun y hy => ?_⟩
    · rw [ho, getD_set (by omega)] at hk'
      rw [hs']
      split at hk'
      · omega
      · rename_i hww
        obtain ⟨y, hy, h1, h2⟩ := h.opn w' hw'' k' hk'
        have hne : k ≠ k' := fun he => by subst he; rw [hs] at hy; cases hy; omega
        exact ⟨y, by rw [List.getElem?_set_ne hne]; exact hy, h1, h2⟩
    · rw [hs'] at hy
      rcases List.mem_or_eq_of_mem_set hy with hy | rfl
      · obtain ⟨h1, h2, h3⟩ := h.good y hy
        exact ⟨h1, by omega, by omega⟩
      · obtain ⟨h1, h2, h3⟩ := h.good s (List.mem_of_getElem? hs)
        exact ⟨⟨by rw [hf']; exact h1.from_, .inr (by omega)⟩, by omega, by omega⟩
theorem cut_step {es : List Ev} {n m : Nat} {st st' : St} {cut : List Sp} (h : InvD es m st) (hnm : n ≤ m) (hc : CutRel n cut st.spans) (ht : takeP m st (ev es m) = some st') : CutRel n cut st'.spans := by
  obtain ⟨w, h16, hw, hf⟩ := take_form h ht
  rcases hf with ⟨ho, s, hs, hsw, hsf, hst⟩ | ⟨k, s, s', hk, hs, hsw, hst, ho, hs', hw', hf', ht'⟩
  · rw [hs]
    refine ⟨by rw [List.length_append]; have := hc.len; omega, fun i y hy => ?_, fun i y hi hy => ?_⟩
    · obtain ⟨y', h1, h2⟩ := hc.low i y hy
      exact ⟨y', by rw [List.getElem?_append_left (List.getElem?_eq_some_iff.1 h1).1]; exact h1, h2⟩
    · rcases Nat.lt_or_ge i st.spans.length with hl | hl
      · rw [List.getElem?_append_left hl] at hy
        exact hc.high i y hi hy
      · rw [List.getElem?_append_right hl] at hy
        have := List.mem_of_getElem? hy
        simp only [List.mem_singleton] at this
        subst this; omega
  · rw [hs']
    have hkl := (List.getElem?_eq_some_iff.1 hs).1
    refine ⟨by rw [List.length_set]; exact hc.len, fun i y hy => ?_, fun i y hi hy => ?_⟩
    · obtain ⟨y', h1, h2, h3, h4⟩ := hc.low i y hy
      by_cases hik : k = i
      · subst hik
        rw [hs] at h1; cases h1
        refine ⟨s', by rw [List.getElem?_set_self hkl], by rw [h2, hf'], fun h => ?_, fun _ => .inr (by omega)⟩
        have := h3 h; omega
      · exact ⟨y', by rw [List.getElem?_set_ne hik]; exact h1, h2, h3, h4⟩
    · rw [List.getElem?_set] at hy
      split at hy
      · rename_i hik; subst hik
        try rw [if_pos hkl] at hy
        cases hy
        rw [hf']; exact hc.high k s hi hs
      · exact hc.high i y hi hy
theorem runP_append : ∀ (a b : List Ev) (i : Nat) (st : St), runP i st (a ++ b) = match runP i st a with
    | none => none
    | some st' => runP (i + a.length) st' b
  | [], b, i, st => by simp [runP]
  | e :: a, b, i, st => by
    simp only [List.cons_append, runP]
    cases takeP i st e with
    | none => rfl
    | some st' =>
      simp only
      rw [runP_append a b (i + 1) st', List.length_cons, show i + 1 + a.length = i + (a.length + 1) by omega]
theorem cut_run {es : List Ev} {n : Nat} {cut : List Sp} (hl : es.length ≤ 1000) : ∀ (d m : Nat) (st st' : St), m + d = es.length → n ≤ m → InvD es m st → CutRel n cut st.spans → runP m st (es.drop m) = some st' → CutRel n cut st'.spans ∧ InvD es es.length st'
  | 0, m, st, st', hm, hnm, h, hc, hr => by
    rw [List.drop_of_length_le (by omega)] at hr
    simp only [runP, Option.some.injEq] at hr
    subst hr
    obtain rfl : m = es.length := by omega
    exact ⟨hc, h⟩
  | d + 1, m, st, st', hm, hnm, h, hc, hr => by
    have hml : m < es.length := by omega
    rw [List.drop_eq_getElem_cons hml, ev_at hml] at hr
    simp only [runP] at hr
    cases ht : takeP m st (ev es m) with
    | none => rw [ht] at hr; cases hr
    | some st1 =>
      rw [ht] at hr
      exact cut_run hl d (m + 1) st1 st' (by omega) (by omega) (take_D h ht (by omega)) (cut_step h hnm hc ht) hr
theorem run_inv {es : List Ev} (hl : es.length ≤ 1000) : ∀ (d m : Nat) (st st' : St), m + d ≤ es.length → InvD es m st → runP m st ((es.drop m).take d) = some st' → InvD es (m + d) st'
  | 0, m, st, st', hm, h, hr => by
    simp only [List.take_zero, runP, Option.some.injEq] at hr
    subst hr; exact h
  | d + 1, m, st, st', hm, h, hr => by
    have hml : m < es.length := by omega
    rw [List.drop_eq_getElem_cons hml, ev_at hml, List.take_succ_cons] at hr
    simp only [runP] at hr
    cases ht : takeP m st (ev es m) with
    | none => rw [ht] at hr; cases hr
    | some st1 =>
      rw [ht] at hr
      have := run_inv hl d (m + 1) st1 st' (by omega) (take_D h ht (by omega)) hr
      rwa [show m + 1 + d = m + (d + 1) by omega] at this
/-- Of a right diary each beginning is right, and its spans go with those of all. -/
theorem cut_law {es : List Ev} {n : Nat} {st : St} (hl : es.length ≤ 1000) (hn : n ≤ es.length) (h : runP 0 init es = some st) :
    ∃ st1, runP 0 init (es.take n) = some st1 ∧ CutRel n st1.spans st.spans ∧ (∀ s ∈ st1.spans, Gd s ∧ s.from_ < n ∧ s.to < n) ∧ ∀ s ∈ st.spans, Gd s := by
  have hsplit : es = es.take n ++ es.drop n := (List.take_append_drop n es).symm
  have h' := h
  rw [hsplit, runP_append] at h'
  cases h1 : runP 0 init (es.take n) with
  | none => rw [h1] at h'; cases h'
  | some st1 =>
    rw [h1] at h'
    simp only [Nat.zero_add, List.length_take, Nat.min_eq_left hn] at h'
    have i1 := run_inv (es := es) hl n 0 init st1 (by omega) invD0 (by rw [List.drop_zero]; exact h1)
    rw [Nat.zero_add] at i1
    have c0 : CutRel n st1.spans st1.spans := ⟨Nat.le_refl _, fun i s hs => ⟨s, hs, rfl, fun _ => rfl, fun h => .inl h⟩, fun i s hi hs => by have := (List.getElem?_eq_some_iff.1 hs).1; omega⟩
    obtain ⟨c1, i2⟩ := cut_run hl (es.length - n) n st1 st (by omega) (Nat.le_refl _) i1 c0 h'
    exact ⟨st1, rfl, c1, i1.good, fun s hs => (i2.good s hs).1⟩

/-! How many at once. -/
theorem edge_cut {n : Nat} {s s' : Sp} (h1 : Gd s) (h2 : Gd s') (hf : s.from_ = s'.from_) (hn : s.from_ < n ∧ s.to < n) (ht : s.to ≥ 0 → s'.to = s.to) (hu : s.to < 0 → s'.to < 0 ∨ s'.to ≥ n) : (edge1 s').filter (fun x : Int × Bool => decide (x.1 < (n : Int))) = edge1 s := by
  have a1 := h1.from_
  have a2 := h1.to
  have b2 := h2.to
  have e1 : edge1 s = (s.from_, false) :: if s.to ≥ 0 then [(s.to, true)] else [] := by unfold edge1; rw [if_neg (by omega)]
  have e2 : edge1 s' = (s'.from_, false) :: if s'.to ≥ 0 then [(s'.to, true)] else [] := by unfold edge1; rw [if_neg (by omega)]
  rw [e1, e2, ← hf]
  by_cases c : s.to ≥ 0
  · have := ht c
    rw [if_pos c, this, if_pos c]
    simp [hn.1, hn.2]
  · have := hu (by omega)
    rw [if_neg c]
    by_cases c' : s'.to ≥ 0
    · rw [if_pos c']
      have : ¬ s'.to < n := by omega
      simp [hn.1]; omega
    · rw [if_neg c']
      simp [hn.1]
theorem edge_high {n : Nat} {s' : Sp} (h2 : Gd s') (hf : s'.from_ ≥ n) : (edge1 s').filter (fun x : Int × Bool => decide (x.1 < (n : Int))) = [] := by
  have b2 := h2.to
  rw [List.filter_eq_nil_iff]
  intro x hx
  unfold edge1 at hx
  split at hx
  · simp at hx
  · split at hx
    · simp at hx
      rcases hx with rfl | rfl <;> simp <;> omega
    · simp at hx
      subst hx; simp; omega
theorem edges_cut {n : Nat} : ∀ (cut all : List Sp), CutRel n cut all → (∀ s ∈ cut, Gd s ∧ s.from_ < n ∧ s.to < n) → (∀ s ∈ all, Gd s) → (edges all).filter (fun x : Int × Bool => decide (x.1 < (n : Int))) = edges cut
  | [], all, hc, hg, ha => by
    unfold edges
    have : ∀ l : List Sp, (∀ s ∈ l, Gd s ∧ s.from_ ≥ n) → (l.flatMap edge1).filter (fun x : Int × Bool => decide (x.1 < (n : Int))) = [] := by
      intro l
      induction l with
      | nil => intro _; rfl
      | cons s l ih =>
        intro h
        rw [List.flatMap_cons, List.filter_append, edge_high (h s List.mem_cons_self).1 (h s List.mem_cons_self).2, ih (fun y hy => h y (List.mem_cons_of_mem _ hy)), List.nil_append]
    refine this all fun s hs => ⟨ha s hs, ?_⟩
    obtain ⟨i, hi⟩ := List.mem_iff_getElem?.1 hs
    exact hc.high i s (Nat.zero_le _) hi
  | c :: cut, [], hc, hg, ha => by have := hc.len; simp at this
  | c :: cut, a :: all, hc, hg, ha => by
    unfold edges
    rw [List.flatMap_cons, List.flatMap_cons, List.filter_append]
    obtain ⟨s', h1, h2, h3, h4⟩ := hc.low 0 c rfl
    simp only [List.getElem?_cons_zero, Option.some.injEq] at h1
    subst h1
    rw [edge_cut (hg c List.mem_cons_self).1 (ha a List.mem_cons_self) h2 (hg c List.mem_cons_self).2 h3 h4]
    congr 1
    exact edges_cut cut all ⟨by have := hc.len; simpa using this, fun i s hs => hc.low (i + 1) s hs, fun i s hi hs => hc.high (i + 1) s (by simp; omega) hs⟩ (fun s hs => hg s (List.mem_cons_of_mem _ hs)) (fun s hs => ha s (List.mem_cons_of_mem _ hs))
theorem sortE_perm (d : List (Int × Bool)) : (sortE d).Perm d := by
  have h := (sortE_spec d).1.2.2
  have hl := sortE_len d
  have e1 : ((sortE d).toArray.extract 0 d.length).toList = sortE d := by
    rw [show d.length = (sortE d).toArray.size by simp [hl]]; simp
  have e2 : (d.toArray.extract 0 d.length).toList = d := by simp
  rwa [e1, e2] at h
theorem sortE_sorted (d : List (Int × Bool)) : (sortE d).Pairwise fun x y => ltE y x = false := by
  rw [List.pairwise_iff_getElem]
  intro i j hi hj hij
  have h := (sortE_spec d).2 i j (Nat.zero_le _) hij (by rw [sortE_len] at hj; exact hj)
  rw [getElem!_pos (sortE d).toArray j (by simpa using hj), getElem!_pos (sortE d).toArray i (by simpa using hi)] at h
  simpa using h
theorem ltE_anti {x y : Int × Bool} (h : ltE y x = false) (k : ltE x y = false) : x = y := by
  rw [← Bool.not_eq_true, ltE_iff] at h k
  obtain ⟨a, p⟩ := x
  obtain ⟨b, q⟩ := y
  simp only at h k
  have e : a = b := by omega
  subst e
  cases p <;> cases q <;> simp_all
theorem cnt_mono (d : List (Int × Bool)) : ∀ a : Int × Int, a.2 ≤ (d.foldl cnt a).2 := by
  induction d with
  | nil => intro a; exact Int.le_refl _
  | cons x d ih =>
    intro a
    rw [List.foldl_cons]
    refine Int.le_trans ?_ (ih _)
    unfold cnt; split <;> simp <;> omega
theorem pairwise_split {n : Int} : ∀ (l : List (Int × Bool)), l.Pairwise (fun x y => ltE y x = false) → l = l.filter (fun x : Int × Bool => decide (x.1 < (n : Int))) ++ l.filter (fun x : Int × Bool => !decide (x.1 < (n : Int)))
  | [], _ => rfl
  | x :: l, h => by
    obtain ⟨h1, h2⟩ := List.pairwise_cons.1 h
    by_cases hx : x.1 < n
    · rw [List.filter_cons_of_pos (by simpa using hx), List.filter_cons_of_neg (by simpa using hx), List.cons_append, ← pairwise_split l h2]
    · have : ∀ y ∈ l, ¬ y.1 < n := fun y hy => by
        have := h1 y hy
        rw [← Bool.not_eq_true, ltE_iff] at this
        omega
      have e1 : l.filter (fun x : Int × Bool => decide (x.1 < (n : Int))) = [] := by
        rw [List.filter_eq_nil_iff]; intro y hy; simpa using this y hy
      have e2 : l.filter (fun x : Int × Bool => !decide (x.1 < (n : Int))) = l := by
        rw [List.filter_eq_self]; intro y hy; simpa using this y hy
      rw [List.filter_cons_of_neg (by simpa using hx), List.filter_cons_of_pos (by simpa using hx), e1, e2]; rfl
theorem most_cut {n : Nat} {cut all : List Sp} (hc : CutRel n cut all) (hg : ∀ s ∈ cut, Gd s ∧ s.from_ < n ∧ s.to < n) (ha : ∀ s ∈ all, Gd s) : mostP cut ≤ mostP all := by
  have he := edges_cut cut all hc hg ha
  unfold mostP
  have hs := sortE_sorted (edges all)
  have hsp := pairwise_split (n := n) _ hs
  have heq : (sortE (edges all)).filter (fun x : Int × Bool => decide (x.1 < (n : Int))) = sortE (edges cut) := by
    refine List.Perm.eq_of_pairwise (le := fun x y => ltE y x = false) (fun a b _ _ h k => ltE_anti h k) (hs.filter _) (sortE_sorted _) ?_
    refine ((sortE_perm (edges all)).filter _).trans ?_
    rw [he]; exact (sortE_perm (edges cut)).symm
  rw [heq] at hsp
  rw [hsp, List.foldl_append]
  exact cnt_mono _ _
end Go.Proofs.Ytgmdbnjjflaaiaa.diary
