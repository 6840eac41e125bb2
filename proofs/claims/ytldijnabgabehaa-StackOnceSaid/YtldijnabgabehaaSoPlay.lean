/- Many push to a stack and pop from it, as picks say: what was noted, and what holds then. -/
import Derived.Test.YtldijnabgabehaaSoPlain
namespace Go.Proofs.Ytldijnabgabehaa.so
structure Deed where
  from_ : Nat
  to : Option Nat
  put : Bool
  v : Nat
  code : Nat
/-- of a walk that has ended: its code, its value -/
def res : Wk → Nat × Nat
  | .nomem _ => (7, 0)
  | .empty => (5, 0)
  | .popped v => (0, v)
  | _ => (0, 0)
def endD (i : Nat) (w : Wk) (d : Deed) : Deed := { d with to := some i, code := (res w).1, v := if d.put then d.v else (res w).2 }
structure PS where
  m : Mem
  ws : List (Option (Wk × Nat))
  deeds : List Deed
  next : Nat
def busy (ws : List (Option (Wk × Nat))) : List Wk := ws.filterMap fun o => o.map Prod.fst
/-- one step of a walk that has not ended -/
def pick (s : PS) (i who : Nat) (w : Wk) (k : Nat) : PS :=
  if over (step s.m w).2 = true then { s with m := (step s.m w).1, ws := s.ws.set who none, deeds := s.deeds.set k (endD i (step s.m w).2 ((s.deeds[k]?).getD ⟨0, none, false, 0, 0⟩)) }
  else { s with m := (step s.m w).1, ws := s.ws.set who (some ((step s.m w).2, k)) }
def first (put : Bool) (next : Nat) : Wk := if put then .t1 next else .q1
/-- another one begins -/
def begin_ (s : PS) (i who : Nat) (put : Bool) : PS := { s with ws := s.ws.set who (some (first put s.next, s.deeds.length)), deeds := s.deeds ++ [⟨i, none, put, if put then s.next else 0, 0⟩], next := if put then s.next + 1 else s.next }
theorem busy_set {ws : List (Option (Wk × Nat))} {who : Nat} {o : Option (Wk × Nat)} (h : who < ws.length) : busy (ws.set who o) = busy (ws.take who) ++ ((o.map Prod.fst).toList ++ busy (ws.drop (who + 1))) := by
  unfold busy
  rw [List.set_eq_take_append_cons_drop, if_pos h, List.filterMap_append, List.filterMap_cons]
  cases o <;> rfl
theorem busy_at {ws : List (Option (Wk × Nat))} {who : Nat} {o : Option (Wk × Nat)} (h : ws[who]? = some o) : busy ws = busy (ws.take who) ++ ((o.map Prod.fst).toList ++ busy (ws.drop (who + 1))) := by
  have hlt := (List.getElem?_eq_some_iff.1 h).1
  have : ws = ws.set who o := by
    obtain ⟨_, h2⟩ := List.getElem?_eq_some_iff.1 h
    rw [← h2]; simp
  conv => lhs; rw [this]
  exact busy_set hlt
/-- what a deed that has ended handed out, or was refused -/
def resD (d : Deed) : List Nat := match d.to with
  | none => []
  | some _ => if d.put then (if d.code = 7 then [d.v] else []) else (if d.code = 0 then [d.v] else [])
/-- what a Push pushes -/
def val : Wk → Option Nat
  | .t1 v | .t2 v _ | .t3 v _ _ | .p2 v _ | .p3 v _ | .p4 v _ _ | .p5 v _ _ | .nomem v | .pushed v => some v
  | _ => none
theorem head1_val (m : Mem) (v : Nat) : val (head1 m v) = some v := by unfold head1; split <;> rfl
theorem top1_val (m : Mem) : val (top1 m) = none := by unfold top1; split <;> rfl
theorem val_step (m : Mem) (w : Wk) : val (step m w).2 = val w := by
  cases w with
  | t1 v => exact head1_val m v
  | t3 v h l =>
    by_cases he : (m.ht, m.hi) = h
    · have e : step m (.t3 v h l) = ({ m with ht := h.1 + 1, hi := l }, .p2 v h.2) := if_pos he
      rw [e]; rfl
    · have e : step m (.t3 v h l) = (m, head1 m v) := if_neg he
      rw [e]; exact head1_val m v
  | p5 v i t =>
    by_cases he : (m.tt, m.ti) = t
    · have e : step m (.p5 v i t) = ({ m with tt := t.1 + 1, ti := i }, .pushed v) := if_pos he
      rw [e]; rfl
    · have e : step m (.p5 v i t) = (m, .p4 v i (m.tt, m.ti)) := if_neg he
      rw [e]; rfl
  | q1 => exact top1_val m
  | q3 t b =>
    by_cases he : (m.tt, m.ti) = t
    · have e : step m (.q3 t b) = ({ m with tt := t.1 + 1, ti := b }, .q4 t.2) := if_pos he
      rw [e]; rfl
    · have e : step m (.q3 t b) = (m, top1 m) := if_neg he
      rw [e]; exact top1_val m
  | u3 v i h =>
    by_cases he : (m.ht, m.hi) = h
    · have e : step m (.u3 v i h) = ({ m with ht := h.1 + 1, hi := i }, .popped v) := if_pos he
      rw [e]; rfl
    · have e : step m (.u3 v i h) = (m, .u2 v i (m.ht, m.hi)) := if_neg he
      rw [e]; rfl
  | _ => rfl
/-- the deed of a walk that has not ended -/
def Fits (w : Wk) (d : Deed) : Prop := d.to = none ∧ over w = false ∧ val w = if d.put then some d.v else none
/-- of one that has -/
theorem ended {m : Mem} {w w' : Wk} {d : Deed} {i : Nat} (h : Fits w d) (hv : val w' = val w) (ho : over w' = true) :
    live m w' = resD (endD i w' d) ∧ (d.put = true → (res w').1 = 0 ∨ (res w').1 = 7) ∧ (d.put = false → (res w').1 = 0 ∨ (res w').1 = 5) ∧ own w' = [] := by
  rw [h.2.2] at hv
  cases hp : d.put with
  | true =>
    rw [hp] at hv
    cases w' <;> simp [val, over] at hv ho
    · subst hv; simp [live, ins, outs, resD, endD, hp, res, own]
    · subst hv; simp [live, ins, outs, resD, endD, hp, res, own]
  | false =>
    rw [hp] at hv
    cases w' <;> simp [val, over] at hv ho
    · simp [live, ins, outs, resD, endD, hp, res, own]
    · simp [live, ins, outs, resD, endD, hp, res, own]
structure PI (n : Nat) (s : PS) : Prop where
  inv : ∃ F S, Inv n s.m (busy s.ws) F S ∧ ∀ x, (S.map s.m.task).count x + ((busy s.ws).flatMap (live s.m)).count x + (s.deeds.flatMap resD).count x = if 1 ≤ x ∧ x < s.next then 1 else 0
  fits : ∀ (who : Nat) (w : Wk) (k : Nat), s.ws[who]? = some (some (w, k)) → ∃ d, s.deeds[k]? = some d ∧ Fits w d
  apart : ∀ (who who' : Nat) (w w' : Wk) (k : Nat), s.ws[who]? = some (some (w, k)) → s.ws[who']? = some (some (w', k)) → who = who'
  open_ : ∀ (k : Nat) (d : Deed), s.deeds[k]? = some d → d.to = none → ∃ (who : Nat) (w : Wk), s.ws[who]? = some (some (w, k))
  done : ∀ (k : Nat) (d : Deed) (i : Nat), s.deeds[k]? = some d → d.to = some i → (d.put = true → d.code = 0 ∨ d.code = 7) ∧ (d.put = false → d.code = 0 ∨ d.code = 5)
  puts : (s.deeds.filter (·.put)).map (·.v) = List.range' 1 (s.next - 1)
  next : 1 ≤ s.next
theorem flat_set {ds : List Deed} {k : Nat} {d e : Deed} (h : ds[k]? = some d) (x : Nat) : ((ds.set k e).flatMap resD).count x + (resD d).count x = (ds.flatMap resD).count x + (resD e).count x := by
  have hlt := (List.getElem?_eq_some_iff.1 h).1
  have e1 : ds = ds.take k ++ d :: ds.drop (k + 1) := by
    obtain ⟨_, h2⟩ := List.getElem?_eq_some_iff.1 h
    conv => lhs; rw [← List.take_append_drop k ds, List.drop_eq_getElem_cons hlt, h2]
  have e2 : ds.set k e = ds.take k ++ e :: ds.drop (k + 1) := by rw [List.set_eq_take_append_cons_drop, if_pos hlt]
  rw [e2]
  conv => rhs; rw [e1]
  simp only [List.flatMap_append, List.flatMap_cons, List.count_append]
  omega
theorem filter_set {ds : List Deed} {k : Nat} {d e : Deed} (h : ds[k]? = some d) (hp : e.put = d.put) (hv : d.put = true → e.v = d.v) : ((ds.set k e).filter (·.put)).map (·.v) = (ds.filter (·.put)).map (·.v) := by
  have hlt := (List.getElem?_eq_some_iff.1 h).1
  have e1 : ds = ds.take k ++ d :: ds.drop (k + 1) := by
    obtain ⟨_, h2⟩ := List.getElem?_eq_some_iff.1 h
    conv => lhs; rw [← List.take_append_drop k ds, List.drop_eq_getElem_cons hlt, h2]
  have e2 : ds.set k e = ds.take k ++ e :: ds.drop (k + 1) := by rw [List.set_eq_take_append_cons_drop, if_pos hlt]
  rw [e2]
  conv => rhs; rw [e1]
  simp only [List.filter_append, List.filter_cons, List.map_append, hp]
  cases hd : d.put with
  | true => simp [hv hd]
  | false => simp
theorem pick_ok {n : Nat} {s : PS} (h : PI n s) {who k : Nat} {w : Wk} (hw : s.ws[who]? = some (some (w, k))) (i : Nat) : PI n (pick s i who w k) := by
  have hlt := (List.getElem?_eq_some_iff.1 hw).1
  obtain ⟨d, hd, hf⟩ := h.fits who w k hw
  obtain ⟨F, S, hi, hv⟩ := h.inv
  rw [busy_at hw] at hi hv
  obtain ⟨F', S', hi', hv'⟩ := step_inv (A := busy (s.ws.take who)) (B := busy (s.ws.drop (who + 1))) hi
  have hval := val_step s.m w
  have hget : ∀ (o : Option (Wk × Nat)) j, (s.ws.set who o)[j]? = if who = j then some o else s.ws[j]? := fun o j => by
    rw [List.getElem?_set]
    split
    · rename_i e; subst e; first | rfl | rw [if_pos hlt]
    · rfl
  unfold pick
  split
  · rename_i ho
    obtain ⟨q1, q2, q3, q4⟩ := ended (m := (step s.m w).1) (i := i) hf hval ho
    have hgd : (s.deeds[k]?).getD ⟨0, none, false, 0, 0⟩ = d := by rw [hd]; rfl
    rw [hgd]
    have hkl := (List.getElem?_eq_some_iff.1 hd).1
    have hdg : ∀ j, (s.deeds.set k (endD i (step s.m w).2 d))[j]? = if k = j then some (endD i (step s.m w).2 d) else s.deeds[j]? := fun j => by
      rw [List.getElem?_set]
      split
      · rename_i e; subst e; first | rfl | rw [if_pos hkl]
      · rfl
    refine ⟨⟨F', S', ?_, fun x => ?_⟩, fun j w2 k2 hj => ?_, fun j j' w2 w2' k2 h1 h2 => ?_, fun j e hj ht => ?_, fun j e i' hj ht => ?_, ?_, h.next⟩
    · show Inv n _ (busy (s.ws.set who none)) F' S'
      rw [busy_set hlt]
      refine ⟨hi'.free, hi'.stack, fun x => ?_, fun w2 hw2 => hi'.fresh w2 ?_⟩
      · have := hi'.once x
        rw [flat_count, q4] at this
        simpa using this
      · simp only [Option.map_none, Option.toList_none, List.nil_append] at hw2
        rcases List.mem_append.1 hw2 with hw2 | hw2 <;> simp [hw2]
    · show (S'.map (step s.m w).1.task).count x + ((busy (s.ws.set who none)).flatMap (live (step s.m w).1)).count x + ((s.deeds.set k _).flatMap resD).count x = _
      rw [busy_set hlt]
      have a1 := hv' x
      have a2 := hv x
      have a3 := flat_set (e := endD i (step s.m w).2 d) hd x
      have a4 : (resD d).count x = 0 := by simp [resD, hf.1]
      have a5 : (live (step s.m w).1 (step s.m w).2).count x = (resD (endD i (step s.m w).2 d)).count x := by rw [q1]
      rw [flat_count] at a1
      simp only [Option.map_none, Option.map_some, Option.toList_none, Option.toList_some, List.nil_append, List.cons_append] at a1 a2 ⊢
      omega
    · rw [hget] at hj
      split at hj
      · cases hj
      · rename_i hne
        obtain ⟨d2, hd2, hf2⟩ := h.fits j w2 k2 hj
        refine ⟨d2, ?_, hf2⟩
        rw [hdg, if_neg (fun e => hne ?_), hd2]
        subst e
        exact h.apart who j w w2 k hw hj
    · rw [hget] at h1 h2
      split at h1
      · cases h1
      · split at h2
        · cases h2
        · exact h.apart j j' w2 w2' k2 h1 h2
    · rw [hdg] at hj
      split at hj
      · cases hj; cases ht
      · rename_i hne
        obtain ⟨j', w2, hj'⟩ := h.open_ j e hj ht
        refine ⟨j', w2, ?_⟩
        rw [hget, if_neg (fun e' => hne ?_), hj']
        subst e'
        rw [hw] at hj'
        cases hj'; rfl
    · rw [hdg] at hj
      split at hj
      · cases hj
        exact ⟨fun hp => q2 hp, fun hp => q3 hp⟩
      · exact h.done j e i' hj ht
    · show ((s.deeds.set k _).filter (·.put)).map (·.v) = _
      rw [filter_set (e := endD i (step s.m w).2 d) hd rfl (fun hp => by simp [endD, hp])]
      exact h.puts
  · rename_i ho
    have ho' : over (step s.m w).2 = false := by simpa using ho
    refine ⟨⟨F', S', ?_, fun x => ?_⟩, fun j w2 k2 hj => ?_, fun j j' w2 w2' k2 h1 h2 => ?_, fun j e hj ht => ?_, h.done, h.puts, h.next⟩
    · show Inv n _ (busy (s.ws.set who (some ((step s.m w).2, k)))) F' S'
      rw [busy_set hlt]
      exact hi'
    · show (S'.map (step s.m w).1.task).count x + ((busy (s.ws.set who (some ((step s.m w).2, k)))).flatMap (live (step s.m w).1)).count x + _ = _
      rw [busy_set hlt]
      have a1 := hv' x
      have a2 := hv x
      simp only [Option.map_some, Option.toList_some, List.cons_append, List.nil_append] at a1 a2 ⊢
      omega
    · rw [hget] at hj
      split at hj
      · simp only [Option.some.injEq, Prod.mk.injEq] at hj
        obtain ⟨rfl, rfl⟩ := hj
        exact ⟨d, hd, hf.1, ho', by rw [hval]; exact hf.2.2⟩
      · exact h.fits j w2 k2 hj
    · rw [hget] at h1 h2
      split at h1
      · rename_i e1
        simp only [Option.some.injEq, Prod.mk.injEq] at h1
        obtain ⟨_, rfl⟩ := h1
        split at h2
        · rename_i e2; rw [← e1, ← e2]
        · rw [← e1]; exact h.apart who j' w w2' k hw h2
      · split at h2
        · rename_i e2
          simp only [Option.some.injEq, Prod.mk.injEq] at h2
          obtain ⟨_, rfl⟩ := h2
          rw [← e2]; exact h.apart j who w2 w k h1 hw
        · exact h.apart j j' w2 w2' k2 h1 h2
    · obtain ⟨j', w2, hj'⟩ := h.open_ j e hj ht
      by_cases hne : who = j'
      · subst hne
        rw [hw] at hj'
        cases hj'
        exact ⟨who, _, by rw [hget, if_pos rfl]⟩
      · exact ⟨j', w2, by rw [hget, if_neg hne, hj']⟩
theorem begin_ok {n : Nat} {s : PS} (h : PI n s) {who : Nat} (hw : s.ws[who]? = some none) (i : Nat) (put : Bool) : PI n (begin_ s i who put) := by
  have hlt := (List.getElem?_eq_some_iff.1 hw).1
  obtain ⟨F, S, hi, hv⟩ := h.inv
  rw [busy_at hw] at hi hv
  simp only [Option.map_none, Option.toList_none, List.nil_append] at hi hv
  have hget : ∀ (o : Option (Wk × Nat)) j, (s.ws.set who o)[j]? = if who = j then some o else s.ws[j]? := fun o j => by
    rw [List.getElem?_set]
    split
    · rename_i e; subst e; first | rfl | rw [if_pos hlt]
    · rfl
  have hnew : ∀ (d : Deed) j e, (s.deeds ++ [d])[j]? = some e → (j = s.deeds.length ∧ e = d) ∨ s.deeds[j]? = some e := fun d j e hj => by
    by_cases hjl : j < s.deeds.length
    · rw [List.getElem?_append_left hjl] at hj; exact .inr hj
    · have := (List.getElem?_eq_some_iff.1 hj).1
      rw [List.length_append, List.length_singleton] at this
      obtain rfl : j = s.deeds.length := by omega
      rw [List.getElem?_append_right (Nat.le_refl _), Nat.sub_self] at hj
      cases hj
      exact .inl ⟨rfl, rfl⟩
  have hold : ∀ (d : Deed) j e, s.deeds[j]? = some e → (s.deeds ++ [d])[j]? = some e := fun d j e hj => by
    rw [List.getElem?_append_left (List.getElem?_eq_some_iff.1 hj).1, hj]
  have hfo : own (first put s.next) = [] ∧ over (first put s.next) = false ∧ Fresh s.m (first put s.next) := by cases put <;> exact ⟨rfl, rfl, trivial⟩
  have hkl : ∀ j w2 k2, s.ws[j]? = some (some (w2, k2)) → k2 < s.deeds.length := fun j w2 k2 hj => by
    obtain ⟨d, hd, _⟩ := h.fits j w2 k2 hj
    exact (List.getElem?_eq_some_iff.1 hd).1
  unfold begin_
  refine ⟨⟨F, S, ?_, fun x => ?_⟩, fun j w2 k2 hj => ?_, fun j j' w2 w2' k2 h1 h2 => ?_, fun j e hj ht => ?_, fun j e i' hj ht => ?_, ?_, ?_⟩
  · show Inv n s.m (busy (s.ws.set who _)) F S
    rw [busy_set hlt]
    refine ⟨hi.free, hi.stack, fun x => ?_, fun w2 hw2 => ?_⟩
    · show _ + _ + ((busy (s.ws.take who) ++ first put s.next :: busy (s.ws.drop (who + 1))).flatMap own).count x = _
      rw [flat_count, hfo.1]
      simpa using hi.once x
    · rcases List.mem_append.1 hw2 with hw2 | hw2
      · exact hi.fresh w2 (List.mem_append_left _ hw2)
      · rcases List.mem_cons.1 hw2 with rfl | hw2
        · exact hfo.2.2
        · exact hi.fresh w2 (List.mem_append_right _ hw2)
  · show (S.map s.m.task).count x + ((busy (s.ws.set who (some (first put s.next, s.deeds.length)))).flatMap (live s.m)).count x + ((s.deeds ++ [_]).flatMap resD).count x = if 1 ≤ x ∧ x < (if put then s.next + 1 else s.next) then 1 else 0
    rw [busy_set hlt]
    show _ + ((busy (s.ws.take who) ++ first put s.next :: busy (s.ws.drop (who + 1))).flatMap (live s.m)).count x + _ = _
    rw [flat_count]
    have := hv x
    have hn := h.next
    simp only [List.flatMap_append, List.flatMap_cons, List.flatMap_nil, List.count_append, resD, List.append_nil] at this ⊢
    cases put with
    | true =>
      simp only [first, if_true, live, ins, outs, List.append_nil, count_one]
      by_cases hx : x = s.next
      · subst hx
        rw [if_neg (by omega)] at this
        rw [if_pos rfl, if_pos (by omega)]
        omega
      · rw [if_neg hx]
        by_cases hx2 : 1 ≤ x ∧ x < s.next
        · rw [if_pos hx2] at this; rw [if_pos (by omega)]; omega
        · rw [if_neg hx2] at this; rw [if_neg (by omega)]; omega
    | false =>
      simp only [first, Bool.false_eq_true, if_false, live, ins, outs, List.append_nil, List.count_nil]
      omega
  · rw [hget] at hj
    split at hj
    · simp only [Option.some.injEq, Prod.mk.injEq] at hj
      obtain ⟨rfl, rfl⟩ := hj
      refine ⟨_, by rw [List.getElem?_append_right (Nat.le_refl _), Nat.sub_self]; rfl, rfl, hfo.2.1, ?_⟩
      cases put <;> rfl
    · obtain ⟨d, hd, hf⟩ := h.fits j w2 k2 hj
      exact ⟨d, hold _ _ _ hd, hf⟩
  · rw [hget] at h1 h2
    split at h1
    · rename_i e1
      simp only [Option.some.injEq, Prod.mk.injEq] at h1
      obtain ⟨_, rfl⟩ := h1
      split at h2
      · rename_i e2; rw [← e1, ← e2]
      · have := hkl _ _ _ h2; omega
    · split at h2
      · simp only [Option.some.injEq, Prod.mk.injEq] at h2
        obtain ⟨_, rfl⟩ := h2
        have := hkl _ _ _ h1; omega
      · exact h.apart j j' w2 w2' k2 h1 h2
  · rcases hnew _ _ _ hj with ⟨rfl, rfl⟩ | hj
    · exact ⟨who, _, by rw [hget, if_pos rfl]⟩
    · obtain ⟨j', w2, hj'⟩ := h.open_ j e hj ht
      refine ⟨j', w2, ?_⟩
      rw [hget, if_neg (fun e' => ?_), hj']
      subst e'
      rw [hw] at hj'; cases hj'
  · rcases hnew _ _ _ hj with ⟨rfl, rfl⟩ | hj
    · cases ht
    · exact h.done j e i' hj ht
  · show ((s.deeds ++ [(⟨i, none, put, if put then s.next else 0, 0⟩ : Deed)]).filter (·.put)).map (·.v) = List.range' 1 ((if put then s.next + 1 else s.next) - 1)
    have hn := h.next
    rw [List.filter_append, List.map_append, h.puts]
    cases put with
    | true =>
      simp only [if_true]
      have e : s.next + 1 - 1 = (s.next - 1) + 1 := by omega
      rw [e, List.range'_concat]
      simp
      omega
    | false => simp
  · show 1 ≤ if put then s.next + 1 else s.next
    have := h.next
    split <;> omega
end Go.Proofs.Ytldijnabgabehaa.so
namespace Go.Proofs.Ytldijnabgabehaa.so
theorem perm_range {n : Nat} {l : List Nat} (h : ∀ x, l.count x = if 1 ≤ x ∧ x ≤ n then 1 else 0) : l.Perm (List.range' 1 n) := by
  rw [List.perm_iff_count]
  intro x
  rw [h x]
  by_cases hx : 1 ≤ x ∧ x ≤ n
  · rw [if_pos hx]
    have : x ∈ List.range' 1 n := by rw [List.mem_range'_1]; omega
    have h1 := pos_of_mem this
    have h2 := List.nodup_iff_count.1 (List.nodup_range' (s := 1) (n := n)) x
    omega
  · rw [if_neg hx]
    have : x ∉ List.range' 1 n := by rw [List.mem_range'_1]; omega
    exact (List.count_eq_zero.2 this).symm
theorem busy_nil {ws : List (Option (Wk × Nat))} (h : ∀ o ∈ ws, o = none) : busy ws = [] := by
  unfold busy
  rw [List.filterMap_eq_nil_iff]
  intro o ho
  rw [h o ho]; rfl
/-- All have ended: each node is in the stack, or free, once; and what was pushed came out, or is in it. -/
theorem final {n : Nat} {s : PS} (h : PI n s) (hb : ∀ o ∈ s.ws, o = none) : ∃ F S, Chain s.m.link s.m.hi F ∧ Chain s.m.below s.m.ti S ∧ (F ++ S).Perm (List.range' 1 n) ∧ (∀ d ∈ s.deeds, ∃ i, d.to = some i) ∧
    ∀ x, (S.map s.m.task).count x + (s.deeds.flatMap resD).count x = if 1 ≤ x ∧ x < s.next then 1 else 0 := by
  obtain ⟨F, S, hi, hv⟩ := h.inv
  rw [busy_nil hb] at hi hv
  refine ⟨F, S, hi.free, hi.stack, perm_range fun x => ?_, fun d hd => ?_, fun x => ?_⟩
  · rw [List.count_append]
    have := hi.once x
    simpa using this
  · obtain ⟨k, hk, rfl⟩ := List.getElem_of_mem hd
    cases ht : (s.deeds[k]).to with
    | some i => exact ⟨i, rfl⟩
    | none =>
      obtain ⟨who, w, hw⟩ := h.open_ k _ (List.getElem?_eq_getElem hk) ht
      have := hb _ (List.mem_of_getElem? hw)
      cases this
  · have := hv x
    simpa using this
end Go.Proofs.Ytldijnabgabehaa.so
namespace Go.Proofs.Ytldijnabgabehaa.so
/-- whose turn it is -/
def whose (picks : List Nat) (workers i : Nat) : Nat := if i < picks.length then picks.getD i 0 % workers else (i - picks.length) / 100
/-- one round -/
def round (picks : List Nat) (workers most : Nat) (s : PS) (i : Nat) : PS := match s.ws[whose picks workers i]? with
  | some (some (w, k)) => pick s i (whose picks workers i) w k
  | some none => if picks.length ≤ i ∨ s.deeds.length = most then s else
      pick (begin_ s i (whose picks workers i) (decide (120 ≤ picks.getD i 0))) i (whose picks workers i) (first (decide (120 ≤ picks.getD i 0)) s.next) s.deeds.length
  | none => s
def rounds (picks : List Nat) (workers most : Nat) (s : PS) (l : List Nat) : PS := l.foldl (round picks workers most) s
theorem round_ok {n : Nat} {picks : List Nat} {workers most : Nat} {s : PS} (h : PI n s) (i : Nat) : PI n (round picks workers most s i) := by
  unfold round
  split
  · rename_i w k hw
    exact pick_ok h hw i
  · rename_i hw
    split
    · exact h
    · refine pick_ok (begin_ok h hw i _) ?_ i
      have hlt := (List.getElem?_eq_some_iff.1 hw).1
      simp only [begin_]
      rw [List.getElem?_set]
      simp [hlt]
  · exact h
theorem rounds_ok {n : Nat} {picks : List Nat} {workers most : Nat} : ∀ (l : List Nat) {s : PS}, PI n s → PI n (rounds picks workers most s l)
  | [], _, h => h
  | i :: l, _, h => rounds_ok l (round_ok h i)
theorem pick_ws (s : PS) (i who : Nat) (w : Wk) (k : Nat) : (∀ j, j ≠ who → (pick s i who w k).ws[j]? = s.ws[j]?) ∧ (pick s i who w k).ws.length = s.ws.length := by
  unfold pick
  split
  · exact ⟨fun j hj => by simp only; rw [List.getElem?_set_ne (Ne.symm hj)], by simp⟩
  · exact ⟨fun j hj => by simp only; rw [List.getElem?_set_ne (Ne.symm hj)], by simp⟩
/-- in its own hundred rounds a walk comes to its end, and nobody else moves -/
theorem late_one {n : Nat} {picks : List Nat} {workers most : Nat} {j : Nat} : ∀ (l : List Nat) {s : PS}, PI n s → (∀ i ∈ l, picks.length ≤ i ∧ whose picks workers i = j) → j < s.ws.length →
    (∀ w k, s.ws[j]? = some (some (w, k)) → mu s.m w ≤ l.length) → (rounds picks workers most s l).ws[j]? = some none ∧ (∀ j', j' ≠ j → (rounds picks workers most s l).ws[j']? = s.ws[j']?) ∧ (rounds picks workers most s l).ws.length = s.ws.length
  | [], s, h, _, hj, hm => by
    refine ⟨?_, fun _ _ => rfl, rfl⟩
    show s.ws[j]? = some none
    cases hw : s.ws[j]? with
    | none => rw [List.getElem?_eq_none_iff] at hw; omega
    | some o =>
      cases o with
      | none => rfl
      | some q =>
        obtain ⟨w, k⟩ := q
        have h1 := hm w k hw
        obtain ⟨d, _, hf⟩ := h.fits j w k hw
        have h2 := mu_step s.m w hf.2.1
        simp only [List.length_nil] at h1
        omega
  | i :: l, s, h, hl, hj, hm => by
    obtain ⟨hi, hwho⟩ := hl i (by simp)
    have hl' : ∀ i ∈ l, picks.length ≤ i ∧ whose picks workers i = j := fun i hi => hl i (by simp [hi])
    have hr := round_ok (picks := picks) (workers := workers) (most := most) h i
    show (rounds picks workers most (round picks workers most s i) l).ws[j]? = some none ∧ (∀ j', j' ≠ j → (rounds picks workers most (round picks workers most s i) l).ws[j']? = s.ws[j']?) ∧ (rounds picks workers most (round picks workers most s i) l).ws.length = s.ws.length
    cases hw : s.ws[j]? with
    | none => rw [List.getElem?_eq_none_iff] at hw; omega
    | some o =>
      cases o with
      | none =>
        have e : round picks workers most s i = s := by
          unfold round
          rw [hwho, hw]
          simp only
          rw [if_pos (.inl hi)]
        rw [e]
        exact late_one l h hl' hj (fun w k hw' => by rw [hw] at hw'; cases hw')
      | some q =>
        obtain ⟨w, k⟩ := q
        have e : round picks workers most s i = pick s i j w k := by
          unfold round
          rw [hwho, hw]
        obtain ⟨p1, p2⟩ := pick_ws s i j w k
        rw [e] at hr ⊢
        have hmu := hm w k hw
        obtain ⟨d, _, hf⟩ := h.fits j w k hw
        have hst := mu_step s.m w hf.2.1
        obtain ⟨r1, r2, r3⟩ := late_one l hr hl' (by rw [p2]; exact hj) (fun w' k' hw' => by
          unfold pick at hw' ⊢
          split at hw'
          · simp only at hw'
            rw [List.getElem?_set] at hw'
            simp [hj] at hw'
          · rename_i hov
            rw [if_neg hov]
            simp only at hw' ⊢
            rw [List.getElem?_set] at hw'
            simp [hj] at hw'
            obtain ⟨rfl, rfl⟩ := hw'
            simp only [List.length_cons] at hmu
            omega)
        exact ⟨r1, fun j' hne => (r2 j' hne).trans (p1 j' hne), r3.trans p2⟩
end Go.Proofs.Ytldijnabgabehaa.so
namespace Go.Proofs.Ytldijnabgabehaa.so
theorem rounds_append {picks : List Nat} {workers most : Nat} {s : PS} {a b : List Nat} : rounds picks workers most s (a ++ b) = rounds picks workers most (rounds picks workers most s a) b := List.foldl_append
theorem all_late {n : Nat} {picks : List Nat} {workers most : Nat} {s : PS} (h : PI n s) (hw : s.ws.length = workers) : ∀ k, k ≤ workers →
    (∀ j, j < k → (rounds picks workers most s (List.range' picks.length (100 * k))).ws[j]? = some none) ∧ (rounds picks workers most s (List.range' picks.length (100 * k))).ws.length = workers
  | 0, _ => ⟨fun j hj => by omega, hw⟩
  | k + 1, hk => by
    obtain ⟨h1, h2⟩ := all_late (picks := picks) (most := most) h hw k (by omega)
    have e : List.range' picks.length (100 * (k + 1)) = List.range' picks.length (100 * k) ++ List.range' (picks.length + 100 * k) 100 := by
      rw [Nat.mul_add, Nat.mul_one, ← List.range'_append]
      simp
    rw [e, rounds_append]
    obtain ⟨r1, r2, r3⟩ := late_one (j := k) (most := most) (workers := workers) (picks := picks) (List.range' (picks.length + 100 * k) 100) (rounds_ok (List.range' picks.length (100 * k)) h) (fun i hi => by
      rw [List.mem_range'_1] at hi
      refine ⟨by omega, ?_⟩
      unfold whose
      rw [if_neg (by omega)]
      omega) (by rw [h2]; omega) (fun w k' _ => by
        have := mu_le (rounds picks workers most s (List.range' picks.length (100 * k))).m w
        simp only [List.length_range']
        omega)
    refine ⟨fun j hj => ?_, r3.trans h2⟩
    by_cases hjk : j = k
    · subst hjk; exact r1
    · rw [r2 j hjk]; exact h1 j (by omega)
/-- how a stack of n nodes begins -/
def mem0 (n : Nat) : Mem := { tt := 0, ti := 0, ht := 0, hi := 1, link := fun i => if i < n then i + 1 else 0, below := fun _ => 0, task := fun _ => 0 }
def init (n workers : Nat) : PS := { m := mem0 n, ws := List.replicate workers none, deeds := [], next := 1 }
theorem chain0 {n : Nat} : ∀ (k i : Nat), i + k = n + 1 → 1 ≤ i → Chain (mem0 n).link (if k = 0 then 0 else i) (List.range' i k)
  | 0, i, _, _ => rfl
  | k + 1, i, h, hi => by
    rw [List.range'_succ, if_neg (by omega)]
    refine ⟨rfl, by omega, ?_⟩
    have := chain0 (n := n) k (i + 1) (by omega) (by omega)
    have e : (mem0 n).link i = if k = 0 then 0 else i + 1 := by
      show (if i < n then i + 1 else 0) = _
      by_cases hk : k = 0
      · rw [if_pos hk, if_neg (by omega)]
      · rw [if_neg hk, if_pos (by omega)]
    rw [e]
    exact this
theorem init_ok {n workers : Nat} (hn : 1 ≤ n) : PI n (init n workers) := by
  have hb : busy (init n workers).ws = [] := busy_nil fun o ho => (List.mem_replicate.1 ho).2
  have hws : ∀ who w k, (init n workers).ws[who]? ≠ some (some (w, k)) := fun who w k he => by
    have := (List.mem_replicate.1 (List.mem_of_getElem? he)).2
    cases this
  refine ⟨⟨List.range' 1 n, [], ?_, fun x => ?_⟩, fun who w k hw => absurd hw (hws who w k), fun who _ w _ k hw => absurd hw (hws who w k), (fun k d hd => by cases hd), (fun k d i hd => by cases hd), rfl, Nat.le_refl _⟩
  · rw [hb]
    refine ⟨?_, rfl, fun x => ?_, (fun w hw => by cases hw)⟩
    · have := chain0 (n := n) n 1 (by omega) (Nat.le_refl _)
      rw [if_neg (by omega)] at this
      exact this
    · simp only [List.count_nil, List.flatMap_nil, Nat.add_zero]
      by_cases hx : 1 ≤ x ∧ x ≤ n
      · rw [if_pos hx]
        have h0 : x ∈ List.range' 1 n := by rw [List.mem_range'_1]; omega
        have h1 := pos_of_mem h0
        have h2 := List.nodup_iff_count.1 (List.nodup_range' (s := 1) (n := n)) x
        omega
      · rw [if_neg hx]
        exact List.count_eq_zero.2 (by rw [List.mem_range'_1]; omega)
  · rw [hb]
    show _ = if 1 ≤ x ∧ x < 1 then 1 else 0
    rw [if_neg (by omega)]
    rfl
/-- all of it -/
def play (picks : List Nat) (n workers most : Nat) : PS := rounds picks workers most (init n workers) (List.range (picks.length + 100 * workers))
theorem play_ok {picks : List Nat} {n workers most : Nat} (hn : 1 ≤ n) : PI n (play picks n workers most) ∧ ∀ o ∈ (play picks n workers most).ws, o = none := by
  have h0 := rounds_ok (picks := picks) (workers := workers) (most := most) (List.range picks.length) (init_ok (workers := workers) hn)
  have hlen : ∀ (l : List Nat) (s : PS), (rounds picks workers most s l).ws.length = s.ws.length := by
    intro l
    induction l with
    | nil => intro s; rfl
    | cons i l ih =>
      intro s
      refine (ih (round picks workers most s i)).trans ?_
      unfold round
      split
      · exact (pick_ws _ _ _ _ _).2
      · split
        · rfl
        · exact (pick_ws _ _ _ _ _).2.trans (by simp [begin_])
      · rfl
  have e : List.range (picks.length + 100 * workers) = List.range picks.length ++ List.range' picks.length (100 * workers) := by
    rw [List.range_eq_range', List.range_eq_range', ← List.range'_append]
    simp
  have hp : play picks n workers most = rounds picks workers most (rounds picks workers most (init n workers) (List.range picks.length)) (List.range' picks.length (100 * workers)) := by
    unfold play
    rw [e, rounds_append]
  obtain ⟨h1, h2⟩ := all_late (picks := picks) (most := most) h0 (workers := workers) (by rw [hlen]; simp [init]) workers (Nat.le_refl _)
  rw [hp]
  refine ⟨rounds_ok _ h0, fun o ho => ?_⟩
  obtain ⟨j, hj, rfl⟩ := List.getElem_of_mem ho
  have := h1 j (by rw [h2] at hj; exact hj)
  rw [List.getElem?_eq_getElem hj] at this
  exact Option.some.inj this
end Go.Proofs.Ytldijnabgabehaa.so
