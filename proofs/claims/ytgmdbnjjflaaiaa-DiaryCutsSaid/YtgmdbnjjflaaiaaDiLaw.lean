/- The walk of the law DiarySpans. -/
import Derived.Test.YtgmdbnjjflaaiaaDiPlain
namespace Go.Proofs.Ytgmdbnjjflaaiaa.diary
open Go Go.Vx

/-- events that came in, of any sizes -/
def Evs (G : Addr → Option AV) (v : AV) (es : List Ev) : Prop := (∀ M : AMem, M.g = G → RowE M 10 v (es.map Ev.cells)) ∧ ∀ e ∈ es, InRow G .i64 e.va e.vs ∧ InRow G .u64 e.la e.ls
theorem Evs.at_ {G : Addr → Option AV} {v : AV} {es : List Ev} (hv : Evs G v es) {i : Nat} (hi : i < es.length) (M : AMem) (hM : M.g = G) :
    ∃ p, IsP p ∧ opI (.indexAddrS 10) [v, .int .i64 i] M = some (.val (padd p 0) M) ∧ ∀ o x, (ev es i).cells[o]? = some x → opI (.load false 1) [padd p o] M = some (.val x M) := by
  obtain ⟨p, h1, h2, _, h3⟩ := (hv.1 M hM).at_ (i := i) (by rw [List.length_map]; exact hi) (by omega)
  rw [List.getElem_map, ev_at hi] at h3
  exact ⟨p, h1, h2, h3⟩
theorem Evs.len {G : Addr → Option AV} {v : AV} {es : List Ev} (hv : Evs G v es) (M : AMem) (hM : M.g = G) : opI .lenS [v] M = some (.val (.int .i64 es.length) M) := by
  have := (hv.1 M hM).len
  rwa [List.length_map] at this
theorem Evs.ev {G : Addr → Option AV} {v : AV} {es : List Ev} (hv : Evs G v es) {i : Nat} (hi : i < es.length) : InRow G .i64 (ev es i).va (ev es i).vs ∧ InRow G .u64 (ev es i).la (ev es i).ls := by
  rw [← ev_at hi]; exact hv.2 _ (List.getElem_mem hi)
/-- Rows of spans of our own, whatever stands in their lists. -/
def Shape (M0 M : AMem) (v : AV) (n : Nat) : Prop :=
  ∃ els, FreshE M0 M 10 v els ∧ (∀ b, sbOf v = some b → ∃ cs g, M.get b = some (.cells cs 10 true g) ∧ cs ≠ []) ∧ els.length = n ∧ ∀ e ∈ els, ∃ s, IsSp M0 M e s ∧ s.vs.length ≤ 100 ∧ s.ls.length ≤ 100
theorem Solo.write {M0 M M' : AMem} {k k2 : IntKind} {v : AV} {xs ys : List Int} {b j sz : Nat} {x : Int} (h : Solo M0 M k v xs) (hg : M.get b = some (.cells (ys.map (AV.int k2 ·)) sz true none)) (hne : ys ≠ []) (hg' : M'.get b = some (.cells ((ys.set j x).map (AV.int k2 ·)) sz true none)) (hk : ∀ c, c ≠ b → M'.get c = M.get c) :
    ∃ xs', xs'.length = xs.length ∧ Solo M0 M' k v xs' := by
  rcases h with ⟨rfl, rfl⟩ | ⟨b0, gr, sz0, rfl, h1, h2, h3, h4⟩
  · exact ⟨[], rfl, .inl ⟨rfl, rfl⟩⟩
  · by_cases hb : b0 = b
    · subst hb
      rw [hg] at h2
      simp only [Option.some.injEq, ABlk.cells.injEq, and_true] at h2
      obtain ⟨h2, h5⟩ := h2
      subst h5
      have hl : ys.length = xs.length := by have := congrArg List.length h2; simpa using this
      cases ys with
      | nil => exact absurd rfl hne
      | cons y ys =>
        cases xs with
        | nil => simp at hl
        | cons z xs =>
          simp only [List.map_cons, List.cons.injEq, AV.int.injEq] at h2
          obtain ⟨⟨rfl, rfl⟩, h2⟩ := h2
          exact ⟨(y :: ys).set j x, by rw [List.length_set]; exact hl, .inr ⟨b0, gr, sz, by rw [List.length_set, hl], h1, hg', h3, fun _ => h4 (by simp)⟩⟩
    · exact ⟨xs, rfl, .inr ⟨b0, gr, sz0, rfl, h1, (hk b0 hb).trans h2, h3, h4⟩⟩
theorem opI_xor {k : IntKind} {a b : Int} {M : AMem} : ∃ y, opI (.bin .xor) [.int k a, .int k b] M = some (.val (.int k y) M) := by
  refine ⟨wrapF k (BitVec.ofInt k.bits a ^^^ BitVec.ofInt k.bits b).toNat, ?_⟩
  simp only [opI, binI, intI, if_true]
/-- A number of a row that stands alone is written. -/
theorem Shape.write {M0 M : AMem} {k : IntKind} {sv va : AV} {n j : Nat} {xs : List Int} {x : Int} (h : Step M0 M) (hs : Shape M0 M sv n) (hv : Solo M0 M k va xs) (hj : j < xs.length) :
    ∃ b M', opI (.indexAddrS 1) [va, .int .i64 j] M = some (.val (.ptr (some (b, j * 1))) M) ∧ opI (.load false 1) [.ptr (some (b, j * 1))] M = some (.val (.int k xs[j]) M) ∧ opI (.store 1) [.ptr (some (b, j * 1)), .int k x] M = some (.val (.tuple []) M') ∧ Step M0 M' ∧ Shape M0 M' sv n := by
  have hne : xs ≠ [] := fun he => by subst he; simp at hj
  rcases hv with ⟨rfl, rfl⟩ | ⟨b, gr, sz, rfl, h1, h2, h3, h4⟩
  · exact absurd rfl hne
  have hsz := h4 hne
  subst hsz
  have e0 : j * 1 = j := by omega
  obtain ⟨f1, s2, g2, k2⟩ := store1 (o := j * 1) (x := .int k x) h h1 h2 ⟨rfl, rfl⟩ (by simp; omega)
  rw [show (xs.map (AV.int k ·)).set (j * 1) (AV.int k x) = (xs.set j x).map (AV.int k ·) by rw [e0, List.map_set]] at f1 s2 g2 k2
  refine ⟨b, _, ?_, load_own h2 (by rw [e0]; simp [hj]), f1, s2, ?_⟩
  · simp only [opI]
    rw [if_pos ⟨by omega, by omega⟩]
    simp
  obtain ⟨els, q1, q2, q3, q4⟩ := hs
  have hsb : sbOf sv ≠ some b := fun he => by
    obtain ⟨cs, g, r1, _⟩ := q2 b he
    rw [h2] at r1; cases r1
  refine ⟨els, q1.imp (fun ho => OwnE.other ho k2 hsb) id, fun b' hb' => ?_, q3, fun e he => ?_⟩
  · obtain ⟨cs, g, r1, r2⟩ := q2 b' hb'
    exact ⟨cs, g, (k2 b' (fun he => hsb (by rw [hb', he]))).trans r1, r2⟩
  · obtain ⟨s, ⟨va', la', r1, r2, r3⟩, r4, r5⟩ := q4 e he
    obtain ⟨xs', t1, t2⟩ := Solo.write r2 h2 hne g2 k2
    obtain ⟨ys', u1, u2⟩ := Solo.write r3 h2 hne g2 k2
    exact ⟨{ s with vs := xs', ls := ys' }, ⟨va', la', r1, t2, u2⟩, by show xs'.length ≤ 100; omega, by show ys'.length ≤ 100; omega⟩
theorem Shape.at_ {M0 M : AMem} {sv : AV} {n i : Nat} (h : Step M0 M) (hs : Shape M0 M sv n) (hi : i < n) :
    ∃ p va la xs ys, IsP p ∧ opI (.indexAddrS 10) [sv, .int .i64 i] M = some (.val (padd p 0) M) ∧ opI (.load false 1) [padd p 6] M = some (.val va M) ∧ opI (.load false 1) [padd p 9] M = some (.val la M) ∧ Solo M0 M .i64 va xs ∧ Solo M0 M .u64 la ys ∧ xs.length ≤ 100 ∧ ys.length ≤ 100 := by
  obtain ⟨els, q1, q2, q3, q4⟩ := hs
  have hil : i < els.length := by omega
  obtain ⟨s, ⟨va, la, r1, r2, r3⟩, r4, r5⟩ := q4 els[i] (List.getElem_mem hil)
  obtain ⟨p, pp, p1, _, p2⟩ := (q1.row h.ok.1).at_ hil (by omega)
  rw [r1] at p2
  exact ⟨p, va, la, s.vs, s.ls, pp, p1, p2 6 _ rfl, p2 9 _ rfl, r2, r3, r4, r5⟩
theorem Shape.len {M0 M : AMem} {sv : AV} {n : Nat} (h : Step M0 M) (hs : Shape M0 M sv n) : opI .lenS [sv] M = some (.val (.int .i64 n) M) := by
  obtain ⟨els, q1, q2, q3, q4⟩ := hs
  rw [← q3]; exact (q1.row h.ok.1).len
theorem Solo.len {M0 M : AMem} {k : IntKind} {v : AV} {xs : List Int} (h : Solo M0 M k v xs) (hok : Ok M) : opI .lenS [v] M = some (.val (.int .i64 xs.length) M) := (h.row hok).len
theorem sp_bd {es : List Ev} (he : ∀ e ∈ es, e.vs.length ≤ 100 ∧ e.ls.length ≤ 100) : ∀ s ∈ refSp es es.length, s.vs.length ≤ 100 ∧ s.ls.length ≤ 100 := by
  have hev : ∀ i, (ev es i).vs.length ≤ 100 ∧ (ev es i).ls.length ≤ 100 := fun i => by
    unfold ev
    rw [List.getD_eq_getElem?_getD]
    cases h : es[i]? with
    | none => exact ⟨by simp [dE], by simp [dE]⟩
    | some e => exact he e (List.mem_of_getElem? h)
  have hto : ∀ i m, (spanTo es i m).vs.length ≤ 100 ∧ (spanTo es i m).ls.length ≤ 100 := fun i m => by
    induction m with
    | zero => exact ⟨(hev i).1, by simp [spanTo, beg]⟩
    | succ m ih =>
      show (updS _ _ _).vs.length ≤ 100 ∧ (updS _ _ _).ls.length ≤ 100
      unfold updS
      split
      · exact ⟨ih.1, (hev _).2⟩
      · exact ih
  have key : ∀ n, ∀ s ∈ refSp es n, s.vs.length ≤ 100 ∧ s.ls.length ≤ 100 := fun n => by
    induction n with
    | zero => intro s hs; simp [refSp] at hs
    | succ n ih =>
      intro s hs
      unfold refSp at hs
      split at hs
      · exact ih s hs
      · rcases List.mem_append.1 hs with hs | hs
        · exact ih s hs
        · simp only [List.mem_singleton] at hs; subst hs; exact hto _ _
  exact key _

set_option maxRecDepth 20000 in
set_option maxHeartbeats 8000000 in
theorem diarySpans_ok {v : AV} {es : List Ev} (d : Nat) (M0 : AMem) (hok : Okg M0) (hv : Evs M0.g v es) :
    Ans (callF tbl code 100000 (d + 6)) 3 [v] M0 fun r _ => r = .bool true := by
  refine Ans_of (tbl_none (by decide) _) (show code 3 = some c3 from by kernel_rfl) (by simp) fun t hd ha => ?_
  have h0 := ha 0 _ rfl
  clear ha
  have haw : callF tbl code 100000 (d + 5) 5 [] M0 = some (.bool true, M0) := rfl
  have lv := hv.len M0 rfl
  refine W_seq (W_seqR (by simp only [runSeq_cons, runSeq_nil, evalArgs_nil, evalArgs_const, val1, putT, opI_move]; rfl) ?_)
  refine W_seq (W_seq (W_seqR (by simp only [runSeq_cons, runSeq_nil, evalArgs_nil, evalArgs_tmp, val1, putT, Tr.get_set_self, Tr.get_set_ne, hd _, ne_eq, Nat.reduceEqDiff, not_false_eq_true, decide_true, Nat.reduceLT, opI_not, opI_callF, haw]; rfl) ?_))
  refine W_cond (b := false) (by simp only [PArg.eval, Tr.get_set_self, Tr.get_set_ne, hd _, ne_eq, Nat.reduceEqDiff, not_false_eq_true, decide_true, Nat.reduceLT]; try rfl) (fun hb => by cases hb) (fun _ => W_skip ?_)
  show W _ _
  refine W_seq (W_seq (W_seqR (by simp only [runSeq_cons, runSeq_nil, evalArgs_nil, evalArgs_tmp, evalArgs_const, val1, putT, Tr.get_set_self, Tr.get_set_ne, hd _, ne_eq, Nat.reduceEqDiff, not_false_eq_true, decide_true, Nat.reduceLT, opI_move, opI_gtr, h0, lv]; rfl) ?_))
  refine W_cond (by simp only [PArg.eval, Tr.get_set_self, Tr.get_set_ne, hd _, ne_eq, Nat.reduceEqDiff, not_false_eq_true, decide_true, Nat.reduceLT]; rfl) (fun _ => ?_) (fun hb => W_skip ?_)
  · refine W_seq (W_seqR (by simp only [runSeq_cons, runSeq_nil, evalArgs_nil, evalArgs_const, val1, putT, opI_move]; rfl) (W_ret ?_))
    exact ⟨_, fin_tmp (by simp only [Tr.get_set_self, Tr.get_set_ne, Option.isSome_some, hd _, ne_eq, Nat.reduceEqDiff, not_false_eq_true, decide_true, Nat.reduceLT]; try rfl), rfl⟩
  have hn : es.length ≤ 200 := by simp at hb; omega
  clear hb
  show W _ _
  refine W_seq (W_seq (W_seqR (by simp only [runSeq_cons, runSeq_nil, evalArgs_nil, evalArgs_const, val1, putT, opI_move]; rfl) (W_block (W_loop (fun k t M' => ∃ (i : Nat), k + i = es.length ∧ M' = M0 ∧ (∀ j, j < i → (ev es j).vs.length ≤ 100 ∧ (ev es j).ls.length ≤ 100) ∧ Dom t 146 ∧ t.get 0 = some v ∧ t.get 3 = some (.int .i64 i)) (k := es.length) (by omega) ?_ ?_))))
  · exact ⟨0, rfl, rfl, fun j hj => by omega, by ((repeat (with_reducible apply Dom.set)); exact hd), by simp only [Tr.get_set_ne, ne_eq, Nat.reduceEqDiff, not_false_eq_true, h0], by simp only [Tr.get_set_self, Tr.get_set_ne, hd _, ne_eq, Nat.reduceEqDiff, not_false_eq_true, decide_true, Nat.reduceLT]; rfl⟩
  clear h0 hd haw lv
  intro k t M ⟨i, hk, hM, hbd, hd, h0, h3⟩
  subst hM
  have lv := hv.len M rfl
  refine W_seq (W_seq (W_seqR (by simp only [runSeq_cons, runSeq_nil, evalArgs_nil, evalArgs_tmp, val1, putT, Tr.get_set_self, Tr.get_set_ne, hd _, ne_eq, Nat.reduceEqDiff, not_false_eq_true, decide_true, Nat.reduceLT, opI_move, opI_lss, h0, h3, lv]; rfl) ?_))
  refine W_cond (by simp only [PArg.eval, Tr.get_set_self, Tr.get_set_ne, hd _, ne_eq, Nat.reduceEqDiff, not_false_eq_true, decide_true, Nat.reduceLT]; rfl) (fun hb => W_skip ?_) (fun hb => ?_)
  · have hin : i < es.length := by simpa using hb
    obtain ⟨p, pp, p1, p2⟩ := hv.at_ hin M rfl
    have P6 := p2 6 _ rfl
    have P9 := p2 9 _ rfl
    have l6 := ((hv.ev hin).1 M rfl).len
    have l9 := ((hv.ev hin).2 M rfl).len
    by_cases c1 : ((ev es i).vs.length : Int) > 100
    · refine W_seq (W_block (W_seq (W_seqR (by simp only [runSeq_cons, runSeq_nil, evalArgs_nil, evalArgs_tmp, evalArgs_const, val1, putT, Tr.get_set_self, Tr.get_set_ne, Tr.isSome_set, hd _, ne_eq, Nat.reduceEqDiff, not_false_eq_true, decide_true, Nat.reduceLT, opI_move, opI_gtr, opI_pick, Nat.zero_add, Nat.reduceAdd, runSeq_guard (b := true), Bool.true_beq, h0, h3, p1, opI_fieldQ pp, P6, l6, c1]; rfl) ?_)))
      refine W_cond (b := true) (by simp only [PArg.eval, Tr.get_set_self, Tr.get_set_ne, hd _, ne_eq, Nat.reduceEqDiff, not_false_eq_true, decide_true, Nat.reduceLT]; try rfl) (fun _ => ?_) (fun hb => by cases hb)
      refine W_seq (W_seqR (by simp only [runSeq_cons, runSeq_nil, evalArgs_nil, evalArgs_const, val1, putT, opI_move]; rfl) (W_ret ?_))
      exact ⟨_, fin_tmp (by simp only [Tr.get_set_self, Tr.get_set_ne, hd _, ne_eq, Nat.reduceEqDiff, not_false_eq_true, decide_true, Nat.reduceLT]; try rfl), rfl⟩
    by_cases c2 : ((ev es i).ls.length : Int) > 100
    · refine W_seq (W_block (W_seq (W_seqR (by simp only [runSeq_cons, runSeq_nil, evalArgs_nil, evalArgs_tmp, evalArgs_const, val1, putT, Tr.get_set_self, Tr.get_set_ne, Tr.isSome_set, hd _, ne_eq, Nat.reduceEqDiff, not_false_eq_true, decide_true, Nat.reduceLT, opI_move, opI_gtr, opI_pick, Nat.zero_add, Nat.reduceAdd, runSeq_guard (b := false), beq_self_eq_true, h0, h3, p1, opI_fieldQ pp, P6, P9, l6, l9, c1, c2, decide_false]; rfl) ?_)))
      refine W_cond (b := true) (by simp only [PArg.eval, Tr.get_set_self, Tr.get_set_ne, hd _, ne_eq, Nat.reduceEqDiff, not_false_eq_true, decide_true, Nat.reduceLT]; try rfl) (fun _ => ?_) (fun hb => by cases hb)
      refine W_seq (W_seqR (by simp only [runSeq_cons, runSeq_nil, evalArgs_nil, evalArgs_const, val1, putT, opI_move]; rfl) (W_ret ?_))
      exact ⟨_, fin_tmp (by simp only [Tr.get_set_self, Tr.get_set_ne, hd _, ne_eq, Nat.reduceEqDiff, not_false_eq_true, decide_true, Nat.reduceLT]; try rfl), rfl⟩
    refine W_seq (W_block (W_seq (W_seqR (by simp only [runSeq_cons, runSeq_nil, evalArgs_nil, evalArgs_tmp, evalArgs_const, val1, putT, Tr.get_set_self, Tr.get_set_ne, Tr.isSome_set, hd _, ne_eq, Nat.reduceEqDiff, not_false_eq_true, decide_true, Nat.reduceLT, opI_move, opI_gtr, opI_pick, Nat.zero_add, Nat.reduceAdd, runSeq_guard (b := false), beq_self_eq_true, h0, h3, p1, opI_fieldQ pp, P6, P9, l6, l9, c1, c2, decide_false]; rfl) ?_)))
    refine W_cond (b := false) (by simp only [PArg.eval, Tr.get_set_self, Tr.get_set_ne, hd _, ne_eq, Nat.reduceEqDiff, not_false_eq_true, decide_true, Nat.reduceLT]; try rfl) (fun hb => by cases hb) (fun _ => W_skip ?_)
    show W _ _
    refine W_seqR (by simp only [runSeq_cons, runSeq_nil, evalArgs_nil, evalArgs_tmp, evalArgs_const, val1, putT, Tr.get_set_self, Tr.get_set_ne, hd _, ne_eq, Nat.reduceEqDiff, not_false_eq_true, decide_true, Nat.reduceLT, opI_move, opI_add, h3]; rfl) ?_
    refine ⟨k - 1, by omega, i + 1, by omega, rfl, fun j hj => ?_, by ((repeat (with_reducible apply Dom.set)); exact hd), by simp only [Tr.get_set_ne, ne_eq, Nat.reduceEqDiff, not_false_eq_true, h0], ?_⟩
    · rcases Nat.lt_or_ge j i with h | h
      · exact hbd j h
      · rw [show j = i by omega]; exact ⟨by omega, by omega⟩
    · simp only [Tr.get_set_self, Tr.get_set_ne, hd _, ne_eq, Nat.reduceEqDiff, not_false_eq_true, decide_true, Nat.reduceLT]
      rw [wrapF_small (by omega) (by omega)]; rfl
  have hi : i = es.length := by simp at hb; omega
  subst hi
  refine W_exit ?_
  show W _ _
  have hbd' : ∀ e ∈ es, e.vs.length ≤ 100 ∧ e.ls.length ≤ 100 := fun e he => by
    obtain ⟨j, hj, rfl⟩ := List.mem_iff_getElem.1 he
    rw [ev_at hj]; exact hbd j hj
  have hi : InEvs M.g v es := ⟨hv.1, fun e he => ⟨(hv.2 e he).1, (hv.2 e he).2, (hbd' e he).1, (hbd' e he).2⟩⟩
  clear hbd hb lv hk h3
  have hspec := run_spec (es := es) (by omega)
  obtain ⟨r1, M1, c1, s1, hp1⟩ := spans_ok (d + 1) M hok hi (by omega)
  obtain ⟨_, M2, c2, s2, rfl⟩ := right_ok d M1 s1.ok (by rw [s1.grow.g]; exact hi) (by omega)
  have t2 := s1.trans s2
  obtain ⟨_, M3, c3, s3, b3, rfl, hb3⟩ := refright_ok (d + 2) M2 t2.ok (by rw [t2.grow.g]; exact hi) (by omega)
  have t3 := t2.trans s3
  obtain ⟨_, M4, c4, s4, b4, rfl, hb4⟩ := refright_ok (d + 2) M3 t3.ok (by rw [t3.grow.g]; exact hi) (by omega)
  have t4 := t3.trans s4
  cases hr : runP 0 init es with
  | none =>
    rw [hr] at hspec hp1 c2
    simp only at hspec hp1
    subst hp1
    have e3 : b3 = false := by cases b3 <;> simp_all
    have e4 : b4 = false := by cases b4 <;> simp_all
    subst e3 e4
    rw [Option.isSome_none] at c2
    have e0 : opI .lenS [.slice none 0 0 false] M4 = some (.val (.int .i64 0) M4) := rfl
    refine W_seq (W_seqR (by simp only [runSeq_cons, runSeq_nil, evalArgs_nil, evalArgs_tmp, val1, putT, Tr.get_set_self, Tr.get_set_ne, hd _, ne_eq, Nat.reduceEqDiff, not_false_eq_true, decide_true, Nat.reduceLT, opI_move, opI_extract, opI_callF, h0, c1, List.getElem?_cons_zero, List.getElem?_cons_succ]; rfl) ?_)
    refine W_seq (W_seq (W_seqR (by simp only [runSeq_cons, runSeq_nil, evalArgs_nil, evalArgs_tmp, val1, putT, Tr.get_set_self, Tr.get_set_ne, hd _, ne_eq, Nat.reduceEqDiff, not_false_eq_true, decide_true, Nat.reduceLT, opI_move, opI_eqBool, opI_callF, h0, c2, c3]; rfl) ?_))
    refine W_cond (b := false) (by simp only [PArg.eval, Tr.get_set_self, Tr.get_set_ne, hd _, ne_eq, Nat.reduceEqDiff, not_false_eq_true, decide_true, Nat.reduceLT]; try rfl) (fun hb => by cases hb) (fun _ => W_skip ?_)
    show W _ _
    refine W_seq (W_seq (W_seqR (by simp only [runSeq_cons, runSeq_nil, evalArgs_nil, evalArgs_tmp, val1, putT, Tr.get_set_self, Tr.get_set_ne, hd _, ne_eq, Nat.reduceEqDiff, not_false_eq_true, decide_true, Nat.reduceLT, opI_move, opI_not, opI_callF, h0, c4]; rfl) ?_))
    refine W_cond (b := true) (by simp only [PArg.eval, Tr.get_set_self, Tr.get_set_ne, hd _, ne_eq, Nat.reduceEqDiff, not_false_eq_true, decide_true, Nat.reduceLT]; try rfl) (fun _ => ?_) (fun hb => by cases hb)
    have z0 : ((((0 : Nat)) : Int) == 0) = true := rfl
    refine W_seq (W_seqR (by simp only [runSeq_cons, runSeq_nil, evalArgs_nil, evalArgs_tmp, evalArgs_const, val1, putT, Tr.get_set_self, Tr.get_set_ne, Tr.isSome_set, hd _, ne_eq, Nat.reduceEqDiff, not_false_eq_true, decide_true, Nat.reduceLT, opI_move, opI_eql, opI_pick, runSeq_guard (b := true), beq_self_eq_true, Bool.not_false, e0]; rfl) (W_ret ?_))
    exact ⟨_, fin_tmp (by simp only [Tr.get_set_self, Tr.get_set_ne, hd _, ne_eq, Nat.reduceEqDiff, not_false_eq_true, decide_true, Nat.reduceLT]; try rfl), rfl⟩
  | some st =>
    rw [hr] at hspec hp1 c2
    simp only at hspec hp1
    obtain ⟨hright, hsp⟩ := hspec
    obtain ⟨sv, rfl, hrow⟩ := hp1
    rw [hsp] at hrow
    have e3 : b3 = true := hb3.2 hright
    have e4 : b4 = true := hb4.2 hright
    subst e3 e4
    rw [Option.isSome_some] at c2
    refine W_seq (W_seqR (by simp only [runSeq_cons, runSeq_nil, evalArgs_nil, evalArgs_tmp, val1, putT, Tr.get_set_self, Tr.get_set_ne, hd _, ne_eq, Nat.reduceEqDiff, not_false_eq_true, decide_true, Nat.reduceLT, opI_move, opI_extract, opI_callF, h0, c1, List.getElem?_cons_zero, List.getElem?_cons_succ]; rfl) ?_)
    refine W_seq (W_seq (W_seqR (by simp only [runSeq_cons, runSeq_nil, evalArgs_nil, evalArgs_tmp, val1, putT, Tr.get_set_self, Tr.get_set_ne, hd _, ne_eq, Nat.reduceEqDiff, not_false_eq_true, decide_true, Nat.reduceLT, opI_move, opI_eqBool, opI_callF, h0, c2, c3]; rfl) ?_))
    refine W_cond (b := false) (by simp only [PArg.eval, Tr.get_set_self, Tr.get_set_ne, hd _, ne_eq, Nat.reduceEqDiff, not_false_eq_true, decide_true, Nat.reduceLT]; try rfl) (fun hb => by cases hb) (fun _ => W_skip ?_)
    show W _ _
    refine W_seq (W_seq (W_seqR (by simp only [runSeq_cons, runSeq_nil, evalArgs_nil, evalArgs_tmp, val1, putT, Tr.get_set_self, Tr.get_set_ne, hd _, ne_eq, Nat.reduceEqDiff, not_false_eq_true, decide_true, Nat.reduceLT, opI_move, opI_not, opI_callF, h0, c4]; rfl) ?_))
    refine W_cond (b := false) (by simp only [PArg.eval, Tr.get_set_self, Tr.get_set_ne, hd _, ne_eq, Nat.reduceEqDiff, not_false_eq_true, decide_true, Nat.reduceLT]; try rfl) (fun hb => by cases hb) (fun _ => W_skip ?_)
    show W _ _
    obtain ⟨r5, M5, c5, s5, hrow5⟩ := refspans_ok (d + 4) M4 t4.ok (by rw [t4.grow.g]; exact hi) (by omega)
    have t5 := t4.trans s5
    have g15 := (s2.trans (s3.trans (s4.trans s5))).grow
    have hbnd := sp_bd hbd'
    have hlsp := refSp_len (es := es) (i := es.length)
    obtain ⟨_, M6, c6, s6, rfl⟩ := samespans_ok (d + 2) M5 ((hrow.rd s1.ok.1).grow g15) hrow5 t5.ok (by omega) (fun s hs => by have := hbnd s hs; omega)
    have t6 := t5.trans s6
    rw [decide_eq_true rfl] at c6
    have z0 : ((0 : Int) != 0) = false := rfl
    refine W_seq (W_seq (W_seqR (by simp only [runSeq_cons, runSeq_nil, evalArgs_nil, evalArgs_tmp, evalArgs_const, val1, putT, Tr.get_set_self, Tr.get_set_ne, Tr.isSome_set, hd _, ne_eq, Nat.reduceEqDiff, not_false_eq_true, decide_true, Nat.reduceLT, opI_move, opI_not, opI_neq, opI_callF, opI_pick, runSeq_guard (b := false), beq_self_eq_true, Bool.not_true, h0, c5, c6, z0]; rfl) ?_))
    refine W_cond (b := false) (by simp only [PArg.eval, Tr.get_set_self, Tr.get_set_ne, hd _, ne_eq, Nat.reduceEqDiff, not_false_eq_true, decide_true, Nat.reduceLT]; try rfl) (fun hb => by cases hb) (fun _ => W_skip ?_)
    show W _ _
    have hshape : Shape M M6 sv (refSp es es.length).length := by
      obtain ⟨els, q1, q2, q3, q4⟩ := hrow.grow s1.ok.1 (g15.trans s6.grow)
      refine ⟨els, q1, q2, q3, fun e he => ?_⟩
      obtain ⟨j, hj, rfl⟩ := List.mem_iff_getElem.1 he
      have hj' : j < (refSp es es.length).length := by omega
      obtain ⟨e, r1, r2⟩ := q4 j _ (List.getElem?_eq_getElem hj')
      rw [List.getElem?_eq_getElem hj] at r1
      cases r1
      exact ⟨_, r2, hbnd _ (List.getElem_mem hj')⟩
    have lS := Shape.len t6 hshape
    clear hrow hrow5 c1 c2 c3 c4 c5 c6
    refine W_seq (W_seq (W_seqR (by simp only [runSeq_cons, runSeq_nil, evalArgs_nil, evalArgs_const, val1, putT, opI_move]; rfl) (W_block (W_loop (fun k t M' => ∃ (i : Nat), k + i = (refSp es es.length).length ∧ Step M M' ∧ Shape M M' sv (refSp es es.length).length ∧ Dom t 146 ∧ t.get 0 = some v ∧ t.get 4 = some sv ∧ t.get 6 = some (.int .i64 i)) (k := (refSp es es.length).length) (by omega) ?_ ?_))))
    · exact ⟨0, rfl, t6, hshape, by ((repeat (with_reducible apply Dom.set)); exact hd), by simp only [Tr.get_set_ne, ne_eq, Nat.reduceEqDiff, not_false_eq_true, h0], by simp only [Tr.get_set_self, Tr.get_set_ne, hd _, ne_eq, Nat.reduceEqDiff, not_false_eq_true, decide_true, Nat.reduceLT], by simp only [Tr.get_set_self, Tr.get_set_ne, hd _, ne_eq, Nat.reduceEqDiff, not_false_eq_true, decide_true, Nat.reduceLT]; rfl⟩
    clear h0 hd lS hshape
    intro k t M7 ⟨i, hk, s7, hs7, hd, h0, h4, h6⟩
    have lS := Shape.len s7 hs7
    refine W_seq (W_seq (W_seqR (by simp only [runSeq_cons, runSeq_nil, evalArgs_nil, evalArgs_tmp, val1, putT, Tr.get_set_self, Tr.get_set_ne, hd _, ne_eq, Nat.reduceEqDiff, not_false_eq_true, decide_true, Nat.reduceLT, opI_move, opI_lss, h4, h6, lS]; rfl) ?_))
    refine W_cond (by simp only [PArg.eval, Tr.get_set_self, Tr.get_set_ne, hd _, ne_eq, Nat.reduceEqDiff, not_false_eq_true, decide_true, Nat.reduceLT]; rfl) (fun hb => W_skip ?_) (fun hb => ?_)
    rotate_left
    · refine W_exit ?_
      show W _ _
      obtain ⟨r8, M8, c8, s8, hp8⟩ := spans_ok (d + 1) M7 s7.ok (by rw [s7.grow.g]; exact hi) (by omega)
      have t8 := s7.trans s8
      rw [hr] at hp8
      simp only at hp8
      obtain ⟨sv8, rfl, hrow8⟩ := hp8
      rw [hsp] at hrow8
      obtain ⟨r9, M9, c9, s9, hrow9⟩ := refspans_ok (d + 4) M8 t8.ok (by rw [t8.grow.g]; exact hi) (by omega)
      have t9 := t8.trans s9
      obtain ⟨_, M10, c10, s10, rfl⟩ := samespans_ok (d + 2) M9 ((hrow8.rd s8.ok.1).grow s9.grow) hrow9 t9.ok (by omega) (fun s hs => by have := hbnd s hs; omega)
      rw [decide_eq_true rfl] at c10
      have z1 : ((0 : Int) == 0) = true := rfl
      refine W_seq (W_seqR (by simp only [runSeq_cons, runSeq_nil, evalArgs_nil, evalArgs_tmp, val1, putT, Tr.get_set_self, Tr.get_set_ne, hd _, ne_eq, Nat.reduceEqDiff, not_false_eq_true, decide_true, Nat.reduceLT, opI_move, opI_extract, opI_callF, h0, c8, List.getElem?_cons_zero, List.getElem?_cons_succ]; rfl) ?_)
      refine W_seq (W_seqR (by simp only [runSeq_cons, runSeq_nil, evalArgs_nil, evalArgs_tmp, evalArgs_const, val1, putT, Tr.get_set_self, Tr.get_set_ne, Tr.isSome_set, hd _, ne_eq, Nat.reduceEqDiff, not_false_eq_true, decide_true, Nat.reduceLT, opI_move, opI_eql, opI_callF, opI_pick, runSeq_guard (b := true), beq_self_eq_true, h0, c9, c10]; rfl) (W_ret ?_))
      exact ⟨_, fin_tmp (by simp only [Tr.get_set_self, Tr.get_set_ne, hd _, ne_eq, Nat.reduceEqDiff, not_false_eq_true, decide_true, Nat.reduceLT]; try rfl), rfl⟩
    have hin : i < (refSp es es.length).length := by simpa using hb
    refine W_seq (W_block (W_seq (W_seq (W_seqR (by simp only [runSeq_cons, runSeq_nil, evalArgs_nil, evalArgs_const, val1, putT, opI_move]; rfl) (W_block (W_loop (fun kk t M' => ∃ (j : Nat), kk + j = 200 ∧ Step M M' ∧ Shape M M' sv (refSp es es.length).length ∧ Dom t 146 ∧ t.get 0 = some v ∧ t.get 4 = some sv ∧ t.get 6 = some (.int .i64 i) ∧ t.get 7 = some (.int .i64 j)) (k := 200) (by omega) ?_ ?_))))))
    · exact ⟨0, rfl, s7, hs7, by ((repeat (with_reducible apply Dom.set)); exact hd), by simp only [Tr.get_set_ne, ne_eq, Nat.reduceEqDiff, not_false_eq_true, h0], by simp only [Tr.get_set_ne, ne_eq, Nat.reduceEqDiff, not_false_eq_true, h4], by simp only [Tr.get_set_ne, ne_eq, Nat.reduceEqDiff, not_false_eq_true, h6], by simp only [Tr.get_set_self, Tr.get_set_ne, hd _, ne_eq, Nat.reduceEqDiff, not_false_eq_true, decide_true, Nat.reduceLT]; rfl⟩
    clear h0 h4 h6 hd lS s7 hs7 t M7
    intro kk t M7 ⟨j, hkk, s7, hs7, hd, h0, h4, h6, h7⟩
    obtain ⟨p, va, la, xs, ys, pp, p1, p6, p9, ov, ol, hxs, hys⟩ := Shape.at_ s7 hs7 hin
    have lx := Solo.len ov s7.ok.1
    refine W_seq (W_seq (W_seqR (by simp only [runSeq_cons, runSeq_nil, evalArgs_nil, evalArgs_tmp, val1, putT, Tr.get_set_self, Tr.get_set_ne, hd _, ne_eq, Nat.reduceEqDiff, not_false_eq_true, decide_true, Nat.reduceLT, opI_move, opI_lss, Nat.zero_add, Nat.reduceAdd, h4, h6, h7, p1, opI_fieldQ pp, p6, lx]; rfl) ?_))
    refine W_cond (by simp only [PArg.eval, Tr.get_set_self, Tr.get_set_ne, hd _, ne_eq, Nat.reduceEqDiff, not_false_eq_true, decide_true, Nat.reduceLT]; rfl) (fun hb => W_skip ?_) (fun hb => ?_)
    · have hj : j < xs.length := by simpa using hb
      obtain ⟨y, hy⟩ := opI_xor (k := .i64) (a := xs[j]) (b := 1) (M := M7)
      obtain ⟨b, M8, f1, f2, f3, s8, hs8⟩ := Shape.write (x := y) s7 hs7 ov hj
      have hh := held_none s7.ok.1
      refine W_seq (W_block (W_mix rfl (by simp only [sameN_self, evalArgs_nil, evalArgs_tmp, evalArgs_const, val1, putT, Tr.get_set_self, Tr.get_set_ne, hd _, ne_eq, Nat.reduceEqDiff, not_false_eq_true, decide_true, Nat.reduceLT, opI_move, Nat.zero_add, Nat.reduceAdd, runMix_nil, runMix_read, runMix_eff, h4, h6, h7, p1, opI_fieldQ pp, p6, f1, f2, hy, f3, hh]; rfl) ?_))
      show W _ _
      refine W_seqR (by simp only [runSeq_cons, runSeq_nil, evalArgs_nil, evalArgs_tmp, evalArgs_const, val1, putT, Tr.get_set_self, Tr.get_set_ne, hd _, ne_eq, Nat.reduceEqDiff, not_false_eq_true, decide_true, Nat.reduceLT, opI_move, opI_add, h7]; rfl) ?_
      refine ⟨kk - 1, by omega, j + 1, by omega, s8, hs8, by ((repeat (with_reducible apply Dom.set)); exact hd), by simp only [Tr.get_set_ne, ne_eq, Nat.reduceEqDiff, not_false_eq_true, h0], by simp only [Tr.get_set_ne, ne_eq, Nat.reduceEqDiff, not_false_eq_true, h4], by simp only [Tr.get_set_ne, ne_eq, Nat.reduceEqDiff, not_false_eq_true, h6], ?_⟩
      simp only [Tr.get_set_self, Tr.get_set_ne, hd _, ne_eq, Nat.reduceEqDiff, not_false_eq_true, decide_true, Nat.reduceLT]
      rw [wrapF_small (by omega) (by omega)]; rfl
    refine W_exit ?_
    show W _ _
    clear p1 p6 p9 ov ol lx hb h7 hkk
    refine W_seq (W_seqR (by simp only [runSeq_cons, runSeq_nil, evalArgs_nil, evalArgs_const, val1, putT, opI_move]; rfl) (W_block (W_loop (fun kk t M' => ∃ (j : Nat), kk + j = 200 ∧ Step M M' ∧ Shape M M' sv (refSp es es.length).length ∧ Dom t 146 ∧ t.get 0 = some v ∧ t.get 4 = some sv ∧ t.get 6 = some (.int .i64 i) ∧ t.get 8 = some (.int .i64 j)) (k := 200) (by omega) ?_ ?_)))
    · exact ⟨0, rfl, s7, hs7, by ((repeat (with_reducible apply Dom.set)); exact hd), by simp only [Tr.get_set_ne, ne_eq, Nat.reduceEqDiff, not_false_eq_true, h0], by simp only [Tr.get_set_ne, ne_eq, Nat.reduceEqDiff, not_false_eq_true, h4], by simp only [Tr.get_set_ne, ne_eq, Nat.reduceEqDiff, not_false_eq_true, h6], by simp only [Tr.get_set_self, Tr.get_set_ne, hd _, ne_eq, Nat.reduceEqDiff, not_false_eq_true, decide_true, Nat.reduceLT]; rfl⟩
    clear h0 h4 h6 hd s7 hs7
    intro kk t M7 ⟨j, hkk, s7, hs7, hd, h0, h4, h6, h8⟩
    obtain ⟨p, va, la, xs, ys, pp, p1, p6, p9, ov, ol, hxs, hys⟩ := Shape.at_ s7 hs7 hin
    have lx := Solo.len ol s7.ok.1
    refine W_seq (W_seq (W_seqR (by simp only [runSeq_cons, runSeq_nil, evalArgs_nil, evalArgs_tmp, val1, putT, Tr.get_set_self, Tr.get_set_ne, hd _, ne_eq, Nat.reduceEqDiff, not_false_eq_true, decide_true, Nat.reduceLT, opI_move, opI_lss, Nat.zero_add, Nat.reduceAdd, h4, h6, h8, p1, opI_fieldQ pp, p9, lx]; rfl) ?_))
    refine W_cond (by simp only [PArg.eval, Tr.get_set_self, Tr.get_set_ne, hd _, ne_eq, Nat.reduceEqDiff, not_false_eq_true, decide_true, Nat.reduceLT]; rfl) (fun hb => W_skip ?_) (fun hb => ?_)
    · have hj : j < ys.length := by simpa using hb
      obtain ⟨b, M8, f1, f2, f3, s8, hs8⟩ := Shape.write (x := wrapF .u64 (ys[j] + 1)) s7 hs7 ol hj
      have hh := held_none s7.ok.1
      refine W_seq (W_block (W_mix rfl (by simp only [sameN_self, evalArgs_nil, evalArgs_tmp, evalArgs_const, val1, putT, Tr.get_set_self, Tr.get_set_ne, hd _, ne_eq, Nat.reduceEqDiff, not_false_eq_true, decide_true, Nat.reduceLT, opI_move, opI_add, Nat.zero_add, Nat.reduceAdd, runMix_nil, runMix_read, runMix_eff, h4, h6, h8, p1, opI_fieldQ pp, p9, f1, f2, f3, hh]; rfl) ?_))
      show W _ _
      refine W_seqR (by simp only [runSeq_cons, runSeq_nil, evalArgs_nil, evalArgs_tmp, evalArgs_const, val1, putT, Tr.get_set_self, Tr.get_set_ne, hd _, ne_eq, Nat.reduceEqDiff, not_false_eq_true, decide_true, Nat.reduceLT, opI_move, opI_add, h8]; rfl) ?_
      refine ⟨kk - 1, by omega, j + 1, by omega, s8, hs8, by ((repeat (with_reducible apply Dom.set)); exact hd), by simp only [Tr.get_set_ne, ne_eq, Nat.reduceEqDiff, not_false_eq_true, h0], by simp only [Tr.get_set_ne, ne_eq, Nat.reduceEqDiff, not_false_eq_true, h4], by simp only [Tr.get_set_ne, ne_eq, Nat.reduceEqDiff, not_false_eq_true, h6], ?_⟩
      simp only [Tr.get_set_self, Tr.get_set_ne, hd _, ne_eq, Nat.reduceEqDiff, not_false_eq_true, decide_true, Nat.reduceLT]
      rw [wrapF_small (by omega) (by omega)]; rfl
    refine W_exit ?_
    show W _ _
    refine W_seqR (by simp only [runSeq_cons, runSeq_nil, evalArgs_nil, evalArgs_tmp, evalArgs_const, val1, putT, Tr.get_set_self, Tr.get_set_ne, hd _, ne_eq, Nat.reduceEqDiff, not_false_eq_true, decide_true, Nat.reduceLT, opI_move, opI_add, h6]; rfl) ?_
    refine ⟨k - 1, by omega, i + 1, by omega, s7, hs7, by ((repeat (with_reducible apply Dom.set)); exact hd), by simp only [Tr.get_set_ne, ne_eq, Nat.reduceEqDiff, not_false_eq_true, h0], by simp only [Tr.get_set_ne, ne_eq, Nat.reduceEqDiff, not_false_eq_true, h4], ?_⟩
    simp only [Tr.get_set_self, Tr.get_set_ne, hd _, ne_eq, Nat.reduceEqDiff, not_false_eq_true, decide_true, Nat.reduceLT]
    rw [wrapF_small (by omega) (by omega)]; rfl
end Go.Proofs.Ytgmdbnjjflaaiaa.diary
