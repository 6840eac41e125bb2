/- The walks of what is told of spans. -/
import Derived.Test.YtgjamfkmaccgaaaDiMost
namespace Go.Proofs.Ytgjamfkmaccgaaa.diary
open Go Go.Vx

/-- spans that came in, in a row -/
def InSps (G : Addr → Option AV) (v : AV) (sps : List Sp) : Prop := ∃ els, (∀ M : AMem, M.g = G → RowE M 10 v els) ∧ els.length = sps.length ∧ ∀ (i : Nat) s, sps[i]? = some s → ∃ e, els[i]? = some e ∧ InSp G e s
theorem InSps.rd {G : Addr → Option AV} {v : AV} {sps : List Sp} (h : InSps G v sps) (M : AMem) (hM : M.g = G) : RdRow M v sps := by
  obtain ⟨els, h1, h2, h3⟩ := h
  refine ⟨els, h1 M hM, h2, fun i s hs => ?_⟩
  obtain ⟨e, k1, va, la, k2, k3, k4⟩ := h3 i s hs
  exact ⟨e, k1, va, la, k2, k3 M hM, k4 M hM⟩
theorem inrow_at {G : Addr → Option AV} {v : AV} {els : List (List AV)} (hv : ∀ M : AMem, M.g = G → RowE M 10 v els) {i : Nat} (hi : i < els.length) :
    ∃ p, IsP p ∧ ∀ M : AMem, M.g = G → opI (.indexAddrS 10) [v, .int .i64 i] M = some (.val (padd p 0) M) ∧ (∀ o n, o + n ≤ 10 → opI (.load true n) [padd p o] M = some (.val (.agg ((els[i].drop o).take n)) M)) ∧ ∀ o x, els[i][o]? = some x → opI (.load false 1) [padd p o] M = some (.val x M) := by
  have h := hv ⟨.nil, 0, G⟩ rfl
  obtain ⟨_, ⟨a, c, rfl, hg⟩ | ⟨_, he⟩ | ⟨b, o, c, gr, cs, sz', wr, g, _, h1, _⟩⟩ := h
  · obtain ⟨p0, rfl, _⟩ := hg 0 (by omega)
    refine ⟨.rptr (some (p0.add (i * 10))), trivial, fun M hM => ?_⟩
    obtain ⟨q, qq, e1, e2, e3⟩ := (hv M hM).at_ hi (by omega)
    have := index_in (M := M) (sz := 10) (a := p0) (c := c) (n := els.length) (i := i) hi
    rw [e1] at this
    cases (padd_zero qq) ▸ this
    exact ⟨e1, e2, e3⟩
  · rw [he] at hi; simp at hi
  · simp [AMem.get, Tr.get] at h1
abbrev spL (s : Sp) (va la : AV) : List AV := spC s.who s.nth s.from_ s.to s.kind s.task va s.code s.v la
theorem InSps.at_ {G : Addr → Option AV} {v : AV} {sps : List Sp} (h : InSps G v sps) {i : Nat} (hi : i < sps.length) :
    ∃ p va la, IsP p ∧ InRow G .i64 va sps[i].vs ∧ InRow G .u64 la sps[i].ls ∧ ∀ M : AMem, M.g = G → opI (.indexAddrS 10) [v, .int .i64 i] M = some (.val (padd p 0) M) ∧ (∀ o n, o + n ≤ 10 → opI (.load true n) [padd p o] M = some (.val (.agg (((spL sps[i] va la).drop o).take n)) M)) ∧ ∀ o x, (spL sps[i] va la)[o]? = some x → opI (.load false 1) [padd p o] M = some (.val x M) := by
  obtain ⟨els, h1, h2, h3⟩ := h
  obtain ⟨e, k1, va, la, k2, k3, k4⟩ := h3 i _ (List.getElem?_eq_getElem hi)
  obtain ⟨p, pp, hp⟩ := inrow_at h1 (i := i) (by omega)
  rw [(List.getElem?_eq_some_iff.1 k1).2, k2] at hp
  exact ⟨p, va, la, pp, k3, k4, hp⟩
theorem InSps.len {G : Addr → Option AV} {v : AV} {sps : List Sp} (h : InSps G v sps) (M : AMem) (hM : M.g = G) : opI .lenS [v] M = some (.val (.int .i64 sps.length) M) := (h.rd M hM).len

def hasB (s : Sp) (p : Int) : Bool := decide (s.from_ ≥ 0 ∧ s.from_ ≤ p ∧ (s.to < 0 ∨ p ≤ s.to))
set_option maxHeartbeats 1000000 in
theorem has_ok {s : Sp} {va la : AV} {p : Int} (d : Nat) (M : AMem) (hok : Okg M) :
    Ans (callF tbl code 100000 (d + 1)) 16 [.agg (spL s va la), .int .i64 p] M fun r M' => Step M M' ∧ r = .bool (hasB s p) := by
  refine Ans_of (tbl_none (by decide) _) (show code 16 = some c16 from by kernel_rfl) (by simp) fun t hd ha => ?_
  have h0 := ha 0 _ rfl
  have h1 := ha 1 _ rfl
  clear ha
  refine W_seq (W_seqR (by simp only [runSeq_cons, runSeq_nil, evalArgs_nil, evalArgs_tmp, evalArgs_const, val1, putT, opI_move, opI_box, cells_agg, h0]; rfl) ?_)
  have s1 := (Step.refl hok).push (k := .cells (spL s va la) 0 true none) (fun _ _ _ _ he => by cases he)
  have ga := get_push_self (k := .cells (spL s va la) 0 true none) hok.1
  have F2 := load_own (o := 2) ga rfl
  have F3 := load_own (o := 3) ga rfl
  unfold hasB
  by_cases c1 : s.from_ ≥ 0
  · by_cases c2 : s.from_ ≤ p
    · by_cases c3 : s.to < 0
      · refine W_seq (W_seqR (by simp only [runSeq_cons, runSeq_nil, evalArgs_nil, evalArgs_tmp, evalArgs_const, val1, putT, Tr.get_set_self, Tr.get_set_ne, Tr.isSome_set, hd _, ne_eq, Nat.reduceEqDiff, not_false_eq_true, decide_true, Nat.reduceLT, opI_move, opI_lss, opI_leq, opI_geq, opI_fieldP, opI_pick, Nat.zero_add, runSeq_guard (b := true), beq_self_eq_true, Bool.true_beq, h1, F2, F3, c1, c2, c3]; rfl) (W_ret ?_))
        exact ⟨_, fin_tmp (by simp only [Tr.get_set_self, Tr.get_set_ne, Tr.isSome_set, Option.isSome_some, hd _, ne_eq, Nat.reduceEqDiff, not_false_eq_true, decide_true, Nat.reduceLT]; try rfl), s1, by rw [decide_eq_true ⟨c1, c2, .inl c3⟩]; rfl⟩
      · refine W_seq (W_seqR (by simp only [runSeq_cons, runSeq_nil, evalArgs_nil, evalArgs_tmp, evalArgs_const, val1, putT, Tr.get_set_self, Tr.get_set_ne, Tr.isSome_set, hd _, ne_eq, Nat.reduceEqDiff, not_false_eq_true, decide_true, Nat.reduceLT, opI_move, opI_lss, opI_leq, opI_geq, opI_fieldP, opI_pick, Nat.zero_add, runSeq_guard (b := true), runSeq_guard (b := false), beq_self_eq_true, h1, F2, F3, c1, c2, c3, decide_false]; rfl) (W_ret ?_))
        refine ⟨_, fin_tmp (by simp only [Tr.get_set_self, Tr.get_set_ne, Tr.isSome_set, Option.isSome_some, hd _, ne_eq, Nat.reduceEqDiff, not_false_eq_true, decide_true, Nat.reduceLT]; try rfl), s1, ?_⟩
        simp [resV, c1, c2, c3]
    · refine W_seq (W_seqR (by simp only [runSeq_cons, runSeq_nil, evalArgs_nil, evalArgs_tmp, evalArgs_const, val1, putT, Tr.get_set_self, Tr.get_set_ne, Tr.isSome_set, hd _, ne_eq, Nat.reduceEqDiff, not_false_eq_true, decide_true, Nat.reduceLT, opI_move, opI_leq, opI_geq, opI_fieldP, opI_pick, Nat.zero_add, runSeq_guard (b := true), runSeq_guard (b := false), beq_self_eq_true, Bool.false_beq, Bool.not_true, runSeq_skip, h1, F2, c1, c2, decide_false]; rfl) (W_ret ?_))
      exact ⟨_, fin_tmp (by simp only [Tr.get_set_self, Tr.get_set_ne, Tr.isSome_set, Option.isSome_some, hd _, ne_eq, Nat.reduceEqDiff, not_false_eq_true, decide_true, Nat.reduceLT]; try rfl), s1, by rw [decide_eq_false (fun h => c2 h.2.1)]; rfl⟩
  · refine W_seq (W_seqR (by simp only [runSeq_cons, runSeq_nil, evalArgs_nil, evalArgs_tmp, evalArgs_const, val1, putT, Tr.get_set_self, Tr.get_set_ne, Tr.isSome_set, hd _, ne_eq, Nat.reduceEqDiff, not_false_eq_true, decide_true, Nat.reduceLT, opI_move, opI_geq, opI_fieldP, opI_pick, Nat.zero_add, runSeq_guard (b := false), Bool.false_beq, Bool.not_true, runSeq_skip, F2, c1, decide_false]; rfl) (W_ret ?_))
    exact ⟨_, fin_tmp (by simp only [Tr.get_set_self, Tr.get_set_ne, Tr.isSome_set, Option.isSome_some, hd _, ne_eq, Nat.reduceEqDiff, not_false_eq_true, decide_true, Nat.reduceLT]; try rfl), s1, by rw [decide_eq_false (fun h => c1 h.1)]; rfl⟩

set_option maxHeartbeats 1000000 in
theorem ahead_ok {s u : Sp} {va la vb lb : AV} (d : Nat) (M : AMem) (hok : Okg M) :
    Ans (callF tbl code 100000 (d + 1)) 6 [.agg (spL s va la), .agg (spL u vb lb)] M fun r M' => Step M M' ∧ r = .bool (decide (s.to ≥ 0 ∧ s.to < u.from_)) := by
  refine Ans_of (tbl_none (by decide) _) (show code 6 = some c6 from by kernel_rfl) (by simp) fun t hd ha => ?_
  have h0 := ha 0 _ rfl
  have h1 := ha 1 _ rfl
  clear ha
  refine W_seq (W_seqR (by simp only [runSeq_cons, runSeq_nil, evalArgs_nil, evalArgs_tmp, evalArgs_const, val1, putT, Tr.get_set_ne, ne_eq, Nat.reduceEqDiff, not_false_eq_true, opI_move, opI_box, cells_agg, push_n, h0, h1]; rfl) ?_)
  have s1 := (Step.refl hok).push (k := .cells (spL s va la) 0 true none) (fun _ _ _ _ he => by cases he)
  have s2 := s1.push (k := .cells (spL u vb lb) 0 true none) (fun _ _ _ _ he => by cases he)
  have ga := (get_push_old (k := .cells (spL u vb lb) 0 true none) s1.ok.1 (show M.n < M.n + 1 by omega)).trans (get_push_self (k := .cells (spL s va la) 0 true none) hok.1)
  have gb := get_push_self (k := .cells (spL u vb lb) 0 true none) s1.ok.1
  simp only [push_n] at gb
  have F3 := load_own (o := 3) ga rfl
  have U2 := load_own (o := 2) gb rfl
  by_cases c1 : s.to ≥ 0
  · refine W_seq (W_seqR (by simp only [runSeq_cons, runSeq_nil, evalArgs_nil, evalArgs_tmp, evalArgs_const, val1, putT, Tr.get_set_self, Tr.get_set_ne, Tr.isSome_set, hd _, ne_eq, Nat.reduceEqDiff, not_false_eq_true, decide_true, Nat.reduceLT, opI_move, opI_lss, opI_geq, opI_fieldP, opI_pick, Nat.zero_add, runSeq_guard (b := true), beq_self_eq_true, F3, U2, c1]; rfl) (W_ret ?_))
    refine ⟨_, fin_tmp (by simp only [Tr.get_set_self, Tr.get_set_ne, Tr.isSome_set, Option.isSome_some, hd _, ne_eq, Nat.reduceEqDiff, not_false_eq_true, decide_true, Nat.reduceLT]; try rfl), s2, ?_⟩
    simp [resV, c1]
  · refine W_seq (W_seqR (by simp only [runSeq_cons, runSeq_nil, evalArgs_nil, evalArgs_tmp, evalArgs_const, val1, putT, Tr.get_set_self, Tr.get_set_ne, Tr.isSome_set, hd _, ne_eq, Nat.reduceEqDiff, not_false_eq_true, decide_true, Nat.reduceLT, opI_move, opI_geq, opI_fieldP, opI_pick, Nat.zero_add, runSeq_guard (b := false), Bool.false_beq, Bool.not_true, F3, c1, decide_false]; rfl) (W_ret ?_))
    exact ⟨_, fin_tmp (by simp only [Tr.get_set_self, Tr.get_set_ne, Tr.isSome_set, Option.isSome_some, hd _, ne_eq, Nat.reduceEqDiff, not_false_eq_true, decide_true, Nat.reduceLT]; try rfl), s2, by rw [decide_eq_false (fun h => c1 h.1)]; rfl⟩

def openN (l : List Sp) : Nat := l.countP fun s => decide (s.to < 0)
theorem openN_succ {l : List Sp} {i : Nat} (h : i < l.length) : openN (l.take (i + 1)) = openN (l.take i) + if l[i].to < 0 then 1 else 0 := by
  unfold openN
  rw [List.take_succ_eq_append_getElem h, List.countP_append, List.countP_singleton]
  by_cases c : l[i].to < 0 <;> simp [c]
theorem openN_le (l : List Sp) : openN l ≤ l.length := List.countP_le_length
set_option maxHeartbeats 2000000 in
theorem open_ok {v : AV} {sps : List Sp} (d : Nat) (M0 : AMem) (hok : Okg M0) (hv : InSps M0.g v sps) (hn : sps.length ≤ 1000) :
    Ans (callF tbl code 100000 (d + 1)) 7 [v] M0 fun r M' => Step M0 M' ∧ r = .int .i64 (openN sps : Nat) := by
  refine Ans_of (tbl_none (by decide) _) (show code 7 = some c7 from by kernel_rfl) (by simp) fun t hd ha => ?_
  have h0 := ha 0 _ rfl
  clear ha
  have lv := hv.len M0 rfl
  refine W_seq (W_seqR (by simp only [runSeq_cons, runSeq_nil, evalArgs_nil, evalArgs_const, val1, putT, opI_move]; rfl) (W_seq (W_seqR (by simp only [runSeq_cons, runSeq_nil, evalArgs_nil, evalArgs_const, val1, putT, opI_move]; rfl) ?_)))
  refine W_seq (W_seq (W_seqR (by simp only [runSeq_cons, runSeq_nil, evalArgs_nil, evalArgs_tmp, evalArgs_const, val1, putT, Tr.get_set_self, Tr.get_set_ne, hd _, ne_eq, Nat.reduceEqDiff, not_false_eq_true, decide_true, Nat.reduceLT, opI_move, h0, lv]; rfl) (W_block (W_loop (fun k t M' => ∃ (i : Nat), k + i = sps.length ∧ Step M0 M' ∧ Dom t 19 ∧ t.get 3 = some (.int .i64 (openN (sps.take i) : Nat)) ∧ t.get 6 = some v ∧ t.get 7 = some (.int .i64 sps.length) ∧ t.get 8 = some (.int .i64 i)) (k := sps.length) (by omega) ?_ ?_))))
  · exact ⟨0, rfl, Step.refl hok, by ((repeat (with_reducible apply Dom.set)); exact hd), by simp only [Tr.get_set_self, Tr.get_set_ne, hd _, ne_eq, Nat.reduceEqDiff, not_false_eq_true, decide_true, Nat.reduceLT]; rfl, by simp only [Tr.get_set_self, Tr.get_set_ne, hd _, ne_eq, Nat.reduceEqDiff, not_false_eq_true, decide_true, Nat.reduceLT], by simp only [Tr.get_set_self, Tr.get_set_ne, hd _, ne_eq, Nat.reduceEqDiff, not_false_eq_true, decide_true, Nat.reduceLT], by simp only [Tr.get_set_self, Tr.get_set_ne, hd _, ne_eq, Nat.reduceEqDiff, not_false_eq_true, decide_true, Nat.reduceLT]; rfl⟩
  clear h0 hd lv
  intro k t M ⟨i, hk, st, hd, h3, h6, h7, h8⟩
  refine W_seq (W_seqR (by simp only [runSeq_cons, runSeq_nil, evalArgs_nil, evalArgs_tmp, val1, putT, opI_lss, h7, h8]; rfl) (W_seq ?_))
  refine W_cond (by simp only [PArg.eval, Tr.get_set_self, hd _, decide_true, Nat.reduceLT]; rfl) (fun hb => W_skip ?_) (fun hb => ?_)
  rotate_left
  · refine W_exit ?_
    have hi : i = sps.length := by simp at hb; omega
    subst hi
    rw [List.take_length] at h3
    show W _ _
    refine W_seq (W_seqR (by simp only [runSeq_cons, runSeq_nil, evalArgs_nil, evalArgs_tmp, val1, putT, Tr.get_set_self, Tr.get_set_ne, hd _, ne_eq, Nat.reduceEqDiff, not_false_eq_true, decide_true, Nat.reduceLT, opI_move, h3]; rfl) (W_ret ?_))
    exact ⟨_, fin_tmp (by simp only [Tr.get_set_self, Tr.get_set_ne, hd _, ne_eq, Nat.reduceEqDiff, not_false_eq_true, decide_true, Nat.reduceLT]; try rfl), st, rfl⟩
  have hin : i < sps.length := by simpa using hb
  have hos := openN_succ hin
  have hol := openN_le (sps.take i)
  rw [List.length_take] at hol
  obtain ⟨p, va, la, pp, hva, hla, hM⟩ := hv.at_ hin
  obtain ⟨p1, p2, _⟩ := hM M st.grow.g
  replace p2 := p2 0 10 (by omega)
  simp only [List.drop_zero, List.take_succ_cons, List.take_zero] at p2
  generalize sps[i] = X at *
  have s2 := st.push (k := .cells (spC 0 0 0 0 0 0 (.slice none 0 0 false) 0 0 (.slice none 0 0 false)) 0 true none) (fun _ _ _ _ he => by cases he)
  have g2 := get_push_self (k := .cells (spC 0 0 0 0 0 0 (.slice none 0 0 false) 0 0 (.slice none 0 0 false)) 0 true none) st.ok.1
  obtain ⟨e3, s3, c3, k3⟩ := store_all (n := 10) (new := spL X va la) s2 st.grow.n g2 rfl rfl (spC_one hva.one hla.one)
  have F3 := load_own (o := 3) c3 rfl
  refine W_seq (W_block (W_seq (W_seqR (by simp only [runSeq_cons, runSeq_nil, evalArgs_nil, evalArgs_tmp, val1, putT, Tr.get_set_self, Tr.get_set_ne, hd _, ne_eq, Nat.reduceEqDiff, not_false_eq_true, decide_true, Nat.reduceLT, opI_new, h6, h8, p1, p2, e3]; rfl) (W_seq (W_seqR (by simp only [runSeq_cons, runSeq_nil, evalArgs_nil, evalArgs_tmp, evalArgs_const, val1, putT, Tr.get_set_self, Tr.get_set_ne, hd _, ne_eq, Nat.reduceEqDiff, not_false_eq_true, decide_true, Nat.reduceLT, opI_lss, opI_fieldP, Nat.zero_add, F3]; rfl) ?_)))))
  by_cases c1 : X.to < 0
  · refine W_cond (b := true) (by simp only [PArg.eval, Tr.get_set_self, Tr.get_set_ne, hd _, ne_eq, Nat.reduceEqDiff, not_false_eq_true, decide_true, Nat.reduceLT, c1]; try rfl) (fun _ => ?_) (fun hb => by cases hb)
    refine W_seqR (by simp only [runSeq_cons, runSeq_nil, evalArgs_nil, evalArgs_tmp, evalArgs_const, val1, putT, Tr.get_set_self, Tr.get_set_ne, hd _, ne_eq, Nat.reduceEqDiff, not_false_eq_true, decide_true, Nat.reduceLT, opI_move, opI_add, h3]; rfl) ?_
    show W _ _
    refine W_seqR (by simp only [runSeq_cons, runSeq_nil, evalArgs_nil, evalArgs_tmp, evalArgs_const, val1, putT, Tr.get_set_self, Tr.get_set_ne, hd _, ne_eq, Nat.reduceEqDiff, not_false_eq_true, decide_true, Nat.reduceLT, opI_move, opI_add, h8]; rfl) ?_
    refine ⟨k - 1, by omega, i + 1, by omega, s3, by ((repeat (with_reducible apply Dom.set)); exact hd), ?_, by simp only [Tr.get_set_ne, ne_eq, Nat.reduceEqDiff, not_false_eq_true, h6], by simp only [Tr.get_set_ne, ne_eq, Nat.reduceEqDiff, not_false_eq_true, h7], ?_⟩
    · simp only [Tr.get_set_self, Tr.get_set_ne, hd _, ne_eq, Nat.reduceEqDiff, not_false_eq_true, decide_true, Nat.reduceLT]
      rw [hos, if_pos c1, wrapF_small (by omega) (by omega)]; rfl
    · simp only [Tr.get_set_self, Tr.get_set_ne, hd _, ne_eq, Nat.reduceEqDiff, not_false_eq_true, decide_true, Nat.reduceLT]
      rw [wrapF_small (by omega) (by omega)]; rfl
  · refine W_cond (b := false) (by simp only [PArg.eval, Tr.get_set_self, Tr.get_set_ne, hd _, ne_eq, Nat.reduceEqDiff, not_false_eq_true, decide_true, Nat.reduceLT, c1, decide_false]; try rfl) (fun hb => by cases hb) (fun _ => W_skip ?_)
    show W _ _
    refine W_seqR (by simp only [runSeq_cons, runSeq_nil, evalArgs_nil, evalArgs_tmp, evalArgs_const, val1, putT, Tr.get_set_self, Tr.get_set_ne, hd _, ne_eq, Nat.reduceEqDiff, not_false_eq_true, decide_true, Nat.reduceLT, opI_move, opI_add, h8]; rfl) ?_
    refine ⟨k - 1, by omega, i + 1, by omega, s3, by ((repeat (with_reducible apply Dom.set)); exact hd), ?_, by simp only [Tr.get_set_ne, ne_eq, Nat.reduceEqDiff, not_false_eq_true, h6], by simp only [Tr.get_set_ne, ne_eq, Nat.reduceEqDiff, not_false_eq_true, h7], ?_⟩
    · simp only [Tr.get_set_ne, ne_eq, Nat.reduceEqDiff, not_false_eq_true, h3]
      rw [hos, if_neg c1]; rfl
    · simp only [Tr.get_set_self, Tr.get_set_ne, hd _, ne_eq, Nat.reduceEqDiff, not_false_eq_true, decide_true, Nat.reduceLT]
      rw [wrapF_small (by omega) (by omega)]; rfl
end Go.Proofs.Ytgjamfkmaccgaaa.diary
