/- The walks of the functions that make a span's own memory. -/
import Derived.Test.YtoddncakdnmloaaDiRead
namespace Go.Proofs.Ytoddncakdnmloaa.diary
open Go Go.Vx

set_option maxHeartbeats 1000000 in
theorem cloneI_ok {v : AV} {xs : List Int} (d : Nat) (M : AMem) (hv : IRow M .i64 v xs) (hok : Okg M) (hn : xs.length ≤ 90000) :
    Ans (callF tbl code 100000 (d + 1)) 67 [v] M fun r M' => Step M M' ∧ Solo M M' .i64 r xs := by
  refine Ans_of (tbl_none (by decide) _) (show code 67 = some c67 from by kernel_rfl) (by simp) fun t hd ha => ?_
  have h0 := ha 0 v rfl
  clear ha
  refine W_seq (W_seqR (by simp only [runSeq_cons, runSeq_nil, evalArgs_nil, evalArgs_const, val1, putT, opI_move]; rfl) ?_)
  rcases hv.isNil with ⟨hnil, hx⟩ | hnil
  · refine W_seq (W_seq (W_seqR (by simp only [runSeq_cons, runSeq_nil, evalArgs_nil, evalArgs_tmp, evalArgs_const, val1, putT, Tr.get_set_self, Tr.get_set_ne, hd _, ne_eq, Nat.reduceEqDiff, not_false_eq_true, decide_true, Nat.reduceLT, opI_move, h0, hnil]; rfl) ?_))
    refine W_cond (by simp only [PArg.eval, Tr.get_set_self, Tr.get_set_ne, hd _, ne_eq, Nat.reduceEqDiff, not_false_eq_true, decide_true, Nat.reduceLT]; rfl) (fun _ => ?_) (fun hb => by simp at hb)
    refine W_seq (W_seqR (by simp only [runSeq_cons, runSeq_nil, evalArgs_nil, evalArgs_const, val1, putT, opI_move]; rfl) (W_ret ?_))
    exact ⟨_, fin_tmp (by simp only [Tr.get_set_self, Tr.get_set_ne, Option.isSome_some, hd _, ne_eq, Nat.reduceEqDiff, not_false_eq_true, decide_true, Nat.reduceLT]; try rfl), Step.refl hok, .inl ⟨rfl, hx⟩⟩
  · refine W_seq (W_seq (W_seqR (by simp only [runSeq_cons, runSeq_nil, evalArgs_nil, evalArgs_tmp, evalArgs_const, val1, putT, Tr.get_set_self, Tr.get_set_ne, hd _, ne_eq, Nat.reduceEqDiff, not_false_eq_true, decide_true, Nat.reduceLT, opI_move, h0, hnil]; rfl) ?_))
    refine W_cond (by simp only [PArg.eval, Tr.get_set_self, Tr.get_set_ne, hd _, ne_eq, Nat.reduceEqDiff, not_false_eq_true, decide_true, Nat.reduceLT]; rfl) (fun hb => by simp at hb) (fun _ => W_skip ?_)
    have e1 : opI (.sliceLit 0 [] []) [] M = some (.val (.slice (some (M.n, 0)) 0 0 false) (M.push (.cells [] 0 true none))) := rfl
    obtain ⟨r, M', e2, s2, _, o2⟩ := clone_lit (Step.refl hok) hv (by omega)
    show W _ _
    refine W_seq (W_seqR (by simp only [runSeq_cons, runSeq_nil, evalArgs_nil, evalArgs_tmp, val1, putT, Tr.get_set_self, Tr.get_set_ne, hd _, ne_eq, Nat.reduceEqDiff, not_false_eq_true, decide_true, Nat.reduceLT, opI_move, h0, e1, e2]; rfl) (W_ret ?_))
    exact ⟨_, fin_tmp (by simp only [Tr.get_set_self, Tr.get_set_ne, Option.isSome_some, hd _, ne_eq, Nat.reduceEqDiff, not_false_eq_true, decide_true, Nat.reduceLT]; try rfl), s2, o2⟩

set_option maxHeartbeats 1000000 in
theorem cloneU_ok {v : AV} {xs : List Int} (d : Nat) (M : AMem) (hv : IRow M .u64 v xs) (hok : Okg M) (hn : xs.length ≤ 90000) :
    Ans (callF tbl code 100000 (d + 1)) 68 [v] M fun r M' => Step M M' ∧ Solo M M' .u64 r xs := by
  refine Ans_of (tbl_none (by decide) _) (show code 68 = some c68 from by kernel_rfl) (by simp) fun t hd ha => ?_
  have h0 := ha 0 v rfl
  clear ha
  refine W_seq (W_seqR (by simp only [runSeq_cons, runSeq_nil, evalArgs_nil, evalArgs_const, val1, putT, opI_move]; rfl) ?_)
  rcases hv.isNil with ⟨hnil, hx⟩ | hnil
  · refine W_seq (W_seq (W_seqR (by simp only [runSeq_cons, runSeq_nil, evalArgs_nil, evalArgs_tmp, evalArgs_const, val1, putT, Tr.get_set_self, Tr.get_set_ne, hd _, ne_eq, Nat.reduceEqDiff, not_false_eq_true, decide_true, Nat.reduceLT, opI_move, h0, hnil]; rfl) ?_))
    refine W_cond (by simp only [PArg.eval, Tr.get_set_self, Tr.get_set_ne, hd _, ne_eq, Nat.reduceEqDiff, not_false_eq_true, decide_true, Nat.reduceLT]; rfl) (fun _ => ?_) (fun hb => by simp at hb)
    refine W_seq (W_seqR (by simp only [runSeq_cons, runSeq_nil, evalArgs_nil, evalArgs_const, val1, putT, opI_move]; rfl) (W_ret ?_))
    exact ⟨_, fin_tmp (by simp only [Tr.get_set_self, Tr.get_set_ne, Option.isSome_some, hd _, ne_eq, Nat.reduceEqDiff, not_false_eq_true, decide_true, Nat.reduceLT]; try rfl), Step.refl hok, .inl ⟨rfl, hx⟩⟩
  · refine W_seq (W_seq (W_seqR (by simp only [runSeq_cons, runSeq_nil, evalArgs_nil, evalArgs_tmp, evalArgs_const, val1, putT, Tr.get_set_self, Tr.get_set_ne, hd _, ne_eq, Nat.reduceEqDiff, not_false_eq_true, decide_true, Nat.reduceLT, opI_move, h0, hnil]; rfl) ?_))
    refine W_cond (by simp only [PArg.eval, Tr.get_set_self, Tr.get_set_ne, hd _, ne_eq, Nat.reduceEqDiff, not_false_eq_true, decide_true, Nat.reduceLT]; rfl) (fun hb => by simp at hb) (fun _ => W_skip ?_)
    have e1 : opI (.sliceLit 0 [] []) [] M = some (.val (.slice (some (M.n, 0)) 0 0 false) (M.push (.cells [] 0 true none))) := rfl
    obtain ⟨r, M', e2, s2, _, o2⟩ := clone_lit (Step.refl hok) hv (by omega)
    show W _ _
    refine W_seq (W_seqR (by simp only [runSeq_cons, runSeq_nil, evalArgs_nil, evalArgs_tmp, val1, putT, Tr.get_set_self, Tr.get_set_ne, hd _, ne_eq, Nat.reduceEqDiff, not_false_eq_true, decide_true, Nat.reduceLT, opI_move, h0, e1, e2]; rfl) (W_ret ?_))
    exact ⟨_, fin_tmp (by simp only [Tr.get_set_self, Tr.get_set_ne, Option.isSome_some, hd _, ne_eq, Nat.reduceEqDiff, not_false_eq_true, decide_true, Nat.reduceLT]; try rfl), s2, o2⟩

abbrev spC (who nth from_ to kind task : Int) (va : AV) (code v : Int) (la : AV) : List AV := [.int .i64 who, .int .i64 nth, .int .i64 from_, .int .i64 to, .int .i64 kind, .int .u64 task, va, .int .i64 code, .int .u64 v, la]
set_option maxHeartbeats 2000000 in
theorem own_ok {a b c e f g h i : Int} {va la : AV} {vs ls : List Int} (d : Nat) (M : AMem) (hv : IRow M .i64 va vs) (hl : IRow M .u64 la ls) (hok : Okg M) (hn : vs.length ≤ 90000) (hm : ls.length ≤ 90000) :
    Ans (callF tbl code 100000 (d + 2)) 59 [.agg (spC a b c e f g va h i la)] M fun r M' => Step M M' ∧ ∃ va' la', r = .agg (spC a b c e f g va' h i la') ∧ Solo M M' .i64 va' vs ∧ Solo M M' .u64 la' ls := by
  refine Ans_of (tbl_none (by decide) _) (show code 59 = some c59 from by kernel_rfl) (by simp) fun t hd ha => ?_
  have h0 := ha 0 _ rfl
  clear ha
  refine W_seq (W_seqR (by simp only [runSeq_cons, runSeq_nil, evalArgs_nil, evalArgs_tmp, val1, putT, opI_new, opI_box, cells_agg, push_n, h0]; rfl) ?_)
  have s1 := (Step.refl hok).push (k := .cells (spC a b c e f g va h i la) 0 true none) (fun _ _ _ _ he => by cases he)
  have s2 := s1.push (k := .cells (spC 0 0 0 0 0 0 (.slice none 0 0 false) 0 0 (.slice none 0 0 false)) 0 true none) (fun _ _ _ _ he => by cases he)
  have ga := (get_push_old (k := .cells (spC 0 0 0 0 0 0 (.slice none 0 0 false) 0 0 (.slice none 0 0 false)) 0 true none) s1.ok.1 (show M.n < M.n + 1 by omega)).trans (get_push_self (k := .cells (spC a b c e f g va h i la) 0 true none) hok.1)
  have gb := get_push_self (k := .cells (spC 0 0 0 0 0 0 (.slice none 0 0 false) 0 0 (.slice none 0 0 false)) 0 true none) s1.ok.1
  simp only [push_n] at gb
  have n2 : ((M.push (.cells (spC a b c e f g va h i la) 0 true none)).push (.cells (spC 0 0 0 0 0 0 (.slice none 0 0 false) 0 0 (.slice none 0 0 false)) 0 true none)).n = M.n + 2 := rfl
  have hv2 := hv.grow s2.grow
  have hl2 := hl.grow s2.grow
  generalize hM2 : (M.push (.cells (spC a b c e f g va h i la) 0 true none)).push (.cells (spC 0 0 0 0 0 0 (.slice none 0 0 false) 0 0 (.slice none 0 0 false)) 0 true none) = M2 at *
  have a6 := load_own (o := 6) ga rfl
  obtain ⟨va', M3, c3, s3, o3⟩ := cloneI_ok d M2 hv2 s2.ok hn
  have t3 := s2.trans s3
  have ga3 := (s3.grow.get _ (by omega)).trans ga
  have gb3 := (s3.grow.get _ (by omega)).trans gb
  obtain ⟨e4, s4, ga4, k4⟩ := store1 (o := 6) t3 (Nat.le_refl _) ga3 o3.one (by simp)
  refine W_seq (W_seqR (by simp only [runSeq_cons, runSeq_nil, evalArgs_nil, evalArgs_tmp, val1, putT, Tr.get_set_self, Tr.get_set_ne, hd _, ne_eq, Nat.reduceEqDiff, not_false_eq_true, decide_true, Nat.reduceLT, opI_callF, opI_fieldP, Nat.zero_add, Nat.reduceAdd, a6, c3, e4]; rfl) ?_)
  have gb4 := (k4 _ (by omega)).trans gb3
  have o4 : Solo M2 _ .i64 va' vs := o3.other k4 (by omega)
  have hl4 : IRow (M3.set M.n (.cells ((spC a b c e f g va h i la).set 6 va') 0 true none)) .u64 la ls := hl.grow s4.grow
  simp only [List.set_cons_succ, List.set_cons_zero] at ga4 gb4 o4 hl4 s4
  have n4 : M2.n ≤ (M3.set M.n (.cells (spC a b c e f g va' h i la) 0 true none)).n := s3.grow.n
  generalize hM4 : M3.set M.n (.cells (spC a b c e f g va' h i la) 0 true none) = M4 at *
  simp only [List.set_cons_succ, List.set_cons_zero, hM4]
  have a9 := load_own (o := 9) ga4 rfl
  obtain ⟨la', M5, c5, s5, o5⟩ := cloneU_ok d M4 hl4 s4.ok hm
  have t5 := s4.trans s5
  have ga5 := (s5.grow.get _ (by omega)).trans ga4
  have gb5 := (s5.grow.get _ (by omega)).trans gb4
  obtain ⟨e6, s6, ga6, k6⟩ := store1 (o := 9) t5 (Nat.le_refl _) ga5 o5.one (by simp)
  refine W_seq (W_seqR (by simp only [runSeq_cons, runSeq_nil, evalArgs_nil, evalArgs_tmp, val1, putT, Tr.get_set_self, Tr.get_set_ne, hd _, ne_eq, Nat.reduceEqDiff, not_false_eq_true, decide_true, Nat.reduceLT, opI_callF, opI_fieldP, Nat.zero_add, Nat.reduceAdd, a9, c5, e6]; rfl) ?_)
  have gb6 := (k6 _ (by omega)).trans gb5
  have o6 : Solo M4 _ .u64 la' ls := o5.other k6 (by omega)
  have o6v : Solo M2 _ .i64 va' vs := (o4.grow s4.ok.1 s5.grow).other k6 (by omega)
  simp only [List.set_cons_succ, List.set_cons_zero] at ga6 gb6 o6 o6v s6
  generalize hM6 : M5.set M.n (.cells (spC a b c e f g va' h i la') 0 true none) = M6 at *
  simp only [List.set_cons_succ, List.set_cons_zero, hM6]
  have al := loads_own (o := 0) (n := 10) ga6 (by simp)
  simp only [List.drop_zero, List.take_succ_cons, List.take_zero] at al
  obtain ⟨e7, s7, gb7, k7⟩ := store_all (n := 10) (new := spC a b c e f g va' h i la') s6 (by omega) gb6 rfl rfl (by simp [one_int, o3.one.1, o5.one.1])
  refine W_seq (W_seqR (by simp only [runSeq_cons, runSeq_nil, evalArgs_nil, evalArgs_tmp, val1, putT, Tr.get_set_self, Tr.get_set_ne, hd _, ne_eq, Nat.reduceEqDiff, not_false_eq_true, decide_true, Nat.reduceLT, al, e7]; rfl) (W_ret ?_))
  refine ⟨_, fin_cell (by simp only [Tr.get_set_self, Tr.get_set_ne, hd _, ne_eq, Nat.reduceEqDiff, not_false_eq_true, decide_true, Nat.reduceLT]; try rfl) gb7 rfl, s7, va', la', rfl, ?_, ?_⟩
  · exact (o6v.other k7 (by omega)).mono s2.grow.n
  · exact (o6.other k7 (by omega)).mono (by omega)
end Go.Proofs.Ytoddncakdnmloaa.diary
