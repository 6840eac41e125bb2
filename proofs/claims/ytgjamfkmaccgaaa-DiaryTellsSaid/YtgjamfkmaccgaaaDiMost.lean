/- The walk of Most. -/
import Derived.Test.YtgjamfkmaccgaaaDiSame
namespace Go.Proofs.Ytgjamfkmaccgaaa.diary
open Go Go.Vx

/-- a span's edges -/
def edge1 (s : Sp) : List (Int × Bool) := if s.from_ < 0 ∨ (s.to ≥ 0 ∧ s.to < s.from_) then [] else (s.from_, false) :: if s.to ≥ 0 then [(s.to, true)] else []
def edges (l : List Sp) : List (Int × Bool) := l.flatMap edge1
theorem edges_len (l : List Sp) : (edges l).length ≤ 2 * l.length := by
  induction l with
  | nil => simp [edges]
  | cons s l ih =>
    have : (edge1 s).length ≤ 2 := by unfold edge1; split <;> simp; split <;> simp
    unfold edges at ih ⊢
    rw [List.flatMap_cons, List.length_append, List.length_cons]; omega
theorem edges_succ {l : List Sp} {i : Nat} (h : i < l.length) : edges (l.take (i + 1)) = edges (l.take i) ++ edge1 l[i] := by
  unfold edges
  rw [List.take_succ_eq_append_getElem h, List.flatMap_append, List.flatMap_singleton]
/-- how many at once, and the most till now -/
def cnt (a : Int × Int) (x : Int × Bool) : Int × Int := if x.2 then (a.1 - 1, a.2) else (a.1 + 1, max a.2 (a.1 + 1))
def mostP (l : List Sp) : Int := ((sortE (edges l)).foldl cnt (0, 0)).2
theorem cnt_bd (d : List (Int × Bool)) : ∀ (a : Int × Int) (N : Int), -N ≤ a.1 → a.1 ≤ N → 0 ≤ a.2 → a.2 ≤ N → -(N + d.length) ≤ (d.foldl cnt a).1 ∧ (d.foldl cnt a).1 ≤ N + d.length ∧ 0 ≤ (d.foldl cnt a).2 ∧ (d.foldl cnt a).2 ≤ N + d.length := by
  induction d with
  | nil => intro a N h1 h2 h3 h4; simp; omega
  | cons x d ih =>
    intro a N h1 h2 h3 h4
    have := ih (cnt a x) (N + 1) (by unfold cnt; split <;> simp <;> omega) (by unfold cnt; split <;> simp <;> omega) (by unfold cnt; split <;> simp <;> omega) (by unfold cnt; split <;> simp <;> omega)
    rw [List.foldl_cons, List.length_cons]
    omega
theorem flat_enc (d : List (Int × Bool)) : (d.map encA).flatten = d.flatMap encA := by rw [List.flatMap_def]
theorem els_enc (d : List (Int × Bool)) : Els 2 (d.map encA) := fun e he => by
  obtain ⟨x, _, rfl⟩ := List.mem_map.1 he
  rfl
theorem one_enc (d : List (Int × Bool)) : (d.flatMap encA).all AV.one = true := by
  rw [List.all_eq_true]
  intro y hy
  obtain ⟨x, _, hx⟩ := List.mem_flatMap.1 hy
  simp [encA] at hx
  rcases hx with rfl | rfl <;> rfl
/-- The library's sort, at a row of edges. -/
theorem sort_call {M0 M : AMem} {s : AV} {d : List (Int × Bool)} (n : Nat) (h : Step M0 M) (hs : FreshE M0 M 2 s (d.map encA)) (hn : d.length < 1000000) :
    ∃ M', callF tbl code 100000 (n + 1) 13 [s, .func (.func 14) [] []] M = some (.tuple [], M') ∧ Step M0 M' ∧ FreshE M0 M' 2 s ((sortE d).map encA) := by
  have hlen := sortE_len d
  rcases hs with ⟨b, gr, sz, g, rfl, h1, h2, h3, h4, h5, h6⟩ | ⟨rfl, he⟩
  · rw [flat_enc] at h2 h6
    have hle : 0 + ((sortE d).flatMap encA).length ≤ (d.flatMap encA).length := by
      have e1 := (els_enc d).len
      have e2 := (els_enc (sortE d)).len
      rw [flat_enc, List.length_map] at e1 e2
      rw [e1, e2, hlen]; omega
    have hee : ((sortE d).flatMap encA).length = (d.flatMap encA).length := by
      have e1 := (els_enc d).len
      have e2 := (els_enc (sortE d)).len
      rw [flat_enc, List.length_map] at e1 e2
      rw [e1, e2, hlen]
    obtain ⟨M', k1, k2, k3, k4⟩ := store_cells (o := 0) (new := (sortE d).flatMap encA) h h1 h2 h4 hle (one_enc _)
    have hsp : splice (d.flatMap encA) 0 ((sortE d).flatMap encA) = (sortE d).flatMap encA := by
      unfold splice
      rw [List.take_zero, List.nil_append, List.drop_of_length_le (by omega), List.append_nil]
    rw [hsp] at k3
    refine ⟨M', ?_, k2, .inl ⟨b, gr, sz, g, by rw [List.length_map, List.length_map, hlen], h1, by rw [flat_enc]; exact k3, h3, h4, els_enc _, by rw [flat_enc]; exact one_enc _⟩⟩
    have hdec : decB (d.flatMap encA) = some d := by unfold decB; rw [decE_enc]; simp only; rw [if_pos (by omega)]
    have ht : tbl 13 [.slice (some (b, 0)) (d.map encA).length (d.map encA).length gr, .func (.func 14) [] []] M = some (.tuple [], M') := by
      unfold tbl tbl0 sortX
      simp only [if_neg (show ¬ (13 : Nat) = 4 by decide), if_true, h2, hdec, List.length_map, k1]
    simp only [callF, ht]
  · obtain rfl : d = [] := by simpa using he
    refine ⟨M, rfl, h, .inr ⟨rfl, ?_⟩⟩
    have : sortE [] = [] := List.eq_nil_of_length_eq_zero hlen
    rw [this]; rfl

set_option maxRecDepth 20000 in
set_option maxHeartbeats 8000000 in
theorem most_ok {v : AV} {sps : List Sp} (d : Nat) (M0 : AMem) (hv0 : RdRow M0 v sps) (hok : Okg M0) (hn : sps.length ≤ 1000) :
    Ans (callF tbl code 100000 (d + 2)) 8 [v] M0 fun r M' => Step M0 M' ∧ r = .int .i64 (mostP sps) := by
  refine Ans_of (tbl_none (by decide) _) (show code 8 = some c8 from by kernel_rfl) (by simp) fun t hd ha => ?_
  have h0 := ha 0 _ rfl
  clear ha
  have lv := hv0.len
  refine W_seq (W_seqR (by simp only [runSeq_cons, runSeq_nil, evalArgs_nil, evalArgs_const, val1, putT, opI_move]; rfl) (W_seq (W_seqR (by simp only [runSeq_cons, runSeq_nil, evalArgs_nil, evalArgs_const, val1, putT, opI_move]; rfl) ?_)))
  refine W_seq (W_seq (W_seqR (by simp only [runSeq_cons, runSeq_nil, evalArgs_nil, evalArgs_tmp, evalArgs_const, val1, putT, Tr.get_set_self, Tr.get_set_ne, hd _, ne_eq, Nat.reduceEqDiff, not_false_eq_true, decide_true, Nat.reduceLT, opI_move, h0, lv]; rfl) (W_block (W_loop (fun k t M' => ∃ (i : Nat) (s : AV), k + i = sps.length ∧ Step M0 M' ∧ FreshE M0 M' 2 s ((edges (sps.take i)).map encA) ∧ Dom t 66 ∧ t.get 3 = some s ∧ t.get 10 = some v ∧ t.get 11 = some (.int .i64 sps.length) ∧ t.get 12 = some (.int .i64 i)) (k := sps.length) (by omega) ?_ ?_))))
  · exact ⟨0, _, rfl, Step.refl hok, .inr ⟨rfl, rfl⟩, by ((repeat (with_reducible apply Dom.set)); exact hd), by simp only [Tr.get_set_self, Tr.get_set_ne, hd _, ne_eq, Nat.reduceEqDiff, not_false_eq_true, decide_true, Nat.reduceLT], by simp only [Tr.get_set_self, Tr.get_set_ne, hd _, ne_eq, Nat.reduceEqDiff, not_false_eq_true, decide_true, Nat.reduceLT], by simp only [Tr.get_set_self, Tr.get_set_ne, hd _, ne_eq, Nat.reduceEqDiff, not_false_eq_true, decide_true, Nat.reduceLT], by simp only [Tr.get_set_self, Tr.get_set_ne, hd _, ne_eq, Nat.reduceEqDiff, not_false_eq_true, decide_true, Nat.reduceLT]; rfl⟩
  · clear h0 hd
    intro k t M ⟨i, s, hk, st, hs, hd, h3, h10, h11, h12⟩
    refine W_seq (W_seqR (by simp only [runSeq_cons, runSeq_nil, evalArgs_nil, evalArgs_tmp, val1, putT, opI_lss, h11, h12]; rfl) (W_seq ?_))
    refine W_cond (by simp only [PArg.eval, Tr.get_set_self, hd _, decide_true, Nat.reduceLT]; rfl) (fun hb => W_skip ?_) (fun hb => ?_)
    · have hin : i < sps.length := by simpa using hb
      obtain ⟨els, r1, r2, r3⟩ := hv0.grow st.grow
      obtain ⟨e0, q1, va, la, q2, q3, q4⟩ := r3 i _ (List.getElem?_eq_getElem hin)
      have hil : i < els.length := by omega
      obtain ⟨p, pp, p1, p2, _⟩ := r1.at_ hil (by omega)
      rw [(List.getElem?_eq_some_iff.1 q1).2, q2] at p2
      replace p2 := p2 0 10 (by omega)
      simp only [List.drop_zero, List.take_succ_cons, List.take_zero] at p2
      have hed := edges_succ hin
      generalize hX : sps[i] = X at *
      have s2 := st.push (k := .cells (spC 0 0 0 0 0 0 (.slice none 0 0 false) 0 0 (.slice none 0 0 false)) 0 true none) (fun _ _ _ _ he => by cases he)
      have g2 := get_push_self (k := .cells (spC 0 0 0 0 0 0 (.slice none 0 0 false) 0 0 (.slice none 0 0 false)) 0 true none) st.ok.1
      obtain ⟨e3, s3, c3, k3⟩ := store_all (n := 10) (new := spC X.who X.nth X.from_ X.to X.kind X.task va X.code X.v la) s2 st.grow.n g2 rfl rfl (spC_one q3.one2.1 q4.one2.1)
      have hg3 : Grow M _ := ⟨Nat.le_succ _, fun b hb => (k3 b (by omega)).trans (get_push_old st.ok.1 hb), rfl, fun _ => s3.ok.1⟩
      have hs3 := hs.grow st.ok.1 hg3
      have hne : sbOf s ≠ some M.n := by
        rcases hs with ho | ⟨rfl, _⟩
        · exact OwnE.lt ho st.ok.1
        · simp [sbOf]
      refine W_seq (W_block (W_seq (W_seqR (by simp only [runSeq_cons, runSeq_nil, evalArgs_nil, evalArgs_tmp, val1, putT, Tr.get_set_self, Tr.get_set_ne, hd _, ne_eq, Nat.reduceEqDiff, not_false_eq_true, decide_true, Nat.reduceLT, opI_new, h10, h12, p1, p2, e3]; rfl) ?_)))
      have hn3 : ((M.push (.cells (spC 0 0 0 0 0 0 (.slice none 0 0 false) 0 0 (.slice none 0 0 false)) 0 true none)).set M.n (.cells (spC X.who X.nth X.from_ X.to X.kind X.task va X.code X.v la) 0 true none)).n = M.n + 1 := rfl
      clear p1 p2 e3 g2 s2 k3 hg3 r1 r2 r3 q1 q2 hs
      generalize (M.push (.cells (spC 0 0 0 0 0 0 (.slice none 0 0 false) 0 0 (.slice none 0 0 false)) 0 true none)).set M.n (.cells (spC X.who X.nth X.from_ X.to X.kind X.task va X.code X.v la) 0 true none) = M3 at *
      have F2 := load_own (o := 2) c3 rfl
      have F3 := load_own (o := 3) c3 rfl
      have hel := edges_len (sps.take i)
      have htl : (sps.take i).length ≤ 1000 := by rw [List.length_take]; omega
      have skip : (X.from_ < 0 ∨ (X.to ≥ 0 ∧ X.to < X.from_)) → edges (sps.take (i + 1)) = edges (sps.take i) := fun h => by rw [hed, edge1, if_pos h, List.append_nil]
      by_cases c1 : X.from_ < 0
      · refine W_seq (W_seq (W_seqR (by simp only [runSeq_cons, runSeq_nil, evalArgs_nil, evalArgs_tmp, evalArgs_const, val1, putT, Tr.get_set_self, Tr.get_set_ne, Tr.isSome_set, hd _, ne_eq, Nat.reduceEqDiff, not_false_eq_true, decide_true, Nat.reduceLT, opI_move, opI_lss, opI_fieldP, opI_pick, Nat.zero_add, runSeq_guard (b := true), Bool.true_beq, runSeq_skip, F2, c1]; rfl) ?_))
        refine W_cond (b := true) (by simp only [PArg.eval, Tr.get_set_self, Tr.get_set_ne, hd _, ne_eq, Nat.reduceEqDiff, not_false_eq_true, decide_true, Nat.reduceLT]; try rfl) (fun _ => W_exit ?_) (fun hb => by cases hb)
        show W _ _
        refine W_seqR (by simp only [runSeq_cons, runSeq_nil, evalArgs_nil, evalArgs_tmp, evalArgs_const, val1, putT, Tr.get_set_self, Tr.get_set_ne, hd _, ne_eq, Nat.reduceEqDiff, not_false_eq_true, decide_true, Nat.reduceLT, opI_move, opI_add, h12]; rfl) ?_
        refine ⟨k - 1, by omega, i + 1, s, by omega, s3, by rw [skip (.inl c1)]; exact hs3, by ((repeat (with_reducible apply Dom.set)); exact hd), by simp only [Tr.get_set_ne, ne_eq, Nat.reduceEqDiff, not_false_eq_true, h3], by simp only [Tr.get_set_ne, ne_eq, Nat.reduceEqDiff, not_false_eq_true, h10], by simp only [Tr.get_set_ne, ne_eq, Nat.reduceEqDiff, not_false_eq_true, h11], ?_⟩
        simp only [Tr.get_set_self, Tr.get_set_ne, hd _, ne_eq, Nat.reduceEqDiff, not_false_eq_true, decide_true, Nat.reduceLT]
        rw [wrapF_small (by omega) (by omega)]; rfl
      by_cases c2 : X.to ≥ 0
      · by_cases c4 : X.to < X.from_
        · refine W_seq (W_seq (W_seqR (by simp only [runSeq_cons, runSeq_nil, evalArgs_nil, evalArgs_tmp, evalArgs_const, val1, putT, Tr.get_set_self, Tr.get_set_ne, Tr.isSome_set, hd _, ne_eq, Nat.reduceEqDiff, not_false_eq_true, decide_true, Nat.reduceLT, opI_move, opI_lss, opI_geq, opI_fieldP, opI_pick, Nat.zero_add, runSeq_guard (b := true), runSeq_guard (b := false), beq_self_eq_true, F2, F3, c1, c2, c4, decide_false]; rfl) ?_))
          refine W_cond (b := true) (by simp only [PArg.eval, Tr.get_set_self, Tr.get_set_ne, hd _, ne_eq, Nat.reduceEqDiff, not_false_eq_true, decide_true, Nat.reduceLT]; try rfl) (fun _ => W_exit ?_) (fun hb => by cases hb)
          show W _ _
          refine W_seqR (by simp only [runSeq_cons, runSeq_nil, evalArgs_nil, evalArgs_tmp, evalArgs_const, val1, putT, Tr.get_set_self, Tr.get_set_ne, hd _, ne_eq, Nat.reduceEqDiff, not_false_eq_true, decide_true, Nat.reduceLT, opI_move, opI_add, h12]; rfl) ?_
          refine ⟨k - 1, by omega, i + 1, s, by omega, s3, by rw [skip (.inr ⟨c2, c4⟩)]; exact hs3, by ((repeat (with_reducible apply Dom.set)); exact hd), by simp only [Tr.get_set_ne, ne_eq, Nat.reduceEqDiff, not_false_eq_true, h3], by simp only [Tr.get_set_ne, ne_eq, Nat.reduceEqDiff, not_false_eq_true, h10], by simp only [Tr.get_set_ne, ne_eq, Nat.reduceEqDiff, not_false_eq_true, h11], ?_⟩
          simp only [Tr.get_set_self, Tr.get_set_ne, hd _, ne_eq, Nat.reduceEqDiff, not_false_eq_true, decide_true, Nat.reduceLT]
          rw [wrapF_small (by omega) (by omega)]; rfl
        · refine W_seq (W_seq (W_seqR (by simp only [runSeq_cons, runSeq_nil, evalArgs_nil, evalArgs_tmp, evalArgs_const, val1, putT, Tr.get_set_self, Tr.get_set_ne, Tr.isSome_set, hd _, ne_eq, Nat.reduceEqDiff, not_false_eq_true, decide_true, Nat.reduceLT, opI_move, opI_lss, opI_geq, opI_fieldP, opI_pick, Nat.zero_add, runSeq_guard (b := true), runSeq_guard (b := false), beq_self_eq_true, F2, F3, c1, c2, c4, decide_false]; rfl) ?_))
          refine W_cond (b := false) (by simp only [PArg.eval, Tr.get_set_self, Tr.get_set_ne, hd _, ne_eq, Nat.reduceEqDiff, not_false_eq_true, decide_true, Nat.reduceLT]; try rfl) (fun hb => by cases hb) (fun _ => W_skip ?_)
          show W _ _
          have bld : ∀ (M : AMem) (a : Int) (b : Bool), opI (.build [.int .i64 0, .bool false] [(0, 1), (1, 1)]) [.int .i64 a, .bool b] M = some (.val (.agg [.int .i64 a, .bool b]) M) := fun M a b => rfl
          obtain ⟨M5, g5, f1, f2, s5, o5, k5, n5, _⟩ := push_el (bytes := 16) (z := [.int .i64 0, .bool false]) (x := .agg [.int .i64 X.from_, .bool false]) s3 hs3 rfl rfl (by omega) rfl (by rw [List.length_map]; omega) (by rw [List.length_map]; omega)
          rw [cells_agg] at f1 f2 o5
          have kp := k5 _ _ c3 rfl hne
          have F3' := load_own (o := 3) kp rfl
          refine W_seq (W_seqR (by simp only [runSeq_cons, runSeq_nil, evalArgs_nil, evalArgs_tmp, evalArgs_const, val1, putT, Tr.get_set_self, Tr.get_set_ne, hd _, ne_eq, Nat.reduceEqDiff, not_false_eq_true, decide_true, Nat.reduceLT, opI_move, opI_fieldP, Nat.zero_add, h3, F2, bld, f1, f2]; rfl) (W_seq (W_seqR (by simp only [runSeq_cons, runSeq_nil, evalArgs_nil, evalArgs_tmp, evalArgs_const, val1, putT, Tr.get_set_self, Tr.get_set_ne, hd _, ne_eq, Nat.reduceEqDiff, not_false_eq_true, decide_true, Nat.reduceLT, opI_geq, opI_fieldP, Nat.zero_add, F3']; rfl) ?_)))
          refine W_cond (b := true) (by simp only [PArg.eval, Tr.get_set_self, Tr.get_set_ne, hd _, ne_eq, Nat.reduceEqDiff, not_false_eq_true, decide_true, Nat.reduceLT, c2]; try rfl) (fun _ => ?_) (fun hb => by cases hb)
          obtain ⟨M7, g7, f3, f4, s7, o7, _, n7, _⟩ := push_el (bytes := 16) (z := [.int .i64 0, .bool false]) (x := .agg [.int .i64 X.to, .bool true]) s5 (.inl o5) rfl rfl (by omega) rfl (by rw [List.length_append, List.length_map, List.length_singleton]; omega) (by rw [List.length_append, List.length_map, List.length_singleton]; omega)
          rw [cells_agg] at f3 f4 o7
          refine W_seqR (by simp only [runSeq_cons, runSeq_nil, evalArgs_nil, evalArgs_tmp, evalArgs_const, val1, putT, Tr.get_set_self, Tr.get_set_ne, hd _, ne_eq, Nat.reduceEqDiff, not_false_eq_true, decide_true, Nat.reduceLT, opI_move, opI_fieldP, Nat.zero_add, F3', bld, f3, f4]; rfl) ?_
          show W _ _
          refine W_seqR (by simp only [runSeq_cons, runSeq_nil, evalArgs_nil, evalArgs_tmp, evalArgs_const, val1, putT, Tr.get_set_self, Tr.get_set_ne, hd _, ne_eq, Nat.reduceEqDiff, not_false_eq_true, decide_true, Nat.reduceLT, opI_move, opI_add, h12]; rfl) ?_
          refine ⟨k - 1, by omega, i + 1, _, by omega, s7, .inl ?_, by ((repeat (with_reducible apply Dom.set)); exact hd), by simp only [Tr.get_set_self, Tr.get_set_ne, Tr.isSome_set, Option.isSome_some, hd _, ne_eq, Nat.reduceEqDiff, not_false_eq_true, decide_true, Nat.reduceLT]; rfl, by simp only [Tr.get_set_ne, ne_eq, Nat.reduceEqDiff, not_false_eq_true, h10], by simp only [Tr.get_set_ne, ne_eq, Nat.reduceEqDiff, not_false_eq_true, h11], ?_⟩
          · rw [hed, edge1, if_neg (by omega), if_pos c2]
            simpa [encA] using o7
          · simp only [Tr.get_set_self, Tr.get_set_ne, hd _, ne_eq, Nat.reduceEqDiff, not_false_eq_true, decide_true, Nat.reduceLT]
            rw [wrapF_small (by omega) (by omega)]; rfl
      · refine W_seq (W_seq (W_seqR (by simp only [runSeq_cons, runSeq_nil, evalArgs_nil, evalArgs_tmp, evalArgs_const, val1, putT, Tr.get_set_self, Tr.get_set_ne, Tr.isSome_set, hd _, ne_eq, Nat.reduceEqDiff, not_false_eq_true, decide_true, Nat.reduceLT, opI_move, opI_lss, opI_geq, opI_fieldP, opI_pick, Nat.zero_add, runSeq_guard (b := false), beq_self_eq_true, Bool.false_beq, Bool.not_true, F2, F3, c1, c2, decide_false]; rfl) ?_))
        refine W_cond (b := false) (by simp only [PArg.eval, Tr.get_set_self, Tr.get_set_ne, hd _, ne_eq, Nat.reduceEqDiff, not_false_eq_true, decide_true, Nat.reduceLT]; try rfl) (fun hb => by cases hb) (fun _ => W_skip ?_)
        show W _ _
        have bld : ∀ (M : AMem) (a : Int) (b : Bool), opI (.build [.int .i64 0, .bool false] [(0, 1), (1, 1)]) [.int .i64 a, .bool b] M = some (.val (.agg [.int .i64 a, .bool b]) M) := fun M a b => rfl
        obtain ⟨M5, g5, f1, f2, s5, o5, k5, n5, _⟩ := push_el (bytes := 16) (z := [.int .i64 0, .bool false]) (x := .agg [.int .i64 X.from_, .bool false]) s3 hs3 rfl rfl (by omega) rfl (by rw [List.length_map]; omega) (by rw [List.length_map]; omega)
        rw [cells_agg] at f1 f2 o5
        have kp := k5 _ _ c3 rfl hne
        have F3' := load_own (o := 3) kp rfl
        refine W_seq (W_seqR (by simp only [runSeq_cons, runSeq_nil, evalArgs_nil, evalArgs_tmp, evalArgs_const, val1, putT, Tr.get_set_self, Tr.get_set_ne, hd _, ne_eq, Nat.reduceEqDiff, not_false_eq_true, decide_true, Nat.reduceLT, opI_move, opI_fieldP, Nat.zero_add, h3, F2, bld, f1, f2]; rfl) (W_seq (W_seqR (by simp only [runSeq_cons, runSeq_nil, evalArgs_nil, evalArgs_tmp, evalArgs_const, val1, putT, Tr.get_set_self, Tr.get_set_ne, hd _, ne_eq, Nat.reduceEqDiff, not_false_eq_true, decide_true, Nat.reduceLT, opI_geq, opI_fieldP, Nat.zero_add, F3']; rfl) ?_)))
        refine W_cond (b := false) (by simp only [PArg.eval, Tr.get_set_self, Tr.get_set_ne, hd _, ne_eq, Nat.reduceEqDiff, not_false_eq_true, decide_true, Nat.reduceLT, c2, decide_false]; try rfl) (fun hb => by cases hb) (fun _ => W_skip ?_)
        show W _ _
        refine W_seqR (by simp only [runSeq_cons, runSeq_nil, evalArgs_nil, evalArgs_tmp, evalArgs_const, val1, putT, Tr.get_set_self, Tr.get_set_ne, hd _, ne_eq, Nat.reduceEqDiff, not_false_eq_true, decide_true, Nat.reduceLT, opI_move, opI_add, h12]; rfl) ?_
        refine ⟨k - 1, by omega, i + 1, _, by omega, s5, .inl ?_, by ((repeat (with_reducible apply Dom.set)); exact hd), by simp only [Tr.get_set_self, Tr.get_set_ne, hd _, ne_eq, Nat.reduceEqDiff, not_false_eq_true, decide_true, Nat.reduceLT]; rfl, by simp only [Tr.get_set_ne, ne_eq, Nat.reduceEqDiff, not_false_eq_true, h10], by simp only [Tr.get_set_ne, ne_eq, Nat.reduceEqDiff, not_false_eq_true, h11], ?_⟩
        · rw [hed, edge1, if_neg (by omega), if_neg c2]
          simpa [encA] using o5
        · simp only [Tr.get_set_self, Tr.get_set_ne, hd _, ne_eq, Nat.reduceEqDiff, not_false_eq_true, decide_true, Nat.reduceLT]
          rw [wrapF_small (by omega) (by omega)]; rfl
    · refine W_exit ?_
      have hi : i = sps.length := by simp at hb; omega
      subst hi
      rw [List.take_length] at hs
      show W _ _
      have hel := edges_len sps
      obtain ⟨M2, c2, s2, hs2⟩ := sort_call (d := edges sps) d st hs (by omega)
      have hsl := sortE_len (edges sps)
      have l2 := (hs2.row s2.ok.1).len
      rw [List.length_map] at l2
      refine W_seq (W_seqR (by simp only [runSeq_cons, runSeq_nil, evalArgs_nil, evalArgs_tmp, evalArgs_const, val1, putT, Tr.get_set_self, Tr.get_set_ne, hd _, ne_eq, Nat.reduceEqDiff, not_false_eq_true, decide_true, Nat.reduceLT, opI_move, opI_callF, h3, c2]; rfl) (W_seq (W_seqR (by simp only [runSeq_cons, runSeq_nil, evalArgs_nil, evalArgs_const, val1, putT, opI_move]; rfl) ?_)))
      refine W_seq (W_seq (W_seqR (by simp only [runSeq_cons, runSeq_nil, evalArgs_nil, evalArgs_tmp, evalArgs_const, val1, putT, Tr.get_set_self, Tr.get_set_ne, hd _, ne_eq, Nat.reduceEqDiff, not_false_eq_true, decide_true, Nat.reduceLT, opI_move, h3, l2]; rfl) (W_block (W_loop (fun k t M' => ∃ (i : Nat), k + i = (sortE (edges sps)).length ∧ Step M0 M' ∧ FreshE M0 M' 2 s ((sortE (edges sps)).map encA) ∧ Dom t 66 ∧ t.get 49 = some s ∧ t.get 50 = some (.int .i64 (sortE (edges sps)).length) ∧ t.get 51 = some (.int .i64 i) ∧ t.get 6 = some (.int .i64 (((sortE (edges sps)).take i).foldl cnt (0, 0)).1) ∧ t.get 7 = some (.int .i64 (((sortE (edges sps)).take i).foldl cnt (0, 0)).2)) (k := (sortE (edges sps)).length) (by omega) ?_ ?_))))
      · exact ⟨0, rfl, s2, hs2, by ((repeat (with_reducible apply Dom.set)); exact hd), by simp only [Tr.get_set_self, Tr.get_set_ne, hd _, ne_eq, Nat.reduceEqDiff, not_false_eq_true, decide_true, Nat.reduceLT], by simp only [Tr.get_set_self, Tr.get_set_ne, hd _, ne_eq, Nat.reduceEqDiff, not_false_eq_true, decide_true, Nat.reduceLT], by simp only [Tr.get_set_self, Tr.get_set_ne, hd _, ne_eq, Nat.reduceEqDiff, not_false_eq_true, decide_true, Nat.reduceLT]; rfl, by simp only [Tr.get_set_self, Tr.get_set_ne, hd _, ne_eq, Nat.reduceEqDiff, not_false_eq_true, decide_true, Nat.reduceLT]; rfl, by simp only [Tr.get_set_self, Tr.get_set_ne, hd _, ne_eq, Nat.reduceEqDiff, not_false_eq_true, decide_true, Nat.reduceLT]; rfl⟩
      unfold mostP
      clear h3 h10 h11 h12 hd c2 l2 s2 hs2 hs st lv hv0 t M2 hk hb
      generalize sortE (edges sps) = ds at *
      intro k t M ⟨i, hk, st, hs, hd, h49, h50, h51, h6, h7⟩
      have hbd := cnt_bd (ds.take i) (0, 0) 0 (by simp) (by simp) (by simp) (by simp)
      have htl : (ds.take i).length ≤ 2000 := by rw [List.length_take]; omega
      refine W_seq (W_seqR (by simp only [runSeq_cons, runSeq_nil, evalArgs_nil, evalArgs_tmp, val1, putT, opI_lss, h50, h51]; rfl) (W_seq ?_))
      refine W_cond (by simp only [PArg.eval, Tr.get_set_self, hd _, decide_true, Nat.reduceLT]; rfl) (fun hb => W_skip ?_) (fun hb => ?_)
      rotate_left
      · refine W_exit ?_
        have hi : i = ds.length := by simp at hb; omega
        subst hi
        rw [List.take_length] at h7
        show W _ _
        refine W_seq (W_seqR (by simp only [runSeq_cons, runSeq_nil, evalArgs_nil, evalArgs_tmp, val1, putT, Tr.get_set_self, Tr.get_set_ne, hd _, ne_eq, Nat.reduceEqDiff, not_false_eq_true, decide_true, Nat.reduceLT, opI_move, h7]; rfl) (W_ret ?_))
        exact ⟨_, fin_tmp (by simp only [Tr.get_set_self, Tr.get_set_ne, hd _, ne_eq, Nat.reduceEqDiff, not_false_eq_true, decide_true, Nat.reduceLT]; try rfl), st, rfl⟩
      have hin : i < ds.length := by simpa using hb
      have hil : i < (ds.map encA).length := by rw [List.length_map]; exact hin
      obtain ⟨p, pp, p1, p2, _⟩ := (hs.row st.ok.1).at_ hil (by omega)
      replace p2 := p2 0 2 (by omega)
      rw [List.getElem_map] at p2
      have htk : (ds.take (i + 1)).foldl cnt (0, 0) = cnt ((ds.take i).foldl cnt (0, 0)) ds[i] := by
        rw [List.take_succ_eq_append_getElem hin, List.foldl_append]; rfl
      generalize hX : ds[i] = X at *
      simp only [encA, List.drop_zero, List.take_succ_cons, List.take_zero] at p2
      generalize (ds.take i).foldl cnt (0, 0) = a at *
      have s2 := st.push (k := .cells [.int .i64 0, .bool false] 0 true none) (fun _ _ _ _ he => by cases he)
      have g2 := get_push_self (k := .cells [.int .i64 0, .bool false] 0 true none) st.ok.1
      obtain ⟨e3, s3, c3, k3⟩ := store_all (n := 2) (new := [.int .i64 X.1, .bool X.2]) s2 st.grow.n g2 rfl rfl rfl
      have hg3 : Grow M _ := ⟨Nat.le_succ _, fun b hb => (k3 b (by omega)).trans (get_push_old st.ok.1 hb), rfl, fun _ => s3.ok.1⟩
      have hs3 := hs.grow st.ok.1 hg3
      have F1 := load_own (o := 1) c3 rfl
      refine W_seq (W_block (W_seq (W_seqR (by simp only [runSeq_cons, runSeq_nil, evalArgs_nil, evalArgs_tmp, val1, putT, Tr.get_set_self, Tr.get_set_ne, hd _, ne_eq, Nat.reduceEqDiff, not_false_eq_true, decide_true, Nat.reduceLT, opI_new, h49, h51, p1, p2, e3]; rfl) (W_seq (W_seq (W_seqR (by simp only [runSeq_cons, runSeq_nil, evalArgs_nil, evalArgs_tmp, val1, putT, Tr.get_set_self, Tr.get_set_ne, hd _, ne_eq, Nat.reduceEqDiff, not_false_eq_true, decide_true, Nat.reduceLT, opI_fieldP, Nat.zero_add, F1]; rfl) ?_))))))
      cases hx2 : X.2 with
      | true =>
        rw [hx2] at s3 hs3
        refine W_cond (b := true) (by simp only [PArg.eval, Tr.get_set_self, Tr.get_set_ne, hd _, ne_eq, Nat.reduceEqDiff, not_false_eq_true, decide_true, Nat.reduceLT]; try rfl) (fun _ => ?_) (fun hb => by cases hb)
        refine W_seq (W_seqR (by simp only [runSeq_cons, runSeq_nil, evalArgs_nil, evalArgs_tmp, evalArgs_const, val1, putT, Tr.get_set_self, Tr.get_set_ne, hd _, ne_eq, Nat.reduceEqDiff, not_false_eq_true, decide_true, Nat.reduceLT, opI_move, opI_sub, h6]; rfl) (W_exit ?_))
        show W _ _
        refine W_seqR (by simp only [runSeq_cons, runSeq_nil, evalArgs_nil, evalArgs_tmp, evalArgs_const, val1, putT, Tr.get_set_self, Tr.get_set_ne, hd _, ne_eq, Nat.reduceEqDiff, not_false_eq_true, decide_true, Nat.reduceLT, opI_move, opI_add, h51]; rfl) ?_
        refine ⟨k - 1, by omega, i + 1, by omega, s3, hs3, by ((repeat (with_reducible apply Dom.set)); exact hd), by simp only [Tr.get_set_ne, ne_eq, Nat.reduceEqDiff, not_false_eq_true, h49], by simp only [Tr.get_set_ne, ne_eq, Nat.reduceEqDiff, not_false_eq_true, h50], ?_, ?_, ?_⟩
        · simp only [Tr.get_set_self, Tr.get_set_ne, hd _, ne_eq, Nat.reduceEqDiff, not_false_eq_true, decide_true, Nat.reduceLT]
          rw [wrapF_small (by omega) (by omega)]; rfl
        · simp only [Tr.get_set_self, Tr.get_set_ne, hd _, ne_eq, Nat.reduceEqDiff, not_false_eq_true, decide_true, Nat.reduceLT]
          rw [htk, cnt, if_pos hx2]
          congr 2
          unfold wrapF; simp only; split <;> omega
        · simp only [Tr.get_set_ne, ne_eq, Nat.reduceEqDiff, not_false_eq_true, h7]
          rw [htk, cnt, if_pos hx2]
      | false =>
        rw [hx2] at s3 hs3
        refine W_cond (b := false) (by simp only [PArg.eval, Tr.get_set_self, Tr.get_set_ne, hd _, ne_eq, Nat.reduceEqDiff, not_false_eq_true, decide_true, Nat.reduceLT]; try rfl) (fun hb => by cases hb) (fun _ => W_skip ?_)
        show W _ _
        have hw : wrapF .i64 (a.1 + 1) = a.1 + 1 := by unfold wrapF; simp only; split <;> omega
        have hmx : ∀ (x y : Int) (M : AMem), opI (.minmax true) [.int .i64 x, .int .i64 y] M = some (.val (.int .i64 (max x y)) M) := fun x y M => by
          simp only [opI, if_true]
          congr 3
          split <;> omega
        refine W_seq (W_seqR (by simp only [runSeq_cons, runSeq_nil, evalArgs_nil, evalArgs_tmp, evalArgs_const, val1, putT, Tr.get_set_self, Tr.get_set_ne, hd _, ne_eq, Nat.reduceEqDiff, not_false_eq_true, decide_true, Nat.reduceLT, opI_move, opI_add, h6, hw]; rfl) (W_seqR (by simp only [runSeq_cons, runSeq_nil, evalArgs_nil, evalArgs_tmp, val1, putT, Tr.get_set_self, Tr.get_set_ne, hd _, ne_eq, Nat.reduceEqDiff, not_false_eq_true, decide_true, Nat.reduceLT, opI_move, h7, hmx]; rfl) ?_))
        show W _ _
        refine W_seqR (by simp only [runSeq_cons, runSeq_nil, evalArgs_nil, evalArgs_tmp, evalArgs_const, val1, putT, Tr.get_set_self, Tr.get_set_ne, hd _, ne_eq, Nat.reduceEqDiff, not_false_eq_true, decide_true, Nat.reduceLT, opI_move, opI_add, h51]; rfl) ?_
        refine ⟨k - 1, by omega, i + 1, by omega, s3, hs3, by ((repeat (with_reducible apply Dom.set)); exact hd), by simp only [Tr.get_set_ne, ne_eq, Nat.reduceEqDiff, not_false_eq_true, h49], by simp only [Tr.get_set_ne, ne_eq, Nat.reduceEqDiff, not_false_eq_true, h50], ?_, ?_, ?_⟩
        · simp only [Tr.get_set_self, Tr.get_set_ne, hd _, ne_eq, Nat.reduceEqDiff, not_false_eq_true, decide_true, Nat.reduceLT]
          rw [wrapF_small (by omega) (by omega)]; rfl
        · simp only [Tr.get_set_self, Tr.get_set_ne, hd _, ne_eq, Nat.reduceEqDiff, not_false_eq_true, decide_true, Nat.reduceLT]
          rw [htk, cnt, if_neg (by rw [hx2]; simp)]
        · simp only [Tr.get_set_self, Tr.get_set_ne, hd _, ne_eq, Nat.reduceEqDiff, not_false_eq_true, decide_true, Nat.reduceLT]
          rw [htk, cnt, if_neg (by rw [hx2]; simp)]
end Go.Proofs.Ytgjamfkmaccgaaa.diary
