/- The walks of the document's Adds, Takes and lacks. -/
import Derived.Test.YtpbejdlpkpehlaaBgTal
import Derived.Test.YtpbejdlpkpehlaaBgIn
namespace Go.Proofs.Ytpbejdlpkpehlaa.bag
open Go Go.Vx
set_option maxRecDepth 20000 in
set_option maxHeartbeats 4000000 in
theorem refadds_ok {T : Tbl} (hT : ∀ a M, T 14 a M = none) {e : List AV} {s : Sn} (he : SnC e s) (d : Nat) (M : AMem) (hok : Okg M) :
    Ans (callF T code 100000 (d + 1)) 14 [.agg e] M fun r M' => Step M M' ∧ r = .bool (addB s) := by
  refine Ans_of (hT _) (show code 14 = some c14 from by kernel_rfl) (by simp) fun t hd ha => ?_
  have h0 := ha 0 _ rfl
  clear ha
  obtain ⟨s1, g1⟩ := boxed (Step.refl hok) e
  refine W_seq (W_seqR (by simp only [runSeq_cons, runSeq_nil, evalArgs_nil, evalArgs_tmp, evalArgs_const, val1, putT, opI_move, opI_box, cells_agg, h0]; rfl) ?_)
  generalize M.push (.cells e 0 true none) = K at *
  obtain ⟨w_, x_, va_, la_, rfl, _, _⟩ := he
  have f3 : opI (.load false 1) [.ptr (some (M.n, 3))] K = some (.val (.int .i64 s.to) K) := load_own g1 rfl
  have f4 : opI (.load false 1) [.ptr (some (M.n, 4))] K = some (.val (.int .i64 s.kind) K) := load_own g1 rfl
  have f7 : opI (.load false 1) [.ptr (some (M.n, 7))] K = some (.val (.int .i64 s.code) K) := load_own g1 rfl
  have hb : addB s = (s.kind == 1 && (decide (s.to < 0) || s.code == 0)) := by
    unfold addB
    rw [Bool.decide_and, Bool.decide_or]; rfl
  rw [hb]
  cases q1 : s.kind == 1 with
  | false =>
    refine W_seq (W_seqR (by simp only [runSeq_cons, runSeq_nil, evalArgs_nil, evalArgs_tmp, evalArgs_const, val1, putT, Tr.get_set_self, Tr.get_set_ne, Tr.isSome_set, hd _, ne_eq, Nat.reduceEqDiff, not_false_eq_true, decide_true, Nat.reduceLT, opI_move, opI_eql, opI_fieldP, opI_pick, Nat.zero_add, Nat.add_zero, runSeq_guard (b := false), Bool.false_beq, Bool.not_true, runSeq_skip, f4, q1]; rfl) (W_ret ?_))
    exact ⟨_, fin_tmp (by simp only [Tr.get_set_self, Tr.get_set_ne, Tr.isSome_set, Option.isSome_some, hd _, ne_eq, Nat.reduceEqDiff, not_false_eq_true, decide_true, Nat.reduceLT]; try rfl), s1, rfl⟩
  | true =>
    cases q2 : decide (s.to < 0) with
    | true =>
      refine W_seq (W_seqR (by simp only [runSeq_cons, runSeq_nil, evalArgs_nil, evalArgs_tmp, evalArgs_const, val1, putT, Tr.get_set_self, Tr.get_set_ne, Tr.isSome_set, hd _, ne_eq, Nat.reduceEqDiff, not_false_eq_true, decide_true, Nat.reduceLT, opI_move, opI_lss, opI_eql, opI_fieldP, opI_pick, Nat.zero_add, Nat.add_zero, runSeq_guard (b := true), beq_self_eq_true, Bool.true_beq, f3, f4, q1, q2]; rfl) (W_ret ?_))
      exact ⟨_, fin_tmp (by simp only [Tr.get_set_self, Tr.get_set_ne, Tr.isSome_set, Option.isSome_some, hd _, ne_eq, Nat.reduceEqDiff, not_false_eq_true, decide_true, Nat.reduceLT]; try rfl), s1, rfl⟩
    | false =>
      refine W_seq (W_seqR (by simp only [runSeq_cons, runSeq_nil, evalArgs_nil, evalArgs_tmp, evalArgs_const, val1, putT, Tr.get_set_self, Tr.get_set_ne, Tr.isSome_set, hd _, ne_eq, Nat.reduceEqDiff, not_false_eq_true, decide_true, Nat.reduceLT, opI_move, opI_lss, opI_eql, opI_fieldP, opI_pick, Nat.zero_add, Nat.add_zero, runSeq_guard (b := true), runSeq_guard (b := false), beq_self_eq_true, f3, f4, f7, q1, q2]; rfl) (W_ret ?_))
      exact ⟨_, fin_tmp (by simp only [Tr.get_set_self, Tr.get_set_ne, Tr.isSome_set, Option.isSome_some, hd _, ne_eq, Nat.reduceEqDiff, not_false_eq_true, decide_true, Nat.reduceLT]; try rfl), s1, rfl⟩
set_option maxRecDepth 20000 in
set_option maxHeartbeats 4000000 in
theorem reftakes_ok {T : Tbl} (hT : ∀ a M, T 11 a M = none) {e : List AV} {s : Sn} (he : SnC e s) (d : Nat) (M : AMem) (hok : Okg M) :
    Ans (callF T code 100000 (d + 1)) 11 [.agg e] M fun r M' => Step M M' ∧ r = .bool (takB s) := by
  refine Ans_of (hT _) (show code 11 = some c11 from by kernel_rfl) (by simp) fun t hd ha => ?_
  have h0 := ha 0 _ rfl
  clear ha
  obtain ⟨s1, g1⟩ := boxed (Step.refl hok) e
  refine W_seq (W_seqR (by simp only [runSeq_cons, runSeq_nil, evalArgs_nil, evalArgs_tmp, evalArgs_const, val1, putT, opI_move, opI_box, cells_agg, h0]; rfl) ?_)
  generalize M.push (.cells e 0 true none) = K at *
  obtain ⟨w_, x_, va_, la_, rfl, _, _⟩ := he
  have f3 : opI (.load false 1) [.ptr (some (M.n, 3))] K = some (.val (.int .i64 s.to) K) := load_own g1 rfl
  have f4 : opI (.load false 1) [.ptr (some (M.n, 4))] K = some (.val (.int .i64 s.kind) K) := load_own g1 rfl
  have f7 : opI (.load false 1) [.ptr (some (M.n, 7))] K = some (.val (.int .i64 s.code) K) := load_own g1 rfl
  have hb : takB s = (s.kind == 2 && (decide (s.to ≥ 0) && s.code == 0)) := by
    unfold takB
    rw [Bool.decide_and, Bool.decide_and]; rfl
  rw [hb]
  cases q1 : s.kind == 2 with
  | false =>
    refine W_seq (W_seqR (by simp only [runSeq_cons, runSeq_nil, evalArgs_nil, evalArgs_tmp, evalArgs_const, val1, putT, Tr.get_set_self, Tr.get_set_ne, Tr.isSome_set, hd _, ne_eq, Nat.reduceEqDiff, not_false_eq_true, decide_true, Nat.reduceLT, opI_move, opI_eql, opI_fieldP, opI_pick, Nat.zero_add, Nat.add_zero, runSeq_guard (b := false), Bool.false_beq, Bool.not_true, f4, q1]; rfl) (W_ret ?_))
    exact ⟨_, fin_tmp (by simp only [Tr.get_set_self, Tr.get_set_ne, Tr.isSome_set, Option.isSome_some, hd _, ne_eq, Nat.reduceEqDiff, not_false_eq_true, decide_true, Nat.reduceLT]; try rfl), s1, rfl⟩
  | true =>
    cases q2 : decide (s.to ≥ 0) with
    | true =>
      refine W_seq (W_seqR (by simp only [runSeq_cons, runSeq_nil, evalArgs_nil, evalArgs_tmp, evalArgs_const, val1, putT, Tr.get_set_self, Tr.get_set_ne, Tr.isSome_set, hd _, ne_eq, Nat.reduceEqDiff, not_false_eq_true, decide_true, Nat.reduceLT, opI_move, opI_geq, opI_eql, opI_fieldP, opI_pick, Nat.zero_add, Nat.add_zero, runSeq_guard (b := true), beq_self_eq_true, f3, f4, f7, q1, q2]; rfl) (W_ret ?_))
      exact ⟨_, fin_tmp (by simp only [Tr.get_set_self, Tr.get_set_ne, Tr.isSome_set, Option.isSome_some, hd _, ne_eq, Nat.reduceEqDiff, not_false_eq_true, decide_true, Nat.reduceLT]; try rfl), s1, rfl⟩
    | false =>
      refine W_seq (W_seqR (by simp only [runSeq_cons, runSeq_nil, evalArgs_nil, evalArgs_tmp, evalArgs_const, val1, putT, Tr.get_set_self, Tr.get_set_ne, Tr.isSome_set, hd _, ne_eq, Nat.reduceEqDiff, not_false_eq_true, decide_true, Nat.reduceLT, opI_move, opI_geq, opI_eql, opI_fieldP, opI_pick, Nat.zero_add, Nat.add_zero, runSeq_guard (b := true), runSeq_guard (b := false), beq_self_eq_true, Bool.false_beq, Bool.not_true, f3, f4, q1, q2]; rfl) (W_ret ?_))
      exact ⟨_, fin_tmp (by simp only [Tr.get_set_self, Tr.get_set_ne, Tr.isSome_set, Option.isSome_some, hd _, ne_eq, Nat.reduceEqDiff, not_false_eq_true, decide_true, Nat.reduceLT]; try rfl), s1, rfl⟩
/-- all that is read of a span -/
theorem SnR.rd {M : AMem} {lv : AV} {l : List Sn} (h : SnR M lv l) {i : Nat} (hi : i < l.length) : ∃ (p : AV) (e : List AV), SnC e l[i] ∧ IsP p ∧ opI (.indexAddrS 10) [lv, .int .i64 i] M = some (.val (padd p 0) M) ∧ opI (.load true 10) [padd p 0] M = some (.val (.agg e) M) ∧
    opI (.load false 1) [padd p 2] M = some (.val (.int .i64 l[i].from_) M) ∧ opI (.load false 1) [padd p 3] M = some (.val (.int .i64 l[i].to) M) ∧ opI (.load false 1) [padd p 4] M = some (.val (.int .i64 l[i].kind) M) ∧ opI (.load false 1) [padd p 5] M = some (.val (.int .u64 l[i].task) M) ∧
    opI (.load false 1) [padd p 7] M = some (.val (.int .i64 l[i].code) M) ∧ opI (.load false 1) [padd p 8] M = some (.val (.int .u64 l[i].v) M) := by
  obtain ⟨p, e, h1, h2, h3, h4, h5⟩ := h.at_ hi
  have h1' := h1
  obtain ⟨w, x, va, la, rfl, _, _⟩ := h1'
  exact ⟨p, _, h1, h2, h3, h4, h5 2 _ rfl, h5 3 _ rfl, h5 4 _ rfl, h5 5 _ rfl, h5 7 _ rfl, h5 8 _ rfl⟩
def upB (r s : Sn) (x : Int) : Bool := addB s && (s.task == x && (decide (s.to ≥ 0) && decide (s.to < r.from_)))
def dnB (r s : Sn) (x : Int) : Bool := takB s && (s.v == x && decide (s.from_ < r.to))
theorem bump_up (r s : Sn) (x : Int) : bump r s x = (if upB r s x then 1 else 0) - (if dnB r s x then 1 else 0) := by
  unfold bump upB dnB aheadB
  cases h1 : addB s with
  | true =>
    have h2 : takB s = false := by
      unfold addB at h1
      unfold takB
      have := of_decide_eq_true h1
      exact decide_eq_false fun h => by omega
    rw [h2]
    by_cases c : x = s.task
    · subst c
      simp
    · have c' : (s.task == x) = false := by simpa using fun h => c h.symm
      simp [c, c']
  | false =>
    by_cases c : x = s.v
    · subst c
      simp
      split <;> rfl
    · have c' : (s.v == x) = false := by simpa using fun h => c h.symm
      simp [c, c']
set_option maxRecDepth 20000 in
set_option maxHeartbeats 8000000 in
theorem lacks_ok {T : Tbl} (hA : ∀ a M, T 14 a M = none) (hB : ∀ a M, T 11 a M = none) (hT : ∀ a M, T 17 a M = none) {v : AV} {l : List Sn} {rc : List AV} {r : Sn} {x : Int} (d : Nat) (M : AMem) (hok : Okg M) (hl : SnR M v l) (hr : SnC rc r) (hn : l.length ≤ 1000) :
    Ans (callF T code 100000 (d + 2)) 17 [v, .agg rc, .int .u64 x] M fun res M' => Step M M' ∧ res = .int .i64 (max (leftN r l x) 0) := by
  refine Ans_of (hT _) (show code 17 = some c17 from by kernel_rfl) (by simp) fun t hd ha => ?_
  have h0 := ha 0 _ rfl
  have h1 := ha 1 _ rfl
  have h2 := ha 2 _ rfl
  clear ha
  obtain ⟨s1, g1⟩ := boxed (Step.refl hok) rc
  have n1 : (M.push (.cells rc 0 true none)).n = M.n + 1 := push_n
  refine W_seq (W_seqR (by simp only [runSeq_cons, runSeq_nil, evalArgs_nil, evalArgs_tmp, evalArgs_const, val1, putT, opI_move, opI_box, cells_agg, h1]; rfl) ?_)
  generalize M.push (.cells rc 0 true none) = K1 at *
  refine W_seq (W_seqR (by simp only [runSeq_cons, runSeq_nil, evalArgs_nil, evalArgs_const, val1, putT, opI_move]; rfl) ?_)
  refine W_seq (W_seq (W_seqR (by simp only [runSeq_cons, runSeq_nil, evalArgs_nil, evalArgs_const, val1, putT, opI_move]; rfl) (W_block (W_loop (fun k t K => ∃ i : Nat, k + i = l.length ∧ Step M K ∧ K.get M.n = some (.cells rc 0 true none) ∧ Dom t 80 ∧ t.get 0 = some v ∧ t.get 2 = some (.int .u64 x) ∧ t.get 4 = some (.ptr (some (M.n, 0))) ∧ t.get 7 = some (.int .i64 (leftN r (l.take i) x)) ∧ t.get 8 = some (.int .i64 i)) (k := l.length) (by omega) ?_ ?_))))
  · exact ⟨0, rfl, s1, g1, by ((repeat (with_reducible apply Dom.set)); exact hd), by simp only [Tr.get_set_ne, ne_eq, Nat.reduceEqDiff, not_false_eq_true, h0], by simp only [Tr.get_set_ne, ne_eq, Nat.reduceEqDiff, not_false_eq_true, h2], by simp only [Tr.get_set_self, Tr.get_set_ne, hd _, ne_eq, Nat.reduceEqDiff, not_false_eq_true, decide_true, Nat.reduceLT]; try rfl, by simp only [Tr.get_set_self, Tr.get_set_ne, hd _, ne_eq, Nat.reduceEqDiff, not_false_eq_true, decide_true, Nat.reduceLT]; try rfl, by simp only [Tr.get_set_self, Tr.get_set_ne, hd _, ne_eq, Nat.reduceEqDiff, not_false_eq_true, decide_true, Nat.reduceLT]; try rfl⟩
  clear h0 h1 h2 hd
  rintro k t K ⟨i, hk, sK, gr, hd, h0, h2, h4, h7, h8⟩
  have lv := (hl.grow sK.grow).len
  refine W_seq (W_seq (W_seqR (by simp only [runSeq_cons, runSeq_nil, evalArgs_nil, evalArgs_tmp, val1, putT, Tr.get_set_self, Tr.get_set_ne, hd _, ne_eq, Nat.reduceEqDiff, not_false_eq_true, decide_true, Nat.reduceLT, opI_move, opI_lss, h0, h8, lv]; rfl) ?_))
  refine W_cond (by simp only [PArg.eval, Tr.get_set_self, Tr.get_set_ne, hd _, ne_eq, Nat.reduceEqDiff, not_false_eq_true, decide_true, Nat.reduceLT]; rfl) (fun hb => W_skip ?_) (fun hb => W_exit ?_)
  rotate_left
  · have hi : i = l.length := by
      have := of_decide_eq_false hb
      omega
    subst hi
    rw [List.take_length] at h7
    have hle := leftN_le r x l
    show W _ _
    refine W_seq (W_seq (W_seqR (by simp only [runSeq_cons, runSeq_nil, evalArgs_nil, evalArgs_tmp, evalArgs_const, val1, putT, Tr.get_set_self, Tr.get_set_ne, hd _, ne_eq, Nat.reduceEqDiff, not_false_eq_true, decide_true, Nat.reduceLT, opI_move, opI_lss, h7]; rfl) ?_))
    refine W_cond (by simp only [PArg.eval, Tr.get_set_self, Tr.get_set_ne, hd _, ne_eq, Nat.reduceEqDiff, not_false_eq_true, decide_true, Nat.reduceLT]; rfl) (fun hb => ?_) (fun hb => W_skip ?_)
    · refine W_seq (W_seqR (by simp only [runSeq_cons, runSeq_nil, evalArgs_nil, evalArgs_const, val1, putT, opI_move]; rfl) (W_ret ?_))
      have := of_decide_eq_true hb
      exact ⟨_, fin_tmp (by simp only [Tr.get_set_self, Tr.get_set_ne, hd _, ne_eq, Nat.reduceEqDiff, not_false_eq_true, decide_true, Nat.reduceLT]; try rfl), sK, by rw [Int.max_eq_right (by omega)]; rfl⟩
    · show W _ _
      refine W_seq (W_seqR (by simp only [runSeq_cons, runSeq_nil, evalArgs_nil, evalArgs_tmp, val1, putT, Tr.get_set_self, Tr.get_set_ne, hd _, ne_eq, Nat.reduceEqDiff, not_false_eq_true, decide_true, Nat.reduceLT, opI_move, h7]; rfl) (W_ret ?_))
      have := of_decide_eq_false hb
      exact ⟨_, fin_tmp (by simp only [Tr.get_set_self, Tr.get_set_ne, hd _, ne_eq, Nat.reduceEqDiff, not_false_eq_true, decide_true, Nat.reduceLT]; try rfl), sK, by rw [Int.max_eq_left (by omega)]; rfl⟩
  have hi : i < l.length := by
    have := of_decide_eq_true hb
    omega
  have htk : l.take (i + 1) = l.take i ++ [l[i]] := by rw [List.take_add_one, List.getElem?_eq_getElem hi]; rfl
  have hlb := leftN_le r x (l.take i)
  have hll : (l.take i).length ≤ i := by rw [List.length_take]; omega
  have hup := bump_up r l[i] x
  have hl2 := leftN_add r l[i] (l.take i) x
  rw [← htk, hup] at hl2
  obtain ⟨p, e, hse, pp, ix, la, P2, P3, P4, P5, P7, P8⟩ := (hl.grow sK.grow).rd hi
  obtain ⟨_, K2, c1, s2, rfl⟩ := refadds_ok hA hse d K sK.ok
  have t2 := sK.trans s2
  obtain ⟨q, f, hsf, qq, iy, lb, Q2, Q3, Q4, Q5, Q7, Q8⟩ := (hl.grow t2.grow).rd hi
  obtain ⟨_, K3, c2, s3, rfl⟩ := reftakes_ok hB hsf d K2 t2.ok
  have t3 := t2.trans s3
  obtain ⟨q', f', hsf', qq', iy', lb', R2, R3, R4, R5, R7, R8⟩ := (hl.grow t3.grow).rd hi
  have gr2 := (s2.grow.get _ (get_lt sK.ok.1 gr)).trans gr
  have gr3 := (s3.grow.get _ (get_lt t2.ok.1 gr2)).trans gr2
  have hh := held_none sK.ok.1
  have hh2 := held_none t2.ok.1
  have F2 : opI (.load false 1) [.ptr (some (M.n, 2))] K2 = some (.val (.int .i64 r.from_) K2) := by
    obtain ⟨w_, x_, va_, la_, rfl, _, _⟩ := hr
    exact load_own gr2 rfl
  have F3 : opI (.load false 1) [.ptr (some (M.n, 3))] K3 = some (.val (.int .i64 r.to) K3) := by
    obtain ⟨w_, x_, va_, la_, rfl, _, _⟩ := hr
    exact load_own gr3 rfl
  generalize l[i] = s at *
  refine W_seq (W_block (W_seq (W.mono (Q := fun z t' K' => z = .normal ∧ K' = K2 ∧ Dom t' 80 ∧ t'.get 0 = some v ∧ t'.get 2 = some (.int .u64 x) ∧ t'.get 4 = some (.ptr (some (M.n, 0))) ∧ t'.get 7 = some (.int .i64 (leftN r (l.take i) x + if upB r s x then 1 else 0)) ∧ t'.get 8 = some (.int .i64 i)) ?_ ?_)))
  · refine W_seq (W.mono (Q := fun z t' K' => z = .normal ∧ K' = K2 ∧ Dom t' 80 ∧ t'.get 0 = some v ∧ t'.get 2 = some (.int .u64 x) ∧ t'.get 4 = some (.ptr (some (M.n, 0))) ∧ t'.get 7 = some (.int .i64 (leftN r (l.take i) x)) ∧ t'.get 8 = some (.int .i64 i) ∧ t'.get 47 = some (.bool (upB r s x))) ?_ ?_)
    · unfold upB
      cases u1 : addB s with
      | false =>
        rw [u1] at c1
        refine W_mix rfl (by simp only [sameN_self, evalArgs_nil, evalArgs_tmp, evalArgs_const, val1, putT, Tr.get_set_self, Tr.get_set_ne, Tr.isSome_set, hd _, ne_eq, Nat.reduceEqDiff, not_false_eq_true, decide_true, Nat.reduceLT, opI_move, opI_callF, opI_pick, runMix_nil, runMix_read, runMix_eff, runMix_guard (b := false), Bool.false_beq, Bool.not_true, h0, h8, ix, la, c1, hh]; rfl) ?_
        exact ⟨rfl, rfl, by ((repeat (with_reducible apply Dom.set)); exact hd), by simp only [Tr.get_set_ne, ne_eq, Nat.reduceEqDiff, not_false_eq_true, h0], by simp only [Tr.get_set_ne, ne_eq, Nat.reduceEqDiff, not_false_eq_true, h2], by simp only [Tr.get_set_ne, ne_eq, Nat.reduceEqDiff, not_false_eq_true, h4], by simp only [Tr.get_set_ne, ne_eq, Nat.reduceEqDiff, not_false_eq_true, h7], by simp only [Tr.get_set_ne, ne_eq, Nat.reduceEqDiff, not_false_eq_true, h8], by simp only [Tr.get_set_self, Tr.get_set_ne, hd _, ne_eq, Nat.reduceEqDiff, not_false_eq_true, decide_true, Nat.reduceLT]; try rfl⟩
      | true =>
        rw [u1] at c1
        cases u2 : s.task == x with
        | false =>
          refine W_mix rfl (by simp only [sameN_self, evalArgs_nil, evalArgs_tmp, evalArgs_const, val1, putT, Tr.get_set_self, Tr.get_set_ne, Tr.isSome_set, hd _, ne_eq, Nat.reduceEqDiff, not_false_eq_true, decide_true, Nat.reduceLT, opI_move, opI_eql, opI_callF, opI_pick, Nat.zero_add, Nat.reduceAdd, runMix_nil, runMix_read, runMix_eff, runMix_guard (b := true), runMix_guard (b := false), beq_self_eq_true, Bool.false_beq, Bool.not_true, h0, h2, h8, ix, la, c1, hh, iy, opI_fieldQ qq, Q5, u2]; rfl) ?_
          exact ⟨rfl, rfl, by ((repeat (with_reducible apply Dom.set)); exact hd), by simp only [Tr.get_set_ne, ne_eq, Nat.reduceEqDiff, not_false_eq_true, h0], by simp only [Tr.get_set_ne, ne_eq, Nat.reduceEqDiff, not_false_eq_true, h2], by simp only [Tr.get_set_ne, ne_eq, Nat.reduceEqDiff, not_false_eq_true, h4], by simp only [Tr.get_set_ne, ne_eq, Nat.reduceEqDiff, not_false_eq_true, h7], by simp only [Tr.get_set_ne, ne_eq, Nat.reduceEqDiff, not_false_eq_true, h8], by simp only [Tr.get_set_self, Tr.get_set_ne, hd _, ne_eq, Nat.reduceEqDiff, not_false_eq_true, decide_true, Nat.reduceLT]; try rfl⟩
        | true =>
          cases u3 : decide (s.to ≥ 0) with
          | false =>
            refine W_mix rfl (by simp only [sameN_self, evalArgs_nil, evalArgs_tmp, evalArgs_const, val1, putT, Tr.get_set_self, Tr.get_set_ne, Tr.isSome_set, hd _, ne_eq, Nat.reduceEqDiff, not_false_eq_true, decide_true, Nat.reduceLT, opI_move, opI_geq, opI_eql, opI_callF, opI_pick, Nat.zero_add, Nat.reduceAdd, runMix_nil, runMix_read, runMix_eff, runMix_guard (b := true), runMix_guard (b := false), beq_self_eq_true, Bool.false_beq, Bool.not_true, h0, h2, h8, ix, la, c1, hh, iy, opI_fieldQ qq, Q5, u2, Q3, u3]; rfl) ?_
            exact ⟨rfl, rfl, by ((repeat (with_reducible apply Dom.set)); exact hd), by simp only [Tr.get_set_ne, ne_eq, Nat.reduceEqDiff, not_false_eq_true, h0], by simp only [Tr.get_set_ne, ne_eq, Nat.reduceEqDiff, not_false_eq_true, h2], by simp only [Tr.get_set_ne, ne_eq, Nat.reduceEqDiff, not_false_eq_true, h4], by simp only [Tr.get_set_ne, ne_eq, Nat.reduceEqDiff, not_false_eq_true, h7], by simp only [Tr.get_set_ne, ne_eq, Nat.reduceEqDiff, not_false_eq_true, h8], by simp only [Tr.get_set_self, Tr.get_set_ne, hd _, ne_eq, Nat.reduceEqDiff, not_false_eq_true, decide_true, Nat.reduceLT]; try rfl⟩
          | true =>
            refine W_mix rfl (by simp only [sameN_self, evalArgs_nil, evalArgs_tmp, evalArgs_const, val1, putT, Tr.get_set_self, Tr.get_set_ne, Tr.isSome_set, hd _, ne_eq, Nat.reduceEqDiff, not_false_eq_true, decide_true, Nat.reduceLT, opI_move, opI_lss, opI_geq, opI_eql, opI_callF, opI_fieldP, opI_pick, Nat.zero_add, Nat.reduceAdd, runMix_nil, runMix_read, runMix_eff, runMix_guard (b := true), beq_self_eq_true, h0, h2, h4, h8, ix, la, c1, hh, iy, opI_fieldQ qq, Q5, u2, Q3, u3, F2]; rfl) ?_
            exact ⟨rfl, rfl, by ((repeat (with_reducible apply Dom.set)); exact hd), by simp only [Tr.get_set_ne, ne_eq, Nat.reduceEqDiff, not_false_eq_true, h0], by simp only [Tr.get_set_ne, ne_eq, Nat.reduceEqDiff, not_false_eq_true, h2], by simp only [Tr.get_set_ne, ne_eq, Nat.reduceEqDiff, not_false_eq_true, h4], by simp only [Tr.get_set_ne, ne_eq, Nat.reduceEqDiff, not_false_eq_true, h7], by simp only [Tr.get_set_ne, ne_eq, Nat.reduceEqDiff, not_false_eq_true, h8], by simp only [Tr.get_set_self, Tr.get_set_ne, hd _, ne_eq, Nat.reduceEqDiff, not_false_eq_true, decide_true, Nat.reduceLT]; try rfl⟩
    · clear h0 h2 h4 h7 h8 hd
      rintro z t' K' ⟨rfl, rfl, hd, h0, h2, h4, h7, h8, h47⟩
      show W _ _
      cases hu : upB r s x with
      | false =>
        rw [hu] at h47
        refine W_cond (b := false) (by simp only [PArg.eval, h47]; try rfl) (fun hb => by cases hb) (fun _ => W_skip ?_)
        exact ⟨rfl, rfl, hd, h0, h2, h4, by simpa using h7, h8⟩
      | true =>
        rw [hu] at h47
        refine W_cond (b := true) (by simp only [PArg.eval, h47]; try rfl) (fun _ => ?_) (fun hb => by cases hb)
        have w1 : wrapF .i64 (leftN r (l.take i) x + 1) = leftN r (l.take i) x + 1 := wrapF_any (by omega) (by omega)
        refine W_seqR (by simp only [runSeq_cons, runSeq_nil, evalArgs_nil, evalArgs_tmp, evalArgs_const, val1, putT, Tr.get_set_self, Tr.get_set_ne, hd _, ne_eq, Nat.reduceEqDiff, not_false_eq_true, decide_true, Nat.reduceLT, opI_move, opI_add, h7, w1]; rfl) ?_
        exact ⟨rfl, rfl, by ((repeat (with_reducible apply Dom.set)); exact hd), by simp only [Tr.get_set_ne, ne_eq, Nat.reduceEqDiff, not_false_eq_true, h0], by simp only [Tr.get_set_ne, ne_eq, Nat.reduceEqDiff, not_false_eq_true, h2], by simp only [Tr.get_set_ne, ne_eq, Nat.reduceEqDiff, not_false_eq_true, h4], by simp only [Tr.get_set_self, Tr.get_set_ne, hd _, ne_eq, Nat.reduceEqDiff, not_false_eq_true, decide_true, Nat.reduceLT]; rfl, by simp only [Tr.get_set_ne, ne_eq, Nat.reduceEqDiff, not_false_eq_true, h8]⟩
  clear h0 h2 h4 h7 h8 hd
  rintro z t' K' ⟨rfl, rfl, hd, h0, h2, h4, h7, h8⟩
  show W _ _
  generalize hA1 : leftN r (l.take i) x + (if upB r s x then 1 else 0) = a1 at *
  have ha1 : -1000 ≤ a1 ∧ a1 ≤ 1001 := by
    rw [← hA1]
    split <;> omega
  refine W.mono (Q := fun z t' K' => z = .normal ∧ K' = K3 ∧ Dom t' 80 ∧ t'.get 0 = some v ∧ t'.get 2 = some (.int .u64 x) ∧ t'.get 4 = some (.ptr (some (M.n, 0))) ∧ t'.get 7 = some (.int .i64 (leftN r (l.take (i + 1)) x)) ∧ t'.get 8 = some (.int .i64 i)) ?_ ?_
  · refine W_seq (W.mono (Q := fun z t' K' => z = .normal ∧ K' = K3 ∧ Dom t' 80 ∧ t'.get 0 = some v ∧ t'.get 2 = some (.int .u64 x) ∧ t'.get 4 = some (.ptr (some (M.n, 0))) ∧ t'.get 7 = some (.int .i64 a1) ∧ t'.get 8 = some (.int .i64 i) ∧ t'.get 74 = some (.bool (dnB r s x))) ?_ ?_)
    · unfold dnB
      cases u1 : takB s with
      | false =>
        rw [u1] at c2
        refine W_mix rfl (by simp only [sameN_self, evalArgs_nil, evalArgs_tmp, evalArgs_const, val1, putT, Tr.get_set_self, Tr.get_set_ne, Tr.isSome_set, hd _, ne_eq, Nat.reduceEqDiff, not_false_eq_true, decide_true, Nat.reduceLT, opI_move, opI_callF, opI_pick, runMix_nil, runMix_read, runMix_eff, runMix_guard (b := false), Bool.false_beq, Bool.not_true, h0, h8, iy, lb, c2, hh2]; rfl) ?_
        exact ⟨rfl, rfl, by ((repeat (with_reducible apply Dom.set)); exact hd), by simp only [Tr.get_set_ne, ne_eq, Nat.reduceEqDiff, not_false_eq_true, h0], by simp only [Tr.get_set_ne, ne_eq, Nat.reduceEqDiff, not_false_eq_true, h2], by simp only [Tr.get_set_ne, ne_eq, Nat.reduceEqDiff, not_false_eq_true, h4], by simp only [Tr.get_set_ne, ne_eq, Nat.reduceEqDiff, not_false_eq_true, h7], by simp only [Tr.get_set_ne, ne_eq, Nat.reduceEqDiff, not_false_eq_true, h8], by simp only [Tr.get_set_self, Tr.get_set_ne, hd _, ne_eq, Nat.reduceEqDiff, not_false_eq_true, decide_true, Nat.reduceLT]; try rfl⟩
      | true =>
        rw [u1] at c2
        cases u2 : s.v == x with
        | false =>
          refine W_mix rfl (by simp only [sameN_self, evalArgs_nil, evalArgs_tmp, evalArgs_const, val1, putT, Tr.get_set_self, Tr.get_set_ne, Tr.isSome_set, hd _, ne_eq, Nat.reduceEqDiff, not_false_eq_true, decide_true, Nat.reduceLT, opI_move, opI_eql, opI_callF, opI_pick, Nat.zero_add, Nat.reduceAdd, runMix_nil, runMix_read, runMix_eff, runMix_guard (b := true), runMix_guard (b := false), beq_self_eq_true, Bool.false_beq, Bool.not_true, h0, h2, h8, iy, lb, c2, hh2, iy', opI_fieldQ qq', R8, u2]; rfl) ?_
          exact ⟨rfl, rfl, by ((repeat (with_reducible apply Dom.set)); exact hd), by simp only [Tr.get_set_ne, ne_eq, Nat.reduceEqDiff, not_false_eq_true, h0], by simp only [Tr.get_set_ne, ne_eq, Nat.reduceEqDiff, not_false_eq_true, h2], by simp only [Tr.get_set_ne, ne_eq, Nat.reduceEqDiff, not_false_eq_true, h4], by simp only [Tr.get_set_ne, ne_eq, Nat.reduceEqDiff, not_false_eq_true, h7], by simp only [Tr.get_set_ne, ne_eq, Nat.reduceEqDiff, not_false_eq_true, h8], by simp only [Tr.get_set_self, Tr.get_set_ne, hd _, ne_eq, Nat.reduceEqDiff, not_false_eq_true, decide_true, Nat.reduceLT]; try rfl⟩
        | true =>
          refine W_mix rfl (by simp only [sameN_self, evalArgs_nil, evalArgs_tmp, evalArgs_const, val1, putT, Tr.get_set_self, Tr.get_set_ne, Tr.isSome_set, hd _, ne_eq, Nat.reduceEqDiff, not_false_eq_true, decide_true, Nat.reduceLT, opI_move, opI_lss, opI_eql, opI_callF, opI_fieldP, opI_pick, Nat.zero_add, Nat.reduceAdd, runMix_nil, runMix_read, runMix_eff, runMix_guard (b := true), beq_self_eq_true, h0, h2, h4, h8, iy, lb, c2, hh2, iy', opI_fieldQ qq', R8, u2, R2, F3]; rfl) ?_
          exact ⟨rfl, rfl, by ((repeat (with_reducible apply Dom.set)); exact hd), by simp only [Tr.get_set_ne, ne_eq, Nat.reduceEqDiff, not_false_eq_true, h0], by simp only [Tr.get_set_ne, ne_eq, Nat.reduceEqDiff, not_false_eq_true, h2], by simp only [Tr.get_set_ne, ne_eq, Nat.reduceEqDiff, not_false_eq_true, h4], by simp only [Tr.get_set_ne, ne_eq, Nat.reduceEqDiff, not_false_eq_true, h7], by simp only [Tr.get_set_ne, ne_eq, Nat.reduceEqDiff, not_false_eq_true, h8], by simp only [Tr.get_set_self, Tr.get_set_ne, hd _, ne_eq, Nat.reduceEqDiff, not_false_eq_true, decide_true, Nat.reduceLT]; try rfl⟩
    · clear h0 h2 h4 h7 h8 hd
      rintro z t' K' ⟨rfl, rfl, hd, h0, h2, h4, h7, h8, h74⟩
      show W _ _
      cases hu : dnB r s x with
      | false =>
        rw [hu] at h74 hl2
        refine W_cond (b := false) (by simp only [PArg.eval, h74]; try rfl) (fun hb => by cases hb) (fun _ => W_skip ?_)
        refine ⟨rfl, rfl, hd, h0, h2, h4, ?_, h8⟩
        rw [h7, hl2, ← hA1]
        simp
      | true =>
        rw [hu] at h74 hl2
        refine W_cond (b := true) (by simp only [PArg.eval, h74]; try rfl) (fun _ => ?_) (fun hb => by cases hb)
        have w1 : wrapF .i64 (a1 - 1) = a1 - 1 := wrapF_any (by omega) (by omega)
        refine W_seqR (by simp only [runSeq_cons, runSeq_nil, evalArgs_nil, evalArgs_tmp, evalArgs_const, val1, putT, Tr.get_set_self, Tr.get_set_ne, hd _, ne_eq, Nat.reduceEqDiff, not_false_eq_true, decide_true, Nat.reduceLT, opI_move, opI_sub, h7, w1]; rfl) ?_
        refine ⟨rfl, rfl, by ((repeat (with_reducible apply Dom.set)); exact hd), by simp only [Tr.get_set_ne, ne_eq, Nat.reduceEqDiff, not_false_eq_true, h0], by simp only [Tr.get_set_ne, ne_eq, Nat.reduceEqDiff, not_false_eq_true, h2], by simp only [Tr.get_set_ne, ne_eq, Nat.reduceEqDiff, not_false_eq_true, h4], ?_, by simp only [Tr.get_set_ne, ne_eq, Nat.reduceEqDiff, not_false_eq_true, h8]⟩
        simp only [Tr.get_set_self, Tr.get_set_ne, hd _, ne_eq, Nat.reduceEqDiff, not_false_eq_true, decide_true, Nat.reduceLT]
        rw [hl2, ← hA1]
        congr 2
        simp only [if_true]
        omega
  clear h0 h2 h4 h7 h8 hd
  rintro z t' K' ⟨rfl, rfl, hd, h0, h2, h4, h7, h8⟩
  show W _ _
  have wi1 : wrapF .i64 ((i : Int) + 1) = i + 1 := wrapF_small (by omega) (by omega)
  refine W_seqR (by simp only [runSeq_cons, runSeq_nil, evalArgs_nil, evalArgs_tmp, evalArgs_const, val1, putT, Tr.get_set_self, Tr.get_set_ne, hd _, ne_eq, Nat.reduceEqDiff, not_false_eq_true, decide_true, Nat.reduceLT, opI_move, opI_add, h8, wi1]; rfl) ?_
  exact ⟨k - 1, by omega, i + 1, by omega, t3, gr3, by ((repeat (with_reducible apply Dom.set)); exact hd), by simp only [Tr.get_set_ne, ne_eq, Nat.reduceEqDiff, not_false_eq_true, h0], by simp only [Tr.get_set_ne, ne_eq, Nat.reduceEqDiff, not_false_eq_true, h2], by simp only [Tr.get_set_ne, ne_eq, Nat.reduceEqDiff, not_false_eq_true, h4], by simp only [Tr.get_set_ne, ne_eq, Nat.reduceEqDiff, not_false_eq_true, h7], by simp only [Tr.get_set_self, Tr.get_set_ne, hd _, ne_eq, Nat.reduceEqDiff, not_false_eq_true, decide_true, Nat.reduceLT]; rfl⟩
end Go.Proofs.Ytpbejdlpkpehlaa.bag
