/- The walk of the bag's Sense. -/
import Derived.Test.YtpbejdlpkpehlaaBgTblX
namespace Go.Proofs.Ytpbejdlpkpehlaa.bag
open Go Go.Vx
abbrev zSp : List AV := [.int .i64 0, .int .i64 0, .int .i64 0, .int .i64 0, .int .i64 0, .int .u64 0, .slice none 0 0 false, .int .i64 0, .int .u64 0, .slice none 0 0 false]
/-- a variable that a span is put in -/
theorem span_var {M K : AMem} {e : List AV} {s : Sn} (sK : Step M K) (he : SnC e s) : ∃ K', opI (.store 10) [.ptr (some (K.n, 0)), .agg e] (K.push (.cells zSp 0 true none)) = some (.val (.tuple []) K') ∧ Step M K' ∧ K'.get K.n = some (.cells e 0 true none) ∧ (∀ c, c < K.n → K'.get c = K.get c) ∧ K'.n = K.n + 1 := by
  obtain ⟨he10, heone⟩ := he.one
  have s3 := sK.push (k := .cells zSp 0 true none) (fun _ _ _ _ he => by cases he)
  have g3 := get_push_self (k := .cells zSp 0 true none) sK.ok.1
  obtain ⟨st4, s4, g4, o4⟩ := store_all (n := 10) (new := e) s3 sK.grow.n g3 he10 rfl heone
  exact ⟨_, st4, s4, g4, fun c hc => (o4 c (by omega)).trans (get_push_old sK.ok.1 hc), by rw [set_n, push_n]⟩
set_option maxRecDepth 20000 in
set_option maxHeartbeats 16000000 in
theorem sense_ok {v : AV} {l : List Sn} (d : Nat) (M : AMem) (hok : Okg M) (hl : SnR M v l) (hn : l.length ≤ 1000) :
    Ans (callF tbl code 100000 (d + 2)) 8 [v] M fun res M' => Step M M' ∧ ∃ z, res = .tuple [.int .i64 z, .bool (decide (z < 0))] ∧ FirstAt (onAt l (bagP l)) l.length z := by
  refine Ans_of (tbl_none (by decide) _) (show code 8 = some c8 from by kernel_rfl) (by simp) fun t hd ha => ?_
  have h0 := ha 0 _ rfl
  clear ha
  have lv := hl.len
  refine W_seq (W_seqR (by simp only [runSeq_cons, runSeq_nil, evalArgs_nil, evalArgs_const, val1, putT, opI_move]; rfl) ?_)
  refine W_seq (W_seq (W_seqR (by simp only [runSeq_cons, runSeq_nil, evalArgs_nil, evalArgs_tmp, evalArgs_const, val1, putT, Tr.get_set_self, Tr.get_set_ne, hd _, ne_eq, Nat.reduceEqDiff, not_false_eq_true, decide_true, Nat.reduceLT, opI_move, h0, lv]; rfl) (W_block (W_loop (fun k t K => ∃ i : Nat, k + i = l.length ∧ Step M K ∧ (∀ j, j < i → onAt l (bagP l) j = false) ∧ Dom t 63 ∧ t.get 0 = some v ∧ t.get 9 = some v ∧ t.get 10 = some (.int .i64 l.length) ∧ t.get 11 = some (.int .i64 i)) (k := l.length) (by omega) ?_ ?_))))
  · exact ⟨0, rfl, Step.refl hok, fun j hj => by omega, by ((repeat (with_reducible apply Dom.set)); exact hd), by simp only [Tr.get_set_ne, ne_eq, Nat.reduceEqDiff, not_false_eq_true, h0], by simp only [Tr.get_set_self, Tr.get_set_ne, hd _, ne_eq, Nat.reduceEqDiff, not_false_eq_true, decide_true, Nat.reduceLT]; try rfl, by simp only [Tr.get_set_self, Tr.get_set_ne, hd _, ne_eq, Nat.reduceEqDiff, not_false_eq_true, decide_true, Nat.reduceLT]; try rfl, by simp only [Tr.get_set_self, Tr.get_set_ne, hd _, ne_eq, Nat.reduceEqDiff, not_false_eq_true, decide_true, Nat.reduceLT]; try rfl⟩
  clear h0 hd lv
  rintro k t K ⟨i, hk, sK, hbef, hd, h0, h9, h10, h11⟩
  refine W_seq (W_seqR (by simp only [runSeq_cons, runSeq_nil, evalArgs_nil, evalArgs_tmp, val1, putT, opI_lss, h10, h11]; rfl) ?_)
  refine W_seq (W_cond (by simp only [PArg.eval, Tr.get_set_self, hd _, decide_true, Nat.reduceLT]; rfl) (fun hb => W_skip ?_) (fun hb => W_exit ?_))
  rotate_left
  · have hi : i = l.length := by
      have := of_decide_eq_false hb
      omega
    subst hi
    show W _ _
    refine W_seq (W_seqR (by simp only [runSeq_cons, runSeq_nil, evalArgs_nil, evalArgs_const, val1, putT, opI_move]; rfl) (W_ret ?_))
    exact ⟨_, fin_tmp2 (by simp only [Tr.get_set_self, Tr.get_set_ne, hd _, ne_eq, Nat.reduceEqDiff, not_false_eq_true, decide_true, Nat.reduceLT]; try rfl) (by simp only [Tr.get_set_self, Tr.get_set_ne, hd _, ne_eq, Nat.reduceEqDiff, not_false_eq_true, decide_true, Nat.reduceLT]; try rfl), sK, -1, rfl, .inl ⟨rfl, hbef⟩⟩
  have hi : i < l.length := by
    have := of_decide_eq_true hb
    omega
  have wi1 : wrapF .i64 ((i : Int) + 1) = i + 1 := wrapF_small (by omega) (by omega)
  obtain ⟨p, er, hsr, pp, ix, la, _⟩ := (hl.grow sK.grow).rd hi
  have hon : onAt l (bagP l) i = bagP l l[i] := onAt_get hi
  obtain ⟨r, hr⟩ : ∃ r, l[i] = r := ⟨_, rfl⟩
  rw [hr] at hon hsr
  obtain ⟨K1, st1, s1, g1, o1, n1⟩ := span_var sK hsr
  have hsf := hsr
  obtain ⟨w_, x_, va_, la_, hev, _, _⟩ := hsf
  have e3 : opI (.load false 1) [.ptr (some (K.n, 3))] K1 = some (.val (.int .i64 r.to) K1) := load_own g1 (by rw [hev]; rfl)
  have e4 : opI (.load false 1) [.ptr (some (K.n, 4))] K1 = some (.val (.int .i64 r.kind) K1) := load_own g1 (by rw [hev]; rfl)
  have e7 : opI (.load false 1) [.ptr (some (K.n, 7))] K1 = some (.val (.int .i64 r.code) K1) := load_own g1 (by rw [hev]; rfl)
  -- is it a refused one?
  refine W_seq (W_block (W_seq (W_seqR (by simp only [runSeq_cons, runSeq_nil, evalArgs_nil, evalArgs_tmp, val1, putT, Tr.get_set_self, Tr.get_set_ne, hd _, ne_eq, Nat.reduceEqDiff, not_false_eq_true, decide_true, Nat.reduceLT, opI_move, opI_new, h9, h11, ix, la, st1]; rfl) ?_)))
  refine W_seq (W.mono (Q := fun z t' K' => K' = K1 ∧ Dom t' 63 ∧ t'.get 0 = some v ∧ t'.get 4 = some (.int .i64 i) ∧ t'.get 5 = some (.ptr (some (K.n, 0))) ∧ t'.get 9 = some v ∧ t'.get 10 = some (.int .i64 l.length) ∧ t'.get 11 = some (.int .i64 i) ∧ z = if skipB r then .exit 1 else .normal) ?_ ?_)
  · refine W_seq (W.mono (Q := fun z t' K' => z = .normal ∧ K' = K1 ∧ Dom t' 63 ∧ t'.get 0 = some v ∧ t'.get 4 = some (.int .i64 i) ∧ t'.get 5 = some (.ptr (some (K.n, 0))) ∧ t'.get 9 = some v ∧ t'.get 10 = some (.int .i64 l.length) ∧ t'.get 11 = some (.int .i64 i) ∧ t'.get 30 = some (.bool (skipB r))) ?_ ?_)
    · unfold skipB
      cases u1 : r.kind != 2 with
      | true =>
        refine W_seqR (by simp only [runSeq_cons, runSeq_nil, evalArgs_nil, evalArgs_tmp, evalArgs_const, val1, putT, Tr.get_set_self, Tr.get_set_ne, Tr.isSome_set, hd _, ne_eq, Nat.reduceEqDiff, not_false_eq_true, decide_true, Nat.reduceLT, opI_move, opI_neq, opI_fieldP, opI_pick, Nat.zero_add, Nat.add_zero, runSeq_guard (b := true), Bool.true_beq, e4, u1]; rfl) ?_
        exact ⟨rfl, rfl, by ((repeat (with_reducible apply Dom.set)); exact hd), by simp only [Tr.get_set_ne, ne_eq, Nat.reduceEqDiff, not_false_eq_true, h0], by simp only [Tr.get_set_self, Tr.get_set_ne, hd _, ne_eq, Nat.reduceEqDiff, not_false_eq_true, decide_true, Nat.reduceLT]; try rfl, by simp only [Tr.get_set_self, Tr.get_set_ne, hd _, ne_eq, Nat.reduceEqDiff, not_false_eq_true, decide_true, Nat.reduceLT]; try rfl, by simp only [Tr.get_set_ne, ne_eq, Nat.reduceEqDiff, not_false_eq_true, h9], by simp only [Tr.get_set_ne, ne_eq, Nat.reduceEqDiff, not_false_eq_true, h10], by simp only [Tr.get_set_ne, ne_eq, Nat.reduceEqDiff, not_false_eq_true, h11], by simp only [Tr.get_set_self, Tr.get_set_ne, hd _, ne_eq, Nat.reduceEqDiff, not_false_eq_true, decide_true, Nat.reduceLT]; try rfl⟩
      | false =>
        cases u2 : decide (r.to < 0) with
        | true =>
          refine W_seqR (by simp only [runSeq_cons, runSeq_nil, evalArgs_nil, evalArgs_tmp, evalArgs_const, val1, putT, Tr.get_set_self, Tr.get_set_ne, Tr.isSome_set, hd _, ne_eq, Nat.reduceEqDiff, not_false_eq_true, decide_true, Nat.reduceLT, opI_move, opI_lss, opI_neq, opI_fieldP, opI_pick, Nat.zero_add, Nat.add_zero, runSeq_guard (b := true), runSeq_guard (b := false), beq_self_eq_true, Bool.true_beq, e4, e3, u1, u2]; rfl) ?_
          exact ⟨rfl, rfl, by ((repeat (with_reducible apply Dom.set)); exact hd), by simp only [Tr.get_set_ne, ne_eq, Nat.reduceEqDiff, not_false_eq_true, h0], by simp only [Tr.get_set_self, Tr.get_set_ne, hd _, ne_eq, Nat.reduceEqDiff, not_false_eq_true, decide_true, Nat.reduceLT]; try rfl, by simp only [Tr.get_set_self, Tr.get_set_ne, hd _, ne_eq, Nat.reduceEqDiff, not_false_eq_true, decide_true, Nat.reduceLT]; try rfl, by simp only [Tr.get_set_ne, ne_eq, Nat.reduceEqDiff, not_false_eq_true, h9], by simp only [Tr.get_set_ne, ne_eq, Nat.reduceEqDiff, not_false_eq_true, h10], by simp only [Tr.get_set_ne, ne_eq, Nat.reduceEqDiff, not_false_eq_true, h11], by simp only [Tr.get_set_self, Tr.get_set_ne, hd _, ne_eq, Nat.reduceEqDiff, not_false_eq_true, decide_true, Nat.reduceLT]; try rfl⟩
        | false =>
          refine W_seqR (by simp only [runSeq_cons, runSeq_nil, evalArgs_nil, evalArgs_tmp, evalArgs_const, val1, putT, Tr.get_set_self, Tr.get_set_ne, Tr.isSome_set, hd _, ne_eq, Nat.reduceEqDiff, not_false_eq_true, decide_true, Nat.reduceLT, opI_move, opI_lss, opI_neq, opI_fieldP, opI_pick, Nat.zero_add, Nat.add_zero, runSeq_guard (b := false), beq_self_eq_true, e4, e3, e7, u1, u2]; rfl) ?_
          exact ⟨rfl, rfl, by ((repeat (with_reducible apply Dom.set)); exact hd), by simp only [Tr.get_set_ne, ne_eq, Nat.reduceEqDiff, not_false_eq_true, h0], by simp only [Tr.get_set_self, Tr.get_set_ne, hd _, ne_eq, Nat.reduceEqDiff, not_false_eq_true, decide_true, Nat.reduceLT]; try rfl, by simp only [Tr.get_set_self, Tr.get_set_ne, hd _, ne_eq, Nat.reduceEqDiff, not_false_eq_true, decide_true, Nat.reduceLT]; try rfl, by simp only [Tr.get_set_ne, ne_eq, Nat.reduceEqDiff, not_false_eq_true, h9], by simp only [Tr.get_set_ne, ne_eq, Nat.reduceEqDiff, not_false_eq_true, h10], by simp only [Tr.get_set_ne, ne_eq, Nat.reduceEqDiff, not_false_eq_true, h11], by simp only [Tr.get_set_self, Tr.get_set_ne, hd _, ne_eq, Nat.reduceEqDiff, not_false_eq_true, decide_true, Nat.reduceLT]; try rfl⟩
    · clear h0 h9 h10 h11 hd
      rintro z t' K' ⟨rfl, rfl, hd, h0, h4, h5, h9, h10, h11, h30⟩
      show W _ _
      cases hs : skipB r with
      | true =>
        rw [hs] at h30
        refine W_cond (b := true) (by simp only [PArg.eval, h30]; try rfl) (fun _ => W_exit ?_) (fun hb => by cases hb)
        exact ⟨rfl, hd, h0, h4, h5, h9, h10, h11, rfl⟩
      | false =>
        rw [hs] at h30
        refine W_cond (b := false) (by simp only [PArg.eval, h30]; try rfl) (fun hb => by cases hb) (fun _ => W_skip ?_)
        exact ⟨rfl, hd, h0, h4, h5, h9, h10, h11, rfl⟩
  clear h0 h9 h10 h11 hd
  rintro z t' K' ⟨rfl, hd, h0, h4, h5, h9, h10, h11, rfl⟩
  cases hs : skipB r with
  | true =>
    have hbef' : ∀ j, j < i + 1 → onAt l (bagP l) j = false := fun j hj => by
      rcases Nat.lt_or_ge j i with h | h
      · exact hbef j h
      · obtain rfl : j = i := by omega
        rw [hon]; unfold bagP; rw [hs]; rfl
    have sK := s1
    show W _ _
    refine W_seqR (by simp only [runSeq_cons, runSeq_nil, evalArgs_nil, evalArgs_tmp, evalArgs_const, val1, putT, Tr.get_set_self, hd _, decide_true, Nat.reduceLT, opI_move, opI_add, h11, wi1]; rfl) ?_
    exact ⟨k - 1, by omega, i + 1, by omega, sK, hbef', by ((repeat (with_reducible apply Dom.set)); exact hd), by simp only [Tr.get_set_ne, ne_eq, Nat.reduceEqDiff, not_false_eq_true, h0], by simp only [Tr.get_set_ne, ne_eq, Nat.reduceEqDiff, not_false_eq_true, h9], by simp only [Tr.get_set_ne, ne_eq, Nat.reduceEqDiff, not_false_eq_true, h10], by simp only [Tr.get_set_self, Tr.get_set_ne, hd _, ne_eq, Nat.reduceEqDiff, not_false_eq_true, decide_true, Nat.reduceLT]; rfl⟩
  | false =>
  show W _ _
  have hrP : bagP l r = decide (lackN r l > waitN r l) := by unfold bagP; rw [hs]; rfl
  have lv := (hl.grow s1.grow).len
  refine W_seq (W_seqR (by simp only [runSeq_cons, runSeq_nil, evalArgs_nil, evalArgs_const, val1, putT, opI_move]; rfl) ?_)
  -- who was waiting?
  refine W_seq (W_seq (W_seqR (by simp only [runSeq_cons, runSeq_nil, evalArgs_nil, evalArgs_tmp, evalArgs_const, val1, putT, Tr.get_set_self, Tr.get_set_ne, hd _, ne_eq, Nat.reduceEqDiff, not_false_eq_true, decide_true, Nat.reduceLT, opI_move, h0, lv]; rfl) (W_block (W_loop (fun kk t K2 => ∃ j : Nat, kk + j = l.length ∧ Step M K2 ∧ K2.get K.n = some (.cells er 0 true none) ∧ Dom t 63 ∧ t.get 0 = some v ∧ t.get 4 = some (.int .i64 i) ∧ t.get 5 = some (.ptr (some (K.n, 0))) ∧ t.get 6 = some (.int .i64 (waitN r (l.take j) : Nat)) ∧ t.get 9 = some v ∧ t.get 10 = some (.int .i64 l.length) ∧ t.get 11 = some (.int .i64 i) ∧ t.get 31 = some v ∧ t.get 32 = some (.int .i64 l.length) ∧ t.get 33 = some (.int .i64 j)) (k := l.length) (by omega) ?_ ?_))))
  · exact ⟨0, rfl, s1, g1, by ((repeat (with_reducible apply Dom.set)); exact hd), by simp only [Tr.get_set_ne, ne_eq, Nat.reduceEqDiff, not_false_eq_true, h0], by simp only [Tr.get_set_ne, ne_eq, Nat.reduceEqDiff, not_false_eq_true, h4], by simp only [Tr.get_set_ne, ne_eq, Nat.reduceEqDiff, not_false_eq_true, h5], by simp only [Tr.get_set_self, Tr.get_set_ne, hd _, ne_eq, Nat.reduceEqDiff, not_false_eq_true, decide_true, Nat.reduceLT]; try rfl, by simp only [Tr.get_set_ne, ne_eq, Nat.reduceEqDiff, not_false_eq_true, h9], by simp only [Tr.get_set_ne, ne_eq, Nat.reduceEqDiff, not_false_eq_true, h10], by simp only [Tr.get_set_ne, ne_eq, Nat.reduceEqDiff, not_false_eq_true, h11], by simp only [Tr.get_set_self, Tr.get_set_ne, hd _, ne_eq, Nat.reduceEqDiff, not_false_eq_true, decide_true, Nat.reduceLT]; try rfl, by simp only [Tr.get_set_self, Tr.get_set_ne, hd _, ne_eq, Nat.reduceEqDiff, not_false_eq_true, decide_true, Nat.reduceLT]; try rfl, by simp only [Tr.get_set_self, Tr.get_set_ne, hd _, ne_eq, Nat.reduceEqDiff, not_false_eq_true, decide_true, Nat.reduceLT]; try rfl⟩
  clear h0 h4 h5 h9 h10 h11 hd t t'
  rintro kk t K2 ⟨j, hkk, sK2, gr, hd, h0, h4, h5, h6, h9, h10, h11, h31, h32, h33⟩
  refine W_seq (W_seqR (by simp only [runSeq_cons, runSeq_nil, evalArgs_nil, evalArgs_tmp, val1, putT, opI_lss, h32, h33]; rfl) ?_)
  refine W_seq (W_cond (by simp only [PArg.eval, Tr.get_set_self, hd _, decide_true, Nat.reduceLT]; rfl) (fun hb => W_skip ?_) (fun hb => W_exit ?_))
  rotate_left
  · have hj : j = l.length := by
      have := of_decide_eq_false hb
      omega
    subst hj
    rw [List.take_length] at h6
    have LA : opI (.load true 10) [.ptr (some (K.n, 0))] K2 = some (.val (.agg er) K2) := by
      have := loads_own (o := 0) (n := 10) gr (by rw [hsr.one.1]; omega)
      rwa [List.drop_zero, List.take_of_length_le (by rw [hsr.one.1]; omega)] at this
    have cl := call_lack d sK2.ok (hl.grow sK2.grow) hsr (by omega : l.length ≤ 90000)
    show W _ _
    refine W_seq (W_seqR (by simp only [runSeq_cons, runSeq_nil, evalArgs_nil, evalArgs_tmp, val1, putT, Tr.get_set_self, Tr.get_set_ne, hd _, ne_eq, Nat.reduceEqDiff, not_false_eq_true, decide_true, Nat.reduceLT, opI_move, opI_gtr, opI_callF, h0, h5, h6, LA, cl]; rfl) ?_)
    refine W_cond (by simp only [PArg.eval, Tr.get_set_self, Tr.get_set_ne, hd _, ne_eq, Nat.reduceEqDiff, not_false_eq_true, decide_true, Nat.reduceLT]; rfl) (fun hb2 => ?_) (fun hb2 => W_skip ?_)
    · refine W_seq (W_seqR (by simp only [runSeq_cons, runSeq_nil, evalArgs_nil, evalArgs_tmp, evalArgs_const, val1, putT, Tr.get_set_self, Tr.get_set_ne, hd _, ne_eq, Nat.reduceEqDiff, not_false_eq_true, decide_true, Nat.reduceLT, opI_move, h4]; rfl) (W_ret ?_))
      exact ⟨_, fin_tmp2 (by simp only [Tr.get_set_self, Tr.get_set_ne, hd _, ne_eq, Nat.reduceEqDiff, not_false_eq_true, decide_true, Nat.reduceLT]; try rfl) (by simp only [Tr.get_set_self, Tr.get_set_ne, hd _, ne_eq, Nat.reduceEqDiff, not_false_eq_true, decide_true, Nat.reduceLT]; try rfl), sK2, i, by rw [decide_eq_false (by omega : ¬ ((i : Int) < 0))]; rfl, .inr ⟨i, hi, rfl, by rw [hon, hrP]; exact hb2, hbef⟩⟩
    · have hbef' : ∀ j, j < i + 1 → onAt l (bagP l) j = false := fun j hj => by
        rcases Nat.lt_or_ge j i with h | h
        · exact hbef j h
        · obtain rfl : j = i := by omega
          rw [hon, hrP]; exact hb2
      have sK := sK2
      show W _ _
      refine W_seqR (by simp only [runSeq_cons, runSeq_nil, evalArgs_nil, evalArgs_tmp, evalArgs_const, val1, putT, Tr.get_set_self, Tr.get_set_ne, hd _, ne_eq, Nat.reduceEqDiff, not_false_eq_true, decide_true, Nat.reduceLT, opI_move, opI_add, h11, wi1]; rfl) ?_
      exact ⟨k - 1, by omega, i + 1, by omega, sK, hbef', by ((repeat (with_reducible apply Dom.set)); exact hd), by simp only [Tr.get_set_ne, ne_eq, Nat.reduceEqDiff, not_false_eq_true, h0], by simp only [Tr.get_set_ne, ne_eq, Nat.reduceEqDiff, not_false_eq_true, h9], by simp only [Tr.get_set_ne, ne_eq, Nat.reduceEqDiff, not_false_eq_true, h10], by simp only [Tr.get_set_self, Tr.get_set_ne, hd _, ne_eq, Nat.reduceEqDiff, not_false_eq_true, decide_true, Nat.reduceLT]; rfl⟩
  have hj : j < l.length := by
    have := of_decide_eq_true hb
    omega
  have wj1 : wrapF .i64 ((j : Int) + 1) = j + 1 := wrapF_small (by omega) (by omega)
  have htk : l.take (j + 1) = l.take j ++ [l[j]] := by rw [List.take_add_one, List.getElem?_eq_getElem hj]; rfl
  have hwn := waitN_add r l[j] (l.take j)
  have hwl := waitN_le r (l.take j)
  rw [List.length_take] at hwl
  rw [← htk] at hwn
  obtain ⟨q, ev, hse, qq, iy, lb, _⟩ := (hl.grow sK2.grow).rd hj
  generalize l[j] = s at *
  obtain ⟨K3, st3, s3, g3, o3, n3⟩ := span_var sK2 hse
  have gr3 := (o3 K.n (get_lt sK2.ok.1 gr)).trans gr
  have hsg := hse
  obtain ⟨w2, x2, va2, la2, hev2, _, _⟩ := hsg
  have f2 : opI (.load false 1) [.ptr (some (K2.n, 2))] K3 = some (.val (.int .i64 s.from_) K3) := load_own g3 (by rw [hev2]; rfl)
  have f3 : opI (.load false 1) [.ptr (some (K2.n, 3))] K3 = some (.val (.int .i64 s.to) K3) := load_own g3 (by rw [hev2]; rfl)
  have f4 : opI (.load false 1) [.ptr (some (K2.n, 4))] K3 = some (.val (.int .i64 s.kind) K3) := load_own g3 (by rw [hev2]; rfl)
  have r3 : opI (.load false 1) [.ptr (some (K.n, 3))] K3 = some (.val (.int .i64 r.to) K3) := load_own gr3 (by rw [hev]; rfl)
  refine W_seq (W_block (W_seq (W_seqR (by simp only [runSeq_cons, runSeq_nil, evalArgs_nil, evalArgs_tmp, val1, putT, Tr.get_set_self, Tr.get_set_ne, hd _, ne_eq, Nat.reduceEqDiff, not_false_eq_true, decide_true, Nat.reduceLT, opI_new, h31, h33, iy, lb, st3]; rfl) ?_)))
  refine W_seq (W.mono (Q := fun z t' K' => z = .normal ∧ K' = K3 ∧ Dom t' 63 ∧ t'.get 0 = some v ∧ t'.get 4 = some (.int .i64 i) ∧ t'.get 5 = some (.ptr (some (K.n, 0))) ∧ t'.get 6 = some (.int .i64 (waitN r (l.take j) : Nat)) ∧ t'.get 9 = some v ∧ t'.get 10 = some (.int .i64 l.length) ∧ t'.get 11 = some (.int .i64 i) ∧ t'.get 31 = some v ∧ t'.get 32 = some (.int .i64 l.length) ∧ t'.get 33 = some (.int .i64 j) ∧ t'.get 52 = some (.bool (waitB r s))) ?_ ?_)
  · unfold waitB
    cases u1 : s.kind == 2 with
    | false =>
      refine W_seqR (by simp only [runSeq_cons, runSeq_nil, evalArgs_nil, evalArgs_tmp, evalArgs_const, val1, putT, Tr.get_set_self, Tr.get_set_ne, Tr.isSome_set, hd _, ne_eq, Nat.reduceEqDiff, not_false_eq_true, decide_true, Nat.reduceLT, opI_move, opI_eql, opI_fieldP, opI_pick, Nat.zero_add, Nat.add_zero, runSeq_guard (b := false), Bool.false_beq, Bool.not_true, f4, u1]; rfl) ?_
      exact ⟨rfl, rfl, by ((repeat (with_reducible apply Dom.set)); exact hd), by simp only [Tr.get_set_ne, ne_eq, Nat.reduceEqDiff, not_false_eq_true, h0], by simp only [Tr.get_set_ne, ne_eq, Nat.reduceEqDiff, not_false_eq_true, h4], by simp only [Tr.get_set_ne, ne_eq, Nat.reduceEqDiff, not_false_eq_true, h5], by simp only [Tr.get_set_ne, ne_eq, Nat.reduceEqDiff, not_false_eq_true, h6], by simp only [Tr.get_set_ne, ne_eq, Nat.reduceEqDiff, not_false_eq_true, h9], by simp only [Tr.get_set_ne, ne_eq, Nat.reduceEqDiff, not_false_eq_true, h10], by simp only [Tr.get_set_ne, ne_eq, Nat.reduceEqDiff, not_false_eq_true, h11], by simp only [Tr.get_set_ne, ne_eq, Nat.reduceEqDiff, not_false_eq_true, h31], by simp only [Tr.get_set_ne, ne_eq, Nat.reduceEqDiff, not_false_eq_true, h32], by simp only [Tr.get_set_ne, ne_eq, Nat.reduceEqDiff, not_false_eq_true, h33], by simp only [Tr.get_set_self, Tr.get_set_ne, hd _, ne_eq, Nat.reduceEqDiff, not_false_eq_true, decide_true, Nat.reduceLT]; try rfl⟩
    | true =>
      cases u2 : decide (s.to < 0) with
      | false =>
        refine W_seqR (by simp only [runSeq_cons, runSeq_nil, evalArgs_nil, evalArgs_tmp, evalArgs_const, val1, putT, Tr.get_set_self, Tr.get_set_ne, Tr.isSome_set, hd _, ne_eq, Nat.reduceEqDiff, not_false_eq_true, decide_true, Nat.reduceLT, opI_move, opI_lss, opI_eql, opI_fieldP, opI_pick, Nat.zero_add, Nat.add_zero, runSeq_guard (b := true), runSeq_guard (b := false), beq_self_eq_true, Bool.false_beq, Bool.not_true, f4, f3, u1, u2]; rfl) ?_
        exact ⟨rfl, rfl, by ((repeat (with_reducible apply Dom.set)); exact hd), by simp only [Tr.get_set_ne, ne_eq, Nat.reduceEqDiff, not_false_eq_true, h0], by simp only [Tr.get_set_ne, ne_eq, Nat.reduceEqDiff, not_false_eq_true, h4], by simp only [Tr.get_set_ne, ne_eq, Nat.reduceEqDiff, not_false_eq_true, h5], by simp only [Tr.get_set_ne, ne_eq, Nat.reduceEqDiff, not_false_eq_true, h6], by simp only [Tr.get_set_ne, ne_eq, Nat.reduceEqDiff, not_false_eq_true, h9], by simp only [Tr.get_set_ne, ne_eq, Nat.reduceEqDiff, not_false_eq_true, h10], by simp only [Tr.get_set_ne, ne_eq, Nat.reduceEqDiff, not_false_eq_true, h11], by simp only [Tr.get_set_ne, ne_eq, Nat.reduceEqDiff, not_false_eq_true, h31], by simp only [Tr.get_set_ne, ne_eq, Nat.reduceEqDiff, not_false_eq_true, h32], by simp only [Tr.get_set_ne, ne_eq, Nat.reduceEqDiff, not_false_eq_true, h33], by simp only [Tr.get_set_self, Tr.get_set_ne, hd _, ne_eq, Nat.reduceEqDiff, not_false_eq_true, decide_true, Nat.reduceLT]; try rfl⟩
      | true =>
        refine W_seqR (by simp only [runSeq_cons, runSeq_nil, evalArgs_nil, evalArgs_tmp, evalArgs_const, val1, putT, Tr.get_set_self, Tr.get_set_ne, Tr.isSome_set, hd _, ne_eq, Nat.reduceEqDiff, not_false_eq_true, decide_true, Nat.reduceLT, opI_move, opI_lss, opI_eql, opI_fieldP, opI_pick, Nat.zero_add, Nat.add_zero, runSeq_guard (b := true), beq_self_eq_true, h5, f4, f3, f2, r3, u1, u2]; rfl) ?_
        exact ⟨rfl, rfl, by ((repeat (with_reducible apply Dom.set)); exact hd), by simp only [Tr.get_set_ne, ne_eq, Nat.reduceEqDiff, not_false_eq_true, h0], by simp only [Tr.get_set_ne, ne_eq, Nat.reduceEqDiff, not_false_eq_true, h4], by simp only [Tr.get_set_ne, ne_eq, Nat.reduceEqDiff, not_false_eq_true, h5], by simp only [Tr.get_set_ne, ne_eq, Nat.reduceEqDiff, not_false_eq_true, h6], by simp only [Tr.get_set_ne, ne_eq, Nat.reduceEqDiff, not_false_eq_true, h9], by simp only [Tr.get_set_ne, ne_eq, Nat.reduceEqDiff, not_false_eq_true, h10], by simp only [Tr.get_set_ne, ne_eq, Nat.reduceEqDiff, not_false_eq_true, h11], by simp only [Tr.get_set_ne, ne_eq, Nat.reduceEqDiff, not_false_eq_true, h31], by simp only [Tr.get_set_ne, ne_eq, Nat.reduceEqDiff, not_false_eq_true, h32], by simp only [Tr.get_set_ne, ne_eq, Nat.reduceEqDiff, not_false_eq_true, h33], by simp only [Tr.get_set_self, Tr.get_set_ne, hd _, ne_eq, Nat.reduceEqDiff, not_false_eq_true, decide_true, Nat.reduceLT]; try rfl⟩
  clear h0 h4 h5 h6 h9 h10 h11 h31 h32 h33 hd t
  rintro z t K' ⟨rfl, rfl, hd, h0, h4, h5, h6, h9, h10, h11, h31, h32, h33, h52⟩
  show W _ _
  cases hw : waitB r s with
  | false =>
    rw [hw] at h52 hwn
    refine W_cond (b := false) (by simp only [PArg.eval, h52]; try rfl) (fun hb => by cases hb) (fun _ => W_skip ?_)
    show W _ _
    refine W_seqR (by simp only [runSeq_cons, runSeq_nil, evalArgs_nil, evalArgs_tmp, evalArgs_const, val1, putT, Tr.get_set_self, hd _, decide_true, Nat.reduceLT, opI_move, opI_add, h33, wj1]; rfl) ?_
    exact ⟨kk - 1, by omega, j + 1, by omega, s3, gr3, by ((repeat (with_reducible apply Dom.set)); exact hd), by simp only [Tr.get_set_ne, ne_eq, Nat.reduceEqDiff, not_false_eq_true, h0], by simp only [Tr.get_set_ne, ne_eq, Nat.reduceEqDiff, not_false_eq_true, h4], by simp only [Tr.get_set_ne, ne_eq, Nat.reduceEqDiff, not_false_eq_true, h5], by simp only [Tr.get_set_ne, ne_eq, Nat.reduceEqDiff, not_false_eq_true, h6]; rw [hwn]; simp, by simp only [Tr.get_set_ne, ne_eq, Nat.reduceEqDiff, not_false_eq_true, h9], by simp only [Tr.get_set_ne, ne_eq, Nat.reduceEqDiff, not_false_eq_true, h10], by simp only [Tr.get_set_ne, ne_eq, Nat.reduceEqDiff, not_false_eq_true, h11], by simp only [Tr.get_set_ne, ne_eq, Nat.reduceEqDiff, not_false_eq_true, h31], by simp only [Tr.get_set_ne, ne_eq, Nat.reduceEqDiff, not_false_eq_true, h32], by simp only [Tr.get_set_self, Tr.get_set_ne, hd _, ne_eq, Nat.reduceEqDiff, not_false_eq_true, decide_true, Nat.reduceLT]; rfl⟩
  | true =>
    rw [hw] at h52 hwn
    refine W_cond (b := true) (by simp only [PArg.eval, h52]; try rfl) (fun _ => ?_) (fun hb => by cases hb)
    have ww : wrapF .i64 ((waitN r (l.take j) : Int) + 1) = waitN r (l.take j) + 1 := wrapF_small (by omega) (by omega)
    refine W_seqR (by simp only [runSeq_cons, runSeq_nil, evalArgs_nil, evalArgs_tmp, evalArgs_const, val1, putT, Tr.get_set_self, Tr.get_set_ne, hd _, ne_eq, Nat.reduceEqDiff, not_false_eq_true, decide_true, Nat.reduceLT, opI_move, opI_add, h6, ww]; rfl) ?_
    show W _ _
    refine W_seqR (by simp only [runSeq_cons, runSeq_nil, evalArgs_nil, evalArgs_tmp, evalArgs_const, val1, putT, Tr.get_set_self, Tr.get_set_ne, hd _, ne_eq, Nat.reduceEqDiff, not_false_eq_true, decide_true, Nat.reduceLT, opI_move, opI_add, h33, wj1]; rfl) ?_
    exact ⟨kk - 1, by omega, j + 1, by omega, s3, gr3, by ((repeat (with_reducible apply Dom.set)); exact hd), by simp only [Tr.get_set_ne, ne_eq, Nat.reduceEqDiff, not_false_eq_true, h0], by simp only [Tr.get_set_ne, ne_eq, Nat.reduceEqDiff, not_false_eq_true, h4], by simp only [Tr.get_set_ne, ne_eq, Nat.reduceEqDiff, not_false_eq_true, h5], by simp only [Tr.get_set_self, Tr.get_set_ne, hd _, ne_eq, Nat.reduceEqDiff, not_false_eq_true, decide_true, Nat.reduceLT]; rw [hwn]; simp, by simp only [Tr.get_set_ne, ne_eq, Nat.reduceEqDiff, not_false_eq_true, h9], by simp only [Tr.get_set_ne, ne_eq, Nat.reduceEqDiff, not_false_eq_true, h10], by simp only [Tr.get_set_ne, ne_eq, Nat.reduceEqDiff, not_false_eq_true, h11], by simp only [Tr.get_set_ne, ne_eq, Nat.reduceEqDiff, not_false_eq_true, h31], by simp only [Tr.get_set_ne, ne_eq, Nat.reduceEqDiff, not_false_eq_true, h32], by simp only [Tr.get_set_self, Tr.get_set_ne, hd _, ne_eq, Nat.reduceEqDiff, not_false_eq_true, decide_true, Nat.reduceLT]; rfl⟩
/-! The law. -/
set_option maxRecDepth 20000 in
set_option maxHeartbeats 4000000 in
theorem law_ok {v : AV} {sps : List Sp} (d : Nat) (M : AMem) (hok : Okg M) (hv : InSps M.g v sps) :
    Ans (callF tbl code 100000 (d + 5)) 3 [v] M fun r _ => r = .bool true := by
  refine Ans_of (tbl_none (by decide) _) (show code 3 = some c3 from by kernel_rfl) (by simp) fun t hd ha => ?_
  have h0 := ha 0 _ rfl
  clear ha
  have aw := call_awake (d + 3) M
  obtain ⟨r0, M', cb, hM', big, hr0, hbig⟩ := big_ok (T := tbl) (fun a M => tbl_none (by decide) a M) (top := 60) (by omega) (d + 3) M hv
  subst hr0
  rw [hM'] at cb
  clear hM' M'
  refine W_seq (W_seqR (by simp only [runSeq_cons, runSeq_nil, evalArgs_nil, evalArgs_const, val1, putT, opI_move]; rfl) (W_seq (W_seq (W_seqR (by simp only [runSeq_cons, runSeq_nil, evalArgs_nil, evalArgs_tmp, val1, putT, Tr.get_set_self, Tr.get_set_ne, hd _, ne_eq, Nat.reduceEqDiff, not_false_eq_true, decide_true, Nat.reduceLT, opI_not, opI_callF, aw]; rfl) ?_))))
  refine W_cond (b := false) (by simp only [PArg.eval, Tr.get_set_self, Tr.get_set_ne, hd _, ne_eq, Nat.reduceEqDiff, not_false_eq_true, decide_true, Nat.reduceLT]; try rfl) (fun hb => by cases hb) (fun _ => W_skip ?_)
  refine W_seq (W_seq (W_seqR (by simp only [runSeq_cons, runSeq_nil, evalArgs_nil, evalArgs_tmp, evalArgs_const, val1, putT, Tr.get_set_self, Tr.get_set_ne, hd _, ne_eq, Nat.reduceEqDiff, not_false_eq_true, decide_true, Nat.reduceLT, opI_move, opI_callF, h0, show (60 : Int) = ((60 : Nat) : Int) from rfl, cb]; rfl) ?_))
  refine W_cond (by simp only [PArg.eval, Tr.get_set_self, Tr.get_set_ne, hd _, ne_eq, Nat.reduceEqDiff, not_false_eq_true, decide_true, Nat.reduceLT]; rfl) (fun _ => ?_) (fun hb => W_skip ?_)
  · refine W_seq (W_seqR (by simp only [runSeq_cons, runSeq_nil, evalArgs_nil, evalArgs_const, val1, putT, opI_move]; rfl) (W_ret ?_))
    exact ⟨_, fin_tmp (by simp only [Tr.get_set_self, Tr.get_set_ne, Option.isSome_some, hd _, ne_eq, Nat.reduceEqDiff, not_false_eq_true, decide_true, Nat.reduceLT]; try rfl), rfl⟩
  obtain ⟨hn, _⟩ := hbig hb
  have hl := hv.sn M rfl
  have hll : (sps.map Sp.sn).length ≤ 1000 := by rw [List.length_map]; omega
  generalize sps.map Sp.sn = l at *
  obtain ⟨_, M1, c1, s1, z, rfl, hz⟩ := sense_ok (d + 2) M hok hl hll
  obtain ⟨_, M2, c2, s2, z', rfl, hz'⟩ := refsense_ok (T := tbl) (fun a M => tbl_none (by decide) a M) (fun a M => tbl_none (by decide) a M) (fun a M => tbl_none (by decide) a M) (fun a M => tbl_none (by decide) a M) (d + 1) M1 s1.ok (hl.grow s1.grow) hll
  rw [refP_eq] at hz'
  have := hz.uniq hz'
  subst this
  show W _ _
  refine W_seq (W_seqR (by simp only [runSeq_cons, runSeq_nil, evalArgs_nil, evalArgs_tmp, val1, putT, Tr.get_set_self, Tr.get_set_ne, hd _, ne_eq, Nat.reduceEqDiff, not_false_eq_true, decide_true, Nat.reduceLT, opI_move, opI_extract, opI_callF, h0, c1]; rfl) ?_)
  refine W_seq (W_seqR (by simp only [runSeq_cons, runSeq_nil, evalArgs_nil, evalArgs_tmp, val1, putT, Tr.get_set_self, Tr.get_set_ne, hd _, ne_eq, Nat.reduceEqDiff, not_false_eq_true, decide_true, Nat.reduceLT, opI_move, opI_callF, h0, c2]; rfl) ?_)
  refine W_seq (W_seqR (by simp only [runSeq_cons, runSeq_nil, evalArgs_nil, evalArgs_tmp, evalArgs_const, val1, putT, Tr.get_set_self, Tr.get_set_ne, Tr.isSome_set, hd _, ne_eq, Nat.reduceEqDiff, not_false_eq_true, decide_true, Nat.reduceLT, opI_move, opI_lss, opI_eql, opI_eqBool, opI_pick, runSeq_guard (b := true), beq_self_eq_true, Bool.not_true, beq_self_eq_true]; rfl) (W_ret ?_))
  exact ⟨_, fin_tmp (by simp only [Tr.get_set_self, Tr.get_set_ne, Option.isSome_some, hd _, ne_eq, Nat.reduceEqDiff, not_false_eq_true, decide_true, Nat.reduceLT]; try rfl), rfl⟩
end Go.Proofs.Ytpbejdlpkpehlaa.bag
