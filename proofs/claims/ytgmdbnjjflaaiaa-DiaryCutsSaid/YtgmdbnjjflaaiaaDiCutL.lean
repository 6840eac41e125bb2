/- The walk of the law DiaryCuts. -/
import Derived.Test.YtgmdbnjjflaaiaaDiCutP
import Derived.Test.YtgmdbnjjflaaiaaDiLaw
namespace Go.Proofs.Ytgmdbnjjflaaiaa.diary
open Go Go.Vx

theorem Evs.take {G : Addr → Option AV} {a : Option Addr} {c m n : Nat} {es : List Ev} (hv : Evs G (.rslice a m c) es) (hn : n ≤ es.length) : Evs G (.rslice a n c) (es.take n) := by
  refine ⟨fun M hM => ?_, fun e he => hv.2 e (List.mem_of_mem_take he)⟩
  obtain ⟨hE, h⟩ := hv.1 M hM
  have hEt : Els 10 ((es.take n).map Ev.cells) := by rw [List.map_take]; exact hE.take n
  have hl : ((es.take n).map Ev.cells).length = n := by rw [List.length_map, List.length_take]; omega
  rcases h with ⟨a', c', he, h⟩ | ⟨he, _⟩ | ⟨b, o, c', gr, cs, sz', wr, g, he, _⟩
  · cases he
    refine ⟨hEt, .inl ⟨a, c, by rw [hl], fun j hj => ?_⟩⟩
    rw [hl] at hj
    obtain ⟨p, h1, h2⟩ := h j (by rw [List.length_map]; omega)
    refine ⟨p, h1, ?_⟩
    have hjd : j = (j / 10) * 10 + j % 10 := by omega
    have e1 := hE.at_ (i := j / 10) (o := j % 10) (by rw [List.length_map]; omega) (by omega)
    have e2 := hEt.at_ (i := j / 10) (o := j % 10) (by rw [hl]; omega) (by omega)
    rw [← hjd] at e1 e2
    rw [h2, e1, e2]
    simp
  · cases he
  · cases he
theorem slice_in {a : Option Addr} {m c n : Nat} {M : AMem} (hm : m ≤ c) (hn : n ≤ m) : opI (.slice 10 false true false) [.rslice a m c, .int .i64 n] M = some (.val (.rslice a n c) M) := by
  have hbd : boundsI m c none (some (.int .i64 n)) none = some (0, n, c) := by
    simp only [boundsI, bnd]
    rw [if_pos ⟨by omega, by omega⟩]
    simp
  simp only [opI, take3, take1, if_true, Bool.false_eq_true, if_false, sliceI, hm, hbd]
  cases a with
  | none => simp
  | some p => simp [addr_add0]

set_option maxRecDepth 20000 in
set_option maxHeartbeats 2000000 in
theorem diaryCuts_ok {a : Option Addr} {c : Nat} {es : List Ev} {ni : Int} (d : Nat) (M0 : AMem) (hok : Okg M0) (hv : Evs M0.g (.rslice a es.length c) es) (hc : es.length ≤ c) :
    Ans (callF tbl code 100000 (d + 6)) 4 [.rslice a es.length c, .int .i64 ni] M0 fun r _ => r = .bool true := by
  refine Ans_of (tbl_none (by decide) _) (show code 4 = some c4 from by kernel_rfl) (by simp) fun t hd ha => ?_
  have h0 := ha 0 _ rfl
  have h1 := ha 1 _ rfl
  clear ha
  have haw : callF tbl code 100000 (d + 5) 5 [] M0 = some (.bool true, M0) := rfl
  refine W_seq (W_seqR (by simp only [runSeq_cons, runSeq_nil, evalArgs_nil, evalArgs_const, val1, putT, opI_move]; rfl) ?_)
  refine W_seq (W_seq (W_seqR (by simp only [runSeq_cons, runSeq_nil, evalArgs_nil, evalArgs_tmp, val1, putT, Tr.get_set_self, Tr.get_set_ne, hd _, ne_eq, Nat.reduceEqDiff, not_false_eq_true, decide_true, Nat.reduceLT, opI_not, opI_callF, haw]; rfl) ?_))
  refine W_cond (b := false) (by simp only [PArg.eval, Tr.get_set_self, Tr.get_set_ne, hd _, ne_eq, Nat.reduceEqDiff, not_false_eq_true, decide_true, Nat.reduceLT]; try rfl) (fun hb => by cases hb) (fun _ => W_skip ?_)
  show W _ _
  by_cases c1 : (es.length : Int) > 60
  · refine W_seq (W_seq (W_seqR (by simp only [runSeq_cons, runSeq_nil, evalArgs_nil, evalArgs_tmp, evalArgs_const, val1, putT, Tr.get_set_self, Tr.get_set_ne, Tr.isSome_set, hd _, ne_eq, Nat.reduceEqDiff, not_false_eq_true, decide_true, Nat.reduceLT, opI_move, opI_gtr, opI_lenR, opI_pick, runSeq_guard (b := true), Bool.true_beq, Bool.not_true, h0, c1]; rfl) ?_))
    refine W_cond (b := true) (by simp only [PArg.eval, Tr.get_set_self, Tr.get_set_ne, hd _, ne_eq, Nat.reduceEqDiff, not_false_eq_true, decide_true, Nat.reduceLT]; try rfl) (fun _ => ?_) (fun hb => by cases hb)
    refine W_seq (W_seqR (by simp only [runSeq_cons, runSeq_nil, evalArgs_nil, evalArgs_const, val1, putT, opI_move]; rfl) (W_ret ?_))
    exact ⟨_, fin_tmp (by simp only [Tr.get_set_self, Tr.get_set_ne, Option.isSome_some, hd _, ne_eq, Nat.reduceEqDiff, not_false_eq_true, decide_true, Nat.reduceLT]; try rfl), rfl⟩
  by_cases c2 : ni < 0
  · refine W_seq (W_seq (W_seqR (by simp only [runSeq_cons, runSeq_nil, evalArgs_nil, evalArgs_tmp, evalArgs_const, val1, putT, Tr.get_set_self, Tr.get_set_ne, Tr.isSome_set, hd _, ne_eq, Nat.reduceEqDiff, not_false_eq_true, decide_true, Nat.reduceLT, opI_move, opI_lss, opI_gtr, opI_lenR, opI_pick, runSeq_guard (b := true), runSeq_guard (b := false), beq_self_eq_true, Bool.true_beq, Bool.not_true, h0, h1, c1, c2, decide_false]; rfl) ?_))
    refine W_cond (b := true) (by simp only [PArg.eval, Tr.get_set_self, Tr.get_set_ne, hd _, ne_eq, Nat.reduceEqDiff, not_false_eq_true, decide_true, Nat.reduceLT]; try rfl) (fun _ => ?_) (fun hb => by cases hb)
    refine W_seq (W_seqR (by simp only [runSeq_cons, runSeq_nil, evalArgs_nil, evalArgs_const, val1, putT, opI_move]; rfl) (W_ret ?_))
    exact ⟨_, fin_tmp (by simp only [Tr.get_set_self, Tr.get_set_ne, Option.isSome_some, hd _, ne_eq, Nat.reduceEqDiff, not_false_eq_true, decide_true, Nat.reduceLT]; try rfl), rfl⟩
  by_cases c3 : ni > (es.length : Int)
  · refine W_seq (W_seq (W_seqR (by simp only [runSeq_cons, runSeq_nil, evalArgs_nil, evalArgs_tmp, evalArgs_const, val1, putT, Tr.get_set_self, Tr.get_set_ne, Tr.isSome_set, hd _, ne_eq, Nat.reduceEqDiff, not_false_eq_true, decide_true, Nat.reduceLT, opI_move, opI_lss, opI_gtr, opI_lenR, opI_pick, runSeq_guard (b := false), beq_self_eq_true, Bool.not_true, h0, h1, c1, c2, c3, decide_false]; rfl) ?_))
    refine W_cond (b := true) (by simp only [PArg.eval, Tr.get_set_self, Tr.get_set_ne, hd _, ne_eq, Nat.reduceEqDiff, not_false_eq_true, decide_true, Nat.reduceLT]; try rfl) (fun _ => ?_) (fun hb => by cases hb)
    refine W_seq (W_seqR (by simp only [runSeq_cons, runSeq_nil, evalArgs_nil, evalArgs_const, val1, putT, opI_move]; rfl) (W_ret ?_))
    exact ⟨_, fin_tmp (by simp only [Tr.get_set_self, Tr.get_set_ne, Option.isSome_some, hd _, ne_eq, Nat.reduceEqDiff, not_false_eq_true, decide_true, Nat.reduceLT]; try rfl), rfl⟩
  refine W_seq (W_seq (W_seqR (by simp only [runSeq_cons, runSeq_nil, evalArgs_nil, evalArgs_tmp, evalArgs_const, val1, putT, Tr.get_set_self, Tr.get_set_ne, Tr.isSome_set, hd _, ne_eq, Nat.reduceEqDiff, not_false_eq_true, decide_true, Nat.reduceLT, opI_move, opI_lss, opI_gtr, opI_lenR, opI_pick, runSeq_guard (b := false), beq_self_eq_true, Bool.not_true, h0, h1, c1, c2, c3, decide_false]; rfl) ?_))
  refine W_cond (b := false) (by simp only [PArg.eval, Tr.get_set_self, Tr.get_set_ne, hd _, ne_eq, Nat.reduceEqDiff, not_false_eq_true, decide_true, Nat.reduceLT]; try rfl) (fun hb => by cases hb) (fun _ => W_skip ?_)
  obtain ⟨n, rfl⟩ : ∃ n : Nat, ni = n := ⟨ni.toNat, by omega⟩
  have hn : n ≤ es.length := by omega
  have hl60 : es.length ≤ 60 := by omega
  clear c1 c2 c3
  show W _ _
  have hlen0 : (AV.rslice a es.length c) = .rslice a es.length c := rfl
  generalize hvv : AV.rslice a es.length c = v at hv h0
  refine W_seq (W_seq (W_seqR (by simp only [runSeq_cons, runSeq_nil, evalArgs_nil, evalArgs_const, val1, putT, opI_move]; rfl) (W_block (W_loop (fun k t M' => ∃ (i : Nat), k + i = es.length ∧ M' = M0 ∧ (∀ j, j < i → (ev es j).vs.length ≤ 100 ∧ (ev es j).ls.length ≤ 100) ∧ Dom t 172 ∧ t.get 0 = some v ∧ t.get 1 = some (.int .i64 n) ∧ t.get 5 = some (.int .i64 i)) (k := es.length) (by omega) ?_ ?_))))
  · exact ⟨0, rfl, rfl, fun j hj => by omega, by ((repeat (with_reducible apply Dom.set)); exact hd), by simp only [Tr.get_set_ne, ne_eq, Nat.reduceEqDiff, not_false_eq_true, h0], by simp only [Tr.get_set_ne, ne_eq, Nat.reduceEqDiff, not_false_eq_true, h1], by simp only [Tr.get_set_self, Tr.get_set_ne, hd _, ne_eq, Nat.reduceEqDiff, not_false_eq_true, decide_true, Nat.reduceLT]; rfl⟩
  clear h0 h1 hd haw
  intro k t M ⟨i, hk, hM, hbd, hd, h0, h1, h3⟩
  subst hM
  have lv := hv.len M rfl
  refine W_seq (W_seq (W_seqR (by simp only [runSeq_cons, runSeq_nil, evalArgs_nil, evalArgs_tmp, val1, putT, Tr.get_set_self, Tr.get_set_ne, hd _, ne_eq, Nat.reduceEqDiff, not_false_eq_true, decide_true, Nat.reduceLT, opI_move, opI_lss, h0, h3, lv]; rfl) ?_))
  refine W_cond (by simp only [PArg.eval, Tr.get_set_self, Tr.get_set_ne, hd _, ne_eq, Nat.reduceEqDiff, not_false_eq_true, decide_true, Nat.reduceLT]; rfl) (fun hb => W_skip ?_) (fun hb => ?_)
  · have hin : i < es.length := by simpa using hb
    obtain ⟨p, pp, p1, p2⟩ := hv.at_ hin M rfl
    have P6 := p2 6 _ rfl
    have P9 := p2 9 _ rfl
    have l6 := ((hv.ev hin).1 M rfl).len
    have l9 := ((hv.ev hin).2 M rfl).len
    by_cases c1 : ((ev es i).vs.length : Int) > 100
    · refine W_seq (W_block (W_seq (W_seqR (by simp only [runSeq_cons, runSeq_nil, evalArgs_nil, evalArgs_tmp, evalArgs_const, val1, putT, Tr.get_set_self, Tr.get_set_ne, Tr.isSome_set, hd _, ne_eq, Nat.reduceEqDiff, not_false_eq_true, decide_true, Nat.reduceLT, opI_move, opI_gtr, opI_pick, Nat.zero_add, Nat.reduceAdd, runSeq_guard (b := true), Bool.true_beq, h0, h3, p1, opI_fieldQ pp, P6, l6, c1]; rfl) ?_)))
      refine W_cond (b := true) (by simp only [PArg.eval, Tr.get_set_self, Tr.get_set_ne, hd _, ne_eq, Nat.reduceEqDiff, not_false_eq_true, decide_true, Nat.reduceLT]; try rfl) (fun _ => ?_) (fun hb => by cases hb)
      refine W_seq (W_seqR (by simp only [runSeq_cons, runSeq_nil, evalArgs_nil, evalArgs_const, val1, putT, opI_move]; rfl) (W_ret ?_))
      exact ⟨_, fin_tmp (by simp only [Tr.get_set_self, Tr.get_set_ne, hd _, ne_eq, Nat.reduceEqDiff, not_false_eq_true, decide_true, Nat.reduceLT]; try rfl), rfl⟩
    by_cases c2 : ((ev es i).ls.length : Int) > 100
    · refine W_seq (W_block (W_seq (W_seqR (by simp only [runSeq_cons, runSeq_nil, evalArgs_nil, evalArgs_tmp, evalArgs_const, val1, putT, Tr.get_set_self, Tr.get_set_ne, Tr.isSome_set, hd _, ne_eq, Nat.reduceEqDiff, not_false_eq_true, decide_true, Nat.reduceLT, opI_move, opI_gtr, opI_pick, Nat.zero_add, Nat.reduceAdd, runSeq_guard (b := false), beq_self_eq_true, h0, h3, p1, opI_fieldQ pp, P6, P9, l6, l9, c1, c2, decide_false]; rfl) ?_)))
      refine W_cond (b := true) (by simp only [PArg.eval, Tr.get_set_self, Tr.get_set_ne, hd _, ne_eq, Nat.reduceEqDiff, not_false_eq_true, decide_true, Nat.reduceLT]; try rfl) (fun _ => ?_) (fun hb => by cases hb)
      refine W_seq (W_seqR (by simp only [runSeq_cons, runSeq_nil, evalArgs_nil, evalArgs_const, val1, putT, opI_move]; rfl) (W_ret ?_))
      exact ⟨_, fin_tmp (by simp only [Tr.get_set_self, Tr.get_set_ne, hd _, ne_eq, Nat.reduceEqDiff, not_false_eq_true, decide_true, Nat.reduceLT]; try rfl), rfl⟩
    refine W_seq (W_block (W_seq (W_seqR (by simp only [runSeq_cons, runSeq_nil, evalArgs_nil, evalArgs_tmp, evalArgs_const, val1, putT, Tr.get_set_self, Tr.get_set_ne, Tr.isSome_set, hd _, ne_eq, Nat.reduceEqDiff, not_false_eq_true, decide_true, Nat.reduceLT, opI_move, opI_gtr, opI_pick, Nat.zero_add, Nat.reduceAdd, runSeq_guard (b := false), beq_self_eq_true, h0, h3, p1, opI_fieldQ pp, P6, P9, l6, l9, c1, c2, decide_false]; rfl) ?_)))
    refine W_cond (b := false) (by simp only [PArg.eval, Tr.get_set_self, Tr.get_set_ne, hd _, ne_eq, Nat.reduceEqDiff, not_false_eq_true, decide_true, Nat.reduceLT]; try rfl) (fun hb => by cases hb) (fun _ => W_skip ?_)
    show W _ _
    refine W_seqR (by simp only [runSeq_cons, runSeq_nil, evalArgs_nil, evalArgs_tmp, evalArgs_const, val1, putT, Tr.get_set_self, Tr.get_set_ne, hd _, ne_eq, Nat.reduceEqDiff, not_false_eq_true, decide_true, Nat.reduceLT, opI_move, opI_add, h3]; rfl) ?_
    refine ⟨k - 1, by omega, i + 1, by omega, rfl, fun j hj => ?_, by ((repeat (with_reducible apply Dom.set)); exact hd), by simp only [Tr.get_set_ne, ne_eq, Nat.reduceEqDiff, not_false_eq_true, h0], by simp only [Tr.get_set_ne, ne_eq, Nat.reduceEqDiff, not_false_eq_true, h1], ?_⟩
    · rcases Nat.lt_or_ge j i with h | h
      · exact hbd j h
      · rw [show j = i by omega]; exact ⟨by omega, by omega⟩
    · simp only [Tr.get_set_self, Tr.get_set_ne, hd _, ne_eq, Nat.reduceEqDiff, not_false_eq_true, decide_true, Nat.reduceLT]
      rw [wrapF_small (by omega) (by omega)]; rfl
  have hi : i = es.length := by simp at hb; omega
  subst hi
  refine W_exit ?_
  show W _ _
  have hbd' : ∀ e ∈ es, e.vs.length ≤ 100 ∧ e.ls.length ≤ 100 := fun e he => by
    obtain ⟨j, hj, rfl⟩ := List.mem_iff_getElem.1 he
    rw [ev_at hj]; exact hbd j hj
  have hi : InEvs M.g v es := ⟨hv.1, fun e he => ⟨(hv.2 e he).1, (hv.2 e he).2, (hbd' e he).1, (hbd' e he).2⟩⟩
  have hvt : Evs M.g (.rslice a n c) (es.take n) := by rw [← hvv] at hv; exact hv.take hn
  have hit : InEvs M.g (.rslice a n c) (es.take n) := ⟨hvt.1, fun e he => hi.2 e (List.mem_of_mem_take he)⟩
  clear hbd hb lv hk h3
  have hspec := run_spec (es := es) (by omega)
  obtain ⟨_, M1, k1, s1, b1, rfl, hb1⟩ := refright_ok (d + 2) M hok hi (by omega)
  cases b1 with
  | false =>
    refine W_seq (W_seq (W_seqR (by simp only [runSeq_cons, runSeq_nil, evalArgs_nil, evalArgs_tmp, val1, putT, Tr.get_set_self, Tr.get_set_ne, hd _, ne_eq, Nat.reduceEqDiff, not_false_eq_true, decide_true, Nat.reduceLT, opI_move, opI_not, opI_callF, h0, k1]; rfl) ?_))
    refine W_cond (b := true) (by simp only [PArg.eval, Tr.get_set_self, Tr.get_set_ne, hd _, ne_eq, Nat.reduceEqDiff, not_false_eq_true, decide_true, Nat.reduceLT]; try rfl) (fun _ => ?_) (fun hb => by cases hb)
    refine W_seq (W_seqR (by simp only [runSeq_cons, runSeq_nil, evalArgs_nil, evalArgs_const, val1, putT, opI_move]; rfl) (W_ret ?_))
    exact ⟨_, fin_tmp (by simp only [Tr.get_set_self, Tr.get_set_ne, hd _, ne_eq, Nat.reduceEqDiff, not_false_eq_true, decide_true, Nat.reduceLT]; try rfl), rfl⟩
  | true =>
    have hR := hb1.1 rfl
    refine W_seq (W_seq (W_seqR (by simp only [runSeq_cons, runSeq_nil, evalArgs_nil, evalArgs_tmp, val1, putT, Tr.get_set_self, Tr.get_set_ne, hd _, ne_eq, Nat.reduceEqDiff, not_false_eq_true, decide_true, Nat.reduceLT, opI_move, opI_not, opI_callF, h0, k1]; rfl) ?_))
    refine W_cond (b := false) (by simp only [PArg.eval, Tr.get_set_self, Tr.get_set_ne, hd _, ne_eq, Nat.reduceEqDiff, not_false_eq_true, decide_true, Nat.reduceLT]; try rfl) (fun hb => by cases hb) (fun _ => W_skip ?_)
    show W _ _
    cases hr : runP 0 init es with
    | none => rw [hr] at hspec; exact absurd hR hspec
    | some st =>
      obtain ⟨st1, hr1, hcut, hg1, hg⟩ := cut_law (by omega) hn hr
      obtain ⟨_, M2, k2, s2, hp2⟩ := spans_ok (d + 1) M1 s1.ok (by rw [s1.grow.g]; exact hi) (by omega)
      rw [hr] at hp2
      obtain ⟨sv, rfl, hrow⟩ := hp2
      have t2 := s1.trans s2
      obtain ⟨_, M3, k3, s3, hp3⟩ := spans_ok (d + 1) M2 t2.ok (by rw [t2.grow.g]; exact hit) (by rw [List.length_take]; omega)
      rw [hr1] at hp3
      obtain ⟨sv1, rfl, hrow1⟩ := hp3
      have t3 := t2.trans s3
      obtain ⟨_, M4, k4, s4, rfl⟩ := right_ok d M3 t3.ok (by rw [t3.grow.g]; exact hit) (by rw [List.length_take]; omega)
      rw [hr1, Option.isSome_some] at k4
      have t4 := t3.trans s4
      have rd1 := (hrow1.rd s3.ok.1).grow s4.grow
      have rd := (hrow.rd s2.ok.1).grow (s3.trans s4).grow
      have hsl : st.spans.length ≤ 60 := by
        rw [hr] at hspec
        have := refSp_len (es := es) (i := es.length)
        rw [hspec.2]; omega
      have hcl := hcut.len
      obtain ⟨_, M5, k5, s5, rfl⟩ := most_ok (d + 3) M4 rd1 t4.ok (by omega)
      have t5 := t4.trans s5
      obtain ⟨_, M6, k6, s6, rfl⟩ := most_ok (d + 3) M5 (rd.grow s5.grow) t5.ok (by omega)
      have t6 := t5.trans s6
      have hmost := most_cut hcut hg1 hg
      have l1 := rd1.len
      have l2 := rd.len
      have z0 : ((0 : Int) != 0) = false := rfl
      have z1 : ¬ ((st1.spans.length : Int) > st.spans.length) := by omega
      have z2 : ¬ (mostP st1.spans > mostP st.spans) := by omega
      have sl : ∀ M, opI (.slice 10 false true false) [v, .int .i64 n] M = some (.val (.rslice a n c) M) := fun M => by rw [← hvv]; exact slice_in hc hn
      refine W_seq (W_seqR (by simp only [runSeq_cons, runSeq_nil, evalArgs_nil, evalArgs_tmp, val1, putT, Tr.get_set_self, Tr.get_set_ne, hd _, ne_eq, Nat.reduceEqDiff, not_false_eq_true, decide_true, Nat.reduceLT, opI_move, opI_extract, opI_callF, h0, k2, List.getElem?_cons_zero, List.getElem?_cons_succ]; rfl) ?_)
      refine W_seq (W_seqR (by simp only [runSeq_cons, runSeq_nil, evalArgs_nil, evalArgs_tmp, val1, putT, Tr.get_set_self, Tr.get_set_ne, hd _, ne_eq, Nat.reduceEqDiff, not_false_eq_true, decide_true, Nat.reduceLT, opI_move, opI_extract, opI_callF, h0, h1, sl, k3, List.getElem?_cons_zero, List.getElem?_cons_succ]; rfl) ?_)
      refine W_seq (W_seq (W_seqR (by simp only [runSeq_cons, runSeq_nil, evalArgs_nil, evalArgs_tmp, evalArgs_const, val1, putT, Tr.get_set_self, Tr.get_set_ne, Tr.isSome_set, hd _, ne_eq, Nat.reduceEqDiff, not_false_eq_true, decide_true, Nat.reduceLT, opI_move, opI_not, opI_gtr, opI_neq, opI_callF, opI_pick, runSeq_guard (b := false), beq_self_eq_true, Bool.not_true, h0, h1, sl, k4, k5, k6, l1, l2, z0, z1, z2, decide_false]; rfl) ?_))
      refine W_cond (b := false) (by simp only [PArg.eval, Tr.get_set_self, Tr.get_set_ne, hd _, ne_eq, Nat.reduceEqDiff, not_false_eq_true, decide_true, Nat.reduceLT]; try rfl) (fun hb => by cases hb) (fun _ => W_skip ?_)
      show W _ _
      have rd1 := rd1.grow (s5.trans s6).grow
      have rd := rd.grow (s5.trans s6).grow
      refine W_seq (W_seq (W_seqR (by simp only [runSeq_cons, runSeq_nil, evalArgs_nil, evalArgs_const, val1, putT, opI_move]; rfl) (W_block (W_loop (fun k t M' => ∃ (i : Nat), k + i = st.spans.length ∧ M' = M6 ∧ Dom t 172 ∧ t.get 1 = some (.int .i64 n) ∧ t.get 6 = some sv ∧ t.get 8 = some sv1 ∧ t.get 10 = some (.int .i64 i)) (k := st.spans.length) (by omega) ?_ ?_))))
      · exact ⟨0, rfl, rfl, by ((repeat (with_reducible apply Dom.set)); exact hd), by simp only [Tr.get_set_ne, ne_eq, Nat.reduceEqDiff, not_false_eq_true, h1], by simp only [Tr.get_set_self, Tr.get_set_ne, hd _, ne_eq, Nat.reduceEqDiff, not_false_eq_true, decide_true, Nat.reduceLT], by simp only [Tr.get_set_self, Tr.get_set_ne, hd _, ne_eq, Nat.reduceEqDiff, not_false_eq_true, decide_true, Nat.reduceLT], by simp only [Tr.get_set_self, Tr.get_set_ne, hd _, ne_eq, Nat.reduceEqDiff, not_false_eq_true, decide_true, Nat.reduceLT]; rfl⟩
      clear h0 h1 hd k1 k2 k3 k4 k5 k6 l1 l2 hspec sl t
      intro k t M' ⟨i, hk, hM, hd, h1, h6, h8, h10⟩
      subst hM
      have l1 := rd1.len
      have l2 := rd.len
      refine W_seq (W_seq (W_seqR (by simp only [runSeq_cons, runSeq_nil, evalArgs_nil, evalArgs_tmp, val1, putT, Tr.get_set_self, Tr.get_set_ne, hd _, ne_eq, Nat.reduceEqDiff, not_false_eq_true, decide_true, Nat.reduceLT, opI_move, opI_lss, h6, h10, l2]; rfl) ?_))
      refine W_cond (by simp only [PArg.eval, Tr.get_set_self, Tr.get_set_ne, hd _, ne_eq, Nat.reduceEqDiff, not_false_eq_true, decide_true, Nat.reduceLT]; rfl) (fun hb => W_skip ?_) (fun hb => ?_)
      rotate_left
      · refine W_exit ?_
        show W _ _
        refine W_seq (W_seqR (by simp only [runSeq_cons, runSeq_nil, evalArgs_nil, evalArgs_const, val1, putT, opI_move]; rfl) (W_ret ?_))
        exact ⟨_, fin_tmp (by simp only [Tr.get_set_self, Tr.get_set_ne, hd _, ne_eq, Nat.reduceEqDiff, not_false_eq_true, decide_true, Nat.reduceLT]; try rfl), rfl⟩
      have hin : i < st.spans.length := by simpa using hb
      obtain ⟨p, va, la, pp, p1, _, _, _, _, P2, P3, _⟩ := rd.at_ hin
      have hgi := hg _ (List.getElem_mem hin)
      have next : ∀ t', Dom t' 172 → t'.get 1 = some (.int .i64 n) → t'.get 6 = some sv → t'.get 8 = some sv1 → t'.get 10 = some (.int .i64 i) → True := fun _ _ _ _ _ _ => trivial
      by_cases hic : i < st1.spans.length
      · obtain ⟨q, va', la', qq, q1, _, _, _, _, Q2, Q3, _⟩ := rd1.at_ hic
        obtain ⟨s', e1, e2, e3, e4⟩ := hcut.low i _ (List.getElem?_eq_getElem hic)
        have hgc := (hg1 _ (List.getElem_mem hic)).2
        rw [List.getElem?_eq_getElem hin] at e1
        cases e1
        generalize st.spans[i] = A at *
        generalize st1.spans[i] = B at *
        have w1 : A.from_ < (n : Int) := by omega
        have w2 : (i : Int) < st1.spans.length := by omega
        have x1 : xorB true (true == true) = false := rfl
        have x3 : xorB true true = false := rfl
        have x2 : xorB true (false == false) = false := rfl
        have f1 : (B.from_ != A.from_) = false := by simp [e2]
        have b1 := hgi.to
        refine W_seq (W_block (W_seq (W_seq (W_seqR (by simp only [runSeq_cons, runSeq_nil, evalArgs_nil, evalArgs_tmp, val1, putT, Tr.get_set_self, Tr.get_set_ne, hd _, ne_eq, Nat.reduceEqDiff, not_false_eq_true, decide_true, Nat.reduceLT, opI_move, opI_lss, opI_eqBool, Nat.zero_add, h1, h6, h8, h10, l1, p1, opI_fieldQ pp, P2, w1, w2, x1]; rfl) ?_))))
        refine W_cond (b := false) (by simp only [PArg.eval, Tr.get_set_self, Tr.get_set_ne, hd _, ne_eq, Nat.reduceEqDiff, not_false_eq_true, decide_true, Nat.reduceLT]; try rfl) (fun hb => by cases hb) (fun _ => W_skip ?_)
        show W _ _
        by_cases d1 : B.to ≥ 0
        · have d2 := e3 d1
          have d3 : A.to ≥ 0 := by omega
          have d4 : A.to < (n : Int) := by omega
          have d5 : (B.to != A.to) = false := by simp [d2]
          refine W_seq (W_quiet rfl (by simp only [runPure_cons, runPure_nil, ofD_cons, ofD_nil, sameN_self, evalArgs_nil, evalArgs_tmp, evalArgs_const, putT, Tr.get_set_self, Tr.get_set_ne, Tr.isSome_set, hd _, ne_eq, Nat.reduceEqDiff, not_false_eq_true, decide_true, Nat.reduceLT, opI_move, opI_lss, opI_geq, opI_neq, opI_eqBool, opI_pick, Nat.zero_add, runPure_guard (b := true), runPure_guard (b := false), beq_self_eq_true, h1, h6, h8, h10, l1, p1, q1, opI_fieldQ pp, opI_fieldQ qq, P2, P3, Q2, Q3, w2, f1, d1, d3, d4, d5, x3]; rfl) ?_)
          refine W_cond (b := false) (by simp only [PArg.eval, Tr.get_set_self, Tr.get_set_ne, hd _, ne_eq, Nat.reduceEqDiff, not_false_eq_true, decide_true, Nat.reduceLT]; try rfl) (fun hb => by cases hb) (fun _ => W_skip ?_)
          show W _ _
          refine W_seqR (by simp only [runSeq_cons, runSeq_nil, evalArgs_nil, evalArgs_tmp, evalArgs_const, val1, putT, Tr.get_set_self, Tr.get_set_ne, hd _, ne_eq, Nat.reduceEqDiff, not_false_eq_true, decide_true, Nat.reduceLT, opI_move, opI_add, h10]; rfl) ?_
          refine ⟨k - 1, by omega, i + 1, by omega, rfl, by ((repeat (with_reducible apply Dom.set)); exact hd), by simp only [Tr.get_set_ne, ne_eq, Nat.reduceEqDiff, not_false_eq_true, h1], by simp only [Tr.get_set_ne, ne_eq, Nat.reduceEqDiff, not_false_eq_true, h6], by simp only [Tr.get_set_ne, ne_eq, Nat.reduceEqDiff, not_false_eq_true, h8], ?_⟩
          simp only [Tr.get_set_self, Tr.get_set_ne, hd _, ne_eq, Nat.reduceEqDiff, not_false_eq_true, decide_true, Nat.reduceLT]
          rw [wrapF_small (by omega) (by omega)]; rfl
        · by_cases d3 : A.to ≥ 0
          · have d4 : ¬ A.to < (n : Int) := by have := e4 (by omega); omega
            refine W_seq (W_quiet rfl (by simp only [runPure_cons, runPure_nil, ofD_cons, ofD_nil, sameN_self, evalArgs_nil, evalArgs_tmp, evalArgs_const, putT, Tr.get_set_self, Tr.get_set_ne, Tr.isSome_set, hd _, ne_eq, Nat.reduceEqDiff, not_false_eq_true, decide_true, Nat.reduceLT, opI_move, opI_lss, opI_geq, opI_neq, opI_eqBool, opI_pick, Nat.zero_add, runPure_guard (b := true), runPure_guard (b := false), beq_self_eq_true, Bool.false_beq, Bool.not_true, h1, h6, h8, h10, l1, p1, q1, opI_fieldQ pp, opI_fieldQ qq, P2, P3, Q2, Q3, w2, f1, d1, d3, d4, x3, decide_false]; rfl) ?_)
            refine W_cond (b := false) (by simp only [PArg.eval, Tr.get_set_self, Tr.get_set_ne, hd _, ne_eq, Nat.reduceEqDiff, not_false_eq_true, decide_true, Nat.reduceLT]; try rfl) (fun hb => by cases hb) (fun _ => W_skip ?_)
            show W _ _
            refine W_seqR (by simp only [runSeq_cons, runSeq_nil, evalArgs_nil, evalArgs_tmp, evalArgs_const, val1, putT, Tr.get_set_self, Tr.get_set_ne, hd _, ne_eq, Nat.reduceEqDiff, not_false_eq_true, decide_true, Nat.reduceLT, opI_move, opI_add, h10]; rfl) ?_
            refine ⟨k - 1, by omega, i + 1, by omega, rfl, by ((repeat (with_reducible apply Dom.set)); exact hd), by simp only [Tr.get_set_ne, ne_eq, Nat.reduceEqDiff, not_false_eq_true, h1], by simp only [Tr.get_set_ne, ne_eq, Nat.reduceEqDiff, not_false_eq_true, h6], by simp only [Tr.get_set_ne, ne_eq, Nat.reduceEqDiff, not_false_eq_true, h8], ?_⟩
            simp only [Tr.get_set_self, Tr.get_set_ne, hd _, ne_eq, Nat.reduceEqDiff, not_false_eq_true, decide_true, Nat.reduceLT]
            rw [wrapF_small (by omega) (by omega)]; rfl
          · refine W_seq (W_quiet rfl (by simp only [runPure_cons, runPure_nil, ofD_cons, ofD_nil, sameN_self, evalArgs_nil, evalArgs_tmp, evalArgs_const, putT, Tr.get_set_self, Tr.get_set_ne, Tr.isSome_set, hd _, ne_eq, Nat.reduceEqDiff, not_false_eq_true, decide_true, Nat.reduceLT, opI_move, opI_lss, opI_geq, opI_neq, opI_eqBool, opI_pick, Nat.zero_add, runPure_guard (b := true), runPure_guard (b := false), beq_self_eq_true, Bool.false_beq, Bool.not_true, h6, h8, h10, l1, p1, q1, opI_fieldQ pp, opI_fieldQ qq, P2, P3, Q2, Q3, w2, f1, d1, d3, x3, decide_false]; rfl) ?_)
            refine W_cond (b := false) (by simp only [PArg.eval, Tr.get_set_self, Tr.get_set_ne, hd _, ne_eq, Nat.reduceEqDiff, not_false_eq_true, decide_true, Nat.reduceLT]; try rfl) (fun hb => by cases hb) (fun _ => W_skip ?_)
            show W _ _
            refine W_seqR (by simp only [runSeq_cons, runSeq_nil, evalArgs_nil, evalArgs_tmp, evalArgs_const, val1, putT, Tr.get_set_self, Tr.get_set_ne, hd _, ne_eq, Nat.reduceEqDiff, not_false_eq_true, decide_true, Nat.reduceLT, opI_move, opI_add, h10]; rfl) ?_
            refine ⟨k - 1, by omega, i + 1, by omega, rfl, by ((repeat (with_reducible apply Dom.set)); exact hd), by simp only [Tr.get_set_ne, ne_eq, Nat.reduceEqDiff, not_false_eq_true, h1], by simp only [Tr.get_set_ne, ne_eq, Nat.reduceEqDiff, not_false_eq_true, h6], by simp only [Tr.get_set_ne, ne_eq, Nat.reduceEqDiff, not_false_eq_true, h8], ?_⟩
            simp only [Tr.get_set_self, Tr.get_set_ne, hd _, ne_eq, Nat.reduceEqDiff, not_false_eq_true, decide_true, Nat.reduceLT]
            rw [wrapF_small (by omega) (by omega)]; rfl
      · have e1 := hcut.high i _ (by omega) (List.getElem?_eq_getElem hin)
        generalize st.spans[i] = A at *
        have w1 : ¬ A.from_ < (n : Int) := by omega
        have w2 : ¬ (i : Int) < st1.spans.length := by omega
        have x2 : xorB true (false == false) = false := rfl
        refine W_seq (W_block (W_seq (W_seq (W_seqR (by simp only [runSeq_cons, runSeq_nil, evalArgs_nil, evalArgs_tmp, val1, putT, Tr.get_set_self, Tr.get_set_ne, hd _, ne_eq, Nat.reduceEqDiff, not_false_eq_true, decide_true, Nat.reduceLT, opI_move, opI_lss, opI_eqBool, Nat.zero_add, h1, h6, h8, h10, l1, p1, opI_fieldQ pp, P2, w1, w2, x2, decide_false]; rfl) ?_))))
        refine W_cond (b := false) (by simp only [PArg.eval, Tr.get_set_self, Tr.get_set_ne, hd _, ne_eq, Nat.reduceEqDiff, not_false_eq_true, decide_true, Nat.reduceLT]; try rfl) (fun hb => by cases hb) (fun _ => W_skip ?_)
        show W _ _
        refine W_seq (W_quiet rfl (by simp only [runPure_cons, runPure_nil, ofD_cons, ofD_nil, sameN_self, evalArgs_nil, evalArgs_tmp, evalArgs_const, putT, Tr.get_set_self, Tr.get_set_ne, Tr.isSome_set, hd _, ne_eq, Nat.reduceEqDiff, not_false_eq_true, decide_true, Nat.reduceLT, opI_move, opI_lss, opI_pick, runPure_guard (b := false), Bool.false_beq, Bool.not_true, runPure_skip, h8, h10, l1, w2, decide_false]; rfl) ?_)
        refine W_cond (b := false) (by simp only [PArg.eval, Tr.get_set_self, Tr.get_set_ne, hd _, ne_eq, Nat.reduceEqDiff, not_false_eq_true, decide_true, Nat.reduceLT]; try rfl) (fun hb => by cases hb) (fun _ => W_skip ?_)
        show W _ _
        refine W_seqR (by simp only [runSeq_cons, runSeq_nil, evalArgs_nil, evalArgs_tmp, evalArgs_const, val1, putT, Tr.get_set_self, Tr.get_set_ne, hd _, ne_eq, Nat.reduceEqDiff, not_false_eq_true, decide_true, Nat.reduceLT, opI_move, opI_add, h10]; rfl) ?_
        refine ⟨k - 1, by omega, i + 1, by omega, rfl, by ((repeat (with_reducible apply Dom.set)); exact hd), by simp only [Tr.get_set_ne, ne_eq, Nat.reduceEqDiff, not_false_eq_true, h1], by simp only [Tr.get_set_ne, ne_eq, Nat.reduceEqDiff, not_false_eq_true, h6], by simp only [Tr.get_set_ne, ne_eq, Nat.reduceEqDiff, not_false_eq_true, h8], ?_⟩
        simp only [Tr.get_set_self, Tr.get_set_ne, hd _, ne_eq, Nat.reduceEqDiff, not_false_eq_true, decide_true, Nat.reduceLT]
        rw [wrapF_small (by omega) (by omega)]; rfl
end Go.Proofs.Ytgmdbnjjflaaiaa.diary
