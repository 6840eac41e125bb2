/- The methods of a heap of spans: the slowest. -/
import Derived.Test.YtoddncakdnmloaaLdRef
import Derived.Test.YtoddncakdnmloaaHpWalk
import Derived.Test.YtoddncakdnmloaaVx28
namespace Go.Proofs.Ytoddncakdnmloaa.diary
open Go Go.Vx
open Go.Proofs.Ytoddncakdnmloaa.grf (HM push_ok pop_ok)

def cmp3 (a b : Int) : Int := if a < b then -1 else if a > b then 1 else 0
set_option maxHeartbeats 1000000 in
theorem nan_ok (d : Nat) (M : AMem) (x : Int) : callF tbl code 100000 (d + 1) 66 [.int .i64 x] M = some (.bool false, M) := by
  refine Ans.eq ?_
  refine Ans_of (tbl_none (by decide) _) (show code 66 = some c66 from by kernel_rfl) (by simp) fun t hd ha => ?_
  have h0 := ha 0 _ rfl
  clear ha
  have nn : (x != x) = false := by simp
  refine W_seq (W_seqR (by simp only [runSeq_cons, runSeq_nil, evalArgs_nil, evalArgs_const, val1, putT, opI_move]; rfl) ?_)
  refine W_seq (W_seqR (by simp only [runSeq_cons, runSeq_nil, evalArgs_nil, evalArgs_tmp, val1, putT, Tr.get_set_self, Tr.get_set_ne, hd _, ne_eq, Nat.reduceEqDiff, not_false_eq_true, decide_true, Nat.reduceLT, opI_move, opI_neq, h0, nn]; rfl) (W_ret ?_))
  exact ⟨_, fin_tmp (by simp only [Tr.get_set_self, Tr.get_set_ne, Option.isSome_some, hd _, ne_eq, Nat.reduceEqDiff, not_false_eq_true, decide_true, Nat.reduceLT]; try rfl), rfl, rfl⟩
set_option maxHeartbeats 1000000 in
theorem compare_ok (d : Nat) (M : AMem) (x y : Int) : callF tbl code 100000 (d + 2) 93 [.int .i64 x, .int .i64 y] M = some (.int .i64 (cmp3 x y), M) := by
  refine Ans.eq ?_
  refine Ans_of (tbl_none (by decide) _) (show code 93 = some c93 from by kernel_rfl) (by simp) fun t hd ha => ?_
  have h0 := ha 0 _ rfl
  have h1 := ha 1 _ rfl
  clear ha
  have n1 := nan_ok d M x
  have n2 := nan_ok d M y
  refine W_seq (W_seqR (by simp only [runSeq_cons, runSeq_nil, evalArgs_nil, evalArgs_const, val1, putT, opI_move]; rfl) (W_seq (W_seqR (by simp only [runSeq_cons, runSeq_nil, evalArgs_nil, evalArgs_tmp, val1, putT, Tr.get_set_self, Tr.get_set_ne, hd _, ne_eq, Nat.reduceEqDiff, not_false_eq_true, decide_true, Nat.reduceLT, opI_move, opI_callF, h0, n1]; rfl) (W_seq (W_seqR (by simp only [runSeq_cons, runSeq_nil, evalArgs_nil, evalArgs_tmp, val1, putT, Tr.get_set_self, Tr.get_set_ne, hd _, ne_eq, Nat.reduceEqDiff, not_false_eq_true, decide_true, Nat.reduceLT, opI_move, opI_callF, h1, n2]; rfl) ?_)))))
  refine W_seq (W_seq (W_seqR (by simp only [runSeq_cons, runSeq_nil, evalArgs_nil, evalArgs_tmp, val1, putT, Tr.get_set_self, Tr.get_set_ne, hd _, ne_eq, Nat.reduceEqDiff, not_false_eq_true, decide_true, Nat.reduceLT, opI_move]; rfl) ?_))
  refine W_cond (b := false) (by simp only [PArg.eval, Tr.get_set_self, Tr.get_set_ne, hd _, ne_eq, Nat.reduceEqDiff, not_false_eq_true, decide_true, Nat.reduceLT]; try rfl) (fun hb => by cases hb) (fun _ => W_skip ?_)
  show W _ _
  refine W_seq (W_seq (W_seqR (by simp only [runSeq_cons, runSeq_nil, evalArgs_nil, evalArgs_tmp, val1, putT, Tr.get_set_self, Tr.get_set_ne, hd _, ne_eq, Nat.reduceEqDiff, not_false_eq_true, decide_true, Nat.reduceLT, opI_move]; rfl) ?_))
  refine W_cond (b := false) (by simp only [PArg.eval, Tr.get_set_self, Tr.get_set_ne, hd _, ne_eq, Nat.reduceEqDiff, not_false_eq_true, decide_true, Nat.reduceLT]; try rfl) (fun hb => by cases hb) (fun _ => W_skip ?_)
  show W _ _
  refine W_seq (W_seq (W_seqR (by simp only [runSeq_cons, runSeq_nil, evalArgs_nil, evalArgs_tmp, val1, putT, Tr.get_set_self, Tr.get_set_ne, hd _, ne_eq, Nat.reduceEqDiff, not_false_eq_true, decide_true, Nat.reduceLT, opI_move, opI_lss, h0, h1]; rfl) ?_))
  by_cases c1 : x < y
  · have e1 : decide (x < y) = true := decide_eq_true c1
    refine W_cond (b := true) (by simp only [PArg.eval, Tr.get_set_self, Tr.get_set_ne, hd _, ne_eq, Nat.reduceEqDiff, not_false_eq_true, decide_true, Nat.reduceLT, e1]) (fun _ => ?_) (fun hb => by cases hb)
    refine W_seq (W_seqR (by simp only [runSeq_cons, runSeq_nil, evalArgs_nil, evalArgs_const, val1, putT, opI_move]; rfl) (W_ret ?_))
    exact ⟨_, fin_tmp (by simp only [Tr.get_set_self, Tr.get_set_ne, Option.isSome_some, hd _, ne_eq, Nat.reduceEqDiff, not_false_eq_true, decide_true, Nat.reduceLT]; try rfl), rfl, by unfold cmp3; rw [if_pos c1]; rfl⟩
  have e1 : decide (x < y) = false := decide_eq_false c1
  refine W_cond (b := false) (by simp only [PArg.eval, Tr.get_set_self, Tr.get_set_ne, hd _, ne_eq, Nat.reduceEqDiff, not_false_eq_true, decide_true, Nat.reduceLT, e1]) (fun hb => by cases hb) (fun _ => W_skip ?_)
  show W _ _
  refine W_seq (W_seq (W_seqR (by simp only [runSeq_cons, runSeq_nil, evalArgs_nil, evalArgs_tmp, val1, putT, Tr.get_set_self, Tr.get_set_ne, hd _, ne_eq, Nat.reduceEqDiff, not_false_eq_true, decide_true, Nat.reduceLT, opI_move, opI_gtr, h0, h1]; rfl) ?_))
  by_cases c2 : x > y
  · have e2 : decide (x > y) = true := decide_eq_true c2
    refine W_cond (b := true) (by simp only [PArg.eval, Tr.get_set_self, Tr.get_set_ne, hd _, ne_eq, Nat.reduceEqDiff, not_false_eq_true, decide_true, Nat.reduceLT, e2]) (fun _ => ?_) (fun hb => by cases hb)
    refine W_seq (W_seqR (by simp only [runSeq_cons, runSeq_nil, evalArgs_nil, evalArgs_const, val1, putT, opI_move]; rfl) (W_ret ?_))
    exact ⟨_, fin_tmp (by simp only [Tr.get_set_self, Tr.get_set_ne, Option.isSome_some, hd _, ne_eq, Nat.reduceEqDiff, not_false_eq_true, decide_true, Nat.reduceLT]; try rfl), rfl, by unfold cmp3; rw [if_neg c1, if_pos c2]; rfl⟩
  have e2 : decide (x > y) = false := decide_eq_false c2
  refine W_cond (b := false) (by simp only [PArg.eval, Tr.get_set_self, Tr.get_set_ne, hd _, ne_eq, Nat.reduceEqDiff, not_false_eq_true, decide_true, Nat.reduceLT, e2]) (fun hb => by cases hb) (fun _ => W_skip ?_)
  show W _ _
  refine W_seq (W_seqR (by simp only [runSeq_cons, runSeq_nil, evalArgs_nil, evalArgs_const, val1, putT, opI_move]; rfl) (W_ret ?_))
  exact ⟨_, fin_tmp (by simp only [Tr.get_set_self, Tr.get_set_ne, Option.isSome_some, hd _, ne_eq, Nat.reduceEqDiff, not_false_eq_true, decide_true, Nat.reduceLT]; try rfl), rfl, by unfold cmp3; rw [if_neg c1, if_neg c2]; rfl⟩
set_option maxHeartbeats 1000000 in
theorem or_ok (d : Nat) (M : AMem) {v : AV} {x y : Int} (hv : IRow M .i64 v [x, y]) : callF tbl code 100000 (d + 1) 92 [v] M = some (.int .i64 (if x = 0 then y else x), M) := by
  refine Ans.eq ?_
  refine Ans_of (tbl_none (by decide) _) (show code 92 = some c92 from by kernel_rfl) (by simp) fun t hd ha => ?_
  have h0 := ha 0 _ rfl
  clear ha
  have lv := hv.len
  refine W_seq (W_seqR (by simp only [runSeq_cons, runSeq_nil, evalArgs_nil, evalArgs_const, val1, putT, opI_move]; rfl) (W_seq (W_seqR (by simp only [runSeq_cons, runSeq_nil, evalArgs_nil, evalArgs_const, val1, putT, opI_move]; rfl) ?_)))
  refine W_seq (W_seq (W_seqR (by simp only [runSeq_cons, runSeq_nil, evalArgs_nil, evalArgs_tmp, evalArgs_const, val1, putT, Tr.get_set_self, Tr.get_set_ne, hd _, ne_eq, Nat.reduceEqDiff, not_false_eq_true, decide_true, Nat.reduceLT, opI_move, h0, lv]; rfl) (W_block (W_loop (fun k t M' => ∃ (i : Nat), k + i = 2 ∧ M' = M ∧ (∀ j, j < i → [x, y].getD j 0 = 0) ∧ Dom t 18 ∧ t.get 3 = some (.int .i64 0) ∧ t.get 6 = some v ∧ t.get 7 = some (.int .i64 2) ∧ t.get 8 = some (.int .i64 i)) (k := 2) (by omega) ?_ ?_))))
  · exact ⟨0, rfl, rfl, fun j hj => by omega, by ((repeat (with_reducible apply Dom.set)); exact hd), by simp only [Tr.get_set_self, Tr.get_set_ne, hd _, ne_eq, Nat.reduceEqDiff, not_false_eq_true, decide_true, Nat.reduceLT], by simp only [Tr.get_set_self, Tr.get_set_ne, hd _, ne_eq, Nat.reduceEqDiff, not_false_eq_true, decide_true, Nat.reduceLT], by simp only [Tr.get_set_self, Tr.get_set_ne, hd _, ne_eq, Nat.reduceEqDiff, not_false_eq_true, decide_true, Nat.reduceLT]; rfl, by simp only [Tr.get_set_self, Tr.get_set_ne, hd _, ne_eq, Nat.reduceEqDiff, not_false_eq_true, decide_true, Nat.reduceLT]; rfl⟩
  clear h0 hd
  intro k t M' ⟨i, hk, hM, hz, hd, h3, h6, h7, h8⟩
  subst hM
  refine W_seq (W_seqR (by simp only [runSeq_cons, runSeq_nil, evalArgs_nil, evalArgs_tmp, val1, putT, opI_lss, h7, h8]; rfl) (W_seq ?_))
  refine W_cond (by simp only [PArg.eval, Tr.get_set_self, hd _, decide_true, Nat.reduceLT]; rfl) (fun hb => ?_) (fun hb => ?_)
  · have hi : i < 2 := by
      have : (i : Int) < 2 := by simpa using hb
      omega
    obtain ⟨q, qq, q1, q2⟩ := hv.at_ (i := i) (by simpa using hi)
    have hget : ([x, y])[i]'(by simpa using hi) = [x, y].getD i 0 := by rw [List.getD_eq_getElem?_getD, List.getElem?_eq_getElem (by simpa using hi)]; rfl
    rw [hget] at q2
    refine W_skip (W_seq (W_block (W_seq (W_seqR (by simp only [runSeq_cons, runSeq_nil, evalArgs_nil, evalArgs_tmp, val1, putT, Tr.get_set_self, Tr.get_set_ne, hd _, ne_eq, Nat.reduceEqDiff, not_false_eq_true, decide_true, Nat.reduceLT, opI_move, h6, h8, q1, q2]; rfl) ?_))))
    show W _ _
    by_cases hne : [x, y].getD i 0 = 0
    · have en : ([x, y].getD i 0 != 0) = false := by simpa using hne
      refine W_seq (W_seqR (by simp only [runSeq_cons, runSeq_nil, evalArgs_nil, evalArgs_tmp, val1, putT, Tr.get_set_self, Tr.get_set_ne, hd _, ne_eq, Nat.reduceEqDiff, not_false_eq_true, decide_true, Nat.reduceLT, opI_move, opI_neq, h3, en]; rfl) ?_)
      refine W_cond (b := false) (by simp only [PArg.eval, Tr.get_set_self, Tr.get_set_ne, hd _, ne_eq, Nat.reduceEqDiff, not_false_eq_true, decide_true, Nat.reduceLT]; try rfl) (fun hb => by cases hb) (fun _ => W_skip ?_)
      show W _ _
      refine W_seqR (by simp only [runSeq_cons, runSeq_nil, evalArgs_nil, evalArgs_tmp, evalArgs_const, val1, putT, Tr.get_set_self, Tr.get_set_ne, hd _, ne_eq, Nat.reduceEqDiff, not_false_eq_true, decide_true, Nat.reduceLT, opI_move, opI_add, h8]; rfl) ?_
      refine ⟨k - 1, by omega, i + 1, by omega, rfl, fun j hj => ?_, by ((repeat (with_reducible apply Dom.set)); exact hd), by simp only [Tr.get_set_ne, ne_eq, Nat.reduceEqDiff, not_false_eq_true, h3], by simp only [Tr.get_set_ne, ne_eq, Nat.reduceEqDiff, not_false_eq_true, h6], by simp only [Tr.get_set_ne, ne_eq, Nat.reduceEqDiff, not_false_eq_true, h7], ?_⟩
      · rcases Nat.lt_or_ge j i with h | h
        · exact hz j h
        · rw [show j = i by omega]; exact hne
      · simp only [Tr.get_set_self, Tr.get_set_ne, hd _, ne_eq, Nat.reduceEqDiff, not_false_eq_true, decide_true, Nat.reduceLT]
        rw [wrapF_small (by omega) (by omega)]; rfl
    · have en : ([x, y].getD i 0 != 0) = true := by simpa using hne
      refine W_seq (W_seqR (by simp only [runSeq_cons, runSeq_nil, evalArgs_nil, evalArgs_tmp, val1, putT, Tr.get_set_self, Tr.get_set_ne, hd _, ne_eq, Nat.reduceEqDiff, not_false_eq_true, decide_true, Nat.reduceLT, opI_move, opI_neq, h3, en]; rfl) ?_)
      refine W_cond (b := true) (by simp only [PArg.eval, Tr.get_set_self, Tr.get_set_ne, hd _, ne_eq, Nat.reduceEqDiff, not_false_eq_true, decide_true, Nat.reduceLT]; try rfl) (fun _ => ?_) (fun hb => by cases hb)
      refine W_seq (W_seqR (by simp only [runSeq_cons, runSeq_nil, evalArgs_nil, evalArgs_tmp, val1, putT, Tr.get_set_self, Tr.get_set_ne, hd _, ne_eq, Nat.reduceEqDiff, not_false_eq_true, decide_true, Nat.reduceLT, opI_move]; rfl) (W_ret ?_))
      refine ⟨_, fin_tmp (by simp only [Tr.get_set_self, Tr.get_set_ne, hd _, ne_eq, Nat.reduceEqDiff, not_false_eq_true, decide_true, Nat.reduceLT]; try rfl), rfl, ?_⟩
      show AV.int .i64 _ = _
      congr 1
      rcases (show i = 0 ∨ i = 1 by omega) with rfl | rfl
      · have hx : x ≠ 0 := hne
        rw [if_neg hx]; rfl
      · have hx : x = 0 := hz 0 (by omega)
        rw [if_pos hx]; rfl
  refine W_exit ?_
  have hi : i = 2 := by
    have : ¬ (i : Int) < 2 := by simpa using hb
    omega
  subst hi
  show W _ _
  refine W_seq (W_seqR (by simp only [runSeq_cons, runSeq_nil, evalArgs_nil, evalArgs_tmp, val1, putT, Tr.get_set_self, Tr.get_set_ne, hd _, ne_eq, Nat.reduceEqDiff, not_false_eq_true, decide_true, Nat.reduceLT, opI_move, h3]; rfl) (W_ret ?_))
  refine ⟨_, fin_tmp (by simp only [Tr.get_set_self, Tr.get_set_ne, hd _, ne_eq, Nat.reduceEqDiff, not_false_eq_true, decide_true, Nat.reduceLT]; try rfl), rfl, ?_⟩
  have hx : x = 0 := hz 0 (by omega)
  have hy : y = 0 := hz 1 (by omega)
  show AV.int .i64 0 = _
  rw [if_pos hx, hy]

/-- a span that has ended, and where its lists lie -/
structure Sl where
  va : AV
  la : AV
  s : Sp
def dSl : Sl := ⟨.nilFunc, .nilFunc, ⟨0, 0, 0, 0, 0, 0, [], 0, 0, []⟩⟩
structure Sl.Ok (x : Sl) : Prop where
  va : x.va.one = true ∧ AV.beq x.va x.va = true
  la : x.la.one = true ∧ AV.beq x.la x.la = true
/-- its cells, and how long it took -/
def eS (tk : Sp → Int) (x : Sl) : List AV := [.int .i64 x.s.who, .int .i64 x.s.nth, .int .i64 x.s.from_, .int .i64 x.s.to, .int .i64 x.s.kind, .int .u64 x.s.task, x.va, .int .i64 x.s.code, .int .u64 x.s.v, x.la, .int .i64 (tk x.s)]
/-- less slow, or of the same time and later -/
def wS (tk : Sp → Int) (a b : Sp) : Bool := decide (tk a < tk b ∨ (tk a = tk b ∧ a.from_ > b.from_))
def ltS (tk : Sp → Int) (a b : Sl) : Bool := wS tk a.s b.s
theorem woS {tk : Sp → Int} : WO (ltS tk) := ⟨fun a b h => by simp only [ltS, wS, decide_eq_true_eq, decide_eq_false_iff_not] at *; omega, fun a b c h k => by simp only [ltS, wS, decide_eq_false_iff_not] at *; omega⟩
theorem eS_one {tk : Sp → Int} {x : Sl} (h : x.Ok) : (eS tk x).all AV.one = true := by simp [eS, one_int, h.va.1, h.la.1]
theorem eS_beq {tk : Sp → Int} {x : Sl} (h : x.Ok) : AV.beq (.agg (eS tk x)) (.agg (eS tk x)) = true := by simp [eS, AV.beq, AV.beqs, h.va.2, h.la.2]
def ordS (tk : Sp → Int) (a b : Sp) : Int := if cmp3 (tk b) (tk a) = 0 then cmp3 a.from_ b.from_ else cmp3 (tk b) (tk a)
theorem ordS_pos {tk : Sp → Int} {a b : Sp} : decide (ordS tk a b > 0) = wS tk a b := by
  unfold ordS wS cmp3
  by_cases h1 : tk b < tk a
  · simp only [h1, if_true]; simp <;> omega
  · by_cases h2 : tk b > tk a
    · simp only [h1, h2, if_true, if_false]; simp <;> omega
    · simp only [h1, h2, if_false, if_true]
      by_cases h3 : a.from_ < b.from_
      · simp only [h3, if_true]; simp <;> omega
      · by_cases h4 : a.from_ > b.from_
        · simp only [h3, h4, if_true, if_false]; simp <;> omega
        · simp only [h3, h4, if_false]; simp <;> omega
set_option maxRecDepth 20000 in
set_option maxHeartbeats 2000000 in
theorem order_ok {tk : Sp → Int} {a b : Sl} (d : Nat) (M : AMem) (hok : Okg M) :
    Ans (callF tbl code 100000 (d + 3)) 91 [.agg (eS tk a), .agg (eS tk b)] M fun r M' => r = .int .i64 (ordS tk a.s b.s) ∧ Step M M' := by
  refine Ans_of (tbl_none (by decide) _) (show code 91 = some c91 from by kernel_rfl) (by simp) fun t hd ha => ?_
  have h0 := ha 0 _ rfl
  have h1 := ha 1 _ rfl
  clear ha
  refine W_seq (W_seqR (by simp only [runSeq_cons, runSeq_nil, evalArgs_nil, evalArgs_tmp, evalArgs_const, val1, putT, Tr.get_set_ne, ne_eq, Nat.reduceEqDiff, not_false_eq_true, opI_move, opI_box, cells_agg, push_n, h0, h1]; rfl) ?_)
  have s1 := (Step.refl hok).push (k := .cells (eS tk a) 0 true none) (fun _ _ _ _ he => by cases he)
  have s2 := s1.push (k := .cells (eS tk b) 0 true none) (fun _ _ _ _ he => by cases he)
  have ga := (get_push_old (k := .cells (eS tk b) 0 true none) s1.ok.1 (show M.n < M.n + 1 by omega)).trans (get_push_self (k := .cells (eS tk a) 0 true none) hok.1)
  have gb := get_push_self (k := .cells (eS tk b) 0 true none) s1.ok.1
  simp only [push_n] at gb
  generalize hM2 : (M.push (.cells (eS tk a) 0 true none)).push (.cells (eS tk b) 0 true none) = M2 at *
  have a10 := load_own (o := 10) ga rfl
  have b10 := load_own (o := 10) gb rfl
  have a2 := load_own (o := 2) ga rfl
  have b2 := load_own (o := 2) gb rfl
  have c1 := compare_ok d M2 (tk b.s) (tk a.s)
  have c2 := compare_ok d M2 a.s.from_ b.s.from_
  have e3 : opI (.sliceLit 2 [.int .i64 0, .int .i64 0] [(0, 1), (1, 1)]) [.int .i64 (cmp3 (tk b.s) (tk a.s)), .int .i64 (cmp3 a.s.from_ b.s.from_)] M2 = some (.val (.slice (some (M2.n, 0)) 2 2 false) (M2.push (.cells [.int .i64 (cmp3 (tk b.s) (tk a.s)), .int .i64 (cmp3 a.s.from_ b.s.from_)] 0 true none))) := rfl
  have s3 := s2.push (k := .cells [.int .i64 (cmp3 (tk b.s) (tk a.s)), .int .i64 (cmp3 a.s.from_ b.s.from_)] 0 true none) (fun _ _ _ _ he => by cases he)
  have g3 := get_push_self (k := .cells [.int .i64 (cmp3 (tk b.s) (tk a.s)), .int .i64 (cmp3 a.s.from_ b.s.from_)] 0 true none) s2.ok.1
  have r3 : IRow (M2.push (.cells [.int .i64 (cmp3 (tk b.s) (tk a.s)), .int .i64 (cmp3 a.s.from_ b.s.from_)] 0 true none)) .i64 (.slice (some (M2.n, 0)) 2 2 false) [cmp3 (tk b.s) (tk a.s), cmp3 a.s.from_ b.s.from_] :=
    ⟨els_one, .inr (.inr ⟨M2.n, 0, 2, false, _, 0, true, none, rfl, g3, by rw [push_n]; omega, by simp, by simp⟩)⟩
  have c4 := or_ok (d + 1) _ r3
  have q0 := held_none s2.ok.1
  have q1 : isHeld ((M2.push (.cells [.int .i64 (cmp3 (tk b.s) (tk a.s)), .int .i64 (cmp3 a.s.from_ b.s.from_)] 0 true none)).get M2.n) = false := by rw [g3]; rfl
  refine W_seq (W_trace (M' := M2.push (.cells [.int .i64 (cmp3 (tk b.s) (tk a.s)), .int .i64 (cmp3 a.s.from_ b.s.from_)] 0 true none)) rfl (by simp only [sameN_self, evalArgs_nil, evalArgs_tmp, val1, putT, Tr.get_set_self, Tr.get_set_ne, hd _, ne_eq, Nat.reduceEqDiff, not_false_eq_true, decide_true, Nat.reduceLT, opI_move, opI_callF, opI_fieldP, push_n, Nat.zero_add, Nat.add_zero, trace_nil, trace_read, trace_eff, addR_some, addE_some, Bool.and_true, Bool.not_false, a10, b10, a2, b2, c1, c2, e3, c4, q0, q1]; rfl) (by simp [checkRec, isLoad, sameAt, a2, b2, AV.beq]) rfl (W_ret ?_))
  exact ⟨_, fin_tmp (by simp only [Tr.get_set_self, Tr.get_set_ne, Tr.isSome_set, Option.isSome_some, hd _, ne_eq, Nat.reduceEqDiff, not_false_eq_true, decide_true, Nat.reduceLT]; try rfl), rfl, s3⟩

section
variable {tk : Sp → Int} {M0 A M : AMem} {pb γ : Nat} {l : List Sl} {v : AV}
theorem rowS_len (hv : RowI M0 M 11 γ v (l.map (eS tk))) (hok : Ok M) : opI .lenS [v] M = some (.val (.int .i64 l.length) M) := by
  have := (hv.row hok).len
  rwa [List.length_map] at this
theorem rowS_at (hv : RowI M0 M 11 γ v (l.map (eS tk))) (hok : Ok M) {i : Nat} (hi : i < l.length) : (∀ M', opI (.indexAddrS 11) [v, .int .i64 i] M' = some (.val (rowp v 11 i) M')) ∧ opI (.load true 11) [rowp v 11 i] M = some (.val (.agg (eS tk (l.getD i dSl))) M) := by
  have hi' : i < (l.map (eS tk)).length := by rw [List.length_map]; exact hi
  refine ⟨hv.idx hi', ?_⟩
  have := (hv.ld hok (by omega) hi').1 0 11 (by omega)
  rw [padd_z (hv.isP hi'), List.getElem_map] at this
  rw [this, List.getD_eq_getElem?_getD, List.getElem?_eq_getElem hi]
  rfl
theorem rowS_put (h : Step M0 M) (hv : RowI M0 M 11 γ v (l.map (eS tk))) {i : Nat} (hi : i < l.length) {x : Sl} (hx : x.Ok) : ∃ M', opI (.store 11) [rowp v 11 i, .agg (eS tk x)] M = some (.val (.tuple []) M') ∧ Step M0 M' ∧ RowI M0 M' 11 γ v ((l.set i x).map (eS tk)) ∧ Fr M M' (· = γ) ∧ M'.n = M.n := by
  obtain ⟨M', h1, h2, h3, h4, h5⟩ := hv.put h (i := i) (by rw [List.length_map]; exact hi) (x := .agg (eS tk x)) (by rw [cells_agg]; rfl) (by rw [cells_agg]; exact eS_one hx)
  exact ⟨M', h1, h2, by rw [List.map_set]; rw [cells_agg] at h3; exact h3, h4, h5⟩
theorem okS_get (hx : ∀ x ∈ l, x.Ok) {i : Nat} (hi : i < l.length) : (l.getD i dSl).Ok := by
  rw [List.getD_eq_getElem?_getD, List.getElem?_eq_getElem hi]; exact hx _ (List.getElem_mem hi)
set_option maxHeartbeats 1000000 in
theorem lessS_ok (d : Nat) (h : Step M0 M) (hv : RowI M0 M 11 γ v (l.map (eS tk))) {i j : Nat} (hi : i < l.length) (hj : j < l.length) :
    Ans (callF tbl code 100000 (d + 4)) 87 [v, .int .i64 i, .int .i64 j] M fun r M' => r = .bool (ltS tk (l.getD i dSl) (l.getD j dSl)) ∧ Step M M' := by
  refine Ans_of (tbl_none (by decide) _) (show code 87 = some c87 from by kernel_rfl) (by simp) fun t hd ha => ?_
  have h0 := ha 0 _ rfl
  have h1 := ha 1 _ rfl
  have h2 := ha 2 _ rfl
  clear ha
  obtain ⟨a1, a2⟩ := rowS_at hv h.ok.1 hi
  obtain ⟨b1, b2⟩ := rowS_at hv h.ok.1 hj
  obtain ⟨_, M1, c1, rfl, s1⟩ := order_ok (tk := tk) (a := l.getD i dSl) (b := l.getD j dSl) d M h.ok
  have hh := held_none h.ok.1
  refine W_seq (W_seqR (by simp only [runSeq_cons, runSeq_nil, evalArgs_nil, evalArgs_const, val1, putT, opI_move]; rfl) ?_)
  refine W_seq (W_mix rfl (by simp only [sameN_self, evalArgs_nil, evalArgs_tmp, evalArgs_const, val1, putT, Tr.get_set_self, Tr.get_set_ne, hd _, ne_eq, Nat.reduceEqDiff, not_false_eq_true, decide_true, Nat.reduceLT, opI_move, opI_gtr, opI_callF, runMix_nil, runMix_read, runMix_eff, h0, h1, h2, a1, a2, b1, b2, c1, hh]; rfl) (W_ret ?_))
  refine ⟨_, fin_tmp (by simp only [Tr.get_set_self, Tr.get_set_ne, Option.isSome_some, hd _, ne_eq, Nat.reduceEqDiff, not_false_eq_true, decide_true, Nat.reduceLT]; try rfl), ?_, s1⟩
  show AV.bool (decide (ordS tk _ _ > 0)) = _
  rw [ordS_pos]; rfl
set_option maxHeartbeats 1000000 in
theorem swapS_ok (d : Nat) (h : Step M0 M) (hx : ∀ x ∈ l, x.Ok) (hv : RowI M0 M 11 γ v (l.map (eS tk))) {i j : Nat} (hi : i < l.length) (hj : j < l.length) :
    Ans (callF tbl code 100000 (d + 1)) 90 [v, .int .i64 i, .int .i64 j] M fun _ M' => Step M0 M' ∧ RowI M0 M' 11 γ v ((swapL dSl l i j).map (eS tk)) ∧ Fr M M' (· = γ) ∧ M'.n = M.n := by
  refine Ans_of (tbl_none (by decide) _) (show code 90 = some c90 from by kernel_rfl) (by simp) fun t hd ha => ?_
  have h0 := ha 0 _ rfl
  have h1 := ha 1 _ rfl
  have h2 := ha 2 _ rfl
  clear ha
  obtain ⟨a1, a2⟩ := rowS_at hv h.ok.1 hi
  obtain ⟨b1, b2⟩ := rowS_at hv h.ok.1 hj
  obtain ⟨M1, e1, s1, r1, f1, n1⟩ := rowS_put h hv hi (okS_get hx hj)
  obtain ⟨M2, e2, s2, r2, f2, n2⟩ := rowS_put s1 r1 (i := j) (by rw [List.length_set]; exact hj) (okS_get hx hi)
  have q0 := held_none h.ok.1
  have q1 := s1.nh M.n h.grow.n
  refine W_trace (M' := M2) rfl (by simp only [sameN_self, evalArgs_nil, evalArgs_tmp, val1, putT, Tr.get_set_self, Tr.get_set_ne, hd _, ne_eq, Nat.reduceEqDiff, not_false_eq_true, decide_true, Nat.reduceLT, opI_move, trace_nil, trace_read, trace_eff, addR_some, addE_some, Bool.false_and, Bool.and_true, Bool.not_false, h0, h1, h2, a1, a2, b1, b2, e1, e2, q0, q1]; rfl) (by simp [checkRec, isLoad]) rfl ?_
  exact ⟨[], rfl, s2, r2, f1.trans f2, by omega⟩
set_option maxHeartbeats 1000000 in
theorem lenS_ok (d : Nat) (hok : Ok M) (hv : RowI M0 M 11 γ v (l.map (eS tk))) : callF tbl code 100000 (d + 1) 30 [v] M = some (.int .i64 l.length, M) := by
  refine Ans.eq ?_
  refine Ans_of (tbl_none (by decide) _) (show code 30 = some c30 from by kernel_rfl) (by simp) fun t hd ha => ?_
  have h0 := ha 0 _ rfl
  clear ha
  have lv := rowS_len hv hok
  refine W_seq (W_seqR (by simp only [runSeq_cons, runSeq_nil, evalArgs_nil, evalArgs_const, val1, putT, opI_move]; rfl) ?_)
  refine W_seq (W_seqR (by simp only [runSeq_cons, runSeq_nil, evalArgs_nil, evalArgs_tmp, val1, putT, Tr.get_set_self, Tr.get_set_ne, hd _, ne_eq, Nat.reduceEqDiff, not_false_eq_true, decide_true, Nat.reduceLT, opI_move, h0, lv]; rfl) (W_ret ?_))
  exact ⟨_, fin_tmp (by simp only [Tr.get_set_self, Tr.get_set_ne, Option.isSome_some, hd _, ne_eq, Nat.reduceEqDiff, not_false_eq_true, decide_true, Nat.reduceLT]; try rfl), rfl, rfl⟩
abbrev zS : List AV := [.int .i64 0, .int .i64 0, .int .i64 0, .int .i64 0, .int .i64 0, .int .u64 0, .slice none 0 0 false, .int .i64 0, .int .u64 0, .slice none 0 0 false, .int .i64 0]
set_option maxRecDepth 20000 in
set_option maxHeartbeats 2000000 in
theorem popS_ok (d : Nat) (h : Step M0 M) (hp : M0.n ≤ pb) (hpg : pb ≠ γ) (hc : M.get pb = some (.cells [v] 0 true none)) (hx : ∀ x ∈ l, x.Ok) (hv : RowI M0 M 11 γ v (l.map (eS tk))) (hl : 0 < l.length) (hn : l.length ≤ 90000) :
    Ans (callF tbl code 100000 (d + 1)) 88 [.ptr (some (pb, 0))] M fun r M' => r = .iface 71 (.agg (eS tk (l.getD (l.length - 1) dSl))) ∧ Step M0 M' ∧ (∃ v', M'.get pb = some (.cells [v'] 0 true none) ∧ RowI M0 M' 11 γ v' ((l.take (l.length - 1)).map (eS tk))) ∧ Fr M M' (· = pb) ∧ M.n ≤ M'.n := by
  refine Ans_of (tbl_none (by decide) _) (show code 88 = some c88 from by kernel_rfl) (by simp) fun t hd ha => ?_
  have h0 := ha 0 _ rfl
  clear ha
  have hlt := get_lt h.ok.1 hc
  have w1 : wrapF .i64 ((l.length : Int) - 1) = ((l.length - 1 : Nat) : Int) := by rw [wrapF_small (by omega) (by omega)]; omega
  have lv := rowS_len hv h.ok.1
  have L := load_own (o := 0) hc rfl
  obtain ⟨a1, a2⟩ := rowS_at hv h.ok.1 (i := l.length - 1) (by omega)
  have hxl := okS_get hx (i := l.length - 1) (by omega)
  have hgl := hv.id_lt h.ok (by intro he; rw [List.map_eq_nil_iff] at he; subst he; simp at hl)
  -- the new block
  have s1 := h.push (k := .cells zS 0 true none) (fun _ _ _ _ he => by cases he)
  have g1 := get_push_self (k := .cells zS 0 true none) h.ok.1
  have f1 : Fr M (M.push (.cells zS 0 true none)) (fun _ => False) := Fr.push h.ok.1 _
  have hc1 := f1 pb _ hc (fun h => h)
  have hv1 := hv.frame f1 (fun h => h)
  have L1 := load_own (o := 0) hc1 rfl
  obtain ⟨_, b2⟩ := rowS_at hv1 s1.ok.1 (i := l.length - 1) (by omega)
  generalize l.getD (l.length - 1) dSl = xl at *
  obtain ⟨e2, s2, g2, k2⟩ := store_all (n := 11) (new := eS tk xl) s1 h.grow.n g1 rfl rfl (eS_one hxl)
  have f2 : Fr M ((M.push (.cells zS 0 true none)).set M.n (.cells (eS tk xl) 0 true none)) (· = M.n) := (f1.mono (fun _ h => h.elim)).trans (Fr.set g1)
  have hc2 := f2 pb _ hc (by show ¬ pb = M.n; omega)
  have hv2 := hv.frame f2 (by omega)
  have hvb : AV.beq v v = true := RowE.beq1 (hv.row h.ok.1)
  have hxb := eS_beq (tk := tk) hxl
  have q0 := held_none h.ok.1
  have q1 : isHeld ((M.push (.cells zS 0 true none)).get M.n) = false := by rw [g1]; rfl
  refine W_seq (W_seqR (by simp only [runSeq_cons, runSeq_nil, evalArgs_nil, evalArgs_const, val1, putT, opI_move]; rfl) ?_)
  refine W_seq (W_trace (M' := (M.push (.cells zS 0 true none)).set M.n (.cells (eS tk xl) 0 true none)) rfl (by simp only [sameN_self, evalArgs_nil, evalArgs_tmp, evalArgs_const, val1, putT, Tr.get_set_self, Tr.get_set_ne, hd _, ne_eq, Nat.reduceEqDiff, not_false_eq_true, decide_true, Nat.reduceLT, opI_move, opI_sub, opI_new, trace_nil, trace_read, trace_eff, addR_some, addE_some, Bool.false_and, Bool.and_true, Bool.not_false, h0, opI_nilP, L, lv, w1, a1, a2, e2, q0, q1]; rfl) (by simp [checkRec, isLoad, sameAt, L, L1, a2, b2, hvb, hxb]) rfl ?_)
  generalize (M.push (.cells zS 0 true none)).set M.n (.cells (eS tk xl) 0 true none) = M2 at *
  have L2 := load_own (o := 0) hc2 rfl
  have lv2 := rowS_len hv2 s2.ok.1
  obtain ⟨v', p1, p2⟩ := hv2.pop (by rw [List.length_map]; exact hl)
  rw [List.length_map] at p1 p2
  rw [← List.map_take] at p2
  obtain ⟨e3, s3, g3, k3⟩ := store1 (o := 0) (x := v') s2 hp hc2 p2.one (by simp)
  simp only [List.set_cons_zero] at e3 s3 g3 k3
  have hh := held_none s2.ok.1
  refine W_seq (W_mix rfl (by simp only [sameN_self, evalArgs_nil, evalArgs_tmp, evalArgs_const, val1, putT, Tr.get_set_self, Tr.get_set_ne, hd _, ne_eq, Nat.reduceEqDiff, not_false_eq_true, decide_true, Nat.reduceLT, opI_move, opI_sub, runMix_nil, runMix_read, runMix_eff, h0, opI_nilP, L2, lv2, w1, p1, e3, hh]; rfl) ?_)
  have fr3 : Fr M2 (M2.set pb (.cells [v'] 0 true none)) (· = pb) := Fr.set hc2
  have g4 := fr3 M.n _ g2 (by show ¬ M.n = pb; omega)
  have L4 := loads_own (o := 0) (n := 11) g4 (by simp [eS])
  have L4' : opI (.load true 11) [.ptr (some (M.n, 0))] (M2.set pb (.cells [v'] 0 true none)) = some (.val (.agg (eS tk xl)) (M2.set pb (.cells [v'] 0 true none))) := L4
  refine W_seq (W_seqR (by simp only [runSeq_cons, runSeq_nil, evalArgs_nil, evalArgs_tmp, val1, putT, Tr.get_set_self, Tr.get_set_ne, hd _, ne_eq, Nat.reduceEqDiff, not_false_eq_true, decide_true, Nat.reduceLT, opI_move, L4', opI_mkIface]; rfl) (W_ret ?_))
  refine ⟨_, fin_tmp (by simp only [Tr.get_set_self, Tr.get_set_ne, Option.isSome_some, hd _, ne_eq, Nat.reduceEqDiff, not_false_eq_true, decide_true, Nat.reduceLT]; try rfl), rfl, s3, ⟨v', g3, p2.frame fr3 (fun h => hpg h.symm)⟩, fun c k hck hid => ?_, ?_⟩
  · refine fr3 c k (f2 c k hck ?_) hid
    have := gid_le h.ok hck
    omega
  · show M.n ≤ M2.n
    have := get_lt s2.ok.1 g2
    omega
set_option maxRecDepth 20000 in
set_option maxHeartbeats 2000000 in
theorem pushS_ok (d : Nat) (h : Step M0 M) (hp : M0.n ≤ pb) (hpg : pb ≠ γ) (hc : M.get pb = some (.cells [v] 0 true none)) (hv : RowI M0 M 11 γ v (l.map (eS tk))) (hn : l.length ≤ 90000) {x : Sl} (hx : x.Ok) :
    Ans (callF tbl code 100000 (d + 1)) 89 [.ptr (some (pb, 0)), .iface 71 (.agg (eS tk x))] M fun _ M' => Step M0 M' ∧ ∃ γ', (γ' = γ ∨ M.n ≤ γ') ∧ (∃ v', M'.get pb = some (.cells [v'] 0 true none) ∧ RowI M0 M' 11 γ' v' ((l ++ [x]).map (eS tk))) ∧ Fr M M' (fun i => i = pb ∨ i = γ) ∧ M.n ≤ M'.n := by
  refine Ans_of (tbl_none (by decide) _) (show code 89 = some c89 from by kernel_rfl) (by simp) fun t hd ha => ?_
  have h0 := ha 0 _ rfl
  have h1 := ha 1 _ rfl
  clear ha
  have L := load_own (o := 0) hc rfl
  have hlt := get_lt h.ok.1 hc
  have hc1 : (M.push (.cells (eS tk x) 0 true none)).get pb = some (.cells [v] 0 true none) := by rw [get_push_old h.ok.1 hlt, hc]
  have L1 := load_own (o := 0) hc1 rfl
  obtain ⟨M2, v', γ', e1, e2, s2, r2, f2, g2, n2⟩ := hv.push (bytes := 120) (z := zS) (x := .agg (eS tk x)) h rfl (by rw [cells_agg]; rfl) (by omega) (by rw [cells_agg]; exact eS_one hx) (by simp; omega) (by simp; omega)
  have hpk : ¬ gid pb (.cells [v] 0 true none) = γ := hpg
  have hc2 := f2 pb _ hc hpk
  obtain ⟨e3, s3, g3, k3⟩ := store1 (o := 0) (x := v') s2 hp hc2 r2.one (by simp)
  simp only [List.set_cons_zero] at e3 s3 g3 k3
  have as1 : ∀ M : AMem, opI (.assertC 71 false (.agg zS)) [.iface 71 (.agg (eS tk x))] M = some (.val (.agg (eS tk x)) M) := fun _ => rfl
  rw [cells_agg] at e1 e2 r2
  have q0 := held_none h.ok.1
  have q1 : isHeld ((M.push (.cells (eS tk x) 0 true none)).get M.n) = false := by rw [get_push_self h.ok.1]; rfl
  have q2 := s2.nh M.n h.grow.n
  have hvb : AV.beq v v = true := RowE.beq1 (hv.row h.ok.1)
  refine W_trace (M' := M2.set pb (.cells [v'] 0 true none)) rfl (by simp only [sameN_self, evalArgs_nil, evalArgs_tmp, val1, putT, Tr.get_set_self, Tr.get_set_ne, hd _, ne_eq, Nat.reduceEqDiff, not_false_eq_true, decide_true, Nat.reduceLT, opI_move, trace_nil, trace_read, trace_eff, addR_some, addE_some, Bool.false_and, Bool.and_true, Bool.not_false, h0, h1, opI_nilP, L, as1, e1, e2, e3, q0, q1, q2]; rfl) (by simp [checkRec, isLoad, sameAt, L, L1, hvb]) rfl ?_
  have fr : Fr M2 (M2.set pb (.cells [v'] 0 true none)) (· = pb) := Fr.set hc2
  have hne : pb ≠ γ' := by
    rcases g2 with rfl | hge
    · exact hpg
    · omega
  refine ⟨[], rfl, s3, γ', g2, ⟨v', g3, ?_⟩, (f2.mono (fun i hi => .inr hi)).trans (fr.mono (fun i hi => .inl hi)), n2⟩
  have r3 := r2.frame fr (fun h => hne h.symm)
  rw [List.map_append]
  exact r3
end
end Go.Proofs.Ytoddncakdnmloaa.diary
