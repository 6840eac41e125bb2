/- Jobs that came in; the walks of Heavy, of both Rights, of SameInts. -/
import Derived.Test.YtmaldkpkodcggaaGrPlaces
namespace Go.Proofs.Ytmaldkpkodcggaa.grf
open Go Go.Vx

/-- a row that came in -/
def InRow (G : Addr → Option AV) (k : IntKind) (v : AV) (xs : List Int) : Prop := ∀ M : AMem, M.g = G → IRow M k v xs
structure Jb where
  task : Int
  kv : AV
  kids : List Int
def Jb.cells (j : Jb) : List AV := [.int .u64 j.task, j.kv]
def dJ : Jb := ⟨0, .nilFunc, []⟩
def jb (js : List Jb) (i : Nat) : Jb := js.getD i dJ
def kid (js : List Jb) (i q : Nat) : Int := (jb js i).kids.getD q 0
theorem jb_at {js : List Jb} {i : Nat} (h : i < js.length) : js[i] = jb js i := by
  unfold jb; rw [List.getD_eq_getElem?_getD, List.getElem?_eq_getElem h]; rfl
def JobsIn (G : Addr → Option AV) (v : AV) (js : List Jb) : Prop := (∀ M : AMem, M.g = G → RowE M 2 v (js.map Jb.cells)) ∧ ∀ j ∈ js, InRow G .i64 j.kv j.kids
structure JobsOk (G : Addr → Option AV) (v : AV) (js : List Jb) : Prop where
  jin : JobsIn G v js
  len : js.length ≤ 300
  kids : ∀ i, i < js.length → (jb js i).kids.length ≤ 20
section
variable {G : Addr → Option AV} {v : AV} {js : List Jb}
theorem JobsIn.row (h : JobsIn G v js) {i : Nat} (hi : i < js.length) : InRow G .i64 (jb js i).kv (jb js i).kids := by
  rw [← jb_at hi]; exact h.2 _ (List.getElem_mem hi)
theorem JobsIn.lenS (h : JobsIn G v js) (M : AMem) (hM : M.g = G) : opI .lenS [v] M = some (.val (.int .i64 js.length) M) := by
  have := (h.1 M hM).len
  rwa [List.length_map] at this
theorem JobsIn.at_ (h : JobsIn G v js) {i : Nat} (hi : i < js.length) (M : AMem) (hM : M.g = G) :
    ∃ p, IsP p ∧ opI (.indexAddrS 2) [v, .int .i64 i] M = some (.val (padd p 0) M) ∧ opI (.load true 2) [padd p 0] M = some (.val (.agg [.int .u64 (jb js i).task, (jb js i).kv]) M) ∧ opI (.load false 1) [padd p 0] M = some (.val (.int .u64 (jb js i).task) M) ∧ opI (.load false 1) [padd p 1] M = some (.val (jb js i).kv M) := by
  obtain ⟨p, pp, p1, p2, p3⟩ := (h.1 M hM).at_ (i := i) (by rw [List.length_map]; exact hi) (by omega)
  rw [List.getElem_map, jb_at hi] at p2 p3
  exact ⟨p, pp, p1, p2 0 2 (by omega), p3 0 _ rfl, p3 1 _ rfl⟩
theorem JobsIn.kidAt (h : JobsIn G v js) {i q : Nat} (hi : i < js.length) (hq : q < (jb js i).kids.length) (M : AMem) (hM : M.g = G) :
    ∃ p, IsP p ∧ opI (.indexAddrS 1) [(jb js i).kv, .int .i64 q] M = some (.val (padd p 0) M) ∧ opI (.load false 1) [padd p 0] M = some (.val (.int .i64 (kid js i q)) M) := by
  obtain ⟨p, pp, p1, p2⟩ := (h.row hi M hM).at_ hq
  refine ⟨p, pp, p1, ?_⟩
  rw [p2]
  unfold kid
  rw [List.getD_eq_getElem?_getD, List.getElem?_eq_getElem hq]
  rfl
theorem JobsIn.kidLen (h : JobsIn G v js) {i : Nat} (hi : i < js.length) (M : AMem) (hM : M.g = G) : opI .lenS [(jb js i).kv] M = some (.val (.int .i64 (jb js i).kids.length) M) := (h.row hi M hM).len
end
/-- jobs that may be -/
def RightP (js : List Jb) : Prop := js.length ≤ 200 ∧ ∀ i, i < js.length → (∀ k, k < i → (jb js k).task ≠ (jb js i).task) ∧ ∀ q, q < (jb js i).kids.length → 0 ≤ kid js i q ∧ kid js i q < js.length


set_option maxHeartbeats 1000000 in
theorem sameI_ok {k : IntKind} {u v : AV} {xs ys : List Int} (d : Nat) (M : AMem) (hu : IRow M k u xs) (hv : IRow M k v ys) (hn : xs.length < 90000) :
    callF tbl code 100000 (d + 1) 16 [u, v] M = some (.bool (decide (xs = ys)), M) := by
  refine Ans.eq ?_
  refine Ans_of (tbl_none (by decide) _) (show code 16 = some c16 from by kernel_rfl) (by simp) fun t hd ha => ?_
  have h0 := ha 0 u rfl
  have h1 := ha 1 v rfl
  have lu := hu.len
  have lv := hv.len
  clear ha
  refine W_seq (W_seqR (by simp only [runSeq_cons, runSeq_nil, evalArgs_nil, evalArgs_const, val1, putT, opI_move]; rfl) ?_)
  refine W_seq (W_seq (W_seqR (by simp only [runSeq_cons, runSeq_nil, evalArgs_nil, evalArgs_tmp, val1, putT, Tr.get_set_self, Tr.get_set_ne, hd _, ne_eq, Nat.reduceEqDiff, not_false_eq_true, decide_true, Nat.reduceLT, opI_move, opI_neq, h0, h1, lu, lv]; rfl) ?_))
  refine W_cond (by simp only [PArg.eval, Tr.get_set_self, Tr.get_set_ne, hd _, ne_eq, Nat.reduceEqDiff, not_false_eq_true, decide_true, Nat.reduceLT]; rfl) (fun hb => ?_) (fun hb => ?_)
  · refine W_seq (W_seqR (by simp only [runSeq_cons, runSeq_nil, evalArgs_nil, evalArgs_const, val1, putT, opI_move]; rfl) (W_ret ?_))
    refine ⟨_, fin_tmp (by simp only [Tr.get_set_self, Tr.get_set_ne, Option.isSome_some, hd _, ne_eq, Nat.reduceEqDiff, not_false_eq_true, decide_true, Nat.reduceLT]; rfl), rfl, ?_⟩
    have : xs ≠ ys := fun h => by subst h; simp at hb
    simp [resV, this]
  have hnm : xs.length = ys.length := by simp at hb; omega
  clear hb
  refine W_skip (W_seq (W_seq (W_seqR (by simp only [runSeq_cons, runSeq_nil, evalArgs_nil, evalArgs_const, val1, putT, opI_move]; rfl) (W_block (W_loop (fun k' t M' => ∃ i : Nat, k' + i = xs.length ∧ M' = M ∧ Dom t 26 ∧ t.get 0 = some u ∧ t.get 1 = some v ∧ t.get 5 = some (.int .i64 i) ∧ xs.take i = ys.take i) (k := xs.length) (by omega) ?_ ?_)))))
  · exact ⟨0, rfl, rfl, by ((repeat (with_reducible apply Dom.set)); exact hd), by simp only [Tr.get_set_ne, ne_eq, Nat.reduceEqDiff, not_false_eq_true, h0], by simp only [Tr.get_set_ne, ne_eq, Nat.reduceEqDiff, not_false_eq_true, h1], by simp only [Tr.get_set_self, Tr.get_set_ne, hd _, ne_eq, Nat.reduceEqDiff, not_false_eq_true, decide_true, Nat.reduceLT]; rfl, rfl⟩
  clear h0 h1 hd
  intro k' t' M' ⟨i, hk, hM, hd, h0, h1, h5, hj⟩
  subst hM
  refine W_seq (W_seq (W_seqR (by simp only [runSeq_cons, runSeq_nil, evalArgs_nil, evalArgs_tmp, val1, putT, Tr.get_set_self, Tr.get_set_ne, hd _, ne_eq, Nat.reduceEqDiff, not_false_eq_true, decide_true, Nat.reduceLT, opI_move, opI_lss, h0, h5, lu]; rfl) ?_))
  refine W_cond (by simp only [PArg.eval, Tr.get_set_self, Tr.get_set_ne, hd _, ne_eq, Nat.reduceEqDiff, not_false_eq_true, decide_true, Nat.reduceLT]; rfl) (fun hb => ?_) (fun hb => ?_)
  rotate_left
  · refine W_exit ?_
    have hin : i = xs.length := by simp at hb; omega
    show W _ _
    refine W_seq (W_seqR (by simp only [runSeq_cons, runSeq_nil, evalArgs_nil, evalArgs_const, val1, putT, opI_move]; rfl) (W_ret ?_))
    refine ⟨_, fin_tmp (by simp only [Tr.get_set_self, Tr.get_set_ne, hd _, ne_eq, Nat.reduceEqDiff, not_false_eq_true, decide_true, Nat.reduceLT]; rfl), rfl, ?_⟩
    have : xs = ys := by
      rw [hin, List.take_length, hnm, List.take_length] at hj; exact hj
    simp [resV, this]
  have hin : i < xs.length := by simpa using hb
  obtain ⟨p, _, e1, e2⟩ := hu.at_ hin
  obtain ⟨q, _, e3, e4⟩ := hv.at_ (i := i) (by omega)
  refine W_skip (W_seq (W_block (W_seq (W_quiet rfl (by simp only [runPure_cons, runPure_nil, ofD_cons, ofD_nil, sameN_self, evalArgs_nil, evalArgs_tmp, putT, Tr.get_set_self, Tr.get_set_ne, hd _, ne_eq, Nat.reduceEqDiff, not_false_eq_true, decide_true, Nat.reduceLT, opI_move, opI_neq, h0, h1, h5, e1, e2, e3, e4]; rfl) ?_))))
  refine W_cond (by simp only [PArg.eval, Tr.get_set_self, Tr.get_set_ne, hd _, ne_eq, Nat.reduceEqDiff, not_false_eq_true, decide_true, Nat.reduceLT]; rfl) (fun hb => ?_) (fun hb => ?_)
  · refine W_seq (W_seqR (by simp only [runSeq_cons, runSeq_nil, evalArgs_nil, evalArgs_const, val1, putT, opI_move]; rfl) (W_ret ?_))
    refine ⟨_, fin_tmp (by simp only [Tr.get_set_self, Tr.get_set_ne, hd _, ne_eq, Nat.reduceEqDiff, not_false_eq_true, decide_true, Nat.reduceLT]; rfl), rfl, ?_⟩
    have h : xs[i] ≠ ys[i] := by simpa using hb
    have : xs ≠ ys := fun he => h (by subst he; rfl)
    simp [resV, this]
  have hfg : xs[i] = ys[i] := by simpa using hb
  refine W_skip (W_seqR (by simp only [runSeq_cons, runSeq_nil, evalArgs_nil, evalArgs_tmp, evalArgs_const, val1, putT, Tr.get_set_self, Tr.get_set_ne, hd _, ne_eq, Nat.reduceEqDiff, not_false_eq_true, decide_true, Nat.reduceLT, opI_move, opI_add, h5]; rfl) ?_)
  refine ⟨k' - 1, by omega, i + 1, by omega, rfl, by ((repeat (with_reducible apply Dom.set)); exact hd), by simp only [Tr.get_set_ne, ne_eq, Nat.reduceEqDiff, not_false_eq_true, h0], by simp only [Tr.get_set_ne, ne_eq, Nat.reduceEqDiff, not_false_eq_true, h1], ?_, ?_⟩
  · simp only [Tr.get_set_self, Tr.get_set_ne, hd _, ne_eq, Nat.reduceEqDiff, not_false_eq_true, decide_true, Nat.reduceLT]
    rw [wrapF_small (by omega) (by omega)]; rfl
  · rw [List.take_succ_eq_append_getElem hin, List.take_succ_eq_append_getElem (by omega), hj, hfg]

set_option maxHeartbeats 1000000 in

set_option maxRecDepth 20000 in
set_option maxHeartbeats 2000000 in
theorem heavy_ok {v : AV} {js : List Jb} {most : Nat} (d : Nat) (M0 : AMem) (hv : JobsIn M0.g v js) :
    Ans (callF tbl code 100000 (d + 1)) 6 [v, .int .i64 most] M0 fun r M' => M' = M0 ∧ ∃ b, r = .bool b ∧ (b = false → (js.length ≤ most ∨ 200 < js.length) ∧ JobsOk M0.g v js) := by
  refine Ans_of (tbl_none (by decide) _) (show code 6 = some c6 from by kernel_rfl) (by simp) fun t hd ha => ?_
  have h0 := ha 0 _ rfl
  have h1 := ha 1 _ rfl
  clear ha
  have lv := hv.lenS M0 rfl
  refine W_seq (W_seqR (by simp only [runSeq_cons, runSeq_nil, evalArgs_nil, evalArgs_const, val1, putT, opI_move]; rfl) ?_)
  have yes : ∀ (Q : PEx → Tr AV → AMem → Prop) (t : Tr AV) (M : AMem), Dom t 33 → (∀ t' : Tr AV, t'.get 4 = some (.bool true) → Q .ret t' M) → W (exec (callF tbl code 100000 d) 100000 (.seq (.seqR [⟨.move, [.const (.bool true)], (some 4), none⟩]) .ret) t M) Q := fun Q t M hd hq => by
    refine W_seq (W_seqR (by simp only [runSeq_cons, runSeq_nil, evalArgs_nil, evalArgs_const, val1, putT, opI_move]; rfl) (W_ret ?_))
    exact hq _ (by simp only [Tr.get_set_self, hd _, decide_true, Nat.reduceLT])
  by_cases c1 : js.length > most ∧ js.length ≤ 200
  · have e1 : decide ((js.length : Int) > (most : Int)) = true := decide_eq_true (by omega)
    have e2 : decide ((js.length : Int) ≤ 200) = true := decide_eq_true (by omega)
    refine W_seq (W_seq (W_seqR (by simp only [runSeq_cons, runSeq_nil, evalArgs_nil, evalArgs_tmp, evalArgs_const, val1, putT, Tr.get_set_self, Tr.get_set_ne, Tr.isSome_set, hd _, ne_eq, Nat.reduceEqDiff, not_false_eq_true, decide_true, Nat.reduceLT, opI_move, opI_leq, opI_gtr, opI_pick, runSeq_guard (b := true), beq_self_eq_true, Bool.true_beq, h0, h1, lv, e1, e2]; rfl) ?_))
    refine W_cond (b := true) (by simp only [PArg.eval, Tr.get_set_self, Tr.get_set_ne, hd _, ne_eq, Nat.reduceEqDiff, not_false_eq_true, decide_true, Nat.reduceLT]; try rfl) (fun _ => by refine yes _ _ _ ?_ (fun t' h => ⟨_, fin_tmp h, rfl, true, rfl, fun h => by cases h⟩); ((repeat (with_reducible apply Dom.set)); exact hd)) (fun hb => by cases hb)
  by_cases c2 : js.length > 300
  · have e2 : decide ((js.length : Int) ≤ 200) = false := decide_eq_false (by omega)
    have e3 : decide ((js.length : Int) > 300) = true := decide_eq_true (by omega)
    by_cases c3 : js.length > most
    · have e1 : decide ((js.length : Int) > (most : Int)) = true := decide_eq_true (by omega)
      refine W_seq (W_seq (W_seqR (by simp only [runSeq_cons, runSeq_nil, evalArgs_nil, evalArgs_tmp, evalArgs_const, val1, putT, Tr.get_set_self, Tr.get_set_ne, Tr.isSome_set, hd _, ne_eq, Nat.reduceEqDiff, not_false_eq_true, decide_true, Nat.reduceLT, opI_move, opI_leq, opI_gtr, opI_pick, runSeq_guard (b := true), runSeq_guard (b := false), beq_self_eq_true, h0, h1, lv, e1, e2, e3]; rfl) ?_))
      refine W_cond (b := true) (by simp only [PArg.eval, Tr.get_set_self, Tr.get_set_ne, hd _, ne_eq, Nat.reduceEqDiff, not_false_eq_true, decide_true, Nat.reduceLT]; try rfl) (fun _ => by refine yes _ _ _ ?_ (fun t' h => ⟨_, fin_tmp h, rfl, true, rfl, fun h => by cases h⟩); ((repeat (with_reducible apply Dom.set)); exact hd)) (fun hb => by cases hb)
    · have e1 : decide ((js.length : Int) > (most : Int)) = false := decide_eq_false (by omega)
      refine W_seq (W_seq (W_seqR (by simp only [runSeq_cons, runSeq_nil, evalArgs_nil, evalArgs_tmp, evalArgs_const, val1, putT, Tr.get_set_self, Tr.get_set_ne, Tr.isSome_set, hd _, ne_eq, Nat.reduceEqDiff, not_false_eq_true, decide_true, Nat.reduceLT, opI_move, opI_gtr, opI_pick, runSeq_guard (b := false), beq_self_eq_true, Bool.false_beq, Bool.not_true, h0, h1, lv, e1, e3]; rfl) ?_))
      refine W_cond (b := true) (by simp only [PArg.eval, Tr.get_set_self, Tr.get_set_ne, hd _, ne_eq, Nat.reduceEqDiff, not_false_eq_true, decide_true, Nat.reduceLT]; try rfl) (fun _ => by refine yes _ _ _ ?_ (fun t' h => ⟨_, fin_tmp h, rfl, true, rfl, fun h => by cases h⟩); ((repeat (with_reducible apply Dom.set)); exact hd)) (fun hb => by cases hb)
  have e3 : decide ((js.length : Int) > 300) = false := decide_eq_false (by omega)
  refine W_seq (W.mono (Q := fun x t' M' => x = .normal ∧ M' = M0 ∧ Dom t' 33 ∧ t'.get 0 = some v) ?_ ?_)
  · by_cases c3 : js.length > most
    · have e1 : decide ((js.length : Int) > (most : Int)) = true := decide_eq_true (by omega)
      have e2 : decide ((js.length : Int) ≤ 200) = false := decide_eq_false (by omega)
      refine W_seq (W_seqR (by simp only [runSeq_cons, runSeq_nil, evalArgs_nil, evalArgs_tmp, evalArgs_const, val1, putT, Tr.get_set_self, Tr.get_set_ne, Tr.isSome_set, hd _, ne_eq, Nat.reduceEqDiff, not_false_eq_true, decide_true, Nat.reduceLT, opI_move, opI_leq, opI_gtr, opI_pick, runSeq_guard (b := true), runSeq_guard (b := false), beq_self_eq_true, h0, h1, lv, e1, e2, e3]; rfl) ?_)
      exact W_cond (b := false) (by simp only [PArg.eval, Tr.get_set_self, Tr.get_set_ne, hd _, ne_eq, Nat.reduceEqDiff, not_false_eq_true, decide_true, Nat.reduceLT]; try rfl) (fun hb => by cases hb) (fun _ => W_skip ⟨rfl, rfl, by ((repeat (with_reducible apply Dom.set)); exact hd), by simp only [Tr.get_set_ne, ne_eq, Nat.reduceEqDiff, not_false_eq_true, h0]⟩)
    · have e1 : decide ((js.length : Int) > (most : Int)) = false := decide_eq_false (by omega)
      refine W_seq (W_seqR (by simp only [runSeq_cons, runSeq_nil, evalArgs_nil, evalArgs_tmp, evalArgs_const, val1, putT, Tr.get_set_self, Tr.get_set_ne, Tr.isSome_set, hd _, ne_eq, Nat.reduceEqDiff, not_false_eq_true, decide_true, Nat.reduceLT, opI_move, opI_gtr, opI_pick, runSeq_guard (b := false), beq_self_eq_true, Bool.false_beq, Bool.not_true, h0, h1, lv, e1, e3]; rfl) ?_)
      exact W_cond (b := false) (by simp only [PArg.eval, Tr.get_set_self, Tr.get_set_ne, hd _, ne_eq, Nat.reduceEqDiff, not_false_eq_true, decide_true, Nat.reduceLT]; try rfl) (fun hb => by cases hb) (fun _ => W_skip ⟨rfl, rfl, by ((repeat (with_reducible apply Dom.set)); exact hd), by simp only [Tr.get_set_ne, ne_eq, Nat.reduceEqDiff, not_false_eq_true, h0]⟩)
  clear hd h0 h1
  rintro x t M ⟨rfl, rfl, hd, h0⟩
  show W _ _
  refine W_seq (W_seq (W_seqR (by simp only [runSeq_cons, runSeq_nil, evalArgs_nil, evalArgs_const, val1, putT, opI_move]; rfl) (W_block (W_loop (fun k t M' => ∃ (i : Nat), k + i = js.length ∧ M' = M ∧ (∀ j, j < i → (jb js j).kids.length ≤ 20) ∧ Dom t 33 ∧ t.get 0 = some v ∧ t.get 5 = some (.int .i64 i)) (k := js.length) (by omega) ?_ ?_))))
  · exact ⟨0, rfl, rfl, fun j hj => by omega, by ((repeat (with_reducible apply Dom.set)); exact hd), by simp only [Tr.get_set_ne, ne_eq, Nat.reduceEqDiff, not_false_eq_true, h0], by simp only [Tr.get_set_self, hd _, decide_true, Nat.reduceLT]; rfl⟩
  clear h0 hd
  intro k t M' ⟨i, hk, hM, hbd, hd, h0, h5⟩
  subst hM
  refine W_seq (W_seq (W_seqR (by simp only [runSeq_cons, runSeq_nil, evalArgs_nil, evalArgs_tmp, val1, putT, Tr.get_set_self, Tr.get_set_ne, hd _, ne_eq, Nat.reduceEqDiff, not_false_eq_true, decide_true, Nat.reduceLT, opI_move, opI_lss, h0, h5, lv]; rfl) ?_))
  refine W_cond (by simp only [PArg.eval, Tr.get_set_self, Tr.get_set_ne, hd _, ne_eq, Nat.reduceEqDiff, not_false_eq_true, decide_true, Nat.reduceLT]; rfl) (fun hb => W_skip ?_) (fun hb => ?_)
  · have hin : i < js.length := by simpa using hb
    obtain ⟨p, pp, p1, _, _, p2⟩ := hv.at_ hin M' rfl
    have l1 := hv.kidLen hin M' rfl
    by_cases c4 : (jb js i).kids.length > 20
    · have e4 : decide (((jb js i).kids.length : Int) > 20) = true := decide_eq_true (by omega)
      refine W_seq (W_block (W_seq (W_seqR (by simp only [runSeq_cons, runSeq_nil, evalArgs_nil, evalArgs_tmp, evalArgs_const, val1, putT, Tr.get_set_self, Tr.get_set_ne, hd _, ne_eq, Nat.reduceEqDiff, not_false_eq_true, decide_true, Nat.reduceLT, opI_move, opI_gtr, Nat.zero_add, h0, h5, p1, opI_fieldQ pp, p2, l1]; rfl) ?_)))
      exact W_cond (b := true) (by simp only [PArg.eval, Tr.get_set_self, Tr.get_set_ne, hd _, ne_eq, Nat.reduceEqDiff, not_false_eq_true, decide_true, Nat.reduceLT, e4]) (fun _ => by refine yes _ _ _ ?_ (fun t' h => ⟨_, fin_tmp h, rfl, true, rfl, fun h => by cases h⟩); ((repeat (with_reducible apply Dom.set)); exact hd)) (fun hb => by cases hb)
    · have e4 : decide (((jb js i).kids.length : Int) > 20) = false := decide_eq_false (by omega)
      refine W_seq (W_block (W_seq (W_seqR (by simp only [runSeq_cons, runSeq_nil, evalArgs_nil, evalArgs_tmp, evalArgs_const, val1, putT, Tr.get_set_self, Tr.get_set_ne, hd _, ne_eq, Nat.reduceEqDiff, not_false_eq_true, decide_true, Nat.reduceLT, opI_move, opI_gtr, Nat.zero_add, h0, h5, p1, opI_fieldQ pp, p2, l1]; rfl) ?_)))
      refine W_cond (b := false) (by simp only [PArg.eval, Tr.get_set_self, Tr.get_set_ne, hd _, ne_eq, Nat.reduceEqDiff, not_false_eq_true, decide_true, Nat.reduceLT, e4]) (fun hb => by cases hb) (fun _ => W_skip ?_)
      show W _ _
      refine W_seqR (by simp only [runSeq_cons, runSeq_nil, evalArgs_nil, evalArgs_tmp, evalArgs_const, val1, putT, Tr.get_set_self, Tr.get_set_ne, hd _, ne_eq, Nat.reduceEqDiff, not_false_eq_true, decide_true, Nat.reduceLT, opI_move, opI_add, h5]; rfl) ?_
      refine ⟨k - 1, by omega, i + 1, by omega, rfl, fun j hj => ?_, by ((repeat (with_reducible apply Dom.set)); exact hd), by simp only [Tr.get_set_ne, ne_eq, Nat.reduceEqDiff, not_false_eq_true, h0], ?_⟩
      · rcases Nat.lt_or_ge j i with h | h
        · exact hbd j h
        · rw [show j = i by omega]; omega
      · simp only [Tr.get_set_self, Tr.get_set_ne, hd _, ne_eq, Nat.reduceEqDiff, not_false_eq_true, decide_true, Nat.reduceLT]
        rw [wrapF_small (by omega) (by omega)]; rfl
  refine W_exit ?_
  have hi : i = js.length := by simp at hb; omega
  subst hi
  show W _ _
  refine W_seq (W_seqR (by simp only [runSeq_cons, runSeq_nil, evalArgs_nil, evalArgs_const, val1, putT, opI_move]; rfl) (W_ret ?_))
  exact ⟨_, fin_tmp (by simp only [Tr.get_set_self, Tr.get_set_ne, hd _, ne_eq, Nat.reduceEqDiff, not_false_eq_true, decide_true, Nat.reduceLT]; try rfl), rfl, false, rfl, fun _ => ⟨by omega, hv, by omega, hbd⟩⟩

end Go.Proofs.Ytmaldkpkodcggaa.grf
