/- The law StackOnce, walked. -/
import Derived.Test.YtldijnabgabehaaSoRun2
namespace Go.Proofs.Ytldijnabgabehaa.so
open Go Go.Vx
theorem pops_add (ds : List Deed) (d : Deed) : pops (ds ++ [d]) = pops ds ++ (if d.put = false ∧ d.code = 0 then [d.v] else []) := by
  unfold pops
  rw [List.filter_append, List.map_append]
  congr 1
  simp only [List.filter_cons, List.filter_nil]
  cases hp : d.put <;> by_cases hc : d.code = 0 <;> simp [hc]
theorem pops_append (a b : List Deed) : pops (a ++ b) = pops a ++ pops b := by simp [pops]
theorem oks_append (a b : List Deed) : oks (a ++ b) = oks a ++ oks b := by simp [oks]
theorem oks_add (ds : List Deed) (d : Deed) : oks (ds ++ [d]) = oks ds ++ (if d.put = true ∧ d.code = 0 then [d.v] else []) := by
  unfold oks
  rw [List.filter_append, List.map_append]
  congr 1
  simp only [List.filter_cons, List.filter_nil]
  cases hp : d.put <;> by_cases hc : d.code = 0 <;> simp [hc]
def ones (l : List Nat) : List (Int × AV) := l.map fun (y : Nat) => ((y : Int), AV.int .i64 1)
theorem ones_add (l : List Nat) (x : Nat) : ones l ++ [((x : Int), AV.int .i64 1)] = ones (l ++ [x]) := by simp [ones]
theorem asg_ones {l : List Nat} {x : Nat} : asg (x : Int) (ones l) = if x ∈ l then some (.int .i64 1) else none := asg_keys
theorem ents_len {k : IntKind} {es : List (Int × AV)} : (ents k es).length = es.length := by simp [ents]
set_option maxRecDepth 20000 in
set_option maxHeartbeats 16000000 in
theorem stackOnce_ok (d : Nat) {M : AMem} (hok : Okg M) (hh : NH M) (workers n : Int) {picks : List Nat} (hp256 : ∀ i, picks.getD i 0 < 256) {pv : AV} (hpv : RdI M.g .u8 pv picks.length (fun i => (picks.getD i 0 : Nat))) :
    Ans (callF tblS code 100000 (d + 6)) 3 [.int .i64 workers, .int .i64 n, pv] M fun r _ => r = .bool true := by
  refine Ans_of (tblS_none ⟨by decide, by decide⟩ _) (show code 3 = some c3 from by kernel_rfl) (by simp) fun t hd ha => ?_
  have h0 := ha 0 _ rfl
  have h1 := ha 1 _ rfl
  have h2 := ha 2 _ rfl
  clear ha
  refine W_seq (W_seqR (by simp only [runSeq_cons, runSeq_nil, evalArgs_nil, evalArgs_const, val1, putT, opI_move]; rfl) ?_)
  have aw := awakeS (d + 4) M
  refine W_seq (W_seq (W_seqR (by simp only [runSeq_cons, runSeq_nil, evalArgs_nil, evalArgs_tmp, val1, putT, Tr.get_set_self, Tr.get_set_ne, hd _, ne_eq, Nat.reduceEqDiff, not_false_eq_true, decide_true, Nat.reduceLT, opI_not, opI_callF, aw, Bool.not_true]; rfl) ?_))
  refine W_cond (b := false) (by simp only [PArg.eval, Tr.get_set_self, Tr.get_set_ne, hd _, ne_eq, Nat.reduceEqDiff, not_false_eq_true, decide_true, Nat.reduceLT]; try rfl) (fun hb => by cases hb) (fun _ => W_skip ?_)
  show W _ _
  have lv := hpv.len M
  by_cases c1 : workers < 1
  · have q1 : decide (workers < 1) = true := decide_eq_true c1
    refine W_seq (W_seq (W_seqR (by simp only [runSeq_cons, runSeq_nil, evalArgs_nil, evalArgs_tmp, evalArgs_const, val1, putT, Tr.get_set_self, Tr.get_set_ne, Tr.isSome_set, hd _, ne_eq, Nat.reduceEqDiff, not_false_eq_true, decide_true, Nat.reduceLT, opI_move, opI_lss, opI_pick, runSeq_guard (b := true), Bool.true_beq, h0, q1]; rfl) ?_))
    refine W_cond (b := true) (by simp only [PArg.eval, Tr.get_set_self, Tr.get_set_ne, hd _, ne_eq, Nat.reduceEqDiff, not_false_eq_true, decide_true, Nat.reduceLT]; try rfl) (fun _ => ?_) (fun hb => by cases hb)
    refine W_seq (W_seqR (by simp only [runSeq_cons, runSeq_nil, evalArgs_nil, evalArgs_const, val1, putT, opI_move]; rfl) (W_ret ?_))
    exact ⟨_, fin_tmp (by simp only [Tr.get_set_self, Tr.get_set_ne, Option.isSome_some, hd _, ne_eq, Nat.reduceEqDiff, not_false_eq_true, decide_true, Nat.reduceLT]; try rfl), rfl⟩
  have q1 : decide (workers < 1) = false := decide_eq_false c1
  by_cases c2 : workers > 4
  · have q2 : decide (workers > 4) = true := decide_eq_true c2
    refine W_seq (W_seq (W_seqR (by simp only [runSeq_cons, runSeq_nil, evalArgs_nil, evalArgs_tmp, evalArgs_const, val1, putT, Tr.get_set_self, Tr.get_set_ne, Tr.isSome_set, hd _, ne_eq, Nat.reduceEqDiff, not_false_eq_true, decide_true, Nat.reduceLT, opI_move, opI_lss, opI_gtr, opI_pick, runSeq_guard (b := true), runSeq_guard (b := false), beq_self_eq_true, Bool.true_beq, h0, q1, q2]; rfl) ?_))
    refine W_cond (b := true) (by simp only [PArg.eval, Tr.get_set_self, Tr.get_set_ne, hd _, ne_eq, Nat.reduceEqDiff, not_false_eq_true, decide_true, Nat.reduceLT]; try rfl) (fun _ => ?_) (fun hb => by cases hb)
    refine W_seq (W_seqR (by simp only [runSeq_cons, runSeq_nil, evalArgs_nil, evalArgs_const, val1, putT, opI_move]; rfl) (W_ret ?_))
    exact ⟨_, fin_tmp (by simp only [Tr.get_set_self, Tr.get_set_ne, Option.isSome_some, hd _, ne_eq, Nat.reduceEqDiff, not_false_eq_true, decide_true, Nat.reduceLT]; try rfl), rfl⟩
  have q2 : decide (workers > 4) = false := decide_eq_false c2
  by_cases c3 : n < 1
  · have q3 : decide (n < 1) = true := decide_eq_true c3
    refine W_seq (W_seq (W_seqR (by simp only [runSeq_cons, runSeq_nil, evalArgs_nil, evalArgs_tmp, evalArgs_const, val1, putT, Tr.get_set_self, Tr.get_set_ne, Tr.isSome_set, hd _, ne_eq, Nat.reduceEqDiff, not_false_eq_true, decide_true, Nat.reduceLT, opI_move, opI_lss, opI_gtr, opI_pick, runSeq_guard (b := true), runSeq_guard (b := false), beq_self_eq_true, Bool.true_beq, h0, h1, q1, q2, q3]; rfl) ?_))
    refine W_cond (b := true) (by simp only [PArg.eval, Tr.get_set_self, Tr.get_set_ne, hd _, ne_eq, Nat.reduceEqDiff, not_false_eq_true, decide_true, Nat.reduceLT]; try rfl) (fun _ => ?_) (fun hb => by cases hb)
    refine W_seq (W_seqR (by simp only [runSeq_cons, runSeq_nil, evalArgs_nil, evalArgs_const, val1, putT, opI_move]; rfl) (W_ret ?_))
    exact ⟨_, fin_tmp (by simp only [Tr.get_set_self, Tr.get_set_ne, Option.isSome_some, hd _, ne_eq, Nat.reduceEqDiff, not_false_eq_true, decide_true, Nat.reduceLT]; try rfl), rfl⟩
  have q3 : decide (n < 1) = false := decide_eq_false c3
  by_cases c4 : n > 12
  · have q4 : decide (n > 12) = true := decide_eq_true c4
    refine W_seq (W_seq (W_seqR (by simp only [runSeq_cons, runSeq_nil, evalArgs_nil, evalArgs_tmp, evalArgs_const, val1, putT, Tr.get_set_self, Tr.get_set_ne, Tr.isSome_set, hd _, ne_eq, Nat.reduceEqDiff, not_false_eq_true, decide_true, Nat.reduceLT, opI_move, opI_lss, opI_gtr, opI_pick, runSeq_guard (b := true), runSeq_guard (b := false), beq_self_eq_true, Bool.true_beq, h0, h1, q1, q2, q3, q4]; rfl) ?_))
    refine W_cond (b := true) (by simp only [PArg.eval, Tr.get_set_self, Tr.get_set_ne, hd _, ne_eq, Nat.reduceEqDiff, not_false_eq_true, decide_true, Nat.reduceLT]; try rfl) (fun _ => ?_) (fun hb => by cases hb)
    refine W_seq (W_seqR (by simp only [runSeq_cons, runSeq_nil, evalArgs_nil, evalArgs_const, val1, putT, opI_move]; rfl) (W_ret ?_))
    exact ⟨_, fin_tmp (by simp only [Tr.get_set_self, Tr.get_set_ne, Option.isSome_some, hd _, ne_eq, Nat.reduceEqDiff, not_false_eq_true, decide_true, Nat.reduceLT]; try rfl), rfl⟩
  have q4 : decide (n > 12) = false := decide_eq_false c4
  by_cases c5 : picks.length > 400
  · have q5 : decide ((picks.length : Int) > 400) = true := decide_eq_true (by omega)
    refine W_seq (W_seq (W_seqR (by simp only [runSeq_cons, runSeq_nil, evalArgs_nil, evalArgs_tmp, evalArgs_const, val1, putT, Tr.get_set_self, Tr.get_set_ne, Tr.isSome_set, hd _, ne_eq, Nat.reduceEqDiff, not_false_eq_true, decide_true, Nat.reduceLT, opI_move, opI_lss, opI_gtr, opI_pick, runSeq_guard (b := false), beq_self_eq_true, h0, h1, h2, lv, q1, q2, q3, q4, q5]; rfl) ?_))
    refine W_cond (b := true) (by simp only [PArg.eval, Tr.get_set_self, Tr.get_set_ne, hd _, ne_eq, Nat.reduceEqDiff, not_false_eq_true, decide_true, Nat.reduceLT]; try rfl) (fun _ => ?_) (fun hb => by cases hb)
    refine W_seq (W_seqR (by simp only [runSeq_cons, runSeq_nil, evalArgs_nil, evalArgs_const, val1, putT, opI_move]; rfl) (W_ret ?_))
    exact ⟨_, fin_tmp (by simp only [Tr.get_set_self, Tr.get_set_ne, Option.isSome_some, hd _, ne_eq, Nat.reduceEqDiff, not_false_eq_true, decide_true, Nat.reduceLT]; try rfl), rfl⟩
  have q5 : decide ((picks.length : Int) > 400) = false := decide_eq_false (by omega)
  refine W_seq (W_seq (W_seqR (by simp only [runSeq_cons, runSeq_nil, evalArgs_nil, evalArgs_tmp, evalArgs_const, val1, putT, Tr.get_set_self, Tr.get_set_ne, Tr.isSome_set, hd _, ne_eq, Nat.reduceEqDiff, not_false_eq_true, decide_true, Nat.reduceLT, opI_move, opI_lss, opI_gtr, opI_pick, runSeq_guard (b := false), beq_self_eq_true, h0, h1, h2, lv, q1, q2, q3, q4, q5]; rfl) ?_))
  refine W_cond (b := false) (by simp only [PArg.eval, Tr.get_set_self, Tr.get_set_ne, hd _, ne_eq, Nat.reduceEqDiff, not_false_eq_true, decide_true, Nat.reduceLT]; try rfl) (fun hb => by cases hb) (fun _ => W_skip ?_)
  show W _ _
  obtain ⟨w, rfl⟩ : ∃ w : Nat, workers = w := ⟨workers.toNat, by omega⟩
  obtain ⟨n, rfl⟩ : ∃ m : Nat, n = m := ⟨n.toNat, by omega⟩
  -- the stack
  have bld : opI (.build [.int .i64 0, .int .i64 0] [(1, 1)]) [.int .i64 n] M = some (.val (.agg [.int .i64 0, .int .i64 n]) M) := rfl
  obtain ⟨M1, st1, e1, g1, n1⟩ := fill_new (z := [.int .i64 0, .int .i64 0]) (new := [.int .i64 0, .int .i64 n]) (n := 2) hok hh rfl rfl rfl
  refine W_seq (W_seqR (by simp only [runSeq_cons, runSeq_nil, evalArgs_nil, evalArgs_tmp, val1, putT, Tr.get_set_self, Tr.get_set_ne, hd _, ne_eq, Nat.reduceEqDiff, not_false_eq_true, decide_true, Nat.reduceLT, opI_move, opI_new, h1, bld, st1]; rfl) ?_)
  have w1 : wrapF .i64 (3 * (n : Int)) = 3 * n := wi (by omega) (by omega)
  have w2 : wrapF .i64 (3 * (n : Int) + 2) = ((3 * n + 2 : Nat) : Int) := by rw [wi (by omega) (by omega)]; omega
  obtain ⟨r2, M2, c2', ⟨bm, bc, rfl, hbm, hbc, hbm', hbc', e2, cm2⟩⟩ := new_ok (d + 4) (k := 3 * n + 2) (by omega) (by omega) e1.ok e1.nh
  refine W_seq (W_seqR (by simp only [runSeq_cons, runSeq_nil, evalArgs_nil, evalArgs_tmp, evalArgs_const, val1, putT, Tr.get_set_self, Tr.get_set_ne, hd _, ne_eq, Nat.reduceEqDiff, not_false_eq_true, decide_true, Nat.reduceLT, opI_move, opI_add, opI_extract, opI_callF, h1, opI_mul, w1, w2, c2', List.getElem?_cons_zero, List.getElem?_cons_succ]; rfl) ?_)
  have g2 : M2.get M.n = _ := (e2.same _ n1 (fun h => h)).trans g1
  have LA2 := load_agg (n := 2) g2 rfl
  obtain ⟨r3, M3, c3', rfl, e3, cm3⟩ := pinit_ok (d + 1) (show 1 ≤ n by omega) (show n ≤ 4096 by omega) e2.ok e2.nh cm2
  refine W_seq (W_seq (W_seqR (by simp only [runSeq_cons, runSeq_nil, evalArgs_nil, evalArgs_tmp, evalArgs_const, val1, putT, Tr.get_set_self, Tr.get_set_ne, hd _, ne_eq, Nat.reduceEqDiff, not_false_eq_true, decide_true, Nat.reduceLT, opI_move, opI_neq, opI_callF, LA2, c3', b00]; rfl) ?_))
  refine W_cond (b := false) (by simp only [PArg.eval, Tr.get_set_self, Tr.get_set_ne, hd _, ne_eq, Nat.reduceEqDiff, not_false_eq_true, decide_true, Nat.reduceLT]; try rfl) (fun hb => by cases hb) (fun _ => W_skip ?_)
  show W _ _
  have g3 : M3.get M.n = _ := (e3.same _ (get_lt e2.ok.1 g2) (by omega)).trans g2
  have LA3 := load_agg (n := 2) g3 rfl
  have hg3 : M3.g = M.g := by rw [e3.g, e2.g, e1.g]
  obtain ⟨r4, M4, c4', ⟨dv, rfl, e4, cm4, row4, hdv, hPL, hnone⟩⟩ := play_ok2 (d + 0) (show 1 ≤ n by omega) (show n ≤ 4096 by omega) (show 1 ≤ w by omega) (show w ≤ 4 by omega) e3.ok e3.nh cm3 (show picks.length ≤ 400 by omega) hp256 (pv := pv) (by rw [hg3]; exact hpv)
  obtain ⟨s, hs⟩ : ∃ s, play picks n w 1000 = s := ⟨_, rfl⟩
  rw [hs] at cm4 row4 hPL hnone
  refine W_seq (W_seqR (by simp only [runSeq_cons, runSeq_nil, evalArgs_nil, evalArgs_tmp, evalArgs_const, val1, putT, Tr.get_set_self, Tr.get_set_ne, hd _, ne_eq, Nat.reduceEqDiff, not_false_eq_true, decide_true, Nat.reduceLT, opI_move, opI_extract, opI_callF, h0, h2, LA3, c4', List.getElem?_cons_zero, List.getElem?_cons_succ]; rfl) ?_)
  have b1t : opI .not [.bool true] M4 = some (.val (.bool false) M4) := rfl
  refine W_seq (W_seq (W_seqR (by simp only [runSeq_cons, runSeq_nil, evalArgs_nil, evalArgs_tmp, val1, putT, Tr.get_set_self, Tr.get_set_ne, hd _, ne_eq, Nat.reduceEqDiff, not_false_eq_true, decide_true, Nat.reduceLT, opI_move, b1t]; rfl) ?_))
  refine W_cond (b := false) (by simp only [PArg.eval, Tr.get_set_self, Tr.get_set_ne, hd _, ne_eq, Nat.reduceEqDiff, not_false_eq_true, decide_true, Nat.reduceLT]; try rfl) (fun hb => by cases hb) (fun _ => W_skip ?_)
  show W _ _
  obtain ⟨F, S, chF, chS, hperm, hend, hcnt⟩ := final hPL.pi hnone
  have hnd : (F ++ S).Nodup := hperm.nodup_iff.2 List.nodup_range'
  have hinFS : ∀ x ∈ F ++ S, 1 ≤ x ∧ x ≤ n := fun x hx => by
    have := (hperm.mem_iff).1 hx
    rw [List.mem_range'_1] at this; omega
  have hlenFS : F.length + S.length = n := by
    have := hperm.length_eq
    simpa using this
  obtain ⟨hZp, hZn⟩ := out_perm hPL.pi hend hcnt
  have hcodes := codes hPL.pi hend
  have g4 : M4.get M.n = _ := e4.same _ _ g3 rfl (by omega)
  have LA4 := load_agg (n := 2) g4 rfl
  obtain ⟨r5, M5, c5', ⟨sv, rfl, e5, rowS⟩⟩ := all_ok (d + 2) (show 1 ≤ n by omega) (show n ≤ 4096 by omega) e4.ok e4.nh cm4 hPL.bd chS (List.nodup_append.1 hnd).2.1 (fun x hx => hinFS x (List.mem_append_right _ hx))
  refine W_seq (W_seqR (by simp only [runSeq_cons, runSeq_nil, evalArgs_nil, evalArgs_tmp, val1, putT, Tr.get_set_self, Tr.get_set_ne, hd _, ne_eq, Nat.reduceEqDiff, not_false_eq_true, decide_true, Nat.reduceLT, opI_move, opI_extract, opI_callF, LA4, c5', List.getElem?_cons_zero, List.getElem?_cons_succ]; rfl) ?_)
  have g5 : M5.get M.n = _ := (e5.same _ (get_lt e4.ok.1 g4) (fun h => h)).trans g4
  have LA5 := load_agg (n := 2) g5 rfl
  have cm5 := cm4.ev e4.ok.1 e5
  obtain ⟨M6, c6', e6⟩ := arena_ok n M5 e5.ok e5.nh (d + 4)
  have cm6 := cm5.ev e5.ok.1 e6
  obtain ⟨r7, M7, c7', ⟨fv, rfl, e7, rowF⟩⟩ := free_ok (d + 2) (show 1 ≤ n by omega) (show n ≤ 4096 by omega) e6.ok e6.nh cm6 hPL.bd chF (List.nodup_append.1 hnd).1 (fun x hx => hinFS x (List.mem_append_left _ hx))
  refine W_seq (W_seqR (by simp only [runSeq_cons, runSeq_nil, evalArgs_nil, evalArgs_tmp, val1, putT, Tr.get_set_self, Tr.get_set_ne, hd _, ne_eq, Nat.reduceEqDiff, not_false_eq_true, decide_true, Nat.reduceLT, opI_move, opI_extract, opI_callF, LA5, c6', c7', List.getElem?_cons_zero, List.getElem?_cons_succ]; rfl) ?_)
  have e57 : EvA M5 M7 (fun _ => False) := e6.trans e7 (fun _ h => h) (fun _ _ h => h)
  have rowS7 : FreshE M4 M7 1 sv (els1 .u64 (S.map s.m.task)) := rowS.eva e5.ok.1 e57 (fun _ _ h => h)
  have row7 : OwnE (N0 M7) M7 5 dv (s.deeds.map encD) := OwnE.eva row4 rfl e4.ok.1 (e5.trans e57 (fun _ h => h) (fun _ _ h => h)) (fun _ _ h => h)
  have lS : opI .lenS [sv] M7 = some (.val (.int .i64 S.length) M7) := by
    have := (rowS7.row e7.ok.1).len
    simpa [els1] using this
  have lF : opI .lenS [fv] M7 = some (.val (.int .i64 F.length) M7) := by
    have := (rowF.row e7.ok.1).len
    simpa [els1] using this
  have w3 : wrapF .i64 ((S.length : Int) + F.length) = n := by rw [wi (by omega) (by omega)]; omega
  have b3 : ((n : Int) != n) = false := by simp
  refine W_seq (W_seq (W_seqR (by simp only [runSeq_cons, runSeq_nil, evalArgs_nil, evalArgs_tmp, evalArgs_const, val1, putT, Tr.get_set_self, Tr.get_set_ne, Tr.isSome_set, hd _, ne_eq, Nat.reduceEqDiff, not_false_eq_true, decide_true, Nat.reduceLT, opI_move, opI_neq, opI_add, opI_pick, runSeq_guard (b := false), beq_self_eq_true, h1, b00, lS, lF, w3, b3]; rfl) ?_))
  refine W_cond (b := false) (by simp only [PArg.eval, Tr.get_set_self, Tr.get_set_ne, hd _, ne_eq, Nat.reduceEqDiff, not_false_eq_true, decide_true, Nat.reduceLT]; try rfl) (fun hb => by cases hb) (fun _ => W_skip ?_)
  show W _ _
  -- the map
  have mm : opI .makeMap [] M7 = some (.val (.map (some M7.n)) (M7.push (.map (ents .u64 [])))) := rfl
  have s8 : Step M7 (M7.push (.map (ents .u64 []))) := (Step.refl e7.ok).push (fun _ _ _ _ he => by cases he)
  have e8 := EvA.of_step s8 e7.nh (fun _ => False)
  have g8 := get_push_self (k := .map (ents .u64 [])) e7.ok.1
  generalize hM8 : M7.push (.map (ents .u64 [])) = M8 at *
  refine W_seq (W_seqR (by simp only [runSeq_cons, runSeq_nil, evalArgs_nil, evalArgs_tmp, val1, putT, Tr.get_set_self, Tr.get_set_ne, hd _, ne_eq, Nat.reduceEqDiff, not_false_eq_true, decide_true, Nat.reduceLT, opI_move, mm]; rfl) ?_)
  have rowS8 : FreshE M4 M8 1 sv (els1 .u64 (S.map s.m.task)) := rowS7.eva e7.ok.1 e8 (fun _ _ h => h)
  have row8 : OwnE (N0 M8) M8 5 dv (s.deeds.map encD) := OwnE.eva row7 rfl e7.ok.1 e8 (fun _ _ h => h)
  have hsv : ∀ c, sbOf sv = some c → c ≠ M7.n := fun c hc => by have := (rowS7.sb e7.ok.1 c hc).2; omega
  have hdv7 : ∀ c, sbOf dv = some c → c ≠ M7.n := fun c hc => by
    obtain ⟨b, gr, sz', g, e1, h1, h2, _⟩ := row7
    rw [e1] at hc
    simp only [sbOf, Option.some.injEq] at hc
    have := get_lt e7.ok.1 h2
    omega
  have rS : ∀ K, EvA M8 K (· = M7.n) → RowE K 1 sv (els1 .u64 (S.map s.m.task)) := fun K e => (rowS8.eva e8.ok.1 e (fun c hc h => hsv c hc h)).row e.ok.1
  have rD : ∀ K, EvA M8 K (· = M7.n) → RowE K 5 dv (s.deeds.map encD) := fun K e => (OwnE.eva row8 (Z' := N0 K) rfl e8.ok.1 e (fun c hc h => hdv7 c hc h)).row e.ok.1
  have hel1 : (els1 .u64 (S.map s.m.task)).length = S.length := by simp [els1]
  have hdl := hPL.dl
  have w01 : wrapF .i64 ((0 : Int) + 1) = 1 := rfl
  -- what is in it
  refine W_seq (W_seq (W_seqR (by simp only [runSeq_cons, runSeq_nil, evalArgs_nil, evalArgs_const, val1, putT, opI_move]; rfl) (W_block (W_loop (fun k t K => ∃ j : Nat, k + j = S.length ∧ Dom t 191 ∧ t.get 10 = some dv ∧ t.get 12 = some sv ∧ t.get 16 = some (.map (some M7.n)) ∧ t.get 17 = some (.int .i64 j) ∧ EvA M8 K (· = M7.n) ∧ K.get M7.n = some (.map (ents .u64 (ones ((S.map s.m.task).take j)))))
    (k := S.length) (by omega) ?_ ?_))))
  · exact ⟨0, by omega, by ((repeat (with_reducible apply Dom.set)); exact hd), by simp only [Tr.get_set_self, Tr.get_set_ne, hd _, ne_eq, Nat.reduceEqDiff, not_false_eq_true, decide_true, Nat.reduceLT]; try rfl, by simp only [Tr.get_set_self, Tr.get_set_ne, hd _, ne_eq, Nat.reduceEqDiff, not_false_eq_true, decide_true, Nat.reduceLT]; try rfl, by simp only [Tr.get_set_self, Tr.get_set_ne, hd _, ne_eq, Nat.reduceEqDiff, not_false_eq_true, decide_true, Nat.reduceLT]; try rfl, by simp only [Tr.get_set_self, Tr.get_set_ne, hd _, ne_eq, Nat.reduceEqDiff, not_false_eq_true, decide_true, Nat.reduceLT]; rfl, ⟨Nat.le_refl _, rfl, fun _ _ _ => rfl, e8.ok, e8.nh⟩, g8⟩
  clear h0 h1 h2 hd
  · rintro k t K ⟨j, hj, hd, h10, h12, h16, h17, eK, gK⟩
    have lK : opI .lenS [sv] K = some (.val (.int .i64 S.length) K) := by
      have := (rS K eK).len
      rwa [hel1] at this
    refine W_seq (W_seq (W_seqR (by simp only [runSeq_cons, runSeq_nil, evalArgs_nil, evalArgs_tmp, val1, putT, Tr.get_set_self, Tr.get_set_ne, hd _, ne_eq, Nat.reduceEqDiff, not_false_eq_true, decide_true, Nat.reduceLT, opI_move, opI_lss, h17, h12, lK]; rfl) ?_))
    refine W_cond (by simp only [PArg.eval, Tr.get_set_self, Tr.get_set_ne, hd _, ne_eq, Nat.reduceEqDiff, not_false_eq_true, decide_true, Nat.reduceLT]; rfl) (fun hb => W_skip ?_) (fun hb => W_exit ?_)
    · have hjl : j < S.length := by
        have := of_decide_eq_true hb
        omega
      obtain ⟨p, pp, ix, _, ld⟩ := (rS K eK).at_ (i := j) (by rw [hel1]; exact hjl) (by omega)
      have hjt : j < (S.map s.m.task).length := by simpa using hjl
      obtain ⟨x, hx⟩ : ∃ x, (S.map s.m.task)[j]'hjt = x := ⟨_, rfl⟩
      have ld0 := ld 0 (.int .u64 x) (by rw [← hx]; simp [els1])
      have htk : (S.map s.m.task).take (j + 1) = (S.map s.m.task).take j ++ [x] := by
        rw [List.take_add_one, List.getElem?_eq_getElem hjt, hx]; rfl
      have hxn : x ∉ (S.map s.m.task).take j := fun h => by
        have h1 : ((S.map s.m.task).take (j + 1)).Nodup := (List.nodup_append.1 hZn).1.sublist (List.take_sublist _ _)
        rw [htk] at h1
        exact (List.nodup_append.1 h1).2.2 x h x (by simp) rfl
      have lk : opI (.lookup 0 false (.int .i64 0)) [.map (some M7.n), .int .u64 x] K = some (.val (.int .i64 0) K) := by
        have := lookup_own (ok := false) (z := .int .i64 0) (x := (x : Int)) gK
        rw [asg_ones, if_neg hxn] at this
        exact this
      obtain ⟨K2, u2, f2, mK2⟩ := update_new (v := .int .i64 1) eK.ok eK.nh gK (x := (x : Int)) (by rw [asg_ones, if_neg hxn])
      show W _ _
      refine W_seq (W_block (W_seqR (by simp only [runSeq_cons, runSeq_nil, evalArgs_nil, evalArgs_tmp, evalArgs_const, val1, putT, Tr.get_set_self, Tr.get_set_ne, hd _, ne_eq, Nat.reduceEqDiff, not_false_eq_true, decide_true, Nat.reduceLT, opI_move, opI_add, h16, h12, h17, ix, ld0, lk, w01, u2]; rfl) ?_))
      show W _ _
      refine W_seqR (by simp only [runSeq_cons, runSeq_nil, evalArgs_nil, evalArgs_tmp, evalArgs_const, val1, putT, Tr.get_set_self, Tr.get_set_ne, hd _, ne_eq, Nat.reduceEqDiff, not_false_eq_true, decide_true, Nat.reduceLT, opI_move, opI_add, h17]; rfl) ?_
      refine ⟨k - 1, by omega, j + 1, by omega, by ((repeat (with_reducible apply Dom.set)); exact hd), by simp only [Tr.get_set_ne, ne_eq, Nat.reduceEqDiff, not_false_eq_true, h10], by simp only [Tr.get_set_ne, ne_eq, Nat.reduceEqDiff, not_false_eq_true, h12], by simp only [Tr.get_set_ne, ne_eq, Nat.reduceEqDiff, not_false_eq_true, h16], by simp only [Tr.get_set_self, Tr.get_set_ne, hd _, ne_eq, Nat.reduceEqDiff, not_false_eq_true, decide_true, Nat.reduceLT]; rw [wi (by omega) (by omega)]; rfl, eK.trans f2 (fun _ h => h) (fun _ _ h => h), ?_⟩
      rw [mK2, ones_add, ← htk]
    have hj2 : j = S.length := by
      have := of_decide_eq_false hb
      omega
    subst hj2
    rw [List.take_of_length_le (by simp)] at gK
    show W _ _
    refine W_seq (W_seqR (by simp only [runSeq_cons, runSeq_nil, evalArgs_nil, evalArgs_const, val1, putT, opI_move]; rfl) ?_)
    -- what came out
    refine W_seq (W_seq (W_seqR (by simp only [runSeq_cons, runSeq_nil, evalArgs_nil, evalArgs_const, val1, putT, opI_move]; rfl) (W_block (W_loop (fun k t K => ∃ (done rest : List Deed), s.deeds = done ++ rest ∧ k = rest.length ∧ Dom t 191 ∧ t.get 10 = some dv ∧ t.get 16 = some (.map (some M7.n)) ∧ t.get 18 = some (.int .i64 0) ∧ t.get 19 = some (.int .i64 done.length) ∧ EvA M8 K (· = M7.n) ∧ K.get M7.n = some (.map (ents .u64 (ones (S.map s.m.task ++ pops done)))))
      (k := s.deeds.length) (by omega) ?_ ?_))))
    · exact ⟨[], s.deeds, rfl, rfl, by ((repeat (with_reducible apply Dom.set)); exact hd), by simp only [Tr.get_set_ne, ne_eq, Nat.reduceEqDiff, not_false_eq_true, h10], by simp only [Tr.get_set_ne, ne_eq, Nat.reduceEqDiff, not_false_eq_true, h16], by simp only [Tr.get_set_self, Tr.get_set_ne, hd _, ne_eq, Nat.reduceEqDiff, not_false_eq_true, decide_true, Nat.reduceLT]; try rfl, by simp only [Tr.get_set_self, Tr.get_set_ne, hd _, ne_eq, Nat.reduceEqDiff, not_false_eq_true, decide_true, Nat.reduceLT]; rfl, eK, by rw [gK]; simp [pops]⟩
    clear h10 h12 h16 h17 hd
    · rintro k t K ⟨done, rest, hdr, hk, hd, h10, h16, h18, h19, eK, gK⟩
      have lenD : opI .lenS [dv] K = some (.val (.int .i64 s.deeds.length) K) := by
        have := (rD K eK).len
        rwa [List.length_map] at this
      refine W_seq (W_seq (W_seqR (by simp only [runSeq_cons, runSeq_nil, evalArgs_nil, evalArgs_tmp, val1, putT, Tr.get_set_self, Tr.get_set_ne, hd _, ne_eq, Nat.reduceEqDiff, not_false_eq_true, decide_true, Nat.reduceLT, opI_move, opI_lss, h19, h10, lenD]; rfl) ?_))
      refine W_cond (by simp only [PArg.eval, Tr.get_set_self, Tr.get_set_ne, hd _, ne_eq, Nat.reduceEqDiff, not_false_eq_true, decide_true, Nat.reduceLT]; rfl) (fun hb => W_skip ?_) (fun hb => W_exit ?_)
      · cases rest with
        | nil =>
          rw [List.append_nil] at hdr
          rw [hdr] at hb
          have := of_decide_eq_true hb
          omega
        | cons x rest =>
        have hdl2 : done.length < s.deeds.length := by rw [hdr]; simp
        have hxm : x ∈ s.deeds := by rw [hdr]; simp
        have hcx := hcodes x hxm
        obtain ⟨p, pp, ix, lda, _⟩ := (rD K eK).at_ (i := done.length) (by rw [List.length_map]; exact hdl2) (by omega)
        have hget : (s.deeds.map encD)[done.length]'(by rw [List.length_map]; exact hdl2) = encD x := by
          rw [List.getElem_map]
          congr 1
          simp [hdr]
        have ld5 := lda 0 5 (by omega)
        rw [hget] at ld5
        have hd5 : ((encD x).drop 0).take 5 = encD x := rfl
        rw [hd5] at ld5
        obtain ⟨K1, st1, f1, gx, nx⟩ := fill_new (z := [.int .i64 0, .int .i64 0, .bool false, .int .u64 0, .int .i64 0]) (new := encD x) (n := 5) eK.ok eK.nh rfl rfl rfl
        show W _ _
        refine W_seq (W_block (W_seq (W_seqR (by simp only [runSeq_cons, runSeq_nil, evalArgs_nil, evalArgs_tmp, val1, putT, Tr.get_set_self, Tr.get_set_ne, hd _, ne_eq, Nat.reduceEqDiff, not_false_eq_true, decide_true, Nat.reduceLT, opI_move, opI_new, h10, h19, ix, ld5, st1]; rfl) ?_)))
        have lp : opI (.load false 1) [.ptr (some (K.n, 2))] K1 = some (.val (.bool x.put) K1) := load_own gx rfl
        have lc : opI (.load false 1) [.ptr (some (K.n, 4))] K1 = some (.val (.int .i64 x.code) K1) := load_own gx rfl
        have lvv : opI (.load false 1) [.ptr (some (K.n, 3))] K1 = some (.val (.int .u64 x.v) K1) := load_own gx rfl
        have hK8 : M7.n < M8.n := get_lt e8.ok.1 g8
        have gK1 : K1.get M7.n = _ := (f1.same _ (get_lt eK.ok.1 gK) (fun h => h)).trans gK
        have eK1 : EvA M8 K1 (· = M7.n) := eK.trans f1 (fun _ h => h) (fun _ _ h => h.elim)
        have hZd : (S.map s.m.task ++ pops done ++ (if x.put = false ∧ x.code = 0 then [x.v] else [])).Nodup := by
          have h1 : pops s.deeds = pops done ++ ((if x.put = false ∧ x.code = 0 then [x.v] else []) ++ pops rest) := by
            rw [hdr, show done ++ x :: rest = (done ++ [x]) ++ rest from by simp, pops_append, pops_add, List.append_assoc]
          have h2 := hZn
          unfold allOut at h2
          rw [h1, ← List.append_assoc, ← List.append_assoc] at h2
          exact (List.nodup_append.1 h2).1
        -- is it counted?
        refine W_seq (W.mono (Q := fun z t' K' => z = .normal ∧ Dom t' 191 ∧ t'.get 10 = some dv ∧ t'.get 16 = some (.map (some M7.n)) ∧ t'.get 18 = some (.int .i64 0) ∧ t'.get 19 = some (.int .i64 done.length) ∧ t'.get 20 = some (.ptr (some (K.n, 0))) ∧ EvA M8 K' (· = M7.n) ∧ K'.get K.n = some (.cells (encD x) 0 true none) ∧ K'.get M7.n = some (.map (ents .u64 (ones (S.map s.m.task ++ pops (done ++ [x])))))) ?_ ?_)
        · by_cases hput : x.put = false ∧ x.code = 0
          · obtain ⟨hp, hc⟩ := hput
            rw [if_pos ⟨hp, hc⟩] at hZd
            have hxn : x.v ∉ S.map s.m.task ++ pops done := fun h => (List.nodup_append.1 hZd).2.2 x.v h x.v (by simp) rfl
            have lk : opI (.lookup 0 false (.int .i64 0)) [.map (some M7.n), .int .u64 x.v] K1 = some (.val (.int .i64 0) K1) := by
              have := lookup_own (ok := false) (z := .int .i64 0) (x := (x.v : Int)) gK1
              rw [asg_ones, if_neg hxn] at this
              exact this
            obtain ⟨K2, u2, f2, mK2⟩ := update_new (v := .int .i64 1) f1.ok f1.nh gK1 (x := (x.v : Int)) (by rw [asg_ones, if_neg hxn])
            rw [hp] at lp
            rw [hc] at lc
            have b0 : (((0 : Nat) : Int) == 0) = true := rfl
            refine W_seq (W_seqR (by simp only [runSeq_cons, runSeq_nil, evalArgs_nil, evalArgs_tmp, evalArgs_const, val1, putT, Tr.get_set_self, Tr.get_set_ne, Tr.isSome_set, hd _, ne_eq, Nat.reduceEqDiff, not_false_eq_true, decide_true, Nat.reduceLT, opI_move, opI_not, opI_eql, opI_fieldP, opI_pick, Nat.zero_add, runSeq_guard (b := true), beq_self_eq_true, Bool.not_false, lp, lc, Bool.not_false, b0]; rfl) ?_)
            refine W_cond (b := true) (by simp only [PArg.eval, Tr.get_set_self, Tr.get_set_ne, hd _, ne_eq, Nat.reduceEqDiff, not_false_eq_true, decide_true, Nat.reduceLT]; try rfl) (fun _ => ?_) (fun hb => by cases hb)
            refine W_seqR (by simp only [runSeq_cons, runSeq_nil, evalArgs_nil, evalArgs_tmp, evalArgs_const, val1, putT, Tr.get_set_self, Tr.get_set_ne, hd _, ne_eq, Nat.reduceEqDiff, not_false_eq_true, decide_true, Nat.reduceLT, opI_move, opI_add, opI_fieldP, Nat.zero_add, h16, lvv, lk, w01, u2]; rfl) ?_
            refine ⟨rfl, by ((repeat (with_reducible apply Dom.set)); exact hd), by simp only [Tr.get_set_ne, ne_eq, Nat.reduceEqDiff, not_false_eq_true, h10], by simp only [Tr.get_set_ne, ne_eq, Nat.reduceEqDiff, not_false_eq_true, h16], by simp only [Tr.get_set_ne, ne_eq, Nat.reduceEqDiff, not_false_eq_true, h18], by simp only [Tr.get_set_ne, ne_eq, Nat.reduceEqDiff, not_false_eq_true, h19], by simp only [Tr.get_set_self, Tr.get_set_ne, hd _, ne_eq, Nat.reduceEqDiff, not_false_eq_true, decide_true, Nat.reduceLT], eK1.trans f2 (fun _ h => h) (fun _ _ h => h), (f2.same _ nx (by have := eK.n; omega)).trans gx, ?_⟩
            rw [mK2, ones_add, pops_add, if_pos ⟨hp, hc⟩, List.append_assoc]
          · have hpp : pops (done ++ [x]) = pops done := by rw [pops_add, if_neg hput, List.append_nil]
            rw [hpp]
            cases hp : x.put with
            | true =>
              rw [hp] at lp
              refine W_seq (W_seqR (by simp only [runSeq_cons, runSeq_nil, evalArgs_nil, evalArgs_tmp, evalArgs_const, val1, putT, Tr.get_set_self, Tr.get_set_ne, Tr.isSome_set, hd _, ne_eq, Nat.reduceEqDiff, not_false_eq_true, decide_true, Nat.reduceLT, opI_move, opI_not, opI_fieldP, opI_pick, Nat.zero_add, runSeq_guard (b := false), Bool.false_beq, Bool.not_true, lp, Bool.not_true]; rfl) ?_)
              refine W_cond (b := false) (by simp only [PArg.eval, Tr.get_set_self, Tr.get_set_ne, hd _, ne_eq, Nat.reduceEqDiff, not_false_eq_true, decide_true, Nat.reduceLT]; try rfl) (fun hb => by cases hb) (fun _ => W_skip ?_)
              exact ⟨rfl, by ((repeat (with_reducible apply Dom.set)); exact hd), by simp only [Tr.get_set_ne, ne_eq, Nat.reduceEqDiff, not_false_eq_true, h10], by simp only [Tr.get_set_ne, ne_eq, Nat.reduceEqDiff, not_false_eq_true, h16], by simp only [Tr.get_set_ne, ne_eq, Nat.reduceEqDiff, not_false_eq_true, h18], by simp only [Tr.get_set_ne, ne_eq, Nat.reduceEqDiff, not_false_eq_true, h19], by simp only [Tr.get_set_self, Tr.get_set_ne, hd _, ne_eq, Nat.reduceEqDiff, not_false_eq_true, decide_true, Nat.reduceLT], eK1, gx, gK1⟩
            | false =>
              have hc0 : x.code ≠ 0 := fun h => hput ⟨hp, h⟩
              have bc0 : ((x.code : Int) == 0) = false := by rw [beq_eq_false_iff_ne]; omega
              rw [hp] at lp
              refine W_seq (W_seqR (by simp only [runSeq_cons, runSeq_nil, evalArgs_nil, evalArgs_tmp, evalArgs_const, val1, putT, Tr.get_set_self, Tr.get_set_ne, Tr.isSome_set, hd _, ne_eq, Nat.reduceEqDiff, not_false_eq_true, decide_true, Nat.reduceLT, opI_move, opI_not, opI_eql, opI_fieldP, opI_pick, Nat.zero_add, runSeq_guard (b := true), beq_self_eq_true, Bool.not_false, lp, lc, Bool.not_false, bc0]; rfl) ?_)
              refine W_cond (b := false) (by simp only [PArg.eval, Tr.get_set_self, Tr.get_set_ne, hd _, ne_eq, Nat.reduceEqDiff, not_false_eq_true, decide_true, Nat.reduceLT]; try rfl) (fun hb => by cases hb) (fun _ => W_skip ?_)
              exact ⟨rfl, by ((repeat (with_reducible apply Dom.set)); exact hd), by simp only [Tr.get_set_ne, ne_eq, Nat.reduceEqDiff, not_false_eq_true, h10], by simp only [Tr.get_set_ne, ne_eq, Nat.reduceEqDiff, not_false_eq_true, h16], by simp only [Tr.get_set_ne, ne_eq, Nat.reduceEqDiff, not_false_eq_true, h18], by simp only [Tr.get_set_ne, ne_eq, Nat.reduceEqDiff, not_false_eq_true, h19], by simp only [Tr.get_set_self, Tr.get_set_ne, hd _, ne_eq, Nat.reduceEqDiff, not_false_eq_true, decide_true, Nat.reduceLT], eK1, gx, gK1⟩
        clear h10 h16 h18 h19 hd lp lc lvv
        rintro z t' K2 ⟨rfl, hd, h10, h16, h18, h19, h20, eK2, gx2, gK2⟩
        show W _ _
        have lp : opI (.load false 1) [.ptr (some (K.n, 2))] K2 = some (.val (.bool x.put) K2) := load_own gx2 rfl
        have lc : opI (.load false 1) [.ptr (some (K.n, 4))] K2 = some (.val (.int .i64 x.code) K2) := load_own gx2 rfl
        have b00' : (((0 : Nat) : Int) != 0) = false := rfl
        have b70 : (((7 : Nat) : Int) != 0) = true := rfl
        have b77 : (((7 : Nat) : Int) != 7) = false := rfl
        have b50 : (((5 : Nat) : Int) != 0) = true := rfl
        have b55 : (((5 : Nat) : Int) != 5) = false := rfl
        have hfin : ∀ (t : Tr AV), Dom t 191 → t.get 10 = some dv → t.get 16 = some (.map (some M7.n)) → t.get 18 = some (.int .i64 0) → t.get 19 = some (.int .i64 ((done.length : Int) + 1)) → ∃ k' < k, ∃ (done rest : List Deed), s.deeds = done ++ rest ∧ k' = rest.length ∧ Dom t 191 ∧ t.get 10 = some dv ∧ t.get 16 = some (.map (some M7.n)) ∧ t.get 18 = some (.int .i64 0) ∧ t.get 19 = some (.int .i64 done.length) ∧ EvA M8 K2 (· = M7.n) ∧ K2.get M7.n = some (.map (ents .u64 (ones (S.map s.m.task ++ pops done)))) := fun t hd h10 h16 h18 h19 =>
          ⟨rest.length, by rw [hk]; simp, done ++ [x], rest, by rw [hdr]; simp, rfl, hd, h10, h16, h18, by rw [h19, List.length_append]; simp, eK2, gK2⟩
        have wd : wrapF .i64 ((done.length : Int) + 1) = done.length + 1 := wi (by omega) (by omega)
        cases hp : x.put with
        | true =>
          rw [hp] at lp
          rcases hcx.1 hp with hc | hc
          · rw [hc] at lc
            refine W_seq (W_seqR (by simp only [runSeq_cons, runSeq_nil, evalArgs_nil, evalArgs_tmp, evalArgs_const, val1, putT, Tr.get_set_self, Tr.get_set_ne, Tr.isSome_set, hd _, ne_eq, Nat.reduceEqDiff, not_false_eq_true, decide_true, Nat.reduceLT, opI_move, opI_not, opI_neq, opI_fieldP, opI_pick, Nat.zero_add, runSeq_guard (b := true), runSeq_guard (b := false), beq_self_eq_true, Bool.false_beq, Bool.not_true, h20, lp, lc, Bool.not_true, b00']; rfl) ?_)
            refine W_cond (b := false) (by simp only [PArg.eval, Tr.get_set_self, Tr.get_set_ne, hd _, ne_eq, Nat.reduceEqDiff, not_false_eq_true, decide_true, Nat.reduceLT]; try rfl) (fun hb => by cases hb) (fun _ => W_skip ?_)
            show W _ _
            refine W_seqR (by simp only [runSeq_cons, runSeq_nil, evalArgs_nil, evalArgs_tmp, evalArgs_const, val1, putT, Tr.get_set_self, Tr.get_set_ne, hd _, ne_eq, Nat.reduceEqDiff, not_false_eq_true, decide_true, Nat.reduceLT, opI_move, opI_add, h19, wd]; rfl) ?_
            exact hfin _ (by ((repeat (with_reducible apply Dom.set)); exact hd)) (by simp only [Tr.get_set_ne, ne_eq, Nat.reduceEqDiff, not_false_eq_true, h10]) (by simp only [Tr.get_set_ne, ne_eq, Nat.reduceEqDiff, not_false_eq_true, h16]) (by simp only [Tr.get_set_ne, ne_eq, Nat.reduceEqDiff, not_false_eq_true, h18]) (by simp only [Tr.get_set_self, Tr.get_set_ne, hd _, ne_eq, Nat.reduceEqDiff, not_false_eq_true, decide_true, Nat.reduceLT])
          · rw [hc] at lc
            refine W_seq (W_seqR (by simp only [runSeq_cons, runSeq_nil, evalArgs_nil, evalArgs_tmp, evalArgs_const, val1, putT, Tr.get_set_self, Tr.get_set_ne, Tr.isSome_set, hd _, ne_eq, Nat.reduceEqDiff, not_false_eq_true, decide_true, Nat.reduceLT, opI_move, opI_not, opI_neq, opI_fieldP, opI_pick, Nat.zero_add, runSeq_guard (b := true), runSeq_guard (b := false), beq_self_eq_true, Bool.false_beq, Bool.not_true, h20, lp, lc, Bool.not_true, b70, b77]; rfl) ?_)
            refine W_cond (b := false) (by simp only [PArg.eval, Tr.get_set_self, Tr.get_set_ne, hd _, ne_eq, Nat.reduceEqDiff, not_false_eq_true, decide_true, Nat.reduceLT]; try rfl) (fun hb => by cases hb) (fun _ => W_skip ?_)
            show W _ _
            refine W_seqR (by simp only [runSeq_cons, runSeq_nil, evalArgs_nil, evalArgs_tmp, evalArgs_const, val1, putT, Tr.get_set_self, Tr.get_set_ne, hd _, ne_eq, Nat.reduceEqDiff, not_false_eq_true, decide_true, Nat.reduceLT, opI_move, opI_add, h19, wd]; rfl) ?_
            exact hfin _ (by ((repeat (with_reducible apply Dom.set)); exact hd)) (by simp only [Tr.get_set_ne, ne_eq, Nat.reduceEqDiff, not_false_eq_true, h10]) (by simp only [Tr.get_set_ne, ne_eq, Nat.reduceEqDiff, not_false_eq_true, h16]) (by simp only [Tr.get_set_ne, ne_eq, Nat.reduceEqDiff, not_false_eq_true, h18]) (by simp only [Tr.get_set_self, Tr.get_set_ne, hd _, ne_eq, Nat.reduceEqDiff, not_false_eq_true, decide_true, Nat.reduceLT])
        | false =>
          rw [hp] at lp
          rcases hcx.2 hp with hc | hc
          · rw [hc] at lc
            refine W_seq (W_seqR (by simp only [runSeq_cons, runSeq_nil, evalArgs_nil, evalArgs_tmp, evalArgs_const, val1, putT, Tr.get_set_self, Tr.get_set_ne, Tr.isSome_set, hd _, ne_eq, Nat.reduceEqDiff, not_false_eq_true, decide_true, Nat.reduceLT, opI_move, opI_not, opI_neq, opI_fieldP, opI_pick, Nat.zero_add, runSeq_guard (b := true), runSeq_guard (b := false), beq_self_eq_true, Bool.false_beq, Bool.not_true, Bool.not_false, h20, lp, lc, Bool.not_false, b00']; rfl) ?_)
            refine W_cond (b := false) (by simp only [PArg.eval, Tr.get_set_self, Tr.get_set_ne, hd _, ne_eq, Nat.reduceEqDiff, not_false_eq_true, decide_true, Nat.reduceLT]; try rfl) (fun hb => by cases hb) (fun _ => W_skip ?_)
            show W _ _
            refine W_seqR (by simp only [runSeq_cons, runSeq_nil, evalArgs_nil, evalArgs_tmp, evalArgs_const, val1, putT, Tr.get_set_self, Tr.get_set_ne, hd _, ne_eq, Nat.reduceEqDiff, not_false_eq_true, decide_true, Nat.reduceLT, opI_move, opI_add, h19, wd]; rfl) ?_
            exact hfin _ (by ((repeat (with_reducible apply Dom.set)); exact hd)) (by simp only [Tr.get_set_ne, ne_eq, Nat.reduceEqDiff, not_false_eq_true, h10]) (by simp only [Tr.get_set_ne, ne_eq, Nat.reduceEqDiff, not_false_eq_true, h16]) (by simp only [Tr.get_set_ne, ne_eq, Nat.reduceEqDiff, not_false_eq_true, h18]) (by simp only [Tr.get_set_self, Tr.get_set_ne, hd _, ne_eq, Nat.reduceEqDiff, not_false_eq_true, decide_true, Nat.reduceLT])
          · rw [hc] at lc
            refine W_seq (W_seqR (by simp only [runSeq_cons, runSeq_nil, evalArgs_nil, evalArgs_tmp, evalArgs_const, val1, putT, Tr.get_set_self, Tr.get_set_ne, Tr.isSome_set, hd _, ne_eq, Nat.reduceEqDiff, not_false_eq_true, decide_true, Nat.reduceLT, opI_move, opI_not, opI_neq, opI_fieldP, opI_pick, Nat.zero_add, runSeq_guard (b := true), runSeq_guard (b := false), beq_self_eq_true, Bool.false_beq, Bool.not_true, Bool.not_false, h20, lp, lc, Bool.not_false, b50, b55]; rfl) ?_)
            refine W_cond (b := false) (by simp only [PArg.eval, Tr.get_set_self, Tr.get_set_ne, hd _, ne_eq, Nat.reduceEqDiff, not_false_eq_true, decide_true, Nat.reduceLT]; try rfl) (fun hb => by cases hb) (fun _ => W_skip ?_)
            show W _ _
            refine W_seqR (by simp only [runSeq_cons, runSeq_nil, evalArgs_nil, evalArgs_tmp, evalArgs_const, val1, putT, Tr.get_set_self, Tr.get_set_ne, hd _, ne_eq, Nat.reduceEqDiff, not_false_eq_true, decide_true, Nat.reduceLT, opI_move, opI_add, h19, wd]; rfl) ?_
            exact hfin _ (by ((repeat (with_reducible apply Dom.set)); exact hd)) (by simp only [Tr.get_set_ne, ne_eq, Nat.reduceEqDiff, not_false_eq_true, h10]) (by simp only [Tr.get_set_ne, ne_eq, Nat.reduceEqDiff, not_false_eq_true, h16]) (by simp only [Tr.get_set_ne, ne_eq, Nat.reduceEqDiff, not_false_eq_true, h18]) (by simp only [Tr.get_set_self, Tr.get_set_ne, hd _, ne_eq, Nat.reduceEqDiff, not_false_eq_true, decide_true, Nat.reduceLT])
      have hrest : rest = [] := by
        cases rest with
        | nil => rfl
        | cons x rest =>
          have h1 : done.length < s.deeds.length := by rw [hdr]; simp
          have := of_decide_eq_false hb
          omega
      subst hrest
      rw [List.append_nil] at hdr
      subst hdr
      show W _ _
      have hZeq : S.map s.m.task ++ pops s.deeds = allOut s S := rfl
      rw [hZeq] at gK
      refine W_seq (W_seq (W_seqR (by simp only [runSeq_cons, runSeq_nil, evalArgs_nil, evalArgs_const, val1, putT, opI_move]; rfl) (W_block (W_loop (fun k t K2 => ∃ (done rest : List Deed), s.deeds = done ++ rest ∧ k = rest.length ∧ Dom t 191 ∧ t.get 10 = some dv ∧ t.get 16 = some (.map (some M7.n)) ∧ t.get 18 = some (.int .i64 (oks done).length) ∧ t.get 21 = some (.int .i64 done.length) ∧ K2 = K)
        (k := s.deeds.length) (by omega) ?_ ?_))))
      · exact ⟨[], s.deeds, rfl, rfl, by ((repeat (with_reducible apply Dom.set)); exact hd), by simp only [Tr.get_set_ne, ne_eq, Nat.reduceEqDiff, not_false_eq_true, h10], by simp only [Tr.get_set_ne, ne_eq, Nat.reduceEqDiff, not_false_eq_true, h16], by simp only [Tr.get_set_ne, ne_eq, Nat.reduceEqDiff, not_false_eq_true, h18]; rfl, by simp only [Tr.get_set_self, Tr.get_set_ne, hd _, ne_eq, Nat.reduceEqDiff, not_false_eq_true, decide_true, Nat.reduceLT]; rfl, rfl⟩
      clear h10 h16 h18 h19 hd
      rintro k t K2 ⟨done, rest, hdr, hk, hd, h10, h16, h18, h21, rfl⟩
      refine W_seq (W_seq (W_seqR (by simp only [runSeq_cons, runSeq_nil, evalArgs_nil, evalArgs_tmp, val1, putT, Tr.get_set_self, Tr.get_set_ne, hd _, ne_eq, Nat.reduceEqDiff, not_false_eq_true, decide_true, Nat.reduceLT, opI_move, opI_lss, h21, h10, lenD]; rfl) ?_))
      refine W_cond (by simp only [PArg.eval, Tr.get_set_self, Tr.get_set_ne, hd _, ne_eq, Nat.reduceEqDiff, not_false_eq_true, decide_true, Nat.reduceLT]; rfl) (fun hb => W_skip ?_) (fun hb => W_exit ?_)
      · cases rest with
        | nil =>
          rw [List.append_nil] at hdr
          rw [hdr] at hb
          have := of_decide_eq_true hb
          omega
        | cons x rest =>
        have hdl2 : done.length < s.deeds.length := by rw [hdr]; simp
        obtain ⟨p, pp, ix, _, ld⟩ := (rD K2 eK).at_ (i := done.length) (by rw [List.length_map]; exact hdl2) (by omega)
        have hget : (s.deeds.map encD)[done.length]'(by rw [List.length_map]; exact hdl2) = encD x := by
          rw [List.getElem_map]
          congr 1
          simp [hdr]
        have lp := ld 2 (.bool x.put) (by rw [hget]; rfl)
        have lc := ld 4 (.int .i64 x.code) (by rw [hget]; rfl)
        have lvv := ld 3 (.int .u64 x.v) (by rw [hget]; rfl)
        have ok_le : (oks done).length ≤ done.length := by
          unfold oks; rw [List.length_map]; exact List.length_filter_le _ _
        have wd : wrapF .i64 ((done.length : Int) + 1) = done.length + 1 := wi (by omega) (by omega)
        have wo : wrapF .i64 (((oks done).length : Int) + 1) = (oks done).length + 1 := wi (by omega) (by omega)
        have hfin : ∀ (t : Tr AV), Dom t 191 → t.get 10 = some dv → t.get 16 = some (.map (some M7.n)) → t.get 18 = some (.int .i64 (oks (done ++ [x])).length) → t.get 21 = some (.int .i64 ((done.length : Int) + 1)) → ∃ k' < k, ∃ (done rest : List Deed), s.deeds = done ++ rest ∧ k' = rest.length ∧ Dom t 191 ∧ t.get 10 = some dv ∧ t.get 16 = some (.map (some M7.n)) ∧ t.get 18 = some (.int .i64 (oks done).length) ∧ t.get 21 = some (.int .i64 done.length) ∧ K2 = K2 := fun t hd h10 h16 h18 h21 =>
          ⟨rest.length, by rw [hk]; simp, done ++ [x], rest, by rw [hdr]; simp, rfl, hd, h10, h16, h18, by rw [h21, List.length_append]; simp, rfl⟩
        show W _ _
        by_cases hput : x.put = true ∧ x.code = 0
        · obtain ⟨hp, hc⟩ := hput
          rw [hp] at lp
          rw [hc] at lc
          have b0 : (((0 : Nat) : Int) == 0) = true := rfl
          have b1 : ((1 : Int) != 1) = false := rfl
          have hin : x.v ∈ allOut s S := by
            rw [hZp.mem_iff]
            unfold oks
            rw [List.mem_map]
            exact ⟨x, List.mem_filter.2 ⟨by rw [hdr]; simp, by rw [hp, hc]; rfl⟩, rfl⟩
          have lk : opI (.lookup 0 false (.int .i64 0)) [.map (some M7.n), .int .u64 x.v] K2 = some (.val (.int .i64 1) K2) := by
            have := lookup_own (ok := false) (z := .int .i64 0) (x := (x.v : Int)) gK
            rw [asg_ones, if_pos hin] at this
            exact this
          refine W_seq (W_block (W_seq (W_seqR (by simp only [runSeq_cons, runSeq_nil, evalArgs_nil, evalArgs_tmp, evalArgs_const, val1, putT, Tr.get_set_self, Tr.get_set_ne, Tr.isSome_set, hd _, ne_eq, Nat.reduceEqDiff, not_false_eq_true, decide_true, Nat.reduceLT, opI_move, opI_eql, opI_pick, Nat.zero_add, runSeq_guard (b := true), beq_self_eq_true, h10, h21, ix, opI_fieldQ pp, lp, lc, b0]; rfl) ?_)))
          refine W_cond (b := true) (by simp only [PArg.eval, Tr.get_set_self, Tr.get_set_ne, hd _, ne_eq, Nat.reduceEqDiff, not_false_eq_true, decide_true, Nat.reduceLT]; try rfl) (fun _ => ?_) (fun hb => by cases hb)
          refine W_seq (W_seqR (by simp only [runSeq_cons, runSeq_nil, evalArgs_nil, evalArgs_tmp, evalArgs_const, val1, putT, Tr.get_set_self, Tr.get_set_ne, hd _, ne_eq, Nat.reduceEqDiff, not_false_eq_true, decide_true, Nat.reduceLT, opI_move, opI_add, h18, wo]; rfl) ?_)
          refine W_seq (W_seqR (by simp only [runSeq_cons, runSeq_nil, evalArgs_nil, evalArgs_tmp, evalArgs_const, val1, putT, Tr.get_set_self, Tr.get_set_ne, hd _, ne_eq, Nat.reduceEqDiff, not_false_eq_true, decide_true, Nat.reduceLT, opI_move, opI_neq, Nat.zero_add, h10, h16, h21, ix, opI_fieldQ pp, lvv, lk, b1]; rfl) ?_)
          refine W_cond (b := false) (by simp only [PArg.eval, Tr.get_set_self, Tr.get_set_ne, hd _, ne_eq, Nat.reduceEqDiff, not_false_eq_true, decide_true, Nat.reduceLT]; try rfl) (fun hb => by cases hb) (fun _ => W_skip ?_)
          show W _ _
          refine W_seqR (by simp only [runSeq_cons, runSeq_nil, evalArgs_nil, evalArgs_tmp, evalArgs_const, val1, putT, Tr.get_set_self, Tr.get_set_ne, hd _, ne_eq, Nat.reduceEqDiff, not_false_eq_true, decide_true, Nat.reduceLT, opI_move, opI_add, h21, wd]; rfl) ?_
          exact hfin _ (by ((repeat (with_reducible apply Dom.set)); exact hd)) (by simp only [Tr.get_set_ne, ne_eq, Nat.reduceEqDiff, not_false_eq_true, h10]) (by simp only [Tr.get_set_ne, ne_eq, Nat.reduceEqDiff, not_false_eq_true, h16]) (by simp only [Tr.get_set_self, Tr.get_set_ne, hd _, ne_eq, Nat.reduceEqDiff, not_false_eq_true, decide_true, Nat.reduceLT]; rw [oks_add, if_pos ⟨hp, hc⟩, List.length_append]; rfl) (by simp only [Tr.get_set_self, Tr.get_set_ne, hd _, ne_eq, Nat.reduceEqDiff, not_false_eq_true, decide_true, Nat.reduceLT])
        · have hoo : oks (done ++ [x]) = oks done := by rw [oks_add, if_neg hput, List.append_nil]
          rw [hoo] at hfin
          cases hp : x.put with
          | true =>
            rw [hp] at lp
            have hc0 : x.code ≠ 0 := fun h => hput ⟨hp, h⟩
            have bc0 : ((x.code : Int) == 0) = false := by rw [beq_eq_false_iff_ne]; omega
            refine W_seq (W_block (W_seq (W_seqR (by simp only [runSeq_cons, runSeq_nil, evalArgs_nil, evalArgs_tmp, evalArgs_const, val1, putT, Tr.get_set_self, Tr.get_set_ne, Tr.isSome_set, hd _, ne_eq, Nat.reduceEqDiff, not_false_eq_true, decide_true, Nat.reduceLT, opI_move, opI_eql, opI_pick, Nat.zero_add, runSeq_guard (b := true), beq_self_eq_true, h10, h21, ix, opI_fieldQ pp, lp, lc, bc0]; rfl) ?_)))
            refine W_cond (b := false) (by simp only [PArg.eval, Tr.get_set_self, Tr.get_set_ne, hd _, ne_eq, Nat.reduceEqDiff, not_false_eq_true, decide_true, Nat.reduceLT]; try rfl) (fun hb => by cases hb) (fun _ => W_skip ?_)
            show W _ _
            refine W_seqR (by simp only [runSeq_cons, runSeq_nil, evalArgs_nil, evalArgs_tmp, evalArgs_const, val1, putT, Tr.get_set_self, Tr.get_set_ne, hd _, ne_eq, Nat.reduceEqDiff, not_false_eq_true, decide_true, Nat.reduceLT, opI_move, opI_add, h21, wd]; rfl) ?_
            exact hfin _ (by ((repeat (with_reducible apply Dom.set)); exact hd)) (by simp only [Tr.get_set_ne, ne_eq, Nat.reduceEqDiff, not_false_eq_true, h10]) (by simp only [Tr.get_set_ne, ne_eq, Nat.reduceEqDiff, not_false_eq_true, h16]) (by simp only [Tr.get_set_ne, ne_eq, Nat.reduceEqDiff, not_false_eq_true, h18]) (by simp only [Tr.get_set_self, Tr.get_set_ne, hd _, ne_eq, Nat.reduceEqDiff, not_false_eq_true, decide_true, Nat.reduceLT])
          | false =>
            rw [hp] at lp
            refine W_seq (W_block (W_seq (W_seqR (by simp only [runSeq_cons, runSeq_nil, evalArgs_nil, evalArgs_tmp, evalArgs_const, val1, putT, Tr.get_set_self, Tr.get_set_ne, Tr.isSome_set, hd _, ne_eq, Nat.reduceEqDiff, not_false_eq_true, decide_true, Nat.reduceLT, opI_move, opI_pick, Nat.zero_add, runSeq_guard (b := false), Bool.false_beq, Bool.not_true, h10, h21, ix, opI_fieldQ pp, lp]; rfl) ?_)))
            refine W_cond (b := false) (by simp only [PArg.eval, Tr.get_set_self, Tr.get_set_ne, hd _, ne_eq, Nat.reduceEqDiff, not_false_eq_true, decide_true, Nat.reduceLT]; try rfl) (fun hb => by cases hb) (fun _ => W_skip ?_)
            show W _ _
            refine W_seqR (by simp only [runSeq_cons, runSeq_nil, evalArgs_nil, evalArgs_tmp, evalArgs_const, val1, putT, Tr.get_set_self, Tr.get_set_ne, hd _, ne_eq, Nat.reduceEqDiff, not_false_eq_true, decide_true, Nat.reduceLT, opI_move, opI_add, h21, wd]; rfl) ?_
            exact hfin _ (by ((repeat (with_reducible apply Dom.set)); exact hd)) (by simp only [Tr.get_set_ne, ne_eq, Nat.reduceEqDiff, not_false_eq_true, h10]) (by simp only [Tr.get_set_ne, ne_eq, Nat.reduceEqDiff, not_false_eq_true, h16]) (by simp only [Tr.get_set_ne, ne_eq, Nat.reduceEqDiff, not_false_eq_true, h18]) (by simp only [Tr.get_set_self, Tr.get_set_ne, hd _, ne_eq, Nat.reduceEqDiff, not_false_eq_true, decide_true, Nat.reduceLT])
      have hrest : rest = [] := by
        cases rest with
        | nil => rfl
        | cons x rest =>
          have h1 : done.length < s.deeds.length := by rw [hdr]; simp
          have := of_decide_eq_false hb
          omega
      subst hrest
      rw [List.append_nil] at hdr
      subst hdr
      show W _ _
      have lm : opI .lenM [.map (some M7.n)] K2 = some (.val (.int .i64 (allOut s S).length) K2) := by
        have he : lenI K2 (.map (some M7.n)) = some (.int .i64 (allOut s S).length) := by
          unfold lenI
          simp only [gK, AMem.entries, ents_len, ones, List.length_map]
        simp only [opI, he]
      have hbe : (((allOut s S).length : Int) == ((oks s.deeds).length : Int)) = true := by
        rw [hZp.length_eq]; simp
      refine W_seq (W_seqR (by simp only [runSeq_cons, runSeq_nil, evalArgs_nil, evalArgs_tmp, val1, putT, Tr.get_set_self, Tr.get_set_ne, hd _, ne_eq, Nat.reduceEqDiff, not_false_eq_true, decide_true, Nat.reduceLT, opI_move, opI_eql, h16, h18, lm, hbe]; rfl) (W_ret ?_))
      exact ⟨_, fin_tmp (by simp only [Tr.get_set_self, Tr.get_set_ne, hd _, ne_eq, Nat.reduceEqDiff, not_false_eq_true, decide_true, Nat.reduceLT]; try rfl), rfl⟩
end Go.Proofs.Ytldijnabgabehaa.so
