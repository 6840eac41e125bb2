/- The walk of Right. -/
import Derived.Test.YtmaldkpkodcggaaGrIn
namespace Go.Proofs.Ytmaldkpkodcggaa.grf
open Go Go.Vx
set_option maxRecDepth 20000 in
set_option maxHeartbeats 4000000 in
theorem right_ok {v : AV} {js : List Jb} (d : Nat) (M0 : AMem) (hok : Okg M0) (hv : JobsOk M0.g v js) :
    Ans (callF tbl code 100000 (d + 1)) 13 [v] M0 fun r M' => Step M0 M' ∧ ∃ b, r = .bool b ∧ (b = true ↔ RightP js) := by
  refine Ans_of (tbl_none (by decide) _) (show code 13 = some c13 from by kernel_rfl) (by simp) fun t hd ha => ?_
  have h0 := ha 0 _ rfl
  clear ha
  have hlen := hv.len
  have lv := hv.jin.lenS M0 rfl
  have no : ∀ (Q : PEx → Tr AV → AMem → Prop) (t : Tr AV) (M : AMem), Dom t 42 → (∀ t' : Tr AV, t'.get 2 = some (.bool false) → Q .ret t' M) → W (exec (callF tbl code 100000 d) 100000 (.seq (.seqR [⟨.move, [.const (.bool false)], (some 2), none⟩]) .ret) t M) Q := fun Q t M hd hq => by
    refine W_seq (W_seqR (by simp only [runSeq_cons, runSeq_nil, evalArgs_nil, evalArgs_const, val1, putT, opI_move]; rfl) (W_ret ?_))
    exact hq _ (by simp only [Tr.get_set_self, hd _, decide_true, Nat.reduceLT])
  refine W_seq (W_seqR (by simp only [runSeq_cons, runSeq_nil, evalArgs_nil, evalArgs_const, val1, putT, opI_move]; rfl) ?_)
  refine W_seq (W_seq (W_seqR (by simp only [runSeq_cons, runSeq_nil, evalArgs_nil, evalArgs_tmp, evalArgs_const, val1, putT, Tr.get_set_self, Tr.get_set_ne, hd _, ne_eq, Nat.reduceEqDiff, not_false_eq_true, decide_true, Nat.reduceLT, opI_move, opI_gtr, h0, lv]; rfl) ?_))
  by_cases c1 : js.length > 200
  · have e1 : decide ((js.length : Int) > 200) = true := decide_eq_true (by omega)
    exact W_cond (b := true) (by simp only [PArg.eval, Tr.get_set_self, Tr.get_set_ne, hd _, ne_eq, Nat.reduceEqDiff, not_false_eq_true, decide_true, Nat.reduceLT, e1]) (fun _ => by refine no _ _ _ ?_ (fun t' hh => ⟨_, fin_tmp hh, (Step.refl hok), false, rfl, by simp, fun h => absurd h (fun h => by have := h.1; omega)⟩); ((repeat (with_reducible apply Dom.set)); exact hd)) (fun hb => by cases hb)
  have e1 : decide ((js.length : Int) > 200) = false := decide_eq_false (by omega)
  refine W_cond (b := false) (by simp only [PArg.eval, Tr.get_set_self, Tr.get_set_ne, hd _, ne_eq, Nat.reduceEqDiff, not_false_eq_true, decide_true, Nat.reduceLT, e1]) (fun hb => by cases hb) (fun _ => W_skip ?_)
  show W _ _
  obtain ⟨m1, m2, m3⟩ := makeMap_own (Step.refl hok)
  have m3' : (M0.push (.map (ents .i64 []))).get M0.n = some (.map (ents .u64 [])) := m3
  have lv1 := hv.jin.lenS (M0.push (.map (ents .i64 []))) rfl
  refine W_seq (W_seqR (by simp only [runSeq_cons, runSeq_nil, evalArgs_nil, evalArgs_tmp, val1, putT, Tr.get_set_self, Tr.get_set_ne, hd _, ne_eq, Nat.reduceEqDiff, not_false_eq_true, decide_true, Nat.reduceLT, opI_move, m1]; rfl) ?_)
  refine W_seq (W_seq (W_seqR (by simp only [runSeq_cons, runSeq_nil, evalArgs_nil, evalArgs_tmp, evalArgs_const, val1, putT, Tr.get_set_self, Tr.get_set_ne, hd _, ne_eq, Nat.reduceEqDiff, not_false_eq_true, decide_true, Nat.reduceLT, opI_move, h0, lv1]; rfl) (W_block (W_loop (fun k t M' => ∃ (i : Nat) (es : List (Int × AV)), k + i = js.length ∧ Step M0 M' ∧ M'.get M0.n = some (.map (ents .u64 es)) ∧ (∀ y, (asg y es = none ∧ ∀ j, j < i → (jb js j).task ≠ y) ∨ (asg y es = some (.bool true) ∧ ∃ j, j < i ∧ (jb js j).task = y)) ∧ (∀ j, j < i → (∀ k, k < j → (jb js k).task ≠ (jb js j).task) ∧ ∀ q, q < (jb js j).kids.length → 0 ≤ kid js j q ∧ kid js j q < js.length) ∧ Dom t 42 ∧ t.get 0 = some v ∧ t.get 3 = some (.map (some M0.n)) ∧ t.get 12 = some v ∧ t.get 13 = some (.int .i64 js.length) ∧ t.get 14 = some (.int .i64 i)) (k := js.length) (by omega) ?_ ?_))))
  · exact ⟨0, [], rfl, m2, m3', fun y => .inl ⟨rfl, fun j hj => by omega⟩, fun j hj => by omega, by ((repeat (with_reducible apply Dom.set)); exact hd), by simp only [Tr.get_set_ne, ne_eq, Nat.reduceEqDiff, not_false_eq_true, h0], by simp only [Tr.get_set_self, Tr.get_set_ne, hd _, ne_eq, Nat.reduceEqDiff, not_false_eq_true, decide_true, Nat.reduceLT], by simp only [Tr.get_set_self, Tr.get_set_ne, hd _, ne_eq, Nat.reduceEqDiff, not_false_eq_true, decide_true, Nat.reduceLT], by simp only [Tr.get_set_self, Tr.get_set_ne, hd _, ne_eq, Nat.reduceEqDiff, not_false_eq_true, decide_true, Nat.reduceLT], by simp only [Tr.get_set_self, Tr.get_set_ne, hd _, ne_eq, Nat.reduceEqDiff, not_false_eq_true, decide_true, Nat.reduceLT]; rfl⟩
  clear h0 hd m1 m2 m3 m3' lv lv1
  intro k t M ⟨i, es, hk, st, hm, hes, hrt, hd, h0, h3, h12, h13, h14⟩
  refine W_seq (W_seqR (by simp only [runSeq_cons, runSeq_nil, evalArgs_nil, evalArgs_tmp, val1, putT, opI_lss, h13, h14]; rfl) (W_seq ?_))
  refine W_cond (by simp only [PArg.eval, Tr.get_set_self, hd _, decide_true, Nat.reduceLT]; rfl) (fun hb => ?_) (fun hb => ?_)
  rotate_left
  · refine W_exit ?_
    have hi : i = js.length := by simp at hb; omega
    subst hi
    show W _ _
    refine W_seq (W_seqR (by simp only [runSeq_cons, runSeq_nil, evalArgs_nil, evalArgs_const, val1, putT, opI_move]; rfl) (W_ret ?_))
    exact ⟨_, fin_tmp (by simp only [Tr.get_set_self, Tr.get_set_ne, hd _, ne_eq, Nat.reduceEqDiff, not_false_eq_true, decide_true, Nat.reduceLT]; try rfl), st, true, rfl, fun _ => ⟨by omega, hrt⟩, fun _ => rfl⟩
  have hin : i < js.length := by simpa using hb
  obtain ⟨p, pp, p1, p2, _, _⟩ := hv.jin.at_ hin M st.grow.g
  have hrow := hv.jin.row hin
  have h1row := (hrow M st.grow.g).one2
  have s2 := st.push (k := .cells [.int .u64 0, .slice none 0 0 false] 0 true none) (fun _ _ _ _ he => by cases he)
  have g2 := get_push_self (k := .cells [.int .u64 0, .slice none 0 0 false] 0 true none) st.ok.1
  obtain ⟨e3, s3, g3, k3⟩ := store_all (n := 2) (new := [.int .u64 (jb js i).task, (jb js i).kv]) s2 st.grow.n g2 rfl rfl (by simp [one_int, h1row.1])
  have hmlt := get_lt st.ok.1 hm
  have hm3 := (k3 M0.n (by omega)).trans ((get_push_old (k := .cells [.int .u64 0, .slice none 0 0 false] 0 true none) st.ok.1 hmlt).trans hm)
  refine W_skip (W_seq (W_block (W_seq (W_seqR (by simp only [runSeq_cons, runSeq_nil, evalArgs_nil, evalArgs_tmp, val1, putT, Tr.get_set_self, Tr.get_set_ne, hd _, ne_eq, Nat.reduceEqDiff, not_false_eq_true, decide_true, Nat.reduceLT, opI_new, h12, h14, p1, p2, e3]; rfl) ?_))))
  clear p1 p2 e3 s2 g2 k3
  generalize (M.push (.cells [.int .u64 0, .slice none 0 0 false] 0 true none)).set M.n (.cells [.int .u64 (jb js i).task, (jb js i).kv] 0 true none) = MB at *
  have L0 := load_own (o := 0) g3 rfl
  have hlk := lookup_own (ok := false) (z := .bool false) (x := (jb js i).task) hm3
  show W _ _
  rcases hes (jb js i).task with ⟨a1, a2⟩ | ⟨a1, j, a2, a3⟩
  rotate_left
  · rw [a1] at hlk
    refine W_seq (W_seq (W_seqR (by simp only [runSeq_cons, runSeq_nil, evalArgs_nil, evalArgs_tmp, val1, putT, Tr.get_set_self, Tr.get_set_ne, hd _, ne_eq, Nat.reduceEqDiff, not_false_eq_true, decide_true, Nat.reduceLT, opI_move, opI_fieldP, Nat.add_zero, h3, L0, hlk, resL, Bool.false_eq_true, if_false]; rfl) ?_))
    exact W_cond (b := true) (by simp only [PArg.eval, Tr.get_set_self, Tr.get_set_ne, hd _, ne_eq, Nat.reduceEqDiff, not_false_eq_true, decide_true, Nat.reduceLT]; try rfl) (fun _ => by refine no _ _ _ ?_ (fun t' hh => ⟨_, fin_tmp hh, s3, false, rfl, by simp, fun h => absurd h (fun h => (h.2 i hin).1 j a2 a3)⟩); ((repeat (with_reducible apply Dom.set)); exact hd)) (fun hb => by cases hb)
  rw [a1] at hlk
  refine W_seq (W_seq (W_seqR (by simp only [runSeq_cons, runSeq_nil, evalArgs_nil, evalArgs_tmp, val1, putT, Tr.get_set_self, Tr.get_set_ne, hd _, ne_eq, Nat.reduceEqDiff, not_false_eq_true, decide_true, Nat.reduceLT, opI_move, opI_fieldP, Nat.add_zero, h3, L0, hlk, resL, Bool.false_eq_true, if_false]; rfl) ?_))
  refine W_cond (b := false) (by simp only [PArg.eval, Tr.get_set_self, Tr.get_set_ne, hd _, ne_eq, Nat.reduceEqDiff, not_false_eq_true, decide_true, Nat.reduceLT]; try rfl) (fun hb => by cases hb) (fun _ => W_skip ?_)
  show W _ _
  obtain ⟨es', u1, u2, u3, u4, u5⟩ := update_own (x := (jb js i).task) (v := .bool true) s3 (Nat.le_refl _) hm3
  have hxm : ¬ gid M.n (.cells [.int .u64 (jb js i).task, (jb js i).kv] 0 true none) = M0.n := by show ¬ M.n = M0.n; omega
  have g4 := u5 M.n _ g3 hxm
  have L1 := load_own (o := 1) g4 rfl
  refine W_seq (W_seqR (by simp only [runSeq_cons, runSeq_nil, evalArgs_nil, evalArgs_tmp, evalArgs_const, val1, putT, Tr.get_set_self, Tr.get_set_ne, hd _, ne_eq, Nat.reduceEqDiff, not_false_eq_true, decide_true, Nat.reduceLT, opI_move, opI_fieldP, Nat.add_zero, h3, L0, u1]; rfl) ?_)
  have lk := hv.jin.kidLen hin _ u3.grow.g
  refine W_seq (W_seqR (by simp only [runSeq_cons, runSeq_nil, evalArgs_nil, evalArgs_tmp, evalArgs_const, val1, putT, Tr.get_set_self, Tr.get_set_ne, hd _, ne_eq, Nat.reduceEqDiff, not_false_eq_true, decide_true, Nat.reduceLT, opI_move, opI_fieldP, Nat.zero_add, L1, lk]; rfl) ?_)
  have hkid := hv.kids i hin
  clear u1 L0 L1 g3 g4 hm3 s3 hlk
  generalize MB.set M0.n (.map (ents .u64 es')) = MC at *
  refine W_block (W_loop (fun kk t M' => ∃ (q : Nat), kk + q = (jb js i).kids.length ∧ M' = MC ∧ (∀ r, r < q → 0 ≤ kid js i r ∧ kid js i r < js.length) ∧ Dom t 42 ∧ t.get 0 = some v ∧ t.get 3 = some (.map (some M0.n)) ∧ t.get 12 = some v ∧ t.get 13 = some (.int .i64 js.length) ∧ t.get 14 = some (.int .i64 i) ∧ t.get 26 = some (jb js i).kv ∧ t.get 27 = some (.int .i64 (jb js i).kids.length) ∧ t.get 28 = some (.int .i64 q)) (k := (jb js i).kids.length) (by omega) ?_ ?_)
  · exact ⟨0, rfl, rfl, fun r hr => by omega, by ((repeat (with_reducible apply Dom.set)); exact hd), by simp only [Tr.get_set_ne, ne_eq, Nat.reduceEqDiff, not_false_eq_true, h0], by simp only [Tr.get_set_ne, ne_eq, Nat.reduceEqDiff, not_false_eq_true, h3], by simp only [Tr.get_set_ne, ne_eq, Nat.reduceEqDiff, not_false_eq_true, h12], by simp only [Tr.get_set_ne, ne_eq, Nat.reduceEqDiff, not_false_eq_true, h13], by simp only [Tr.get_set_ne, ne_eq, Nat.reduceEqDiff, not_false_eq_true, h14], by simp only [Tr.get_set_self, Tr.get_set_ne, hd _, ne_eq, Nat.reduceEqDiff, not_false_eq_true, decide_true, Nat.reduceLT], by simp only [Tr.get_set_self, Tr.get_set_ne, hd _, ne_eq, Nat.reduceEqDiff, not_false_eq_true, decide_true, Nat.reduceLT], by simp only [Tr.get_set_self, Tr.get_set_ne, hd _, ne_eq, Nat.reduceEqDiff, not_false_eq_true, decide_true, Nat.reduceLT]; rfl⟩
  clear h0 h3 h12 h13 h14 hd
  intro kk t M' ⟨q, hkk, hM, hq, hd, h0, h3, h12, h13, h14, h26, h27, h28⟩
  subst hM
  refine W_seq (W_seqR (by simp only [runSeq_cons, runSeq_nil, evalArgs_nil, evalArgs_tmp, val1, putT, opI_lss, h27, h28]; rfl) (W_seq ?_))
  refine W_cond (by simp only [PArg.eval, Tr.get_set_self, hd _, decide_true, Nat.reduceLT]; rfl) (fun hb => ?_) (fun hb => ?_)
  rotate_left
  · refine W_exit ?_
    have hqq : q = (jb js i).kids.length := by simp at hb; omega
    show W _ _
    refine W_seqR (by simp only [runSeq_cons, runSeq_nil, evalArgs_nil, evalArgs_tmp, evalArgs_const, val1, putT, Tr.get_set_self, Tr.get_set_ne, hd _, ne_eq, Nat.reduceEqDiff, not_false_eq_true, decide_true, Nat.reduceLT, opI_move, opI_add, h14]; rfl) ?_
    refine ⟨k - 1, by omega, i + 1, es', by omega, u3, u4, fun y => ?_, fun j hj => ?_, by ((repeat (with_reducible apply Dom.set)); exact hd), by simp only [Tr.get_set_ne, ne_eq, Nat.reduceEqDiff, not_false_eq_true, h0], by simp only [Tr.get_set_ne, ne_eq, Nat.reduceEqDiff, not_false_eq_true, h3], by simp only [Tr.get_set_ne, ne_eq, Nat.reduceEqDiff, not_false_eq_true, h12], by simp only [Tr.get_set_ne, ne_eq, Nat.reduceEqDiff, not_false_eq_true, h13], ?_⟩
    · rw [u2 y]
      by_cases hy : y = (jb js i).task
      · right
        rw [if_pos hy]
        exact ⟨rfl, i, by omega, hy.symm⟩
      · rw [if_neg hy]
        rcases hes y with ⟨b1, b2⟩ | ⟨b1, j, b2, b3⟩
        · left
          refine ⟨b1, fun j hj => ?_⟩
          rcases Nat.lt_or_ge j i with h | h
          · exact b2 j h
          · rw [show j = i by omega]; exact fun h => hy h.symm
        · exact .inr ⟨b1, j, by omega, b3⟩
    · rcases Nat.lt_or_ge j i with h | h
      · exact hrt j h
      · obtain rfl : j = i := by omega
        exact ⟨fun k hk' => a2 k hk', fun r hr => hq r (by omega)⟩
    · simp only [Tr.get_set_self, Tr.get_set_ne, hd _, ne_eq, Nat.reduceEqDiff, not_false_eq_true, decide_true, Nat.reduceLT]
      rw [wrapF_small (by omega) (by omega)]; rfl
  have hql : q < (jb js i).kids.length := by simpa using hb
  obtain ⟨r, rr, r1, r2⟩ := hv.jin.kidAt hin hql M' u3.grow.g
  have lvC := hv.jin.lenS M' u3.grow.g
  refine W_skip (W_seq (W_block (W_seq (W_seqR (by simp only [runSeq_cons, runSeq_nil, evalArgs_nil, evalArgs_tmp, val1, putT, Tr.get_set_self, Tr.get_set_ne, hd _, ne_eq, Nat.reduceEqDiff, not_false_eq_true, decide_true, Nat.reduceLT, opI_move, h26, h28, r1, r2]; rfl) ?_))))
  show W _ _
  by_cases b1 : kid js i q < 0
  · have f1 : decide (kid js i q < 0) = true := decide_eq_true b1
    refine W_seq (W_seqR (by simp only [runSeq_cons, runSeq_nil, evalArgs_nil, evalArgs_tmp, evalArgs_const, val1, putT, Tr.get_set_self, Tr.get_set_ne, Tr.isSome_set, hd _, ne_eq, Nat.reduceEqDiff, not_false_eq_true, decide_true, Nat.reduceLT, opI_move, opI_lss, opI_pick, runSeq_guard (b := true), Bool.true_beq, f1]; rfl) ?_)
    exact W_cond (b := true) (by simp only [PArg.eval, Tr.get_set_self, Tr.get_set_ne, hd _, ne_eq, Nat.reduceEqDiff, not_false_eq_true, decide_true, Nat.reduceLT]; try rfl) (fun _ => by refine no _ _ _ ?_ (fun t' hh => ⟨_, fin_tmp hh, u3, false, rfl, by simp, fun h => absurd h (fun h => by have := (h.2 i hin).2 q hql; omega)⟩); ((repeat (with_reducible apply Dom.set)); exact hd)) (fun hb => by cases hb)
  have f1 : decide (kid js i q < 0) = false := decide_eq_false b1
  by_cases b2 : kid js i q ≥ js.length
  · have f2 : decide (kid js i q ≥ (js.length : Int)) = true := decide_eq_true b2
    refine W_seq (W_seqR (by simp only [runSeq_cons, runSeq_nil, evalArgs_nil, evalArgs_tmp, evalArgs_const, val1, putT, Tr.get_set_self, Tr.get_set_ne, Tr.isSome_set, hd _, ne_eq, Nat.reduceEqDiff, not_false_eq_true, decide_true, Nat.reduceLT, opI_move, opI_lss, opI_geq, opI_pick, runSeq_guard (b := false), beq_self_eq_true, h0, lvC, f1, f2]; rfl) ?_)
    exact W_cond (b := true) (by simp only [PArg.eval, Tr.get_set_self, Tr.get_set_ne, hd _, ne_eq, Nat.reduceEqDiff, not_false_eq_true, decide_true, Nat.reduceLT]; try rfl) (fun _ => by refine no _ _ _ ?_ (fun t' hh => ⟨_, fin_tmp hh, u3, false, rfl, by simp, fun h => absurd h (fun h => by have := (h.2 i hin).2 q hql; omega)⟩); ((repeat (with_reducible apply Dom.set)); exact hd)) (fun hb => by cases hb)
  have f2 : decide (kid js i q ≥ (js.length : Int)) = false := decide_eq_false b2
  refine W_seq (W_seqR (by simp only [runSeq_cons, runSeq_nil, evalArgs_nil, evalArgs_tmp, evalArgs_const, val1, putT, Tr.get_set_self, Tr.get_set_ne, Tr.isSome_set, hd _, ne_eq, Nat.reduceEqDiff, not_false_eq_true, decide_true, Nat.reduceLT, opI_move, opI_lss, opI_geq, opI_pick, runSeq_guard (b := false), beq_self_eq_true, h0, lvC, f1, f2]; rfl) ?_)
  refine W_cond (b := false) (by simp only [PArg.eval, Tr.get_set_self, Tr.get_set_ne, hd _, ne_eq, Nat.reduceEqDiff, not_false_eq_true, decide_true, Nat.reduceLT]; try rfl) (fun hb => by cases hb) (fun _ => W_skip ?_)
  show W _ _
  refine W_seqR (by simp only [runSeq_cons, runSeq_nil, evalArgs_nil, evalArgs_tmp, evalArgs_const, val1, putT, Tr.get_set_self, Tr.get_set_ne, hd _, ne_eq, Nat.reduceEqDiff, not_false_eq_true, decide_true, Nat.reduceLT, opI_move, opI_add, h28]; rfl) ?_
  refine ⟨kk - 1, by omega, q + 1, by omega, rfl, fun r hr => ?_, by ((repeat (with_reducible apply Dom.set)); exact hd), by simp only [Tr.get_set_ne, ne_eq, Nat.reduceEqDiff, not_false_eq_true, h0], by simp only [Tr.get_set_ne, ne_eq, Nat.reduceEqDiff, not_false_eq_true, h3], by simp only [Tr.get_set_ne, ne_eq, Nat.reduceEqDiff, not_false_eq_true, h12], by simp only [Tr.get_set_ne, ne_eq, Nat.reduceEqDiff, not_false_eq_true, h13], by simp only [Tr.get_set_ne, ne_eq, Nat.reduceEqDiff, not_false_eq_true, h14], by simp only [Tr.get_set_ne, ne_eq, Nat.reduceEqDiff, not_false_eq_true, h26], by simp only [Tr.get_set_ne, ne_eq, Nat.reduceEqDiff, not_false_eq_true, h27], ?_⟩
  · rcases Nat.lt_or_ge r q with h | h
    · exact hq r h
    · obtain rfl : r = q := by omega
      omega
  · simp only [Tr.get_set_self, Tr.get_set_ne, hd _, ne_eq, Nat.reduceEqDiff, not_false_eq_true, decide_true, Nat.reduceLT]
    rw [wrapF_small (by omega) (by omega)]; rfl
end Go.Proofs.Ytmaldkpkodcggaa.grf
