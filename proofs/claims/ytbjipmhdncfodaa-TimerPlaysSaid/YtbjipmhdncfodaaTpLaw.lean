/- The walk of the law TimerPlays. -/
import Derived.Test.YtbjipmhdncfodaaTpInv
namespace Go.Proofs.Ytbjipmhdncfodaa.grf
open Go Go.Vx
structure Ac where
  kind : Int
  at_ : Int
  task : Int
  n : Int
def dAc : Ac := ⟨0, 0, 0, 0⟩
def eAc (a : Ac) : List AV := [.int .u8 a.kind, .int .i64 a.at_, .int .u64 a.task, .int .i64 a.n]
def ActsIn (G : Addr → Option AV) (v : AV) (xs : List Ac) : Prop := ∃ a c, v = .rslice a xs.length c ∧ ∀ i, i < xs.length → ∃ p, a = some p ∧ ∀ o, o < 4 → G (p.add (i * 4 + o)) = (eAc (xs.getD i dAc))[o]?
theorem act_at {G : Addr → Option AV} {v : AV} {xs : List Ac} (h : ActsIn G v xs) {i : Nat} (hi : i < xs.length) : ∃ q : Addr, (∀ M, opI (.indexAddrS 4) [v, .int .i64 i] M = some (.val (.rptr (some q)) M)) ∧ ∀ M : AMem, M.g = G →
    opI (.load false 1) [.rptr (some (q.add 0))] M = some (.val (.int .u8 (xs.getD i dAc).kind) M) ∧ opI (.load false 1) [.rptr (some (q.add 1))] M = some (.val (.int .i64 (xs.getD i dAc).at_) M) ∧
    opI (.load false 1) [.rptr (some (q.add 2))] M = some (.val (.int .u64 (xs.getD i dAc).task) M) ∧ opI (.load false 1) [.rptr (some (q.add 3))] M = some (.val (.int .i64 (xs.getD i dAc).n) M) := by
  obtain ⟨a, c, rfl, hg⟩ := h
  obtain ⟨p, rfl, hp⟩ := hg i hi
  refine ⟨p.add (i * 4), fun M => index_in hi, fun M hM => ⟨load_in ?_, load_in ?_, load_in ?_, load_in ?_⟩⟩ <;> rw [addr_add_add, hM, hp _ (by omega)] <;> rfl
theorem acts_len {G : Addr → Option AV} {v : AV} {xs : List Ac} (h : ActsIn G v xs) (M : AMem) : opI .lenS [v] M = some (.val (.int .i64 xs.length) M) := by
  obtain ⟨a, c, rfl, hg⟩ := h; rfl
theorem close3 {M0 B M4 : AMem} {J : Nat → Prop} {tb mb m4 : Nat} {l D : List En} {nn now : Int} {w : AV} {cs : List AV} (hT : TS M0 B J tb mb l nn now) (s4 : Step B M4) (hm0 : M0.n ≤ m4) (gm : B.get m4 = some (.cells cs 0 true none)) (hl : cs.length = 3) (hJ : ¬ J m4) (hw : w.one = true) (hr : RowL M4 J m4 w D) :
    ∃ M5, opI (.store 3) [.ptr (some (m4, 0)), .agg (tA w nn now)] M4 = some (.val (.tuple []) M5) ∧ TS M0 M5 J tb mb l nn now ∧ M5.get m4 = some (.cells (tA w nn now) 0 true none) ∧ RowL M5 J m4 w D := by
  have gm4 := (s4.grow.get _ (get_lt hT.h.step.ok.1 gm)).trans gm
  have sT := hT.h.step.trans s4
  obtain ⟨e5, s5, g5, k5⟩ := store_all (n := 3) (new := tA w nn now) sT hm0 gm4 rfl hl (by simp only [List.all_cons, hw]; rfl)
  have f5 : Fr M4 (M4.set m4 (.cells (tA w nn now) 0 true none)) (· = m4) := Fr.set gm4
  have hT4 := hT.h.frame sT s4.grow.n (Fr.grow (ids := fun _ => False) hT.h.step.ok.1 s4.grow) (fun _ _ _ hh => hh)
  have hm4 := hT.m.frame (Fr.grow (ids := fun _ => False) hT.h.step.ok.1 s4.grow) (fun hh => hh)
  refine ⟨_, e5, ⟨hT4.frame s5 (Nat.le_refl _) f5 (fun i hi _ hh => hJ (hh ▸ hi)), hm4.frame f5 (fun hh => hJ (hh ▸ hT.h.jm)), hT.ns⟩, g5, hr.frame f5 (fun δ _ h2 hh => h2 hh) (Nat.le_refl _) (fun _ hj => .inl hj)⟩
set_option maxRecDepth 20000 in
set_option maxHeartbeats 16000000 in
theorem timerPlays_ok {v : AV} {xs : List Ac} (d : Nat) (M0 : AMem) (hok : Okg M0) (hA : ActsIn M0.g v xs) :
    Ans (callF tbl code 100000 (d + 8)) 4 [v] M0 fun r _ => r = .bool true := by
  refine Ans_of (fun M => by unfold tbl tbl0 lib colX srtX collectX sortP; rw [if_neg (by decide), if_neg (by decide), if_neg (by decide)]) (show code 4 = some c4 from by kernel_rfl) (by simp) fun t hd ha => ?_
  have h0 := ha 0 _ rfl
  clear ha
  have haw : callF tbl code 100000 (d + 7) 5 [] M0 = some (.bool true, M0) := rfl
  refine W_seq (W_seqR (by simp only [runSeq_cons, runSeq_nil, evalArgs_nil, evalArgs_const, val1, putT, opI_move]; rfl) ?_)
  refine W_seq (W_seq (W_seqR (by simp only [runSeq_cons, runSeq_nil, evalArgs_nil, evalArgs_tmp, val1, putT, Tr.get_set_self, Tr.get_set_ne, hd _, ne_eq, Nat.reduceEqDiff, not_false_eq_true, decide_true, Nat.reduceLT, opI_not, opI_callF, haw]; rfl) ?_))
  refine W_cond (b := false) (by simp only [PArg.eval, Tr.get_set_self, Tr.get_set_ne, hd _, ne_eq, Nat.reduceEqDiff, not_false_eq_true, decide_true, Nat.reduceLT]; try rfl) (fun hb => by cases hb) (fun _ => W_skip ?_)
  show W _ _
  have l0 := acts_len hA M0
  by_cases big : xs.length > 200
  · have e1 : decide ((xs.length : Int) > 200) = true := decide_eq_true (by omega)
    refine W_seq (W_seq (W_seqR (by simp only [runSeq_cons, runSeq_nil, evalArgs_nil, evalArgs_tmp, evalArgs_const, val1, putT, Tr.get_set_self, Tr.get_set_ne, hd _, ne_eq, Nat.reduceEqDiff, not_false_eq_true, decide_true, Nat.reduceLT, opI_move, opI_gtr, h0, l0, e1]; rfl) ?_))
    refine W_cond (b := true) (by simp only [PArg.eval, Tr.get_set_self, Tr.get_set_ne, hd _, ne_eq, Nat.reduceEqDiff, not_false_eq_true, decide_true, Nat.reduceLT]; try rfl) (fun _ => ?_) (fun hb => by cases hb)
    refine W_seq (W_seqR (by simp only [runSeq_cons, runSeq_nil, evalArgs_nil, evalArgs_const, val1, putT, opI_move]; rfl) (W_ret ?_))
    exact ⟨_, fin_tmp (by simp only [Tr.get_set_self, Tr.get_set_ne, Option.isSome_some, hd _, ne_eq, Nat.reduceEqDiff, not_false_eq_true, decide_true, Nat.reduceLT]; try rfl), rfl⟩
  have e1 : decide ((xs.length : Int) > 200) = false := decide_eq_false (by omega)
  refine W_seq (W_seq (W_seqR (by simp only [runSeq_cons, runSeq_nil, evalArgs_nil, evalArgs_tmp, evalArgs_const, val1, putT, Tr.get_set_self, Tr.get_set_ne, hd _, ne_eq, Nat.reduceEqDiff, not_false_eq_true, decide_true, Nat.reduceLT, opI_move, opI_gtr, h0, l0, e1]; rfl) ?_))
  refine W_cond (b := false) (by simp only [PArg.eval, Tr.get_set_self, Tr.get_set_ne, hd _, ne_eq, Nat.reduceEqDiff, not_false_eq_true, decide_true, Nat.reduceLT]; try rfl) (fun hb => by cases hb) (fun _ => W_skip ?_)
  show W _ _
  obtain ⟨_, M1, n1, tb, mb, rfl, hT⟩ := new_ok (d + 6) M0 hok
  refine W_seq (W_seqR (by simp only [runSeq_cons, runSeq_nil, evalArgs_nil, evalArgs_tmp, val1, putT, Tr.get_set_self, Tr.get_set_ne, hd _, ne_eq, Nat.reduceEqDiff, not_false_eq_true, decide_true, Nat.reduceLT, opI_move, opI_callF, n1]; rfl) ?_)
  have hok1 := hT.h.step.ok
  have b1 : opI (.build [.slice none 0 0 false, .int .i64 0, .int .i64 0] []) [] M1 = some (.val (.agg (tA (.slice none 0 0 false) 0 0)) M1) := rfl
  have s2 := (Step.refl hok1).push (k := .cells [.slice none 0 0 false, .int .i64 0, .int .i64 0] 0 true none) (fun _ _ _ _ he => by cases he)
  have g2 := get_push_self (k := .cells [.slice none 0 0 false, .int .i64 0, .int .i64 0] 0 true none) hok1.1
  obtain ⟨e3, s3, g3, k3⟩ := store_all (n := 3) (new := tA (.slice none 0 0 false) 0 0) s2 (Nat.le_refl _) g2 rfl rfl rfl
  refine W_seq (W_seqR (by simp only [runSeq_cons, runSeq_nil, evalArgs_nil, evalArgs_tmp, val1, putT, Tr.get_set_self, Tr.get_set_ne, hd _, ne_eq, Nat.reduceEqDiff, not_false_eq_true, decide_true, Nat.reduceLT, opI_new, b1, e3]; rfl) ?_)
  obtain ⟨m4, hm4⟩ : ∃ m4, m4 = M1.n := ⟨_, rfl⟩
  have hLI : LI M0 ((M1.push (.cells [.slice none 0 0 false, .int .i64 0, .int .i64 0] 0 true none)).set M1.n (.cells (tA (.slice none 0 0 false) 0 0) 0 true none)) tb mb m4 0 := by
    have hg : Grow M1 ((M1.push (.cells [.slice none 0 0 false, .int .i64 0, .int .i64 0] 0 true none)).set M1.n (.cells (tA (.slice none 0 0 false) 0 0) 0 true none)) := s3.grow
    have hf := Fr.grow (ids := fun _ => False) hok1.1 hg
    refine ⟨[], [], _, .slice none 0 0 false, 0, 0, ⟨hT.h.frame (hT.h.step.trans s3) hg.n hf (fun _ _ _ hh => hh), hT.m.frame hf (fun hh => hh), hT.ns⟩, ?_, ?_, ?_, .inr ⟨rfl, rfl⟩, ⟨.refl _, List.Pairwise.nil, List.nodup_nil⟩, Nat.le_refl _, Int.le_refl _, by simp⟩
    · rw [hm4]; exact hT.h.step.grow.n
    · rw [hm4]; exact g3
    · intro hj
      have := (hT.h.jlo _ hj).2
      omega
  rw [← hm4] at hLI
  refine W_seq (W_seq (W_seqR (by simp only [runSeq_cons, runSeq_nil, evalArgs_nil, evalArgs_const, val1, putT, opI_move]; rfl) (W_block (W_loop (fun k t M' => ∃ (i : Nat), k + i = xs.length ∧ LI M0 M' tb mb m4 i ∧ Dom t 139 ∧ t.get 0 = some v ∧ t.get 3 = some (.ptr (some (tb, 0))) ∧ t.get 4 = some (.ptr (some (m4, 0))) ∧ t.get 5 = some (.int .i64 i)) (k := xs.length) (by omega) ?_ ?_))))
  · rw [hm4]
    exact ⟨0, rfl, by rw [← hm4]; exact hLI, by ((repeat (with_reducible apply Dom.set)); exact hd), by simp only [Tr.get_set_ne, ne_eq, Nat.reduceEqDiff, not_false_eq_true, h0], by simp only [Tr.get_set_self, Tr.get_set_ne, hd _, ne_eq, Nat.reduceEqDiff, not_false_eq_true, decide_true, Nat.reduceLT], by simp only [Tr.get_set_self, Tr.get_set_ne, hd _, ne_eq, Nat.reduceEqDiff, not_false_eq_true, decide_true, Nat.reduceLT], by simp only [Tr.get_set_self, Tr.get_set_ne, hd _, ne_eq, Nat.reduceEqDiff, not_false_eq_true, decide_true, Nat.reduceLT]; rfl⟩
  clear hLI h0 hd haw l0 e1 n1 b1 e3 s2 g2 s3 g3 k3 hT hok1 hm4
  intro k t M ⟨i, hk, hLI, hd, h0, h3, h4, h5⟩
  have lv := acts_len hA M
  refine W_seq (W_seq (W_seqR (by simp only [runSeq_cons, runSeq_nil, evalArgs_nil, evalArgs_tmp, val1, putT, Tr.get_set_self, Tr.get_set_ne, hd _, ne_eq, Nat.reduceEqDiff, not_false_eq_true, decide_true, Nat.reduceLT, opI_move, opI_lss, h0, h5, lv]; rfl) ?_))
  refine W_cond (by simp only [PArg.eval, Tr.get_set_self, Tr.get_set_ne, hd _, ne_eq, Nat.reduceEqDiff, not_false_eq_true, decide_true, Nat.reduceLT]; rfl) (fun hb => W_skip ?_) (fun hb => W_exit ?_)
  rotate_left
  · show W _ _
    refine W_seq (W_seqR (by simp only [runSeq_cons, runSeq_nil, evalArgs_nil, evalArgs_const, val1, putT, opI_move]; rfl) (W_ret ?_))
    exact ⟨_, fin_tmp (by simp only [Tr.get_set_self, Tr.get_set_ne, hd _, ne_eq, Nat.reduceEqDiff, not_false_eq_true, decide_true, Nat.reduceLT]; try rfl), rfl⟩
  have hi : i < xs.length := by simpa using hb
  obtain ⟨q, q1, qL⟩ := act_at hA hi
  obtain ⟨l, D, J, w, nn, now, hT, hm0, gm, hJm, hR, hL, hlc, hnn0, hnnc⟩ := hLI
  have hll := hT.h.len
  have hlD := hL.perm.length_eq
  have hg := hT.h.step.grow.g
  obtain ⟨K0, K1, K2, K3⟩ := qL M hg
  have q1' := q1 M
  show W _ _
  refine W_seq (W_block (W_seq (W.mono (Q := fun x t' M' => x = .normal ∧ LI M0 M' tb mb m4 (i + 1) ∧ Dom t' 139 ∧ t'.get 0 = some v ∧ t'.get 3 = some (.ptr (some (tb, 0))) ∧ t'.get 4 = some (.ptr (some (m4, 0))) ∧ t'.get 5 = some (.int .i64 i)) ?_ ?_)))
  rotate_left
  · -- behind the act: even, and on
    rintro x t M ⟨rfl, hLI, hd, h0, h3, h4, h5⟩
    show W _ _
    obtain ⟨l, D, J, w, nn, now, hT, hm0, gm, hJm, hR, hL, hlc, hnn0, hnnc⟩ := hLI
    obtain ⟨δ, hRn, _⟩ := hR.any
    have L3 := loads_own (o := 0) (n := 3) gm (by simp)
    rw [List.drop_zero, List.take_of_length_le (by simp)] at L3
    obtain ⟨_, M2, c2, s2, rfl⟩ := even_ok hT.h hRn hL (d + 3)
    refine W_seq (W_seqR (by simp only [runSeq_cons, runSeq_nil, evalArgs_nil, evalArgs_tmp, val1, putT, Tr.get_set_self, Tr.get_set_ne, hd _, ne_eq, Nat.reduceEqDiff, not_false_eq_true, decide_true, Nat.reduceLT, opI_move, opI_not, opI_callF, h3, h4, L3, c2]; rfl) ?_)
    refine W_cond (b := false) (by simp only [PArg.eval, Tr.get_set_self, Tr.get_set_ne, hd _, ne_eq, Nat.reduceEqDiff, not_false_eq_true, decide_true, Nat.reduceLT]; try rfl) (fun hb => by cases hb) (fun _ => W_skip ?_)
    show W _ _
    refine W_seqR (by simp only [runSeq_cons, runSeq_nil, evalArgs_nil, evalArgs_tmp, evalArgs_const, val1, putT, Tr.get_set_self, Tr.get_set_ne, hd _, ne_eq, Nat.reduceEqDiff, not_false_eq_true, decide_true, Nat.reduceLT, opI_move, opI_add, h5]; rfl) ?_
    have hf := Fr.grow (ids := fun _ => False) hT.h.step.ok.1 s2.grow
    refine ⟨k - 1, by omega, i + 1, by omega, ⟨l, D, J, w, nn, now, ⟨hT.h.frame (hT.h.step.trans s2) s2.grow.n hf (fun _ _ _ hh => hh), hT.m.frame hf (fun hh => hh), hT.ns⟩, hm0, (s2.grow.get _ (get_lt hT.h.step.ok.1 gm)).trans gm, hJm, hR.grow hT.h.step.ok.1 s2.grow, hL, hlc, hnn0, hnnc⟩, by ((repeat (with_reducible apply Dom.set)); exact hd), by simp only [Tr.get_set_ne, ne_eq, Nat.reduceEqDiff, not_false_eq_true, h0], by simp only [Tr.get_set_ne, ne_eq, Nat.reduceEqDiff, not_false_eq_true, h3], by simp only [Tr.get_set_ne, ne_eq, Nat.reduceEqDiff, not_false_eq_true, h4], ?_⟩
    simp only [Tr.get_set_self, Tr.get_set_ne, hd _, ne_eq, Nat.reduceEqDiff, not_false_eq_true, decide_true, Nat.reduceLT]
    rw [wrapF_small (by omega) (by omega)]; rfl
  refine W_seq (W_seqR (by simp only [runSeq_cons, runSeq_nil, evalArgs_nil, evalArgs_tmp, val1, putT, Tr.get_set_self, Tr.get_set_ne, hd _, ne_eq, Nat.reduceEqDiff, not_false_eq_true, decide_true, Nat.reduceLT, opI_move, opI_fieldR, h0, h5, q1', K0]; rfl) (W_block ?_))
  have hkind : ∀ a b : Int, a ≠ b → (a == b) = false := fun a b h => by simpa using h
  obtain ⟨kind, hkd⟩ : ∃ kind, kind = (xs.getD i dAc).kind := ⟨_, rfl⟩
  rw [← hkd]
  by_cases k0 : kind = 0
  · subst k0
    have z0 : ((0 : Int) == 0) = true := rfl
    refine W_seq (W_seqR (by simp only [runSeq_cons, runSeq_nil, evalArgs_nil, evalArgs_tmp, evalArgs_const, val1, putT, Tr.get_set_self, Tr.get_set_ne, hd _, ne_eq, Nat.reduceEqDiff, not_false_eq_true, decide_true, Nat.reduceLT, opI_move, opI_eql, z0]; rfl) ?_)
    refine W_cond (b := true) (by simp only [PArg.eval, Tr.get_set_self, Tr.get_set_ne, hd _, ne_eq, Nat.reduceEqDiff, not_false_eq_true, decide_true, Nat.reduceLT]; try rfl) (fun _ => ?_) (fun hb => by cases hb)
    obtain ⟨r, M2, c2, s2, n2, f2, ho⟩ := add_ok hT d (xs.getD i dAc).at_ (xs.getD i dAc).task (by omega) ⟨by omega, by omega⟩
    have c2' : callF tbl code 100000 (d + 7) 7 [.ptr (some (tb, 0)), .int .i64 (xs.getD i dAc).at_, .int .u64 (xs.getD i dAc).task] M = some (r, M2) := c2
    have q0 := held_none hT.h.step.ok.1
    have nn' : ∀ z : Int, (z != z) = false := fun z => by simp
    have okA := s2.ok.held
    have gA : Grow M2 (M2.push .held) := Grow.push s2.ok.1 _
    have gm2 := f2 m4 _ gm hJm
    have gmA := (gA.get _ (get_lt s2.ok.1 gm2)).trans gm2
    have L3A := loads_own (o := 0) (n := 3) gmA (by simp)
    rw [List.drop_zero, List.take_of_length_le (by simp)] at L3A
    have hgA : (M2.push .held).g = M0.g := gA.g.trans s2.grow.g
    obtain ⟨_, KA1, KA2, KA3⟩ := qL _ hgA
    have q1A := q1 (M2.push .held)
    rcases ho with ⟨hc, rfl, x, l', J', xa, xt, xn, hp, hT2, hJ'⟩ | ⟨hc, rfl, rfl⟩
    · have hR2 : RowL M2 J' m4 w D := hR.frame f2 (fun δ h1 _ => h1) n2 hJ'
      obtain ⟨δ, hRn, _⟩ := (hR2.grow s2.ok.1 gA).any
      obtain ⟨_, M3, c3, s3, ho3⟩ := refadd_ok (d + 5) okA hRn nn now (xs.getD i dAc).at_ (xs.getD i dAc).task (by omega) ⟨by omega, by omega⟩
      rcases ho3 with ⟨_, w', rfl, hw'⟩ | ⟨hne, _⟩
      rotate_left
      · exact absurd hc hne
      have hwo : w'.one = true := by
        obtain ⟨_, _, _, _, rfl, _⟩ := hw'; rfl
      obtain ⟨M4, e3, e4, s4, g4, k4, n4, i0, i2, i3⟩ := tell3 s2.ok s3 (nn + 1) now hwo
      have c3' : callF tbl code 100000 (d + 7) 12 [.agg (tA w nn now), .int .i64 (xs.getD i dAc).at_, .int .u64 (xs.getD i dAc).task] (M2.push .held) = some (.tuple [.agg (tA w' (nn + 1) now), .int .i64 nn, .int .i64 0], M3) := c3
      refine W_seq (W_trace (M' := M2) rfl (by simp only [sameN_self, evalArgs_nil, evalArgs_tmp, val1, putT, Tr.get_set_self, Tr.get_set_ne, hd _, ne_eq, Nat.reduceEqDiff, not_false_eq_true, decide_true, Nat.reduceLT, opI_move, opI_extract, opI_callF, opI_fieldR, trace_nil, trace_read, trace_eff, addR_some, addE_some, Bool.false_and, h0, h3, h5, q1', K1, K2, c2', q0, List.getElem?_cons_zero, List.getElem?_cons_succ]; rfl) (by simp [checkRec, isLoad]) rfl ?_)
      refine W_seq (W_traceF (M' := M4) rfl (by simp only [sameN_self, evalArgs_nil, evalArgs_tmp, val1, putT, Tr.get_set_self, Tr.get_set_ne, hd _, ne_eq, Nat.reduceEqDiff, not_false_eq_true, decide_true, Nat.reduceLT, opI_move, opI_extract, opI_callF, opI_fieldR, push_n, trace_nil, trace_read, trace_eff, trace_fl, addR_some, addE_some, Bool.false_and, Bool.and_false, Bool.not_true, h0, h4, h5, L3A, q1A, KA1, KA2, c3', e3, e4, i0, i2, i3, List.getElem?_cons_zero, List.getElem?_cons_succ]; rfl) (by simp [checkRec, isLoad]) rfl ?_)
      refine W_seq (W_seq (W_seqR (by simp only [runSeq_cons, runSeq_nil, evalArgs_nil, evalArgs_tmp, evalArgs_const, val1, putT, Tr.get_set_self, Tr.get_set_ne, Tr.isSome_set, hd _, ne_eq, Nat.reduceEqDiff, not_false_eq_true, decide_true, Nat.reduceLT, opI_move, opI_neq, opI_pick, runSeq_guard (b := false), beq_self_eq_true, nn']; rfl) ?_))
      refine W_cond (b := false) (by simp only [PArg.eval, Tr.get_set_self, Tr.get_set_ne, hd _, ne_eq, Nat.reduceEqDiff, not_false_eq_true, decide_true, Nat.reduceLT]; try rfl) (fun hb => by cases hb) (fun _ => W_skip ?_)
      show W _ _
      have L8 := loads_own (o := 0) (n := 3) g4 (by simp)
      rw [List.drop_zero, List.take_of_length_le (by simp)] at L8
      have hJm' : ¬ J' m4 := fun hj => by
        have h1 := get_lt hT.h.step.ok.1 gm
        rcases hJ' _ hj with hj | hj
        · exact hJm hj
        · omega
      have hw4 : OwnE M2 M4 3 w' ((D.take (lead (xs.getD i dAc).at_ D) ++ [x] ++ D.drop (lead (xs.getD i dAc).at_ D)).map eD) := by
        have e : (D.take (lead (xs.getD i dAc).at_ D) ++ [x] ++ D.drop (lead (xs.getD i dAc).at_ D)).map eD = (D.take (lead (xs.getD i dAc).at_ D) ++ [En.mk (xs.getD i dAc).at_ (xs.getD i dAc).task nn 0] ++ D.drop (lead (xs.getD i dAc).at_ D)).map eD := by
          simp only [List.map_append, List.map_cons, List.map_nil, eD, xa, xt, xn]
        rw [e]
        exact (OwnE.keep hw' (b := M2.n) (by rw [push_n]; omega) k4).mono (by rw [push_n]; omega)
      have hR4 : RowL M4 J' m4 w' (D.take (lead (xs.getD i dAc).at_ D) ++ [x] ++ D.drop (lead (xs.getD i dAc).at_ D)) := RowL.own hw4 s4.ok (fun j hj => (hT2.h.jlo j hj).2) (get_lt s2.ok.1 gm2)
      have hL' := hL.add hp (fun y hy => by have := hT.ns y hy; omega)
      rw [xa] at hL'
      obtain ⟨M5, e5, hT5, g5, hR5⟩ := close3 hT2 s4 hm0 gm2 rfl hJm' hwo hR4
      have hl'l := hp.length_eq
      rw [List.length_append, List.length_singleton] at hl'l
      refine W_seqR (by simp only [runSeq_cons, runSeq_nil, evalArgs_nil, evalArgs_tmp, val1, putT, Tr.get_set_self, Tr.get_set_ne, hd _, ne_eq, Nat.reduceEqDiff, not_false_eq_true, decide_true, Nat.reduceLT, h4, L8, e5]; rfl) ?_
      exact ⟨rfl, ⟨l', _, J', w', nn + 1, now, ⟨hT5.h, hT5.m, hT5.ns⟩, hm0, g5, hJm', hR5, hL', by omega, by omega, by omega⟩, by ((repeat (with_reducible apply Dom.set)); exact hd), by simp only [Tr.get_set_ne, ne_eq, Nat.reduceEqDiff, not_false_eq_true, h0], by simp only [Tr.get_set_ne, ne_eq, Nat.reduceEqDiff, not_false_eq_true, h3], by simp only [Tr.get_set_ne, ne_eq, Nat.reduceEqDiff, not_false_eq_true, h4], by simp only [Tr.get_set_ne, ne_eq, Nat.reduceEqDiff, not_false_eq_true, h5]⟩
    · have hR2 : RowL M2 J m4 w D := hR
      obtain ⟨δ, hRn, _⟩ := (hR2.grow s2.ok.1 gA).any
      obtain ⟨_, M3, c3, s3, ho3⟩ := refadd_ok (d + 5) okA hRn nn now (xs.getD i dAc).at_ (xs.getD i dAc).task (by omega) ⟨by omega, by omega⟩
      rcases ho3 with ⟨h0', _⟩ | ⟨_, rfl⟩
      · exact absurd h0' hc
      have hwo := hRn.one.1
      obtain ⟨M4, e3, e4, s4, g4, k4, n4, i0, i2, i3⟩ := tell3 s2.ok s3 nn now hwo
      have c3' : callF tbl code 100000 (d + 7) 12 [.agg (tA w nn now), .int .i64 (xs.getD i dAc).at_, .int .u64 (xs.getD i dAc).task] (M2.push .held) = some (.tuple [.agg (tA w nn now), .int .i64 0, .int .i64 (chk (xs.getD i dAc).at_ now)], M3) := c3
      refine W_seq (W_trace (M' := M2) rfl (by simp only [sameN_self, evalArgs_nil, evalArgs_tmp, val1, putT, Tr.get_set_self, Tr.get_set_ne, hd _, ne_eq, Nat.reduceEqDiff, not_false_eq_true, decide_true, Nat.reduceLT, opI_move, opI_extract, opI_callF, opI_fieldR, trace_nil, trace_read, trace_eff, addR_some, addE_some, Bool.and_true, Bool.not_false, h0, h3, h5, q1', K1, K2, c2', q0, List.getElem?_cons_zero, List.getElem?_cons_succ]; rfl) (by simp [checkRec, isLoad]) rfl ?_)
      refine W_seq (W_traceF (M' := M4) rfl (by simp only [sameN_self, evalArgs_nil, evalArgs_tmp, val1, putT, Tr.get_set_self, Tr.get_set_ne, hd _, ne_eq, Nat.reduceEqDiff, not_false_eq_true, decide_true, Nat.reduceLT, opI_move, opI_extract, opI_callF, opI_fieldR, push_n, trace_nil, trace_read, trace_eff, trace_fl, addR_some, addE_some, Bool.false_and, Bool.and_false, Bool.not_true, h0, h4, h5, L3A, q1A, KA1, KA2, c3', e3, e4, i0, i2, i3, List.getElem?_cons_zero, List.getElem?_cons_succ]; rfl) (by simp [checkRec, isLoad]) rfl ?_)
      refine W_seq (W_seq (W_seqR (by simp only [runSeq_cons, runSeq_nil, evalArgs_nil, evalArgs_tmp, evalArgs_const, val1, putT, Tr.get_set_self, Tr.get_set_ne, Tr.isSome_set, hd _, ne_eq, Nat.reduceEqDiff, not_false_eq_true, decide_true, Nat.reduceLT, opI_move, opI_neq, opI_pick, runSeq_guard (b := false), beq_self_eq_true, nn']; rfl) ?_))
      refine W_cond (b := false) (by simp only [PArg.eval, Tr.get_set_self, Tr.get_set_ne, hd _, ne_eq, Nat.reduceEqDiff, not_false_eq_true, decide_true, Nat.reduceLT]; try rfl) (fun hb => by cases hb) (fun _ => W_skip ?_)
      show W _ _
      have L8 := loads_own (o := 0) (n := 3) g4 (by simp)
      rw [List.drop_zero, List.take_of_length_le (by simp)] at L8
      obtain ⟨M5, e5, hT5, g5, hR5⟩ := close3 hT s4 hm0 gm2 rfl hJm hwo (hR2.grow s2.ok.1 s4.grow)
      refine W_seqR (by simp only [runSeq_cons, runSeq_nil, evalArgs_nil, evalArgs_tmp, val1, putT, Tr.get_set_self, Tr.get_set_ne, hd _, ne_eq, Nat.reduceEqDiff, not_false_eq_true, decide_true, Nat.reduceLT, h4, L8, e5]; rfl) ?_
      exact ⟨rfl, ⟨l, D, J, w, nn, now, ⟨hT5.h, hT5.m, hT5.ns⟩, hm0, g5, hJm, hR5, hL, by omega, hnn0, by omega⟩, by ((repeat (with_reducible apply Dom.set)); exact hd), by simp only [Tr.get_set_ne, ne_eq, Nat.reduceEqDiff, not_false_eq_true, h0], by simp only [Tr.get_set_ne, ne_eq, Nat.reduceEqDiff, not_false_eq_true, h3], by simp only [Tr.get_set_ne, ne_eq, Nat.reduceEqDiff, not_false_eq_true, h4], by simp only [Tr.get_set_ne, ne_eq, Nat.reduceEqDiff, not_false_eq_true, h5]⟩
  have z0 := hkind _ _ k0
  refine W_seq (W_seqR (by simp only [runSeq_cons, runSeq_nil, evalArgs_nil, evalArgs_tmp, evalArgs_const, val1, putT, Tr.get_set_self, Tr.get_set_ne, hd _, ne_eq, Nat.reduceEqDiff, not_false_eq_true, decide_true, Nat.reduceLT, opI_move, opI_eql, z0]; rfl) ?_)
  refine W_cond (b := false) (by simp only [PArg.eval, Tr.get_set_self, Tr.get_set_ne, hd _, ne_eq, Nat.reduceEqDiff, not_false_eq_true, decide_true, Nat.reduceLT]; try rfl) (fun hb => by cases hb) (fun _ => ?_)
  by_cases k1 : kind = 1
  · subst k1
    have z1 : ((1 : Int) == 1) = true := rfl
    refine W_seq (W_seqR (by simp only [runSeq_cons, runSeq_nil, evalArgs_nil, evalArgs_tmp, evalArgs_const, val1, putT, Tr.get_set_self, Tr.get_set_ne, hd _, ne_eq, Nat.reduceEqDiff, not_false_eq_true, decide_true, Nat.reduceLT, opI_move, opI_eql, z1]; rfl) ?_)
    refine W_cond (b := true) (by simp only [PArg.eval, Tr.get_set_self, Tr.get_set_ne, hd _, ne_eq, Nat.reduceEqDiff, not_false_eq_true, decide_true, Nat.reduceLT]; try rfl) (fun _ => ?_) (fun hb => by cases hb)
    obtain ⟨r, M2, c2, s2, n2, f2, ho⟩ := drop_ok hT d (xs.getD i dAc).n
    have c2' : callF tbl code 100000 (d + 7) 8 [.ptr (some (tb, 0)), .int .i64 (xs.getD i dAc).n] M = some (r, M2) := c2
    have nn' : ∀ z : Int, (z != z) = false := fun z => by simp
    have hR2 : RowL M2 J m4 w D := hR.frame f2 (fun δ h1 _ => h1) n2 (fun j hj => .inl hj)
    have okA := s2.ok.held
    have gA : Grow M2 (M2.push .held) := Grow.push s2.ok.1 _
    have gm2 := f2 m4 _ gm hJm
    have gmA := (gA.get _ (get_lt s2.ok.1 gm2)).trans gm2
    have L3A := loads_own (o := 0) (n := 3) gmA (by simp)
    rw [List.drop_zero, List.take_of_length_le (by simp)] at L3A
    have hgA : (M2.push .held).g = M0.g := gA.g.trans s2.grow.g
    obtain ⟨_, KA1, KA2, KA3⟩ := qL _ hgA
    have q1A := q1 (M2.push .held)
    obtain ⟨δ, hRn, _⟩ := (hR2.grow s2.ok.1 gA).any
    obtain ⟨_, M3, c3, s3, ho3⟩ := refdrop_ok (d + 6) okA hRn nn now (xs.getD i dAc).n (by omega)
    rcases ho with ⟨x, l', hx, hxn, hp, rfl, hT2⟩ | ⟨hno, rfl, rfl⟩
    · rcases ho3 with ⟨j, w', hj, hjn, rfl, hw'⟩ | ⟨hne, _⟩
      rotate_left
      · obtain ⟨c, hc, he⟩ := List.mem_iff_getElem.1 (hL.perm.mem_iff.1 hx)
        have := hne c hc
        rw [getD_get hc, he] at this
        exact absurd hxn this
      have hwo : w'.one = true := by
        obtain ⟨_, _, _, _, rfl, _⟩ := hw'; rfl
      obtain ⟨M4, e3, e4, s4, g4, k4, n4, i0, i2, i3⟩ := tell3 s2.ok s3 nn now hwo
      have c3' : callF tbl code 100000 (d + 7) 13 [.agg (tA w nn now), .int .i64 (xs.getD i dAc).n] (M2.push .held) = some (.tuple [.agg (tA w' nn now), .int .i64 0], M3) := c3
      refine W_seq (W_seqR (by simp only [runSeq_cons, runSeq_nil, evalArgs_nil, evalArgs_tmp, val1, putT, Tr.get_set_self, Tr.get_set_ne, hd _, ne_eq, Nat.reduceEqDiff, not_false_eq_true, decide_true, Nat.reduceLT, opI_move, opI_callF, opI_fieldR, h0, h3, h5, q1', K3, c2']; rfl) ?_)
      refine W_seq (W_traceF (M' := M4) rfl (by simp only [sameN_self, evalArgs_nil, evalArgs_tmp, val1, putT, Tr.get_set_self, Tr.get_set_ne, hd _, ne_eq, Nat.reduceEqDiff, not_false_eq_true, decide_true, Nat.reduceLT, opI_move, opI_extract, opI_callF, opI_fieldR, push_n, trace_nil, trace_read, trace_eff, trace_fl, addR_some, addE_some, Bool.false_and, Bool.and_false, Bool.not_true, h0, h4, h5, L3A, q1A, KA3, c3', e3, e4, i0, i2, i3, List.getElem?_cons_zero, List.getElem?_cons_succ]; rfl) (by simp [checkRec, isLoad]) rfl ?_)
      refine W_seq (W_seq (W_seqR (by simp only [runSeq_cons, runSeq_nil, evalArgs_nil, evalArgs_tmp, val1, putT, Tr.get_set_self, Tr.get_set_ne, hd _, ne_eq, Nat.reduceEqDiff, not_false_eq_true, decide_true, Nat.reduceLT, opI_move, opI_neq, nn']; rfl) ?_))
      refine W_cond (b := false) (by simp only [PArg.eval, Tr.get_set_self, Tr.get_set_ne, hd _, ne_eq, Nat.reduceEqDiff, not_false_eq_true, decide_true, Nat.reduceLT]; try rfl) (fun hb => by cases hb) (fun _ => W_skip ?_)
      show W _ _
      have L8 := loads_own (o := 0) (n := 3) g4 (by simp)
      rw [List.drop_zero, List.take_of_length_le (by simp)] at L8
      have hw4 := (OwnE.keep hw' (b := M2.n) (by rw [push_n]; omega) k4).mono (A := M2) (by rw [push_n]; omega)
      have hR4 : RowL M4 J m4 w' (D.take j ++ D.drop (j + 1)) := RowL.own hw4 s4.ok (fun j hj => (hT2.h.jlo j hj).2) (get_lt s2.ok.1 gm2)
      have hL' := hL.drop hp hj (hjn.trans hxn.symm)
      obtain ⟨M5, e5, hT5, g5, hR5⟩ := close3 hT2 s4 hm0 gm2 rfl hJm hwo hR4
      have hl'l := hp.length_eq
      rw [List.length_cons] at hl'l
      refine W_seqR (by simp only [runSeq_cons, runSeq_nil, evalArgs_nil, evalArgs_tmp, val1, putT, Tr.get_set_self, Tr.get_set_ne, hd _, ne_eq, Nat.reduceEqDiff, not_false_eq_true, decide_true, Nat.reduceLT, h4, L8, e5]; rfl) ?_
      exact ⟨rfl, ⟨l', _, J, w', nn, now, ⟨hT5.h, hT5.m, hT5.ns⟩, hm0, g5, hJm, hR5, hL', by omega, hnn0, by omega⟩, by ((repeat (with_reducible apply Dom.set)); exact hd), by simp only [Tr.get_set_ne, ne_eq, Nat.reduceEqDiff, not_false_eq_true, h0], by simp only [Tr.get_set_ne, ne_eq, Nat.reduceEqDiff, not_false_eq_true, h3], by simp only [Tr.get_set_ne, ne_eq, Nat.reduceEqDiff, not_false_eq_true, h4], by simp only [Tr.get_set_ne, ne_eq, Nat.reduceEqDiff, not_false_eq_true, h5]⟩
    · rcases ho3 with ⟨j, w', hj, hjn, _⟩ | ⟨_, rfl⟩
      · have : D.getD j dEn ∈ l := hL.perm.mem_iff.2 (by rw [getD_get hj]; exact List.getElem_mem _)
        exact absurd hjn (hno _ this)
      have hwo := hRn.one.1
      obtain ⟨M4, e3, e4, s4, g4, k4, n4, i0, i2, i3⟩ := tell3 s2.ok s3 nn now hwo
      have c3' : callF tbl code 100000 (d + 7) 13 [.agg (tA w nn now), .int .i64 (xs.getD i dAc).n] (M2.push .held) = some (.tuple [.agg (tA w nn now), .int .i64 15], M3) := c3
      refine W_seq (W_seqR (by simp only [runSeq_cons, runSeq_nil, evalArgs_nil, evalArgs_tmp, val1, putT, Tr.get_set_self, Tr.get_set_ne, hd _, ne_eq, Nat.reduceEqDiff, not_false_eq_true, decide_true, Nat.reduceLT, opI_move, opI_callF, opI_fieldR, h0, h3, h5, q1', K3, c2']; rfl) ?_)
      refine W_seq (W_traceF (M' := M4) rfl (by simp only [sameN_self, evalArgs_nil, evalArgs_tmp, val1, putT, Tr.get_set_self, Tr.get_set_ne, hd _, ne_eq, Nat.reduceEqDiff, not_false_eq_true, decide_true, Nat.reduceLT, opI_move, opI_extract, opI_callF, opI_fieldR, push_n, trace_nil, trace_read, trace_eff, trace_fl, addR_some, addE_some, Bool.false_and, Bool.and_false, Bool.not_true, h0, h4, h5, L3A, q1A, KA3, c3', e3, e4, i0, i2, i3, List.getElem?_cons_zero, List.getElem?_cons_succ]; rfl) (by simp [checkRec, isLoad]) rfl ?_)
      refine W_seq (W_seq (W_seqR (by simp only [runSeq_cons, runSeq_nil, evalArgs_nil, evalArgs_tmp, val1, putT, Tr.get_set_self, Tr.get_set_ne, hd _, ne_eq, Nat.reduceEqDiff, not_false_eq_true, decide_true, Nat.reduceLT, opI_move, opI_neq, nn']; rfl) ?_))
      refine W_cond (b := false) (by simp only [PArg.eval, Tr.get_set_self, Tr.get_set_ne, hd _, ne_eq, Nat.reduceEqDiff, not_false_eq_true, decide_true, Nat.reduceLT]; try rfl) (fun hb => by cases hb) (fun _ => W_skip ?_)
      show W _ _
      have L8 := loads_own (o := 0) (n := 3) g4 (by simp)
      rw [List.drop_zero, List.take_of_length_le (by simp)] at L8
      obtain ⟨M5, e5, hT5, g5, hR5⟩ := close3 hT s4 hm0 gm2 rfl hJm hwo (hR2.grow s2.ok.1 s4.grow)
      refine W_seqR (by simp only [runSeq_cons, runSeq_nil, evalArgs_nil, evalArgs_tmp, val1, putT, Tr.get_set_self, Tr.get_set_ne, hd _, ne_eq, Nat.reduceEqDiff, not_false_eq_true, decide_true, Nat.reduceLT, h4, L8, e5]; rfl) ?_
      exact ⟨rfl, ⟨l, D, J, w, nn, now, ⟨hT5.h, hT5.m, hT5.ns⟩, hm0, g5, hJm, hR5, hL, by omega, hnn0, by omega⟩, by ((repeat (with_reducible apply Dom.set)); exact hd), by simp only [Tr.get_set_ne, ne_eq, Nat.reduceEqDiff, not_false_eq_true, h0], by simp only [Tr.get_set_ne, ne_eq, Nat.reduceEqDiff, not_false_eq_true, h3], by simp only [Tr.get_set_ne, ne_eq, Nat.reduceEqDiff, not_false_eq_true, h4], by simp only [Tr.get_set_ne, ne_eq, Nat.reduceEqDiff, not_false_eq_true, h5]⟩
  have z1 := hkind _ _ k1
  refine W_seq (W_seqR (by simp only [runSeq_cons, runSeq_nil, evalArgs_nil, evalArgs_tmp, evalArgs_const, val1, putT, Tr.get_set_self, Tr.get_set_ne, hd _, ne_eq, Nat.reduceEqDiff, not_false_eq_true, decide_true, Nat.reduceLT, opI_move, opI_eql, z1]; rfl) ?_)
  refine W_cond (b := false) (by simp only [PArg.eval, Tr.get_set_self, Tr.get_set_ne, hd _, ne_eq, Nat.reduceEqDiff, not_false_eq_true, decide_true, Nat.reduceLT]; try rfl) (fun hb => by cases hb) (fun _ => ?_)
  by_cases k2 : kind = 2
  · subst k2
    have z2 : ((2 : Int) == 2) = true := rfl
    refine W_seq (W_seqR (by simp only [runSeq_cons, runSeq_nil, evalArgs_nil, evalArgs_tmp, evalArgs_const, val1, putT, Tr.get_set_self, Tr.get_set_ne, hd _, ne_eq, Nat.reduceEqDiff, not_false_eq_true, decide_true, Nat.reduceLT, opI_move, opI_eql, z2]; rfl) ?_)
    refine W_cond (b := true) (by simp only [PArg.eval, Tr.get_set_self, Tr.get_set_ne, hd _, ne_eq, Nat.reduceEqDiff, not_false_eq_true, decide_true, Nat.reduceLT]; try rfl) (fun _ => ?_) (fun hb => by cases hb)
    obtain ⟨r, M2, c2, s2, n2, f2, ho⟩ := due_ok hT d (xs.getD i dAc).at_
    have c2' : callF tbl code 100000 (d + 7) 10 [.ptr (some (tb, 0)), .int .i64 (xs.getD i dAc).at_] M = some (r, M2) := c2
    have nn' : ∀ z : Int, (z != z) = false := fun z => by simp
    have hR2 : RowL M2 J m4 w D := hR.frame f2 (fun δ h1 _ => h1) n2 (fun j hj => .inl hj)
    have okA := s2.ok.held
    have gA : Grow M2 (M2.push .held) := Grow.push s2.ok.1 _
    have gm2 := f2 m4 _ gm hJm
    have gmA := (gA.get _ (get_lt s2.ok.1 gm2)).trans gm2
    have L3A := loads_own (o := 0) (n := 3) gmA (by simp)
    rw [List.drop_zero, List.take_of_length_le (by simp)] at L3A
    have hgA : (M2.push .held).g = M0.g := gA.g.trans s2.grow.g
    obtain ⟨_, KA1, KA2, KA3⟩ := qL _ hgA
    have q1A := q1 (M2.push .held)
    obtain ⟨δ, hRn0, hδ⟩ := hR2.any
    have hRn := hRn0.grow s2.ok.1 gA
    obtain ⟨_, M3, c3, s3, ho3⟩ := refdue_ok (d + 5) okA hRn nn now (xs.getD i dAc).at_ (by omega)
    rcases ho with ⟨hc, vo, out, l', rfl, ⟨ε, hε, hvo⟩, hp, hpw, hle, hgt, hT2⟩ | ⟨hc, rfl, rfl⟩
    · rcases ho3 with ⟨_, w', u, rfl, hw', hnil, hu⟩ | ⟨hne, _⟩
      rotate_left
      · exact absurd hc hne
      have hwo := hw'.one.1
      obtain ⟨M4, e3, e4, s4, g4, k4, n4, i0, i2, i3⟩ := tell3 s2.ok s3 nn (xs.getD i dAc).at_ hwo
      have c3' : callF tbl code 100000 (d + 7) 14 [.agg (tA w nn now), .int .i64 (xs.getD i dAc).at_] (M2.push .held) = some (.tuple [.agg (tA w' nn (xs.getD i dAc).at_), u, .int .i64 0], M3) := c3
      obtain ⟨hout, hL'⟩ := hL.due hp hpw hle hgt
      have hu4 := OwnE.keep hu (b := M2.n) (by rw [push_n]; omega) k4
      have r1 : IRow M4 .u64 vo (out.map (·.task)) := by
        have := (hvo.row s2.ok.1).grow s4.grow
        unfold IRow
        rw [List.map_map]
        exact this
      have r2 : IRow M4 .u64 u (out.map (·.task)) := by
        have := hu4.row s4.ok.1
        rw [← hout] at this
        unfold IRow
        rw [List.map_map]
        exact this
      have hol : out.length ≤ 1000 := by
        have := hp.length_eq
        rw [List.length_append] at this
        omega
      have cS := sameU_ok (d + 6) M4 r1 r2 (by rw [List.length_map]; omega)
      have cS' : callF tbl code 100000 (d + 7) 15 [vo, u] M4 = some (.bool true, M4) := by
        rw [cS]; simp
      refine W_seq (W_seqR (by simp only [runSeq_cons, runSeq_nil, evalArgs_nil, evalArgs_tmp, val1, putT, Tr.get_set_self, Tr.get_set_ne, hd _, ne_eq, Nat.reduceEqDiff, not_false_eq_true, decide_true, Nat.reduceLT, opI_move, opI_extract, opI_callF, opI_fieldR, h0, h3, h5, q1', K1, c2', List.getElem?_cons_zero, List.getElem?_cons_succ]; rfl) ?_)
      refine W_seq (W_traceF (M' := M4) rfl (by simp only [sameN_self, evalArgs_nil, evalArgs_tmp, val1, putT, Tr.get_set_self, Tr.get_set_ne, hd _, ne_eq, Nat.reduceEqDiff, not_false_eq_true, decide_true, Nat.reduceLT, opI_move, opI_extract, opI_callF, opI_fieldR, push_n, trace_nil, trace_read, trace_eff, trace_fl, addR_some, addE_some, Bool.false_and, Bool.and_false, Bool.not_true, h0, h4, h5, L3A, q1A, KA1, c3', e3, e4, i0, i2, i3, List.getElem?_cons_zero, List.getElem?_cons_succ]; rfl) (by simp [checkRec, isLoad]) rfl ?_)
      refine W_seq (W_seq (W_seqR (by simp only [runSeq_cons, runSeq_nil, evalArgs_nil, evalArgs_tmp, evalArgs_const, val1, putT, Tr.get_set_self, Tr.get_set_ne, Tr.isSome_set, hd _, ne_eq, Nat.reduceEqDiff, not_false_eq_true, decide_true, Nat.reduceLT, opI_move, opI_not, opI_neq, opI_callF, opI_pick, runSeq_guard (b := false), beq_self_eq_true, Bool.not_true, nn', cS']; rfl) ?_))
      refine W_cond (b := false) (by simp only [PArg.eval, Tr.get_set_self, Tr.get_set_ne, hd _, ne_eq, Nat.reduceEqDiff, not_false_eq_true, decide_true, Nat.reduceLT]; try rfl) (fun hb => by cases hb) (fun _ => W_skip ?_)
      show W _ _
      have L8 := loads_own (o := 0) (n := 3) g4 (by simp)
      rw [List.drop_zero, List.take_of_length_le (by simp)] at L8
      have gh : M3.get M2.n = some .held := (s3.grow.get _ (by rw [push_n]; omega)).trans (get_push_self s2.ok.1)
      have hR4 : RowL M4 J m4 w' (D.drop (lead (xs.getD i dAc).at_ D)) := by
        rcases hδ with ⟨h1, h2, h3⟩ | ⟨hw0, hD0⟩
        · refine .inl ⟨δ, h1, h2, ?_, RowN.keep hw' (b := M2.n) n4 (fun k hk => ?_) k4⟩
          · have := s4.grow.n; omega
          · rw [gh] at hk
            cases hk
            show M2.n ≠ δ
            omega
        · refine .inr ⟨(hnil hw0).trans hw0, ?_⟩
          rw [hD0]; simp
      obtain ⟨M5, e5, hT5, g5, hR5⟩ := close3 hT2 s4 hm0 gm2 rfl hJm hwo hR4
      have hl'l := hp.length_eq
      rw [List.length_append] at hl'l
      refine W_seqR (by simp only [runSeq_cons, runSeq_nil, evalArgs_nil, evalArgs_tmp, val1, putT, Tr.get_set_self, Tr.get_set_ne, hd _, ne_eq, Nat.reduceEqDiff, not_false_eq_true, decide_true, Nat.reduceLT, h4, L8, e5]; rfl) ?_
      exact ⟨rfl, ⟨l', _, J, w', nn, (xs.getD i dAc).at_, ⟨hT5.h, hT5.m, hT5.ns⟩, hm0, g5, hJm, hR5, hL', by omega, hnn0, by omega⟩, by ((repeat (with_reducible apply Dom.set)); exact hd), by simp only [Tr.get_set_ne, ne_eq, Nat.reduceEqDiff, not_false_eq_true, h0], by simp only [Tr.get_set_ne, ne_eq, Nat.reduceEqDiff, not_false_eq_true, h3], by simp only [Tr.get_set_ne, ne_eq, Nat.reduceEqDiff, not_false_eq_true, h4], by simp only [Tr.get_set_ne, ne_eq, Nat.reduceEqDiff, not_false_eq_true, h5]⟩
    · rcases ho3 with ⟨h0', _⟩ | ⟨_, rfl⟩
      · exact absurd h0' hc
      have hwo := hRn.one.1
      obtain ⟨M4, e3, e4, s4, g4, k4, n4, i0, i2, i3⟩ := tell3 s2.ok s3 nn now hwo
      have c3' : callF tbl code 100000 (d + 7) 14 [.agg (tA w nn now), .int .i64 (xs.getD i dAc).at_] (M2.push .held) = some (.tuple [.agg (tA w nn now), .slice none 0 0 false, .int .i64 (chk (xs.getD i dAc).at_ now)], M3) := c3
      have r1 : IRow M4 .u64 (.slice none 0 0 false) [] := IRow.nil
      have cS := sameU_ok (d + 6) M4 r1 r1 (by simp)
      have cS' : callF tbl code 100000 (d + 7) 15 [.slice none 0 0 false, .slice none 0 0 false] M4 = some (.bool true, M4) := by
        rw [cS]; simp
      refine W_seq (W_seqR (by simp only [runSeq_cons, runSeq_nil, evalArgs_nil, evalArgs_tmp, val1, putT, Tr.get_set_self, Tr.get_set_ne, hd _, ne_eq, Nat.reduceEqDiff, not_false_eq_true, decide_true, Nat.reduceLT, opI_move, opI_extract, opI_callF, opI_fieldR, h0, h3, h5, q1', K1, c2', List.getElem?_cons_zero, List.getElem?_cons_succ]; rfl) ?_)
      refine W_seq (W_traceF (M' := M4) rfl (by simp only [sameN_self, evalArgs_nil, evalArgs_tmp, val1, putT, Tr.get_set_self, Tr.get_set_ne, hd _, ne_eq, Nat.reduceEqDiff, not_false_eq_true, decide_true, Nat.reduceLT, opI_move, opI_extract, opI_callF, opI_fieldR, push_n, trace_nil, trace_read, trace_eff, trace_fl, addR_some, addE_some, Bool.false_and, Bool.and_false, Bool.not_true, h0, h4, h5, L3A, q1A, KA1, c3', e3, e4, i0, i2, i3, List.getElem?_cons_zero, List.getElem?_cons_succ]; rfl) (by simp [checkRec, isLoad]) rfl ?_)
      refine W_seq (W_seq (W_seqR (by simp only [runSeq_cons, runSeq_nil, evalArgs_nil, evalArgs_tmp, evalArgs_const, val1, putT, Tr.get_set_self, Tr.get_set_ne, Tr.isSome_set, hd _, ne_eq, Nat.reduceEqDiff, not_false_eq_true, decide_true, Nat.reduceLT, opI_move, opI_not, opI_neq, opI_callF, opI_pick, runSeq_guard (b := false), beq_self_eq_true, Bool.not_true, nn', cS']; rfl) ?_))
      refine W_cond (b := false) (by simp only [PArg.eval, Tr.get_set_self, Tr.get_set_ne, hd _, ne_eq, Nat.reduceEqDiff, not_false_eq_true, decide_true, Nat.reduceLT]; try rfl) (fun hb => by cases hb) (fun _ => W_skip ?_)
      show W _ _
      have L8 := loads_own (o := 0) (n := 3) g4 (by simp)
      rw [List.drop_zero, List.take_of_length_le (by simp)] at L8
      obtain ⟨M5, e5, hT5, g5, hR5⟩ := close3 hT s4 hm0 gm2 rfl hJm hwo (hR2.grow s2.ok.1 s4.grow)
      refine W_seqR (by simp only [runSeq_cons, runSeq_nil, evalArgs_nil, evalArgs_tmp, val1, putT, Tr.get_set_self, Tr.get_set_ne, hd _, ne_eq, Nat.reduceEqDiff, not_false_eq_true, decide_true, Nat.reduceLT, h4, L8, e5]; rfl) ?_
      exact ⟨rfl, ⟨l, D, J, w, nn, now, ⟨hT5.h, hT5.m, hT5.ns⟩, hm0, g5, hJm, hR5, hL, by omega, hnn0, by omega⟩, by ((repeat (with_reducible apply Dom.set)); exact hd), by simp only [Tr.get_set_ne, ne_eq, Nat.reduceEqDiff, not_false_eq_true, h0], by simp only [Tr.get_set_ne, ne_eq, Nat.reduceEqDiff, not_false_eq_true, h3], by simp only [Tr.get_set_ne, ne_eq, Nat.reduceEqDiff, not_false_eq_true, h4], by simp only [Tr.get_set_ne, ne_eq, Nat.reduceEqDiff, not_false_eq_true, h5]⟩
  have z2 := hkind _ _ k2
  refine W_seq (W_seqR (by simp only [runSeq_cons, runSeq_nil, evalArgs_nil, evalArgs_tmp, evalArgs_const, val1, putT, Tr.get_set_self, Tr.get_set_ne, hd _, ne_eq, Nat.reduceEqDiff, not_false_eq_true, decide_true, Nat.reduceLT, opI_move, opI_eql, z2]; rfl) ?_)
  refine W_cond (b := false) (by simp only [PArg.eval, Tr.get_set_self, Tr.get_set_ne, hd _, ne_eq, Nat.reduceEqDiff, not_false_eq_true, decide_true, Nat.reduceLT]; try rfl) (fun hb => by cases hb) (fun _ => W_skip ?_)
  exact ⟨rfl, ⟨l, D, J, w, nn, now, hT, hm0, gm, hJm, hR, hL, by omega, hnn0, by omega⟩, by ((repeat (with_reducible apply Dom.set)); exact hd), by simp only [Tr.get_set_ne, ne_eq, Nat.reduceEqDiff, not_false_eq_true, h0], by simp only [Tr.get_set_ne, ne_eq, Nat.reduceEqDiff, not_false_eq_true, h3], by simp only [Tr.get_set_ne, ne_eq, Nat.reduceEqDiff, not_false_eq_true, h4], by simp only [Tr.get_set_ne, ne_eq, Nat.reduceEqDiff, not_false_eq_true, h5]⟩
end Go.Proofs.Ytbjipmhdncfodaa.grf
