/- The walk of stats.open; a number of a row of our own is written. -/
import Derived.Test.YtoddncakdnmloaaLdPlain
namespace Go.Proofs.Ytoddncakdnmloaa.diary
open Go Go.Vx

/-- what open says -/
def openP (es : List Ev) : Option (List Sp) := match runP 0 init es with
  | none => none
  | some st => if 0 < es.length ∧ (ev es (es.length - 1)).step > 2147483647 then none else some st.spans

set_option maxHeartbeats 2000000 in
theorem open_ok {v : AV} {es : List Ev} (d : Nat) (M0 : AMem) (hok : Okg M0) (hv : InEvs M0.g v es) (hn : es.length ≤ 1000) :
    Ans (callF tbl code 100000 (d + 5)) 25 [v] M0 fun r M' => Step M0 M' ∧ match openP es with
      | none => r = .tuple [.slice none 0 0 false, .int .i64 13]
      | some sps => ∃ sv, r = .tuple [sv, .int .i64 0] ∧ SpRow M0 M' sv sps := by
  refine Ans_of (tbl_none (by decide) _) (show code 25 = some c25 from by kernel_rfl) (by simp) fun t hd ha => ?_
  have h0 := ha 0 _ rfl
  clear ha
  refine W_seq (W_seqR (by simp only [runSeq_cons, runSeq_nil, evalArgs_nil, evalArgs_const, val1, putT, opI_move]; rfl) ?_)
  obtain ⟨r, M1, c1, s1, hp⟩ := spans_ok d M0 hok hv hn
  have lv := hv.len M1 s1.grow.g
  unfold openP
  cases hr : runP 0 init es with
  | none =>
    rw [hr] at hp
    simp only at hp
    subst hp
    have e13 : ((13 : Int) == 0) = false := rfl
    refine W_seq (W_seqR (by simp only [runSeq_cons, runSeq_nil, evalArgs_nil, evalArgs_tmp, val1, putT, Tr.get_set_self, Tr.get_set_ne, hd _, ne_eq, Nat.reduceEqDiff, not_false_eq_true, decide_true, Nat.reduceLT, opI_move, opI_extract, opI_callF, h0, c1, List.getElem?_cons_zero, List.getElem?_cons_succ]; rfl) ?_)
    refine W_seq (W_seq (W_seqR (by simp only [runSeq_cons, runSeq_nil, evalArgs_nil, evalArgs_tmp, evalArgs_const, val1, putT, Tr.get_set_self, Tr.get_set_ne, Tr.isSome_set, hd _, ne_eq, Nat.reduceEqDiff, not_false_eq_true, decide_true, Nat.reduceLT, opI_move, opI_eql, opI_pick, runSeq_guard (b := false), Bool.false_beq, Bool.not_true, e13]; rfl) ?_))
    refine W_cond (b := false) (by simp only [PArg.eval, Tr.get_set_self, Tr.get_set_ne, hd _, ne_eq, Nat.reduceEqDiff, not_false_eq_true, decide_true, Nat.reduceLT]; try rfl) (fun hb => by cases hb) (fun _ => W_skip ?_)
    show W _ _
    refine W_seq (W_seqR (by simp only [runSeq_cons, runSeq_nil, evalArgs_nil, evalArgs_tmp, val1, putT, Tr.get_set_self, Tr.get_set_ne, hd _, ne_eq, Nat.reduceEqDiff, not_false_eq_true, decide_true, Nat.reduceLT, opI_move]; rfl) (W_ret ?_))
    exact ⟨_, fin_tmp2 (by simp only [Tr.get_set_self, Tr.get_set_ne, Option.isSome_some, hd _, ne_eq, Nat.reduceEqDiff, not_false_eq_true, decide_true, Nat.reduceLT]; try rfl) (by simp only [Tr.get_set_self, Tr.get_set_ne, Tr.isSome_set, Option.isSome_some, hd _, ne_eq, Nat.reduceEqDiff, not_false_eq_true, decide_true, Nat.reduceLT]; try rfl), s1, rfl⟩
  | some st =>
    rw [hr] at hp
    simp only at hp
    obtain ⟨sv, rfl, hsp⟩ := hp
    have e0 : ((0 : Int) == 0) = true := rfl
    refine W_seq (W_seqR (by simp only [runSeq_cons, runSeq_nil, evalArgs_nil, evalArgs_tmp, val1, putT, Tr.get_set_self, Tr.get_set_ne, hd _, ne_eq, Nat.reduceEqDiff, not_false_eq_true, decide_true, Nat.reduceLT, opI_move, opI_extract, opI_callF, h0, c1, List.getElem?_cons_zero, List.getElem?_cons_succ]; rfl) ?_)
    by_cases hl : es.length = 0
    · have hg : decide ((es.length : Int) > 0) = false := decide_eq_false (by omega)
      refine W_seq (W_seq (W_seqR (by simp only [runSeq_cons, runSeq_nil, evalArgs_nil, evalArgs_tmp, evalArgs_const, val1, putT, Tr.get_set_self, Tr.get_set_ne, Tr.isSome_set, hd _, ne_eq, Nat.reduceEqDiff, not_false_eq_true, decide_true, Nat.reduceLT, opI_move, opI_gtr, opI_eql, opI_pick, runSeq_guard (b := true), runSeq_guard (b := false), beq_self_eq_true, Bool.false_beq, Bool.not_true, h0, lv, hg]; rfl) ?_))
      refine W_cond (b := false) (by simp only [PArg.eval, Tr.get_set_self, Tr.get_set_ne, hd _, ne_eq, Nat.reduceEqDiff, not_false_eq_true, decide_true, Nat.reduceLT]; try rfl) (fun hb => by cases hb) (fun _ => W_skip ?_)
      show W _ _
      refine W_seq (W_seqR (by simp only [runSeq_cons, runSeq_nil, evalArgs_nil, evalArgs_tmp, val1, putT, Tr.get_set_self, Tr.get_set_ne, hd _, ne_eq, Nat.reduceEqDiff, not_false_eq_true, decide_true, Nat.reduceLT, opI_move]; rfl) (W_ret ?_))
      refine ⟨_, fin_tmp2 (by simp only [Tr.get_set_self, Tr.get_set_ne, Option.isSome_some, hd _, ne_eq, Nat.reduceEqDiff, not_false_eq_true, decide_true, Nat.reduceLT]; try rfl) (by simp only [Tr.get_set_self, Tr.get_set_ne, Tr.isSome_set, Option.isSome_some, hd _, ne_eq, Nat.reduceEqDiff, not_false_eq_true, decide_true, Nat.reduceLT]; try rfl), s1, ?_⟩
      simp only [if_neg (show ¬ (0 < es.length ∧ (ev es (es.length - 1)).step > 2147483647) by omega)]
      exact ⟨sv, rfl, hsp⟩
    · have hg : decide ((es.length : Int) > 0) = true := decide_eq_true (by omega)
      have wl : wrapF .i64 ((es.length : Int) - 1) = ((es.length - 1 : Nat) : Int) := by rw [wrapF_small (by omega) (by omega)]; omega
      obtain ⟨p, pp, p1, _, p2⟩ := hv.at_ (i := es.length - 1) (by omega) M1 s1.grow.g
      have P0 := p2 0 _ rfl
      by_cases hbig : (ev es (es.length - 1)).step > 2147483647
      · have hb : decide ((ev es (es.length - 1)).step > 2147483647) = true := by simpa using hbig
        refine W_seq (W_seq (W_seqR (by simp only [runSeq_cons, runSeq_nil, evalArgs_nil, evalArgs_tmp, evalArgs_const, val1, putT, Tr.get_set_self, Tr.get_set_ne, Tr.isSome_set, hd _, ne_eq, Nat.reduceEqDiff, not_false_eq_true, decide_true, Nat.reduceLT, opI_move, opI_gtr, opI_eql, opI_sub, opI_pick, Nat.add_zero, runSeq_guard (b := true), beq_self_eq_true, h0, lv, hg, wl, p1, opI_fieldQ pp, P0, hb]; rfl) ?_))
        refine W_cond (b := true) (by simp only [PArg.eval, Tr.get_set_self, Tr.get_set_ne, hd _, ne_eq, Nat.reduceEqDiff, not_false_eq_true, decide_true, Nat.reduceLT]; try rfl) (fun _ => ?_) (fun hb => by cases hb)
        refine W_seq (W_seqR (by simp only [runSeq_cons, runSeq_nil, evalArgs_nil, evalArgs_const, val1, putT, opI_move]; rfl) (W_ret ?_))
        refine ⟨_, fin_tmp2 (by simp only [Tr.get_set_self, Tr.get_set_ne, Option.isSome_some, hd _, ne_eq, Nat.reduceEqDiff, not_false_eq_true, decide_true, Nat.reduceLT]; try rfl) (by simp only [Tr.get_set_self, Tr.get_set_ne, Tr.isSome_set, Option.isSome_some, hd _, ne_eq, Nat.reduceEqDiff, not_false_eq_true, decide_true, Nat.reduceLT]; try rfl), s1, ?_⟩
        simp only [if_pos (show 0 < es.length ∧ (ev es (es.length - 1)).step > 2147483647 from ⟨by omega, hbig⟩)]
        rfl
      · have hb : decide ((ev es (es.length - 1)).step > 2147483647) = false := by simpa using hbig
        refine W_seq (W_seq (W_seqR (by simp only [runSeq_cons, runSeq_nil, evalArgs_nil, evalArgs_tmp, evalArgs_const, val1, putT, Tr.get_set_self, Tr.get_set_ne, Tr.isSome_set, hd _, ne_eq, Nat.reduceEqDiff, not_false_eq_true, decide_true, Nat.reduceLT, opI_move, opI_gtr, opI_eql, opI_sub, opI_pick, Nat.add_zero, runSeq_guard (b := true), beq_self_eq_true, h0, lv, hg, wl, p1, opI_fieldQ pp, P0, hb]; rfl) ?_))
        refine W_cond (b := false) (by simp only [PArg.eval, Tr.get_set_self, Tr.get_set_ne, hd _, ne_eq, Nat.reduceEqDiff, not_false_eq_true, decide_true, Nat.reduceLT]; try rfl) (fun hb => by cases hb) (fun _ => W_skip ?_)
        show W _ _
        refine W_seq (W_seqR (by simp only [runSeq_cons, runSeq_nil, evalArgs_nil, evalArgs_tmp, val1, putT, Tr.get_set_self, Tr.get_set_ne, hd _, ne_eq, Nat.reduceEqDiff, not_false_eq_true, decide_true, Nat.reduceLT, opI_move]; rfl) (W_ret ?_))
        refine ⟨_, fin_tmp2 (by simp only [Tr.get_set_self, Tr.get_set_ne, Option.isSome_some, hd _, ne_eq, Nat.reduceEqDiff, not_false_eq_true, decide_true, Nat.reduceLT]; try rfl) (by simp only [Tr.get_set_self, Tr.get_set_ne, Tr.isSome_set, Option.isSome_some, hd _, ne_eq, Nat.reduceEqDiff, not_false_eq_true, decide_true, Nat.reduceLT]; try rfl), s1, ?_⟩
        simp only [if_neg (show ¬ (0 < es.length ∧ (ev es (es.length - 1)).step > 2147483647) by omega)]
        exact ⟨sv, rfl, hsp⟩

/-- A row of zeros is made. -/
theorem make_zeros {M0 M : AMem} (h : Step M0 M) {n : Nat} (hn : n ≤ 100000) :
    ∃ M', opI (.makeSlice 1 8 [.int .i64 0]) [.int .i64 n, .int .i64 n] M = some (.val (.slice (some (M.n, 0)) n n false) M') ∧ Step M0 M' ∧ Step M M' ∧ Solo M M' .i64 (.slice (some (M.n, 0)) n n false) (List.replicate n 0) := by
  have e : ((List.range (((n : Nat) : Int).toNat * 1)).map fun i => [AV.int .i64 0].getD (i % 1) (.tuple [])) = (List.replicate n 0).map (AV.int .i64 ·) := by
    apply List.ext_getElem
    · simp
    · intro i h1 h2
      simp [Nat.mod_one]
  refine ⟨M.push (.cells ((List.replicate n 0).map (AV.int .i64 ·)) 1 true none), ?_, h.push (fun _ _ _ _ he => by cases he), (Step.refl h.ok).push (fun _ _ _ _ he => by cases he), .inr ⟨M.n, false, 1, by rw [List.length_replicate], Nat.le_refl _, get_push_self h.ok.1, fun _ => rfl, fun _ => rfl⟩⟩
  simp only [opI]
  rw [if_pos ⟨by omega, by omega, by omega, by omega⟩, e]
  simp
/-- A number of such a row is read and written. -/
theorem solo_set {M0 M : AMem} {k : IntKind} {v : AV} {xs : List Int} (h : Step M0 M) (hv : Solo M0 M k v xs) {i : Nat} (hi : i < xs.length) :
    ∃ p, opI (.indexAddrS 1) [v, .int .i64 i] M = some (.val p M) ∧ opI (.load false 1) [p] M = some (.val (.int k (xs.getD i 0)) M) ∧ ∀ x, ∃ M', opI (.store 1) [p, .int k x] M = some (.val (.tuple []) M') ∧ Step M0 M' ∧ M'.n = M.n ∧ Solo M0 M' k v (xs.set i x) ∧ (∀ b, (∀ n c g, v ≠ .slice (some (b, 0)) n c g) → M'.get b = M.get b) := by
  have hne : xs ≠ [] := fun he => by subst he; simp at hi
  rcases hv with ⟨rfl, rfl⟩ | ⟨b, gr, sz, rfl, h1, h2, h3, h4⟩
  · exact absurd rfl hne
  have hsz := h4 hne
  subst hsz
  refine ⟨.ptr (some (b, i)), ?_, ?_, fun x => ?_⟩
  · simp only [opI]
    rw [if_pos ⟨by omega, by omega⟩]
    simp
  · refine load_own h2 ?_
    rw [List.getElem?_map, List.getElem?_eq_getElem hi, List.getD_eq_getElem?_getD, List.getElem?_eq_getElem hi]
    rfl
  · obtain ⟨f1, s2, g2, k2⟩ := store1 (o := i) (x := .int k x) h h1 h2 ⟨rfl, rfl⟩ (by simp; omega)
    rw [show (xs.map (AV.int k ·)).set i (AV.int k x) = (xs.set i x).map (AV.int k ·) by rw [List.map_set]] at f1 s2 g2 k2
    refine ⟨_, f1, s2, rfl, .inr ⟨b, gr, 1, by rw [List.length_set], h1, g2, h3, fun _ => rfl⟩, fun b' hb' => k2 b' (fun he => hb' xs.length xs.length gr (by rw [he]))⟩
end Go.Proofs.Ytoddncakdnmloaa.diary
