/- The parts ScCalls, ScLaw of the walk. -/
import Derived.Test.YtoddncakdnmloaaScRef
import Derived.Test.YtoddncakdnmloaaStRef
import Derived.Test.YtoddncakdnmloaaDiSame
/- The walks of the program's Calls and of the document's. -/
namespace Go.Proofs.Ytoddncakdnmloaa.diary
open Go Go.Vx
open Go.Proofs.Ytoddncakdnmloaa.stats (six ofP of_ok refof_ok)

/-- how long those of a kind took -/
def tks (es : List Ev) (k : Int) (l : List Sp) : List Int := (l.filter fun s => decide (0 ≤ s.to) && (s.kind == k)).map (tkS es)
theorem tks_succ {es : List Ev} {k : Int} {l : List Sp} {i : Nat} (hi : i < l.length) : tks es k (l.take (i + 1)) = tks es k (l.take i) ++ if (decide (0 ≤ l[i].to) && (l[i].kind == k)) = true then [tkS es l[i]] else [] := by
  unfold tks
  rw [List.take_add_one, List.getElem?_eq_getElem hi, Option.toList_some, List.filter_append, List.map_append]
  congr 1
  cases h : (decide (0 ≤ l[i].to) && (l[i].kind == k)) with
  | true => rw [if_pos rfl, List.filter_cons_of_pos (by exact h)]; rfl
  | false => rw [if_neg (by simp), List.filter_cons_of_neg (by rw [h]; simp)]; rfl
theorem tks_le {es : List Ev} {k : Int} {l : List Sp} {i : Nat} : (tks es k (l.take i)).length ≤ i := by
  unfold tks
  rw [List.length_map]
  have h := List.length_filter_le (fun s : Sp => decide (0 ≤ s.to) && (s.kind == k)) (l.take i)
  rw [List.length_take] at h
  omega
theorem ofP6 (xs : List Int) : ∃ a b c e f g, ofP xs = six a b c e f g := by
  unfold ofP
  split
  · exact ⟨_, _, _, _, _, _, rfl⟩
  · exact ⟨_, _, _, _, _, _, rfl⟩
theorem fin_ct {t : Tr AV} {M : AMem} {i j b n sz : Nat} {cs : List AV} {wr : Bool} {g : Option Nat} {u : AV} (h : t.get i = some (.ptr (some (b, 0)))) (hg : M.get b = some (.cells cs sz wr g)) (hl : cs.length = n) (hu : t.get j = some u) : resIs t M [.cell i true n, .tmp j] = some [.agg cs, u] := by
  simp only [resIs, resI, h, hu, if_true, AMem.loadCells, hg]
  rw [if_pos (by omega)]
  simp [List.take_of_length_le (Nat.le_of_eq hl)]

set_option maxRecDepth 20000 in
set_option maxHeartbeats 4000000 in
theorem calls_ok {v : AV} {es : List Ev} {q : Int} (d : Nat) (M0 : AMem) (hok : Okg M0) (hv : InEvs M0.g v es) (hn : es.length ≤ 1000) :
    Ans (callF tbl code 100000 (d + 6)) 15 [v, .int .i64 q] M0 fun r M' => Step M0 M' ∧ match openP es with
      | none => r = .tuple [.agg (six 0 0 0 0 0 0), .int .i64 13]
      | some sps => r = .tuple [.agg (ofP (tks es q sps)), .int .i64 0] := by
  refine Ans_of (tbl_none (by decide) _) (show code 15 = some c15 from by kernel_rfl) (by simp) fun t hd ha => ?_
  have h0 := ha 0 _ rfl
  have h1 := ha 1 _ rfl
  clear ha
  have s0 := (Step.refl hok).push (k := .cells (six 0 0 0 0 0 0) 0 true none) (fun _ _ _ _ he => by cases he)
  have gc := get_push_self (k := .cells (six 0 0 0 0 0 0) 0 true none) hok.1
  have hMn : M0.n < (M0.push (.cells (six 0 0 0 0 0 0) 0 true none)).n := Nat.lt_succ_self _
  refine W_seq (W_seqR (by simp only [runSeq_cons, runSeq_nil, evalArgs_nil, evalArgs_const, val1, putT, opI_move, opI_new]; rfl) ?_)
  generalize M0.push (.cells (six 0 0 0 0 0 0) 0 true none) = Ma at *
  obtain ⟨r, M1, c1, s1, hp⟩ := open_ok d Ma s0.ok (by rw [s0.grow.g]; exact hv) hn
  have z0 : ((0 : Int) != 0) = false := rfl
  have z13 : ((13 : Int) != 0) = true := rfl
  have gc1 := (s1.grow.get _ hMn).trans gc
  have t1 := s0.trans s1
  have eb : opI (.build [(.int .i64 0), (.int .i64 0), (.int .i64 0), (.int .i64 0), (.int .i64 0), (.int .i64 0)] []) [] M1 = some (.val (.agg (six 0 0 0 0 0 0)) M1) := rfl
  cases ho : openP es with
  | none =>
    rw [ho] at hp
    simp only at hp
    subst hp
    obtain ⟨e2, s2, g2, _⟩ := store_all (n := 6) (new := six 0 0 0 0 0 0) t1 (Nat.le_refl _) gc1 rfl rfl rfl
    refine W_seq (W_seqR (by simp only [runSeq_cons, runSeq_nil, evalArgs_nil, evalArgs_tmp, val1, putT, Tr.get_set_self, Tr.get_set_ne, hd _, ne_eq, Nat.reduceEqDiff, not_false_eq_true, decide_true, Nat.reduceLT, opI_move, opI_extract, opI_callF, h0, c1, List.getElem?_cons_zero, List.getElem?_cons_succ]; rfl) ?_)
    refine W_seq (W_seq (W_seqR (by simp only [runSeq_cons, runSeq_nil, evalArgs_nil, evalArgs_tmp, evalArgs_const, val1, putT, Tr.get_set_self, Tr.get_set_ne, hd _, ne_eq, Nat.reduceEqDiff, not_false_eq_true, decide_true, Nat.reduceLT, opI_move, opI_neq, z13]; rfl) ?_))
    refine W_cond (b := true) (by simp only [PArg.eval, Tr.get_set_self, Tr.get_set_ne, hd _, ne_eq, Nat.reduceEqDiff, not_false_eq_true, decide_true, Nat.reduceLT]; try rfl) (fun _ => ?_) (fun hb => by cases hb)
    refine W_seq (W_seqR (by simp only [runSeq_cons, runSeq_nil, evalArgs_nil, evalArgs_tmp, val1, putT, Tr.get_set_self, Tr.get_set_ne, hd _, ne_eq, Nat.reduceEqDiff, not_false_eq_true, decide_true, Nat.reduceLT, opI_move, eb, e2]; rfl) (W_ret ?_))
    exact ⟨_, fin_ct (by simp only [Tr.get_set_self, Tr.get_set_ne, hd _, ne_eq, Nat.reduceEqDiff, not_false_eq_true, decide_true, Nat.reduceLT]; try rfl) g2 rfl (by simp only [Tr.get_set_self, Tr.get_set_ne, Tr.isSome_set, Option.isSome_some, hd _, ne_eq, Nat.reduceEqDiff, not_false_eq_true, decide_true, Nat.reduceLT]; try rfl), s2, rfl⟩
  | some sps =>
  rw [ho] at hp
  simp only at hp
  obtain ⟨sv, rfl, hsp⟩ := hp
  obtain ⟨hmay, hin⟩ := openP_may hn ho
  have hcnt : sps.length ≤ es.length := by
    obtain ⟨_, h, _⟩ := openP_some hn ho
    rw [h]; exact refSp_len
  clear ho eb
  refine W_seq (W_seqR (by simp only [runSeq_cons, runSeq_nil, evalArgs_nil, evalArgs_tmp, val1, putT, Tr.get_set_self, Tr.get_set_ne, hd _, ne_eq, Nat.reduceEqDiff, not_false_eq_true, decide_true, Nat.reduceLT, opI_move, opI_extract, opI_callF, h0, c1, List.getElem?_cons_zero, List.getElem?_cons_succ]; rfl) ?_)
  refine W_seq (W_seq (W_seqR (by simp only [runSeq_cons, runSeq_nil, evalArgs_nil, evalArgs_tmp, evalArgs_const, val1, putT, Tr.get_set_self, Tr.get_set_ne, hd _, ne_eq, Nat.reduceEqDiff, not_false_eq_true, decide_true, Nat.reduceLT, opI_move, opI_neq, z0]; rfl) ?_))
  refine W_cond (b := false) (by simp only [PArg.eval, Tr.get_set_self, Tr.get_set_ne, hd _, ne_eq, Nat.reduceEqDiff, not_false_eq_true, decide_true, Nat.reduceLT]; try rfl) (fun hb => by cases hb) (fun _ => W_skip ?_)
  show W _ _
  have rS := hsp.rd s1.ok.1
  obtain ⟨sl, hsl, hat⟩ := rd_sl rS
  have g1 : M1.g = M0.g := t1.grow.g
  have hn1 : M0.n < M1.n := Nat.lt_of_lt_of_le hMn s1.grow.n
  have lS := rS.len
  refine W_seq (W_seqR (by simp only [runSeq_cons, runSeq_nil, evalArgs_nil, evalArgs_const, val1, putT, opI_move]; rfl) ?_)
  refine W_seq (W_seq (W_seqR (by simp only [runSeq_cons, runSeq_nil, evalArgs_nil, evalArgs_tmp, evalArgs_const, val1, putT, Tr.get_set_self, Tr.get_set_ne, hd _, ne_eq, Nat.reduceEqDiff, not_false_eq_true, decide_true, Nat.reduceLT, opI_move, lS]; rfl) (W_block (W_loop (fun k t M' => ∃ (i : Nat) (s : AV), k + i = sps.length ∧ Step M1 M' ∧ FreshE M1 M' 1 s ((tks es q (sps.take i)).map fun x => [.int .i64 x]) ∧ Dom t 45 ∧ t.get 0 = some v ∧ t.get 1 = some (.int .i64 q) ∧ t.get 4 = some (.ptr (some (M0.n, 0))) ∧ t.get 8 = some s ∧ t.get 20 = some sv ∧ t.get 21 = some (.int .i64 sps.length) ∧ t.get 22 = some (.int .i64 i)) (k := sps.length) (by omega) ?_ ?_))))
  · exact ⟨0, _, rfl, Step.refl s1.ok, .inr ⟨rfl, rfl⟩, by ((repeat (with_reducible apply Dom.set)); exact hd), by simp only [Tr.get_set_ne, ne_eq, Nat.reduceEqDiff, not_false_eq_true, h0], by simp only [Tr.get_set_ne, ne_eq, Nat.reduceEqDiff, not_false_eq_true, h1], by simp only [Tr.get_set_self, Tr.get_set_ne, hd _, ne_eq, Nat.reduceEqDiff, not_false_eq_true, decide_true, Nat.reduceLT], by simp only [Tr.get_set_self, Tr.get_set_ne, hd _, ne_eq, Nat.reduceEqDiff, not_false_eq_true, decide_true, Nat.reduceLT], by simp only [Tr.get_set_self, Tr.get_set_ne, hd _, ne_eq, Nat.reduceEqDiff, not_false_eq_true, decide_true, Nat.reduceLT], by simp only [Tr.get_set_self, Tr.get_set_ne, hd _, ne_eq, Nat.reduceEqDiff, not_false_eq_true, decide_true, Nat.reduceLT], by simp only [Tr.get_set_self, Tr.get_set_ne, hd _, ne_eq, Nat.reduceEqDiff, not_false_eq_true, decide_true, Nat.reduceLT]; rfl⟩
  clear h0 h1 hd lS c1
  intro k t M ⟨i, s, hk, st, hf, hd, h0, h1, h4, h8, h20, h21, h22⟩
  refine W_seq (W_seqR (by simp only [runSeq_cons, runSeq_nil, evalArgs_nil, evalArgs_tmp, val1, putT, opI_lss, h21, h22]; rfl) (W_seq ?_))
  refine W_cond (by simp only [PArg.eval, Tr.get_set_self, hd _, decide_true, Nat.reduceLT]; rfl) (fun hb => ?_) (fun hb => ?_)
  · have hi : i < sps.length := by simpa using hb
    obtain ⟨p, pp, p1, p2, _⟩ := hat M st.grow i hi
    obtain ⟨hs1, hs2⟩ := hsl i hi
    have hxok := hs2.ok
    have s2 := st.push (k := .cells z10 0 true none) (fun _ _ _ _ he => by cases he)
    have g2 := get_push_self (k := .cells z10 0 true none) st.ok.1
    have sA := (Step.refl st.ok).push (k := .cells z10 0 true none) (fun _ _ _ _ he => by cases he)
    obtain ⟨e3, s3, g3, k3⟩ := store_all (n := 10) (new := cS (sl i)) sA (Nat.le_refl _) g2 rfl rfl (cS_one hxok)
    have hf3 := hf.grow st.ok.1 s3.grow
    refine W_skip (W_seq (W_block (W_seq (W_seqR (by simp only [runSeq_cons, runSeq_nil, evalArgs_nil, evalArgs_tmp, val1, putT, Tr.get_set_self, Tr.get_set_ne, hd _, ne_eq, Nat.reduceEqDiff, not_false_eq_true, decide_true, Nat.reduceLT, opI_new, h20, h22, p1, p2, e3]; rfl) ?_))))
    have hnb : M.n < ((M.push (.cells z10 0 true none)).set M.n (.cells (cS (sl i)) 0 true none)).n := Nat.lt_succ_self _
    clear p1 p2 e3 s2 g2 k3 sA
    generalize (M.push (.cells z10 0 true none)).set M.n (.cells (cS (sl i)) 0 true none) = MB at *
    have L3 := load_own (o := 3) g3 rfl
    have L4 := load_own (o := 4) g3 rfl
    have h22n : wrapF .i64 ((i : Int) + 1) = ((i + 1 : Nat) : Int) := by rw [wrapF_small (by omega) (by omega)]; rfl
    have hT := tks_succ (es := es) (k := q) hi
    rw [← hs1] at hT
    have t3 := st.trans s3
    show W _ _
    have stay : (decide (0 ≤ (sl i).s.to) && ((sl i).s.kind == q)) = false → FreshE M1 MB 1 s ((tks es q (sps.take (i + 1))).map fun x => [.int .i64 x]) := fun h => by
      rw [h, if_neg (by simp), List.append_nil] at hT
      rw [hT]; exact hf3
    by_cases ct : (sl i).s.to ≥ 0
    rotate_left
    · have e1 : decide ((sl i).s.to ≥ 0) = false := decide_eq_false ct
      refine W_seq (W_seqR (by simp only [runSeq_cons, runSeq_nil, evalArgs_nil, evalArgs_tmp, evalArgs_const, val1, putT, Tr.get_set_self, Tr.get_set_ne, Tr.isSome_set, hd _, ne_eq, Nat.reduceEqDiff, not_false_eq_true, decide_true, Nat.reduceLT, opI_move, opI_geq, opI_fieldP, opI_pick, Nat.zero_add, runSeq_guard (b := false), Bool.false_beq, Bool.not_true, L3, e1]; rfl) ?_)
      refine W_cond (b := false) (by simp only [PArg.eval, Tr.get_set_self, Tr.get_set_ne, hd _, ne_eq, Nat.reduceEqDiff, not_false_eq_true, decide_true, Nat.reduceLT]; try rfl) (fun hb => by cases hb) (fun _ => W_skip ?_)
      show W _ _
      refine W_seqR (by simp only [runSeq_cons, runSeq_nil, evalArgs_nil, evalArgs_tmp, evalArgs_const, val1, putT, Tr.get_set_self, Tr.get_set_ne, hd _, ne_eq, Nat.reduceEqDiff, not_false_eq_true, decide_true, Nat.reduceLT, opI_move, opI_add, h22, h22n]; rfl) ?_
      exact ⟨k - 1, by omega, i + 1, s, by omega, t3, stay (by rw [decide_eq_false (by omega)]; rfl), by ((repeat (with_reducible apply Dom.set)); exact hd), by simp only [Tr.get_set_ne, ne_eq, Nat.reduceEqDiff, not_false_eq_true, h0], by simp only [Tr.get_set_ne, ne_eq, Nat.reduceEqDiff, not_false_eq_true, h1], by simp only [Tr.get_set_ne, ne_eq, Nat.reduceEqDiff, not_false_eq_true, h4], by simp only [Tr.get_set_ne, ne_eq, Nat.reduceEqDiff, not_false_eq_true, h8], by simp only [Tr.get_set_ne, ne_eq, Nat.reduceEqDiff, not_false_eq_true, h20], by simp only [Tr.get_set_ne, ne_eq, Nat.reduceEqDiff, not_false_eq_true, h21], by simp only [Tr.get_set_self, Tr.get_set_ne, hd _, ne_eq, Nat.reduceEqDiff, not_false_eq_true, decide_true, Nat.reduceLT]⟩
    have e1 : decide ((sl i).s.to ≥ 0) = true := decide_eq_true ct
    cases ek : ((sl i).s.kind == q) with
    | false =>
      refine W_seq (W_seqR (by simp only [runSeq_cons, runSeq_nil, evalArgs_nil, evalArgs_tmp, evalArgs_const, val1, putT, Tr.get_set_self, Tr.get_set_ne, Tr.isSome_set, hd _, ne_eq, Nat.reduceEqDiff, not_false_eq_true, decide_true, Nat.reduceLT, opI_move, opI_geq, opI_eql, opI_fieldP, opI_pick, Nat.zero_add, Nat.add_zero, runSeq_guard (b := true), beq_self_eq_true, h1, L3, L4, e1, ek]; rfl) ?_)
      refine W_cond (b := false) (by simp only [PArg.eval, Tr.get_set_self, Tr.get_set_ne, hd _, ne_eq, Nat.reduceEqDiff, not_false_eq_true, decide_true, Nat.reduceLT]; try rfl) (fun hb => by cases hb) (fun _ => W_skip ?_)
      show W _ _
      refine W_seqR (by simp only [runSeq_cons, runSeq_nil, evalArgs_nil, evalArgs_tmp, evalArgs_const, val1, putT, Tr.get_set_self, Tr.get_set_ne, hd _, ne_eq, Nat.reduceEqDiff, not_false_eq_true, decide_true, Nat.reduceLT, opI_move, opI_add, h22, h22n]; rfl) ?_
      exact ⟨k - 1, by omega, i + 1, s, by omega, t3, stay (by rw [ek, Bool.and_false]), by ((repeat (with_reducible apply Dom.set)); exact hd), by simp only [Tr.get_set_ne, ne_eq, Nat.reduceEqDiff, not_false_eq_true, h0], by simp only [Tr.get_set_ne, ne_eq, Nat.reduceEqDiff, not_false_eq_true, h1], by simp only [Tr.get_set_ne, ne_eq, Nat.reduceEqDiff, not_false_eq_true, h4], by simp only [Tr.get_set_ne, ne_eq, Nat.reduceEqDiff, not_false_eq_true, h8], by simp only [Tr.get_set_ne, ne_eq, Nat.reduceEqDiff, not_false_eq_true, h20], by simp only [Tr.get_set_ne, ne_eq, Nat.reduceEqDiff, not_false_eq_true, h21], by simp only [Tr.get_set_self, Tr.get_set_ne, hd _, ne_eq, Nat.reduceEqDiff, not_false_eq_true, decide_true, Nat.reduceLT]⟩
    | true =>
      rw [ek, decide_eq_true (by omega), Bool.and_self, if_pos rfl] at hT
      refine W_seq (W_seqR (by simp only [runSeq_cons, runSeq_nil, evalArgs_nil, evalArgs_tmp, evalArgs_const, val1, putT, Tr.get_set_self, Tr.get_set_ne, Tr.isSome_set, hd _, ne_eq, Nat.reduceEqDiff, not_false_eq_true, decide_true, Nat.reduceLT, opI_move, opI_geq, opI_eql, opI_fieldP, opI_pick, Nat.zero_add, Nat.add_zero, runSeq_guard (b := true), beq_self_eq_true, h1, L3, L4, e1, ek]; rfl) ?_)
      refine W_cond (b := true) (by simp only [PArg.eval, Tr.get_set_self, Tr.get_set_ne, hd _, ne_eq, Nat.reduceEqDiff, not_false_eq_true, decide_true, Nat.reduceLT]; try rfl) (fun _ => ?_) (fun hb => by cases hb)
      have L10 := loads_own (o := 0) (n := 10) g3 (by simp [cS])
      have L10' : opI (.load true 10) [.ptr (some (M.n, 0))] MB = some (.val (.agg (cS (sl i))) MB) := L10
      have hend : Ended es (sl i).s := ended_of (by rw [hs1]; exact hin _ (List.getElem_mem hi)) (by omega)
      obtain ⟨_, MC, c4, rfl, s4⟩ := took_ok (d + 4) MB t3.ok (by rw [t3.grow.g, g1]; exact hv) hmay hend
      have hle := tks_le (es := es) (k := q) (l := sps) (i := i)
      obtain ⟨MD, _, e5, e6, s5, o5, _⟩ := push_el (bytes := 8) (z := [.int .i64 0]) (x := .int .i64 (tkS es (sl i).s)) (t3.trans s4) (hf3.grow t3.ok.1 s4.grow) rfl rfl (by omega) rfl (by rw [List.length_map]; omega) (by rw [List.length_map]; omega)
      refine W_seqR (by simp only [runSeq_cons, runSeq_nil, evalArgs_nil, evalArgs_tmp, val1, putT, Tr.get_set_self, Tr.get_set_ne, hd _, ne_eq, Nat.reduceEqDiff, not_false_eq_true, decide_true, Nat.reduceLT, opI_move, opI_callF, h0, h8, L10', c4, e5, e6]; rfl) ?_
      show W _ _
      refine W_seqR (by simp only [runSeq_cons, runSeq_nil, evalArgs_nil, evalArgs_tmp, evalArgs_const, val1, putT, Tr.get_set_self, Tr.get_set_ne, hd _, ne_eq, Nat.reduceEqDiff, not_false_eq_true, decide_true, Nat.reduceLT, opI_move, opI_add, h22, h22n]; rfl) ?_
      refine ⟨k - 1, by omega, i + 1, _, by omega, s5, .inl ?_, by ((repeat (with_reducible apply Dom.set)); exact hd), by simp only [Tr.get_set_ne, ne_eq, Nat.reduceEqDiff, not_false_eq_true, h0], by simp only [Tr.get_set_ne, ne_eq, Nat.reduceEqDiff, not_false_eq_true, h1], by simp only [Tr.get_set_ne, ne_eq, Nat.reduceEqDiff, not_false_eq_true, h4], by simp only [Tr.get_set_self, Tr.get_set_ne, hd _, ne_eq, Nat.reduceEqDiff, not_false_eq_true, decide_true, Nat.reduceLT]; rfl, by simp only [Tr.get_set_ne, ne_eq, Nat.reduceEqDiff, not_false_eq_true, h20], by simp only [Tr.get_set_ne, ne_eq, Nat.reduceEqDiff, not_false_eq_true, h21], by simp only [Tr.get_set_self, Tr.get_set_ne, hd _, ne_eq, Nat.reduceEqDiff, not_false_eq_true, decide_true, Nat.reduceLT]⟩
      rw [hT, List.map_append]
      exact o5
  refine W_exit ?_
  have hi : i = sps.length := by simp at hb; omega
  subst hi
  rw [List.take_of_length_le (Nat.le_refl _)] at hf
  show W _ _
  have hrow : IRow M .i64 s (tks es q sps) := hf.row st.ok.1
  have hle : (tks es q sps).length ≤ sps.length := by
    have := tks_le (es := es) (k := q) (l := sps) (i := sps.length)
    rwa [List.take_of_length_le (Nat.le_refl _)] at this
  obtain ⟨_, M2, c2, s2, rfl⟩ := of_ok (d + 3) M st.ok hrow (by omega)
  have gc2 := (s2.grow.get _ (Nat.lt_of_lt_of_le hn1 st.grow.n)).trans ((st.grow.get _ hn1).trans gc1)
  obtain ⟨e3, s3, g3, _⟩ := store_all (n := 6) (new := ofP (tks es q sps)) (t1.trans (st.trans s2)) (Nat.le_refl _) gc2 (by obtain ⟨_, _, _, _, _, _, h⟩ := ofP6 (tks es q sps); rw [h]; rfl) rfl (by obtain ⟨_, _, _, _, _, _, h⟩ := ofP6 (tks es q sps); rw [h]; rfl)
  refine W_seq (W_seqR (by simp only [runSeq_cons, runSeq_nil, evalArgs_nil, evalArgs_tmp, evalArgs_const, val1, putT, Tr.get_set_self, Tr.get_set_ne, hd _, ne_eq, Nat.reduceEqDiff, not_false_eq_true, decide_true, Nat.reduceLT, opI_move, opI_callF, h4, h8, c2, e3]; rfl) (W_ret ?_))
  exact ⟨_, fin_ct (by simp only [Tr.get_set_ne, ne_eq, Nat.reduceEqDiff, not_false_eq_true, h4]) g3 (by obtain ⟨_, _, _, _, _, _, h⟩ := ofP6 (tks es q sps); rw [h]; rfl) (by simp only [Tr.get_set_self, Tr.get_set_ne, hd _, ne_eq, Nat.reduceEqDiff, not_false_eq_true, decide_true, Nat.reduceLT]; try rfl), s3, rfl⟩

set_option maxRecDepth 20000 in
set_option maxHeartbeats 4000000 in
theorem refcalls_ok {v : AV} {es : List Ev} {q : Int} (d : Nat) (M0 : AMem) (hok : Okg M0) (hv : InEvs M0.g v es) (hn : es.length ≤ 1000) (hmay : May es) :
    Ans (callF tbl code 100000 (d + 3)) 17 [v, .int .i64 q] M0 fun r M' => Step M0 M' ∧ r = .agg (ofP (tks es q (refSp es es.length))) := by
  refine Ans_of (tbl_none (by decide) _) (show code 17 = some c17 from by kernel_rfl) (by simp) fun t hd ha => ?_
  have h0 := ha 0 _ rfl
  have h1 := ha 1 _ rfl
  clear ha
  have s0 := (Step.refl hok).push (k := .cells (six 0 0 0 0 0 0) 0 true none) (fun _ _ _ _ he => by cases he)
  have gc := get_push_self (k := .cells (six 0 0 0 0 0 0) 0 true none) hok.1
  have hMn : M0.n < (M0.push (.cells (six 0 0 0 0 0 0) 0 true none)).n := Nat.lt_succ_self _
  refine W_seq (W_seqR (by simp only [runSeq_cons, runSeq_nil, evalArgs_nil, val1, putT, opI_new]; rfl) ?_)
  generalize M0.push (.cells (six 0 0 0 0 0 0) 0 true none) = Ma at *
  obtain ⟨sv, M1, c1, s1, rS⟩ := refspans_ok (d + 1) Ma s0.ok (by rw [s0.grow.g]; exact hv) hn
  have hin : ∀ s ∈ refSp es es.length, SpIn es s := refSp_in _ (Nat.le_refl _)
  have hcnt : (refSp es es.length).length ≤ es.length := refSp_len
  generalize refSp es es.length = sps at *
  have gc1 := (s1.grow.get _ hMn).trans gc
  have t1 := s0.trans s1
  obtain ⟨sl, hsl, hat⟩ := rd_sl rS
  have g1 : M1.g = M0.g := t1.grow.g
  have hn1 : M0.n < M1.n := Nat.lt_of_lt_of_le hMn s1.grow.n
  refine W_seq (W_seqR (by simp only [runSeq_cons, runSeq_nil, evalArgs_nil, evalArgs_tmp, val1, putT, Tr.get_set_self, Tr.get_set_ne, hd _, ne_eq, Nat.reduceEqDiff, not_false_eq_true, decide_true, Nat.reduceLT, opI_move, opI_callF, h0, c1]; rfl) ?_)
  have e2 : opI (.sliceLit 0 [] []) [] M1 = some (.val (.slice (some (M1.n, 0)) 0 0 false) (M1.push (.cells [] 0 true none))) := rfl
  have s2 := (Step.refl s1.ok).push (k := .cells [] 0 true none) (fun _ _ _ _ he => by cases he)
  have g2 := get_push_self (k := .cells [] 0 true none) s1.ok.1
  refine W_seq (W_seqR (by simp only [runSeq_cons, runSeq_nil, evalArgs_nil, evalArgs_tmp, val1, putT, Tr.get_set_self, Tr.get_set_ne, hd _, ne_eq, Nat.reduceEqDiff, not_false_eq_true, decide_true, Nat.reduceLT, opI_move, e2]; rfl) ?_)
  refine W_seq (W_seq (W_seqR (by simp only [runSeq_cons, runSeq_nil, evalArgs_nil, evalArgs_const, val1, putT, opI_move]; rfl) (W_block (W_loop (fun k t M' => ∃ (i : Nat) (s : AV), k + i = sps.length ∧ Step M1 M' ∧ FreshE M1 M' 1 s ((tks es q (sps.take i)).map fun x => [.int .i64 x]) ∧ Dom t 44 ∧ t.get 0 = some v ∧ t.get 1 = some (.int .i64 q) ∧ t.get 4 = some (.ptr (some (M0.n, 0))) ∧ t.get 5 = some sv ∧ t.get 6 = some s ∧ t.get 7 = some (.int .i64 i)) (k := sps.length) (by omega) ?_ ?_))))
  · exact ⟨0, _, rfl, s2, .inl ⟨M1.n, false, 0, none, rfl, Nat.le_refl _, g2, (fun he => by cases he), (fun g' he => by cases he), (fun e he => by simp [tks] at he), rfl⟩, by ((repeat (with_reducible apply Dom.set)); exact hd), by simp only [Tr.get_set_ne, ne_eq, Nat.reduceEqDiff, not_false_eq_true, h0], by simp only [Tr.get_set_ne, ne_eq, Nat.reduceEqDiff, not_false_eq_true, h1], by simp only [Tr.get_set_self, Tr.get_set_ne, hd _, ne_eq, Nat.reduceEqDiff, not_false_eq_true, decide_true, Nat.reduceLT], by simp only [Tr.get_set_self, Tr.get_set_ne, hd _, ne_eq, Nat.reduceEqDiff, not_false_eq_true, decide_true, Nat.reduceLT], by simp only [Tr.get_set_self, Tr.get_set_ne, hd _, ne_eq, Nat.reduceEqDiff, not_false_eq_true, decide_true, Nat.reduceLT]; rfl, by simp only [Tr.get_set_self, Tr.get_set_ne, hd _, ne_eq, Nat.reduceEqDiff, not_false_eq_true, decide_true, Nat.reduceLT]; rfl⟩
  clear h0 h1 hd c1 e2 s2 g2
  intro k t M ⟨i, s, hk, st, hf, hd, h0, h1, h4, h5, h6, h7⟩
  have lS := (rS.grow st.grow).len
  refine W_seq (W_seq (W_seqR (by simp only [runSeq_cons, runSeq_nil, evalArgs_nil, evalArgs_tmp, val1, putT, Tr.get_set_self, Tr.get_set_ne, hd _, ne_eq, Nat.reduceEqDiff, not_false_eq_true, decide_true, Nat.reduceLT, opI_move, opI_lss, h5, h7, lS]; rfl) ?_))
  refine W_cond (by simp only [PArg.eval, Tr.get_set_self, Tr.get_set_ne, hd _, ne_eq, Nat.reduceEqDiff, not_false_eq_true, decide_true, Nat.reduceLT]; rfl) (fun hb => W_skip ?_) (fun hb => ?_)
  · have hi : i < sps.length := by simpa using hb
    obtain ⟨p, pp, p1, p2, p3⟩ := hat M st.grow i hi
    have P3 := p3 3 _ rfl
    have P4 := p3 4 _ rfl
    obtain ⟨hs1, hs2⟩ := hsl i hi
    have h7n : wrapF .i64 ((i : Int) + 1) = ((i + 1 : Nat) : Int) := by rw [wrapF_small (by omega) (by omega)]; rfl
    have hT := tks_succ (es := es) (k := q) hi
    rw [← hs1] at hT
    show W _ _
    have stay : (decide (0 ≤ (sl i).s.to) && ((sl i).s.kind == q)) = false → FreshE M1 M 1 s ((tks es q (sps.take (i + 1))).map fun x => [.int .i64 x]) := fun h => by
      rw [h, if_neg (by simp), List.append_nil] at hT
      rw [hT]; exact hf
    by_cases ct : (sl i).s.to ≥ 0
    rotate_left
    · have e1 : decide ((sl i).s.to ≥ 0) = false := decide_eq_false ct
      refine W_seq (W_block (W_seq (W_seqR (by simp only [runSeq_cons, runSeq_nil, evalArgs_nil, evalArgs_tmp, evalArgs_const, val1, putT, Tr.get_set_self, Tr.get_set_ne, Tr.isSome_set, hd _, ne_eq, Nat.reduceEqDiff, not_false_eq_true, decide_true, Nat.reduceLT, opI_move, opI_geq, opI_pick, Nat.zero_add, runSeq_guard (b := false), Bool.false_beq, Bool.not_true, h5, h7, p1, opI_fieldQ pp, P3, e1]; rfl) ?_)))
      refine W_cond (b := false) (by simp only [PArg.eval, Tr.get_set_self, Tr.get_set_ne, hd _, ne_eq, Nat.reduceEqDiff, not_false_eq_true, decide_true, Nat.reduceLT]; try rfl) (fun hb => by cases hb) (fun _ => W_skip ?_)
      show W _ _
      refine W_seqR (by simp only [runSeq_cons, runSeq_nil, evalArgs_nil, evalArgs_tmp, evalArgs_const, val1, putT, Tr.get_set_self, Tr.get_set_ne, hd _, ne_eq, Nat.reduceEqDiff, not_false_eq_true, decide_true, Nat.reduceLT, opI_move, opI_add, h7, h7n]; rfl) ?_
      exact ⟨k - 1, by omega, i + 1, s, by omega, st, stay (by rw [decide_eq_false (by omega)]; rfl), by ((repeat (with_reducible apply Dom.set)); exact hd), by simp only [Tr.get_set_ne, ne_eq, Nat.reduceEqDiff, not_false_eq_true, h0], by simp only [Tr.get_set_ne, ne_eq, Nat.reduceEqDiff, not_false_eq_true, h1], by simp only [Tr.get_set_ne, ne_eq, Nat.reduceEqDiff, not_false_eq_true, h4], by simp only [Tr.get_set_ne, ne_eq, Nat.reduceEqDiff, not_false_eq_true, h5], by simp only [Tr.get_set_ne, ne_eq, Nat.reduceEqDiff, not_false_eq_true, h6], by simp only [Tr.get_set_self, Tr.get_set_ne, hd _, ne_eq, Nat.reduceEqDiff, not_false_eq_true, decide_true, Nat.reduceLT]⟩
    have e1 : decide ((sl i).s.to ≥ 0) = true := decide_eq_true ct
    cases ek : ((sl i).s.kind == q) with
    | false =>
      refine W_seq (W_block (W_seq (W_seqR (by simp only [runSeq_cons, runSeq_nil, evalArgs_nil, evalArgs_tmp, evalArgs_const, val1, putT, Tr.get_set_self, Tr.get_set_ne, Tr.isSome_set, hd _, ne_eq, Nat.reduceEqDiff, not_false_eq_true, decide_true, Nat.reduceLT, opI_move, opI_geq, opI_eql, opI_pick, Nat.zero_add, Nat.add_zero, runSeq_guard (b := true), beq_self_eq_true, h1, h5, h7, p1, opI_fieldQ pp, P3, P4, e1, ek]; rfl) ?_)))
      refine W_cond (b := false) (by simp only [PArg.eval, Tr.get_set_self, Tr.get_set_ne, hd _, ne_eq, Nat.reduceEqDiff, not_false_eq_true, decide_true, Nat.reduceLT]; try rfl) (fun hb => by cases hb) (fun _ => W_skip ?_)
      show W _ _
      refine W_seqR (by simp only [runSeq_cons, runSeq_nil, evalArgs_nil, evalArgs_tmp, evalArgs_const, val1, putT, Tr.get_set_self, Tr.get_set_ne, hd _, ne_eq, Nat.reduceEqDiff, not_false_eq_true, decide_true, Nat.reduceLT, opI_move, opI_add, h7, h7n]; rfl) ?_
      exact ⟨k - 1, by omega, i + 1, s, by omega, st, stay (by rw [ek, Bool.and_false]), by ((repeat (with_reducible apply Dom.set)); exact hd), by simp only [Tr.get_set_ne, ne_eq, Nat.reduceEqDiff, not_false_eq_true, h0], by simp only [Tr.get_set_ne, ne_eq, Nat.reduceEqDiff, not_false_eq_true, h1], by simp only [Tr.get_set_ne, ne_eq, Nat.reduceEqDiff, not_false_eq_true, h4], by simp only [Tr.get_set_ne, ne_eq, Nat.reduceEqDiff, not_false_eq_true, h5], by simp only [Tr.get_set_ne, ne_eq, Nat.reduceEqDiff, not_false_eq_true, h6], by simp only [Tr.get_set_self, Tr.get_set_ne, hd _, ne_eq, Nat.reduceEqDiff, not_false_eq_true, decide_true, Nat.reduceLT]⟩
    | true =>
      rw [ek, decide_eq_true (by omega), Bool.and_self, if_pos rfl] at hT
      refine W_seq (W_block (W_seq (W_seqR (by simp only [runSeq_cons, runSeq_nil, evalArgs_nil, evalArgs_tmp, evalArgs_const, val1, putT, Tr.get_set_self, Tr.get_set_ne, Tr.isSome_set, hd _, ne_eq, Nat.reduceEqDiff, not_false_eq_true, decide_true, Nat.reduceLT, opI_move, opI_geq, opI_eql, opI_pick, Nat.zero_add, Nat.add_zero, runSeq_guard (b := true), beq_self_eq_true, h1, h5, h7, p1, opI_fieldQ pp, P3, P4, e1, ek]; rfl) ?_)))
      refine W_cond (b := true) (by simp only [PArg.eval, Tr.get_set_self, Tr.get_set_ne, hd _, ne_eq, Nat.reduceEqDiff, not_false_eq_true, decide_true, Nat.reduceLT]; try rfl) (fun _ => ?_) (fun hb => by cases hb)
      have hend : Ended es (sl i).s := ended_of (by rw [hs1]; exact hin _ (List.getElem_mem hi)) (by omega)
      obtain ⟨_, MC, c4, rfl, s4⟩ := reftook_ok (d + 1) M st.ok (by rw [st.grow.g, g1]; exact hv) hmay hend
      have hle := tks_le (es := es) (k := q) (l := sps) (i := i)
      obtain ⟨MD, _, e5, e6, s5, o5, _⟩ := push_el (bytes := 8) (z := [.int .i64 0]) (x := .int .i64 (tkS es (sl i).s)) (st.trans s4) (hf.grow st.ok.1 s4.grow) rfl rfl (by omega) rfl (by rw [List.length_map]; omega) (by rw [List.length_map]; omega)
      refine W_seqR (by simp only [runSeq_cons, runSeq_nil, evalArgs_nil, evalArgs_tmp, val1, putT, Tr.get_set_self, Tr.get_set_ne, hd _, ne_eq, Nat.reduceEqDiff, not_false_eq_true, decide_true, Nat.reduceLT, opI_move, opI_callF, h0, h5, h6, h7, p1, p2, c4, e5, e6]; rfl) ?_
      show W _ _
      refine W_seqR (by simp only [runSeq_cons, runSeq_nil, evalArgs_nil, evalArgs_tmp, evalArgs_const, val1, putT, Tr.get_set_self, Tr.get_set_ne, hd _, ne_eq, Nat.reduceEqDiff, not_false_eq_true, decide_true, Nat.reduceLT, opI_move, opI_add, h7, h7n]; rfl) ?_
      refine ⟨k - 1, by omega, i + 1, _, by omega, s5, .inl ?_, by ((repeat (with_reducible apply Dom.set)); exact hd), by simp only [Tr.get_set_ne, ne_eq, Nat.reduceEqDiff, not_false_eq_true, h0], by simp only [Tr.get_set_ne, ne_eq, Nat.reduceEqDiff, not_false_eq_true, h1], by simp only [Tr.get_set_ne, ne_eq, Nat.reduceEqDiff, not_false_eq_true, h4], by simp only [Tr.get_set_ne, ne_eq, Nat.reduceEqDiff, not_false_eq_true, h5], by simp only [Tr.get_set_self, Tr.get_set_ne, hd _, ne_eq, Nat.reduceEqDiff, not_false_eq_true, decide_true, Nat.reduceLT]; rfl, by simp only [Tr.get_set_self, Tr.get_set_ne, hd _, ne_eq, Nat.reduceEqDiff, not_false_eq_true, decide_true, Nat.reduceLT]⟩
      rw [hT, List.map_append]
      exact o5
  refine W_exit ?_
  have hi : i = sps.length := by simp at hb; omega
  subst hi
  rw [List.take_of_length_le (Nat.le_refl _)] at hf
  show W _ _
  have hrow : IRow M .i64 s (tks es q sps) := hf.row st.ok.1
  have hle : (tks es q sps).length ≤ sps.length := by
    have := tks_le (es := es) (k := q) (l := sps) (i := sps.length)
    rwa [List.take_of_length_le (Nat.le_refl _)] at this
  obtain ⟨_, M2, c2, s2, rfl⟩ := refof_ok d M st.ok hrow (by omega)
  have gc2 := (s2.grow.get _ (Nat.lt_of_lt_of_le hn1 st.grow.n)).trans ((st.grow.get _ hn1).trans gc1)
  obtain ⟨e3, s3, g3, _⟩ := store_all (n := 6) (new := ofP (tks es q sps)) (t1.trans (st.trans s2)) (Nat.le_refl _) gc2 (by obtain ⟨_, _, _, _, _, _, h⟩ := ofP6 (tks es q sps); rw [h]; rfl) rfl (by obtain ⟨_, _, _, _, _, _, h⟩ := ofP6 (tks es q sps); rw [h]; rfl)
  refine W_seq (W_seqR (by simp only [runSeq_cons, runSeq_nil, evalArgs_nil, evalArgs_tmp, val1, putT, Tr.get_set_self, Tr.get_set_ne, hd _, ne_eq, Nat.reduceEqDiff, not_false_eq_true, decide_true, Nat.reduceLT, opI_move, opI_callF, h4, h6, c2, e3]; rfl) (W_ret ?_))
  exact ⟨_, fin_cell (by simp only [Tr.get_set_ne, ne_eq, Nat.reduceEqDiff, not_false_eq_true, h4]) g3 (by obtain ⟨_, _, _, _, _, _, h⟩ := ofP6 (tks es q sps); rw [h]; rfl), s3, rfl⟩
end Go.Proofs.Ytoddncakdnmloaa.diary
/- The walk of the law StatsCalls. -/
namespace Go.Proofs.Ytoddncakdnmloaa.diary
open Go Go.Vx
open Go.Proofs.Ytoddncakdnmloaa.stats (six ofP)

theorem ld6 {M : AMem} {b sz n : Nat} {cs : List AV} {wr : Bool} {g : Option Nat} (h : M.get b = some (.cells cs sz wr g)) (hl : cs.length = n) : opI (.load true n) [.ptr (some (b, 0))] M = some (.val (.agg cs) M) := by
  have e := loads_own (o := 0) (n := n) h (by omega)
  rwa [List.drop_zero, List.take_of_length_le (by omega)] at e
theorem sc_bd {es : List Ev} (he : ∀ e ∈ es, e.vs.length ≤ 100 ∧ e.ls.length ≤ 100) : ∀ s ∈ refSp es es.length, s.vs.length ≤ 100 ∧ s.ls.length ≤ 100 := by
  have hev : ∀ i, (ev es i).vs.length ≤ 100 ∧ (ev es i).ls.length ≤ 100 := fun i => by
    unfold ev
    rw [List.getD_eq_getElem?_getD]
    cases h : es[i]? with
    | none => exact ⟨by simp [dE], by simp [dE]⟩
    | some e => exact he e (List.mem_of_getElem? h)
  have hto : ∀ i m, (spanTo es i m).vs.length ≤ 100 ∧ (spanTo es i m).ls.length ≤ 100 := fun i m => by
    induction m with
    | zero => exact ⟨(hev i).1, by simp [spanTo, beg]⟩
    | succ m ih =>
      show (updS _ _ _).vs.length ≤ 100 ∧ (updS _ _ _).ls.length ≤ 100
      unfold updS
      split
      · exact ⟨ih.1, (hev _).2⟩
      · exact ih
  have key : ∀ n, ∀ s ∈ refSp es n, s.vs.length ≤ 100 ∧ s.ls.length ≤ 100 := fun n => by
    induction n with
    | zero => intro s hs; simp [refSp] at hs
    | succ n ih =>
      intro s hs
      unfold refSp at hs
      split at hs
      · exact ih s hs
      · rcases List.mem_append.1 hs with hs | hs
        · exact ih s hs
        · simp only [List.mem_singleton] at hs; subst hs; exact hto _ _
  exact key _

set_option maxRecDepth 20000 in
set_option maxHeartbeats 2000000 in
theorem same6_ok {a b c e f g : Int} (d : Nat) (M : AMem) (hok : Okg M) :
    Ans (callF tbl code 100000 (d + 1)) 7 [.agg (six a b c e f g), .agg (six a b c e f g)] M fun r M' => Step M M' ∧ r = .bool true := by
  refine Ans_of (tbl_none (by decide) _) (show code 7 = some c7 from by kernel_rfl) (by simp) fun t hd ha => ?_
  have h0 := ha 0 _ rfl
  have h1 := ha 1 _ rfl
  clear ha
  refine W_seq (W_seqR (by simp only [runSeq_cons, runSeq_nil, evalArgs_nil, evalArgs_tmp, evalArgs_const, val1, putT, Tr.get_set_ne, ne_eq, Nat.reduceEqDiff, not_false_eq_true, opI_move, opI_box, cells_agg, push_n, h0, h1]; rfl) ?_)
  have s1 := (Step.refl hok).push (k := .cells (six a b c e f g) 0 true none) (fun _ _ _ _ he => by cases he)
  have s2 := s1.push (k := .cells (six a b c e f g) 0 true none) (fun _ _ _ _ he => by cases he)
  have ga := (get_push_old (k := .cells (six a b c e f g) 0 true none) s1.ok.1 (show M.n < M.n + 1 by omega)).trans (get_push_self (k := .cells (six a b c e f g) 0 true none) hok.1)
  have gb := get_push_self (k := .cells (six a b c e f g) 0 true none) s1.ok.1
  simp only [push_n] at gb
  have A0 := load_own (o := 0) ga rfl
  have A1 := load_own (o := 1) ga rfl
  have A2 := load_own (o := 2) ga rfl
  have A3 := load_own (o := 3) ga rfl
  have A4 := load_own (o := 4) ga rfl
  have A5 := load_own (o := 5) ga rfl
  have B0 := load_own (o := 0) gb rfl
  have B1 := load_own (o := 1) gb rfl
  have B2 := load_own (o := 2) gb rfl
  have B3 := load_own (o := 3) gb rfl
  have B4 := load_own (o := 4) gb rfl
  have B5 := load_own (o := 5) gb rfl
  refine W_seq (W_seqR (by simp only [runSeq_cons, runSeq_nil, evalArgs_nil, evalArgs_tmp, evalArgs_const, val1, putT, Tr.get_set_self, Tr.get_set_ne, Tr.isSome_set, hd _, ne_eq, Nat.reduceEqDiff, not_false_eq_true, decide_true, Nat.reduceLT, opI_move, opI_eql, opI_fieldP, opI_pick, Nat.zero_add, Nat.add_zero, runSeq_guard (b := true), beq_self_eq_true, A0, A1, A2, A3, A4, A5, B0, B1, B2, B3, B4, B5, beq_self_eq_true]; rfl) (W_ret ?_))
  exact ⟨_, fin_tmp (by simp only [Tr.get_set_self, Tr.get_set_ne, Tr.isSome_set, Option.isSome_some, hd _, ne_eq, Nat.reduceEqDiff, not_false_eq_true, decide_true, Nat.reduceLT]; try rfl), s2, rfl⟩
set_option maxRecDepth 20000 in
set_option maxHeartbeats 4000000 in
theorem statsCalls_ok {v : AV} {es : List Ev} {q n : Int} (d : Nat) (M0 : AMem) (hok : Okg M0) (hv0 : Evs M0.g v es) :
    Ans (callF tbl code 100000 (d + 8)) 5 [v, .int .i64 q, .int .i64 n] M0 fun r _ => r = .bool true := by
  refine Ans_of (tbl_none (by decide) _) (show code 5 = some c5 from by kernel_rfl) (by simp) fun t hd ha => ?_
  have h0 := ha 0 _ rfl
  have h1 := ha 1 _ rfl
  have h2 := ha 2 _ rfl
  clear ha
  have haw : callF tbl code 100000 (d + 7) 6 [] M0 = some (.bool true, M0) := rfl
  refine W_seq (W_seqR (by simp only [runSeq_cons, runSeq_nil, evalArgs_nil, evalArgs_const, val1, putT, opI_move]; rfl) (W_seq (W_seq (W_seqR (by simp only [runSeq_cons, runSeq_nil, evalArgs_nil, evalArgs_tmp, val1, putT, Tr.get_set_self, Tr.get_set_ne, hd _, ne_eq, Nat.reduceEqDiff, not_false_eq_true, decide_true, Nat.reduceLT, opI_not, opI_callF, haw]; rfl) ?_))))
  refine W_cond (b := false) (by simp only [PArg.eval, Tr.get_set_self, Tr.get_set_ne, hd _, ne_eq, Nat.reduceEqDiff, not_false_eq_true, decide_true, Nat.reduceLT]; try rfl) (fun hb => by cases hb) (fun _ => W_skip ?_)
  show W _ _
  obtain ⟨_, _, c1, rfl, b, rfl, hb⟩ := big_ok (d + 6) M0 hv0
  rename_i M0
  refine W_seq (W_seq (W_seqR (by simp only [runSeq_cons, runSeq_nil, evalArgs_nil, evalArgs_tmp, val1, putT, Tr.get_set_self, Tr.get_set_ne, hd _, ne_eq, Nat.reduceEqDiff, not_false_eq_true, decide_true, Nat.reduceLT, opI_move, opI_callF, h0, c1]; rfl) ?_))
  cases b with
  | true =>
    refine W_cond (b := true) (by simp only [PArg.eval, Tr.get_set_self, Tr.get_set_ne, hd _, ne_eq, Nat.reduceEqDiff, not_false_eq_true, decide_true, Nat.reduceLT]; try rfl) (fun _ => ?_) (fun hb => by cases hb)
    refine W_seq (W_seqR (by simp only [runSeq_cons, runSeq_nil, evalArgs_nil, evalArgs_const, val1, putT, opI_move]; rfl) (W_ret ?_))
    exact ⟨_, fin_tmp (by simp only [Tr.get_set_self, Tr.get_set_ne, Option.isSome_some, hd _, ne_eq, Nat.reduceEqDiff, not_false_eq_true, decide_true, Nat.reduceLT]; try rfl), rfl⟩
  | false =>
  refine W_cond (b := false) (by simp only [PArg.eval, Tr.get_set_self, Tr.get_set_ne, hd _, ne_eq, Nat.reduceEqDiff, not_false_eq_true, decide_true, Nat.reduceLT]; try rfl) (fun hb => by cases hb) (fun _ => W_skip ?_)
  show W _ _
  obtain ⟨hn, hv⟩ := hb rfl
  obtain ⟨r, M1, c2, s1, hp⟩ := calls_ok (q := q) (d + 1) M0 hok hv (by omega)
  have e0 : ((0 : Int) == 0) = true := rfl
  have e13 : ((13 : Int) == 13) = true := rfl
  have z0 : (((0 : Nat) : Int) == 0) = true := rfl
  have six1 : ∀ xs, (ofP xs).all AV.one = true := fun xs => by obtain ⟨_, _, _, _, _, _, h⟩ := ofP6 xs; rw [h]; rfl
  have six6 : ∀ xs, (ofP xs).length = 6 := fun xs => by obtain ⟨_, _, _, _, _, _, h⟩ := ofP6 xs; rw [h]; rfl
  cases ho : openP es with
  | none =>
    rw [ho] at hp
    simp only at hp
    subst hp
    have sA := (Step.refl s1.ok).push (k := .cells (six 0 0 0 0 0 0) 0 true none) (fun _ _ _ _ he => by cases he)
    have gA := get_push_self (k := .cells (six 0 0 0 0 0 0) 0 true none) s1.ok.1
    obtain ⟨e3, sB, gB, _⟩ := store_all (n := 6) (new := six 0 0 0 0 0 0) sA (Nat.le_refl _) gA rfl rfl rfl
    refine W_seq (W_seqR (by simp only [runSeq_cons, runSeq_nil, evalArgs_nil, evalArgs_tmp, val1, putT, Tr.get_set_self, Tr.get_set_ne, hd _, ne_eq, Nat.reduceEqDiff, not_false_eq_true, decide_true, Nat.reduceLT, opI_move, opI_extract, opI_callF, opI_new, h0, h1, c2, e3, List.getElem?_cons_zero, List.getElem?_cons_succ]; rfl) ?_)
    have hnb : M1.n < ((M1.push (.cells (six 0 0 0 0 0 0) 0 true none)).set M1.n (.cells (six 0 0 0 0 0 0) 0 true none)).n := Nat.lt_succ_self _
    generalize (M1.push (.cells (six 0 0 0 0 0 0) 0 true none)).set M1.n (.cells (six 0 0 0 0 0 0) 0 true none) = MB at *
    have tB := s1.trans sB
    obtain ⟨r, M2, c3, s2, hp⟩ := slowest_ok (n := n) d MB tB.ok (by rw [tB.grow.g]; exact hv) (by omega)
    rw [ho] at hp
    simp only at hp
    subst hp
    refine W_seq (W_seqR (by simp only [runSeq_cons, runSeq_nil, evalArgs_nil, evalArgs_tmp, val1, putT, Tr.get_set_self, Tr.get_set_ne, hd _, ne_eq, Nat.reduceEqDiff, not_false_eq_true, decide_true, Nat.reduceLT, opI_move, opI_extract, opI_callF, h0, h2, c3, List.getElem?_cons_zero, List.getElem?_cons_succ]; rfl) ?_)
    have t2 := tB.trans s2
    obtain ⟨_, M3, c4, s3, b, rfl, hb⟩ := may_ok (d + 3) M2 t2.ok (by rw [t2.grow.g]; exact hv) (by omega)
    have hbf : b = false := by
      cases b with
      | false => rfl
      | true =>
        obtain ⟨h1, h2⟩ := hb.1 rfl
        rcases openP_none (by omega) ho with h | ⟨h, h3⟩
        · exact absurd h2 h
        · have := h1 (es.length - 1) (by omega); omega
    subst hbf
    have g3 := ((s2.trans s3).grow.get _ hnb).trans gB
    have L6 := loads_own (o := 0) (n := 6) g3 (by simp)
    have L6' : opI (.load true 6) [.ptr (some (M1.n, 0))] M3 = some (.val (.agg (six 0 0 0 0 0 0)) M3) := L6
    have eb : opI (.build [(.int .i64 0), (.int .i64 0), (.int .i64 0), (.int .i64 0), (.int .i64 0), (.int .i64 0)] []) [] M3 = some (.val (.agg (six 0 0 0 0 0 0)) M3) := rfl
    obtain ⟨_, M4, c5, s4, rfl⟩ := same6_ok (a := 0) (b := 0) (c := 0) (e := 0) (f := 0) (g := 0) (d + 6) M3 (t2.trans s3).ok
    have l0 : ∀ M, opI .lenS [.slice none 0 0 false] M = some (.val (.int .i64 ((0 : Nat) : Int)) M) := fun _ => rfl
    refine W_seq (W_seq (W_seqR (by simp only [runSeq_cons, runSeq_nil, evalArgs_nil, evalArgs_tmp, val1, putT, Tr.get_set_self, Tr.get_set_ne, hd _, ne_eq, Nat.reduceEqDiff, not_false_eq_true, decide_true, Nat.reduceLT, opI_move, opI_not, opI_callF, h0, c4]; rfl) ?_))
    refine W_cond (b := true) (by simp only [PArg.eval, Tr.get_set_self, Tr.get_set_ne, hd _, ne_eq, Nat.reduceEqDiff, not_false_eq_true, decide_true, Nat.reduceLT]; try rfl) (fun _ => ?_) (fun hb => by cases hb)
    refine W_seq (W_seqR (by simp only [runSeq_cons, runSeq_nil, evalArgs_nil, evalArgs_tmp, evalArgs_const, val1, putT, Tr.get_set_self, Tr.get_set_ne, Tr.isSome_set, hd _, ne_eq, Nat.reduceEqDiff, not_false_eq_true, decide_true, Nat.reduceLT, opI_move, opI_eql, opI_callF, opI_pick, runSeq_guard (b := true), beq_self_eq_true, Bool.not_true, Bool.not_false, L6', eb, c5, l0, z0]; rfl) (W_ret ?_))
    exact ⟨_, fin_tmp (by simp only [Tr.get_set_self, Tr.get_set_ne, Option.isSome_some, hd _, ne_eq, Nat.reduceEqDiff, not_false_eq_true, decide_true, Nat.reduceLT]; try rfl), rfl⟩
  | some sps =>
    rw [ho] at hp
    simp only at hp
    subst hp
    obtain ⟨hR, hsps, hlast⟩ := openP_some (by omega) ho
    obtain ⟨hmay, hin⟩ := openP_may (by omega) ho
    have hcnt : sps.length ≤ es.length := by rw [hsps]; exact refSp_len
    have sA := (Step.refl s1.ok).push (k := .cells (six 0 0 0 0 0 0) 0 true none) (fun _ _ _ _ he => by cases he)
    have gA := get_push_self (k := .cells (six 0 0 0 0 0 0) 0 true none) s1.ok.1
    obtain ⟨e3, sB, gB, _⟩ := store_all (n := 6) (new := ofP (tks es q sps)) sA (Nat.le_refl _) gA (six6 _) rfl (six1 _)
    refine W_seq (W_seqR (by simp only [runSeq_cons, runSeq_nil, evalArgs_nil, evalArgs_tmp, val1, putT, Tr.get_set_self, Tr.get_set_ne, hd _, ne_eq, Nat.reduceEqDiff, not_false_eq_true, decide_true, Nat.reduceLT, opI_move, opI_extract, opI_callF, opI_new, h0, h1, c2, e3, List.getElem?_cons_zero, List.getElem?_cons_succ]; rfl) ?_)
    have hnb : M1.n < ((M1.push (.cells (six 0 0 0 0 0 0) 0 true none)).set M1.n (.cells (ofP (tks es q sps)) 0 true none)).n := Nat.lt_succ_self _
    generalize (M1.push (.cells (six 0 0 0 0 0 0) 0 true none)).set M1.n (.cells (ofP (tks es q sps)) 0 true none) = MB at *
    have tB := s1.trans sB
    obtain ⟨r, M2, c3, s2, hp⟩ := slowest_ok (n := n) d MB tB.ok (by rw [tB.grow.g]; exact hv) (by omega)
    rw [ho] at hp
    simp only at hp
    obtain ⟨vo, out, rfl, hrd, htop, hnd⟩ := hp
    refine W_seq (W_seqR (by simp only [runSeq_cons, runSeq_nil, evalArgs_nil, evalArgs_tmp, val1, putT, Tr.get_set_self, Tr.get_set_ne, hd _, ne_eq, Nat.reduceEqDiff, not_false_eq_true, decide_true, Nat.reduceLT, opI_move, opI_extract, opI_callF, h0, h2, c3, List.getElem?_cons_zero, List.getElem?_cons_succ]; rfl) ?_)
    have t2 := tB.trans s2
    obtain ⟨_, M3, c4, s3, b, rfl, hb⟩ := may_ok (d + 3) M2 t2.ok (by rw [t2.grow.g]; exact hv) (by omega)
    have hS := sorted_of hR.1
    have hbt : b = true := hb.2 ⟨fun i hi => by
      have h1 := hS i (es.length - 1) (by omega) (by omega)
      have h2 := hlast (by omega)
      omega, hR⟩
    subst hbt
    have t3 := t2.trans s3
    have g3 := ((s2.trans s3).grow.get _ hnb).trans gB
    refine W_seq (W_seq (W_seqR (by simp only [runSeq_cons, runSeq_nil, evalArgs_nil, evalArgs_tmp, val1, putT, Tr.get_set_self, Tr.get_set_ne, hd _, ne_eq, Nat.reduceEqDiff, not_false_eq_true, decide_true, Nat.reduceLT, opI_move, opI_not, opI_callF, h0, c4]; rfl) ?_))
    refine W_cond (b := false) (by simp only [PArg.eval, Tr.get_set_self, Tr.get_set_ne, hd _, ne_eq, Nat.reduceEqDiff, not_false_eq_true, decide_true, Nat.reduceLT]; try rfl) (fun hb => by cases hb) (fun _ => W_skip ?_)
    show W _ _
    have L6 : opI (.load true 6) [.ptr (some (M1.n, 0))] M3 = some (.val (.agg (ofP (tks es q sps))) M3) := ld6 g3 (six6 _)
    obtain ⟨_, M4, c5, s4, rfl⟩ := refcalls_ok (q := q) (d + 4) M3 t3.ok (by rw [t3.grow.g]; exact hv) (by omega) hmay
    have hnb3 : M1.n < M3.n := Nat.lt_of_lt_of_le hnb (s2.trans s3).grow.n
    have L6' : opI (.load true 6) [.ptr (some (M1.n, 0))] M4 = some (.val (.agg (ofP (tks es q sps))) M4) := ld6 ((s4.grow.get _ hnb3).trans g3) (six6 _)
    rw [← hsps] at c5
    have t4 := t3.trans s4
    obtain ⟨_, M5, c6, s5, hr6⟩ : Ans (callF tbl code 100000 (d + 7)) 7 [.agg (ofP (tks es q sps)), .agg (ofP (tks es q sps))] M4 fun r M' => Step M4 M' ∧ r = .bool true := by
      obtain ⟨_, _, _, _, _, _, h⟩ := ofP6 (tks es q sps)
      rw [h]; exact same6_ok (d + 6) M4 t4.ok
    subst hr6
    have hbq : AV.beq (.agg (ofP (tks es q sps))) (.agg (ofP (tks es q sps))) = true := by
      obtain ⟨_, _, _, _, _, _, h⟩ := ofP6 (tks es q sps)
      rw [h]; simp [AV.beq, AV.beqs]
    have t5 := t4.trans s5
    obtain ⟨rv, M6, c7, s6, out', hrd', htop', hnd'⟩ := refslowest_ok (n := n) (d + 5) M5 t5.ok (by rw [t5.grow.g]; exact hv) (by omega) hmay
    rw [← hsps] at htop'
    have hout := htop.uniq htop' hnd hnd'
    subst hout
    have t6 := t5.trans s6
    have hrdM := hrd.grow (s3.trans (s4.trans (s5.trans s6))).grow
    have hlen : out.length < 90000 := by
      have := htop.len
      have := List.length_filter_le (fun s : Sp => decide (0 ≤ s.to)) sps
      unfold En at *
      omega
    obtain ⟨_, M7, c8, s7, rfl⟩ := samespans_ok (d + 4) M6 hrdM hrd' t6.ok hlen (fun s hs => by
      have h1 := sc_bd (fun e he => ⟨(hv.2 e he).nv, (hv.2 e he).nl⟩) s (by rw [← hsps]; exact (List.mem_filter.1 (htop.mem s hs)).1)
      omega)
    rw [decide_eq_true rfl] at c8
    have t7 := t6.trans s7
    have k43 := t4.nh M3.n t3.grow.n
    have k44 := t4.nh M4.n t4.grow.n
    have k53 := t5.nh M3.n t3.grow.n
    have k54 := t5.nh M4.n t4.grow.n
    have k55 := t5.nh M5.n t5.grow.n
    have k63 := t6.nh M3.n t3.grow.n
    have k64 := t6.nh M4.n t4.grow.n
    have k65 := t6.nh M5.n t5.grow.n
    have k66 := t6.nh M6.n t6.grow.n
    have k73 := t7.nh M3.n t3.grow.n
    have k74 := t7.nh M4.n t4.grow.n
    have k75 := t7.nh M5.n t5.grow.n
    have k76 := t7.nh M6.n t6.grow.n
    have k33 := t3.nh M3.n t3.grow.n
    refine W_seq (W_trace (M' := M7) rfl (by simp only [sameN_self, evalArgs_nil, evalArgs_tmp, evalArgs_const, val1, putT, Tr.get_set_self, Tr.get_set_ne, Tr.isSome_set, hd _, ne_eq, Nat.reduceEqDiff, not_false_eq_true, decide_true, Nat.reduceLT, opI_move, opI_eql, opI_callF, opI_pick, trace_nil, trace_read, addR_some, addE_some, Bool.and_true, Bool.not_true, Bool.not_false, trace_gread (b := true), trace_geff (b := true), beq_self_eq_true, h0, h1, h2, L6, c5, c6, c7, c8, k43, k53, k63, k73, k33]; rfl) (by simp [checkRec, isLoad, sameAt, L6, L6', hbq]) rfl (W_ret ?_))
    exact ⟨_, fin_tmp (by simp only [Tr.get_set_self, Tr.get_set_ne, Option.isSome_some, hd _, ne_eq, Nat.reduceEqDiff, not_false_eq_true, decide_true, Nat.reduceLT]; try rfl), rfl⟩
end Go.Proofs.Ytoddncakdnmloaa.diary
