/- The walk of the document's Right. -/
import Derived.Test.YtoddncakdnmloaaDiSpans
namespace Go.Proofs.Ytoddncakdnmloaa.diary
open Go Go.Vx

def dE : Ev := ⟨0, 0, 0, false, 0, 0, .nilFunc, [], 0, 0, .nilFunc, []⟩
def ev (es : List Ev) (i : Nat) : Ev := es.getD i dE
theorem ev_at {es : List Ev} {i : Nat} (h : i < es.length) : es[i] = ev es i := by
  unfold ev; rw [List.getD_eq_getElem?_getD, List.getElem?_eq_getElem h]; rfl
/-- the places of a worker's events, of the first ones -/
def ownTo (es : List Ev) (w : Int) (n : Nat) : List Nat := (List.range n).filter fun i => decide ((ev es i).who = w)
abbrev ownL (es : List Ev) (w : Int) : List Nat := ownTo es w es.length
theorem ownTo_succ {es : List Ev} {w : Int} {n : Nat} : ownTo es w (n + 1) = ownTo es w n ++ if (ev es n).who = w then [n] else [] := by
  unfold ownTo
  rw [List.range_succ, List.filter_append]
  congr 1
  by_cases h : (ev es n).who = w <;> simp [List.filter, h]
theorem ownTo_lt {es : List Ev} {w : Int} {n i : Nat} (h : i ∈ ownTo es w n) : i < n := List.mem_range.1 (List.mem_filter.1 h).1
theorem ownTo_len {es : List Ev} {w : Int} {n : Nat} : (ownTo es w n).length ≤ n := by
  have := List.length_filter_le (fun i => decide ((ev es i).who = w)) (List.range n)
  simpa [ownTo] using this
abbrev castL (l : List Nat) : List Int := l.map (fun n : Nat => (n : Int))
theorem InEvs.len {G : Addr → Option AV} {v : AV} {es : List Ev} (hv : InEvs G v es) (M : AMem) (hM : M.g = G) : opI .lenS [v] M = some (.val (.int .i64 es.length) M) := by
  have := (hv.1 M hM).len
  rwa [List.length_map] at this
theorem InEvs.at_ {G : Addr → Option AV} {v : AV} {es : List Ev} (hv : InEvs G v es) {i : Nat} (hi : i < es.length) (M : AMem) (hM : M.g = G) :
    ∃ p, IsP p ∧ opI (.indexAddrS 10) [v, .int .i64 i] M = some (.val (padd p 0) M) ∧ (∀ o n, o + n ≤ 10 → opI (.load true n) [padd p o] M = some (.val (.agg (((ev es i).cells.drop o).take n)) M)) ∧ ∀ o x, (ev es i).cells[o]? = some x → opI (.load false 1) [padd p o] M = some (.val x M) := by
  have := (hv.1 M hM).at_ (i := i) (by rw [List.length_map]; exact hi) (by omega)
  rwa [List.getElem_map, ev_at hi] at this
theorem InEvs.ok {G : Addr → Option AV} {v : AV} {es : List Ev} (hv : InEvs G v es) {i : Nat} (hi : i < es.length) : EvOk G (ev es i) := by
  rw [← ev_at hi]; exact hv.2 _ (List.getElem_mem hi)

set_option maxHeartbeats 1000000 in
theorem refown_ok {v : AV} {es : List Ev} {w : Int} (d : Nat) (M0 : AMem) (hok : Okg M0) (hv : InEvs M0.g v es) (hn : es.length ≤ 1000) :
    Ans (callF tbl code 100000 (d + 1)) 39 [v, .int .i64 w] M0 fun r M' => Step M0 M' ∧ IRow M' .i64 r (castL (ownL es w)) := by
  refine Ans_of (tbl_none (by decide) _) (show code 39 = some c39 from by kernel_rfl) (by simp) fun t hd ha => ?_
  have h0 := ha 0 _ rfl
  have h1 := ha 1 _ rfl
  clear ha
  refine W_seq (W_seqR (by simp only [runSeq_cons, runSeq_nil, evalArgs_nil, evalArgs_const, val1, putT, opI_move]; rfl) ?_)
  have e1 : opI (.sliceLit 0 [] []) [] M0 = some (.val (.slice (some (M0.n, 0)) 0 0 false) (M0.push (.cells [] 0 true none))) := rfl
  have s1 := (Step.refl hok).push (k := .cells [] 0 true none) (fun _ _ _ _ he => by cases he)
  have g1 := get_push_self (k := .cells [] 0 true none) hok.1
  refine W_seq (W_seqR (by simp only [runSeq_cons, runSeq_nil, evalArgs_nil, evalArgs_tmp, val1, putT, Tr.get_set_self, Tr.get_set_ne, hd _, ne_eq, Nat.reduceEqDiff, not_false_eq_true, decide_true, Nat.reduceLT, opI_move, e1]; rfl) ?_)
  refine W_seq (W_seq (W_seqR (by simp only [runSeq_cons, runSeq_nil, evalArgs_nil, evalArgs_const, val1, putT, opI_move]; rfl) (W_block (W_loop (fun k t M' => ∃ (i : Nat) (s : AV), k + i = es.length ∧ Step M0 M' ∧ OwnE M0 M' 1 s ((castL (ownTo es w i)).map fun x => [.int .i64 x]) ∧ Dom t 26 ∧ t.get 0 = some v ∧ t.get 1 = some (.int .i64 w) ∧ t.get 5 = some s ∧ t.get 6 = some (.int .i64 i)) (k := es.length) (by omega) ?_ ?_))))
  · exact ⟨0, _, rfl, s1, ⟨M0.n, false, 0, none, rfl, Nat.le_refl _, g1, (fun he => by cases he), (fun g' he => by cases he), (fun e he => by simp [ownTo] at he), rfl⟩, by ((repeat (with_reducible apply Dom.set)); exact hd), by simp only [Tr.get_set_ne, ne_eq, Nat.reduceEqDiff, not_false_eq_true, h0], by simp only [Tr.get_set_ne, ne_eq, Nat.reduceEqDiff, not_false_eq_true, h1], by simp only [Tr.get_set_self, Tr.get_set_ne, hd _, ne_eq, Nat.reduceEqDiff, not_false_eq_true, decide_true, Nat.reduceLT]; rfl, by simp only [Tr.get_set_self, Tr.get_set_ne, hd _, ne_eq, Nat.reduceEqDiff, not_false_eq_true, decide_true, Nat.reduceLT]; rfl⟩
  clear h0 h1 hd
  intro k t M ⟨i, s, hk, st, ho, hd, h0, h1, h5, h6⟩
  have lv := hv.len M st.grow.g
  refine W_seq (W_seq (W_seqR (by simp only [runSeq_cons, runSeq_nil, evalArgs_nil, evalArgs_tmp, val1, putT, Tr.get_set_self, Tr.get_set_ne, hd _, ne_eq, Nat.reduceEqDiff, not_false_eq_true, decide_true, Nat.reduceLT, opI_move, opI_lss, h0, h6, lv]; rfl) ?_))
  refine W_cond (by simp only [PArg.eval, Tr.get_set_self, Tr.get_set_ne, hd _, ne_eq, Nat.reduceEqDiff, not_false_eq_true, decide_true, Nat.reduceLT]; rfl) (fun hb => ?_) (fun hb => ?_)
  rotate_left
  · refine W_exit ?_
    have hin : i = es.length := by simp at hb; omega
    subst hin
    show W _ _
    refine W_seq (W_seqR (by simp only [runSeq_cons, runSeq_nil, evalArgs_nil, evalArgs_tmp, val1, putT, Tr.get_set_self, Tr.get_set_ne, hd _, ne_eq, Nat.reduceEqDiff, not_false_eq_true, decide_true, Nat.reduceLT, opI_move, h5]; rfl) (W_ret ?_))
    exact ⟨_, fin_tmp (by simp only [Tr.get_set_self, Tr.get_set_ne, hd _, ne_eq, Nat.reduceEqDiff, not_false_eq_true, decide_true, Nat.reduceLT]; try rfl), st, ho.row st.ok.1⟩
  have hin : i < es.length := by simpa using hb
  obtain ⟨p, pp, p1, _, p2⟩ := hv.at_ hin M st.grow.g
  have p3 := p2 1 _ rfl
  by_cases hw : (ev es i).who = w
  · have hw' : ((ev es i).who == w) = true := by simpa using hw
    have hll := ownTo_len (es := es) (w := w) (n := i)
    obtain ⟨M', g, f1, f2, s2, o2, _, n2, _⟩ := push_el (bytes := 8) (z := [.int .i64 0]) (x := .int .i64 i) st (.inl ho) rfl rfl (by omega) rfl (by simp; omega) (by simp; omega)
    refine W_skip (W_seq (W_block (W_seq (W_seqR (by simp only [runSeq_cons, runSeq_nil, evalArgs_nil, evalArgs_tmp, val1, putT, Tr.get_set_self, Tr.get_set_ne, hd _, ne_eq, Nat.reduceEqDiff, not_false_eq_true, decide_true, Nat.reduceLT, opI_move, opI_eql, Nat.zero_add, h0, h1, h6, p1, opI_fieldQ pp, p3]; rfl) ?_))))
    refine W_cond (b := true) (by simp only [PArg.eval, Tr.get_set_self, Tr.get_set_ne, hd _, ne_eq, Nat.reduceEqDiff, not_false_eq_true, decide_true, Nat.reduceLT, hw']) (fun _ => ?_) (fun hb => by cases hb)
    refine W_seqR (by simp only [runSeq_cons, runSeq_nil, evalArgs_nil, evalArgs_tmp, val1, putT, Tr.get_set_self, Tr.get_set_ne, hd _, ne_eq, Nat.reduceEqDiff, not_false_eq_true, decide_true, Nat.reduceLT, opI_move, h5, h6, f1, f2]; rfl) ?_
    show W _ _
    refine W_seqR (by simp only [runSeq_cons, runSeq_nil, evalArgs_nil, evalArgs_tmp, evalArgs_const, val1, putT, Tr.get_set_self, Tr.get_set_ne, hd _, ne_eq, Nat.reduceEqDiff, not_false_eq_true, decide_true, Nat.reduceLT, opI_move, opI_add, h6]; rfl) ?_
    refine ⟨k - 1, by omega, i + 1, _, by omega, s2, ?_, by ((repeat (with_reducible apply Dom.set)); exact hd), by simp only [Tr.get_set_ne, ne_eq, Nat.reduceEqDiff, not_false_eq_true, h0], by simp only [Tr.get_set_ne, ne_eq, Nat.reduceEqDiff, not_false_eq_true, h1], by simp only [Tr.get_set_self, Tr.get_set_ne, hd _, ne_eq, Nat.reduceEqDiff, not_false_eq_true, decide_true, Nat.reduceLT]; rfl, ?_⟩
    · rw [ownTo_succ, if_pos hw]
      simpa [castL, AV.cells] using o2
    · simp only [Tr.get_set_self, Tr.get_set_ne, hd _, ne_eq, Nat.reduceEqDiff, not_false_eq_true, decide_true, Nat.reduceLT]
      rw [wrapF_small (by omega) (by omega)]; rfl
  · have hw' : ((ev es i).who == w) = false := by simpa using hw
    refine W_skip (W_seq (W_block (W_seq (W_seqR (by simp only [runSeq_cons, runSeq_nil, evalArgs_nil, evalArgs_tmp, val1, putT, Tr.get_set_self, Tr.get_set_ne, hd _, ne_eq, Nat.reduceEqDiff, not_false_eq_true, decide_true, Nat.reduceLT, opI_move, opI_eql, Nat.zero_add, h0, h1, h6, p1, opI_fieldQ pp, p3]; rfl) ?_))))
    refine W_cond (b := false) (by simp only [PArg.eval, Tr.get_set_self, Tr.get_set_ne, hd _, ne_eq, Nat.reduceEqDiff, not_false_eq_true, decide_true, Nat.reduceLT, hw']) (fun hb => by cases hb) (fun _ => W_skip ?_)
    show W _ _
    refine W_seqR (by simp only [runSeq_cons, runSeq_nil, evalArgs_nil, evalArgs_tmp, evalArgs_const, val1, putT, Tr.get_set_self, Tr.get_set_ne, hd _, ne_eq, Nat.reduceEqDiff, not_false_eq_true, decide_true, Nat.reduceLT, opI_move, opI_add, h6]; rfl) ?_
    refine ⟨k - 1, by omega, i + 1, _, by omega, st, ?_, by ((repeat (with_reducible apply Dom.set)); exact hd), by simp only [Tr.get_set_ne, ne_eq, Nat.reduceEqDiff, not_false_eq_true, h0], by simp only [Tr.get_set_ne, ne_eq, Nat.reduceEqDiff, not_false_eq_true, h1], by simp only [Tr.get_set_ne, ne_eq, Nat.reduceEqDiff, not_false_eq_true, h5]; rfl, ?_⟩
    · rw [ownTo_succ, if_neg hw, List.append_nil]; exact ho
    · simp only [Tr.get_set_self, Tr.get_set_ne, hd _, ne_eq, Nat.reduceEqDiff, not_false_eq_true, decide_true, Nat.reduceLT]
      rw [wrapF_small (by omega) (by omega)]; rfl

/-- an event's place in time, and its worker -/
def StepAt (es : List Ev) (i : Nat) : Prop := 0 ≤ (ev es i).step ∧ (∀ j, i = j + 1 → (ev es j).step ≤ (ev es i).step) ∧ 0 ≤ (ev es i).who ∧ (ev es i).who ≤ 15
/-- a worker's k-th event -/
def EvAt (es : List Ev) (at_ : List Nat) (k : Nat) : Prop :=
  (ev es (at_.getD k 0)).nth = (k / 2 : Nat) ∧ ((ev es (at_.getD k 0)).ends = decide (k % 2 = 1)) ∧
  ((ev es (at_.getD k 0)).ends = false → (ev es (at_.getD k 0)).code = 0 ∧ (ev es (at_.getD k 0)).v = 0 ∧ (ev es (at_.getD k 0)).ls = []) ∧
  ((ev es (at_.getD k 0)).ends = true → (ev es (at_.getD k 0)).kind = (ev es (at_.getD (k - 1) 0)).kind ∧ (ev es (at_.getD k 0)).task = (ev es (at_.getD (k - 1) 0)).task ∧ (ev es (at_.getD k 0)).vs = (ev es (at_.getD (k - 1) 0)).vs)
def RightP (es : List Ev) : Prop := (∀ i, i < es.length → StepAt es i) ∧ ∀ w : Nat, w < 16 → ∀ k, k < (ownL es w).length → EvAt es (ownL es w) k
theorem opI_quo2 {k : Nat} {M : AMem} (h : k < 1000000) : opI (.bin .quo) [.int .i64 k, .int .i64 2] M = some (.val (.int .i64 (k / 2 : Nat)) M) := by
  simp only [opI, binI, intI]
  have : (2 : Int) ≠ 0 := by decide
  simp only [this, if_true, if_false]
  have e : (k : Int).tdiv 2 = ((k / 2 : Nat) : Int) := by
    rw [Int.tdiv_eq_ediv_of_nonneg (by omega)]; omega
  rw [e, wrapF_small (by omega) (by omega)]
theorem opI_rem2 {k : Nat} {M : AMem} : opI (.bin .rem) [.int .i64 k, .int .i64 2] M = some (.val (.int .i64 (k % 2 : Nat)) M) := by
  simp only [opI, binI, intI]
  have : (2 : Int) ≠ 0 := by decide
  simp only [this, if_true, if_false]
  have e : (k : Int).tmod 2 = ((k % 2 : Nat) : Int) := by
    rw [Int.tmod_eq_emod_of_nonneg (by omega)]; omega
  rw [e]

set_option maxRecDepth 20000 in
set_option maxHeartbeats 8000000 in
theorem refright_ok {v : AV} {es : List Ev} (d : Nat) (M0 : AMem) (hok : Okg M0) (hv : InEvs M0.g v es) (hn : es.length ≤ 1000) :
    Ans (callF tbl code 100000 (d + 3)) 26 [v] M0 fun r M' => Step M0 M' ∧ ∃ b, r = .bool b ∧ (b = true ↔ RightP es) := by
  refine Ans_of (tbl_none (by decide) _) (show code 26 = some c26 from by kernel_rfl) (by simp) fun t hd ha => ?_
  have h0 := ha 0 _ rfl
  clear ha
  refine W_seq (W_seqR (by simp only [runSeq_cons, runSeq_nil, evalArgs_nil, evalArgs_const, val1, putT, opI_move]; rfl) ?_)
  refine W_seq (W_seq (W_seqR (by simp only [runSeq_cons, runSeq_nil, evalArgs_nil, evalArgs_const, val1, putT, opI_move]; rfl) (W_block (W_loop (fun k t M' => ∃ (i : Nat), k + i = es.length ∧ M' = M0 ∧ (∀ j, j < i → StepAt es j) ∧ Dom t 114 ∧ t.get 0 = some v ∧ t.get 3 = some (.int .i64 i)) (k := es.length) (by omega) ?_ ?_))))
  · exact ⟨0, rfl, rfl, fun j hj => by omega, by ((repeat (with_reducible apply Dom.set)); exact hd), by simp only [Tr.get_set_ne, ne_eq, Nat.reduceEqDiff, not_false_eq_true, h0], by simp only [Tr.get_set_self, Tr.get_set_ne, hd _, ne_eq, Nat.reduceEqDiff, not_false_eq_true, decide_true, Nat.reduceLT]; rfl⟩
  · clear h0 hd
    intro k t M ⟨i, hk, hM, hst, hd, h0, h3⟩
    subst hM
    have lv := hv.len M rfl
    refine W_seq (W_seq (W_seqR (by simp only [runSeq_cons, runSeq_nil, evalArgs_nil, evalArgs_tmp, val1, putT, Tr.get_set_self, Tr.get_set_ne, hd _, ne_eq, Nat.reduceEqDiff, not_false_eq_true, decide_true, Nat.reduceLT, opI_move, opI_lss, h0, h3, lv]; rfl) ?_))
    refine W_cond (by simp only [PArg.eval, Tr.get_set_self, Tr.get_set_ne, hd _, ne_eq, Nat.reduceEqDiff, not_false_eq_true, decide_true, Nat.reduceLT]; rfl) (fun hb => W_skip ?_) (fun hb => ?_)
    rotate_left
    · skip
      refine W_exit ?_
      have hA : ∀ j, j < es.length → StepAt es j := fun j hj => hst j (by simp at hb; omega)
      clear hst hb h3 lv hk
      show W _ _
      refine W_seq (W_seq (W_seqR (by simp only [runSeq_cons, runSeq_nil, evalArgs_nil, evalArgs_const, val1, putT, opI_move]; rfl) (W_block (W_loop (fun k t M' => ∃ (w : Nat), k + w = 16 ∧ Step M M' ∧ (∀ w', w' < w → ∀ k, k < (ownL es w').length → EvAt es (ownL es w') k) ∧ Dom t 114 ∧ t.get 0 = some v ∧ t.get 4 = some (.int .i64 w)) (k := 16) (by omega) ?_ ?_))))
      · exact ⟨0, rfl, Step.refl hok, fun w hw => by omega, by ((repeat (with_reducible apply Dom.set)); exact hd), by simp only [Tr.get_set_ne, ne_eq, Nat.reduceEqDiff, not_false_eq_true, h0], by simp only [Tr.get_set_self, Tr.get_set_ne, hd _, ne_eq, Nat.reduceEqDiff, not_false_eq_true, decide_true, Nat.reduceLT]; rfl⟩
      clear h0 hd
      intro kw t M1 ⟨w, hkw, s1, hws, hd, h0, h4⟩
      refine W_seq (W_seq (W_seqR (by simp only [runSeq_cons, runSeq_nil, evalArgs_nil, evalArgs_tmp, evalArgs_const, val1, putT, Tr.get_set_self, hd _, decide_true, Nat.reduceLT, opI_move, opI_lss, h4]; rfl) ?_))
      refine W_cond (by simp only [PArg.eval, Tr.get_set_self, Tr.get_set_ne, hd _, ne_eq, Nat.reduceEqDiff, not_false_eq_true, decide_true, Nat.reduceLT]; rfl) (fun hb => W_skip ?_) (fun hb => ?_)
      rotate_left
      · refine W_exit ?_
        have hw : w = 16 := by simp at hb; omega
        subst hw
        show W _ _
        refine W_seq (W_seqR (by simp only [runSeq_cons, runSeq_nil, evalArgs_nil, evalArgs_const, val1, putT, opI_move]; rfl) (W_ret ?_))
        exact ⟨_, fin_tmp (by simp only [Tr.get_set_self, Tr.get_set_ne, hd _, ne_eq, Nat.reduceEqDiff, not_false_eq_true, decide_true, Nat.reduceLT]; try rfl), s1, true, rfl, by simp; exact ⟨hA, hws⟩⟩
      have hw : w < 16 := by simp at hb; omega
      obtain ⟨r, M2, c2, s2, o2⟩ := refown_ok (w := (w : Int)) (d + 1) M1 s1.ok (by rw [s1.grow.g]; exact hv) hn
      refine W_seq (W_block (W_seq (W_seqR (by simp only [runSeq_cons, runSeq_nil, evalArgs_nil, evalArgs_tmp, val1, putT, Tr.get_set_self, Tr.get_set_ne, hd _, ne_eq, Nat.reduceEqDiff, not_false_eq_true, decide_true, Nat.reduceLT, opI_move, opI_callF, h0, h4, c2]; rfl) (W_seq (W_seqR (by simp only [runSeq_cons, runSeq_nil, evalArgs_nil, evalArgs_const, val1, putT, opI_move]; rfl) (W_block (W_loop (fun kk t M' => ∃ (k : Nat), kk + k = (ownL es w).length ∧ Step M M' ∧ (∀ k', k' < k → EvAt es (ownL es w) k') ∧ IRow M' .i64 r (castL (ownL es w)) ∧ Dom t 114 ∧ t.get 0 = some v ∧ t.get 4 = some (.int .i64 w) ∧ t.get 5 = some r ∧ t.get 6 = some (.int .i64 k)) (k := (ownL es w).length) (Nat.lt_of_le_of_lt (ownTo_len : (ownL es w).length ≤ es.length) (by omega)) ?_ ?_)))))))
      · exact ⟨0, rfl, s1.trans s2, fun k hk => by omega, o2, by ((repeat (with_reducible apply Dom.set)); exact hd), by simp only [Tr.get_set_ne, ne_eq, Nat.reduceEqDiff, not_false_eq_true, h0], by simp only [Tr.get_set_ne, ne_eq, Nat.reduceEqDiff, not_false_eq_true, h4], by simp only [Tr.get_set_self, Tr.get_set_ne, hd _, ne_eq, Nat.reduceEqDiff, not_false_eq_true, decide_true, Nat.reduceLT], by simp only [Tr.get_set_self, Tr.get_set_ne, hd _, ne_eq, Nat.reduceEqDiff, not_false_eq_true, decide_true, Nat.reduceLT]; rfl⟩
      clear h0 h4 hd c2 o2 s2 s1 M1 M2
      intro kk t M1 ⟨k, hk, s1, hks, hr, hd, h0, h4, h5, h6⟩
      have ll := hr.len
      rw [List.length_map] at ll
      refine W_seq (W_seq (W_seqR (by simp only [runSeq_cons, runSeq_nil, evalArgs_nil, evalArgs_tmp, val1, putT, Tr.get_set_self, Tr.get_set_ne, hd _, ne_eq, Nat.reduceEqDiff, not_false_eq_true, decide_true, Nat.reduceLT, opI_move, opI_lss, h5, h6, ll]; rfl) ?_))
      refine W_cond (by simp only [PArg.eval, Tr.get_set_self, Tr.get_set_ne, hd _, ne_eq, Nat.reduceEqDiff, not_false_eq_true, decide_true, Nat.reduceLT]; rfl) (fun hb => W_skip ?_) (fun hb => ?_)
      rotate_left
      · refine W_exit ?_
        have hkl : (ownL es w).length ≤ k := by simpa using hb
        show W _ _
        refine W_seqR (by simp only [runSeq_cons, runSeq_nil, evalArgs_nil, evalArgs_tmp, evalArgs_const, val1, putT, Tr.get_set_self, Tr.get_set_ne, hd _, ne_eq, Nat.reduceEqDiff, not_false_eq_true, decide_true, Nat.reduceLT, opI_move, opI_add, h4]; rfl) ?_
        refine ⟨kw - 1, by omega, w + 1, by omega, s1, fun w' hw' => ?_, by ((repeat (with_reducible apply Dom.set)); exact hd), by simp only [Tr.get_set_ne, ne_eq, Nat.reduceEqDiff, not_false_eq_true, h0], ?_⟩
        · rcases Nat.lt_or_ge w' w with h | h
          · exact hws w' h
          · obtain rfl : w' = w := by omega
            exact fun k' hk' => hks k' (by omega)
        · simp only [Tr.get_set_self, Tr.get_set_ne, hd _, ne_eq, Nat.reduceEqDiff, not_false_eq_true, decide_true, Nat.reduceLT]
          rw [wrapF_small (by omega) (by omega)]; rfl
      have hkl : k < (ownL es w).length := by simpa using hb
      have hk1000 : k < 1000 := Nat.lt_of_lt_of_le hkl (Nat.le_trans (ownTo_len : (ownL es w).length ≤ es.length) hn)
      have hx : (ownL es w).getD k 0 < es.length := by
        rw [List.getD_eq_getElem?_getD, List.getElem?_eq_getElem hkl]; exact ownTo_lt (List.getElem_mem hkl)
      have hix : ∀ k (h : k < (ownL es w).length), (castL (ownL es w))[k]'(by rw [List.length_map]; exact h) = (((ownL es w).getD k 0 : Nat) : Int) := fun k h => by
        rw [List.getElem_map, List.getD_eq_getElem?_getD, List.getElem?_eq_getElem h]; rfl
      have bad : ¬ EvAt es (ownL es w) k → ∀ (t' : Tr AV) (M' : AMem), Step M M' → t'.get 2 = some (.bool false) → Fin ⟨114, Tr.ofList (List.replicate 114 undefA), c26.body, [.tmp 2]⟩ (fun r M' => Step M M' ∧ ∃ b, r = .bool b ∧ (b = true ↔ RightP es)) .ret t' M' := fun hs t' M' hst ht =>
        ⟨_, fin_tmp ht, hst, false, rfl, by simp; exact fun h => hs (h.2 w hw k hkl)⟩
      obtain ⟨p, _, p1, p2⟩ := hr.at_ (i := k) (by rw [List.length_map]; exact hkl)
      rw [hix k hkl] at p2
      have hg1 := s1.grow.g
      obtain ⟨q, qq, q1, q2, _⟩ := hv.at_ hx M1 hg1
      replace q2 := q2 0 10 (by omega)
      have he := hv.ok hx
      unfold EvAt at bad
      have hX : ∀ k', k' + 1 < (ownL es w).length → (ownL es w).getD k' 0 < es.length := fun k' h => by
        have h' : k' < (ownL es w).length := by omega
        rw [List.getD_eq_getElem?_getD, List.getElem?_eq_getElem h']; exact ownTo_lt (List.getElem_mem h')
      generalize hxe : (ownL es w).getD k 0 = x at *
      have pc : (((ev es x).cells.drop 0).take 10) = (ev es x).cells := rfl
      rw [pc] at q2
      have s2 := s1.push (k := .cells [.int .i64 0, .int .i64 0, .int .i64 0, .bool false, .int .i64 0, .int .u64 0, .slice none 0 0 false, .int .i64 0, .int .u64 0, .slice none 0 0 false] 0 true none) (fun _ _ _ _ he => by cases he)
      have g2 := get_push_self (k := .cells [.int .i64 0, .int .i64 0, .int .i64 0, .bool false, .int .i64 0, .int .u64 0, .slice none 0 0 false, .int .i64 0, .int .u64 0, .slice none 0 0 false] 0 true none) s1.ok.1
      obtain ⟨e3, s3, c3, k3⟩ := store_all (n := 10) (new := (ev es x).cells) s2 s1.grow.n g2 rfl rfl (by simp [Ev.cells, one_int, one_bool, he.vs.one, he.ls.one])
      have hg3 : Grow M1 _ := ⟨Nat.le_succ _, fun b hb => (k3 b (by omega)).trans (get_push_old s1.ok.1 hb), rfl, fun _ => s3.ok.1⟩
      have hr3 := hr.grow hg3
      refine W_seq (W_block (W_seq (W_seqR (by simp only [runSeq_cons, runSeq_nil, evalArgs_nil, evalArgs_tmp, val1, putT, Tr.get_set_self, Tr.get_set_ne, hd _, ne_eq, Nat.reduceEqDiff, not_false_eq_true, decide_true, Nat.reduceLT, opI_move, opI_new, h0, h5, h6, p1, p2, q1, q2, e3]; rfl) ?_)))
      clear p1 p2 q1 q2 e3 g2 s2 hr ll k3
      have hn3 : M1.n < ((M1.push (.cells [.int .i64 0, .int .i64 0, .int .i64 0, .bool false, .int .i64 0, .int .u64 0, .slice none 0 0 false, .int .i64 0, .int .u64 0, .slice none 0 0 false] 0 true none)).set M1.n (.cells (ev es x).cells 0 true none)).n := Nat.lt_succ_self _
      generalize (M1.push (.cells [.int .i64 0, .int .i64 0, .int .i64 0, .bool false, .int .i64 0, .int .u64 0, .slice none 0 0 false, .int .i64 0, .int .u64 0, .slice none 0 0 false] 0 true none)).set M1.n (.cells (ev es x).cells 0 true none) = M3 at *
      have P2 := load_own (o := 2) c3 rfl
      have P3 := load_own (o := 3) c3 rfl
      have P7 := loads_own (o := 7) (n := 3) c3 (by simp [Ev.cells])
      simp only [Ev.cells, List.drop_succ_cons, List.drop_zero, List.take_succ_cons, List.take_zero] at P7
      have Q2 := opI_quo2 (k := k) (M := M3) (by omega)
      have R2 := opI_rem2 (k := k) (M := M3)
      have hm : (((k % 2 : Nat) : Int) == 1) = decide (k % 2 = 1) := by
        by_cases h : k % 2 = 1
        · rw [h]; rfl
        · rw [decide_eq_false h]; simp; omega
      by_cases hN : (ev es x).nth = (k / 2 : Nat)
      rotate_left
      · have hN' : ((ev es x).nth != ((k / 2 : Nat) : Int)) = true := by simpa using hN
        refine W_seq (W_seq (W_seqR (by simp only [runSeq_cons, runSeq_nil, evalArgs_nil, evalArgs_tmp, evalArgs_const, val1, putT, Tr.get_set_self, Tr.get_set_ne, Tr.isSome_set, hd _, ne_eq, Nat.reduceEqDiff, not_false_eq_true, decide_true, Nat.reduceLT, opI_move, opI_neq, opI_fieldP, opI_pick, Nat.zero_add, runSeq_guard (b := true), Bool.true_beq, h6, P2, Q2, hN']; rfl) ?_))
        refine W_cond (b := true) (by simp only [PArg.eval, Tr.get_set_self, Tr.get_set_ne, hd _, ne_eq, Nat.reduceEqDiff, not_false_eq_true, decide_true, Nat.reduceLT]; try rfl) (fun _ => ?_) (fun hb => by cases hb)
        refine W_seq (W_seqR (by simp only [runSeq_cons, runSeq_nil, evalArgs_nil, evalArgs_const, val1, putT, opI_move]; rfl) (W_ret (bad (fun h => hN h.1) _ _ s3 (by simp only [Tr.get_set_self, Tr.get_set_ne, hd _, ne_eq, Nat.reduceEqDiff, not_false_eq_true, decide_true, Nat.reduceLT]; try rfl))))
      have hN' : ((ev es x).nth != ((k / 2 : Nat) : Int)) = false := by simpa using hN
      by_cases hP : (ev es x).ends = decide (k % 2 = 1)
      rotate_left
      · have hP' : xorB true ((ev es x).ends == decide (k % 2 = 1)) = true := by simp [xorB, hP]
        refine W_seq (W_seq (W_seqR (by simp only [runSeq_cons, runSeq_nil, evalArgs_nil, evalArgs_tmp, evalArgs_const, val1, putT, Tr.get_set_self, Tr.get_set_ne, Tr.isSome_set, hd _, ne_eq, Nat.reduceEqDiff, not_false_eq_true, decide_true, Nat.reduceLT, opI_move, opI_neq, opI_eql, opI_eqBool, opI_fieldP, opI_pick, Nat.zero_add, runSeq_guard (b := false), beq_self_eq_true, h6, P2, P3, Q2, R2, hN', hm, hP']; rfl) ?_))
        refine W_cond (b := true) (by simp only [PArg.eval, Tr.get_set_self, Tr.get_set_ne, hd _, ne_eq, Nat.reduceEqDiff, not_false_eq_true, decide_true, Nat.reduceLT]; try rfl) (fun _ => ?_) (fun hb => by cases hb)
        refine W_seq (W_seqR (by simp only [runSeq_cons, runSeq_nil, evalArgs_nil, evalArgs_const, val1, putT, opI_move]; rfl) (W_ret (bad (fun h => hP h.2.1) _ _ s3 (by simp only [Tr.get_set_self, Tr.get_set_ne, hd _, ne_eq, Nat.reduceEqDiff, not_false_eq_true, decide_true, Nat.reduceLT]; try rfl))))
      have hP' : xorB true ((ev es x).ends == decide (k % 2 = 1)) = false := by simp [xorB, hP]
      refine W_seq (W_seq (W_seqR (by simp only [runSeq_cons, runSeq_nil, evalArgs_nil, evalArgs_tmp, evalArgs_const, val1, putT, Tr.get_set_self, Tr.get_set_ne, Tr.isSome_set, hd _, ne_eq, Nat.reduceEqDiff, not_false_eq_true, decide_true, Nat.reduceLT, opI_move, opI_neq, opI_eql, opI_eqBool, opI_fieldP, opI_pick, Nat.zero_add, runSeq_guard (b := false), beq_self_eq_true, h6, P2, P3, Q2, R2, hN', hm, hP']; rfl) ?_))
      refine W_cond (b := false) (by simp only [PArg.eval, Tr.get_set_self, Tr.get_set_ne, hd _, ne_eq, Nat.reduceEqDiff, not_false_eq_true, decide_true, Nat.reduceLT]; try rfl) (fun hb => by cases hb) (fun _ => W_skip ?_)
      show W _ _
      cases hends : (ev es x).ends with
      | false =>
        rw [hends] at P3 hP bad
        obtain ⟨r4, M4, c4, s4, rfl⟩ := sameResult_ok (c1 := (ev es x).code) (c2 := 0) (v1 := (ev es x).v) (v2 := 0) (u := (ev es x).la) (v := .slice none 0 0 false) (xs := (ev es x).ls) (ys := []) d M3 (he.ls M3 s3.grow.g) IRow.nil (by have := he.nl; omega) s3.ok
        have t4 := s3.trans s4
        by_cases hz : (ev es x).code = 0 ∧ (ev es x).v = 0 ∧ (ev es x).ls = []
        rotate_left
        · rw [decide_eq_false hz] at c4
          refine W_seq (W_seq (W_seqR (by simp only [runSeq_cons, runSeq_nil, evalArgs_nil, evalArgs_tmp, evalArgs_const, val1, putT, Tr.get_set_self, Tr.get_set_ne, Tr.isSome_set, hd _, ne_eq, Nat.reduceEqDiff, not_false_eq_true, decide_true, Nat.reduceLT, opI_move, opI_not, opI_callF, opI_fieldP, opI_pick, Nat.zero_add, runSeq_guard (b := true), beq_self_eq_true, Bool.not_false, P3, P7, opI_buildZ, c4]; rfl) ?_))
          refine W_cond (b := true) (by simp only [PArg.eval, Tr.get_set_self, Tr.get_set_ne, hd _, ne_eq, Nat.reduceEqDiff, not_false_eq_true, decide_true, Nat.reduceLT]; try rfl) (fun _ => ?_) (fun hb => by cases hb)
          refine W_seq (W_seqR (by simp only [runSeq_cons, runSeq_nil, evalArgs_nil, evalArgs_const, val1, putT, opI_move]; rfl) (W_ret (bad (fun h => hz (h.2.2.1 rfl)) _ _ t4 (by simp only [Tr.get_set_self, Tr.get_set_ne, hd _, ne_eq, Nat.reduceEqDiff, not_false_eq_true, decide_true, Nat.reduceLT]; try rfl))))
        rw [decide_eq_true hz] at c4
        refine W_seq (W_seq (W_seqR (by simp only [runSeq_cons, runSeq_nil, evalArgs_nil, evalArgs_tmp, evalArgs_const, val1, putT, Tr.get_set_self, Tr.get_set_ne, Tr.isSome_set, hd _, ne_eq, Nat.reduceEqDiff, not_false_eq_true, decide_true, Nat.reduceLT, opI_move, opI_not, opI_callF, opI_fieldP, opI_pick, Nat.zero_add, runSeq_guard (b := true), beq_self_eq_true, Bool.not_true, Bool.not_false, P3, P7, opI_buildZ, c4]; rfl) ?_))
        refine W_cond (b := false) (by simp only [PArg.eval, Tr.get_set_self, Tr.get_set_ne, hd _, ne_eq, Nat.reduceEqDiff, not_false_eq_true, decide_true, Nat.reduceLT]; try rfl) (fun hb => by cases hb) (fun _ => W_skip ?_)
        show W _ _
        have c5 := (s4.grow.get _ hn3).trans c3
        have P3' := load_own (o := 3) c5 rfl
        rw [hends] at P3'
        refine W_seq (W_mix rfl (by simp only [sameN_self, evalArgs_nil, evalArgs_tmp, evalArgs_const, putT, Tr.get_set_self, Tr.get_set_ne, Tr.isSome_set, hd _, ne_eq, Nat.reduceEqDiff, not_false_eq_true, decide_true, Nat.reduceLT, opI_move, opI_fieldP, opI_pick, Nat.zero_add, runMix_nil, runMix_read, runMix_guard (b := false), Bool.false_beq, Bool.not_true, P3']; rfl) ?_)
        refine W_cond (b := false) (by simp only [PArg.eval, Tr.get_set_self, Tr.get_set_ne, hd _, ne_eq, Nat.reduceEqDiff, not_false_eq_true, decide_true, Nat.reduceLT]; try rfl) (fun hb => by cases hb) (fun _ => W_skip ?_)
        show W _ _
        refine W_seqR (by simp only [runSeq_cons, runSeq_nil, evalArgs_nil, evalArgs_tmp, evalArgs_const, val1, putT, Tr.get_set_self, Tr.get_set_ne, hd _, ne_eq, Nat.reduceEqDiff, not_false_eq_true, decide_true, Nat.reduceLT, opI_move, opI_add, h6]; rfl) ?_
        refine ⟨kk - 1, by omega, k + 1, by omega, t4, fun k' hk' => ?_, hr3.grow s4.grow, by ((repeat (with_reducible apply Dom.set)); exact hd), by simp only [Tr.get_set_ne, ne_eq, Nat.reduceEqDiff, not_false_eq_true, h0], by simp only [Tr.get_set_ne, ne_eq, Nat.reduceEqDiff, not_false_eq_true, h4], by simp only [Tr.get_set_ne, ne_eq, Nat.reduceEqDiff, not_false_eq_true, h5], ?_⟩
        · rcases Nat.lt_or_ge k' k with h | h
          · exact hks k' h
          · obtain rfl : k' = k := by omega
            unfold EvAt
            rw [hxe, hends]
            exact ⟨hN, hP, fun _ => hz, fun h => by cases h⟩
        · simp only [Tr.get_set_self, Tr.get_set_ne, hd _, ne_eq, Nat.reduceEqDiff, not_false_eq_true, decide_true, Nat.reduceLT]
          rw [wrapF_small (by omega) (by omega)]; rfl
      | true =>
        rw [hends] at P3 hP bad
        refine W_seq (W_seq (W_seqR (by simp only [runSeq_cons, runSeq_nil, evalArgs_nil, evalArgs_tmp, evalArgs_const, val1, putT, Tr.get_set_self, Tr.get_set_ne, Tr.isSome_set, hd _, ne_eq, Nat.reduceEqDiff, not_false_eq_true, decide_true, Nat.reduceLT, opI_move, opI_not, opI_fieldP, opI_pick, Nat.zero_add, runSeq_guard (b := false), Bool.false_beq, Bool.not_true, P3]; rfl) ?_))
        refine W_cond (b := false) (by simp only [PArg.eval, Tr.get_set_self, Tr.get_set_ne, hd _, ne_eq, Nat.reduceEqDiff, not_false_eq_true, decide_true, Nat.reduceLT]; try rfl) (fun hb => by cases hb) (fun _ => W_skip ?_)
        show W _ _
        have hk2 : k % 2 = 1 := by simpa using hP.symm
        have hkk : wrapF .i64 ((k : Int) - 1) = ((k - 1 : Nat) : Int) := by rw [wrapF_small (by omega) (by omega)]; omega
        obtain ⟨p', _, p1, p2⟩ := hr3.at_ (i := k - 1) (by rw [List.length_map]; omega)
        rw [hix (k - 1) (by omega)] at p2
        have hy := hX (k - 1) (by omega)
        generalize hye : (ownL es w).getD (k - 1) 0 = y at *
        obtain ⟨q', qq', q1, q2, _⟩ := hv.at_ hy M3 s3.grow.g
        replace q2 := q2 4 3 (by omega)
        simp only [Ev.cells, List.drop_succ_cons, List.drop_zero, List.take_succ_cons, List.take_zero] at q2
        have P4 := loads_own (o := 4) (n := 3) c3 (by simp [Ev.cells])
        simp only [Ev.cells, List.drop_succ_cons, List.drop_zero, List.take_succ_cons, List.take_zero] at P4
        obtain ⟨r4, M4, c4, s4, rfl⟩ := sameCall_ok (c1 := (ev es x).kind) (c2 := (ev es y).kind) (v1 := (ev es x).task) (v2 := (ev es y).task) (u := (ev es x).va) (v := (ev es y).va) (xs := (ev es x).vs) (ys := (ev es y).vs) d M3 (he.vs M3 s3.grow.g) ((hv.ok hy).vs M3 s3.grow.g) (by have := he.nv; omega) s3.ok
        have t4 := s3.trans s4
        have hh := held_none s3.ok.1
        by_cases hz : (ev es x).kind = (ev es y).kind ∧ (ev es x).task = (ev es y).task ∧ (ev es x).vs = (ev es y).vs
        rotate_left
        · rw [decide_eq_false hz] at c4
          refine W_seq (W_mix rfl (by simp only [sameN_self, evalArgs_nil, evalArgs_tmp, evalArgs_const, val1, putT, Tr.get_set_self, Tr.get_set_ne, Tr.isSome_set, hd _, ne_eq, Nat.reduceEqDiff, not_false_eq_true, decide_true, Nat.reduceLT, opI_move, opI_not, opI_sub, opI_callF, opI_fieldP, opI_pick, Nat.zero_add, runMix_nil, runMix_read, runMix_eff, runMix_guard (b := true), beq_self_eq_true, Bool.not_false, h0, h5, h6, P3, P4, hkk, p1, p2, q1, q2, opI_fieldQ qq', c4, hh]; rfl) ?_)
          refine W_cond (b := true) (by simp only [PArg.eval, Tr.get_set_self, Tr.get_set_ne, hd _, ne_eq, Nat.reduceEqDiff, not_false_eq_true, decide_true, Nat.reduceLT]; try rfl) (fun _ => ?_) (fun hb => by cases hb)
          refine W_seq (W_seqR (by simp only [runSeq_cons, runSeq_nil, evalArgs_nil, evalArgs_const, val1, putT, opI_move]; rfl) (W_ret (bad (fun h => hz (h.2.2.2 rfl)) _ _ t4 (by simp only [Tr.get_set_self, Tr.get_set_ne, hd _, ne_eq, Nat.reduceEqDiff, not_false_eq_true, decide_true, Nat.reduceLT]; try rfl))))
        rw [decide_eq_true hz] at c4
        refine W_seq (W_mix rfl (by simp only [sameN_self, evalArgs_nil, evalArgs_tmp, evalArgs_const, val1, putT, Tr.get_set_self, Tr.get_set_ne, Tr.isSome_set, hd _, ne_eq, Nat.reduceEqDiff, not_false_eq_true, decide_true, Nat.reduceLT, opI_move, opI_not, opI_sub, opI_callF, opI_fieldP, opI_pick, Nat.zero_add, runMix_nil, runMix_read, runMix_eff, runMix_guard (b := true), beq_self_eq_true, Bool.not_true, h0, h5, h6, P3, P4, hkk, p1, p2, q1, q2, opI_fieldQ qq', c4, hh]; rfl) ?_)
        refine W_cond (b := false) (by simp only [PArg.eval, Tr.get_set_self, Tr.get_set_ne, hd _, ne_eq, Nat.reduceEqDiff, not_false_eq_true, decide_true, Nat.reduceLT]; try rfl) (fun hb => by cases hb) (fun _ => W_skip ?_)
        show W _ _
        refine W_seqR (by simp only [runSeq_cons, runSeq_nil, evalArgs_nil, evalArgs_tmp, evalArgs_const, val1, putT, Tr.get_set_self, Tr.get_set_ne, hd _, ne_eq, Nat.reduceEqDiff, not_false_eq_true, decide_true, Nat.reduceLT, opI_move, opI_add, h6]; rfl) ?_
        refine ⟨kk - 1, by omega, k + 1, by omega, t4, fun k' hk' => ?_, hr3.grow s4.grow, by ((repeat (with_reducible apply Dom.set)); exact hd), by simp only [Tr.get_set_ne, ne_eq, Nat.reduceEqDiff, not_false_eq_true, h0], by simp only [Tr.get_set_ne, ne_eq, Nat.reduceEqDiff, not_false_eq_true, h4], by simp only [Tr.get_set_ne, ne_eq, Nat.reduceEqDiff, not_false_eq_true, h5], ?_⟩
        · rcases Nat.lt_or_ge k' k with h | h
          · exact hks k' h
          · obtain rfl : k' = k := by omega
            unfold EvAt
            rw [hxe, hye, hends]
            exact ⟨hN, hP, (fun h => by cases h), fun _ => hz⟩
        · simp only [Tr.get_set_self, Tr.get_set_ne, hd _, ne_eq, Nat.reduceEqDiff, not_false_eq_true, decide_true, Nat.reduceLT]
          rw [wrapF_small (by omega) (by omega)]; rfl
    have hin : i < es.length := by simpa using hb
    obtain ⟨p, pp, p1, _, p2⟩ := hv.at_ hin M rfl
    have P0 := p2 0 _ rfl
    have P1 := p2 1 _ rfl
    have bad : ¬ StepAt es i → ∀ t' : Tr AV, t'.get 2 = some (.bool false) → Fin ⟨114, Tr.ofList (List.replicate 114 undefA), c26.body, [.tmp 2]⟩ (fun r M' => Step M M' ∧ ∃ b, r = .bool b ∧ (b = true ↔ RightP es)) .ret t' M := fun hs t' ht =>
      ⟨_, fin_tmp ht, Step.refl hok, false, rfl, by simp; exact fun h => hs (h.1 i hin)⟩
    by_cases hA : (ev es i).step < 0
    · skip
      refine W_seq (W_block (W_seq (W_quiet rfl (by simp only [runPure_cons, runPure_nil, ofD_cons, ofD_nil, sameN_self, evalArgs_nil, evalArgs_tmp, evalArgs_const, putT, Tr.get_set_self, Tr.get_set_ne, Tr.isSome_set, hd _, ne_eq, Nat.reduceEqDiff, not_false_eq_true, decide_true, Nat.reduceLT, opI_move, opI_lss, opI_pick, Nat.add_zero, runPure_guard (b := true), Bool.true_beq, runPure_skip, h0, h3, p1, opI_fieldQ pp, P0, hA]; rfl) ?_)))
      refine W_cond (b := true) (by simp only [PArg.eval, Tr.get_set_self, Tr.get_set_ne, hd _, ne_eq, Nat.reduceEqDiff, not_false_eq_true, decide_true, Nat.reduceLT]; try rfl) (fun _ => ?_) (fun hb => by cases hb)
      refine W_seq (W_seqR (by simp only [runSeq_cons, runSeq_nil, evalArgs_nil, evalArgs_const, val1, putT, opI_move]; rfl) (W_ret (bad (fun h => by have := h.1; omega) _ (by simp only [Tr.get_set_self, Tr.get_set_ne, hd _, ne_eq, Nat.reduceEqDiff, not_false_eq_true, decide_true, Nat.reduceLT]; try rfl))))
    by_cases hz : (i : Int) > 0
    rotate_left
    · skip
      by_cases hC : (ev es i).who < 0
      · skip
        refine W_seq (W_block (W_seq (W_quiet rfl (by simp only [runPure_cons, runPure_nil, ofD_cons, ofD_nil, sameN_self, evalArgs_nil, evalArgs_tmp, evalArgs_const, putT, Tr.get_set_self, Tr.get_set_ne, Tr.isSome_set, hd _, ne_eq, Nat.reduceEqDiff, not_false_eq_true, decide_true, Nat.reduceLT, opI_move, opI_lss, opI_gtr, opI_pick, Nat.zero_add, Nat.add_zero, runPure_guard (b := true), runPure_guard (b := false), beq_self_eq_true, Bool.true_beq, Bool.false_beq, Bool.not_true, h0, h3, p1, opI_fieldQ pp, P0, P1, decide_false, hA, hz, hC]; rfl) ?_)))
        refine W_cond (b := true) (by simp only [PArg.eval, Tr.get_set_self, Tr.get_set_ne, hd _, ne_eq, Nat.reduceEqDiff, not_false_eq_true, decide_true, Nat.reduceLT]; try rfl) (fun _ => ?_) (fun hb => by cases hb)
        refine W_seq (W_seqR (by simp only [runSeq_cons, runSeq_nil, evalArgs_nil, evalArgs_const, val1, putT, opI_move]; rfl) (W_ret (bad (fun h => by have := h.2.2.1; omega) _ (by simp only [Tr.get_set_self, Tr.get_set_ne, hd _, ne_eq, Nat.reduceEqDiff, not_false_eq_true, decide_true, Nat.reduceLT]; try rfl))))
      by_cases hD : (ev es i).who > 15
      · skip
        refine W_seq (W_block (W_seq (W_quiet rfl (by simp only [runPure_cons, runPure_nil, ofD_cons, ofD_nil, sameN_self, evalArgs_nil, evalArgs_tmp, evalArgs_const, putT, Tr.get_set_self, Tr.get_set_ne, Tr.isSome_set, hd _, ne_eq, Nat.reduceEqDiff, not_false_eq_true, decide_true, Nat.reduceLT, opI_move, opI_lss, opI_gtr, opI_pick, Nat.zero_add, Nat.add_zero, runPure_guard (b := false), beq_self_eq_true, Bool.false_beq, Bool.not_true, h0, h3, p1, opI_fieldQ pp, P0, P1, decide_false, hA, hz, hC, hD]; rfl) ?_)))
        refine W_cond (b := true) (by simp only [PArg.eval, Tr.get_set_self, Tr.get_set_ne, hd _, ne_eq, Nat.reduceEqDiff, not_false_eq_true, decide_true, Nat.reduceLT]; try rfl) (fun _ => ?_) (fun hb => by cases hb)
        refine W_seq (W_seqR (by simp only [runSeq_cons, runSeq_nil, evalArgs_nil, evalArgs_const, val1, putT, opI_move]; rfl) (W_ret (bad (fun h => by have := h.2.2.2; omega) _ (by simp only [Tr.get_set_self, Tr.get_set_ne, hd _, ne_eq, Nat.reduceEqDiff, not_false_eq_true, decide_true, Nat.reduceLT]; try rfl))))
      refine W_seq (W_block (W_seq (W_quiet rfl (by simp only [runPure_cons, runPure_nil, ofD_cons, ofD_nil, sameN_self, evalArgs_nil, evalArgs_tmp, evalArgs_const, putT, Tr.get_set_self, Tr.get_set_ne, Tr.isSome_set, hd _, ne_eq, Nat.reduceEqDiff, not_false_eq_true, decide_true, Nat.reduceLT, opI_move, opI_lss, opI_gtr, opI_pick, Nat.zero_add, Nat.add_zero, runPure_guard (b := false), beq_self_eq_true, Bool.false_beq, Bool.not_true, h0, h3, p1, opI_fieldQ pp, P0, P1, decide_false, hA, hz, hC, hD]; rfl) ?_)))
      refine W_cond (b := false) (by simp only [PArg.eval, Tr.get_set_self, Tr.get_set_ne, hd _, ne_eq, Nat.reduceEqDiff, not_false_eq_true, decide_true, Nat.reduceLT]; try rfl) (fun hb => by cases hb) (fun _ => W_skip ?_)
      show W _ _
      refine W_seqR (by simp only [runSeq_cons, runSeq_nil, evalArgs_nil, evalArgs_tmp, evalArgs_const, val1, putT, Tr.get_set_self, Tr.get_set_ne, hd _, ne_eq, Nat.reduceEqDiff, not_false_eq_true, decide_true, Nat.reduceLT, opI_move, opI_add, h3]; rfl) ?_
      refine ⟨k - 1, by omega, i + 1, by omega, rfl, fun j' hj' => ?_, by ((repeat (with_reducible apply Dom.set)); exact hd), by simp only [Tr.get_set_ne, ne_eq, Nat.reduceEqDiff, not_false_eq_true, h0], ?_⟩
      · rcases Nat.lt_or_ge j' i with h | h
        · exact hst j' h
        · rw [show j' = i by omega]; exact ⟨by omega, fun j hj => by omega, by omega, by omega⟩
      · simp only [Tr.get_set_self, Tr.get_set_ne, hd _, ne_eq, Nat.reduceEqDiff, not_false_eq_true, decide_true, Nat.reduceLT]
        rw [wrapF_small (by omega) (by omega)]; rfl
    obtain ⟨j, rfl⟩ : ∃ j, i = j + 1 := ⟨i - 1, by omega⟩
    have hj : wrapF .i64 (((j + 1 : Nat) : Int) - 1) = (j : Int) := by rw [wrapF_small (by omega) (by omega)]; omega
    obtain ⟨q, qq, q1, _, q2⟩ := hv.at_ (i := j) (by omega) M rfl
    have Q0 := q2 0 _ rfl
    by_cases hB : (ev es (j + 1)).step < (ev es j).step
    · skip
      refine W_seq (W_block (W_seq (W_quiet rfl (by simp only [runPure_cons, runPure_nil, ofD_cons, ofD_nil, sameN_self, evalArgs_nil, evalArgs_tmp, evalArgs_const, putT, Tr.get_set_self, Tr.get_set_ne, Tr.isSome_set, hd _, ne_eq, Nat.reduceEqDiff, not_false_eq_true, decide_true, Nat.reduceLT, opI_move, opI_lss, opI_gtr, opI_sub, opI_pick, Nat.add_zero, runPure_guard (b := true), runPure_guard (b := false), beq_self_eq_true, Bool.true_beq, h0, h3, p1, opI_fieldQ pp, P0, decide_false, hA, hz, hj, q1, opI_fieldQ qq, Q0, hB]; rfl) ?_)))
      refine W_cond (b := true) (by simp only [PArg.eval, Tr.get_set_self, Tr.get_set_ne, hd _, ne_eq, Nat.reduceEqDiff, not_false_eq_true, decide_true, Nat.reduceLT]; try rfl) (fun _ => ?_) (fun hb => by cases hb)
      refine W_seq (W_seqR (by simp only [runSeq_cons, runSeq_nil, evalArgs_nil, evalArgs_const, val1, putT, opI_move]; rfl) (W_ret (bad (fun h => by have := h.2.1 j rfl; omega) _ (by simp only [Tr.get_set_self, Tr.get_set_ne, hd _, ne_eq, Nat.reduceEqDiff, not_false_eq_true, decide_true, Nat.reduceLT]; try rfl))))
    by_cases hC : (ev es (j + 1)).who < 0
    · skip
      refine W_seq (W_block (W_seq (W_quiet rfl (by simp only [runPure_cons, runPure_nil, ofD_cons, ofD_nil, sameN_self, evalArgs_nil, evalArgs_tmp, evalArgs_const, putT, Tr.get_set_self, Tr.get_set_ne, Tr.isSome_set, hd _, ne_eq, Nat.reduceEqDiff, not_false_eq_true, decide_true, Nat.reduceLT, opI_move, opI_lss, opI_gtr, opI_sub, opI_pick, Nat.zero_add, Nat.add_zero, runPure_guard (b := true), runPure_guard (b := false), beq_self_eq_true, Bool.true_beq, h0, h3, p1, opI_fieldQ pp, P0, P1, decide_false, hA, hz, hj, q1, opI_fieldQ qq, Q0, hB, hC]; rfl) ?_)))
      refine W_cond (b := true) (by simp only [PArg.eval, Tr.get_set_self, Tr.get_set_ne, hd _, ne_eq, Nat.reduceEqDiff, not_false_eq_true, decide_true, Nat.reduceLT]; try rfl) (fun _ => ?_) (fun hb => by cases hb)
      refine W_seq (W_seqR (by simp only [runSeq_cons, runSeq_nil, evalArgs_nil, evalArgs_const, val1, putT, opI_move]; rfl) (W_ret (bad (fun h => by have := h.2.2.1; omega) _ (by simp only [Tr.get_set_self, Tr.get_set_ne, hd _, ne_eq, Nat.reduceEqDiff, not_false_eq_true, decide_true, Nat.reduceLT]; try rfl))))
    by_cases hD : (ev es (j + 1)).who > 15
    · skip
      refine W_seq (W_block (W_seq (W_quiet rfl (by simp only [runPure_cons, runPure_nil, ofD_cons, ofD_nil, sameN_self, evalArgs_nil, evalArgs_tmp, evalArgs_const, putT, Tr.get_set_self, Tr.get_set_ne, Tr.isSome_set, hd _, ne_eq, Nat.reduceEqDiff, not_false_eq_true, decide_true, Nat.reduceLT, opI_move, opI_lss, opI_gtr, opI_sub, opI_pick, Nat.zero_add, Nat.add_zero, runPure_guard (b := true), runPure_guard (b := false), beq_self_eq_true, h0, h3, p1, opI_fieldQ pp, P0, P1, decide_false, hA, hz, hj, q1, opI_fieldQ qq, Q0, hB, hC, hD]; rfl) ?_)))
      refine W_cond (b := true) (by simp only [PArg.eval, Tr.get_set_self, Tr.get_set_ne, hd _, ne_eq, Nat.reduceEqDiff, not_false_eq_true, decide_true, Nat.reduceLT]; try rfl) (fun _ => ?_) (fun hb => by cases hb)
      refine W_seq (W_seqR (by simp only [runSeq_cons, runSeq_nil, evalArgs_nil, evalArgs_const, val1, putT, opI_move]; rfl) (W_ret (bad (fun h => by have := h.2.2.2; omega) _ (by simp only [Tr.get_set_self, Tr.get_set_ne, hd _, ne_eq, Nat.reduceEqDiff, not_false_eq_true, decide_true, Nat.reduceLT]; try rfl))))
    refine W_seq (W_block (W_seq (W_quiet rfl (by simp only [runPure_cons, runPure_nil, ofD_cons, ofD_nil, sameN_self, evalArgs_nil, evalArgs_tmp, evalArgs_const, putT, Tr.get_set_self, Tr.get_set_ne, Tr.isSome_set, hd _, ne_eq, Nat.reduceEqDiff, not_false_eq_true, decide_true, Nat.reduceLT, opI_move, opI_lss, opI_gtr, opI_sub, opI_pick, Nat.zero_add, Nat.add_zero, runPure_guard (b := true), runPure_guard (b := false), beq_self_eq_true, h0, h3, p1, opI_fieldQ pp, P0, P1, decide_false, hA, hz, hj, q1, opI_fieldQ qq, Q0, hB, hC, hD]; rfl) ?_)))
    refine W_cond (b := false) (by simp only [PArg.eval, Tr.get_set_self, Tr.get_set_ne, hd _, ne_eq, Nat.reduceEqDiff, not_false_eq_true, decide_true, Nat.reduceLT]; try rfl) (fun hb => by cases hb) (fun _ => W_skip ?_)
    show W _ _
    refine W_seqR (by simp only [runSeq_cons, runSeq_nil, evalArgs_nil, evalArgs_tmp, evalArgs_const, val1, putT, Tr.get_set_self, Tr.get_set_ne, hd _, ne_eq, Nat.reduceEqDiff, not_false_eq_true, decide_true, Nat.reduceLT, opI_move, opI_add, h3]; rfl) ?_
    refine ⟨k - 1, by omega, j + 1 + 1, by omega, rfl, fun j' hj' => ?_, by ((repeat (with_reducible apply Dom.set)); exact hd), by simp only [Tr.get_set_ne, ne_eq, Nat.reduceEqDiff, not_false_eq_true, h0], ?_⟩
    · rcases Nat.lt_or_ge j' (j + 1) with h | h
      · exact hst j' h
      · rw [show j' = j + 1 by omega]; exact ⟨by omega, fun j0 hj0 => by rw [show j0 = j by omega]; omega, by omega, by omega⟩
    · simp only [Tr.get_set_self, Tr.get_set_ne, hd _, ne_eq, Nat.reduceEqDiff, not_false_eq_true, decide_true, Nat.reduceLT]
      rw [wrapF_small (by omega) (by omega)]; rfl
end Go.Proofs.Ytoddncakdnmloaa.diary
