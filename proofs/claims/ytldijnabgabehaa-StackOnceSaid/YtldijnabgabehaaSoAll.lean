/- What is in a stack, read off its cells: walked. -/
import Derived.Test.YtldijnabgabehaaSoInit3
import Derived.Test.YtldijnabgabehaaVx27
import Derived.Test.YtldijnabgabehaaSoEnd
namespace Go.Vx
open Go Go.Proofs.Ytldijnabgabehaa.so
theorem Step.eva {M A B : AMem} {X : Nat → Prop} (h : Step M A) (e : EvA A B X) (hx : ∀ b, X b → M.n ≤ b) : Step M B :=
  ⟨⟨Nat.le_trans h.grow.n e.n, fun b hb => (e.same b (Nat.lt_of_lt_of_le hb h.grow.n) fun hX => by have := hx b hX; omega).trans (h.grow.get b hb), e.g.trans h.grow.g, fun _ => e.ok.1⟩, e.ok, fun b _ => e.nh b⟩
theorem Step.nhAll {M A : AMem} (h : Step M A) (hh : NH M) : NH A := fun b => by
  by_cases hlt : b < M.n
  · rw [h.grow.get b hlt]; exact hh b
  · exact h.nh b (by omega)
theorem FreshE.eva {M M' : AMem} {sz : Nat} {v : AV} {els : List (List AV)} {X : Nat → Prop} {Z : AMem} (h : FreshE Z M sz v els) (hok : Ok M) (e : EvA M M' X) (hx : ∀ c, sbOf v = some c → ¬ X c) : FreshE Z M' sz v els := by
  rcases h with ⟨b, gr, sz', g, e1, h1, h2, h3⟩ | h
  · exact .inl ⟨b, gr, sz', g, e1, h1, (e.same b (get_lt hok h2) (hx b (by rw [e1]; rfl))).trans h2, h3⟩
  · exact .inr h
theorem FreshE.sb {M : AMem} {sz : Nat} {v : AV} {els : List (List AV)} {Z : AMem} (h : FreshE Z M sz v els) (hok : Ok M) : ∀ c, sbOf v = some c → Z.n ≤ c ∧ c < M.n := by
  rcases h with ⟨b, gr, sz', g, e1, h1, h2, _⟩ | ⟨e1, _⟩
  · intro c hc
    rw [e1] at hc
    simp only [sbOf, Option.some.injEq] at hc
    subst hc
    exact ⟨h1, get_lt hok h2⟩
  · intro c hc
    rw [e1] at hc; cases hc
end Go.Vx
namespace Go.Proofs.Ytldijnabgabehaa.so
open Go Go.Vx
theorem op_nz {b : Nat × Nat} {n c n2 c2 : Nat} {g g2 : Bool} {M : AMem} : opI (.eqNil 0 false) [.slice (some b) n c g, .slice none n2 c2 g2] M = some (.val (.bool false) M) := rfl
theorem cm_row {M : AMem} {bm bc : Nat} {L : List Nat} (hc : CM M bm bc L) (hok : Ok M) : IRow M .u64 (.slice (some (bc, 0)) L.length L.length false) (L.map fun (x : Nat) => (x : Int)) := by
  refine ⟨els_one, .inr (.inr ⟨bc, 0, L.length, false, Ux L, 1, true, none, by simp, hc.cel, get_lt hok hc.cel, by simp, ?_⟩)⟩
  rw [flat_one, List.drop_zero]
  refine (List.take_of_length_le ?_).trans ?_
  · simp
  · rw [List.map_map]; rfl
set_option maxRecDepth 20000 in
set_option maxHeartbeats 8000000 in
theorem clone_ok (d : Nat) {M : AMem} (hok : Okg M) {bm bc : Nat} {L : List Nat} (hc : CM M bm bc L) (hn : L.length ≤ 1000000) :
    Ans (callF tblS code 100000 (d + 1)) 47 [.slice (some (bc, 0)) L.length L.length false] M fun r M' => Step M M' ∧ Solo M M' .u64 r (L.map fun (x : Nat) => (x : Int)) := by
  refine Ans_of (tblS_none ⟨by decide, by decide⟩ _) (show code 47 = some c47 from by kernel_rfl) (by simp) fun t hd ha => ?_
  have h0 := ha 0 _ rfl
  clear ha
  refine W_seq (W_seqR (by simp only [runSeq_cons, runSeq_nil, evalArgs_nil, evalArgs_const, val1, putT, opI_move]; rfl) ?_)
  refine W_seq (W_seq (W_seqR (by simp only [runSeq_cons, runSeq_nil, evalArgs_nil, evalArgs_tmp, evalArgs_const, val1, putT, Tr.get_set_self, Tr.get_set_ne, hd _, ne_eq, Nat.reduceEqDiff, not_false_eq_true, decide_true, Nat.reduceLT, opI_move, h0, op_nz]; rfl) ?_))
  refine W_cond (b := false) (by simp only [PArg.eval, Tr.get_set_self, Tr.get_set_ne, hd _, ne_eq, Nat.reduceEqDiff, not_false_eq_true, decide_true, Nat.reduceLT]; try rfl) (fun hb => by cases hb) (fun _ => W_skip ?_)
  show W _ _
  obtain ⟨r, M', q1, q2, q3, q4⟩ := clone_lit (Step.refl hok) (cm_row hc hok.1) (by simpa using hn)
  have e0 : opI (.sliceLit 0 [] []) [] M = some (.val (.slice (some (M.n, 0)) 0 0 false) (M.push (.cells [] 0 true none))) := rfl
  refine W_seq (W_seqR (by simp only [runSeq_cons, runSeq_nil, evalArgs_nil, evalArgs_tmp, val1, putT, Tr.get_set_self, Tr.get_set_ne, hd _, ne_eq, Nat.reduceEqDiff, not_false_eq_true, decide_true, Nat.reduceLT, opI_move, h0, e0, q1]; rfl) (W_ret ?_))
  exact ⟨_, fin_tmp (by simp only [Tr.get_set_self, Tr.get_set_ne, Option.isSome_some, hd _, ne_eq, Nat.reduceEqDiff, not_false_eq_true, decide_true, Nat.reduceLT]; try rfl), q3, q4⟩
set_option maxRecDepth 20000 in
set_option maxHeartbeats 8000000 in
theorem memall_ok (d : Nat) {M : AMem} (hok : Okg M) {bm bc : Nat} {L : List Nat} (hc : CM M bm bc L) (hn : L.length ≤ 1000000) :
    Ans (callF tblS code 100000 (d + 2)) 22 [.ptr (some (bm, 0))] M fun r M' => Step M M' ∧ Solo M M' .u64 r (L.map fun (x : Nat) => (x : Int)) := by
  refine Ans_of (tblS_none ⟨by decide, by decide⟩ _) (show code 22 = some c22 from by kernel_rfl) (by simp) fun t hd ha => ?_
  have h0 := ha 0 _ rfl
  clear ha
  refine W_seq (W_seqR (by simp only [runSeq_cons, runSeq_nil, evalArgs_nil, evalArgs_const, val1, putT, opI_move]; rfl) ?_)
  refine W_seq (W_seq (W_seqR (by simp only [runSeq_cons, runSeq_nil, evalArgs_nil, evalArgs_tmp, evalArgs_const, val1, putT, Tr.get_set_self, Tr.get_set_ne, hd _, ne_eq, Nat.reduceEqDiff, not_false_eq_true, decide_true, Nat.reduceLT, opI_move, h0, op_np]; rfl) ?_))
  refine W_cond (b := false) (by simp only [PArg.eval, Tr.get_set_self, Tr.get_set_ne, hd _, ne_eq, Nat.reduceEqDiff, not_false_eq_true, decide_true, Nat.reduceLT]; try rfl) (fun hb => by cases hb) (fun _ => W_skip ?_)
  show W _ _
  have lm : opI (.load false 1) [.ptr (some (bm, 0))] M = some (.val (.slice (some (bc, 0)) L.length L.length false) M) := load_own hc.mem rfl
  obtain ⟨r, M', c1, s1, o1⟩ := clone_ok d hok hc hn
  refine W_seq (W_seqR (by simp only [runSeq_cons, runSeq_nil, evalArgs_nil, evalArgs_tmp, val1, putT, Tr.get_set_self, Tr.get_set_ne, hd _, ne_eq, Nat.reduceEqDiff, not_false_eq_true, decide_true, Nat.reduceLT, opI_move, opI_callF, opI_fieldP, Nat.add_zero, h0, opI_nilP, lm, c1]; rfl) (W_ret ?_))
  exact ⟨_, fin_tmp (by simp only [Tr.get_set_self, Tr.get_set_ne, Option.isSome_some, hd _, ne_eq, Nat.reduceEqDiff, not_false_eq_true, decide_true, Nat.reduceLT]; try rfl), s1, o1⟩
/-- a row of words of our own: where it lies, what stands in it -/
def LR (M : AMem) (b : Nat) (k : IntKind) (v : AV) (L : List Nat) : Prop := ∃ gr sz, v = .slice (some (b, 0)) L.length L.length gr ∧ M.get b = some (.cells (L.map fun (x : Nat) => AV.int k (x : Int)) sz true none)
theorem solo_LR {M0 M : AMem} {k : IntKind} {v : AV} {L : List Nat} (h : Solo M0 M k v (L.map fun (x : Nat) => (x : Int))) (hne : L ≠ []) : ∃ b, M0.n ≤ b ∧ LR M b k v L := by
  rcases h with ⟨_, h⟩ | ⟨b, gr, sz, e, h1, h2, _⟩
  · exact absurd (List.map_eq_nil_iff.1 h) hne
  · exact ⟨b, h1, gr, sz, by rw [e, List.length_map], by rw [h2, List.map_map]; rfl⟩
theorem LR.at_ {M : AMem} {b : Nat} {k k2 : IntKind} {v : AV} {L : List Nat} (h : LR M b k v L) {i : Nat} (hi : i < L.length) : (∀ M', opI (.indexAddrS 1) [v, .int k2 i] M' = some (.val (.ptr (some (b, i))) M')) ∧ opI (.load false 1) [.ptr (some (b, i))] M = some (.val (.int k (L.getD i 0 : Nat)) M) := by
  obtain ⟨gr, sz, rfl, h2⟩ := h
  refine ⟨fun M' => by rw [op_idx hi, Nat.mul_one], load_own h2 ?_⟩
  rw [List.getElem?_map, List.getElem?_eq_getElem hi, List.getD_eq_getElem?_getD, List.getElem?_eq_getElem hi]; rfl
theorem LR.ev {M M' : AMem} {b : Nat} {k : IntKind} {v : AV} {L : List Nat} {X : Nat → Prop} (h : LR M b k v L) (e : Ev M M' X) (hx : ¬ X b) : LR M' b k v L := by
  obtain ⟨gr, sz, h1, h2⟩ := h
  exact ⟨gr, sz, h1, e.same _ _ h2 rfl hx⟩
theorem LR.eva {M M' : AMem} {b : Nat} {k : IntKind} {v : AV} {L : List Nat} {X : Nat → Prop} (h : LR M b k v L) (hok : Ok M) (e : EvA M M' X) (hx : ¬ X b) : LR M' b k v L := h.ev (e.ev hok) hx
/-- a new key is laid behind -/
theorem update_new {M : AMem} {mb : Nat} {k : IntKind} {es : List (Int × AV)} {x : Int} {v : AV} (hok : Okg M) (hh : NH M) (h : M.get mb = some (.map (ents k es))) (hx : asg x es = none) :
    ∃ M', opI (.mapUpdate 0) [.map (some mb), .int k x, v] M = some (.val (.tuple []) M') ∧ EvA M M' (· = mb) ∧ M'.get mb = some (.map (ents k (es ++ [(x, v)]))) := by
  have he : M.entries mb = some (ents k es) := by simp only [AMem.entries, h]
  rcases findK_ents (k := k) (x := x) (es := es) (i := 0) with ⟨h1, h2⟩ | ⟨j, w, h1, h2, _⟩
  · refine ⟨M.set mb (.map (ents k (es ++ [(x, v)]))), ?_, ⟨Nat.le_of_eq set_n.symm, set_g, fun b _ hb => by rw [get_set_mem h, if_neg hb], ⟨hok.1.set _ _, fun b cs sz wr g hb => ?_⟩, fun b => ?_⟩, by rw [get_set_mem h, if_pos rfl]⟩
    · simp only [opI, updateI, he, h1]
      simp [ents]
    · rw [get_set_mem h] at hb
      split at hb
      · cases hb
      · exact hok.2 b cs sz wr g hb
    · rw [get_set_mem h]
      split
      · rfl
      · exact hh b
  · rw [hx] at h2; cases h2
/-- keys with one value -/
theorem asg_keys {v : AV} {x : Nat} : ∀ {l : List Nat}, asg (x : Int) (l.map fun (y : Nat) => ((y : Int), v)) = if x ∈ l then some v else none
  | [] => rfl
  | y :: l => by
    have ih := asg_keys (v := v) (x := x) (l := l)
    simp only [List.map_cons, asg, List.mem_cons]
    by_cases h : x = y
    · subst h; simp
    · have : ¬ (x : Int) = (y : Int) := by omega
      rw [if_neg this, ih]
      simp only [h, false_or]
def els1 (k : IntKind) (l : List Nat) : List (List AV) := l.map fun (x : Nat) => [AV.int k (x : Int)]
set_option maxRecDepth 20000 in
set_option maxHeartbeats 16000000 in
theorem all_ok (d : Nat) {n V T : Nat} (hn1 : 1 ≤ n) (hn : n ≤ 4096) {M : AMem} (hok : Okg M) (hh : NH M) {bm bc : Nat} {m : Mem} (hc : CM M bm bc (cellsOf n m)) (hm : Bd n V T m) {S : List Nat} (hS : Chain m.below m.ti S) (hnd : S.Nodup) (hin : ∀ x ∈ S, 1 ≤ x ∧ x ≤ n) :
    Ans (callF tblS code 100000 (d + 3)) 8 [ArgP n, .ptr (some (bm, 0))] M fun r M' => ∃ v, r = .tuple [v, .int .i64 0] ∧ EvA M M' (fun _ => False) ∧ FreshE M M' 1 v (els1 .u64 (S.map m.task)) := by
  refine Ans_of (tblS_none ⟨by decide, by decide⟩ _) (show code 8 = some c8 from by kernel_rfl) (by simp) fun t hd ha => ?_
  have h0 := ha 0 _ rfl
  have h1 := ha 1 _ rfl
  clear ha
  obtain ⟨A, hA, e0, g0, n0⟩ := boxed hok hh [.int .i64 0, .int .i64 n]
  refine W_seq (W_seqR (by simp only [runSeq_cons, runSeq_nil, evalArgs_nil, evalArgs_tmp, evalArgs_const, val1, putT, opI_move, opI_box, cells_agg, h0, hA]; rfl) ?_)
  have hcA := hc.ev hok.1 e0
  have LA := load_agg (n := 2) g0 rfl
  obtain ⟨r1, M1, c1, rfl, e1⟩ := pcheck_ok (d + 0) hn1 hn e0.ok e0.nh hcA cells_len
  have hc1 := hcA.ev e0.ok.1 e1
  have g1 : M1.get M.n = _ := (e1.same M.n (by omega) (fun h => h)).trans g0
  have s1 : Step M M1 := ((Step.refl hok).eva e0 (fun _ h => h.elim)).eva e1 (fun _ h => h.elim)
  refine W_seq (W_seq (W_seqR (by simp only [runSeq_cons, runSeq_nil, evalArgs_nil, evalArgs_tmp, val1, putT, Tr.get_set_self, Tr.get_set_ne, hd _, ne_eq, Nat.reduceEqDiff, not_false_eq_true, decide_true, Nat.reduceLT, opI_move, opI_callF, h1, LA, c1]; rfl) ?_))
  refine W_seq (W_seqR (by simp only [runSeq_cons, runSeq_nil, evalArgs_nil, evalArgs_tmp, evalArgs_const, val1, putT, Tr.get_set_self, Tr.get_set_ne, hd _, ne_eq, Nat.reduceEqDiff, not_false_eq_true, decide_true, Nat.reduceLT, opI_move, opI_neq, b00]; rfl) ?_)
  refine W_cond (b := false) (by simp only [PArg.eval, Tr.get_set_self, Tr.get_set_ne, hd _, ne_eq, Nat.reduceEqDiff, not_false_eq_true, decide_true, Nat.reduceLT]; try rfl) (fun hb => by cases hb) (fun _ => W_skip ?_)
  show W _ _
  obtain ⟨lv, M2, c2, s2, o2⟩ := memall_ok (d + 0) e1.ok hc1 (by rw [cells_len]; omega)
  refine W_seq (W_seqR (by simp only [runSeq_cons, runSeq_nil, evalArgs_nil, evalArgs_tmp, val1, putT, Tr.get_set_self, Tr.get_set_ne, hd _, ne_eq, Nat.reduceEqDiff, not_false_eq_true, decide_true, Nat.reduceLT, opI_move, opI_callF, h1, c2]; rfl) ?_)
  have e2 := EvA.of_step s2 e1.nh (fun _ => False)
  have g2 : M2.get M.n = _ := (e2.same M.n (get_lt e1.ok.1 g1) (fun h => h)).trans g1
  obtain ⟨lb, hlb, hL⟩ := solo_LR o2 (by intro h; have := cells_len (n := n) (m := m); rw [h] at this; simp at this)
  have s12 : Step M M2 := s1.eva e2 (fun _ h => h.elim)
  -- the map
  have mm : opI .makeMap [] M2 = some (.val (.map (some M2.n)) (M2.push (.map (ents .u32 [])))) := rfl
  have s3 : Step M2 (M2.push (.map (ents .u32 []))) := (Step.refl e2.ok).push (fun _ _ _ _ he => by cases he)
  have e3 := EvA.of_step s3 e2.nh (fun _ => False)
  have g3m := get_push_self (k := .map (ents .u32 [])) e2.ok.1
  have n3 : (M2.push (.map (ents .u32 []))).n = M2.n + 1 := push_n
  generalize hM3 : M2.push (.map (ents .u32 [])) = M3 at *
  refine W_seq (W_seqR (by simp only [runSeq_cons, runSeq_nil, evalArgs_nil, evalArgs_tmp, val1, putT, Tr.get_set_self, Tr.get_set_ne, hd _, ne_eq, Nat.reduceEqDiff, not_false_eq_true, decide_true, Nat.reduceLT, opI_move, mm]; rfl) ?_)
  refine W_seq (W_seqR (by simp only [runSeq_cons, runSeq_nil, evalArgs_nil, evalArgs_const, val1, putT, opI_move]; rfl) ?_)
  have hL3 := hL.eva e2.ok.1 e3 (fun h => h)
  have g3 : M3.get M.n = _ := (e3.same M.n (get_lt e2.ok.1 g2) (fun h => h)).trans g2
  have s13 : Step M M3 := s12.eva e3 (fun _ h => h.elim)
  have la3 : opI (.load false 1) [.ptr (some (M.n, 0))] M3 = some (.val (.int .i64 0) M3) := load_own g3 rfl
  have hlen := cells_len (n := n) (m := m)
  obtain ⟨ix0, ld0⟩ := hL3.at_ (k2 := .i64) (i := 0) (by omega)
  have cg0 : (cellsOf n m).getD 0 0 = pr m.tt m.ti := by rw [cells_get (by omega), if_pos rfl]
  rw [cg0] at ld0
  have hti := hm.ti
  obtain ⟨M4, c4, e4⟩ := node_ok m.tt (i := m.ti) (by omega) M3 e3.ok e3.nh (d + 1)
  simp only [Int.natCast_zero] at ix0
  have lM := get_lt e3.ok.1 g3
  have llb : lb < M2.n := by
    obtain ⟨_, _, _, h⟩ := hL
    exact get_lt e2.ok.1 h
  have n01 : M.n < M1.n := get_lt e1.ok.1 g1
  refine W_seq (W_seq (W_seqR (by simp only [runSeq_cons, runSeq_nil, evalArgs_nil, evalArgs_tmp, val1, putT, Tr.get_set_self, Tr.get_set_ne, hd _, ne_eq, Nat.reduceEqDiff, not_false_eq_true, decide_true, Nat.reduceLT, opI_move, opI_callF, opI_fieldP, Nat.add_zero, la3, ix0, ld0, c4]; rfl) (W_block (W_loop (fun k t K => ∃ (done rest : List Nat) (cur : Nat) (ov : AV), S = done ++ rest ∧ k = rest.length ∧ Chain m.below cur rest ∧ Dom t 56 ∧ t.get 2 = some (.ptr (some (M.n, 0))) ∧ t.get 7 = some lv ∧ t.get 8 = some (.map (some M2.n)) ∧ t.get 9 = some ov ∧ t.get 10 = some (.int .u32 cur) ∧
      Step M K ∧ K.get M.n = some (.cells [.int .i64 0, .int .i64 n] 0 true none) ∧ LR K lb .u64 lv (cellsOf n m) ∧ K.get M2.n = some (.map (ents .u32 (done.map fun (y : Nat) => ((y : Int), AV.bool true)))) ∧ FreshE M K 1 ov (els1 .u64 (done.map m.task)) ∧ (∀ c, sbOf ov = some c → M2.n < c))
    (k := S.length) (by
      have hle : S.length ≤ n := by
        have := List.Nodup.length_le_of_subset (l₁ := S) (l₂ := List.range' 1 n) hnd (fun x hx => by rw [List.mem_range'_1]; have := hin x hx; omega)
        simpa using this
      omega) ?_ ?_))))
  · refine ⟨[], S, m.ti, .slice none 0 0 false, rfl, rfl, hS, by ((repeat (with_reducible apply Dom.set)); exact hd), by simp only [Tr.get_set_self, Tr.get_set_ne, hd _, ne_eq, Nat.reduceEqDiff, not_false_eq_true, decide_true, Nat.reduceLT]; try rfl, by simp only [Tr.get_set_self, Tr.get_set_ne, hd _, ne_eq, Nat.reduceEqDiff, not_false_eq_true, decide_true, Nat.reduceLT]; try rfl, by simp only [Tr.get_set_self, Tr.get_set_ne, hd _, ne_eq, Nat.reduceEqDiff, not_false_eq_true, decide_true, Nat.reduceLT]; try rfl, by simp only [Tr.get_set_self, Tr.get_set_ne, hd _, ne_eq, Nat.reduceEqDiff, not_false_eq_true, decide_true, Nat.reduceLT]; try rfl, by simp only [Tr.get_set_self, Tr.get_set_ne, hd _, ne_eq, Nat.reduceEqDiff, not_false_eq_true, decide_true, Nat.reduceLT]; try rfl, s13.eva e4 (fun _ h => h.elim), (e4.same _ lM (fun h => h)).trans g3, hL3.eva e3.ok.1 e4 (fun h => h), (e4.same _ (by omega) (fun h => h)).trans g3m, .inr ⟨rfl, rfl⟩, fun c hc => by cases hc⟩
  clear h0 h1 hd
  rintro k t K ⟨done, rest, cur, ov, hSe, hk, hch, hd, h2, h7, h8, h9, h10, sK, gK, LK, mK, oK, sbK⟩
  refine W_seq (W_seq (W_seqR (by simp only [runSeq_cons, runSeq_nil, evalArgs_nil, evalArgs_tmp, evalArgs_const, val1, putT, Tr.get_set_self, hd _, decide_true, Nat.reduceLT, opI_move, opI_neq, h10]; rfl) ?_))
  refine W_cond (by simp only [PArg.eval, Tr.get_set_self, Tr.get_set_ne, hd _, ne_eq, Nat.reduceEqDiff, not_false_eq_true, decide_true, Nat.reduceLT]; rfl) (fun hb => W_skip ?_) (fun hb => W_exit ?_)
  · have hcur : cur ≠ 0 := by
      intro h; subst h; simp at hb
    cases rest with
    | nil => exact absurd hch hcur
    | cons x rest =>
    obtain ⟨rfl, hx0, hch'⟩ := hch
    have hxS : cur ∈ S := by rw [hSe]; simp
    obtain ⟨hx1, hxn⟩ := hin cur hxS
    have hxd : cur ∉ done := fun h => by
      rw [hSe] at hnd
      exact (List.nodup_append.1 hnd).2.2 cur h cur (by simp) rfl
    have hhK : NH K := sK.nhAll hh
    have LK2 := load_agg (n := 2) gK rfl
    obtain ⟨K1, k1, f1⟩ := there_ok hn hxn hx1 K sK.ok hhK (d + 1)
    have mK1 : K1.get M2.n = _ := (f1.same _ (get_lt sK.ok.1 mK) (fun h => h)).trans mK
    have lk := lookup_own (ok := false) (z := .bool false) (x := (cur : Int)) mK1
    rw [asg_keys, if_neg hxd] at lk
    show W _ _
    refine W_seq (W_block (W_seq (W_seq (W_seqR (by simp only [runSeq_cons, runSeq_nil, evalArgs_nil, evalArgs_tmp, evalArgs_const, val1, putT, Tr.get_set_self, Tr.get_set_ne, Tr.isSome_set, hd _, ne_eq, Nat.reduceEqDiff, not_false_eq_true, decide_true, Nat.reduceLT, opI_move, opI_not, opI_callF, opI_pick, runSeq_guard (b := false), beq_self_eq_true, Bool.not_true, h2, h8, h10, LK2, k1, lk, resL, Bool.not_true]; rfl) ?_))))
    refine W_cond (b := false) (by simp only [PArg.eval, Tr.get_set_self, Tr.get_set_ne, hd _, ne_eq, Nat.reduceEqDiff, not_false_eq_true, decide_true, Nat.reduceLT]; try rfl) (fun hb => by cases hb) (fun _ => W_skip ?_)
    show W _ _
    obtain ⟨K2, u2, f2, mK2⟩ := update_new (v := .bool true) f1.ok f1.nh mK1 (x := (cur : Int)) (by rw [asg_keys, if_neg hxd])
    refine W_seq (W_seqR (by simp only [runSeq_cons, runSeq_nil, evalArgs_nil, evalArgs_tmp, evalArgs_const, val1, putT, Tr.get_set_self, Tr.get_set_ne, hd _, ne_eq, Nat.reduceEqDiff, not_false_eq_true, decide_true, Nat.reduceLT, opI_move, h8, h10, u2]; rfl) ?_)
    have gK1 : K1.get M.n = _ := (f1.same _ (get_lt sK.ok.1 gK) (fun h => h)).trans gK
    have gK2 : K2.get M.n = _ := (f2.same _ (get_lt f1.ok.1 gK1) (by have := get_lt s12.ok.1 g2; omega)).trans gK1
    have LKa := load_agg (n := 2) gK2 rfl
    obtain ⟨K3, k3, f3⟩ := task_ok hn hxn K2 f2.ok f2.nh (d + 1)
    have mK3 : K3.get M2.n = _ := (f3.same _ (get_lt f2.ok.1 mK2) (fun h => h)).trans mK2
    have gK3 : K3.get M.n = _ := (f3.same _ (get_lt f2.ok.1 gK2) (fun h => h)).trans gK2
    have LR3 : LR K3 lb .u64 lv (cellsOf n m) := ((LK.eva sK.ok.1 f1 (fun h => h)).eva f1.ok.1 f2 (by omega)).eva f2.ok.1 f3 (fun h => h)
    have oK3 : FreshE M K3 1 ov (els1 .u64 (done.map m.task)) := ((oK.eva sK.ok.1 f1 (fun _ _ h => h)).eva f1.ok.1 f2 (fun c hc h => by have := sbK c hc; omega)).eva f2.ok.1 f3 (fun _ _ h => h)
    have sK3 : Step M K3 := ((sK.eva f1 (fun _ h => h.elim)).eva f2 (fun b hb => by have := s12.grow.n; omega)).eva f3 (fun _ h => h.elim)
    obtain ⟨ixt, ldt⟩ := LR3.at_ (k2 := .i64) (i := 1 + n + cur) (by omega)
    have cgt : (cellsOf n m).getD (1 + n + cur) 0 = m.task cur := by
      rw [cells_get (by omega), if_neg (by omega), if_neg (by omega), if_neg (by omega), if_pos (by omega)]; congr 1; omega
    rw [cgt] at ldt
    obtain ⟨K4, g4, p1, p2, p3, p4, p5, p6, _⟩ := push_el (bytes := 8) (x := .int .u64 (m.task cur : Nat)) (z := [.int .u64 0]) sK3 oK3 rfl rfl (by omega) rfl (by
      have : (els1 .u64 (done.map m.task)).length ≤ n := by
        have := List.Nodup.length_le_of_subset (l₁ := S) (l₂ := List.range' 1 n) hnd (fun x hx => by rw [List.mem_range'_1]; have := hin x hx; omega)
        rw [hSe] at this
        simp [els1] at this ⊢
        omega
      omega) (by
      have : (els1 .u64 (done.map m.task)).length ≤ n := by
        have := List.Nodup.length_le_of_subset (l₁ := S) (l₂ := List.range' 1 n) hnd (fun x hx => by rw [List.mem_range'_1]; have := hin x hx; omega)
        rw [hSe] at this
        simp [els1] at this ⊢
        omega
      omega)
    have hcl : AV.cells (.int .u64 (m.task cur : Nat)) = [.int .u64 (m.task cur : Nat)] := rfl
    rw [hcl] at p1 p2 p4
    show W _ _
    refine W_seqR (by simp only [runSeq_cons, runSeq_nil, evalArgs_nil, evalArgs_tmp, val1, putT, Tr.get_set_self, Tr.get_set_ne, hd _, ne_eq, Nat.reduceEqDiff, not_false_eq_true, decide_true, Nat.reduceLT, opI_move, opI_callF, h2, h7, h9, h10, LKa, k3, ixt, ldt, p1, p2]; rfl) ?_
    show W _ _
    have hhK4 : NH K4 := p3.nhAll hh
    have ev4 : Ev K3 K4 (fun c => sbOf ov = some c) := ⟨by omega, by rw [p3.grow.g, sK3.grow.g], fun b k hb hg hx => p5 b k hb hg hx, p3.ok, hhK4⟩
    have gK4 : K4.get M.n = _ := ev4.same _ _ gK3 rfl (fun h => by have := sbK _ h; omega)
    have mK4 : K4.get M2.n = _ := ev4.same _ _ mK3 rfl (fun h => by have := sbK _ h; omega)
    have LR4 : LR K4 lb .u64 lv (cellsOf n m) := LR3.ev ev4 (fun h => by have := sbK _ h; omega)
    have LKb := load_agg (n := 2) gK4 rfl
    obtain ⟨K5, k5, f5⟩ := below_ok hn hxn K4 p3.ok hhK4 (d + 1)
    have LR5 := LR4.eva p3.ok.1 f5 (fun h => h)
    obtain ⟨ixb, ldb⟩ := LR5.at_ (k2 := .i64) (i := 1 + 2 * n + cur) (by omega)
    have cgb : (cellsOf n m).getD (1 + 2 * n + cur) 0 = pr 0 (m.below cur) := by
      rw [cells_get (by omega), if_neg (by omega), if_neg (by omega), if_neg (by omega), if_neg (by omega), pr0]; congr 1; omega
    rw [cgb] at ldb
    have hbl := hm.below cur
    obtain ⟨K6, k6, f6⟩ := node_ok 0 (i := m.below cur) (by omega) K5 f5.ok f5.nh (d + 1)
    refine W_seqR (by simp only [runSeq_cons, runSeq_nil, evalArgs_nil, evalArgs_tmp, val1, putT, Tr.get_set_self, Tr.get_set_ne, hd _, ne_eq, Nat.reduceEqDiff, not_false_eq_true, decide_true, Nat.reduceLT, opI_move, opI_callF, h2, h7, h10, LKb, k5, ixb, ldb, k6]; rfl) ?_
    have f56 := f5.trans f6 (fun _ h => h) (fun _ _ h => h)
    refine ⟨k - 1, by rw [hk]; simp, done ++ [cur], rest, m.below cur, _, by rw [hSe]; simp, by rw [hk]; simp, hch', by ((repeat (with_reducible apply Dom.set)); exact hd), by simp only [Tr.get_set_ne, ne_eq, Nat.reduceEqDiff, not_false_eq_true, h2], by simp only [Tr.get_set_ne, ne_eq, Nat.reduceEqDiff, not_false_eq_true, h7], by simp only [Tr.get_set_ne, ne_eq, Nat.reduceEqDiff, not_false_eq_true, h8], by simp only [Tr.get_set_self, Tr.get_set_ne, hd _, ne_eq, Nat.reduceEqDiff, not_false_eq_true, decide_true, Nat.reduceLT]; try rfl, by simp only [Tr.get_set_self, Tr.get_set_ne, hd _, ne_eq, Nat.reduceEqDiff, not_false_eq_true, decide_true, Nat.reduceLT]; try rfl, p3.eva f56 (fun _ h => h.elim), (f56.same _ (get_lt p3.ok.1 gK4) (fun h => h)).trans gK4, LR4.eva p3.ok.1 f56 (fun h => h), ?_, ?_, ?_⟩
    · rw [f56.same _ (get_lt p3.ok.1 mK4) (fun h => h), mK4, List.map_append]; rfl
    · refine FreshE.eva (.inl ?_) p3.ok.1 f56 (fun _ _ h => h)
      have e : els1 .u64 ((done ++ [cur]).map m.task) = els1 .u64 (done.map m.task) ++ [[.int .u64 (m.task cur : Nat)]] := by simp [els1]
      rw [e]
      exact p4
    · intro c hc
      simp only [sbOf, Option.some.injEq] at hc
      have := get_lt sK3.ok.1 mK3
      omega
  · have hcur : cur = 0 := by
      simp at hb
      omega
    show W _ _
    have hr : rest = [] := by
      cases rest with
      | nil => rfl
      | cons x r => exact absurd (hch.1.symm.trans hcur) hch.2.1
    subst hr
    rw [List.append_nil] at hSe
    subst hSe
    refine W_seq (W_seqR (by simp only [runSeq_cons, runSeq_nil, evalArgs_nil, evalArgs_tmp, evalArgs_const, val1, putT, Tr.get_set_self, Tr.get_set_ne, hd _, ne_eq, Nat.reduceEqDiff, not_false_eq_true, decide_true, Nat.reduceLT, opI_move, h9]; rfl) (W_ret ?_))
    exact ⟨_, fin_tmp2 (by simp only [Tr.get_set_self, Tr.get_set_ne, hd _, ne_eq, Nat.reduceEqDiff, not_false_eq_true, decide_true, Nat.reduceLT]; try rfl) (by simp only [Tr.get_set_self, Tr.get_set_ne, hd _, ne_eq, Nat.reduceEqDiff, not_false_eq_true, decide_true, Nat.reduceLT]; try rfl), ov, rfl, EvA.of_step sK hh _, oK⟩
end Go.Proofs.Ytldijnabgabehaa.so
