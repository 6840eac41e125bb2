/- The walk of order. -/
import Derived.Test.YtmaldkpkodcggaaGrKahn
namespace Go.Proofs.Ytmaldkpkodcggaa.grf
open Go Go.Vx

theorem make_row {M0 M : AMem} (h : Step M0 M) {n : Nat} (hn : n ≤ 100000) :
    ∃ M', opI (.makeSlice 1 8 [.int .i64 0]) [.int .i64 n, .int .i64 n] M = some (.val (.slice (some (M.n, 0)) n n false) M') ∧ Step M0 M' ∧ M'.n = M.n + 1 ∧ RowI M0 M' 1 M.n (.slice (some (M.n, 0)) n n false) ((List.replicate n 0).map eI) := by
  have e : ((List.range (((n : Nat) : Int).toNat * 1)).map fun i => [AV.int .i64 0].getD (i % 1) (.tuple [])) = (List.replicate n 0).map (AV.int .i64 ·) := by
    apply List.ext_getElem
    · simp
    · intro i h1 h2
      simp [Nat.mod_one]
  have hfl : ((List.replicate n (0 : Int)).map eI).flatten = (List.replicate n 0).map (AV.int .i64 ·) := flat_one
  refine ⟨M.push (.cells ((List.replicate n 0).map (AV.int .i64 ·)) 1 true none), ?_, h.push (fun _ _ _ _ he => by cases he), rfl, .inr ⟨M.n, n, false, _, 1, none, by simp, by simp, h.grow.n, h.grow.n, get_push_self h.ok.1, by simp, ?_, fun _ => rfl, rfl, els_one, one_ints⟩⟩
  · simp only [opI]
    rw [if_pos ⟨by omega, by omega, by omega, by omega⟩, e]
    simp
  · rw [hfl]; exact List.take_of_length_le (by simp)
theorem Wn_nil {js : List Jb} {m : Nat} {k : Int} : Wn js [] (m + 1) k = Wn js [] m k + (jb js m).kids.count k := by
  show Wn js [] m k + (if (m : Int) ∈ [] then 0 else _) = _
  rw [if_neg (by simp)]
theorem count_take_succ {l : List Int} {q : Nat} (hq : q < l.length) {k : Int} : (l.take (q + 1)).count k = (l.take q).count k + if l.getD q 0 = k then 1 else 0 := by
  rw [List.take_add_one, List.count_append, List.getElem?_eq_getElem hq, List.getD_eq_getElem?_getD, List.getElem?_eq_getElem hq, Option.toList_some, Option.getD_some, List.count_singleton]
  congr 1
  by_cases h : l[q] = k
  · simp [h]
  · rw [if_neg h, if_neg (by simpa using h)]

set_option maxRecDepth 20000 in
set_option maxHeartbeats 8000000 in
theorem order_ok {v : AV} {js : List Jb} (d : Nat) (M0 : AMem) (hok : Okg M0) (hv : JobsOk M0.g v js) :
    Ans (callF tbl code 100000 (d + 4)) 17 [v] M0 fun r M' => Step M0 M' ∧ ((¬ RightP js ∧ r = .tuple [.slice none 0 0 false, .bool false]) ∨ (RightP js ∧ ∃ vo out, r = .tuple [vo, .bool ((out.length : Int) == (js.length : Int))] ∧ IRow M' .i64 vo out ∧ Done js out)) := by
  refine Ans_of (tbl_none (by decide) _) (show code 17 = some c17 from by kernel_rfl) (by simp) fun t hd ha => ?_
  have h0 := ha 0 _ rfl
  clear ha
  obtain ⟨_, M1, c1, s1, b, rfl, hb⟩ := right_ok (d + 2) M0 hok hv
  refine W_seq (W_seqR (by simp only [runSeq_cons, runSeq_nil, evalArgs_nil, evalArgs_const, val1, putT, opI_move]; rfl) ?_)
  refine W_seq (W_seq (W_seqR (by simp only [runSeq_cons, runSeq_nil, evalArgs_nil, evalArgs_tmp, val1, putT, Tr.get_set_self, Tr.get_set_ne, hd _, ne_eq, Nat.reduceEqDiff, not_false_eq_true, decide_true, Nat.reduceLT, opI_move, opI_not, opI_callF, h0, c1]; rfl) ?_))
  cases b with
  | false =>
    refine W_cond (b := true) (by simp only [PArg.eval, Tr.get_set_self, Tr.get_set_ne, hd _, ne_eq, Nat.reduceEqDiff, not_false_eq_true, decide_true, Nat.reduceLT]; try rfl) (fun _ => ?_) (fun hb => by cases hb)
    refine W_seq (W_seqR (by simp only [runSeq_cons, runSeq_nil, evalArgs_nil, evalArgs_const, val1, putT, opI_move]; rfl) (W_ret ?_))
    exact ⟨_, fin_tmp2 (by simp only [Tr.get_set_self, Tr.get_set_ne, Option.isSome_some, hd _, ne_eq, Nat.reduceEqDiff, not_false_eq_true, decide_true, Nat.reduceLT]; try rfl) (by simp only [Tr.get_set_self, Tr.get_set_ne, Tr.isSome_set, Option.isSome_some, hd _, ne_eq, Nat.reduceEqDiff, not_false_eq_true, decide_true, Nat.reduceLT]; try rfl), s1, .inl ⟨fun h => (by have := hb.2 h; cases this), rfl⟩⟩
  | true =>
  have hR := hb.1 rfl
  clear hb
  refine W_cond (b := false) (by simp only [PArg.eval, Tr.get_set_self, Tr.get_set_ne, hd _, ne_eq, Nat.reduceEqDiff, not_false_eq_true, decide_true, Nat.reduceLT]; try rfl) (fun hb => by cases hb) (fun _ => W_skip ?_)
  show W _ _
  have g1 : M1.g = M0.g := s1.grow.g
  have hlen := hR.1
  have lv := hv.jin.lenS M1 g1
  obtain ⟨M2, e2, s2, n2, r2⟩ := make_row (Step.refl s1.ok) (n := js.length) (by omega)
  refine W_seq (W_seqR (by simp only [runSeq_cons, runSeq_nil, evalArgs_nil, evalArgs_tmp, val1, putT, Tr.get_set_self, Tr.get_set_ne, hd _, ne_eq, Nat.reduceEqDiff, not_false_eq_true, decide_true, Nat.reduceLT, opI_move, h0, lv, e2]; rfl) ?_)
  have lv2 := hv.jin.lenS M2 (s2.grow.g.trans g1)
  have hwb : M1.n < M2.n := by omega
  -- how often each is a kid
  generalize hvw : AV.slice (some (M1.n, 0)) js.length js.length false = vw at *
  generalize hwbe : M1.n = wb at *
  refine W_seq (W_seq (W_seqR (by simp only [runSeq_cons, runSeq_nil, evalArgs_nil, evalArgs_tmp, evalArgs_const, val1, putT, Tr.get_set_self, Tr.get_set_ne, hd _, ne_eq, Nat.reduceEqDiff, not_false_eq_true, decide_true, Nat.reduceLT, opI_move, h0, lv2]; rfl) (W_block (W_loop (fun k t M' => ∃ (i : Nat) (ws : List Int), k + i = js.length ∧ Step M1 M' ∧ wb < M'.n ∧ RowI M1 M' 1 wb vw (ws.map eI) ∧ ws.length = js.length ∧ (∀ k : Nat, k < js.length → ws.getD k 0 = (Wn js [] i k : Int)) ∧ Dom t 106 ∧ t.get 0 = some v ∧ t.get 4 = some vw ∧ t.get 22 = some v ∧ t.get 23 = some (.int .i64 js.length) ∧ t.get 24 = some (.int .i64 i)) (k := js.length) (by omega) ?_ ?_))))
  · refine ⟨0, _, rfl, s2, hwb, r2, by simp, fun k hk => ?_, by ((repeat (with_reducible apply Dom.set)); exact hd), by simp only [Tr.get_set_ne, ne_eq, Nat.reduceEqDiff, not_false_eq_true, h0], by simp only [Tr.get_set_self, Tr.get_set_ne, hd _, ne_eq, Nat.reduceEqDiff, not_false_eq_true, decide_true, Nat.reduceLT], by simp only [Tr.get_set_self, Tr.get_set_ne, hd _, ne_eq, Nat.reduceEqDiff, not_false_eq_true, decide_true, Nat.reduceLT], by simp only [Tr.get_set_self, Tr.get_set_ne, hd _, ne_eq, Nat.reduceEqDiff, not_false_eq_true, decide_true, Nat.reduceLT], by simp only [Tr.get_set_self, Tr.get_set_ne, hd _, ne_eq, Nat.reduceEqDiff, not_false_eq_true, decide_true, Nat.reduceLT]; rfl⟩
    rw [List.getD_eq_getElem?_getD, List.getElem?_replicate, if_pos hk]; rfl
  clear h0 hd e2 s2 r2 lv lv2 c1 hwb n2 M2
  intro k t M ⟨i, ws, hk, s, hwb, rw_, hwl, hw, hd, h0, h4, h22, h23, h24⟩
  refine W_seq (W_seqR (by simp only [runSeq_cons, runSeq_nil, evalArgs_nil, evalArgs_tmp, val1, putT, opI_lss, h23, h24]; rfl) (W_seq ?_))
  refine W_cond (by simp only [PArg.eval, Tr.get_set_self, hd _, decide_true, Nat.reduceLT]; rfl) (fun hb => ?_) (fun hb => ?_)
  · have hin : i < js.length := by simpa using hb
    obtain ⟨p, pp, p1, p2, _, _⟩ := hv.jin.at_ hin M (s.grow.g.trans g1)
    have h1row := ((hv.jin.row hin) M (s.grow.g.trans g1)).one2
    have s2 := s.push (k := .cells [.int .u64 0, .slice none 0 0 false] 0 true none) (fun _ _ _ _ he => by cases he)
    have g2 := get_push_self (k := .cells [.int .u64 0, .slice none 0 0 false] 0 true none) s.ok.1
    obtain ⟨e3, s3, g3, k3⟩ := store_all (n := 2) (new := [.int .u64 (jb js i).task, (jb js i).kv]) s2 s.grow.n g2 rfl rfl (by simp [one_int, h1row.1])
    have hf1 : Fr M (M.push (.cells [.int .u64 0, .slice none 0 0 false] 0 true none)) (· = M.n) := Fr.push s.ok.1 _
    have hf2 : Fr (M.push (.cells [.int .u64 0, .slice none 0 0 false] 0 true none)) ((M.push (.cells [.int .u64 0, .slice none 0 0 false] 0 true none)).set M.n (.cells [.int .u64 (jb js i).task, (jb js i).kv] 0 true none)) (· = M.n) := Fr.set g2
    have r3 := (rw_.frame hf1 (by omega)).frame hf2 (by omega)
    refine W_skip (W_seq (W_block (W_seq (W_seqR (by simp only [runSeq_cons, runSeq_nil, evalArgs_nil, evalArgs_tmp, val1, putT, Tr.get_set_self, Tr.get_set_ne, hd _, ne_eq, Nat.reduceEqDiff, not_false_eq_true, decide_true, Nat.reduceLT, opI_new, h22, h24, p1, p2, e3]; rfl) ?_))))
    have hn3 : wb < ((M.push (.cells [.int .u64 0, .slice none 0 0 false] 0 true none)).set M.n (.cells [.int .u64 (jb js i).task, (jb js i).kv] 0 true none)).n := by show wb < M.n + 1; omega
    clear p1 p2 e3 s2 g2 k3 hf1 hf2
    generalize (M.push (.cells [.int .u64 0, .slice none 0 0 false] 0 true none)).set M.n (.cells [.int .u64 (jb js i).task, (jb js i).kv] 0 true none) = MB at *
    have L1 := load_own (o := 1) g3 rfl
    have lk := hv.jin.kidLen hin MB (s3.grow.g.trans g1)
    have hkid := hv.kids i hin
    show W _ _
    refine W_seq (W_seqR (by simp only [runSeq_cons, runSeq_nil, evalArgs_nil, evalArgs_tmp, evalArgs_const, val1, putT, Tr.get_set_self, Tr.get_set_ne, hd _, ne_eq, Nat.reduceEqDiff, not_false_eq_true, decide_true, Nat.reduceLT, opI_move, opI_fieldP, Nat.zero_add, L1, lk]; rfl) ?_)
    refine W_block (W_loop (fun kk t M' => ∃ (q : Nat) (ws : List Int), kk + q = (jb js i).kids.length ∧ Step M1 M' ∧ wb < M'.n ∧ RowI M1 M' 1 wb vw (ws.map eI) ∧ ws.length = js.length ∧ (∀ k : Nat, k < js.length → ws.getD k 0 = ((Wn js [] i k + ((jb js i).kids.take q).count (k : Int) : Nat) : Int)) ∧ Dom t 106 ∧ t.get 0 = some v ∧ t.get 4 = some vw ∧ t.get 22 = some v ∧ t.get 23 = some (.int .i64 js.length) ∧ t.get 24 = some (.int .i64 i) ∧ t.get 29 = some (jb js i).kv ∧ t.get 30 = some (.int .i64 (jb js i).kids.length) ∧ t.get 31 = some (.int .i64 q)) (k := (jb js i).kids.length) (by omega) ?_ ?_)
    · exact ⟨0, ws, rfl, s3, hn3, r3, hwl, fun k hk => by rw [hw k hk]; simp, by ((repeat (with_reducible apply Dom.set)); exact hd), by simp only [Tr.get_set_ne, ne_eq, Nat.reduceEqDiff, not_false_eq_true, h0], by simp only [Tr.get_set_ne, ne_eq, Nat.reduceEqDiff, not_false_eq_true, h4], by simp only [Tr.get_set_ne, ne_eq, Nat.reduceEqDiff, not_false_eq_true, h22], by simp only [Tr.get_set_ne, ne_eq, Nat.reduceEqDiff, not_false_eq_true, h23], by simp only [Tr.get_set_ne, ne_eq, Nat.reduceEqDiff, not_false_eq_true, h24], by simp only [Tr.get_set_self, Tr.get_set_ne, hd _, ne_eq, Nat.reduceEqDiff, not_false_eq_true, decide_true, Nat.reduceLT], by simp only [Tr.get_set_self, Tr.get_set_ne, hd _, ne_eq, Nat.reduceEqDiff, not_false_eq_true, decide_true, Nat.reduceLT], by simp only [Tr.get_set_self, Tr.get_set_ne, hd _, ne_eq, Nat.reduceEqDiff, not_false_eq_true, decide_true, Nat.reduceLT]; rfl⟩
    clear h0 h4 h22 h23 h24 hd hw hwl rw_ r3 s3 g3 L1 lk hn3 hb s hwb ws
    intro kk t M' ⟨q, ws, hkk, s, hwb, rw_, hwl, hw, hd, h0, h4, h22, h23, h24, h29, h30, h31⟩
    refine W_seq (W_seqR (by simp only [runSeq_cons, runSeq_nil, evalArgs_nil, evalArgs_tmp, val1, putT, opI_lss, h30, h31]; rfl) (W_seq ?_))
    refine W_cond (by simp only [PArg.eval, Tr.get_set_self, hd _, decide_true, Nat.reduceLT]; rfl) (fun hb => ?_) (fun hb => ?_)
    · have hql : q < (jb js i).kids.length := by simpa using hb
      obtain ⟨r, rr, r1, r2⟩ := hv.jin.kidAt hin hql M' (s.grow.g.trans g1)
      have hkr := (hR.2 i hin).2 q hql
      obtain ⟨kd, hkd⟩ : ∃ kd : Nat, kid js i q = kd := ⟨(kid js i q).toNat, by omega⟩
      rw [hkd] at r2 hkr
      obtain ⟨a1, a2⟩ := row1_at rw_ s.ok.1 (i := kd) (by omega)
      obtain ⟨M3, e3, s3, r3, f3, n3⟩ := row1_put s rw_ (i := kd) (by omega) (ws.getD kd 0 + 1)
      have hwk := hw kd (by omega)
      have hle := Wn_le (js := js) (out := []) (k := (kd : Int)) (B := 20) (m := i) (fun i' hi' => hv.kids i' (by omega))
      have hc := List.count_le_length (a := (kd : Int)) (l := (jb js i).kids.take q)
      rw [List.length_take] at hc
      have wX : wrapF .i64 (ws.getD kd 0 + 1) = ws.getD kd 0 + 1 := wrapF_any (by omega) (by omega)
      refine W_skip (W_seq (W_block (W_seq (W_seqR (by simp only [runSeq_cons, runSeq_nil, evalArgs_nil, evalArgs_tmp, val1, putT, Tr.get_set_self, Tr.get_set_ne, hd _, ne_eq, Nat.reduceEqDiff, not_false_eq_true, decide_true, Nat.reduceLT, opI_move, h29, h31, r1, r2]; rfl) ?_))))
      show W _ _
      refine W_seqR (by simp only [runSeq_cons, runSeq_nil, evalArgs_nil, evalArgs_tmp, evalArgs_const, val1, putT, Tr.get_set_self, Tr.get_set_ne, hd _, ne_eq, Nat.reduceEqDiff, not_false_eq_true, decide_true, Nat.reduceLT, opI_move, opI_add, h4, a1, a2, wX, e3]; rfl) ?_
      show W _ _
      refine W_seqR (by simp only [runSeq_cons, runSeq_nil, evalArgs_nil, evalArgs_tmp, evalArgs_const, val1, putT, Tr.get_set_self, Tr.get_set_ne, hd _, ne_eq, Nat.reduceEqDiff, not_false_eq_true, decide_true, Nat.reduceLT, opI_move, opI_add, h31]; rfl) ?_
      refine ⟨kk - 1, by omega, q + 1, _, by omega, s3, by omega, r3, by rw [List.length_set]; exact hwl, fun m hm => ?_, by ((repeat (with_reducible apply Dom.set)); exact hd), by simp only [Tr.get_set_ne, ne_eq, Nat.reduceEqDiff, not_false_eq_true, h0], by simp only [Tr.get_set_ne, ne_eq, Nat.reduceEqDiff, not_false_eq_true, h4], by simp only [Tr.get_set_ne, ne_eq, Nat.reduceEqDiff, not_false_eq_true, h22], by simp only [Tr.get_set_ne, ne_eq, Nat.reduceEqDiff, not_false_eq_true, h23], by simp only [Tr.get_set_ne, ne_eq, Nat.reduceEqDiff, not_false_eq_true, h24], by simp only [Tr.get_set_ne, ne_eq, Nat.reduceEqDiff, not_false_eq_true, h29], by simp only [Tr.get_set_ne, ne_eq, Nat.reduceEqDiff, not_false_eq_true, h30], ?_⟩
      · rw [getD_set' (by omega), count_take_succ hql]
        have hgd : (jb js i).kids.getD q 0 = (kd : Int) := hkd
        rw [hgd]
        by_cases hm' : kd = m
        · subst hm'; rw [if_pos rfl, if_pos rfl]; omega
        · rw [if_neg hm', if_neg (by omega), hw m hm]; omega
      · simp only [Tr.get_set_self, Tr.get_set_ne, hd _, ne_eq, Nat.reduceEqDiff, not_false_eq_true, decide_true, Nat.reduceLT]
        rw [wrapF_small (by omega) (by omega)]; rfl
    refine W_exit ?_
    have hqq : q = (jb js i).kids.length := by simp at hb; omega
    subst hqq
    show W _ _
    refine W_seqR (by simp only [runSeq_cons, runSeq_nil, evalArgs_nil, evalArgs_tmp, evalArgs_const, val1, putT, Tr.get_set_self, Tr.get_set_ne, hd _, ne_eq, Nat.reduceEqDiff, not_false_eq_true, decide_true, Nat.reduceLT, opI_move, opI_add, h24]; rfl) ?_
    refine ⟨k - 1, by omega, i + 1, ws, by omega, s, hwb, rw_, hwl, fun m hm => ?_, by ((repeat (with_reducible apply Dom.set)); exact hd), by simp only [Tr.get_set_ne, ne_eq, Nat.reduceEqDiff, not_false_eq_true, h0], by simp only [Tr.get_set_ne, ne_eq, Nat.reduceEqDiff, not_false_eq_true, h4], by simp only [Tr.get_set_ne, ne_eq, Nat.reduceEqDiff, not_false_eq_true, h22], by simp only [Tr.get_set_ne, ne_eq, Nat.reduceEqDiff, not_false_eq_true, h23], ?_⟩
    · rw [hw m hm, List.take_of_length_le (Nat.le_refl _), Wn_nil]
    · simp only [Tr.get_set_self, Tr.get_set_ne, hd _, ne_eq, Nat.reduceEqDiff, not_false_eq_true, decide_true, Nat.reduceLT]
      rw [wrapF_small (by omega) (by omega)]; rfl
  refine W_exit ?_
  have hi : i = js.length := by simp at hb; omega
  subst hi
  clear h22 h23 h24 hb hk
  show W _ _
  -- the heap
  have s2 := s.push (k := .cells [] 0 true none) (fun _ _ _ _ he => by cases he)
  have g2 := get_push_self (k := .cells [] 0 true none) s.ok.1
  have e2 : opI (.sliceLit 0 [] []) [] M = some (.val (.slice (some (M.n, 0)) 0 0 false) (M.push (.cells [] 0 true none))) := rfl
  have s3 := s2.push (k := .cells [.slice (some (M.n, 0)) 0 0 false] 0 true none) (fun _ _ _ _ he => by cases he)
  have g3 := get_push_self (k := .cells [.slice (some (M.n, 0)) 0 0 false] 0 true none) s2.ok.1
  have g2' := (get_push_old (k := .cells [.slice (some (M.n, 0)) 0 0 false] 0 true none) s2.ok.1 (show M.n < M.n + 1 by omega)).trans g2
  have hMn := s.grow.n
  have hf : ∀ ids, Fr M ((M.push (.cells [] 0 true none)).push (.cells [.slice (some (M.n, 0)) 0 0 false] 0 true none)) ids := fun ids => (Fr.push s.ok.1 _).trans (Fr.push s2.ok.1 _)
  have ho : OSt M1 ((M.push (.cells [] 0 true none)).push (.cells [.slice (some (M.n, 0)) 0 0 false] 0 true none)) wb (M.n + 1) vw ws [] (.slice none 0 0 false) [] :=
    ⟨M.n, s3, by omega, by omega, by omega, by omega, by show wb < M.n + 1 + 1; omega, by show M.n + 1 < M.n + 1 + 1; omega, by show M.n < M.n + 1 + 1; omega, rw_.frame (hf (fun _ => False)) (fun h => h), ⟨_, g3, .inr ⟨M.n, 0, false, [], 0, none, rfl, Nat.le_refl _, by omega, by omega, g2', by simp, by simp, (fun he => by cases he), rfl, fun e he => by simp at he, rfl⟩⟩, fun c h0 hc => by simp at hc, .inl ⟨rfl, rfl⟩⟩
  refine W_seq (W_seqR (by simp only [runSeq_cons, runSeq_nil, evalArgs_nil, evalArgs_tmp, val1, putT, Tr.get_set_self, Tr.get_set_ne, hd _, ne_eq, Nat.reduceEqDiff, not_false_eq_true, decide_true, Nat.reduceLT, opI_move, opI_box, push_n, e2, AV.cells]; rfl) ?_)
  have lw := ho.wlen
  rw [hwl] at lw
  generalize (M.push (.cells [] 0 true none)).push (.cells [.slice (some (M.n, 0)) 0 0 false] 0 true none) = MH at *
  generalize M.n + 1 = pb at *
  clear s2 g2 e2 s3 g3 g2' hf hMn
  refine W_seq (W_seq (W_seqR (by simp only [runSeq_cons, runSeq_nil, evalArgs_nil, evalArgs_tmp, evalArgs_const, val1, putT, Tr.get_set_self, Tr.get_set_ne, hd _, ne_eq, Nat.reduceEqDiff, not_false_eq_true, decide_true, Nat.reduceLT, opI_move, h4, lw]; rfl) (W_block (W_loop (fun k t M' => ∃ (i : Nat) (l : List Int), k + i = js.length ∧ OSt M1 M' wb pb vw ws l (.slice none 0 0 false) [] ∧ l.length ≤ i ∧ l.Nodup ∧ (∀ x, x ∈ l ↔ ∃ m : Nat, x = m ∧ m < i ∧ ws.getD m 0 = 0) ∧ Dom t 106 ∧ t.get 0 = some v ∧ t.get 4 = some vw ∧ t.get 9 = some (.ptr (some (pb, 0))) ∧ t.get 45 = some vw ∧ t.get 46 = some (.int .i64 js.length) ∧ t.get 47 = some (.int .i64 i)) (k := js.length) (by omega) ?_ ?_))))
  · exact ⟨0, [], rfl, ho, Nat.le_refl _, List.nodup_nil, fun x => ⟨fun h => by simp at h, fun ⟨m, _, hm, _⟩ => by omega⟩, by ((repeat (with_reducible apply Dom.set)); exact hd), by simp only [Tr.get_set_ne, ne_eq, Nat.reduceEqDiff, not_false_eq_true, h0], by simp only [Tr.get_set_ne, ne_eq, Nat.reduceEqDiff, not_false_eq_true, h4], by simp only [Tr.get_set_self, Tr.get_set_ne, hd _, ne_eq, Nat.reduceEqDiff, not_false_eq_true, decide_true, Nat.reduceLT], by simp only [Tr.get_set_self, Tr.get_set_ne, hd _, ne_eq, Nat.reduceEqDiff, not_false_eq_true, decide_true, Nat.reduceLT], by simp only [Tr.get_set_self, Tr.get_set_ne, hd _, ne_eq, Nat.reduceEqDiff, not_false_eq_true, decide_true, Nat.reduceLT], by simp only [Tr.get_set_self, Tr.get_set_ne, hd _, ne_eq, Nat.reduceEqDiff, not_false_eq_true, decide_true, Nat.reduceLT]; rfl⟩
  clear h0 h4 hd ho lw rw_ s hwb M
  intro k t M ⟨i, l, hk, ho, hll, hlnd, hlm, hd, h0, h4, h9, h45, h46, h47⟩
  refine W_seq (W_seqR (by simp only [runSeq_cons, runSeq_nil, evalArgs_nil, evalArgs_tmp, val1, putT, opI_lss, h46, h47]; rfl) (W_seq ?_))
  refine W_cond (by simp only [PArg.eval, Tr.get_set_self, hd _, decide_true, Nat.reduceLT]; rfl) (fun hb => ?_) (fun hb => ?_)
  · have hin : i < js.length := by simpa using hb
    obtain ⟨a1, a2⟩ := ho.wat (i := i) (by omega)
    refine W_skip (W_seq (W_block (W_seq (W_seqR (by simp only [runSeq_cons, runSeq_nil, evalArgs_nil, evalArgs_tmp, val1, putT, Tr.get_set_self, Tr.get_set_ne, hd _, ne_eq, Nat.reduceEqDiff, not_false_eq_true, decide_true, Nat.reduceLT, opI_move, h45, h47, a1, a2]; rfl) ?_))))
    show W _ _
    by_cases hz : ws.getD i 0 = 0
    · have ez : (ws.getD i 0 == 0) = true := by simpa using hz
      refine W_seq (W_seqR (by simp only [runSeq_cons, runSeq_nil, evalArgs_nil, evalArgs_tmp, evalArgs_const, val1, putT, Tr.get_set_self, Tr.get_set_ne, hd _, ne_eq, Nat.reduceEqDiff, not_false_eq_true, decide_true, Nat.reduceLT, opI_move, opI_eql, ez]; rfl) ?_)
      refine W_cond (b := true) (by simp only [PArg.eval, Tr.get_set_self, Tr.get_set_ne, hd _, ne_eq, Nat.reduceEqDiff, not_false_eq_true, decide_true, Nat.reduceLT]; try rfl) (fun _ => ?_) (fun hb => by cases hb)
      obtain ⟨_, M2, c2, l', ho', hp⟩ := ho.hpush d (by omega) i
      refine W_seqR (by simp only [runSeq_cons, runSeq_nil, evalArgs_nil, evalArgs_tmp, val1, putT, Tr.get_set_self, Tr.get_set_ne, hd _, ne_eq, Nat.reduceEqDiff, not_false_eq_true, decide_true, Nat.reduceLT, opI_move, opI_callF, h9, opI_mkIface, c2]; rfl) ?_
      show W _ _
      refine W_seqR (by simp only [runSeq_cons, runSeq_nil, evalArgs_nil, evalArgs_tmp, evalArgs_const, val1, putT, Tr.get_set_self, Tr.get_set_ne, hd _, ne_eq, Nat.reduceEqDiff, not_false_eq_true, decide_true, Nat.reduceLT, opI_move, opI_add, h47]; rfl) ?_
      refine ⟨k - 1, by omega, i + 1, l', by omega, ho', by rw [hp.length_eq]; simp; omega, ?_, fun x => ?_, by ((repeat (with_reducible apply Dom.set)); exact hd), by simp only [Tr.get_set_ne, ne_eq, Nat.reduceEqDiff, not_false_eq_true, h0], by simp only [Tr.get_set_ne, ne_eq, Nat.reduceEqDiff, not_false_eq_true, h4], by simp only [Tr.get_set_ne, ne_eq, Nat.reduceEqDiff, not_false_eq_true, h9], by simp only [Tr.get_set_ne, ne_eq, Nat.reduceEqDiff, not_false_eq_true, h45], by simp only [Tr.get_set_ne, ne_eq, Nat.reduceEqDiff, not_false_eq_true, h46], ?_⟩
      · rw [hp.nodup_iff, List.nodup_append]
        refine ⟨hlnd, by simp, fun a ha b hb => ?_⟩
        simp at hb; subst hb
        intro he; subst he
        obtain ⟨m, e, hm, _⟩ := (hlm _).1 ha
        omega
      · rw [hp.mem_iff, List.mem_append, List.mem_singleton, hlm x]
        constructor
        · rintro (⟨m, e, hm, h2⟩ | hx)
          · exact ⟨m, e, by omega, h2⟩
          · exact ⟨i, hx, by omega, hz⟩
        · rintro ⟨m, e, hm, h2⟩
          by_cases hmi : m = i
          · subst hmi; exact .inr e
          · exact .inl ⟨m, e, by omega, h2⟩
      · simp only [Tr.get_set_self, Tr.get_set_ne, hd _, ne_eq, Nat.reduceEqDiff, not_false_eq_true, decide_true, Nat.reduceLT]
        rw [wrapF_small (by omega) (by omega)]; rfl
    · have ez : (ws.getD i 0 == 0) = false := by simpa using hz
      refine W_seq (W_seqR (by simp only [runSeq_cons, runSeq_nil, evalArgs_nil, evalArgs_tmp, evalArgs_const, val1, putT, Tr.get_set_self, Tr.get_set_ne, hd _, ne_eq, Nat.reduceEqDiff, not_false_eq_true, decide_true, Nat.reduceLT, opI_move, opI_eql, ez]; rfl) ?_)
      refine W_cond (b := false) (by simp only [PArg.eval, Tr.get_set_self, Tr.get_set_ne, hd _, ne_eq, Nat.reduceEqDiff, not_false_eq_true, decide_true, Nat.reduceLT]; try rfl) (fun hb => by cases hb) (fun _ => W_skip ?_)
      show W _ _
      refine W_seqR (by simp only [runSeq_cons, runSeq_nil, evalArgs_nil, evalArgs_tmp, evalArgs_const, val1, putT, Tr.get_set_self, Tr.get_set_ne, hd _, ne_eq, Nat.reduceEqDiff, not_false_eq_true, decide_true, Nat.reduceLT, opI_move, opI_add, h47]; rfl) ?_
      refine ⟨k - 1, by omega, i + 1, l, by omega, ho, by omega, hlnd, fun x => ?_, by ((repeat (with_reducible apply Dom.set)); exact hd), by simp only [Tr.get_set_ne, ne_eq, Nat.reduceEqDiff, not_false_eq_true, h0], by simp only [Tr.get_set_ne, ne_eq, Nat.reduceEqDiff, not_false_eq_true, h4], by simp only [Tr.get_set_ne, ne_eq, Nat.reduceEqDiff, not_false_eq_true, h9], by simp only [Tr.get_set_ne, ne_eq, Nat.reduceEqDiff, not_false_eq_true, h45], by simp only [Tr.get_set_ne, ne_eq, Nat.reduceEqDiff, not_false_eq_true, h46], ?_⟩
      · rw [hlm x]
        constructor
        · rintro ⟨m, e, hm, h2⟩; exact ⟨m, e, by omega, h2⟩
        · rintro ⟨m, e, hm, h2⟩
          by_cases hmi : m = i
          · subst hmi; exact absurd h2 hz
          · exact ⟨m, e, by omega, h2⟩
      · simp only [Tr.get_set_self, Tr.get_set_ne, hd _, ne_eq, Nat.reduceEqDiff, not_false_eq_true, decide_true, Nat.reduceLT]
        rw [wrapF_small (by omega) (by omega)]; rfl
  refine W_exit ?_
  have hi : i = js.length := by simp at hb; omega
  subst hi
  clear h45 h46 h47 hb hk hll
  have hgo : Going js ws l [] := ⟨List.nodup_nil, fun x hx => by simp at hx, fun p hp => by simp at hp, hlnd, hwl, hw, fun x => by
    rw [hlm x]
    constructor
    · rintro ⟨m, e, hm, h2⟩
      exact ⟨m, e, hm, by simp, by have := hw m hm; omega⟩
    · rintro ⟨m, e, hm, _, h2⟩
      exact ⟨m, e, hm, by rw [hw m hm, h2]; rfl⟩, fun x hx => by simp at hx⟩
  clear hlnd hlm hw hwl
  show W _ _
  refine W_seq (W_seqR (by simp only [runSeq_cons, runSeq_nil, evalArgs_nil, evalArgs_const, val1, putT, opI_move]; rfl) ?_)
  refine W_seq (W_block (W_loop (fun k t M' => ∃ (ws l out : List Int) (vo : AV), k + out.length = js.length ∧ OSt M1 M' wb pb vw ws l vo out ∧ Going js ws l out ∧ Dom t 106 ∧ t.get 0 = some v ∧ t.get 4 = some vw ∧ t.get 9 = some (.ptr (some (pb, 0))) ∧ t.get 12 = some vo) (k := js.length) (by omega) ?_ ?_))
  · exact ⟨ws, l, [], _, rfl, ho, hgo, by ((repeat (with_reducible apply Dom.set)); exact hd), by simp only [Tr.get_set_ne, ne_eq, Nat.reduceEqDiff, not_false_eq_true, h0], by simp only [Tr.get_set_ne, ne_eq, Nat.reduceEqDiff, not_false_eq_true, h4], by simp only [Tr.get_set_ne, ne_eq, Nat.reduceEqDiff, not_false_eq_true, h9], by simp only [Tr.get_set_self, Tr.get_set_ne, hd _, ne_eq, Nat.reduceEqDiff, not_false_eq_true, decide_true, Nat.reduceLT]⟩
  clear h0 h4 h9 hd ho hgo ws l
  intro k t M ⟨ws, l, out, vo, hk, ho, hgo, hd, h0, h4, h9, h12⟩
  obtain ⟨vh, lh, clen⟩ := ho.hlen
  have clen' := clen (d + 2)
  have hlb : l.length ≤ js.length := nodup_le _ hgo.lnd fun x hx => by
    obtain ⟨m, e, hm, _⟩ := (hgo.mem x).1 hx
    omega
  refine W_seq (W_seq (W_seqR (by simp only [runSeq_cons, runSeq_nil, evalArgs_nil, evalArgs_tmp, evalArgs_const, val1, putT, Tr.get_set_self, Tr.get_set_ne, hd _, ne_eq, Nat.reduceEqDiff, not_false_eq_true, decide_true, Nat.reduceLT, opI_move, opI_gtr, opI_callF, h9, opI_nilP, lh, clen']; rfl) ?_))
  refine W_cond (by simp only [PArg.eval, Tr.get_set_self, Tr.get_set_ne, hd _, ne_eq, Nat.reduceEqDiff, not_false_eq_true, decide_true, Nat.reduceLT]; rfl) (fun hb => W_skip ?_) (fun hb => ?_)
  rotate_left
  · refine W_exit ?_
    have hl0 : l = [] := by
      have : ¬ ((l.length : Int) > 0) := by simpa using hb
      exact List.eq_nil_of_length_eq_zero (by omega)
    subst hl0
    have lv3 := hv.jin.lenS M (ho.step.grow.g.trans g1)
    have lo := ho.olen
    show W _ _
    refine W_seq (W_seqR (by simp only [runSeq_cons, runSeq_nil, evalArgs_nil, evalArgs_tmp, val1, putT, Tr.get_set_self, Tr.get_set_ne, hd _, ne_eq, Nat.reduceEqDiff, not_false_eq_true, decide_true, Nat.reduceLT, opI_move, opI_eql, h0, h12, lo, lv3]; rfl) (W_ret ?_))
    exact ⟨_, fin_tmp2 (by simp only [Tr.get_set_self, Tr.get_set_ne, hd _, ne_eq, Nat.reduceEqDiff, not_false_eq_true, decide_true, Nat.reduceLT]; try rfl) (by simp only [Tr.get_set_self, Tr.get_set_ne, hd _, ne_eq, Nat.reduceEqDiff, not_false_eq_true, decide_true, Nat.reduceLT]; try rfl), s1.trans ho.step, .inr ⟨hR, vo, out, rfl, ho.orow, hgo.done⟩⟩
  have hl0 : 0 < l.length := by
    have : (l.length : Int) > 0 := by simpa using hb
    omega
  clear hb lh clen clen'
  show W _ _
  obtain ⟨_, M2, c2, rfl, l', ho2, hp⟩ := ho.hpop d (by omega) hl0
  obtain ⟨i, hx, hin, hio, hrd⟩ := hgo.pop hp
  rw [hx] at c2
  have as1 : ∀ M : AMem, opI (.assertC 3 false (.int .i64 0)) [.iface 3 (.int .i64 (i : Int))] M = some (.val (.int .i64 (i : Int)) M) := fun _ => rfl
  have hob : out.length + 1 ≤ js.length := by
    have := nodup_le js.length hrd.nodup hrd.rng
    simpa using this
  refine W_block (W_seq (W_seqR (by simp only [runSeq_cons, runSeq_nil, evalArgs_nil, evalArgs_tmp, val1, putT, Tr.get_set_self, Tr.get_set_ne, hd _, ne_eq, Nat.reduceEqDiff, not_false_eq_true, decide_true, Nat.reduceLT, opI_move, opI_callF, h9, opI_mkIface, c2, as1]; rfl) ?_))
  obtain ⟨M3, vo', e3, e4, ho3⟩ := ho2.opush (by omega) i
  refine W_seq (W_seqR (by simp only [runSeq_cons, runSeq_nil, evalArgs_nil, evalArgs_tmp, val1, putT, Tr.get_set_self, Tr.get_set_ne, hd _, ne_eq, Nat.reduceEqDiff, not_false_eq_true, decide_true, Nat.reduceLT, opI_move, h12, e3, e4]; rfl) ?_)
  obtain ⟨p, pp, p1, _, _, p2⟩ := hv.jin.at_ hin M3 (ho3.step.grow.g.trans g1)
  have lk := hv.jin.kidLen hin M3 (ho3.step.grow.g.trans g1)
  have hkid := hv.kids i hin
  refine W_seq (W_seqR (by simp only [runSeq_cons, runSeq_nil, evalArgs_nil, evalArgs_tmp, evalArgs_const, val1, putT, Tr.get_set_self, Tr.get_set_ne, hd _, ne_eq, Nat.reduceEqDiff, not_false_eq_true, decide_true, Nat.reduceLT, opI_move, Nat.zero_add, h0, p1, opI_fieldQ pp, p2, lk]; rfl) ?_)
  clear p1 p2 lk c2 e3 e4 ho2 ho hgo
  refine W_block (W_loop (fun kk t M' => ∃ (q : Nat) (ws l : List Int), kk + q = (jb js i).kids.length ∧ OSt M1 M' wb pb vw ws l vo' (out ++ [(i : Int)]) ∧ Round js ws l out i q ∧ Dom t 106 ∧ t.get 0 = some v ∧ t.get 4 = some vw ∧ t.get 9 = some (.ptr (some (pb, 0))) ∧ t.get 12 = some vo' ∧ t.get 77 = some (jb js i).kv ∧ t.get 78 = some (.int .i64 (jb js i).kids.length) ∧ t.get 79 = some (.int .i64 q)) (k := (jb js i).kids.length) (by omega) ?_ ?_)
  · exact ⟨0, ws, l', rfl, ho3, hrd, by ((repeat (with_reducible apply Dom.set)); exact hd), by simp only [Tr.get_set_ne, ne_eq, Nat.reduceEqDiff, not_false_eq_true, h0], by simp only [Tr.get_set_ne, ne_eq, Nat.reduceEqDiff, not_false_eq_true, h4], by simp only [Tr.get_set_ne, ne_eq, Nat.reduceEqDiff, not_false_eq_true, h9], by simp only [Tr.get_set_self, Tr.get_set_ne, hd _, ne_eq, Nat.reduceEqDiff, not_false_eq_true, decide_true, Nat.reduceLT], by simp only [Tr.get_set_self, Tr.get_set_ne, hd _, ne_eq, Nat.reduceEqDiff, not_false_eq_true, decide_true, Nat.reduceLT], by simp only [Tr.get_set_self, Tr.get_set_ne, hd _, ne_eq, Nat.reduceEqDiff, not_false_eq_true, decide_true, Nat.reduceLT], by simp only [Tr.get_set_self, Tr.get_set_ne, hd _, ne_eq, Nat.reduceEqDiff, not_false_eq_true, decide_true, Nat.reduceLT]; rfl⟩
  clear h0 h4 h9 h12 hd ho3 hrd ws hp hl0 hlb hx l l' 
  intro kk t M' ⟨q, ws, l, hkk, ho, hrd, hd, h0, h4, h9, h12, h77, h78, h79⟩
  refine W_seq (W_seqR (by simp only [runSeq_cons, runSeq_nil, evalArgs_nil, evalArgs_tmp, val1, putT, opI_lss, h78, h79]; rfl) (W_seq ?_))
  refine W_cond (by simp only [PArg.eval, Tr.get_set_self, hd _, decide_true, Nat.reduceLT]; rfl) (fun hb => ?_) (fun hb => ?_)
  rotate_left
  · refine W_exit ?_
    have hqq : q = (jb js i).kids.length := by simp at hb; omega
    subst hqq
    refine ⟨k - 1, by omega, ws, l, out ++ [(i : Int)], vo', by simp; omega, ho, hrd.done, hd.set _ _, by simp only [Tr.get_set_ne, ne_eq, Nat.reduceEqDiff, not_false_eq_true, h0], by simp only [Tr.get_set_ne, ne_eq, Nat.reduceEqDiff, not_false_eq_true, h4], by simp only [Tr.get_set_ne, ne_eq, Nat.reduceEqDiff, not_false_eq_true, h9], by simp only [Tr.get_set_ne, ne_eq, Nat.reduceEqDiff, not_false_eq_true, h12]⟩
  have hql : q < (jb js i).kids.length := by simpa using hb
  obtain ⟨r, rr, r1, r2⟩ := hv.jin.kidAt hin hql M' (ho.step.grow.g.trans g1)
  have hkr := (hR.2 i hin).2 q hql
  obtain ⟨kd, hkd⟩ : ∃ kd : Nat, kid js i q = kd := ⟨(kid js i q).toNat, by omega⟩
  rw [hkd] at r2 hkr
  obtain ⟨hpos, hnz, hzz⟩ := hrd.kid hql (k := kd) (by omega) hkd
  have hwl := hrd.wl
  obtain ⟨a1, a2⟩ := ho.wat (i := kd) (by omega)
  obtain ⟨M3, e3, ho3⟩ := ho.wput (i := kd) (by omega) (ws.getD kd 0 - 1)
  have hwk := hrd.w kd (by omega)
  have hle := Wn_le (js := js) (out := out ++ [(i : Int)]) (k := (kd : Int)) (B := 20) (m := js.length) (fun i' hi' => hv.kids i' (by omega))
  have hc := List.count_le_length (a := (kd : Int)) (l := (jb js i).kids.drop q)
  rw [List.length_drop] at hc
  have wX : wrapF .i64 (ws.getD kd 0 - 1) = ws.getD kd 0 - 1 := wrapF_any (by omega) (by omega)
  refine W_skip (W_seq (W_block (W_seq (W_seqR (by simp only [runSeq_cons, runSeq_nil, evalArgs_nil, evalArgs_tmp, val1, putT, Tr.get_set_self, Tr.get_set_ne, hd _, ne_eq, Nat.reduceEqDiff, not_false_eq_true, decide_true, Nat.reduceLT, opI_move, h77, h79, r1, r2]; rfl) ?_))))
  show W _ _
  refine W_seq (W_seqR (by simp only [runSeq_cons, runSeq_nil, evalArgs_nil, evalArgs_tmp, evalArgs_const, val1, putT, Tr.get_set_self, Tr.get_set_ne, hd _, ne_eq, Nat.reduceEqDiff, not_false_eq_true, decide_true, Nat.reduceLT, opI_move, opI_sub, h4, a1, a2, wX, e3]; rfl) ?_)
  obtain ⟨b1, b2⟩ := ho3.wat (i := kd) (by rw [List.length_set]; omega)
  rw [getD_set' (by omega), if_pos rfl] at b2
  by_cases hz : ws.getD kd 0 - 1 = 0
  · have ez : (ws.getD kd 0 - 1 == 0) = true := by simpa using hz
    refine W_seq (W_seqR (by simp only [runSeq_cons, runSeq_nil, evalArgs_nil, evalArgs_tmp, evalArgs_const, val1, putT, Tr.get_set_self, Tr.get_set_ne, hd _, ne_eq, Nat.reduceEqDiff, not_false_eq_true, decide_true, Nat.reduceLT, opI_move, opI_eql, h4, b1, b2, ez]; rfl) ?_)
    refine W_cond (b := true) (by simp only [PArg.eval, Tr.get_set_self, Tr.get_set_ne, hd _, ne_eq, Nat.reduceEqDiff, not_false_eq_true, decide_true, Nat.reduceLT]; try rfl) (fun _ => ?_) (fun hb => by cases hb)
    have hlb : l.length ≤ js.length := nodup_le _ hrd.lnd fun x hx => by
      obtain ⟨m, e, hm, _⟩ := (hrd.mem x).1 hx
      omega
    obtain ⟨_, M4, c4, l', ho4, hp⟩ := ho3.hpush d (by omega) kd
    refine W_seqR (by simp only [runSeq_cons, runSeq_nil, evalArgs_nil, evalArgs_tmp, val1, putT, Tr.get_set_self, Tr.get_set_ne, hd _, ne_eq, Nat.reduceEqDiff, not_false_eq_true, decide_true, Nat.reduceLT, opI_move, opI_callF, h9, opI_mkIface, c4]; rfl) ?_
    show W _ _
    refine W_seqR (by simp only [runSeq_cons, runSeq_nil, evalArgs_nil, evalArgs_tmp, evalArgs_const, val1, putT, Tr.get_set_self, Tr.get_set_ne, hd _, ne_eq, Nat.reduceEqDiff, not_false_eq_true, decide_true, Nat.reduceLT, opI_move, opI_add, h79]; rfl) ?_
    refine ⟨kk - 1, by omega, q + 1, _, l', by omega, ho4, hzz hz l' hp, by ((repeat (with_reducible apply Dom.set)); exact hd), by simp only [Tr.get_set_ne, ne_eq, Nat.reduceEqDiff, not_false_eq_true, h0], by simp only [Tr.get_set_ne, ne_eq, Nat.reduceEqDiff, not_false_eq_true, h4], by simp only [Tr.get_set_ne, ne_eq, Nat.reduceEqDiff, not_false_eq_true, h9], by simp only [Tr.get_set_ne, ne_eq, Nat.reduceEqDiff, not_false_eq_true, h12], by simp only [Tr.get_set_ne, ne_eq, Nat.reduceEqDiff, not_false_eq_true, h77], by simp only [Tr.get_set_ne, ne_eq, Nat.reduceEqDiff, not_false_eq_true, h78], ?_⟩
    simp only [Tr.get_set_self, Tr.get_set_ne, hd _, ne_eq, Nat.reduceEqDiff, not_false_eq_true, decide_true, Nat.reduceLT]
    rw [wrapF_small (by omega) (by omega)]; rfl
  · have ez : (ws.getD kd 0 - 1 == 0) = false := by simpa using hz
    refine W_seq (W_seqR (by simp only [runSeq_cons, runSeq_nil, evalArgs_nil, evalArgs_tmp, evalArgs_const, val1, putT, Tr.get_set_self, Tr.get_set_ne, hd _, ne_eq, Nat.reduceEqDiff, not_false_eq_true, decide_true, Nat.reduceLT, opI_move, opI_eql, h4, b1, b2, ez]; rfl) ?_)
    refine W_cond (b := false) (by simp only [PArg.eval, Tr.get_set_self, Tr.get_set_ne, hd _, ne_eq, Nat.reduceEqDiff, not_false_eq_true, decide_true, Nat.reduceLT]; try rfl) (fun hb => by cases hb) (fun _ => W_skip ?_)
    show W _ _
    refine W_seqR (by simp only [runSeq_cons, runSeq_nil, evalArgs_nil, evalArgs_tmp, evalArgs_const, val1, putT, Tr.get_set_self, Tr.get_set_ne, hd _, ne_eq, Nat.reduceEqDiff, not_false_eq_true, decide_true, Nat.reduceLT, opI_move, opI_add, h79]; rfl) ?_
    refine ⟨kk - 1, by omega, q + 1, _, l, by omega, ho3, hnz hz, by ((repeat (with_reducible apply Dom.set)); exact hd), by simp only [Tr.get_set_ne, ne_eq, Nat.reduceEqDiff, not_false_eq_true, h0], by simp only [Tr.get_set_ne, ne_eq, Nat.reduceEqDiff, not_false_eq_true, h4], by simp only [Tr.get_set_ne, ne_eq, Nat.reduceEqDiff, not_false_eq_true, h9], by simp only [Tr.get_set_ne, ne_eq, Nat.reduceEqDiff, not_false_eq_true, h12], by simp only [Tr.get_set_ne, ne_eq, Nat.reduceEqDiff, not_false_eq_true, h77], by simp only [Tr.get_set_ne, ne_eq, Nat.reduceEqDiff, not_false_eq_true, h78], ?_⟩
    simp only [Tr.get_set_self, Tr.get_set_ne, hd _, ne_eq, Nat.reduceEqDiff, not_false_eq_true, decide_true, Nat.reduceLT]
    rw [wrapF_small (by omega) (by omega)]; rfl
end Go.Proofs.Ytmaldkpkodcggaa.grf
