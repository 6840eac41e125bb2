/- A step of the loom, a start, a result. -/
import Derived.Test.YtldijnabgabehaaSoLoom
namespace Go.Proofs.Ytldijnabgabehaa.so
open Go Go.Vx
theorem want_ok {n V T : Nat} {w : Wk} (ho : over w = false) (hw : BdW n V T w) (hn : 1 ≤ n) : ((want n w).1 = 1 ∨ (want n w).1 = 2 ∨ (want n w).1 = 3) ∧ (want n w).2.1 < 3 * n + 2 := by
  cases w <;> first | (cases ho; done) | (simp only [BdW] at hw; refine ⟨by simp [want], by simp only [want]; omega⟩) | (refine ⟨by simp [want], by simp only [want]; omega⟩)
theorem doL_now {k c a b : Nat} {L : List Nat} (hk : k = 1 ∨ k = 2 ∨ k = 3) (hc : c < L.length) : doL (k, c, a, b) L = (L.getD c 0, (now k a b (L.getD c 0)).2, L.set c (now k a b (L.getD c 0)).1) := by
  have e : L.set c (L.getD c 0) = L := by
    rw [List.getD_eq_getElem?_getD, List.getElem?_eq_getElem hc]; simp
  unfold doL now
  rcases hk with rfl | rfl | rfl
  · simp only [if_true, e]
  · simp only [Nat.reduceEqDiff, if_false, if_true]
  · simp only [Nat.reduceEqDiff, if_false]
    by_cases hu : L.getD c 0 = a
    · simp only [hu, if_true]
    · simp only [hu, if_false, e]
theorem fin_cell2 {t : Tr AV} {M : AMem} {i j b n sz : Nat} {cs : List AV} {wr : Bool} {g : Option Nat} {v : AV} (h : t.get i = some (.ptr (some (b, 0)))) (hg : M.get b = some (.cells cs sz wr g)) (hl : cs.length = n) (hj : t.get j = some v) : resIs t M [.cell i true n, .tmp j] = some [.agg cs, v] := by
  have := fin_cell h hg hl
  simp only [resIs] at this ⊢
  cases hr : resI t M (.cell i true n) with
  | none => rw [hr] at this; cases this
  | some x =>
    rw [hr] at this
    simp only [Option.some.injEq, List.cons.injEq, and_true] at this
    subst this
    simp [resI, hj]
theorem LM.more {n : Nat} {A A' : Nat → Prop} {M : AMem} {bm bc bl bw : Nat} {L : List Nat} {vs : List (Option Wk)} (h : LM n A M bm bc bl bw L vs) {M' : AMem} (hok : Ok M) (e : EvA M M' (fun _ => False)) (h1 : ∀ c, A c → A' c) (h2 : ∀ c, A' c → A c ∨ M.n ≤ c) (h3 : ∀ c, A' c → c < M'.n) : LM n A' M' bm bc bl bw L vs :=
  h.move hok (e.ev hok) (fun _ hx => hx.elim) h2 ⟨h1 _ h.ns.1, h1 _ h.ns.2.1, h1 _ h.ns.2.2.1, h1 _ h.ns.2.2.2⟩ h3
theorem EvA.set {M : AMem} (hok : Okg M) (hh : NH M) {b sz : Nat} {cs new : List AV} (hg : M.get b = some (.cells cs sz true none)) : EvA M (M.set b (.cells new sz true none)) (· = b) := by
  refine ⟨Nat.le_of_eq set_n.symm, set_g, fun x _ hx => by rw [get_set_mem hg, if_neg hx], ⟨hok.1.set _ _, fun x cs' sz' wr g hb => ?_⟩, fun x => ?_⟩
  · rw [get_set_mem hg] at hb
    split at hb
    · cases hb
    · exact hok.2 x cs' sz' wr g hb
  · rw [get_set_mem hg]
    split
    · rfl
    · exact hh x
theorem st_all {M : AMem} {b n sz : Nat} {cs new : List AV} (hok : Okg M) (hh : NH M) (hg : M.get b = some (.cells cs sz true none)) (hl : new.length = n) (ho : cs.length = n) (hone : new.all AV.one = true) :
    opI (.store n) [.ptr (some (b, 0)), .agg new] M = some (.val (.tuple []) (M.set b (.cells new sz true none))) := (store_all (step0 hok hh) (Nat.zero_le _) hg hl ho hone).1
set_option maxRecDepth 20000 in
set_option maxHeartbeats 8000000 in
theorem wants_ok (d : Nat) {n V T : Nat} {A : Nat → Prop} {M : AMem} (hok : Okg M) (hh : NH M) {bm bc bl bw : Nat} {L : List Nat} {vs : List (Option Wk)} (h : LM n A M bm bc bl bw L vs) {who : Nat} {w : Wk} (hw : vs[who]? = some (some w)) (ho : over w = false) (hb : BdW n V T w) (hn : 1 ≤ n) :
    Ans (callF tblS code 100000 (d + 3)) 39 [.ptr (some (bl, 0)), .int .i64 who] M fun r M' => r = .tuple [acc (want n w), .int .i64 0] ∧ EvA M M' (fun c => ¬ A c) ∧ LM n A M' bm bc bl bw L vs := by
  refine Ans_of (tblS_none ⟨by decide, by decide⟩ _) (show code 39 = some c39 from by kernel_rfl) (by simp) fun t hd ha => ?_
  have h0 := ha 0 _ rfl
  have h1 := ha 1 _ rfl
  clear ha
  have hlt := (List.getElem?_eq_some_iff.1 hw).1
  have ix := ix1 (b := bw) hlt
  refine W_seq (W_seqR (by simp only [runSeq_cons, runSeq_nil, evalArgs_nil, evalArgs_const, val1, putT, opI_move, opI_new]; rfl) ?_)
  have s0 : Step M (M.push (.cells [.int .i64 0, .int .i64 0, .int .u64 0, .int .u64 0] 0 true none)) := (Step.refl hok).push (fun _ _ _ _ he => by cases he)
  have e0 := EvA.of_step s0 hh (fun _ => False)
  have g0 := get_push_self (k := .cells [.int .i64 0, .int .i64 0, .int .u64 0, .int .u64 0] 0 true none) hok.1
  have n0 : (M.push (.cells [.int .i64 0, .int .i64 0, .int .u64 0, .int .u64 0] 0 true none)).n = M.n + 1 := push_n
  generalize hM1 : M.push (.cells [.int .i64 0, .int .i64 0, .int .u64 0, .int .u64 0] 0 true none) = M1 at *
  have l1 : LM n (fun c => A c ∨ c = M.n) M1 bm bc bl bw L vs := h.more hok.1 e0 (fun _ h => .inl h) (fun c hc => hc.imp id fun h => by omega) (fun c hc => by
    rcases hc with hc | hc
    · have := h.lt c hc; omega
    · omega)
  have cc := check_ok (d + 1) l1 hlt
  refine W_seq (W_seq (W_seqR (by simp only [runSeq_cons, runSeq_nil, evalArgs_nil, evalArgs_tmp, val1, putT, Tr.get_set_self, Tr.get_set_ne, hd _, ne_eq, Nat.reduceEqDiff, not_false_eq_true, decide_true, Nat.reduceLT, opI_move, opI_callF, h0, h1, cc]; rfl) ?_))
  refine W_seq (W_seqR (by simp only [runSeq_cons, runSeq_nil, evalArgs_nil, evalArgs_tmp, evalArgs_const, val1, putT, Tr.get_set_self, Tr.get_set_ne, hd _, ne_eq, Nat.reduceEqDiff, not_false_eq_true, decide_true, Nat.reduceLT, opI_move, opI_neq, b00]; rfl) ?_)
  refine W_cond (b := false) (by simp only [PArg.eval, Tr.get_set_self, Tr.get_set_ne, hd _, ne_eq, Nat.reduceEqDiff, not_false_eq_true, decide_true, Nat.reduceLT]; try rfl) (fun hb => by cases hb) (fun _ => W_skip ?_)
  show W _ _
  obtain ⟨b, lp, hc⟩ := l1.ask e0.ok e0.nh hw (f := fW) (xs := []) (r := .tuple [acc (want n w), .bool true]) (w' := w) (fun S hS => ⟨S, ((st_shows hS).1 ho).1, hS⟩) rfl rfl (by decide)
  obtain ⟨M2, c2, e2, l2⟩ := hc (d + 1)
  rw [set_same hw] at l2
  obtain ⟨M3, st3, e3, g3, n3⟩ := fill_new (z := [.int .i64 0, .int .i64 0, .int .u64 0, .int .u64 0]) (new := [.int .i64 ((want n w).1 : Int), .int .i64 ((want n w).2.1 : Int), .int .u64 ((want n w).2.2.1 : Int), .int .u64 ((want n w).2.2.2 : Int)]) (n := 4) e2.ok e2.nh rfl rfl rfl
  have c2' : callF tblS code 100000 (d + 1 + 1) fW [.ptr (some (b, 0))] M1 = some (.tuple [.agg [.int .i64 ((want n w).1 : Int), .int .i64 ((want n w).2.1 : Int), .int .u64 ((want n w).2.2.1 : Int), .int .u64 ((want n w).2.2.2 : Int)], .bool true], M2) := c2
  have lw := l1.ldw
  refine W_seq (W_seqR (by simp only [runSeq_cons, runSeq_nil, evalArgs_nil, evalArgs_tmp, val1, putT, Tr.get_set_self, Tr.get_set_ne, hd _, ne_eq, Nat.reduceEqDiff, not_false_eq_true, decide_true, Nat.reduceLT, opI_move, opI_extract, opI_callF, opI_new, opI_fieldP, Nat.zero_add, h0, h1, opI_nilP, lw, ix, lp, c2', st3, List.getElem?_cons_zero, List.getElem?_cons_succ]; rfl) ?_)
  have n2 := e2.n
  have l3 : LM n (fun c => (A c ∨ c = M.n) ∨ c = M2.n) M3 bm bc bl bw L vs := l2.more e2.ok.1 e3 (fun _ h => .inl h) (fun c hc => hc.imp id fun h => by omega) (fun c hc => by
    rcases hc with hc | hc
    · have := l2.lt c hc; have := e3.n; omega
    · omega)
  obtain ⟨rb, M4, c4, rfl, e4, l4⟩ := busy_ok (d + 0) e3.ok e3.nh l3 hw
  have hbz : bz (some w) = true := by simp [bz, ho]
  rw [hbz] at c4
  refine W_seq (W_seq (W_seqR (by simp only [runSeq_cons, runSeq_nil, evalArgs_nil, evalArgs_tmp, evalArgs_const, val1, putT, Tr.get_set_self, Tr.get_set_ne, Tr.isSome_set, hd _, ne_eq, Nat.reduceEqDiff, not_false_eq_true, decide_true, Nat.reduceLT, opI_move, opI_not, opI_callF, opI_pick, runSeq_guard (b := false), beq_self_eq_true, Bool.not_true, h0, h1, c4, Bool.not_true]; rfl) ?_))
  refine W_cond (b := false) (by simp only [PArg.eval, Tr.get_set_self, Tr.get_set_ne, hd _, ne_eq, Nat.reduceEqDiff, not_false_eq_true, decide_true, Nat.reduceLT]; try rfl) (fun hb => by cases hb) (fun _ => W_skip ?_)
  show W _ _
  have k0 : M4.get M.n = some (.cells [.int .i64 0, .int .i64 0, .int .u64 0, .int .u64 0] 0 true none) := by
    have q2 : M2.get M.n = _ := (e2.same M.n (by omega) (fun hz => hz (.inr rfl))).trans g0
    have q3 : M3.get M.n = _ := (e3.same M.n (by omega) (fun h => h)).trans q2
    exact (e4.same M.n (by have := e3.n; omega) (fun hz => hz (.inl (.inr rfl)))).trans q3
  have k7 : M4.get M2.n = _ := (e4.same M2.n n3 (fun hz => hz (.inr rfl))).trans g3
  have lk : opI (.load false 1) [.ptr (some (M2.n, 0))] M4 = some (.val (.int .i64 ((want n w).1 : Int)) M4) := load_own k7 rfl
  have q7 : (((want n w).1 : Int) == 7) = false := by
    rcases (want_ok ho hb hn).1 with e | e | e <;> rw [e] <;> rfl
  refine W_seq (W_seq (W_seqR (by simp only [runSeq_cons, runSeq_nil, evalArgs_nil, evalArgs_tmp, evalArgs_const, val1, putT, Tr.get_set_self, Tr.get_set_ne, hd _, ne_eq, Nat.reduceEqDiff, not_false_eq_true, decide_true, Nat.reduceLT, opI_eql, opI_fieldP, Nat.add_zero, lk, q7]; rfl) ?_))
  refine W_cond (b := false) (by simp only [PArg.eval, Tr.get_set_self, Tr.get_set_ne, hd _, ne_eq, Nat.reduceEqDiff, not_false_eq_true, decide_true, Nat.reduceLT]; try rfl) (fun hb => by cases hb) (fun _ => W_skip ?_)
  show W _ _
  have LA := load_agg (n := 4) k7 rfl
  have st4 := st_all e4.ok e4.nh k0 (new := [.int .i64 ((want n w).1 : Int), .int .i64 ((want n w).2.1 : Int), .int .u64 ((want n w).2.2.1 : Int), .int .u64 ((want n w).2.2.2 : Int)]) (n := 4) rfl rfl rfl
  have e5 := EvA.set e4.ok e4.nh k0 (new := [.int .i64 ((want n w).1 : Int), .int .i64 ((want n w).2.1 : Int), .int .u64 ((want n w).2.2.1 : Int), .int .u64 ((want n w).2.2.2 : Int)])
  have g5 : (M4.set M.n (.cells [.int .i64 ((want n w).1 : Int), .int .i64 ((want n w).2.1 : Int), .int .u64 ((want n w).2.2.1 : Int), .int .u64 ((want n w).2.2.2 : Int)] 0 true none)).get M.n = some (.cells [.int .i64 ((want n w).1 : Int), .int .i64 ((want n w).2.1 : Int), .int .u64 ((want n w).2.2.1 : Int), .int .u64 ((want n w).2.2.2 : Int)] 0 true none) := by rw [get_set_mem k0, if_pos rfl]
  refine W_seq (W_seqR (by simp only [runSeq_cons, runSeq_nil, evalArgs_nil, evalArgs_tmp, evalArgs_const, val1, putT, Tr.get_set_self, Tr.get_set_ne, hd _, ne_eq, Nat.reduceEqDiff, not_false_eq_true, decide_true, Nat.reduceLT, opI_move, LA, st4]; rfl) (W_ret ?_))
  refine ⟨_, fin_cell2 (by simp only [Tr.get_set_self, Tr.get_set_ne, hd _, ne_eq, Nat.reduceEqDiff, not_false_eq_true, decide_true, Nat.reduceLT]; try rfl) g5 rfl (by simp only [Tr.get_set_self, Tr.get_set_ne, Tr.isSome_set, Option.isSome_some, hd _, ne_eq, Nat.reduceEqDiff, not_false_eq_true, decide_true, Nat.reduceLT]; try rfl), rfl, ?_, ?_⟩
  · have a2 : EvA M M2 (fun c => ¬ A c) := e0.trans e2 (fun _ h => h.elim) (fun c hc hz ha => hz (.inl ha))
    have a3 : EvA M M3 (fun c => ¬ A c) := a2.trans e3 (fun _ h => h) (fun _ _ h => h.elim)
    have a4 : EvA M M4 (fun c => ¬ A c) := a3.trans e4 (fun _ h => h) (fun c hc hz ha => hz (.inl (.inl ha)))
    exact a4.trans e5 (fun _ h => h) (fun c hc hz ha => by omega)
  · have hb4 := e4.n
    have hb3 := e3.n
    refine l4.move e4.ok.1 (e5.ev e4.ok.1) (fun c hc => ⟨fun _ => .inl (.inr hc), ?_, ?_, ?_, ?_⟩) (fun c hc => .inl (.inl (.inl hc))) h.ns (fun c hc => by
      have := h.lt c hc
      rw [set_n]; omega)
    · have := h.lt _ h.ns.1; omega
    · have := h.lt _ h.ns.2.1; omega
    · have := h.lt _ h.ns.2.2.1; omega
    · have := h.lt _ h.ns.2.2.2; omega
end Go.Proofs.Ytldijnabgabehaa.so
