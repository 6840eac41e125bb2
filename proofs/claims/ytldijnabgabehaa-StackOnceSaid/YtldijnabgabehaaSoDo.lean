/- A deed of the cells, walked. -/
import Derived.Test.YtldijnabgabehaaSoGoes
namespace Go.Proofs.Ytldijnabgabehaa.so
open Go Go.Vx
set_option maxRecDepth 100000 in
theorem of1 (g : Addr → Option AV) : stepO runW 400 [] 43 [.int .i64 1] [] g (fun r => [r]) = some (.func (.func 59) [] [], [], [], [.func (.func 59) [] []], []) := by kernel_rfl
set_option maxRecDepth 100000 in
theorem of2 (g : Addr → Option AV) : stepO runW 400 [] 43 [.int .i64 2] [] g (fun r => [r]) = some (.func (.func 60) [] [], [], [], [.func (.func 60) [] []], []) := by kernel_rfl
set_option maxRecDepth 100000 in
theorem of3 (g : Addr → Option AV) : stepO runW 400 [] 43 [.int .i64 3] [] g (fun r => [r]) = some (.func (.func 61) [] [], [], [], [.func (.func 61) [] []], []) := by kernel_rfl
set_option maxRecDepth 100000 in
theorem ld (g : Addr → Option AV) (u c a b : Int) : stepO runW 400 [] 59 [.int .u64 u, .agg [.int .i64 1, .int .i64 c, .int .u64 a, .int .u64 b]] [] g (fun r => [r]) = some (.tuple [.int .u64 u, .bool true], [], [], [.tuple [.int .u64 u, .bool true]], []) := by kernel_rfl
set_option maxRecDepth 100000 in
theorem stt (g : Addr → Option AV) (u c a b : Int) : stepO runW 400 [] 60 [.int .u64 u, .agg [.int .i64 2, .int .i64 c, .int .u64 a, .int .u64 b]] [] g (fun r => [r]) = some (.tuple [.int .u64 a, .bool true], [], [], [.tuple [.int .u64 a, .bool true]], []) := by kernel_rfl
set_option maxRecDepth 100000 in
theorem cs0 (g : Addr → Option AV) (u c a b : Int) : stepO runW 400 [(0, false)] 61 [.int .u64 u, .agg [.int .i64 3, .int .i64 c, .int .u64 a, .int .u64 b]] [] g (fun r => [r]) = some (.tuple [.int .u64 b, .bool true], [], [], [.tuple [.int .u64 b, .bool true]], [(u != a, false)]) := by kernel_rfl
set_option maxRecDepth 100000 in
theorem cs1 (g : Addr → Option AV) (u c a b : Int) : stepO runW 400 [(0, true)] 61 [.int .u64 u, .agg [.int .i64 3, .int .i64 c, .int .u64 a, .int .u64 b]] [] g (fun r => [r]) = some (.tuple [.int .u64 u, .bool false], [], [], [.tuple [.int .u64 u, .bool false]], [(u != a, true)]) := by kernel_rfl
/-- a call that answers a value, out of numbers -/
def AskV (f : FuncId) (xs : List AV) (r : AV) : Prop := ∀ (M : AMem), Okg M → NH M → ∀ d, ∃ M', callF tblS code 100000 (d + 1) f xs M = some (r, M') ∧ EvA M M' (fun _ => False)
theorem askV_of {f : FuncId} {xs : List AV} {r r0 : AV} {way : List (Nat × Bool)} {σ : List Nat} {S : List ABlk} {a2 : List AV} {owe : List (Bool × Bool)} (h : ∀ g, stepO runW 400 way f xs [] g (fun r => [r]) = some (r0, σ, S, a2, owe)) (hr : r0 = r) (ho : ∀ p ∈ owe, p.1 = p.2) (hx : AV.refsL xs = []) (hrr : r.refs = []) (hs : served f = true) : AskV f xs r := fun M hok hh d => by
  subst hr
  obtain ⟨M', h1, h2⟩ := call_flat hok (view_nil hx) ⟨way, σ, S, a2, owe, h M.g, ho⟩ hrr hs d
  exact ⟨M', h1, h2.n, h2.g, fun b hb _ => h2.same b hb (by simp), h2.ok hok, fun b => h2.nh b (hh b)⟩
/-- the deed of a kind -/
def fOf (k : Nat) : FuncId := if k = 1 then 59 else if k = 2 then 60 else 61
theorem of_ok {k : Nat} (hk : k = 1 ∨ k = 2 ∨ k = 3) : AskV 43 [.int .i64 k] (.func (.func (fOf k)) [] []) := by
  rcases hk with rfl | rfl | rfl
  · exact askV_of of1 rfl (by simp) rfl rfl (by decide)
  · exact askV_of of2 rfl (by simp) rfl rfl (by decide)
  · exact askV_of of3 rfl (by simp) rfl rfl (by decide)
/-- what becomes of a cell -/
def now (k a b u : Nat) : Nat × Bool := if k = 1 then (u, true) else if k = 2 then (a, true) else if u = a then (b, true) else (u, false)
theorem deed_ok {k : Nat} (hk : k = 1 ∨ k = 2 ∨ k = 3) (c a b u : Nat) : AskV (fOf k) [.int .u64 u, .agg [.int .i64 k, .int .i64 c, .int .u64 a, .int .u64 b]] (.tuple [.int .u64 (now k a b u).1, .bool (now k a b u).2]) := by
  rcases hk with rfl | rfl | rfl
  · exact askV_of (fun g => ld g _ _ _ _) rfl (by simp) rfl rfl (by decide)
  · exact askV_of (fun g => stt g _ _ _ _) rfl (by simp) rfl rfl (by decide)
  · by_cases he : u = a
    · refine askV_of (fun g => cs0 g _ _ _ _) (by simp [now, he]) (by simp [he]) rfl rfl (by decide)
    · have : ((u : Int) != (a : Int)) = true := by rw [bne_iff_ne]; omega
      exact askV_of (fun g => cs1 g _ _ _ _) (by simp [now, he]) (by simp [this]) rfl rfl (by decide)
abbrev Ux (L : List Nat) : List AV := L.map fun (x : Nat) => AV.int .u64 (x : Int)
theorem load_agg {M : AMem} {b n sz : Nat} {cs : List AV} {wr : Bool} {g : Option Nat} (h : M.get b = some (.cells cs sz wr g)) (hn : cs.length = n) : opI (.load true n) [.ptr (some (b, 0))] M = some (.val (.agg cs) M) := by
  simp only [opI, AMem.loadCells, h, if_true]
  rw [if_pos (by omega)]
  simp [← hn]
/-- cells, in a memory -/
structure CM (M : AMem) (bm bc : Nat) (L : List Nat) : Prop where
  mem : M.get bm = some (.cells [.slice (some (bc, 0)) L.length L.length false] 0 true none)
  cel : M.get bc = some (.cells (Ux L) 1 true none)
theorem CM.ne {M : AMem} {bm bc : Nat} {L : List Nat} (h : CM M bm bc L) : bm ≠ bc := fun e => by
  subst e
  have := h.mem.symm.trans h.cel
  simp at this
theorem CM.ev {M M' : AMem} {bm bc : Nat} {L : List Nat} (h : CM M bm bc L) (hok : Ok M) (e : EvA M M' (fun _ => False)) : CM M' bm bc L :=
  ⟨(e.same _ (get_lt hok h.mem) (fun h => h)).trans h.mem, (e.same _ (get_lt hok h.cel) (fun h => h)).trans h.cel⟩
theorem CM.keep {M M' : AMem} {bm bc : Nat} {L : List Nat} {X : Nat → Prop} (h : CM M bm bc L) (e : Ev M M' X) (h1 : ¬ X bm) (h2 : ¬ X bc) : CM M' bm bc L :=
  ⟨e.same _ _ h.mem rfl h1, e.same _ _ h.cel rfl h2⟩
theorem op_np {a : Nat × Nat} {M : AMem} : opI (.eqPtr false) [.ptr (some a), .ptr none] M = some (.val (.bool false) M) := rfl
theorem op_pp {M : AMem} : opI (.eqPtr false) [.ptr none, .ptr none] M = some (.val (.bool true) M) := rfl
theorem op_nf {f : Fn} {a b : List AV} {M : AMem} : opI (.eqNil 2 false) [.func f a b, .nilFunc] M = some (.val (.bool false) M) := rfl
theorem op_idx {b n c sz : Nat} {g : Bool} {k : IntKind} {i : Nat} {M : AMem} (h : i < n) : opI (.indexAddrS sz) [.slice (some (b, 0)) n c g, .int k i] M = some (.val (.ptr (some (b, i * sz))) M) := by
  simp only [opI]
  rw [if_pos (by omega)]
  simp
theorem fin_tmp3 {t : Tr AV} {M : AMem} {i j k : Nat} {v u w : AV} (h : t.get i = some v) (h2 : t.get j = some u) (h3 : t.get k = some w) : resIs t M [.tmp i, .tmp j, .tmp k] = some [v, u, w] := by simp [resIs, resI, h, h2, h3]
set_option maxRecDepth 20000 in
set_option maxHeartbeats 8000000 in
theorem do_ok (d : Nat) {M : AMem} (hok : Okg M) (hh : NH M) {bm bc : Nat} {L : List Nat} (hc : CM M bm bc L) {k c : Nat} (a b : Nat) (hk : k = 1 ∨ k = 2 ∨ k = 3) (hcl : c < L.length) :
    Ans (callF tblS code 100000 (d + 2)) 18 [.ptr (some (bm, 0)), .agg [.int .i64 k, .int .i64 c, .int .u64 a, .int .u64 b]] M fun r M' => r = .tuple [.int .u64 (L.getD c 0 : Nat), .bool (now k a b (L.getD c 0)).2, .int .i64 0] ∧ EvA M M' (· = bc) ∧ CM M' bm bc (L.set c (now k a b (L.getD c 0)).1) := by
  refine Ans_of (tblS_none ⟨by decide, by decide⟩ _) (show code 18 = some c18 from by kernel_rfl) (by simp) fun t hd ha => ?_
  have h0 := ha 0 _ rfl
  have h1 := ha 1 _ rfl
  clear ha
  refine W_seq (W_seqR (by simp only [runSeq_cons, runSeq_nil, evalArgs_nil, evalArgs_tmp, evalArgs_const, val1, putT, opI_move, opI_box, cells_agg, h1]; rfl) ?_)
  have s0 : Step M (M.push (.cells [.int .i64 k, .int .i64 c, .int .u64 a, .int .u64 b] 0 true none)) := (Step.refl hok).push (fun _ _ _ _ he => by cases he)
  have e0 := EvA.of_step s0 hh (fun _ => False)
  have g0 := get_push_self (k := .cells [.int .i64 k, .int .i64 c, .int .u64 a, .int .u64 b] 0 true none) hok.1
  have n0 : (M.push (.cells [.int .i64 k, .int .i64 c, .int .u64 a, .int .u64 b] 0 true none)).n = M.n + 1 := push_n
  generalize hA : M.push (.cells [.int .i64 k, .int .i64 c, .int .u64 a, .int .u64 b] 0 true none) = A at *
  have hc0 := hc.ev hok.1 e0
  refine W_seq (W_seq (W_seqR (by simp only [runSeq_cons, runSeq_nil, evalArgs_nil, evalArgs_tmp, evalArgs_const, val1, putT, Tr.get_set_self, Tr.get_set_ne, hd _, ne_eq, Nat.reduceEqDiff, not_false_eq_true, decide_true, Nat.reduceLT, opI_move, h0, op_np]; rfl) ?_))
  refine W_cond (b := false) (by simp only [PArg.eval, Tr.get_set_self, Tr.get_set_ne, hd _, ne_eq, Nat.reduceEqDiff, not_false_eq_true, decide_true, Nat.reduceLT]; try rfl) (fun hb => by cases hb) (fun _ => W_skip ?_)
  show W _ _
  obtain ⟨M1, c1, e1⟩ := of_ok hk A e0.ok e0.nh d
  have hc1 := hc0.ev e0.ok.1 e1
  have g1 : M1.get M.n = _ := (e1.same M.n (by omega) (fun h => h)).trans g0
  have lk : opI (.load false 1) [.ptr (some (M.n, 0))] A = some (.val (.int .i64 k) A) := load_own g0 rfl
  refine W_seq (W_seqR (by simp only [runSeq_cons, runSeq_nil, evalArgs_nil, evalArgs_tmp, val1, putT, Tr.get_set_self, Tr.get_set_ne, hd _, ne_eq, Nat.reduceEqDiff, not_false_eq_true, decide_true, Nat.reduceLT, opI_move, opI_callF, opI_fieldP, Nat.add_zero, lk, c1]; rfl) ?_)
  have lc : opI (.load false 1) [.ptr (some (M.n, 1))] M1 = some (.val (.int .i64 c) M1) := load_own g1 rfl
  have lm : opI (.load false 1) [.ptr (some (bm, 0))] M1 = some (.val (.slice (some (bc, 0)) L.length L.length false) M1) := load_own hc1.mem rfl
  have q1 : decide ((c : Int) < 0) = false := decide_eq_false (by omega)
  have q2 : decide ((c : Int) ≥ (L.length : Int)) = false := decide_eq_false (by omega)
  refine W_seq (W_block (W_seq (W_seqR (by simp only [runSeq_cons, runSeq_nil, evalArgs_nil, evalArgs_tmp, evalArgs_const, val1, putT, Tr.get_set_self, Tr.get_set_ne, hd _, ne_eq, Nat.reduceEqDiff, not_false_eq_true, decide_true, Nat.reduceLT, opI_move, op_nf]; rfl) ?_)))
  refine W_cond (b := false) (by simp only [PArg.eval, Tr.get_set_self, Tr.get_set_ne, hd _, ne_eq, Nat.reduceEqDiff, not_false_eq_true, decide_true, Nat.reduceLT]; try rfl) (fun hb => by cases hb) (fun _ => ?_)
  refine W_seq (W_quiet rfl (by simp only [runPure_cons, runPure_nil, ofD_cons, ofD_nil, sameN_self, evalArgs_nil, evalArgs_tmp, evalArgs_const, putT, Tr.get_set_self, Tr.get_set_ne, Tr.isSome_set, hd _, ne_eq, Nat.reduceEqDiff, not_false_eq_true, decide_true, Nat.reduceLT, opI_move, opI_lss, opI_geq, opI_lenO, opI_fieldP, opI_pick, Nat.zero_add, Nat.add_zero, runPure_guard (b := false), beq_self_eq_true, h0, opI_nilP, lc, lm, q1, q2]; rfl) ?_)
  refine W_cond (b := false) (by simp only [PArg.eval, Tr.get_set_self, Tr.get_set_ne, hd _, ne_eq, Nat.reduceEqDiff, not_false_eq_true, decide_true, Nat.reduceLT]; try rfl) (fun hb => by cases hb) (fun _ => W_skip ?_)
  show W _ _
  have hu : (Ux L)[c]? = some (.int .u64 (L.getD c 0 : Nat)) := by
    rw [List.getElem?_map, List.getElem?_eq_getElem hcl, List.getD_eq_getElem?_getD, List.getElem?_eq_getElem hcl]; rfl
  have lu : opI (.load false 1) [.ptr (some (bc, c))] M1 = some (.val (.int .u64 (L.getD c 0 : Nat)) M1) := load_own hc1.cel hu
  have ix : ∀ M : AMem, opI (.indexAddrS 1) [.slice (some (bc, 0)) L.length L.length false, .int .i64 c] M = some (.val (.ptr (some (bc, c))) M) := fun M => by rw [op_idx hcl, Nat.mul_one]
  refine W_seq (W_quiet rfl (by simp only [runPure_cons, runPure_nil, ofD_cons, ofD_nil, sameN_self, evalArgs_nil, evalArgs_tmp, putT, Tr.get_set_self, Tr.get_set_ne, hd _, ne_eq, Nat.reduceEqDiff, not_false_eq_true, decide_true, Nat.reduceLT, opI_move, opI_fieldP, Nat.zero_add, Nat.add_zero, h0, opI_nilP, lc, lm, ix, lu]; rfl) ?_)
  generalize L.getD c 0 = u at *
  obtain ⟨M2, c2, e2⟩ := deed_ok hk c a b u M1 e1.ok e1.nh d
  have hc2 := hc1.ev e1.ok.1 e2
  have l1 : M.n < M1.n := get_lt e1.ok.1 g1
  have g2 : M2.get M.n = _ := (e2.same M.n l1 (fun h => h)).trans g1
  have LA1 := load_agg (n := 4) g1 rfl
  refine W_seq (W_seqR (by simp only [runSeq_cons, runSeq_nil, evalArgs_nil, evalArgs_tmp, val1, putT, Tr.get_set_self, Tr.get_set_ne, hd _, ne_eq, Nat.reduceEqDiff, not_false_eq_true, decide_true, Nat.reduceLT, opI_move, opI_extract, opI_callV, opI_callV, List.nil_append, List.append_nil, LA1, c2, List.getElem?_cons_zero, List.getElem?_cons_succ]; rfl) ?_)
  have lc2 : opI (.load false 1) [.ptr (some (M.n, 1))] M2 = some (.val (.int .i64 c) M2) := load_own g2 rfl
  have lm2 : opI (.load false 1) [.ptr (some (bm, 0))] M2 = some (.val (.slice (some (bc, 0)) L.length L.length false) M2) := load_own hc2.mem rfl
  obtain ⟨w1, w2, w3, w4⟩ := store1 (step0 e2.ok e2.nh) (Nat.zero_le _) hc2.cel (x := .int .u64 ((now k a b u).1 : Int)) ⟨rfl, rfl⟩ (o := c) (by simpa using hcl)
  have hh2 := held_none e2.ok.1
  refine W_seq (W_mix rfl (by simp only [sameN_self, evalArgs_nil, evalArgs_tmp, val1, putT, Tr.get_set_self, Tr.get_set_ne, hd _, ne_eq, Nat.reduceEqDiff, not_false_eq_true, decide_true, Nat.reduceLT, opI_move, opI_fieldP, Nat.zero_add, Nat.add_zero, runMix_nil, runMix_read, runMix_eff, h0, opI_nilP, lc2, lm2, ix, w1, hh2]; rfl) ?_)
  refine W_seq (W_seqR (by simp only [runSeq_cons, runSeq_nil, evalArgs_nil, evalArgs_tmp, evalArgs_const, val1, putT, Tr.get_set_self, Tr.get_set_ne, hd _, ne_eq, Nat.reduceEqDiff, not_false_eq_true, decide_true, Nat.reduceLT, opI_move]; rfl) (W_ret ?_))
  refine ⟨_, fin_tmp3 (by simp only [Tr.get_set_self, Tr.get_set_ne, Tr.isSome_set, Option.isSome_some, hd _, ne_eq, Nat.reduceEqDiff, not_false_eq_true, decide_true, Nat.reduceLT]; try rfl) (by simp only [Tr.get_set_self, Tr.get_set_ne, Tr.isSome_set, Option.isSome_some, hd _, ne_eq, Nat.reduceEqDiff, not_false_eq_true, decide_true, Nat.reduceLT]; try rfl) (by simp only [Tr.get_set_self, Tr.get_set_ne, Tr.isSome_set, Option.isSome_some, hd _, ne_eq, Nat.reduceEqDiff, not_false_eq_true, decide_true, Nat.reduceLT]; try rfl), rfl, ?_, ?_⟩
  · have e3 : EvA M2 (M2.set bc (.cells ((Ux L).set c (.int .u64 ((now k a b u).1 : Int))) 1 true none)) (· = bc) := ⟨Nat.le_of_eq set_n.symm, set_g, fun x _ hx => w4 x hx, w2.ok, step_nh w2 rfl⟩
    exact (((e0.trans e1 (fun _ h => h) (fun _ _ h => h)).trans e2 (fun _ h => h) (fun _ _ h => h)).trans e3 (fun _ h => h.elim) (fun _ _ h => h))
  · refine ⟨?_, ?_⟩
    · rw [w4 _ hc2.ne, hc2.mem, List.length_set]
    · rw [w3, Ux, Ux, List.map_set]
end Go.Proofs.Ytldijnabgabehaa.so
