/- Spans as a bag sees them: what is read of one, and in a row. -/
import Derived.Test.YtpbejdlpkpehlaaT
import Derived.Test.YtpbejdlpkpehlaaVx27
import Derived.Test.YtpbejdlpkpehlaaVx34
import Derived.KernelRfl
namespace Go.Proofs.Ytpbejdlpkpehlaa.bag
open Go Go.Vx
structure Sn where
  from_ : Int
  to : Int
  kind : Int
  task : Int
  code : Int
  v : Int
def SnC (e : List AV) (s : Sn) : Prop := ∃ (w x : Int) (va la : AV), e = [.int .i64 w, .int .i64 x, .int .i64 s.from_, .int .i64 s.to, .int .i64 s.kind, .int .u64 s.task, va, .int .i64 s.code, .int .u64 s.v, la] ∧ va.one = true ∧ la.one = true
theorem SnC.one {e : List AV} {s : Sn} (h : SnC e s) : e.length = 10 ∧ e.all AV.one = true := by
  obtain ⟨w, x, va, la, rfl, h1, h2⟩ := h
  exact ⟨rfl, by simp [h1, h2, one_int]⟩
theorem SnC.uniq {e : List AV} {s s' : Sn} (h : SnC e s) (k : SnC e s') : s = s' := by
  obtain ⟨w, x, va, la, rfl, _, _⟩ := h
  obtain ⟨w', x', va', la', he, _, _⟩ := k
  simp only [List.cons.injEq, AV.int.injEq, true_and] at he
  cases s; cases s'
  simp_all
/-- spans in a row, to be read -/
def SnR (M : AMem) (lv : AV) (l : List Sn) : Prop := ∃ els, RowE M 10 lv els ∧ els.length = l.length ∧ ∀ (i : Nat) (s : Sn), l[i]? = some s → ∃ e, els[i]? = some e ∧ SnC e s
theorem SnR.grow {M M' : AMem} {lv : AV} {l : List Sn} (h : SnR M lv l) (hg : Grow M M') : SnR M' lv l := by
  obtain ⟨els, h1, h2, h3⟩ := h
  exact ⟨els, h1.grow hg, h2, h3⟩
theorem SnR.len {M : AMem} {lv : AV} {l : List Sn} (h : SnR M lv l) : opI .lenS [lv] M = some (.val (.int .i64 l.length) M) := by
  obtain ⟨els, h1, h2, _⟩ := h
  rw [← h2]; exact h1.len
theorem SnR.at_ {M : AMem} {lv : AV} {l : List Sn} (h : SnR M lv l) {i : Nat} (hi : i < l.length) : ∃ (p : AV) (e : List AV), SnC e l[i] ∧ IsP p ∧ opI (.indexAddrS 10) [lv, .int .i64 i] M = some (.val (padd p 0) M) ∧ opI (.load true 10) [padd p 0] M = some (.val (.agg e) M) ∧
    ∀ (o : Nat) (x : AV), e[o]? = some x → opI (.load false 1) [padd p o] M = some (.val x M) := by
  obtain ⟨els, h1, h2, h3⟩ := h
  obtain ⟨e, k1, k2⟩ := h3 i _ (List.getElem?_eq_getElem hi)
  have hil : i < els.length := by omega
  obtain ⟨p, pp, p1, p2, p3⟩ := h1.at_ hil (by omega)
  rw [(List.getElem?_eq_some_iff.1 k1).2] at p2 p3
  have := p2 0 10 (by omega)
  rw [List.drop_zero, List.take_of_length_le (by rw [k2.one.1]; exact Nat.le_refl _)] at this
  exact ⟨p, e, k2, pp, p1, this, p3⟩
theorem SnR.uniq {M : AMem} {lv : AV} {l l' : List Sn} (h : SnR M lv l) (k : SnR M lv l') : l = l' := by
  obtain ⟨els, h1, h2, h3⟩ := h
  obtain ⟨els', k1, k2, k3⟩ := k
  have c1 := h1.cells (by omega)
  have c2 := k1.cells (by omega)
  rw [c1] at c2
  simp only [Option.some.injEq, Prod.mk.injEq] at c2
  have hE := h1.1
  have hE' := k1.1
  apply List.ext_getElem?
  intro i
  by_cases hi : i < l.length
  · have hi' : i < l'.length := by omega
    obtain ⟨e, q1, q2⟩ := h3 i _ (List.getElem?_eq_getElem hi)
    obtain ⟨e', q3, q4⟩ := k3 i _ (List.getElem?_eq_getElem hi')
    have a1 := hE.part (i := i) (by omega)
    have a2 := hE'.part (i := i) (by omega)
    rw [c2.2] at a1
    rw [(List.getElem?_eq_some_iff.1 q1).2] at a1
    rw [(List.getElem?_eq_some_iff.1 q3).2] at a2
    have : e = e' := by rw [← a1, ← a2]
    subst this
    rw [List.getElem?_eq_getElem hi, List.getElem?_eq_getElem hi', q2.uniq q4]
  · rw [List.getElem?_eq_none (by omega), List.getElem?_eq_none (by omega)]
def addB (s : Sn) : Bool := decide (s.kind = 1 ∧ (s.to < 0 ∨ s.code = 0))
def takB (s : Sn) : Bool := decide (s.kind = 2 ∧ s.to ≥ 0 ∧ s.code = 0)
def aheadB (a b : Sn) : Bool := decide (a.to ≥ 0 ∧ a.to < b.from_)
abbrev Tbl := FuncId → List AV → AMem → Option (AV × AMem)
/-- a struct that a function keeps for itself -/
theorem boxed {M0 M : AMem} (h : Step M0 M) (cs : List AV) : Step M0 (M.push (.cells cs 0 true none)) ∧ (M.push (.cells cs 0 true none)).get M.n = some (.cells cs 0 true none) :=
  ⟨h.push (fun _ _ _ _ he => by cases he), get_push_self h.ok.1⟩
set_option maxRecDepth 20000 in
set_option maxHeartbeats 4000000 in
theorem adding_ok {T : Tbl} (hT : ∀ a M, T 27 a M = none) {e : List AV} {s : Sn} (he : SnC e s) (d : Nat) (M : AMem) (hok : Okg M) :
    Ans (callF T code 100000 (d + 1)) 27 [.agg e] M fun r M' => Step M M' ∧ r = .bool (addB s) := by
  refine Ans_of (hT _) (show code 27 = some c27 from by kernel_rfl) (by simp) fun t hd ha => ?_
  have h0 := ha 0 _ rfl
  clear ha
  obtain ⟨s1, g1⟩ := boxed (Step.refl hok) e
  refine W_seq (W_seqR (by simp only [runSeq_cons, runSeq_nil, evalArgs_nil, evalArgs_tmp, evalArgs_const, val1, putT, opI_move, opI_box, cells_agg, h0]; rfl) ?_)
  generalize M.push (.cells e 0 true none) = K at *
  obtain ⟨w_, x_, va_, la_, rfl, _, _⟩ := he
  have f3 : opI (.load false 1) [.ptr (some (M.n, 3))] K = some (.val (.int .i64 s.to) K) := load_own g1 rfl
  have f4 : opI (.load false 1) [.ptr (some (M.n, 4))] K = some (.val (.int .i64 s.kind) K) := load_own g1 rfl
  have f7 : opI (.load false 1) [.ptr (some (M.n, 7))] K = some (.val (.int .i64 s.code) K) := load_own g1 rfl
  have hb : addB s = (s.kind == 1 && (decide (s.to < 0) || s.code == 0)) := by
    unfold addB
    rw [Bool.decide_and, Bool.decide_or]; rfl
  rw [hb]
  cases q1 : s.kind == 1 with
  | false =>
    refine W_seq (W_seqR (by simp only [runSeq_cons, runSeq_nil, evalArgs_nil, evalArgs_tmp, evalArgs_const, val1, putT, Tr.get_set_self, Tr.get_set_ne, Tr.isSome_set, hd _, ne_eq, Nat.reduceEqDiff, not_false_eq_true, decide_true, Nat.reduceLT, opI_move, opI_eql, opI_fieldP, opI_pick, Nat.zero_add, Nat.add_zero, runSeq_guard (b := false), Bool.false_beq, Bool.not_true, runSeq_skip, f4, q1]; rfl) (W_ret ?_))
    exact ⟨_, fin_tmp (by simp only [Tr.get_set_self, Tr.get_set_ne, Tr.isSome_set, Option.isSome_some, hd _, ne_eq, Nat.reduceEqDiff, not_false_eq_true, decide_true, Nat.reduceLT]; try rfl), s1, rfl⟩
  | true =>
    cases q2 : decide (s.to < 0) with
    | true =>
      refine W_seq (W_seqR (by simp only [runSeq_cons, runSeq_nil, evalArgs_nil, evalArgs_tmp, evalArgs_const, val1, putT, Tr.get_set_self, Tr.get_set_ne, Tr.isSome_set, hd _, ne_eq, Nat.reduceEqDiff, not_false_eq_true, decide_true, Nat.reduceLT, opI_move, opI_lss, opI_eql, opI_fieldP, opI_pick, Nat.zero_add, Nat.add_zero, runSeq_guard (b := true), beq_self_eq_true, Bool.true_beq, f3, f4, q1, q2]; rfl) (W_ret ?_))
      exact ⟨_, fin_tmp (by simp only [Tr.get_set_self, Tr.get_set_ne, Tr.isSome_set, Option.isSome_some, hd _, ne_eq, Nat.reduceEqDiff, not_false_eq_true, decide_true, Nat.reduceLT]; try rfl), s1, rfl⟩
    | false =>
      refine W_seq (W_seqR (by simp only [runSeq_cons, runSeq_nil, evalArgs_nil, evalArgs_tmp, evalArgs_const, val1, putT, Tr.get_set_self, Tr.get_set_ne, Tr.isSome_set, hd _, ne_eq, Nat.reduceEqDiff, not_false_eq_true, decide_true, Nat.reduceLT, opI_move, opI_lss, opI_eql, opI_fieldP, opI_pick, Nat.zero_add, Nat.add_zero, runSeq_guard (b := true), runSeq_guard (b := false), beq_self_eq_true, f3, f4, f7, q1, q2]; rfl) (W_ret ?_))
      exact ⟨_, fin_tmp (by simp only [Tr.get_set_self, Tr.get_set_ne, Tr.isSome_set, Option.isSome_some, hd _, ne_eq, Nat.reduceEqDiff, not_false_eq_true, decide_true, Nat.reduceLT]; try rfl), s1, rfl⟩
set_option maxRecDepth 20000 in
set_option maxHeartbeats 4000000 in
theorem taking_ok {T : Tbl} (hT : ∀ a M, T 21 a M = none) {e : List AV} {s : Sn} (he : SnC e s) (d : Nat) (M : AMem) (hok : Okg M) :
    Ans (callF T code 100000 (d + 1)) 21 [.agg e] M fun r M' => Step M M' ∧ r = .bool (takB s) := by
  refine Ans_of (hT _) (show code 21 = some c21 from by kernel_rfl) (by simp) fun t hd ha => ?_
  have h0 := ha 0 _ rfl
  clear ha
  obtain ⟨s1, g1⟩ := boxed (Step.refl hok) e
  refine W_seq (W_seqR (by simp only [runSeq_cons, runSeq_nil, evalArgs_nil, evalArgs_tmp, evalArgs_const, val1, putT, opI_move, opI_box, cells_agg, h0]; rfl) ?_)
  generalize M.push (.cells e 0 true none) = K at *
  obtain ⟨w_, x_, va_, la_, rfl, _, _⟩ := he
  have f3 : opI (.load false 1) [.ptr (some (M.n, 3))] K = some (.val (.int .i64 s.to) K) := load_own g1 rfl
  have f4 : opI (.load false 1) [.ptr (some (M.n, 4))] K = some (.val (.int .i64 s.kind) K) := load_own g1 rfl
  have f7 : opI (.load false 1) [.ptr (some (M.n, 7))] K = some (.val (.int .i64 s.code) K) := load_own g1 rfl
  have hb : takB s = (s.kind == 2 && (decide (s.to ≥ 0) && s.code == 0)) := by
    unfold takB
    rw [Bool.decide_and, Bool.decide_and]; rfl
  rw [hb]
  cases q1 : s.kind == 2 with
  | false =>
    refine W_seq (W_seqR (by simp only [runSeq_cons, runSeq_nil, evalArgs_nil, evalArgs_tmp, evalArgs_const, val1, putT, Tr.get_set_self, Tr.get_set_ne, Tr.isSome_set, hd _, ne_eq, Nat.reduceEqDiff, not_false_eq_true, decide_true, Nat.reduceLT, opI_move, opI_eql, opI_fieldP, opI_pick, Nat.zero_add, Nat.add_zero, runSeq_guard (b := false), Bool.false_beq, Bool.not_true, f4, q1]; rfl) (W_ret ?_))
    exact ⟨_, fin_tmp (by simp only [Tr.get_set_self, Tr.get_set_ne, Tr.isSome_set, Option.isSome_some, hd _, ne_eq, Nat.reduceEqDiff, not_false_eq_true, decide_true, Nat.reduceLT]; try rfl), s1, rfl⟩
  | true =>
    cases q2 : decide (s.to ≥ 0) with
    | true =>
      refine W_seq (W_seqR (by simp only [runSeq_cons, runSeq_nil, evalArgs_nil, evalArgs_tmp, evalArgs_const, val1, putT, Tr.get_set_self, Tr.get_set_ne, Tr.isSome_set, hd _, ne_eq, Nat.reduceEqDiff, not_false_eq_true, decide_true, Nat.reduceLT, opI_move, opI_geq, opI_eql, opI_fieldP, opI_pick, Nat.zero_add, Nat.add_zero, runSeq_guard (b := true), beq_self_eq_true, f3, f4, f7, q1, q2]; rfl) (W_ret ?_))
      exact ⟨_, fin_tmp (by simp only [Tr.get_set_self, Tr.get_set_ne, Tr.isSome_set, Option.isSome_some, hd _, ne_eq, Nat.reduceEqDiff, not_false_eq_true, decide_true, Nat.reduceLT]; try rfl), s1, rfl⟩
    | false =>
      refine W_seq (W_seqR (by simp only [runSeq_cons, runSeq_nil, evalArgs_nil, evalArgs_tmp, evalArgs_const, val1, putT, Tr.get_set_self, Tr.get_set_ne, Tr.isSome_set, hd _, ne_eq, Nat.reduceEqDiff, not_false_eq_true, decide_true, Nat.reduceLT, opI_move, opI_geq, opI_eql, opI_fieldP, opI_pick, Nat.zero_add, Nat.add_zero, runSeq_guard (b := true), runSeq_guard (b := false), beq_self_eq_true, Bool.false_beq, Bool.not_true, f3, f4, q1, q2]; rfl) (W_ret ?_))
      exact ⟨_, fin_tmp (by simp only [Tr.get_set_self, Tr.get_set_ne, Tr.isSome_set, Option.isSome_some, hd _, ne_eq, Nat.reduceEqDiff, not_false_eq_true, decide_true, Nat.reduceLT]; try rfl), s1, rfl⟩
set_option maxRecDepth 20000 in
set_option maxHeartbeats 4000000 in
theorem ahead_ok {T : Tbl} (hT : ∀ a M, T 28 a M = none) {e f : List AV} {s r : Sn} (he : SnC e s) (hf : SnC f r) (d : Nat) (M : AMem) (hok : Okg M) :
    Ans (callF T code 100000 (d + 1)) 28 [.agg e, .agg f] M fun x M' => Step M M' ∧ x = .bool (aheadB s r) := by
  refine Ans_of (hT _) (show code 28 = some c28 from by kernel_rfl) (by simp) fun t hd ha => ?_
  have h0 := ha 0 _ rfl
  have h1 := ha 1 _ rfl
  clear ha
  obtain ⟨s1, g1⟩ := boxed (Step.refl hok) e
  obtain ⟨s2, g2⟩ := boxed s1 f
  have g1' := (get_push_old (k := .cells f 0 true none) s1.ok.1 (show M.n < (M.push (.cells e 0 true none)).n by rw [push_n]; omega)).trans g1
  refine W_seq (W_seqR (by simp only [runSeq_cons, runSeq_nil, evalArgs_nil, evalArgs_tmp, evalArgs_const, val1, putT, Tr.get_set_ne, ne_eq, Nat.reduceEqDiff, not_false_eq_true, opI_move, opI_box, cells_agg, push_n, h0, h1]; rfl) ?_)
  generalize (M.push (.cells e 0 true none)).push (.cells f 0 true none) = K at *
  rw [push_n] at g2
  obtain ⟨w_, x_, va_, la_, rfl, _, _⟩ := he
  obtain ⟨w2, x2, va2, la2, rfl, _, _⟩ := hf
  have f3 : opI (.load false 1) [.ptr (some (M.n, 3))] K = some (.val (.int .i64 s.to) K) := load_own g1' rfl
  have f2 : opI (.load false 1) [.ptr (some (M.n + 1, 2))] K = some (.val (.int .i64 r.from_) K) := load_own g2 rfl
  have hb : aheadB s r = (decide (s.to ≥ 0) && decide (s.to < r.from_)) := by
    unfold aheadB
    rw [Bool.decide_and]
  rw [hb]
  cases q1 : decide (s.to ≥ 0) with
  | false =>
    refine W_seq (W_seqR (by simp only [runSeq_cons, runSeq_nil, evalArgs_nil, evalArgs_tmp, evalArgs_const, val1, putT, Tr.get_set_self, Tr.get_set_ne, Tr.isSome_set, hd _, ne_eq, Nat.reduceEqDiff, not_false_eq_true, decide_true, Nat.reduceLT, opI_move, opI_geq, opI_fieldP, opI_pick, Nat.zero_add, runSeq_guard (b := false), Bool.false_beq, Bool.not_true, f3, q1]; rfl) (W_ret ?_))
    exact ⟨_, fin_tmp (by simp only [Tr.get_set_self, Tr.get_set_ne, Tr.isSome_set, Option.isSome_some, hd _, ne_eq, Nat.reduceEqDiff, not_false_eq_true, decide_true, Nat.reduceLT]; try rfl), s2, rfl⟩
  | true =>
    refine W_seq (W_seqR (by simp only [runSeq_cons, runSeq_nil, evalArgs_nil, evalArgs_tmp, evalArgs_const, val1, putT, Tr.get_set_self, Tr.get_set_ne, Tr.isSome_set, hd _, ne_eq, Nat.reduceEqDiff, not_false_eq_true, decide_true, Nat.reduceLT, opI_move, opI_lss, opI_geq, opI_fieldP, opI_pick, Nat.zero_add, runSeq_guard (b := true), beq_self_eq_true, f3, f2, q1]; rfl) (W_ret ?_))
    exact ⟨_, fin_tmp (by simp only [Tr.get_set_self, Tr.get_set_ne, Tr.isSome_set, Option.isSome_some, hd _, ne_eq, Nat.reduceEqDiff, not_false_eq_true, decide_true, Nat.reduceLT]; try rfl), s2, rfl⟩
end Go.Proofs.Ytpbejdlpkpehlaa.bag
