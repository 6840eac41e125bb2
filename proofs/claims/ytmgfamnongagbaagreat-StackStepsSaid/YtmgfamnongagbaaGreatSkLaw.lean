/- The law StackSteps, walked. -/
import Derived.Test.YtmgfamnongagbaaGreatSkLike
namespace Go.Proofs.YtmgfamnongagbaaGreat.stk
open Go Go.Vx
abbrev ArgP (at_ n : Int) : AV := .agg [.int .i64 at_, .int .i64 n]
theorem askNew_of {f : FuncId} {xs : List AV} {S S0 : List ABlk} {way : List (Nat × Bool)} {σ : List Nat} {owe : List (Bool × Bool)} {k : Nat} (h : ∀ g, stepO runW 400 way f xs [] g (fun r => [r]) = some (.ptr (some (k, 0)), σ, S0, [P0], owe)) (hs : S0 = S) (ho : ∀ p ∈ owe, p.1 = p.2) : AskNew f xs S := fun g => ⟨way, σ, owe, k, by rw [h g, hs], ho⟩
theorem starts (at_ n v : Int) : (∃ S D, AskNew 9 [ArgP at_ n, .int .u64 v] S ∧ AskNew 10 [.int .i64 at_, .int .i64 n, .int .u64 v] D ∧ Sim S D) ∧
    ∃ S D, AskNew 12 [ArgP at_ n] S ∧ AskNew 13 [.int .i64 at_, .int .i64 n] D ∧ Sim S D := by
  by_cases h1 : 1 ≤ n
  · by_cases h2 : n ≤ 4096
    · by_cases h3 : 0 ≤ at_
      · by_cases h4 : at_ < 65536 - 3 * n - 1
        · have hR : Rt at_ n := ⟨h1, h2, h3, h4⟩
          have e : wrapF .i64 (at_ + 1) = at_ + 1 := wi (by omega) (by omega)
          refine ⟨⟨_, _, askNew_of (fun g => W_push0 g at_ n v) (by rw [e]) ?_, askNew_of (fun g => D_push0 g at_ n v) (by rw [e]) ?_, .t1 at_ n v hR⟩, _, _, askNew_of (fun g => W_pop0 g at_ n) rfl ?_, askNew_of (fun g => D_pop0 g at_ n) rfl ?_, .q1 at_ n hR⟩
          · simp (disch := omega) only [List.forall_mem_cons, List.not_mem_nil, false_implies, implies_true, and_true, wi, Bool.not_eq_false', ge_iff_le, decide_eq_true_eq]; omega
          · simp (disch := omega) only [List.forall_mem_cons, List.not_mem_nil, false_implies, implies_true, and_true, wi, Bool.not_eq_false', ge_iff_le, decide_eq_true_eq]; omega
          · simp (disch := omega) only [List.forall_mem_cons, List.not_mem_nil, false_implies, implies_true, and_true, wi, Bool.not_eq_false', ge_iff_le, decide_eq_true_eq]; omega
          · simp (disch := omega) only [List.forall_mem_cons, List.not_mem_nil, false_implies, implies_true, and_true, wi, Bool.not_eq_false', ge_iff_le, decide_eq_true_eq]; omega
        · refine ⟨⟨_, _, askNew_of (fun g => W_push4 g at_ n v) rfl ?_, askNew_of (fun g => D_push4 g at_ n v) rfl ?_, .bad1 at_ n v⟩, _, _, askNew_of (fun g => W_pop4 g at_ n) rfl ?_, askNew_of (fun g => D_pop4 g at_ n) rfl ?_, .bad2 at_ n⟩
          · simp (disch := omega) only [List.forall_mem_cons, List.not_mem_nil, false_implies, implies_true, and_true, true_and, wi, Bool.not_eq_true', ge_iff_le, decide_eq_true_eq, decide_eq_false_iff_not]; omega
          · simp (disch := omega) only [List.forall_mem_cons, List.not_mem_nil, false_implies, implies_true, and_true, wi, Bool.not_eq_true', ge_iff_le, decide_eq_true_eq, decide_eq_false_iff_not]; omega
          · simp (disch := omega) only [List.forall_mem_cons, List.not_mem_nil, false_implies, implies_true, and_true, true_and, wi, Bool.not_eq_true', ge_iff_le, decide_eq_true_eq, decide_eq_false_iff_not]; omega
          · simp (disch := omega) only [List.forall_mem_cons, List.not_mem_nil, false_implies, implies_true, and_true, wi, Bool.not_eq_true', ge_iff_le, decide_eq_true_eq, decide_eq_false_iff_not]; omega
      · refine ⟨⟨_, _, askNew_of (fun g => W_push3 g at_ n v) rfl ?_, askNew_of (fun g => D_push3 g at_ n v) rfl ?_, .bad1 at_ n v⟩, _, _, askNew_of (fun g => W_pop3 g at_ n) rfl ?_, askNew_of (fun g => D_pop3 g at_ n) rfl ?_, .bad2 at_ n⟩
        · simp (disch := omega) only [List.forall_mem_cons, List.not_mem_nil, false_implies, implies_true, and_true, true_and, ge_iff_le, decide_eq_true_eq, decide_eq_false_iff_not]; omega
        · simp (disch := omega) only [List.forall_mem_cons, List.not_mem_nil, false_implies, implies_true, and_true, ge_iff_le, decide_eq_true_eq, decide_eq_false_iff_not]; omega
        · simp (disch := omega) only [List.forall_mem_cons, List.not_mem_nil, false_implies, implies_true, and_true, true_and, ge_iff_le, decide_eq_true_eq, decide_eq_false_iff_not]; omega
        · simp (disch := omega) only [List.forall_mem_cons, List.not_mem_nil, false_implies, implies_true, and_true, ge_iff_le, decide_eq_true_eq, decide_eq_false_iff_not]; omega
    · refine ⟨⟨_, _, askNew_of (fun g => W_push2 g at_ n v) rfl ?_, askNew_of (fun g => D_push2 g at_ n v) rfl ?_, .bad1 at_ n v⟩, _, _, askNew_of (fun g => W_pop2 g at_ n) rfl ?_, askNew_of (fun g => D_pop2 g at_ n) rfl ?_, .bad2 at_ n⟩
      · simp (disch := omega) only [List.forall_mem_cons, List.not_mem_nil, false_implies, implies_true, and_true, true_and, ge_iff_le, decide_eq_true_eq, decide_eq_false_iff_not]; omega
      · simp (disch := omega) only [List.forall_mem_cons, List.not_mem_nil, false_implies, implies_true, and_true, ge_iff_le, decide_eq_true_eq, decide_eq_false_iff_not]; omega
      · simp (disch := omega) only [List.forall_mem_cons, List.not_mem_nil, false_implies, implies_true, and_true, true_and, ge_iff_le, decide_eq_true_eq, decide_eq_false_iff_not]; omega
      · simp (disch := omega) only [List.forall_mem_cons, List.not_mem_nil, false_implies, implies_true, and_true, ge_iff_le, decide_eq_true_eq, decide_eq_false_iff_not]; omega
  · refine ⟨⟨_, _, askNew_of (fun g => W_push1 g at_ n v) rfl ?_, askNew_of (fun g => D_push1 g at_ n v) rfl ?_, .bad1 at_ n v⟩, _, _, askNew_of (fun g => W_pop1 g at_ n) rfl ?_, askNew_of (fun g => D_pop1 g at_ n) rfl ?_, .bad2 at_ n⟩
    · simp (disch := omega) only [List.forall_mem_cons, List.not_mem_nil, false_implies, implies_true, and_true, true_and, ge_iff_le, decide_eq_false_iff_not]; omega
    · simp (disch := omega) only [List.forall_mem_cons, List.not_mem_nil, false_implies, implies_true, and_true, ge_iff_le, decide_eq_false_iff_not]; omega
    · simp (disch := omega) only [List.forall_mem_cons, List.not_mem_nil, false_implies, implies_true, and_true, true_and, ge_iff_le, decide_eq_false_iff_not]; omega
    · simp (disch := omega) only [List.forall_mem_cons, List.not_mem_nil, false_implies, implies_true, and_true, ge_iff_le, decide_eq_false_iff_not]; omega
/-- a call that answers a value, out of numbers -/
def AskV (f : FuncId) (xs : List AV) (r : AV) : Prop := ∀ (M : AMem), Okg M → NH M → ∀ d, ∃ M', callF tblS code 100000 (d + 1) f xs M = some (r, M') ∧ EvA M M' (fun _ => False)
theorem askV_of {f : FuncId} {xs : List AV} {r r0 : AV} {way : List (Nat × Bool)} {σ : List Nat} {S : List ABlk} {a2 : List AV} {owe : List (Bool × Bool)} (h : ∀ g, stepO runW 400 way f xs [] g (fun r => [r]) = some (r0, σ, S, a2, owe)) (hr : r0 = r) (ho : ∀ p ∈ owe, p.1 = p.2) (hx : AV.refsL xs = []) (hrr : r.refs = []) (hs : served f = true) : AskV f xs r := fun M hok hh d => by
  subst hr
  obtain ⟨M', h1, h2⟩ := call_flat hok (view_nil hx) ⟨way, σ, S, a2, owe, h M.g, ho⟩ hrr hs d
  exact ⟨M', h1, h2.n, h2.g, fun b hb _ => h2.same b hb (by simp), h2.ok hok, fun b => h2.nh b (hh b)⟩
theorem right_ok (at_ n : Int) : ∃ r : Bool, AskV 6 [ArgP at_ n] (.bool r) ∧ AskV 7 [.int .i64 at_, .int .i64 n] (.bool r) := by
  by_cases h1 : 1 ≤ n
  · by_cases h2 : n ≤ 4096
    · by_cases h3 : 0 ≤ at_
      · refine ⟨decide (at_ < wrapF .i64 (wrapF .i64 (65536 - wrapF .i64 (3 * n)) - 1)), askV_of (fun g => R_right0 g at_ n) rfl ?_ rfl rfl (by decide), askV_of (fun g => R_dright0 g at_ n) rfl ?_ rfl rfl (by decide)⟩
        · simp (disch := omega) only [List.forall_mem_cons, List.not_mem_nil, false_implies, implies_true, and_true, ge_iff_le, decide_eq_true_eq]; omega
        · simp (disch := omega) only [List.forall_mem_cons, List.not_mem_nil, false_implies, implies_true, and_true, ge_iff_le, decide_eq_true_eq]; omega
      · refine ⟨false, askV_of (fun g => R_right3 g at_ n) rfl ?_ rfl rfl (by decide), askV_of (fun g => R_dright3 g at_ n) rfl ?_ rfl rfl (by decide)⟩
        · simp (disch := omega) only [List.forall_mem_cons, List.not_mem_nil, false_implies, implies_true, and_true, ge_iff_le, decide_eq_true_eq, decide_eq_false_iff_not]; omega
        · simp (disch := omega) only [List.forall_mem_cons, List.not_mem_nil, false_implies, implies_true, and_true, ge_iff_le, decide_eq_true_eq, decide_eq_false_iff_not]; omega
    · refine ⟨false, askV_of (fun g => R_right2 g at_ n) rfl ?_ rfl rfl (by decide), askV_of (fun g => R_dright2 g at_ n) rfl ?_ rfl rfl (by decide)⟩
      · simp (disch := omega) only [List.forall_mem_cons, List.not_mem_nil, false_implies, implies_true, and_true, ge_iff_le, decide_eq_true_eq, decide_eq_false_iff_not]; omega
      · simp (disch := omega) only [List.forall_mem_cons, List.not_mem_nil, false_implies, implies_true, and_true, ge_iff_le, decide_eq_true_eq, decide_eq_false_iff_not]; omega
  · refine ⟨false, askV_of (fun g => R_right1 g at_ n) rfl ?_ rfl rfl (by decide), askV_of (fun g => R_dright1 g at_ n) rfl ?_ rfl rfl (by decide)⟩
    · simp (disch := omega) only [List.forall_mem_cons, List.not_mem_nil, false_implies, implies_true, and_true, ge_iff_le, decide_eq_false_iff_not]; omega
    · simp (disch := omega) only [List.forall_mem_cons, List.not_mem_nil, false_implies, implies_true, and_true, ge_iff_le, decide_eq_false_iff_not]; omega
theorem arena_ok (at_ n : Int) : AskV 5 [ArgP at_ n] (ArgP (wrapF .i64 (at_ + 1)) n) := askV_of (fun g => R_arena0 g at_ n) rfl (by simp) rfl rfl (by decide)
/-- a walk and the document's machine, both begun, told the same: they are alike -/
theorem both_ok (d : Nat) {M : AMem} (hok : Okg M) (hh : NH M) {f1 f2 : FuncId} {xs ys : List AV} {S D : List ABlk} (h1 : AskNew f1 xs S) (h2 : AskNew f2 ys D) (hsim : Sim S D) (hx : AV.refsL xs = []) (hy : AV.refsL ys = []) (s1 : served f1 = true) (s2 : served f2 = true)
    {told : List (Int × Bool)} (hu : ∀ p ∈ told, U64 p.1) {tv : AV} (ht : Told M.g tv told) (hlen : told.length ≤ 100) :
    ∃ bw bf sv M1 M2 M3 M4, callF tblS code 100000 (d + 2) f1 xs M = some (.ptr (some (bw, 0)), M1) ∧ callF tblS code 100000 (d + 2) f2 ys M1 = some (.ptr (some (bf, 0)), M2) ∧ callF tblS code 100000 (d + 2) 11 [.ptr (some (bf, 0)), tv] M2 = some (sv, M3) ∧ callF tblS code 100000 (d + 2) 8 [.ptr (some (bw, 0)), sv, tv] M3 = some (.bool true, M4) ∧
      Ev M M1 (fun _ => False) ∧ Ev M M2 (fun _ => False) ∧ Ev M M3 (fun _ => False) ∧ Ev M M4 (fun _ => False) := by
  obtain ⟨M1, bw, ρw, c1, a1, q1, r1⟩ := call_new h1 hok hx s1 (d + 1)
  have e1 := EvA.of_after a1 hok hh
  obtain ⟨M2, bf, ρf, c2, a2, q2, r2⟩ := call_new h2 e1.ok hy s2 (d + 1)
  have e2 := EvA.of_after a2 e1.ok e1.nh
  obtain ⟨os, tw, td⟩ := sim_trace hsim told hu
  obtain ⟨sv, M3, c3, e3, row3⟩ := seen_ok d M2 e2.ok e2.nh q2 td (tv := tv) (by rw [e2.g, e1.g]; exact ht) hlen
  have qw2 : Seen M2 bw ρw S := q1.same fun c hc => e2.same c (q1.lt e1.ok.1 c hc) (by simp)
  have qw3 : Seen M3 bw ρw S := qw2.keep e3 fun c hc h => by
    have := q1.lt e1.ok.1 c hc
    have := r2 c h
    omega
  have row3' : SeenRow M3 (fun c => c ∉ ρw) sv os := by
    obtain ⟨hvs, k1, k2, k3, k4⟩ := row3
    have key : ∀ c, M2.n ≤ c → c ∉ ρw := fun c hc h => by
      have := q1.lt e1.ok.1 c h
      have := e2.n
      omega
    exact ⟨hvs, k1, k2, fun c hc => key c (k3 c hc), fun i o hv ho hi => by
      obtain ⟨c, sz, ⟨x1, x2⟩, x3⟩ := k4 i o hv ho hi
      exact ⟨c, sz, ⟨key c x1, x2⟩, x3⟩⟩
  obtain ⟨r, M4, c4, rfl, e4⟩ := like_ok d M3 e3.ok e3.nh qw3 tw (tv := tv) (by rw [e3.g, e2.g, e1.g]; exact ht) hlen row3'
  have n1 := e1.n
  have n2 := e2.n
  have n3 := e3.n
  have v1 : Ev M M1 (fun _ => False) := (e1.ev hok.1).mono fun b h => by simp at h
  have v2 : Ev M M2 (fun _ => False) := v1.trans (e2.ev e1.ok.1) (fun _ h => h) (fun b _ h => by simp at h) hok.1
  have v3 : Ev M M3 (fun _ => False) := v2.trans e3 (fun _ h => h) (fun b hb h => by have := r2 b h; omega) hok.1
  have v4 : Ev M M4 (fun _ => False) := v3.trans (e4.ev e3.ok.1) (fun _ h => h) (fun b hb h => by have := r1 b h; omega) hok.1
  exact ⟨bw, bf, sv, M1, M2, M3, M4, c1, c2, c3, c4, v1, v2, v3, v4⟩
end Go.Proofs.YtmgfamnongagbaaGreat.stk
