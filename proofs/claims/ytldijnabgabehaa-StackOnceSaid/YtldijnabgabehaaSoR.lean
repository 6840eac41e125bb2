/- Small questions about a stack and its nodes: each by a run at unknown numbers (printed by a program, SymLib). -/
import Derived.Test.YtldijnabgabehaaSoDo
namespace Go.Proofs.Ytldijnabgabehaa.so
open Go Go.Vx
set_option maxRecDepth 100000
def R0 : List ABlk := []
theorem R_right0 (g : Addr → Option AV) (n : Int) : stepO runW 400 [(0, true), (0, true), (0, true), (0, true), (0, true), (0, true), (0, true), (0, true)] 41 [AV.agg [AV.int IntKind.i64 0, AV.int IntKind.i64 n]] [] g (fun r => [r]) = some (AV.bool (decide (0 < wrapF IntKind.i64 (wrapF IntKind.i64 (65536 - wrapF IntKind.i64 (3 * n)) - 1))), [], R0, [AV.bool (decide (0 < wrapF IntKind.i64 (wrapF IntKind.i64 (65536 - wrapF IntKind.i64 (3 * n)) - 1)))], [(decide (n ≤ 4096), true), (decide (n ≤ 4096), true), (decide (n ≤ 4096), true), (decide (n ≤ 4096), true), (decide (n ≥ 1), true), (decide (n ≥ 1), true), (decide (n ≥ 1), true), (decide (n ≥ 1), true)]) := by kernel_rfl
theorem R_aright0 (g : Addr → Option AV) (n : Int) : stepO runW 400 [(0, true), (0, true), (0, true), (0, true), (0, true), (0, true), (0, true), (0, true)] 44 [AV.agg [AV.int IntKind.i64 1, AV.int IntKind.i64 n]] [] g (fun r => [r]) = some (AV.bool (decide (1 < wrapF IntKind.i64 (65536 - n))), [], R0, [AV.bool (decide (1 < wrapF IntKind.i64 (65536 - n)))], [(decide (n ≤ 4096), true), (decide (n ≤ 4096), true), (decide (n ≤ 4096), true), (decide (n ≤ 4096), true), (decide (n ≥ 1), true), (decide (n ≥ 1), true), (decide (n ≥ 1), true), (decide (n ≥ 1), true)]) := by kernel_rfl
theorem R_arena0 (g : Addr → Option AV) (n : Int) : stepO runW 400 [] 9 [AV.agg [AV.int IntKind.i64 0, AV.int IntKind.i64 n]] [] g (fun r => [r]) = some (AV.agg [AV.int IntKind.i64 1, AV.int IntKind.i64 n], [], R0, [AV.agg [AV.int IntKind.i64 1, AV.int IntKind.i64 n]], []) := by kernel_rfl
theorem R_node0 (g : Addr → Option AV) (u : Int) : stepO runW 400 [] 23 [AV.int IntKind.u64 u] [] g (fun r => [r]) = some (AV.int IntKind.u32 (wrapF IntKind.u32 u), [], R0, [AV.int IntKind.u32 (wrapF IntKind.u32 u)], []) := by kernel_rfl
theorem R_low0 (g : Addr → Option AV) (u : Int) : stepO runW 400 [] 28 [AV.int IntKind.u64 u] [] g (fun r => [r]) = some (AV.int IntKind.u32 (wrapF IntKind.u32 u), [], R0, [AV.int IntKind.u32 (wrapF IntKind.u32 u)], []) := by kernel_rfl
theorem R_below0 (g : Addr → Option AV) (n i : Int) : stepO runW 400 [] 24 [AV.agg [AV.int IntKind.i64 0, AV.int IntKind.i64 n], AV.int IntKind.u32 i] [] g (fun r => [r]) = some (AV.int IntKind.i64 (wrapF IntKind.i64 (wrapF IntKind.i64 (1 + wrapF IntKind.i64 (2 * n)) + wrapF IntKind.i64 i)), [], R0, [AV.int IntKind.i64 (wrapF IntKind.i64 (wrapF IntKind.i64 (1 + wrapF IntKind.i64 (2 * n)) + wrapF IntKind.i64 i))], []) := by kernel_rfl
theorem R_task0 (g : Addr → Option AV) (n i : Int) : stepO runW 400 [] 26 [AV.agg [AV.int IntKind.i64 0, AV.int IntKind.i64 n], AV.int IntKind.u32 i] [] g (fun r => [r]) = some (AV.int IntKind.i64 (wrapF IntKind.i64 (wrapF IntKind.i64 (1 + n) + wrapF IntKind.i64 i)), [], R0, [AV.int IntKind.i64 (wrapF IntKind.i64 (wrapF IntKind.i64 (1 + n) + wrapF IntKind.i64 i))], []) := by kernel_rfl
theorem R_there0 (g : Addr → Option AV) (n i : Int) : stepO runW 400 [(0, true), (0, true), (0, true), (0, true), (0, true), (0, true)] 25 [AV.agg [AV.int IntKind.i64 0, AV.int IntKind.i64 n], AV.int IntKind.u32 i] [] g (fun r => [r]) = some (AV.bool (decide (wrapF IntKind.i64 i ≤ n)), [], R0, [AV.bool (decide (wrapF IntKind.i64 i ≤ n))], [(decide (i ≥ 1), true), (decide (i ≥ 1), true), (decide (i ≥ 1), true), (decide (i ≥ 1), true), (decide (i ≥ 1), true), (decide (i ≥ 1), true)]) := by kernel_rfl
theorem right_ok {n : Nat} (h1 : 1 ≤ n) (h2 : n ≤ 4096) : AskV 41 [ArgP n] (.bool true) := askV_of (fun g => R_right0 g n) (by
    simp (disch := omega) only [wi]
    rw [decide_eq_true (by omega)]) (by
    simp (disch := omega) only [List.forall_mem_cons, List.not_mem_nil, false_implies, implies_true, and_true, ge_iff_le, decide_eq_true_eq]; try omega
    ) rfl rfl (by decide)
theorem aright_ok {n : Nat} (h1 : 1 ≤ n) (h2 : n ≤ 4096) : AskV 44 [.agg [.int .i64 1, .int .i64 n]] (.bool true) := askV_of (fun g => R_aright0 g n) (by
    simp (disch := omega) only [wi]
    rw [decide_eq_true (by omega)]) (by
    simp (disch := omega) only [List.forall_mem_cons, List.not_mem_nil, false_implies, implies_true, and_true, ge_iff_le, decide_eq_true_eq]; try omega
    ) rfl rfl (by decide)
theorem arena_ok (n : Nat) : AskV 9 [ArgP n] (.agg [.int .i64 1, .int .i64 n]) := askV_of (fun g => R_arena0 g n) rfl (by simp) rfl rfl (by decide)
theorem node_ok (t : Nat) {i : Nat} (h : i < 4294967296) : AskV 23 [.int .u64 (pr t i : Nat)] (.int .u32 i) := askV_of (fun g => R_node0 g _) (by rw [lo_pr h]) (by simp) rfl rfl (by decide)
theorem low_ok (t : Nat) {i : Nat} (h : i < 4294967296) : AskV 28 [.int .u64 (pr t i : Nat)] (.int .u32 i) := askV_of (fun g => R_low0 g _) (by rw [lo_pr h]) (by simp) rfl rfl (by decide)
theorem pr0 (i : Nat) : pr 0 i = i := by unfold pr; omega
theorem below_ok {n i : Nat} (h1 : n ≤ 4096) (h2 : i ≤ n) : AskV 24 [ArgP n, .int .u32 i] (.int .i64 (1 + 2 * n + i : Nat)) := askV_of (fun g => R_below0 g n i) (by
    simp (disch := omega) only [wi]
    congr 1) (by simp) rfl rfl (by decide)
theorem task_ok {n i : Nat} (h1 : n ≤ 4096) (h2 : i ≤ n) : AskV 26 [ArgP n, .int .u32 i] (.int .i64 (1 + n + i : Nat)) := askV_of (fun g => R_task0 g n i) (by
    simp (disch := omega) only [wi]
    congr 1) (by simp) rfl rfl (by decide)
theorem there_ok {n i : Nat} (h1 : n ≤ 4096) (h2 : i ≤ n) (h3 : 1 ≤ i) : AskV 25 [ArgP n, .int .u32 i] (.bool true) := askV_of (fun g => R_there0 g n i) (by
    simp (disch := omega) only [wi]
    rw [decide_eq_true (by omega)]) (by
    simp (disch := omega) only [List.forall_mem_cons, List.not_mem_nil, false_implies, implies_true, and_true, ge_iff_le, decide_eq_true_eq]; try omega
    ) rfl rfl (by decide)
end Go.Proofs.Ytldijnabgabehaa.so
