/- The walk of a timer's New. -/
import Derived.Test.YtbjipmhdncfodaaTmDue
namespace Go.Proofs.Ytbjipmhdncfodaa.grf
open Go Go.Vx
set_option maxHeartbeats 1000000 in
theorem new_ok (d : Nat) (M0 : AMem) (hok : Okg M0) : Ans (callF tbl code 100000 (d + 1)) 6 [] M0 fun r M' => ∃ tb mb, r = .ptr (some (tb, 0)) ∧ TS M0 M' (fun i => i = tb ∨ i = mb) tb mb [] 0 0 := by
  refine Ans_of (tbl_none (by decide) _) (show code 6 = some c6 from by kernel_rfl) (by simp) fun t hd ha => ?_
  clear ha
  obtain ⟨m1, m2, m3⟩ := makeMap_own (Step.refl hok)
  have b2 : opI (.build [(.slice none 0 0 false), (.map none), (.int .i64 0), (.int .i64 0)] [(1, 1)]) [.map (some M0.n)] (M0.push (.map (ents .i64 []))) = some (.val (.agg (tC (.slice none 0 0 false) (.map (some M0.n)) 0 0)) (M0.push (.map (ents .i64 [])))) := rfl
  have s2 := m2.push (k := .cells (tC (.slice none 0 0 false) (.map (some M0.n)) 0 0) 0 true none) (fun _ _ _ _ he => by cases he)
  have g2 := get_push_self (k := .cells (tC (.slice none 0 0 false) (.map (some M0.n)) 0 0) 0 true none) m2.ok.1
  have g1 := (get_push_old (k := .cells (tC (.slice none 0 0 false) (.map (some M0.n)) 0 0) 0 true none) m2.ok.1 (get_lt m2.ok.1 m3)).trans m3
  have b3 : opI .box [.agg (tC (.slice none 0 0 false) (.map (some M0.n)) 0 0)] (M0.push (.map (ents .i64 []))) = some (.val (.ptr (some (M0.n + 1, 0))) ((M0.push (.map (ents .i64 []))).push (.cells (tC (.slice none 0 0 false) (.map (some M0.n)) 0 0) 0 true none))) := rfl
  refine W_seq (W_seqR (by simp only [runSeq_cons, runSeq_nil, evalArgs_nil, evalArgs_const, val1, putT, opI_move]; rfl) ?_)
  refine W_seq (W_seqR (by simp only [runSeq_cons, runSeq_nil, evalArgs_nil, evalArgs_tmp, val1, putT, Tr.get_set_self, Tr.get_set_ne, hd _, ne_eq, Nat.reduceEqDiff, not_false_eq_true, decide_true, Nat.reduceLT, opI_move, m1, b2, b3]; rfl) (W_ret ?_))
  refine ⟨_, fin_tmp (by simp only [Tr.get_set_self, Tr.get_set_ne, Option.isSome_some, hd _, ne_eq, Nat.reduceEqDiff, not_false_eq_true, decide_true, Nat.reduceLT]; try rfl), M0.n + 1, M0.n, rfl, ⟨s2, ?_, .inl rfl, .inr rfl, by omega, fun x hx => by simp at hx, List.nodup_nil, fun i hi => by simp at hi, ⟨_, M0.n, g2, RowI.nil, .inl ⟨rfl, rfl⟩⟩, fun c h0 hc => by simp at hc, by simp⟩, ⟨⟨[], g1, List.nodup_nil, fun e => by simp⟩, List.nodup_nil⟩, fun x hx => by simp at hx⟩
  rintro i (rfl | rfl)
  · exact ⟨by omega, by show M0.n + 1 < M0.n + 1 + 1; omega⟩
  · exact ⟨Nat.le_refl _, by show M0.n < M0.n + 1 + 1; omega⟩
end Go.Proofs.Ytbjipmhdncfodaa.grf
