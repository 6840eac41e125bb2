/- model.Apply at any kind. -/
import Derived.Test.YtefcnhmbpkdlmaaMoApply
namespace Go.Proofs.Ytefcnhmbpkdlmaa.model
open Go Go.Vx

/-- what a deed makes of a row -/
def ap (k : Int) (xs : List Int) (put : Bool) (x cd : Int) : Option (List Int) :=
  if k = 1 then apD (xs ++ [x]) (wo xs (indexOf x xs) x) ((xs.length : Int) == 0) xs put cd
  else if k = 2 then apD (xs ++ [x]) (wo xs 0 x) ((xs.length : Int) == 0) xs put cd
  else if k = 3 then apD (xs ++ [x]) (wo xs (wrapF .i64 (xs.length - 1)) x) ((xs.length : Int) == 0) xs put cd
  else if k = 4 then apD [wrapF .u64 (sum64 xs + x)] (if sum64 xs == x then some xs else none) false xs put cd
  else none

theorem rowput_in {i : TypeId} (hi : i = 48 ∨ i = 49 ∨ i = 50) {v : AV} {xs : List Int} {x : Int} (d : Nat) (hn : xs.length < 90000) :
    ∀ M, Row M v xs → Okg M → ∃ f vs r M', opI opPut [.iface i (.agg []), v, .int .u64 x] M = some (.call f vs) ∧ callF tbl code 100000 (d + 3) f vs M = some (r, M') ∧ Step M M' ∧ Free M M' r (xs ++ [x]) := by
  intro M hv hok
  obtain ⟨r, M', h1, h2, h3⟩ := rowput_ok (x := x) (d + 1) M hv hok (by omega)
  refine ⟨31, [.agg [], v, .int .u64 x], r, M', ?_, h1, h2, .inl h3.mine⟩
  rcases hi with rfl | rfl | rfl <;> rfl
theorem rowemp_in {i : TypeId} (hi : i = 48 ∨ i = 49 ∨ i = 50) {v : AV} {xs : List Int} (d : Nat) :
    ∀ M, Row M v xs → Okg M → ∃ f vs M', opI opEmpty [.iface i (.agg []), v] M = some (.call f vs) ∧ callF tbl code 100000 (d + 3) f vs M = some (.bool ((xs.length : Int) == 0), M') ∧ Step M M' := by
  intro M hv hok
  obtain ⟨r, M', h1, h2, rfl⟩ := rowempty_ok (d + 2) M hv hok
  refine ⟨29, [.agg [], v], M', ?_, h1, h2⟩
  rcases hi with rfl | rfl | rfl <;> rfl

theorem apply_ok {k : Int} {v c0 c1 : AV} {xs : List Int} {x cd : Int} {put : Bool} (d : Nat) (M : AMem) (hv : Row M v xs) (hok : Okg M) (hn : xs.length < 90000) :
    Ans (callF tbl code 100000 (d + 4)) 6 [.int .i64 k, v, .agg [c0, c1, .bool put, .int .u64 x, .int .i64 cd]] M (Out3 M (ap k xs put x cd)) := by
  unfold ap
  by_cases k1 : k = 1
  · rw [if_pos k1]
    refine apply_in (i := 48) d M hv hok hn (by subst k1; rfl) (rowput_in (by simp) d hn) (fun M hv hok => ?_) (rowemp_in (by simp) d)
    obtain ⟨r, M', h1, h2⟩ := bagtake_ok (x := x) d M hv hok hn
    exact ⟨33, _, r, M', rfl, h1, h2⟩
  rw [if_neg k1]
  by_cases k2 : k = 2
  · rw [if_pos k2]
    refine apply_in (i := 49) d M hv hok hn (by subst k2; rfl) (rowput_in (by simp) d hn) (fun M hv hok => ?_) (rowemp_in (by simp) d)
    obtain ⟨r, M', h1, h2⟩ := fifotake_ok (x := x) d M hv hok hn
    exact ⟨37, _, r, M', rfl, h1, h2⟩
  rw [if_neg k2]
  by_cases k3 : k = 3
  · rw [if_pos k3]
    refine apply_in (i := 50) d M hv hok hn (by subst k3; rfl) (rowput_in (by simp) d hn) (fun M hv hok => ?_) (rowemp_in (by simp) d)
    obtain ⟨r, M', h1, h2⟩ := lifotake_ok (x := x) d M hv hok hn
    exact ⟨38, _, r, M', rfl, h1, h2⟩
  rw [if_neg k3]
  by_cases k4 : k = 4
  · rw [if_pos k4]
    refine apply_in (i := 51) d M hv hok hn (by subst k4; rfl) (fun M hv hok => ?_) (fun M hv hok => ?_) (fun M hv hok => ?_)
    · obtain ⟨r, M', h1, h2, h3⟩ := countput_ok (x := x) (d + 1) M hv hok hn
      exact ⟨41, _, r, M', rfl, h1, h2, .inl h3.mine⟩
    · obtain ⟨r, M', h1, r0, he, h2, h3⟩ := counttake_ok (x := x) (d + 1) M hv hok hn
      refine ⟨42, _, r, M', rfl, h1, r0, ?_, h2, fun ys h => ?_⟩
      · rw [he]
        cases hb : sum64 xs == x <;> simp
      · cases hb : sum64 xs == x with
        | true => rw [hb] at h; simp only [if_true, Option.some.injEq] at h; subst h; exact Free.of h3
        | false => rw [hb] at h; cases h
    · obtain ⟨r, M', h1, h2, rfl⟩ := countempty_ok (v := v) (d + 2) M hok
      exact ⟨39, _, M', rfl, h1, h2⟩
  rw [if_neg k4]
  refine Ans_of (tbl_none (by decide) _) (show code 6 = some c6 from by kernel_rfl) (by simp) fun t hd ha => ?_
  have h0 := ha 0 _ rfl
  have h2 := ha 2 _ rfl
  clear ha
  refine W_seq (W_seqR (by simp only [runSeq_cons, runSeq_nil, evalArgs_nil, evalArgs_tmp, evalArgs_const, val1, putT, opI_move, opI_box, cells_agg, h2]; rfl) ?_)
  have s0 := (Step.refl hok).push (k := .cells [c0, c1, .bool put, .int .u64 x, .int .i64 cd] 0 true none) (fun _ _ _ _ he => by cases he)
  have hof := of_ok (d + 2) (M.push (.cells [c0, c1, .bool put, .int .u64 x, .int .i64 cd] 0 true none)) k
  have hk : ofK k = .nilIface := by unfold ofK; rw [if_neg k1, if_neg k2, if_neg k3, if_neg k4]
  rw [hk] at hof
  show W _ _
  refine W_seq (W_seqR (by simp only [runSeq_cons, runSeq_nil, evalArgs_nil, evalArgs_tmp, val1, putT, Tr.get_set_self, Tr.get_set_ne, hd _, ne_eq, Nat.reduceEqDiff, not_false_eq_true, decide_true, Nat.reduceLT, opI_move, opI_callF, h0, hof]; rfl) ?_)
  refine W_seq (W_seq (W_seqR (by simp only [runSeq_cons, runSeq_nil, evalArgs_nil, evalArgs_tmp, evalArgs_const, val1, putT, Tr.get_set_self, Tr.get_set_ne, hd _, ne_eq, Nat.reduceEqDiff, not_false_eq_true, decide_true, Nat.reduceLT, opI_move, opI_nilN]; rfl) ?_))
  refine W_cond (by simp only [PArg.eval, Tr.get_set_self, Tr.get_set_ne, hd _, ne_eq, Nat.reduceEqDiff, not_false_eq_true, decide_true, Nat.reduceLT]; rfl) (fun _ => ?_) (fun hb => by simp at hb)
  refine W_seq (W_seqR (by simp only [runSeq_cons, runSeq_nil, evalArgs_nil, evalArgs_const, val1, putT, opI_move]; rfl) (W_ret ?_))
  exact ⟨_, fin_tmp2 (by simp only [Tr.get_set_self, Tr.get_set_ne, Tr.isSome_set, Option.isSome_some, hd _, ne_eq, Nat.reduceEqDiff, not_false_eq_true, decide_true, Nat.reduceLT]; try rfl) (by simp only [Tr.get_set_self, Tr.get_set_ne, Tr.isSome_set, Option.isSome_some, hd _, ne_eq, Nat.reduceEqDiff, not_false_eq_true, decide_true, Nat.reduceLT]; try rfl), _, rfl, s0, fun _ => rfl, fun ys h => by cases h⟩
end Go.Proofs.Ytefcnhmbpkdlmaa.model
