/- The walks of the document's Print and Read. -/
import Derived.Test.YtphdlmmllahgkaaDoorNuTbl
namespace Go.Proofs.YtphdlmmllahgkaaDoor.num
open Go Go.Vx Go.Lib
theorem opI_remU {M : AMem} {k : IntKind} {a b : Nat} (hb : b ≠ 0) : opI (.bin .rem) [.int k a, .int k b] M = some (.val (.int k (a % b : Nat)) M) := by
  simp only [opI, binI, intI]
  rw [if_pos trivial, if_neg (by omega)]
  rfl
theorem wrapU {n : Nat} (h : n ≤ 18446744073709551615) : wrapF .u64 n = n := wrapF_id (by show (0 : Int) ≤ _; omega) (by show _ ≤ (18446744073709551615 : Int); omega)
theorem opI_quoU {M : AMem} {a b : Nat} (hb : b ≠ 0) (ha : a ≤ 18446744073709551615) : opI (.bin .quo) [.int .u64 a, .int .u64 b] M = some (.val (.int .u64 (a / b : Nat)) M) := by
  simp only [opI, binI, intI]
  rw [if_pos trivial, if_neg (by omega)]
  have : ((a : Int).tdiv b) = ((a / b : Nat) : Int) := rfl
  rw [this]
  have h : a / b ≤ 18446744073709551615 := Nat.le_trans (Nat.div_le_self _ _) ha
  rw [wrapU h]
theorem wrap8 {n : Nat} (h : n ≤ 255) : wrapF .u8 n = n := wrapF_id (by show (0 : Int) ≤ _; omega) (by show _ ≤ (255 : Int); omega)
theorem opI_conv {M : AMem} {k k' : IntKind} {n : Int} : opI (.conv k) [.int k' n] M = some (.val (.int k (wrapF k n)) M) := rfl
theorem opI_lit8 {M : AMem} {n : Int} : opI (.sliceLit 1 [.int .u8 0] [(0, 1)]) [.int .u8 n] M = some (.val (.slice (some (M.n, 0)) 1 1 false) (M.push (.cells [.int .u8 n] 0 true none))) := rfl
theorem dec_len : ∀ (n u : Nat), u < 10 ^ (n + 1) → (decDigits u).length ≤ n + 1
  | 0, u, h => by
    rw [decDigits_one (by omega)]; simp
  | n + 1, u, h => by
    rw [decDigits]
    split
    · simp
    · rw [List.length_append, List.length_singleton]
      have := dec_len n (u / 10) (by rw [Nat.pow_succ] at h; omega)
      omega
theorem dec_len20 {u : Nat} (h : u ≤ 18446744073709551615) : (decDigits u).length ≤ 20 := dec_len 19 u (by omega)
set_option maxRecDepth 20000 in
set_option maxHeartbeats 4000000 in
theorem refprint_ok (d : Nat) (M0 : AMem) (hok : Okg M0) (u : Nat) (hu : u ≤ 18446744073709551615) : Ans (callF tbl code 100000 (d + 1)) 9 [.int .u64 u] M0 fun r M' => r = .str (SB (decDigits u)) ∧ Step M0 M' := by
  refine Ans_of (tbl_none (by decide) _) (show code 9 = some c9 from by kernel_rfl) (by simp) fun t hd ha => ?_
  have h0 := ha 0 _ rfl
  clear ha
  have hl20 := dec_len20 hu
  refine W_seq (W_seqR (by simp only [runSeq_cons, runSeq_nil, evalArgs_nil, evalArgs_const, val1, putT, opI_move]; rfl) ?_)
  refine W_seq (W_seqR (by simp only [runSeq_cons, runSeq_nil, evalArgs_nil, evalArgs_const, val1, putT, opI_move]; rfl) ?_)
  refine W_seq (W_block (W_loop (fun k t M' => ∃ (v : Nat) (l : List UInt8), k = (decDigits v).length ∧ v ≤ 18446744073709551615 ∧ decDigits u = decDigits v ++ l ∧ Step M0 M' ∧ Dom t 23 ∧ t.get 0 = some (.int .u64 v) ∧ t.get 3 = some (.str (SB l))) (k := (decDigits u).length) (by omega) ?_ ?_))
  · exact ⟨u, [], rfl, hu, by simp, Step.refl hok, by ((repeat (with_reducible apply Dom.set)); exact hd), by simp only [Tr.get_set_ne, ne_eq, Nat.reduceEqDiff, not_false_eq_true, h0], by simp only [Tr.get_set_self, Tr.get_set_ne, hd _, ne_eq, Nat.reduceEqDiff, not_false_eq_true, decide_true, Nat.reduceLT]⟩
  clear h0 hd
  intro k t M ⟨v, l, hk, hv, he, sM, hd, h0, h3⟩
  have hll : (decDigits v).length + l.length ≤ 20 := by
    have := congrArg List.length he
    rw [List.length_append] at this
    omega
  by_cases h9 : v > 9
  · have e1 : decide ((v : Int) > 9) = true := decide_eq_true (by omega)
    refine W_seq (W_seq (W_seqR (by simp only [runSeq_cons, runSeq_nil, evalArgs_nil, evalArgs_tmp, evalArgs_const, val1, putT, Tr.get_set_self, hd _, decide_true, Nat.reduceLT, opI_move, opI_gtr, h0, e1]; rfl) ?_))
    refine W_cond (b := true) (by simp only [PArg.eval, Tr.get_set_self, Tr.get_set_ne, hd _, ne_eq, Nat.reduceEqDiff, not_false_eq_true, decide_true, Nat.reduceLT]; try rfl) (fun _ => W_skip ?_) (fun hb => by cases hb)
    show W _ _
    have r1 := opI_remU (M := M) (k := .u64) (a := v) (b := 10) (by omega)
    have w1 : wrapF .u64 (48 + ((v % 10 : Nat) : Int)) = ((48 + v % 10 : Nat) : Int) := by rw [show (48 : Int) + ((v % 10 : Nat) : Int) = ((48 + v % 10 : Nat) : Int) by omega]; exact wrapU (by omega)
    have w2 : wrapF .u8 ((48 + v % 10 : Nat) : Int) = ((48 + v % 10 : Nat) : Int) := wrap8 (by omega)
    have s1 := sM.push (k := .cells [.int .u8 ((48 + v % 10 : Nat) : Int)] 0 true none) (fun _ _ _ _ he => by cases he)
    have g1 := get_push_self (k := .cells [.int .u8 ((48 + v % 10 : Nat) : Int)] 0 true none) sM.ok.1
    have b1 := opI_byteStr (o := 0) (c := 1) (gr := false) g1 rfl
    rw [Int.toNat_natCast] at b1
    have hd1 : decDigits v = decDigits (v / 10) ++ [UInt8.ofNat (48 + v % 10)] := by
      conv => lhs; rw [decDigits, dif_neg (by omega)]
    have a1 := opI_addStr (M := M.push (.cells [.int .u8 ((48 + v % 10 : Nat) : Int)] 0 true none)) (a := [UInt8.ofNat (48 + v % 10)]) (b := l) (by rw [List.length_singleton]; omega)
    have q1 := opI_quoU (M := M.push (.cells [.int .u8 ((48 + v % 10 : Nat) : Int)] 0 true none)) (a := v) (b := 10) (by omega) hv
    have r1' : opI (.bin .rem) [.int .u64 v, .int .u64 10] M = some (.val (.int .u64 (v % 10 : Nat)) M) := r1
    have q1' : opI (.bin .quo) [.int .u64 v, .int .u64 10] (M.push (.cells [.int .u8 ((48 + v % 10 : Nat) : Int)] 0 true none)) = some (.val (.int .u64 (v / 10 : Nat)) (M.push (.cells [.int .u8 ((48 + v % 10 : Nat) : Int)] 0 true none))) := q1
    refine W_block (W_seq (W_seqR (by simp only [runSeq_cons, runSeq_nil, evalArgs_nil, evalArgs_tmp, evalArgs_const, val1, putT, Tr.get_set_self, Tr.get_set_ne, hd _, ne_eq, Nat.reduceEqDiff, not_false_eq_true, decide_true, Nat.reduceLT, opI_move, opI_add, h0, h3, r1', w1, opI_conv, w2, opI_lit8, b1, a1]; rfl) ?_))
    refine W_seqR (by simp only [runSeq_cons, runSeq_nil, evalArgs_nil, evalArgs_tmp, evalArgs_const, val1, putT, Tr.get_set_self, Tr.get_set_ne, hd _, ne_eq, Nat.reduceEqDiff, not_false_eq_true, decide_true, Nat.reduceLT, opI_move, h0, q1']; rfl) ?_
    refine ⟨(decDigits (v / 10)).length, ?_, v / 10, _, rfl, by omega, ?_, s1, by ((repeat (with_reducible apply Dom.set)); exact hd), by simp only [Tr.get_set_self, Tr.get_set_ne, hd _, ne_eq, Nat.reduceEqDiff, not_false_eq_true, decide_true, Nat.reduceLT], by simp only [Tr.get_set_self, Tr.get_set_ne, hd _, ne_eq, Nat.reduceEqDiff, not_false_eq_true, decide_true, Nat.reduceLT]; rfl⟩
    · rw [hk, hd1, List.length_append, List.length_singleton]; omega
    · rw [he, hd1, List.append_assoc]
  · have e1 : decide ((v : Int) > 9) = false := decide_eq_false (by omega)
    refine W_seq (W_seq (W_seqR (by simp only [runSeq_cons, runSeq_nil, evalArgs_nil, evalArgs_tmp, evalArgs_const, val1, putT, Tr.get_set_self, hd _, decide_true, Nat.reduceLT, opI_move, opI_gtr, h0, e1]; rfl) ?_))
    refine W_cond (b := false) (by simp only [PArg.eval, Tr.get_set_self, Tr.get_set_ne, hd _, ne_eq, Nat.reduceEqDiff, not_false_eq_true, decide_true, Nat.reduceLT]; try rfl) (fun hb => by cases hb) (fun _ => W_exit ?_)
    show W _ _
    have w1 : wrapF .u64 (48 + (v : Int)) = ((48 + v : Nat) : Int) := by rw [show (48 : Int) + (v : Int) = ((48 + v : Nat) : Int) by omega]; exact wrapU (by omega)
    have w2 : wrapF .u8 ((48 + v : Nat) : Int) = ((48 + v : Nat) : Int) := wrap8 (by omega)
    have s1 := sM.push (k := .cells [.int .u8 ((48 + v : Nat) : Int)] 0 true none) (fun _ _ _ _ he => by cases he)
    have g1 := get_push_self (k := .cells [.int .u8 ((48 + v : Nat) : Int)] 0 true none) sM.ok.1
    have b1 := opI_byteStr (o := 0) (c := 1) (gr := false) g1 rfl
    rw [Int.toNat_natCast] at b1
    have hd1 : decDigits v = [UInt8.ofNat (48 + v)] := decDigits_one (by omega)
    have a1 := opI_addStr (M := M.push (.cells [.int .u8 ((48 + v : Nat) : Int)] 0 true none)) (a := [UInt8.ofNat (48 + v)]) (b := l) (by rw [List.length_singleton]; omega)
    refine W_seq (W_seqR (by simp only [runSeq_cons, runSeq_nil, evalArgs_nil, evalArgs_tmp, evalArgs_const, val1, putT, Tr.get_set_self, Tr.get_set_ne, hd _, ne_eq, Nat.reduceEqDiff, not_false_eq_true, decide_true, Nat.reduceLT, opI_move, opI_add, h0, h3, w1, opI_conv, w2, opI_lit8, b1, a1]; rfl) (W_ret ?_))
    refine ⟨_, fin_tmp (by simp only [Tr.get_set_self, Tr.get_set_ne, hd _, ne_eq, Nat.reduceEqDiff, not_false_eq_true, decide_true, Nat.reduceLT]; try rfl), ?_, s1⟩
    rw [he, hd1]; rfl
theorem getD_mem8 {l : List UInt8} {i : Nat} (h : i < l.length) : l.getD i 0 = l[i] := by rw [List.getD_eq_getElem?_getD, List.getElem?_eq_getElem h]; rfl
theorem u8_lt (c : UInt8) : c.toNat ≤ 255 := by have := c.toNat_lt; omega
end Go.Proofs.YtphdlmmllahgkaaDoor.num
