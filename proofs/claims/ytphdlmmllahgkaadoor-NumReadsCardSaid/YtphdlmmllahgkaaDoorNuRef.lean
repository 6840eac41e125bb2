/- The walks of the document's Print and Read. -/
import Derived.Test.YtphdlmmllahgkaaDoorNuTbl
namespace Go.Proofs.YtphdlmmllahgkaaDoor.num
open Go Go.Vx Go.Lib
theorem opI_remU {M : AMem} {k : IntKind} {a b : Nat} (hb : b ≠ 0) : opI (.bin .rem) [.int k a, .int k b] M = some (.val (.int k (a % b : Nat)) M) := by
  simp only [opI, binI, intI]
  rw [if_pos trivial, if_neg (by omega)]
  rfl
theorem wrapU {n : Nat} (h : n ≤ 18446744073709551615) : wrapF .u64 n = n := wrapF_id (by show (0 : Int) ≤ _; omega) (by show _ ≤ (18446744073709551615 : Int); omega)
theorem opI_quoU {M : AMem} {a b : Nat} (hb : b ≠ 0) (ha : a ≤ 18446744073709551615) : opI (.bin .quo) [.int .u64 a, .int .u64 b] M = some (.val (.int .u64 (a / b : Nat)) M) := by
  simp only [opI, binI, intI]
  rw [if_pos trivial, if_neg (by omega)]
  have : ((a : Int).tdiv b) = ((a / b : Nat) : Int) := rfl
  rw [this]
  have h : a / b ≤ 18446744073709551615 := Nat.le_trans (Nat.div_le_self _ _) ha
  rw [wrapU h]
theorem wrap8 {n : Nat} (h : n ≤ 255) : wrapF .u8 n = n := wrapF_id (by show (0 : Int) ≤ _; omega) (by show _ ≤ (255 : Int); omega)
theorem opI_conv {M : AMem} {k k' : IntKind} {n : Int} : opI (.conv k) [.int k' n] M = some (.val (.int k (wrapF k n)) M) := rfl
theorem opI_lit8 {M : AMem} {n : Int} : opI (.sliceLit 1 [.int .u8 0] [(0, 1)]) [.int .u8 n] M = some (.val (.slice (some (M.n, 0)) 1 1 false) (M.push (.cells [.int .u8 n] 0 true none))) := rfl
theorem dec_len : ∀ (n u : Nat), u < 10 ^ (n + 1) → (decDigits u).length ≤ n + 1
  | 0, u, h => by
    rw [decDigits_one (by omega)]; simp
  | n + 1, u, h => by
    rw [decDigits]
    split
    · simp
    · rw [List.length_append, List.length_singleton]
      have := dec_len n (u / 10) (by rw [Nat.pow_succ] at h; omega)
      omega
theorem dec_len20 {u : Nat} (h : u ≤ 18446744073709551615) : (decDigits u).length ≤ 20 := dec_len 19 u (by omega)
set_option maxRecDepth 20000 in
set_option maxHeartbeats 4000000 in
theorem refprint_ok (d : Nat) (M0 : AMem) (hok : Okg M0) (u : Nat) (hu : u ≤ 18446744073709551615) : Ans (callF tbl code 100000 (d + 1)) 9 [.int .u64 u] M0 fun r M' => r = .str (SB (decDigits u)) ∧ Step M0 M' := by
  refine Ans_of (tbl_none (by decide) _) (show code 9 = some c9 from by kernel_rfl) (by simp) fun t hd ha => ?_
  have h0 := ha 0 _ rfl
  clear ha
  have hl20 := dec_len20 hu
  refine W_seq (W_seqR (by simp only [runSeq_cons, runSeq_nil, evalArgs_nil, evalArgs_const, val1, putT, opI_move]; rfl) ?_)
  refine W_seq (W_seqR (by simp only [runSeq_cons, runSeq_nil, evalArgs_nil, evalArgs_const, val1, putT, opI_move]; rfl) ?_)
  refine W_seq (W_block (W_loop (fun k t M' => ∃ (v : Nat) (l : List UInt8), k = (decDigits v).length ∧ v ≤ 18446744073709551615 ∧ decDigits u = decDigits v ++ l ∧ Step M0 M' ∧ Dom t 23 ∧ t.get 0 = some (.int .u64 v) ∧ t.get 3 = some (.str (SB l))) (k := (decDigits u).length) (by omega) ?_ ?_))
  · exact ⟨u, [], rfl, hu, by simp, Step.refl hok, by ((repeat (with_reducible apply Dom.set)); exact hd), by simp only [Tr.get_set_ne, ne_eq, Nat.reduceEqDiff, not_false_eq_true, h0], by simp only [Tr.get_set_self, Tr.get_set_ne, hd _, ne_eq, Nat.reduceEqDiff, not_false_eq_true, decide_true, Nat.reduceLT]⟩
  clear h0 hd
  intro k t M ⟨v, l, hk, hv, he, sM, hd, h0, h3⟩
  have hll : (decDigits v).length + l.length ≤ 20 := by
    have := congrArg List.length he
    rw [List.length_append] at this
    omega
  by_cases h9 : v > 9
  · have e1 : decide ((v : Int) > 9) = true := decide_eq_true (by omega)
    refine W_seq (W_seq (W_seqR (by simp only [runSeq_cons, runSeq_nil, evalArgs_nil, evalArgs_tmp, evalArgs_const, val1, putT, Tr.get_set_self, hd _, decide_true, Nat.reduceLT, opI_move, opI_gtr, h0, e1]; rfl) ?_))
    refine W_cond (b := true) (by simp only [PArg.eval, Tr.get_set_self, Tr.get_set_ne, hd _, ne_eq, Nat.reduceEqDiff, not_false_eq_true, decide_true, Nat.reduceLT]; try rfl) (fun _ => W_skip ?_) (fun hb => by cases hb)
    show W _ _
    have r1 := opI_remU (M := M) (k := .u64) (a := v) (b := 10) (by omega)
    have w1 : wrapF .u64 (48 + ((v % 10 : Nat) : Int)) = ((48 + v % 10 : Nat) : Int) := by rw [show (48 : Int) + ((v % 10 : Nat) : Int) = ((48 + v % 10 : Nat) : Int) by omega]; exact wrapU (by omega)
    have w2 : wrapF .u8 ((48 + v % 10 : Nat) : Int) = ((48 + v % 10 : Nat) : Int) := wrap8 (by omega)
    have s1 := sM.push (k := .cells [.int .u8 ((48 + v % 10 : Nat) : Int)] 0 true none) (fun _ _ _ _ he => by cases he)
    have g1 := get_push_self (k := .cells [.int .u8 ((48 + v % 10 : Nat) : Int)] 0 true none) sM.ok.1
    have b1 := opI_byteStr (o := 0) (c := 1) (gr := false) g1 rfl
    rw [Int.toNat_natCast] at b1
    have hd1 : decDigits v = decDigits (v / 10) ++ [UInt8.ofNat (48 + v % 10)] := by
      conv => lhs; rw [decDigits, dif_neg (by omega)]
    have a1 := opI_addStr (M := M.push (.cells [.int .u8 ((48 + v % 10 : Nat) : Int)] 0 true none)) (a := [UInt8.ofNat (48 + v % 10)]) (b := l) (by rw [List.length_singleton]; omega)
    have q1 := opI_quoU (M := M.push (.cells [.int .u8 ((48 + v % 10 : Nat) : Int)] 0 true none)) (a := v) (b := 10) (by omega) hv
    have r1' : opI (.bin .rem) [.int .u64 v, .int .u64 10] M = some (.val (.int .u64 (v % 10 : Nat)) M) := r1
    have q1' : opI (.bin .quo) [.int .u64 v, .int .u64 10] (M.push (.cells [.int .u8 ((48 + v % 10 : Nat) : Int)] 0 true none)) = some (.val (.int .u64 (v / 10 : Nat)) (M.push (.cells [.int .u8 ((48 + v % 10 : Nat) : Int)] 0 true none))) := q1
    refine W_block (W_seq (W_seqR (by simp only [runSeq_cons, runSeq_nil, evalArgs_nil, evalArgs_tmp, evalArgs_const, val1, putT, Tr.get_set_self, Tr.get_set_ne, hd _, ne_eq, Nat.reduceEqDiff, not_false_eq_true, decide_true, Nat.reduceLT, opI_move, opI_add, h0, h3, r1', w1, opI_conv, w2, opI_lit8, b1, a1]; rfl) ?_))
    refine W_seqR (by simp only [runSeq_cons, runSeq_nil, evalArgs_nil, evalArgs_tmp, evalArgs_const, val1, putT, Tr.get_set_self, Tr.get_set_ne, hd _, ne_eq, Nat.reduceEqDiff, not_false_eq_true, decide_true, Nat.reduceLT, opI_move, h0, q1']; rfl) ?_
    refine ⟨(decDigits (v / 10)).length, ?_, v / 10, _, rfl, by omega, ?_, s1, by ((repeat (with_reducible apply Dom.set)); exact hd), by simp only [Tr.get_set_self, Tr.get_set_ne, hd _, ne_eq, Nat.reduceEqDiff, not_false_eq_true, decide_true, Nat.reduceLT], by simp only [Tr.get_set_self, Tr.get_set_ne, hd _, ne_eq, Nat.reduceEqDiff, not_false_eq_true, decide_true, Nat.reduceLT]; rfl⟩
    · rw [hk, hd1, List.length_append, List.length_singleton]; omega
    · rw [he, hd1, List.append_assoc]
  · have e1 : decide ((v : Int) > 9) = false := decide_eq_false (by omega)
    refine W_seq (W_seq (W_seqR (by simp only [runSeq_cons, runSeq_nil, evalArgs_nil, evalArgs_tmp, evalArgs_const, val1, putT, Tr.get_set_self, hd _, decide_true, Nat.reduceLT, opI_move, opI_gtr, h0, e1]; rfl) ?_))
    refine W_cond (b := false) (by simp only [PArg.eval, Tr.get_set_self, Tr.get_set_ne, hd _, ne_eq, Nat.reduceEqDiff, not_false_eq_true, decide_true, Nat.reduceLT]; try rfl) (fun hb => by cases hb) (fun _ => W_exit ?_)
    show W _ _
    have w1 : wrapF .u64 (48 + (v : Int)) = ((48 + v : Nat) : Int) := by rw [show (48 : Int) + (v : Int) = ((48 + v : Nat) : Int) by omega]; exact wrapU (by omega)
    have w2 : wrapF .u8 ((48 + v : Nat) : Int) = ((48 + v : Nat) : Int) := wrap8 (by omega)
    have s1 := sM.push (k := .cells [.int .u8 ((48 + v : Nat) : Int)] 0 true none) (fun _ _ _ _ he => by cases he)
    have g1 := get_push_self (k := .cells [.int .u8 ((48 + v : Nat) : Int)] 0 true none) sM.ok.1
    have b1 := opI_byteStr (o := 0) (c := 1) (gr := false) g1 rfl
    rw [Int.toNat_natCast] at b1
    have hd1 : decDigits v = [UInt8.ofNat (48 + v)] := decDigits_one (by omega)
    have a1 := opI_addStr (M := M.push (.cells [.int .u8 ((48 + v : Nat) : Int)] 0 true none)) (a := [UInt8.ofNat (48 + v)]) (b := l) (by rw [List.length_singleton]; omega)
    refine W_seq (W_seqR (by simp only [runSeq_cons, runSeq_nil, evalArgs_nil, evalArgs_tmp, evalArgs_const, val1, putT, Tr.get_set_self, Tr.get_set_ne, hd _, ne_eq, Nat.reduceEqDiff, not_false_eq_true, decide_true, Nat.reduceLT, opI_move, opI_add, h0, h3, w1, opI_conv, w2, opI_lit8, b1, a1]; rfl) (W_ret ?_))
    refine ⟨_, fin_tmp (by simp only [Tr.get_set_self, Tr.get_set_ne, hd _, ne_eq, Nat.reduceEqDiff, not_false_eq_true, decide_true, Nat.reduceLT]; try rfl), ?_, s1⟩
    rw [he, hd1]; rfl
theorem getD_mem8 {l : List UInt8} {i : Nat} (h : i < l.length) : l.getD i 0 = l[i] := by rw [List.getD_eq_getElem?_getD, List.getElem?_eq_getElem h]; rfl
theorem u8_lt (c : UInt8) : c.toNat ≤ 255 := by have := c.toNat_lt; omega
set_option maxRecDepth 20000 in
set_option maxHeartbeats 4000000 in
theorem refread_ok (d : Nat) (M : AMem) (l : List UInt8) (hl : l.length ≤ 1000) : callF tbl code 100000 (d + 1) 7 [.str (SB l)] M = some (.tuple [.int .u64 (readL l).1, .int .i64 (readL l).2], M) := by
  refine Ans.eq ?_
  refine Ans_of (tbl_none (by decide) _) (show code 7 = some c7 from by kernel_rfl) (by simp) fun t hd ha => ?_
  have h0 := ha 0 _ rfl
  clear ha
  have ls := opI_lenStr (M := M) (l := l)
  have bad12 : ∀ (Q : PEx → Tr AV → AMem → Prop) (t : Tr AV), Dom t 58 → (∀ t' : Tr AV, t'.get 2 = some (.int .u64 0) → t'.get 3 = some (.int .i64 12) → Q .ret t' M) → W (exec (callF tbl code 100000 d) 100000 (.seq (.seqR [⟨.move, [.const (.int .u64 0)], (some 2), none⟩, ⟨.move, [.const (.int .i64 12)], (some 3), none⟩]) .ret) t M) Q := fun Q t hd hq => by
    refine W_seq (W_seqR (by simp only [runSeq_cons, runSeq_nil, evalArgs_nil, evalArgs_const, val1, putT, opI_move]; rfl) (W_ret ?_))
    exact hq _ (by simp only [Tr.get_set_self, Tr.get_set_ne, hd _, ne_eq, Nat.reduceEqDiff, not_false_eq_true, decide_true, Nat.reduceLT]) (by simp only [Tr.get_set_self, Tr.get_set_ne, hd _, ne_eq, Nat.reduceEqDiff, not_false_eq_true, decide_true, Nat.reduceLT])
  refine W_seq (W_seqR (by simp only [runSeq_cons, runSeq_nil, evalArgs_nil, evalArgs_const, val1, putT, opI_move]; rfl) ?_)
  by_cases hne : l = []
  · have e1 : ((l.length : Int) == 0) = true := by rw [hne]; rfl
    refine W_seq (W_seq (W_seqR (by simp only [runSeq_cons, runSeq_nil, evalArgs_nil, evalArgs_tmp, evalArgs_const, val1, putT, Tr.get_set_self, Tr.get_set_ne, Tr.isSome_set, hd _, ne_eq, Nat.reduceEqDiff, not_false_eq_true, decide_true, Nat.reduceLT, opI_move, opI_eql, opI_pick, runSeq_guard (b := true), Bool.true_beq, runSeq_skip, h0, ls, e1]; rfl) ?_))
    refine W_cond (b := true) (by simp only [PArg.eval, Tr.get_set_self, Tr.get_set_ne, hd _, ne_eq, Nat.reduceEqDiff, not_false_eq_true, decide_true, Nat.reduceLT]; try rfl) (fun _ => by refine bad12 _ _ ?_ (fun t' g1 g2 => ⟨_, fin_tmp2 g1 g2, rfl, ?_⟩); ((repeat (with_reducible apply Dom.set)); exact hd); unfold readL; rw [if_pos (.inl hne)]; rfl) (fun hb => by cases hb)
  have hpos : 0 < l.length := List.length_pos_iff.2 hne
  have e1 : ((l.length : Int) == 0) = false := by simp; omega
  by_cases hlead : lead0 l = true
  · have hl1 : 1 < l.length ∧ (l.headD 0).toNat = 48 := by simpa [lead0] using hlead
    have e2 : decide ((l.length : Int) > 1) = true := decide_eq_true (by omega)
    have i0 : opI .indexStr [.str (SB l), .int .i64 0] M = some (.val (.int .u8 (l.getD 0 0).toNat) M) := opI_indexStr (i := 0) hpos
    have e3 : (((l.getD 0 0).toNat : Int) == 48) = true := by
      have : l.getD 0 0 = l.headD 0 := by cases l <;> rfl
      rw [this, hl1.2]; rfl
    refine W_seq (W_seq (W_seqR (by simp only [runSeq_cons, runSeq_nil, evalArgs_nil, evalArgs_tmp, evalArgs_const, val1, putT, Tr.get_set_self, Tr.get_set_ne, Tr.isSome_set, hd _, ne_eq, Nat.reduceEqDiff, not_false_eq_true, decide_true, Nat.reduceLT, opI_move, opI_gtr, opI_eql, opI_pick, runSeq_guard (b := true), runSeq_guard (b := false), beq_self_eq_true, h0, ls, e1, e2, i0, e3]; rfl) ?_))
    refine W_cond (b := true) (by simp only [PArg.eval, Tr.get_set_self, Tr.get_set_ne, hd _, ne_eq, Nat.reduceEqDiff, not_false_eq_true, decide_true, Nat.reduceLT]; try rfl) (fun _ => by refine bad12 _ _ ?_ (fun t' g1 g2 => ⟨_, fin_tmp2 g1 g2, rfl, ?_⟩); ((repeat (with_reducible apply Dom.set)); exact hd); unfold readL; rw [if_pos (.inr (.inr hlead))]; rfl) (fun hb => by cases hb)
  have hlead' : lead0 l = false := by simpa using hlead
  refine W_seq (W_seq (W_seqX (fun t' M' => M' = M ∧ Dom t' 58 ∧ t'.get 0 = some (.str (SB l)) ∧ t'.get 20 = some (.bool false)) ?_ ?_))
  · by_cases h1 : 1 < l.length
    · have e2 : decide ((l.length : Int) > 1) = true := decide_eq_true (by omega)
      have i0 : opI .indexStr [.str (SB l), .int .i64 0] M = some (.val (.int .u8 (l.getD 0 0).toNat) M) := opI_indexStr (i := 0) hpos
      have e3 : (((l.getD 0 0).toNat : Int) == 48) = false := by
        have : l.getD 0 0 = l.headD 0 := by cases l <;> rfl
        have hh : (l.headD 0).toNat ≠ 48 := fun hh => hlead (by unfold lead0; rw [decide_eq_true h1, decide_eq_true hh]; rfl)
        rw [this]
        exact beq_false_of_ne (by omega)
      exact ⟨_, _, (by simp only [runSeq_cons, runSeq_nil, evalArgs_nil, evalArgs_tmp, evalArgs_const, val1, putT, Tr.get_set_self, Tr.get_set_ne, Tr.isSome_set, hd _, ne_eq, Nat.reduceEqDiff, not_false_eq_true, decide_true, Nat.reduceLT, opI_move, opI_gtr, opI_eql, opI_pick, runSeq_guard (b := true), runSeq_guard (b := false), beq_self_eq_true, h0, ls, e1, e2, i0, e3]; rfl), rfl, by ((repeat (with_reducible apply Dom.set)); exact hd), by simp only [Tr.get_set_ne, ne_eq, Nat.reduceEqDiff, not_false_eq_true, h0], by simp only [Tr.get_set_self, Tr.get_set_ne, hd _, ne_eq, Nat.reduceEqDiff, not_false_eq_true, decide_true, Nat.reduceLT]⟩
    · have e2 : decide ((l.length : Int) > 1) = false := decide_eq_false (by omega)
      exact ⟨_, _, (by simp only [runSeq_cons, runSeq_nil, evalArgs_nil, evalArgs_tmp, evalArgs_const, val1, putT, Tr.get_set_self, Tr.get_set_ne, Tr.isSome_set, hd _, ne_eq, Nat.reduceEqDiff, not_false_eq_true, decide_true, Nat.reduceLT, opI_move, opI_gtr, opI_eql, opI_pick, runSeq_guard (b := false), beq_self_eq_true, Bool.false_beq, Bool.not_true, h0, ls, e1, e2]; rfl), rfl, by ((repeat (with_reducible apply Dom.set)); exact hd), by simp only [Tr.get_set_ne, ne_eq, Nat.reduceEqDiff, not_false_eq_true, h0], by simp only [Tr.get_set_self, Tr.get_set_ne, hd _, ne_eq, Nat.reduceEqDiff, not_false_eq_true, decide_true, Nat.reduceLT]⟩
  clear h0 hd t
  rintro t _ ⟨rfl, hd, h0, h20⟩
  rename_i M
  refine W_cond (b := false) (by simp only [PArg.eval, h20]) (fun hb => by cases hb) (fun _ => W_skip ?_)
  show W _ _
  refine W_seq (W_seq (W_seqR (by simp only [runSeq_cons, runSeq_nil, evalArgs_nil, evalArgs_const, val1, putT, opI_move]; rfl) (W_block (W_loop (fun k t M' => ∃ (i : Nat), k + i = l.length ∧ (l.take i).all isDig = true ∧ M' = M ∧ Dom t 58 ∧ t.get 0 = some (.str (SB l)) ∧ t.get 4 = some (.int .i64 i)) (k := l.length) (by omega) ?_ ?_))))
  · exact ⟨0, rfl, rfl, rfl, by ((repeat (with_reducible apply Dom.set)); exact hd), by simp only [Tr.get_set_ne, ne_eq, Nat.reduceEqDiff, not_false_eq_true, h0], by simp only [Tr.get_set_self, hd _, decide_true, Nat.reduceLT]; rfl⟩
  clear h0 hd h20
  intro k t M' ⟨i, hk, hall, hM, hd, h0, h4⟩
  subst hM
  refine W_seq (W_seq (W_seqR (by simp only [runSeq_cons, runSeq_nil, evalArgs_nil, evalArgs_tmp, val1, putT, Tr.get_set_self, Tr.get_set_ne, hd _, ne_eq, Nat.reduceEqDiff, not_false_eq_true, decide_true, Nat.reduceLT, opI_move, opI_lss, h0, h4, ls]; rfl) ?_))
  refine W_cond (by simp only [PArg.eval, Tr.get_set_self, Tr.get_set_ne, hd _, ne_eq, Nat.reduceEqDiff, not_false_eq_true, decide_true, Nat.reduceLT]; rfl) (fun hb => W_skip ?_) (fun hb => W_exit ?_)
  · have hi : i < l.length := by simpa using hb
    have i0 := opI_indexStr (M := M') (k := .i64) hi
    have hlt := u8_lt (l.getD i 0)
    show W _ _
    refine W_seq (W_block ?_)
    by_cases hdg : isDig (l.getD i 0) = true
    · have hr : 48 ≤ (l.getD i 0).toNat ∧ (l.getD i 0).toNat ≤ 57 := by simpa [isDig] using hdg
      have e2 : decide (((l.getD i 0).toNat : Int) < 48) = false := decide_eq_false (by omega)
      have e3 : decide (((l.getD i 0).toNat : Int) > 57) = false := decide_eq_false (by omega)
      refine W_seq (W_seqR (by simp only [runSeq_cons, runSeq_nil, evalArgs_nil, evalArgs_tmp, evalArgs_const, val1, putT, Tr.get_set_self, Tr.get_set_ne, Tr.isSome_set, hd _, ne_eq, Nat.reduceEqDiff, not_false_eq_true, decide_true, Nat.reduceLT, opI_move, opI_lss, opI_gtr, opI_pick, runSeq_guard (b := false), beq_self_eq_true, h0, h4, i0, e2, e3]; rfl) ?_)
      refine W_cond (b := false) (by simp only [PArg.eval, Tr.get_set_self, Tr.get_set_ne, hd _, ne_eq, Nat.reduceEqDiff, not_false_eq_true, decide_true, Nat.reduceLT]; try rfl) (fun hb => by cases hb) (fun _ => W_skip ?_)
      show W _ _
      refine W_seqR (by simp only [runSeq_cons, runSeq_nil, evalArgs_nil, evalArgs_tmp, evalArgs_const, val1, putT, Tr.get_set_self, Tr.get_set_ne, hd _, ne_eq, Nat.reduceEqDiff, not_false_eq_true, decide_true, Nat.reduceLT, opI_move, opI_add, h4]; rfl) ?_
      refine ⟨k - 1, by omega, i + 1, by omega, ?_, rfl, by ((repeat (with_reducible apply Dom.set)); exact hd), by simp only [Tr.get_set_ne, ne_eq, Nat.reduceEqDiff, not_false_eq_true, h0], ?_⟩
      · rw [List.take_add_one, List.getElem?_eq_getElem hi, List.all_append, hall, ← getD_mem8 hi]
        show (true && (isDig (l.getD i 0) && true)) = true
        rw [hdg]; rfl
      simp only [Tr.get_set_self, Tr.get_set_ne, hd _, ne_eq, Nat.reduceEqDiff, not_false_eq_true, decide_true, Nat.reduceLT]
      rw [wrapF_small (by omega) (by omega)]; rfl
    · have hr : (l.getD i 0).toNat < 48 ∨ 57 < (l.getD i 0).toNat := by
        have : ¬ (48 ≤ (l.getD i 0).toNat ∧ (l.getD i 0).toNat ≤ 57) := by simpa [isDig] using hdg
        omega
      have hno : l.all isDig = false := by
        cases ha : l.all isDig with
        | false => rfl
        | true =>
          have := List.all_eq_true.1 ha l[i] (List.getElem_mem hi)
          rw [← getD_mem8 hi] at this
          exact absurd this hdg
      have fin : (some (AV.tuple [.int .u64 0, .int .i64 12]) : Option AV) = some (.tuple [.int .u64 (readL l).1, .int .i64 (readL l).2]) := by
        unfold readL; rw [if_pos (.inr (.inl hno))]; rfl
      rcases hr with hr | hr
      · have e2 : decide (((l.getD i 0).toNat : Int) < 48) = true := decide_eq_true (by omega)
        refine W_seq (W_seqR (by simp only [runSeq_cons, runSeq_nil, evalArgs_nil, evalArgs_tmp, evalArgs_const, val1, putT, Tr.get_set_self, Tr.get_set_ne, Tr.isSome_set, hd _, ne_eq, Nat.reduceEqDiff, not_false_eq_true, decide_true, Nat.reduceLT, opI_move, opI_lss, opI_pick, runSeq_guard (b := true), Bool.true_beq, h0, h4, i0, e2]; rfl) ?_)
        refine W_cond (b := true) (by simp only [PArg.eval, Tr.get_set_self, Tr.get_set_ne, hd _, ne_eq, Nat.reduceEqDiff, not_false_eq_true, decide_true, Nat.reduceLT]; try rfl) (fun _ => by refine bad12 _ _ ?_ (fun t' g1 g2 => ⟨_, fin_tmp2 g1 g2, rfl, Option.some.inj fin⟩); ((repeat (with_reducible apply Dom.set)); exact hd)) (fun hb => by cases hb)
      · have e2 : decide (((l.getD i 0).toNat : Int) < 48) = false := decide_eq_false (by omega)
        have e3 : decide (((l.getD i 0).toNat : Int) > 57) = true := decide_eq_true (by omega)
        refine W_seq (W_seqR (by simp only [runSeq_cons, runSeq_nil, evalArgs_nil, evalArgs_tmp, evalArgs_const, val1, putT, Tr.get_set_self, Tr.get_set_ne, Tr.isSome_set, hd _, ne_eq, Nat.reduceEqDiff, not_false_eq_true, decide_true, Nat.reduceLT, opI_move, opI_lss, opI_gtr, opI_pick, runSeq_guard (b := false), beq_self_eq_true, h0, h4, i0, e2, e3]; rfl) ?_)
        refine W_cond (b := true) (by simp only [PArg.eval, Tr.get_set_self, Tr.get_set_ne, hd _, ne_eq, Nat.reduceEqDiff, not_false_eq_true, decide_true, Nat.reduceLT]; try rfl) (fun _ => by refine bad12 _ _ ?_ (fun t' g1 g2 => ⟨_, fin_tmp2 g1 g2, rfl, Option.some.inj fin⟩); ((repeat (with_reducible apply Dom.set)); exact hd)) (fun hb => by cases hb)
  show W _ _
  have hdig : l.all isDig = true := by
    have : ¬ i < l.length := by simpa using hb
    rwa [List.take_of_length_le (by omega)] at hall
  have hrd : readL l = match parseUintM 18446744073709551615 0 l with
    | .ok u => (u, 0)
    | _ => (0, 14) := by
    unfold readL
    rw [if_neg (by
      rintro (h | h | h)
      · exact hne h
      · rw [hdig] at h; cases h
      · rw [hlead'] at h; cases h)]
    cases parseUintM 18446744073709551615 0 l <;> rfl
  refine W_seq (W_seqR (by simp only [runSeq_cons, runSeq_nil, evalArgs_nil, evalArgs_const, val1, putT, opI_move]; rfl) ?_)
  refine W_seq (W_seq (W_seqR (by simp only [runSeq_cons, runSeq_nil, evalArgs_nil, evalArgs_const, val1, putT, opI_move]; rfl) (W_block (W_loop (fun k t M => ∃ (i u : Nat), k + i = l.length ∧ u ≤ 18446744073709551615 ∧ parseUintM 18446744073709551615 0 l = parseUintM 18446744073709551615 u (l.drop i) ∧ M = M' ∧ Dom t 58 ∧ t.get 0 = some (.str (SB l)) ∧ t.get 5 = some (.int .u64 u) ∧ t.get 6 = some (.int .i64 i)) (k := l.length) (by omega) ?_ ?_))))
  · exact ⟨0, 0, rfl, by omega, rfl, rfl, by ((repeat (with_reducible apply Dom.set)); exact hd), by simp only [Tr.get_set_ne, ne_eq, Nat.reduceEqDiff, not_false_eq_true, h0], by simp only [Tr.get_set_self, Tr.get_set_ne, hd _, ne_eq, Nat.reduceEqDiff, not_false_eq_true, decide_true, Nat.reduceLT]; rfl, by simp only [Tr.get_set_self, Tr.get_set_ne, hd _, ne_eq, Nat.reduceEqDiff, not_false_eq_true, decide_true, Nat.reduceLT]; rfl⟩
  clear h0 hd h4 hb hk
  intro k t M ⟨i, u, hk, hu, hp, hM, hd, h0, h5, h6⟩
  subst hM
  refine W_seq (W_seq (W_seqR (by simp only [runSeq_cons, runSeq_nil, evalArgs_nil, evalArgs_tmp, val1, putT, Tr.get_set_self, Tr.get_set_ne, hd _, ne_eq, Nat.reduceEqDiff, not_false_eq_true, decide_true, Nat.reduceLT, opI_move, opI_lss, h0, h6, ls]; rfl) ?_))
  refine W_cond (by simp only [PArg.eval, Tr.get_set_self, Tr.get_set_ne, hd _, ne_eq, Nat.reduceEqDiff, not_false_eq_true, decide_true, Nat.reduceLT]; rfl) (fun hb => W_skip ?_) (fun hb => W_exit ?_)
  · have hi : i < l.length := by simpa using hb
    have i0 := opI_indexStr (M := M) (k := .i64) hi
    have hdg : isDig (l.getD i 0) = true := by rw [getD_mem8 hi]; exact List.all_eq_true.1 hdig _ (List.getElem_mem hi)
    have hr : 48 ≤ (l.getD i 0).toNat ∧ (l.getD i 0).toNat ≤ 57 := by simpa [isDig] using hdg
    obtain ⟨c, hc⟩ : ∃ c : Nat, c = (l.getD i 0).toNat - 48 := ⟨_, rfl⟩
    have w1 : wrapF .u8 (((l.getD i 0).toNat : Int) - 48) = (c : Int) := by rw [show ((l.getD i 0).toNat : Int) - 48 = (c : Int) by omega]; exact wrap8 (by omega)
    have w2 : wrapF .u64 (c : Int) = c := wrapU (by omega)
    have w3 : wrapF .u64 (18446744073709551615 - (c : Int)) = ((18446744073709551615 - c : Nat) : Int) := by rw [show (18446744073709551615 : Int) - (c : Int) = ((18446744073709551615 - c : Nat) : Int) by omega]; exact wrapU (by omega)
    have q1 : opI (.bin .quo) [.int .u64 ((18446744073709551615 - c : Nat) : Int), .int .u64 10] M = some (.val (.int .u64 ((18446744073709551615 - c) / 10 : Nat)) M) := opI_quoU (b := 10) (by omega) (by omega)
    have hstep := pm_cons (M := 18446744073709551615) (acc := u) (r := l.drop (i + 1)) hdg (Nat.le_refl _)
    rw [← hc] at hstep
    have hp' : parseUintM 18446744073709551615 0 l = parseUintM 18446744073709551615 u (l.getD i 0 :: l.drop (i + 1)) := by
      rw [hp, List.drop_eq_getElem_cons hi, getD_mem8 hi]
    rw [hstep] at hp'
    show W _ _
    refine W_seq (W_block (W_seq (W_seqR (by simp only [runSeq_cons, runSeq_nil, evalArgs_nil, evalArgs_tmp, evalArgs_const, val1, putT, Tr.get_set_self, Tr.get_set_ne, hd _, ne_eq, Nat.reduceEqDiff, not_false_eq_true, decide_true, Nat.reduceLT, opI_move, opI_sub, h0, h6, i0, w1, opI_conv, w2]; rfl) ?_)))
    by_cases hov : u > (18446744073709551615 - c) / 10
    · have e2 : decide ((u : Int) > (((18446744073709551615 - c) / 10 : Nat) : Int)) = true := decide_eq_true (by omega)
      rw [if_pos (by omega)] at hp'
      refine W_seq (W_seq (W_seqR (by simp only [runSeq_cons, runSeq_nil, evalArgs_nil, evalArgs_tmp, evalArgs_const, val1, putT, Tr.get_set_self, Tr.get_set_ne, hd _, ne_eq, Nat.reduceEqDiff, not_false_eq_true, decide_true, Nat.reduceLT, opI_move, opI_gtr, opI_sub, h5, w3, q1, e2]; rfl) ?_))
      refine W_cond (b := true) (by simp only [PArg.eval, Tr.get_set_self, Tr.get_set_ne, hd _, ne_eq, Nat.reduceEqDiff, not_false_eq_true, decide_true, Nat.reduceLT]; try rfl) (fun _ => ?_) (fun hb => by cases hb)
      refine W_seq (W_seqR (by simp only [runSeq_cons, runSeq_nil, evalArgs_nil, evalArgs_const, val1, putT, opI_move]; rfl) (W_ret ?_))
      refine ⟨_, fin_tmp2 (by simp only [Tr.get_set_self, Tr.get_set_ne, hd _, ne_eq, Nat.reduceEqDiff, not_false_eq_true, decide_true, Nat.reduceLT]; try rfl) (by simp only [Tr.get_set_self, Tr.get_set_ne, hd _, ne_eq, Nat.reduceEqDiff, not_false_eq_true, decide_true, Nat.reduceLT]; try rfl), rfl, ?_⟩
      rw [hrd, hp']; rfl
    · have e2 : decide ((u : Int) > (((18446744073709551615 - c) / 10 : Nat) : Int)) = false := decide_eq_false (by omega)
      rw [if_neg (by omega)] at hp'
      refine W_seq (W_seq (W_seqR (by simp only [runSeq_cons, runSeq_nil, evalArgs_nil, evalArgs_tmp, evalArgs_const, val1, putT, Tr.get_set_self, Tr.get_set_ne, hd _, ne_eq, Nat.reduceEqDiff, not_false_eq_true, decide_true, Nat.reduceLT, opI_move, opI_gtr, opI_sub, h5, w3, q1, e2]; rfl) ?_))
      refine W_cond (b := false) (by simp only [PArg.eval, Tr.get_set_self, Tr.get_set_ne, hd _, ne_eq, Nat.reduceEqDiff, not_false_eq_true, decide_true, Nat.reduceLT]; try rfl) (fun hb => by cases hb) (fun _ => W_skip ?_)
      show W _ _
      have w4 : wrapF .u64 (10 * (u : Int)) = ((10 * u : Nat) : Int) := by rw [show (10 : Int) * (u : Int) = ((10 * u : Nat) : Int) by omega]; exact wrapU (by omega)
      have w5 : wrapF .u64 (((10 * u : Nat) : Int) + (c : Int)) = ((u * 10 + c : Nat) : Int) := by rw [show ((10 * u : Nat) : Int) + (c : Int) = ((u * 10 + c : Nat) : Int) by omega]; exact wrapU (by omega)
      refine W_seqR (by simp only [runSeq_cons, runSeq_nil, evalArgs_nil, evalArgs_tmp, evalArgs_const, val1, putT, Tr.get_set_self, Tr.get_set_ne, hd _, ne_eq, Nat.reduceEqDiff, not_false_eq_true, decide_true, Nat.reduceLT, opI_move, opI_add, h5, opI_mul, w4, w5]; rfl) ?_
      show W _ _
      refine W_seqR (by simp only [runSeq_cons, runSeq_nil, evalArgs_nil, evalArgs_tmp, evalArgs_const, val1, putT, Tr.get_set_self, Tr.get_set_ne, hd _, ne_eq, Nat.reduceEqDiff, not_false_eq_true, decide_true, Nat.reduceLT, opI_move, opI_add, h6]; rfl) ?_
      refine ⟨k - 1, by omega, i + 1, u * 10 + c, by omega, by omega, hp', rfl, by ((repeat (with_reducible apply Dom.set)); exact hd), by simp only [Tr.get_set_ne, ne_eq, Nat.reduceEqDiff, not_false_eq_true, h0], by simp only [Tr.get_set_self, Tr.get_set_ne, hd _, ne_eq, Nat.reduceEqDiff, not_false_eq_true, decide_true, Nat.reduceLT], ?_⟩
      simp only [Tr.get_set_self, Tr.get_set_ne, hd _, ne_eq, Nat.reduceEqDiff, not_false_eq_true, decide_true, Nat.reduceLT]
      rw [wrapF_small (by omega) (by omega)]; rfl
  show W _ _
  have hie : ¬ i < l.length := by simpa using hb
  rw [List.drop_of_length_le (by omega)] at hp
  refine W_seq (W_seqR (by simp only [runSeq_cons, runSeq_nil, evalArgs_nil, evalArgs_tmp, evalArgs_const, val1, putT, Tr.get_set_self, Tr.get_set_ne, hd _, ne_eq, Nat.reduceEqDiff, not_false_eq_true, decide_true, Nat.reduceLT, opI_move, h5]; rfl) (W_ret ?_))
  refine ⟨_, fin_tmp2 (by simp only [Tr.get_set_self, Tr.get_set_ne, hd _, ne_eq, Nat.reduceEqDiff, not_false_eq_true, decide_true, Nat.reduceLT]; try rfl) (by simp only [Tr.get_set_self, Tr.get_set_ne, hd _, ne_eq, Nat.reduceEqDiff, not_false_eq_true, decide_true, Nat.reduceLT]; try rfl), rfl, ?_⟩
  rw [hrd, hp]; rfl
end Go.Proofs.YtphdlmmllahgkaaDoor.num
