/- The walk of Slowest. -/
import Derived.Test.YtoddncakdnmloaaScSlow
namespace Go.Proofs.Ytoddncakdnmloaa.diary
open Go Go.Vx

abbrev z10 : List AV := [.int .i64 0, .int .i64 0, .int .i64 0, .int .i64 0, .int .i64 0, .int .u64 0, .slice none 0 0 false, .int .i64 0, .int .u64 0, .slice none 0 0 false]
theorem flat_rep {z : List AV} : ∀ {n : Nat}, (List.replicate n z).flatten.length = n * z.length
  | 0 => by simp
  | n + 1 => by rw [List.replicate_succ, List.flatten_cons, List.length_append, flat_rep, Nat.succ_mul]; omega
theorem make_els {M0 M : AMem} (h : Step M0 M) {n : Nat} (hn : n ≤ 100000) :
    ∃ M', opI (.makeSlice 10 112 z10) [.int .i64 n, .int .i64 n] M = some (.val (.slice (some (M.n, 0)) n n false) M') ∧ Step M0 M' ∧ M'.n = M.n + 1 ∧ RowI M0 M' 10 M.n (.slice (some (M.n, 0)) n n false) (List.replicate n z10) ∧ ∀ ids, Fr M M' ids := by
  have hE : Els 10 (List.replicate n z10) := fun e he => by rw [(List.mem_replicate.1 he).2]; rfl
  have e : ((List.range (((n : Nat) : Int).toNat * 10)).map fun i => z10.getD (i % 10) (.tuple [])) = (List.replicate n z10).flatten := by
    apply List.ext_getElem?
    intro i
    by_cases hi : i < n * 10
    · have h1 := hE.at_ (i := i / 10) (o := i % 10) (by simp; omega) (by omega)
      rw [show i / 10 * 10 + i % 10 = i by omega] at h1
      rw [h1, List.getElem?_map, List.getElem?_range (by omega), List.getElem_replicate]
      have : i % 10 < 10 := by omega
      rw [Option.map_some, List.getD_eq_getElem?_getD, List.getElem?_eq_getElem (show i % 10 < z10.length by simpa using this)]
      rfl
    · rw [List.getElem?_eq_none (by simp; omega), List.getElem?_eq_none (by rw [hE.len]; simp; omega)]
  refine ⟨M.push (.cells (List.replicate n z10).flatten 10 true none), ?_, h.push (fun _ _ _ _ he => by cases he), rfl, .inr ⟨M.n, n, false, _, 10, none, by simp, by simp, h.grow.n, h.grow.n, get_push_self h.ok.1, by rw [hE.len]; simp, List.take_of_length_le (by rw [hE.len]; simp), fun _ => rfl, rfl, hE, ?_⟩, fun ids => Fr.push h.ok.1 _⟩
  · simp only [opI]
    rw [if_pos ⟨by omega, by omega, by omega, by omega⟩, e]
    simp
  · rw [List.all_eq_true]
    intro y hy
    obtain ⟨e, he, hye⟩ := List.mem_flatten.1 hy
    rw [(List.mem_replicate.1 he).2] at hye
    simp only [z10, List.mem_cons, List.not_mem_nil, or_false] at hye
    rcases hye with rfl | rfl | rfl | rfl | rfl | rfl | rfl | rfl | rfl | rfl <;> rfl
theorem openP_may {es : List Ev} (hn : es.length ≤ 1000) {sps : List Sp} (h : openP es = some sps) : May es ∧ ∀ s ∈ sps, SpIn es s := by
  obtain ⟨hR, hs, hlast⟩ := openP_some hn h
  exact ⟨⟨sorted_of hR.1, fun hl => (hR.1 0 hl).1, hlast⟩, by rw [hs]; exact refSp_in _ (Nat.le_refl _)⟩
/-- spans begin one behind the other -/
theorem refSp_inc {es : List Ev} : ∀ n, n ≤ es.length → (refSp es n).Pairwise (fun a b => a.from_ < b.from_) ∧ ∀ s ∈ refSp es n, s.from_ < n
  | 0, _ => by simp [refSp]
  | n + 1, hn => by
    obtain ⟨h1, h2⟩ := refSp_inc (es := es) n (by omega)
    unfold refSp
    split
    · exact ⟨h1, fun s hs => by have := h2 s hs; omega⟩
    · have hf : ∀ m, (spanTo es n m).from_ = n := by
        intro m
        induction m with
        | zero => rfl
        | succ m ih =>
          show (updS es _ _).from_ = _
          unfold updS
          split <;> exact ih
      refine ⟨?_, fun s hs => ?_⟩
      · rw [List.pairwise_append]
        refine ⟨h1, by simp, fun a ha b hb => ?_⟩
        simp only [List.mem_singleton] at hb
        subst hb
        rw [hf]; exact h2 a ha
      · rcases List.mem_append.1 hs with hs | hs
        · have := h2 s hs; omega
        · simp only [List.mem_singleton] at hs
          subst hs
          rw [hf]; omega
def Inc (sps : List Sp) : Prop := sps.Pairwise fun a b => a.from_ < b.from_
theorem Inc.get {sps : List Sp} (h : Inc sps) {i j : Nat} (hi : i < sps.length) (hj : j < sps.length) (hij : i < j) : sps[i].from_ < sps[j].from_ := List.pairwise_iff_getElem.1 h i j hi hj hij
theorem Inc.nodup {sps : List Sp} (h : Inc sps) : sps.Nodup := List.Pairwise.imp (fun h he => by subst he; omega) h
theorem openP_inc {es : List Ev} (hn : es.length ≤ 1000) {sps : List Sp} (h : openP es = some sps) : Inc sps := by
  obtain ⟨_, hs, _⟩ := openP_some hn h
  rw [hs]; exact (refSp_inc _ (Nat.le_refl _)).1

set_option maxRecDepth 20000 in
set_option maxHeartbeats 8000000 in
theorem slowest_ok {v : AV} {es : List Ev} {n : Int} (d : Nat) (M0 : AMem) (hok : Okg M0) (hv : InEvs M0.g v es) (hn : es.length ≤ 1000) :
    Ans (callF tbl code 100000 (d + 7)) 16 [v, .int .i64 n] M0 fun r M' => Step M0 M' ∧ match openP es with
      | none => r = .tuple [.slice none 0 0 false, .int .i64 13]
      | some sps => ∃ vo out, r = .tuple [vo, .int .i64 0] ∧ RdRow M' vo out ∧ Top (tkS es) (En sps) n.toNat out ∧ out.Nodup := by
  refine Ans_of (tbl_none (by decide) _) (show code 16 = some c16 from by kernel_rfl) (by simp) fun t hd ha => ?_
  have h0 := ha 0 _ rfl
  have h1 := ha 1 _ rfl
  clear ha
  refine W_seq (W_seqR (by simp only [runSeq_cons, runSeq_nil, evalArgs_nil, evalArgs_const, val1, putT, opI_move]; rfl) ?_)
  obtain ⟨r, M1, c1, s1, hp⟩ := open_ok (d + 1) M0 hok hv hn
  have z0 : ((0 : Int) != 0) = false := rfl
  have z13 : ((13 : Int) != 0) = true := rfl
  cases ho : openP es with
  | none =>
    rw [ho] at hp
    simp only at hp
    subst hp
    refine W_seq (W_seqR (by simp only [runSeq_cons, runSeq_nil, evalArgs_nil, evalArgs_tmp, val1, putT, Tr.get_set_self, Tr.get_set_ne, hd _, ne_eq, Nat.reduceEqDiff, not_false_eq_true, decide_true, Nat.reduceLT, opI_move, opI_extract, opI_callF, h0, c1, List.getElem?_cons_zero, List.getElem?_cons_succ]; rfl) ?_)
    refine W_seq (W_seq (W_seqR (by simp only [runSeq_cons, runSeq_nil, evalArgs_nil, evalArgs_tmp, evalArgs_const, val1, putT, Tr.get_set_self, Tr.get_set_ne, hd _, ne_eq, Nat.reduceEqDiff, not_false_eq_true, decide_true, Nat.reduceLT, opI_move, opI_neq, z13]; rfl) ?_))
    refine W_cond (b := true) (by simp only [PArg.eval, Tr.get_set_self, Tr.get_set_ne, hd _, ne_eq, Nat.reduceEqDiff, not_false_eq_true, decide_true, Nat.reduceLT]; try rfl) (fun _ => ?_) (fun hb => by cases hb)
    refine W_seq (W_seqR (by simp only [runSeq_cons, runSeq_nil, evalArgs_nil, evalArgs_tmp, evalArgs_const, val1, putT, Tr.get_set_self, Tr.get_set_ne, hd _, ne_eq, Nat.reduceEqDiff, not_false_eq_true, decide_true, Nat.reduceLT, opI_move]; rfl) (W_ret ?_))
    exact ⟨_, fin_tmp2 (by simp only [Tr.get_set_self, Tr.get_set_ne, Option.isSome_some, hd _, ne_eq, Nat.reduceEqDiff, not_false_eq_true, decide_true, Nat.reduceLT]; try rfl) (by simp only [Tr.get_set_self, Tr.get_set_ne, Tr.isSome_set, Option.isSome_some, hd _, ne_eq, Nat.reduceEqDiff, not_false_eq_true, decide_true, Nat.reduceLT]; try rfl), s1, rfl⟩
  | some sps =>
  rw [ho] at hp
  simp only at hp
  obtain ⟨sv, rfl, hsp⟩ := hp
  obtain ⟨hmay, hin⟩ := openP_may hn ho
  have hinc := openP_inc hn ho
  have hcnt : sps.length ≤ es.length := by
    obtain ⟨_, h, _⟩ := openP_some hn ho
    rw [h]; exact refSp_len
  clear ho
  refine W_seq (W_seqR (by simp only [runSeq_cons, runSeq_nil, evalArgs_nil, evalArgs_tmp, val1, putT, Tr.get_set_self, Tr.get_set_ne, hd _, ne_eq, Nat.reduceEqDiff, not_false_eq_true, decide_true, Nat.reduceLT, opI_move, opI_extract, opI_callF, h0, c1, List.getElem?_cons_zero, List.getElem?_cons_succ]; rfl) ?_)
  refine W_seq (W_seq (W_seqR (by simp only [runSeq_cons, runSeq_nil, evalArgs_nil, evalArgs_tmp, evalArgs_const, val1, putT, Tr.get_set_self, Tr.get_set_ne, hd _, ne_eq, Nat.reduceEqDiff, not_false_eq_true, decide_true, Nat.reduceLT, opI_move, opI_neq, z0]; rfl) ?_))
  refine W_cond (b := false) (by simp only [PArg.eval, Tr.get_set_self, Tr.get_set_ne, hd _, ne_eq, Nat.reduceEqDiff, not_false_eq_true, decide_true, Nat.reduceLT]; try rfl) (fun hb => by cases hb) (fun _ => W_skip ?_)
  show W _ _
  have rS := hsp.rd s1.ok.1
  obtain ⟨sl, hsl, hat⟩ := rd_sl rS
  have g1 : M1.g = M0.g := s1.grow.g
  -- the heap
  have s2 := (Step.refl s1.ok).push (k := .cells [] 0 true none) (fun _ _ _ _ he => by cases he)
  have g2 := get_push_self (k := .cells [] 0 true none) s1.ok.1
  have e2 : opI (.sliceLit 0 [] []) [] M1 = some (.val (.slice (some (M1.n, 0)) 0 0 false) (M1.push (.cells [] 0 true none))) := rfl
  have s3 := s2.push (k := .cells [.slice (some (M1.n, 0)) 0 0 false] 0 true none) (fun _ _ _ _ he => by cases he)
  have g3 := get_push_self (k := .cells [.slice (some (M1.n, 0)) 0 0 false] 0 true none) s2.ok.1
  have g2' := (get_push_old (k := .cells [.slice (some (M1.n, 0)) 0 0 false] 0 true none) s2.ok.1 (show M1.n < M1.n + 1 by omega)).trans g2
  have hT : TSt (tkS es) M1 ((M1.push (.cells [] 0 true none)).push (.cells [.slice (some (M1.n, 0)) 0 0 false] 0 true none)) (M1.n + 1) M1.n [] :=
    ⟨s3, by omega, by omega, by show M1.n + 1 < M1.n + 1 + 1; omega, by show M1.n < M1.n + 1 + 1; omega, fun x hx => by simp at hx, ⟨_, g3, .inr ⟨M1.n, 0, false, [], 0, none, rfl, Nat.le_refl _, Nat.le_refl _, Nat.le_refl _, g2', by simp, by simp, (fun he => by cases he), rfl, fun e he => by simp at he, rfl⟩⟩, fun c h0 hc => by simp at hc⟩
  refine W_seq (W_seqR (by simp only [runSeq_cons, runSeq_nil, evalArgs_nil, evalArgs_tmp, val1, putT, Tr.get_set_self, Tr.get_set_ne, hd _, ne_eq, Nat.reduceEqDiff, not_false_eq_true, decide_true, Nat.reduceLT, opI_move, opI_box, push_n, e2, AV.cells]; rfl) ?_)
  have lS := (rS.grow s3.grow).len
  generalize (M1.push (.cells [] 0 true none)).push (.cells [.slice (some (M1.n, 0)) 0 0 false] 0 true none) = MH at *
  generalize M1.n + 1 = pb at *
  clear s2 g2 e2 s3 g3 g2' c1
  refine W_seq (W_seq (W_seqR (by simp only [runSeq_cons, runSeq_nil, evalArgs_nil, evalArgs_tmp, evalArgs_const, val1, putT, Tr.get_set_self, Tr.get_set_ne, hd _, ne_eq, Nat.reduceEqDiff, not_false_eq_true, decide_true, Nat.reduceLT, opI_move, lS]; rfl) (W_block (W_loop (fun k t M' => ∃ (i γ : Nat) (l ds : List Sl), k + i = sps.length ∧ TSt (tkS es) M1 M' pb γ l ∧ Best (tkS es) n.toNat (PE sl i) l ds ∧ Dom t 76 ∧ t.get 0 = some v ∧ t.get 1 = some (.int .i64 n) ∧ t.get 8 = some (.ptr (some (pb, 0))) ∧ t.get 23 = some sv ∧ t.get 24 = some (.int .i64 sps.length) ∧ t.get 25 = some (.int .i64 i)) (k := sps.length) (by omega) ?_ ?_))))
  · exact ⟨0, _, [], [], rfl, hT, ⟨by simp [PE], by simp [PE], fun d hd => by simp at hd⟩, by ((repeat (with_reducible apply Dom.set)); exact hd), by simp only [Tr.get_set_ne, ne_eq, Nat.reduceEqDiff, not_false_eq_true, h0], by simp only [Tr.get_set_ne, ne_eq, Nat.reduceEqDiff, not_false_eq_true, h1], by simp only [Tr.get_set_self, Tr.get_set_ne, hd _, ne_eq, Nat.reduceEqDiff, not_false_eq_true, decide_true, Nat.reduceLT], by simp only [Tr.get_set_self, Tr.get_set_ne, hd _, ne_eq, Nat.reduceEqDiff, not_false_eq_true, decide_true, Nat.reduceLT], by simp only [Tr.get_set_self, Tr.get_set_ne, hd _, ne_eq, Nat.reduceEqDiff, not_false_eq_true, decide_true, Nat.reduceLT], by simp only [Tr.get_set_self, Tr.get_set_ne, hd _, ne_eq, Nat.reduceEqDiff, not_false_eq_true, decide_true, Nat.reduceLT]; rfl⟩
  clear h0 h1 hd hT lS MH
  intro k t M ⟨i, γ, l, ds, hk, hT, hB, hd, h0, h1, h8, h23, h24, h25⟩
  have hll : l.length ≤ i := by
    have := hB.len
    have := PE_le (sl := sl) (i := i)
    omega
  refine W_seq (W_seqR (by simp only [runSeq_cons, runSeq_nil, evalArgs_nil, evalArgs_tmp, val1, putT, opI_lss, h24, h25]; rfl) (W_seq ?_))
  refine W_cond (by simp only [PArg.eval, Tr.get_set_self, hd _, decide_true, Nat.reduceLT]; rfl) (fun hb => ?_) (fun hb => ?_)
  · have hi : i < sps.length := by simpa using hb
    have hst : Step M1 M := hT.1
    obtain ⟨p, pp, p1, p2, _⟩ := hat M hst.grow i hi
    obtain ⟨hs1, hs2⟩ := hsl i hi
    have hxok := hs2.ok
    have s2 := hst.push (k := .cells z10 0 true none) (fun _ _ _ _ he => by cases he)
    have g2 := get_push_self (k := .cells z10 0 true none) hst.ok.1
    obtain ⟨e3, s3, g3, k3⟩ := store_all (n := 10) (new := cS (sl i)) s2 hst.grow.n g2 rfl rfl (cS_one hxok)
    have hT4 := hT.frame s3 (show M.n ≤ M.n + 1 by omega) ((Fr.push hst.ok.1 (.cells z10 0 true none) (ids := (· = M.n))).trans (Fr.set (k := .cells (cS (sl i)) 0 true none) g2)) (by have := hT.2.2.2.1; omega) (by have := hT.2.2.2.2.1; omega)
    refine W_skip (W_seq (W_block (W_seq (W_seqR (by simp only [runSeq_cons, runSeq_nil, evalArgs_nil, evalArgs_tmp, val1, putT, Tr.get_set_self, Tr.get_set_ne, hd _, ne_eq, Nat.reduceEqDiff, not_false_eq_true, decide_true, Nat.reduceLT, opI_new, h23, h25, p1, p2, e3]; rfl) ?_))))
    have hnb : M.n < ((M.push (.cells z10 0 true none)).set M.n (.cells (cS (sl i)) 0 true none)).n := Nat.lt_succ_self _
    clear p1 p2 e3 s2 g2 k3 hT
    generalize (M.push (.cells z10 0 true none)).set M.n (.cells (cS (sl i)) 0 true none) = MB at *
    have L3 := load_own (o := 3) g3 rfl
    have h25n : wrapF .i64 ((i : Int) + 1) = ((i + 1 : Nat) : Int) := by rw [wrapF_small (by omega) (by omega)]; rfl
    have hPE := PE_succ (sl := sl) (i := i)
    show W _ _
    by_cases ct : (sl i).s.to < 0
    · have e1 : decide ((sl i).s.to < 0) = true := decide_eq_true ct
      rw [if_neg (by omega), List.append_nil] at hPE
      refine W_seq (W_seq (W_seqR (by simp only [runSeq_cons, runSeq_nil, evalArgs_nil, evalArgs_tmp, evalArgs_const, val1, putT, Tr.get_set_self, Tr.get_set_ne, Tr.isSome_set, hd _, ne_eq, Nat.reduceEqDiff, not_false_eq_true, decide_true, Nat.reduceLT, opI_move, opI_lss, opI_fieldP, opI_pick, Nat.zero_add, runSeq_guard (b := true), Bool.true_beq, L3, e1]; rfl) ?_))
      refine W_cond (b := true) (by simp only [PArg.eval, Tr.get_set_self, Tr.get_set_ne, hd _, ne_eq, Nat.reduceEqDiff, not_false_eq_true, decide_true, Nat.reduceLT]; try rfl) (fun _ => W_exit ?_) (fun hb => by cases hb)
      show W _ _
      refine W_seqR (by simp only [runSeq_cons, runSeq_nil, evalArgs_nil, evalArgs_tmp, evalArgs_const, val1, putT, Tr.get_set_self, Tr.get_set_ne, hd _, ne_eq, Nat.reduceEqDiff, not_false_eq_true, decide_true, Nat.reduceLT, opI_move, opI_add, h25, h25n]; rfl) ?_
      exact ⟨k - 1, by omega, i + 1, γ, l, ds, by omega, hT4, by rw [hPE]; exact hB, by ((repeat (with_reducible apply Dom.set)); exact hd), by simp only [Tr.get_set_ne, ne_eq, Nat.reduceEqDiff, not_false_eq_true, h0], by simp only [Tr.get_set_ne, ne_eq, Nat.reduceEqDiff, not_false_eq_true, h1], by simp only [Tr.get_set_ne, ne_eq, Nat.reduceEqDiff, not_false_eq_true, h8], by simp only [Tr.get_set_ne, ne_eq, Nat.reduceEqDiff, not_false_eq_true, h23], by simp only [Tr.get_set_ne, ne_eq, Nat.reduceEqDiff, not_false_eq_true, h24], by simp only [Tr.get_set_self, Tr.get_set_ne, hd _, ne_eq, Nat.reduceEqDiff, not_false_eq_true, decide_true, Nat.reduceLT]⟩
    have e1 : decide ((sl i).s.to < 0) = false := decide_eq_false ct
    rw [if_pos (by omega)] at hPE
    by_cases cn : n < 1
    · have e2 : decide (n < 1) = true := decide_eq_true cn
      have hN : n.toNat = 0 := by omega
      refine W_seq (W_seq (W_seqR (by simp only [runSeq_cons, runSeq_nil, evalArgs_nil, evalArgs_tmp, evalArgs_const, val1, putT, Tr.get_set_self, Tr.get_set_ne, Tr.isSome_set, hd _, ne_eq, Nat.reduceEqDiff, not_false_eq_true, decide_true, Nat.reduceLT, opI_move, opI_lss, opI_fieldP, opI_pick, Nat.zero_add, runSeq_guard (b := false), beq_self_eq_true, h1, L3, e1, e2]; rfl) ?_))
      refine W_cond (b := true) (by simp only [PArg.eval, Tr.get_set_self, Tr.get_set_ne, hd _, ne_eq, Nat.reduceEqDiff, not_false_eq_true, decide_true, Nat.reduceLT]; try rfl) (fun _ => W_exit ?_) (fun hb => by cases hb)
      show W _ _
      refine W_seqR (by simp only [runSeq_cons, runSeq_nil, evalArgs_nil, evalArgs_tmp, evalArgs_const, val1, putT, Tr.get_set_self, Tr.get_set_ne, hd _, ne_eq, Nat.reduceEqDiff, not_false_eq_true, decide_true, Nat.reduceLT, opI_move, opI_add, h25, h25n]; rfl) ?_
      rw [hN] at hB
      exact ⟨k - 1, by omega, i + 1, γ, l, ds ++ [sl i], by omega, hT4, by rw [hPE, hN]; exact hB.skip, by ((repeat (with_reducible apply Dom.set)); exact hd), by simp only [Tr.get_set_ne, ne_eq, Nat.reduceEqDiff, not_false_eq_true, h0], by simp only [Tr.get_set_ne, ne_eq, Nat.reduceEqDiff, not_false_eq_true, h1], by simp only [Tr.get_set_ne, ne_eq, Nat.reduceEqDiff, not_false_eq_true, h8], by simp only [Tr.get_set_ne, ne_eq, Nat.reduceEqDiff, not_false_eq_true, h23], by simp only [Tr.get_set_ne, ne_eq, Nat.reduceEqDiff, not_false_eq_true, h24], by simp only [Tr.get_set_self, Tr.get_set_ne, hd _, ne_eq, Nat.reduceEqDiff, not_false_eq_true, decide_true, Nat.reduceLT]⟩
    have e2 : decide (n < 1) = false := decide_eq_false cn
    refine W_seq (W_seq (W_seqR (by simp only [runSeq_cons, runSeq_nil, evalArgs_nil, evalArgs_tmp, evalArgs_const, val1, putT, Tr.get_set_self, Tr.get_set_ne, Tr.isSome_set, hd _, ne_eq, Nat.reduceEqDiff, not_false_eq_true, decide_true, Nat.reduceLT, opI_move, opI_lss, opI_fieldP, opI_pick, Nat.zero_add, runSeq_guard (b := false), beq_self_eq_true, h1, L3, e1, e2]; rfl) ?_))
    refine W_cond (b := false) (by simp only [PArg.eval, Tr.get_set_self, Tr.get_set_ne, hd _, ne_eq, Nat.reduceEqDiff, not_false_eq_true, decide_true, Nat.reduceLT]; try rfl) (fun hb => by cases hb) (fun _ => W_skip ?_)
    show W _ _
    have L10 := loads_own (o := 0) (n := 10) g3 (by simp [cS])
    have L10' : opI (.load true 10) [.ptr (some (M.n, 0))] MB = some (.val (.agg (cS (sl i))) MB) := L10
    have hend : Ended es (sl i).s := ended_of (by rw [hs1]; exact hin _ (List.getElem_mem hi)) (by omega)
    obtain ⟨_, MC, c4, rfl, s4⟩ := took_ok (d + 5) MB s3.ok (by rw [s3.grow.g, g1]; exact hv) hmay hend
    have g4 := (s4.grow.get _ hnb).trans g3
    have M10 := loads_own (o := 0) (n := 10) g4 (by simp [cS])
    have M10' : opI (.load true 10) [.ptr (some (M.n, 0))] MC = some (.val (.agg (cS (sl i))) MC) := M10
    have hT5 := hT4.frame (s3.trans s4) s4.grow.n (Fr.grow s3.ok.1 s4.grow (ids := fun _ => False)) (fun h => h) (fun h => h)
    obtain ⟨_, MD, c5, γ', l1, hT6, hp6⟩ := hT5.push d (by omega) hxok
    have hcb := cS_beq hxok
    have bld : ∀ M, opI (.build [.int .i64 0, .int .i64 0, .int .i64 0, .int .i64 0, .int .i64 0, .int .u64 0, .slice none 0 0 false, .int .i64 0, .int .u64 0, .slice none 0 0 false, .int .i64 0] [(0, 10), (10, 1)]) [.agg (cS (sl i)), .int .i64 (tkS es (sl i).s)] M = some (.val (.agg (eS (tkS es) (sl i))) M) := fun _ => rfl
    have mk1 : ∀ (t : TypeId) (u : AV) (M : AMem), opI (.mkIface t) [u] M = some (.val (.iface t u) M) := fun _ _ _ => rfl
    have q0 := held_none s3.ok.1
    have q1 := (s3.trans s4).nh MB.n s3.grow.n
    refine W_seq (W_trace (M' := MD) rfl (by simp only [sameN_self, evalArgs_nil, evalArgs_tmp, val1, putT, Tr.get_set_self, Tr.get_set_ne, hd _, ne_eq, Nat.reduceEqDiff, not_false_eq_true, decide_true, Nat.reduceLT, opI_move, opI_callF, trace_nil, trace_read, trace_eff, addR_some, addE_some, Bool.false_and, Bool.and_true, Bool.not_false, h0, h8, mk1, L10', c4, bld, c5, q0, q1]; rfl) (by simp [checkRec, isLoad, sameAt, L10', M10', hcb]) rfl ?_)
    obtain ⟨vh, lh, clen⟩ := hT6.hlen
    have clen' := clen (d + 5)
    have hl1 := hp6.length_eq
    simp only [List.length_append, List.length_cons, List.length_nil] at hl1
    by_cases cg : l1.length ≤ n.toNat
    · have eg : decide ((l1.length : Int) > n) = false := decide_eq_false (by omega)
      refine W_seq (W_seqR (by simp only [runSeq_cons, runSeq_nil, evalArgs_nil, evalArgs_tmp, val1, putT, Tr.get_set_self, Tr.get_set_ne, hd _, ne_eq, Nat.reduceEqDiff, not_false_eq_true, decide_true, Nat.reduceLT, opI_move, opI_gtr, opI_callF, h1, h8, opI_nilP, lh, clen', eg]; rfl) ?_)
      refine W_cond (b := false) (by simp only [PArg.eval, Tr.get_set_self, Tr.get_set_ne, hd _, ne_eq, Nat.reduceEqDiff, not_false_eq_true, decide_true, Nat.reduceLT]; try rfl) (fun hb => by cases hb) (fun _ => W_skip ?_)
      show W _ _
      refine W_seqR (by simp only [runSeq_cons, runSeq_nil, evalArgs_nil, evalArgs_tmp, evalArgs_const, val1, putT, Tr.get_set_self, Tr.get_set_ne, hd _, ne_eq, Nat.reduceEqDiff, not_false_eq_true, decide_true, Nat.reduceLT, opI_move, opI_add, h25, h25n]; rfl) ?_
      exact ⟨k - 1, by omega, i + 1, γ', l1, ds, by omega, hT6, by rw [hPE]; exact hB.keep hp6 cg, by ((repeat (with_reducible apply Dom.set)); exact hd), by simp only [Tr.get_set_ne, ne_eq, Nat.reduceEqDiff, not_false_eq_true, h0], by simp only [Tr.get_set_ne, ne_eq, Nat.reduceEqDiff, not_false_eq_true, h1], by simp only [Tr.get_set_ne, ne_eq, Nat.reduceEqDiff, not_false_eq_true, h8], by simp only [Tr.get_set_ne, ne_eq, Nat.reduceEqDiff, not_false_eq_true, h23], by simp only [Tr.get_set_ne, ne_eq, Nat.reduceEqDiff, not_false_eq_true, h24], by simp only [Tr.get_set_self, Tr.get_set_ne, hd _, ne_eq, Nat.reduceEqDiff, not_false_eq_true, decide_true, Nat.reduceLT]⟩
    · have eg : decide ((l1.length : Int) > n) = true := decide_eq_true (by omega)
      obtain ⟨_, ME, c7, rfl, n7, f7, l', hT7, hp7, hmin⟩ := hT6.pop d (by omega) (by omega)
      refine W_seq (W_seqR (by simp only [runSeq_cons, runSeq_nil, evalArgs_nil, evalArgs_tmp, val1, putT, Tr.get_set_self, Tr.get_set_ne, hd _, ne_eq, Nat.reduceEqDiff, not_false_eq_true, decide_true, Nat.reduceLT, opI_move, opI_gtr, opI_callF, h1, h8, opI_nilP, lh, clen', eg]; rfl) ?_)
      refine W_cond (b := true) (by simp only [PArg.eval, Tr.get_set_self, Tr.get_set_ne, hd _, ne_eq, Nat.reduceEqDiff, not_false_eq_true, decide_true, Nat.reduceLT]; try rfl) (fun _ => ?_) (fun hb => by cases hb)
      refine W_seqR (by simp only [runSeq_cons, runSeq_nil, evalArgs_nil, evalArgs_tmp, val1, putT, Tr.get_set_self, Tr.get_set_ne, hd _, ne_eq, Nat.reduceEqDiff, not_false_eq_true, decide_true, Nat.reduceLT, opI_move, opI_callF, h8, mk1, c7]; rfl) ?_
      show W _ _
      refine W_seqR (by simp only [runSeq_cons, runSeq_nil, evalArgs_nil, evalArgs_tmp, evalArgs_const, val1, putT, Tr.get_set_self, Tr.get_set_ne, hd _, ne_eq, Nat.reduceEqDiff, not_false_eq_true, decide_true, Nat.reduceLT, opI_move, opI_add, h25, h25n]; rfl) ?_
      -- all begin at other places
      have hPmem : ∀ x ∈ l1, x ∈ PE sl (i + 1) := fun x hx => by
        rw [hPE]
        rcases List.mem_append.1 (hp6.mem_iff.1 hx) with h | h
        · exact List.mem_append_left _ (hB.perm.mem_iff.1 (List.mem_append_left _ h))
        · exact List.mem_append_right _ h
      have hnd : l1.Nodup := by
        have hPn : (PE sl (i + 1)).Nodup := by
          have h1 : ((PE sl (i + 1)).map (·.s)).Nodup := by
            have : (PE sl (i + 1)).map (·.s) = En (sps.take (i + 1)) := by
              have := PE_all (sl := sl) (sps := sps.take (i + 1)) (fun j hj => by
                rw [List.length_take] at hj
                rw [(hsl j (by omega)).1, List.getElem_take])
              rwa [List.length_take, Nat.min_eq_left (by omega)] at this
            rw [this]
            exact (hinc.nodup.sublist (List.take_sublist _ _)).sublist List.filter_sublist
          exact List.Pairwise.imp (fun h he => h (by rw [he])) (List.pairwise_map.1 h1)
        rw [hPE] at hPn
        have h2 := (hB.perm.append_right [sl i]).nodup_iff.2 hPn
        rw [List.append_assoc] at h2
        have h3 : (l ++ [sl i] ++ ds).Nodup := (List.Perm.nodup_iff (by
          rw [List.append_assoc]
          exact List.Perm.append_left l List.perm_append_comm)).1 h2
        exact hp6.nodup_iff.2 (List.nodup_append.1 h3).1
      have hdiff : ∀ x ∈ l', x.s.from_ ≠ (l1.getD 0 dSl).s.from_ := by
        intro x hx hfe
        have hnd7 := hp7.nodup_iff.1 hnd
        rw [List.nodup_cons] at hnd7
        obtain ⟨j1, hj1, e1, _⟩ := PE_mem (hPmem x (hp7.mem_iff.2 (List.mem_cons_of_mem _ hx)))
        obtain ⟨j2, hj2, e2, _⟩ := PE_mem (hPmem _ (hp7.mem_iff.2 List.mem_cons_self))
        have hj : j1 = j2 := by
          rw [e1, e2, (hsl j1 (by omega)).1, (hsl j2 (by omega)).1] at hfe
          rcases Nat.lt_trichotomy j1 j2 with h | h | h
          · have := hinc.get (show j1 < sps.length by omega) (show j2 < sps.length by omega) h; omega
          · exact h
          · have := hinc.get (show j2 < sps.length by omega) (show j1 < sps.length by omega) h; omega
        subst hj
        exact hnd7.1 (by rw [e2, ← e1]; exact hx)
      refine ⟨k - 1, by omega, i + 1, γ', l', _, by omega, hT7, by rw [hPE]; exact hB.drop hp6 cg hp7 hmin hdiff, by ((repeat (with_reducible apply Dom.set)); exact hd), by simp only [Tr.get_set_ne, ne_eq, Nat.reduceEqDiff, not_false_eq_true, h0], by simp only [Tr.get_set_ne, ne_eq, Nat.reduceEqDiff, not_false_eq_true, h1], by simp only [Tr.get_set_ne, ne_eq, Nat.reduceEqDiff, not_false_eq_true, h8], by simp only [Tr.get_set_ne, ne_eq, Nat.reduceEqDiff, not_false_eq_true, h23], by simp only [Tr.get_set_ne, ne_eq, Nat.reduceEqDiff, not_false_eq_true, h24], by simp only [Tr.get_set_self, Tr.get_set_ne, hd _, ne_eq, Nat.reduceEqDiff, not_false_eq_true, decide_true, Nat.reduceLT]⟩
  refine W_exit ?_
  have hi : i = sps.length := by simp at hb; omega
  subst hi
  clear h23 h24 h25 hb hk
  have hPall := PE_all (sl := sl) (sps := sps) (fun j hj => (hsl j hj).1)
  show W _ _
  obtain ⟨vh, lh, clen⟩ := hT.hlen
  have clen' := clen (d + 5)
  obtain ⟨M2, e2, s2, n2, r2, f2⟩ := make_els hT.1 (n := l.length) (by omega)
  have hT2 := hT.frame s2 (by omega) (f2 (fun _ => False)) (fun h => h) (fun h => h)
  have w0 : wrapF .i64 ((l.length : Int) - 1) = (l.length : Int) - 1 := wrapF_any (by omega) (by omega)
  have hwp : M.n ≠ pb := by have := hT.2.2.2.1; omega
  have hwg : M.n ≠ γ := by have := hT.2.2.2.2.1; omega
  refine W_seq (W_seqR (by simp only [runSeq_cons, runSeq_nil, evalArgs_nil, evalArgs_tmp, val1, putT, Tr.get_set_self, Tr.get_set_ne, hd _, ne_eq, Nat.reduceEqDiff, not_false_eq_true, decide_true, Nat.reduceLT, opI_move, opI_callF, h8, opI_nilP, lh, clen', e2]; rfl) ?_)
  have lo := (r2.row s2.ok.1).len
  rw [List.length_replicate] at lo
  generalize AV.slice (some (M.n, 0)) l.length l.length false = vo at *
  generalize M.n = wb at *
  clear e2 f2 clen lh clen'
  have hlK : ∃ K, K = l.length := ⟨_, rfl⟩
  obtain ⟨K, hK⟩ := hlK
  have hlow : ∀ x ∈ l, ∃ j, j < sps.length ∧ x = sl j := fun x hx => by
    obtain ⟨j, hj, e, _⟩ := PE_mem (hB.perm.mem_iff.1 (List.mem_append_left _ hx))
    exact ⟨j, hj, e⟩
  have hlnd : (l.map (·.s)).Nodup := by
    have h1 : ((PE sl sps.length).map (·.s)).Nodup := by rw [hPall]; exact hinc.nodup.sublist List.filter_sublist
    have h2 := (hB.perm.map (·.s)).nodup_iff.2 h1
    rw [List.map_append] at h2
    exact (List.nodup_append.1 h2).1
  have hln : l.Nodup := List.Pairwise.imp (fun h he => h (by rw [he])) (List.pairwise_map.1 hlnd)
  have hsame : ∀ x ∈ l, ∀ y ∈ l, x.s.from_ = y.s.from_ → x = y := fun x hx y hy he => by
    obtain ⟨j1, hj1, e1⟩ := hlow x hx
    obtain ⟨j2, hj2, e2⟩ := hlow y hy
    have hj : j1 = j2 := by
      rw [e1, e2, (hsl j1 hj1).1, (hsl j2 hj2).1] at he
      rcases Nat.lt_trichotomy j1 j2 with h | h | h
      · have := hinc.get hj1 hj2 h; omega
      · exact h
      · have := hinc.get hj2 hj1 h; omega
    rw [e1, e2, hj]
  have hlen : l.length ≤ 1000 := by omega
  refine W_seq (W_seq (W_seqR (by simp only [runSeq_cons, runSeq_nil, evalArgs_nil, evalArgs_tmp, evalArgs_const, val1, putT, Tr.get_set_self, Tr.get_set_ne, hd _, ne_eq, Nat.reduceEqDiff, not_false_eq_true, decide_true, Nat.reduceLT, opI_move, opI_sub, lo, w0]; rfl) (W_block (W_loop (fun k t M' => ∃ (l' R : List Sl) (els : List (List AV)), k = l'.length ∧ TSt (tkS es) M1 M' pb γ l' ∧ RowI M1 M' 10 wb vo els ∧ els.length = l.length ∧ els.drop l'.length = R.map cS ∧ (l' ++ R).Perm l ∧ (R.Pairwise fun a b => wS (tkS es) b.s a.s = true) ∧ (∀ r ∈ R, ∀ x ∈ l', wS (tkS es) r.s x.s = true) ∧ Dom t 76 ∧ t.get 8 = some (.ptr (some (pb, 0))) ∧ t.get 11 = some vo ∧ t.get 12 = some (.int .i64 ((l'.length : Int) - 1))) (k := l.length) (by omega) ?_ ?_))))
  · exact ⟨l, [], _, rfl, hT2, r2, by simp, by simp, by simp, List.Pairwise.nil, fun r hr => by simp at hr, by ((repeat (with_reducible apply Dom.set)); exact hd), by simp only [Tr.get_set_ne, ne_eq, Nat.reduceEqDiff, not_false_eq_true, h8], by simp only [Tr.get_set_self, Tr.get_set_ne, hd _, ne_eq, Nat.reduceEqDiff, not_false_eq_true, decide_true, Nat.reduceLT], by simp only [Tr.get_set_self, Tr.get_set_ne, hd _, ne_eq, Nat.reduceEqDiff, not_false_eq_true, decide_true, Nat.reduceLT]⟩
  clear h0 h1 h8 hd hT hT2 s2 n2 r2 lo w0
  intro k t M3 ⟨l', R, els, hk, hT, rr, hel, hdr, hpm, hpw, hwr, hd, h8, h11, h12⟩
  have hl'l : l'.length ≤ l.length := by
    have := hpm.length_eq
    simp only [List.length_append] at this
    omega
  refine W_seq (W_seq (W_seqR (by simp only [runSeq_cons, runSeq_nil, evalArgs_nil, evalArgs_tmp, evalArgs_const, val1, putT, Tr.get_set_self, hd _, decide_true, Nat.reduceLT, opI_move, opI_geq, h12]; rfl) ?_))
  refine W_cond (by simp only [PArg.eval, Tr.get_set_self, Tr.get_set_ne, hd _, ne_eq, Nat.reduceEqDiff, not_false_eq_true, decide_true, Nat.reduceLT]; rfl) (fun hb => W_skip ?_) (fun hb => ?_)
  rotate_left
  · refine W_exit ?_
    have hl0 : l' = [] := by
      have : ¬ ((l'.length : Int) - 1 ≥ 0) := by simpa using hb
      exact List.eq_nil_of_length_eq_zero (by omega)
    subst hl0
    rw [List.length_nil, List.drop_zero] at hdr
    rw [List.nil_append] at hpm
    show W _ _
    refine W_seq (W_seqR (by simp only [runSeq_cons, runSeq_nil, evalArgs_nil, evalArgs_tmp, evalArgs_const, val1, putT, Tr.get_set_self, Tr.get_set_ne, hd _, ne_eq, Nat.reduceEqDiff, not_false_eq_true, decide_true, Nat.reduceLT, opI_move, h11]; rfl) (W_ret ?_))
    refine ⟨_, fin_tmp2 (by simp only [Tr.get_set_self, Tr.get_set_ne, hd _, ne_eq, Nat.reduceEqDiff, not_false_eq_true, decide_true, Nat.reduceLT]; try rfl) (by simp only [Tr.get_set_self, Tr.get_set_ne, hd _, ne_eq, Nat.reduceEqDiff, not_false_eq_true, decide_true, Nat.reduceLT]; try rfl), s1.trans hT.1, vo, R.map (·.s), rfl, ⟨els, rr.row hT.1.ok.1, by rw [hdr]; simp, fun j s hj => ?_⟩, by rw [← hPall]; exact hB.top hpm hpw, (hpm.map (·.s)).nodup_iff.2 hlnd⟩
    rw [List.getElem?_map] at hj
    cases hRj : R[j]? with
    | none => rw [hRj] at hj; cases hj
    | some x =>
      rw [hRj] at hj
      cases hj
      obtain ⟨m, hm, e⟩ := hlow x (hpm.mem_iff.1 (List.mem_of_getElem? hRj))
      have hrd := (hsl m hm).2
      rw [← e] at hrd
      exact ⟨cS x, by rw [hdr, List.getElem?_map, hRj]; rfl, x.va, x.la, rfl, hrd.va.grow hT.1.grow, hrd.la.grow hT.1.grow⟩
  have hl0 : 0 < l'.length := by
    have : ((l'.length : Int) - 1 ≥ 0) := by simpa using hb
    omega
  clear hb
  have hgam : γ ≠ pb := hT.2.2.1
  obtain ⟨_, M4, c4, rfl, n4, f4, l2, hT4, hp4, hmin⟩ := hT.pop d (by omega) hl0
  have hl2 := hp4.length_eq
  simp only [List.length_cons] at hl2
  have hwm : l'.getD 0 dSl ∈ l := hpm.mem_iff.1 (List.mem_append_left _ (hp4.mem_iff.2 List.mem_cons_self))
  have hl2m : ∀ x ∈ l2, x ∈ l := fun x hx => hpm.mem_iff.1 (List.mem_append_left _ (hp4.mem_iff.2 (List.mem_cons_of_mem _ hx)))
  have hwok : (l'.getD 0 dSl).Ok := hT.2.2.2.2.2.1 _ (hp4.mem_iff.2 List.mem_cons_self)
  have hl'n : l'.Nodup := (List.nodup_append.1 (hpm.nodup_iff.2 hln)).1
  have hnd7 := hp4.nodup_iff.1 hl'n
  rw [List.nodup_cons] at hnd7
  have hwR : ∀ r ∈ R, wS (tkS es) r.s (l'.getD 0 dSl).s = true := fun r hr => hwr r hr _ (hp4.mem_iff.2 List.mem_cons_self)
  generalize l'.getD 0 dSl = w at *
  have rr4 := rr.frame f4 (by rintro (h | h) <;> omega)
  have hil : l2.length < els.length := by omega
  obtain ⟨M5, e5, s5, r5, f5, n5⟩ := rr4.put hT4.1 hil (x := .agg (cS w)) (by rw [cells_agg]; rfl) (by rw [cells_agg]; exact cS_one hwok)
  rw [cells_agg] at r5
  have hT5 := hT4.frame s5 (by omega) f5 (fun h => hwp h.symm) (fun h => hwg h.symm)
  have ix := rr4.idx hil M4
  have h12' : (l'.length : Int) - 1 = (l2.length : Int) := by omega
  rw [h12'] at h12
  have mk1 : ∀ (t : TypeId) (u : AV) (M : AMem), opI (.mkIface t) [u] M = some (.val (.iface t u) M) := fun _ _ _ => rfl
  have as1 : ∀ M : AMem, opI (.assertC 71 false (.agg zS)) [.iface 71 (.agg (eS (tkS es) w))] M = some (.val (.agg (eS (tkS es) w)) M) := fun _ => rfl
  have fd1 : ∀ M : AMem, opI (.field 0 10 true) [.agg (eS (tkS es) w)] M = some (.val (.agg (cS w)) M) := fun _ => rfl
  have w1 : wrapF .i64 ((l2.length : Int) - 1) = (l2.length : Int) - 1 := wrapF_any (by omega) (by omega)
  show W _ _
  refine W_seq (W_block (W_seqR (by simp only [runSeq_cons, runSeq_nil, evalArgs_nil, evalArgs_tmp, val1, putT, Tr.get_set_self, Tr.get_set_ne, hd _, ne_eq, Nat.reduceEqDiff, not_false_eq_true, decide_true, Nat.reduceLT, opI_move, opI_callF, h8, h11, h12, mk1, c4, as1, fd1, ix, e5]; rfl) ?_))
  show W _ _
  refine W_seqR (by simp only [runSeq_cons, runSeq_nil, evalArgs_nil, evalArgs_tmp, evalArgs_const, val1, putT, Tr.get_set_self, Tr.get_set_ne, hd _, ne_eq, Nat.reduceEqDiff, not_false_eq_true, decide_true, Nat.reduceLT, opI_move, opI_sub, h12, w1]; rfl) ?_
  refine ⟨l2.length, by omega, l2, w :: R, _, rfl, hT5, r5, by rw [List.length_set]; exact hel, ?_, ?_, ?_, ?_, by ((repeat (with_reducible apply Dom.set)); exact hd), by simp only [Tr.get_set_ne, ne_eq, Nat.reduceEqDiff, not_false_eq_true, h8], by simp only [Tr.get_set_ne, ne_eq, Nat.reduceEqDiff, not_false_eq_true, h11], by simp only [Tr.get_set_self, Tr.get_set_ne, hd _, ne_eq, Nat.reduceEqDiff, not_false_eq_true, decide_true, Nat.reduceLT]⟩
  · rw [show l'.length = l2.length + 1 by omega] at hdr
    rw [List.drop_eq_getElem_cons (by rw [List.length_set]; exact hil), List.getElem_set_self, List.drop_set_of_lt (by omega), hdr]
    rfl
  · have e1 : (l2 ++ w :: R).Perm (w :: (l2 ++ R)) := List.perm_middle
    refine e1.trans ?_
    have e2 := hp4.symm.append_right R
    exact (show (w :: (l2 ++ R)).Perm (l' ++ R) from e2).trans hpm
  · exact List.Pairwise.cons hwR hpw
  · intro r hr x hx
    rcases List.mem_cons.1 hr with rfl | hr
    · exact wS_total (hmin x hx) (fun he => hnd7.1 (by rw [← hsame x (hl2m x hx) r hwm he]; exact hx))
    · exact hwr r hr x (hp4.mem_iff.2 (List.mem_cons_of_mem _ hx))
end Go.Proofs.Ytoddncakdnmloaa.diary
