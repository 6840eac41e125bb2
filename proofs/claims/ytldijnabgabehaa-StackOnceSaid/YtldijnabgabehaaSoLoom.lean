/- The loom's calls, walked. -/
import Derived.Test.YtldijnabgabehaaSoDo
namespace Go.Proofs.Ytldijnabgabehaa.so
open Go Go.Vx
def wp : Option (Nat × List Nat) → AV
  | none => .ptr none
  | some (b, _) => .ptr (some (b, 0))
/-- the walks of a loom: what each pointer leads to; they share nothing, and touch nothing of A -/
structure Hold (n : Nat) (A : Nat → Prop) (M : AMem) (ps : List (Option (Nat × List Nat))) (vs : List (Option Wk)) : Prop where
  len : ps.length = vs.length
  some_ : ∀ (j : Nat) (w : Wk), vs[j]? = some (some w) → ∃ b ρ S, ps[j]? = some (some (b, ρ)) ∧ Seen M b ρ S ∧ St n w S
  none_ : ∀ j : Nat, vs[j]? = some none → ps[j]? = some none
  av : ∀ (j b : Nat) (ρ : List Nat), ps[j]? = some (some (b, ρ)) → ∀ c ∈ ρ, ¬ A c
  apart : ∀ (j j' b b' : Nat) (ρ ρ' : List Nat), ps[j]? = some (some (b, ρ)) → ps[j']? = some (some (b', ρ')) → j ≠ j' → ∀ c ∈ ρ, c ∉ ρ'
structure LM (n : Nat) (A : Nat → Prop) (M : AMem) (bm bc bl bw : Nat) (L : List Nat) (vs : List (Option Wk)) : Prop where
  cm : CM M bm bc L
  lm : ∃ st : Int, M.get bl = some (.cells [.ptr (some (bm, 0)), .slice (some (bw, 0)) vs.length vs.length false, .int .i64 st] 0 true none)
  ns : A bm ∧ A bc ∧ A bl ∧ A bw
  dis : bl ≠ bw ∧ bl ≠ bm ∧ bl ≠ bc ∧ bw ≠ bm ∧ bw ≠ bc
  ws : ∃ ps, M.get bw = some (.cells (ps.map wp) 1 true none) ∧ Hold n A M ps vs
  lt : ∀ c, A c → c < M.n
theorem Hold.lt {n : Nat} {A : Nat → Prop} {M : AMem} {ps : List (Option (Nat × List Nat))} {vs : List (Option Wk)} (h : Hold n A M ps vs) (hok : Ok M) : ∀ (j b : Nat) (ρ : List Nat), ps[j]? = some (some (b, ρ)) → (∃ S w, Seen M b ρ S ∧ St n w S ∧ vs[j]? = some (some w)) ∧ ∀ c ∈ ρ, c < M.n := by
  intro j b ρ hj
  have hlt := (List.getElem?_eq_some_iff.1 hj).1
  rw [h.len] at hlt
  cases hv : vs[j]? with
  | none => rw [List.getElem?_eq_none_iff] at hv; omega
  | some o =>
    cases o with
    | none => rw [h.none_ j hv] at hj; cases hj
    | some w =>
      obtain ⟨b', ρ', S, q1, q2, q3⟩ := h.some_ j w hv
      rw [q1] at hj
      simp only [Option.some.injEq, Prod.mk.injEq] at hj
      obtain ⟨rfl, rfl⟩ := hj
      exact ⟨⟨S, w, q2, q3, rfl⟩, q2.lt hok⟩
theorem LM.move {n : Nat} {A A' : Nat → Prop} {M M' : AMem} {bm bc bl bw : Nat} {L : List Nat} {vs : List (Option Wk)} {X : Nat → Prop} (h : LM n A M bm bc bl bw L vs) (hok : Ok M) (e : Ev M M' X) (hX : ∀ c, X c → (c < M.n → A c) ∧ c ≠ bm ∧ c ≠ bc ∧ c ≠ bl ∧ c ≠ bw)
    (hA : ∀ c, A' c → A c ∨ M.n ≤ c) (hN : A' bm ∧ A' bc ∧ A' bl ∧ A' bw) (hl : ∀ c, A' c → c < M'.n) : LM n A' M' bm bc bl bw L vs := by
  obtain ⟨ps, hw, hold⟩ := h.ws
  obtain ⟨st, hst⟩ := h.lm
  refine ⟨h.cm.keep e (fun hx => (hX _ hx).2.1 rfl) (fun hx => (hX _ hx).2.2.1 rfl), ⟨st, e.same _ _ hst rfl (fun hx => (hX _ hx).2.2.2.1 rfl)⟩, hN, h.dis, ⟨ps, e.same _ _ hw rfl (fun hx => (hX _ hx).2.2.2.2 rfl), hold.len, fun j w hv => ?_, hold.none_, fun j b ρ hj c hc ha => ?_, hold.apart⟩, hl⟩
  · obtain ⟨b, ρ, S, q1, q2, q3⟩ := hold.some_ j w hv
    exact ⟨b, ρ, S, q1, q2.keep e fun c hc hx => hold.av j b ρ q1 c hc ((hX c hx).1 (q2.lt hok c hc)), q3⟩
  · rcases hA c ha with h1 | h1
    · exact hold.av j b ρ hj c hc h1
    · have := (hold.lt hok j b ρ hj).2 c hc; omega
/-- one walk is asked -/
theorem LM.ask {n : Nat} {A : Nat → Prop} {M : AMem} {bm bc bl bw : Nat} {L : List Nat} {vs : List (Option Wk)} (h : LM n A M bm bc bl bw L vs) (hok : Okg M) (hh : NH M) {who : Nat} {w w' : Wk} (hw : vs[who]? = some (some w)) {f : FuncId} {xs : List AV} {r : AV}
    (ha : ∀ S, St n w S → ∃ S', Ask f xs S S' r ∧ St n w' S') (hr : r.refs = []) (hx : AV.refsL xs = []) (hs : served f = true) :
    ∃ b, opI (.load false 1) [.ptr (some (bw, who))] M = some (.val (.ptr (some (b, 0))) M) ∧ ∀ d, ∃ M', callF tblS code 100000 (d + 1) f (.ptr (some (b, 0)) :: xs) M = some (r, M') ∧ EvA M M' (fun c => ¬ A c) ∧ LM n A M' bm bc bl bw L (vs.set who (some w')) := by
  obtain ⟨ps, hbw, hold⟩ := h.ws
  obtain ⟨b, ρ, S, p1, p2, p3⟩ := hold.some_ who w hw
  have hvl := (List.getElem?_eq_some_iff.1 hw).1
  have hpl := (List.getElem?_eq_some_iff.1 p1).1
  refine ⟨b, load_own hbw (by rw [List.getElem?_map, p1]; rfl), fun d => ?_⟩
  obtain ⟨S', a1, a2⟩ := ha S p3
  obtain ⟨M', ρ', c1, m1⟩ := call_ask a1 hok p2 hx hs d
  have hren : r.ren (extN ρ M.n) = r := by rw [ren_eq _ (fun b => b) r (by rw [hr]; simp), ren_id]
  rw [hren] at c1
  have hρA := hold.av who b ρ p1
  have e := EvA.of_after m1.after hok hh
  have hsame : ∀ c, A c → M'.get c = M.get c := fun c hc => e.same c (h.lt c hc) fun hx => hρA c hx hc
  refine ⟨M', c1, ⟨e.n, e.g, fun c hc hz => e.same c hc fun hx => hz (hρA c hx), e.ok, e.nh⟩, ?_⟩
  obtain ⟨st, hst⟩ := h.lm
  have hgp : ∀ (o : Option (Nat × List Nat)) j, (ps.set who o)[j]? = if who = j then some o else ps[j]? := fun o j => by
    rw [List.getElem?_set]
    split
    · rename_i e; subst e; first | rfl | rw [if_pos hpl]
    · rfl
  have hgv : ∀ (o : Option Wk) j, (vs.set who o)[j]? = if who = j then some o else vs[j]? := fun o j => by
    rw [List.getElem?_set]
    split
    · rename_i e; subst e; first | rfl | rw [if_pos hvl]
    · rfl
  refine ⟨⟨(hsame _ h.ns.1).trans h.cm.mem, (hsame _ h.ns.2.1).trans h.cm.cel⟩, ⟨st, by rw [List.length_set]; exact (hsame _ h.ns.2.2.1).trans hst⟩, h.ns, h.dis, ⟨ps.set who (some (b, ρ')), ?_, ?_, fun j w2 hv => ?_, fun j hv => ?_, fun j b2 ρ2 hj c hc hac => ?_, fun j j' b2 b3 ρ2 ρ3 h2 h3 hne c hc hc' => ?_⟩, fun c hc => Nat.lt_of_lt_of_le (h.lt c hc) e.n⟩
  · rw [hsame _ h.ns.2.2.2, hbw, List.map_set]
    congr 2
    apply List.ext_getElem?
    intro j
    rw [List.getElem?_set]
    by_cases hj : who = j
    · subst hj
      rw [if_pos rfl, if_pos (by simpa using hpl), List.getElem?_map, p1]
      rfl
    · rw [if_neg hj]
  · rw [List.length_set, List.length_set]; exact hold.len
  · rw [hgv] at hv
    split at hv
    · rename_i e1
      subst e1
      simp only [Option.some.injEq] at hv
      subst hv
      exact ⟨b, ρ', S', by rw [hgp, if_pos rfl], m1.seen, a2⟩
    · rename_i hne
      obtain ⟨b2, ρ2, S2, q1, q2, q3⟩ := hold.some_ j w2 hv
      refine ⟨b2, ρ2, S2, by rw [hgp, if_neg hne, q1], q2.same fun c hc => m1.after.same c (q2.lt hok.1 c hc) (hold.apart j who b2 b ρ2 ρ q1 p1 (Ne.symm hne) c hc), q3⟩
  · rw [hgv] at hv
    split at hv
    · cases hv
    · rename_i hne
      rw [hgp, if_neg hne]
      exact hold.none_ j hv
  · rw [hgp] at hj
    split at hj
    · simp only [Option.some.injEq, Prod.mk.injEq] at hj
      obtain ⟨rfl, rfl⟩ := hj
      rcases m1.own c hc with q | q
      · exact hρA c q hac
      · have := h.lt c hac; omega
    · exact hold.av j b2 ρ2 hj c hc hac
  · rw [hgp] at h2 h3
    split at h2
    · rename_i e1
      split at h3
      · rename_i e2; exact hne (e1.symm.trans e2)
      · simp only [Option.some.injEq, Prod.mk.injEq] at h2
        obtain ⟨rfl, rfl⟩ := h2
        rcases m1.own c hc with q | q
        · exact hold.apart who j' b b3 ρ ρ3 p1 h3 (by rw [e1]; exact hne) c q hc'
        · have := (hold.lt hok.1 j' b3 ρ3 h3).2 c hc'; omega
    · split at h3
      · rename_i e2
        simp only [Option.some.injEq, Prod.mk.injEq] at h3
        obtain ⟨rfl, rfl⟩ := h3
        rcases m1.own c hc' with q | q
        · exact hold.apart j who b2 b ρ2 ρ h2 p1 (by rw [e2]; exact hne) c hc q
        · have := (hold.lt hok.1 j b2 ρ2 h2).2 c hc; omega
      · exact hold.apart j j' b2 b3 ρ2 ρ3 h2 h3 hne c hc hc'
theorem set_same {vs : List (Option Wk)} {who : Nat} {o : Option Wk} (h : vs[who]? = some o) : vs.set who o = vs := by
  apply List.ext_getElem?
  intro j
  rw [List.getElem?_set]
  have := (List.getElem?_eq_some_iff.1 h).1
  by_cases hj : who = j
  · subst hj; rw [if_pos rfl, if_pos this, h]
  · rw [if_neg hj]
theorem LM.ldw {n : Nat} {A : Nat → Prop} {M : AMem} {bm bc bl bw : Nat} {L : List Nat} {vs : List (Option Wk)} (h : LM n A M bm bc bl bw L vs) : opI (.load false 1) [.ptr (some (bl, 1))] M = some (.val (.slice (some (bw, 0)) vs.length vs.length false) M) := by
  obtain ⟨st, hst⟩ := h.lm
  exact load_own hst rfl
theorem LM.ldm {n : Nat} {A : Nat → Prop} {M : AMem} {bm bc bl bw : Nat} {L : List Nat} {vs : List (Option Wk)} (h : LM n A M bm bc bl bw L vs) : opI (.load false 1) [.ptr (some (bl, 0))] M = some (.val (.ptr (some (bm, 0))) M) := by
  obtain ⟨st, hst⟩ := h.lm
  exact load_own hst rfl
theorem LM.nil {n : Nat} {A : Nat → Prop} {M : AMem} {bm bc bl bw : Nat} {L : List Nat} {vs : List (Option Wk)} (h : LM n A M bm bc bl bw L vs) {who : Nat} (hw : vs[who]? = some none) : opI (.load false 1) [.ptr (some (bw, who))] M = some (.val (.ptr none) M) := by
  obtain ⟨ps, hbw, hold⟩ := h.ws
  exact load_own hbw (by rw [List.getElem?_map, hold.none_ who hw]; rfl)
theorem ix1 {b n who : Nat} (h : who < n) (M : AMem) : opI (.indexAddrS 1) [.slice (some (b, 0)) n n false, .int .i64 who] M = some (.val (.ptr (some (b, who))) M) := by rw [op_idx h, Nat.mul_one]
/-- is it under way? -/
def bz : Option Wk → Bool
  | none => false
  | some w => !over w
set_option maxRecDepth 20000 in
set_option maxHeartbeats 8000000 in
theorem check_ok (d : Nat) {n : Nat} {A : Nat → Prop} {M : AMem} {bm bc bl bw : Nat} {L : List Nat} {vs : List (Option Wk)} (h : LM n A M bm bc bl bw L vs) {who : Nat} (hw : who < vs.length) :
    callF tblS code 100000 (d + 1) 38 [.ptr (some (bl, 0)), .int .i64 who] M = some (.int .i64 0, M) := by
  refine Ans.eq (Ans_of (tblS_none ⟨by decide, by decide⟩ _) (show code 38 = some c38 from by kernel_rfl) (by simp) fun t hd ha => ?_)
  have h0 := ha 0 _ rfl
  have h1 := ha 1 _ rfl
  clear ha
  have lw := h.ldw
  refine W_seq (W_seqR (by simp only [runSeq_cons, runSeq_nil, evalArgs_nil, evalArgs_const, val1, putT, opI_move]; rfl) ?_)
  refine W_seq (W_block (W_seq (W_seqR (by simp only [runSeq_cons, runSeq_nil, evalArgs_nil, evalArgs_tmp, evalArgs_const, val1, putT, Tr.get_set_self, Tr.get_set_ne, hd _, ne_eq, Nat.reduceEqDiff, not_false_eq_true, decide_true, Nat.reduceLT, opI_move, h0, op_np]; rfl) ?_)))
  refine W_cond (b := false) (by simp only [PArg.eval, Tr.get_set_self, Tr.get_set_ne, hd _, ne_eq, Nat.reduceEqDiff, not_false_eq_true, decide_true, Nat.reduceLT]; try rfl) (fun hb => by cases hb) (fun _ => ?_)
  have q1 : decide ((who : Int) < 0) = false := decide_eq_false (by omega)
  have q2 : decide ((who : Int) ≥ (vs.length : Int)) = false := decide_eq_false (by omega)
  refine W_seq (W_seqR (by simp only [runSeq_cons, runSeq_nil, evalArgs_nil, evalArgs_tmp, evalArgs_const, val1, putT, Tr.get_set_self, Tr.get_set_ne, Tr.isSome_set, hd _, ne_eq, Nat.reduceEqDiff, not_false_eq_true, decide_true, Nat.reduceLT, opI_move, opI_lss, opI_geq, opI_lenO, opI_fieldP, opI_pick, Nat.zero_add, runSeq_guard (b := false), beq_self_eq_true, h0, h1, opI_nilP, lw, q1, q2]; rfl) ?_)
  refine W_cond (b := false) (by simp only [PArg.eval, Tr.get_set_self, Tr.get_set_ne, hd _, ne_eq, Nat.reduceEqDiff, not_false_eq_true, decide_true, Nat.reduceLT]; try rfl) (fun hb => by cases hb) (fun _ => W_skip ?_)
  show W _ _
  refine W_seq (W_seqR (by simp only [runSeq_cons, runSeq_nil, evalArgs_nil, evalArgs_const, val1, putT, opI_move]; rfl) (W_ret ?_))
  exact ⟨_, fin_tmp (by simp only [Tr.get_set_self, Tr.get_set_ne, Option.isSome_some, hd _, ne_eq, Nat.reduceEqDiff, not_false_eq_true, decide_true, Nat.reduceLT]; try rfl), rfl, rfl⟩
theorem resV_refs (r : Nat × Nat) (b : Bool) : (AV.tuple [resV r, .bool b]).refs = [] := rfl
theorem res_not {w : Wk} (h : over w = false) : res w = (0, 0) := by cases w <;> first | rfl | cases h
theorem ask_res {n : Nat} {w : Wk} : ∀ S, St n w S → ∃ S', Ask fR [] S S' (.tuple [resV (res w), .bool (over w)]) ∧ St n w S' := fun S hS => by
  obtain ⟨h1, h2⟩ := st_shows hS
  cases ho : over w with
  | true => exact ⟨S, h2 ho, hS⟩
  | false => rw [res_not ho]; exact ⟨S, (h1 ho).2, hS⟩
theorem b00 : ((0 : Int) != 0) = false := rfl
theorem EvA.mono {A B : AMem} {X Z : Nat → Prop} (h : EvA A B X) (hx : ∀ b, X b → Z b) : EvA A B Z := ⟨h.n, h.g, fun b hb hz => h.same b hb fun hx' => hz (hx b hx'), h.ok, h.nh⟩
theorem LM.ev {n : Nat} {A : Nat → Prop} {M M' : AMem} {bm bc bl bw : Nat} {L : List Nat} {vs : List (Option Wk)} (h : LM n A M bm bc bl bw L vs) (hok : Ok M) (e : EvA M M' (fun _ => False)) : LM n A M' bm bc bl bw L vs :=
  h.move hok (e.ev hok) (fun _ hx => hx.elim) (fun _ hc => .inl hc) h.ns fun c hc => Nat.lt_of_lt_of_le (h.lt c hc) e.n
set_option maxRecDepth 20000 in
set_option maxHeartbeats 8000000 in
theorem busy_ok (d : Nat) {n : Nat} {A : Nat → Prop} {M : AMem} (hok : Okg M) (hh : NH M) {bm bc bl bw : Nat} {L : List Nat} {vs : List (Option Wk)} (h : LM n A M bm bc bl bw L vs) {who : Nat} {o : Option Wk} (hw : vs[who]? = some o) :
    Ans (callF tblS code 100000 (d + 2)) 20 [.ptr (some (bl, 0)), .int .i64 who] M fun r M' => r = .bool (bz o) ∧ EvA M M' (fun c => ¬ A c) ∧ LM n A M' bm bc bl bw L vs := by
  refine Ans_of (tblS_none ⟨by decide, by decide⟩ _) (show code 20 = some c20 from by kernel_rfl) (by simp) fun t hd ha => ?_
  have h0 := ha 0 _ rfl
  have h1 := ha 1 _ rfl
  clear ha
  have hlt := (List.getElem?_eq_some_iff.1 hw).1
  have cc := check_ok d h hlt
  have lw := h.ldw
  have ix := ix1 (b := bw) hlt
  refine W_seq (W_seqR (by simp only [runSeq_cons, runSeq_nil, evalArgs_nil, evalArgs_const, val1, putT, opI_move]; rfl) ?_)
  cases o with
  | none =>
    have lp := h.nil hw
    refine W_seq (W_seq (W_seqR (by simp only [runSeq_cons, runSeq_nil, evalArgs_nil, evalArgs_tmp, evalArgs_const, val1, putT, Tr.get_set_self, Tr.get_set_ne, Tr.isSome_set, hd _, ne_eq, Nat.reduceEqDiff, not_false_eq_true, decide_true, Nat.reduceLT, opI_move, opI_neq, opI_callF, opI_fieldP, opI_pick, Nat.zero_add, runSeq_guard (b := false), beq_self_eq_true, h0, h1, cc, b00, opI_nilP, lw, ix, lp, op_pp]; rfl) ?_))
    refine W_cond (b := true) (by simp only [PArg.eval, Tr.get_set_self, Tr.get_set_ne, hd _, ne_eq, Nat.reduceEqDiff, not_false_eq_true, decide_true, Nat.reduceLT]; try rfl) (fun _ => ?_) (fun hb => by cases hb)
    refine W_seq (W_seqR (by simp only [runSeq_cons, runSeq_nil, evalArgs_nil, evalArgs_const, val1, putT, opI_move]; rfl) (W_ret ?_))
    exact ⟨_, fin_tmp (by simp only [Tr.get_set_self, Tr.get_set_ne, Option.isSome_some, hd _, ne_eq, Nat.reduceEqDiff, not_false_eq_true, decide_true, Nat.reduceLT]; try rfl), rfl, ⟨Nat.le_refl _, rfl, fun _ _ _ => rfl, hok, hh⟩, h⟩
  | some w =>
    obtain ⟨b, lp, hc⟩ := h.ask hok hh hw (ask_res (n := n) (w := w)) rfl rfl (by decide)
    obtain ⟨M1, c1, e1, l1⟩ := hc d
    rw [set_same hw] at l1
    refine W_seq (W_seq (W_seqR (by simp only [runSeq_cons, runSeq_nil, evalArgs_nil, evalArgs_tmp, evalArgs_const, val1, putT, Tr.get_set_self, Tr.get_set_ne, Tr.isSome_set, hd _, ne_eq, Nat.reduceEqDiff, not_false_eq_true, decide_true, Nat.reduceLT, opI_move, opI_neq, opI_callF, opI_fieldP, opI_pick, Nat.zero_add, runSeq_guard (b := false), beq_self_eq_true, h0, h1, cc, b00, opI_nilP, lw, ix, lp, op_np]; rfl) ?_))
    refine W_cond (b := false) (by simp only [PArg.eval, Tr.get_set_self, Tr.get_set_ne, hd _, ne_eq, Nat.reduceEqDiff, not_false_eq_true, decide_true, Nat.reduceLT]; try rfl) (fun hb => by cases hb) (fun _ => W_skip ?_)
    show W _ _
    obtain ⟨M2, st2, e2, g2, n2⟩ := fill_new (z := [.int .i64 0, .int .u64 0, .slice none 0 0 false]) (new := [.int .i64 ((res w).1 : Int), .int .u64 ((res w).2 : Int), .slice none 0 0 false]) (n := 3) e1.ok e1.nh rfl rfl rfl
    have c1' : callF tblS code 100000 (d + 1) fR [.ptr (some (b, 0))] M = some (.tuple [.agg [.int .i64 ((res w).1 : Int), .int .u64 ((res w).2 : Int), .slice none 0 0 false], .bool (over w)], M1) := c1
    refine W_seq (W_seqR (by simp only [runSeq_cons, runSeq_nil, evalArgs_nil, evalArgs_tmp, val1, putT, Tr.get_set_self, Tr.get_set_ne, hd _, ne_eq, Nat.reduceEqDiff, not_false_eq_true, decide_true, Nat.reduceLT, opI_move, opI_extract, opI_callF, opI_new, opI_fieldP, Nat.zero_add, h0, h1, opI_nilP, lw, ix, lp, c1', st2, List.getElem?_cons_zero, List.getElem?_cons_succ]; rfl) ?_)
    refine W_seq (W_seqR (by simp only [runSeq_cons, runSeq_nil, evalArgs_nil, evalArgs_tmp, val1, putT, Tr.get_set_self, Tr.get_set_ne, hd _, ne_eq, Nat.reduceEqDiff, not_false_eq_true, decide_true, Nat.reduceLT, opI_move, opI_not]; rfl) (W_ret ?_))
    exact ⟨_, fin_tmp (by simp only [Tr.get_set_self, Tr.get_set_ne, Option.isSome_some, hd _, ne_eq, Nat.reduceEqDiff, not_false_eq_true, decide_true, Nat.reduceLT]; try rfl), rfl, e1.trans e2 (fun _ h => h) (fun _ _ h => h.elim), l1.ev e1.ok.1 e2⟩
end Go.Proofs.Ytldijnabgabehaa.so
