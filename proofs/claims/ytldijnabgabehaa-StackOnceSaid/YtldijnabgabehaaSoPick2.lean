/- A step of the loom, a start, a result: the calls. -/
import Derived.Test.YtldijnabgabehaaSoPick
namespace Go.Proofs.Ytldijnabgabehaa.so
open Go Go.Vx
theorem LM.cells {n : Nat} {A : Nat → Prop} {M M' : AMem} {bm bc bl bw : Nat} {L L' : List Nat} {vs : List (Option Wk)} (h : LM n A M bm bc bl bw L vs) (hok : Ok M) (e : EvA M M' (· = bc)) (hc : CM M' bm bc L') : LM n A M' bm bc bl bw L' vs := by
  obtain ⟨ps, hbw, hold⟩ := h.ws
  obtain ⟨st, hst⟩ := h.lm
  refine ⟨hc, ⟨st, (e.same _ (get_lt hok hst) h.dis.2.2.1).trans hst⟩, h.ns, h.dis, ⟨ps, (e.same _ (get_lt hok hbw) h.dis.2.2.2.2).trans hbw, hold.len, fun j w hv => ?_, hold.none_, hold.av, hold.apart⟩, fun c hc => Nat.lt_of_lt_of_le (h.lt c hc) e.n⟩
  obtain ⟨b, ρ, S, q1, q2, q3⟩ := hold.some_ j w hv
  exact ⟨b, ρ, S, q1, q2.keep (e.ev hok) (fun c hc hx => hold.av j b ρ q1 c hc (by rw [hx]; exact h.ns.2.1)), q3⟩
theorem LM.step {n : Nat} {A : Nat → Prop} {M : AMem} {bm bc bl bw : Nat} {L : List Nat} {vs : List (Option Wk)} (h : LM n A M bm bc bl bw L vs) (hok : Okg M) (hh : NH M) (x : Int) : ∃ M', opI (.store 1) [.ptr (some (bl, 2)), .int .i64 x] M = some (.val (.tuple []) M') ∧ EvA M M' (· = bl) ∧ LM n A M' bm bc bl bw L vs := by
  obtain ⟨ps, hbw, hold⟩ := h.ws
  obtain ⟨st, hst⟩ := h.lm
  obtain ⟨w1, w2, w3, w4⟩ := store1 (step0 hok hh) (Nat.zero_le _) hst (x := .int .i64 x) ⟨rfl, rfl⟩ (o := 2) (by simp)
  refine ⟨_, w1, ⟨Nat.le_of_eq set_n.symm, set_g, fun x _ hx => w4 x hx, w2.ok, step_nh w2 rfl⟩, ⟨(w4 _ (Ne.symm h.dis.2.1)).trans h.cm.mem, (w4 _ (Ne.symm h.dis.2.2.1)).trans h.cm.cel⟩, ⟨x, w3⟩, h.ns, h.dis, ⟨ps, (w4 _ (Ne.symm h.dis.1)).trans hbw, hold.len, fun j w hv => ?_, hold.none_, hold.av, hold.apart⟩, fun c hc => by rw [set_n]; exact h.lt c hc⟩
  obtain ⟨b, ρ, S, q1, q2, q3⟩ := hold.some_ j w hv
  exact ⟨b, ρ, S, q1, q2.same fun c hc => w4 c fun hx => hold.av j b ρ q1 c hc (by rw [hx]; exact h.ns.2.2.1), q3⟩
set_option maxRecDepth 20000 in
set_option maxHeartbeats 8000000 in
theorem pick_okL (d : Nat) {n V T : Nat} {A : Nat → Prop} {M : AMem} (hok : Okg M) (hh : NH M) {bm bc bl bw : Nat} {m : Mem} {vs : List (Option Wk)} (h : LM n A M bm bc bl bw (cellsOf n m) vs) {who : Nat} {w : Wk} (hw : vs[who]? = some (some w)) (ho : over w = false) (hm : Bd n V T m) (hb : BdW n V T w) (hn : 1 ≤ n) (hn2 : n ≤ 4096) (hT : T + 1 < 4294967296) (hV : V < 4294967296) :
    Ans (callF tblS code 100000 (d + 4)) 21 [.ptr (some (bl, 0)), .int .i64 who] M fun r M' => r = .int .i64 0 ∧ EvA M M' (fun c => ¬ A c ∨ c = bc ∨ c = bl) ∧ LM n A M' bm bc bl bw (cellsOf n (step m w).1) (vs.set who (some (step m w).2)) := by
  refine Ans_of (tblS_none ⟨by decide, by decide⟩ _) (show code 21 = some c21 from by kernel_rfl) (by simp) fun t hd ha => ?_
  have h0 := ha 0 _ rfl
  have h1 := ha 1 _ rfl
  clear ha
  have hlt := (List.getElem?_eq_some_iff.1 hw).1
  have ix := ix1 (b := bw) hlt
  refine W_seq (W_seqR (by simp only [runSeq_cons, runSeq_nil, evalArgs_nil, evalArgs_const, val1, putT, opI_move]; rfl) ?_)
  obtain ⟨rw_, M1, c1, rfl, e1, l1⟩ := wants_ok (d + 0) hok hh h hw ho hb hn
  obtain ⟨M2, st2, e2, g2, n2⟩ := fill_new (z := [.int .i64 0, .int .i64 0, .int .u64 0, .int .u64 0]) (new := [.int .i64 ((want n w).1 : Int), .int .i64 ((want n w).2.1 : Int), .int .u64 ((want n w).2.2.1 : Int), .int .u64 ((want n w).2.2.2 : Int)]) (n := 4) e1.ok e1.nh rfl rfl rfl
  have c1' : callF tblS code 100000 (d + 3) 39 [.ptr (some (bl, 0)), .int .i64 who] M = some (.tuple [.agg [.int .i64 ((want n w).1 : Int), .int .i64 ((want n w).2.1 : Int), .int .u64 ((want n w).2.2.1 : Int), .int .u64 ((want n w).2.2.2 : Int)], .int .i64 0], M1) := c1
  refine W_seq (W_seqR (by simp only [runSeq_cons, runSeq_nil, evalArgs_nil, evalArgs_tmp, val1, putT, Tr.get_set_self, Tr.get_set_ne, hd _, ne_eq, Nat.reduceEqDiff, not_false_eq_true, decide_true, Nat.reduceLT, opI_move, opI_extract, opI_callF, opI_new, h0, h1, c1', st2, List.getElem?_cons_zero, List.getElem?_cons_succ]; rfl) ?_)
  have l2 : LM n (fun c => A c ∨ c = M1.n) M2 bm bc bl bw (cellsOf n m) vs := l1.more e1.ok.1 e2 (fun _ h => .inl h) (fun c hc => hc.imp id fun h => by omega) (fun c hc => by
    rcases hc with hc | hc
    · have := l1.lt c hc; have := e2.n; omega
    · omega)
  refine W_seq (W_seq (W_seqR (by simp only [runSeq_cons, runSeq_nil, evalArgs_nil, evalArgs_tmp, evalArgs_const, val1, putT, Tr.get_set_self, Tr.get_set_ne, hd _, ne_eq, Nat.reduceEqDiff, not_false_eq_true, decide_true, Nat.reduceLT, opI_move, opI_neq, b00]; rfl) ?_))
  refine W_cond (b := false) (by simp only [PArg.eval, Tr.get_set_self, Tr.get_set_ne, hd _, ne_eq, Nat.reduceEqDiff, not_false_eq_true, decide_true, Nat.reduceLT]; try rfl) (fun hb => by cases hb) (fun _ => W_skip ?_)
  show W _ _
  obtain ⟨st, hst⟩ := l2.lm
  have ls : opI (.load false 1) [.ptr (some (bl, 2))] M2 = some (.val (.int .i64 st) M2) := load_own hst rfl
  obtain ⟨M3, st3, e3, l3⟩ := l2.step e2.ok e2.nh (wrapF .i64 (st + 1))
  refine W_seq (W_seqR (by simp only [runSeq_cons, runSeq_nil, evalArgs_nil, evalArgs_tmp, evalArgs_const, val1, putT, Tr.get_set_self, Tr.get_set_ne, hd _, ne_eq, Nat.reduceEqDiff, not_false_eq_true, decide_true, Nat.reduceLT, opI_move, opI_add, opI_fieldP, Nat.zero_add, h0, opI_nilP, ls, st3]; rfl) ?_)
  have nb : M1.n ≠ bl ∧ M1.n ≠ bc := by
    have := l1.lt _ l1.ns.2.2.1
    have := l1.lt _ l1.ns.2.1
    constructor <;> omega
  have g3 : M3.get M1.n = _ := (e3.same M1.n n2 nb.1).trans g2
  obtain ⟨hk, hcl⟩ := want_ok ho hb hn
  have hcl' : (want n w).2.1 < (cellsOf n m).length := by rw [cells_len]; exact hcl
  have hdo := step_do hm hb ho hn2
  rw [show want n w = ((want n w).1, (want n w).2.1, (want n w).2.2.1, (want n w).2.2.2) from rfl, doL_now hk hcl'] at hdo
  obtain ⟨d1, d2, d3⟩ : (cellsOf n m).getD (want n w).2.1 0 = (told m w).1 ∧ (now (want n w).1 (want n w).2.2.1 (want n w).2.2.2 ((cellsOf n m).getD (want n w).2.1 0)).2 = (told m w).2 ∧ (cellsOf n m).set (want n w).2.1 (now (want n w).1 (want n w).2.2.1 (want n w).2.2.2 ((cellsOf n m).getD (want n w).2.1 0)).1 = cellsOf n (step m w).1 := by
    simp only [Prod.mk.injEq] at hdo
    exact hdo
  obtain ⟨rd, M4, c4, rfl, e4, hc4⟩ := do_ok (d + 1) e3.ok e3.nh l3.cm (want n w).2.2.1 (want n w).2.2.2 hk hcl'
  rw [d2, d1] at c4
  rw [d3] at hc4
  have l4 := l3.cells e3.ok.1 e4 hc4
  have LA := load_agg (n := 4) g3 rfl
  have hh3 := held_none e3.ok.1
  have lm3 := l3.ldm
  refine W_seq (W_mix rfl (by simp only [sameN_self, evalArgs_nil, evalArgs_tmp, val1, putT, Tr.get_set_self, Tr.get_set_ne, hd _, ne_eq, Nat.reduceEqDiff, not_false_eq_true, decide_true, Nat.reduceLT, opI_move, opI_extract, opI_callF, opI_fieldP, Nat.add_zero, runMix_nil, runMix_read, runMix_eff, h0, opI_nilP, lm3, LA, c4, hh3, List.getElem?_cons_zero, List.getElem?_cons_succ]; rfl) ?_)
  refine W_seq (W_seq (W_seqR (by simp only [runSeq_cons, runSeq_nil, evalArgs_nil, evalArgs_tmp, evalArgs_const, val1, putT, Tr.get_set_self, Tr.get_set_ne, Tr.isSome_set, Option.isSome_some, hd _, ne_eq, Nat.reduceEqDiff, not_false_eq_true, decide_true, Nat.reduceLT, opI_move, opI_neq, b00]; rfl) ?_))
  refine W_cond (b := false) (by simp only [PArg.eval, Tr.get_set_self, Tr.get_set_ne, hd _, ne_eq, Nat.reduceEqDiff, not_false_eq_true, decide_true, Nat.reduceLT]; try rfl) (fun hb => by cases hb) (fun _ => W_skip ?_)
  show W _ _
  obtain ⟨b, lp, hc⟩ := l4.ask e4.ok e4.nh hw (f := fG) (xs := [.int .u64 ((told m w).1 : Int), .bool (told m w).2]) (r := .tuple []) (w' := (step m w).2) (fun S hS => st_goes hS hm hb ho hn hn2 hT hV) rfl rfl (by decide)
  obtain ⟨M5, c5, e5, l5⟩ := hc (d + 2)
  have lw := l4.ldw
  refine W_seq (W_seqR (by simp only [runSeq_cons, runSeq_nil, evalArgs_nil, evalArgs_tmp, val1, putT, Tr.get_set_self, Tr.get_set_ne, hd _, ne_eq, Nat.reduceEqDiff, not_false_eq_true, decide_true, Nat.reduceLT, opI_move, opI_callF, opI_fieldP, Nat.zero_add, h0, h1, opI_nilP, lw, ix, lp, c5]; rfl) ?_)
  refine W_seq (W_seqR (by simp only [runSeq_cons, runSeq_nil, evalArgs_nil, evalArgs_const, val1, putT, opI_move]; rfl) (W_ret ?_))
  refine ⟨_, fin_tmp (by simp only [Tr.get_set_self, Tr.get_set_ne, Option.isSome_some, hd _, ne_eq, Nat.reduceEqDiff, not_false_eq_true, decide_true, Nat.reduceLT]; try rfl), rfl, ?_, ?_⟩
  · have a2 : EvA M M2 (fun c => ¬ A c ∨ c = bc ∨ c = bl) := e1.trans e2 (fun _ h => .inl h) (fun _ _ h => h.elim)
    have a3 : EvA M M3 (fun c => ¬ A c ∨ c = bc ∨ c = bl) := a2.trans e3 (fun _ h => h) (fun _ _ h => .inr (.inr h))
    have a4 : EvA M M4 (fun c => ¬ A c ∨ c = bc ∨ c = bl) := a3.trans e4 (fun _ h => h) (fun _ _ h => .inr (.inl h))
    exact a4.trans e5 (fun _ h => h) (fun c hc hz => .inl fun ha => hz (.inl ha))
  · exact l5.move e5.ok.1 (Ev.refl e5.ok e5.nh (fun _ => False)) (fun _ hx => hx.elim) (fun c hc => .inl (.inl hc)) h.ns fun c hc => l5.lt c (.inl hc)
theorem LM.less {n : Nat} {A A' : Nat → Prop} {M : AMem} {bm bc bl bw : Nat} {L : List Nat} {vs : List (Option Wk)} (h : LM n A M bm bc bl bw L vs) (hok : Okg M) (hh : NH M) (h1 : ∀ c, A' c → A c) (hN : A' bm ∧ A' bc ∧ A' bl ∧ A' bw) : LM n A' M bm bc bl bw L vs :=
  h.move hok.1 (Ev.refl hok hh (fun _ => False)) (fun _ hx => hx.elim) (fun c hc => .inl (h1 c hc)) hN fun c hc => h.lt c (h1 c hc)
theorem LM.start {n : Nat} {A : Nat → Prop} {M : AMem} {bm bc bl bw : Nat} {L : List Nat} {vs : List (Option Wk)} {b : Nat} {ρ : List Nat} {S : List ABlk} {w : Wk} (h : LM n (fun c => A c ∨ c ∈ ρ) M bm bc bl bw L vs) (hok : Okg M) (hh : NH M) (hN : A bm ∧ A bc ∧ A bl ∧ A bw) (hS : Seen M b ρ S) (hT : St n w S) (hρ : ∀ c ∈ ρ, ¬ A c) {who : Nat} (hw : who < vs.length) :
    ∃ M', opI (.store 1) [.ptr (some (bw, who)), .ptr (some (b, 0))] M = some (.val (.tuple []) M') ∧ EvA M M' (· = bw) ∧ LM n A M' bm bc bl bw L (vs.set who (some w)) := by
  obtain ⟨ps, hbw, hold⟩ := h.ws
  obtain ⟨st, hst⟩ := h.lm
  have hpl : who < ps.length := by rw [hold.len]; exact hw
  obtain ⟨w1, w2, w3, w4⟩ := store1 (step0 hok hh) (Nat.zero_le _) hbw (x := .ptr (some (b, 0))) ⟨rfl, rfl⟩ (o := who) (by simpa using hpl)
  have hav : ∀ (j b2 : Nat) (ρ2 : List Nat), ps[j]? = some (some (b2, ρ2)) → ∀ c ∈ ρ2, ¬ A c ∧ c ∉ ρ := fun j b2 ρ2 hj c hc => ⟨fun ha => hold.av j b2 ρ2 hj c hc (.inl ha), fun ha => hold.av j b2 ρ2 hj c hc (.inr ha)⟩
  have hgp : ∀ (o : Option (Nat × List Nat)) j, (ps.set who o)[j]? = if who = j then some o else ps[j]? := fun o j => by
    rw [List.getElem?_set]
    split
    · rename_i e; subst e; first | rfl | rw [if_pos hpl]
    · rfl
  have hgv : ∀ (o : Option Wk) j, (vs.set who o)[j]? = if who = j then some o else vs[j]? := fun o j => by
    rw [List.getElem?_set]
    split
    · rename_i e; subst e; first | rfl | rw [if_pos hw]
    · rfl
  refine ⟨_, w1, ⟨Nat.le_of_eq set_n.symm, set_g, fun x _ hx => w4 x hx, w2.ok, step_nh w2 rfl⟩, ⟨(w4 _ (Ne.symm h.dis.2.2.2.1)).trans h.cm.mem, (w4 _ (Ne.symm h.dis.2.2.2.2)).trans h.cm.cel⟩, ⟨st, by rw [List.length_set]; exact (w4 _ h.dis.1).trans hst⟩, hN, h.dis, ⟨ps.set who (some (b, ρ)), ?_, ?_, fun j w2 hv => ?_, fun j hv => ?_, fun j b2 ρ2 hj c hc => ?_, fun j j' b2 b3 ρ2 ρ3 h2 h3 hne c hc hc' => ?_⟩, fun c hc => by rw [set_n]; exact h.lt c (.inl hc)⟩
  · rw [w3, List.map_set]; rfl
  · rw [List.length_set, List.length_set]; exact hold.len
  · rw [hgv] at hv
    split at hv
    · rename_i e1
      subst e1
      simp only [Option.some.injEq] at hv
      subst hv
      exact ⟨b, ρ, S, by rw [hgp, if_pos rfl], hS.same fun c hc => w4 c fun hx => hρ c hc (by rw [hx]; exact hN.2.2.2), hT⟩
    · rename_i hne
      obtain ⟨b2, ρ2, S2, q1, q2, q3⟩ := hold.some_ j w2 hv
      exact ⟨b2, ρ2, S2, by rw [hgp, if_neg hne, q1], q2.same fun c hc => w4 c fun hx => (hav j b2 ρ2 q1 c hc).1 (by rw [hx]; exact hN.2.2.2), q3⟩
  · rw [hgv] at hv
    split at hv
    · cases hv
    · rename_i hne
      rw [hgp, if_neg hne]
      exact hold.none_ j hv
  · rw [hgp] at hj
    split at hj
    · simp only [Option.some.injEq, Prod.mk.injEq] at hj
      obtain ⟨rfl, rfl⟩ := hj
      exact hρ c hc
    · exact (hav j b2 ρ2 hj c hc).1
  · rw [hgp] at h2 h3
    split at h2
    · rename_i e1
      split at h3
      · rename_i e2; exact hne (e1.symm.trans e2)
      · simp only [Option.some.injEq, Prod.mk.injEq] at h2
        obtain ⟨rfl, rfl⟩ := h2
        exact (hav j' b3 ρ3 h3 c hc').2 hc
    · split at h3
      · simp only [Option.some.injEq, Prod.mk.injEq] at h3
        obtain ⟨rfl, rfl⟩ := h3
        exact (hav j b2 ρ2 h2 c hc).2 hc'
      · exact hold.apart j j' b2 b3 ρ2 ρ3 h2 h3 hne c hc hc'
set_option maxRecDepth 20000 in
set_option maxHeartbeats 8000000 in
theorem start_ok (d : Nat) {n : Nat} {A : Nat → Prop} {M : AMem} (hok : Okg M) (hh : NH M) {bm bc bl bw : Nat} {L : List Nat} {vs : List (Option Wk)} {b : Nat} {ρ : List Nat} {S : List ABlk} {w : Wk} (h : LM n (fun c => A c ∨ c ∈ ρ) M bm bc bl bw L vs) (hN : A bm ∧ A bc ∧ A bl ∧ A bw) (hS : Seen M b ρ S) (hT : St n w S) (hρ : ∀ c ∈ ρ, ¬ A c)
    {who : Nat} {o : Option Wk} (hw : vs[who]? = some o) (ho : bz o = false) :
    Ans (callF tblS code 100000 (d + 3)) 14 [.ptr (some (bl, 0)), .int .i64 who, .ptr (some (b, 0))] M fun r M' => r = .int .i64 0 ∧ EvA M M' (fun c => ¬ A c ∨ c = bw) ∧ LM n A M' bm bc bl bw L (vs.set who (some w)) := by
  refine Ans_of (tblS_none ⟨by decide, by decide⟩ _) (show code 14 = some c14 from by kernel_rfl) (by simp) fun t hd ha => ?_
  have h0 := ha 0 _ rfl
  have h1 := ha 1 _ rfl
  have h2 := ha 2 _ rfl
  clear ha
  have hlt := (List.getElem?_eq_some_iff.1 hw).1
  have ix := ix1 (b := bw) hlt
  have cc := check_ok (d + 1) h hlt
  refine W_seq (W_seqR (by simp only [runSeq_cons, runSeq_nil, evalArgs_nil, evalArgs_const, val1, putT, opI_move]; rfl) ?_)
  refine W_seq (W_seq (W_seqR (by simp only [runSeq_cons, runSeq_nil, evalArgs_nil, evalArgs_tmp, evalArgs_const, val1, putT, Tr.get_set_self, Tr.get_set_ne, Tr.isSome_set, hd _, ne_eq, Nat.reduceEqDiff, not_false_eq_true, decide_true, Nat.reduceLT, opI_move, opI_pick, runSeq_guard (b := false), beq_self_eq_true, h0, h2, op_np]; rfl) ?_))
  refine W_cond (b := false) (by simp only [PArg.eval, Tr.get_set_self, Tr.get_set_ne, hd _, ne_eq, Nat.reduceEqDiff, not_false_eq_true, decide_true, Nat.reduceLT]; try rfl) (fun hb => by cases hb) (fun _ => W_skip ?_)
  show W _ _
  refine W_seq (W_seq (W_seqR (by simp only [runSeq_cons, runSeq_nil, evalArgs_nil, evalArgs_tmp, val1, putT, Tr.get_set_self, Tr.get_set_ne, hd _, ne_eq, Nat.reduceEqDiff, not_false_eq_true, decide_true, Nat.reduceLT, opI_move, opI_callF, h0, h1, cc]; rfl) ?_))
  refine W_seq (W_seqR (by simp only [runSeq_cons, runSeq_nil, evalArgs_nil, evalArgs_tmp, evalArgs_const, val1, putT, Tr.get_set_self, Tr.get_set_ne, hd _, ne_eq, Nat.reduceEqDiff, not_false_eq_true, decide_true, Nat.reduceLT, opI_move, opI_neq, b00]; rfl) ?_)
  refine W_cond (b := false) (by simp only [PArg.eval, Tr.get_set_self, Tr.get_set_ne, hd _, ne_eq, Nat.reduceEqDiff, not_false_eq_true, decide_true, Nat.reduceLT]; try rfl) (fun hb => by cases hb) (fun _ => W_skip ?_)
  show W _ _
  obtain ⟨rb, M1, c1, rfl, e1, l1⟩ := busy_ok (d + 0) hok hh h hw
  rw [ho] at c1
  refine W_seq (W_seq (W_seqR (by simp only [runSeq_cons, runSeq_nil, evalArgs_nil, evalArgs_tmp, val1, putT, Tr.get_set_self, Tr.get_set_ne, hd _, ne_eq, Nat.reduceEqDiff, not_false_eq_true, decide_true, Nat.reduceLT, opI_move, opI_callF, h0, h1, c1]; rfl) ?_))
  refine W_cond (b := false) (by simp only [PArg.eval, Tr.get_set_self, Tr.get_set_ne, hd _, ne_eq, Nat.reduceEqDiff, not_false_eq_true, decide_true, Nat.reduceLT]; try rfl) (fun hb => by cases hb) (fun _ => W_skip ?_)
  show W _ _
  have hS1 : Seen M1 b ρ S := hS.same fun c hc => e1.same c (hS.lt hok.1 c hc) fun hz => hz (.inr hc)
  obtain ⟨M2, st2, e2, l2⟩ := l1.start e1.ok e1.nh hN hS1 hT hρ hlt
  have lw := l1.ldw
  refine W_seq (W_seqR (by simp only [runSeq_cons, runSeq_nil, evalArgs_nil, evalArgs_tmp, val1, putT, Tr.get_set_self, Tr.get_set_ne, hd _, ne_eq, Nat.reduceEqDiff, not_false_eq_true, decide_true, Nat.reduceLT, opI_move, opI_fieldP, Nat.zero_add, h0, h1, h2, opI_nilP, lw, ix, st2]; rfl) ?_)
  refine W_seq (W_seqR (by simp only [runSeq_cons, runSeq_nil, evalArgs_nil, evalArgs_const, val1, putT, opI_move]; rfl) (W_ret ?_))
  exact ⟨_, fin_tmp (by simp only [Tr.get_set_self, Tr.get_set_ne, Option.isSome_some, hd _, ne_eq, Nat.reduceEqDiff, not_false_eq_true, decide_true, Nat.reduceLT]; try rfl), rfl, e1.trans e2 (fun _ hz => .inl fun ha => hz (.inl ha)) (fun _ _ hz => .inr hz), l2⟩
set_option maxRecDepth 20000 in
set_option maxHeartbeats 8000000 in
theorem result_ok (d : Nat) {n : Nat} {A : Nat → Prop} {M : AMem} (hok : Okg M) (hh : NH M) {bm bc bl bw : Nat} {L : List Nat} {vs : List (Option Wk)} (h : LM n A M bm bc bl bw L vs) {who : Nat} {w : Wk} (hw : vs[who]? = some (some w)) :
    Ans (callF tblS code 100000 (d + 2)) 16 [.ptr (some (bl, 0)), .int .i64 who] M fun r M' => r = .tuple [resV (res w), .bool (over w)] ∧ EvA M M' (fun c => ¬ A c) ∧ LM n A M' bm bc bl bw L vs := by
  refine Ans_of (tblS_none ⟨by decide, by decide⟩ _) (show code 16 = some c16 from by kernel_rfl) (by simp) fun t hd ha => ?_
  have h0 := ha 0 _ rfl
  have h1 := ha 1 _ rfl
  clear ha
  have hlt := (List.getElem?_eq_some_iff.1 hw).1
  have ix := ix1 (b := bw) hlt
  refine W_seq (W_seqR (by simp only [runSeq_cons, runSeq_nil, evalArgs_nil, evalArgs_const, val1, putT, opI_move, opI_new]; rfl) ?_)
  have s0 : Step M (M.push (.cells [.int .i64 0, .int .u64 0, .slice none 0 0 false] 0 true none)) := (Step.refl hok).push (fun _ _ _ _ he => by cases he)
  have e0 := EvA.of_step s0 hh (fun _ => False)
  have g0 := get_push_self (k := .cells [.int .i64 0, .int .u64 0, .slice none 0 0 false] 0 true none) hok.1
  have n0 : (M.push (.cells [.int .i64 0, .int .u64 0, .slice none 0 0 false] 0 true none)).n = M.n + 1 := push_n
  generalize hM1 : M.push (.cells [.int .i64 0, .int .u64 0, .slice none 0 0 false] 0 true none) = M1 at *
  have l1 : LM n (fun c => A c ∨ c = M.n) M1 bm bc bl bw L vs := h.more hok.1 e0 (fun _ h => .inl h) (fun c hc => hc.imp id fun h => by omega) (fun c hc => by
    rcases hc with hc | hc
    · have := h.lt c hc; omega
    · omega)
  have cc := check_ok d l1 hlt
  refine W_seq (W_seq (W_seqR (by simp only [runSeq_cons, runSeq_nil, evalArgs_nil, evalArgs_tmp, evalArgs_const, val1, putT, Tr.get_set_self, Tr.get_set_ne, hd _, ne_eq, Nat.reduceEqDiff, not_false_eq_true, decide_true, Nat.reduceLT, opI_move, opI_neq, opI_callF, h0, h1, cc, b00]; rfl) ?_))
  refine W_cond (b := false) (by simp only [PArg.eval, Tr.get_set_self, Tr.get_set_ne, hd _, ne_eq, Nat.reduceEqDiff, not_false_eq_true, decide_true, Nat.reduceLT]; try rfl) (fun hb => by cases hb) (fun _ => W_skip ?_)
  show W _ _
  obtain ⟨b, lp, hc⟩ := l1.ask e0.ok e0.nh hw (ask_res (n := n) (w := w)) rfl rfl (by decide)
  obtain ⟨M2, c2, e2, l2⟩ := hc d
  rw [set_same hw] at l2
  have c2' : callF tblS code 100000 (d + 1) fR [.ptr (some (b, 0))] M1 = some (.tuple [.agg [.int .i64 ((res w).1 : Int), .int .u64 ((res w).2 : Int), .slice none 0 0 false], .bool (over w)], M2) := c2
  have k0 : M2.get M.n = _ := (e2.same M.n (by omega) (fun hz => hz (.inr rfl))).trans g0
  have st4 := st_all e2.ok e2.nh k0 (new := [.int .i64 ((res w).1 : Int), .int .u64 ((res w).2 : Int), .slice none 0 0 false]) (n := 3) rfl rfl rfl
  have e5 := EvA.set e2.ok e2.nh k0 (new := [.int .i64 ((res w).1 : Int), .int .u64 ((res w).2 : Int), .slice none 0 0 false])
  have g5 : (M2.set M.n (.cells [.int .i64 ((res w).1 : Int), .int .u64 ((res w).2 : Int), .slice none 0 0 false] 0 true none)).get M.n = some (.cells [.int .i64 ((res w).1 : Int), .int .u64 ((res w).2 : Int), .slice none 0 0 false] 0 true none) := by rw [get_set_mem k0, if_pos rfl]
  have lw := l1.ldw
  refine W_seq (W_seqR (by simp only [runSeq_cons, runSeq_nil, evalArgs_nil, evalArgs_tmp, val1, putT, Tr.get_set_self, Tr.get_set_ne, hd _, ne_eq, Nat.reduceEqDiff, not_false_eq_true, decide_true, Nat.reduceLT, opI_move, opI_extract, opI_callF, opI_fieldP, Nat.zero_add, h0, h1, opI_nilP, lw, ix, lp, c2', st4, List.getElem?_cons_zero, List.getElem?_cons_succ]; rfl) (W_ret ?_))
  refine ⟨_, fin_cell2 (by simp only [Tr.get_set_self, Tr.get_set_ne, hd _, ne_eq, Nat.reduceEqDiff, not_false_eq_true, decide_true, Nat.reduceLT]; try rfl) g5 rfl (by simp only [Tr.get_set_self, Tr.get_set_ne, Tr.isSome_set, Option.isSome_some, hd _, ne_eq, Nat.reduceEqDiff, not_false_eq_true, decide_true, Nat.reduceLT]; try rfl), rfl, ?_, ?_⟩
  · have a2 : EvA M M2 (fun c => ¬ A c) := e0.trans e2 (fun _ h => h.elim) (fun c hc hz ha => hz (.inl ha))
    exact a2.trans e5 (fun _ h => h) (fun c hc hz ha => by omega)
  · have l3 : LM n A M2 bm bc bl bw L vs := l2.less e2.ok e2.nh (fun _ h => .inl h) h.ns
    have hb2 := e2.n
    refine l2.move e2.ok.1 (e5.ev e2.ok.1) (fun c hc => ⟨fun _ => .inr hc, ?_, ?_, ?_, ?_⟩) (fun c hc => .inl (.inl hc)) h.ns (fun c hc => by
      have := h.lt c hc
      rw [set_n]; omega)
    · have := h.lt _ h.ns.1; omega
    · have := h.lt _ h.ns.2.1; omega
    · have := h.lt _ h.ns.2.2.1; omega
    · have := h.lt _ h.ns.2.2.2; omega
end Go.Proofs.Ytldijnabgabehaa.so
