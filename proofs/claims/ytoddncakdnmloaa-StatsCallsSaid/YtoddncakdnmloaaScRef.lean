/- The walk of the document's Slowest. -/
import Derived.Test.YtoddncakdnmloaaScSlowW
namespace Go.Proofs.Ytoddncakdnmloaa.diary
open Go Go.Vx

theorem nodup_sub {α : Type} [DecidableEq α] : ∀ {l l' : List α}, l.Nodup → (∀ x ∈ l, x ∈ l') → l.length ≤ l'.length
  | [], l', _, _ => by simp
  | x :: l, l', hn, hs => by
    rw [List.nodup_cons] at hn
    have hx : x ∈ l' := hs x List.mem_cons_self
    have h1 := nodup_sub (l := l) (l' := l'.erase x) hn.2 fun y hy => (List.mem_erase_of_ne (fun he => hn.1 (by rw [← he]; exact hy))).2 (hs y (List.mem_cons_of_mem _ hy))
    rw [List.length_erase_of_mem hx] at h1
    have := List.length_pos_of_mem hx
    simp only [List.length_cons]
    omega
theorem make_bools {M0 M : AMem} (h : Step M0 M) {n : Nat} (hn : n ≤ 100000) :
    ∃ M', opI (.makeSlice 1 1 [.bool false]) [.int .i64 n, .int .i64 n] M = some (.val (.slice (some (M.n, 0)) n n false) M') ∧ Step M0 M' ∧ M'.n = M.n + 1 ∧ RowI M0 M' 1 M.n (.slice (some (M.n, 0)) n n false) ((List.replicate n false).map fun b => [.bool b]) ∧ ∀ ids, Fr M M' ids := by
  have hE : Els 1 ((List.replicate n false).map fun b => [AV.bool b]) := fun e he => by
    obtain ⟨b, _, rfl⟩ := List.mem_map.1 he; rfl
  have hfl : ((List.replicate n false).map fun b => [AV.bool b]).flatten = List.replicate n (.bool false) := by
    induction n with
    | zero => rfl
    | succ n ih => 
      rw [List.replicate_succ, List.map_cons, List.flatten_cons, ih (by omega) (fun e he => by obtain ⟨b, _, rfl⟩ := List.mem_map.1 he; rfl), List.replicate_succ]; rfl
  have e : ((List.range (((n : Nat) : Int).toNat * 1)).map fun i => [AV.bool false].getD (i % 1) (.tuple [])) = List.replicate n (.bool false) := by
    apply List.ext_getElem
    · simp
    · intro i h1 h2
      simp [Nat.mod_one]
  refine ⟨M.push (.cells (List.replicate n (.bool false)) 1 true none), ?_, h.push (fun _ _ _ _ he => by cases he), rfl, .inr ⟨M.n, n, false, _, 1, none, by simp, by simp, h.grow.n, h.grow.n, get_push_self h.ok.1, by simp, ?_, fun _ => rfl, rfl, hE, ?_⟩, fun ids => Fr.push h.ok.1 _⟩
  · simp only [opI]
    rw [if_pos ⟨by omega, by omega, by omega, by omega⟩, e]
    simp
  · rw [hfl]; exact List.take_of_length_le (by simp)
  · rw [List.all_eq_true]
    intro y hy
    rw [(List.mem_replicate.1 hy).2]; rfl
section
variable {M0 M : AMem} {γ : Nat} {us : List Bool} {v : AV}
abbrev eB (b : Bool) : List AV := [.bool b]
theorem rowB_at (hv : RowI M0 M 1 γ v (us.map eB)) (hok : Ok M) {i : Nat} (hi : i < us.length) : (∀ M', opI (.indexAddrS 1) [v, .int .i64 i] M' = some (.val (rowp v 1 i) M')) ∧ opI (.load false 1) [rowp v 1 i] M = some (.val (.bool (us.getD i false)) M) := by
  have hi' : i < (us.map eB).length := by rw [List.length_map]; exact hi
  refine ⟨hv.idx hi', ?_⟩
  have := (hv.ld hok (by omega) hi').2 0 (.bool (us.getD i false)) (by rw [List.getElem_map, List.getD_eq_getElem?_getD, List.getElem?_eq_getElem hi]; rfl)
  rwa [padd_z (hv.isP hi')] at this
end
set_option maxRecDepth 20000 in
set_option maxHeartbeats 8000000 in
theorem refslowest_ok {v : AV} {es : List Ev} {n : Int} (d : Nat) (M0 : AMem) (hok : Okg M0) (hv : InEvs M0.g v es) (hn : es.length ≤ 1000) (hmay : May es) :
    Ans (callF tbl code 100000 (d + 2)) 19 [v, .int .i64 n] M0 fun r M' => Step M0 M' ∧ ∃ out, RdRow M' r out ∧ Top (tkS es) (En (refSp es es.length)) n.toNat out ∧ out.Nodup := by
  refine Ans_of (tbl_none (by decide) _) (show code 19 = some c19 from by kernel_rfl) (by simp) fun t hd ha => ?_
  have h0 := ha 0 _ rfl
  have h1 := ha 1 _ rfl
  clear ha
  refine W_seq (W_seqR (by simp only [runSeq_cons, runSeq_nil, evalArgs_nil, evalArgs_const, val1, putT, opI_move]; rfl) ?_)
  obtain ⟨sv, M1, c1, s1, rS⟩ := refspans_ok d M0 hok hv hn
  have hin : ∀ s ∈ refSp es es.length, SpIn es s := refSp_in _ (Nat.le_refl _)
  have hinc : Inc (refSp es es.length) := (refSp_inc _ (Nat.le_refl _)).1
  have hcnt : (refSp es es.length).length ≤ es.length := refSp_len
  generalize refSp es es.length = sps at *
  obtain ⟨sl, hsl, hat⟩ := rd_sl rS
  have g1 : M1.g = M0.g := s1.grow.g
  refine W_seq (W_seqR (by simp only [runSeq_cons, runSeq_nil, evalArgs_nil, evalArgs_tmp, val1, putT, Tr.get_set_self, Tr.get_set_ne, hd _, ne_eq, Nat.reduceEqDiff, not_false_eq_true, decide_true, Nat.reduceLT, opI_move, opI_callF, h0, c1]; rfl) ?_)
  have e2 : opI (.sliceLit 0 [] []) [] M1 = some (.val (.slice (some (M1.n, 0)) 0 0 false) (M1.push (.cells [] 0 true none))) := rfl
  have s2 := (Step.refl s1.ok).push (k := .cells [] 0 true none) (fun _ _ _ _ he => by cases he)
  have g2 := get_push_self (k := .cells [] 0 true none) s1.ok.1
  have r2 : RowI M1 (M1.push (.cells [] 0 true none)) 10 M1.n (.slice (some (M1.n, 0)) 0 0 false) [] := .inr ⟨M1.n, 0, false, [], 0, none, rfl, Nat.le_refl _, Nat.le_refl _, Nat.le_refl _, g2, rfl, rfl, (fun he => by cases he), rfl, fun e he => by simp at he, rfl⟩
  refine W_seq (W_seqR (by simp only [runSeq_cons, runSeq_nil, evalArgs_nil, evalArgs_tmp, val1, putT, Tr.get_set_self, Tr.get_set_ne, hd _, ne_eq, Nat.reduceEqDiff, not_false_eq_true, decide_true, Nat.reduceLT, opI_move, e2]; rfl) ?_)
  have lS := (rS.grow s2.grow).len
  obtain ⟨M3, e3, s3, n3, r3, f3⟩ := make_bools s2 (n := sps.length) (by omega)
  have r2' := r2.frame (f3 (fun _ => False)) (fun h => h)
  have hMn : (M1.push (.cells [] 0 true none)).n = M1.n + 1 := rfl
  refine W_seq (W_seqR (by simp only [runSeq_cons, runSeq_nil, evalArgs_nil, evalArgs_tmp, val1, putT, Tr.get_set_self, Tr.get_set_ne, hd _, ne_eq, Nat.reduceEqDiff, not_false_eq_true, decide_true, Nat.reduceLT, opI_move, push_n, lS, e3]; rfl) ?_)
  rw [hMn] at r3 n3
  generalize AV.slice (some (M1.n + 1, 0)) sps.length sps.length false = vu at *
  have hub : ∃ ub, ub = M1.n + 1 := ⟨_, rfl⟩
  obtain ⟨ub, hub⟩ := hub
  rw [← hub] at r3
  refine W_seq (W_block (W_loop (fun k t M' => ∃ (picks : List Nat) (γ : Nat) (vo : AV) (us : List Bool), k + picks.length = sps.length ∧ Step M1 M' ∧ RowI M1 M' 10 γ vo (picks.map fun i => cS (sl i)) ∧ RowI M1 M' 1 ub vu (us.map eB) ∧ us.length = sps.length ∧ (∀ i, i < sps.length → us.getD i false = decide (i ∈ picks)) ∧ picks.Nodup ∧ (∀ i ∈ picks, i < sps.length ∧ 0 ≤ (sl i).s.to) ∧ γ ≠ ub ∧ γ < M'.n ∧ ub < M'.n ∧ picks.length ≤ n.toNat ∧ (∀ j, j < picks.length → ∀ i, i < sps.length → 0 ≤ (sl i).s.to → i ∉ picks.take j → i = picks.getD j 0 ∨ wS (tkS es) (sl i).s (sl (picks.getD j 0)).s = true) ∧ Dom t 73 ∧ t.get 0 = some v ∧ t.get 1 = some (.int .i64 n) ∧ t.get 5 = some sv ∧ t.get 6 = some vo ∧ t.get 7 = some vu) (k := sps.length) (by omega) ?_ ?_))
  · refine ⟨[], M1.n, _, List.replicate sps.length false, rfl, s3, r2', r3, by simp, fun i hi => ?_, List.nodup_nil, fun i hi => by simp at hi, by omega, by omega, by omega, by simp, fun j hj => by simp at hj, by ((repeat (with_reducible apply Dom.set)); exact hd), by simp only [Tr.get_set_ne, ne_eq, Nat.reduceEqDiff, not_false_eq_true, h0], by simp only [Tr.get_set_ne, ne_eq, Nat.reduceEqDiff, not_false_eq_true, h1], by simp only [Tr.get_set_self, Tr.get_set_ne, hd _, ne_eq, Nat.reduceEqDiff, not_false_eq_true, decide_true, Nat.reduceLT], by simp only [Tr.get_set_self, Tr.get_set_ne, hd _, ne_eq, Nat.reduceEqDiff, not_false_eq_true, decide_true, Nat.reduceLT], by simp only [Tr.get_set_self, Tr.get_set_ne, hd _, ne_eq, Nat.reduceEqDiff, not_false_eq_true, decide_true, Nat.reduceLT]⟩
    rw [List.getD_eq_getElem?_getD, List.getElem?_replicate, if_pos hi]; simp
  clear h0 h1 hd c1 e2 s2 g2 r2 lS e3 s3 n3 r3 f3 r2' hMn
  intro k t M ⟨picks, γ, vo, us, hk, s, ro, ru, hul, hus, hnd, hpk, hgu, hgl, hbl, hpn, hbest, hd, h0, h1, h5, h6, h7⟩
  have lo := (ro.row s.ok.1).len
  rw [List.length_map] at lo
  have hEmem : ∀ x ∈ picks.map (fun i => (sl i).s), x ∈ En sps := fun x hx => by
    obtain ⟨i, hi, rfl⟩ := List.mem_map.1 hx
    obtain ⟨a1, a2⟩ := hpk i hi
    unfold En
    rw [List.mem_filter]
    exact ⟨by rw [(hsl i a1).1]; exact List.getElem_mem a1, by simpa using a2⟩
  have hEof : ∀ e ∈ En sps, ∃ i, i < sps.length ∧ e = (sl i).s ∧ 0 ≤ (sl i).s.to := fun e he => by
    unfold En at he
    rw [List.mem_filter] at he
    obtain ⟨i, hi, rfl⟩ := List.mem_iff_getElem.1 he.1
    exact ⟨i, hi, (hsl i hi).1.symm, by rw [(hsl i hi).1]; simpa using he.2⟩
  have hond : (picks.map fun i => (sl i).s).Nodup := by
    rw [List.Nodup, List.pairwise_map]
    refine List.Pairwise.imp_of_mem ?_ hnd
    intro a b ha hb hab he
    obtain ⟨a1, _⟩ := hpk a ha
    obtain ⟨b1, _⟩ := hpk b hb
    rw [(hsl a a1).1, (hsl b b1).1] at he
    rcases Nat.lt_or_gt_of_ne hab with h | h
    · have := hinc.get a1 b1 h; rw [he] at this; omega
    · have := hinc.get b1 a1 h; rw [he] at this; omega
  have htop : picks.length = min n.toNat (En sps).length → Top (tkS es) (En sps) n.toNat (picks.map fun i => (sl i).s) := fun hlen => by
    refine ⟨by rw [List.length_map]; exact hlen, hEmem, fun j hj e he hne => ?_⟩
    rw [List.length_map] at hj
    obtain ⟨i, hi, rfl, hto⟩ := hEof e he
    have hnp : i ∉ picks.take j := fun hm => hne (by rw [← List.map_take]; exact List.mem_map.2 ⟨i, hm, rfl⟩)
    have := hbest j hj i hi hto hnp
    rw [List.getD_eq_getElem?_getD, List.getElem?_eq_getElem hj, Option.getD_some] at this
    rw [List.getElem_map]
    rcases this with h | h
    · exact .inl (by rw [h])
    · exact .inr h
  have hrd : RdRow M vo (picks.map fun i => (sl i).s) := by
    refine ⟨_, ro.row s.ok.1, by simp, fun j x hj => ?_⟩
    rw [List.getElem?_map] at hj
    cases hpj : picks[j]? with
    | none => rw [hpj] at hj; cases hj
    | some i =>
      rw [hpj] at hj
      cases hj
      obtain ⟨a1, _⟩ := hpk i (List.mem_of_getElem? hpj)
      obtain ⟨_, b2⟩ := hsl i a1
      exact ⟨cS (sl i), by rw [List.getElem?_map, hpj]; rfl, (sl i).va, (sl i).la, rfl, b2.va.grow s.grow, b2.la.grow s.grow⟩
  have hlE := nodup_sub hond hEmem
  rw [List.length_map] at hlE
  refine W_seq (W_seq (W_seqR (by simp only [runSeq_cons, runSeq_nil, evalArgs_nil, evalArgs_tmp, val1, putT, Tr.get_set_self, Tr.get_set_ne, hd _, ne_eq, Nat.reduceEqDiff, not_false_eq_true, decide_true, Nat.reduceLT, opI_move, opI_lss, h1, h6, lo]; rfl) ?_))
  refine W_cond (by simp only [PArg.eval, Tr.get_set_self, Tr.get_set_ne, hd _, ne_eq, Nat.reduceEqDiff, not_false_eq_true, decide_true, Nat.reduceLT]; rfl) (fun hb => W_skip ?_) (fun hb => ?_)
  rotate_left
  · refine W_exit ?_
    have hge : ¬ ((picks.length : Int) < n) := by simpa using hb
    show W _ _
    refine W_seq (W_seqR (by simp only [runSeq_cons, runSeq_nil, evalArgs_nil, evalArgs_tmp, val1, putT, Tr.get_set_self, Tr.get_set_ne, hd _, ne_eq, Nat.reduceEqDiff, not_false_eq_true, decide_true, Nat.reduceLT, opI_move, h6]; rfl) (W_ret ?_))
    exact ⟨_, fin_tmp (by simp only [Tr.get_set_self, Tr.get_set_ne, hd _, ne_eq, Nat.reduceEqDiff, not_false_eq_true, decide_true, Nat.reduceLT]; try rfl), s1.trans s, _, hrd, htop (by omega), hond⟩
  have hlt : (picks.length : Int) < n := by simpa using hb
  clear hb lo
  show W _ _
  refine W_block (W_seq (W_seqR (by simp only [runSeq_cons, runSeq_nil, evalArgs_nil, evalArgs_const, val1, putT, opI_move]; rfl) ?_))
  refine W_seq (W_seq (W_seqR (by simp only [runSeq_cons, runSeq_nil, evalArgs_nil, evalArgs_const, val1, putT, opI_move]; rfl) (W_block (W_loop (fun kk t M' => ∃ (i : Nat) (b : Int), kk + i = sps.length ∧ Step M M' ∧ ((b = -1 ∧ ∀ c, c < i → 0 ≤ (sl c).s.to → c ∈ picks) ∨ ∃ m : Nat, b = m ∧ m < i ∧ 0 ≤ (sl m).s.to ∧ m ∉ picks ∧ ∀ c, c < i → 0 ≤ (sl c).s.to → c ∉ picks → c = m ∨ wS (tkS es) (sl c).s (sl m).s = true) ∧ Dom t 73 ∧ t.get 0 = some v ∧ t.get 1 = some (.int .i64 n) ∧ t.get 5 = some sv ∧ t.get 6 = some vo ∧ t.get 7 = some vu ∧ t.get 8 = some (.int .i64 b) ∧ t.get 9 = some (.int .i64 i)) (k := sps.length) (by omega) ?_ ?_))))
  · exact ⟨0, -1, rfl, Step.refl s.ok, .inl ⟨rfl, fun c hc => by omega⟩, by ((repeat (with_reducible apply Dom.set)); exact hd), by simp only [Tr.get_set_ne, ne_eq, Nat.reduceEqDiff, not_false_eq_true, h0], by simp only [Tr.get_set_ne, ne_eq, Nat.reduceEqDiff, not_false_eq_true, h1], by simp only [Tr.get_set_ne, ne_eq, Nat.reduceEqDiff, not_false_eq_true, h5], by simp only [Tr.get_set_ne, ne_eq, Nat.reduceEqDiff, not_false_eq_true, h6], by simp only [Tr.get_set_ne, ne_eq, Nat.reduceEqDiff, not_false_eq_true, h7], by simp only [Tr.get_set_self, Tr.get_set_ne, hd _, ne_eq, Nat.reduceEqDiff, not_false_eq_true, decide_true, Nat.reduceLT], by simp only [Tr.get_set_self, Tr.get_set_ne, hd _, ne_eq, Nat.reduceEqDiff, not_false_eq_true, decide_true, Nat.reduceLT]; rfl⟩
  clear h0 h1 h5 h6 h7 hd
  intro kk t M2 ⟨i, b, hkk, s2, hB, hd, h0, h1, h5, h6, h7, h8, h9⟩
  have t2 := s.trans s2
  have lS := (rS.grow t2.grow).len
  have ru2 := ru.frame (Fr.grow s.ok.1 s2.grow (ids := fun _ => False)) (fun h => h)
  refine W_seq (W_seq (W_seqR (by simp only [runSeq_cons, runSeq_nil, evalArgs_nil, evalArgs_tmp, val1, putT, Tr.get_set_self, Tr.get_set_ne, hd _, ne_eq, Nat.reduceEqDiff, not_false_eq_true, decide_true, Nat.reduceLT, opI_move, opI_lss, h5, h9, lS]; rfl) ?_))
  refine W_cond (by simp only [PArg.eval, Tr.get_set_self, Tr.get_set_ne, hd _, ne_eq, Nat.reduceEqDiff, not_false_eq_true, decide_true, Nat.reduceLT]; rfl) (fun hb => W_skip ?_) (fun hb => ?_)
  · have hi : i < sps.length := by simpa using hb
    obtain ⟨p, pp, p1, p2, p3⟩ := hat M2 t2.grow i hi
    have P3 := p3 3 _ rfl
    obtain ⟨u1, u2⟩ := rowB_at ru2 t2.ok.1 (i := i) (by omega)
    rw [hus i hi] at u2
    have h9n : wrapF .i64 ((i : Int) + 1) = ((i + 1 : Nat) : Int) := by rw [wrapF_small (by omega) (by omega)]; rfl
    -- no change
    have stay : ∀ (t' : Tr AV) (M' : AMem), Step M2 M' → ((b = -1 ∧ ∀ c, c < i + 1 → 0 ≤ (sl c).s.to → c ∈ picks) ∨ ∃ m : Nat, b = m ∧ m < i + 1 ∧ 0 ≤ (sl m).s.to ∧ m ∉ picks ∧ ∀ c, c < i + 1 → 0 ≤ (sl c).s.to → c ∉ picks → c = m ∨ wS (tkS es) (sl c).s (sl m).s = true) → True := fun _ _ _ _ => trivial
    clear stay
    have next : (0 ≤ (sl i).s.to → i ∈ picks) → ((b = -1 ∧ ∀ c, c < i + 1 → 0 ≤ (sl c).s.to → c ∈ picks) ∨ ∃ m : Nat, b = m ∧ m < i + 1 ∧ 0 ≤ (sl m).s.to ∧ m ∉ picks ∧ ∀ c, c < i + 1 → 0 ≤ (sl c).s.to → c ∉ picks → c = m ∨ wS (tkS es) (sl c).s (sl m).s = true) := fun hno => by
      rcases hB with ⟨hb1, hb2⟩ | ⟨m, hb1, hb2, hb3, hb4, hb5⟩
      · left
        refine ⟨hb1, fun c hc hto => ?_⟩
        rcases Nat.lt_or_ge c i with h | h
        · exact hb2 c h hto
        · rw [show c = i by omega]; exact hno (by rw [← show c = i by omega]; exact hto)
      · right
        refine ⟨m, hb1, by omega, hb3, hb4, fun c hc hto hcp => ?_⟩
        rcases Nat.lt_or_ge c i with h | h
        · exact hb5 c h hto hcp
        · exact absurd (hno (by rw [← show c = i by omega]; exact hto)) (by rw [← show c = i by omega]; exact hcp)
    show W _ _
    by_cases ct : (sl i).s.to ≥ 0
    rotate_left
    · have e1 : decide ((sl i).s.to ≥ 0) = false := decide_eq_false ct
      refine W_seq (W_block (W_seq (W_trace (M' := M2) rfl (by simp only [sameN_self, evalArgs_nil, evalArgs_tmp, evalArgs_const, putT, Tr.get_set_self, Tr.get_set_ne, Tr.isSome_set, hd _, ne_eq, Nat.reduceEqDiff, not_false_eq_true, decide_true, Nat.reduceLT, opI_move, opI_geq, opI_pick, Nat.zero_add, trace_nil, trace_read, addR_some, addE_some, Bool.not_true, trace_gread (b := false), trace_sread, trace_seff, Bool.false_beq, h5, h9, p1, opI_fieldQ pp, P3, e1]; rfl) (by simp [checkRec, isLoad]) rfl ?_)))
      refine W_cond (b := false) (by simp only [PArg.eval, Tr.get_set_self, Tr.get_set_ne, hd _, ne_eq, Nat.reduceEqDiff, not_false_eq_true, decide_true, Nat.reduceLT]; try rfl) (fun hb => by cases hb) (fun _ => W_skip ?_)
      show W _ _
      refine W_seqR (by simp only [runSeq_cons, runSeq_nil, evalArgs_nil, evalArgs_tmp, evalArgs_const, val1, putT, Tr.get_set_self, Tr.get_set_ne, hd _, ne_eq, Nat.reduceEqDiff, not_false_eq_true, decide_true, Nat.reduceLT, opI_move, opI_add, h9, h9n]; rfl) ?_
      exact ⟨kk - 1, by omega, i + 1, b, by omega, s2, next (fun h => absurd h ct), by ((repeat (with_reducible apply Dom.set)); exact hd), by simp only [Tr.get_set_ne, ne_eq, Nat.reduceEqDiff, not_false_eq_true, h0], by simp only [Tr.get_set_ne, ne_eq, Nat.reduceEqDiff, not_false_eq_true, h1], by simp only [Tr.get_set_ne, ne_eq, Nat.reduceEqDiff, not_false_eq_true, h5], by simp only [Tr.get_set_ne, ne_eq, Nat.reduceEqDiff, not_false_eq_true, h6], by simp only [Tr.get_set_ne, ne_eq, Nat.reduceEqDiff, not_false_eq_true, h7], by simp only [Tr.get_set_ne, ne_eq, Nat.reduceEqDiff, not_false_eq_true, h8], by simp only [Tr.get_set_self, Tr.get_set_ne, hd _, ne_eq, Nat.reduceEqDiff, not_false_eq_true, decide_true, Nat.reduceLT]⟩
    have e1 : decide ((sl i).s.to ≥ 0) = true := decide_eq_true ct
    by_cases cp : i ∈ picks
    · rw [decide_eq_true cp] at u2
      refine W_seq (W_block (W_seq (W_trace (M' := M2) rfl (by simp only [sameN_self, evalArgs_nil, evalArgs_tmp, evalArgs_const, putT, Tr.get_set_self, Tr.get_set_ne, Tr.isSome_set, hd _, ne_eq, Nat.reduceEqDiff, not_false_eq_true, decide_true, Nat.reduceLT, opI_move, opI_not, opI_geq, opI_pick, Nat.zero_add, trace_nil, trace_read, addR_some, addE_some, Bool.not_true, trace_gread (b := true), trace_gread (b := false), trace_sread, trace_seff, beq_self_eq_true, Bool.false_beq, h5, h7, h9, p1, opI_fieldQ pp, P3, e1, u1, u2]; rfl) (by simp [checkRec, isLoad]) rfl ?_)))
      refine W_cond (b := false) (by simp only [PArg.eval, Tr.get_set_self, Tr.get_set_ne, hd _, ne_eq, Nat.reduceEqDiff, not_false_eq_true, decide_true, Nat.reduceLT]; try rfl) (fun hb => by cases hb) (fun _ => W_skip ?_)
      show W _ _
      refine W_seqR (by simp only [runSeq_cons, runSeq_nil, evalArgs_nil, evalArgs_tmp, evalArgs_const, val1, putT, Tr.get_set_self, Tr.get_set_ne, hd _, ne_eq, Nat.reduceEqDiff, not_false_eq_true, decide_true, Nat.reduceLT, opI_move, opI_add, h9, h9n]; rfl) ?_
      exact ⟨kk - 1, by omega, i + 1, b, by omega, s2, next (fun _ => cp), by ((repeat (with_reducible apply Dom.set)); exact hd), by simp only [Tr.get_set_ne, ne_eq, Nat.reduceEqDiff, not_false_eq_true, h0], by simp only [Tr.get_set_ne, ne_eq, Nat.reduceEqDiff, not_false_eq_true, h1], by simp only [Tr.get_set_ne, ne_eq, Nat.reduceEqDiff, not_false_eq_true, h5], by simp only [Tr.get_set_ne, ne_eq, Nat.reduceEqDiff, not_false_eq_true, h6], by simp only [Tr.get_set_ne, ne_eq, Nat.reduceEqDiff, not_false_eq_true, h7], by simp only [Tr.get_set_ne, ne_eq, Nat.reduceEqDiff, not_false_eq_true, h8], by simp only [Tr.get_set_self, Tr.get_set_ne, hd _, ne_eq, Nat.reduceEqDiff, not_false_eq_true, decide_true, Nat.reduceLT]⟩
    rw [decide_eq_false cp] at u2
    rcases hB with ⟨rfl, hb2⟩ | ⟨m, rfl, hb2, hb3, hb4, hb5⟩
    · have e2 : decide ((-1 : Int) < 0) = true := rfl
      refine W_seq (W_block (W_seq (W_trace (M' := M2) rfl (by simp only [sameN_self, evalArgs_nil, evalArgs_tmp, evalArgs_const, putT, Tr.get_set_self, Tr.get_set_ne, Tr.isSome_set, hd _, ne_eq, Nat.reduceEqDiff, not_false_eq_true, decide_true, Nat.reduceLT, opI_move, opI_not, opI_lss, opI_geq, opI_pick, Nat.zero_add, trace_nil, trace_read, addR_some, addE_some, Bool.not_false, trace_gread (b := true), trace_geff (b := true), beq_self_eq_true, Bool.true_beq, h5, h7, h8, h9, p1, opI_fieldQ pp, P3, e1, u1, u2, e2]; rfl) (by simp [checkRec, isLoad]) rfl ?_)))
      refine W_cond (b := true) (by simp only [PArg.eval, Tr.get_set_self, Tr.get_set_ne, hd _, ne_eq, Nat.reduceEqDiff, not_false_eq_true, decide_true, Nat.reduceLT]; try rfl) (fun _ => ?_) (fun hb => by cases hb)
      refine W_seqR (by simp only [runSeq_cons, runSeq_nil, evalArgs_nil, evalArgs_tmp, val1, putT, Tr.get_set_self, Tr.get_set_ne, hd _, ne_eq, Nat.reduceEqDiff, not_false_eq_true, decide_true, Nat.reduceLT, opI_move, h9]; rfl) ?_
      show W _ _
      refine W_seqR (by simp only [runSeq_cons, runSeq_nil, evalArgs_nil, evalArgs_tmp, evalArgs_const, val1, putT, Tr.get_set_self, Tr.get_set_ne, hd _, ne_eq, Nat.reduceEqDiff, not_false_eq_true, decide_true, Nat.reduceLT, opI_move, opI_add, h9, h9n]; rfl) ?_
      refine ⟨kk - 1, by omega, i + 1, i, by omega, s2, .inr ⟨i, rfl, by omega, ct, cp, fun c hc hto hcp => ?_⟩, by ((repeat (with_reducible apply Dom.set)); exact hd), by simp only [Tr.get_set_ne, ne_eq, Nat.reduceEqDiff, not_false_eq_true, h0], by simp only [Tr.get_set_ne, ne_eq, Nat.reduceEqDiff, not_false_eq_true, h1], by simp only [Tr.get_set_ne, ne_eq, Nat.reduceEqDiff, not_false_eq_true, h5], by simp only [Tr.get_set_ne, ne_eq, Nat.reduceEqDiff, not_false_eq_true, h6], by simp only [Tr.get_set_ne, ne_eq, Nat.reduceEqDiff, not_false_eq_true, h7], by simp only [Tr.get_set_self, Tr.get_set_ne, hd _, ne_eq, Nat.reduceEqDiff, not_false_eq_true, decide_true, Nat.reduceLT], by simp only [Tr.get_set_self, Tr.get_set_ne, hd _, ne_eq, Nat.reduceEqDiff, not_false_eq_true, decide_true, Nat.reduceLT]⟩
      rcases Nat.lt_or_ge c i with h | h
      · exact absurd (hb2 c h hto) hcp
      · exact .inl (by omega)
    have hml : m < sps.length := by omega
    have e2 : decide ((m : Int) < 0) = false := decide_eq_false (by omega)
    have hei : Ended es (sl i).s := ended_of (by rw [(hsl i hi).1]; exact hin _ (List.getElem_mem hi)) ct
    have hem : Ended es (sl m).s := ended_of (by rw [(hsl m hml).1]; exact hin _ (List.getElem_mem hml)) hb3
    obtain ⟨_, M4, c4, rfl, s4⟩ := reftook_ok d M2 t2.ok (by rw [t2.grow.g, g1]; exact hv) hmay hei
    have t4 := t2.trans s4
    obtain ⟨q, qq, q1, q2, _⟩ := hat M2 t2.grow m hml
    obtain ⟨q', qq', q1', q2', _⟩ := hat M4 t4.grow m hml
    obtain ⟨_, M5, c5, rfl, s5⟩ := reftook_ok d M4 t4.ok (by rw [t4.grow.g, g1]; exact hv) hmay hem
    -- the same address
    have hqq : q' = q := by
      have hr := (rS.grow t2.grow)
      obtain ⟨els, hE, hel, _⟩ := rS
      have hil : m < els.length := by omega
      rcases (hE.grow t2.grow) with ⟨_, ⟨a, c, rfl, _⟩ | ⟨_, he⟩ | ⟨b', o, c, gr, cs, sz', wr, g, rfl, _⟩⟩
      · have e1 : opI (.indexAddrS 10) [.rslice a els.length c, .int .i64 m] M2 = opI (.indexAddrS 10) [.rslice a els.length c, .int .i64 m] M2 := rfl
        have e2 : ∀ (x : SR) , True := fun _ => trivial
        have hx : ∀ {y z : AV}, opI (.indexAddrS 10) [.rslice a els.length c, .int .i64 m] M2 = some (.val y M2) → opI (.indexAddrS 10) [.rslice a els.length c, .int .i64 m] M4 = some (.val z M4) → z = y := fun {y z} h1 h2 => by
          obtain ⟨x, rfl⟩ : ∃ x, a = some x := by
            cases a with
            | none => simp only [opI] at h1; cases h1
            | some x => exact ⟨x, rfl⟩
          rw [index_in hil] at h1 h2
          simp only [Option.some.injEq, SR.val.injEq, and_true] at h1 h2
          rw [← h1, ← h2]
        have := hx q1 q1'
        rw [padd_z qq, padd_z qq'] at this
        exact this
      · exact absurd (by rw [he]; rfl : els.length = 0) (by omega)
      · have hx : ∀ {y z : AV}, opI (.indexAddrS 10) [.slice (some (b', o)) els.length c gr, .int .i64 m] M2 = some (.val y M2) → opI (.indexAddrS 10) [.slice (some (b', o)) els.length c gr, .int .i64 m] M4 = some (.val z M4) → z = y := fun {y z} h1 h2 => by
          simp only [opI] at h1 h2
          rw [if_pos ⟨by omega, by omega⟩] at h1 h2
          simp only [Option.some.injEq, SR.val.injEq, and_true] at h1 h2
          rw [← h1, ← h2]
        have := hx q1 q1'
        rw [padd_z qq, padd_z qq'] at this
        exact this
    subst hqq
    have hcb := cS_beq (hsl m hml).2.ok
    have k0 := held_none t2.ok.1
    have k1 := t4.nh M2.n t2.grow.n
    refine W_seq (W_block (W_seq (W_trace (M' := M5) rfl (by simp only [sameN_self, evalArgs_nil, evalArgs_tmp, evalArgs_const, val1, putT, Tr.get_set_self, Tr.get_set_ne, Tr.isSome_set, hd _, ne_eq, Nat.reduceEqDiff, not_false_eq_true, decide_true, Nat.reduceLT, opI_move, opI_not, opI_lss, opI_gtr, opI_geq, opI_callF, opI_pick, Nat.zero_add, trace_nil, trace_read, addR_some, addE_some, Bool.false_and, Bool.and_true, Bool.not_false, trace_gread (b := true), trace_gread (b := false), trace_geff (b := false), beq_self_eq_true, h0, h5, h7, h8, h9, p1, p2, opI_fieldQ pp, P3, e1, u1, u2, e2, c4, q1', q2', c5, k0, k1]; rfl) (by simp [checkRec, isLoad, sameAt, q2, q2', hcb]) rfl ?_)))
    by_cases cg : tkS es (sl i).s > tkS es (sl m).s
    · have eg : decide (tkS es (sl i).s > tkS es (sl m).s) = true := decide_eq_true cg
      refine W_cond (b := true) (by simp only [PArg.eval, Tr.get_set_self, Tr.get_set_ne, hd _, ne_eq, Nat.reduceEqDiff, not_false_eq_true, decide_true, Nat.reduceLT, eg]; try rfl) (fun _ => ?_) (fun hb => by cases hb)
      refine W_seqR (by simp only [runSeq_cons, runSeq_nil, evalArgs_nil, evalArgs_tmp, val1, putT, Tr.get_set_self, Tr.get_set_ne, hd _, ne_eq, Nat.reduceEqDiff, not_false_eq_true, decide_true, Nat.reduceLT, opI_move, h9]; rfl) ?_
      show W _ _
      refine W_seqR (by simp only [runSeq_cons, runSeq_nil, evalArgs_nil, evalArgs_tmp, evalArgs_const, val1, putT, Tr.get_set_self, Tr.get_set_ne, hd _, ne_eq, Nat.reduceEqDiff, not_false_eq_true, decide_true, Nat.reduceLT, opI_move, opI_add, h9, h9n]; rfl) ?_
      refine ⟨kk - 1, by omega, i + 1, i, by omega, s2.trans (s4.trans s5), .inr ⟨i, rfl, by omega, ct, cp, fun c hc hto hcp => ?_⟩, by ((repeat (with_reducible apply Dom.set)); exact hd), by simp only [Tr.get_set_ne, ne_eq, Nat.reduceEqDiff, not_false_eq_true, h0], by simp only [Tr.get_set_ne, ne_eq, Nat.reduceEqDiff, not_false_eq_true, h1], by simp only [Tr.get_set_ne, ne_eq, Nat.reduceEqDiff, not_false_eq_true, h5], by simp only [Tr.get_set_ne, ne_eq, Nat.reduceEqDiff, not_false_eq_true, h6], by simp only [Tr.get_set_ne, ne_eq, Nat.reduceEqDiff, not_false_eq_true, h7], by simp only [Tr.get_set_self, Tr.get_set_ne, hd _, ne_eq, Nat.reduceEqDiff, not_false_eq_true, decide_true, Nat.reduceLT], by simp only [Tr.get_set_self, Tr.get_set_ne, hd _, ne_eq, Nat.reduceEqDiff, not_false_eq_true, decide_true, Nat.reduceLT]⟩
      rcases Nat.lt_or_ge c i with h | h
      · right
        have hmi : wS (tkS es) (sl m).s (sl i).s = true := by simp only [wS, decide_eq_true_eq]; omega
        rcases hb5 c h hto hcp with rfl | h'
        · exact hmi
        · exact wS_trans h' hmi
      · exact .inl (by omega)
    · have eg : decide (tkS es (sl i).s > tkS es (sl m).s) = false := decide_eq_false cg
      refine W_cond (b := false) (by simp only [PArg.eval, Tr.get_set_self, Tr.get_set_ne, hd _, ne_eq, Nat.reduceEqDiff, not_false_eq_true, decide_true, Nat.reduceLT, eg]; try rfl) (fun hb => by cases hb) (fun _ => W_skip ?_)
      show W _ _
      refine W_seqR (by simp only [runSeq_cons, runSeq_nil, evalArgs_nil, evalArgs_tmp, evalArgs_const, val1, putT, Tr.get_set_self, Tr.get_set_ne, hd _, ne_eq, Nat.reduceEqDiff, not_false_eq_true, decide_true, Nat.reduceLT, opI_move, opI_add, h9, h9n]; rfl) ?_
      refine ⟨kk - 1, by omega, i + 1, m, by omega, s2.trans (s4.trans s5), .inr ⟨m, rfl, by omega, hb3, hb4, fun c hc hto hcp => ?_⟩, by ((repeat (with_reducible apply Dom.set)); exact hd), by simp only [Tr.get_set_ne, ne_eq, Nat.reduceEqDiff, not_false_eq_true, h0], by simp only [Tr.get_set_ne, ne_eq, Nat.reduceEqDiff, not_false_eq_true, h1], by simp only [Tr.get_set_ne, ne_eq, Nat.reduceEqDiff, not_false_eq_true, h5], by simp only [Tr.get_set_ne, ne_eq, Nat.reduceEqDiff, not_false_eq_true, h6], by simp only [Tr.get_set_ne, ne_eq, Nat.reduceEqDiff, not_false_eq_true, h7], by simp only [Tr.get_set_ne, ne_eq, Nat.reduceEqDiff, not_false_eq_true, h8], by simp only [Tr.get_set_self, Tr.get_set_ne, hd _, ne_eq, Nat.reduceEqDiff, not_false_eq_true, decide_true, Nat.reduceLT]⟩
      rcases Nat.lt_or_ge c i with h | h
      · exact hb5 c h hto hcp
      · right
        have hci : c = i := by omega
        subst hci
        have := hinc.get hml hi hb2
        rw [← (hsl m hml).1, ← (hsl c hi).1] at this
        simp only [wS, decide_eq_true_eq]; omega
  refine W_exit ?_
  have hi : i = sps.length := by simp at hb; omega
  subst hi
  clear lS hb h9
  have ro2 := ro.frame (Fr.grow s.ok.1 s2.grow (ids := fun _ => False)) (fun h => h)
  have hn2 := s2.grow.n
  show W _ _
  rcases hB with ⟨rfl, hb2⟩ | ⟨m, rfl, hb2, hb3, hb4, hb5⟩
  · have e2 : decide ((-1 : Int) < 0) = true := rfl
    refine W_seq (W_seq (W_seqR (by simp only [runSeq_cons, runSeq_nil, evalArgs_nil, evalArgs_tmp, evalArgs_const, val1, putT, Tr.get_set_self, Tr.get_set_ne, hd _, ne_eq, Nat.reduceEqDiff, not_false_eq_true, decide_true, Nat.reduceLT, opI_move, opI_lss, h8, e2]; rfl) ?_))
    refine W_cond (b := true) (by simp only [PArg.eval, Tr.get_set_self, Tr.get_set_ne, hd _, ne_eq, Nat.reduceEqDiff, not_false_eq_true, decide_true, Nat.reduceLT]; try rfl) (fun _ => ?_) (fun hb => by cases hb)
    refine W_seq (W_seqR (by simp only [runSeq_cons, runSeq_nil, evalArgs_nil, evalArgs_tmp, val1, putT, Tr.get_set_self, Tr.get_set_ne, hd _, ne_eq, Nat.reduceEqDiff, not_false_eq_true, decide_true, Nat.reduceLT, opI_move, h6]; rfl) (W_ret ?_))
    refine ⟨_, fin_tmp (by simp only [Tr.get_set_self, Tr.get_set_ne, hd _, ne_eq, Nat.reduceEqDiff, not_false_eq_true, decide_true, Nat.reduceLT]; try rfl), s1.trans t2, _, hrd.grow s2.grow, htop ?_, hond⟩
    have hEn : (En sps).Nodup := hinc.nodup.sublist List.filter_sublist
    have := nodup_sub hEn (l' := picks.map fun i => (sl i).s) fun e he => by
      obtain ⟨i, hi, rfl, hto⟩ := hEof e he
      exact List.mem_map.2 ⟨i, hb2 i hi hto, rfl⟩
    rw [List.length_map] at this
    omega
  have e2 : decide ((m : Int) < 0) = false := decide_eq_false (by omega)
  refine W_seq (W_seq (W_seqR (by simp only [runSeq_cons, runSeq_nil, evalArgs_nil, evalArgs_tmp, evalArgs_const, val1, putT, Tr.get_set_self, Tr.get_set_ne, hd _, ne_eq, Nat.reduceEqDiff, not_false_eq_true, decide_true, Nat.reduceLT, opI_move, opI_lss, h8, e2]; rfl) ?_))
  refine W_cond (b := false) (by simp only [PArg.eval, Tr.get_set_self, Tr.get_set_ne, hd _, ne_eq, Nat.reduceEqDiff, not_false_eq_true, decide_true, Nat.reduceLT]; try rfl) (fun hb => by cases hb) (fun _ => W_skip ?_)
  show W _ _
  have hum : m < (us.map eB).length := by rw [List.length_map]; omega
  have iu := ru2.idx hum M2
  obtain ⟨M3, e3, s3, r3, f3, n3⟩ := ru2.put t2 hum (x := .bool true) rfl rfl
  have ro3 := ro2.frame f3 hgu
  refine W_seq (W_seqR (by simp only [runSeq_cons, runSeq_nil, evalArgs_nil, evalArgs_tmp, evalArgs_const, val1, putT, Tr.get_set_self, Tr.get_set_ne, hd _, ne_eq, Nat.reduceEqDiff, not_false_eq_true, decide_true, Nat.reduceLT, opI_move, h7, h8, iu, e3]; rfl) ?_)
  obtain ⟨p, pp, p1, p2, _⟩ := hat M3 s3.grow m hb2
  have hxok := (hsl m hb2).2.ok
  have hpl : picks.length + 1 ≤ sps.length := by
    have := nodup_sub (l := m :: picks) (l' := List.range sps.length) (List.nodup_cons.2 ⟨hb4, hnd⟩) fun x hx => by
      rcases List.mem_cons.1 hx with rfl | hx
      · exact List.mem_range.2 hb2
      · exact List.mem_range.2 (hpk x hx).1
    simpa using this
  obtain ⟨M4, v', γ', e4, e5, s4, r4, f4, g4, n4⟩ := ro3.push (bytes := 112) (z := z10) (x := .agg (cS (sl m))) s3 rfl (by rw [cells_agg]; rfl) (by omega) (by rw [cells_agg]; exact cS_one hxok) (by simp; omega) (by simp; omega)
  rw [cells_agg] at e4 e5 r4
  have r34 := r3.frame f4 (fun h => hgu h.symm)
  refine W_seqR (by simp only [runSeq_cons, runSeq_nil, evalArgs_nil, evalArgs_tmp, val1, putT, Tr.get_set_self, Tr.get_set_ne, hd _, ne_eq, Nat.reduceEqDiff, not_false_eq_true, decide_true, Nat.reduceLT, opI_move, h5, h6, h8, p1, p2, e4, e5]; rfl) ?_
  have hg4 := r4.id_lt s4.ok (by simp)
  have hset : (us.map eB).set m (AV.cells (.bool true)) = (us.set m true).map eB := by rw [List.map_set]; rfl
  rw [hset] at r34
  refine ⟨k - 1, by omega, picks ++ [m], γ', v', us.set m true, by simp; omega, s4, by rw [List.map_append]; exact r4, r34, by rw [List.length_set]; exact hul, fun j hj => ?_, ?_, fun j hj => ?_, ?_, hg4, by omega, by simp; omega, fun j hj x hx hto hxp => ?_, by ((repeat (with_reducible apply Dom.set)); exact hd), by simp only [Tr.get_set_ne, ne_eq, Nat.reduceEqDiff, not_false_eq_true, h0], by simp only [Tr.get_set_ne, ne_eq, Nat.reduceEqDiff, not_false_eq_true, h1], by simp only [Tr.get_set_ne, ne_eq, Nat.reduceEqDiff, not_false_eq_true, h5], by simp only [Tr.get_set_self, Tr.get_set_ne, hd _, ne_eq, Nat.reduceEqDiff, not_false_eq_true, decide_true, Nat.reduceLT], by simp only [Tr.get_set_ne, ne_eq, Nat.reduceEqDiff, not_false_eq_true, h7]⟩
  · rw [getD_set' (by omega)]
    by_cases hmj : m = j
    · subst hmj; rw [if_pos rfl]; simp
    · rw [if_neg hmj, hus j hj]
      congr 1
      rw [List.mem_append, List.mem_singleton]
      refine propext ⟨fun h => .inl h, fun h => h.elim id fun h => absurd h.symm hmj⟩
  · rw [List.nodup_append]
    exact ⟨hnd, by simp, fun a ha b hb => by simp at hb; subst hb; exact fun he => hb4 (he ▸ ha)⟩
  · rcases List.mem_append.1 hj with hj | hj
    · exact hpk j hj
    · simp at hj; subst hj; exact ⟨hb2, hb3⟩
  · rcases g4 with rfl | g
    · exact hgu
    · omega
  · rw [List.length_append, List.length_singleton] at hj
    rcases Nat.lt_or_ge j picks.length with h | h
    · rw [List.take_append_of_le_length (by omega)] at hxp
      rw [List.getD_eq_getElem?_getD, List.getElem?_append_left h, ← List.getD_eq_getElem?_getD]
      exact hbest j h x hx hto hxp
    · have hje : j = picks.length := by omega
      subst hje
      rw [List.take_append_of_le_length (Nat.le_refl _), List.take_of_length_le (Nat.le_refl _)] at hxp
      have : (picks ++ [m]).getD picks.length 0 = m := by
        rw [List.getD_eq_getElem?_getD, List.getElem?_append_right (Nat.le_refl _), Nat.sub_self]; rfl
      rw [this]
      exact hb5 x hx hto hxp
end Go.Proofs.Ytoddncakdnmloaa.diary
