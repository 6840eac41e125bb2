/- The parts ScHeap, ScSlow of the walk. -/
import Derived.Test.YtoddncakdnmloaaScMeth
/- The heap of the slowest spans. -/
namespace Go.Proofs.Ytoddncakdnmloaa.diary
open Go Go.Vx
open Go.Proofs.Ytoddncakdnmloaa.grf (HM push_ok pop_ok)

abbrev hvS (pb : Nat) : AV := .iface 66 (.ptr (some (pb, 0)))
abbrev encS (tk : Sp → Int) (x : Sl) : AV := .iface 71 (.agg (eS tk x))
def TRep (tk : Sp → Int) (M0 A : AMem) (pb γ : Nat) (M : AMem) (l : List Sl) : Prop := Step M0 M ∧ A.n ≤ M.n ∧ Fr A M (fun i => i = pb ∨ i = γ) ∧ M0.n ≤ pb ∧ pb ≠ γ ∧ l.length ≤ 90000 ∧ (∀ x ∈ l, x.Ok) ∧ ∃ v, M.get pb = some (.cells [v] 0 true none) ∧ RowI M0 M 11 γ v (l.map (eS tk))
section
variable {tk : Sp → Int} {M0 A M : AMem} {pb γ : Nat} {l : List Sl} {v : AV}
theorem viaS {f : FuncId} {us : List AV} {tl : TypeId} (h : M.get pb = some (.cells [v] 0 true none)) (hne : tl ≠ 66) : opI (.invoke [(tl, f)] [(66, f, false, 1)]) (hvS pb :: us) M = some (.call f (v :: us)) := by
  have h1 : List.lookup 66 [(tl, f)] = none := by
    simp only [List.lookup_cons, List.lookup_nil]
    have : ((66 : Nat) == tl) = false := by simpa using fun h => hne h.symm
    rw [this]
  have h2 : List.lookup 66 [((66 : TypeId), (f, false, 1))] = some (f, false, 1) := by simp [List.lookup]
  simp only [opI, invokeI, h1, h2, viaI, Bool.false_eq_true, if_false, AMem.loadCells, h]
  simp
/-- The methods, as the heap calls them. -/
theorem heapS : HM 4 (hvS pb) (TRep tk M0 A pb γ) dSl (encS tk) (ltS tk) := fun d => by
  refine ⟨?_, ?_, ?_, ?_⟩
  · rintro M l i j ⟨h1, h2, h3, h4, h5, hL, hx, v, h6, h7⟩ hi hj
    obtain ⟨r, M', k1, rfl, k2⟩ := lessS_ok (tk := tk) d h1 h7 hi hj
    have fr : ∀ ids, Fr M M' ids := fun ids => Fr.grow h1.ok.1 k2.grow
    have hn := k2.grow.n
    exact ⟨_, _, M', viaS h6 (by decide), k1, h1.trans k2, by omega, h3.trans (fr _), h4, h5, hL, hx, v, fr (fun _ => False) pb _ h6 (fun h => h), h7.frame (fr (fun _ => False)) (fun h => h)⟩
  · rintro M l i j ⟨h1, h2, h3, h4, h5, hL, hx, v, h6, h7⟩ hi hj
    obtain ⟨r, M', k1, k2, k3, k4, k5⟩ := swapS_ok (d + 3) h1 hx h7 hi hj
    exact ⟨_, _, r, M', viaS h6 (by decide), k1, k2, by omega, h3.trans (k4.mono (fun i hi => .inr hi)), h4, h5, by rw [swapL_len]; exact hL, fun x hm => hx x ((swapL_perm hi hj).mem_iff.1 hm), v, k4 pb _ h6 h5, k3⟩
  · rintro M l ⟨h1, h2, h3, h4, h5, hL, hx, v, h6, h7⟩
    exact ⟨_, _, _, viaS h6 (by decide), lenS_ok (d + 3) h1.ok.1 h7, h1, h2, h3, h4, h5, hL, hx, v, h6, h7⟩
  · rintro M l ⟨h1, h2, h3, h4, h5, hL, hx, v, h6, h7⟩ hl
    obtain ⟨r, M', k1, rfl, k2, ⟨v', k3, k4⟩, k5, k6⟩ := popS_ok (d + 3) h1 h4 h5 h6 hx h7 hl hL
    exact ⟨88, [.ptr (some (pb, 0))], M', by simp [opI, invokeI, List.lookup], k1, k2, by omega, h3.trans (k5.mono (fun i hi => .inl hi)), h4, h5, by rw [List.length_take]; omega, fun x hm => hx x (List.mem_of_mem_take hm), v', k3, k4⟩
/-- Spans in a heap. -/
def TSt (tk : Sp → Int) (M0 M : AMem) (pb γ : Nat) (l : List Sl) : Prop := Step M0 M ∧ M0.n ≤ pb ∧ γ ≠ pb ∧ pb < M.n ∧ γ < M.n ∧ (∀ x ∈ l, x.Ok) ∧ (∃ v, M.get pb = some (.cells [v] 0 true none) ∧ RowI M0 M 11 γ v (l.map (eS tk))) ∧ HeapN (ltS tk) dSl l l.length
theorem TSt.frame {M' : AMem} {ids : Nat → Prop} (h : TSt tk M0 M pb γ l) (hs : Step M0 M') (hn : M.n ≤ M'.n) (hf : Fr M M' ids) (h1 : ¬ ids pb) (h2 : ¬ ids γ) : TSt tk M0 M' pb γ l := by
  obtain ⟨a1, a2, a3, a4, a5, a6, ⟨v, a7, a8⟩, a9⟩ := h
  exact ⟨hs, a2, a3, by omega, by omega, a6, ⟨v, hf pb _ a7 h1, a8.frame hf h2⟩, a9⟩
theorem TSt.hlen (h : TSt tk M0 M pb γ l) : ∃ v, opI (.load false 1) [.ptr (some (pb, 0))] M = some (.val v M) ∧ ∀ d, callF tbl code 100000 (d + 1) 30 [v] M = some (.int .i64 l.length, M) := by
  obtain ⟨a1, a2, a3, a4, a5, a6, ⟨v, a7, a8⟩, a9⟩ := h
  exact ⟨v, load_own (o := 0) a7 rfl, fun d => lenS_ok d a1.ok.1 a8⟩
theorem TSt.push (h : TSt tk M0 M pb γ l) (d : Nat) (hl : l.length < 90000) {x : Sl} (hx : x.Ok) :
    Ans (callF tbl code 100000 (d + 6)) 29 [hvS pb, encS tk x] M fun _ M' => ∃ γ' l', TSt tk M0 M' pb γ' l' ∧ l'.Perm (l ++ [x]) := by
  obtain ⟨h1, h2, h3, h4, h5, h6, ⟨v, ha, hb⟩, hc⟩ := h
  obtain ⟨r1, M1, c1, s1, γ', g1, ⟨v1, a1, b1⟩, f1, n1⟩ := pushS_ok (d + 4) h1 h2 (fun h => h3 h.symm) ha hb (by omega) hx
  have hne : pb ≠ γ' := by rcases g1 with rfl | g <;> omega
  have hok : ∀ y ∈ l ++ [x], y.Ok := fun y hy => by
    rcases List.mem_append.1 hy with hy | hy
    · exact h6 y hy
    · simp at hy; subst hy; exact hx
  have hr : TRep tk M0 M1 pb γ' M1 (l ++ [x]) := ⟨s1, Nat.le_refl _, Fr.refl, h2, hne, by simp; omega, hok, v1, a1, b1⟩
  have i1 : opI (.invoke [(66, 89)] []) [hvS pb, encS tk x] M = some (.call 89 [.ptr (some (pb, 0)), encS tk x]) := by simp [opI, invokeI, List.lookup]
  obtain ⟨r2, M2, c2, l', ⟨k1, k2, k3, _, _, _, k8, v2, k4, k5⟩, k6, k7⟩ := push_ok heapS woS d i1 c1 hr hc hl
  have hg' := b1.id_lt s1.ok (by simp)
  exact ⟨r2, M2, c2, γ', l', ⟨k1, h2, fun h => hne h.symm, by omega, by omega, k8, ⟨v2, k4, k5⟩, k7⟩, k6⟩
theorem TSt.pop (h : TSt tk M0 M pb γ l) (d : Nat) (hl : l.length < 90000) (h0 : 0 < l.length) :
    Ans (callF tbl code 100000 (d + 6)) 31 [hvS pb] M fun r M' => r = encS tk (l.getD 0 dSl) ∧ M.n ≤ M'.n ∧ Fr M M' (fun i => i = pb ∨ i = γ) ∧ ∃ l', TSt tk M0 M' pb γ l' ∧ l.Perm (l.getD 0 dSl :: l') ∧ ∀ x ∈ l', ltS tk x (l.getD 0 dSl) = false := by
  obtain ⟨h1, h2, h3, h4, h5, h6, ⟨v, ha, hb⟩, hc⟩ := h
  have hr : TRep tk M0 M pb γ M l := ⟨h1, Nat.le_refl _, Fr.refl, h2, fun h => h3 h.symm, by omega, h6, v, ha, hb⟩
  obtain ⟨r2, M2, c2, hr2, l', ⟨k1, k2, k3, _, _, _, k8, v2, k4, k5⟩, k6, k7⟩ := pop_ok heapS woS d hr hc h0 hl
  refine ⟨r2, M2, c2, hr2, k2, k3, l', ⟨k1, h2, h3, by omega, by omega, k8, ⟨v2, k4, k5⟩, k7⟩, k6, fun x hx => ?_⟩
  have hm : x ∈ l := k6.mem_iff.2 (List.mem_cons_of_mem _ hx)
  obtain ⟨c, hcl, he⟩ := List.mem_iff_getElem.1 hm
  have := heap_min woS hc c hcl
  rwa [show l.getD c dSl = x by rw [List.getD_eq_getElem?_getD, List.getElem?_eq_getElem hcl]; exact he] at this
end

/-! The plain law: the first ones. -/
/-- 'out' is the n first ones of E -/
structure Top (tk : Sp → Int) (E : List Sp) (n : Nat) (out : List Sp) : Prop where
  len : out.length = min n E.length
  mem : ∀ s ∈ out, s ∈ E
  best : ∀ j (hj : j < out.length), ∀ e ∈ E, e ∉ out.take j → e = out[j] ∨ wS tk e out[j] = true
theorem Top.uniq {tk : Sp → Int} {E : List Sp} {n : Nat} {a b : List Sp} (ha : Top tk E n a) (hb : Top tk E n b) (hna : a.Nodup) (hnb : b.Nodup) : a = b := by
  have hl : a.length = b.length := by rw [ha.len, hb.len]
  have key : ∀ j, j ≤ a.length → a.take j = b.take j := by
    intro j
    induction j with
    | zero => intro _; simp
    | succ j ih =>
      intro hj
      have h1 := ih (by omega)
      have hja : j < a.length := by omega
      have hjb : j < b.length := by omega
      rw [List.take_add_one, List.take_add_one, h1, List.getElem?_eq_getElem hja, List.getElem?_eq_getElem hjb]
      congr 2
      have hnot : ∀ {l : List Sp} (hn : l.Nodup) (hj : j < l.length), l[j] ∉ l.take j := fun {l} hn hj hm => by
        obtain ⟨m, hm1, hm2⟩ := List.mem_iff_getElem.1 hm
        rw [List.length_take] at hm1
        rw [List.getElem_take] at hm2
        have := (List.getElem_inj hn).1 hm2
        omega
      have na := hnot hna hja
      have nb := hnot hnb hjb
      rcases ha.best j hja b[j] (hb.mem _ (List.getElem_mem hjb)) (by rw [h1]; exact nb) with he | he
      · rw [he]
      rcases hb.best j hjb a[j] (ha.mem _ (List.getElem_mem hja)) (by rw [← h1]; exact na) with hf | hf
      · rw [hf]
      simp only [wS, decide_eq_true_eq] at he hf
      omega
  have := key a.length (Nat.le_refl _)
  rwa [List.take_of_length_le (Nat.le_refl _), List.take_of_length_le (by omega)] at this
end Go.Proofs.Ytoddncakdnmloaa.diary
/- The walks of took and of Slowest. -/
namespace Go.Proofs.Ytoddncakdnmloaa.diary
open Go Go.Vx

def tkS (es : List Ev) (s : Sp) : Int := stp es s.to - stp es s.from_
/-- a span's cells -/
def cS (x : Sl) : List AV := [.int .i64 x.s.who, .int .i64 x.s.nth, .int .i64 x.s.from_, .int .i64 x.s.to, .int .i64 x.s.kind, .int .u64 x.s.task, x.va, .int .i64 x.s.code, .int .u64 x.s.v, x.la]
structure Sl.Rd (M : AMem) (x : Sl) : Prop where
  va : IRow M .i64 x.va x.s.vs
  la : IRow M .u64 x.la x.s.ls
theorem Sl.Rd.ok {M : AMem} {x : Sl} (h : x.Rd M) : x.Ok := ⟨⟨h.va.one2.1, RowE.beq1 h.va⟩, ⟨h.la.one2.1, RowE.beq1 h.la⟩⟩
theorem cS_one {x : Sl} (h : x.Ok) : (cS x).all AV.one = true := by simp [cS, one_int, h.va.1, h.la.1]
theorem cS_beq {x : Sl} (h : x.Ok) : AV.beq (.agg (cS x)) (.agg (cS x)) = true := by simp [cS, AV.beq, AV.beqs, h.va.2, h.la.2]
/-- the steps may be -/
structure May (es : List Ev) : Prop where
  sorted : Sorted es
  lo : 0 < es.length → 0 ≤ (ev es 0).step
  hi : 0 < es.length → (ev es (es.length - 1)).step ≤ 2147483647
theorem May.at_ {es : List Ev} (h : May es) {i : Nat} (hi : i < es.length) : 0 ≤ (ev es i).step ∧ (ev es i).step ≤ 2147483647 := by
  have h1 := h.lo (by omega)
  have h2 := h.hi (by omega)
  have h3 := h.sorted 0 i (by omega) hi
  have h4 := h.sorted i (es.length - 1) (by omega) (by omega)
  omega
/-- a span that has ended -/
def Ended (es : List Ev) (s : Sp) : Prop := ∃ a b : Nat, a < b ∧ b < es.length ∧ s.from_ = a ∧ s.to = b
theorem ended_of {es : List Ev} {s : Sp} (h : SpIn es s) (ht : 0 ≤ s.to) : Ended es s := by
  obtain ⟨a, h1, h2, h3 | ⟨b, h4, h5, h6⟩⟩ := h
  · omega
  · exact ⟨a, b, h4, h5, h2, h6⟩
set_option maxHeartbeats 1000000 in
theorem took_ok {v : AV} {es : List Ev} {x : Sl} (d : Nat) (M : AMem) (hok : Okg M) (hv : InEvs M.g v es) (hm : May es) (he : Ended es x.s) :
    Ans (callF tbl code 100000 (d + 1)) 28 [v, .agg (cS x)] M fun r M' => r = .int .i64 (tkS es x.s) ∧ Step M M' := by
  obtain ⟨a, b, hab, hbl, hf, ht⟩ := he
  refine Ans_of (tbl_none (by decide) _) (show code 28 = some c28 from by kernel_rfl) (by simp) fun t hd ha => ?_
  have h0 := ha 0 _ rfl
  have h1 := ha 1 _ rfl
  clear ha
  have s1 := (Step.refl hok).push (k := .cells (cS x) 0 true none) (fun _ _ _ _ he => by cases he)
  have g1 := get_push_self (k := .cells (cS x) 0 true none) hok.1
  refine W_seq (W_seqR (by simp only [runSeq_cons, runSeq_nil, evalArgs_nil, evalArgs_tmp, evalArgs_const, val1, putT, opI_move, opI_box, cells_agg, h1]; rfl) ?_)
  generalize M.push (.cells (cS x) 0 true none) = M1 at *
  have L3 := load_own (o := 3) g1 rfl
  have L2 := load_own (o := 2) g1 rfl
  rw [ht] at L3
  rw [hf] at L2
  obtain ⟨p, pp, p1, _, p2⟩ := hv.at_ hbl M1 s1.grow.g
  obtain ⟨q, qq, q1, _, q2⟩ := hv.at_ (show a < es.length by omega) M1 s1.grow.g
  have P0 := p2 0 _ rfl
  have Q0 := q2 0 _ rfl
  have ba := hm.at_ (show a < es.length by omega)
  have bb := hm.at_ hbl
  have wS' : wrapF .i64 ((ev es b).step - (ev es a).step) = tkS es x.s := by
    unfold tkS
    rw [ht, hf, stp_nat, stp_nat]
    exact wrapF_mid (by omega) (by omega)
  refine W_seq (W_quiet rfl (by simp only [runPure_cons, runPure_nil, ofD_cons, ofD_nil, sameN_self, evalArgs_nil, evalArgs_tmp, putT, Tr.get_set_self, Tr.get_set_ne, hd _, ne_eq, Nat.reduceEqDiff, not_false_eq_true, decide_true, Nat.reduceLT, opI_move, opI_sub, opI_fieldP, Nat.zero_add, Nat.add_zero, h0, L2, L3, p1, opI_fieldQ pp, P0, q1, opI_fieldQ qq, Q0, wS']; rfl) (W_ret ?_))
  exact ⟨_, fin_tmp (by simp only [Tr.get_set_self, Tr.get_set_ne, Tr.isSome_set, Option.isSome_some, hd _, ne_eq, Nat.reduceEqDiff, not_false_eq_true, decide_true, Nat.reduceLT]; try rfl), rfl, s1⟩
set_option maxHeartbeats 1000000 in
theorem reftook_ok {v : AV} {es : List Ev} {x : Sl} (d : Nat) (M : AMem) (hok : Okg M) (hv : InEvs M.g v es) (hm : May es) (he : Ended es x.s) :
    Ans (callF tbl code 100000 (d + 1)) 32 [v, .agg (cS x)] M fun r M' => r = .int .i64 (tkS es x.s) ∧ Step M M' := by
  obtain ⟨a, b, hab, hbl, hf, ht⟩ := he
  refine Ans_of (tbl_none (by decide) _) (show code 32 = some c32 from by kernel_rfl) (by simp) fun t hd ha => ?_
  have h0 := ha 0 _ rfl
  have h1 := ha 1 _ rfl
  clear ha
  have s1 := (Step.refl hok).push (k := .cells (cS x) 0 true none) (fun _ _ _ _ he => by cases he)
  have g1 := get_push_self (k := .cells (cS x) 0 true none) hok.1
  refine W_seq (W_seqR (by simp only [runSeq_cons, runSeq_nil, evalArgs_nil, evalArgs_tmp, evalArgs_const, val1, putT, opI_move, opI_box, cells_agg, h1]; rfl) ?_)
  generalize M.push (.cells (cS x) 0 true none) = M1 at *
  have L3 := load_own (o := 3) g1 rfl
  have L2 := load_own (o := 2) g1 rfl
  rw [ht] at L3
  rw [hf] at L2
  obtain ⟨p, pp, p1, _, p2⟩ := hv.at_ hbl M1 s1.grow.g
  obtain ⟨q, qq, q1, _, q2⟩ := hv.at_ (show a < es.length by omega) M1 s1.grow.g
  have P0 := p2 0 _ rfl
  have Q0 := q2 0 _ rfl
  have ba := hm.at_ (show a < es.length by omega)
  have bb := hm.at_ hbl
  have wS' : wrapF .i64 ((ev es b).step - (ev es a).step) = tkS es x.s := by
    unfold tkS
    rw [ht, hf, stp_nat, stp_nat]
    exact wrapF_mid (by omega) (by omega)
  refine W_seq (W_quiet rfl (by simp only [runPure_cons, runPure_nil, ofD_cons, ofD_nil, sameN_self, evalArgs_nil, evalArgs_tmp, putT, Tr.get_set_self, Tr.get_set_ne, hd _, ne_eq, Nat.reduceEqDiff, not_false_eq_true, decide_true, Nat.reduceLT, opI_move, opI_sub, opI_fieldP, Nat.zero_add, Nat.add_zero, h0, L2, L3, p1, opI_fieldQ pp, P0, q1, opI_fieldQ qq, Q0, wS']; rfl) (W_ret ?_))
  exact ⟨_, fin_tmp (by simp only [Tr.get_set_self, Tr.get_set_ne, Tr.isSome_set, Option.isSome_some, hd _, ne_eq, Nat.reduceEqDiff, not_false_eq_true, decide_true, Nat.reduceLT]; try rfl), rfl, s1⟩

/-! spans in a row, one by one -/
theorem rd_sl {M : AMem} {v : AV} {sps : List Sp} (h : RdRow M v sps) : ∃ sl : Nat → Sl, (∀ i (hi : i < sps.length), (sl i).s = sps[i] ∧ (sl i).Rd M) ∧ ∀ M', Grow M M' → ∀ i, i < sps.length → ∃ p, IsP p ∧ opI (.indexAddrS 10) [v, .int .i64 i] M' = some (.val (padd p 0) M') ∧ opI (.load true 10) [padd p 0] M' = some (.val (.agg (cS (sl i))) M') ∧ ∀ o x, (cS (sl i))[o]? = some x → opI (.load false 1) [padd p o] M' = some (.val x M') := by
  obtain ⟨els, h1, h2, h3⟩ := h
  have key : ∀ i, ∃ x : Sl, ∀ hi : i < sps.length, x.s = sps[i] ∧ x.Rd M ∧ els[i]? = some (cS x) := fun i => by
    by_cases hi : i < sps.length
    · obtain ⟨e, k1, va, la, rfl, k3, k4⟩ := h3 i _ (List.getElem?_eq_getElem hi)
      exact ⟨⟨va, la, sps[i]⟩, fun _ => ⟨rfl, ⟨k3, k4⟩, k1⟩⟩
    · exact ⟨dSl, fun h => absurd h hi⟩
  refine ⟨fun i => (key i).choose, fun i hi => ⟨((key i).choose_spec hi).1, ((key i).choose_spec hi).2.1⟩, fun M' hg i hi => ?_⟩
  have hel := ((key i).choose_spec hi).2.2
  have hil : i < els.length := by omega
  obtain ⟨p, pp, p1, p2, p3⟩ := (h1.grow hg).at_ hil (by omega)
  rw [(List.getElem?_eq_some_iff.1 hel).2] at p2 p3
  exact ⟨p, pp, p1, p2 0 10 (by omega), p3⟩
/-- those that ended, of the first i -/
def PE (sl : Nat → Sl) (i : Nat) : List Sl := ((List.range i).map sl).filter fun x => decide (0 ≤ x.s.to)
theorem PE_succ {sl : Nat → Sl} {i : Nat} : PE sl (i + 1) = PE sl i ++ if 0 ≤ (sl i).s.to then [sl i] else [] := by
  unfold PE
  rw [List.range_succ, List.map_append, List.filter_append]
  congr 1
  by_cases h : 0 ≤ (sl i).s.to <;> simp [List.filter, h]
def En (sps : List Sp) : List Sp := sps.filter fun s => decide (0 ≤ s.to)
theorem PE_all {sl : Nat → Sl} {sps : List Sp} (h : ∀ i (hi : i < sps.length), (sl i).s = sps[i]) : (PE sl sps.length).map (·.s) = En sps := by
  have key : ∀ i, i ≤ sps.length → (PE sl i).map (·.s) = En (sps.take i) := by
    intro i
    induction i with
    | zero => intro _; simp [PE, En]
    | succ i ih =>
      intro hi
      rw [PE_succ, List.map_append, ih (by omega), List.take_add_one, List.getElem?_eq_getElem (show i < sps.length by omega)]
      unfold En
      rw [List.filter_append]
      congr 1
      rw [h i (by omega)]
      by_cases h0 : 0 ≤ sps[i].to <;> simp [List.filter, h0, h i (by omega)]
  rw [key _ (Nat.le_refl _), List.take_of_length_le (Nat.le_refl _)]
theorem PE_le {sl : Nat → Sl} {i : Nat} : (PE sl i).length ≤ i := by
  unfold PE
  have := List.length_filter_le (fun x : Sl => decide (0 ≤ x.s.to)) ((List.range i).map sl)
  simpa using this
theorem PE_mem {sl : Nat → Sl} {i : Nat} {x : Sl} (h : x ∈ PE sl i) : ∃ j, j < i ∧ x = sl j ∧ 0 ≤ x.s.to := by
  unfold PE at h
  rw [List.mem_filter, List.mem_map] at h
  obtain ⟨⟨j, hj, rfl⟩, h2⟩ := h
  exact ⟨j, List.mem_range.1 hj, rfl, by simpa using h2⟩
/-- the n best of those that came -/
structure Best (tk : Sp → Int) (N : Nat) (P l ds : List Sl) : Prop where
  perm : (l ++ ds).Perm P
  len : l.length = min N P.length
  worse : ∀ d ∈ ds, ∀ k ∈ l, wS tk d.s k.s = true
theorem wS_trans {tk : Sp → Int} {a b c : Sp} (h : wS tk a b = true) (k : wS tk b c = true) : wS tk a c = true := by
  simp only [wS, decide_eq_true_eq] at *; omega
theorem wS_total {tk : Sp → Int} {a b : Sp} (h : wS tk a b = false) (hne : a.from_ ≠ b.from_) : wS tk b a = true := by
  simp only [wS, decide_eq_true_eq, decide_eq_false_iff_not] at *; omega
theorem Best.keep {tk : Sp → Int} {N : Nat} {P l ds l1 : List Sl} {x : Sl} (h : Best tk N P l ds) (hp : l1.Perm (l ++ [x])) (hle : l1.length ≤ N) : Best tk N (P ++ [x]) l1 ds := by
  have h1 := h.perm.length_eq
  have h2 := hp.length_eq
  have h3 := h.len
  simp only [List.length_append, List.length_singleton] at h1 h2
  have hd : ds = [] := List.eq_nil_of_length_eq_zero (by omega)
  have hl1 : l1.length = min N (P.length + 1) := by omega
  subst hd
  refine ⟨?_, by rw [hl1]; simp, fun d hd => by simp at hd⟩
  rw [List.append_nil]
  refine hp.trans ?_
  have := h.perm
  rw [List.append_nil] at this
  exact this.append_right _
theorem Best.drop {tk : Sp → Int} {N : Nat} {P l ds l1 l' : List Sl} {x w : Sl} (h : Best tk N P l ds) (hp : l1.Perm (l ++ [x])) (hgt : ¬ l1.length ≤ N) (hw : l1.Perm (w :: l')) (hmin : ∀ k ∈ l', ltS tk k w = false)
    (hne : ∀ k ∈ l', k.s.from_ ≠ w.s.from_) : Best tk N (P ++ [x]) l' (w :: ds) := by
  have h1 := h.perm.length_eq
  have h2 := hp.length_eq
  have h3 := h.len
  have h4 := hw.length_eq
  simp only [List.length_append, List.length_cons, List.length_nil] at h1 h2 h4
  have hwk : ∀ k ∈ l', wS tk w.s k.s = true := fun k hk => wS_total (hmin k hk) (hne k hk)
  refine ⟨?_, by simp; omega, fun d hd k hk => ?_⟩
  · have : (l' ++ w :: ds).Perm (w :: (l' ++ ds)) := List.perm_middle
    refine this.trans ?_
    have e1 : (w :: (l' ++ ds)).Perm (l1 ++ ds) := by
      have := hw.symm.append_right ds
      simpa using this
    refine e1.trans ((hp.append_right ds).trans ?_)
    have e2 : (l ++ [x] ++ ds).Perm (l ++ ds ++ [x]) := by
      rw [List.append_assoc, List.append_assoc]
      exact List.Perm.append_left l (List.perm_append_comm)
    exact e2.trans (h.perm.append_right [x])
  · rcases List.mem_cons.1 hd with rfl | hd
    · exact hwk k hk
    · have hk1 : k ∈ l ++ [x] := hp.mem_iff.1 (hw.mem_iff.2 (List.mem_cons_of_mem _ hk))
      rcases List.mem_append.1 hk1 with hkl | hkx
      · exact h.worse d hd k hkl
      · simp at hkx
        subst hkx
        have hw1 : w ∈ l ++ [k] := hp.mem_iff.1 (hw.mem_iff.2 List.mem_cons_self)
        rcases List.mem_append.1 hw1 with hwl | hwx
        · exact wS_trans (h.worse d hd w hwl) (hwk k hk)
        · simp at hwx
          subst hwx
          exact absurd rfl (hne w hk)
theorem Best.skip {tk : Sp → Int} {P l ds : List Sl} {x : Sl} (h : Best tk 0 P l ds) : Best tk 0 (P ++ [x]) l (ds ++ [x]) := by
  have h3 := h.len
  have hl : l = [] := List.eq_nil_of_length_eq_zero (by omega)
  subst hl
  exact ⟨by simpa using h.perm.append_right [x], by simp, fun d _ k hk => by simp at hk⟩
/-- the best, from the worst one on -/
theorem Best.top {tk : Sp → Int} {N : Nat} {P l ds R : List Sl} (h : Best tk N P l ds) (hR : R.Perm l) (hs : R.Pairwise fun a b => wS tk b.s a.s = true) : Top tk (P.map (·.s)) N (R.map (·.s)) := by
  refine ⟨by rw [List.length_map, List.length_map, hR.length_eq, h.len], fun s hs' => ?_, fun j hj e he hne => ?_⟩
  · obtain ⟨x, hx, rfl⟩ := List.mem_map.1 hs'
    exact List.mem_map.2 ⟨x, h.perm.mem_iff.1 (List.mem_append_left _ (hR.mem_iff.1 hx)), rfl⟩
  · obtain ⟨x, hx, rfl⟩ := List.mem_map.1 he
    have hj' : j < R.length := by simpa using hj
    rw [List.getElem_map]
    rcases List.mem_append.1 (h.perm.mem_iff.2 hx) with hxl | hxd
    · obtain ⟨m, hm, rfl⟩ := List.mem_iff_getElem.1 (hR.mem_iff.2 hxl)
      by_cases hmj : m < j
      · exfalso
        apply hne
        rw [← List.map_take]
        refine List.mem_map.2 ⟨R[m], ?_, rfl⟩
        rw [List.mem_take_iff_getElem]
        exact ⟨m, by omega, rfl⟩
      · by_cases hme : m = j
        · subst hme; exact .inl rfl
        · exact .inr (List.pairwise_iff_getElem.1 hs j m hj' hm (by omega))
    · exact .inr (h.worse x hxd _ (hR.mem_iff.1 (List.getElem_mem hj')))
end Go.Proofs.Ytoddncakdnmloaa.diary
