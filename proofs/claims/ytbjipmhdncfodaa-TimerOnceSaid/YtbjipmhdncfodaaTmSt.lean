/- A timer's heap: Push, Pop and Remove, whatever stands in it. -/
import Derived.Test.YtbjipmhdncfodaaTmHeap
import Derived.Test.YtbjipmhdncfodaaTmRem
namespace Go.Proofs.Ytbjipmhdncfodaa.grf
open Go Go.Vx

section
variable {M0 A M : AMem} {tb γ : Nat} {l : List En} {v mp : AV} {nn now : Int} {I : Nat → Prop}
abbrev tC (v mp : AV) (nn now : Int) : List AV := [v, mp, .int .i64 nn, .int .i64 now]
set_option maxHeartbeats 2000000 in
theorem popT_ok (d : Nat) (h : Step M0 M) (hp : M0.n ≤ tb) (hc : M.get tb = some (.cells (tC v mp nn now) 0 true none)) (hv : RowI M0 M 1 γ v (l.map eR)) (hpg : tb ≠ γ) (hl : 0 < l.length) (hn : l.length ≤ 90000) :
    Ans (callF tbl code 100000 (d + 1)) 75 [.ptr (some (tb, 0))] M fun r M' => r = .iface 60 (pP (l.getD (l.length - 1) dEn)) ∧ Step M0 M' ∧ (∃ v', M'.get tb = some (.cells (tC v' mp nn now) 0 true none) ∧ RowI M0 M' 1 γ v' ((l.take (l.length - 1)).map eR)) ∧ Fr M M' (· = tb) ∧ M'.n = M.n := by
  refine Ans_of (tbl_none (by decide) _) (show code 75 = some c75 from by kernel_rfl) (by simp) fun t hd ha => ?_
  have h0 := ha 0 _ rfl
  clear ha
  have w1 : wrapF .i64 ((l.length : Int) - 1) = ((l.length - 1 : Nat) : Int) := by rw [wrapF_small (by omega) (by omega)]; omega
  have lv := rowT_len hv h.ok.1
  have L := load_own (o := 0) hc rfl
  obtain ⟨a1, a2⟩ := rowT_at hv h.ok.1 (i := l.length - 1) (by omega)
  refine W_seq (W_seqR (by simp only [runSeq_cons, runSeq_nil, evalArgs_nil, evalArgs_const, val1, putT, opI_move]; rfl) ?_)
  refine W_seq (W_trace (M' := M) rfl (by simp only [sameN_self, evalArgs_nil, evalArgs_tmp, evalArgs_const, putT, Tr.get_set_self, Tr.get_set_ne, hd _, ne_eq, Nat.reduceEqDiff, not_false_eq_true, decide_true, Nat.reduceLT, opI_move, opI_sub, trace_nil, trace_read, addR_some, h0, opI_nilP, L, lv, w1, a1, a2]; rfl) (by simp [checkRec, isLoad]) rfl ?_)
  obtain ⟨v', p1, p2⟩ := hv.pop (by rw [List.length_map]; exact hl)
  rw [List.length_map] at p1 p2
  rw [← List.map_take] at p2
  obtain ⟨e3, s3, g3, k3⟩ := store1 (o := 0) (x := v') h hp hc p2.one (by simp)
  simp only [List.set_cons_zero] at e3 s3 g3 k3
  have hh := held_none h.ok.1
  refine W_seq (W_mix rfl (by simp only [sameN_self, evalArgs_nil, evalArgs_tmp, evalArgs_const, val1, putT, Tr.get_set_self, Tr.get_set_ne, hd _, ne_eq, Nat.reduceEqDiff, not_false_eq_true, decide_true, Nat.reduceLT, opI_move, opI_sub, runMix_nil, runMix_read, runMix_eff, h0, opI_nilP, L, lv, w1, p1, e3, hh]; rfl) ?_)
  have fr3 : Fr M (M.set tb (.cells (tC v' mp nn now) 0 true none)) (· = tb) := Fr.set hc
  refine W_seq (W_seqR (by simp only [runSeq_cons, runSeq_nil, evalArgs_nil, evalArgs_tmp, val1, putT, Tr.get_set_self, Tr.get_set_ne, hd _, ne_eq, Nat.reduceEqDiff, not_false_eq_true, decide_true, Nat.reduceLT, opI_move, opI_mkIface]; rfl) (W_ret ?_))
  exact ⟨_, fin_tmp (by simp only [Tr.get_set_self, Tr.get_set_ne, Option.isSome_some, hd _, ne_eq, Nat.reduceEqDiff, not_false_eq_true, decide_true, Nat.reduceLT]; try rfl), rfl, s3, ⟨v', g3, p2.frame fr3 (fun h => hpg h.symm)⟩, fr3, rfl⟩
set_option maxRecDepth 20000 in
set_option maxHeartbeats 2000000 in
theorem pushT_ok (d : Nat) (h : Step M0 M) (hp : M0.n ≤ tb) (hpg : tb ≠ γ) (hc : M.get tb = some (.cells (tC v mp nn now) 0 true none)) (hv : RowI M0 M 1 γ v (l.map eR)) (hn : l.length ≤ 90000) {x : En} {p : Int} (hx : M.get x.b = some (.cells (eC x p) 0 true none)) (hxb : M0.n ≤ x.b) (hxt : x.b ≠ tb) (hxg : x.b ≠ γ) :
    Ans (callF tbl code 100000 (d + 1)) 76 [.ptr (some (tb, 0)), .iface 60 (pP x)] M fun _ M' => Step M0 M' ∧ ∃ γ', (γ' = γ ∨ M.n ≤ γ') ∧ (∃ v', M'.get tb = some (.cells (tC v' mp nn now) 0 true none) ∧ RowI M0 M' 1 γ' v' ((l ++ [x]).map eR)) ∧ M'.get x.b = some (.cells (eC x l.length) 0 true none) ∧ Fr M M' (fun i => i = tb ∨ i = γ ∨ i = x.b) ∧ M.n ≤ M'.n := by
  refine Ans_of (tbl_none (by decide) _) (show code 76 = some c76 from by kernel_rfl) (by simp) fun t hd ha => ?_
  have h0 := ha 0 _ rfl
  have h1 := ha 1 _ rfl
  clear ha
  have L := load_own (o := 0) hc rfl
  have lv := rowT_len hv h.ok.1
  have hlt := get_lt h.ok.1 hc
  have hxl := get_lt h.ok.1 hx
  have as1 : ∀ M : AMem, opI (.assertC 60 false (.ptr none)) [.iface 60 (pP x)] M = some (.val (pP x) M) := fun _ => rfl
  refine W_seq (W_seqR (by simp only [runSeq_cons, runSeq_nil, evalArgs_nil, evalArgs_tmp, val1, putT, Tr.get_set_self, Tr.get_set_ne, hd _, ne_eq, Nat.reduceEqDiff, not_false_eq_true, decide_true, Nat.reduceLT, opI_move, h1, as1]; rfl) ?_)
  obtain ⟨M1, e1, s1, g1, f1, n1⟩ := place_put h (q := l.length) hxb hx
  refine W_seq (W_seqR (by simp only [runSeq_cons, runSeq_nil, evalArgs_nil, evalArgs_tmp, val1, putT, Tr.get_set_self, Tr.get_set_ne, hd _, ne_eq, Nat.reduceEqDiff, not_false_eq_true, decide_true, Nat.reduceLT, opI_move, opI_fieldP, Nat.zero_add, h0, opI_nilP, L, lv, e1]; rfl) ?_)
  have hc1 := f1 tb _ hc (fun hh => hxt hh.symm)
  have hv1 := hv.frame f1 (fun hh => hxg hh.symm)
  have L1 := load_own (o := 0) hc1 rfl
  obtain ⟨M2, v', γ', e2, e3, s2, r2, f2, g2, n2⟩ := hv1.push (bytes := 8) (z := [.ptr none]) (x := pP x) s1 rfl rfl (by omega) rfl (by simp; omega) (by simp; omega)
  have hc2 := f2 tb _ hc1 hpg
  have hx2 := f2 x.b _ g1 hxg
  obtain ⟨e4, s4, g4, k4⟩ := store1 (o := 0) (x := v') s2 hp hc2 r2.one (by simp)
  simp only [List.set_cons_zero] at e4 s4 g4 k4
  refine W_seqR (by simp only [runSeq_cons, runSeq_nil, evalArgs_nil, evalArgs_tmp, val1, putT, Tr.get_set_self, Tr.get_set_ne, hd _, ne_eq, Nat.reduceEqDiff, not_false_eq_true, decide_true, Nat.reduceLT, opI_move, h0, opI_nilP, L1, e2, e3, e4]; rfl) ?_
  have fr : Fr M2 (M2.set tb (.cells (tC v' mp nn now) 0 true none)) (· = tb) := Fr.set hc2
  have hne : tb ≠ γ' := by
    rcases g2 with rfl | hge
    · exact hpg
    · omega
  refine ⟨[], rfl, s4, γ', by rw [n1] at g2; exact g2, ⟨v', g4, ?_⟩, fr x.b _ hx2 hxt, ((f1.mono (fun i hi => .inr (.inr hi))).trans (f2.mono (fun i hi => .inr (.inl hi)))).trans (fr.mono (fun i hi => .inl hi)), by show M.n ≤ M2.n; omega⟩
  have r3 := r2.frame fr (fun h => hne h.symm)
  rw [List.map_append]
  exact r3

/-- the heap's row, and its entries -/
def TRep (M0 A : AMem) (tb γ : Nat) (mp : AV) (nn now : Int) (I : Nat → Prop) (L0 : List En) (M : AMem) (l : List En) : Prop :=
  Step M0 M ∧ A.n ≤ M.n ∧ Fr A M (fun i => i = tb ∨ i = γ ∨ I i) ∧ (M0.n ≤ tb ∧ tb ≠ γ ∧ ¬ I tb ∧ ¬ I γ) ∧ l.length ≤ 90000 ∧ (l.map (·.b)).Nodup ∧ (∀ x ∈ l, I x.b ∧ M0.n ≤ x.b) ∧ EntsAt M l ∧ ((∀ x ∈ L0, I x.b ∧ ∃ p : Int, M.get x.b = some (.cells (eC x p) 0 true none)) ∧ ∀ x ∈ L0, ∀ y ∈ l, x.b = y.b → x = y) ∧
    ∃ v, M.get tb = some (.cells (tC v mp nn now) 0 true none) ∧ RowI M0 M 1 γ v (l.map eR)
abbrev hvT (tb : Nat) : AV := .iface 66 (.ptr (some (tb, 0)))
abbrev encT (x : En) : AV := .iface 60 (pP x)
/-- The methods, as the heap calls them. -/
theorem heapT {L0 : List En} : HM 4 (hvT tb) (TRep M0 A tb γ mp nn now I L0) dEn encT ltE := fun d => by
  refine ⟨?_, ?_, ?_, ?_⟩
  · rintro M l i j ⟨h1, h2, h3, h4, h5, h6, h7, h8, ⟨hL, hI⟩, v, h9, h10⟩ hi hj
    obtain ⟨r, M', k1, rfl, k2⟩ := lessT_ok d h1 h10 h8 hi hj
    have fr : ∀ ids, Fr M M' ids := fun ids => Fr.grow h1.ok.1 k2.grow
    have hn := k2.grow.n
    exact ⟨_, _, M', by simp [opI, invokeI, List.lookup, viaI, AMem.loadCells, h9], k1, h1.trans k2, by omega, h3.trans (fr _), h4, h5, h6, h7, h8.frame (fr (fun _ => False)) (fun _ _ h => h), ⟨fun x hx => ⟨(hL x hx).1, by obtain ⟨p, hp⟩ := (hL x hx).2; exact ⟨p, fr (fun _ => False) _ _ hp (fun h => h)⟩⟩, hI⟩, v, fr (fun _ => False) tb _ h9 (fun h => h), h10.frame (fr (fun _ => False)) (fun h => h)⟩
  · rintro M l i j ⟨h1, h2, h3, h4, h5, h6, h7, h8, ⟨hL, hI⟩, v, h9, h10⟩ hi hj
    obtain ⟨a1, a2, a3, a4⟩ := h4
    obtain ⟨r, M', k1, k2, k3, k4, k5, k6⟩ := swapT_ok (d + 3) h1 h10 h8 h6 (fun x hx => ⟨(h7 x hx).2, fun he => a4 (he ▸ (h7 x hx).1)⟩) hi hj
    have hp := swapL_perm (d := dEn) hi hj
    refine ⟨_, _, r, M', by simp [opI, invokeI, List.lookup, viaI, AMem.loadCells, h9], k1, k2, by omega, h3.trans (k5.mono ?_), ⟨a1, a2, a3, a4⟩, by rw [swapL_len]; exact h5, (hp.map _).nodup_iff.2 h6, fun x hm => h7 x (hp.mem_iff.1 hm), k4, ⟨fun x hx => ⟨(hL x hx).1, ?_⟩, fun x hx y hy => hI x hx y (hp.mem_iff.1 hy)⟩, v, k5 tb _ h9 ?_, k3⟩
    · rintro i (rfl | ⟨x, hx, rfl⟩)
      · exact .inr (.inl rfl)
      · exact .inr (.inr (h7 x hx).1)
    · by_cases hy : ∃ y ∈ l, x.b = y.b
      · obtain ⟨y, hy, hb⟩ := hy
        obtain rfl := hI x hx y hy hb
        obtain ⟨m, hm, hg⟩ := List.mem_iff_getElem.1 (hp.mem_iff.2 hy)
        have := k4 m hm
        rw [show (swapL dEn l i j).getD m dEn = x by rw [List.getD_eq_getElem?_getD, List.getElem?_eq_getElem hm]; exact hg] at this
        exact ⟨_, this⟩
      · obtain ⟨p, hpx⟩ := (hL x hx).2
        refine ⟨p, k5 _ _ hpx ?_⟩
        rintro (he | ⟨y, hy', he⟩)
        · exact a4 (show I γ from (show x.b = γ from he) ▸ (hL x hx).1)
        · exact hy ⟨y, hy', he⟩
    · rintro (he | ⟨x, hx, he⟩)
      · exact a2 he
      · exact a3 (show I tb from (show tb = x.b from he) ▸ (h7 x hx).1)
  · rintro M l ⟨h1, h2, h3, h4, h5, h6, h7, h8, ⟨hL, hI⟩, v, h9, h10⟩
    exact ⟨_, _, _, by simp [opI, invokeI, List.lookup, viaI, AMem.loadCells, h9], lenT_ok (d + 3) h1.ok.1 h10, h1, h2, h3, h4, h5, h6, h7, h8, ⟨hL, hI⟩, v, h9, h10⟩
  · rintro M l ⟨h1, h2, h3, ⟨a1, a2, a3, a4⟩, h5, h6, h7, h8, ⟨hL, hI⟩, v, h9, h10⟩ hl
    obtain ⟨r, M', k1, rfl, k2, ⟨v', k3, k4⟩, k5, k6⟩ := popT_ok (d + 3) h1 a1 h9 h10 a2 hl h5
    refine ⟨75, [.ptr (some (tb, 0))], M', by simp [opI, invokeI, List.lookup], k1, k2, by omega, h3.trans (k5.mono (fun i hi => .inl hi)), ⟨a1, a2, a3, a4⟩, by rw [List.length_take]; omega, ?_, fun x hm => h7 x (List.mem_of_mem_take hm), ?_, ⟨fun x hx => ⟨(hL x hx).1, by obtain ⟨p, hp⟩ := (hL x hx).2; exact ⟨p, k5 _ _ hp (fun hb => a3 (show I tb from (show x.b = tb from hb) ▸ (hL x hx).1))⟩⟩, fun x hx y hy => hI x hx y (List.mem_of_mem_take hy)⟩, v', k3, k4⟩
    · rw [List.map_take]
      exact h6.sublist (List.take_sublist _ _)
    · have he := h8.frame k5 (fun x hx hb => a3 (show I tb from (show x.b = tb from hb) ▸ (h7 x hx).1))
      intro i hi
      rw [List.length_take] at hi
      have hg : (l.take (l.length - 1)).getD i dEn = l.getD i dEn := by
        rw [List.getD_eq_getElem?_getD, List.getElem?_take_of_lt (by omega), ← List.getD_eq_getElem?_getD]
      rw [hg]
      exact he i (by omega)
end
end Go.Proofs.Ytbjipmhdncfodaa.grf
