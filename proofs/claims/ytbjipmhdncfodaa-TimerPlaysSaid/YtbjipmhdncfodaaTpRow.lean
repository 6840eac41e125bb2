/- Rows of our own of which parts may be taken; what is laid behind such a row. -/
import Derived.Test.YtbjipmhdncfodaaTmNew
namespace Go.Proofs.Ytbjipmhdncfodaa.grf
open Go Go.Vx

/-- A piece of plain code, of which something is known behind it. -/
theorem W_seqX {call : FuncId → List AV → AMem → Option (AV × AMem)} {N : Nat} {ps : List PInstr} {t : Tr AV} {M : AMem} {Q : PEx → Tr AV → AMem → Prop} (P : Tr AV → AMem → Prop) (h : ∃ t' M', runSeq call ps t M = some (t', M') ∧ P t' M') (k : ∀ t' M', P t' M' → Q .normal t' M') : W (exec call N (.seqR ps) t M) Q := by
  obtain ⟨t', M', h1, h2⟩ := h
  exact W_seqR h1 (k _ _ h2)
/-- A row of our own memory that can be read, wherever it begins; δ: its block's name. -/
def RowN (M : AMem) (sz δ : Nat) (v : AV) (els : List (List AV)) : Prop := Els sz els ∧ els.flatten.all AV.one = true ∧ (
  (v = .slice none 0 0 false ∧ els = []) ∨ (∃ b o adv, v = .tail b o adv ∧ els = []) ∨
  (∃ b o c gr cs sz' wr g, v = .slice (some (b, o)) els.length c gr ∧ els.length ≤ c ∧ M.get b = some (.cells cs sz' wr g) ∧ g.getD b = δ ∧ b < M.n ∧ o + els.length * sz ≤ cs.length ∧ (cs.drop o).take (els.length * sz) = els.flatten))
section
variable {M0 M M' : AMem} {sz δ : Nat} {v : AV} {els : List (List AV)}
theorem RowN.frame {ids : Nat → Prop} (h : RowN M sz δ v els) (hf : Fr M M' ids) (hi : ¬ ids δ) (hn : M.n ≤ M'.n) : RowN M' sz δ v els := by
  obtain ⟨h1, h2, h⟩ := h
  refine ⟨h1, h2, h.imp id (Or.imp id ?_)⟩
  rintro ⟨b, o, c, gr, cs, sz', wr, g, k1, k2, k3, k4, k5, k6, k7⟩
  refine ⟨b, o, c, gr, cs, sz', wr, g, k1, k2, hf b _ k3 ?_, k4, by omega, k6, k7⟩
  show ¬ ids (g.getD b)
  rw [k4]; exact hi
theorem RowN.grow (h : RowN M sz δ v els) (hok : Ok M) (hg : Grow M M') : RowN M' sz δ v els := h.frame (Fr.grow (ids := fun _ => False) hok hg) (fun h => h) hg.n
theorem RowN.len (h : RowN M sz δ v els) (M' : AMem) : opI .lenS [v] M' = some (.val (.int .i64 els.length) M') := by
  obtain ⟨_, _, ⟨rfl, rfl⟩ | ⟨b, o, adv, rfl, rfl⟩ | ⟨b, o, c, gr, cs, sz', wr, g, rfl, _⟩⟩ := h <;> rfl
theorem RowN.one (h : RowN M sz δ v els) : v.one = true ∧ v.cells = [v] := by
  obtain ⟨_, _, ⟨rfl, rfl⟩ | ⟨b, o, adv, rfl, rfl⟩ | ⟨b, o, c, gr, cs, sz', wr, g, rfl, _⟩⟩ := h <;> exact ⟨rfl, rfl⟩
theorem RowN.beq1 (h : RowN M sz δ v els) : AV.beq v v = true := by
  obtain ⟨_, _, ⟨rfl, rfl⟩ | ⟨b, o, adv, rfl, rfl⟩ | ⟨b, o, c, gr, cs, sz', wr, g, rfl, _⟩⟩ := h <;> simp [AV.beq]
theorem RowN.rowE (h : RowN M sz δ v els) (hne : 0 < els.length) : RowE M sz v els := by
  obtain ⟨h1, h2, ⟨rfl, rfl⟩ | ⟨b, o, adv, rfl, rfl⟩ | ⟨b, o, c, gr, cs, sz', wr, g, rfl, k2, k3, k4, k5, k6, k7⟩⟩ := h
  · simp at hne
  · simp at hne
  · exact ⟨h1, .inr (.inr ⟨b, o, c, gr, cs, sz', wr, g, rfl, k3, k5, k6, k7⟩)⟩
theorem RowN.cells0 (h : RowN M sz δ v []) : M.sliceCells sz v = some (0, []) := by
  obtain ⟨h1, h2, ⟨rfl, _⟩ | ⟨b, o, adv, rfl, _⟩ | ⟨b, o, c, gr, cs, sz', wr, g, rfl, k2, k3, k4, k5, k6, k7⟩⟩ := h
  · rfl
  · rfl
  · simp only [AMem.sliceCells, AMem.loadCells, k3, List.length_nil, Nat.zero_mul, Nat.add_zero] at *
    rw [if_pos k6]; simp
theorem RowN.at_ (h : RowN M sz δ v els) (hs : 0 < sz) {i : Nat} (hi : i < els.length) :
    ∃ p, IsP p ∧ opI (.indexAddrS sz) [v, .int .i64 i] M = some (.val (padd p 0) M) ∧ (∀ o n, o + n ≤ sz → opI (.load true n) [padd p o] M = some (.val (.agg ((els[i].drop o).take n)) M)) ∧ ∀ o x, els[i][o]? = some x → opI (.load false 1) [padd p o] M = some (.val x M) :=
  (h.rowE (by omega)).at_ hi hs
theorem flat_take {e : List (List AV)} (he : Els sz e) {k : Nat} (hk : k ≤ e.length) : (e.take k).flatten = e.flatten.take (k * sz) ∧ (e.drop k).flatten = e.flatten.drop (k * sz) := by
  have h1 : e = e.take k ++ e.drop k := (List.take_append_drop k e).symm
  have h2 : (e.take k).flatten.length = k * sz := by rw [(he.take k).len, List.length_take, Nat.min_eq_left hk]
  have h3 : e.flatten = (e.take k).flatten ++ (e.drop k).flatten := by rw [← List.flatten_append, ← h1]
  constructor
  · rw [h3, ← h2, List.take_left]
  · rw [h3, ← h2, List.drop_left]
theorem all_take {l : List AV} (h : l.all AV.one = true) (n : Nat) : (l.take n).all AV.one = true := by
  rw [List.all_eq_true] at *
  exact fun x hx => h x (List.mem_of_mem_take hx)
theorem all_drop {l : List AV} (h : l.all AV.one = true) (n : Nat) : (l.drop n).all AV.one = true := by
  rw [List.all_eq_true] at *
  exact fun x hx => h x (List.mem_of_mem_drop hx)
theorem RowN.take (h : RowN M sz δ v els) {k : Nat} (hk : k ≤ els.length) : ∃ w, opI (.slice sz false true false) [v, .int .i64 k] M = some (.val w M) ∧ RowN M sz δ w (els.take k) := by
  obtain ⟨h1, h2, h⟩ := h
  obtain ⟨f1, _⟩ := flat_take h1 hk
  have hone : (els.take k).flatten.all AV.one = true := by rw [f1]; exact all_take h2 _
  have hl : (els.take k).length = k := by rw [List.length_take]; omega
  rcases h with ⟨rfl, rfl⟩ | ⟨b, o, adv, rfl, rfl⟩ | ⟨b, o, c, gr, cs, sz', wr, g, rfl, k2, k3, k4, k5, k6, k7⟩
  · obtain rfl : k = 0 := by simpa using hk
    exact ⟨_, rfl, h1.take _, hone, .inl ⟨rfl, rfl⟩⟩
  · obtain rfl : k = 0 := by simpa using hk
    exact ⟨_, rfl, h1.take _, hone, .inr (.inl ⟨b, o, adv, rfl, rfl⟩)⟩
  · have hbd : boundsI els.length c none (some (.int .i64 k)) none = some (0, k, c) := by
      simp only [boundsI, bnd]
      rw [if_pos ⟨by omega, by omega⟩]
      simp
    have hmul : k * sz ≤ els.length * sz := Nat.mul_le_mul_right _ hk
    have hcs : (cs.drop o).take (k * sz) = (els.take k).flatten := by
      rw [f1, ← k7, List.take_take, Nat.min_eq_left hmul]
    cases gr with
    | true =>
      by_cases hc0 : 0 < c
      · refine ⟨.slice (some (b, o)) k c true, ?_, h1.take _, hone, .inr (.inr ⟨b, o, c, true, cs, sz', wr, g, by rw [hl], by omega, k3, k4, k5, by rw [hl]; omega, by rw [hl]; exact hcs⟩)⟩
        simp only [opI, take3, take1, if_true, Bool.false_eq_true, if_false, sliceI, k2, hbd, Option.isNone_none, and_self]
        rw [if_pos hc0]; simp
      · obtain rfl : k = 0 := by omega
        refine ⟨.tail b o 0, ?_, h1.take _, hone, .inr (.inl ⟨b, o, 0, rfl, rfl⟩)⟩
        simp only [opI, take3, take1, if_true, Bool.false_eq_true, if_false, sliceI, k2, hbd, Option.isNone_none, and_self]
        rw [if_neg hc0, if_pos ⟨by omega, by trivial⟩]; simp
    | false =>
      refine ⟨.slice (some (b, o)) k c false, ?_, h1.take _, hone, .inr (.inr ⟨b, o, c, false, cs, sz', wr, g, by rw [hl], by omega, k3, k4, k5, by rw [hl]; omega, by rw [hl]; exact hcs⟩)⟩
      simp only [opI, take3, take1, if_true, Bool.false_eq_true, if_false, sliceI, k2, hbd, false_and]
      simp
theorem RowN.drop (h : RowN M sz δ v els) {k : Nat} (hk : k ≤ els.length) : ∃ w, opI (.slice sz true false false) [v, .int .i64 k] M = some (.val w M) ∧ RowN M sz δ w (els.drop k) := by
  obtain ⟨h1, h2, h⟩ := h
  obtain ⟨_, f1⟩ := flat_take h1 hk
  have hone : (els.drop k).flatten.all AV.one = true := by rw [f1]; exact all_drop h2 _
  have hl : (els.drop k).length = els.length - k := List.length_drop
  rcases h with ⟨rfl, rfl⟩ | ⟨b, o, adv, rfl, rfl⟩ | ⟨b, o, c, gr, cs, sz', wr, g, rfl, k2, k3, k4, k5, k6, k7⟩
  · obtain rfl : k = 0 := by simpa using hk
    exact ⟨_, rfl, h1.drop _, hone, .inl ⟨rfl, rfl⟩⟩
  · obtain rfl : k = 0 := by simpa using hk
    exact ⟨_, rfl, h1.drop _, hone, .inr (.inl ⟨b, o, adv, rfl, rfl⟩)⟩
  · have hbd : boundsI els.length c (some (.int .i64 k)) none none = some (k, els.length, c) := by
      simp only [boundsI, bnd, Option.isSome_none, Bool.false_eq_true, if_false]
      rw [if_pos ⟨by omega, by omega⟩]
      simp
    have hmul : k * sz ≤ els.length * sz := Nat.mul_le_mul_right _ hk
    have hsub : (els.length - k) * sz = els.length * sz - k * sz := Nat.sub_mul ..
    have hcs : (cs.drop (o + k * sz)).take ((els.length - k) * sz) = (els.drop k).flatten := by
      rw [f1, ← k7, List.drop_take, List.drop_drop, hsub]
    by_cases hlast : k = els.length
    · -- nothing is left
      have hnil : els.drop k = [] := by rw [hlast, List.drop_length]
      rw [hnil] at hone ⊢
      cases gr with
      | true =>
        by_cases hc0 : k < c
        · refine ⟨.slice (some (b, o + k * sz)) 0 (c - k) true, ?_, (fun e he => by simp at he), hone, .inr (.inr ⟨b, o + k * sz, c - k, true, cs, sz', wr, g, rfl, by simp, k3, k4, k5, by simp; omega, by simp⟩)⟩
          simp only [opI, take3, take1, if_true, Bool.false_eq_true, if_false, sliceI, k2, hbd, Option.isNone_none, and_self]
          rw [if_pos hc0, hlast]; simp
        · refine ⟨.tail b o (k * sz), ?_, (fun e he => by simp at he), hone, .inr (.inl ⟨b, o, _, rfl, rfl⟩)⟩
          simp only [opI, take3, take1, if_true, Bool.false_eq_true, if_false, sliceI, k2, hbd, Option.isNone_none, and_self]
          rw [if_neg hc0, if_pos ⟨by omega, hlast.symm⟩]
      | false =>
        refine ⟨.slice (some (b, if c = k then o else o + k * sz)) 0 (c - k) false, ?_, (fun e he => by simp at he), hone, .inr (.inr ⟨b, _, c - k, false, cs, sz', wr, g, rfl, by simp, k3, k4, k5, by simp; split <;> omega, by simp⟩)⟩
        simp only [opI, take3, take1, if_true, Bool.false_eq_true, if_false, sliceI, k2, hbd, false_and]
        rw [hlast]; simp
    · refine ⟨.slice (some (b, o + k * sz)) (els.length - k) (c - k) gr, ?_, h1.drop _, hone, .inr (.inr ⟨b, o + k * sz, c - k, gr, cs, sz', wr, g, by rw [hl], by omega, k3, k4, k5, by rw [hl, hsub]; omega, by rw [hl]; exact hcs⟩)⟩
      cases gr with
      | true =>
        simp only [opI, take3, take1, if_true, Bool.false_eq_true, if_false, sliceI, k2, hbd, Option.isNone_none, and_self]
        rw [if_pos (by omega)]
      | false =>
        simp only [opI, take3, take1, if_true, Bool.false_eq_true, if_false, sliceI, k2, hbd, false_and]
        rw [if_neg (by omega)]
theorem OwnE.rowN (h : OwnE M0 M sz v els) (hok : Okg M) : ∃ δ, M0.n ≤ δ ∧ δ < M.n ∧ RowN M sz δ v els := by
  obtain ⟨b, gr, sz', g, rfl, h1, h2, h3, h4, h5, h6⟩ := h
  refine ⟨g.getD b, ?_, gid_le hok h2, h5, h6, .inr (.inr ⟨b, 0, els.length, gr, els.flatten, sz', true, g, rfl, Nat.le_refl _, h2, rfl, get_lt hok.1 h2, by rw [h5.len]; omega, ?_⟩)⟩
  · cases g with
    | none => exact h1
    | some g => exact h4 g rfl
  · rw [List.drop_zero]; exact List.take_of_length_le (by rw [h5.len]; omega)
/-- Nothing laid behind a row. -/
theorem append_nilE {bytes : Nat} {s : AV} {xs : List (List AV)} (h : Step M0 M) (hs : OwnE M0 M sz s xs) (hc : M.sliceCells sz v = some (0, [])) :
    ∃ M', opI (.append sz bytes) [s, v] M = some (.val s M') ∧ Step M0 M' ∧ OwnE M0 M' sz s xs ∧ M'.n = M.n := by
  obtain ⟨b, gr, sz', g, rfl, h1, h2, h3, h4, h5, h6⟩ := hs
  have hlen := h5.len
  have hst : M.storeCells b (xs.length * sz) [] = some ((match g with | none => M | some g => M.kill g b).set b (.cells xs.flatten sz' true g)) := by
    simp only [AMem.storeCells, h2]
    rw [if_pos ⟨by rw [List.length_nil, hlen]; omega, rfl⟩]
    have : splice xs.flatten (xs.length * sz) [] = xs.flatten := by simp [splice]
    rw [this]
    cases g <;> rfl
  have hrun : ∀ M', M.storeCells b (xs.length * sz) [] = some M' → opI (.append sz bytes) [.slice (some (b, 0)) xs.length xs.length gr, v] M = some (.val (.slice (some (b, 0)) xs.length xs.length gr) M') := by
    intro M' hM
    simp only [opI, hc, AMem.append, AMem.append0, List.length_nil, Nat.add_zero, Nat.le_refl, if_true, Nat.zero_add]
    rw [hM]
  cases g with
  | none =>
    refine ⟨M.set b (.cells xs.flatten sz' true none), hrun _ hst, h.set h1 h2 (fun _ _ _ _ he => by cases he), ⟨b, gr, sz', none, rfl, h1, ?_, h3, h4, h5, h6⟩, rfl⟩
    rw [get_set_mem h2, if_pos rfl]
  | some g =>
    have hk : (M.kill g b).get b = some (.cells xs.flatten sz' true (some g)) := by
      rw [get_kill, h2]; simp [killOf]
    refine ⟨(M.kill g b).set b (.cells xs.flatten sz' true (some g)), hrun _ hst, (h.kill (h4 g rfl)).set h1 hk (fun _ _ _ _ he => by cases he; exact h.ok.2 _ _ _ _ _ h2), ⟨b, gr, sz', some g, rfl, h1, ?_, h3, h4, h5, h6⟩, rfl⟩
    rw [get_set_mem hk, if_pos rfl]
/-- Any elements laid behind a row of our own. -/
theorem append_anyE {bytes : Nat} {s : AV} {xs ys : List (List AV)} (h : Step M0 M) (hs : OwnE M0 M sz s xs) (hv : RowN M sz δ v ys) (hz : 0 < sz) (hn : (xs.length + ys.length) * bytes ≤ 70368744177664) (hn2 : xs.length + ys.length ≤ 1000000) :
    ∃ r M', opI (.append sz bytes) [s, v] M = some (.val r M') ∧ Step M0 M' ∧ OwnE M0 M' sz r (xs ++ ys) ∧ M.n ≤ M'.n := by
  by_cases he : ys = []
  · subst he
    obtain ⟨M', e, s', o', n'⟩ := append_nilE (bytes := bytes) h hs hv.cells0
    exact ⟨_, M', e, s', by rw [List.append_nil]; exact o', by omega⟩
  · obtain ⟨M', e, s', o', _, n', _⟩ := append_els (bytes := bytes) h (.inl hs) (hv.rowE (List.length_pos_iff.2 he)) hz hv.2.1 hn hn2 he
    exact ⟨_, M', e, s', o', by omega⟩
end
end Go.Proofs.Ytbjipmhdncfodaa.grf
