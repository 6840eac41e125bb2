/- What a reader of a diary knows, and where it lies; what one event makes of it. -/
import Derived.Test.YtoddncakdnmloaaDiSp
namespace Go.Proofs.Ytoddncakdnmloaa.diary
open Go Go.Vx

structure St where
  step : Int
  nth : List Int
  op : List Int
  spans : List Sp
/-- one event; none: it may not stand here -/
def takeP (at_ : Nat) (st : St) (e : Ev) : Option St :=
  if e.step < st.step ∨ e.who < 0 ∨ e.who ≥ 16 ∨ e.nth ≠ st.nth.getD e.who.toNat 0 then none
  else if e.ends then
    if st.op.getD e.who.toNat 0 < 0 then none
    else match st.spans[(st.op.getD e.who.toNat 0).toNat]? with
      | none => none
      | some s => if s.kind = e.kind ∧ s.task = e.task ∧ s.vs = e.vs then
          some ⟨e.step, st.nth.set e.who.toNat (wrapF .i64 (st.nth.getD e.who.toNat 0 + 1)), st.op.set e.who.toNat (-1), st.spans.set (st.op.getD e.who.toNat 0).toNat { s with to := at_, code := e.code, v := e.v, ls := e.ls }⟩
        else none
  else if st.op.getD e.who.toNat 0 ≥ 0 ∨ ¬ (e.code = 0 ∧ e.v = 0 ∧ e.ls = []) then none
  else some ⟨e.step, st.nth, st.op.set e.who.toNat st.spans.length, st.spans ++ [⟨e.who, e.nth, at_, -1, e.kind, e.task, e.vs, 0, 0, []⟩]⟩

/-- the reader's cells -/
def rdC (step : Int) (nth op : List Int) (sv : AV) : List AV := .int .i64 step :: (nth.map (AV.int .i64 ·) ++ (op.map (AV.int .i64 ·) ++ [sv]))
section
variable {step : Int} {nth op : List Int} {sv : AV} {w : Nat} {x : Int}
theorem rdC_length (h1 : nth.length = 16) (h2 : op.length = 16) : (rdC step nth op sv).length = 34 := by simp [rdC, h1, h2]
theorem rdC_nth (h1 : nth.length = 16) (hw : w < 16) : (rdC step nth op sv)[1 + w * 1]? = some (.int .i64 (nth.getD w 0)) := by
  unfold rdC
  rw [Nat.mul_one, Nat.add_comm, List.getElem?_cons_succ, List.getElem?_append_left (by simp [h1, hw])]
  simp [h1, hw]
theorem rdC_op (h1 : nth.length = 16) (h2 : op.length = 16) (hw : w < 16) : (rdC step nth op sv)[17 + w * 1]? = some (.int .i64 (op.getD w 0)) := by
  unfold rdC
  rw [Nat.mul_one, show 17 + w = (16 + w) + 1 by omega, List.getElem?_cons_succ, List.getElem?_append_right (by simp [h1]), List.length_map, h1, Nat.add_sub_cancel_left, List.getElem?_append_left (by simp [h2, hw])]
  simp [h2, hw]
theorem rdC_sv (h1 : nth.length = 16) (h2 : op.length = 16) : (rdC step nth op sv)[33]? = some sv := by
  unfold rdC
  rw [List.getElem?_cons_succ, List.getElem?_append_right (by simp [h1]), List.length_map, h1, List.getElem?_append_right (by simp [h2]), List.length_map, h2]
  rfl
theorem rdC_set_nth (h1 : nth.length = 16) (hw : w < 16) : (rdC step nth op sv).set (1 + w * 1) (.int .i64 x) = rdC step (nth.set w x) op sv := by
  unfold rdC
  rw [Nat.mul_one, Nat.add_comm, List.set_cons_succ, List.set_append_left _ _ (by simp [h1, hw]), List.map_set]
theorem rdC_set_op (h1 : nth.length = 16) (h2 : op.length = 16) (hw : w < 16) : (rdC step nth op sv).set (17 + w * 1) (.int .i64 x) = rdC step nth (op.set w x) sv := by
  unfold rdC
  rw [Nat.mul_one, show 17 + w = (16 + w) + 1 by omega, List.set_cons_succ, List.set_append_right _ _ (by simp [h1]), List.length_map, h1, Nat.add_sub_cancel_left, List.set_append_left _ _ (by simp [h2, hw]), List.map_set]
theorem rdC_set_sv {sv' : AV} (h1 : nth.length = 16) (h2 : op.length = 16) : (rdC step nth op sv).set 33 sv' = rdC step nth op sv' := by
  unfold rdC
  rw [List.set_cons_succ, List.set_append_right _ _ (by simp [h1]), List.length_map, h1, List.set_append_right _ _ (by simp [h2]), List.length_map, h2]
  rfl
end
structure Rdr (M0 M : AMem) (rb : Nat) (st : St) (sv : AV) (els : List (List AV)) : Prop where
  hrb : M0.n ≤ rb
  cell : M.get rb = some (.cells (rdC st.step st.nth st.op sv) 0 true none)
  row : FreshE M0 M 10 sv els
  blk : ∀ b, sbOf sv = some b → ∃ cs g, M.get b = some (.cells cs 10 true g) ∧ cs ≠ []
  len : els.length = st.spans.length
  sp : ∀ (i : Nat) s, st.spans[i]? = some s → ∃ e, els[i]? = some e ∧ IsSp M0 M e s
  nth : st.nth.length = 16
  op : st.op.length = 16
theorem Rdr.ne {M0 M : AMem} {rb : Nat} {st : St} {sv : AV} {els : List (List AV)} (h : Rdr M0 M rb st sv els) : sbOf sv ≠ some rb := fun he => by
  obtain ⟨cs, g, h1, _⟩ := h.blk _ he
  rw [h.cell] at h1; cases h1
theorem Rdr.grow {M0 M M' : AMem} {rb : Nat} {st : St} {sv : AV} {els : List (List AV)} (h : Rdr M0 M rb st sv els) (hok : Ok M) (hg : Grow M M') : Rdr M0 M' rb st sv els :=
  ⟨h.hrb, (hg.get _ (get_lt hok h.cell)).trans h.cell, h.row.grow hok hg, fun b hb => by
    obtain ⟨cs, g, h1, h2⟩ := h.blk b hb
    exact ⟨cs, g, (hg.get _ (get_lt hok h1)).trans h1, h2⟩, h.len, fun i s hi => by
    obtain ⟨e, h1, h2⟩ := h.sp i s hi
    exact ⟨e, h1, h2.grow hok hg⟩, h.nth, h.op⟩
/-- The reader's cells are written, but for its spans. -/
theorem Rdr.upd {M0 M M' : AMem} {rb : Nat} {st st' : St} {sv : AV} {els : List (List AV)} (h : Rdr M0 M rb st sv els) (hg : M'.get rb = some (.cells (rdC st'.step st'.nth st'.op sv) 0 true none)) (hk : ∀ c, c ≠ rb → M'.get c = M.get c)
    (hsp : st'.spans = st.spans) (h1 : st'.nth.length = 16) (h2 : st'.op.length = 16) : Rdr M0 M' rb st' sv els := by
  have hK : Keeps M M' (.slice (some (rb, 0)) 0 0 false) := fun c k hc _ hs => (hk c (fun he => hs (by rw [he]; rfl))).trans hc
  refine ⟨h.hrb, hg, ?_, fun b hb => ?_, by rw [hsp]; exact h.len, fun i s hi => ?_, h1, h2⟩
  · refine h.row.imp (fun ho => ?_) id
    obtain ⟨b, gr, sz', g, e, k1, k2, k3⟩ := ho
    exact ⟨b, gr, sz', g, e, k1, (hk b (fun he => h.ne (by rw [e, ← he]; rfl))).trans k2, k3⟩
  · obtain ⟨cs, g, k1, k2⟩ := h.blk b hb
    exact ⟨cs, g, (hk b (fun he => h.ne (by rw [hb, he]))).trans k1, k2⟩
  · rw [hsp] at hi
    obtain ⟨e, k1, k2⟩ := h.sp i s hi
    refine ⟨e, k1, k2.keep hK fun b cs sz hb hc => ?_⟩
    cases hb
    rw [h.cell] at hc
    cases hc
    exact ⟨by simp [rdC], by decide⟩
def Bnd (st : St) : Prop := (∀ w : Nat, w < 16 → st.op.getD w 0 < st.spans.length) ∧ ∀ s ∈ st.spans, s.vs.length ≤ 100
theorem Rdr.solo {M0 M : AMem} {rb : Nat} {st : St} {sv : AV} {els : List (List AV)} (h : Rdr M0 M rb st sv els) : ∀ b cs sz, sbOf sv = some b → M.get b = some (.cells cs sz true none) → cs ≠ [] ∧ sz ≠ 1 := fun b cs sz hb hc => by
  obtain ⟨cs', g, k1, k2⟩ := h.blk b hb
  rw [k1] at hc; cases hc
  exact ⟨k2, by decide⟩
/-- A span is laid behind the others. -/
theorem Rdr.push {M0 M : AMem} {rb : Nat} {st : St} {sv : AV} {els : List (List AV)} {xc : List AV} {s : Sp} (h : Step M0 M) (hr : Rdr M0 M rb st sv els) (hx : IsSp M0 M xc s) (hn : st.spans.length < 90000) :
    ∃ sv' M1 M2, opI (.sliceLit 1 [.int .i64 0, .int .i64 0, .int .i64 0, .int .i64 0, .int .i64 0, .int .u64 0, .slice none 0 0 false, .int .i64 0, .int .u64 0, .slice none 0 0 false] [(0, 10)]) [.agg xc] M = some (.val (.slice (some (M.n, 0)) 1 1 false) (M.push (.cells xc 0 true none))) ∧
      opI (.append 10 112) [sv, .slice (some (M.n, 0)) 1 1 false] (M.push (.cells xc 0 true none)) = some (.val sv' M1) ∧ opI (.store 1) [.ptr (some (rb, 33)), sv'] M1 = some (.val (.tuple []) M2) ∧ Step M0 M1 ∧ Step M0 M2 ∧
      Rdr M0 M2 rb ⟨st.step, st.nth, st.op, st.spans ++ [s]⟩ sv' (els ++ [xc]) := by
  obtain ⟨va, la, rfl, hv, hl⟩ := hx
  have hlen : (AV.cells (.agg (spC s.who s.nth s.from_ s.to s.kind s.task va s.code s.v la))).length = 10 := rfl
  obtain ⟨M1, g, e1, e2, s1, o1, k1, n1, b1⟩ := push_el (bytes := 112) (z := [.int .i64 0, .int .i64 0, .int .i64 0, .int .i64 0, .int .i64 0, .int .u64 0, .slice none 0 0 false, .int .i64 0, .int .u64 0, .slice none 0 0 false]) h hr.row rfl hlen (by omega) (spC_one hv.one.1 hl.one.1) (by rw [hr.len]; omega) (by rw [hr.len]; omega)
  rw [cells_agg] at e1 e2 o1 b1
  have hrb := get_lt h.ok.1 hr.cell
  have c1 := k1 _ _ hr.cell rfl hr.ne
  obtain ⟨e3, s3, c3, k3⟩ := store1 (o := 33) (x := .slice (some (M.n + 1, 0)) (els.length + 1) (els.length + 1) true) s1 hr.hrb c1 ⟨rfl, rfl⟩ (by rw [rdC_length hr.nth hr.op]; decide)
  rw [rdC_set_sv hr.nth hr.op] at e3 s3 c3 k3
  have b3 := (k3 (M.n + 1) (by omega)).trans b1
  refine ⟨_, M1, _, e1, e2, e3, s1, s3, hr.hrb, c3, .inl ?_, fun b hb => ?_, by simp [hr.len], fun i y hi => ?_, hr.nth, hr.op⟩
  · obtain ⟨b, gr, sz', g, e, q1, q2, q3⟩ := o1
    have : b = M.n + 1 := by simp only [AV.slice.injEq, Option.some.injEq, Prod.mk.injEq] at e; omega
    subst this
    exact ⟨M.n + 1, gr, sz', g, e, q1, (k3 _ (by omega)).trans q2, q3⟩
  · cases hb
    exact ⟨_, g, b3, by simp [spC]⟩
  · have old : ∀ cs y, IsSp M0 M cs y → IsSp M0 (M1.set rb (.cells (rdC st.step st.nth st.op (.slice (some (M.n + 1, 0)) (els.length + 1) (els.length + 1) true)) 0 true none)) cs y := fun cs y hy => by
      refine (hy.keep k1 hr.solo).keep (keepS k3) fun b cs sz hb hc => ?_
      cases hb
      rw [c1] at hc; cases hc
      exact ⟨by simp [rdC], by decide⟩
    rcases Nat.lt_or_ge i st.spans.length with hlt | hge
    · rw [List.getElem?_append_left hlt] at hi
      obtain ⟨e, q1, q2⟩ := hr.sp i y hi
      exact ⟨e, by rw [List.getElem?_append_left (by rw [hr.len]; exact hlt)]; exact q1, old _ _ q2⟩
    · have : i = st.spans.length := by
        have := (List.getElem?_eq_some_iff.1 hi).1
        simp at this; omega
      subst this
      simp only [List.getElem?_append_right (Nat.le_refl _), Nat.sub_self, List.getElem?_cons_zero, Option.some.injEq] at hi
      subst hi
      refine ⟨_, ?_, old _ _ ⟨va, la, rfl, hv, hl⟩⟩
      rw [List.getElem?_append_right (by rw [hr.len]; omega), hr.len, Nat.sub_self]; rfl
/-- A span's cells are written. -/
theorem Rdr.put {M0 M : AMem} {rb : Nat} {st : St} {sv : AV} {els : List (List AV)} {x : AV} {k o n : Nat} {s' : Sp} {e0 : List AV} (h : Step M0 M) (hr : Rdr M0 M rb st sv els) (hk0 : els[k]? = some e0) (hx : x.cells.length = n) (ho : o + n ≤ 10) (hone : x.cells.all AV.one = true) (hs' : IsSp M0 M (splice e0 o x.cells) s') :
    ∃ p M', IsP p ∧ opI (.indexAddrS 10) [sv, .int .i64 k] M = some (.val (padd p 0) M) ∧ opI (.store n) [padd p o, x] M = some (.val (.tuple []) M') ∧ Step M0 M' ∧ M'.n = M.n ∧ (∀ c cs sz, c < M.n → M.get c = some (.cells cs sz true none) → sz = 0 → M'.get c = some (.cells cs sz true none)) ∧
      Rdr M0 M' rb ⟨st.step, st.nth, st.op, st.spans.set k s'⟩ sv (els.set k (splice e0 o x.cells)) := by
  have hk : k < els.length := (List.getElem?_eq_some_iff.1 hk0).1
  obtain rfl : els[k] = e0 := (List.getElem?_eq_some_iff.1 hk0).2
  rcases hr.row with hrow | ⟨_, he⟩
  rotate_left
  · subst he; simp at hk
  obtain ⟨p, M', hp, e1, e2, s2, o2, k2, n2, b2⟩ := store_el h hrow hk hx ho hone
  refine ⟨p, M', hp, e1, e2, s2, n2, fun c cs sz hc hg hz => k2 c _ hg rfl fun hb => ?_, hr.hrb, k2 _ _ hr.cell rfl hr.ne, .inl o2, fun b hb => ?_, by simp [hr.len], fun i y hi => ?_, hr.nth, hr.op⟩
  · obtain ⟨cs', g, q1, q2⟩ := hr.blk c hb
    rw [q1] at hg; cases hg; cases hz
  · obtain ⟨cs', g, q1, q2⟩ := hr.blk b hb
    have := b2 cs' 10 true g (by rw [hb]; exact q1)
    rw [hb, Option.getD_some] at this
    obtain ⟨cs2, q3⟩ := this
    refine ⟨cs2, g, q3, ?_⟩
    obtain ⟨b', gr, sz', g', e, r1, r2, r3⟩ := o2
    have : b' = b := by rw [e] at hb; simpa [sbOf] using hb
    subst this
    rw [q3] at r2; cases r2
    intro hnil
    have hl := r3.2.2.1.len
    rw [hnil, List.length_set] at hl
    simp at hl; omega
  · rw [List.getElem?_set] at hi
    split at hi
    · rename_i heq; subst heq
      split at hi
      · cases hi
        exact ⟨_, by rw [List.getElem?_set_self hk], hs'.keep k2 hr.solo⟩
      · cases hi
    · rename_i hne
      obtain ⟨e, q1, q2⟩ := hr.sp i y hi
      exact ⟨e, by rw [List.getElem?_set_ne hne]; exact q1, q2.keep k2 hr.solo⟩
end Go.Proofs.Ytoddncakdnmloaa.diary
