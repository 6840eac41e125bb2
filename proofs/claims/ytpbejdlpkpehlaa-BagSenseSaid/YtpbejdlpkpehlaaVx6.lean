/- append, copy, make of our small machine. -/
import Derived.Test.YtpbejdlpkpehlaaVx5
namespace Go.Vx
open Go.RowKit (Below)

section
variable {P : Program} {B : Nat → Prop} {w0 : World} {e : Env} {M : AMem} {w : World}

theorem run_bytesOfP {t : TypeId} {n : Nat} (h : bytesOfP P t = some n) : ∃ i, P.info? t = some i ∧ i.bytes = n ∧ (typeInfo t).run P w = .ok i w := by
  unfold bytesOfP at h
  cases hi : P.info? t with
  | none => simp [hi] at h
  | some i => simp [hi] at h; exact ⟨i, rfl, h, by simp [typeInfo, hi]⟩

theorem zeroCells_size (z : Array Value) (n : Nat) : (Builtin.zeroCells z n).size = n * z.size := by simp [Builtin.zeroCells]

/-- An append that must make a new row. -/
theorem run_append_big [Val] {st xt ty el el' : TypeId} {sz bytes m len cap : Nat} {z : AV} {base : Option Addr} {cx : Value} {olds news : List Value}
    (hu : P.underlying st = some (.slice el)) (hx : P.underlying xt = some (.slice el')) (hs : sizeOfP P el = some sz) (hb : bytesOfP P el = some bytes) (hz : zeroOf P el = some z) (hzl : z.cells.length = sz)
    (hl : (Builtin.lenOf cx).run P w = .ok m w)
    (hold : ∀ w' : World, w'.heap = w.heap → (Builtin.firstCells sz len (.slice base len cap)).run P w' = .ok olds.toArray w')
    (hnew : ∀ w' : World, w'.heap = w.heap → (Builtin.firstCells sz m cx).run P w' = .ok news.toArray w')
    (hneed : ¬ len + m ≤ cap) (hby : (len + m) * bytes ≤ 70368744177664) (h62 : len + m ≤ 4611686018427387904) :
    ∃ nc rest, len + m ≤ nc ∧ rest.length = (nc - (len + m)) * sz ∧
      (Builtin.append_ #[st, xt] ty #[.slice base len cap, cx]).run P w =
        .ok (.slice (some ⟨w.heap.size, 0, none⟩) (len + m) nc) (({ w with drawn := w.drawn + 1 } : World).alloc (.cells (olds ++ news ++ rest).toArray el)) := by
  obtain ⟨i, hi, rfl, _⟩ := run_bytesOfP (P := P) (w := w) hb
  have hsz : ∀ w' : World, (sizeOf el).run P w' = .ok sz w' := fun w' => run_sizeOfP hs
  have hinfo : ∀ w' : World, (typeInfo el).run P w' = .ok i w' := fun w' => by simp [typeInfo, hi]
  obtain ⟨cz, hcz, hzr⟩ : ∃ cz, conc (fun _ => none) z = some cz ∧ ∀ w' : World, (zeroValue el).run P w' = .ok cz w' := by
    obtain ⟨cz, h1, _⟩ := zeroOf_run (P := P) (w := w) hz (fun _ => none)
    refine ⟨cz, h1, fun w' => ?_⟩
    obtain ⟨cz', h1', h2'⟩ := zeroOf_run (P := P) (w := w') hz (fun _ => none)
    rw [h1] at h1'; cases h1'; exact h2'
  have hczs : cz.cells.size = sz := by
    have := concs_length (conc_cells hcz); rw [hzl] at this; simpa using this
  have hcap : Builtin.nextslicecap (len + m) cap * i.bytes ≤ 281474976710656 := growslice_fits (by omega) (by omega)
  have h63 : ¬ ((((len + m : Nat) : Int) > IntKind.i64.max) ∧ (False ∨ i.bytes = 0)) := by
    intro h; have := h.1; rw [IntKind.max_i64] at this; omega
  have hcap' : ¬ (Builtin.nextslicecap (len + m) cap * i.bytes > 2 ^ 48) := by
    have : (2 : Nat) ^ 48 = 281474976710656 := by decide
    omega
  refine ⟨grownCap w (len + m) cap el, (Builtin.zeroCells cz.cells (grownCap w (len + m) cap el - (len + m))).toList, ?_, ?_, ?_⟩
  · unfold grownCap Question.cut
    exact Nat.le_add_right _ _
  · rw [Array.length_toList, zeroCells_size, hczs]
  · have hq : Question.forced (.appendCap (len + m) cap el) = false := rfl
    simp only [Builtin.append_, List.getElem?_toArray, List.getElem?_cons_zero, List.getElem?_cons_succ]
    simp only [Sem.run_bind, run_underlying hu, run_underlying hx, Result.andThen_ok, hsz, Sem.run_pure, Bool.false_eq_true, if_false, hl]
    rw [if_neg hneed]
    simp only [Sem.run_bind, Sem.run_ite, hinfo, Result.andThen_ok]
    have h63' : ¬ ((((len + m : Nat) : Int) > IntKind.i64.max) ∧ (i.bytes = 0)) := fun h => h63 ⟨h.1, .inr h.2⟩
    simp only [Sem.run_pure, Result.andThen_ok, false_or, if_neg h63', if_neg hcap', run_choose, hq, Bool.false_eq_true, if_false, run_askRoom, Bool.not_false, if_true]
    rw [hold { w with drawn := w.drawn + 1 } rfl]
    simp only [Result.andThen_ok]
    rw [hnew { w with drawn := w.drawn + 1 } rfl]
    simp only [Result.andThen_ok, hzr, newRow, Sem.run_bind, run_newObj, Sem.run_pure]
    have hZ : ∀ Z : Array Value, (olds ++ news ++ Z.toList).toArray = olds.toArray ++ news.toArray ++ Z := fun Z => by apply Array.ext'; simp
    rw [hZ]
    rfl

theorem sliceCells_ok [Val] (hm : MR B w0 e M w) {sz m : Nat} {x : AV} {cx : Value} {new : List AV} (hx : conc e x = some cx) (h : M.sliceCells sz x = some (m, new)) :
    (Builtin.lenOf cx).run P w = .ok m w ∧ ∃ news, concs e new = some news ∧ news.length = m * sz ∧
      (∀ w' : World, w'.heap = w.heap → (Builtin.firstCells sz m cx).run P w' = .ok news.toArray w') ∧
      ∀ k, k ≤ m → (Builtin.firstCells sz k cx).run P w = .ok (news.take (k * sz)).toArray w := by
  have cut : ∀ (a : Addr) (n c : Nat) (vs : List Value), vs.length = n * sz → (∀ j v, vs[j]? = some v → w.cell? (a.add j) = some v) →
      ∀ k, k ≤ n → (Builtin.firstCells sz k (.slice (some a) n c)).run P w = .ok (vs.take (k * sz)).toArray w := by
    intro a n c vs h2 h3 k hk
    have hle : k * sz ≤ n * sz := Nat.mul_le_mul_right _ hk
    refine run_firstCells_some (P := P) w sz _ _ _ _ _ (by rw [List.length_take, h2]; omega) fun j v hj => ?_
    have hj' : j < k * sz := by
      have := (List.getElem?_eq_some_iff.1 hj).1
      simp at this; omega
    rw [List.getElem?_take_of_lt hj'] at hj
    exact h3 j v hj
  unfold AMem.sliceCells at h
  split at h
  · rename_i c g
    simp only [Option.some.injEq, Prod.mk.injEq] at h
    obtain ⟨rfl, rfl⟩ := h
    have : cx = .slice none 0 c := by simp [conc] at hx; exact hx.symm
    subst this
    exact ⟨by simp [Builtin.lenOf], [], rfl, by simp, fun w' _ => by simp [Builtin.firstCells], fun k hk => by simp [Builtin.firstCells]⟩
  · rename_i b o n c g
    obtain ⟨xb, hxb, rfl⟩ := conc_slice hx
    cases hl : M.loadCells b o (n * sz) with
    | none => simp [hl] at h
    | some l =>
      simp only [hl, Option.some.injEq, Prod.mk.injEq] at h
      obtain ⟨rfl, rfl⟩ := h
      obtain ⟨vs, h1, h2, h3, _⟩ := hm.loadCells (P := P) hl hxb
      have h3' : ∀ j v, vs[j]? = some v → w.cell? (Addr.add ⟨xb.blk, xb.o + o, none⟩ j) = some v := fun j v hj => by rw [addr_add]; exact h3 j v hj
      refine ⟨by simp [Builtin.lenOf], vs, h1, h2, fun w' hw' => ?_, cut _ _ _ vs h2 h3'⟩
      refine run_firstCells_some (P := P) w' sz n _ _ _ vs h2 fun j v hj => ?_
      rw [World.cell?_of_block (w := w) (by rw [hw'])]
      exact h3' j v hj
  · rename_i c
    simp only [Option.some.injEq, Prod.mk.injEq] at h
    obtain ⟨rfl, rfl⟩ := h
    have : cx = .slice none 0 c := by simp [conc] at hx; exact hx.symm
    subst this
    exact ⟨by simp [Builtin.lenOf], [], rfl, by simp, fun w' _ => by simp [Builtin.firstCells], fun k hk => by simp [Builtin.firstCells]⟩
  · rename_i tb to tadv
    simp only [Option.some.injEq, Prod.mk.injEq] at h
    obtain ⟨rfl, rfl⟩ := h
    simp only [conc] at hx
    cases hxb : e tb with
    | none => simp [hxb] at hx
    | some xb =>
      simp only [hxb, Option.some.injEq] at hx; subst hx
      exact ⟨by simp [Builtin.lenOf], [], rfl, by simp, fun w' _ => by simp [Builtin.firstCells, loadCells, loadCellsFrom], fun k hk => by
        have : k = 0 := by omega
        subst this; simp [Builtin.firstCells, loadCells, loadCellsFrom]⟩
  · rename_i a n c
    have : cx = .slice (some a) n c := by simp [conc] at hx; exact hx.symm
    subst this
    cases hl : M.loadG a (n * sz) with
    | none => simp [hl] at h
    | some l =>
      simp only [hl, Option.some.injEq, Prod.mk.injEq] at h
      obtain ⟨rfl, rfl⟩ := h
      obtain ⟨vs, h1, h2, h3, _⟩ := hm.loadG (P := P) hl
      refine ⟨by simp [Builtin.lenOf], vs, h1, h2, fun w' hw' => ?_, cut _ _ _ vs h2 h3⟩
      refine run_firstCells_some (P := P) w' sz n _ _ _ vs h2 fun j v hj => ?_
      rw [World.cell?_of_block (w := w) (by rw [hw'])]
      exact h3 j v hj
  · cases h

/-- A row written where no block's known cells lie. -/
theorem MR.beyond [Val] (h : MR B w0 e M w) {b : Nat} {x : EB} {cs : List AV} {sz : Nat} {g : Option Nat} {arr arr' : Array Value} {T : TypeId} (hk : M.get b = some (.cells cs sz true g)) (hx : e b = some x)
    (ha : w.heap[x.blk]? = some (.cells arr T (0, 0))) (hsz : arr'.size = arr.size) (hsame : ∀ i, i < cs.length → arr'[x.o + i]? = arr[x.o + i]?)
    (alone : ∀ m k' x', m ≠ b → M.get m = some k' → e m = some x' → k'.live = true → x'.blk ≠ x.blk) : MR B w0 e M (w.setRow x.blk arr') := by
  have hrow : (w.setRow x.blk arr').heap[x.blk]? = some (.cells arr' T (0, 0)) := setRow_heap w x.blk arr arr' T (0, 0) ha
  have hoth : ∀ i, i ≠ x.blk → (w.setRow x.blk arr').heap[i]? = w.heap[i]? := fun i hi => setRow_other w x.blk i arr' hi
  have hB := h.own b _ x hk hx rfl
  refine ⟨h.fresh, h.full, h.below.trans ⟨rfl, rfl, rfl, by simp, fun i hi => hoth i (fun he => hB (he ▸ hi))⟩, fun k hk => by simp; exact h.base k hk, ?_, h.own, h.sep, ?_, h.ro⟩
  · intro m k' x' hk' hx'
    by_cases hm : m = b
    · subst hm
      rw [hk] at hk'; cases hk'
      rw [hx] at hx'; cases hx'
      obtain ⟨arr0, T0, fr, vs, b1, b2, b3, b4, b5⟩ := h.blocks m _ x hk hx
      rw [ha] at b1; cases b1
      refine ⟨arr', T, (0, 0), vs, hrow, fun _ => rfl, by omega, b4, fun i v hi => ?_⟩
      have hl := concs_length b4
      have : i < vs.length := (List.getElem?_eq_some_iff.1 hi).1
      rw [hsame i (by omega)]; exact b5 i v hi
    · cases hl : k'.live with
      | false =>
        cases k' with
        | dead => trivial
        | held => trivial
        | _ => simp [ABlk.live] at hl
      | true => exact (h.blocks m k' x' hk' hx').world (hoth _ (alone m k' x' hm hk' hx' hl))
  · intro m x' hx'
    simp only [setRow_size]; exact h.room m x' hx'

theorem run_append0 [Val] {st xt ty el el' : TypeId} {sz bytes m : Nat} {z s x v : AV} {cs cx : Value} {new : List AV} {M' : AMem}
    (hu : P.underlying st = some (.slice el)) (hx : P.underlying xt = some (.slice el')) (hs : sizeOfP P el = some sz) (hb : bytesOfP P el = some bytes) (hz : zeroOf P el = some z) (hzl : z.cells.length = sz)
    (hm : MR B w0 e M w) (hcs : conc e s = some cs) (hcx : conc e x = some cx) (hc : M.sliceCells sz x = some (m, new)) (h : M.append0 sz bytes s m new = some (v, M')) :
    ∃ e' w' cv, (Builtin.append_ #[st, xt] ty #[cs, cx]).run P w = .ok cv w' ∧ XR M M' e e' ∧ conc e' v = some cv ∧ MR B w0 e' M' w' := by
  obtain ⟨hlen, news, hnews, hnl, hfirst, _⟩ := sliceCells_ok (P := P) hm hcx hc
  have hsz : ∀ w' : World, (sizeOf el).run P w' = .ok sz w' := fun w' => run_sizeOfP hs
  have hnewl := concs_length hnews
  -- a new row for all
  have grown : ∀ (base : Option Addr) (len cap : Nat) (all olds : List AV) (ovs : List Value) (g : Option Nat) (M1 : AMem), MR B w0 e M1 w → concs e olds = some ovs → all = olds ++ new → olds.length = len * sz →
      (∀ w' : World, w'.heap = w.heap → (Builtin.firstCells sz len (.slice base len cap)).run P w' = .ok ovs.toArray w') → ¬ len + m ≤ cap → (len + m) * bytes ≤ 70368744177664 → len + m ≤ 4611686018427387904 →
      ∃ e' w' cv, (Builtin.append_ #[st, xt] ty #[.slice base len cap, cx]).run P w = .ok cv w' ∧ XR M1 (M1.push (.cells all sz true g)) e e' ∧ conc e' (.slice (some (M1.n, 0)) (len + m) (len + m) true) = some cv ∧
        MR B w0 e' (M1.push (.cells all sz true g)) w' := by
    intro base len cap all olds ovs g M1 hm1 hovs hall holl hof hneed h1 h2
    obtain ⟨nc, rest, hnc, hrl, hrun⟩ := run_append_big (P := P) (w := w) (ty := ty) hu hx hs hb hz hzl hlen hof hfirst hneed h1 h2
    have hd := hm1.drawn (w.drawn + 1)
    have hal : concs e all = some (ovs ++ news) := by rw [hall]; exact concs_append hovs hnews
    have hpush := hd.push (.cells (ovs ++ news ++ rest).toArray el) (.cells all sz true g) (nc - (len + m))
      ⟨(ovs ++ news ++ rest).toArray, el, (0, 0), ovs ++ news, heap_alloc_new _ _, fun _ => rfl, by
        have := concs_length hal
        simp only [List.length_append] at this
        simp [hrl]; omega, (hm1.one _).concs hal, by
        intro i v hi
        simp only [Nat.zero_add, List.getElem?_toArray]
        have : i < (ovs ++ news).length := (List.getElem?_eq_some_iff.1 hi).1
        rw [List.getElem?_append_left this]; exact hi⟩
    refine ⟨_, _, _, hrun, hm1.xone rfl _, ?_, hpush⟩
    have hlast : (e.set M1.n ⟨w.heap.size, 0, nc - (len + m)⟩) M1.n = some (⟨w.heap.size, 0, nc - (len + m)⟩ : EB) := Env.set_self _ _ _
    rw [conc_slice_mk hlast, if_pos (rfl : true = true)]
    have : len + m + (nc - (len + m)) = nc := by omega
    simp only [this, Nat.add_zero]
  -- in place
  have inplace : ∀ (base : Option Addr) (len cap : Nat), len + m ≤ cap →
      (Builtin.append_ #[st, xt] ty #[.slice base len cap, cx]).run P w =
        ((match base with | some a => Go.storeCells (a.add (len * sz)) news | none => pure () : Sem Unit).run P w).andThen fun _ w' => .ok (.slice base (len + m) cap) w' := by
    intro base len cap hle
    simp only [Builtin.append_, List.getElem?_toArray, List.getElem?_cons_zero, List.getElem?_cons_succ]
    simp only [Sem.run_bind, run_underlying hu, run_underlying hx, Result.andThen_ok, hsz, Sem.run_pure, Bool.false_eq_true, if_false, hlen]
    rw [if_pos hle]
    simp only [Sem.run_bind, Bool.not_false, if_true, hfirst w rfl, Result.andThen_ok]
    cases base with
    | none => simp
    | some a => simp
  unfold AMem.append0 at h
  split at h
  · rename_i gg
    have : cs = .slice none 0 0 := by simp [conc] at hcs; exact hcs.symm
    subst this
    by_cases hm0 : m = 0
    · subst hm0
      simp only [if_true, Option.some.injEq, Prod.mk.injEq] at h
      obtain ⟨rfl, rfl⟩ := h
      refine ⟨e, w, _, ?_, XR.refl M e, rfl, hm⟩
      rw [inplace none 0 0 (by omega)]; rfl
    · rw [if_neg hm0] at h
      split at h
      · rename_i hc3
        obtain ⟨c1, c2, c3⟩ := hc3
        simp only [Option.some.injEq, Prod.mk.injEq] at h
        obtain ⟨rfl, rfl⟩ := h
        have := grown none 0 0 new [] [] none M hm rfl rfl (by simp) (fun w' _ => by simp [Builtin.firstCells]) (by omega) (by simpa using c1) (by omega)
        simpa using this
      · cases h
  · rename_i _ b o len cap gr
    obtain ⟨xb, hxb, rfl⟩ := conc_slice hcs
    by_cases hle : len + m ≤ cap
    · rw [if_pos hle] at h
      cases hst : M.storeCells b (o + len * sz) new with
      | none => simp [hst] at h
      | some M1 =>
        simp only [hst, Option.some.injEq, Prod.mk.injEq] at h
        obtain ⟨rfl, rfl⟩ := h
        obtain ⟨w', hrun, hm'⟩ := hm.storeCells (P := P) hst hxb hnews
        refine ⟨e, w', _, ?_, XR.same (storeCells_n hst) e, conc_slice_mk hxb, hm'⟩
        rw [inplace _ _ _ (by omega)]
        simp only [addr_add, Nat.add_assoc, hrun, Result.andThen_ok]
    · rw [if_neg hle] at h
      split at h
      · rename_i hc3
        obtain ⟨c1, c2, c3⟩ := hc3
        cases hk : M.get b with
        | none => simp [hk] at h
        | some k =>
          cases k with
          | dead => simp [hk] at h
          | held => simp [hk] at h
          | map es => simp [hk] at h
          | cells cells sz' wr g =>
            simp only [hk] at h
            by_cases hlc : o + len * sz ≤ cells.length
            · rw [if_pos hlc] at h
              obtain ⟨arr, T, fr, vs, b1, b2, b3, b4, b5⟩ := hm.blocks b _ xb hk hxb
              have hlv := concs_length b4
              have holds : concs e ((cells.drop o).take (len * sz)) = some ((vs.drop o).take (len * sz)) := concs_take _ (concs_drop o b4)
              have holl : ((cells.drop o).take (len * sz)).length = len * sz := by simp; omega
              have hload : M.loadCells b o (len * sz) = some ((cells.drop o).take (len * sz)) := by unfold AMem.loadCells; rw [hk]; simp [hlc]
              obtain ⟨vs2, g1, g2, g3, _⟩ := hm.loadCells (P := P) hload hxb
              rw [holds] at g1; cases g1
              have hfo : ∀ (cp : Nat) (w' : World), w'.heap = w.heap → (Builtin.firstCells sz len (.slice (some ⟨xb.blk, xb.o + o, none⟩) len cp)).run P w' = .ok ((vs.drop o).take (len * sz)).toArray w' := by
                intro cp w' hw'
                refine run_firstCells_some (P := P) w' sz len _ _ _ _ g2 fun j v hj => ?_
                rw [addr_add, World.cell?_of_block (w := w) (by rw [hw'])]
                exact g3 j v hj
              cases gr with
              | false =>
                simp only [Bool.false_eq_true, if_false, Option.some.injEq, Prod.mk.injEq] at h
                obtain ⟨rfl, rfl⟩ := h
                exact grown _ len cap _ _ _ none M hm holds rfl holl (hfo cap) hle c1 c2
              | true =>
                simp only [if_true] at h
                split at h
                · rename_i hcc
                  obtain ⟨rfl, rfl, d3, rfl, d5⟩ := hcc
                  simp only [Option.some.injEq, Prod.mk.injEq] at h
                  obtain ⟨rfl, rfl⟩ := h
                  simp only [if_true]
                  have hfr := b2 rfl; subst hfr
                  -- the others of the group are gone
                  have r0 := hm.kill (g.getD b) b
                  have hk0 : (M.kill (g.getD b) b).get b = some (.cells cells sz' true g) := by rw [AMem.get_kill, hk]; simp [killOf]
                  have alone : ∀ mm k' x', mm ≠ b → (M.kill (g.getD b) b).get mm = some k' → e mm = some x' → k'.live = true → x'.blk ≠ xb.blk := by
                    intro mm k' x' hne hk' hx' hlive he
                    have hs' := r0.sep mm b k' _ x' xb hne hk' hk0 hx' hxb he
                    cases k' with
                    | dead => simp [ABlk.live] at hlive
                    | held => simp [ABlk.live] at hlive
                    | map es => simp [ABlk.share] at hs'
                    | cells cs' sz2 wr' g' =>
                      simp only [ABlk.share, Bool.not_true, Bool.and_false, Bool.false_or, Bool.and_eq_true, beq_iff_eq] at hs'
                      obtain ⟨hsome, rfl⟩ := hs'
                      cases g' with
                      | none => simp at hsome
                      | some g' =>
                        rw [AMem.get_kill] at hk'
                        cases h0 : M.get mm with
                        | none => simp [h0] at hk'
                        | some k0 =>
                          simp only [h0, Option.map_some, Option.some.injEq, killOf, hne, if_false, Option.getD_some] at hk'
                          cases k0 with
                          | dead => simp at hk'
                          | held => simp at hk'
                          | map es => simp at hk'
                          | cells a1 a2 a3 a4 =>
                            cases a4 with
                            | none => simp at hk'
                            | some g0 =>
                              simp only at hk'
                              split at hk'
                              · cases hk'
                              · cases hk'; rename_i hne'; exact hne' rfl
                  have r1 := r0.shareUp hk0
                  have hk1 : ((M.kill (g.getD b) b).set b (.cells cells sz' true (some (g.getD b)))).get b = some (.cells cells sz' true (some (g.getD b))) := by rw [AMem.get_set hk0, if_pos rfl]
                  have alone1 : ∀ mm k' x', mm ≠ b → ((M.kill (g.getD b) b).set b (.cells cells sz' true (some (g.getD b)))).get mm = some k' → e mm = some x' → k'.live = true → x'.blk ≠ xb.blk := by
                    intro mm k' x' hne hk' hx' hlive
                    rw [AMem.get_set hk0, if_neg hne] at hk'
                    exact alone mm k' x' hne hk' hx' hlive
                  by_cases hfit : len + m ≤ len + xb.d
                  · -- in place
                    have hroom : xb.o + o + len * sz' + news.length ≤ arr.size := by
                      rw [hnl]
                      have h1 : m * sz' ≤ xb.d * sz' := Nat.mul_le_mul_right _ (by omega)
                      omega
                    have hone := concs_one hnews d5
                    have hrun := run_storeCells_at (P := P) xb.blk (xb.o + o + len * sz') T news 0 arr w b1 (by omega) hone
                    simp only [Nat.add_zero] at hrun
                    generalize hnew : (arr.toList.take (xb.o + o + len * sz') ++ news ++ arr.toList.drop (xb.o + o + len * sz' + news.length)).toArray = arr' at hrun
                    have hsize : arr'.size = arr.size := by rw [← hnew]; simp; omega
                    have htl : (arr.toList.take (xb.o + o + len * sz')).length = xb.o + o + len * sz' := by simp; omega
                    have hlow : ∀ i, i < xb.o + o + len * sz' → arr'[i]? = arr[i]? := by
                      intro i hi
                      rw [← hnew]
                      simp only [List.getElem?_toArray]
                      rw [List.append_assoc, List.getElem?_append_left (by omega), List.getElem?_take_of_lt hi]; simp
                    have r2 := r1.beyond (arr' := arr') hk1 hxb b1 hsize (fun i hi => hlow _ (by omega)) alone1
                    have hrow : (w.setRow xb.blk arr').heap[xb.blk]? = some (.cells arr' T (0, 0)) := setRow_heap w xb.blk arr arr' T (0, 0) b1
                    have hbr : BR e (w.setRow xb.blk arr') ⟨xb.blk, xb.o + o, len + xb.d - (len + m)⟩ (.cells ((cells.drop o).take (len * sz') ++ new) sz' true (some (g.getD b))) := by
                      refine ⟨arr', T, (0, 0), (vs.drop o).take (len * sz') ++ news, hrow, fun _ => rfl, ?_, concs_append holds hnews, ?_⟩
                      · simp only [List.length_append, holl]
                        have h1 : (len + xb.d - (len + m)) * sz' + m * sz' = xb.d * sz' := by rw [← Nat.add_mul]; congr 1; omega
                        omega
                      · intro i v hi
                        have hvl : ((vs.drop o).take (len * sz')).length = len * sz' := g2
                        by_cases hil : i < len * sz'
                        · rw [List.getElem?_append_left (by omega)] at hi
                          rw [List.getElem?_take_of_lt hil, List.getElem?_drop] at hi
                          show arr'[xb.o + o + i]? = some v
                          rw [hlow _ (by omega), Nat.add_assoc]; exact b5 _ _ hi
                        · rw [List.getElem?_append_right (by omega), hvl] at hi
                          have hil2 : i - len * sz' < news.length := (List.getElem?_eq_some_iff.1 hi).1
                          show arr'[xb.o + o + i]? = some v
                          rw [← hnew]
                          simp only [List.getElem?_toArray]
                          rw [List.append_assoc, List.getElem?_append_right (by omega), htl, List.getElem?_append_left (by omega)]
                          have : xb.o + o + i - (xb.o + o + len * sz') = i - len * sz' := by omega
                          rw [this]; exact hi
                    have r3 := r2.pushShared hk1 hxb hbr
                    refine ⟨_, _, .slice (some ⟨xb.blk, xb.o + o, none⟩) (len + m) (len + xb.d), ?_, hm.xone rfl _, ?_, r3⟩
                    · rw [inplace _ _ _ hfit]
                      simp only [addr_add, hrun, Result.andThen_ok]
                    · have hlast : (e.set M.n ⟨xb.blk, xb.o + o, len + xb.d - (len + m)⟩) M.n = some (⟨xb.blk, xb.o + o, len + xb.d - (len + m)⟩ : EB) := Env.set_self _ _ _
                      rw [conc_slice_mk hlast, if_pos (rfl : true = true)]
                      have : len + m + (len + xb.d - (len + m)) = len + xb.d := by omega
                      simp only [this, Nat.add_zero]
                  · obtain ⟨e', w', cv, k1, k2, k3⟩ := grown _ len (len + xb.d) _ _ _ (some (g.getD b)) _ r1 holds rfl holl (hfo _) hfit c1 c2
                    exact ⟨e', w', cv, k1, ⟨k2.n, k2.ext, k2.old⟩, k3⟩
                · cases h
            · rw [if_neg hlc] at h; cases h
      · cases h
  · rename_i ba
    have : cs = .slice ba 0 0 := by simp [conc] at hcs; exact hcs.symm
    subst this
    by_cases hm0 : m = 0
    · subst hm0
      simp only [if_true, Option.some.injEq, Prod.mk.injEq] at h
      obtain ⟨rfl, rfl⟩ := h
      have hn : news = [] := List.length_eq_zero_iff.1 (by rw [hnl]; simp)
      subst hn
      refine ⟨e, w, _, ?_, XR.refl M e, rfl, hm⟩
      rw [inplace ba 0 0 (by omega)]
      cases ba with
      | none => simp
      | some a => simp [Go.storeCells]
    · rw [if_neg hm0] at h
      split at h
      · rename_i hc3
        obtain ⟨c1, c2, c3⟩ := hc3
        simp only [Option.some.injEq, Prod.mk.injEq] at h
        obtain ⟨rfl, rfl⟩ := h
        have := grown ba 0 0 new [] [] none M hm rfl rfl (by simp) (fun w' _ => by cases ba <;> simp [Builtin.firstCells, loadCells, loadCellsFrom]) (by omega) (by simpa using c1) (by omega)
        simpa using this
      · cases h
  · cases h
theorem alias_load [Val] {b : Nat} {cs : List AV} {sz : Nat} {wr : Bool} {g : Option Nat} (hf : M.t.Full M.n) (hk : M.get b = some (.cells cs sz wr g)) {b' o n : Nat} {l : List AV} (h : M.loadCells b' o n = some l) : (M.alias b cs sz wr g).loadCells b' o n = some l := by
  unfold AMem.loadCells at h ⊢
  have hlt : ∀ k, M.get b' = some k → b' ≠ M.n := by
    intro k hk' he
    subst he
    have := (hf M.n).1 (by show (M.get M.n).isSome = true; rw [hk']; rfl)
    omega
  have hget : ∀ k, M.get b' = some k → (M.alias b cs sz wr g).get b' = if b' = b then some (.cells cs sz wr (some (g.getD b))) else some k := by
    intro k hk'
    unfold AMem.alias
    show ((M.set b (.cells cs sz wr (some (g.getD b)))).push (.cells [] sz wr (some (g.getD b)))).get b' = _
    have h1 : ((M.set b (.cells cs sz wr (some (g.getD b)))).push (.cells [] sz wr (some (g.getD b)))).get b' = (M.set b (.cells cs sz wr (some (g.getD b)))).get b' := by
      show ((M.t.set b _).push M.n _).get b' = _
      rw [Tr.get_push _ M.n _ b' (Tr.full_set hf b _), if_neg (hlt k hk')]; rfl
    rw [h1, AMem.get_set hk]
    split
    · rfl
    · exact hk'
  cases hg : M.get b' with
  | none => rw [hg] at h; cases h
  | some k =>
    rw [hg] at h
    rw [hget k hg]
    by_cases hb : b' = b
    · subst hb
      rw [hk] at hg; cases hg
      rw [if_pos rfl]; exact h
    · rw [if_neg hb]; exact h
theorem alias_cells [Val] {b : Nat} {cs : List AV} {sz : Nat} {wr : Bool} {g : Option Nat} (hf : M.t.Full M.n) (hk : M.get b = some (.cells cs sz wr g)) {s : Nat} {x : AV} {r : Nat × List AV} (h : M.sliceCells s x = some r) : (M.alias b cs sz wr g).sliceCells s x = some r := by
  unfold AMem.sliceCells at h ⊢
  split at h
  · exact h
  · rename_i b' o n c gr
    cases hl : M.loadCells b' o (n * s) with
    | none => rw [hl] at h; cases h
    | some l =>
      rw [hl] at h
      simp only [alias_load hf hk hl]
      exact h
  · exact h
  · exact h
  · exact h
  · cases h
theorem run_appendI [Val] {st xt ty el el' : TypeId} {sz bytes m : Nat} {z s x v : AV} {cs cx : Value} {new : List AV} {M' : AMem}
    (hu : P.underlying st = some (.slice el)) (hx : P.underlying xt = some (.slice el')) (hs : sizeOfP P el = some sz) (hb : bytesOfP P el = some bytes) (hz : zeroOf P el = some z) (hzl : z.cells.length = sz)
    (hm : MR B w0 e M w) (hcs : conc e s = some cs) (hcx : conc e x = some cx) (hc : M.sliceCells sz x = some (m, new)) (h : M.append sz bytes s m new = some (v, M')) :
    ∃ e' w' cv, (Builtin.append_ #[st, xt] ty #[cs, cx]).run P w = .ok cv w' ∧ XR M M' e e' ∧ conc e' v = some cv ∧ MR B w0 e' M' w' := by
  unfold AMem.append at h
  split at h
  · rename_i b o adv
    by_cases hm0 : m = 0
    · subst hm0
      rw [if_pos rfl] at h
      simp only [Option.some.injEq, Prod.mk.injEq] at h
      obtain ⟨rfl, rfl⟩ := h
      obtain ⟨hlen, news, hnews, hnl, hfirst, _⟩ := sliceCells_ok (P := P) hm hcx hc
      have hn : news = [] := List.length_eq_zero_iff.1 (by rw [hnl]; simp)
      subst hn
      refine ⟨e, w, cs, ?_, XR.refl M e, hcs, hm⟩
      simp only [conc] at hcs
      cases hxb : e b with
      | none => simp [hxb] at hcs
      | some xb =>
        simp only [hxb, Option.some.injEq] at hcs; subst hcs
        have hsz : ∀ w' : World, (sizeOf el).run P w' = .ok sz w' := fun w' => run_sizeOfP hs
        simp only [Builtin.append_, List.getElem?_toArray, List.getElem?_cons_zero, List.getElem?_cons_succ]
        simp only [Sem.run_bind, run_underlying hu, run_underlying hx, Result.andThen_ok, hsz, Sem.run_pure, Bool.false_eq_true, if_false, hlen]
        rw [if_pos (by omega)]
        simp only [Sem.run_bind, Bool.not_false, if_true, hfirst w rfl, Result.andThen_ok]
        simp [Go.storeCells]
    · rw [if_neg hm0] at h
      split at h
      · rename_i cells sz' wr g hk
        split at h
        · rename_i hcond
          obtain ⟨rfl, hle⟩ := hcond
          obtain ⟨e1, hx1, hc1, hm1⟩ := alias_ok hm hk hle hcs
          -- the source is as it was
          have hcx' := hx1.ext.conc hcx
          have hc' := alias_cells hm.full hk hc
          obtain ⟨e2, w2, cv, r1, r2, r3, r4⟩ := run_append0 (ty := ty) hu hx hs hb hz hzl hm1 hc1 hcx' hc' h
          exact ⟨e2, w2, cv, r1, hx1.trans r2, r3, r4⟩
        · cases h
      · cases h
  · exact run_append0 hu hx hs hb hz hzl hm hcs hcx hc h
end
end Go.Vx
