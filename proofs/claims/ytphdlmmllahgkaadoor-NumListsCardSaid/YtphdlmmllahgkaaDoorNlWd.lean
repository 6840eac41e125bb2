/- num.Words in the model. -/
import Derived.Test.YtphdlmmllahgkaaDoorNlSplit
import Derived.RangeFuncBox
import Derived.RangeFuncLeaves
import Derived.Maps.AppendAt
import Derived.Deep.Onto
namespace Go.Proofs.YtphdlmmllahgkaaDoor.num
open Go Go.Vx Go.RowKit Go.Shelf Go.Lib Go.Maps Go.Sort
attribute [local go_sem] Oper.semAt_some
def full (l : List (List UInt8)) : List (List UInt8) := l.filter fun x => decide (x ≠ [])
theorem full_nil : full [] = [] := rfl
theorem full_skip (l : List (List UInt8)) : full (l ++ [[]]) = full l := by simp [full]
theorem full_add (l : List (List UInt8)) {x : List UInt8} (h : x ≠ []) : full (l ++ [x]) = full l ++ [x] := by simp [full, h]
theorem infoS : (Tryd.prog.info? 9).map (fun i => (i.zero, i.size, i.bytes)) = some (some (.string ⟨#[]⟩), 1, 16) := by kernel_rfl
set_option maxRecDepth 100000 in
set_option maxHeartbeats 2000000 in
theorem words_in (n : Nat) (hn : 4 ≤ n) (txt : List UInt8) (htl : txt.length ≤ 1000) (w : World)
    (hix : ∀ (s : ByteArray) (W : World), Calls Tryd.prog 44 #[.string s, .string ⟨#[32]⟩] W fun e w' => e = .returned (.int .i64 (Lib.indexByte s.data.toList 32)) ∧ w' = W)
    (hsp : ∀ W, CallsIn Fence.wide (n - 1) Tryd.prog 20 #[.string (SB txt), .string ⟨#[32]⟩] W fun e w' => e = .returned (.func (.func 42) #[] #[.pointer (some ⟨W.heap.size + 1, 0, none⟩), .pointer (some ⟨W.heap.size, 0, none⟩), .pointer (some ⟨W.heap.size + 2, 0, none⟩)]) ∧ w' = ((W.alloc (.cells #[.string (SB txt)] 9)).alloc (.cells #[.string ⟨#[32]⟩] 9)).alloc (.cells #[.int .i64 0] 3)) :
    CallsIn Fence.wide n Tryd.prog 13 #[.string (SB txt)] w fun e W' => ∃ v, e = .returned v ∧ W'.ownsRow w.heap.size 9 1 v (wordsL txt).length ((wordsL txt).map fun x => Value.string (SB x)) ∧ (v = .slice none 0 0 ↔ wordsL txt = []) ∧ Below w.heap.size w W' := by
  refine callsIn_of_wp_marks Tryd.func13 rfl trivial ?_ rfl
  simp only [Tryd.ntmps13, List.size_toArray, List.length_cons, List.length_nil, Nat.reduceAdd, Nat.reduceSub, Array.replicate_succ, Array.replicate_zero, List.push_toArray, List.append_toArray, List.nil_append, List.cons_append]
  gi_wp2_with (refine ⟨trivial, fun _ => by omega, (hsp _).mono ?_⟩; rintro e W3 ⟨rfl, rfl⟩)
  refine wpIn_rangeFunc_box (F := Fence.wide) (K := fun k => k = w.heap.size + 2 ∨ k = w.heap.size + 1 ∨ k = w.heap.size + 3) rfl (by omega) (gf := 42) rfl trivial (enters_of Tryd.func42 (by kernel_rfl) rfl)
    (encs := fun x : List UInt8 => #[.string (SB x)]) (S := fun xs => xs = pieces [] txt) (N := (pieces [] txt).length) (sB := w.heap.size + 1) (by simp) (fun _ => rfl)
    (fun pre W => (∃ v, Boxed W w.heap.size 32 v ∧ W.ownsRow (w.heap.size + 4) 9 1 v (full pre).length ((full pre).map fun x => Value.string (SB x)) ∧ (v = .slice none 0 0 ↔ full pre = [])) ∧ Below w.heap.size w W ∧ w.heap.size + 4 ≤ W.heap.size)
    ?own ?set ?init (fun x => { tmps := #[.string (SB txt), undef, .slice none 0 0, .pointer (some ⟨w.heap.size, 0, none⟩), .string (SB x), .string (SB txt), .func (.func 42) #[] #[.pointer (some ⟨w.heap.size + 2, 0, none⟩), .pointer (some ⟨w.heap.size + 1, 0, none⟩), .pointer (some ⟨w.heap.size + 3, 0, none⟩)], .string (SB x), undef, undef, undef, undef, undef, undef, undef], defers := [] }) ?seq ?hK ?assign ?body ?done
  case hK =>
    rintro k (rfl | rfl | rfl) <;> simp
  case assign =>
    intro l x W K hK
    gi_wp2
    exact hK
  case seq =>
    intro l J W hb hJ hY h0
    have e1 : W.heap[w.heap.size + 1]? = some (.cells #[.string (SB txt)] 9) := (hb.block _ (by simp)).trans ((Below.heap_alloc _ _ _ (by simp)).trans ((Below.heap_alloc _ _ _ (by simp)).trans (by simpa using World.alloc_heap_new (w.alloc (.cells #[.slice none 0 0] 32)) (.cells #[.string (SB txt)] 9))))
    have e2 : W.heap[w.heap.size + 2]? = some (.cells #[.string ⟨#[32]⟩] 9) := (hb.block _ (by simp)).trans ((Below.heap_alloc _ _ _ (by simp)).trans (by simpa using World.alloc_heap_new ((w.alloc (.cells #[.slice none 0 0] 32)).alloc (.cells #[.string (SB txt)] 9)) (.cells #[.string ⟨#[32]⟩] 9)))
    have e3 : W.heap[w.heap.size + 3]? = some (.cells #[.int .i64 0] 3) := (hb.block _ (by simp)).trans (by simpa using World.alloc_heap_new (((w.alloc (.cells #[.slice none 0 0] 32)).alloc (.cells #[.string (SB txt)] 9)).alloc (.cells #[.string ⟨#[32]⟩] 9)) (.cells #[.int .i64 0] 3))
    exact (split_in (n - 1) (by omega) l (w.heap.size + 2) (w.heap.size + 1) (w.heap.size + 3) _ (by omega) (by omega) txt J hix hJ htl (Nat.le_refl _) hY W (by simp [World.cell?, e2]) (by simp [World.cell?, e1]) (by simp [World.cell?, e3]) (by simp [World.frozen?, e1]) h0)
  case done =>
    rintro D ys W hD rfl ⟨⟨v, hv, hrow, hnil⟩, hB, hS⟩ hK
    rw [show full (pieces [] txt) = wordsL txt from pieces_words txt []] at hrow hnil
    have hc := hv.cell
    gi_wp2
    refine ⟨by simp, .inl ⟨_, _, rfl, run_takeDeferred hK, ?_⟩⟩
    exact ⟨_, results_tmp rfl _ _ _, v, rfl, (ownsRow_putObj hrow _ hK rfl).mono (by omega), hnil, hB.trans (belowK_b (w := w) (Nat.le_refl _) W D _ _ (by simp at hD; omega) hK rfl rfl)⟩
  case init =>
    refine ⟨⟨.slice none 0 0, ?_, World.ownsRow_nil _ _ _ _, by simp [full_nil]⟩, ?_⟩
    · exact (Below.heap_alloc _ _ _ (by simp; omega)).trans ((Below.heap_alloc _ _ _ (by simp; omega)).trans ((Below.heap_alloc _ _ _ (by simp)).trans (World.alloc_heap_new w _)))
    · exact ⟨((((Below.refl _ w).alloc (Nat.le_refl _) _).alloc (by simp) _).alloc (by simp; omega) _).alloc (by simp; omega) _, by simp⟩
  case own =>
    exact (OwnFrom.and (Own.from (holdsRow_own (w.heap.size + 4) w.heap.size 32 9 1 (fun pre : List (List UInt8) => (full pre).length) (fun pre => (full pre).map fun x => Value.string (SB x)) (fun pre v => v = .slice none 0 0 ↔ full pre = [])) _) (OwnFrom.and (ownFrom_below (by simp) (by simp; omega)) (fun _ _ _ _ hs hg _ => Nat.le_trans hs hg.size)))
  case set =>
    rintro s W v ⟨⟨u, hu, hrow, hnil⟩, hB, hS⟩
    refine ⟨⟨u, hu.other (by omega) _, ?_, hnil⟩, hB.setCell (by show w.heap.size ≤ w.heap.size + 1; omega) _, by rw [World.size_setCell]; exact hS⟩
    obtain ⟨hl, h | ⟨g, cap, cur, e1, e2, e3, r⟩⟩ := hrow
    · exact ⟨hl, .inl h⟩
    · exact ⟨hl, .inr ⟨g, cap, cur, e1, e2, (Below.heap_setCell W _ v g (by show g ≠ w.heap.size + 1; omega)).trans e3, r⟩⟩
  case body =>
    rintro l pre x W ⟨⟨v, hv, hrow, hnil⟩, hB, hS⟩ hlt
    have hc := hv.cell
    obtain ⟨i0, hi, hz0, hz1, hz2⟩ := info_parts infoS
    have hfl : (full pre).length < 100000 := by
      have h1 := pieces_len txt []
      have h2 : (full pre).length ≤ pre.length := List.length_filter_le _ _
      omega
    have hfl2 : (full pre).length + 1 ≤ maxLen := by unfold maxLen; omega
    by_cases hx : x = []
    · subst hx
      gi_wp2
      exact ⟨KeepsFrom.refl _ _, v, hv, by rw [full_skip]; exact hrow, by rw [full_skip]; exact hnil⟩
    · obtain ⟨c, r, rfl⟩ : ∃ c r, x = c :: r := by cases x with | nil => exact absurd rfl hx | cons c r => exact ⟨c, r, rfl⟩
      have hown4 : ∀ k, v.ownBlock = some k → w.heap.size + 4 ≤ k := by
        intro k e
        rcases hrow.2 with ⟨rfl, _⟩ | ⟨g, cap, cur, rfl, hb, _, _⟩
        · simp [Value.ownBlock] at e
        · obtain rfl : g = k := by simpa [Value.ownBlock] using e
          exact hb
      gi_wp2_with (gi_at_builtin; refine wpListIn_append_own _ rfl _ _ 32 rfl (w.heap.size + 4) 9 i0 (.string ⟨#[]⟩) 1 16 Tryd.underlying32 hi hz0 hz1 hz2 rfl (by decide) _ _ _ rfl (hrow.alloc _) ⟨W.heap.size, 0, none⟩ 1 1 [.string (SB (c :: r))] rfl rfl (cell_one_new _ _ _) (by simp [Value.oneCell']) hfl2 (by omega) (by simp; omega) ?_; intro v' w1 hown' hgrow _; obtain ⟨g', cap', rfl⟩ := ownsRow_succ hown'; have hb4 : Below (w.heap.size + 4) W w1 := ((Below.refl _ W).alloc hS _).grown hgrow (by simp; omega) hown4; obtain ⟨hv1, hv2, hr2, hk2, hb2⟩ := hv.appended (by decide) (hrow.mono (by omega)) hB.size (Nat.le_refl _) (hown'.mono (by omega)) hgrow; have hc1 := hv1.cell; have hf1 := hv1.frozen)
      refine ⟨hk2.from _, ⟨⟨_, hv2, ?_, ?_⟩, hB.trans hb2, ?_⟩, ?_⟩
      · rw [full_add _ hx, List.length_append, List.map_append]
        exact hown'.kept (grownBy_setCell' w1 _ _) (.inr (hv1.not_row (by decide) hown').symm)
      · rw [full_add _ hx]; simp
      · exact Nat.le_trans hS hb4.size
      · have q : ∀ k, k = w.heap.size + 2 ∨ k = w.heap.size + 1 ∨ k = w.heap.size + 3 → _ := fun k hk => (Below.heap_setCell w1 ⟨w.heap.size, 0, none⟩ (Value.slice (some { block := g', off := 0 }) ((full pre).length + 1) cap') k (by show k ≠ w.heap.size; omega)).trans (hb4.block k (by omega))
        exact ⟨q _ (.inl rfl), q _ (.inr (.inl rfl)), q _ (.inr (.inr rfl))⟩
set_option maxRecDepth 100000 in
set_option maxHeartbeats 2000000 in
theorem splitSeq_in (n : Nat) (txt : List UInt8) (W : World) : CallsIn Fence.wide n Tryd.prog 28 #[.string (SB txt), .string ⟨#[32]⟩, .int .i64 0] W fun e w' => e = .returned (.func (.func 42) #[] #[.pointer (some ⟨W.heap.size + 1, 0, none⟩), .pointer (some ⟨W.heap.size, 0, none⟩), .pointer (some ⟨W.heap.size + 2, 0, none⟩)]) ∧ w' = ((W.alloc (.cells #[.string (SB txt)] 9)).alloc (.cells #[.string ⟨#[32]⟩] 9)).alloc (.cells #[.int .i64 0] 3) := by
  refine callsIn_of_wp Tryd.func28 rfl trivial ?_ rfl
  simp only [Tryd.ntmps28, List.size_toArray, List.length_cons, List.length_nil, Nat.reduceAdd, Nat.reduceSub, Array.replicate_succ, Array.replicate_zero, List.push_toArray, List.append_toArray, List.nil_append, List.cons_append]
  gi_wp2
  go_ret
  exact ⟨rfl, rfl⟩
set_option maxRecDepth 100000 in
set_option maxHeartbeats 2000000 in
theorem splitS_in (n : Nat) (hn : 1 ≤ n) (txt : List UInt8) (W : World) : CallsIn Fence.wide n Tryd.prog 20 #[.string (SB txt), .string ⟨#[32]⟩] W fun e w' => e = .returned (.func (.func 42) #[] #[.pointer (some ⟨W.heap.size + 1, 0, none⟩), .pointer (some ⟨W.heap.size, 0, none⟩), .pointer (some ⟨W.heap.size + 2, 0, none⟩)]) ∧ w' = ((W.alloc (.cells #[.string (SB txt)] 9)).alloc (.cells #[.string ⟨#[32]⟩] 9)).alloc (.cells #[.int .i64 0] 3) := by
  refine callsIn_of_wp Tryd.func20 rfl trivial ?_ rfl
  simp only [Tryd.ntmps20, List.size_toArray, List.length_cons, List.length_nil, Nat.reduceAdd, Nat.reduceSub, Array.replicate_succ, Array.replicate_zero, List.push_toArray, List.append_toArray, List.nil_append, List.cons_append]
  gi_wp2_with (refine ⟨trivial, (splitSeq_in (n - 1) txt _).mono ?_⟩; rintro e W3 ⟨rfl, rfl⟩)
  go_ret
  exact ⟨rfl, rfl⟩
theorem words_calls (hix : ∀ (s : ByteArray) (W : World), Calls Tryd.prog 44 #[.string s, .string ⟨#[32]⟩] W fun e w' => e = .returned (.int .i64 (Lib.indexByte s.data.toList 32)) ∧ w' = W) (txt : List UInt8) (htl : txt.length ≤ 1000) (w : World) :
    Calls Tryd.prog 13 #[.string (SB txt)] w fun e W' => ∃ v, e = .returned v ∧ W'.ownsRow w.heap.size 9 1 v (wordsL txt).length ((wordsL txt).map fun x => Value.string (SB x)) ∧ (v = .slice none 0 0 ↔ wordsL txt = []) ∧ Below w.heap.size w W' :=
  (callsIn_wide (n := 8)).1 (words_in 8 (by omega) txt htl w hix fun W => splitS_in 7 (by omega) txt W)
end Go.Proofs.YtphdlmmllahgkaaDoor.num
