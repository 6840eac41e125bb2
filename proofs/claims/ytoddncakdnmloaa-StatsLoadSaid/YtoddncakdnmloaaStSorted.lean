/- slices.Sorted at slices.Values of a row, at this program: the row's numbers, sorted, in a new row. -/
import Derived.Test.YtoddncakdnmloaaStSeq
import Derived.Test.YtoddncakdnmloaaStLay
import Derived.Lib.SlKeysI
namespace Go.Proofs.Ytoddncakdnmloaa.stats
open Go Go.Vx Go.RowKit Go.Shelf Go.Maps Go.Sort
theorem enters35 : ∀ args w, (callFunc 35 args).run Try.prog w = .ok (.enter 35 args) w := enters_of Try.func35 (by kernel_rfl) rfl
set_option maxRecDepth 100000 in
set_option maxHeartbeats 1000000 in
theorem collect_in (F : Fence) (n : Nat) (h2 : F.fn 35) (h3 : F.fn 43) (h5 : F.fn 37) (hro : F.round = none) (hn : 4 ≤ n) (Bs bo : Nat) (sv : Value) (zs : List Int) (hlen : zs.length ≤ maxLen) (hbytes : zs.length * 8 ≤ 140737488351232) (w : World) (hBs : Bs < w.heap.size) (hc : w.cell? ⟨Bs, bo, none⟩ = some sv) (hL : IntsAt w.heap.size w sv zs) :
    CallsIn F n Try.prog 35 #[.func (.func 37) #[] #[.pointer (some ⟨Bs, bo, none⟩)]] w fun e W' => ∃ v, e = .returned v ∧ W'.ownsRow w.heap.size 3 1 v zs.length (zs.map (Value.int .i64)) ∧ (v = .slice none 0 0 ↔ zs = []) ∧ Below w.heap.size w W' := by
  have h1 : 1 ≤ n := by omega
  refine callsIn_of_wp Try.func35 rfl h2 ?_ hro
  simp only [Try.ntmps35, List.size_toArray, List.length_cons, List.length_nil, Nat.reduceAdd, Nat.reduceSub, Array.replicate_succ, Array.replicate_zero, List.push_toArray, List.append_toArray, List.nil_append, List.cons_append]
  gi_wp2_with (gi_at_call 43; refine (appendSeq_in F (n - 1) h3 h5 hro (by omega) Bs bo sv zs hlen hbytes _ hBs hc hL).mono ?_; rintro e W ⟨v, rfl, hrow, hnil, hb⟩)
  go_ret
  exact ⟨v, rfl, hrow, hnil, hb⟩
set_option maxRecDepth 100000 in
set_option maxHeartbeats 1000000 in
theorem sorted_calls (Bs bo : Nat) (sv : Value) (zs : List Int) (hlen : zs.length ≤ 1000000) (w : World) (hBs : Bs < w.heap.size) (hc : w.cell? ⟨Bs, bo, none⟩ = some sv) (hL : IntsAt w.heap.size w sv zs) :
    Calls Try.prog 22 #[.func (.func 37) #[] #[.pointer (some ⟨Bs, bo, none⟩)]] w fun e W' => ∃ v, e = .returned v ∧ W'.ownsRow w.heap.size 3 1 v zs.length ((zs.mergeSort fun x y => decide (x ≤ y)).map (Value.int .i64)) ∧ (zs = [] → v = .slice none 0 0) ∧ Below w.heap.size w W' := by
  refine (callsIn_wide (n := 8)).1 ?_
  have hcol : ∀ m, 4 ≤ m → CallsIn Fence.wide m Try.prog 35 _ _ _ := fun m hm => collect_in Fence.wide m trivial trivial trivial rfl hm Bs bo sv zs (by unfold maxLen; omega) (by omega) w hBs hc hL
  have hsn : ∀ m W, CallsIn Fence.wide m Try.prog 36 #[.slice none 0 0] W fun e w' => e = .returned (.tuple #[]) ∧ w' = W := fun m W => callsIn_wide.2 (AnyM.slices_Sort_int_none Ytoddncakdnmloaa.sortI none 0 W)
  have hss : ∀ m blk off cap (ss : List Int) W, Holds (Value.int .i64) W blk off ss.toArray → blk < W.heap.size → ss.length < 4611686018427387904 →
      CallsIn Fence.wide m Try.prog 36 #[.slice (some ⟨blk, off, none⟩) ss.length cap] W fun e w' => e = .returned (.tuple #[]) ∧ ∃ k os, w' = grow (putRow (Value.int .i64) (Sort.ahead W k) blk off (ss.mergeSort fun x y => decide (x ≤ y)).toArray) os := fun m blk off cap ss W hH hblk hsz => callsIn_wide.2 (AnyM.slices_Sort_int Ytoddncakdnmloaa.sortI blk off cap ss W hH hblk hsz)
  have h1 : 1 ≤ 8 := by decide
  have hfC : Fence.wide.fn 35 := trivial
  have hfS : Fence.wide.fn 36 := trivial
  refine callsIn_of_wp Try.func22 rfl trivial ?_ rfl
  simp only [Try.ntmps22, List.size_toArray, List.length_cons, List.length_nil, Nat.reduceAdd, Nat.reduceSub, Array.replicate_succ, Array.replicate_zero, List.push_toArray, List.append_toArray, List.nil_append, List.cons_append]
  gi_wp2_with (gi_at_call 35; refine (hcol _ (by omega)).mono ?_; rintro e W ⟨v, rfl, hrow, hnil, hb⟩)
  rcases hrow.2 with ⟨rfl, hz⟩ | ⟨gb, cap, cur, rfl, hbase, hgb, r1, r2, r3, r4⟩
  · have hss : zs = [] := List.eq_nil_of_length_eq_zero hz
    subst hss
    gi_wp2_with (gi_at_call 36; refine (hsn _ W).mono ?_; rintro e w' ⟨rfl, rfl⟩)
    go_ret
    exact ⟨.slice none 0 0, rfl, by simpa using hrow, by simp, hb⟩
  · have hH : Holds (Value.int .i64) W gb 0 zs.toArray := holds_of_block_i hgb (by simpa using r4)
    have hgl : gb < W.heap.size := (Array.getElem?_eq_some_iff.1 hgb).1
    have cS := hss
    gi_wp2_with (gi_at_call 36; refine (hss _ gb 0 cap zs W hH hgl (by omega)).mono ?_; rintro e w' ⟨rfl, nn, os, rfl⟩)
    go_ret
    exact ⟨_, rfl, ownsRow_sorted_i (by simp) hbase hgb r1 r2 r3, fun he => hnil.2 he, hb.grown (grownBy_sorted_i _) hb.size (fun j hj => by cases hj; exact hbase)⟩
end Go.Proofs.Ytoddncakdnmloaa.stats
