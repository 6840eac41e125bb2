/- The library's sort at edges: the kit's contract, laid at this program. -/
import Derived.Test.YtgjamfkmaccgaaaDiTbl
import Derived.Test.YtgjamfkmaccgaaaDiLay
import Derived.Shelf.SlSortCmp.WholeK
import Derived.Shelf.SlicesG.Cmp
namespace Go.Proofs.Ytgjamfkmaccgaaa.diary
open Go Go.Vx Go.Shelf Go.RowKit Go.Lib Go.Sort

set_option maxHeartbeats 2000000 in
theorem closure (x y : Int × Bool) (W : World) : Calls Try.prog 14 #[.agg #[.int .i64 x.1, .bool x.2], .agg #[.int .i64 y.1, .bool y.2]] W fun e w' => e = .returned (.int .i64 (cfE x y)) ∧ ∃ q os', w' = grow (W.drewN q) os' := by
  have hcon := fun W' => AnyG.cmp_Compare_int Ytgjamfkmaccgaaa.cmpLaid x.1 y.1 W'
  change ∀ W', Calls Try.prog 15 _ _ _ at hcon
  unfold cfE
  generalize Lib.compareInt x.1 y.1 = r at hcon ⊢
  obtain ⟨a, p⟩ := x
  obtain ⟨b, q⟩ := y
  simp only
  by_cases hab : a = b
  · subst hab
    cases p <;> cases q
    all_goals
      go_enter Try.func14, Try.ntmps14
      go_wp2_with (go_at_call 15; refine (hcon _).mono ?_; rintro e w' ⟨rfl, rfl⟩)
      all_goals first | (go_ret; exact ⟨by simp, 0, _, by rw [alloc_eq_grow, alloc_eq_grow, grow_grow]; rfl⟩) | skip
  · rw [if_pos hab]
    go_enter Try.func14, Try.ntmps14
    go_wp2_with (go_at_call 15; refine (hcon _).mono ?_; rintro e w' ⟨rfl, rfl⟩)
    all_goals first | (go_ret; exact ⟨rfl, 0, _, by rw [alloc_eq_grow, alloc_eq_grow, grow_grow]; rfl⟩) | skip
theorem cmpLays (blk off size : Nat) (w : World) : CmpLays Try.prog 14 #[] encV 2 cfE blk off size w := fun _ _ _ _ x y => closure x y _
theorem sort_holds (blk off cap : Nat) (d : List (Int × Bool)) (w : World) (hH : HoldsK encV 2 w blk off d.toArray) (hblk : blk < w.heap.size) (hsz : d.length < 4611686018427387904) :
    Calls Try.prog 13 #[.slice (some ⟨blk, off, none⟩) d.length cap, .func (.func 14) #[] #[]] w fun e w' => e = .returned (.tuple #[]) ∧ ∃ n os, w' = sortWorldK encV 2 w blk off n (sortE d).toArray os := by
  have eg : ∀ args w, (callFunc 14 args).run Try.prog w = .ok (.enter 14 args) w := enters_of Try.func14 (by kernel_rfl) rfl
  have h := AnyQ.slices_SortFunc_eq Ytgjamfkmaccgaaa.sortLaid 2 Try.isAgg46 Try.sizeOf46 encV (fun _ => rfl) (fun x v hv => by simp [encV] at hv; rcases hv with rfl | rfl <;> rfl) cfE swoE 14 #[] blk off cap d.toArray w eg (cmpLays blk off _ w) hH hblk (by simpa using hsz)
  change Calls Try.prog 13 _ _ _ at h
  simp only [List.size_toArray] at h
  refine h.mono ?_
  rintro e w' ⟨he, n, os, hw⟩
  refine ⟨he, n, os, ?_⟩
  rw [hw]
  simp only [sortE, Array.toArray_toList]
  rfl
theorem sortX_holds [Val] : TblOk Try.prog (sortX 13 14 decB encA sortE) :=
  sortX_ok (encV := encV) (k := 2) (fun _ => rfl) (fun e x => rfl) (fun cs d h => (decB_some h).1) c13_body sort_holds (fun cs d h => (decB_some h).2)
end Go.Proofs.Ytgjamfkmaccgaaa.diary
