/- slices.Grow as a known call holds at the program, and with it all calls that are known. -/
import Derived.Test.YtmgfamnongagbaaGreatSkLay
import Derived.Test.YtmgfamnongagbaaGreatSkLaw2
import Derived.Maps.AppendAt
namespace Go.Proofs.YtmgfamnongagbaaGreat.stk
open Go Go.Vx Go.RowKit
theorem infoU : (Tryz.prog.info? 24).map (fun i => (i.zero, i.size, i.bytes)) = some (some (.int .u64 0), 1, 8) := by kernel_rfl
theorem grw_ok [Val] : TblOk Tryz.prog grw := by
  have hinfo := infoU
  refine growX_ok (T := 24) (hasBody_of Tryz.func78 (by kernel_rfl)) (fun w => ?_) (fun n h0 h1 w => ?_)
  · exact Any8.slices_Grow_room YtmgfamnongagbaaGreat.growLaid none 0 0 0 w (Nat.le_refl _) (by omega) (by omega) (by omega)
  · cases hi : Tryz.prog.info? 24 with
    | none => rw [hi] at hinfo; cases hinfo
    | some i0 =>
      rw [hi] at hinfo
      simp only [Option.map_some, Option.some.injEq, Prod.mk.injEq] at hinfo
      obtain ⟨hz, hs, hb⟩ := hinfo
      refine (Any8.slices_Grow_grow YtmgfamnongagbaaGreat.growLaid i0 (.int .u64 0) hi hz (by omega) none 0 0 n [] w (by omega) (by omega) (by rw [hb]; omega) (by omega) (by simp) (fun _ => rfl) (fun a h => by cases h)).mono ?_
      rintro e w' ⟨rfl, rfl⟩
      have hd : Below w.heap.size w w.drew := ⟨rfl, rfl, rfl, Nat.le_refl _, fun _ _ => rfl⟩
      refine ⟨w.heap.size, _, _, rfl, Nat.le_refl _, heap_alloc_new w.drew _, ?_, hd.alloc (Nat.le_refl _) _⟩
      simp only [Array.size_append, List.size_toArray, List.length_nil, List.length_cons, size_zeroCells, Value.cells, Nat.zero_add, Nat.mul_one]
      omega
theorem tblS_ok [Val] : TblOk Tryz.prog tblS := by
  refine tblOk_or (tblOk_lift fun f args r h => ?_) (frame_ok (callF_ok (drawSound Tryz.prog) grw_ok codeOk 100000 60))
  unfold tbl0 at h
  split at h
  · rename_i hf
    subst hf
    cases args with
    | nil => cases h; exact closed_of grw_ok codeOk rfl (awake_run Val.g) rfl rfl
    | cons a l => cases h
  · cases h
end Go.Proofs.YtmgfamnongagbaaGreat.stk
