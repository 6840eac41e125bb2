/- The library's SortFunc of pointers to entries, and its Collect, at this program: known calls. -/
import Derived.Test.YtbjipmhdncfodaaTpCmp
import Derived.Test.YtbjipmhdncfodaaTpSeq
import Derived.Test.YtbjipmhdncfodaaTmTbl
import Derived.Shelf.SlSortCmp.NoneTotal
namespace Go.Proofs.Ytbjipmhdncfodaa.grf
open Go Go.RowKit Go.Shelf Go.Lib Go.Sort Go.Vx

theorem srtI_map {α : Type} (f : α → Int × Int) (a : α) (r : List α) : srtI ((a :: r).map f) = (Sort.pdq (Proofs.ltOf fun i j : _root_.Fin (r.length + 1) => cfK (f ((a :: r).get i)) (f ((a :: r).get j))) (Array.ofFn id) 0 (r.length + 1) (Lib.bitLen (r.length + 1)) true true).toList.map (·.val) := by
  have key : ∀ (m : Nat) (hm : (r.map f).length = m) (g : _root_.Fin (m + 1) → Int × Int), (∀ i : _root_.Fin (m + 1), some (g i) = (f a :: r.map f)[i.val]?) → srtI (f a :: r.map f) = (Sort.pdq (Proofs.ltOf fun i j : _root_.Fin (m + 1) => cfK (g i) (g j)) (Array.ofFn id) 0 (m + 1) (Lib.bitLen (m + 1)) true true).toList.map (·.val) := by
    intro m hm g hg
    subst hm
    have : g = (f a :: r.map f).get := by
      funext i
      have := hg i
      rw [List.getElem?_eq_getElem i.isLt] at this
      exact Option.some.inj this
    subst this
    rfl
  refine key r.length (List.length_map _) (fun i => f ((a :: r).get i)) fun i => ?_
  have : f a :: r.map f = (a :: r).map f := rfl
  rw [this, List.getElem?_map, List.getElem?_eq_getElem i.isLt]; rfl
theorem putRow_map {α : Type} [Inhabited α] (enc : α → Value) (w : World) (blk off : Nat) (d : Array α) : putRow enc w blk off d = putRow id w blk off (d.map enc) := by
  unfold putRow
  congr 1
  funext arr
  apply Array.ext
  · simp [putCells]
  · intro i h1 h2
    simp only [putCells, Array.getElem_mapIdx, Array.size_map]
    split
    · rename_i h
      have hi : i - off < d.size := by omega
      rw [getElem!_pos d _ hi, getElem!_pos (d.map enc) _ (by simpa using hi)]
      simp
    · rfl
theorem sort_holds (blk off cap : Nat) (ps : List (Addr × Int × Int)) (w : World) (hpos : 0 < ps.length) (hbig : ps.length < 4611686018427387904) (hblk : blk < w.heap.size) (hc : ∀ j, j < ps.length → w.cell? ⟨blk, off + j, none⟩ = some (.pointer (some (ps.getD j (dAddr, 0, 0)).1)) ∧ w.frozen? ⟨blk, off + j, none⟩ = false)
    (hp : ∀ p ∈ ps, p.1.spot = none ∧ p.1.block < w.heap.size ∧ p.1.block ≠ blk ∧ w.cell? p.1 = some (.int .i64 p.2.1) ∧ w.cell? ⟨p.1.block, p.1.off + 2, none⟩ = some (.int .i64 p.2.2)) :
    Calls Try.prog 30 #[.slice (some ⟨blk, off, none⟩) ps.length cap, .func (.func 28) #[] #[]] w fun e w' => e = .returned (.tuple #[]) ∧ ∃ n os, w' = grow (putRow id (Sort.ahead w n) blk off (((srtI (ps.map (·.2))).map fun i => Value.pointer (some (ps.getD i (dAddr, 0, 0)).1)).toArray)) os := by
  obtain ⟨p0, r, rfl⟩ : ∃ p r, ps = p :: r := by
    cases ps with
    | nil => simp at hpos
    | cons p r => exact ⟨p, r, rfl⟩
  have eg : ∀ args w, (callFunc 28 args).run Try.prog w = .ok (.enter 28 args) w := enters_of Try.func28 (by kernel_rfl) rfl
  let enc : _root_.Fin (r.length + 1) → Value := fun i => .pointer (some ((p0 :: r).get i).1)
  let cf : _root_.Fin (r.length + 1) → _root_.Fin (r.length + 1) → Int := fun i j => cfK ((p0 :: r).get i).2 ((p0 :: r).get j).2
  have hcmp : CmpLays1 Try.prog 28 #[] enc cf blk off (r.length + 1) w := by
    intro m os dk hs i j
    obtain ⟨i1, i2, i3, i4, i5⟩ := hp _ (List.get_mem (p0 :: r) i)
    obtain ⟨j1, j2, j3, j4, j5⟩ := hp _ (List.get_mem (p0 :: r) j)
    have far : ∀ a : Addr, a.block < w.heap.size → a.block ≠ blk → (sortWorld enc w blk off m dk os).cell? a = w.cell? a := by
      intro a h1 h2
      refine World.cell?_of_block ?_
      have e1 : (sortWorld enc w blk off m dk os).heap[a.block]? = (putRow enc (Sort.ahead w m) blk off dk).heap[a.block]? :=
        heap_grow_old _ os (by simpa [putRow, mapBlock, Sort.ahead] using h1)
      rw [e1]
      simp [putRow, mapBlock, Sort.ahead, Array.getElem?_modify, Ne.symm h2]
    have key := compare_calls ((p0 :: r).get i).1.block ((p0 :: r).get i).1.off ((p0 :: r).get j).1.block ((p0 :: r).get j).1.off ((p0 :: r).get i).2 ((p0 :: r).get j).2 (sortWorld enc w blk off m dk os)
    have ei : (⟨((p0 :: r).get i).1.block, ((p0 :: r).get i).1.off, none⟩ : Addr) = ((p0 :: r).get i).1 := by
      rw [← i1]
    have ej : (⟨((p0 :: r).get j).1.block, ((p0 :: r).get j).1.off, none⟩ : Addr) = ((p0 :: r).get j).1 := by
      rw [← j1]
    rw [ei, ej] at key
    exact key ((far _ i2 i3).trans i4) ((far _ j2 j3).trans j4) ((far ⟨_, _, none⟩ i2 i3).trans i5) ((far ⟨_, _, none⟩ j2 j3).trans j5)
  have hH : Holds enc w blk off (Array.ofFn (n := r.length + 1) id) := by
    intro j hj
    have hj' : j < r.length + 1 := by simpa using hj
    obtain ⟨h1, h2⟩ := hc j (by simpa using hj')
    refine ⟨?_, h2⟩
    rw [h1, getElem!_pos _ j hj, Array.getElem_ofFn]
    show _ = some (Value.pointer (some ((p0 :: r).get ⟨j, hj'⟩).1))
    rw [List.getD_eq_getElem?_getD, List.getElem?_eq_getElem (by simpa using hj')]; rfl
  have h := Any.slices_SortFunc_eq Ytbjipmhdncfodaa.sortLaid enc (fun _ => rfl) cf (swoF _) 28 #[] blk off cap (Array.ofFn (n := r.length + 1) id) w eg (by simpa using hcmp) hH hblk (by simp only [Array.size_ofFn]; simpa using hbig)
  change Calls Try.prog 30 _ _ _ at h
  rw [Array.size_ofFn] at h
  refine h.mono ?_
  rintro e w' ⟨he, n, os, hw⟩
  refine ⟨he, n, os, ?_⟩
  rw [hw]
  unfold sortWorld
  rw [putRow_map]
  congr 2
  apply Array.ext'
  rw [srtI_map, Array.toList_map, List.map_map]
  refine List.map_congr_left fun i _ => ?_
  show Value.pointer (some ((p0 :: r).get i).1) = Value.pointer (some ((p0 :: r).getD i.val (dAddr, 0, 0)).1)
  rw [List.getD_eq_getElem?_getD, List.getElem?_eq_getElem i.isLt]; rfl
theorem sortP_holds [Val] : TblOk Try.prog srtX :=
  sortP_ok (hasBody_of Try.func30 (by kernel_rfl)) (fun p cap w => by
    have h := AnyF.slices_SortFunc_none (P := Try.prog) (ρ := _) { Ytbjipmhdncfodaa.sortLaid with } p cap (.func (.func 28) #[] #[]) w
    exact h) sort_holds
theorem colX_holds [Val] : TblOk Try.prog colX :=
  collectX_ok (T := 60) (hasBody_of Try.func29 (by kernel_rfl)) collect_calls
end Go.Proofs.Ytbjipmhdncfodaa.grf
