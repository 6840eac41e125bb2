/- Rows of bools and of numbers of our own. -/
import Derived.Test.YtbjipmhdncfodaaTmPlain
namespace Go.Proofs.Ytbjipmhdncfodaa.grf
open Go Go.Vx
theorem make_bools {M0 M : AMem} (h : Step M0 M) {n : Nat} (hn : n ≤ 100000) :
    ∃ M', opI (.makeSlice 1 1 [.bool false]) [.int .i64 n, .int .i64 n] M = some (.val (.slice (some (M.n, 0)) n n false) M') ∧ Step M0 M' ∧ M'.n = M.n + 1 ∧ RowI M0 M' 1 M.n (.slice (some (M.n, 0)) n n false) ((List.replicate n false).map fun b => [.bool b]) ∧ ∀ ids, Fr M M' ids := by
  have hE : Els 1 ((List.replicate n false).map fun b => [AV.bool b]) := fun e he => by
    obtain ⟨b, _, rfl⟩ := List.mem_map.1 he; rfl
  have hfl : ((List.replicate n false).map fun b => [AV.bool b]).flatten = List.replicate n (.bool false) := by
    induction n with
    | zero => rfl
    | succ n ih => 
      rw [List.replicate_succ, List.map_cons, List.flatten_cons, ih (by omega) (fun e he => by obtain ⟨b, _, rfl⟩ := List.mem_map.1 he; rfl), List.replicate_succ]; rfl
  have e : ((List.range (((n : Nat) : Int).toNat * 1)).map fun i => [AV.bool false].getD (i % 1) (.tuple [])) = List.replicate n (.bool false) := by
    apply List.ext_getElem
    · simp
    · intro i h1 h2
      simp [Nat.mod_one]
  refine ⟨M.push (.cells (List.replicate n (.bool false)) 1 true none), ?_, h.push (fun _ _ _ _ he => by cases he), rfl, .inr ⟨M.n, n, false, _, 1, none, by simp, by simp, h.grow.n, h.grow.n, get_push_self h.ok.1, by simp, ?_, fun _ => rfl, rfl, hE, ?_⟩, fun ids => Fr.push h.ok.1 _⟩
  · simp only [opI]
    rw [if_pos ⟨by omega, by omega, by omega, by omega⟩, e]
    simp
  · rw [hfl]; exact List.take_of_length_le (by simp)
  · rw [List.all_eq_true]
    intro y hy
    rw [(List.mem_replicate.1 hy).2]; rfl
section
variable {M0 M : AMem} {γ : Nat} {us : List Bool} {v : AV}
abbrev eB (b : Bool) : List AV := [.bool b]
theorem rowB_at (hv : RowI M0 M 1 γ v (us.map eB)) (hok : Ok M) {i : Nat} (hi : i < us.length) : (∀ M', opI (.indexAddrS 1) [v, .int .i64 i] M' = some (.val (rowp v 1 i) M')) ∧ opI (.load false 1) [rowp v 1 i] M = some (.val (.bool (us.getD i false)) M) := by
  have hi' : i < (us.map eB).length := by rw [List.length_map]; exact hi
  refine ⟨hv.idx hi', ?_⟩
  have := (hv.ld hok (by omega) hi').2 0 (.bool (us.getD i false)) (by rw [List.getElem_map, List.getD_eq_getElem?_getD, List.getElem?_eq_getElem hi]; rfl)
  rwa [padd_z (hv.isP hi')] at this
theorem rowB_put (h : Step M0 M) (hv : RowI M0 M 1 γ v (us.map eB)) {i : Nat} (hi : i < us.length) (b : Bool) : ∃ M', opI (.store 1) [rowp v 1 i, .bool b] M = some (.val (.tuple []) M') ∧ Step M0 M' ∧ RowI M0 M' 1 γ v ((us.set i b).map eB) ∧ Fr M M' (· = γ) ∧ M'.n = M.n := by
  obtain ⟨M', h1, h2, h3, h4, h5⟩ := hv.put h (i := i) (by rw [List.length_map]; exact hi) (x := .bool b) rfl rfl
  exact ⟨M', h1, h2, by rw [List.map_set]; exact h3, h4, h5⟩
abbrev eI (a : Int) : List AV := [.int .i64 a]
theorem rowA_len {A : List Int} (hv : RowI M0 M 1 γ v (A.map eI)) (hok : Ok M) : opI .lenS [v] M = some (.val (.int .i64 A.length) M) := by
  have := (hv.row hok).len
  rwa [List.length_map] at this
theorem rowA_at {A : List Int} (hv : RowI M0 M 1 γ v (A.map eI)) (hok : Ok M) {i : Nat} (hi : i < A.length) : (∀ M', opI (.indexAddrS 1) [v, .int .i64 i] M' = some (.val (rowp v 1 i) M')) ∧ opI (.load false 1) [rowp v 1 i] M = some (.val (.int .i64 (A.getD i 0)) M) := by
  have hi' : i < (A.map eI).length := by rw [List.length_map]; exact hi
  refine ⟨hv.idx hi', ?_⟩
  have := (hv.ld hok (by omega) hi').2 0 (.int .i64 (A.getD i 0)) (by rw [List.getElem_map, List.getD_eq_getElem?_getD, List.getElem?_eq_getElem hi]; rfl)
  rwa [padd_z (hv.isP hi')] at this
end
end Go.Proofs.Ytbjipmhdncfodaa.grf
