/- slices.Grow at a nil slice of one-cell elements, as a known call: a new row without elements, with room. -/
import Derived.Test.YtmgfamnongagbaaGreatVx28
namespace Go.Vx
open Go.RowKit
/-- 'f', called with a nil slice and a number above zero. -/
def growX (f : FuncId) : FuncId → List AV → AMem → Option (AV × AMem) := fun f' args M =>
  if f' = f then match args with
    | [.slice none 0 0 false, .int .i64 n] => if n = 0 then some (.slice none 0 0 false, M) else if 0 < n ∧ n ≤ 1000000 then some (.slice (some (M.n, 0)) 0 0 true, M.push (.cells [] 1 true none)) else none
    | _ => none
  else none
theorem growX_at {f : FuncId} {n : Int} {M : AMem} (h0 : 0 < n) (h1 : n ≤ 1000000) : growX f f [.slice none 0 0 false, .int .i64 n] M = some (.slice (some (M.n, 0)) 0 0 true, M.push (.cells [] 1 true none)) := by
  unfold growX
  rw [if_pos rfl]
  simp only
  rw [if_neg (by omega), if_pos ⟨h0, h1⟩]
theorem growX_ok [Val] {P : Program} {f : FuncId} {T : TypeId} (hf : hasBody P f = true) (H0 : ∀ w : World, Calls P f #[.slice none 0 0, .int .i64 0] w fun e W' => e = .returned (.slice none 0 0) ∧ W' = w)
    (H : ∀ (n : Nat), 0 < n → n ≤ 1000000 → ∀ w : World, Calls P f #[.slice none 0 0, .int .i64 n] w fun e W' => ∃ p cap arr, e = .returned (.slice (some ⟨p, 0, none⟩) 0 cap) ∧ w.heap.size ≤ p ∧ W'.heap[p]? = some (.cells arr T (0, 0)) ∧ cap ≤ arr.size ∧ Below w.heap.size w W') : TblOk P (growX f) := by
  intro f' args M r M' h B w0 e w cargs hcs hm
  unfold growX at h
  split at h
  rotate_left
  · cases h
  rename_i hff
  subst hff
  refine ⟨hf, ?_⟩
  split at h
  rotate_left
  · cases h
  rename_i n
  split at h
  · rename_i hn
    cases h
    subst hn
    have hca : cargs = [.slice none 0 0, .int .i64 0] := by
      simp only [concs, conc] at hcs
      cases hcs
      rfl
    subst hca
    refine (H0 w).mono ?_
    rintro en w' ⟨rfl, rfl⟩
    exact ⟨e, _, XR.refl _ e, rfl, rfl, hm⟩
  split at h
  rotate_left
  · cases h
  rename_i hn
  cases h
  obtain ⟨m, rfl⟩ : ∃ m : Nat, n = m := ⟨n.toNat, by omega⟩
  have hca : cargs = [.slice none 0 0, .int .i64 m] := by
    simp only [concs, conc] at hcs
    cases hcs
    rfl
  subst hca
  refine (H m (by omega) (by omega) w).mono ?_
  rintro en w' ⟨p, cap, arr, rfl, hp, hblk, hcap, hb⟩
  refine ⟨e.set M.n ⟨p, 0, cap⟩, _, hm.xone rfl _, rfl, ?_, hm.made (vs := []) hb hp hblk rfl (by simpa using hcap) (fun i v hi => by simp at hi) none⟩
  simp [conc, Env.set]
end Go.Vx
