/- How many of each were there: counted in a map. -/
import Derived.Test.YtpbejdlpkpehlaaBgSn
namespace Go.Proofs.Ytpbejdlpkpehlaa.bag
open Go Go.Vx
def kadd (keys : List Int) (x : Int) : List Int := if x ∈ keys then keys else keys ++ [x]
theorem kadd_nodup {keys : List Int} {x : Int} (h : keys.Nodup) : (kadd keys x).Nodup := by
  unfold kadd
  split
  · exact h
  · rename_i hx
    rw [List.nodup_append]
    exact ⟨h, by simp, fun a ha b hb he => hx (by simp at hb; rw [← hb, ← he]; exact ha)⟩
theorem kadd_mem {keys : List Int} {x y : Int} : y ∈ kadd keys x ↔ y ∈ keys ∨ y = x := by
  unfold kadd
  split
  · rename_i hx
    exact ⟨.inl, fun h => h.elim id fun h => by rw [h]; exact hx⟩
  · simp
theorem asg_map {F : Int → AV} {x : Int} : ∀ {l : List Int}, asg x (l.map fun y => (y, F y)) = if x ∈ l then some (F x) else none
  | [] => rfl
  | y :: l => by
    have ih := asg_map (F := F) (x := x) (l := l)
    simp only [List.map_cons, asg, List.mem_cons]
    by_cases h : x = y
    · subst h; simp
    · rw [if_neg h, ih]
      simp only [h, false_or]
abbrev esF (keys : List Int) (f : Int → Int) : List (Int × AV) := keys.map fun x => (x, AV.int .i64 (f x))
theorem tally {M0 K : AMem} (hs : Step M0 K) {mb : Nat} (hmb : M0.n ≤ mb) {keys : List Int} {f g : Int → Int} (hnd : keys.Nodup) (hk : K.get mb = some (.map (ents .u64 (esF keys f)))) (hz : ∀ y, y ∉ keys → f y = 0) (x dl : Int) (hg : ∀ y, g y = if y = x then f y + dl else f y) :
    opI (.lookup 0 false (.int .i64 0)) [.map (some mb), .int .u64 x] K = some (.val (.int .i64 (f x)) K) ∧ ∃ K', opI (.mapUpdate 0) [.map (some mb), .int .u64 x, .int .i64 (f x + dl)] K = some (.val (.tuple []) K') ∧ Step M0 K' ∧
      K'.get mb = some (.map (ents .u64 (esF (kadd keys x) g))) ∧ (kadd keys x).Nodup ∧ (∀ y, y ∉ kadd keys x → g y = 0) ∧ (∀ c, c ≠ mb → K'.get c = K.get c) ∧ K'.n = K.n := by
  have hgx : g x = f x + dl := by rw [hg, if_pos rfl]
  refine ⟨?_, ?_⟩
  · rw [lookup_own hk, asg_map]
    by_cases hx : x ∈ keys
    · rw [if_pos hx]; rfl
    · rw [if_neg hx, hz x hx]; rfl
  have he : K.entries mb = some (ents .u64 (esF keys f)) := by simp only [AMem.entries, hk]
  have key : ∀ es', opI (.mapUpdate 0) [.map (some mb), .int .u64 x, .int .i64 (f x + dl)] K = some (.val (.tuple []) (K.set mb (.map (ents .u64 es')))) → es' = esF (kadd keys x) g → _ := fun es' h1 h2 =>
    (⟨K.set mb (.map (ents .u64 es')), h1, hs.set hmb hk (fun _ _ _ _ he => by cases he), by rw [get_set_mem hk, if_pos rfl, h2], kadd_nodup hnd, fun y hy => by
      rw [kadd_mem] at hy
      rw [hg, if_neg (fun h => hy (.inr h)), hz y (fun h => hy (.inl h))], fun c hc => by rw [get_set_mem hk, if_neg hc], set_n⟩ : ∃ K', opI (.mapUpdate 0) [.map (some mb), .int .u64 x, .int .i64 (f x + dl)] K = some (.val (.tuple []) K') ∧ Step M0 K' ∧
      K'.get mb = some (.map (ents .u64 (esF (kadd keys x) g))) ∧ (kadd keys x).Nodup ∧ (∀ y, y ∉ kadd keys x → g y = 0) ∧ (∀ c, c ≠ mb → K'.get c = K.get c) ∧ K'.n = K.n)
  rcases findK_ents (k := .u64) (x := x) (es := esF keys f) (i := 0) with ⟨h1, h2⟩ | ⟨j, w, h1, h2, h3, h4, h5⟩
  · have hx : x ∉ keys := fun h => by rw [asg_map, if_pos h] at h2; cases h2
    refine key (esF keys f ++ [(x, .int .i64 (f x + dl))]) ?_ ?_
    · simp only [opI, updateI, he, h1]
      simp [ents]
    · unfold kadd
      rw [if_neg hx]
      simp only [esF, List.map_append, List.map_cons, List.map_nil, hgx]
      congr 1
      refine List.map_congr_left fun y hy => ?_
      rw [hg, if_neg (fun h => hx (by rw [← h]; exact hy))]
  · have hx : x ∈ keys := by
      by_cases hx : x ∈ keys
      · exact hx
      · rw [asg_map, if_neg hx] at h2; cases h2
    refine key ((esF keys f).set j (x, .int .i64 (f x + dl))) ?_ ?_
    · simp only [opI, updateI, he, h1, Nat.zero_add]
      simp [ents, List.map_set]
    · unfold kadd
      rw [if_pos hx]
      have hjl : j < keys.length := by simpa [esF] using h3
      have hkj : keys[j] = x := by
        rw [List.getElem?_map, List.getElem?_eq_getElem hjl] at h4
        simp only [Option.map_some, Option.some.injEq, Prod.mk.injEq] at h4
        exact h4.1
      apply List.ext_getElem?
      intro i
      rw [List.getElem?_set, List.getElem?_map, List.getElem?_map]
      by_cases e : j = i
      · subst e
        rw [if_pos rfl, if_pos (by simpa [esF] using hjl), List.getElem?_eq_getElem hjl, hkj]
        simp [hgx]
      · rw [if_neg e]
        cases hi : keys[i]? with
        | none => rfl
        | some y =>
          have hne : y ≠ x := fun h => by
            obtain ⟨hil, hie⟩ := List.getElem?_eq_some_iff.1 hi
            have hp := List.pairwise_iff_getElem.1 hnd
            rcases Nat.lt_trichotomy i j with q | q | q
            · exact hp i j hil hjl q (by rw [hie, hkj, h])
            · exact e q.symm
            · exact hp j i hjl hil q (by rw [hie, hkj, h])
          simp only [Option.map_some]
          rw [hg, if_neg hne]
/-- what one span does to the count of a task, for a refused one -/
def bump (r s : Sn) (x : Int) : Int := if addB s && aheadB s r then (if x = s.task then 1 else 0) else if takB s && decide (s.from_ < r.to) then (if x = s.v then -1 else 0) else 0
def leftN (r : Sn) (l : List Sn) (x : Int) : Int := l.foldl (fun n s => n + bump r s x) 0
def keysN (r : Sn) (l : List Sn) : List Int := l.foldl (fun ks s => if addB s && aheadB s r then kadd ks s.task else if takB s && decide (s.from_ < r.to) then kadd ks s.v else ks) []
theorem leftN_add (r s : Sn) (l : List Sn) (x : Int) : leftN r (l ++ [s]) x = leftN r l x + bump r s x := by unfold leftN; rw [List.foldl_append]; rfl
theorem keysN_add (r s : Sn) (l : List Sn) : keysN r (l ++ [s]) = if addB s && aheadB s r then kadd (keysN r l) s.task else if takB s && decide (s.from_ < r.to) then kadd (keysN r l) s.v else keysN r l := by unfold keysN; rw [List.foldl_append]; rfl
theorem bump_le (r s : Sn) (x : Int) : -1 ≤ bump r s x ∧ bump r s x ≤ 1 := by unfold bump; (repeat' split) <;> omega
theorem leftN_le (r : Sn) (x : Int) : ∀ (l : List Sn), -(l.length : Int) ≤ leftN r l x ∧ leftN r l x ≤ l.length := by
  intro l
  have key : ∀ (l : List Sn) (n : Int), n - l.length ≤ l.foldl (fun n s => n + bump r s x) n ∧ l.foldl (fun n s => n + bump r s x) n ≤ n + l.length := by
    intro l
    induction l with
    | nil => intro n; simp
    | cons s l ih =>
      intro n
      have := ih (n + bump r s x)
      have := bump_le r s x
      simp only [List.foldl_cons, List.length_cons]
      omega
  have := key l 0
  unfold leftN
  omega
theorem keysN_len (r : Sn) : ∀ (l : List Sn), (keysN r l).length ≤ l.length := by
  intro l
  have hk : ∀ ks x, (kadd ks x).length ≤ ks.length + 1 := fun ks x => by
    unfold kadd; split <;> simp
  have key : ∀ (l : List Sn) (ks : List Int), (l.foldl (fun ks s => if addB s && aheadB s r then kadd ks s.task else if takB s && decide (s.from_ < r.to) then kadd ks s.v else ks) ks).length ≤ ks.length + l.length := by
    intro l
    induction l with
    | nil => intro ks; simp
    | cons s l ih =>
      intro ks
      simp only [List.foldl_cons, List.length_cons]
      refine Nat.le_trans (ih _) ?_
      split
      · have := hk ks s.task; omega
      · split
        · have := hk ks s.v; omega
        · omega
  have := key l []
  unfold keysN
  simpa using this
/-- how many are lacking -/
def lackN (r : Sn) (l : List Sn) : Int := (keysN r l).foldl (fun n x => n + max (leftN r l x) 0) 0
end Go.Proofs.Ytpbejdlpkpehlaa.bag
