/- The calls of Like that compare. -/
import Derived.Test.YtmgfamnongagbaaGreatSkSeen
import Derived.Test.YtmgfamnongagbaaGreatVx28
namespace Go.Proofs.YtmgfamnongagbaaGreat.stk
open Go Go.Vx
theorem call_res (c v : Int) {M : AMem} (hok : Okg M) (hh : NH M) (d : Nat) : ∃ M', callF tblS code 100000 (d + 1) 22 [.agg [.int .i64 c, .int .u64 v, .slice none 0 0 false], .agg [.int .i64 c, .int .u64 v, .slice none 0 0 false]] M = some (.bool true, M') ∧ EvA M M' (fun _ => False) := by
  obtain ⟨M', h1, h2⟩ := call_flat hok (view_nil rfl) ⟨_, _, _, _, _, R_same0 M.g c v, by simp⟩ rfl (by decide) d
  exact ⟨M', h1, (EvA.of_after h2 hok hh).n, (EvA.of_after h2 hok hh).g, fun b hb _ => h2.same b hb (by simp), h2.ok hok, fun b => h2.nh b (hh b)⟩
theorem view_one {M : AMem} {c sz : Nat} (h : M.get c = some (.cells [] sz true none)) : view 400 M [.slice none 0 0 false, .slice (some (c, 0)) 0 0 false] = some ([c], [.cells [] sz true none], [.slice none 0 0 false, .slice (some (0, 0)) 0 0 false]) := by
  have e : reach M.get 400 (AV.refsL [.slice none 0 0 false, .slice (some (c, 0)) 0 0 false]) [] = [c] := by
    simp only [AV.refsL, AV.refs, List.nil_append, List.append_nil]
    simp [reach, refsAt, h, ABlk.refs, AV.refsL]
  unfold view
  rw [e]
  simp only [extr, mapO, h, okB, AV.refsL, AV.refs, List.all_nil, if_true, ABlk.ren, AV.rens, Option.map_none, List.nil_append, List.append_nil, AV.ren]
  simp
theorem view_two {M : AMem} {c e s1 s2 : Nat} {x : Int} {g1 g2 : Bool} (h : M.get c = some (.cells [.int .u64 x] s1 true none)) (k : M.get e = some (.cells [.int .u64 x] s2 true none)) (hne : c ≠ e) : view 400 M [.slice (some (c, 0)) 1 1 g1, .slice (some (e, 0)) 1 1 g2] = some ([c, e], [.cells [.int .u64 x] s1 true none, .cells [.int .u64 x] s2 true none], [.slice (some (0, 0)) 1 1 g1, .slice (some (1, 0)) 1 1 g2]) := by
  have hr : reach M.get 400 (AV.refsL [.slice (some (c, 0)) 1 1 g1, .slice (some (e, 0)) 1 1 g2]) [] = [c, e] := by
    simp only [AV.refsL, AV.refs, List.nil_append, List.append_nil, List.cons_append]
    simp [reach, refsAt, h, k, ABlk.refs, AV.refsL, AV.refs, hne.symm]
  unfold view
  rw [hr]
  simp only [extr, mapO, h, k, okB, AV.refsL, AV.refs, List.all_nil, if_true, ABlk.ren, AV.rens, Option.map_none, List.append_nil, AV.ren]
  have hb : (c == e) = false := by simpa using hne
  simp [hne, List.idxOf_cons, hb]
theorem same_at {M' : AMem} {b sz : Nat} {ρ : List Nat} {i : Nat} {cs : List AV} {args a : List AV} {l : List ABlk} (h : Viewed M' args ρ l a) (hi : ρ[i]? = some b) (hl : l[i]? = some (.cells cs sz true none)) (hint : ∀ cs', AV.rens (fun b => ρ.idxOf b) cs' = cs → cs' = cs) : M'.get b = some (.cells cs sz true none) := by
  obtain ⟨k, g1, g2, g3⟩ := h.at_ i b hi
  rw [hl] at g3
  simp only [Option.some.injEq] at g3
  rw [g1]
  have hg := okB_grp g2
  cases k with
  | cells cs' s w g =>
    obtain rfl := hg _ _ _ _ rfl
    simp only [ABlk.ren, Option.map_none, ABlk.cells.injEq, and_true] at g3
    obtain ⟨e1, rfl, rfl⟩ := g3
    rw [hint cs' e1.symm]
  | dead => cases g3
  | held => cases g3
  | map es => cases g3
theorem rens_one {f : Nat → Nat} {cs : List AV} {k : IntKind} {x : Int} (h : AV.rens f cs = [.int k x]) : cs = [.int k x] := by
  cases cs with
  | nil => cases h
  | cons a l =>
    simp only [AV.rens, List.cons.injEq] at h
    cases l with
    | nil => rw [ren_int h.1]
    | cons _ _ => simp [AV.rens] at h
theorem rens_none {f : Nat → Nat} {cs : List AV} (h : AV.rens f cs = []) : cs = [] := by
  cases cs with
  | nil => rfl
  | cons a l => cases h
/-- two lists of tasks, the same -/
theorem call_same {M : AMem} (hok : Okg M) (hh : NH M) {n : Nat} {v1 v2 : AV} {xs : List Int} {A : Nat → Prop} (h1 : HeldAt M n v1 xs) (h2 : HeldC M A v2 xs) (hlt : ∀ c, A c → c < n) (d : Nat) : ∃ M', callF tblS code 100000 (d + 1) 23 [v1, v2] M = some (.bool true, M') ∧ EvA M M' (fun _ => False) := by
  have fin : ∀ {M' : AMem} {ρ : List Nat}, After M ρ M' → (∀ c ∈ ρ, M'.get c = M.get c) → EvA M M' (fun _ => False) := fun {M' ρ} ha hs =>
    ⟨ha.n, ha.g, fun b hb _ => by
      by_cases hc : b ∈ ρ
      · exact hs b hc
      · exact ha.same b hb hc, ha.ok hok, fun b => ha.nh b (hh b)⟩
  obtain ⟨c2, s2, hA, ⟨rfl, rfl, k2⟩ | ⟨x, g2, rfl, rfl, k2⟩⟩ := h2
  · rcases h1 with ⟨_, rfl⟩ | ⟨x, _, _, _, h, _⟩
    · have hv := view_one k2
      obtain ⟨M', q1, q2, q3⟩ := stepO_frame sound (fs := served) (by decide) hok hv (same_none M.g s2) (by simp)
      refine ⟨M', callS (by decide) q1 d, fin q2 fun c hc => ?_⟩
      obtain rfl := List.mem_singleton.1 hc
      rw [k2]
      refine same_at (i := 0) (viewed_of q3) ?_ rfl (fun cs' h => rens_none h)
      simp [extN]
    · cases h
  · rcases h1 with ⟨h, _⟩ | ⟨y, c1, g1, s1, h, rfl, k1, hn⟩
    · cases h
    · obtain rfl : x = y := by simpa using h
      have hne : c1 ≠ c2 := by have := hlt c2 hA; omega
      have hv := view_two (g1 := g1) (g2 := g2) k1 k2 hne
      obtain ⟨M', q1, q2, q3⟩ := stepO_frame sound (fs := served) (by decide) hok hv (same_one M.g x s1 s2 g1 g2) (by simp)
      refine ⟨M', callS (by decide) q1 d, fin q2 fun c hc => ?_⟩
      rcases List.mem_cons.1 hc with rfl | hc
      · rw [k1]
        refine same_at (i := 0) (viewed_of q3) ?_ rfl (fun cs' h => rens_one h)
        simp [extN]
      · obtain rfl := List.mem_singleton.1 hc
        rw [k2]
        refine same_at (i := 1) (viewed_of q3) ?_ rfl (fun cs' h => rens_one h)
        simp [extN]
theorem load_part {M : AMem} {b o n sz : Nat} {cs : List AV} {wr : Bool} {g : Option Nat} (h : M.get b = some (.cells cs sz wr g)) (hn : o + n ≤ cs.length) : opI (.load true n) [.ptr (some (b, o))] M = some (.val (.agg ((cs.drop o).take n)) M) := by
  simp only [opI, AMem.loadCells, h, if_true]
  rw [if_pos hn]
theorem eqs {M : AMem} (k c a b : Int) : opI (.eqStruct [(0, 0), (1, 0), (2, 0), (3, 0)] true) [.agg [.int .i64 k, .int .i64 c, .int .u64 a, .int .u64 b], .agg [.int .i64 k, .int .i64 c, .int .u64 a, .int .u64 b]] M = some (.val (.bool false) M) := by
  simp [opI, eqParts, eqScalar, xorB]
end Go.Proofs.YtmgfamnongagbaaGreat.stk
