/- timer.compare, at this program: what the order of two entries is. -/
import Derived.Test.YtbjipmhdncfodaaTpLay
import Derived.Test.YtbjipmhdncfodaaVx30
import Derived.WalkKit
import Derived.Deep.RegionHeld3
import Derived.OwnWalkIn
import Derived.TacticsInMore
import Derived.LoopNIn
import Derived.LoopIn
namespace Go.Proofs.Ytbjipmhdncfodaa.grf
open Go Go.RowKit Go.Shelf Go.Lib Go.Sort
attribute [local go_sem] Oper.semAt_some

set_option maxRecDepth 100000 in
set_option maxHeartbeats 2000000 in
theorem or_calls (b o cap : Nat) (x y r : Int) (hr : r = if x = 0 then y else x) (W : World) (h0 : W.cell? ⟨b, o, none⟩ = some (.int .i64 x)) (h1 : W.cell? ⟨b, o + 1, none⟩ = some (.int .i64 y)) :
    Calls Try.prog 32 #[.slice (some ⟨b, o, none⟩) 2 cap] W fun e w' => e = .returned (.int .i64 r) ∧ w' = W := by
  refine (callsIn_wide (n := 4)).1 ?_
  refine callsIn_of_wp Try.func32 rfl trivial ?_ rfl
  simp only [Try.ntmps32, List.size_toArray, List.length_cons, List.length_nil, Nat.reduceAdd, Nat.reduceSub, Array.replicate_succ, Array.replicate_zero, List.push_toArray, List.append_toArray, List.nil_append, List.cons_append]
  gi_wp2
  gi_loopw [8] (fun i wr => ∃ k : Nat, k ≤ 2 ∧ i = .int .i64 k ∧ wr = W ∧ (0 < k → x = 0) ∧ (1 < k → y = 0))
    (fun i _ => 2 - (intOf i).toNat)
  case atStart => exact ⟨0, by omega, rfl, rfl, fun h => absurd h (by omega), fun h => absurd h (by omega)⟩
  case round =>
    obtain ⟨k, hk, rfl, rfl, hx, hy⟩ := hrel
    have fin : ∀ z : Int, (z != 0) = true → z ≠ 0 := fun z h => by simpa using h
    rcases (show k = 0 ∨ k = 1 ∨ k = 2 by omega) with rfl | rfl | rfl
    · have h0' : wr.cell? ⟨b, o + 0, none⟩ = some (.int .i64 x) := h0
      by_cases hz : x = 0
      · have hb : (x != 0) = false := by simpa using hz
        gi_wp2
        all_goals first
          | (exfalso; simp_all; done)
          | skip
        go_roundw
        case rel => exact ⟨1, by omega, by simp, by simp, fun _ => hz, fun h => absurd h (by omega)⟩
        case measure => simp [intOf]
      · have hb : (x != 0) = true := by simpa using hz
        rw [if_neg hz] at hr
        subst hr
        gi_wp2
        all_goals first
          | (exfalso; simp_all; done)
          | skip
        go_ret
        exact ⟨rfl, rfl⟩
    · have h1' : wr.cell? ⟨b, o + 1, none⟩ = some (.int .i64 y) := h1
      have hx0 := hx (by omega)
      rw [if_pos hx0] at hr
      by_cases hz : y = 0
      · have hb : (y != 0) = false := by simpa using hz
        gi_wp2
        all_goals first
          | (exfalso; simp_all; done)
          | skip
        go_roundw
        case rel => exact ⟨2, by omega, by simp, by simp, fun _ => hx0, fun _ => hz⟩
        case measure => simp [intOf]
      · have hb : (y != 0) = true := by simpa using hz
        subst hr
        gi_wp2
        all_goals first
          | (exfalso; simp_all; done)
          | skip
        go_ret
        exact ⟨rfl, rfl⟩
    · rw [if_pos (hx (by omega)), hy (by omega)] at hr
      subst hr
      gi_wp2
      go_ret
      exact ⟨rfl, rfl⟩
theorem new2 (W : World) (u v : Value) (T : TypeId) : (W.alloc (.cells #[u, v] T)).drew.cell? ⟨W.heap.size, 0, none⟩ = some u ∧ (W.alloc (.cells #[u, v] T)).drew.cell? ⟨W.heap.size, 0 + 1, none⟩ = some v := by
  have h : (W.alloc (.cells #[u, v] T)).drew.heap[W.heap.size]? = some (.cells #[u, v] T) := heap_alloc_new W _
  constructor <;> simp only [World.cell?, h] <;> rfl
theorem cmp_eq (x y : Int) : Lib.compareInt x y = if x < y then -1 else if x > y then 1 else 0 := by
  unfold Lib.compareInt
  rfl
set_option maxHeartbeats 2000000 in
theorem compare_calls (pb po qb qo : Nat) (x y : Int × Int) (W : World) (h0 : W.cell? ⟨pb, po, none⟩ = some (.int .i64 x.1)) (h1 : W.cell? ⟨qb, qo, none⟩ = some (.int .i64 y.1)) (h2 : W.cell? ⟨pb, po + 2, none⟩ = some (.int .i64 x.2)) (h3 : W.cell? ⟨qb, qo + 2, none⟩ = some (.int .i64 y.2)) :
    Calls Try.prog 28 #[.pointer (some ⟨pb, po, none⟩), .pointer (some ⟨qb, qo, none⟩)] W fun e w' => e = .returned (.int .i64 (Vx.cfK x y)) ∧ ∃ q os', w' = grow (W.drewN q) os' := by
  have c1 := fun W' => AnyG.cmp_Compare_int Ytbjipmhdncfodaa.cmpLaid64 x.1 y.1 W'
  change ∀ W', Calls Try.prog 33 _ _ _ at c1
  have c2 := fun W' => AnyG.cmp_Compare_int Ytbjipmhdncfodaa.cmpLaid x.2 y.2 W'
  change ∀ W', Calls Try.prog 34 _ _ _ at c2
  go_enter Try.func28, Try.ntmps28
  have hr : Vx.cfK x y = if Lib.compareInt x.1 y.1 = 0 then Lib.compareInt x.2 y.2 else Lib.compareInt x.1 y.1 := by
    unfold Vx.cfK Lib.compareInt
    by_cases h1 : x.1 < y.1
    · simp [h1]
    · by_cases h2 : x.1 > y.1
      · simp [h1, h2]
      · simp [h1, h2]
  generalize Vx.cfK x y = r at *
  have c3 : ∀ W' : World, Calls Try.prog 32 #[.slice (some ⟨W'.heap.size, 0, none⟩) 2 2] (W'.alloc (.cells #[.int .i64 (Lib.compareInt x.1 y.1), .int .i64 (Lib.compareInt x.2 y.2)] 3)).drew fun e w' => e = .returned (.int .i64 r) ∧ w' = (W'.alloc (.cells #[.int .i64 (Lib.compareInt x.1 y.1), .int .i64 (Lib.compareInt x.2 y.2)] 3)).drew := fun W' => or_calls _ 0 _ _ _ r hr _ (new2 _ _ _ _).1 (new2 _ _ _ _).2
  clear hr
  generalize Lib.compareInt x.1 y.1 = r1 at *
  generalize Lib.compareInt x.2 y.2 = r2 at *
  go_wp2
  go_region_held3 (fun w' => w'.cell? ⟨pb, po, none⟩ = some (.int .i64 x.1) ∧ w'.cell? ⟨qb, qo, none⟩ = some (.int .i64 y.1) ∧ w'.cell? ⟨pb, po + 2, none⟩ = some (.int .i64 x.2) ∧ w'.cell? ⟨qb, qo + 2, none⟩ = some (.int .i64 y.2)) (go_keep)
    (first
    | (go_at_call 33; refine (c1 _).mono ?_; rintro e w' ⟨rfl, rfl⟩)
    | (go_at_call 34; refine (c2 _).mono ?_; rintro e w' ⟨rfl, rfl⟩)
    | (go_at_call 32; refine (c3 _).mono ?_; rintro e w' ⟨rfl, rfl⟩))
  all_goals go_wp2
  go_ret
  refine ⟨rfl, 1, #[.cells #[.int .i64 r1, .int .i64 r2] 3], ?_⟩
  rw [alloc_eq_grow]
  rfl
end Go.Proofs.Ytbjipmhdncfodaa.grf
