/- strings.SplitSeq's iterator at one blank, in the model. -/
import Derived.Test.YtphdlmmllahgkaaDoorNlPieces
import Derived.Test.YtphdlmmllahgkaaDoorNlRange
import Derived.Shelf.Strings.Search3
import Derived.Shelf.Abstract
import Derived.WalkKit
import Derived.OwnWalkIn
import Derived.TacticsInMore
import Derived.LoopNIn
import Derived.LoopIn
namespace Go.Proofs.YtphdlmmllahgkaaDoor.num
open Go Go.Vx Go.RowKit Go.Shelf Go.Lib
attribute [local go_sem] Oper.semAt_some
def leftOf (b : Nat) (w : World) : Nat := match w.cell? ⟨b, 0, none⟩ with
  | some (.string s) => s.size
  | _ => 0
set_option maxRecDepth 100000 in
set_option maxHeartbeats 2000000 in
theorem split_in (n : Nat) (hn : 2 ≤ n) (l b1 b2 b3 N : Nat) (h12 : b1 ≠ b2) (h32 : b3 ≠ b2) (txt : List UInt8) (J : List (List UInt8) → World → Prop)
    (hix : ∀ (s : ByteArray) (W : World), Calls Tryd.prog 44 #[.string s, .string ⟨#[32]⟩] W fun e w' => e = .returned (.int .i64 (Lib.indexByte s.data.toList 32)) ∧ w' = W)
    (hJ : ∀ s W v, J s W → J s (W.setCell ⟨b2, 0, none⟩ v)) (htl : txt.length ≤ 1000) (hN : (pieces [] txt).length ≤ N)
    (hY : ∀ pre x W1, J pre W1 → pre.length < N → YieldAt Fence.wide (n - 1) Tryd.prog l #[.string (SB x)] W1 fun e W' => e = .returned (.bool true) ∧ J (pre ++ [x]) W' ∧ ∀ k, (k = b1 ∨ k = b2 ∨ k = b3) → W'.heap[k]? = W1.heap[k]?)
    (W : World) (h1 : W.cell? ⟨b1, 0, none⟩ = some (.string ⟨#[32]⟩)) (h2 : W.cell? ⟨b2, 0, none⟩ = some (.string (SB txt))) (h3 : W.cell? ⟨b3, 0, none⟩ = some (.int .i64 0)) (hfz : W.frozen? ⟨b2, 0, none⟩ = false) (h0 : J [] W) :
    CallsIn Fence.wide n Tryd.prog 42 #[.func (.yield l) #[] #[], .pointer (some ⟨b1, 0, none⟩), .pointer (some ⟨b2, 0, none⟩), .pointer (some ⟨b3, 0, none⟩)] W fun e W' => (∃ v, e = .returned v) ∧ ∃ xs, xs = pieces [] txt ∧ J xs W' := by
  have hc : ∀ s W, CallsIn Fence.wide (n - 1) Tryd.prog 44 #[.string s, .string ⟨#[32]⟩] W fun e w' => e = .returned (.int .i64 (Lib.indexByte s.data.toList 32)) ∧ w' = W := fun s W => callsIn_wide.2 (hix s W)
  refine callsIn_of_wp Tryd.func42 rfl trivial ?_ rfl
  simp only [Tryd.ntmps42, List.size_toArray, List.length_cons, List.length_nil, Nat.reduceAdd, Nat.reduceSub, Array.replicate_succ, Array.replicate_zero, List.push_toArray, List.append_toArray, List.nil_append, List.cons_append]
  gi_wp2
  gi_loopw [7] (fun _ wr => ∃ (pre : List (List UInt8)) (rest : List UInt8), rest.length ≤ 1000 ∧ pieces [] txt = pre ++ pieces [] rest ∧ J pre wr ∧ wr.cell? ⟨b1, 0, none⟩ = some (.string ⟨#[32]⟩) ∧ wr.cell? ⟨b2, 0, none⟩ = some (.string (SB rest)) ∧ wr.cell? ⟨b3, 0, none⟩ = some (.int .i64 0) ∧ wr.frozen? ⟨b2, 0, none⟩ = false)
    (fun _ wr => leftOf b2 wr)
  case atStart => exact ⟨[], txt, htl, rfl, h0, h1, h2, h3, hfz⟩
  case round =>
    obtain ⟨pre, rest, hrl, hp, hJs, k1, k2, k3, kf⟩ := hrel
    by_cases hlt : indexByte rest 32 = -1
    · rw [pieces_ixn hlt] at hp
      have hlen : pre.length < N := by
        have := congrArg List.length hp
        rw [List.length_append, List.length_singleton] at this
        omega
      obtain ⟨fn, tmps, assign, body, hy, hR⟩ := hY _ rest wr hJs hlen
      have hc' : ∀ W, CallsIn Fence.wide (n - 1) Tryd.prog 44 #[.string (SB rest), .string ⟨#[32]⟩] W fun e w' => e = .returned (.int .i64 (-1)) ∧ w' = W := fun W => (hc (SB rest) W).mono (by rintro e w' ⟨rfl, rfl⟩; exact ⟨by show Ending.returned (.int .i64 (indexByte rest 32)) = _; rw [hlt], rfl⟩)
      gi_wp2_with (refine ⟨trivial, fun _ => by omega, (hc' _).mono ?_⟩; rintro e W3 ⟨rfl, rfl⟩)
      refine ⟨fun _ => by omega, hR.mono ?_⟩
      rintro e W4 ⟨rfl, hJ4, _⟩
      gi_wp2
      go_end0
      exact ⟨⟨_, rfl⟩, _, rfl, by rw [hp]; exact hJ4⟩
    · obtain ⟨i, hi⟩ : ∃ i : Nat, indexByte rest 32 = i := ⟨(indexByte rest 32).toNat, by have := indexByte_ge rest 32; omega⟩
      obtain ⟨hil, hpc⟩ := pieces_ixs hi
      rw [hpc] at hp
      have hlen : pre.length < N := by
        have := congrArg List.length hp
        rw [List.length_append, List.length_cons] at this
        omega
      obtain ⟨fn, tmps, assign, body, hy, hR⟩ := hY _ (rest.take i) wr hJs hlen
      have hc' : ∀ W, CallsIn Fence.wide (n - 1) Tryd.prog 44 #[.string (SB rest), .string ⟨#[32]⟩] W fun e w' => e = .returned (.int .i64 (i : Int)) ∧ w' = W := fun W => (hc (SB rest) W).mono (by rintro e w' ⟨rfl, rfl⟩; exact ⟨by show Ending.returned (.int .i64 (indexByte rest 32)) = _; rw [hi], rfl⟩)
      have hw : wrap64 (i : Int) = i := by unfold wrap64; omega
      clear hi hlt
      have ex : SB (rest.take i) = (SB rest).extract 0 i := by
        apply ByteArray.ext
        rw [ByteArray.data_extract]
        apply Array.ext'
        simp only [Array.toList_extract]
        show rest.take i = rest.extract 0 i
        rw [List.extract_eq_take_drop, List.drop_zero, Nat.sub_zero]
      rw [ex] at hy
      gi_wp2_with (refine ⟨trivial, fun _ => by omega, (hc' _).mono ?_⟩; rintro e W3 ⟨rfl, rfl⟩)
      refine ⟨fun _ => by omega, hR.mono ?_⟩
      rintro e W4 ⟨rfl, hJ4, hkk⟩
      have m1 : W4.cell? ⟨b1, 0, none⟩ = some (.string ⟨#[32]⟩) := (World.cell?_of_block (w := W3) (a := ⟨b1, 0, none⟩) (hkk b1 (.inl rfl))).trans k1
      have m2 : W4.cell? ⟨b2, 0, none⟩ = some (.string (SB rest)) := (World.cell?_of_block (w := W3) (a := ⟨b2, 0, none⟩) (hkk b2 (.inr (.inl rfl)))).trans k2
      have m3 : W4.cell? ⟨b3, 0, none⟩ = some (.int .i64 0) := (World.cell?_of_block (w := W3) (a := ⟨b3, 0, none⟩) (hkk b3 (.inr (.inr rfl)))).trans k3
      have mf : W4.frozen? ⟨b2, 0, none⟩ = false := (World.frozen?_of_block (w := W3) (a := ⟨b2, 0, none⟩) (hkk b2 (.inr (.inl rfl)))).trans kf
      have hw2 : wrap64 ((i : Int) + 1) = i + 1 := by unfold wrap64; omega
      gi_wp2
      have ex2 : (SB rest).extract (i + 1) rest.length = SB (rest.drop (i + 1)) := by
        apply ByteArray.ext
        rw [ByteArray.data_extract]
        apply Array.ext'
        simp only [Array.toList_extract]
        show rest.extract (i + 1) rest.length = rest.drop (i + 1)
        rw [List.extract_eq_take_drop]
        exact List.take_of_length_le (by rw [List.length_drop]; omega)
      rw [ex2]
      have q2 := World.cell?_setCell_same (v := .string (SB (rest.drop (i + 1)))) (h := m2)
      refine ⟨⟨pre ++ [rest.take i], rest.drop (i + 1), by rw [List.length_drop]; omega, by rw [hp]; simp, hJ _ _ _ hJ4, ?_, q2, ?_, ?_⟩, ?_⟩
      · rw [World.cell?_setCell_other _ _ _ _ (by simp)]; exact m1
      · rw [World.cell?_setCell_other _ _ _ _ (by simp)]; exact m3
      · rw [World.frozen?_setCell]; exact mf
      · unfold leftOf
        rw [q2, k2]
        simp only [SB_size, List.length_drop]
        omega
end Go.Proofs.YtphdlmmllahgkaaDoor.num
