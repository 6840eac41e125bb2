/- num.Print, at this program: by the kit's contracts of small, numDigits and formatBase10. -/
import Derived.Test.YtphdlmmllahgkaaDoorNuRead
import Derived.Lib.AppendIntMem
import Derived.Lib.OwnBridge
import Derived.Lib.Walk
import Derived.Lib.ItoaMem
import Derived.WalkKit
import Derived.BigCall
import Derived.BigGuard
namespace Go.Proofs.YtphdlmmllahgkaaDoor.num
open Go Go.RowKit Go.Shelf Go.Lib Go.Sort
def PowAt (w : World) : Prop := ∀ i, i < 20 → w.cell? ⟨2, i, none⟩ = some (.int .u64 ((10 ^ i : Nat) : Int))
theorem PowAt.alloc {w : World} (h : PowAt w) (o : Obj) : PowAt (w.alloc o) := fun i hi => (World.cell?_alloc_lt (h := cell_lt (h i hi)) ..).trans (h i hi)
set_option maxHeartbeats 4000000 in
theorem digits_holds (u : Nat) (h1 : 1 ≤ u) (h2 : u < 18446744073709551616) (w : World) (hc : PowAt w) : Calls Tryd.prog 37 #[.int .u64 u] w fun e w' => e = .returned (.int .i64 (Lib.nDigits u)) ∧ w' = w := by
  have L := YtphdlmmllahgkaaDoor.digitsLaid
  obtain ⟨hnd, h19⟩ := Lib.numDigits_eq u h1 h2
  have hL : Lib.bitLen u ≤ 64 := Lib.bitLen_le u 64 (Nat.le_refl _) h2
  have hcell := hc (Lib.l10 (Lib.bitLen u)) (by omega)
  have hto : ((u : Int)).toNat = u := by omega
  have b1 : ∀ W, Calls Tryd.prog 49 #[.int .u64 u] W fun e w' => e = .returned (.int .i64 (Lib.bitLen u)) ∧ w' = W := fun W => Any.bits_Len64 (ρ := YtphdlmmllahgkaaDoor.digitsLaid_ren) { L with } u W (by omega) (by omega)
  have b2 : ∀ W, Calls Tryd.prog 48 #[.int .i64 (Lib.bitLen u : Nat)] W fun e w' => e = .returned (.int .i64 (Lib.l10 (Lib.bitLen u))) ∧ w' = W := fun W => Any.internal_strconv_log10Pow2 (ρ := YtphdlmmllahgkaaDoor.digitsLaid_ren) { L with } _ hL W
  have b3 : ∀ b W, Calls Tryd.prog 50 #[.bool b] W fun e w' => e = .returned (.int .i64 (if b then 1 else 0)) ∧ w' = W := fun b W => Any.internal_strconv_bool2_int (ρ := YtphdlmmllahgkaaDoor.digitsLaid_ren) { L with } b W
  clear L
  generalize hq : Lib.l10 (Lib.bitLen u) = q at hnd h19 hcell b2
  generalize hT : 10 ^ q = T at hnd hcell
  generalize Lib.bitLen u = B at *
  have h20 : q < 20 := by omega
  have Hnd := Lib.hid hnd
  clear hnd hc hq hT
  go_enter Tryd.func37, Tryd.ntmps37
  go_wp2_with (first
    | (go_at_call 49; refine (b1 _).mono ?_; rintro e w' ⟨rfl, rfl⟩)
    | (go_at_call 48; refine (b2 _).mono ?_; rintro e w' ⟨rfl, rfl⟩)
    | (go_at_call 50; refine (b3 _ _).mono ?_; rintro e w' ⟨rfl, rfl⟩))
  all_goals go_ret
  all_goals (
    refine ⟨?_, rfl⟩
    have hnd := Hnd.out
    congr 2
    split at hnd <;> simp_all <;> omega)
set_option maxHeartbeats 6400000 in
set_option maxRecDepth 100000 in
theorem fmt_holds (u : Nat) (hu64 : u < 18446744073709551616) (w : World) (htab : PowAt w) :
    Calls Tryd.prog 24 #[.int .u64 u, .int .i64 10] w fun e w' => e = .returned (.string ⟨(Lib.decDigits u).toArray⟩) ∧ Below w.heap.size w w' := by
  have c1 : ∀ i, i < 100 → ∀ W, Calls Tryd.prog 36 #[.int .i64 (i : Nat)] W fun e w' => e = .returned (.string ⟨(Lib.decDigits i).toArray⟩) ∧ w' = W := fun i hi W => Any.internal_strconv_small YtphdlmmllahgkaaDoor.smallLaid i hi W
  have c2 : 1 ≤ u → ∀ W, PowAt W → Calls Tryd.prog 37 #[.int .u64 u] W fun e w' => e = .returned (.int .i64 (Lib.nDigits u)) ∧ w' = W := fun h W ht => digits_holds u h hu64 W ht
  by_cases hs : u < 100
  · have hw : IntKind.i64.wrap (u : Int) = (u : Int) := by rw [IntKind.wrap_i64]; omega
    go_enter Tryd.func24, Tryd.ntmps24
    go_wp2_with (go_at_call 36; refine (c1 u hs _).mono ?_; rintro e w' ⟨rfl, rfl⟩)
    go_ret
    exact ⟨rfl, Below.refl _ _⟩
  · have hu1 : 1 ≤ u := by omega
    have hnd20 : Lib.nDigits u ≤ 20 := by have := Lib.numDigits_eq u hu1 hu64; split at this <;> omega
    have hb3 : Lib.nDigits u ≤ 24 := by omega
    have hal : Tryd.prog.arrayLen 66 = 24 := by kernel_rfl
    have hsl1 : ∀ W, (Instr.sliceAt 66 (.pointer (some ⟨w.heap.size, 0, none⟩)) none (some (.int .i64 (Lib.nDigits u : Int))) none).run Tryd.prog W = .ok (.slice (some ⟨w.heap.size, 0, none⟩) (Lib.nDigits u) 24) W := fun W => by
      rw [run_sliceAt_array_h W 66 ⟨w.heap.size, 0, none⟩ (by kernel_rfl) .i64 (Lib.nDigits u : Int) (by omega) (by rw [hal]; omega)]
      go_simp
      try omega
    have hH0 := Lib.holds_zero0 w 66 (Lib.nDigits u) (by omega)
    have hfmt := Any.internal_strconv_formatBase10 YtphdlmmllahgkaaDoor.fmtLaid w.heap.size 0 24 u (Array.replicate (Lib.nDigits u) 0) (w.alloc (.cells Lib.zeros24 66)) hH0 (by rw [Array.size_replicate]; exact Lib.lt_pow_nDigits u) hu64 (by rw [Array.size_replicate]; omega)
    rw [Array.size_replicate] at hfmt
    change Calls Tryd.prog 38 _ _ _ at hfmt
    have HH0 := Lib.hid hH0
    clear hH0 hal
    go_enter Tryd.func24, Tryd.ntmps24
    go_wp2_with (first
      | (go_at_call 37; refine (c2 hu1 _ (htab.alloc _)).mono ?_; rintro e w' ⟨rfl, rfl⟩))
    go_at_call 38
    refine hfmt.mono ?_
    rintro e w' ⟨rfl, k, v', dk, rfl, hF⟩
    have hcv : (convert 42 9 (.slice (some ⟨w.heap.size, 0, none⟩) (Lib.nDigits u) 24)).run Tryd.prog ((putRow (fun (b : UInt8) => Value.int .u8 (b.toNat : Int)) (w.alloc (.cells Lib.zeros24 66)) w.heap.size 0 dk).drewN k) = .ok (.string ⟨(Lib.decDigits u).toArray⟩) ((putRow (fun (b : UInt8) => Value.int .u8 (b.toNat : Int)) (w.alloc (.cells Lib.zeros24 66)) w.heap.size 0 dk).drewN k) := by
      have h := run_convert_bytes_back (P := Tryd.prog) ((putRow (fun (b : UInt8) => Value.int .u8 (b.toNat : Int)) (w.alloc (.cells Lib.zeros24 66)) w.heap.size 0 dk).drewN k) 42 9 5 ⟨w.heap.size, 0, none⟩ 24 (Lib.decDigits u) (by kernel_rfl) (by kernel_rfl) (by kernel_rfl) (fun j hj => by
        rw [Lib.row_is_numeral hF j hj, Lib.add_plain, World.cell?_drewN]
        exact cell?_putRow (fun (b : UInt8) => Value.int .u8 (b.toNat : Int)) _ w.heap.size 0 _ dk HH0.out (by rw [hF.size, Array.size_replicate]) j (by rw [hF.size]; rw [Lib.decDigits_length] at hj; exact hj))
      rw [Lib.decDigits_length] at h
      exact h
    go_wp2
    go_ret
    have h1 : Below w.heap.size w (putRow (fun (b : UInt8) => Value.int .u8 (b.toNat : Int)) (Sort.ahead (w.alloc (.cells Lib.zeros24 66)) 0) w.heap.size 0 dk) := below_putRow ((Below.refl _ w).alloc (Nat.le_refl _) _) (Nat.le_refl _)
    exact ⟨rfl, ⟨h1.os, h1.tape, h1.output, h1.size, h1.block⟩⟩
theorem print_holds (u : Nat) (hu64 : u ≤ 18446744073709551615) (w : World) (htab : PowAt w) :
    Calls Tryd.prog 8 #[.int .u64 u] w fun e w' => e = .returned (.string ⟨(Lib.decDigits u).toArray⟩) ∧ Below w.heap.size w w' := by
  have cf := fmt_holds u (by omega) w htab
  have c2 : Calls Tryd.prog 18 #[.int .u64 u, .int .i64 10] w fun e w' => e = .returned (.string ⟨(Lib.decDigits u).toArray⟩) ∧ Below w.heap.size w w' := by
    go_enter Tryd.func18, Tryd.ntmps18
    go_wp2_with (go_at_call 24; refine cf.mono ?_; rintro e w' ⟨rfl, hb⟩)
    go_ret
    exact ⟨rfl, hb⟩
  go_enter Tryd.func8, Tryd.ntmps8
  go_wp2_with (go_at_call 18; refine c2.mono ?_; rintro e w' ⟨rfl, hb⟩)
  go_ret
  exact ⟨rfl, hb⟩
end Go.Proofs.YtphdlmmllahgkaaDoor.num
