/- StackOnce: however many workers push and pop, on however many nodes, and however their steps are done, the law returns true, and its arguments read as they did. No condition. What the cells, the walks and the deeds come to is plain law (SoPlain, SoPlay, SoEnd); the walks are run by the small machine at unknown numbers (SoW), and that a call sees nothing else (Vx31); the loom, the play, what is in the stack, and the law's own text are walked over that machine's semantics; the machine's answers are proved to be the model's. -/
import Derived.Test.YtldijnabgabehaaSoLaw
import Derived.Test.YtldijnabgabehaaVx19
import Derived.Test.YtldijnabgabehaaRows
import Derived.WalkKit
import Derived.ProofKit
import Derived.OpenShut
import Derived.ShutString
import Derived.ChangeOld
import Derived.ChangeArms
import Derived.Below
import Derived.Lib.SmallJoins
namespace Go.Proofs.Ytldijnabgabehaa.stackOnce
open Go Go.ChangeShapes Go.WideShapes Go.ChangeAt Go.RowKit Go.Joins Go.Deep Go.Vx
open Go.Proofs.Ytldijnabgabehaa.so (tblS stackOnce_ok tbl0 noT awake_run NH)
theorem no_ok [Val] : TblOk Try.prog noT := by intro f args M r M' h; cases h
theorem tblS_ok [Val] : TblOk Try.prog tblS := by
  refine tblOk_or (tblOk_lift fun f args r h => ?_) (frame_ok (callF_ok (drawSound Try.prog) no_ok codeOk 100000 60))
  unfold tbl0 at h
  split at h
  · rename_i hf
    subst hf
    cases args with
    | nil => cases h; exact closed_of no_ok codeOk rfl (awake_run Val.g) rfl rfl
    | cons a l => cases h
  · cases h
theorem walk {pa : Option Addr} {c : Nat} {picks : List Nat} (workers n : Int) (w : World) (hT : RdI (readG w) .u8 (.rslice pa picks.length c) picks.length (fun i => (picks.getD i 0 : Nat))) (hu : ∀ i, picks.getD i 0 < 256) :
    Calls Try.prog 3 #[.int .i64 workers, .int .i64 n, .slice pa picks.length c] w fun e w' => e = .returned (.bool true) ∧ Below w.heap.size w w' := by
  letI : Val := ⟨fun _ => 0, fun _ => undef, readG w⟩
  have hh : NH ⟨.nil, 0, readG w⟩ := fun b => by simp [AMem.get, Tr.get, isHeld]
  obtain ⟨r, M', hr, hrt⟩ := stackOnce_ok 0 (M := ⟨.nil, 0, readG w⟩) Okg.nil hh workers n hu hT
  subst hrt
  have h1 : (callF tblS code 100000 (0 + 6) 3 [.int .i64 workers, .int .i64 n, .rslice pa picks.length c] ⟨.nil, 0, readG w⟩).map (·.1) = some (.bool true) := by rw [hr]; rfl
  have hargs : concs (fun _ => none) [.int .i64 workers, .int .i64 n, .rslice pa picks.length c] = some [.int .i64 workers, .int .i64 n, .slice pa picks.length c] := by simp [concs, conc]
  refine ((closed_of tblS_ok codeOk rfl h1 hargs rfl (fun _ => none) w _ (readG_ro w rfl) hargs).2).mono ?_
  rintro e w' ⟨v, g1, g2, g3⟩
  simp only [conc, Option.some.injEq] at g2
  subst g2
  exact ⟨g1, g3⟩

/-! The row. -/
theorem own : ownKnob Try.prog.godebug = none := by kernel_rfl
theorem laidOut : laidOutB Try.prog = true := by kernel_rfl
/-- the picks, as they came in -/
theorem picks_of {H : Type} {enc : TypeId × Value → H} {W : World} {base : Nat} {spare : Nat → Bool} {held : Bool} {fuel : Nat} {v : Value} {x : DataW H × List MemPlace} (h : DataW.trod enc Try.prog W base spare held fuel 22 [v] = some x) :
    ∃ (pa : Option Addr) (c : Nat) (picks : List Nat), v = .slice pa picks.length c ∧ RdI (readG W) .u8 (.rslice pa picks.length c) picks.length (fun i => (picks.getD i 0 : Nat)) ∧ ∀ i, picks.getD i 0 < 256 := by
  rcases open_ints Try.underlying22 Try.underlying5 (by kernel_rfl) h with ⟨h0, _⟩ | ⟨a, len, cap, zs, hcs, hb, hl, hm, hlen, hx, hcell, hwf⟩
  · cases h0
    exact ⟨none, 0, [], rfl, ⟨none, 0, rfl, fun i hi => by simp at hi⟩, fun i => by simp⟩
  · cases hcs
    have hle : len ≤ zs.length := by rw [hlen]; split <;> omega
    have hz : ∀ z ∈ zs, 0 ≤ z ∧ z ≤ 255 := fun z hz => by
      have := hwf z hz
      simpa [Lit.wf, IntKind.min, IntKind.max, IntKind.signed, IntKind.bits] using this
    have hg : ∀ i, i < len → (((zs.take len).map Int.toNat).getD i 0 : Int) = zs.getD i 0 := fun i hi => by
      rw [List.getD_eq_getElem?_getD, List.getElem?_map, List.getElem?_take_of_lt hi, List.getD_eq_getElem?_getD, List.getElem?_eq_getElem (by omega)]
      have := hz _ (List.getElem_mem (show i < zs.length by omega))
      simp only [Option.map_some, Option.getD_some]
      omega
    have hl2 : ((zs.take len).map Int.toNat).length = len := by simp; omega
    refine ⟨some a, cap, (zs.take len).map Int.toNat, by rw [hl2], ⟨some a, cap, rfl, fun i hi => ⟨a, rfl, ?_⟩⟩, fun i => ?_⟩
    · rw [hl2] at hi
      refine (readG_at (hcell i (by omega)) rfl).trans ?_
      show some (AV.int .u8 (zs.getD i 0)) = some (AV.int .u8 (((zs.take len).map Int.toNat).getD i 0 : Nat))
      rw [hg i hi]
    · by_cases hi : i < len
      · have h1 := hg i hi
        have h2 := hz (zs.getD i 0) (by
          rw [List.getD_eq_getElem?_getD, List.getElem?_eq_getElem (by omega)]
          exact List.getElem_mem _)
        omega
      · rw [List.getD_eq_getElem?_getD, List.getElem?_eq_none (by omega)]
        decide
set_option maxRecDepth 100000 in
theorem lifted (os : Os) (started : os.Started) (H : Type) (enc : TypeId × Value → H) :
    ReturnsInHanded {} Try.checked os 3 .any (Ytldijnabgabehaa.Rows.stackOnceSpec.pre6 enc Try.prog Try.f3 Ytldijnabgabehaa.Rows.stackOnceRow.domain false) (Ytldijnabgabehaa.Rows.stackOnceSpec.post enc Try.prog Try.f3 false true false false) := by
  refine returnsInHanded_of_change (C := Try.checked) own started (by kernel_rfl) Try.func3
    (ChangeSpec.witness6 (enc := enc) (C := Try.checked) false ⟨#[], #[.int .i64 0, .int .i64 0, .slice none 0 0], []⟩ 8 (by kernel_rfl) (by kernel_rfl) (by kernel_rfl) (by kernel_rfl)) ?_
  intro W base args ds gs before hval0 hW hcnd _
  have hval : ∀ (j : Nat) t v, Try.f3.params[j]? = some t → args[j]? = some v → Value.okWide Try.prog W .any base t v := hval0
  have hW' := hW
  obtain ⟨p, q, hA0, hV, rfl, hfz, hnd⟩ := hW
  have hA : DataW.TrodAll enc Try.prog W 0 (fun _ => true) true Try.f3.params.toList args.toList ds p := hA0
  rw [Try.params3] at hA hval
  obtain ⟨v0, vs0, d0, ds0, p0, q0, hargs, rfl, rfl, h0, r0⟩ := trodAll_cons hA
  obtain ⟨v1, vs1, d1, ds1, p1, q1, rfl, rfl, rfl, h1, r1⟩ := trodAll_cons r0
  obtain ⟨v2, vs2, d2, ds2, p2, q2, rfl, rfl, rfl, h2, r2⟩ := trodAll_cons r1
  obtain ⟨rfl, rfl, rfl⟩ := trodAll_nil r2
  obtain rfl : args = #[v0, v1, v2] := by cases args; simp_all
  obtain ⟨rfl, rfl⟩ := trodVars_none hV
  have k0 := h0
  have k1 := h1
  have k2 := h2
  have lt0 : ∀ x ∈ p0, x.block < W.heap.size := by obtain ⟨m, hm⟩ := k0; exact DataW.trod_lt m _ _ _ hm
  have lt1 : ∀ x ∈ p1, x.block < W.heap.size := by obtain ⟨m, hm⟩ := k1; exact DataW.trod_lt m _ _ _ hm
  have lt2 : ∀ x ∈ p2, x.block < W.heap.size := by obtain ⟨m, hm⟩ := k2; exact DataW.trod_lt m _ _ _ hm
  obtain ⟨workers, rfl⟩ : ∃ k, v0 = .int .i64 k := okWide_int Try.underlying3 (hval 0 3 v0 rfl rfl)
  obtain ⟨n, rfl⟩ : ∃ k, v1 = .int .i64 k := okWide_int Try.underlying3 (hval 1 3 v1 rfl rfl)
  obtain ⟨pa0, n0, ca0, rfl⟩ := okWide_slice Try.underlying22 (hval 2 22 v2 rfl rfl)
  obtain ⟨m2, hm2⟩ := h2
  obtain ⟨pa, c, picks, ev, hT, hu⟩ := picks_of (v := .slice pa0 n0 ca0) hm2
  cases ev
  clear hA0 hval0
  refine (walk workers n W hT hu).mono fun e W' ⟨he, bel⟩ => ?_
  subst he
  exact ⟨_, rfl, _, _, _, [], _, [], hW', trodAll_mk1 (shut_bool Try.underlying4 _), (trodAll_cons_mk (Below.trod laidOut (by kernel_rfl) (of_decide_eq_true (by kernel_rfl)) k0 bel lt0) (trodAll_cons_mk (Below.trod laidOut (by kernel_rfl) (of_decide_eq_true (by kernel_rfl)) k1 bel lt1) (trodAll_cons_mk (Below.trod laidOut (by kernel_rfl) (of_decide_eq_true (by kernel_rfl)) k2 bel lt2) trodAll_mk0))), rfl, bel.frame _, fun h => by cases h⟩

theorem over : Ytldijnabgabehaa.Rows.stackOnceRow.holds Ytldijnabgabehaa.Try.pinned (OpenSpec.ofChange Ytldijnabgabehaa.Rows.stackOnceSpec) :=
  OpenClaim.holds_of_wide 3 Try.f3 rfl rfl rfl rfl rfl rfl rfl ⟨rfl, rfl, rfl, rfl, rfl⟩ rfl rfl rfl rfl rfl (by kernel_rfl) Try.func3 (by kernel_rfl)
    (of_decide_eq_true (by kernel_rfl)) (by unfold Func.isWrapper; first | (rw [if_pos (by decide +kernel)]; kernel_rfl) | (rw [if_neg (by decide +kernel)]; exact ⟨rfl, rfl⟩))
    (fun os started H enc _ => lifted os started H enc)

theorem proved : Ytldijnabgabehaa.Rows.StackOnceSaid := over
#print axioms proved
end Go.Proofs.Ytldijnabgabehaa.stackOnce
