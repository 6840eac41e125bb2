/- StatsCalls: whatever the events, the kind and the number, the law returns true, and they read as they did. No condition. The closed run of awake is run by the small machine; the law itself, and what it calls, are walked over that machine's semantics at unknown values, and proved to come to the same by plain reasoning about lists; the library's sort (in awake) by the kit's contract; the machine's answers are proved to be the model's. -/
import Derived.Test.YtoddncakdnmloaaScLaw
import Derived.Test.YtoddncakdnmloaaLdRow
import Derived.Test.YtoddncakdnmloaaStSorted
import Derived.Test.YtoddncakdnmloaaVx19
import Derived.Test.YtoddncakdnmloaaRows
import Derived.WalkKit
import Derived.ProofKit
import Derived.OpenShut
import Derived.ShutString
import Derived.ChangeOld
import Derived.Below
import Derived.Lib.SmallJoins
namespace Go.Proofs.Ytoddncakdnmloaa.statsCalls
open Go Go.ChangeShapes Go.WideShapes Go.ChangeAt Go.RowKit Go.Joins Go.Deep Go.Vx Go.Proofs.Ytoddncakdnmloaa.diary

theorem srt_ok [Val] : TblOk Try.prog stats.srt := sortedX_ok (T := 3) (hasBody_of Try.func22 (by kernel_rfl)) fun Bs bo sv zs hlen w hBs hc hI => stats.sorted_calls Bs bo sv zs hlen w hBs hc hI
theorem tbl_ok [Val] : TblOk Try.prog stats.tbl := by
  refine tblOk_or (tblOk_lift fun f args r h => ?_) srt_ok
  unfold stats.tbl0 at h
  split at h
  · rename_i hf
    subst hf
    cases args with
    | nil => cases h; exact closed_of srt_ok codeOk rfl (stats.awake_run Val.g) rfl rfl
    | cons a l => cases h
  · cases h
theorem walk {a : Option Addr} {n c : Nat} {k1 k2 : Int} {es : List Ev} (w : World) (hE : Evs (readG w) (.rslice a n c) es) :
    Calls Try.prog 5 #[.slice a n c, .int .i64 k1, .int .i64 k2] w fun e w' => e = .returned (.bool true) ∧ Below w.heap.size w w' := by
  letI : Val := ⟨fun _ => 0, fun _ => undef, readG w⟩
  obtain ⟨r, M', hr, hrt⟩ := statsCalls_ok 0 ⟨.nil, 0, readG w⟩ Okg.nil hE
  subst hrt
  have h1 : (callF tbl code 100000 (0 + 8) 5 [.rslice a n c, .int .i64 k1, .int .i64 k2] ⟨.nil, 0, readG w⟩).map (·.1) = some (.bool true) := by rw [hr]; rfl
  have hargs : concs (fun _ => none) [.rslice a n c, .int .i64 k1, .int .i64 k2] = some [.slice a n c, .int .i64 k1, .int .i64 k2] := by simp [concs, conc]
  refine ((closed_of tbl_ok codeOk rfl h1 hargs rfl (fun _ => none) w _ (readG_ro w rfl) hargs).2).mono ?_
  rintro e w' ⟨v, g1, g2, g3⟩
  simp only [conc, Option.some.injEq] at g2
  subst g2
  exact ⟨g1, g3⟩

/-! The row. -/
theorem own : ownKnob Try.prog.godebug = none := by kernel_rfl
theorem laidOut : laidOutB Try.prog = true := by kernel_rfl
theorem lay : ∃ f0 f1 f2 f3 f4 f5 g0 g1 g2 r0 r1 r2, EvT Try.prog 31 43 f0 f1 f2 f3 f4 f5 g0 g1 g2 r0 r1 r2 3 36 :=
  ⟨_, _, _, _, _, _, _, _, _, _, _, _, ⟨Try.underlying31, Try.underlying43, by kernel_rfl, ⟨rfl, rfl, rfl, rfl, rfl, rfl⟩, ⟨by kernel_rfl, by kernel_rfl, by kernel_rfl, by kernel_rfl, by kernel_rfl, by kernel_rfl⟩, Try.underlying3, Try.underlying3, Try.underlying3, Try.underlying4, Try.underlying38, Try.underlying41, by kernel_rfl, by kernel_rfl, Try.underlying3, Try.underlying36, Try.underlying22, Try.underlying33, Try.underlying36, Try.underlying39, Try.underlying3, by kernel_rfl, Try.underlying36, by kernel_rfl⟩⟩
set_option maxRecDepth 100000 in
theorem lifted (os : Os) (started : os.Started) (H : Type) (enc : TypeId × Value → H) :
    ReturnsInHanded {} Try.checked os 5 .any (Ytoddncakdnmloaa.Rows.statsCallsSpec.pre6 enc Try.prog Try.f5 Ytoddncakdnmloaa.Rows.statsCallsRow.domain false) (Ytoddncakdnmloaa.Rows.statsCallsSpec.post enc Try.prog Try.f5 false true false false) := by
  refine returnsInHanded_of_change (C := Try.checked) own started (by kernel_rfl) Try.func5
    (ChangeSpec.witness6 (enc := enc) (C := Try.checked) false ⟨#[], #[.slice none 0 0, .int .i64 0, .int .i64 0], []⟩ 8 (by kernel_rfl) (by kernel_rfl) (by kernel_rfl) (by kernel_rfl)) ?_
  intro W base args ds gs before hval0 hW hcnd _
  have hval : ∀ (j : Nat) t v, Try.f5.params[j]? = some t → args[j]? = some v → Value.okWide Try.prog W .any base t v := hval0
  have hW' := hW
  obtain ⟨p, q, hA0, hV, rfl, hfz, hnd⟩ := hW
  have hA : DataW.TrodAll enc Try.prog W 0 (fun _ => true) true Try.f5.params.toList args.toList ds p := hA0
  rw [Try.params5] at hA hval
  obtain ⟨v0, vs0, d0, ds0, p0, q0, hargs, rfl, rfl, h0, r0⟩ := trodAll_cons hA
  obtain ⟨v1, vs1, d1, ds1, p1, q1, rfl, rfl, rfl, h1, r1⟩ := trodAll_cons r0
  obtain ⟨v2, vs2, d2, ds2, p2, q2, rfl, rfl, rfl, h2, r2⟩ := trodAll_cons r1
  obtain ⟨rfl, rfl, rfl⟩ := trodAll_nil r2
  obtain rfl : args = #[v0, v1, v2] := by cases args; simp_all
  obtain ⟨rfl, rfl⟩ := trodVars_none hV
  have k0 := h0
  have k1 := h1
  have k2 := h2
  have lt0 : ∀ x ∈ p0, x.block < W.heap.size := by obtain ⟨m, hm⟩ := k0; exact DataW.trod_lt m _ _ _ hm
  have lt1 : ∀ x ∈ p1, x.block < W.heap.size := by obtain ⟨m, hm⟩ := k1; exact DataW.trod_lt m _ _ _ hm
  have lt2 : ∀ x ∈ p2, x.block < W.heap.size := by obtain ⟨m, hm⟩ := k2; exact DataW.trod_lt m _ _ _ hm
  obtain ⟨i1, rfl⟩ : ∃ k, v1 = .int .i64 k := okWide_int Try.underlying3 (hval 1 3 v1 rfl rfl)
  obtain ⟨i2, rfl⟩ : ∃ k, v2 = .int .i64 k := okWide_int Try.underlying3 (hval 2 3 v2 rfl rfl)
  obtain ⟨pa, n, ca, rfl⟩ := okWide_slice Try.underlying31 (hval 0 31 v0 rfl rfl)
  obtain ⟨m0, hm0⟩ := h0
  obtain ⟨f0, f1, f2, f3, f4, f5, g0, g1, g2, r0, r1, r2, T⟩ := lay
  obtain ⟨_, _, _, es, e1, hl, hc, hmx, hE⟩ := evs_of (v := .slice pa n ca) T hm0
  cases e1
  clear hA0 hval0
  refine (walk W hE).mono fun e W' ⟨he, bel⟩ => ?_
  subst he
  exact ⟨_, rfl, _, _, _, [], _, [], hW', trodAll_mk1 (shut_bool Try.underlying4 _), (trodAll_cons_mk (Below.trod laidOut (by kernel_rfl) (of_decide_eq_true (by kernel_rfl)) k0 bel lt0) (trodAll_cons_mk (Below.trod laidOut (by kernel_rfl) (of_decide_eq_true (by kernel_rfl)) k1 bel lt1) (trodAll_cons_mk (Below.trod laidOut (by kernel_rfl) (of_decide_eq_true (by kernel_rfl)) k2 bel lt2) trodAll_mk0))), rfl, bel.frame _, fun h => by cases h⟩

theorem over : Ytoddncakdnmloaa.Rows.statsCallsRow.holds Ytoddncakdnmloaa.Try.pinned (OpenSpec.ofChange Ytoddncakdnmloaa.Rows.statsCallsSpec) :=
  OpenClaim.holds_of_wide 5 Try.f5 rfl rfl rfl rfl rfl rfl rfl ⟨rfl, rfl, rfl, rfl, rfl⟩ rfl rfl rfl rfl rfl (by kernel_rfl) Try.func5 (by kernel_rfl)
    (of_decide_eq_true (by kernel_rfl)) (by unfold Func.isWrapper; first | (rw [if_pos (by decide +kernel)]; kernel_rfl) | (rw [if_neg (by decide +kernel)]; exact ⟨rfl, rfl⟩))
    (fun os started H enc _ => lifted os started H enc)

theorem proved : Ytoddncakdnmloaa.Rows.StatsCallsSaid := over
#print axioms proved
end Go.Proofs.Ytoddncakdnmloaa.statsCalls
