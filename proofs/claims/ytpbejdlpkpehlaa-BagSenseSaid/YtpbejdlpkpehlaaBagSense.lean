/- BagSense: whatever the spans, the law returns true, and they read as they did. No condition. The closed run of awake is run by the small machine; the loops over a map, which come in any order, are walked over the model's own code (Vx34); the law itself, and what else it calls, are walked over that machine's semantics at unknown values; that both ways of counting agree is plain law (BgPure); the machine's answers are proved to be the model's. -/
import Derived.Test.YtpbejdlpkpehlaaBgSenB
import Derived.Test.YtpbejdlpkpehlaaRows
import Derived.WalkKit
import Derived.ProofKit
import Derived.OpenShut
import Derived.ShutString
import Derived.ChangeOld
import Derived.Below
import Derived.Lib.SmallJoins
namespace Go.Proofs.Ytpbejdlpkpehlaa.bagSense
open Go Go.ChangeShapes Go.WideShapes Go.ChangeAt Go.RowKit Go.Joins Go.Deep Go.Vx Go.Proofs.Ytpbejdlpkpehlaa.bag

theorem walk {a : Option Addr} {n c : Nat} {sps : List Sp} (w : World) (hE : InSps (readG w) (.rslice a n c) sps) :
    Calls Try.prog 3 #[.slice a n c] w fun e w' => e = .returned (.bool true) ∧ Below w.heap.size w w' := by
  letI : Val := ⟨fun _ => 0, fun _ => undef, readG w⟩
  obtain ⟨r, M', hr, hrt⟩ := law_ok 0 ⟨.nil, 0, readG w⟩ Okg.nil hE
  subst hrt
  have h1 : (callF tbl code 100000 (0 + 5) 3 [.rslice a n c] ⟨.nil, 0, readG w⟩).map (·.1) = some (.bool true) := by rw [hr]; rfl
  have hargs : concs (fun _ => none) [.rslice a n c] = some [.slice a n c] := by simp [concs, conc]
  refine ((closed_of tbl_ok codeOk rfl h1 hargs rfl (fun _ => none) w _ (readG_ro w rfl) hargs).2).mono ?_
  rintro e w' ⟨v, g1, g2, g3⟩
  simp only [conc, Option.some.injEq] at g2
  subst g2
  exact ⟨g1, g3⟩

/-! The row. -/
theorem own : ownKnob Try.prog.godebug = none := by kernel_rfl
theorem laidOut : laidOutB Try.prog = true := by kernel_rfl
theorem lay : ∃ f0 f1 f2 f3 f4 f5 g0 g1 g2 r0 r1 r2, SpT Try.prog 22 38 f0 f1 f2 f3 f4 f5 g0 g1 g2 r0 r1 r2 3 29 :=
  ⟨_, _, _, _, _, _, _, _, _, _, _, _, ⟨Try.underlying22, Try.underlying38, by kernel_rfl, ⟨rfl, rfl, rfl, rfl, rfl, rfl⟩, ⟨by kernel_rfl, by kernel_rfl, by kernel_rfl, by kernel_rfl, by kernel_rfl, by kernel_rfl⟩, Try.underlying3, Try.underlying3, Try.underlying3, Try.underlying3, Try.underlying32, Try.underlying36, by kernel_rfl, by kernel_rfl, Try.underlying3, Try.underlying29, Try.underlying30, Try.underlying33, Try.underlying29, Try.underlying34, Try.underlying3, by kernel_rfl, Try.underlying29, by kernel_rfl⟩⟩
set_option maxRecDepth 100000 in
theorem lifted (os : Os) (started : os.Started) (H : Type) (enc : TypeId × Value → H) :
    ReturnsInHanded {} Try.checked os 3 .any (Ytpbejdlpkpehlaa.Rows.bagSenseSpec.pre6 enc Try.prog Try.f3 Ytpbejdlpkpehlaa.Rows.bagSenseRow.domain false) (Ytpbejdlpkpehlaa.Rows.bagSenseSpec.post enc Try.prog Try.f3 false true false false) := by
  refine returnsInHanded_of_change (C := Try.checked) own started (by kernel_rfl) Try.func3
    (ChangeSpec.witness6 (enc := enc) (C := Try.checked) false ⟨#[], #[.slice none 0 0], []⟩ 8 (by kernel_rfl) (by kernel_rfl) (by kernel_rfl) (by kernel_rfl)) ?_
  intro W base args ds gs before hval0 hW hcnd _
  have hval : ∀ (j : Nat) t v, Try.f3.params[j]? = some t → args[j]? = some v → Value.okWide Try.prog W .any base t v := hval0
  have hW' := hW
  obtain ⟨p, q, hA0, hV, rfl, hfz, hnd⟩ := hW
  have hA : DataW.TrodAll enc Try.prog W 0 (fun _ => true) true Try.f3.params.toList args.toList ds p := hA0
  rw [Try.params3] at hA hval
  obtain ⟨v0, vs0, d0, ds0, p0, q0, hargs, rfl, rfl, h0, r0⟩ := trodAll_cons hA
  obtain ⟨rfl, rfl, rfl⟩ := trodAll_nil r0
  obtain rfl : args = #[v0] := by cases args; simp_all
  obtain ⟨rfl, rfl⟩ := trodVars_none hV
  have k0 := h0
  have lt0 : ∀ x ∈ p0, x.block < W.heap.size := by obtain ⟨m, hm⟩ := k0; exact DataW.trod_lt m _ _ _ hm
  obtain ⟨pa, n, ca, rfl⟩ := okWide_slice Try.underlying22 (hval 0 22 v0 rfl rfl)
  obtain ⟨m0, hm0⟩ := h0
  obtain ⟨f0, f1, f2, f3, f4, f5, g0, g1, g2, r0, r1, r2, T⟩ := lay
  obtain ⟨_, _, _, sps, e1, hE⟩ := spans_of (v := .slice pa n ca) T hm0
  cases e1
  clear hA0 hval0
  refine (walk W hE).mono fun e W' ⟨he, bel⟩ => ?_
  subst he
  exact ⟨_, rfl, _, _, _, [], _, [], hW', trodAll_mk1 (shut_bool Try.underlying4 _), (trodAll_cons_mk (Below.trod laidOut (by kernel_rfl) (of_decide_eq_true (by kernel_rfl)) k0 bel lt0) trodAll_mk0), rfl, bel.frame _, fun h => by cases h⟩

theorem over : Ytpbejdlpkpehlaa.Rows.bagSenseRow.holds Ytpbejdlpkpehlaa.Try.pinned (OpenSpec.ofChange Ytpbejdlpkpehlaa.Rows.bagSenseSpec) :=
  OpenClaim.holds_of_wide 3 Try.f3 rfl rfl rfl rfl rfl rfl rfl ⟨rfl, rfl, rfl, rfl, rfl⟩ rfl rfl rfl rfl rfl (by kernel_rfl) Try.func3 (by kernel_rfl)
    (of_decide_eq_true (by kernel_rfl)) (by unfold Func.isWrapper; first | (rw [if_pos (by decide +kernel)]; kernel_rfl) | (rw [if_neg (by decide +kernel)]; exact ⟨rfl, rfl⟩))
    (fun os started H enc _ => lifted os started H enc)

theorem proved : Ytpbejdlpkpehlaa.Rows.BagSenseSaid := over
#print axioms proved
end Go.Proofs.Ytpbejdlpkpehlaa.bagSense
