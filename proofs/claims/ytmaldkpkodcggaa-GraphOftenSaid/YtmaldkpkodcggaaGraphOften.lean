/- GraphOften: whatever the jobs and tasks, the law returns true, and they read as they did. No condition. The closed run of awake is run by the small machine; the law itself, and what it calls (container/heap among it), are walked over that machine's semantics at unknown values, and proved to come to the same by plain reasoning about lists; the machine's answers are proved to be the model's. -/
import Derived.Test.YtmaldkpkodcggaaGrLawO
import Derived.Test.YtmaldkpkodcggaaGrRow
import Derived.Test.YtmaldkpkodcggaaRows
import Derived.WalkKit
import Derived.ProofKit
import Derived.OpenShut
import Derived.ShutString
import Derived.ChangeOld
import Derived.Below
import Derived.Lib.SmallJoins
namespace Go.Proofs.Ytmaldkpkodcggaa.graphOften
open Go Go.ChangeShapes Go.WideShapes Go.ChangeAt Go.RowKit Go.Joins Go.Deep Go.Vx Go.Proofs.Ytmaldkpkodcggaa.grf

theorem tbl_ok [Val] : TblOk Try.prog tbl := by
  refine tblOk_lift fun f args r h => ?_
  unfold tbl0 at h
  split at h
  · rename_i hf
    subst hf
    cases args with
    | nil => cases h; exact closed_of (noTbl_ok _) codeOk rfl (awake_run Val.g) rfl rfl
    | cons a l => cases h
  · cases h
theorem walk {a a' : Option Addr} {n c n' c' : Nat} {js : List Jb} {ts : List Int} (w : World) (hE : JobsIn (readG w) (.rslice a n c) js) (hT : InRow (readG w) .u64 (.rslice a' n' c') ts) :
    Calls Try.prog 3 #[.slice a n c, .slice a' n' c'] w fun e w' => e = .returned (.bool true) ∧ Below w.heap.size w w' := by
  letI : Val := ⟨fun _ => 0, fun _ => undef, readG w⟩
  obtain ⟨r, M', hr, hrt⟩ := graphOften_ok 0 ⟨.nil, 0, readG w⟩ Okg.nil hE hT
  subst hrt
  have h1 : (callF tbl code 100000 (0 + 210) 3 [.rslice a n c, .rslice a' n' c'] ⟨.nil, 0, readG w⟩).map (·.1) = some (.bool true) := by rw [hr]; rfl
  have hargs : concs (fun _ => none) [.rslice a n c, .rslice a' n' c'] = some [.slice a n c, .slice a' n' c'] := by simp [concs, conc]
  refine ((closed_of tbl_ok codeOk rfl h1 hargs rfl (fun _ => none) w _ (readG_ro w rfl) hargs).2).mono ?_
  rintro e w' ⟨v, g1, g2, g3⟩
  simp only [conc, Option.some.injEq] at g2
  subst g2
  exact ⟨g1, g3⟩

/-! The row. -/
theorem own : ownKnob Try.prog.godebug = none := by kernel_rfl
theorem laidOut : laidOutB Try.prog = true := by kernel_rfl
theorem lay : ∃ f0 f1, JbT Try.prog 22 46 f0 f1 3 :=
  ⟨_, _, ⟨Try.underlying22, Try.underlying46, by kernel_rfl, ⟨rfl, rfl⟩, ⟨by kernel_rfl, by kernel_rfl⟩, Try.underlying44, Try.underlying32, Try.underlying3, by kernel_rfl⟩⟩
set_option maxRecDepth 100000 in
theorem lifted (os : Os) (started : os.Started) (H : Type) (enc : TypeId × Value → H) :
    ReturnsInHanded {} Try.checked os 3 .any (Ytmaldkpkodcggaa.Rows.graphOftenSpec.pre6 enc Try.prog Try.f3 Ytmaldkpkodcggaa.Rows.graphOftenRow.domain false) (Ytmaldkpkodcggaa.Rows.graphOftenSpec.post enc Try.prog Try.f3 false true false false) := by
  refine returnsInHanded_of_change (C := Try.checked) own started (by kernel_rfl) Try.func3
    (ChangeSpec.witness6 (enc := enc) (C := Try.checked) false ⟨#[], #[.slice none 0 0, .slice none 0 0], []⟩ 8 (by kernel_rfl) (by kernel_rfl) (by kernel_rfl) (by kernel_rfl)) ?_
  intro W base args ds gs before hval0 hW hcnd _
  have hval : ∀ (j : Nat) t v, Try.f3.params[j]? = some t → args[j]? = some v → Value.okWide Try.prog W .any base t v := hval0
  have hW' := hW
  obtain ⟨p, q, hA0, hV, rfl, hfz, hnd⟩ := hW
  have hA : DataW.TrodAll enc Try.prog W 0 (fun _ => true) true Try.f3.params.toList args.toList ds p := hA0
  rw [Try.params3] at hA hval
  obtain ⟨v0, vs0, d0, ds0, p0, q0, hargs, rfl, rfl, h0, r0⟩ := trodAll_cons hA
  obtain ⟨v1, vs1, d1, ds1, p1, q1, rfl, rfl, rfl, h1, r1⟩ := trodAll_cons r0
  obtain ⟨rfl, rfl, rfl⟩ := trodAll_nil r1
  obtain rfl : args = #[v0, v1] := by cases args; simp_all
  obtain ⟨rfl, rfl⟩ := trodVars_none hV
  have k0 := h0
  have k1 := h1
  have lt1 : ∀ x ∈ p1, x.block < W.heap.size := by obtain ⟨m, hm⟩ := k1; exact DataW.trod_lt m _ _ _ hm
  have lt0 : ∀ x ∈ p0, x.block < W.heap.size := by obtain ⟨m, hm⟩ := k0; exact DataW.trod_lt m _ _ _ hm
  obtain ⟨pa, n, ca, rfl⟩ := okWide_slice Try.underlying22 (hval 0 22 v0 rfl rfl)
  obtain ⟨m0, hm0⟩ := h0
  obtain ⟨f0, f1, T⟩ := lay
  obtain ⟨_, _, _, js, e1, hl, hc, hmx, hE⟩ := jobs_of (v := .slice pa n ca) T hm0
  cases e1
  obtain ⟨pa1, n1, ca1, rfl⟩ := okWide_slice Try.underlying23 (hval 1 23 v1 rfl rfl)
  obtain ⟨m1, hm1⟩ := h1
  obtain ⟨_, _, _, z, e2, hT, _⟩ := rdI_of (v := .slice pa1 n1 ca1) Try.underlying23 Try.underlying44 (by kernel_rfl) hm1
  cases e2
  clear hA0 hval0
  refine (walk W hE (inRow_of hT)).mono fun e W' ⟨he, bel⟩ => ?_
  subst he
  exact ⟨_, rfl, _, _, _, [], _, [], hW', trodAll_mk1 (shut_bool Try.underlying4 _), (trodAll_cons_mk (Below.trod laidOut (by kernel_rfl) (of_decide_eq_true (by kernel_rfl)) k0 bel lt0) (trodAll_cons_mk (Below.trod laidOut (by kernel_rfl) (of_decide_eq_true (by kernel_rfl)) k1 bel lt1) trodAll_mk0)), rfl, bel.frame _, fun h => by cases h⟩

theorem over : Ytmaldkpkodcggaa.Rows.graphOftenRow.holds Ytmaldkpkodcggaa.Try.pinned (OpenSpec.ofChange Ytmaldkpkodcggaa.Rows.graphOftenSpec) :=
  OpenClaim.holds_of_wide 3 Try.f3 rfl rfl rfl rfl rfl rfl rfl ⟨rfl, rfl, rfl, rfl, rfl⟩ rfl rfl rfl rfl rfl (by kernel_rfl) Try.func3 (by kernel_rfl)
    (of_decide_eq_true (by kernel_rfl)) (by unfold Func.isWrapper; first | (rw [if_pos (by decide +kernel)]; kernel_rfl) | (rw [if_neg (by decide +kernel)]; exact ⟨rfl, rfl⟩))
    (fun os started H enc _ => lifted os started H enc)

theorem proved : Ytmaldkpkodcggaa.Rows.GraphOftenSaid := over
#print axioms proved
end Go.Proofs.Ytmaldkpkodcggaa.graphOften
