/- TimerPlays: whatever the acts, the law returns true, and they read as they did. No condition. The library's SortFunc is met by the kit's contract; the closed run of awake is run by the small machine; the law itself, and what it calls (container/heap among it), are walked over that machine's semantics at unknown values, and proved to come to the same by plain reasoning about lists; the machine's answers are proved to be the model's. -/
import Derived.Test.YtbjipmhdncfodaaTpRowIn
import Derived.Test.YtbjipmhdncfodaaTpSort
import Derived.Test.YtbjipmhdncfodaaRows
import Derived.WalkKit
import Derived.ProofKit
import Derived.OpenShut
import Derived.ShutString
import Derived.ChangeOld
import Derived.Below
import Derived.Lib.SmallJoins
namespace Go.Proofs.Ytbjipmhdncfodaa.timerPlays
open Go Go.ChangeShapes Go.WideShapes Go.ChangeAt Go.RowKit Go.Joins Go.Deep Go.Vx Go.Proofs.Ytbjipmhdncfodaa.grf

theorem tbl_ok [Val] : TblOk Try.prog tbl := by
  refine tblOk_or (tblOk_lift fun f args r h => ?_) (tblOk_or colX_holds sortP_holds)
  unfold tbl0 at h
  split at h
  · rename_i hf
    subst hf
    cases args with
    | nil => cases h; exact closed_of (noTbl_ok _) codeOk rfl (awake_run Val.g) rfl rfl
    | cons a l => cases h
  · cases h
theorem walk {a : Option Addr} {n c : Nat} {xs : List Ac} (w : World) (h0 : ActsIn (readG w) (.rslice a n c) xs) :
    Calls Try.prog 4 #[.slice a n c] w fun e w' => e = .returned (.bool true) ∧ Below w.heap.size w w' := by
  letI : Val := ⟨fun _ => 0, fun _ => undef, readG w⟩
  obtain ⟨r, M', hr, hrt⟩ := timerPlays_ok 0 ⟨.nil, 0, readG w⟩ Okg.nil h0
  subst hrt
  have e1 : (callF tbl code 100000 (0 + 8) 4 [.rslice a n c] ⟨.nil, 0, readG w⟩).map (·.1) = some (.bool true) := by rw [hr]; rfl
  have hargs : concs (fun _ => none) [.rslice a n c] = some [.slice a n c] := by simp [concs, conc]
  refine ((closed_of tbl_ok codeOk rfl e1 hargs rfl (fun _ => none) w _ (readG_ro w rfl) hargs).2).mono ?_
  rintro e w' ⟨v, g1, g2, g3⟩
  simp only [conc, Option.some.injEq] at g2
  subst g2
  exact ⟨g1, g3⟩

/-! The row. -/
theorem own : ownKnob Try.prog.godebug = none := by kernel_rfl
theorem laidOut : laidOutB Try.prog = true := by kernel_rfl
theorem lay : ∃ f0 f1 f2 f3, AcT Try.prog 39 44 f0 f1 f2 f3 :=
  ⟨_, _, _, _, ⟨Try.underlying39, Try.underlying44, by kernel_rfl, ⟨rfl, rfl, rfl, rfl⟩, ⟨by kernel_rfl, by kernel_rfl, by kernel_rfl, by kernel_rfl⟩, Try.underlying5, Try.underlying2, Try.underlying30, Try.underlying3⟩⟩
set_option maxRecDepth 100000 in
theorem lifted (os : Os) (started : os.Started) (H : Type) (enc : TypeId × Value → H) :
    ReturnsInHanded {} Try.checked os 4 .any (Ytbjipmhdncfodaa.Rows.timerPlaysSpec.pre6 enc Try.prog Try.f4 Ytbjipmhdncfodaa.Rows.timerPlaysRow.domain false) (Ytbjipmhdncfodaa.Rows.timerPlaysSpec.post enc Try.prog Try.f4 false true false false) := by
  refine returnsInHanded_of_change (C := Try.checked) own started (by kernel_rfl) Try.func4
    (ChangeSpec.witness6 (enc := enc) (C := Try.checked) false ⟨#[], #[.slice none 0 0], []⟩ 8 (by kernel_rfl) (by kernel_rfl) (by kernel_rfl) (by kernel_rfl)) ?_
  intro W base args ds gs before hval0 hW hcnd _
  have hval : ∀ (j : Nat) t v, Try.f4.params[j]? = some t → args[j]? = some v → Value.okWide Try.prog W .any base t v := hval0
  have hW' := hW
  obtain ⟨p, q, hA0, hV, rfl, hfz, hnd⟩ := hW
  have hA : DataW.TrodAll enc Try.prog W 0 (fun _ => true) true Try.f4.params.toList args.toList ds p := hA0
  rw [Try.params4] at hA hval
  obtain ⟨v0, vs0, d0, ds0, p0, q0, hargs, rfl, rfl, h0, r0⟩ := trodAll_cons hA
  obtain ⟨rfl, rfl, rfl⟩ := trodAll_nil r0
  obtain rfl : args = #[v0] := by cases args; simp_all
  obtain ⟨rfl, rfl⟩ := trodVars_none hV
  have k0 := h0
  have lt0 : ∀ x ∈ p0, x.block < W.heap.size := by obtain ⟨m, hm⟩ := k0; exact DataW.trod_lt m _ _ _ hm
  obtain ⟨pa, n, ca, rfl⟩ := okWide_slice Try.underlying39 (hval 0 39 v0 rfl rfl)
  obtain ⟨m0, hm0⟩ := h0
  obtain ⟨f0, f1, f2, f3, T⟩ := lay
  obtain ⟨_, _, _, js, e0, hl, hE⟩ := acts_of (v := .slice pa n ca) T hm0
  cases e0
  clear hA0 hval0
  refine (walk W hE).mono fun e W' ⟨he, bel⟩ => ?_
  subst he
  exact ⟨_, rfl, _, _, _, [], _, [], hW', trodAll_mk1 (shut_bool Try.underlying4 _), trodAll_mk1 (Below.trod laidOut (by kernel_rfl) (of_decide_eq_true (by kernel_rfl)) k0 bel lt0), rfl, bel.frame _, fun h => by cases h⟩

theorem over : Ytbjipmhdncfodaa.Rows.timerPlaysRow.holds Ytbjipmhdncfodaa.Try.pinned (OpenSpec.ofChange Ytbjipmhdncfodaa.Rows.timerPlaysSpec) :=
  OpenClaim.holds_of_wide 4 Try.f4 rfl rfl rfl rfl rfl rfl rfl ⟨rfl, rfl, rfl, rfl, rfl⟩ rfl rfl rfl rfl rfl (by kernel_rfl) Try.func4 (by kernel_rfl)
    (of_decide_eq_true (by kernel_rfl)) (by unfold Func.isWrapper; first | (rw [if_pos (by decide +kernel)]; kernel_rfl) | (rw [if_neg (by decide +kernel)]; exact ⟨rfl, rfl⟩))
    (fun os started H enc _ => lifted os started H enc)

theorem proved : Ytbjipmhdncfodaa.Rows.TimerPlaysSaid := over
#print axioms proved
end Go.Proofs.Ytbjipmhdncfodaa.timerPlays
