/- TimerOnce: whatever the times, drops and looks, the law returns true, and they read as they did. No condition. The closed run of awake is run by the small machine; the law itself, and what it calls (container/heap among it), are walked over that machine's semantics at unknown values, and proved to come to the same by plain reasoning about lists; the machine's answers are proved to be the model's. -/
import Derived.Test.YtbjipmhdncfodaaTmLaw
import Derived.Test.YtbjipmhdncfodaaVx19
import Derived.Test.YtbjipmhdncfodaaRows
import Derived.WalkKit
import Derived.ProofKit
import Derived.OpenShut
import Derived.ShutString
import Derived.ChangeOld
import Derived.Below
import Derived.Lib.SmallJoins
namespace Go.Proofs.Ytbjipmhdncfodaa.timerOnce
open Go Go.ChangeShapes Go.WideShapes Go.ChangeAt Go.RowKit Go.Joins Go.Deep Go.Vx Go.Proofs.Ytbjipmhdncfodaa.grf

theorem inRow_of {G : Addr → Option AV} {k : IntKind} {a : Option Addr} {n c : Nat} {f : Nat → Int} (h : RdI G k (.rslice a n c) n f) (M : AMem) (hM : M.g = G) : IRow M k (.rslice a n c) ((List.range n).map f) := by
  obtain ⟨a', c', he, h⟩ := h
  cases he
  refine ⟨els_one, .inl ⟨a, c, by simp, fun j hj => ?_⟩⟩
  have hj' : j < n := by simpa using hj
  obtain ⟨p, h1, h2⟩ := h j hj'
  refine ⟨p, h1, ?_⟩
  rw [hM, h2, flat_one]
  simp [hj']
theorem tbl_ok [Val] : TblOk Try.prog tbl := by
  refine tblOk_lift fun f args r h => ?_
  unfold tbl0 at h
  split at h
  · rename_i hf
    subst hf
    cases args with
    | nil => cases h; exact closed_of (noTbl_ok _) codeOk rfl (awake_run Val.g) rfl rfl
    | cons a l => cases h
  · cases h
theorem walk {a0 a1 a2 : Option Addr} {n0 c0 n1 c1 n2 c2 : Nat} {f0 f1 f2 : Nat → Int} (w : World) (h0 : RdI (readG w) .i64 (.rslice a0 n0 c0) n0 f0) (h1 : RdI (readG w) .i64 (.rslice a1 n1 c1) n1 f1) (h2 : RdI (readG w) .i64 (.rslice a2 n2 c2) n2 f2) :
    Calls Try.prog 3 #[.slice a0 n0 c0, .slice a1 n1 c1, .slice a2 n2 c2] w fun e w' => e = .returned (.bool true) ∧ Below w.heap.size w w' := by
  letI : Val := ⟨fun _ => 0, fun _ => undef, readG w⟩
  obtain ⟨r, M', hr, hrt⟩ := timerOnce_ok 0 ⟨.nil, 0, readG w⟩ Okg.nil (inRow_of h0 _ rfl) (inRow_of h1 _ rfl) (inRow_of h2 _ rfl)
  subst hrt
  have e1 : (callF tbl code 100000 (0 + 8) 3 [.rslice a0 n0 c0, .rslice a1 n1 c1, .rslice a2 n2 c2] ⟨.nil, 0, readG w⟩).map (·.1) = some (.bool true) := by rw [hr]; rfl
  have hargs : concs (fun _ => none) [.rslice a0 n0 c0, .rslice a1 n1 c1, .rslice a2 n2 c2] = some [.slice a0 n0 c0, .slice a1 n1 c1, .slice a2 n2 c2] := by simp [concs, conc]
  refine ((closed_of tbl_ok codeOk rfl e1 hargs rfl (fun _ => none) w _ (readG_ro w rfl) hargs).2).mono ?_
  rintro e w' ⟨v, g1, g2, g3⟩
  simp only [conc, Option.some.injEq] at g2
  subst g2
  exact ⟨g1, g3⟩

/-! The row. -/
theorem own : ownKnob Try.prog.godebug = none := by kernel_rfl
theorem laidOut : laidOutB Try.prog = true := by kernel_rfl
set_option maxRecDepth 100000 in
theorem lifted (os : Os) (started : os.Started) (H : Type) (enc : TypeId × Value → H) :
    ReturnsInHanded {} Try.checked os 3 .any (Ytbjipmhdncfodaa.Rows.timerOnceSpec.pre6 enc Try.prog Try.f3 Ytbjipmhdncfodaa.Rows.timerOnceRow.domain false) (Ytbjipmhdncfodaa.Rows.timerOnceSpec.post enc Try.prog Try.f3 false true false false) := by
  refine returnsInHanded_of_change (C := Try.checked) own started (by kernel_rfl) Try.func3
    (ChangeSpec.witness6 (enc := enc) (C := Try.checked) false ⟨#[], #[.slice none 0 0, .slice none 0 0, .slice none 0 0], []⟩ 8 (by kernel_rfl) (by kernel_rfl) (by kernel_rfl) (by kernel_rfl)) ?_
  intro W base args ds gs before hval0 hW hcnd _
  have hval : ∀ (j : Nat) t v, Try.f3.params[j]? = some t → args[j]? = some v → Value.okWide Try.prog W .any base t v := hval0
  have hW' := hW
  obtain ⟨p, q, hA0, hV, rfl, hfz, hnd⟩ := hW
  have hA : DataW.TrodAll enc Try.prog W 0 (fun _ => true) true Try.f3.params.toList args.toList ds p := hA0
  rw [Try.params3] at hA hval
  obtain ⟨v0, vs0, d0, ds0, p0, q0, hargs, rfl, rfl, h0, r0⟩ := trodAll_cons hA
  obtain ⟨v1, vs1, d1, ds1, p1, q1, rfl, rfl, rfl, h1, r1⟩ := trodAll_cons r0
  obtain ⟨v2, vs2, d2, ds2, p2, q2, rfl, rfl, rfl, h2, r2⟩ := trodAll_cons r1
  obtain ⟨rfl, rfl, rfl⟩ := trodAll_nil r2
  obtain rfl : args = #[v0, v1, v2] := by cases args; simp_all
  obtain ⟨rfl, rfl⟩ := trodVars_none hV
  have k0 := h0
  have k1 := h1
  have k2 := h2
  have lt2 : ∀ x ∈ p2, x.block < W.heap.size := by obtain ⟨m, hm⟩ := k2; exact DataW.trod_lt m _ _ _ hm
  have lt1 : ∀ x ∈ p1, x.block < W.heap.size := by obtain ⟨m, hm⟩ := k1; exact DataW.trod_lt m _ _ _ hm
  have lt0 : ∀ x ∈ p0, x.block < W.heap.size := by obtain ⟨m, hm⟩ := k0; exact DataW.trod_lt m _ _ _ hm
  obtain ⟨pa0, n0, ca0, rfl⟩ := okWide_slice Try.underlying22 (hval 0 22 v0 rfl rfl)
  obtain ⟨m0, hm0⟩ := h0
  obtain ⟨_, _, _, z0, e0, hT0, _⟩ := rdI_of (v := .slice pa0 n0 ca0) Try.underlying22 Try.underlying2 (by kernel_rfl) hm0
  cases e0
  obtain ⟨pa1, n1, ca1, rfl⟩ := okWide_slice Try.underlying23 (hval 1 23 v1 rfl rfl)
  obtain ⟨m1, hm1⟩ := h1
  obtain ⟨_, _, _, z1, e1, hT1, _⟩ := rdI_of (v := .slice pa1 n1 ca1) Try.underlying23 Try.underlying3 (by kernel_rfl) hm1
  cases e1
  obtain ⟨pa2, n2, ca2, rfl⟩ := okWide_slice Try.underlying22 (hval 2 22 v2 rfl rfl)
  obtain ⟨m2, hm2⟩ := h2
  obtain ⟨_, _, _, z2, e2, hT2, _⟩ := rdI_of (v := .slice pa2 n2 ca2) Try.underlying22 Try.underlying2 (by kernel_rfl) hm2
  cases e2
  clear hA0 hval0
  refine (walk W hT0 hT1 hT2).mono fun e W' ⟨he, bel⟩ => ?_
  subst he
  exact ⟨_, rfl, _, _, _, [], _, [], hW', trodAll_mk1 (shut_bool Try.underlying4 _), (trodAll_cons_mk (Below.trod laidOut (by kernel_rfl) (of_decide_eq_true (by kernel_rfl)) k0 bel lt0) (trodAll_cons_mk (Below.trod laidOut (by kernel_rfl) (of_decide_eq_true (by kernel_rfl)) k1 bel lt1) (trodAll_cons_mk (Below.trod laidOut (by kernel_rfl) (of_decide_eq_true (by kernel_rfl)) k2 bel lt2) trodAll_mk0))), rfl, bel.frame _, fun h => by cases h⟩

theorem over : Ytbjipmhdncfodaa.Rows.timerOnceRow.holds Ytbjipmhdncfodaa.Try.pinned (OpenSpec.ofChange Ytbjipmhdncfodaa.Rows.timerOnceSpec) :=
  OpenClaim.holds_of_wide 3 Try.f3 rfl rfl rfl rfl rfl rfl rfl ⟨rfl, rfl, rfl, rfl, rfl⟩ rfl rfl rfl rfl rfl (by kernel_rfl) Try.func3 (by kernel_rfl)
    (of_decide_eq_true (by kernel_rfl)) (by unfold Func.isWrapper; first | (rw [if_pos (by decide +kernel)]; kernel_rfl) | (rw [if_neg (by decide +kernel)]; exact ⟨rfl, rfl⟩))
    (fun os started H enc _ => lifted os started H enc)

theorem proved : Ytbjipmhdncfodaa.Rows.TimerOnceSaid := over
#print axioms proved
end Go.Proofs.Ytbjipmhdncfodaa.timerOnce
