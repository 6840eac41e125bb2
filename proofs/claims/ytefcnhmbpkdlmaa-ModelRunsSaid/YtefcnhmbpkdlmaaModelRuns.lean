/- ModelRuns: whatever the kind and the deeds, the law returns true, and they read as they did. No condition. The closed run of awake is run by the small machine; the law itself, and what it calls, are walked over that machine's semantics at unknown values; the machine's answers are proved to be the model's. -/
import Derived.Test.YtefcnhmbpkdlmaaMoAwake
import Derived.Test.YtefcnhmbpkdlmaaMoRuns
import Derived.Test.YtefcnhmbpkdlmaaVx19
import Derived.Test.YtefcnhmbpkdlmaaRows
import Derived.WalkKit
import Derived.ProofKit
import Derived.OpenShut
import Derived.ShutString
import Derived.ChangeOld
import Derived.Below
import Derived.Lib.SmallJoins
namespace Go.Proofs.Ytefcnhmbpkdlmaa.modelRuns
open Go Go.ChangeShapes Go.WideShapes Go.ChangeAt Go.RowKit Go.Joins Go.Deep Go.Vx Go.Proofs.Ytefcnhmbpkdlmaa.model

theorem tbl_ok [Val] : TblOk Try.prog tbl := by
  intro f args r h
  unfold tbl at h
  split at h
  · rename_i hf
    subst hf
    cases args with
    | nil => cases h; exact closed_of (noTbl_ok _) codeOk rfl (awake_run Val.g) rfl rfl
    | cons a l => cases h
  · cases h
theorem walk {k : Int} {pa : Option Addr} {n ca : Nat} {fa fb : Nat → Int} {fp : Nat → Bool} {fx fc : Nat → Int} (w : World) (hA : RdD (readG w) (.rslice pa n ca) n fa fb fp fx fc) :
    Calls Try.prog 4 #[.int .i64 k, .slice pa n ca] w fun e w' => e = .returned (.bool true) ∧ Below w.heap.size w w' := by
  letI : Val := ⟨fun _ => 0, fun _ => undef, readG w⟩
  obtain ⟨r, M', hr, hrt⟩ := lawruns_ok (k := k) 0 ⟨.nil, 0, readG w⟩ hA rfl Okg.nil
  subst hrt
  have h1 : (callF tbl code 100000 (0 + 6) 4 [.int .i64 k, .rslice pa n ca] ⟨.nil, 0, readG w⟩).map (·.1) = some (.bool true) := by rw [hr]; rfl
  have hargs : concs (fun _ => none) [.int .i64 k, .rslice pa n ca] = some [.int .i64 k, .slice pa n ca] := by
    simp [concs, conc]
  refine ((closed_of tbl_ok codeOk rfl h1 hargs rfl (fun _ => none) w _ (readG_ro w rfl) hargs).2).mono ?_
  rintro e w' ⟨v, g1, g2, g3⟩
  simp only [conc, Option.some.injEq] at g2
  subst g2
  exact ⟨g1, g3⟩

/-! What came in. -/
section
variable {H : Type} {enc : TypeId × Value → H} {P : Program} {w : World} {base : Nat} {spare : Nat → Bool} {held : Bool}
theorem rdD_of {t e ta tb tp tx tc : TypeId} {f0 f1 f2 f3 f4 : Field} {fuel : Nat} {v : Value} {x : DataW H × List MemPlace}
    (ht : P.underlying t = some (.slice e)) (he : P.underlying e = some (.struct #[f0, f1, f2, f3, f4])) (hone : oneCellFields P #[f0, f1, f2, f3, f4] = true) (hC : P.cellsOf e = 5)
    (h0 : f0.type = ta) (h1 : f1.type = tb) (h2 : f2.type = tp) (h3 : f3.type = tx) (h4 : f4.type = tc)
    (ua : P.underlying ta = some (.int .i64)) (ub : P.underlying tb = some (.int .i64)) (up : P.underlying tp = some .bool) (ux : P.underlying tx = some (.int .u64)) (uc : P.underlying tc = some (.int .i64))
    (h : DataW.trod enc P w base spare held fuel t [v] = some x) : ∃ a n c fa fb fp fx fc, v = .slice a n c ∧ RdD (readG w) (.rslice a n c) n fa fb fp fx fc := by
  subst h0; subst h1; subst h2; subst h3; subst h4
  rcases openRows ht he hone (by rw [hC]; rfl) h with h0 | ⟨a, len, cap, hcs, hl, hm, hi⟩
  · cases h0
    exact ⟨none, 0, 0, fun _ => 0, fun _ => 0, fun _ => false, fun _ => 0, fun _ => 0, rfl, none, 0, rfl, fun i hi => by omega⟩
  · cases hcs
    have key : ∀ i, ∃ (d : Int × Int × Bool × Int × Int), i < len → readG w (a.add (i * 5)) = some (.int .i64 d.1) ∧ readG w ((a.add (i * 5)).add 1) = some (.int .i64 d.2.1) ∧ readG w ((a.add (i * 5)).add 2) = some (.bool d.2.2.1) ∧ readG w ((a.add (i * 5)).add 3) = some (.int .u64 d.2.2.2.1) ∧ readG w ((a.add (i * 5)).add 4) = some (.int .i64 d.2.2.2.2) := by
      intro i
      by_cases hlt : i < len
      · obtain ⟨n, hf⟩ := hi i hlt
        obtain ⟨v0, y0, k0, t0⟩ := hf 0 f0 rfl
        obtain ⟨v1, y1, k1, t1⟩ := hf 1 f1 rfl
        obtain ⟨v2, y2, k2, t2⟩ := hf 2 f2 rfl
        obtain ⟨v3, y3, k3, t3⟩ := hf 3 f3 rfl
        obtain ⟨v4, y4, k4, t4⟩ := hf 4 f4 rfl
        obtain ⟨c0, e0, _, _⟩ := DataW.trod_int ua t0
        obtain ⟨c1, e1, _, _⟩ := DataW.trod_int ub t1
        obtain ⟨c2, e2, _⟩ := DataW.trod_bool up t2
        obtain ⟨c3, e3, _, _⟩ := DataW.trod_int ux t3
        obtain ⟨c4, e4, _, _⟩ := DataW.trod_int uc t4
        cases e0; cases e1; cases e2; cases e3; cases e4
        refine ⟨(c0, c1, c2, c3, c4), fun _ => ⟨readG_at k0 rfl, readG_at (v := .int .i64 c1) ?_ rfl, readG_at (v := .bool c2) ?_ rfl, readG_at (v := .int .u64 c3) ?_ rfl, readG_at (v := .int .i64 c4) ?_ rfl⟩⟩
        · rw [Go.Deep.add_add]; exact k1
        · rw [Go.Deep.add_add]; exact k2
        · rw [Go.Deep.add_add]; exact k3
        · rw [Go.Deep.add_add]; exact k4
      · exact ⟨(0, 0, false, 0, 0), fun h => absurd h hlt⟩
    exact ⟨some a, len, cap, fun i => (key i).choose.1, fun i => (key i).choose.2.1, fun i => (key i).choose.2.2.1, fun i => (key i).choose.2.2.2.1, fun i => (key i).choose.2.2.2.2, rfl, some a, cap, rfl, fun i hi => ⟨a, rfl, (key i).choose_spec hi⟩⟩
end

/-! The row. -/
theorem own : ownKnob Try.prog.godebug = none := by kernel_rfl
theorem laidOut : laidOutB Try.prog = true := by kernel_rfl
theorem cellsE : Try.prog.cellsOf 26 = 5 := by kernel_rfl
set_option maxRecDepth 100000 in
theorem lifted (os : Os) (started : os.Started) (H : Type) (enc : TypeId × Value → H) :
    ReturnsInHanded {} Try.checked os 4 .any (Ytefcnhmbpkdlmaa.Rows.modelRunsSpec.pre6 enc Try.prog Try.f4 Ytefcnhmbpkdlmaa.Rows.modelRunsRow.domain false) (Ytefcnhmbpkdlmaa.Rows.modelRunsSpec.post enc Try.prog Try.f4 false true false false) := by
  refine returnsInHanded_of_change (C := Try.checked) own started (by kernel_rfl) Try.func4
    (ChangeSpec.witness6 (enc := enc) (C := Try.checked) false ⟨#[], #[.int .i64 0, .slice none 0 0], []⟩ 8 (by kernel_rfl) (by kernel_rfl) (by kernel_rfl) (by kernel_rfl)) ?_
  intro W base args ds gs before hval0 hW hcnd _
  have hval : ∀ (j : Nat) t v, Try.f4.params[j]? = some t → args[j]? = some v → Value.okWide Try.prog W .any base t v := hval0
  have hW' := hW
  obtain ⟨p, q, hA0, hV, rfl, hfz, hnd⟩ := hW
  have hA : DataW.TrodAll enc Try.prog W 0 (fun _ => true) true Try.f4.params.toList args.toList ds p := hA0
  rw [Try.params4] at hA hval
  obtain ⟨v0, vs0, d0, ds0, p0, q0, hargs, rfl, rfl, h0, r0⟩ := trodAll_cons hA
  obtain ⟨v1, vs1, d1, ds1, p1, q1, rfl, rfl, rfl, h1, r1⟩ := trodAll_cons r0
  obtain ⟨rfl, rfl, rfl⟩ := trodAll_nil r1
  obtain rfl : args = #[v0, v1] := by cases args; simp_all
  obtain ⟨rfl, rfl⟩ := trodVars_none hV
  have k0 := h0
  have k1 := h1
  have lt0 : ∀ x ∈ p0, x.block < W.heap.size := by obtain ⟨m, hm⟩ := k0; exact DataW.trod_lt m _ _ _ hm
  have lt1 : ∀ x ∈ p1, x.block < W.heap.size := by obtain ⟨m, hm⟩ := k1; exact DataW.trod_lt m _ _ _ hm
  obtain ⟨k, rfl⟩ : ∃ k, v0 = .int .i64 k := okWide_int Try.underlying3 (hval 0 3 v0 rfl rfl)
  obtain ⟨pa, n, ca, rfl⟩ := okWide_slice Try.underlying32 (hval 1 32 v1 rfl rfl)
  obtain ⟨m1, hm1⟩ := h1
  obtain ⟨_, _, _, fa, fb, fp, fx, fc, e1, hR⟩ := rdD_of (v := .slice pa n ca) Try.underlying32 Try.underlying26 (by kernel_rfl) cellsE rfl rfl rfl rfl rfl Try.underlying3 Try.underlying3 Try.underlying4 Try.underlying23 Try.underlying24 hm1
  cases e1
  clear hA0 hval0
  refine (walk W hR).mono fun e W' ⟨he, bel⟩ => ?_
  subst he
  exact ⟨_, rfl, _, _, _, [], _, [], hW', trodAll_mk1 (shut_bool Try.underlying4 _), (trodAll_cons_mk (Below.trod laidOut (by kernel_rfl) (of_decide_eq_true (by kernel_rfl)) k0 bel lt0) (trodAll_cons_mk (Below.trod laidOut (by kernel_rfl) (of_decide_eq_true (by kernel_rfl)) k1 bel lt1) trodAll_mk0)), rfl, bel.frame _, fun h => by cases h⟩

theorem over : Ytefcnhmbpkdlmaa.Rows.modelRunsRow.holds Ytefcnhmbpkdlmaa.Try.pinned (OpenSpec.ofChange Ytefcnhmbpkdlmaa.Rows.modelRunsSpec) :=
  OpenClaim.holds_of_wide 4 Try.f4 rfl rfl rfl rfl rfl rfl rfl ⟨rfl, rfl, rfl, rfl, rfl⟩ rfl rfl rfl rfl rfl (by kernel_rfl) Try.func4 (by kernel_rfl)
    (of_decide_eq_true (by kernel_rfl)) (by unfold Func.isWrapper; first | (rw [if_pos (by decide +kernel)]; kernel_rfl) | (rw [if_neg (by decide +kernel)]; exact ⟨rfl, rfl⟩))
    (fun os started H enc _ => lifted os started H enc)

theorem proved : Ytefcnhmbpkdlmaa.Rows.ModelRunsSaid := over
#print axioms proved
end Go.Proofs.Ytefcnhmbpkdlmaa.modelRuns
