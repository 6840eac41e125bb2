/- ModelApplies: whatever the kind, the numbers and the deed, the law returns true, and they read as they did. No condition. The closed run of awake is run by the small machine; the law itself, and what it calls, are walked over that machine's semantics at unknown values; the machine's answers are proved to be the model's. -/
import Derived.Test.YtefcnhmbpkdlmaaMoAwake
import Derived.Test.YtefcnhmbpkdlmaaMoLaw
import Derived.Test.YtefcnhmbpkdlmaaVx19
import Derived.Test.YtefcnhmbpkdlmaaRows
import Derived.WalkKit
import Derived.ProofKit
import Derived.OpenShut
import Derived.ShutString
import Derived.ChangeOld
import Derived.Below
import Derived.Lib.SmallJoins
namespace Go.Proofs.Ytefcnhmbpkdlmaa.modelApplies
open Go Go.ChangeShapes Go.WideShapes Go.ChangeAt Go.RowKit Go.Joins Go.Deep Go.Vx Go.Proofs.Ytefcnhmbpkdlmaa.model

theorem tbl_ok [Val] : TblOk Try.prog tbl := by
  intro f args r h
  unfold tbl at h
  split at h
  · rename_i hf
    subst hf
    cases args with
    | nil => cases h; exact closed_of (noTbl_ok _) codeOk rfl (awake_run Val.g) rfl rfl
    | cons a l => cases h
  · cases h
theorem row_of {M : AMem} {G : Addr → Option AV} {a : Option Addr} {n c : Nat} {f : Nat → Int} (h : RdI G .u64 (.rslice a n c) n f) (hg : M.g = G) : Row M (.rslice a n c) ((List.range n).map f) := by
  obtain ⟨a', c', he, h⟩ := h
  cases he
  refine .inl ⟨a, c, by simp, fun i hi => ?_⟩
  rw [List.length_map, List.length_range] at hi
  obtain ⟨p, h1, h2⟩ := h i hi
  exact ⟨p, h1, by rw [hg, h2]; simp [U, hi]⟩
theorem walk {k a b x cd : Int} {put : Bool} {pa : Option Addr} {n ca : Nat} {f : Nat → Int} (w : World) (hA : RdI (readG w) .u64 (.rslice pa n ca) n f) (hw : n ≤ ca) :
    Calls Try.prog 3 #[.int .i64 k, .slice pa n ca, .agg #[.int .i64 a, .int .i64 b, .bool put, .int .u64 x, .int .i64 cd]] w fun e w' => e = .returned (.bool true) ∧ Below w.heap.size w w' := by
  letI : Val := ⟨fun _ => 0, fun _ => undef, readG w⟩
  obtain ⟨r, M', hr, hrt⟩ := applies_ok (k := k) (c0 := .int .i64 a) (c1 := .int .i64 b) (x := x) (cd := cd) (put := put) 0 ⟨.nil, 0, readG w⟩ (row_of hA rfl) hw Okg.nil
  subst hrt
  have h1 : (callF tbl code 100000 (0 + 5) 3 [.int .i64 k, .rslice pa n ca, .agg [.int .i64 a, .int .i64 b, .bool put, .int .u64 x, .int .i64 cd]] ⟨.nil, 0, readG w⟩).map (·.1) = some (.bool true) := by rw [hr]; rfl
  have hargs : concs (fun _ => none) [.int .i64 k, .rslice pa n ca, .agg [.int .i64 a, .int .i64 b, .bool put, .int .u64 x, .int .i64 cd]] = some [.int .i64 k, .slice pa n ca, .agg #[.int .i64 a, .int .i64 b, .bool put, .int .u64 x, .int .i64 cd]] := by
    simp [concs, conc]
  refine ((closed_of tbl_ok codeOk rfl h1 hargs rfl (fun _ => none) w _ (readG_ro w rfl) hargs).2).mono ?_
  rintro e w' ⟨v, g1, g2, g3⟩
  simp only [conc, Option.some.injEq] at g2
  subst g2
  exact ⟨g1, g3⟩

/-! What came in. -/
section
variable {H : Type} {enc : TypeId × Value → H} {P : Program} {w : World} {base : Nat} {spare : Nat → Bool} {held : Bool}
theorem rdI_wide {t e : TypeId} {k : IntKind} {fuel : Nat} {v : Value} {x : DataW H × List MemPlace} (ht : P.underlying t = some (.slice e)) (he : P.underlying e = some (.int k)) (hc : P.cellsOf e = 1)
    (h : DataW.trod enc P w base spare held fuel t [v] = some x) : ∃ a n c f, v = .slice a n c ∧ RdI (readG w) k (.rslice a n c) n f ∧ n ≤ c := by
  rcases open_ints ht he hc h with ⟨h0, _⟩ | ⟨a, len, cap, zs, hcs, hb, hl, hm, hlen, hx, hcell, hwf⟩
  · cases h0
    exact ⟨none, 0, 0, fun _ => 0, rfl, ⟨none, 0, rfl, fun i hi => by omega⟩, Nat.le_refl _⟩
  · cases hcs
    refine ⟨some a, len, cap, fun i => zs.getD i 0, rfl, ⟨some a, cap, rfl, fun i hi => ⟨a, rfl, readG_at (hcell i (by rw [hlen]; split <;> omega)) rfl⟩⟩, hl⟩
theorem open_agg5 {r : Reach} {b0 : Nat} {t : TypeId} {f0 f1 f2 f3 f4 : Field} {v : Value} {d : DataW H} {p : List MemPlace} (hs : P.underlying t = some (.struct #[f0, f1, f2, f3, f4])) (hone : oneCellFields P #[f0, f1, f2, f3, f4] = true) (hC : P.cellsOf t = 5)
    (hv : Value.okWide P w r b0 t v) (h : DataW.Trod enc P w base spare held t v d p) :
    ∃ (v0 v1 v2 v3 v4 : Value) (y0 y1 y2 y3 y4 : DataW H × List MemPlace) (n : Nat), v = .agg #[v0, v1, v2, v3, v4] ∧
      DataW.trod enc P w base spare held n f0.type [v0] = some y0 ∧ DataW.trod enc P w base spare held n f1.type [v1] = some y1 ∧ DataW.trod enc P w base spare held n f2.type [v2] = some y2 ∧ DataW.trod enc P w base spare held n f3.type [v3] = some y3 ∧ DataW.trod enc P w base spare held n f4.type [v4] = some y4 := by
  obtain ⟨cs, rfl, hsz⟩ := okWide_struct hs hv
  rw [hC] at hsz
  obtain ⟨l⟩ := cs
  match l, hsz with
  | [v0, v1, v2, v3, v4], _ =>
    obtain ⟨fuel, hf⟩ := h
    obtain ⟨xs, n, _, _, hl, hlen, hf⟩ := DataW.trod_struct hs hf
    match xs, hlen with
    | [y0, y1, y2, y3, y4], _ =>
      obtain ⟨o0, k0⟩ := hone_of hone 0 f0 rfl
      obtain ⟨o1, k1⟩ := hone_of hone 1 f1 rfl
      obtain ⟨o2, k2⟩ := hone_of hone 2 f2 rfl
      obtain ⟨o3, k3⟩ := hone_of hone 3 f3 rfl
      obtain ⟨o4, k4⟩ := hone_of hone 4 f4 rfl
      exact ⟨v0, v1, v2, v3, v4, y0, y1, y2, y3, y4, n, rfl, by simpa [Value.cells, o0, k0] using hf 0 f0 rfl, by simpa [Value.cells, o1, k1] using hf 1 f1 rfl, by simpa [Value.cells, o2, k2] using hf 2 f2 rfl, by simpa [Value.cells, o3, k3] using hf 3 f3 rfl, by simpa [Value.cells, o4, k4] using hf 4 f4 rfl⟩
end

/-! The row. -/
theorem own : ownKnob Try.prog.godebug = none := by kernel_rfl
theorem laidOut : laidOutB Try.prog = true := by kernel_rfl
theorem cells26 : Try.prog.cellsOf 26 = 5 := by kernel_rfl
theorem cells23 : Try.prog.cellsOf 23 = 1 := by kernel_rfl
set_option maxRecDepth 100000 in
theorem lifted (os : Os) (started : os.Started) (H : Type) (enc : TypeId × Value → H) :
    ReturnsInHanded {} Try.checked os 3 .any (Ytefcnhmbpkdlmaa.Rows.modelAppliesSpec.pre6 enc Try.prog Try.f3 Ytefcnhmbpkdlmaa.Rows.modelAppliesRow.domain false) (Ytefcnhmbpkdlmaa.Rows.modelAppliesSpec.post enc Try.prog Try.f3 false true false false) := by
  refine returnsInHanded_of_change (C := Try.checked) own started (by kernel_rfl) Try.func3
    (ChangeSpec.witness6 (enc := enc) (C := Try.checked) false ⟨#[], #[.int .i64 0, .slice none 0 0, .agg #[.int .i64 0, .int .i64 0, .bool false, .int .u64 0, .int .i64 0]], []⟩ 8 (by kernel_rfl) (by kernel_rfl) (by kernel_rfl) (by kernel_rfl)) ?_
  intro W base args ds gs before hval0 hW hcnd _
  have hval : ∀ (j : Nat) t v, Try.f3.params[j]? = some t → args[j]? = some v → Value.okWide Try.prog W .any base t v := hval0
  have hW' := hW
  obtain ⟨p, q, hA0, hV, rfl, hfz, hnd⟩ := hW
  have hA : DataW.TrodAll enc Try.prog W 0 (fun _ => true) true Try.f3.params.toList args.toList ds p := hA0
  rw [Try.params3] at hA hval
  obtain ⟨v0, vs0, d0, ds0, p0, q0, hargs, rfl, rfl, h0, r0⟩ := trodAll_cons hA
  obtain ⟨v1, vs1, d1, ds1, p1, q1, rfl, rfl, rfl, h1, r1⟩ := trodAll_cons r0
  obtain ⟨v2, vs2, d2, ds2, p2, q2, rfl, rfl, rfl, h2, r2⟩ := trodAll_cons r1
  obtain ⟨rfl, rfl, rfl⟩ := trodAll_nil r2
  obtain rfl : args = #[v0, v1, v2] := by cases args; simp_all
  obtain ⟨rfl, rfl⟩ := trodVars_none hV
  have k0 := h0
  have k1 := h1
  have k2 := h2
  have lt0 : ∀ x ∈ p0, x.block < W.heap.size := by obtain ⟨m, hm⟩ := k0; exact DataW.trod_lt m _ _ _ hm
  have lt1 : ∀ x ∈ p1, x.block < W.heap.size := by obtain ⟨m, hm⟩ := k1; exact DataW.trod_lt m _ _ _ hm
  have lt2 : ∀ x ∈ p2, x.block < W.heap.size := by obtain ⟨m, hm⟩ := k2; exact DataW.trod_lt m _ _ _ hm
  obtain ⟨c0, c1, c2, c3, c4, y0, y1, y2, y3, y4, m, rfl, hy0, hy1, hy2, hy3, hy4⟩ := open_agg5 Try.underlying26 (by kernel_rfl) cells26 (hval 2 26 v2 rfl rfl) h2
  obtain ⟨n0, e0, _, w0⟩ := DataW.trod_int Try.underlying3 hy0
  obtain ⟨n1, e1, _, w1⟩ := DataW.trod_int Try.underlying3 hy1
  obtain ⟨n2, e2, _⟩ := DataW.trod_bool Try.underlying4 hy2
  obtain ⟨n3, e3, _, w3⟩ := DataW.trod_int Try.underlying23 hy3
  obtain ⟨n4, e4, _, w4⟩ := DataW.trod_int Try.underlying24 hy4
  cases e0; cases e1; cases e2; cases e3; cases e4
  obtain ⟨pa, n, ca, rfl⟩ := okWide_slice Try.underlying22 (hval 1 22 v1 rfl rfl)
  obtain ⟨k, rfl⟩ : ∃ k, v0 = .int .i64 k := okWide_int Try.underlying3 (hval 0 3 v0 rfl rfl)
  obtain ⟨m1, hm1⟩ := h1
  obtain ⟨_, _, _, f, e1, hR, hw⟩ := rdI_wide (v := .slice pa n ca) Try.underlying22 Try.underlying23 cells23 hm1
  cases e1
  clear hA0 hval0
  refine (walk W hR hw).mono fun e W' ⟨he, bel⟩ => ?_
  subst he
  exact ⟨_, rfl, _, _, _, [], _, [], hW', trodAll_mk1 (shut_bool Try.underlying4 _), (trodAll_cons_mk (Below.trod laidOut (by kernel_rfl) (of_decide_eq_true (by kernel_rfl)) k0 bel lt0) (trodAll_cons_mk (Below.trod laidOut (by kernel_rfl) (of_decide_eq_true (by kernel_rfl)) k1 bel lt1) (trodAll_cons_mk (Below.trod laidOut (by kernel_rfl) (of_decide_eq_true (by kernel_rfl)) k2 bel lt2) trodAll_mk0))), rfl, bel.frame _, fun h => by cases h⟩

theorem over : Ytefcnhmbpkdlmaa.Rows.modelAppliesRow.holds Ytefcnhmbpkdlmaa.Try.pinned (OpenSpec.ofChange Ytefcnhmbpkdlmaa.Rows.modelAppliesSpec) :=
  OpenClaim.holds_of_wide 3 Try.f3 rfl rfl rfl rfl rfl rfl rfl ⟨rfl, rfl, rfl, rfl, rfl⟩ rfl rfl rfl rfl rfl (by kernel_rfl) Try.func3 (by kernel_rfl)
    (of_decide_eq_true (by kernel_rfl)) (by unfold Func.isWrapper; first | (rw [if_pos (by decide +kernel)]; kernel_rfl) | (rw [if_neg (by decide +kernel)]; exact ⟨rfl, rfl⟩))
    (fun os started H enc _ => lifted os started H enc)

theorem proved : Ytefcnhmbpkdlmaa.Rows.ModelAppliesSaid := over
#print axioms proved
end Go.Proofs.Ytefcnhmbpkdlmaa.modelApplies
