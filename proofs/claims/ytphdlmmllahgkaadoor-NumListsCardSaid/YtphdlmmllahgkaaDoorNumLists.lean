/- NumLists: whatever the numbers and the text, the law returns true, and they read as they did. Conditions: the package variables of the row hold what their texts lay into them (the card ties them): the powers of ten and ErrRange are read of them. num.Read and num.Print are the kit's contracts joined (NuRead, NuPrint); num.Words is walked in the model (NlRange, NlSplit, NlWd); the rest is walked over the small machine's semantics in a proof (NlRef, NlWords, NlSame, NlLaw). -/
import Derived.Test.YtphdlmmllahgkaaDoorNlLaw
import Derived.Test.YtphdlmmllahgkaaDoorNlJoin
import Derived.Test.YtphdlmmllahgkaaDoorCards
import Derived.Test.YtphdlmmllahgkaaDoorTie
import Derived.WalkKit
import Derived.ProofKit
import Derived.LaidMore
import Derived.Lay
import Derived.LaidSub
import Derived.LaidLaws
import Derived.OpenShut
import Derived.ShutString
import Derived.ChangeOld
import Derived.ChangeSlices
import Derived.ChangeArms
import Derived.Below
import Derived.Stop.Joined
import Derived.SevenTiedAt
import Derived.Lib.LaidTab
import Derived.Deep.Slices
import Derived.Lib.SmallJoins
namespace Go.Proofs.YtphdlmmllahgkaaDoor.numLists
open Go Go.ChangeShapes Go.WideShapes Go.ChangeAt Go.RowKit Go.Joins Go.Vx Go.Lib
open Go.Proofs.YtphdlmmllahgkaaDoor.num (SB tbl tblW_ok numLists_ok PowAt cell_lt)
open Go.Proofs.YtphdlmmllahgkaaDoor

/-! What is read of the world: as readG, and an interface that holds a pointer. -/
def ofN : Value → Option AV
  | .iface t (.pointer p) => some (.iface t (.rptr p))
  | v => ofR v
theorem ofN_conc [Val] {e : Env} {v : Value} {a : AV} (h : ofN v = some a) : conc e a = some v := by
  unfold ofN at h
  split at h
  · cases h; simp [conc]
  · exact ofR_conc h
def gN (W : World) (a : Addr) : Option AV := if a.block < W.heap.size then (W.cell? a).bind ofN else none
theorem gN_ro [Val] (W : World) (h : Val.g = gN W) : Ro W := fun a v ha => by
  rw [h] at ha
  unfold gN at ha
  split at ha
  · rename_i hlt
    cases hc : W.cell? a with
    | none => rw [hc] at ha; cases ha
    | some c => rw [hc] at ha; exact ⟨hlt, c, ofN_conc ha, rfl⟩
  · cases ha
theorem gN_at {W : World} {a : Addr} {v : Value} {x : AV} (h : W.cell? a = some v) (hx : ofN v = some x) : gN W a = some x := by
  unfold gN
  rw [if_pos (cell_lt h), h]; exact hx

theorem ofN_int {v : Value} {k : IntKind} {n : Int} (h : ofR v = some (.int k n)) : ofN v = some (.int k n) := by
  cases v <;> simp [ofR] at h <;> (subst_vars; try rfl)
  all_goals (obtain ⟨rfl, rfl⟩ := h; rfl)
theorem inRow_of {w : World} {a : Option Addr} {n c : Nat} {f : Nat → Int} (h : ∀ i, i < n → ∃ p, a = some p ∧ w.cell? (p.add i) = some (.int .u64 (f i))) (M : AMem) (hM : M.g = gN w) : IRow M .u64 (.rslice a n c) ((List.range n).map f) := by
  refine ⟨els_one, .inl ⟨a, c, by simp, fun j hj => ?_⟩⟩
  have hj' : j < n := by simpa using hj
  obtain ⟨p, h1, h2⟩ := h j hj'
  refine ⟨p, h1, ?_⟩
  rw [hM, gN_at h2 rfl, flat_one]
  simp [hj']
theorem walk {a : Option Addr} {n c : Nat} {f : Nat → Int} (s : ByteArray) (w : World) (hE0 : ∀ i, i < n → ∃ p, a = some p ∧ w.cell? (p.add i) = some (.int .u64 (f i))) (hu : ∀ i, i < n → 0 ≤ f i ∧ f i ≤ 18446744073709551615) {tp : TypeId} {p : Option Addr} (hE : w.cell? ⟨1, 0, none⟩ = some (.iface tp (.pointer p))) (hP : PowAt w) :
    Calls Tryd.prog 4 #[.slice a n c, .string s] w fun e w' => e = .returned (.bool true) ∧ Below w.heap.size w w' := by
  letI : Val := ⟨fun _ => 0, fun _ => undef, gN w⟩
  have hu' : ∀ u ∈ (List.range n).map f, 0 ≤ u ∧ u ≤ 18446744073709551615 := by
    intro u hm
    obtain ⟨i, hi, rfl⟩ := List.mem_map.1 hm
    exact hu i (List.mem_range.1 hi)
  obtain ⟨r, M', hr, hrt⟩ := numLists_ok 0 ⟨.nil, 0, gN w⟩ Okg.nil (inRow_of (c := c) hE0 _ rfl) hu' s.data.toList
  subst hrt
  have h1 : (callF tbl code 100000 (0 + 4) 4 [.rslice a n c, .str s] ⟨.nil, 0, gN w⟩).map (·.1) = some (.bool true) := by
    have : callF tbl code 100000 (0 + 4) 4 [.rslice a n c, .str s] ⟨.nil, 0, gN w⟩ = some (.bool true, M') := hr
    rw [this]; rfl
  have hargs : concs (fun _ => none) [.rslice a n c, .str s] = some [.slice a n c, .string s] := by
    simp [concs, conc]
  refine ((closed_of (tblW_ok (gN_at hE rfl) fun i hi => gN_at (hP i hi) rfl) codeOk rfl h1 hargs rfl (fun _ => none) w _ (gN_ro w rfl) hargs).2).mono ?_
  rintro e w' ⟨v, g1, g2, g3⟩
  simp only [conc, Option.some.injEq] at g2
  subst g2
  exact ⟨g1, g3⟩

/-! The row. -/
theorem own : ownKnob Tryd.prog.godebug = none := by kernel_rfl
theorem laidOut : laidOutB Tryd.prog = true := by kernel_rfl
def laid1 : List (String × DataW Unit) := [("math/bits.deBruijn32tab", Rows.laid_math_bits_deBruijn32tab), ("math/bits.deBruijn64tab", Rows.laid_math_bits_deBruijn64tab), ("internal/strconv.uint64pow10", Rows.laid_internal_strconv_uint64pow10), ("unicode/utf8.acceptRanges", Rows.laid_unicode_utf8_acceptRanges), ("strconv.ErrRange", Rows.laid_strconv_ErrRange), ("strconv.ErrSyntax", Rows.laid_strconv_ErrSyntax), ("unicode/utf8.first", Rows.laid_unicode_utf8_first)]
theorem plain {W : World} (h : laidMetH Tryd.prog laid1 W) : laidMet Tryd.prog laid1 W := by
  have h' := h
  unfold laidMetH at h'
  have e : (laid1.filter fun x => x.2.handleName?.isSome) = [] := by kernel_rfl
  rw [e] at h'
  exact h'
theorem pow_at {W : World} (h : laidMetH Tryd.prog laid1 W) : PowAt W := by
  have h1 := (plain h).filter fun x => x.1 == "internal/strconv.uint64pow10"
  have e : (laid1.filter fun x => x.1 == "internal/strconv.uint64pow10") = [("internal/strconv.uint64pow10", tabData .u64 pow10Tab)] := by kernel_rfl
  rw [e] at h1
  have ht : TabIs Tryd.prog W "internal/strconv.uint64pow10" .u64 pow10Tab := tabIs_of_head (g := 2) (by kernel_rfl) (t := 81) (by kernel_rfl) (n := 20) (e := 22) (by kernel_rfl) (by kernel_rfl) (by kernel_rfl) (by kernel_rfl) h1
  intro i hi
  rw [ht.cell (g := 2) (by kernel_rfl) i (by rw [pow10Tab_length]; omega), pow10Tab_at i (by omega)]
theorem star : "*" ++ "errors.errorString" = "*errors.errorString" := by decide
theorem row89 (u : TypeId) (h : Tryd.prog.typeName? 3 u = some "*errors.errorString") : u = 89 :=
  typeName_ptr_named (nm := "errors.errorString") (by rw [star]; kernel_rfl) (by kernel_rfl) (by decide) u (by rw [star]; exact h)
theorem err_at {W : World} (h : laidMetH Tryd.prog laid1 W) : ∃ p, W.cell? ⟨1, 0, none⟩ = some (.iface 89 (.pointer p)) := by
  have h1 := (plain h).filter fun x => x.1 == "strconv.ErrRange"
  have e : (laid1.filter fun x => x.1 == "strconv.ErrRange") = [("strconv.ErrRange", Rows.laid_strconv_ErrRange)] := by kernel_rfl
  rw [e] at h1
  obtain ⟨ps, ⟨g0, t0, cs0, f0, p0, q0, hg0, ht0, hv0, hd0, hq1, e1⟩, hnd, hrows⟩ := h1
  have hg : Tryd.prog.globalNamed "strconv.ErrRange" = some 1 := by kernel_rfl
  have hgt : (Tryd.prog.globals[1]?).map (·.type) = some 38 := by kernel_rfl
  obtain rfl := Option.some.inj (hg.symm.trans hg0)
  obtain rfl := Option.some.inj (hgt.symm.trans ht0)
  have hq1' : q0 = [] := hq1
  subst hq1'
  subst e1
  obtain ⟨l0⟩ := cs0
  have ok0 : ∀ u v, l0 = [.iface u v] → Value.okWide Tryd.prog W .any 0 u v := fun u v e => by
    subst e
    exact (hrows 1 0 (by simp [MemPlace.row])).2 u v (by simpa using World.var?_cell hg0 hv0 0)
  obtain ⟨a0, s0, rfl, hc0, hs0, hz0, rfl⟩ := errorString_of_trod Tryd.underlying38 row89 Tryd.underlying89 Tryd.underlying91 rfl rfl Tryd.underlying9 (by kernel_rfl) (by kernel_rfl) hd0 ok0
  exact ⟨_, by simpa using World.var?_cell hg0 hv0 0⟩
set_option maxRecDepth 100000 in
theorem lifted (os : Os) (started : os.Started) (H : Type) (enc : TypeId × Value → H) :
    ReturnsInHanded {} Tryd.checked os 4 .any (fun w args => (Rows.numListsSpec.pre enc Tryd.prog Tryd.f4 [] false w args ∧ laidMetH Tryd.prog laid1 w) ∧ sizedMet enc Tryd.prog Tryd.f4 (OpenSpec.ofChange Rows.numListsSpec) false w args)
      (Rows.numListsSpec.post enc Tryd.prog Tryd.f4 false true false false) := by
  refine returnsInHanded_of_change_and (C := Tryd.checked) (X := fun w _ => laidMetH Tryd.prog laid1 w) (fun _ _ _ hh h => h.of_heap hh) own started (by kernel_rfl) Tryd.func4
    (ChangeSpec.witness_shaped (enc := enc) (C := Tryd.checked) (os := os) (X := fun w _ => laidMetH Tryd.prog laid1 w) false (World.laidAll Tryd.prog os laid1) #[.slice none 0 0, .string ⟨#[]⟩] 8 (World.laidAll_os _ _ _) (World.shaped_of_ZipB (by kernel_rfl) (by kernel_rfl)) (by kernel_rfl) (by kernel_rfl) (by kernel_rfl)
      (by rw [MakeChecks.laidMetH_plain _ _ _ (by kernel_rfl)]; exact laidMet_laidAll _ (by kernel_rfl) (by kernel_rfl))) ?_
  intro W base args ds gs before hval0 hW _ _ hL _
  have hval : ∀ (j : Nat) t v, Tryd.f4.params[j]? = some t → args[j]? = some v → Value.okWide Tryd.prog W .any base t v := hval0
  have hW' := hW
  obtain ⟨p, q, hA0, hV, rfl, hfz, hnd⟩ := hW
  have hA : DataW.TrodAll enc Tryd.prog W 0 (fun _ => true) true Tryd.f4.params.toList args.toList ds p := hA0
  rw [Tryd.params4] at hA hval
  obtain ⟨v0, vs0, d0, ds0, p0, q0, hargs, rfl, rfl, h0, r0⟩ := trodAll_cons hA
  obtain ⟨v1, vs1, d1, ds1, p1, q1, rfl, rfl, rfl, h1, r1⟩ := trodAll_cons r0
  obtain ⟨rfl, rfl, rfl⟩ := trodAll_nil r1
  obtain rfl : args = #[v0, v1] := by cases args; simp_all
  obtain ⟨rfl, rfl⟩ := trodVars_none hV
  have k0 := h0
  have k1 := h1
  have lt0 : ∀ x ∈ p0, x.block < W.heap.size := by obtain ⟨m, hm⟩ := k0; exact DataW.trod_lt m _ _ _ hm
  have lt1 : ∀ x ∈ p1, x.block < W.heap.size := by obtain ⟨m, hm⟩ := k1; exact DataW.trod_lt m _ _ _ hm
  obtain ⟨s, rfl⟩ := okWide_string Tryd.underlying9 (hval 1 9 v1 rfl rfl)
  obtain ⟨pE, hE⟩ := err_at hL
  have hP := pow_at hL
  obtain ⟨pa0, n0, ca0, rfl⟩ := okWide_slice Tryd.underlying29 (hval 0 29 v0 rfl rfl)
  obtain ⟨m0, hm0⟩ := h0
  have key : ∃ (pa : Option Addr) (n ca : Nat) (f : Nat → Int), Value.slice pa0 n0 ca0 = .slice pa n ca ∧ (∀ i, i < n → ∃ p, pa = some p ∧ W.cell? (p.add i) = some (.int .u64 (f i))) ∧ ∀ i, i < n → 0 ≤ f i ∧ f i ≤ 18446744073709551615 := by
    rcases open_ints Tryd.underlying29 Tryd.underlying22 (by kernel_rfl) hm0 with ⟨h0, _⟩ | ⟨a, len, cap, zs, hcs, hb, hl, hm, hlen, hx, hcell, hwf⟩
    · cases h0
      exact ⟨none, 0, 0, fun _ => 0, rfl, fun i hi => by omega, fun i hi => by omega⟩
    · cases hcs
      have hle : n0 ≤ zs.length := by rw [hlen]; split <;> omega
      refine ⟨some a, n0, ca0, fun i => zs.getD i 0, rfl, fun i hi => ⟨a, rfl, hcell i (by omega)⟩, fun i hi => ?_⟩
      have hm : zs.getD i 0 ∈ zs := by
        rw [List.getD_eq_getElem?_getD, List.getElem?_eq_getElem (by omega)]
        exact List.getElem_mem _
      have wf1 := hwf _ hm
      simp only [Lit.wf, Bool.and_eq_true, decide_eq_true_eq] at wf1
      exact wf1
  obtain ⟨pa, n, ca, f, ev, hcs, hu⟩ := key
  cases ev
  clear hA0 hval0
  refine (walk s W hcs hu hE hP).mono fun e W' ⟨he, bel⟩ => ?_
  subst he
  exact ⟨_, rfl, _, _, _, [], _, [], hW', trodAll_mk1 (shut_bool Tryd.underlying4 _), (trodAll_cons_mk (Below.trod laidOut (by kernel_rfl) (of_decide_eq_true (by kernel_rfl)) k0 bel lt0) (trodAll_cons_mk (Below.trod laidOut (by kernel_rfl) (of_decide_eq_true (by kernel_rfl)) k1 bel lt1) trodAll_mk0)), rfl, bel.frame _, fun h => by cases h⟩

theorem over : Go.Proofs.YtphdlmmllahgkaaDoor.Rows.NumListsSaid :=
  OpenClaim.holds_of_wide 4 Tryd.f4 rfl rfl rfl rfl rfl rfl rfl ⟨rfl, rfl, rfl, rfl, rfl⟩ rfl rfl rfl rfl rfl (by kernel_rfl) Tryd.func4 (by kernel_rfl)
    (of_decide_eq_true (by kernel_rfl)) (by unfold Func.isWrapper; first | (rw [if_pos (by decide +kernel)]; kernel_rfl) | (rw [if_neg (by decide +kernel)]; exact ⟨rfl, rfl⟩))
    (fun os started H enc _ => lifted os started H enc)

theorem proved : Go.Proofs.YtphdlmmllahgkaaDoor.Rows.NumListsCardSaid :=
  Claim7.holds_tied_plain_at .later [] [.data, .data, .data, .data, .sentinel, .sentinel, .pinned] true (true, "34b1ad82221d72b7f4ddd5a08bbe9f82110d239022564c01d0333c606bca657a") true
    over (fun _ h => by cases h) (by kernel_rfl) (fun _ h => by cases h) Go.Proofs.YtphdlmmllahgkaaDoor.numLists_row_tie rfl ⟨rfl, rfl⟩ (by kernel_rfl) rfl
    (fun f fn hf hfn => by
      obtain rfl : f = 4 := Option.some.inj ((show Tryd.prog.funcNamed "coachyard/coachyardlaw02.NumLists" = some 4 by kernel_rfl).symm.trans hf) |>.symm
      obtain rfl : fn = Tryd.f4 := (Option.some.inj (Tryd.func4.symm.trans hfn)).symm
      exact ⟨by kernel_rfl, fun j t ht => by
        rw [Tryd.params4] at ht
        have hm : t ∈ [29, 9] := by simpa using Array.mem_of_getElem? ht
        have hall : ([29, 9].all fun u => !Tryd.prog.wantsStandIn u) = true := by kernel_rfl
        exact (show Tryd.prog.wantsStandIn t = false by simpa using List.all_eq_true.1 hall t hm)⟩)
    (by kernel_rfl)
#print axioms proved
end Go.Proofs.YtphdlmmllahgkaaDoor.numLists
