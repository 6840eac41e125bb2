/- The calls whose answers are known: lacking, named, awake. -/
import Derived.Test.YtpbejdlpkpehlaaBgNamed
import Derived.Test.YtpbejdlpkpehlaaVx20
namespace Go.Proofs.Ytpbejdlpkpehlaa.bag
open Go Go.Vx
def dec1 : List AV → Option Sn
  | [.int .i64 _, .int .i64 _, .int .i64 f, .int .i64 t, .int .i64 k, .int .u64 tk, va, .int .i64 c, .int .u64 v, la] => if va.one && la.one then some ⟨f, t, k, tk, c, v⟩ else none
  | _ => none
theorem dec1_some {e : List AV} {s : Sn} (h : dec1 e = some s) : SnC e s := by
  unfold dec1 at h
  split at h
  · rename_i w x f t k tk va c v la
    split at h
    · rename_i ho
      cases h
      rw [Bool.and_eq_true] at ho
      exact ⟨w, x, va, la, rfl, ho.1, ho.2⟩
    · cases h
  · cases h
def chunks (cs : List AV) : Nat → List (List AV)
  | 0 => []
  | n + 1 => cs.take 10 :: chunks (cs.drop 10) n
theorem chunks_ok : ∀ (n : Nat) (cs : List AV), cs.length = n * 10 → (chunks cs n).flatten = cs ∧ Els 10 (chunks cs n) ∧ (chunks cs n).length = n
  | 0, cs, h => by
    have : cs = [] := List.eq_nil_of_length_eq_zero (by omega)
    subst this
    exact ⟨rfl, fun e he => by simp [chunks] at he, rfl⟩
  | n + 1, cs, h => by
    obtain ⟨h1, h2, h3⟩ := chunks_ok n (cs.drop 10) (by rw [List.length_drop]; omega)
    refine ⟨?_, fun e he => ?_, ?_⟩
    · rw [chunks, List.flatten_cons, h1, List.take_append_drop]
    · rw [chunks] at he
      rcases List.mem_cons.1 he with rfl | he
      · rw [List.length_take]; omega
      · exact h2 e he
    · rw [chunks, List.length_cons, h3]
def decL (cs : List AV) : Nat → Option (List Sn)
  | 0 => some []
  | n + 1 => match dec1 (cs.take 10), decL (cs.drop 10) n with
    | some s, some l => some (s :: l)
    | _, _ => none
theorem decL_some : ∀ (n : Nat) (cs : List AV) (l : List Sn), decL cs n = some l → l.length = n ∧ ∀ (i : Nat) (s : Sn), l[i]? = some s → ∃ e, (chunks cs n)[i]? = some e ∧ SnC e s
  | 0, cs, l, h => by
    simp only [decL, Option.some.injEq] at h
    subst h
    exact ⟨rfl, fun i s hi => by simp at hi⟩
  | n + 1, cs, l, h => by
    simp only [decL] at h
    cases h1 : dec1 (cs.take 10) with
    | none => simp [h1] at h
    | some s0 =>
      cases h2 : decL (cs.drop 10) n with
      | none => simp [h1, h2] at h
      | some l0 =>
        simp only [h1, h2, Option.some.injEq] at h
        subst h
        obtain ⟨k1, k2⟩ := decL_some n _ l0 h2
        refine ⟨by rw [List.length_cons, k1], fun i s hi => ?_⟩
        cases i with
        | zero => cases hi; exact ⟨_, rfl, dec1_some h1⟩
        | succ i => exact k2 i s hi
def decG : List (AV × AV) → Option (List (Int × Int))
  | [] => some []
  | (.int .i64 a, .int .i64 b) :: r => match decG r with
    | some l => some ((a, b) :: l)
    | none => none
  | _ => none
theorem decG_some : ∀ (es : List (AV × AV)) (l : List (Int × Int)), decG es = some l → es = ents .i64 (givenE l) := by
  intro es
  induction es with
  | nil => intro l h; cases h; rfl
  | cons q es ih =>
    intro l h
    unfold decG at h
    split at h
    · cases ‹q :: es = []›
    · rename_i a b r he
      simp only [List.cons.injEq] at he
      obtain ⟨rfl, rfl⟩ := he
      cases h1 : decG es with
      | none => rw [h1] at h; cases h
      | some l0 =>
        rw [h1] at h
        simp only [Option.some.injEq] at h
        subst h
        rw [ih l0 h1]; rfl
    · cases h
/-- groups are where they may be, nothing is held -/
def okB (M : AMem) : Bool := (List.range M.n).all fun b => match M.get b with
  | some (.cells _ _ _ (some g)) => decide (g ≤ b)
  | some .held => false
  | _ => true
theorem okB_ok {M : AMem} (h : okB M = true) (hok : Ok M) : Okg M ∧ ∀ b, isHeld (M.get b) = false := by
  have key : ∀ b k, M.get b = some k → (match some k with
    | some (.cells _ _ _ (some g)) => decide (g ≤ b)
    | some .held => false
    | _ => true) = true := fun b k hb => by
    have := List.all_eq_true.1 h b (List.mem_range.2 (get_lt hok hb))
    rw [hb] at this
    exact this
  refine ⟨⟨hok, fun b cs sz wr g hb => ?_⟩, fun b => ?_⟩
  · have := key b _ hb
    simpa using this
  · cases hb : M.get b with
    | none => rfl
    | some k =>
      cases k with
      | held => have := key b _ hb; simp at this
      | _ => rfl
/-- a row of our own, cut up -/
def rowC (M : AMem) : AV → Option (List Sn)
  | .slice (some (b, o)) n _ _ => match M.loadCells b o (n * 10) with
    | some cs => decL cs n
    | none => none
  | _ => none
theorem rowC_ok {M : AMem} (hok : Ok M) {v : AV} {l : List Sn} (h : rowC M v = some l) : SnR M v l := by
  unfold rowC at h
  split at h
  · rename_i b o n c gr
    cases h1 : M.loadCells b o (n * 10) with
    | none => rw [h1] at h; cases h
    | some cs =>
      rw [h1] at h
      obtain ⟨d1, d2⟩ := decL_some n cs l h
      unfold AMem.loadCells at h1
      cases hb : M.get b with
      | none => rw [hb] at h1; cases h1
      | some k =>
        cases k with
        | cells bs sz wr g =>
          rw [hb] at h1
          simp only at h1
          split at h1
          · rename_i hle
            cases h1
            obtain ⟨c1, c2, c3⟩ := chunks_ok n ((bs.drop o).take (n * 10)) (by rw [List.length_take, List.length_drop]; omega)
            refine ⟨chunks ((bs.drop o).take (n * 10)) n, ⟨c2, .inr (.inr ⟨b, o, c, gr, bs, sz, wr, g, by rw [c3], hb, get_lt hok hb, by rw [c3]; exact hle, by rw [c3, c1]⟩)⟩, by rw [c3, d1], d2⟩
          · cases h1
        | _ => rw [hb] at h1; cases h1
  · cases h
def outC (M : AMem) (out : List Nat) : AV × AMem := if out = [] then (.slice none 0 0 false, M) else (.slice (some (M.n, 0)) out.length out.length true, M.push (.cells (ints out) 1 true none))
def namedA (M : AMem) : List AV → Option (AV × AMem)
  | [lv, .map (some gb)] => match okB M, rowC M lv, M.get gb with
    | true, some l, some (.map es) => match decG es with
      | some given => if l.length ≤ 90000 then some (outC M (namedT (given.map (·.2)) l l.length)) else none
      | none => none
    | _, _, _ => none
  | _ => none
def namedC : Tbl := fun f args M => if f = 19 then namedA M args else none
theorem ints_free [Val] (out : List Nat) (e1 e2 : Env) : concs e1 (ints out) = concs e2 (ints out) := by
  unfold ints
  induction out with
  | nil => rfl
  | cons x l ih => simp only [List.map_cons, concs, conc, ih]
theorem namedC_ok [Val] : TblOk Try.prog namedC := by
  intro f args M r M' h B w0 e w cargs hc hm
  unfold namedC at h
  split at h
  · rename_i hf
    subst hf
    unfold namedA at h
    split at h
    · rename_i lv gb
      have hok : Ok M := hm.full
      split at h
      · rename_i hB l es h1 h2 h3
        split at h
        · rename_i given hg
          split at h
          · rename_i hn
            simp only [Option.some.injEq] at h
            obtain ⟨okg, nh⟩ := okB_ok h1 hok
            have hl := rowC_ok hok h2
            rw [decG_some _ _ hg] at h3
            obtain ⟨hb, hcl⟩ := named_calls okg nh hl h3 hn
            refine ⟨hb, (hcl B w0 e w cargs hc hm).mono ?_⟩
            rintro en w' ⟨v, K, e', cv, ⟨hs, hrow⟩, hx, he, hv, hm'⟩
            generalize namedT (given.map (·.2)) l l.length = out at *
            unfold outC at h
            rcases hrow with ⟨rfl, rfl⟩ | ⟨hne, b, g, rfl, q1, q2, q3⟩
            · rw [if_pos rfl] at h
              cases h
              exact ⟨e, cv, XR.refl _ _, he, by simpa [conc] using hv, hm.forget hm' hx hs⟩
            · rw [if_neg hne] at h
              cases h
              cases hxb : e' b with
              | none => simp [conc, hxb] at hv
              | some x =>
                obtain ⟨hm2, hx2⟩ := hm.take hm' hx hs okg q1 q2 q3 hxb (ints_free out)
                refine ⟨e.set M.n x, cv, hx2, he, ?_, hm2⟩
                rw [← hv]
                simp only [conc, hxb, Env.set, if_true]
          · cases h
        · cases h
      · cases h
    · cases h
  · cases h
end Go.Proofs.Ytpbejdlpkpehlaa.bag
