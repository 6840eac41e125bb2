/- Methods that a heap calls; maps of our own at numbers. -/
import Derived.Test.YtpbejdlpkpehlaaVx26
namespace Go.Vx

theorem opI_mul {k : IntKind} {a b : Int} {M : AMem} : opI (.bin .mul) [.int k a, .int k b] M = some (.val (.int k (wrapF k (a * b))) M) := by
  simp [opI, binI, intI]
theorem opI_half {k : Nat} {M : AMem} (h : k < 1000000) : opI (.bin .quo) [.int .i64 k, .int .i64 2] M = some (.val (.int .i64 (k / 2 : Nat)) M) := by
  simp only [opI, binI, intI]
  have : (2 : Int) ≠ 0 := by decide
  simp only [this, if_true, if_false]
  have e : (k : Int).tdiv 2 = ((k / 2 : Nat) : Int) := by
    rw [Int.tdiv_eq_ediv_of_nonneg (by omega)]; omega
  rw [e, wrapF_small (by omega) (by omega)]
theorem opI_mkIface {t : TypeId} {v : AV} {M : AMem} : opI (.mkIface t) [v] M = some (.val (.iface t v) M) := rfl
theorem wrapF_any {n : Int} (h1 : -9223372036854775808 ≤ n) (h2 : n < 9223372036854775808) : wrapF .i64 n = n := wrapF_id (by show (-9223372036854775808 : Int) ≤ n; omega) (by show n ≤ (9223372036854775807 : Int); omega)
/-- What the methods of a heap do, whatever it is. -/
structure HeapM {α : Type} (call : FuncId → List AV → AMem → Option (AV × AMem)) (iLess iSwap iLen iPop : PI) (hv : AV) (Rep : AMem → List α → Prop) (d0 : α) (enc : α → AV) (lt : α → α → Bool) : Prop where
  less : ∀ {M : AMem} {l : List α} {i j : Nat}, Rep M l → i < l.length → j < l.length → ∃ f vs M', opI iLess [hv, .int .i64 i, .int .i64 j] M = some (.call f vs) ∧ call f vs M = some (.bool (lt (l.getD i d0) (l.getD j d0)), M') ∧ Rep M' l
  swap : ∀ {M : AMem} {l : List α} {i j : Nat}, Rep M l → i < l.length → j < l.length → ∃ f vs r M', opI iSwap [hv, .int .i64 i, .int .i64 j] M = some (.call f vs) ∧ call f vs M = some (r, M') ∧ Rep M' (swapL d0 l i j)
  len : ∀ {M : AMem} {l : List α}, Rep M l → ∃ f vs M', opI iLen [hv] M = some (.call f vs) ∧ call f vs M = some (.int .i64 l.length, M') ∧ Rep M' l
  pop : ∀ {M : AMem} {l : List α}, Rep M l → 0 < l.length → ∃ f vs M', opI iPop [hv] M = some (.call f vs) ∧ call f vs M = some (enc (l.getD (l.length - 1) d0), M') ∧ Rep M' (l.take (l.length - 1))

/-! Maps of our own. -/
def ents (k : IntKind) (es : List (Int × AV)) : List (AV × AV) := es.map fun e => (.int k e.1, e.2)
/-- what stands at a key -/
def asg (x : Int) : List (Int × AV) → Option AV
  | [] => none
  | (y, v) :: es => if x = y then some v else asg x es
theorem findK_ents {k : IntKind} {x : Int} : ∀ {es : List (Int × AV)} {i : Nat}, (findK 0 (.int k x) (ents k es) i = some none ∧ asg x es = none) ∨ ∃ j v, findK 0 (.int k x) (ents k es) i = some (some (i + j, v)) ∧ asg x es = some v ∧ j < es.length ∧ es[j]? = some (x, v) ∧ ∀ m, m < j → ∀ e, es[m]? = some e → e.1 ≠ x
  | [], i => .inl ⟨rfl, rfl⟩
  | (y, v) :: es, i => by
    by_cases h : x = y
    · subst h
      refine .inr ⟨0, v, ?_, ?_, by simp, rfl, fun m hm => by omega⟩
      · simp [ents, findK, eqScalar]
      · simp [asg]
    · have h' : (x == y) = false := by simpa using h
      rcases findK_ents (k := k) (x := x) (es := es) (i := i + 1) with ⟨h1, h2⟩ | ⟨j, w, h1, h2, h3, h4, h5⟩
      · refine .inl ⟨?_, by simp [asg, h, h2]⟩
        simp only [ents, List.map_cons, findK, eqScalar, if_true, h']
        exact h1
      · refine .inr ⟨j + 1, w, ?_, by simp [asg, h, h2], by simp; omega, by simpa using h4, fun m hm e he => ?_⟩
        · simp only [ents, List.map_cons, findK, eqScalar, if_true, h']
          rw [show i + (j + 1) = i + 1 + j by omega]; exact h1
        · cases m with
          | zero => simp at he; subst he; exact fun h' => h h'.symm
          | succ m => exact h5 m (by omega) e (by simpa using he)
theorem asg_append {x y : Int} {v : AV} : ∀ {es : List (Int × AV)}, asg x es = none → asg y (es ++ [(x, v)]) = if y = x then some v else asg y es
  | [], _ => by simp [asg]
  | (z, w) :: es, h => by
    simp only [asg] at h
    split at h
    · cases h
    · rename_i hz
      simp only [List.cons_append, asg]
      rw [asg_append h]
      by_cases h1 : y = z
      · subst h1
        rw [if_pos rfl, if_pos rfl, if_neg (fun h => hz h.symm)]
      · rw [if_neg h1, if_neg h1]
theorem asg_set {x y : Int} {v : AV} : ∀ {es : List (Int × AV)} {j : Nat} {w : AV}, es[j]? = some (x, w) → (∀ m, m < j → ∀ e, es[m]? = some e → e.1 ≠ x) → asg y (es.set j (x, v)) = if y = x then some v else asg y es
  | [], j, w, h, _ => by simp at h
  | (z, u) :: es, 0, w, h, _ => by
    simp at h
    obtain ⟨rfl, rfl⟩ := h
    simp only [List.set_cons_zero, asg]
    by_cases h1 : y = z
    · rw [if_pos h1, if_pos h1]
    · rw [if_neg h1, if_neg h1, if_neg h1]
  | (z, u) :: es, j + 1, w, h, hm => by
    simp only [List.set_cons_succ, asg]
    rw [asg_set (by simpa using h) (fun m hmj e he => hm (m + 1) (by omega) e (by simpa using he))]
    have hz : z ≠ x := hm 0 (by omega) (z, u) rfl
    by_cases h1 : y = z
    · subst h1
      rw [if_pos rfl, if_pos rfl, if_neg hz]
    · rw [if_neg h1, if_neg h1]
theorem lookup_own {M : AMem} {mb : Nat} {k : IntKind} {es : List (Int × AV)} {ok : Bool} {z : AV} {x : Int} (h : M.get mb = some (.map (ents k es))) :
    opI (.lookup 0 ok z) [.map (some mb), .int k x] M = some (.val (match asg x es with | some v => resL ok v true | none => resL ok z false) M) := by
  have he : M.entries mb = some (ents k es) := by simp only [AMem.entries, h]
  rcases findK_ents (k := k) (x := x) (es := es) (i := 0) with ⟨h1, h2⟩ | ⟨j, v, h1, h2, _⟩
  · simp only [opI, lookupI, he, h1, h2]
  · simp only [opI, lookupI, he, h1, h2]
theorem update_own {M0 M : AMem} {mb : Nat} {k : IntKind} {es : List (Int × AV)} {x : Int} {v : AV} (hs : Step M0 M) (hb : M0.n ≤ mb) (h : M.get mb = some (.map (ents k es))) :
    ∃ es', opI (.mapUpdate 0) [.map (some mb), .int k x, v] M = some (.val (.tuple []) (M.set mb (.map (ents k es')))) ∧ (∀ y, asg y es' = if y = x then some v else asg y es) ∧ Step M0 (M.set mb (.map (ents k es'))) ∧ (M.set mb (.map (ents k es'))).get mb = some (.map (ents k es')) ∧ Fr M (M.set mb (.map (ents k es'))) (· = mb) := by
  have he : M.entries mb = some (ents k es) := by simp only [AMem.entries, h]
  have key : ∀ es', opI (.mapUpdate 0) [.map (some mb), .int k x, v] M = some (.val (.tuple []) (M.set mb (.map (ents k es')))) → (∀ y, asg y es' = if y = x then some v else asg y es) → _ := fun es' h1 h2 => (⟨es', h1, h2, hs.set hb h (fun _ _ _ _ he => by cases he), by rw [get_set_mem h, if_pos rfl], Fr.set h⟩ : ∃ es', opI (.mapUpdate 0) [.map (some mb), .int k x, v] M = some (.val (.tuple []) (M.set mb (.map (ents k es')))) ∧ (∀ y, asg y es' = if y = x then some v else asg y es) ∧ Step M0 (M.set mb (.map (ents k es'))) ∧ (M.set mb (.map (ents k es'))).get mb = some (.map (ents k es')) ∧ Fr M (M.set mb (.map (ents k es'))) (· = mb))
  rcases findK_ents (k := k) (x := x) (es := es) (i := 0) with ⟨h1, h2⟩ | ⟨j, w, h1, h2, h3, h4, h5⟩
  · refine key (es ++ [(x, v)]) ?_ fun y => asg_append h2
    simp only [opI, updateI, he, h1]
    simp [ents]
  · refine key (es.set j (x, v)) ?_ fun y => asg_set h4 h5
    simp only [opI, updateI, he, h1, Nat.zero_add]
    simp [ents, List.map_set]
theorem makeMap_own {M0 M : AMem} (hs : Step M0 M) : opI .makeMap [] M = some (.val (.map (some M.n)) (M.push (.map (ents .i64 [])))) ∧ Step M0 (M.push (.map (ents .i64 []))) ∧ (M.push (.map (ents .i64 []))).get M.n = some (.map (ents .i64 [])) :=
  ⟨rfl, hs.push (fun _ _ _ _ he => by cases he), get_push_self hs.ok.1⟩
theorem ents_nil {k k' : IntKind} : ents k [] = ents k' [] := rfl
end Go.Vx
