/- A table of code: all of it is the program's. -/
import Derived.Test.YtpbejdlpkpehlaaVx15
namespace Go.Vx

theorem hasBody_of {P : Program} {f : FuncId} {fn : Func} (h : P.funcs[f]? = some fn) (hb : (fn.body.isSome && fn.name != "runtime.NumGoroutine") = true) : hasBody P f = true := by
  unfold hasBody; rw [h]; exact hb
def ListOk (P : Program) : Nat → List (Option PFn) → Prop
  | _, [] => True
  | k, none :: l => ListOk P (k + 1) l
  | k, some pf :: l => (∃ fn, P.funcs[k]? = some fn ∧ compFunc P fn = some pf ∧ hasBody P k = true) ∧ ListOk P (k + 1) l
theorem ListOk.at {P : Program} : ∀ {l : List (Option PFn)} {k i : Nat} {pf : PFn}, ListOk P k l → l[i]? = some (some pf) → ∃ fn, P.funcs[k + i]? = some fn ∧ compFunc P fn = some pf ∧ hasBody P (k + i) = true
  | [], _, i, _, _, h => by simp at h
  | none :: l, k, i, pf, hl, h => by
    cases i with
    | zero => simp at h
    | succ i =>
      have := ListOk.at (l := l) (k := k + 1) (i := i) hl (by simpa using h)
      rw [show k + 1 + i = k + (i + 1) by omega] at this
      exact this
  | some q :: l, k, i, pf, hl, h => by
    cases i with
    | zero => simp at h; subst h; exact hl.1
    | succ i =>
      have := ListOk.at (l := l) (k := k + 1) (i := i) hl.2 (by simpa using h)
      rw [show k + 1 + i = k + (i + 1) by omega] at this
      exact this
theorem codeOk_of {P : Program} {l : List (Option PFn)} (h : ListOk P 0 l) : CodeOk P (fun f => ((Tr.ofList l).get f).join) := by
  intro f pf hf
  simp only [Tr.ofList_get] at hf
  have h1 : l[f]? = some (some pf) := by
    cases hl : l[f]? with
    | none => rw [hl] at hf; cases hf
    | some o => rw [hl] at hf; simp at hf; rw [hf]
  have := h.at h1
  rwa [Nat.zero_add] at this
theorem MR.start [Val] (w : World) (hro : Ro w) : MR (fun k => k < w.heap.size) w (fun _ => none) ⟨.nil, 0, Val.g⟩ w :=
  ⟨fun _ _ => rfl, fun i => by simp [Tr.get], BelowP.refl _ _, fun _ h => h, fun b k x hk hx => by simp at hx, fun b k x hk hx => by simp at hx, fun b b' k k' x x' _ _ _ hx => by simp at hx, fun b x hx => by simp at hx, rfl, hro⟩
/-- A run that our machine brings to its end from nothing, the model's brings to the same, whatever the world. -/
theorem closed_of [Val] {P : Program} {tbl : FuncId → List AV → AMem → Option (AV × AMem)} {code : FuncId → Option PFn} (htbl : TblOk P tbl) (hcode : CodeOk P code) {N d : Nat} {f : FuncId} {args : List AV} {r : AV}
    {g : Addr → Option AV} (hg : Val.g = g) (h : (callF tbl code N d f args ⟨.nil, 0, g⟩).map (·.1) = some r) {cargs : List Value} (hargs : concs (fun _ => none) args = some cargs) {v : Value} (hr : conc (fun _ => none) r = some v) : Closed P f args r := by
  subst hg
  intro e w cargs' hro hc
  have hext : ∀ e' : Env, Ext (fun _ => none) e' := fun e' b x hx => by cases hx
  have : cargs' = cargs := by
    have := (hext e).concs hargs
    rw [this] at hc; exact (Option.some.inj hc).symm
  subst this
  cases hrun : callF tbl code N d f args ⟨.nil, 0, Val.g⟩ with
  | none => rw [hrun] at h; cases h
  | some q =>
    obtain ⟨r', M'⟩ := q
    rw [hrun] at h
    simp at h; subst h
    obtain ⟨h1, h2⟩ := callF_ok (drawSound P) htbl hcode N d f args _ r' M' hrun _ w _ w cargs' hargs (MR.start w hro)
    refine ⟨h1, h2.mono ?_⟩
    rintro en w' ⟨e', v', _, g1, g2, g3⟩
    have hv := (hext e').conc hr
    rw [hv] at g2; cases g2
    exact ⟨v, g1, (hext e).conc hr, g3.below.below⟩
def noTbl (_ : FuncId) (_ : List AV) (_ : AMem) : Option (AV × AMem) := none
theorem noTbl_ok [Val] (P : Program) : TblOk P noTbl := fun _ _ _ _ _ h => by cases h
end Go.Vx
