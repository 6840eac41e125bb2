/- Reasoning about our machine's runs at values that are not known. -/
import Derived.Test.YtpbejdlpkpehlaaVx16
namespace Go.Vx

namespace Tr
variable {α : Type}
theorem get_set_self {t : Tr α} {n : Nat} {x : α} (h : (t.get n).isSome = true) : (t.set n x).get n = some x := by
  rw [get_set t n x n h, if_pos rfl]
theorem get_set_ne {t : Tr α} {n m : Nat} {x : α} (hne : m ≠ n) : (t.set n x).get m = t.get m := by
  cases h : t.get n with
  | none => rw [set_none t n x h]
  | some v => rw [get_set t n x m (by rw [h]; rfl), if_neg hne]
theorem isSome_set {t : Tr α} {n m : Nat} {x : α} : ((t.set n x).get m).isSome = (t.get m).isSome := by
  by_cases hne : m = n
  · subst hne
    cases h : t.get m with
    | none => rw [set_none t m x h, h]
    | some v => rw [get_set_self (by rw [h]; rfl)]; rfl
  · rw [get_set_ne hne]
end Tr

/-- so many temporaries there are -/
def Dom (t : Tr AV) (n : Nat) : Prop := ∀ i, (t.get i).isSome = decide (i < n)
theorem Dom.set {t : Tr AV} {n : Nat} (h : Dom t n) (i : Nat) (v : AV) : Dom (t.set i v) n := fun j => by rw [Tr.isSome_set, h j]

/-- the answer of a piece of code -/
def W (r : Option (PEx × Tr AV × AMem)) (Q : PEx → Tr AV → AMem → Prop) : Prop := ∃ x t' M', r = some (x, t', M') ∧ Q x t' M'
theorem W_some {x : PEx} {t : Tr AV} {M : AMem} {Q : PEx → Tr AV → AMem → Prop} : W (some (x, t, M)) Q ↔ Q x t M := by
  constructor
  · rintro ⟨x', t', M', h, hq⟩; cases h; exact hq
  · intro h; exact ⟨_, _, _, rfl, h⟩
theorem W.mono {r : Option (PEx × Tr AV × AMem)} {Q Q' : PEx → Tr AV → AMem → Prop} (h : W r Q) (hq : ∀ x t M, Q x t M → Q' x t M) : W r Q' := by
  obtain ⟨x, t, M, h1, h2⟩ := h; exact ⟨x, t, M, h1, hq _ _ _ h2⟩
section
variable {call : FuncId → List AV → AMem → Option (AV × AMem)} {N : Nat} {t : Tr AV} {M : AMem} {Q : PEx → Tr AV → AMem → Prop}
/-- what comes behind code that ends so -/
def Then (Q : PEx → Tr AV → AMem → Prop) (next : Tr AV → AMem → Prop) : PEx → Tr AV → AMem → Prop
  | .normal => next
  | x => Q x
def Out (id : Nat) (Q : PEx → Tr AV → AMem → Prop) : PEx → Tr AV → AMem → Prop
  | .exit id' => fun t M => if id' = id then Q .normal t M else Q (.exit id') t M
  | x => Q x
theorem W_skip (h : Q .normal t M) : W (exec call N .skip t M) Q := ⟨_, _, _, rfl, h⟩
theorem W_ret (h : Q .ret t M) : W (exec call N .ret t M) Q := ⟨_, _, _, rfl, h⟩
theorem W_exit {id : Nat} (h : Q (.exit id) t M) : W (exec call N (.exit id) t M) Q := ⟨_, _, _, rfl, h⟩
theorem W_seq {a b : PCode} (h : W (exec call N a t M) (Then Q fun t' M' => W (exec call N b t' M') Q)) : W (exec call N (.seq a b) t M) Q := by
  obtain ⟨x, t', M', h1, h2⟩ := h
  simp only [exec, h1]
  cases x with
  | normal => exact h2
  | exit id => exact ⟨_, _, _, rfl, h2⟩
  | ret => exact ⟨_, _, _, rfl, h2⟩
theorem W_seqR {ps : List PInstr} {t' : Tr AV} {M' : AMem} (h : runSeq call ps t M = some (t', M')) (hq : Q .normal t' M') : W (exec call N (.seqR ps) t M) Q := by
  refine ⟨_, _, _, ?_, hq⟩
  simp only [exec, h]
theorem W_drawR {ds : List DInstr} {t' : Tr AV} {M' : AMem} (h : runDraw call ds t M = some (t', M')) (hq : Q .normal t' M') : W (exec call N (.drawR ds) t M) Q := by
  refine ⟨_, _, _, ?_, hq⟩
  simp only [exec, h]
theorem W_cond {c : PArg} {x y : PCode} {b : Bool} (hb : c.eval t = some (.bool b)) (h1 : b = true → W (exec call N x t M) Q) (h2 : b = false → W (exec call N y t M) Q) : W (exec call N (.cond c x y) t M) Q := by
  cases b with
  | true =>
    obtain ⟨x', t', M', h, hq⟩ := h1 rfl
    exact ⟨x', t', M', by simp only [exec, hb]; exact h, hq⟩
  | false =>
    obtain ⟨x', t', M', h, hq⟩ := h2 rfl
    exact ⟨x', t', M', by simp only [exec, hb]; exact h, hq⟩
theorem W_block {id : Nat} {c : PCode} (h : W (exec call N c t M) (Out id Q)) : W (exec call N (.block id c) t M) Q := by
  obtain ⟨x, t', M', h1, h2⟩ := h
  simp only [exec, h1]
  cases x with
  | normal => exact ⟨_, _, _, rfl, h2⟩
  | exit id' =>
    simp only [Out] at h2
    split at h2
    · rename_i he; simp only [if_pos he]; exact ⟨_, _, _, rfl, h2⟩
    · rename_i he; simp only [if_neg he]; exact ⟨_, _, _, rfl, h2⟩
  | ret => exact ⟨_, _, _, rfl, h2⟩
/-- A loop: what holds ahead of each round; 'k' rounds are left at most. -/
theorem W_loop {c : PCode} (I : Nat → Tr AV → AMem → Prop) {k : Nat} (hk : k < N) (h0 : I k t M)
    (hr : ∀ k t M, I k t M → W (exec call N c t M) (Then Q fun t' M' => ∃ k', k' < k ∧ I k' t' M')) : W (exec call N (.loop c) t M) Q := by
  show W (iter (exec call N c) N t M) Q
  have key : ∀ (n k : Nat) (t : Tr AV) (M : AMem), k < n → I k t M → W (iter (exec call N c) n t M) Q := by
    intro n
    induction n with
    | zero => intro k t M hk; omega
    | succ n ih =>
      intro k t M hk hI
      obtain ⟨x, t', M', h1, h2⟩ := hr k t M hI
      simp only [iter, h1]
      cases x with
      | normal =>
        obtain ⟨k', hk', hI'⟩ := h2
        exact ih k' t' M' (by omega) hI'
      | exit id => exact ⟨_, _, _, rfl, h2⟩
      | ret => exact ⟨_, _, _, rfl, h2⟩
  exact key N k t M hk h0
end

theorem runSeq_cons {call : FuncId → List AV → AMem → Option (AV × AMem)} {op : PI} {args : List PArg} {dst : Option Nat} {ps : List PInstr} {t : Tr AV} {M : AMem} :
    runSeq call (⟨op, args, dst, none⟩ :: ps) t M = match evalArgs t args with
      | some avs => match val1 call op avs M with
        | some (v, M') => runSeq call ps (putT t dst v) M'
        | none => none
      | none => none := by
  simp only [runSeq, wantedA, if_true]
  cases evalArgs t args with
  | none => rfl
  | some avs => simp only; cases val1 call op avs M <;> rfl
theorem runSeq_nil {call : FuncId → List AV → AMem → Option (AV × AMem)} {t : Tr AV} {M : AMem} : runSeq call [] t M = some (t, M) := rfl
theorem runSeq_guard {call : FuncId → List AV → AMem → Option (AV × AMem)} {op : PI} {args : List PArg} {dst : Option Nat} {ps : List PInstr} {t : Tr AV} {M : AMem} {m : Nat} {want b : Bool} (h : t.get m = some (.bool b)) :
    runSeq call (⟨op, args, dst, some (m, want)⟩ :: ps) t M = match b == want with
      | true => runSeq call (⟨op, args, dst, none⟩ :: ps) t M
      | false => runSeq call ps (putT t dst undefA) M := by
  cases hb : (b == want) <;> simp only [runSeq, wantedA, h, hb, if_true, Bool.false_eq_true, if_false]
/-- A region whose order is open, of reads alone. -/
def quietD (ds : List DInstr) : Bool := ds.all fun d => !d.eff && !d.fl && d.lo == d.hi
def ofD (ds : List DInstr) : List PInstr := ds.map (·.p)
def runPure (M : AMem) : List PInstr → Tr AV → Option (Tr AV)
  | [], t => some t
  | p :: ps, t =>
    if wantedA p t then
      match evalArgs t p.args with
      | some avs => match opI p.op avs M with
        | some (.val v M') => if M'.n = M.n then runPure M ps (putT t p.dst v) else none
        | _ => none
      | none => none
    else runPure M ps (putT t p.dst undefA)
theorem runPure_nil {t : Tr AV} {M : AMem} : runPure M [] t = some t := rfl
def sameN (n m : Nat) : Bool := n == m
theorem sameN_self {n : Nat} : sameN n n = true := by simp [sameN]
theorem runPure_cons {op : PI} {args : List PArg} {dst : Option Nat} {ps : List PInstr} {t : Tr AV} {M : AMem} :
    runPure M (⟨op, args, dst, none⟩ :: ps) t = match evalArgs t args with
      | some avs => match opI op avs M with
        | some (.val v M') => match sameN M'.n M.n with
          | true => runPure M ps (putT t dst v)
          | false => none
        | _ => none
      | none => none := by
  simp only [runPure, wantedA, if_true, sameN]
  cases evalArgs t args with
  | none => rfl
  | some avs =>
    simp only
    cases opI op avs M with
    | none => rfl
    | some r =>
      cases r with
      | call f as => rfl
      | val v M' =>
        simp only
        by_cases h : M'.n = M.n
        · rw [if_pos h, show (M'.n == M.n) = true by simpa using h]
        · rw [if_neg h, show (M'.n == M.n) = false by simpa using h]
theorem runPure_guard {op : PI} {args : List PArg} {dst : Option Nat} {ps : List PInstr} {t : Tr AV} {M : AMem} {m : Nat} {want b : Bool} (h : t.get m = some (.bool b)) :
    runPure M (⟨op, args, dst, some (m, want)⟩ :: ps) t = match b == want with
      | true => runPure M (⟨op, args, dst, none⟩ :: ps) t
      | false => runPure M ps (putT t dst undefA) := by
  cases hb : (b == want) <;> simp only [runPure, wantedA, h, hb, if_true, Bool.false_eq_true, if_false]
theorem trace_quiet {call : FuncId → List AV → AMem → Option (AV × AMem)} {M : AMem} {n0 : Nat} : ∀ {ds : List DInstr} {t t' : Tr AV}, quietD ds = true → runPure M (ofD ds) t = some t' →
    ∃ rs, trace call n0 ds t M = some (rs, [M], t') ∧ rs.all (checkRec [M]) = true
  | [], t, t', _, h => by
    simp only [ofD, List.map_nil, runPure_nil, Option.some.injEq] at h; subst h
    exact ⟨[], rfl, rfl⟩
  | d :: ds, t, t', hq, h => by
    simp only [quietD, List.all_cons, Bool.and_eq_true, Bool.not_eq_true', beq_iff_eq] at hq
    obtain ⟨⟨⟨he, hf⟩, hl⟩, hq⟩ := hq
    have hds : quietD ds = true := by unfold quietD; simpa using hq
    simp only [ofD, List.map_cons, runPure] at h
    simp only [trace]
    cases hw : wantedA d.p t with
    | true =>
      simp only [hw, if_true] at h ⊢
      cases hv : evalArgs t d.p.args with
      | none => rw [hv] at h; cases h
      | some avs =>
        simp only [hv] at h ⊢
        simp only [he, Bool.false_eq_true, if_false]
        cases ho : opI d.p.op avs M with
        | none => rw [ho] at h; cases h
        | some r =>
          cases r with
          | call f as => rw [ho] at h; cases h
          | val v M' =>
            simp only [ho] at h ⊢
            split at h
            · rename_i hn
              rw [if_pos hn]
              obtain ⟨rs, g1, g2⟩ := trace_quiet (call := call) (n0 := n0) hds h
              rw [g1]
              refine ⟨_, rfl, ?_⟩
              simp only [List.all_cons, g2, Bool.and_true, checkRec, hl, beq_self_eq_true, Bool.or_true, Bool.true_or]
            · cases h
    | false =>
      simp only [hw, Bool.false_eq_true, if_false] at h ⊢
      obtain ⟨rs, g1, g2⟩ := trace_quiet (call := call) (n0 := n0) hds h
      rw [g1]
      simp only [he, Bool.false_eq_true, if_false]
      refine ⟨_, rfl, ?_⟩
      simp only [List.all_cons, g2, Bool.and_true, checkRec]
theorem runDraw_quiet {call : FuncId → List AV → AMem → Option (AV × AMem)} {M : AMem} {ds : List DInstr} {t t' : Tr AV} (hq : quietD ds = true) (h : runPure M (ofD ds) t = some t') : runDraw call ds t M = some (t', M) := by
  have hany : ds.any (·.fl) = false := by
    unfold quietD at hq
    rw [List.any_eq_false]
    intro d hd
    have := List.all_eq_true.1 hq d hd
    simp only [Bool.and_eq_true, Bool.not_eq_true'] at this
    simp [this.1.2]
  obtain ⟨rs, g1, g2⟩ := trace_quiet (call := call) (n0 := M.n) hq h
  simp only [runDraw, hany, Bool.false_eq_true, if_false, g1, g2, if_true, List.getLast?_singleton]
theorem W_quiet {call : FuncId → List AV → AMem → Option (AV × AMem)} {N : Nat} {Q : PEx → Tr AV → AMem → Prop} {M : AMem} {ds : List DInstr} {t t' : Tr AV} (hq : quietD ds = true) (h : runPure M (ofD ds) t = some t') (hQ : Q .normal t' M) :
    W (exec call N (.drawR ds) t M) Q := W_drawR (runDraw_quiet hq h) hQ
theorem ofD_nil : ofD [] = [] := rfl
theorem ofD_cons {p : PInstr} {a b : Bool} {lo hi : Nat} {ds : List DInstr} : ofD (⟨p, a, b, lo, hi⟩ :: ds) = p :: ofD ds := rfl

/-- A region of reads and calls, of which each read stands at one place. -/
def mixD (ds : List DInstr) : Bool := ds.all fun d => !d.fl && (d.eff || d.lo == d.hi)
def runMix (call : FuncId → List AV → AMem → Option (AV × AMem)) (n0 : Nat) : List DInstr → Tr AV → AMem → Option (Tr AV × AMem)
  | [], t, M => some (t, M)
  | d :: ds, t, M =>
    if wantedA d.p t then
      match evalArgs t d.p.args with
      | some avs =>
        if d.eff then
          if isHeld (M.get n0) then none else match val1 call d.p.op avs M with
            | some (v, M') => runMix call n0 ds (putT t d.p.dst v) M'
            | none => none
        else match opI d.p.op avs M with
          | some (.val v M') => if M'.n = M.n then runMix call n0 ds (putT t d.p.dst v) M else none
          | _ => none
      | none => none
    else runMix call n0 ds (putT t d.p.dst undefA) M
theorem runMix_nil {call : FuncId → List AV → AMem → Option (AV × AMem)} {n0 : Nat} {t : Tr AV} {M : AMem} : runMix call n0 [] t M = some (t, M) := rfl
theorem runMix_read {call : FuncId → List AV → AMem → Option (AV × AMem)} {n0 : Nat} {op : PI} {args : List PArg} {dst : Option Nat} {fl : Bool} {lo hi : Nat} {ds : List DInstr} {t : Tr AV} {M : AMem} :
    runMix call n0 (⟨⟨op, args, dst, none⟩, false, fl, lo, hi⟩ :: ds) t M = match evalArgs t args with
      | some avs => match opI op avs M with
        | some (.val v M') => match sameN M'.n M.n with
          | true => runMix call n0 ds (putT t dst v) M
          | false => none
        | _ => none
      | none => none := by
  simp only [runMix, wantedA, if_true, sameN, Bool.false_eq_true, if_false]
  cases evalArgs t args with
  | none => rfl
  | some avs =>
    simp only
    rcases opI op avs M with _ | ⟨v, M'⟩ | ⟨f, as⟩
    · rfl
    · simp only
      by_cases h : M'.n = M.n
      · rw [if_pos h, show (M'.n == M.n) = true by simpa using h]
      · rw [if_neg h, show (M'.n == M.n) = false by simpa using h]
    · rfl
theorem runMix_eff {call : FuncId → List AV → AMem → Option (AV × AMem)} {n0 : Nat} {op : PI} {args : List PArg} {dst : Option Nat} {fl : Bool} {lo hi : Nat} {ds : List DInstr} {t : Tr AV} {M : AMem} :
    runMix call n0 (⟨⟨op, args, dst, none⟩, true, fl, lo, hi⟩ :: ds) t M = match evalArgs t args with
      | some avs => match isHeld (M.get n0) with
        | true => none
        | false => match val1 call op avs M with
          | some (v, M') => runMix call n0 ds (putT t dst v) M'
          | none => none
      | none => none := by
  simp only [runMix, wantedA, if_true]
  cases evalArgs t args with
  | none => rfl
  | some avs =>
    simp only
    cases isHeld (M.get n0) with
    | false =>
      simp only [Bool.false_eq_true, if_false]
      try (cases val1 call op avs M <;> rfl)
    | true => rfl
theorem runMix_guard {call : FuncId → List AV → AMem → Option (AV × AMem)} {n0 : Nat} {op : PI} {args : List PArg} {dst : Option Nat} {e fl : Bool} {lo hi : Nat} {ds : List DInstr} {t : Tr AV} {M : AMem} {m : Nat} {want b : Bool} (h : t.get m = some (.bool b)) :
    runMix call n0 (⟨⟨op, args, dst, some (m, want)⟩, e, fl, lo, hi⟩ :: ds) t M = match b == want with
      | true => runMix call n0 (⟨⟨op, args, dst, none⟩, e, fl, lo, hi⟩ :: ds) t M
      | false => runMix call n0 ds (putT t dst undefA) M := by
  cases hb : (b == want) <;> simp only [runMix, wantedA, h, hb, if_true, Bool.false_eq_true, if_false]
theorem trace_mix {call : FuncId → List AV → AMem → Option (AV × AMem)} {n0 : Nat} : ∀ {ds : List DInstr} {t t' : Tr AV} {M M' : AMem}, mixD ds = true → runMix call n0 ds t M = some (t', M') →
    ∃ rs ms, trace call n0 ds t M = some (rs, ms, t') ∧ (∀ ms', rs.all (checkRec ms') = true) ∧ ms.getLast? = some M'
  | [], t, t', M, M', _, h => by
    simp only [runMix_nil, Option.some.injEq, Prod.mk.injEq] at h
    obtain ⟨rfl, rfl⟩ := h
    exact ⟨[], [M], rfl, fun _ => rfl, rfl⟩
  | d :: ds, t, t', M, M', hq, h => by
    simp only [mixD, List.all_cons, Bool.and_eq_true, Bool.not_eq_true'] at hq
    obtain ⟨⟨hf, hl⟩, hq⟩ := hq
    have hds : mixD ds = true := by unfold mixD; exact hq
    have hrec : ∀ ms' avs v, checkRec ms' ⟨d, avs, v⟩ = true := by
      intro ms' avs v
      unfold checkRec
      cases avs with
      | none => rfl
      | some avs => simp only; rcases Bool.or_eq_true_iff.1 hl with h | h <;> simp [h]
    have last : ∀ (ms : List AMem) (M0 M1 : AMem), ms.getLast? = some M1 → (M0 :: ms).getLast? = some M1 := by
      intro ms M0 M1 hm
      cases ms with
      | nil => simp at hm
      | cons a l => rw [List.getLast?_cons_cons]; exact hm
    simp only [runMix] at h
    simp only [trace]
    cases hw : wantedA d.p t with
    | true =>
      simp only [hw, if_true] at h ⊢
      cases hv : evalArgs t d.p.args with
      | none => rw [hv] at h; cases h
      | some avs =>
        simp only [hv] at h ⊢
        cases he : d.eff with
        | true =>
          simp only [he, if_true] at h ⊢
          simp only [step1, hf, Bool.false_eq_true, if_false]
          cases hh : isHeld (M.get n0) with
          | true => rw [hh] at h; simp at h
          | false =>
            simp only [hh, Bool.false_eq_true, if_false] at h
            cases hv1 : val1 call d.p.op avs M with
            | none => rw [hv1] at h; cases h
            | some q =>
              obtain ⟨v, M1⟩ := q
              simp only [hv1] at h ⊢
              simp only [Bool.false_and, Bool.false_eq_true, if_false]
              obtain ⟨rs, ms, g1, g2, g3⟩ := trace_mix hds h
              rw [g1]
              exact ⟨_, _, rfl, fun ms' => by simp only [List.all_cons, hrec, g2, Bool.and_self], last _ _ _ g3⟩
        | false =>
          simp only [he, Bool.false_eq_true, if_false] at h ⊢
          rcases ho : opI d.p.op avs M with _ | ⟨v, M1⟩ | ⟨f, as⟩
          · rw [ho] at h; cases h
          · simp only [ho] at h ⊢
            split at h
            · rename_i hn
              rw [if_pos hn]
              obtain ⟨rs, ms, g1, g2, g3⟩ := trace_mix hds h
              rw [g1]
              exact ⟨_, _, rfl, fun ms' => by simp only [List.all_cons, hrec, g2, Bool.and_self], g3⟩
            · cases h
          · rw [ho] at h; cases h
    | false =>
      simp only [hw, Bool.false_eq_true, if_false] at h ⊢
      obtain ⟨rs, ms, g1, g2, g3⟩ := trace_mix hds h
      rw [g1]
      refine ⟨_, _, rfl, fun ms' => by simp only [List.all_cons, hrec, g2, Bool.and_self], ?_⟩
      cases d.eff with
      | true => exact last _ _ _ g3
      | false => exact g3
theorem W_mix {call : FuncId → List AV → AMem → Option (AV × AMem)} {N : Nat} {Q : PEx → Tr AV → AMem → Prop} {M M' : AMem} {ds : List DInstr} {t t' : Tr AV} (hq : mixD ds = true) (h : runMix call M.n ds t M = some (t', M')) (hQ : Q .normal t' M') :
    W (exec call N (.drawR ds) t M) Q := by
  refine W_drawR ?_ hQ
  have hany : ds.any (·.fl) = false := by
    unfold mixD at hq
    rw [List.any_eq_false]
    intro d hd
    have := List.all_eq_true.1 hq d hd
    simp only [Bool.and_eq_true, Bool.not_eq_true'] at this
    simp [this.1]
  obtain ⟨rs, ms, g1, g2, g3⟩ := trace_mix hq h
  simp only [runDraw, hany, Bool.false_eq_true, if_false, g1, g2, if_true, g3]

/-- The answer of a call: 'P' of the value and the memory behind. -/
def Ans (call : FuncId → List AV → AMem → Option (AV × AMem)) (f : FuncId) (args : List AV) (M : AMem) (P : AV → AMem → Prop) : Prop := ∃ r M', call f args M = some (r, M') ∧ P r M'
/-- behind a function's body -/
def Fin (fn : PFn) (P : AV → AMem → Prop) : PEx → Tr AV → AMem → Prop
  | .exit _, _, _ => False
  | _, t, M => ∃ vs, resIs t M fn.res = some vs ∧ P (resV vs) M
theorem Ans_of {tbl : FuncId → List AV → AMem → Option (AV × AMem)} {code : FuncId → Option PFn} {N d : Nat} {f : FuncId} {args : List AV} {M : AMem} {P : AV → AMem → Prop} {n : Nat} {body : PCode} {res : List PRes}
    (ht : ∀ M, tbl f args M = none) (hc : code f = some ⟨n, Tr.ofList (List.replicate n undefA), body, res⟩) (hn : args.length ≤ n)
    (h : ∀ t : Tr AV, Dom t n → (∀ i v, args[i]? = some v → t.get i = some v) → W (exec (callF tbl code N d) N body t M) (Fin ⟨n, Tr.ofList (List.replicate n undefA), body, res⟩ P)) :
    Ans (callF tbl code N (d + 1)) f args M P := by
  have hb : ∀ j : Nat, j < args.length → ((Tr.ofList (List.replicate n undefA)).get (0 + j)).isSome = true := fun j hj => by
    rw [Tr.ofList_get]; simp; omega
  have hget : ∀ m, (setArgs (Tr.ofList (List.replicate n undefA)) 0 args).get m = if m < args.length then args[m]? else (Tr.ofList (List.replicate n undefA)).get m := by
    intro m
    have hone : ∀ (vs : List AV) (t : Tr AV) (i m : Nat), (∀ j : Nat, j < vs.length → (t.get (i + j)).isSome = true) → (setArgs t i vs).get m = if i ≤ m ∧ m < i + vs.length then vs[m - i]? else t.get m := by
      intro vs t i m h
      letI : Val := ⟨fun _ => 0, fun _ => undef, fun _ => none⟩
      exact setArgs_get vs t i m h
    rw [hone args _ 0 m hb]; simp
  have hD : Dom (setArgs (Tr.ofList (List.replicate n undefA)) 0 args) n := fun i => by
    rw [hget]
    split
    · rename_i hi; rw [List.getElem?_eq_getElem hi]; simp; omega
    · rw [Tr.ofList_get]; simp [List.getElem?_replicate]
      split <;> simp_all
  obtain ⟨x, t', M', h1, h2⟩ := h _ hD (fun i v hi => by
    rw [hget, if_pos (List.getElem?_eq_some_iff.1 hi).1]; exact hi)
  simp only [Ans, callF, ht, stepF, hc, if_pos hn, h1]
  cases x with
  | exit id => exact absurd h2 (by simp [Fin])
  | normal => obtain ⟨vs, h3, h4⟩ := h2; simp only at h3; simp only [h3]; exact ⟨_, _, rfl, h4⟩
  | ret => obtain ⟨vs, h3, h4⟩ := h2; simp only at h3; simp only [h3]; exact ⟨_, _, rfl, h4⟩
theorem fin_tmp {t : Tr AV} {M : AMem} {i : Nat} {v : AV} (h : t.get i = some v) : resIs t M [.tmp i] = some [v] := by simp [resIs, resI, h]
theorem fin_tmp2 {t : Tr AV} {M : AMem} {i j : Nat} {v u : AV} (h : t.get i = some v) (k : t.get j = some u) : resIs t M [.tmp i, .tmp j] = some [v, u] := by simp [resIs, resI, h, k]
theorem evalArgs_nil {t : Tr AV} : evalArgs t [] = some [] := rfl
theorem evalArgs_tmp {t : Tr AV} {i : Nat} {xs : List PArg} : evalArgs t (.tmp i :: xs) = match t.get i with
    | some a => match evalArgs t xs with
      | some b => some (a :: b)
      | none => none
    | none => none := by
  simp only [evalArgs, PArg.eval]
  cases t.get i <;> simp <;> cases evalArgs t xs <;> rfl
theorem evalArgs_const {t : Tr AV} {a : AV} {xs : List PArg} : evalArgs t (.const a :: xs) = match evalArgs t xs with
    | some b => some (a :: b)
    | none => none := by
  simp only [evalArgs, PArg.eval]
  cases evalArgs t xs <;> rfl
theorem opI_move {v : AV} {M : AMem} : opI .move [v] M = some (.val v M) := rfl
theorem opI_pick {c : Bool} {a b : AV} {M : AMem} : opI .pick [.bool c, a, b] M = some (.val (match c with | true => a | false => b) M) := by cases c <;> rfl
theorem opI_not {b : Bool} {M : AMem} : opI .not [.bool b] M = some (.val (.bool (!b)) M) := rfl
theorem opI_lss {k : IntKind} {a b : Int} {M : AMem} : opI (.bin .lss) [.int k a, .int k b] M = some (.val (.bool (decide (a < b))) M) := by
  simp [opI, binI, intI]
theorem opI_leq {k : IntKind} {a b : Int} {M : AMem} : opI (.bin .leq) [.int k a, .int k b] M = some (.val (.bool (decide (a ≤ b))) M) := by
  simp [opI, binI, intI]
theorem opI_gtr {k : IntKind} {a b : Int} {M : AMem} : opI (.bin .gtr) [.int k a, .int k b] M = some (.val (.bool (decide (a > b))) M) := by
  simp [opI, binI, intI]
theorem opI_geq {k : IntKind} {a b : Int} {M : AMem} : opI (.bin .geq) [.int k a, .int k b] M = some (.val (.bool (decide (a ≥ b))) M) := by
  simp [opI, binI, intI]
theorem opI_neq {k : IntKind} {a b : Int} {M : AMem} : opI (.bin .neq) [.int k a, .int k b] M = some (.val (.bool (a != b)) M) := by
  simp [opI, binI, intI]
theorem opI_eql {k : IntKind} {a b : Int} {M : AMem} : opI (.bin .eql) [.int k a, .int k b] M = some (.val (.bool (a == b)) M) := by
  simp [opI, binI, intI]
theorem opI_add {k : IntKind} {a b : Int} {M : AMem} : opI (.bin .add) [.int k a, .int k b] M = some (.val (.int k (wrapF k (a + b))) M) := by
  simp [opI, binI, intI]
theorem opI_sub {k : IntKind} {a b : Int} {M : AMem} : opI (.bin .sub) [.int k a, .int k b] M = some (.val (.int k (wrapF k (a - b))) M) := by
  simp [opI, binI, intI]
theorem opI_eqBool {a b : Bool} {neg : Bool} {M : AMem} : opI (.eqBool neg) [.bool a, .bool b] M = some (.val (.bool (xorB neg (a == b))) M) := rfl
theorem opI_extract {i : Nat} {vs : List AV} {M : AMem} : opI (.extract i) [.tuple vs] M = match vs[i]? with
    | some v => some (.val v M)
    | none => none := rfl
theorem opI_callF {f : FuncId} {vs : List AV} {M : AMem} : opI (.callF f) vs M = some (.call f vs) := by cases vs <;> rfl
theorem opI_mkFunc {fn : Fn} {n : Nat} {vs : List AV} {M : AMem} : opI (.mkFunc fn n) vs M = some (.val (.func fn (vs.take n) (vs.drop n)) M) := by cases vs <;> rfl
theorem opI_callV {f : FuncId} {a b vs : List AV} {M : AMem} : opI .callV (.func (.func f) a b :: vs) M = some (.call f (a ++ vs ++ b)) := rfl
theorem opI_new {cs : List AV} {M : AMem} : opI (.new cs) [] M = some (.val (.ptr (some (M.n, 0))) (M.push (.cells cs 0 true none))) := rfl
theorem opI_box {v : AV} {M : AMem} : opI .box [v] M = some (.val (.ptr (some (M.n, 0))) (M.push (.cells v.cells 0 true none))) := rfl
theorem opI_lenR {a : Option Addr} {n c : Nat} {M : AMem} : opI .lenS [.rslice a n c] M = some (.val (.int .i64 n) M) := rfl
theorem opI_lenO {a : Option (Nat × Nat)} {n c : Nat} {g : Bool} {M : AMem} : opI .lenS [.slice a n c g] M = some (.val (.int .i64 n) M) := rfl
theorem opI_fieldR {off : Nat} {a : Addr} {M : AMem} : opI (.fieldAddr off) [.rptr (some a)] M = some (.val (.rptr (some (a.add off))) M) := rfl
theorem opI_fieldP {off b o : Nat} {M : AMem} : opI (.fieldAddr off) [.ptr (some (b, o))] M = some (.val (.ptr (some (b, o + off))) M) := rfl
theorem wrapF_small {n : Int} (h1 : 0 ≤ n) (h2 : n < 9223372036854775808) : wrapF .i64 n = n := by
  unfold wrapF; simp only; split <;> omega

/-! Memory that grows. -/
def Ok (M : AMem) : Prop := M.t.Full M.n
theorem Ok.nil {g : Addr → Option AV} : Ok ⟨.nil, 0, g⟩ := fun i => by simp [Tr.get]
theorem Ok.push {M : AMem} (h : Ok M) (k : ABlk) : Ok (M.push k) := Tr.full_push h k
theorem get_push_self {M : AMem} {k : ABlk} (h : Ok M) : (M.push k).get M.n = some k := by
  show (M.t.push M.n k).get M.n = _
  rw [Tr.get_push M.t M.n k M.n h, if_pos rfl]
theorem get_push_old {M : AMem} {k : ABlk} (h : Ok M) {b : Nat} (hb : b < M.n) : (M.push k).get b = M.get b := by
  show (M.t.push M.n k).get b = _
  rw [Tr.get_push M.t M.n k b h, if_neg (by omega)]; rfl
/-- What was there is there as before. -/
structure Grow (M M' : AMem) : Prop where
  n : M.n ≤ M'.n
  get : ∀ b, b < M.n → M'.get b = M.get b
  g : M'.g = M.g
  ok : Ok M → Ok M'
theorem Grow.refl (M : AMem) : Grow M M := ⟨Nat.le_refl _, fun _ _ => rfl, rfl, fun h => h⟩
theorem Grow.trans {A B C : AMem} (h : Grow A B) (k : Grow B C) : Grow A C :=
  ⟨Nat.le_trans h.n k.n, fun b hb => (k.get b (Nat.lt_of_lt_of_le hb h.n)).trans (h.get b hb), k.g.trans h.g, fun ho => k.ok (h.ok ho)⟩
theorem Grow.push {M : AMem} (h : Ok M) (k : ABlk) : Grow M (M.push k) :=
  ⟨by show M.n ≤ M.n + 1; omega, fun _ hb => get_push_old h hb, rfl, fun h => h.push k⟩
theorem push_n {M : AMem} {k : ABlk} : (M.push k).n = M.n + 1 := rfl
theorem push_g {M : AMem} {k : ABlk} : (M.push k).g = M.g := rfl
theorem load_own {M : AMem} {b o : Nat} {cs : List AV} {sz : Nat} {wr : Bool} {g : Option Nat} {v : AV} (h : M.get b = some (.cells cs sz wr g)) (hv : cs[o]? = some v) : opI (.load false 1) [.ptr (some (b, o))] M = some (.val v M) := by
  have hlt : o < cs.length := (List.getElem?_eq_some_iff.1 hv).1
  have hd : (cs.drop o).take 1 = [v] := by
    rw [List.drop_eq_getElem_cons hlt]
    rw [List.getElem?_eq_getElem hlt] at hv; cases hv; rfl
  simp only [opI, AMem.loadCells, h, Bool.false_eq_true, if_false]
  rw [if_pos (by omega), hd]
theorem loads_own {M : AMem} {b o n : Nat} {cs : List AV} {sz : Nat} {wr : Bool} {g : Option Nat} (h : M.get b = some (.cells cs sz wr g)) (hv : o + n ≤ cs.length) : opI (.load true n) [.ptr (some (b, o))] M = some (.val (.agg ((cs.drop o).take n)) M) := by
  simp only [opI, AMem.loadCells, h, if_true]
  rw [if_pos hv]
theorem addr_add0 {a : Addr} : a.add 0 = a := by obtain ⟨b, o, r⟩ := a; unfold Addr.add; cases r <;> simp
theorem cells_agg {l : List AV} : AV.cells (.agg l) = l := rfl
theorem load_in {M : AMem} {p : Addr} {v : AV} (h : M.g p = some v) : opI (.load false 1) [.rptr (some p)] M = some (.val v M) := by
  simp only [opI, AMem.loadG, Bool.false_eq_true, if_false]
  have : mapO (fun j => M.g (p.add j)) (List.range 1) = some [v] := by
    show mapO (fun j => M.g (p.add j)) [0] = _
    simp [mapO, addr_add0, h]
  rw [this]
theorem loads_in3 {M : AMem} {p : Addr} {u v w : AV} (h0 : M.g p = some u) (h1 : M.g (p.add 1) = some v) (h2 : M.g (p.add 2) = some w) : opI (.load true 3) [.rptr (some p)] M = some (.val (.agg [u, v, w]) M) := by
  simp only [opI, AMem.loadG, if_true]
  have : mapO (fun j => M.g (p.add j)) (List.range 3) = some [u, v, w] := by
    show mapO (fun j => M.g (p.add j)) [0, 1, 2] = _
    simp [mapO, addr_add0, h0, h1, h2]
  rw [this]
theorem index_in {M : AMem} {sz : Nat} {a : Addr} {n c i : Nat} (h : i < n) : opI (.indexAddrS sz) [.rslice (some a) n c, .int .i64 i] M = some (.val (.rptr (some (a.add (i * sz)))) M) := by
  simp only [opI]
  rw [if_pos ⟨by omega, by omega⟩]; simp
/-- What came in, as the machine reads it. -/
def ofR : Value → Option AV
  | .bool b => some (.bool b)
  | .int k n => some (.int k n)
  | .string s => some (.str s)
  | .pointer p => some (.rptr p)
  | .slice p n c => some (.rslice p n c)
  | .nilFunc => some .nilFunc
  | .nilIface => some .nilIface
  | _ => none
theorem ofR_conc [Val] {e : Env} {v : Value} {a : AV} (h : ofR v = some a) : conc e a = some v := by
  cases v <;> simp [ofR] at h <;> (subst h; simp [conc])
def readG (W : World) (a : Addr) : Option AV := if a.block < W.heap.size then (W.cell? a).bind ofR else none
theorem readG_ro [Val] (W : World) (h : Val.g = readG W) : Ro W := fun a v ha => by
  rw [h] at ha
  unfold readG at ha
  split at ha
  · rename_i hlt
    cases hc : W.cell? a with
    | none => rw [hc] at ha; cases ha
    | some c => rw [hc] at ha; exact ⟨hlt, c, ofR_conc ha, rfl⟩
  · cases ha
theorem readG_at {W : World} {a : Addr} {v : Value} {x : AV} (h : W.cell? a = some v) (hx : ofR v = some x) : readG W a = some x := by
  have hlt : a.block < W.heap.size := by
    unfold World.cell? at h
    cases hh : W.heap[a.block]? with
    | none => rw [hh] at h; cases h
    | some o => exact (Array.getElem?_eq_some_iff.1 hh).1
  unfold readG
  rw [if_pos hlt, h]; exact hx
theorem Ans.eq {call : FuncId → List AV → AMem → Option (AV × AMem)} {F : FuncId} {args : List AV} {M M' : AMem} {r : AV} (h : Ans call F args M fun r' M'' => M'' = M' ∧ r' = r) : call F args M = some (r, M') := by
  obtain ⟨_, _, h1, rfl, rfl⟩ := h; exact h1
/-- numbers that came in, in a row -/
def RdI (G : Addr → Option AV) (k : IntKind) (v : AV) (n : Nat) (f : Nat → Int) : Prop := ∃ a c, v = .rslice a n c ∧ ∀ i, i < n → ∃ p, a = some p ∧ G (p.add i) = some (.int k (f i))
theorem RdI.len {G : Addr → Option AV} {k : IntKind} {v : AV} {n : Nat} {f : Nat → Int} (h : RdI G k v n f) (M : AMem) : opI .lenS [v] M = some (.val (.int .i64 n) M) := by
  obtain ⟨a, c, rfl, _⟩ := h; rfl
theorem RdI.at_ {G : Addr → Option AV} {k : IntKind} {v : AV} {n : Nat} {f : Nat → Int} (h : RdI G k v n f) {i : Nat} (hi : i < n) : ∃ p : Addr, (∀ M, opI (.indexAddrS 1) [v, .int .i64 i] M = some (.val (.rptr (some p)) M)) ∧ ∀ M : AMem, M.g = G → opI (.load false 1) [.rptr (some p)] M = some (.val (.int k (f i)) M) := by
  obtain ⟨a, c, rfl, hg⟩ := h
  obtain ⟨p, rfl, hp⟩ := hg i hi
  refine ⟨p.add i, fun M => ?_, fun M hM => load_in (by rw [hM]; exact hp)⟩
  have := index_in (M := M) (sz := 1) (a := p) (c := c) hi
  rw [Nat.mul_one] at this; exact this
def eqB (n m : Nat) (f g : Nat → Int) : Bool := decide (n = m ∧ ∀ i, i < n → f i = g i)
theorem held_none {M : AMem} (h : Ok M) : isHeld (M.get M.n) = false := by
  have : M.get M.n = none := by
    cases hg : M.get M.n with
    | none => rfl
    | some k =>
      have := (h M.n).1 (by show (M.get M.n).isSome = true; rw [hg]; rfl)
      omega
  rw [this]; rfl
theorem get_set_mem {M : AMem} {b m : Nat} {k k' : ABlk} (h : M.get b = some k') : (M.set b k).get m = if m = b then some k else M.get m :=
  Tr.get_set M.t b k m (by unfold AMem.get at h; simp [h])
theorem set_n {M : AMem} {b : Nat} {k : ABlk} : (M.set b k).n = M.n := rfl
theorem set_g {M : AMem} {b : Nat} {k : ABlk} : (M.set b k).g = M.g := rfl
theorem Ok.set {M : AMem} (h : Ok M) (b : Nat) (k : ABlk) : Ok (M.set b k) := Tr.full_set h b k
theorem Grow.set {M0 M : AMem} (h : Grow M0 M) {b : Nat} {k' : ABlk} (hb : M0.n ≤ b) (hg : M.get b = some k') (k : ABlk) : Grow M0 (M.set b k) :=
  ⟨h.n, fun c hc => by rw [get_set_mem hg, if_neg (by omega)]; exact h.get c hc, h.g, fun ho => (h.ok ho).set b k⟩
theorem store_own3 {M : AMem} {b : Nat} {a1 a2 a3 x y z : AV} (h : M.get b = some (.cells [a1, a2, a3] 0 true none)) (hx : x.one = true) (hy : y.one = true) (hz : z.one = true) :
    opI (.store 3) [.ptr (some (b, 0)), .agg [x, y, z]] M = some (.val (.tuple []) (M.set b (.cells [x, y, z] 0 true none))) := by
  simp [opI, AV.cells, AMem.storeCells, h, hx, hy, hz, splice]
theorem loads_own3 {M : AMem} {b : Nat} {x y z : AV} {sz : Nat} {wr : Bool} {g : Option Nat} (h : M.get b = some (.cells [x, y, z] sz wr g)) :
    opI (.load true 3) [.ptr (some (b, 0))] M = some (.val (.agg [x, y, z]) M) := loads_own h (by simp)
theorem RdI.one {G : Addr → Option AV} {k : IntKind} {v : AV} {n : Nat} {f : Nat → Int} (h : RdI G k v n f) : v.one = true := by
  obtain ⟨a, c, rfl, _⟩ := h; rfl
end Go.Vx
