/- A run at numbers that are not known: where it parts by one of them an oracle says the way, and the run tells what must hold for that. And what it leaves, as the next call sees it. -/
import Derived.Test.YtldijnabgabehaaVx20
import Derived.Test.YtldijnabgabehaaVx21
import Derived.Test.YtldijnabgabehaaVx31
namespace Go.Vx

/-- how many conditions are known by themselves, then the way at one that isn't; what must hold -/
structure Orc where
  way : List (Nat × Bool)
  owe : List (Bool × Bool)
def Orc.Holds (s : Orc) : Prop := ∀ p ∈ s.owe, p.1 = p.2
def Orc.Le (s s' : Orc) : Prop := ∀ p ∈ s.owe, p ∈ s'.owe
theorem Orc.Le.refl (s : Orc) : s.Le s := fun _ h => h
theorem Orc.Le.trans {a b c : Orc} (h : a.Le b) (k : b.Le c) : a.Le c := fun p hp => k p (h p hp)
theorem Orc.Holds.le {s s' : Orc} (h : s'.Holds) (k : s.Le s') : s.Holds := fun p hp => h p (k p hp)
def ask {β : Type} (b : Bool) (s : Orc) (k : Bool → Orc → β) : β := match s.way with
  | [] => k b s
  | (0, o) :: rest => k o ⟨rest, (b, o) :: s.owe⟩
  | (n + 1, o) :: rest => k b ⟨(n, o) :: rest, s.owe⟩
/-- it went the way that the condition says, if what is owed holds -/
theorem ask_cases {β : Type} (b : Bool) (s : Orc) (k : Bool → Orc → β) : ∃ o s', ask b s k = k o s' ∧ s.Le s' ∧ (s'.Holds → o = b) := by
  unfold ask
  split
  · exact ⟨b, s, rfl, .refl _, fun _ => rfl⟩
  · rename_i o rest _
    exact ⟨o, _, rfl, fun p hp => List.mem_cons_of_mem _ hp, fun h => (h (b, o) (by simp)).symm⟩
  · exact ⟨b, _, rfl, fun p hp => hp, fun _ => rfl⟩

abbrev CallO := FuncId → List AV → AMem → Orc → Option (AV × AMem × Orc)
def SoundO (cO : CallO) (c : FuncId → List AV → AMem → Option (AV × AMem)) : Prop := ∀ f a M s r M' s', cO f a M s = some (r, M', s') → s.Le s' ∧ (s'.Holds → c f a M = some (r, M'))
section
variable (call : CallO)
noncomputable def opO {β : Type} (op : PI) (avs : List AV) (M : AMem) (s : Orc) (k : Option SR → Orc → β) : β := match op, avs with
  | .pick, [.bool c, a, b] => ask c s fun o s => k (some (.val (match o with
    | true => a
    | false => b) M)) s
  | .bin o, avs => k (opI (.bin o) avs M) s
  | .conv o, avs => k (opI (.conv o) avs M) s
  | .unI o, avs => k (opI (.unI o) avs M) s
  | .not, avs => k (opI .not avs M) s
  | op, avs => k (opK op avs M) s
noncomputable def val1O (op : PI) (avs : List AV) (M : AMem) (s : Orc) : Option (AV × AMem × Orc) := opO op avs M s fun r s => match r with
  | some (.val v M') => some (v, M', s)
  | some (.call f args) => call f args M s
  | none => none
noncomputable def doneO (ih : Tr AV → AMem → Orc → Option (Tr AV × AMem × Orc)) (t : Tr AV) (dst : Option Nat) : Option (AV × AMem × Orc) → Option (Tr AV × AMem × Orc)
  | some (v, M', s') => ih (putTK t dst v) M' s'
  | none => none
noncomputable def wantO {β : Type} (p : PInstr) (t : Tr AV) (s : Orc) (k : Bool → Orc → β) : β := match p.guard with
  | none => k true s
  | some (m, want) => match getK t m with
    | some (.bool b) => ask b s fun b s => k (b == want) s
    | _ => k false s
noncomputable def runSeqO : List PInstr → Tr AV → AMem → Orc → Option (Tr AV × AMem × Orc)
  | [], t, M, s => some (t, M, s)
  | p :: ps, t, M, s => wantO p t s fun b s => match b with
    | true => match argsK t p.args with
      | some avs => doneO (runSeqO ps) t p.dst (val1O call p.op avs M s)
      | none => none
    | false => runSeqO ps (putTK t p.dst undefA) M s
noncomputable def step1O (n0 : Nat) (d : DInstr) (avs : List AV) (M : AMem) (s : Orc) : Option (AV × AMem × Orc) := match d.fl with
  | true => match fillI d.p.op avs n0 M with
    | some (v, M') => some (v, M', s)
    | none => none
  | false => match val1O call d.p.op avs M s with
    | some (v, M', s') => if isHeld (M.get n0) && !isHeld (M'.get n0) then none else some (v, M', s')
    | none => none
def recO (d : DInstr) (avs : Option (List AV)) (v : AV) (pre : List AMem) : Option (List Rec × List AMem × Tr AV × Orc) → Option (List Rec × List AMem × Tr AV × Orc)
  | some (rs, ms, t') => some (⟨d, avs, v⟩ :: rs, pre ++ ms, t')
  | none => none
noncomputable def traceO (n0 : Nat) : List DInstr → Tr AV → AMem → Orc → Option (List Rec × List AMem × Tr AV × Orc)
  | [], t, M, s => some ([], [M], t, s)
  | d :: ds, t, M, s => wantO d.p t s fun b s => match b with
    | true => match argsK t d.p.args with
      | some avs => match d.eff with
        | true => match step1O call n0 d avs M s with
          | some (v, M', s') => recO d (some avs) v [M] (traceO n0 ds (putTK t d.p.dst v) M' s')
          | none => none
        | false => opO d.p.op avs M s fun r s => match r with
          | some (.val v M') => if M'.n = M.n then recO d (some avs) v [] (traceO n0 ds (putTK t d.p.dst v) M s) else none
          | _ => none
      | none => none
    | false => recO d none undefA (if d.eff then [M] else []) (traceO n0 ds (putTK t d.p.dst undefA) M s)
/-- are they the same? what must hold for that -/
def beqO : AV → AV → Option (List (Bool × Bool))
  | .int k a, .int l b => if k == l then some [(a == b, true)] else none
  | x, y => if x.beq y then some [] else none
def beqsO : List AV → List AV → Option (List (Bool × Bool))
  | [], [] => some []
  | a :: as, b :: bs => match beqO a b, beqsO as bs with
    | some x, some y => some (x ++ y)
    | _, _ => none
  | _, _ => none
def beqA : AV → AV → Option (List (Bool × Bool))
  | .agg a, .agg b => beqsO a b
  | x, y => beqO x y
noncomputable def sameAtO (op : PI) (avs : List AV) (v : AV) (ms : List AMem) (lo : Nat) : Nat → Option (List (Bool × Bool))
  | 0 => some []
  | k + 1 => match ms[lo + k]? with
    | some M => match opK op avs M with
      | some (.val v' M') => if M'.n == M.n then match beqA v' v, sameAtO op avs v ms lo k with
          | some x, some y => some (x ++ y)
          | _, _ => none
        else none
      | _ => none
    | none => none
noncomputable def checkRecO (ms : List AMem) (r : Rec) : Option (List (Bool × Bool)) :=
  match r.d.eff with
  | true => some []
  | false => match isLoad r.d.p.op with
    | false => some []
    | true => match r.d.lo == r.d.hi with
      | true => some []
      | false => match r.avs with
        | none => some []
        | some avs => sameAtO r.d.p.op avs r.v ms r.d.lo (r.d.hi + 1 - r.d.lo)
noncomputable def checkAll (ms : List AMem) : List Rec → Option (List (Bool × Bool))
  | [] => some []
  | r :: rs => match checkRecO ms r, checkAll ms rs with
    | some x, some y => some (x ++ y)
    | _, _ => none
noncomputable def endO (rs : List Rec) (ms : List AMem) (t' : Tr AV) (s : Orc) : Option (Tr AV × AMem × Orc) :=
  match checkAll ms rs with
  | some l => match ms.getLast? with
    | some M' => some (t', M', ⟨s.way, l ++ s.owe⟩)
    | none => none
  | none => none
noncomputable def runDrawO (ds : List DInstr) (t : Tr AV) (M : AMem) (s : Orc) : Option (Tr AV × AMem × Orc) :=
  match traceO call M.n ds t (if ds.any (·.fl) then M.push .held else M) s with
  | some (rs, ms, t', s') => endO rs ms t' s'
  | none => none
def iterO (body : Tr AV → AMem → Orc → Option (PEx × Tr AV × AMem × Orc)) : Nat → Tr AV → AMem → Orc → Option (PEx × Tr AV × AMem × Orc)
  | 0, _, _, _ => none
  | n + 1, t, M, s => match body t M s with
    | some (.normal, t', M', s') => iterO body n t' M' s'
    | r => r
def normO : Option (Tr AV × AMem × Orc) → Option (PEx × Tr AV × AMem × Orc)
  | some q => some (.normal, q)
  | none => none
noncomputable def execO (N : Nat) : PCode → Tr AV → AMem → Orc → Option (PEx × Tr AV × AMem × Orc)
  | .skip, t, M, s => some (.normal, t, M, s)
  | .seqR ps, t, M, s => normO (runSeqO call ps t M s)
  | .drawR ds, t, M, s => normO (runDrawO call ds t M s)
  | .seq a b, t, M, s => match execO N a t M s with
    | some (.normal, t', M', s') => execO N b t' M' s'
    | r => r
  | .cond c x y, t, M, s => match argK t c with
    | some (.bool b) => ask b s fun b s => match b with
      | true => execO N x t M s
      | false => execO N y t M s
    | _ => none
  | .block id c, t, M, s => match execO N c t M s with
    | some (.exit id', q) => match Nat.beq id' id with
      | true => some (.normal, q)
      | false => some (.exit id', q)
    | r => r
  | .loop c, t, M, s => iterO (execO N c) N t M s
  | .exit id, t, M, s => some (.exit id, t, M, s)
  | .ret, t, M, s => some (.ret, t, M, s)
  | .fail, _, _, _ => none
end
def finO (res : List PRes) : Option (PEx × Tr AV × AMem × Orc) → Option (AV × AMem × Orc)
  | some (.exit _, _, _, _) => none
  | some (_, t, M', s) => match resIs t M' res with
    | some vs => some (resV vs, M', s)
    | none => none
  | none => none
noncomputable def callFO (tbl : FuncId → List AV → AMem → Option (AV × AMem)) (code : FuncId → Option PFn) (N : Nat) : Nat → CallO
  | 0, _, _, _, _ => none
  | d + 1, f, args, M, s => match tbl f args M with
    | some (r, M') => some (r, M', s)
    | none => match code f with
      | none => none
      | some fn => if args.length ≤ fn.n then finO fn.res (execO (callFO tbl code N d) N fn.body (setArgs fn.base 0 args) M s) else none

/-! It is sound. -/
section
variable {cO : CallO} {c : FuncId → List AV → AMem → Option (AV × AMem)} (hc : SoundO cO c)
include hc
omit hc in
theorem opO_cases {β : Type} (op : PI) (avs : List AV) (M : AMem) (s : Orc) (k : Option SR → Orc → β) : ∃ r s', opO op avs M s k = k r s' ∧ s.Le s' ∧ (s'.Holds → r = opI op avs M) := by
  unfold opO
  split
  · rename_i c a b
    obtain ⟨o, s', h1, h2, h3⟩ := ask_cases c s fun o s => k (some (.val (match o with
      | true => a
      | false => b) M)) s
    refine ⟨_, s', h1, h2, fun hh => ?_⟩
    rw [h3 hh]
    cases c <;> rfl
  · exact ⟨_, s, rfl, .refl _, fun _ => rfl⟩
  · exact ⟨_, s, rfl, .refl _, fun _ => rfl⟩
  · exact ⟨_, s, rfl, .refl _, fun _ => rfl⟩
  · exact ⟨_, s, rfl, .refl _, fun _ => rfl⟩
  · exact ⟨_, s, rfl, .refl _, fun _ => opK_eq _ _ _⟩
theorem val1O_ok {op : PI} {avs : List AV} {M : AMem} {s : Orc} {v : AV} {M' : AMem} {s' : Orc} (h : val1O cO op avs M s = some (v, M', s')) : s.Le s' ∧ (s'.Holds → val1 c op avs M = some (v, M')) := by
  unfold val1O at h
  obtain ⟨r, s1, h1, h2, h3⟩ := opO_cases op avs M s fun r s => match r with
    | some (.val v M') => some (v, M', s)
    | some (.call f args) => cO f args M s
    | none => none
  rw [h1] at h
  unfold val1
  split at h
  · cases h
    exact ⟨h2, fun hh => by rw [← h3 hh]⟩
  · obtain ⟨k1, k2⟩ := hc _ _ _ _ _ _ _ h
    exact ⟨h2.trans k1, fun hh => by rw [← h3 (hh.le k1)]; exact k2 hh⟩
  · cases h
omit hc in
theorem wantO_cases {β : Type} (p : PInstr) (t : Tr AV) (s : Orc) (k : Bool → Orc → β) : ∃ o s', wantO p t s k = k o s' ∧ s.Le s' ∧ (s'.Holds → o = wantedA p t) := by
  unfold wantO wantedA
  cases p.guard with
  | none => exact ⟨true, s, rfl, .refl _, fun _ => rfl⟩
  | some g =>
    obtain ⟨m, want⟩ := g
    simp only [getK_eq]
    split
    · rename_i b hb
      obtain ⟨o, s', h1, h2, h3⟩ := ask_cases b s fun b s => k (b == want) s
      exact ⟨o == want, s', h1, h2, fun h => by rw [h3 h, hb]⟩
    · rename_i hb
      refine ⟨false, s, rfl, .refl _, fun _ => ?_⟩
      split
      · rename_i b hb'; exact absurd hb' (hb b)
      · rfl
theorem runSeqO_ok : ∀ {ps : List PInstr} {t : Tr AV} {M : AMem} {s : Orc} {t' : Tr AV} {M' : AMem} {s' : Orc}, runSeqO cO ps t M s = some (t', M', s') → s.Le s' ∧ (s'.Holds → runSeq c ps t M = some (t', M'))
  | [], t, M, s, t', M', s', h => by
    simp only [runSeqO, Option.some.injEq, Prod.mk.injEq] at h
    obtain ⟨rfl, rfl, rfl⟩ := h
    exact ⟨.refl _, fun _ => rfl⟩
  | p :: ps, t, M, s, t', M', s', h => by
    rw [runSeqO] at h
    obtain ⟨o, s1, h1, h2, h3⟩ := wantO_cases p t s fun b s => match b with
      | true => match argsK t p.args with
        | some avs => doneO (runSeqO cO ps) t p.dst (val1O cO p.op avs M s)
        | none => none
      | false => runSeqO cO ps (putTK t p.dst undefA) M s
    rw [h1] at h
    cases o with
    | true =>
      simp only [argsK_eq] at h
      split at h
      · rename_i avs ha
        cases hv : val1O cO p.op avs M s1 with
        | none => rw [hv] at h; cases h
        | some q =>
          obtain ⟨v, M1, s2⟩ := q
          rw [hv] at h
          simp only [doneO, putTK_eq] at h
          obtain ⟨k1, k2⟩ := val1O_ok hc hv
          obtain ⟨k3, k4⟩ := runSeqO_ok h
          refine ⟨h2.trans (k1.trans k3), fun hh => ?_⟩
          rw [runSeq, ← h3 (hh.le (k1.trans k3)), if_pos rfl, ha]
          simp only [k2 (hh.le k3), k4 hh]
      · cases h
    | false =>
      simp only [putTK_eq] at h
      obtain ⟨k3, k4⟩ := runSeqO_ok h
      refine ⟨h2.trans k3, fun hh => ?_⟩
      rw [runSeq, ← h3 (hh.le k3), if_neg (by decide)]
      exact k4 hh
theorem step1O_ok {n0 : Nat} {d : DInstr} {avs : List AV} {M : AMem} {s : Orc} {v : AV} {M' : AMem} {s' : Orc} (h : step1O cO n0 d avs M s = some (v, M', s')) : s.Le s' ∧ (s'.Holds → step1 c n0 d avs M = some (v, M')) := by
  unfold step1O at h
  unfold step1
  split at h
  · rename_i e
    rw [e, if_pos rfl]
    split at h
    · rename_i e2; cases h; rw [e2]; exact ⟨.refl _, fun _ => rfl⟩
    · cases h
  · rename_i e
    rw [e, if_neg (by decide)]
    split at h
    · rename_i e2
      split at h
      · cases h
      · rename_i e3
        cases h
        obtain ⟨k1, k2⟩ := val1O_ok hc e2
        refine ⟨k1, fun hh => ?_⟩
        rw [k2 hh]
        simp only
        rw [if_neg e3]
    · cases h
omit hc in
theorem recO_some {d : DInstr} {avs : Option (List AV)} {v : AV} {pre : List AMem} {q : Option (List Rec × List AMem × Tr AV × Orc)} {rs : List Rec} {ms : List AMem} {t : Tr AV} {s : Orc} (h : recO d avs v pre q = some (rs, ms, t, s)) : ∃ rs' ms', q = some (rs', ms', t, s) ∧ rs = ⟨d, avs, v⟩ :: rs' ∧ ms = pre ++ ms' := by
  cases q with
  | none => cases h
  | some q =>
    obtain ⟨a, b, c⟩ := q
    simp only [recO, Option.some.injEq, Prod.mk.injEq] at h
    obtain ⟨rfl, rfl, rfl⟩ := h
    exact ⟨a, b, rfl, rfl, rfl⟩
theorem traceO_ok {n0 : Nat} : ∀ {ds : List DInstr} {t : Tr AV} {M : AMem} {s : Orc} {rs : List Rec} {ms : List AMem} {t' : Tr AV} {s' : Orc}, traceO cO n0 ds t M s = some (rs, ms, t', s') → s.Le s' ∧ (s'.Holds → trace c n0 ds t M = some (rs, ms, t'))
  | [], t, M, s, rs, ms, t', s', h => by
    simp only [traceO, Option.some.injEq, Prod.mk.injEq] at h
    obtain ⟨rfl, rfl, rfl, rfl⟩ := h
    exact ⟨.refl _, fun _ => rfl⟩
  | d :: ds, t, M, s, rs, ms, t', s', h => by
    rw [traceO] at h
    obtain ⟨o, s1, h1, h2, h3⟩ := wantO_cases d.p t s fun b s => match b with
      | true => match argsK t d.p.args with
        | some avs => match d.eff with
          | true => match step1O cO n0 d avs M s with
            | some (v, M', s') => recO d (some avs) v [M] (traceO cO n0 ds (putTK t d.p.dst v) M' s')
            | none => none
          | false => opO d.p.op avs M s fun r s => match r with
            | some (.val v M') => if M'.n = M.n then recO d (some avs) v [] (traceO cO n0 ds (putTK t d.p.dst v) M s) else none
            | _ => none
        | none => none
      | false => recO d none undefA (if d.eff then [M] else []) (traceO cO n0 ds (putTK t d.p.dst undefA) M s)
    rw [h1] at h
    cases o with
    | true =>
      simp only [argsK_eq, putTK_eq] at h
      split at h
      rotate_left
      · cases h
      rename_i avs ha
      split at h
      · rename_i he
        split at h
        rotate_left
        · cases h
        rename_i v M1 s2 hv
        obtain ⟨rs', ms', g1, rfl, rfl⟩ := recO_some h
        obtain ⟨k1, k2⟩ := step1O_ok hc hv
        obtain ⟨k3, k4⟩ := traceO_ok g1
        refine ⟨h2.trans (k1.trans k3), fun hh => ?_⟩
        rw [trace, ← h3 (hh.le (k1.trans k3)), if_pos rfl, ha]
        simp only [he, if_true, k2 (hh.le k3), k4 hh]
        rfl
      · rename_i he
        obtain ⟨q, s2, q1, q2, q3⟩ := opO_cases d.p.op avs M s1 fun r s => match r with
            | some (.val v M') => if M'.n = M.n then recO d (some avs) v [] (traceO cO n0 ds (putT t d.p.dst v) M s) else none
            | _ => none
        rw [q1] at h
        split at h
        rotate_left
        · cases h
        rename_i v M1
        split at h
        rotate_left
        · cases h
        rename_i hn
        obtain ⟨rs', ms', g1, rfl, rfl⟩ := recO_some h
        obtain ⟨k3, k4⟩ := traceO_ok g1
        refine ⟨h2.trans (q2.trans k3), fun hh => ?_⟩
        rw [trace, ← h3 (hh.le (q2.trans k3)), if_pos rfl, ha]
        simp only [he, Bool.false_eq_true, if_false, ← q3 (hh.le k3), hn, if_true, k4 hh]
    | false =>
      simp only [putTK_eq] at h
      obtain ⟨rs', ms', g1, rfl, rfl⟩ := recO_some h
      obtain ⟨k3, k4⟩ := traceO_ok g1
      refine ⟨h2.trans k3, fun hh => ?_⟩
      rw [trace, ← h3 (hh.le k3), if_neg (by decide)]
      simp only [k4 hh]
      cases d.eff <;> rfl
omit hc in
theorem beqO_ok : ∀ {x y : AV} {l : List (Bool × Bool)}, beqO x y = some l → (∀ p ∈ l, p.1 = p.2) → x.beq y = true := by
  intro x y l h hl
  unfold beqO at h
  split at h
  · split at h
    · rename_i hk
      cases h
      have := hl _ (List.mem_singleton.2 rfl)
      simp only [AV.beq, hk, Bool.true_and]
      exact this
    · cases h
  · split at h
    · assumption
    · cases h
omit hc in
theorem beqsO_ok : ∀ {x y : List AV} {l : List (Bool × Bool)}, beqsO x y = some l → (∀ p ∈ l, p.1 = p.2) → AV.beqs x y = true
  | [], [], _, _, _ => by simp only [AV.beqs]
  | a :: as, b :: bs, l, h, hl => by
    simp only [beqsO] at h
    split at h
    · rename_i u v e1 e2
      cases h
      simp only [AV.beqs, Bool.and_eq_true]
      exact ⟨beqO_ok e1 fun p hp => hl p (List.mem_append_left _ hp), beqsO_ok e2 fun p hp => hl p (List.mem_append_right _ hp)⟩
    · cases h
  | [], b :: bs, l, h, _ => by simp only [beqsO] at h; cases h
  | a :: as, [], l, h, _ => by simp only [beqsO] at h; cases h
omit hc in
theorem beqA_ok {x y : AV} {l : List (Bool × Bool)} (h : beqA x y = some l) (hl : ∀ p ∈ l, p.1 = p.2) : x.beq y = true := by
  unfold beqA at h
  split at h
  · simp only [AV.beq]
    exact beqsO_ok h hl
  · exact beqO_ok h hl
omit hc in
theorem sameAtO_ok {op : PI} {avs : List AV} {v : AV} {ms : List AMem} {lo : Nat} : ∀ {k : Nat} {l : List (Bool × Bool)}, sameAtO op avs v ms lo k = some l → (∀ p ∈ l, p.1 = p.2) → sameAt op avs v ms lo k = true
  | 0, _, _, _ => rfl
  | k + 1, l, h, hl => by
    rw [sameAtO] at h
    split at h
    rotate_left
    · cases h
    rename_i M hM
    rw [opK_eq] at h
    split at h
    rotate_left
    · cases h
    rename_i v' M' ho
    split at h
    rotate_left
    · cases h
    rename_i hn
    split at h
    · rename_i x y e1 e2
      cases h
      rw [sameAt, hM]
      simp only [ho, beqA_ok e1 fun p hp => hl p (List.mem_append_left _ hp), hn, sameAtO_ok e2 fun p hp => hl p (List.mem_append_right _ hp), Bool.and_self]
    · cases h
omit hc in
theorem checkRecO_ok {ms : List AMem} {r : Rec} {l : List (Bool × Bool)} (h : checkRecO ms r = some l) (hl : ∀ p ∈ l, p.1 = p.2) : checkRec ms r = true := by
  unfold checkRecO at h
  unfold checkRec
  cases ha : r.avs with
  | none => rfl
  | some avs =>
    rw [ha] at h
    simp only [Bool.or_eq_true, Bool.not_eq_true']
    split at h
    · rename_i e; exact .inl (.inl (.inl e))
    · split at h
      · rename_i e; exact .inl (.inl (.inr e))
      · split at h
        · rename_i e; exact .inl (.inr e)
        · exact .inr (sameAtO_ok h hl)
omit hc in
theorem checkAll_ok {ms : List AMem} : ∀ {rs : List Rec} {l : List (Bool × Bool)}, checkAll ms rs = some l → (∀ p ∈ l, p.1 = p.2) → rs.all (checkRec ms) = true
  | [], _, _, _ => rfl
  | r :: rs, l, h, hl => by
    rw [checkAll] at h
    split at h
    · rename_i x y e1 e2
      cases h
      rw [List.all_cons, checkRecO_ok e1 fun p hp => hl p (List.mem_append_left _ hp), checkAll_ok e2 fun p hp => hl p (List.mem_append_right _ hp)]
      rfl
    · cases h
theorem runDrawO_ok {ds : List DInstr} {t : Tr AV} {M : AMem} {s : Orc} {t' : Tr AV} {M' : AMem} {s' : Orc} (h : runDrawO cO ds t M s = some (t', M', s')) : s.Le s' ∧ (s'.Holds → runDraw c ds t M = some (t', M')) := by
  unfold runDrawO at h
  split at h
  rotate_left
  · cases h
  rename_i rs ms t1 s1 ht
  unfold endO at h
  split at h
  rotate_left
  · cases h
  rename_i l hall
  split at h
  rotate_left
  · cases h
  rename_i M1 hl
  cases h
  obtain ⟨k1, k2⟩ := traceO_ok hc ht
  refine ⟨k1.trans fun p hp => List.mem_append_right _ hp, fun hh => ?_⟩
  have h1 : s1.Holds := fun p hp => hh p (List.mem_append_right _ hp)
  have h2 := checkAll_ok hall fun p hp => hh p (List.mem_append_left _ hp)
  unfold runDraw
  rw [k2 h1]
  simp only [h2, if_true, hl]
omit hc in
theorem iterO_ok {bO : Tr AV → AMem → Orc → Option (PEx × Tr AV × AMem × Orc)} {b : Tr AV → AMem → Option (PEx × Tr AV × AMem)} (hb : ∀ t M s x t' M' s', bO t M s = some (x, t', M', s') → s.Le s' ∧ (s'.Holds → b t M = some (x, t', M'))) :
    ∀ (n : Nat) {t : Tr AV} {M : AMem} {s : Orc} {x : PEx} {t' : Tr AV} {M' : AMem} {s' : Orc}, iterO bO n t M s = some (x, t', M', s') → s.Le s' ∧ (s'.Holds → iter b n t M = some (x, t', M'))
  | 0, t, M, s, x, t', M', s', h => by cases h
  | n + 1, t, M, s, x, t', M', s', h => by
    rw [iterO] at h
    split at h
    · rename_i t1 M1 s1 h1
      obtain ⟨k1, k2⟩ := hb _ _ _ _ _ _ _ h1
      obtain ⟨k3, k4⟩ := iterO_ok hb n h
      refine ⟨k1.trans k3, fun hh => ?_⟩
      rw [iter, k2 (hh.le k3)]
      exact k4 hh
    · rename_i r hne
      obtain ⟨k1, k2⟩ := hb _ _ _ _ _ _ _ h
      refine ⟨k1, fun hh => ?_⟩
      rw [iter, k2 hh]
      cases x with
      | normal => exact absurd h (hne _ _ _)
      | exit id => rfl
      | ret => rfl
omit hc in
theorem normO_some {q : Option (Tr AV × AMem × Orc)} {x : PEx} {t : Tr AV} {M : AMem} {s : Orc} (h : normO q = some (x, t, M, s)) : x = .normal ∧ q = some (t, M, s) := by
  cases q with
  | none => cases h
  | some q => simp only [normO, Option.some.injEq, Prod.mk.injEq] at h; obtain ⟨rfl, rfl⟩ := h; exact ⟨rfl, rfl⟩
theorem execO_ok {N : Nat} : ∀ {p : PCode} {t : Tr AV} {M : AMem} {s : Orc} {x : PEx} {t' : Tr AV} {M' : AMem} {s' : Orc}, execO cO N p t M s = some (x, t', M', s') → s.Le s' ∧ (s'.Holds → exec c N p t M = some (x, t', M'))
  | .skip, t, M, s, x, t', M', s', h => by
    simp only [execO, Option.some.injEq, Prod.mk.injEq] at h
    obtain ⟨rfl, rfl, rfl, rfl⟩ := h
    exact ⟨.refl _, fun _ => rfl⟩
  | .exit id, t, M, s, x, t', M', s', h => by
    simp only [execO, Option.some.injEq, Prod.mk.injEq] at h
    obtain ⟨rfl, rfl, rfl, rfl⟩ := h
    exact ⟨.refl _, fun _ => rfl⟩
  | .ret, t, M, s, x, t', M', s', h => by
    simp only [execO, Option.some.injEq, Prod.mk.injEq] at h
    obtain ⟨rfl, rfl, rfl, rfl⟩ := h
    exact ⟨.refl _, fun _ => rfl⟩
  | .fail, t, M, s, x, t', M', s', h => by simp only [execO] at h; cases h
  | .seqR ps, t, M, s, x, t', M', s', h => by
    rw [execO] at h
    obtain ⟨rfl, h0⟩ := normO_some h
    obtain ⟨k1, k2⟩ := runSeqO_ok hc h0
    exact ⟨k1, fun hh => by rw [exec, k2 hh]⟩
  | .drawR ds, t, M, s, x, t', M', s', h => by
    rw [execO] at h
    obtain ⟨rfl, h0⟩ := normO_some h
    obtain ⟨k1, k2⟩ := runDrawO_ok hc h0
    exact ⟨k1, fun hh => by rw [exec, k2 hh]⟩
  | .seq a b, t, M, s, x, t', M', s', h => by
    rw [execO] at h
    split at h
    · rename_i t1 M1 s1 h1
      obtain ⟨k1, k2⟩ := execO_ok h1
      obtain ⟨k3, k4⟩ := execO_ok h
      refine ⟨k1.trans k3, fun hh => ?_⟩
      rw [exec, k2 (hh.le k3)]
      exact k4 hh
    · rename_i r hne
      obtain ⟨k1, k2⟩ := execO_ok h
      refine ⟨k1, fun hh => ?_⟩
      rw [exec, k2 hh]
      cases x with
      | normal => exact absurd h (hne _ _ _)
      | exit id => rfl
      | ret => rfl
  | .cond g a b, t, M, s, x, t', M', s', h => by
    rw [execO] at h
    have e : argK t g = g.eval t := by cases g <;> simp [argK, PArg.eval, getK_eq]
    rw [e] at h
    split at h
    rotate_left
    · cases h
    rename_i y hy
    obtain ⟨o, s1, h1, h2, h3⟩ := ask_cases y s fun b' s => match b' with
      | true => execO cO N a t M s
      | false => execO cO N b t M s
    rw [h1] at h
    cases o with
    | true =>
      obtain ⟨k1, k2⟩ := execO_ok h
      refine ⟨h2.trans k1, fun hh => ?_⟩
      rw [exec, hy, ← h3 (hh.le k1)]
      exact k2 hh
    | false =>
      obtain ⟨k1, k2⟩ := execO_ok h
      refine ⟨h2.trans k1, fun hh => ?_⟩
      rw [exec, hy, ← h3 (hh.le k1)]
      exact k2 hh
  | .block id p, t, M, s, x, t', M', s', h => by
    rw [execO] at h
    split at h
    · rename_i id' q h1
      obtain ⟨t1, M1, s1⟩ := q
      obtain ⟨k1, k2⟩ := execO_ok h1
      split at h
      · rename_i hb
        cases h
        refine ⟨k1, fun hh => ?_⟩
        rw [exec, k2 hh]
        simp only
        rw [if_pos (Nat.eq_of_beq_eq_true hb)]
      · rename_i hb
        cases h
        refine ⟨k1, fun hh => ?_⟩
        rw [exec, k2 hh]
        simp only
        rw [if_neg (Nat.ne_of_beq_eq_false hb)]
    · rename_i r hne
      obtain ⟨k1, k2⟩ := execO_ok h
      refine ⟨k1, fun hh => ?_⟩
      rw [exec, k2 hh]
      cases x with
      | normal => rfl
      | exit id => exact absurd h (hne _ _)
      | ret => rfl
  | .loop p, t, M, s, x, t', M', s', h => by
    rw [execO] at h
    exact iterO_ok (fun t M s x t' M' s' hb => execO_ok hb) N h
end
theorem finO_some {res : List PRes} {q : Option (PEx × Tr AV × AMem × Orc)} {r : AV} {M' : AMem} {s' : Orc} (h : finO res q = some (r, M', s')) : ∃ x t vs, q = some (x, t, M', s') ∧ (∀ id, x ≠ .exit id) ∧ resIs t M' res = some vs ∧ r = resV vs := by
  rcases q with _ | ⟨x, t, M, s⟩
  · cases h
  · cases x with
    | exit id => cases h
    | normal =>
      simp only [finO] at h
      split at h
      · rename_i vs hv; cases h; exact ⟨_, _, vs, rfl, (fun id e => by cases e), hv, rfl⟩
      · cases h
    | ret =>
      simp only [finO] at h
      split at h
      · rename_i vs hv; cases h; exact ⟨_, _, vs, rfl, (fun id e => by cases e), hv, rfl⟩
      · cases h
theorem callFO_ok (tbl : FuncId → List AV → AMem → Option (AV × AMem)) (code : FuncId → Option PFn) (N : Nat) : ∀ d : Nat, SoundO (callFO tbl code N d) (callF tbl code N d)
  | 0 => fun f a M s r M' s' h => by cases h
  | d + 1 => fun f a M s r M' s' h => by
    have ih := callFO_ok tbl code N d
    rw [callFO] at h
    rw [callF]
    split at h
    · rename_i e; cases h; exact ⟨.refl _, fun _ => by rw [e]⟩
    · rename_i e
      rw [e]
      simp only
      unfold stepF
      split at h
      · cases h
      · rename_i fn ef
        rw [ef]
        simp only
        split at h
        · rename_i hl
          rw [if_pos hl]
          obtain ⟨x, t, vs, h1, h2, h3, rfl⟩ := finO_some h
          obtain ⟨k1, k2⟩ := execO_ok ih h1
          refine ⟨k1, fun hh => ?_⟩
          rw [k2 hh]
          cases x with
          | exit id => exact absurd rfl (h2 id)
          | normal => simp only [h3]
          | ret => simp only [h3]
        · cases h
end Go.Vx
