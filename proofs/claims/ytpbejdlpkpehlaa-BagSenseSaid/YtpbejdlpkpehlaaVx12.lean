/- A region whose order is open: what its instructions come to in the text's order. -/
import Derived.Test.YtpbejdlpkpehlaaVx11
namespace Go.Vx

/-- how many of the first ones -/
def En (f : Nat → Bool) : Nat → Nat
  | 0 => 0
  | i + 1 => En f i + if f i then 1 else 0
theorem En_le (f : Nat → Bool) {i j : Nat} (h : i ≤ j) : En f i ≤ En f j := by
  induction j with
  | zero => have : i = 0 := by omega
            subst this; exact Nat.le_refl _
  | succ j ih =>
    by_cases hij : i = j + 1
    · subst hij; exact Nat.le_refl _
    · have := ih (by omega); simp only [En]; omega
theorem En_lt [Val] (f : Nat → Bool) {i j : Nat} (h : i < j) (hf : f i = true) : En f i < En f j := by
  have h1 := En_le f (show i + 1 ≤ j by omega)
  simp only [En, hf, if_true] at h1; omega
theorem En_ex (f : Nat → Bool) : ∀ (i k : Nat), k < En f i → ∃ j, j < i ∧ f j = true ∧ En f j = k
  | 0, k, h => by simp [En] at h
  | i + 1, k, h => by
    by_cases hk : k < En f i
    · obtain ⟨j, h1, h2, h3⟩ := En_ex f i k hk; exact ⟨j, by omega, h2, h3⟩
    · simp only [En] at h
      cases hf : f i with
      | true => simp only [hf, if_true] at h; exact ⟨i, by omega, hf, by omega⟩
      | false => simp only [hf, Bool.false_eq_true, if_false] at h; omega
theorem En_inj [Val] (f : Nat → Bool) {i j : Nat} (hi : f i = true) (hj : f j = true) (h : En f i = En f j) : i = j := by
  rcases Nat.lt_trichotomy i j with hl | he | hl
  · have := En_lt f hl hi; omega
  · exact he
  · have := En_lt f hl hj; omega
theorem En_shift (f : Nat → Bool) (i : Nat) : En f (i + 1) = (if f 0 then 1 else 0) + En (fun j => f (j + 1)) i := by
  induction i with
  | zero => simp [En]
  | succ i ih => rw [En, ih]; simp only [En]; omega

/-- the temporaries behind some of the first ones -/
def finN (D : Nat → Option Nat) (V : Nat → AV) (S : Nat → Bool) (t : Tr AV) : Nat → Tr AV
  | 0 => t
  | n + 1 => if S n then putT (finN D V S t n) (D n) (V n) else finN D V S t n
theorem finN_shift (D : Nat → Option Nat) (V : Nat → AV) (S : Nat → Bool) (t : Tr AV) (n : Nat) :
    finN D V S t (n + 1) = finN (fun i => D (i + 1)) (fun i => V (i + 1)) (fun i => S (i + 1)) (if S 0 then putT t (D 0) (V 0) else t) n := by
  induction n with
  | zero => simp [finN]
  | succ n ih => rw [finN, ih]; simp only [finN]
theorem finN_some [Val] (D : Nat → Option Nat) (V : Nat → AV) (S : Nat → Bool) (t : Tr AV) (m : Nat) : ∀ n, ((finN D V S t n).get m).isSome = (t.get m).isSome
  | 0 => rfl
  | n + 1 => by
    simp only [finN]
    split
    · rw [putT_get]
      split
      · rename_i h; rw [← finN_some D V S t m n]; simp [h.2]
      · exact finN_some D V S t m n
    · exact finN_some D V S t m n
theorem finN_congr [Val] {D : Nat → Option Nat} {V : Nat → AV} {S S' : Nat → Bool} {t : Tr AV} {m : Nat} : ∀ n, (∀ j, j < n → D j = some m → S j = S' j) → (finN D V S t n).get m = (finN D V S' t n).get m
  | 0, _ => rfl
  | n + 1, h => by
    have ih := finN_congr (V := V) (t := t) n fun j hj => h j (by omega)
    simp only [finN]
    by_cases hd : D n = some m
    · rw [h n (by omega) hd]
      split
      · rw [putT_get, putT_get, ih]
      · exact ih
    · have e1 : ∀ t' : Tr AV, (putT t' (D n) (V n)).get m = t'.get m := fun t' => by rw [putT_get, if_neg (fun h => hd h.1)]
      split <;> split <;> simp only [e1, ih]
theorem finN_first {D : Nat → Option Nat} {V : Nat → AV} {t : Tr AV} {i : Nat} : ∀ n, i ≤ n → finN D V (fun j => decide (j < i)) t n = finN D V (fun _ => true) t i := by
  have low : ∀ k, k ≤ i → finN D V (fun j => decide (j < i)) t k = finN D V (fun _ => true) t k := by
    intro k
    induction k with
    | zero => intro _; rfl
    | succ k ih => intro hk; simp only [finN]; rw [ih (by omega)]; simp [show k < i by omega]
  intro n
  induction n with
  | zero => intro h; have : i = 0 := by omega
            subst this; rfl
  | succ n ih =>
    intro h
    by_cases hi : i = n + 1
    · subst hi; exact low _ (Nat.le_refl _)
    · simp only [finN]; rw [ih (by omega)]; simp [show ¬ n < i by omega]
theorem finN_ins [Val] {D : Nat → Option Nat} {V : Nat → AV} {S S' : Nat → Bool} {t : Tr AV} {i : Nat} (m : Nat) (hS : S i = false) (hS' : S' i = true) (hoth : ∀ j, j ≠ i → S' j = S j) : ∀ n, i < n →
    (∀ j, i < j → j < n → S j = true → D i = some m → D j ≠ some m) → (finN D V S' t n).get m = (putT (finN D V S t n) (D i) (V i)).get m := by
  intro n
  induction n with
  | zero => intro h _; omega
  | succ n ih =>
    intro hin hlate
    have same : ∀ k, k ≤ i → finN D V S' t k = finN D V S t k := by
      intro k
      induction k with
      | zero => intro _; rfl
      | succ k ihk => intro hk; simp only [finN]; rw [ihk (by omega), hoth k (by omega)]
    by_cases hi : i = n
    · subst hi
      simp only [finN, hS, hS', if_true, Bool.false_eq_true, if_false]
      rw [same i (Nat.le_refl _)]
    · have ih' := ih (by omega) fun j h1 h2 => hlate j h1 (by omega)
      simp only [finN]
      rw [hoth n (fun h => hi h.symm)]
      cases hn : S n with
      | false => simp only [Bool.false_eq_true, if_false]; exact ih'
      | true =>
        simp only [if_true]
        have hx : ∀ x : Tr AV, (x.get m).isSome = (t.get m).isSome → ∀ d v, (putT x d v).get m = if d = some m ∧ (t.get m).isSome = true then some v else x.get m := by
          intro x hxs d v; rw [putT_get, hxs]
        have h1 := hx (finN D V S' t n) (finN_some _ _ _ _ _ _) (D n) (V n)
        have h2 := hx (finN D V S t n) (finN_some _ _ _ _ _ _) (D n) (V n)
        have h3 := hx (finN D V S t n) (finN_some _ _ _ _ _ _) (D i) (V i)
        have h4 := hx (putT (finN D V S t n) (D n) (V n)) (by
          rw [h2]; split
          · rename_i h; simp [h.2]
          · exact finN_some _ _ _ _ _ _) (D i) (V i)
        rw [h1, h4, ih', h3, h2]
        by_cases hd : D i = some m ∧ (t.get m).isSome = true
        · have hne : ¬ (D n = some m ∧ (t.get m).isSome = true) := fun h => hlate n (by omega) (by omega) hn hd.1 h.1
          rw [if_neg hne, if_pos hd, if_pos hd]
        · rw [if_neg hd, if_neg hd]

def dD : DInstr := ⟨pD, false, false, 0, 0⟩
def rD : Rec := ⟨dD, none, undefA⟩
def mD : AMem := ⟨.nil, 0, fun _ => none⟩

/-- What the run in the text's order tells of its i-th instruction. -/
def TFact (call : FuncId → List AV → AMem → Option (AV × AMem)) (n0 : Nat) (d : Nat → DInstr) (V : Nat → AV) (A : Nat → Option (List AV)) (sn : Nat → AMem) (t : Tr AV) (i : Nat) : Prop :=
  let T := finN (fun j => (d j).p.dst) V (fun _ => true) t i
  let k := En (fun j => (d j).eff) i
  match A i with
  | none => wantedA (d i).p T = false ∧ V i = undefA ∧ ((d i).eff = true → sn (k + 1) = sn k)
  | some avs => wantedA (d i).p T = true ∧ evalArgs T (d i).p.args = some avs ∧
      ((d i).eff = true → step1 call n0 (d i) avs (sn k) = some (V i, sn (k + 1))) ∧
      ((d i).eff = false → ∃ M', opI (d i).p.op avs (sn k) = some (.val (V i) M') ∧ M'.n = (sn k).n)

theorem getD_cons {α : Type} (x : α) (l : List α) (i : Nat) (d : α) : (x :: l).getD (i + 1) d = l.getD i d := by simp [List.getD]
theorem getD_zero {α : Type} (x : α) (l : List α) (d : α) : (x :: l).getD 0 d = x := by simp [List.getD]

theorem trace_facts [Val] (call : FuncId → List AV → AMem → Option (AV × AMem)) (n0 : Nat) : ∀ (ds : List DInstr) (t : Tr AV) (M : AMem) (rs : List Rec) (ms : List AMem) (t' : Tr AV), trace call n0 ds t M = some (rs, ms, t') →
    rs.length = ds.length ∧ (∀ i, i < ds.length → (rs.getD i rD).d = ds.getD i dD) ∧ ms.length = En (fun j => (ds.getD j dD).eff) ds.length + 1 ∧ ms.getD 0 mD = M ∧
    t' = finN (fun j => (ds.getD j dD).p.dst) (fun j => (rs.getD j rD).v) (fun _ => true) t ds.length ∧
    ∀ i, i < ds.length → TFact call n0 (fun j => ds.getD j dD) (fun j => (rs.getD j rD).v) (fun j => (rs.getD j rD).avs) (fun k => ms.getD k mD) t i
  | [], t, M, rs, ms, t', h => by
    simp [trace] at h
    obtain ⟨rfl, rfl, rfl⟩ := h
    exact ⟨rfl, fun i hi => by simp at hi, rfl, rfl, rfl, fun i hi => by simp at hi⟩
  | d :: ds, t, M, rs, ms, t', h => by
    -- what the rest tells, told of the whole
    have step : ∀ (r : Rec) (rs1 : List Rec) (ms1 : List AMem) (t1 : Tr AV) (M1 : AMem), r.d = d → trace call n0 ds (putT t d.p.dst r.v) M1 = some (rs1, ms1, t1) →
        rs = r :: rs1 → t' = t1 → ms = (if d.eff = true then M :: ms1 else ms1) → (d.eff = false → M1 = M) →
        TFact call n0 (fun j => (d :: ds).getD j dD) (fun j => (rs.getD j rD).v) (fun j => (rs.getD j rD).avs) (fun k => ms.getD k mD) t 0 →
        rs.length = (d :: ds).length ∧ (∀ i, i < (d :: ds).length → (rs.getD i rD).d = (d :: ds).getD i dD) ∧ ms.length = En (fun j => ((d :: ds).getD j dD).eff) (d :: ds).length + 1 ∧ ms.getD 0 mD = M ∧
        t' = finN (fun j => ((d :: ds).getD j dD).p.dst) (fun j => (rs.getD j rD).v) (fun _ => true) t (d :: ds).length ∧
        ∀ i, i < (d :: ds).length → TFact call n0 (fun j => (d :: ds).getD j dD) (fun j => (rs.getD j rD).v) (fun j => (rs.getD j rD).avs) (fun k => ms.getD k mD) t i := by
      intro r rs1 ms1 t1 M1 hrd htr hrs ht hms hM1 h0
      obtain ⟨i1, i2, i3, i4, i5, i6⟩ := trace_facts call n0 ds _ M1 rs1 ms1 t1 htr
      subst hrs; subst ht
      have hmsz : ∀ k, (ms.getD (k + if d.eff = true then 1 else 0) mD) = ms1.getD k mD := by
        intro k; rw [hms]
        cases hde : d.eff with
        | true => simp only [if_true]; exact getD_cons _ _ _ _
        | false => simp
      refine ⟨by simp [i1], ?_, ?_, ?_, ?_, ?_⟩
      · intro i hi
        cases i with
        | zero => rw [getD_zero, getD_zero]; exact hrd
        | succ i => rw [getD_cons, getD_cons]; exact i2 i (by simpa using hi)
      · rw [List.length_cons, En_shift]
        simp only [getD_zero, getD_cons]
        rw [hms]
        cases hde : d.eff with
        | true => simp [i3]; omega
        | false => simp [i3]
      · rw [hms]
        cases hde : d.eff with
        | true => simp
        | false => simp only [Bool.false_eq_true, if_false]; rw [i4]; exact hM1 hde
      · rw [List.length_cons, finN_shift]
        simp only [getD_zero, getD_cons, if_true]
        rw [i5]
      · intro i hi
        cases i with
        | zero => exact h0
        | succ i =>
          have hf := i6 i (by simpa using hi)
          unfold TFact at hf ⊢
          simp only at hf ⊢
          simp only [getD_cons, finN_shift, getD_zero, if_true, En_shift]
          have hm1 : ms.getD ((if d.eff = true then 1 else 0) + En (fun j => (ds.getD j dD).eff) i) mD = ms1.getD (En (fun j => (ds.getD j dD).eff) i) mD := by rw [Nat.add_comm]; exact hmsz _
          have hm2 : ms.getD ((if d.eff = true then 1 else 0) + En (fun j => (ds.getD j dD).eff) i + 1) mD = ms1.getD (En (fun j => (ds.getD j dD).eff) i + 1) mD := by
            have : (if d.eff = true then 1 else 0) + En (fun j => (ds.getD j dD).eff) i + 1 = (En (fun j => (ds.getD j dD).eff) i + 1) + if d.eff = true then 1 else 0 := by omega
            rw [this]; exact hmsz _
          rw [hm1, hm2]
          exact hf
    simp only [trace] at h
    cases hw : wantedA d.p t with
    | true =>
      simp only [hw, if_true] at h
      cases hev : evalArgs t d.p.args with
      | none => simp [hev] at h
      | some avs =>
        simp only [hev] at h
        cases hde : d.eff with
        | true =>
          simp only [hde, if_true] at h
          cases hst : step1 call n0 d avs M with
          | none => simp [hst] at h
          | some q =>
            obtain ⟨v, M1⟩ := q
            simp only [hst] at h
            cases htr : trace call n0 ds (putT t d.p.dst v) M1 with
            | none => simp [htr] at h
            | some q2 =>
              obtain ⟨rs1, ms1, t1⟩ := q2
              simp only [htr, Option.some.injEq, Prod.mk.injEq] at h
              obtain ⟨rfl, rfl, rfl⟩ := h
              obtain ⟨_, _, _, i4, _, _⟩ := trace_facts call n0 ds _ M1 rs1 ms1 t1 htr
              refine step ⟨d, some avs, v⟩ rs1 ms1 t1 M1 rfl htr rfl rfl (by simp [hde]) (by simp [hde]) ?_
              unfold TFact
              simp only [getD_zero, finN, En, hde]
              refine ⟨hw, hev, fun _ => ?_, by simp⟩
              rw [getD_cons, i4]; exact hst
        | false =>
          simp only [hde, Bool.false_eq_true, if_false] at h
          split at h
          · rename_i v M1 hop
            split at h
            · rename_i hn
              cases htr : trace call n0 ds (putT t d.p.dst v) M with
              | none => simp [htr] at h
              | some q2 =>
                obtain ⟨rs1, ms1, t1⟩ := q2
                simp only [htr, Option.some.injEq, Prod.mk.injEq] at h
                obtain ⟨rfl, rfl, rfl⟩ := h
                obtain ⟨_, _, _, i4, _, _⟩ := trace_facts call n0 ds _ M rs1 ms1 t1 htr
                refine step ⟨d, some avs, v⟩ rs1 ms1 t1 M rfl htr rfl rfl (by simp [hde]) (fun _ => rfl) ?_
                unfold TFact
                simp only [getD_zero, finN, En, hde]
                refine ⟨hw, hev, by simp, fun _ => ⟨M1, ?_, ?_⟩⟩
                · rw [i4]; exact hop
                · rw [i4]; exact hn
            · cases h
          · cases h
    | false =>
      simp only [hw, Bool.false_eq_true, if_false] at h
      cases htr : trace call n0 ds (putT t d.p.dst undefA) M with
      | none => simp [htr] at h
      | some q2 =>
        obtain ⟨rs1, ms1, t1⟩ := q2
        simp only [htr, Option.some.injEq, Prod.mk.injEq] at h
        obtain ⟨rfl, rfl, rfl⟩ := h
        obtain ⟨_, _, _, i4, _, _⟩ := trace_facts call n0 ds _ M rs1 ms1 t1 htr
        refine step ⟨d, none, undefA⟩ rs1 ms1 t1 M rfl htr rfl rfl rfl (fun _ => rfl) ?_
        unfold TFact
        simp only [getD_zero, finN, En]
        refine ⟨hw, trivial, fun hde => ?_⟩
        rw [hde]; simp only [if_true]
        rw [getD_cons, i4]; simp

/-! Which ones must have been ahead. -/
theorem fold_bits (acc : List Nat) (j : Nat) : ∀ (l : List Edge) (s : Nat), (l.foldl (fun s e => if Region.binds .any e then s ||| 2 ^ e.on ||| acc.getD e.on 0 else s) s).testBit j = true →
    s.testBit j = true ∨ ∃ e ∈ l, Region.binds .any e = true ∧ (j = e.on ∨ (acc.getD e.on 0).testBit j = true)
  | [], s, h => .inl h
  | e :: l, s, h => by
    simp only [List.foldl_cons] at h
    rcases fold_bits acc j l _ h with h | ⟨e', h1, h2⟩
    · split at h
      · rename_i hb
        rw [Nat.testBit_or, Nat.testBit_or] at h
        simp only [Bool.or_eq_true] at h
        rcases h with (h | h) | h
        · exact .inl h
        · right
          rw [Nat.testBit_two_pow] at h
          exact ⟨e, List.mem_cons_self, hb, .inl (by simpa using h : e.on = j).symm⟩
        · exact .inr ⟨e, List.mem_cons_self, hb, .inr h⟩
      · exact .inl h
    · exact .inr ⟨e', List.mem_cons_of_mem _ h1, h2⟩
theorem masks_spec [Val] : ∀ (os : List Oper) (acc : List Nat), (∀ i, i < acc.length → (masks os acc)[i]? = acc[i]?) ∧
    ∀ (k : Nat) (o : Oper), os[k]? = some o → ∀ j, ((masks os acc).getD (acc.length + k) 0).testBit j = true →
      ∃ e ∈ o.after.toList, Region.binds .any e = true ∧ (j = e.on ∨ (e.on < acc.length + k ∧ ((masks os acc).getD e.on 0).testBit j = true))
  | [], acc => ⟨fun _ _ => rfl, fun k o h => by simp at h⟩
  | o :: os, acc => by
    obtain ⟨h1, h2⟩ := masks_spec os (acc ++ [o.after.toList.foldl (fun s e => if Region.binds .any e then s ||| 2 ^ e.on ||| acc.getD e.on 0 else s) 0])
    have keep : ∀ i, i < acc.length → (masks (o :: os) acc)[i]? = acc[i]? := by
      intro i hi
      simp only [masks]
      rw [h1 i (by simp; omega), List.getElem?_append_left hi]
    refine ⟨keep, ?_⟩
    intro k o' hk j hj
    cases k with
    | zero =>
      simp at hk; subst hk
      simp only [Nat.add_zero] at hj
      have : (masks (o :: os) acc).getD acc.length 0 = o.after.toList.foldl (fun s e => if Region.binds .any e then s ||| 2 ^ e.on ||| acc.getD e.on 0 else s) 0 := by
        simp only [masks]
        rw [List.getD_eq_getElem?_getD, h1 acc.length (by simp)]
        simp
      rw [this] at hj
      rcases fold_bits acc j _ 0 hj with h | ⟨e, g1, g2, g3⟩
      · simp at h
      · refine ⟨e, g1, g2, ?_⟩
        rcases g3 with g3 | g3
        · exact .inl g3
        · right
          have hlt : e.on < acc.length := by
            rcases Nat.lt_or_ge e.on acc.length with h | h
            · exact h
            · rw [List.getD_eq_getElem?_getD, List.getElem?_eq_none h] at g3; simp at g3
          refine ⟨by omega, ?_⟩
          rw [List.getD_eq_getElem?_getD, keep e.on hlt, ← List.getD_eq_getElem?_getD]; exact g3
    | succ k =>
      simp at hk
      have := h2 k o' hk j (by simp only [masks] at hj; simpa [Nat.add_assoc, Nat.add_comm 1 k] using hj)
      obtain ⟨e, g1, g2, g3⟩ := this
      refine ⟨e, g1, g2, ?_⟩
      rcases g3 with g3 | ⟨g3, g4⟩
      · exact .inl g3
      · exact .inr ⟨by simp at g3; omega, by simp only [masks]; exact g4⟩
/-- what is ahead by need of one whose own needs are met, is met -/
theorem masks_closed [Val] {os : List Oper} {S : Nat → Prop} (hS : ∀ (i : Nat) (o : Oper), S i → os[i]? = some o → ∀ e ∈ o.after.toList, Region.binds .any e = true → S e.on) :
    ∀ (i : Nat) (o : Oper), os[i]? = some o → (∀ e ∈ o.after.toList, Region.binds .any e = true → S e.on) → (∀ k, S k → k < os.length) → ∀ j, ((masks os []).getD i 0).testBit j = true → S j := by
  intro i
  induction i using Nat.strongRecOn with
  | _ i ih =>
    intro o ho hdep hin j hj
    obtain ⟨e, g1, g2, g3⟩ := (masks_spec os []).2 i o ho j (by simpa using hj)
    have hon := hdep e g1 g2
    rcases g3 with rfl | ⟨g3, g4⟩
    · exact hon
    · simp only [List.length_nil, Nat.zero_add] at g3
      have hlt := hin _ hon
      exact ih e.on g3 os[e.on] (List.getElem?_eq_getElem hlt) (hS e.on _ hon (List.getElem?_eq_getElem hlt)) hin j g4
end Go.Vx
