/- How often a job comes up: the plain law. -/
import Derived.Test.YtmaldkpkodcggaaGrRanksW
namespace Go.Proofs.Ytmaldkpkodcggaa.grf
open Go Go.Vx

def cap : Int := 1099511627777
theorem cap_eq : cap = 1099511627777 := rfl
def own (js : List Jb) (ts : List Int) (i : Nat) : Int := (ts.count (jb js i).task : Nat)
/-- what the first m bring to a job -/
def Fn (js : List Jb) (T : List Int) : Nat → Int → Int
  | 0, _ => 0
  | m + 1, k => Fn js T m k + ((jb js m).kids.count k : Nat) * T.getD m 0
/-- what those that are through bring -/
def Sn (js : List Jb) (T : List Int) (pre : List Int) : Nat → Int → Int
  | 0, _ => 0
  | m + 1, k => Sn js T pre m k + if (m : Int) ∈ pre then ((jb js m).kids.count k : Nat) * T.getD m 0 else 0
theorem Sn_nil {js : List Jb} {T : List Int} {k : Int} : ∀ {m : Nat}, Sn js T [] m k = 0
  | 0 => rfl
  | m + 1 => by unfold Sn; rw [Sn_nil, if_neg (by simp)]; rfl
theorem Sn_in {js : List Jb} {T pre : List Int} {i : Nat} (hi : (i : Int) ∉ pre) : ∀ {m : Nat} {k : Int}, i < m → Sn js T (pre ++ [(i : Int)]) m k = Sn js T pre m k + ((jb js i).kids.count k : Nat) * T.getD i 0
  | m + 1, k, hm => by
    unfold Sn
    by_cases h : i = m
    · subst h
      have : ∀ m, m ≤ i → Sn js T (pre ++ [(i : Int)]) m k = Sn js T pre m k := by
        intro m
        induction m with
        | zero => intro _; rfl
        | succ m ih =>
          intro hmi
          unfold Sn
          rw [ih (by omega)]
          have : ((m : Int) ∈ pre ++ [(i : Int)]) ↔ (m : Int) ∈ pre := by
            rw [List.mem_append, List.mem_singleton]
            constructor
            · rintro (h | h)
              · exact h
              · omega
            · exact .inl
          simp only [this]
      rw [this i (Nat.le_refl _), if_pos (by simp), if_neg hi]
      omega
    · have ih := Sn_in (js := js) (T := T) hi (m := m) (k := k) (by omega)
      have : ((m : Int) ∈ pre ++ [(i : Int)]) ↔ (m : Int) ∈ pre := by
        rw [List.mem_append, List.mem_singleton]
        constructor
        · rintro (h | h)
          · exact h
          · omega
        · exact .inl
      simp only [this]
      omega
theorem Sn_all {js : List Jb} {T pre : List Int} {k : Int} : ∀ {m : Nat}, (∀ i, i < m → (i : Int) ∈ pre) → Sn js T pre m k = Fn js T m k
  | 0, _ => rfl
  | m + 1, h => by unfold Sn Fn; rw [Sn_all (fun i hi => h i (by omega)), if_pos (h m (by omega))]
theorem mul_nn {c : Nat} {x : Int} (h : 0 ≤ x) : 0 ≤ (c : Int) * x := Int.mul_nonneg (by omega) h
theorem Sn_nn {js : List Jb} {T pre : List Int} (hT : ∀ i, 0 ≤ T.getD i 0) {k : Int} : ∀ {m : Nat}, 0 ≤ Sn js T pre m k
  | 0 => Int.le_refl _
  | m + 1 => by
    unfold Sn
    have h1 := Sn_nn (js := js) (pre := pre) hT (k := k) (m := m)
    have h2 := mul_nn (c := (jb js m).kids.count k) (hT m)
    split <;> omega
theorem Fn_nn {js : List Jb} {T : List Int} (hT : ∀ i, 0 ≤ T.getD i 0) {k : Int} : ∀ {m : Nat}, 0 ≤ Fn js T m k
  | 0 => Int.le_refl _
  | m + 1 => by
    unfold Fn
    have h1 := Fn_nn (js := js) hT (k := k) (m := m)
    have h2 := mul_nn (c := (jb js m).kids.count k) (hT m)
    omega
/-- a kid gets its share -/
def satK (i : Nat) (w : List Int) (k : Int) : List Int := w.set k.toNat (min (w.getD k.toNat 0 + w.getD i 0) cap)
def owns (js : List Jb) (ts : List Int) : List Int := (List.range js.length).map (own js ts)
def oftS (js : List Jb) (ts out : List Int) : Nat → List Int
  | 0 => owns js ts
  | p + 1 => (jb js (out.getD p 0).toNat).kids.foldl (satK (out.getD p 0).toNat) (oftS js ts out p)
theorem sat_len {i : Nat} : ∀ {ks : List Int} {w : List Int}, (ks.foldl (satK i) w).length = w.length
  | [], _ => rfl
  | k :: ks, w => by rw [List.foldl_cons, sat_len]; simp [satK]
theorem sat_spec {i : Nat} : ∀ {ks : List Int} {w : List Int}, (∀ k ∈ ks, 0 ≤ k ∧ k.toNat < w.length ∧ k.toNat ≠ i) → (∀ m, 0 ≤ w.getD m 0 ∧ w.getD m 0 ≤ cap) →
    (ks.foldl (satK i) w).getD i 0 = w.getD i 0 ∧ (∀ m, 0 ≤ (ks.foldl (satK i) w).getD m 0 ∧ (ks.foldl (satK i) w).getD m 0 ≤ cap) ∧ ∀ m : Nat, m ≠ i → (ks.foldl (satK i) w).getD m 0 = min (w.getD m 0 + (ks.count (m : Int) : Nat) * w.getD i 0) cap
  | [], w, _, hb => ⟨rfl, hb, fun m _ => by
      have := hb m
      rw [List.count_nil, show ((0 : Nat) : Int) = 0 from rfl, Int.zero_mul, Int.add_zero]
      show w.getD m 0 = _
      omega⟩
  | k :: ks, w, hk, hb => by
    obtain ⟨k0, k1, k2⟩ := hk k List.mem_cons_self
    have get : ∀ m, (satK i w k).getD m 0 = if k.toNat = m then min (w.getD k.toNat 0 + w.getD i 0) cap else w.getD m 0 := fun m => getD_set' k1
    have hi := hb i
    have hb' : ∀ m, 0 ≤ (satK i w k).getD m 0 ∧ (satK i w k).getD m 0 ≤ cap := fun m => by
      rw [get]
      have := hb k.toNat
      have hc := cap_eq
      split
      · omega
      · exact hb m
    obtain ⟨h1, h2, h3⟩ := sat_spec (i := i) (ks := ks) (w := satK i w k) (fun x hx => by
      have := hk x (List.mem_cons_of_mem _ hx)
      rw [show (satK i w k).length = w.length by simp [satK]]; exact this) hb'
    have gi : (satK i w k).getD i 0 = w.getD i 0 := by rw [get, if_neg k2]
    rw [List.foldl_cons]
    refine ⟨by rw [h1, gi], h2, fun m hm => ?_⟩
    rw [h3 m hm, gi, get]
    have hnn := mul_nn (c := ks.count (m : Int)) hi.1
    by_cases hkm : k.toNat = m
    · have hkm' : k = (m : Int) := by omega
      rw [if_pos hkm, hkm', List.count_cons_self, Int.natCast_add, Int.add_mul, Int.toNat_natCast]
      have : ((1 : Nat) : Int) * w.getD i 0 = w.getD i 0 := by simp
      rw [this]
      omega
    · rw [if_neg hkm, List.count_cons_of_ne (by omega)]
theorem owns_get {js : List Jb} {ts : List Int} {i : Nat} (hi : i < js.length) : (owns js ts).getD i 0 = own js ts i := by
  unfold owns
  rw [List.getD_eq_getElem?_getD, List.getElem?_map, List.getElem?_range hi]; rfl
theorem own_bd {js : List Jb} {ts : List Int} (hts : ts.length ≤ 1000) {i : Nat} : 0 ≤ own js ts i ∧ own js ts i ≤ 1000 := by
  unfold own
  have := List.count_le_length (a := (jb js i).task) (l := ts)
  omega
theorem owns_bd {js : List Jb} {ts : List Int} (hts : ts.length ≤ 1000) (m : Nat) : 0 ≤ (owns js ts).getD m 0 ∧ (owns js ts).getD m 0 ≤ cap := by
  by_cases hm : m < js.length
  · rw [owns_get hm]
    have := own_bd (js := js) hts (i := m)
    have hc := cap_eq
    omega
  · rw [List.getD_eq_getElem?_getD, List.getElem?_eq_none (by simp [owns]; omega)]
    have hc := cap_eq
    simp only [Option.getD_none]
    omega
theorem oftS_len {js : List Jb} {ts out : List Int} : ∀ {p : Nat}, (oftS js ts out p).length = js.length
  | 0 => by simp [oftS, owns]
  | p + 1 => by unfold oftS; rw [sat_len, oftS_len]
section
variable {js : List Jb} {ts out : List Int}
theorem kids_ok (hR : RightP js) (h : Done js out) (hl : out.length = js.length) {p : Nat} (hp : p < out.length) : ∀ k ∈ (jb js (out.getD p 0).toNat).kids, 0 ≤ k ∧ k.toNat < js.length ∧ k.toNat ≠ (out.getD p 0).toNat ∧ ∃ p', p < p' ∧ p' < out.length ∧ out.getD p' 0 = k := fun k hk => by
  have hr := h.rng _ (getD_mem hp)
  have hk0 := kids_rng hR (i := (out.getD p 0).toNat) (by omega) hk
  obtain ⟨p', hp', he⟩ := all_out h hl (k := k.toNat) hk0.2
  have hke : out.getD p' 0 = k := by omega
  have hb := kid_behind h hp hp' (by rw [hke]; exact hk)
  refine ⟨hk0.1, hk0.2, fun hc => ?_, p', hb, hp', hke⟩
  have : p = p' := nodup_getD h.nodup hp hp' (by omega)
  omega
theorem oftS_bd (hR : RightP js) (h : Done js out) (hl : out.length = js.length) (hts : ts.length ≤ 1000) : ∀ {p : Nat}, p ≤ out.length → ∀ m, 0 ≤ (oftS js ts out p).getD m 0 ∧ (oftS js ts out p).getD m 0 ≤ cap
  | 0, _, m => owns_bd hts m
  | p + 1, hp, m => by
    have ih := oftS_bd hR h hl hts (p := p) (by omega)
    unfold oftS
    exact (sat_spec (fun k hk => by
      have := kids_ok hR h hl (p := p) (by omega) k hk
      rw [oftS_len]; exact ⟨this.1, this.2.1, this.2.2.1⟩) ih).2.1 m
/-- what is through stays -/
theorem oftS_stay (hR : RightP js) (h : Done js out) (hl : out.length = js.length) (hts : ts.length ≤ 1000) {p : Nat} (hp : p < out.length) : ∀ {q : Nat}, p ≤ q → q ≤ out.length → (oftS js ts out q).getD (out.getD p 0).toNat 0 = (oftS js ts out p).getD (out.getD p 0).toNat 0 := by
  intro q
  induction q with
  | zero => intro h1 _; rw [show p = 0 by omega]
  | succ q ih =>
    intro h1 h2
    by_cases hpq : p = q + 1
    · rw [hpq]
    · rw [← ih (by omega) (by omega)]
      have hbd := oftS_bd hR h hl hts (p := q) (by omega)
      have hsp := sat_spec (i := (out.getD q 0).toNat) (ks := (jb js (out.getD q 0).toNat).kids) (w := oftS js ts out q) (fun k hk => by
        have := kids_ok hR h hl (p := q) (by omega) k hk
        rw [oftS_len]; exact ⟨this.1, this.2.1, this.2.2.1⟩) hbd
      conv => lhs; unfold oftS
      by_cases hpe : p = q
      · subst hpe; exact hsp.1
      · have hrp := h.rng _ (getD_mem hp)
        have hrq := h.rng _ (getD_mem (show q < out.length by omega))
        have hne : (out.getD p 0).toNat ≠ (out.getD q 0).toNat := fun he => hpe (nodup_getD h.nodup hp (by omega) (by omega))
        rw [hsp.2.2 _ hne]
        have hc0 : (jb js (out.getD q 0).toNat).kids.count (((out.getD p 0).toNat : Nat) : Int) = 0 := by
          refine List.count_eq_zero.2 fun hm => ?_
          rw [Int.toNat_of_nonneg hrp.1] at hm
          have := kid_behind h (show q < out.length by omega) hp hm
          omega
        rw [hc0]
        have := hbd (out.getD p 0).toNat
        rw [show ((0 : Nat) : Int) = 0 from rfl, Int.zero_mul, Int.add_zero]
        omega
theorem oft_stage (hR : RightP js) (h : Done js out) (hl : out.length = js.length) (hts : ts.length ≤ 1000) : ∀ {p : Nat}, p ≤ out.length → ∀ i, i < js.length → (oftS js ts out p).getD i 0 = min (own js ts i + Sn js (oftS js ts out out.length) (out.take p) js.length i) cap
  | 0, _, i, hi => by
    have := own_bd (js := js) hts (i := i)
    have hc := cap_eq
    rw [List.take_zero, Sn_nil]
    show (owns js ts).getD i 0 = _
    rw [owns_get hi]; omega
  | p + 1, hp, i, hi => by
    have hbd := oftS_bd hR h hl hts (p := p) (by omega)
    have hbf := oftS_bd hR h hl hts (p := out.length) (Nat.le_refl _)
    have hp' : p < out.length := by omega
    have hrp := h.rng _ (getD_mem hp')
    obtain ⟨j, hj⟩ : ∃ j : Nat, out.getD p 0 = j := ⟨(out.getD p 0).toNat, by omega⟩
    have hst := oftS_stay hR h hl hts hp' (q := out.length) (by omega) (Nat.le_refl _)
    have hks := kids_ok hR h hl hp'
    rw [hj, Int.toNat_natCast] at hst hks
    have hsp := sat_spec (i := j) (ks := (jb js j).kids) (w := oftS js ts out p) (fun k hk => by
      have := hks k hk
      rw [oftS_len]; exact ⟨this.1, this.2.1, this.2.2.1⟩) hbd
    have htake : out.take (p + 1) = out.take p ++ [(j : Int)] := by
      rw [List.take_add_one, List.getElem?_eq_getElem hp']
      congr 1
      rw [← hj, List.getD_eq_getElem?_getD, List.getElem?_eq_getElem hp']; rfl
    have hnot : (j : Int) ∉ out.take p := fun hm => by
      obtain ⟨m, hm1, hm2⟩ := List.mem_iff_getElem.1 hm
      rw [List.length_take] at hm1
      rw [List.getElem_take] at hm2
      have : m = p := nodup_getD h.nodup (by omega) hp' (by rw [hj, List.getD_eq_getElem?_getD, List.getElem?_eq_getElem (by omega)]; exact hm2)
      omega
    have ih := oft_stage hR h hl hts (p := p) (by omega) i hi
    rw [htake, Sn_in hnot (by omega), hst]
    conv => lhs; unfold oftS
    rw [hj, Int.toNat_natCast]
    by_cases hij : i = j
    · subst hij
      rw [hsp.1, ih]
      have hc0 : (jb js i).kids.count (i : Int) = 0 := List.count_eq_zero.2 fun hm => (hks _ hm).2.2.1 (by simp)
      rw [hc0]; simp
    · rw [hsp.2.2 i hij, ih]
      have h1 := mul_nn (c := (jb js j).kids.count (i : Int)) (hbd j).1
      have h2 := Sn_nn (js := js) (pre := out.take p) (T := oftS js ts out out.length) (fun m => (hbf m).1) (k := (i : Int)) (m := js.length)
      have h3 := own_bd (js := js) hts (i := i)
      omega
/-- what the numbers are -/
structure IsOft (js : List Jb) (ts T : List Int) : Prop where
  len : T.length = js.length
  bd : ∀ i, 0 ≤ T.getD i 0 ∧ T.getD i 0 ≤ cap
  eq : ∀ i, i < js.length → T.getD i 0 = min (own js ts i + Fn js T js.length i) cap
theorem oft_is (hR : RightP js) (h : Done js out) (hl : out.length = js.length) (hts : ts.length ≤ 1000) : IsOft js ts (oftS js ts out out.length) := by
  refine ⟨oftS_len, oftS_bd hR h hl hts (Nat.le_refl _), fun i hi => ?_⟩
  rw [oft_stage hR h hl hts (Nat.le_refl _) i hi, List.take_of_length_le (Nat.le_refl _), Sn_all fun m hm => ?_]
  obtain ⟨p, hp, he⟩ := all_out h hl hm
  rw [← he]; exact getD_mem hp
end
end Go.Proofs.Ytmaldkpkodcggaa.grf
