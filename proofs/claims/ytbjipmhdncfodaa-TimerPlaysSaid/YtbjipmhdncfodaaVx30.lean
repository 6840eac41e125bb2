/- The library's Collect at Values of a row of pointers, and its SortFunc at pointers to entries, as calls of our machine. -/
import Derived.Test.YtbjipmhdncfodaaVx24
import Derived.Shelf.SlSortCmp.WholeK
namespace Go.Vx
open Go.RowKit Go.Sort Go.Proofs

def dAddr : Addr := ⟨0, 0, none⟩
/-- The slice holds these pointers, in a block below n₀; or it is empty. -/
def PtrsAt (n₀ : Nat) (W : World) (sv : Value) (zs : List Addr) : Prop :=
  (∃ p cap, sv = .slice p 0 cap ∧ zs = []) ∨ ∃ b off cap, sv = .slice (some ⟨b, off, none⟩) zs.length cap ∧ b < n₀ ∧ ∀ j, j < zs.length → W.cell? ⟨b, off + j, none⟩ = some (.pointer (some (zs[j]?.getD dAddr)))
theorem PtrsAt.below {n₀ : Nat} {A B : World} (h : Below n₀ A B) {sv : Value} {zs : List Addr} : PtrsAt n₀ A sv zs → PtrsAt n₀ B sv zs
  | .inl e => .inl e
  | .inr ⟨b, off, cap, e, hb, hc⟩ => .inr ⟨b, off, cap, e, hb, fun j hj => (h.cell (p := ⟨b, off + j, none⟩) hb).trans (hc j hj)⟩
def isPtr : AV → Bool
  | .ptr (some _) => true
  | _ => false
theorem ptrs_conc [Val] {e : Env} : ∀ {l : List AV} {vs : List Value}, l.all isPtr = true → concs e l = some vs → ∃ ps : List Addr, vs = ps.map fun a => Value.pointer (some a)
  | [], vs, _, hc => by
    simp only [concs, Option.some.injEq] at hc
    subst hc
    exact ⟨[], rfl⟩
  | x :: l, vs, h, hc => by
    obtain ⟨c0, cr, h0, h1, rfl⟩ := concs_cons hc
    rw [List.all_cons, Bool.and_eq_true] at h
    obtain ⟨ps, rfl⟩ := ptrs_conc h.2 h1
    cases x <;> simp only [isPtr] at h <;> try (exact absurd h.1 (by decide))
    rename_i a
    cases a with
    | none => exact absurd h.1 (by decide)
    | some p =>
      obtain ⟨xb, _, rfl⟩ := conc_ptr h0
      exact ⟨_ :: ps, rfl⟩
/-- the pointers of a row -/
def rdPtrs (M : AMem) : AV → Option (List AV)
  | .slice none 0 _ _ => some []
  | .slice (some (b, o)) n _ _ => match M.loadCells b o n with
    | some l => if l.all isPtr then some l else none
    | none => none
  | _ => none
theorem rdPtrs_at [Val] {B : Nat → Prop} {w0 w : World} {e : Env} {M : AMem} {v : AV} {c : Value} {l : List AV} (hm : MR B w0 e M w) (hr : rdPtrs M v = some l) (hc : conc e v = some c) : ∃ ps : List Addr, concs e l = some (ps.map fun a => Value.pointer (some a)) ∧ ps.length = l.length ∧ PtrsAt w.heap.size w c ps := by
  unfold rdPtrs at hr
  split at hr
  · cases hr
    simp only [conc, Option.some.injEq] at hc
    subst hc
    exact ⟨[], rfl, rfl, .inl ⟨_, _, rfl, rfl⟩⟩
  · rename_i b o n cap gr
    split at hr
    · rename_i l' hl
      split at hr
      · rename_i hall
        cases hr
        simp only [conc] at hc
        cases hx : e b with
        | none => rw [hx] at hc; cases hc
        | some x =>
          rw [hx] at hc
          simp only [Option.some.injEq] at hc
          subst hc
          obtain ⟨vs, h1, h2, h3, _⟩ := hm.loadCells (P := default) hl hx
          obtain ⟨ps, rfl⟩ := ptrs_conc hall h1
          have hlen := concs_length h1
          rw [List.length_map] at hlen h2
          subst h2
          refine ⟨ps, h1, hlen, .inr ⟨x.blk, x.o + o, _, rfl, hm.room b x hx, fun j hj => ?_⟩⟩
          refine h3 j _ ?_
          simp [hj]
      · cases hr
    · cases hr
  · cases hr
/-- 'f', called with Values' closure 'g' over a row of pointers: a new row of the same. -/
def collectX (f g : FuncId) : FuncId → List AV → AMem → Option (AV × AMem) := fun f' args M =>
  if f' = f then match args with
    | [.func (.func g') [] [.ptr (some (b, o))]] =>
      if g' = g then match M.loadCells b o 1 with
        | some [sv] => match rdPtrs M sv with
          | some [] => some (.slice none 0 0 false, M)
          | some (z :: r) => if r.length < 1000000 then some (.slice (some (M.n, 0)) (r.length + 1) (r.length + 1) true, M.push (.cells (z :: r) 1 true none)) else none
          | none => none
        | _ => none
      else none
    | _ => none
  else none
theorem collectX_ok [Val] {P : Program} {f g : FuncId} {T : TypeId} (hf : hasBody P f = true)
    (H : ∀ (Bs bo : Nat) (sv : Value) (zs : List Addr), zs.length ≤ 1000000 → ∀ w : World, Bs < w.heap.size → w.cell? ⟨Bs, bo, none⟩ = some sv → PtrsAt w.heap.size w sv zs →
      Calls P f #[.func (.func g) #[] #[.pointer (some ⟨Bs, bo, none⟩)]] w fun e W' => ∃ v, e = .returned v ∧ W'.ownsRow w.heap.size T 1 v zs.length (zs.map fun a => Value.pointer (some a)) ∧ (zs = [] → v = .slice none 0 0) ∧ Below w.heap.size w W') : TblOk P (collectX f g) := by
  intro f' args M r M' h B w0 e w cargs hcs hm
  unfold collectX at h
  split at h
  rotate_left
  · cases h
  rename_i hff
  subst hff
  refine ⟨hf, ?_⟩
  split at h
  rotate_left
  · cases h
  rename_i g' b o
  split at h
  rotate_left
  · cases h
  rename_i hgg
  subst hgg
  split at h
  rotate_left
  · cases h
  rename_i sv hl
  obtain ⟨c0, cr, h0, h1, rfl⟩ := concs_cons hcs
  simp only [concs, Option.some.injEq] at h1
  subst h1
  simp only [conc, concs] at h0
  cases hx : e b with
  | none => rw [hx] at h0; cases h0
  | some x =>
    rw [hx] at h0
    simp only [Option.some.injEq] at h0
    subst h0
    obtain ⟨vs, k1, k2, k3, _⟩ := hm.loadCells (P := P) hl hx
    obtain ⟨c, cr, k4, k5, rfl⟩ := concs_cons k1
    have hcell := k3 0 c rfl
    split at h
    · rename_i hz
      cases h
      obtain ⟨ps, a1, a2, a3⟩ := rdPtrs_at hm hz k4
      obtain rfl : ps = [] := List.eq_nil_of_length_eq_zero a2
      refine (H x.blk (x.o + o) c [] (by simp) w (hm.room b x hx) hcell a3).mono ?_
      rintro en w' ⟨v, rfl, _, hv, hb⟩
      obtain rfl := hv rfl
      exact ⟨e, _, XR.refl _ e, rfl, rfl, hm.outside hb⟩
    · rename_i z r hz
      split at h
      rotate_left
      · cases h
      rename_i hlen
      cases h
      obtain ⟨ps, a1, a2, a3⟩ := rdPtrs_at hm hz k4
      rw [List.length_cons] at a2
      refine (H x.blk (x.o + o) c ps (by omega) w (hm.room b x hx) hcell a3).mono ?_
      rintro en w' ⟨v, rfl, hrow, _, hb⟩
      rcases hrow.2 with ⟨rfl, h0⟩ | ⟨gb, cap, cur, rfl, hbase, hgb, r1, r2, r3, r4⟩
      · omega
      · refine ⟨e.set M.n ⟨gb, 0, cap - (r.length + 1)⟩, _, hm.xone rfl _, rfl, ?_, hm.made hb hbase hgb a1 ?_ (fun i v hi => ?_) none⟩
        · simp only [conc, Env.set, if_true, Nat.add_zero]
          rw [a2] at r1 ⊢
          rw [show r.length + 1 + (cap - (r.length + 1)) = cap by omega]
        · rw [List.length_cons, r3]
          rw [a2] at r1
          omega
        · have hi' := (List.getElem?_eq_some_iff.1 hi).1
          rw [List.length_map] at hi'
          have := congrArg (·[i]?) r4
          rw [List.getElem?_take_of_lt (by omega)] at this
          rw [← Array.getElem?_toList, this]
          exact hi
    · cases h

/-! The sort. -/
def cfK (x y : Int × Int) : Int := if x.1 < y.1 then -1 else if x.1 > y.1 then 1 else if x.2 < y.2 then -1 else if x.2 > y.2 then 1 else 0
def ltK (x y : Int × Int) : Bool := decide (x.1 < y.1 ∨ (x.1 = y.1 ∧ x.2 < y.2))
theorem cfK_lt {x y : Int × Int} : decide (cfK x y < 0) = ltK x y := by
  unfold cfK ltK
  by_cases h1 : x.1 < y.1
  · simp only [h1, if_true]; simp
  · by_cases h2 : x.1 > y.1
    · simp only [h1, h2, if_true, if_false]; simp; omega
    · by_cases h3 : x.2 < y.2
      · simp only [h1, h2, h3, if_true, if_false]; simp; omega
      · by_cases h4 : x.2 > y.2
        · simp only [h1, h2, h3, h4, if_true, if_false]; simp
        · simp only [h1, h2, h3, h4, if_false]; simp
theorem swoF {n : Nat} (f : _root_.Fin n → Int × Int) : Sort.SWO (Proofs.ltOf fun i j => cfK (f i) (f j)) where
  irrefl x := by show decide _ = false; rw [cfK_lt]; simp [ltK]
  trans x y z h k := by
    have h : decide _ = true := h
    have k : decide _ = true := k
    show decide _ = true
    rw [cfK_lt] at *
    simp only [ltK, decide_eq_true_eq] at *
    omega
  ntrans x y z h k := by
    have h : decide _ = false := h
    have k : decide _ = false := k
    show decide _ = false
    rw [cfK_lt] at *
    simp only [ltK, decide_eq_false_iff_not] at *
    omega
theorem extract_all {α : Type} (a : Array α) {n : Nat} (h : a.size = n) : (a.extract 0 n).toList = a.toList := by subst h; simp
/-- where the sort lays which element -/
def srtI : List (Int × Int) → List Nat
  | [] => []
  | k :: r => (Sort.pdq (Proofs.ltOf fun i j : _root_.Fin (r.length + 1) => cfK ((k :: r).get i) ((k :: r).get j)) (Array.ofFn id) 0 (r.length + 1) (Lib.bitLen (r.length + 1)) true true).toList.map (·.val)
theorem srtI_spec (ks : List (Int × Int)) : (srtI ks).Perm (List.range ks.length) ∧ ∀ i j, i < j → j < ks.length → ltK (ks.getD ((srtI ks).getD j 0) (0, 0)) (ks.getD ((srtI ks).getD i 0) (0, 0)) = false := by
  cases ks with
  | nil => exact ⟨.refl _, fun i j _ h => by simp at h⟩
  | cons k r =>
    have hs := Sort.pdq_sorts (Proofs.ltOf fun i j : _root_.Fin (r.length + 1) => cfK ((k :: r).get i) ((k :: r).get j)) (swoF _) (Array.ofFn id) 0 (r.length + 1) (Lib.bitLen (r.length + 1)) true true (Nat.zero_le _) (by simp) (Or.inl rfl)
    suffices key : ∀ d : Array (_root_.Fin (r.length + 1)), Sort.PermIn 0 (r.length + 1) (Array.ofFn id) d ∧ Sort.SortedIn (Proofs.ltOf fun i j : _root_.Fin (r.length + 1) => cfK ((k :: r).get i) ((k :: r).get j)) 0 (r.length + 1) d →
        (d.toList.map (·.val)).Perm (List.range (k :: r).length) ∧ ∀ i j, i < j → j < (k :: r).length → ltK ((k :: r).getD ((d.toList.map (·.val)).getD j 0) (0, 0)) ((k :: r).getD ((d.toList.map (·.val)).getD i 0) (0, 0)) = false from key _ hs
    clear hs
    intro d hs
    obtain ⟨⟨h1, _, h2⟩, h3⟩ := hs
    rw [Array.size_ofFn] at h1
    have hp : d.toList.Perm (List.ofFn (n := r.length + 1) id) := by
      have e1 := extract_all d h1
      have e2 : ((Array.ofFn (n := r.length + 1) id).extract 0 (r.length + 1)).toList = List.ofFn (n := r.length + 1) id := by rw [extract_all _ (by simp)]; simp
      rw [e1, e2] at h2
      exact h2
    refine ⟨?_, fun i j hij hj => ?_⟩
    · have := hp.map (·.val)
      refine this.trans ?_
      have : (List.ofFn (n := r.length + 1) id).map (·.val) = List.range (r.length + 1) := by
        apply List.ext_getElem
        · simp
        · intro i h1 h2
          rw [List.getElem_map, List.getElem_ofFn, List.getElem_range]; rfl
      rw [this, List.length_cons]
    · rw [List.length_cons] at hj
      have h := h3 i j (Nat.zero_le _) hij hj
      have hi' : i < d.size := by omega
      have hj' : j < d.size := by omega
      rw [getElem!_pos d i hi', getElem!_pos d j hj'] at h
      have h : decide _ = false := h
      rw [cfK_lt] at h
      have g : ∀ m (hm : m < d.size), (k :: r).getD ((d.toList.map (·.val)).getD m 0) (0, 0) = (k :: r).get d[m] := fun m hm => by
        have : (d.toList.map (·.val)).getD m 0 = d[m].val := by
          rw [List.getD_eq_getElem?_getD, List.getElem?_map, List.getElem?_eq_getElem (by simpa using hm)]; simp
        rw [this, List.getD_eq_getElem?_getD, List.getElem?_eq_getElem d[m].isLt]; rfl
      rw [g i hi', g j hj']
      exact h
theorem srtI_len (ks : List (Int × Int)) : (srtI ks).length = ks.length := by rw [(srtI_spec ks).1.length_eq, List.length_range]
theorem srtI_lt (ks : List (Int × Int)) {i : Nat} (h : i ∈ srtI ks) : i < ks.length := List.mem_range.1 ((srtI_spec ks).1.mem_iff.1 h)
/-- an entry's keys -/
def rdKey (M : AMem) : AV → Option (Int × Int)
  | .ptr (some (b, 0)) => match M.get b with
    | some (.cells [.int .i64 a, _, .int .i64 n, _] _ true none) => some (a, n)
    | _ => none
  | _ => none
/-- 'f', called with a row of our own of pointers and the order 'g': the row is sorted. -/
def sortP (f g : FuncId) : FuncId → List AV → AMem → Option (AV × AMem) := fun f' args M =>
  if f' = f then match args with
    | [.slice none 0 _ _, .func (.func g') [] []] => if g' = g then some (.tuple [], M) else none
    | [.slice (some (b, 0)) n _ _, .func (.func g') [] []] =>
      if g' = g then match M.get b with
        | some (.cells cs _ _ _) => match mapO (rdKey M) cs with
          | some ks => if 0 < cs.length ∧ cs.length = n ∧ cs.length < 4611686018427387904 then match M.storeCells b 0 ((srtI ks).map fun i => cs.getD i undefA) with
              | some M' => some (.tuple [], M')
              | none => none
            else none
          | none => none
        | _ => none
      else none
    | _ => none
  else none
/-- the cells of a row, as the sort lays them -/
theorem sortP_ok [Val] {P : Program} {f g : FuncId} (hf : hasBody P f = true)
    (H0 : ∀ (p : Option Addr) (cap : Nat) (w : World), Calls P f #[.slice p 0 cap, .func (.func g) #[] #[]] w fun e w' => e = .returned (.tuple #[]) ∧ w' = w)
    (H : ∀ (blk off cap : Nat) (ps : List (Addr × Int × Int)) (w : World), 0 < ps.length → ps.length < 4611686018427387904 → blk < w.heap.size → (∀ j, j < ps.length → w.cell? ⟨blk, off + j, none⟩ = some (.pointer (some (ps.getD j (dAddr, 0, 0)).1)) ∧ w.frozen? ⟨blk, off + j, none⟩ = false) →
      (∀ p ∈ ps, p.1.spot = none ∧ p.1.block < w.heap.size ∧ p.1.block ≠ blk ∧ w.cell? p.1 = some (.int .i64 p.2.1) ∧ w.cell? ⟨p.1.block, p.1.off + 2, none⟩ = some (.int .i64 p.2.2)) →
      Calls P f #[.slice (some ⟨blk, off, none⟩) ps.length cap, .func (.func g) #[] #[]] w fun e w' => e = .returned (.tuple #[]) ∧ ∃ n os, w' = grow (putRow id (Sort.ahead w n) blk off (((srtI (ps.map (·.2))).map fun i => Value.pointer (some (ps.getD i (dAddr, 0, 0)).1)).toArray)) os) : TblOk P (sortP f g) := by
  intro f' args M r M' h B w0 e w cargs hcs hm
  unfold sortP at h
  split at h
  rotate_left
  · cases h
  rename_i hff
  subst hff
  refine ⟨hf, ?_⟩
  split at h
  · rename_i c gr g'
    split at h
    rotate_left
    · cases h
    rename_i hgg
    subst hgg
    cases h
    obtain ⟨c0, cr, h0, h1, rfl⟩ := concs_cons hcs
    obtain ⟨c1, cr2, h2, h3, rfl⟩ := concs_cons h1
    simp only [concs, Option.some.injEq] at h3
    subst h3
    simp only [conc, concs, Option.some.injEq] at h0 h2
    subst h0 h2
    refine (H0 none _ w).mono ?_
    rintro en w' ⟨rfl, rfl⟩
    exact ⟨e, _, XR.refl _ e, rfl, rfl, hm⟩
  · rename_i b n c gr g'
    split at h
    rotate_left
    · cases h
    rename_i hgg
    subst hgg
    split at h
    rotate_left
    · cases h
    rename_i cs sz wr grp hget
    split at h
    rotate_left
    · cases h
    rename_i ks hks
    split at h
    rotate_left
    · cases h
    rename_i hn
    obtain ⟨hpos, rfl, hbig⟩ := hn
    split at h
    rotate_left
    · cases h
    rename_i M1 hst
    cases h
    obtain ⟨c0, cr, h0, h1, rfl⟩ := concs_cons hcs
    obtain ⟨c1, cr2, h2, h3, rfl⟩ := concs_cons h1
    simp only [concs, Option.some.injEq] at h3
    subst h3
    simp only [conc, concs] at h0 h2
    cases hx : e b with
    | none => rw [hx] at h0; cases h0
    | some x =>
      rw [hx] at h0
      simp only [Option.some.injEq] at h0 h2
      subst h0
      subst h2
      obtain ⟨arr, T, fr, cv, a1, a2, a3, a4, a5⟩ := hm.blocks b _ x hget hx
      have hwr : wr = true := by
        unfold AMem.storeCells at hst
        rw [hget] at hst
        cases wr with
        | true => rfl
        | false => simp at hst
      have hfr := a2 hwr
      subst hfr
      have hlt : x.blk < w.heap.size := (Array.getElem?_eq_some_iff.1 a1).1
      -- what each cell stands for
      have hcl := concs_length a4
      have hkl : ks.length = cs.length := by
        have := congrArg List.length (mapO_map hks)
        simpa using this.symm
      have each : ∀ j, ∃ p : Addr × Int × Int, j < cs.length → cv[j]? = some (.pointer (some p.1)) ∧ ks[j]? = some p.2 ∧ p.1.spot = none ∧ p.1.block < w.heap.size ∧ p.1.block ≠ x.blk ∧ w.cell? p.1 = some (.int .i64 p.2.1) ∧ w.cell? ⟨p.1.block, p.1.off + 2, none⟩ = some (.int .i64 p.2.2) := by
        intro j
        by_cases hj : j < cs.length
        · have hkj : rdKey M cs[j] = some (ks[j]'(by omega)) := by
            have := congrArg (·[j]?) (mapO_map hks)
            simpa [hj, hkl] using this
          obtain ⟨cj, hcj1, hcj2⟩ := concs_get a4 j cs[j] (List.getElem?_eq_getElem hj)
          have hk : ks[j]? = some (ks[j]'(by omega)) := List.getElem?_eq_getElem (by omega)
          generalize ks[j]'(by omega) = kj at hkj hk
          generalize hcsj : cs[j] = x0 at hkj hcj2
          unfold rdKey at hkj
          split at hkj
          rotate_left
          · cases hkj
          rename_i b'
          split at hkj
          rotate_left
          · cases hkj
          rename_i ka kt kn kp sz' hget'
          cases hkj
          obtain ⟨xb, hxb, rfl⟩ := conc_ptr hcj2
          have hne : b ≠ b' := by
            rintro rfl
            rw [hget] at hget'
            cases hget'
            simp only [mapO, rdKey] at hks
            cases hks
          obtain ⟨vs', v1, v2, v3, _⟩ := hm.loadCells (P := P) (b := b') (o := 0) (n := 4) (l := [.int .i64 ka, kt, .int .i64 kn, kp]) (by unfold AMem.loadCells; rw [hget']; rfl) hxb
          obtain ⟨u0, w0', d0⟩ := concs_get v1 0 _ rfl
          obtain ⟨u2, w2', d2⟩ := concs_get v1 2 _ rfl
          have e0 := conc_int d0
          have e2 := conc_int d2
          subst e0 e2
          refine ⟨(⟨xb.blk, xb.o + 0, none⟩, ka, kn), fun _ => ⟨hcj1, hk, rfl, hm.room b' xb hxb, fun he => ?_, ?_, ?_⟩⟩
          · have := hm.sep b b' _ _ x xb hne hget hget' hx hxb he.symm
            subst hwr
            cases grp <;> simp [ABlk.share] at this
          · have := v3 0 _ w0'
            simpa using this
          · have := v3 2 _ w2'
            simpa using this
        · exact ⟨(dAddr, 0, 0), fun h => absurd h hj⟩
      obtain ⟨ps, hps⟩ : ∃ ps : List (Addr × Int × Int), ps = (List.range cs.length).map fun j => (each j).choose := ⟨_, rfl⟩
      have hpl : ps.length = cs.length := by rw [hps]; simp
      have hpg : ∀ j, j < cs.length → ps.getD j (dAddr, 0, 0) = (each j).choose := fun j hj => by
        rw [hps, List.getD_eq_getElem?_getD, List.getElem?_map, List.getElem?_range hj]; rfl
      have hpk : ps.map (·.2) = ks := by
        apply List.ext_getElem?
        intro j
        by_cases hj : j < cs.length
        · have := ((each j).choose_spec hj).2.1
          rw [this, List.getElem?_map, hps, List.getElem?_map, List.getElem?_range hj]; rfl
        · rw [List.getElem?_eq_none (by simp; omega), List.getElem?_eq_none (by omega)]
      have hmain := H x.blk (x.o + 0) (c + if gr then x.d else 0) ps w (by omega) (by omega) hlt (fun j hj => ?_) (fun p hp => ?_)
      rotate_left
      · rw [hpl] at hj
        rw [hpg j hj]
        have h1 := ((each j).choose_spec hj).1
        have h2 := a5 j _ h1
        refine ⟨?_, by simp [World.frozen?, a1]⟩
        simp only [World.cell?, a1, Option.isSome_none, Bool.false_eq_true, if_false, Nat.add_zero]
        exact h2
      · rw [hps] at hp
        obtain ⟨j, hj, rfl⟩ := List.mem_map.1 hp
        have hj := List.mem_range.1 hj
        exact ((each j).choose_spec hj).2.2
      rw [hpl, hpk] at hmain
      refine hmain.mono ?_
      rintro en w' ⟨rfl, m, os, hw⟩
      refine ⟨e, .tuple #[], XR.same (storeCells_n hst) e, rfl, rfl, ?_⟩
      refine hm.sorted (P := P) hst hx (vs := (srtI ks).map fun i => Value.pointer (some (ps.getD i (dAddr, 0, 0)).1)) ?_ (n := m) (os := os) hw
      have : ∀ l : List Nat, (∀ i ∈ l, i < cs.length) → concs e (l.map fun i => cs.getD i undefA) = some (l.map fun i => Value.pointer (some (ps.getD i (dAddr, 0, 0)).1)) := by
        intro l
        induction l with
        | nil => intro _; rfl
        | cons i l ih =>
          intro hall
          have hi := hall i List.mem_cons_self
          obtain ⟨cj, hcj1, hcj2⟩ := concs_get a4 i cs[i] (List.getElem?_eq_getElem hi)
          rw [((each i).choose_spec hi).1, ← hpg i hi] at hcj1
          cases hcj1
          refine concs_mk ?_ (ih fun j hj => hall j (List.mem_cons_of_mem _ hj))
          show conc e (cs.getD i undefA) = _
          rw [List.getD_eq_getElem?_getD, List.getElem?_eq_getElem hi]
          exact hcj2
      exact this _ (fun i hi => by have := srtI_lt ks hi; omega)
  · cases h
end Go.Vx
