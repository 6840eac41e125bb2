/- The known calls hold at the program. -/
import Derived.Test.YtphdlmmllahgkaaDoorNuLay
import Derived.Test.YtphdlmmllahgkaaDoorNuPrint
import Derived.Test.YtphdlmmllahgkaaDoorNuTbl
namespace Go.Proofs.YtphdlmmllahgkaaDoor.num
open Go Go.RowKit Go.Shelf Go.Lib Go.Vx
theorem extra : Builder.Extra Tryd.prog YtphdlmmllahgkaaDoor.joinLaid_ren where
  sizeBuilder := by kernel_rfl
  liesBuilder := by kernel_rfl
  t5 := by kernel_rfl
  a5 := fun w => Tryd.isAgg5 w
  z5 := fun w => Tryd.sizeOf5 w
  v5 := fun w => Tryd.zeroValue5 w
  infoByte := by kernel_rfl
  cellsByte := by kernel_rfl
  sizeByte := by kernel_rfl
  neB5 := by decide
theorem joinS_tail (sep x : List UInt8) (r : List (List UInt8)) : joinS sep (x :: r) = x ++ joinTail sep r := by
  induction r generalizing x with
  | nil => simp [joinS, joinTail]
  | cons y r ih =>
    rw [joinS, ih y]
    · simp [joinTail, List.append_assoc]
    · simp
theorem joinS_eq (sep : List UInt8) (l : List (List UInt8)) : Lib.join l sep = joinS sep l := by
  cases l with
  | nil => rfl
  | cons x r => rw [Lib.join_cons, joinS_tail]
theorem join_len (sep : List UInt8) (hs : sep.length ≤ 1000) : ∀ l : List (List UInt8), l.all (fun x => decide (x.length ≤ 1000)) = true → (joinS sep l).length ≤ l.length * 2000
  | [], _ => by simp [joinS]
  | [x], h => by
    have := of_decide_eq_true ((List.all_eq_true.1 h) x (by simp))
    simp only [joinS, List.length_cons, List.length_nil]; omega
  | x :: y :: r, h => by
    have h1 := of_decide_eq_true ((List.all_eq_true.1 h) x (by simp))
    have ih := join_len sep hs (y :: r) (by rw [List.all_cons, Bool.and_eq_true] at h; exact h.2)
    rw [joinS]
    · simp only [List.length_append, List.length_cons] at ih ⊢; omega
    · simp
theorem strs_conc [Val] {e : Env} : ∀ {l : List AV} {vs : List Value} {xs : List (List UInt8)}, concs e l = some vs → mapO strOf l = some xs → vs = xs.map fun x => Value.string (SB x)
  | [], vs, xs, h, hm => by
    simp only [concs, Option.some.injEq] at h
    simp only [mapO, Option.some.injEq] at hm
    subst h; subst hm; rfl
  | a :: l, vs, xs, h, hm => by
    obtain ⟨v, vr, h1, h2, rfl⟩ := concs_cons h
    unfold mapO at hm
    split at hm
    · rename_i x r hx hr
      cases hm
      rw [strs_conc h2 hr, List.map_cons]
      cases a with
      | str s =>
        simp only [strOf, Option.some.injEq] at hx
        simp only [conc, Option.some.injEq] at h1
        subst hx; subst h1; rfl
      | _ => cases hx
    · cases hm
theorem concs_pre [Val] {e : Env} : ∀ {l : List AV} {vs : List Value} (n : Nat), concs e l = some vs → concs e (l.take n) = some (vs.take n)
  | [], vs, n, h => by
    simp only [concs, Option.some.injEq] at h
    subst h; simp [concs]
  | a :: l, vs, 0, h => by simp [concs]
  | a :: l, vs, n + 1, h => by
    obtain ⟨v, vr, h1, h2, rfl⟩ := concs_cons h
    exact concs_mk h1 (concs_pre n h2)
set_option maxHeartbeats 2000000 in
theorem joinX_ok [Val] : TblOk Tryd.prog (joinX 19) := by
  intro f' args M r M' h B w0 e w cargs hcs hm
  unfold joinX at h
  split at h
  rotate_left
  · cases h
  rename_i hff
  subst hff
  refine ⟨by kernel_rfl, ?_⟩
  split at h
  rotate_left
  · cases h
  rename_i b n c gr sep
  split at h
  rotate_left
  · cases h
  rename_i l hl
  split at h
  rotate_left
  · cases h
  rename_i xs hxs
  split at h
  rotate_left
  · cases h
  rename_i hn
  simp only [Option.some.injEq, Prod.mk.injEq] at h
  obtain ⟨rfl, rfl⟩ := h
  obtain ⟨c0, cr, h0, h1, rfl⟩ := concs_cons hcs
  obtain ⟨c1, cr2, h2, h3, rfl⟩ := concs_cons h1
  simp only [concs, Option.some.injEq] at h3
  subst h3
  simp only [conc] at h0 h2
  cases hx : e b with
  | none => rw [hx] at h0; cases h0
  | some x =>
    rw [hx] at h0
    simp only [Option.some.injEq] at h0 h2
    subst h0
    subst h2
    unfold AMem.loadCells at hl
    split at hl
    · rename_i cs sz wr grp hget
      split at hl
      · rename_i hle
        cases hl
        obtain ⟨arr, T, fr, cv, a1, a2, a3, a4, a5⟩ := hm.blocks b _ x hget hx
        rw [List.drop_zero] at hxs
        have hcx := strs_conc (concs_pre n a4) hxs
        have hcn : cs.length = cv.length := (concs_length a4).symm
        have hxn : xs.length = n := by
          have := congrArg List.length hcx
          rw [List.length_take, List.length_map] at this
          omega
        have hlt : x.blk < w.heap.size := (Array.getElem?_eq_some_iff.1 a1).1
        have hj := Any.strings_Join YtphdlmmllahgkaaDoor.joinLaid extra x.blk (x.o + 0) (c + if gr = true then x.d else 0) (xs.map SB) sep w (fun j y hy => by
          have h1 : j < n := by rw [← hxn]; have := (List.getElem?_eq_some_iff.1 hy).1; simpa using this
          have h2 : cv[j]? = some (.string y) := by
            have := congrArg (fun l => l[j]?) hcx
            simp only [List.getElem?_take, h1, if_true, List.getElem?_map] at this
            rw [this]
            rw [List.getElem?_map] at hy
            cases hh : xs[j]? with
            | none => rw [hh] at hy; cases hy
            | some z => rw [hh] at hy; simp only [Option.map_some, Option.some.injEq] at hy ⊢; rw [hy]
          have h3 := a5 j _ h2
          simp only [World.cell?, a1, Nat.add_zero, h3]; rfl) hlt (by rw [List.length_map]; omega) (by rw [List.length_map]; omega) (by
            rw [List.map_map, joinS_eq]
            have : ((fun x => x.data.toList) ∘ SB) = (id : List UInt8 → List UInt8) := rfl
            rw [this, List.map_id]
            have := join_len sep.data.toList (by show sep.size ≤ 1000; exact hn.2.2.1) xs hn.2.2.2
            omega)
        rw [List.length_map, hxn, List.map_map, show ((fun x => x.data.toList) ∘ SB) = (id : List UInt8 → List UInt8) from rfl, List.map_id, joinS_eq] at hj
        refine Calls.mono hj ?_
        rintro en w' ⟨rfl, hb⟩
        exact ⟨e, _, XR.refl M e, rfl, by simp [conc], hm.outside hb⟩
      · cases hl
    · cases hl
theorem powAt [Val] (hP : ∀ i, i < 20 → Val.g ⟨2, i, none⟩ = some (.int .u64 ((10 ^ i : Nat) : Int))) {w : World} (hro : Ro w) : PowAt w := fun i hi => by
  obtain ⟨_, c, h1, h2⟩ := hro _ _ (hP i hi)
  simp only [conc, Option.some.injEq] at h1
  subst h1; exact h2
theorem errAt [Val] {tp : TypeId} {p : Option Addr} (hE : Val.g ⟨1, 0, none⟩ = some (.iface tp (.rptr p))) {w : World} (hro : Ro w) : w.cell? ⟨1, 0, none⟩ = some (.iface tp (.pointer p)) := by
  obtain ⟨_, c, h1, h2⟩ := hro _ _ hE
  simp only [conc, Option.some.injEq] at h1
  subst h1; exact h2
theorem tbl0_ok [Val] {tp : TypeId} {p : Option Addr} (hE : Val.g ⟨1, 0, none⟩ = some (.iface tp (.rptr p))) (hP : ∀ i, i < 20 → Val.g ⟨2, i, none⟩ = some (.int .u64 ((10 ^ i : Nat) : Int)))
    (f : FuncId) (args : List AV) (r : AV) (h : tbl0 f args = some r) : Closed Tryd.prog f args r := by
  intro e w cargs hro hcs
  unfold tbl0 at h
  split at h
  · rename_i hf
    subst hf
    split at h
    · rename_i s
      split at h
      · rename_i hs
        cases h
        obtain ⟨c0, cr, h0, h1, rfl⟩ := concs_cons hcs
        simp only [concs, Option.some.injEq] at h1
        simp only [conc, Option.some.injEq] at h0
        subst h0; subst h1
        refine ⟨by kernel_rfl, (read_holds s hs w tp (.pointer p) (errAt hE hro)).mono ?_⟩
        rintro en w' ⟨rfl, hb⟩
        exact ⟨_, rfl, by simp [conc, concs], hb⟩
      · cases h
    · cases h
  · split at h
    · rename_i hf
      subst hf
      split at h
      · rename_i u
        split at h
        · rename_i hu
          cases h
          obtain ⟨c0, cr, h0, h1, rfl⟩ := concs_cons hcs
          simp only [concs, Option.some.injEq] at h1
          simp only [conc, Option.some.injEq] at h0
          subst h0; subst h1
          obtain ⟨k, rfl⟩ : ∃ k : Nat, u = k := ⟨u.toNat, by omega⟩
          refine ⟨by kernel_rfl, (print_holds k (by omega) w (powAt hP hro)).mono ?_⟩
          rintro en w' ⟨rfl, hb⟩
          exact ⟨_, rfl, by simp [conc], hb⟩
        · cases h
      · cases h
    · cases h
end Go.Proofs.YtphdlmmllahgkaaDoor.num
