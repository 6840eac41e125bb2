/- num.Words as a known call holds at the program. -/
import Derived.Test.YtphdlmmllahgkaaDoorNuJoin
import Derived.Test.YtphdlmmllahgkaaDoorNlWd
namespace Go.Proofs.YtphdlmmllahgkaaDoor.num
open Go Go.RowKit Go.Shelf Go.Lib Go.Vx
theorem concs_strA [Val] {e : Env} : ∀ l : List (List UInt8), concs e (l.map strA) = some (l.map fun x => Value.string (SB x))
  | [] => rfl
  | x :: l => concs_mk rfl (concs_strA l)
theorem index_calls (s : ByteArray) (W : World) : Calls Tryd.prog 44 #[.string s, .string ⟨#[32]⟩] W fun e w' => e = .returned (.int .i64 (Lib.indexByte s.data.toList 32)) ∧ w' = W := Any.strings_Index_one YtphdlmmllahgkaaDoor.indexLaid s 32 W
theorem wordsX_ok [Val] : TblOk Tryd.prog (wordsX 13) := by
  intro f' args M r M' h B w0 e w cargs hcs hm
  unfold wordsX at h
  split at h
  rotate_left
  · cases h
  rename_i hff
  subst hff
  refine ⟨by kernel_rfl, ?_⟩
  split at h
  rotate_left
  · cases h
  rename_i s
  split at h
  rotate_left
  · cases h
  rename_i hs
  obtain ⟨c0, cr, h0, h1, rfl⟩ := concs_cons hcs
  simp only [concs, Option.some.injEq] at h1
  simp only [conc, Option.some.injEq] at h0
  subst h0
  subst h1
  have hc := words_calls index_calls s.data.toList hs w
  rw [SB_data] at hc
  split at h
  · rename_i hz
    cases h
    refine hc.mono ?_
    rintro en w' ⟨v, rfl, _, hv, hb⟩
    obtain rfl := hv.2 hz
    exact ⟨e, _, XR.refl _ e, rfl, rfl, hm.outside hb⟩
  · rename_i x q hz
    cases h
    refine hc.mono ?_
    rintro en w' ⟨v, rfl, hrow, _, hb⟩
    rw [hz] at hrow
    rcases hrow.2 with ⟨rfl, h0⟩ | ⟨gb, cap, cur, rfl, hbase, hgb, r1, r2, r3, r4⟩
    · simp at h0
    · refine ⟨e.set M.n ⟨gb, 0, cap - (q.length + 1)⟩, _, hm.xone rfl _, rfl, ?_, hm.madeN hb hbase hgb (concs_strA (x :: q)) ?_ (fun i v hi => ?_) none⟩
      · simp only [conc, Env.set, if_true, Nat.add_zero]
        rw [List.length_cons] at r1 ⊢
        rw [show q.length + 1 + (cap - (q.length + 1)) = cap by omega]
      · rw [List.length_map, List.length_cons, r3]
        rw [List.length_cons] at r1
        omega
      · have hi' := (List.getElem?_eq_some_iff.1 hi).1
        rw [List.length_map] at hi'
        have := congrArg (·[i]?) r4
        rw [List.getElem?_take_of_lt (by omega)] at this
        rw [← Array.getElem?_toList, this]
        exact hi
theorem tblW_ok [Val] {tp : TypeId} {p : Option Addr} (hE : Val.g ⟨1, 0, none⟩ = some (.iface tp (.rptr p))) (hP : ∀ i, i < 20 → Val.g ⟨2, i, none⟩ = some (.int .u64 ((10 ^ i : Nat) : Int))) : TblOk Tryd.prog tbl :=
  tblOk_or (tblOk_lift (tbl0_ok hE hP)) (tblOk_or wordsX_ok joinX_ok)
end Go.Proofs.YtphdlmmllahgkaaDoor.num
