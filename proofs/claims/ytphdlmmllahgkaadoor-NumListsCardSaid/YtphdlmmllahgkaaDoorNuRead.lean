/- num.Read, at this program: by the kit's contracts of ContainsFunc and ParseUint. -/
import Derived.Test.YtphdlmmllahgkaaDoorNuLay
import Derived.Test.YtphdlmmllahgkaaDoorNuRef
import Derived.Test.YtphdlmmllahgkaaDoorNuTbl
import Derived.WalkKit
import Derived.Deep.RegionHeld3
namespace Go.Proofs.YtphdlmmllahgkaaDoor.num
open Go Go.RowKit Go.Shelf Go.Lib Go.Vx
set_option maxHeartbeats 1000000 in
theorem strange_grows (w : World) : PredGrows Tryd.prog 16 #[] bad w := by
  intro W x hx hb
  go_enter Tryd.func16, Tryd.ntmps16
  go_wp2
  · go_ret
    refine ⟨?_, Below.refl _ _⟩
    unfold bad
    congr 2
    rename_i h
    have e : decide ((x : Int) < 48) = decide (x < 48) := decide_eq_decide.2 (by omega)
    have e' : decide ((57 : Int) < x) = decide (x > 57) := decide_eq_decide.2 (by omega)
    rw [e, e']; rfl
  · go_ret
    refine ⟨?_, Below.refl _ _⟩
    unfold bad
    rename_i h
    rw [decide_eq_true (show x < 48 by omega)]; rfl

def badS (s : ByteArray) : Prop := s.data.toList = [] ∨ 0 ≤ idxFunc bad true s ∨ 1 < s.size ∧ (s.data.toList.headD 0).toNat = 48
theorem idx_all (s : ByteArray) : decide (0 ≤ idxFunc bad true s) = !(s.data.toList.all isDig) := idxFunc_dig s.data.toList
theorem badS_iff (s : ByteArray) : badS s ↔ (s.data.toList = [] ∨ s.data.toList.all isDig = false ∨ lead0 s.data.toList = true) := by
  have h := idx_all s
  unfold badS lead0
  have e : s.size = s.data.toList.length := rfl
  rw [e]
  constructor
  · rintro (a | a | ⟨a, b⟩)
    · exact .inl a
    · refine .inr (.inl ?_)
      rw [decide_eq_true a] at h
      cases hb : s.data.toList.all isDig with
      | false => rfl
      | true => rw [hb] at h; cases h
    · exact .inr (.inr (by rw [decide_eq_true a, decide_eq_true b]; rfl))
  · rintro (a | a | a)
    · exact .inl a
    · rw [a] at h; exact .inr (.inl (of_decide_eq_true h))
    · rw [Bool.and_eq_true] at a
      exact .inr (.inr ⟨of_decide_eq_true a.1, of_decide_eq_true a.2⟩)
theorem read_bad {s : ByteArray} (h : badS s) : readL s.data.toList = (0, 12) := by
  unfold readL; rw [if_pos ((badS_iff s).1 h)]
theorem read_ok {s : ByteArray} (h : ¬ badS s) {u : Nat} (hu : parseUintM 18446744073709551615 0 s.data.toList = .ok u) : readL s.data.toList = (u, 0) := by
  unfold readL; rw [if_neg (fun k => h ((badS_iff s).2 k)), hu]
theorem read_range {s : ByteArray} (h : ¬ badS s) (hu : parseUintM 18446744073709551615 0 s.data.toList = .range) : readL s.data.toList = (0, 14) := by
  unfold readL; rw [if_neg (fun k => h ((badS_iff s).2 k)), hu]
theorem digs_end : ∀ (l : List UInt8) (acc : Nat), l.all isDig = true → (∃ u, parseUintM 18446744073709551615 acc l = .ok u) ∨ parseUintM 18446744073709551615 acc l = .range
  | [], acc, _ => .inl ⟨acc, by simp [parseUintM]⟩
  | c :: l, acc, h => by
    rw [List.all_cons, Bool.and_eq_true] at h
    rw [pm_cons h.1 (Nat.le_refl _)]
    split
    · exact .inr rfl
    · exact digs_end l _ h.2
theorem dataList (s : ByteArray) : s.toList = s.data.toList := SB_toList s.data.toList
theorem head_at {s : ByteArray} (h : 0 < s.size) : s[0]'h = s.data.toList.headD 0 := by
  have e : s.size = s.data.toList.length := rfl
  have h2 : 0 < s.data.toList.length := by omega
  have := ba_get h2
  have e3 : s[0]'h = s.data.toList[0] := this
  rw [e3]
  rw [List.headD_eq_head?_getD, List.head?_eq_getElem?, List.getElem?_eq_getElem h2]; rfl
theorem bad_of {s : ByteArray} (h : s.toList = []) : badS s := .inl ((dataList s).symm.trans h)
theorem bad_zero {s : ByteArray} (h1 : 1 < (s.size : Int)) (h0 : 0 < s.size) (h : ((s[0]'h0).toNat : Int) = 48) : badS s := by
  refine .inr (.inr ⟨by omega, ?_⟩)
  rw [← head_at h0]; omega
theorem nil_of {s : ByteArray} (h : s.toList.isEmpty = true) : s.toList = [] := List.isEmpty_iff.1 h
theorem not_bad {s : ByteArray} (he : ¬ s.toList = []) (hi : idxFunc bad true s < 0) (hz : (s.size : Int) ≤ 1 ∨ ∃ h : 0 < s.size, (((s[0]'h).toNat : Int) == 48) = false) : ¬ badS s := by
  rintro (h | h | ⟨h1, h2⟩)
  · exact he ((dataList s).trans h)
  · omega
  · rcases hz with hz | ⟨h0, hz⟩
    · omega
    · rw [← head_at h0] at h2
      rw [h2] at hz; cases hz
theorem cell_lt {w : World} {a : Addr} {v : Value} (h : w.cell? a = some v) : a.block < w.heap.size := by
  unfold World.cell? at h
  cases hh : w.heap[a.block]? with
  | none => rw [hh] at h; cases h
  | some o => exact (Array.getElem?_eq_some_iff.1 hh).1
theorem cell_below {w W : World} {a : Addr} {v : Value} (h : Below w.heap.size w W) (hv : w.cell? a = some v) : W.cell? a = some v := (h.cell (cell_lt hv)).trans hv
set_option maxHeartbeats 4000000 in
theorem read_holds (s : ByteArray) (hs : s.size ≤ 1000) (w : World) (tp : TypeId) (p : Value) (hv : w.cell? ⟨YtphdlmmllahgkaaDoor.parseLaid_ren.g 1, 0, none⟩ = some (.iface tp p)) :
    Calls Tryd.prog 6 #[.string s] w fun e w' => e = .returned (.tuple #[.int .u64 (readL s.data.toList).1, .int .i64 (readL s.data.toList).2]) ∧ Below w.heap.size w w' := by
  have eg : ∀ args w, (callFunc 16 args).run Tryd.prog w = .ok (.enter 16 args) w := enters_of Tryd.func16 (by kernel_rfl) rfl
  have cc := fun W => Any.strings_ContainsFunc_grows YtphdlmmllahgkaaDoor.containsLaid 16 #[] eg bad s W (strange_grows W)
  change ∀ W, Calls Tryd.prog 15 _ _ _ at cc
  by_cases hb : badS s
  · have hR := read_bad hb
    go_enter Tryd.func6, Tryd.ntmps6
    go_wp2_with (first | (go_at_call 15; refine (cc _).mono ?_; rintro e w' ⟨rfl, hc⟩))
    · go_ret2
      exact ⟨by first | rfl | (rw [hR]; rfl), Below.refl _ _⟩
    · go_ret2
      exact ⟨by first | rfl | (rw [hR]; rfl), by assumption⟩
    · have h0 := ‹(s.toList.isEmpty = false ∧ idxFunc bad true s < 0) ∧ (((s[0]'‹0 < s.size›).toNat : Int) == 48) = false›
      exact absurd hb (not_bad ‹¬ s.toList = []› ‹idxFunc bad true s < 0› (.inr ⟨_, h0.2⟩))
    · go_ret2
      exact ⟨by first | rfl | (rw [hR]; rfl), by assumption⟩
    · exact absurd hb (not_bad ‹¬ s.toList = []› ‹idxFunc bad true s < 0› (.inl ‹(s.size : Int) ≤ 1›))
    · go_ret2
      exact ⟨by first | rfl | (rw [hR]; rfl), by assumption⟩
  · have hno : (∃ u, parseUintB 64 s.data.toList = .ok u) ∨ parseUintB 64 s.data.toList = .range := by
      rw [pb64 _ (fun e => hb (.inl e))]
      refine digs_end _ _ ?_
      cases ha : s.data.toList.all isDig with
      | true => rfl
      | false => exact absurd ((badS_iff s).2 (.inr (.inl ha))) hb
    rcases hno with ⟨u, hp⟩ | hp
    · have hR := read_ok hb (by rw [← pb64 _ (fun e => hb (.inl e))]; exact hp)
      have cp : ∀ W, Calls Tryd.prog 17 #[.string s, .int .i64 10, .int .i64 64] W fun e w' => e = .returned (.tuple #[.int .u64 u, .nilIface]) ∧ Below W.heap.size W w' := fun W => (Any.strconv_ParseUint_10_at64_ok YtphdlmmllahgkaaDoor.parseLaid s (by omega) u hp W).mono (by
        rintro e w' ⟨rfl, rfl | rfl⟩
        · exact ⟨rfl, Below.refl _ _⟩
        · exact ⟨rfl, bytesWorld_below _ _ _⟩)
      clear hp
      go_enter Tryd.func6, Tryd.ntmps6
      go_wp2_with (first
        | (go_at_call 15; refine (cc _).mono ?_; rintro e w' ⟨rfl, hc⟩)
        | (go_at_call 17; refine (cp _).mono ?_; rintro e w'' ⟨rfl, hc2⟩))
      · exact absurd (bad_of ‹s.toList = []›) hb
      · have h0 := ‹(s.toList.isEmpty = true ∨ 0 ≤ idxFunc bad true s) ∨ (((s[0]'‹0 < s.size›).toNat : Int) == 48) = true›
        exact absurd (by
          rcases h0 with (h | h) | h
          · exact bad_of (nil_of h)
          · exact .inr (.inl h)
          · exact bad_zero ‹1 < (s.size : Int)› _ (eq_of_beq h)) hb
      · go_ret2
        exact ⟨by first | rfl | (rw [hR]; rfl), hc.trans (hc2.mono hc.size)⟩
      · have h0 := ‹s.toList.isEmpty = true ∨ 0 ≤ idxFunc bad true s›
        exact absurd (by
          rcases h0 with h | h
          · exact bad_of (nil_of h)
          · exact .inr (.inl h)) hb
      · go_ret2
        exact ⟨by first | rfl | (rw [hR]; rfl), hc.trans (hc2.mono hc.size)⟩
      · exact absurd (.inr (.inl ‹0 ≤ idxFunc bad true s›)) hb
    · have hR := read_range hb (by rw [← pb64 _ (fun e => hb (.inl e))]; exact hp)
      have cp : ∀ W, W.cell? ⟨YtphdlmmllahgkaaDoor.parseLaid_ren.g 1, 0, none⟩ = some (.iface tp p) → Calls Tryd.prog 17 #[.string s, .int .i64 10, .int .i64 64] W fun e w' => ∃ t a, e = .returned (.tuple #[.int .u64 18446744073709551615, .iface t a]) ∧ Below W.heap.size W w' := fun W hv => (Any.strconv_ParseUint_10_at64_range YtphdlmmllahgkaaDoor.parseLaid s (by omega) hp (.iface tp p) W hv (.inr ⟨tp, p, rfl⟩)).mono (by
        rintro e w' ⟨N, rfl, _, _, hb⟩
        exact ⟨_, _, rfl, hb⟩)
      clear hp
      have hvv : ∀ W, Below w.heap.size w W → W.cell? ⟨YtphdlmmllahgkaaDoor.parseLaid_ren.g 1, 0, none⟩ = some (.iface tp p) := fun W h => cell_below h hv
      go_enter Tryd.func6, Tryd.ntmps6
      go_wp2_with (first
        | (go_at_call 15; refine (cc _).mono ?_; rintro e w' ⟨rfl, hc⟩)
        | (go_at_call 17; refine (cp _ (hvv _ hc)).mono ?_; rintro e w'' ⟨t, a, rfl, hc2⟩))
      · exact absurd (bad_of ‹s.toList = []›) hb
      · have h0 := ‹(s.toList.isEmpty = true ∨ 0 ≤ idxFunc bad true s) ∨ (((s[0]'‹0 < s.size›).toNat : Int) == 48) = true›
        exact absurd (by
          rcases h0 with (h | h) | h
          · exact bad_of (nil_of h)
          · exact .inr (.inl h)
          · exact bad_zero ‹1 < (s.size : Int)› _ (eq_of_beq h)) hb
      · go_ret2
        exact ⟨by first | rfl | (rw [hR]; rfl), hc.trans (hc2.mono hc.size)⟩
      · have h0 := ‹s.toList.isEmpty = true ∨ 0 ≤ idxFunc bad true s›
        exact absurd (by
          rcases h0 with h | h
          · exact bad_of (nil_of h)
          · exact .inr (.inl h)) hb
      · go_ret2
        exact ⟨by first | rfl | (rw [hR]; rfl), hc.trans (hc2.mono hc.size)⟩
      · exact absurd (.inr (.inl ‹0 ≤ idxFunc bad true s›)) hb
end Go.Proofs.YtphdlmmllahgkaaDoor.num
