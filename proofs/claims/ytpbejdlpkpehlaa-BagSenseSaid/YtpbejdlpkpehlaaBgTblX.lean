/- The calls whose answers are known: awake, and lacking. -/
import Derived.Test.YtpbejdlpkpehlaaBgWake
import Derived.Test.YtpbejdlpkpehlaaBgLack
import Derived.Test.YtpbejdlpkpehlaaBgSenR
namespace Go.Proofs.Ytpbejdlpkpehlaa.bag
open Go Go.Vx
/-- how many are lacking, by what stands in memory -/
def LkP (args : List AV) (M : AMem) (n : Int) : Prop := ∃ lv rc l r, args = [lv, .agg rc] ∧ Okg M ∧ SnR M lv l ∧ SnC rc r ∧ l.length ≤ 90000 ∧ n = lackN r l
open Classical in
noncomputable def lackX : Tbl := fun f args M => if h : f = 16 ∧ ∃ n, LkP args M n then some (.int .i64 h.2.choose, M) else none
theorem lackX_at {lv : AV} {rc : List AV} {l : List Sn} {r : Sn} {M : AMem} (hok : Okg M) (hl : SnR M lv l) (hr : SnC rc r) (hn : l.length ≤ 90000) : lackX 16 [lv, .agg rc] M = some (.int .i64 (lackN r l), M) := by
  have hex : ∃ n, LkP [lv, .agg rc] M n := ⟨_, lv, rc, l, r, rfl, hok, hl, hr, hn, rfl⟩
  unfold lackX
  rw [dif_pos ⟨rfl, hex⟩]
  have hsp := hex.choose_spec
  generalize hex.choose = n at *
  obtain ⟨lv', rc', l', r', he, _, hl', hr', _, rfl⟩ := hsp
  simp only [List.cons.injEq, AV.agg.injEq, and_true] at he
  obtain ⟨rfl, rfl⟩ := he
  rw [hl.uniq hl', hr.uniq hr']
theorem lackX_none {f : FuncId} (h : f ≠ 16) (a : List AV) (M : AMem) : lackX f a M = none := by
  unfold lackX
  rw [dif_neg (fun hc => h hc.1)]
theorem lackX_ok [Val] : TblOk Try.prog lackX := by
  intro f args M r M' h B w0 e w cargs hc hm
  unfold lackX at h
  split at h
  · rename_i hx
    obtain ⟨rfl, hex⟩ := hx
    have hsp := hex.choose_spec
    simp only [Option.some.injEq, Prod.mk.injEq] at h
    obtain ⟨rfl, rfl⟩ := h
    generalize hex.choose = n at *
    obtain ⟨lv, rc, l, r, rfl, hok, hl, hr, hn, rfl⟩ := hsp
    obtain ⟨hb, hcl⟩ := lack_calls hok hl hr hn
    refine ⟨hb, (hcl B w0 e w cargs hc hm).mono ?_⟩
    rintro en w' ⟨v, he, hv, hm'⟩
    exact ⟨e, v, XR.refl _ _, he, hv, hm'⟩
  · cases h
def tbl0 (f : FuncId) (args : List AV) : Option AV :=
  if f = 6 then match args with
    | [] => some (.bool true)
    | _ => none
  else none
theorem tbl0_closed [Val] {f : FuncId} {args : List AV} {r : AV} (h : tbl0 f args = some r) : Closed Try.prog f args r := by
  unfold tbl0 at h
  split at h
  · rename_i hf
    subst hf
    cases args with
    | nil => cases h; exact closed_of namedC_ok codeOk rfl (awake_run Val.g) rfl rfl
    | cons a l => cases h
  · cases h
noncomputable def tbl : Tbl := fun f a M => match (match tbl0 f a with
    | some r => some (r, M)
    | none => none) with
  | some q => some q
  | none => lackX f a M
theorem tbl_ok [Val] : TblOk Try.prog tbl := tblOk_or (tblOk_lift fun _ _ _ h => tbl0_closed h) lackX_ok
theorem tbl_none {f : FuncId} (h : f ≠ 6 ∧ f ≠ 16) (a : List AV) (M : AMem) : tbl f a M = none := by
  unfold tbl tbl0
  rw [if_neg h.1]
  exact lackX_none h.2 a M
theorem tbl_awake (M : AMem) : tbl 6 [] M = some (.bool true, M) := by
  unfold tbl tbl0
  rw [if_pos rfl]
theorem call_awake (d : Nat) (M : AMem) : callF tbl code 100000 (d + 1) 6 [] M = some (.bool true, M) := by
  simp only [callF, tbl_awake]
theorem call_lack {lv : AV} {rc : List AV} {l : List Sn} {r : Sn} {M : AMem} (d : Nat) (hok : Okg M) (hl : SnR M lv l) (hr : SnC rc r) (hn : l.length ≤ 90000) : callF tbl code 100000 (d + 1) 16 [lv, .agg rc] M = some (.int .i64 (lackN r l), M) := by
  have : tbl 16 [lv, .agg rc] M = some (.int .i64 (lackN r l), M) := by
    unfold tbl tbl0
    rw [if_neg (by decide)]
    exact lackX_at hok hl hr hn
  simp only [callF, this]
end Go.Proofs.Ytpbejdlpkpehlaa.bag
