/- What order keeps in memory: the waits, the heap, what came out. -/
import Derived.Test.YtmaldkpkodcggaaGrRefR
namespace Go.Proofs.Ytmaldkpkodcggaa.grf
open Go Go.Vx

def OSt (M0 M : AMem) (wb pb : Nat) (vw : AV) (ws l : List Int) (vo : AV) (out : List Int) : Prop := ∃ γ, Step M0 M ∧ M0.n ≤ pb ∧ wb ≠ pb ∧ γ ≠ wb ∧ γ ≠ pb ∧ wb < M.n ∧ pb < M.n ∧ γ < M.n ∧ RowI M0 M 1 wb vw (ws.map eI) ∧ (∃ v, M.get pb = some (.cells [v] 0 true none) ∧ RowI M0 M 1 γ v (l.map eI)) ∧ HeapN ltI 0 l l.length ∧ ((vo = .slice none 0 0 false ∧ out = []) ∨ ∃ γ2, γ2 ≠ wb ∧ γ2 ≠ pb ∧ γ2 ≠ γ ∧ γ2 < M.n ∧ RowI M0 M 1 γ2 vo (out.map eI))
section
variable {M0 M : AMem} {wb pb : Nat} {vw vo : AV} {ws l out : List Int}
theorem OSt.step (h : OSt M0 M wb pb vw ws l vo out) : Step M0 M := by obtain ⟨γ, h, _⟩ := h; exact h
theorem OSt.wlen (h : OSt M0 M wb pb vw ws l vo out) : opI .lenS [vw] M = some (.val (.int .i64 ws.length) M) := by
  obtain ⟨γ, h1, _, _, _, _, _, _, _, h2, _⟩ := h
  exact row1_len h2 h1.ok.1
theorem OSt.wat (h : OSt M0 M wb pb vw ws l vo out) {i : Nat} (hi : i < ws.length) : (∀ M', opI (.indexAddrS 1) [vw, .int .i64 i] M' = some (.val (rowp vw 1 i) M')) ∧ opI (.load false 1) [rowp vw 1 i] M = some (.val (.int .i64 (ws.getD i 0)) M) := by
  obtain ⟨γ, h1, _, _, _, _, _, _, _, h2, _⟩ := h
  exact row1_at h2 h1.ok.1 hi
theorem OSt.wput (h : OSt M0 M wb pb vw ws l vo out) {i : Nat} (hi : i < ws.length) (x : Int) : ∃ M', opI (.store 1) [rowp vw 1 i, .int .i64 x] M = some (.val (.tuple []) M') ∧ OSt M0 M' wb pb vw (ws.set i x) l vo out := by
  obtain ⟨γ, h1, h2, h3, h4, h5, h6, h7, h8, h9, ⟨v, ha, hb⟩, hc, hd⟩ := h
  obtain ⟨M', e1, s1, r1, f1, n1⟩ := row1_put h1 h9 hi x
  refine ⟨M', e1, γ, s1, h2, h3, h4, h5, by omega, by omega, by omega, r1, ⟨v, f1 pb _ ha (fun he => h3 he.symm), hb.frame f1 h4⟩, hc, hd.imp id fun ⟨γ2, k1, k2, k3, k4, k5⟩ => ⟨γ2, k1, k2, k3, by omega, k5.frame f1 k1⟩⟩
theorem OSt.olen (h : OSt M0 M wb pb vw ws l vo out) : opI .lenS [vo] M = some (.val (.int .i64 out.length) M) := by
  obtain ⟨γ, h1, _, _, _, _, _, _, _, _, _, _, h2⟩ := h
  rcases h2 with ⟨rfl, rfl⟩ | ⟨γ2, _, _, _, _, h3⟩
  · rfl
  · exact row1_len h3 h1.ok.1
theorem OSt.orow (h : OSt M0 M wb pb vw ws l vo out) : IRow M .i64 vo out := by
  obtain ⟨γ, h1, _, _, _, _, _, _, _, _, _, _, h2⟩ := h
  rcases h2 with ⟨rfl, rfl⟩ | ⟨γ2, _, _, _, _, h3⟩
  · exact IRow.nil
  · exact h3.row h1.ok.1
theorem OSt.hlen (h : OSt M0 M wb pb vw ws l vo out) : ∃ v, opI (.load false 1) [.ptr (some (pb, 0))] M = some (.val v M) ∧ ∀ d, callF tbl code 100000 (d + 1) 20 [v] M = some (.int .i64 l.length, M) := by
  obtain ⟨γ, h1, _, _, _, _, _, _, _, _, ⟨v, ha, hb⟩, _⟩ := h
  exact ⟨v, load_own (o := 0) ha rfl, fun d => plen_ok d h1.ok.1 hb⟩
theorem OSt.hpush (h : OSt M0 M wb pb vw ws l vo out) (d : Nat) (hl : l.length < 90000) (x : Int) :
    Ans (callF tbl code 100000 (d + 3)) 19 [hvP pb, .iface 3 (.int .i64 x)] M fun _ M' => ∃ l', OSt M0 M' wb pb vw ws l' vo out ∧ l'.Perm (l ++ [x]) := by
  obtain ⟨γ, h1, h2, h3, h4, h5, h6, h7, h8, h9, ⟨v, ha, hb⟩, hc, hd⟩ := h
  obtain ⟨r1, M1, c1, s1, γ', g1, ⟨v1, a1, b1⟩, f1, n1⟩ := ppush_ok (d + 1) h1 h2 (fun h => h5 h.symm) ha hb (by omega) x
  have hne : pb ≠ γ' := by rcases g1 with rfl | g <;> omega
  have hnw : γ' ≠ wb := by rcases g1 with rfl | g <;> omega
  have hr : PRep M0 M1 pb γ' M1 (l ++ [x]) := ⟨s1, Nat.le_refl _, Fr.refl, h2, hne, by simp; omega, v1, a1, b1⟩
  have i1 : opI (.invoke [(51, 42)] []) [hvP pb, .iface 3 (.int .i64 x)] M = some (.call 42 [.ptr (some (pb, 0)), .iface 3 (.int .i64 x)]) := by simp [opI, invokeI, List.lookup]
  obtain ⟨r2, M2, c2, l', ⟨k1, k2, k3, _, _, _, v2, k4, k5⟩, k6, k7⟩ := push_ok heapP woI d i1 c1 hr hc hl
  refine ⟨r2, M2, c2, l', ⟨γ', k1, h2, h3, hnw, fun h => hne h.symm, by omega, by omega, ?_, ?_, ⟨v2, k4, k5⟩, k7, ?_⟩, k6⟩
  · have := b1.id_lt s1.ok (by simp)
    omega
  · exact (h9.frame f1 (by rintro (h | h) <;> omega)).frame k3 (by rintro (h | h) <;> omega)
  · refine hd.imp id fun ⟨γ2, e1, e2, e3, e4, e5⟩ => ⟨γ2, e1, e2, ?_, by omega, (e5.frame f1 (by rintro (h | h) <;> omega)).frame k3 ?_⟩
    · rcases g1 with rfl | g <;> omega
    · rintro (h | h)
      · omega
      · rcases g1 with rfl | g <;> omega
theorem OSt.hpop (h : OSt M0 M wb pb vw ws l vo out) (d : Nat) (hl : l.length < 90000) (h0 : 0 < l.length) :
    Ans (callF tbl code 100000 (d + 3)) 21 [hvP pb] M fun r M' => r = .iface 3 (.int .i64 (l.getD 0 0)) ∧ ∃ l', OSt M0 M' wb pb vw ws l' vo out ∧ l.Perm (l.getD 0 0 :: l') := by
  obtain ⟨γ, h1, h2, h3, h4, h5, h6, h7, h8, h9, ⟨v, ha, hb⟩, hc, hd⟩ := h
  have hr : PRep M0 M pb γ M l := ⟨h1, Nat.le_refl _, Fr.refl, h2, fun h => h5 h.symm, by omega, v, ha, hb⟩
  obtain ⟨r2, M2, c2, hr2, l', ⟨k1, k2, k3, _, _, _, v2, k4, k5⟩, k6, k7⟩ := pop_ok heapP woI d hr hc h0 hl
  refine ⟨r2, M2, c2, hr2, l', ⟨γ, k1, h2, h3, h4, h5, by omega, by omega, by omega, ?_, ⟨v2, k4, k5⟩, k7, ?_⟩, k6⟩
  · exact h9.frame k3 (by rintro (h | h) <;> omega)
  · exact hd.imp id fun ⟨γ2, e1, e2, e3, e4, e5⟩ => ⟨γ2, e1, e2, e3, by omega, e5.frame k3 (by rintro (h | h) <;> omega)⟩
theorem OSt.opush (h : OSt M0 M wb pb vw ws l vo out) (hn : out.length < 90000) (x : Int) :
    ∃ M' vo', opI (.sliceLit 1 [.int .i64 0] [(0, 1)]) [.int .i64 x] M = some (.val (.slice (some (M.n, 0)) 1 1 false) (M.push (.cells [.int .i64 x] 0 true none))) ∧ opI (.append 1 8) [vo, .slice (some (M.n, 0)) 1 1 false] (M.push (.cells [.int .i64 x] 0 true none)) = some (.val vo' M') ∧ OSt M0 M' wb pb vw ws l vo' (out ++ [x]) := by
  obtain ⟨γ, h1, h2, h3, h4, h5, h6, h7, h8, h9, ⟨v, ha, hb⟩, hc, hd⟩ := h
  have key : ∃ γ2, γ2 ≠ wb ∧ γ2 ≠ pb ∧ γ2 ≠ γ ∧ RowI M0 M 1 γ2 vo (out.map eI) := by
    rcases hd with ⟨rfl, rfl⟩ | ⟨γ2, e1, e2, e3, _, e5⟩
    · exact ⟨M.n, by omega, by omega, by omega, RowI.nil⟩
    · exact ⟨γ2, e1, e2, e3, e5⟩
  obtain ⟨γ2, e1, e2, e3, e5⟩ := key
  obtain ⟨M', v', γ3, a1, a2, s2, r2, f2, g2, n2⟩ := e5.push (bytes := 8) (z := [.int .i64 0]) (x := .int .i64 x) h1 rfl rfl (by omega) rfl (by simp; omega) (by simp; omega)
  simp only [AV.cells] at a1 a2
  have hne : γ3 ≠ wb ∧ γ3 ≠ pb ∧ γ3 ≠ γ := by rcases g2 with rfl | g <;> omega
  refine ⟨M', v', a1, a2, γ, s2, h2, h3, h4, h5, by omega, by omega, by omega, h9.frame f2 (fun h => e1 h.symm), ⟨v, f2 pb _ ha (fun h => e2 h.symm), hb.frame f2 (fun h => e3 h.symm)⟩, hc, .inr ⟨γ3, hne.1, hne.2.1, hne.2.2, ?_, ?_⟩⟩
  · exact r2.id_lt s2.ok (by simp)
  · rw [List.map_append]; exact r2
end
end Go.Proofs.Ytmaldkpkodcggaa.grf
