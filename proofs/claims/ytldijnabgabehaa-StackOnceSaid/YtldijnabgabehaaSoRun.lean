/- What stands in the memory while many play: the loom, the deeds, who is at which. -/
import Derived.Test.YtldijnabgabehaaSoFree
namespace Go.Proofs.Ytldijnabgabehaa.so
open Go Go.Vx
def encD (d : Deed) : List AV := [.int .i64 d.from_, .int .i64 (match d.to with | some i => (i : Int) | none => -1), .bool d.put, .int .u64 d.v, .int .i64 d.code]
def AA (N1 : Nat) (dv : AV) : Nat → Prop := fun c => c < N1 ∨ sbOf dv = some c
structure FX (N1 : Nat) (Ms : AMem) (bm bc bl bw ba bp : Nat) : Prop where
  okM : Ok Ms
  n1 : Ms.n ≤ N1
  hm : bm < Ms.n
  hc : bc < Ms.n
  hl : Ms.n ≤ bl ∧ bl < N1
  hw : Ms.n ≤ bw ∧ bw < N1
  ha : Ms.n ≤ ba ∧ ba < N1 ∧ ba ≠ bl ∧ ba ≠ bw
  hp : Ms.n ≤ bp ∧ bp < N1 ∧ bp ≠ bl ∧ bp ≠ bw ∧ bp ≠ ba
/-- the walks of the loom are those that are under way -/
def Fits2 (workers : Nat) (ws : List (Option (Wk × Nat))) (vs : List (Option Wk)) : Prop := vs.length = workers ∧ (∀ (j : Nat) (w : Wk) (k : Nat), ws[j]? = some (some (w, k)) → vs[j]? = some (some w)) ∧ (∀ j : Nat, ws[j]? = some none → ∃ o, vs[j]? = some o ∧ bz o = false)
structure PR (n workers N1 : Nat) (Ms M : AMem) (bm bc bl bw ba bp : Nat) (dv : AV) (m : Mem) (ws : List (Option (Wk × Nat))) (els : List (List AV)) : Prop where
  lm : ∃ vs, LM n (AA N1 dv) M bm bc bl bw (cellsOf n m) vs ∧ Fits2 workers ws vs
  ats : ∃ at_ : List Nat, M.get ba = some (.cells (at_.map fun (x : Nat) => AV.int .i64 (x : Int)) 1 true none) ∧ at_.length = workers ∧ ∀ (j : Nat) (w : Wk) (k : Nat), ws[j]? = some (some (w, k)) → at_[j]? = some k
  row : OwnE (N0 M) M 5 dv els
  box : M.get bp = some (.cells [.int .i64 0, .int .i64 n] 0 true none)
  ev : Ev Ms M (· = bc)
  dvn : ∀ c, sbOf dv = some c → Ms.n ≤ c ∧ c ≠ bl ∧ c ≠ bw ∧ c ≠ ba ∧ c ≠ bp
  n1 : N1 ≤ M.n
  ok : Okg M
  nh : NH M
theorem OwnE.eva {M M' : AMem} {sz : Nat} {v : AV} {els : List (List AV)} {X : Nat → Prop} {Z Z' : AMem} (h : OwnE Z M sz v els) (hz : Z'.n = 0) (hok : Ok M) (e : EvA M M' X) (hx : ∀ c, sbOf v = some c → ¬ X c) : OwnE Z' M' sz v els := by
  obtain ⟨b, gr, sz', g, e1, h1, h2, h3, h4, h5⟩ := h
  exact ⟨b, gr, sz', g, e1, by omega, (e.same b (get_lt hok h2) (hx b (by rw [e1]; rfl))).trans h2, h3, fun g' hg => by omega, h5⟩
section
variable {n workers N1 : Nat} {Ms M M' : AMem} {bm bc bl bw ba bp : Nat} {dv : AV} {m m' : Mem} {ws ws' : List (Option (Wk × Nat))} {els : List (List AV)}
theorem PR.sb (h : PR n workers N1 Ms M bm bc bl bw ba bp dv m ws els) : ∃ b, sbOf dv = some b ∧ b < M.n := by
  obtain ⟨b, gr, sz', g, e1, h1, h2, _⟩ := h.row
  exact ⟨b, by rw [e1]; rfl, get_lt h.ok.1 h2⟩
theorem PR.eva (h : PR n workers N1 Ms M bm bc bl bw ba bp dv m ws els) (fx : FX N1 Ms bm bc bl bw ba bp) (e : EvA M M' (fun c => ¬ AA N1 dv c ∨ c = bc ∨ c = bl ∨ c = bw)) (hl : ∃ vs, LM n (AA N1 dv) M' bm bc bl bw (cellsOf n m') vs ∧ Fits2 workers ws' vs)
    (ha : ∀ (j : Nat) (w : Wk) (k : Nat), ws'[j]? = some (some (w, k)) → ∃ w0, ws[j]? = some (some (w0, k))) : PR n workers N1 Ms M' bm bc bl bw ba bp dv m' ws' els := by
  obtain ⟨at_, a1, a2, a3⟩ := h.ats
  have hN := fx.n1
  have keep : ∀ c, AA N1 dv c → c ≠ bc → c ≠ bl → c ≠ bw → c < M.n → M'.get c = M.get c := fun c hc h1 h2 h3 hlt => e.same c hlt fun hz => by
    rcases hz with hz | hz | hz | hz
    · exact hz hc
    · exact h1 hz
    · exact h2 hz
    · exact h3 hz
  have hA := fx.ha
  have hP := fx.hp
  have hC := fx.hc
  refine ⟨hl, ⟨at_, (keep ba (.inl hA.2.1) (by omega) hA.2.2.1 hA.2.2.2 (get_lt h.ok.1 a1)).trans a1, a2, fun j w k hj => ?_⟩, ?_, (keep bp (.inl hP.2.1) (by omega) hP.2.2.1 hP.2.2.2.1 (get_lt h.ok.1 h.box)).trans h.box, h.ev.trans (e.ev h.ok.1) (fun _ h => h) (fun b hb hz => ?_) fx.okM, h.dvn, Nat.le_trans h.n1 e.n, e.ok, e.nh⟩
  · obtain ⟨w0, h0⟩ := ha j w k hj
    exact a3 j w0 k h0
  · exact OwnE.eva h.row rfl h.ok.1 e fun c hc hz => by
      obtain ⟨d1, d2, d3, _⟩ := h.dvn c hc
      rcases hz with hz | hz | hz | hz
      · exact hz (.inr hc)
      · omega
      · exact d2 hz
      · exact d3 hz
  · rcases hz with hz | hz | hz | hz
    · exact absurd (.inl (by omega)) hz
    · exact hz
    · have := fx.hl; omega
    · have := fx.hw; omega
theorem PR.quiet (h : PR n workers N1 Ms M bm bc bl bw ba bp dv m ws els) (fx : FX N1 Ms bm bc bl bw ba bp) (e : EvA M M' (fun c => ¬ AA N1 dv c)) (hl : ∃ vs, LM n (AA N1 dv) M' bm bc bl bw (cellsOf n m) vs ∧ Fits2 workers ws vs) : PR n workers N1 Ms M' bm bc bl bw ba bp dv m ws els :=
  h.eva fx (EvA.mono e fun _ h => .inl h) hl fun j w k hj => ⟨w, hj⟩
/-- nothing old is touched -/
theorem PR.new (h : PR n workers N1 Ms M bm bc bl bw ba bp dv m ws els) (fx : FX N1 Ms bm bc bl bw ba bp) (e : EvA M M' (fun _ => False)) : PR n workers N1 Ms M' bm bc bl bw ba bp dv m ws els := by
  obtain ⟨vs, l, f⟩ := h.lm
  exact h.quiet fx (EvA.mono e fun _ h => h.elim) ⟨vs, l.ev h.ok.1 e, f⟩
/-- a deed's field is written -/
theorem PR.put (h : PR n workers N1 Ms M bm bc bl bw ba bp dv m ws els) (fx : FX N1 Ms bm bc bl bw ba bp) {k o : Nat} {e : List AV} (hk : els[k]? = some e) (ho : o < 5) {x : AV} (hx : x.one = true ∧ x.cells = [x]) :
    ∃ p M', IsP p ∧ opI (.indexAddrS 5) [dv, .int .i64 k] M = some (.val (padd p 0) M) ∧ opI (.store 1) [padd p o, x] M = some (.val (.tuple []) M') ∧ Ev M M' (fun c => sbOf dv = some c) ∧ PR n workers N1 Ms M' bm bc bl bw ba bp dv m ws (els.set k (e.set o x)) := by
  obtain ⟨hkl, hke⟩ := List.getElem?_eq_some_iff.1 hk
  have hEl : Els 5 els := by
    obtain ⟨_, _, _, _, _, _, _, _, _, h5, _⟩ := h.row
    exact h5
  have hel : e.length = 5 := by rw [← hke]; exact hEl.get hkl
  obtain ⟨p, M', q1, q2, q3, q4, q5, q6, q7, _⟩ := store_el (n := 1) (x := x) (o := o) (step0 h.ok h.nh) h.row hkl (by rw [hx.2]; rfl) (by omega) (by rw [hx.2, List.all_cons, hx.1]; rfl)
  rw [hx.2, hke, splice_one (by omega)] at q5
  have nh' : NH M' := step_nh q4 rfl
  have ev : Ev M M' (fun c => sbOf dv = some c) := ⟨by omega, q4.grow.g, fun b k hb hg hz => q6 b k hb hg hz, q4.ok, nh'⟩
  obtain ⟨at_, a1, a2, a3⟩ := h.ats
  obtain ⟨vs, l, f⟩ := h.lm
  refine ⟨p, M', q1, q2, q3, ev, ⟨vs, l.move h.ok.1 ev (fun c hc => ⟨fun _ => .inr hc, ?_, ?_, (h.dvn c hc).2.1, (h.dvn c hc).2.2.1⟩) (fun c hc => .inl hc) l.ns (fun c hc => by rw [q7]; exact l.lt c hc), f⟩, ⟨at_, ev.same _ _ a1 rfl (fun hz => (h.dvn _ hz).2.2.2.1 rfl), a2, a3⟩, OwnE.eva q5 rfl q4.ok.1 ⟨Nat.le_refl _, rfl, fun _ _ _ => rfl, q4.ok, nh'⟩ (fun _ _ hf => hf), ev.same _ _ h.box rfl (fun hz => (h.dvn _ hz).2.2.2.2 rfl), h.ev.trans ev (fun _ h => h) (fun b hb hz => ?_) fx.okM, h.dvn, by rw [q7]; exact h.n1, q4.ok, nh'⟩
  · have := (h.dvn c hc).1; have := fx.hm; omega
  · have := (h.dvn c hc).1; have := fx.hc; omega
  · have := (h.dvn b hz).1; omega
end
/-! Bounds while they play. -/
structure PL (n workers i : Nat) (s : PS) : Prop where
  pi : PI n s
  bd : Bd n (i + 1) i s.m
  bdw : ∀ (j : Nat) (w : Wk) (k : Nat), s.ws[j]? = some (some (w, k)) → BdW n (i + 1) i w
  wl : s.ws.length = workers
  nx : s.next ≤ i + 1
  dl : s.deeds.length ≤ i
theorem first_bd {n V T next : Nat} (h : next ≤ V) (put : Bool) : BdW n V T (first put next) := by
  cases put
  · trivial
  · exact h
theorem pick_bd {n V T : Nat} {s : PS} {i who k : Nat} {w : Wk} (hm : Bd n V T s.m) (hw : BdW n V T w) (ho : ∀ (j : Nat) (w : Wk) (k : Nat), j ≠ who → s.ws[j]? = some (some (w, k)) → BdW n V T w) :
    Bd n V (T + 1) (pick s i who w k).m ∧ (∀ (j : Nat) (w' : Wk) (k' : Nat), (pick s i who w k).ws[j]? = some (some (w', k')) → BdW n V (T + 1) w') ∧ (pick s i who w k).ws.length = s.ws.length ∧ (pick s i who w k).next = s.next ∧ (pick s i who w k).deeds.length = s.deeds.length := by
  obtain ⟨h1, h2⟩ := step_bd hm hw
  obtain ⟨p1, p2⟩ := pick_ws s i who w k
  have e : (pick s i who w k).m = (step s.m w).1 ∧ (pick s i who w k).next = s.next ∧ (pick s i who w k).deeds.length = s.deeds.length ∧ (∀ (j : Nat) (w' : Wk) (k' : Nat), j = who → (pick s i who w k).ws[j]? = some (some (w', k')) → w' = (step s.m w).2) := by
    unfold pick
    split
    · refine ⟨rfl, rfl, List.length_set, fun j w' k' hj h => ?_⟩
      subst hj
      simp only [List.getElem?_set] at h
      split at h
      · split at h <;> cases h
      · simp at *
    · refine ⟨rfl, rfl, rfl, fun j w' k' hj h => ?_⟩
      subst hj
      simp only [List.getElem?_set] at h
      split at h
      · split at h
        · simp only [Option.some.injEq, Prod.mk.injEq] at h; exact h.1.symm
        · cases h
      · simp at *
  refine ⟨by rw [e.1]; exact h1, fun j w' k' hj => ?_, p2, e.2.1, e.2.2.1⟩
  by_cases hjw : j = who
  · rw [e.2.2.2 j w' k' hjw hj]; exact h2
  · rw [p1 j hjw] at hj
    exact (ho j w' k' hjw hj).mono (Nat.le_refl _) (Nat.le_succ _)
theorem PL.round {n workers i : Nat} {s : PS} (h : PL n workers i s) (picks : List Nat) (most : Nat) : PL n workers (i + 1) (round picks workers most s i) := by
  have hr := round_ok (picks := picks) (workers := workers) (most := most) h.pi i
  unfold Go.Proofs.Ytldijnabgabehaa.so.round at hr ⊢
  split at hr
  · rename_i w k hw
    obtain ⟨q1, q2, q3, q4, q5⟩ := pick_bd (i := i) (k := k) h.bd (h.bdw _ w k hw) fun j w' k' _ hj => h.bdw j w' k' hj
    exact ⟨hr, q1.mono (by omega) (by omega), fun j w' k' hj => (q2 j w' k' hj).mono (by omega) (by omega), q3.trans h.wl, by rw [q4]; have := h.nx; omega, by rw [q5]; have := h.dl; omega⟩
  · rename_i hw
    split at hr
    · rename_i hc
      try simp only [if_pos hc]
      exact ⟨hr, h.bd.mono (by omega) (by omega), fun j w' k' hj => (h.bdw j w' k' hj).mono (by omega) (by omega), h.wl, by have := h.nx; omega, by have := h.dl; omega⟩
    · rename_i hc
      try simp only [if_neg hc]
      generalize hput : decide (120 ≤ picks.getD i 0) = put at *
      obtain ⟨q1, q2, q3, q4, q5⟩ := pick_bd (s := begin_ s i (whose picks workers i) put) (i := i) (who := whose picks workers i) (k := s.deeds.length) (w := first put s.next) h.bd (first_bd h.nx put) fun j w' k' hne hj => by
        refine h.bdw j w' k' ?_
        simp only [begin_] at hj
        rwa [List.getElem?_set_ne (Ne.symm hne)] at hj
      refine ⟨hr, q1.mono (by omega) (by omega), fun j w' k' hj => (q2 j w' k' hj).mono (by omega) (by omega), q3.trans ?_, ?_, ?_⟩
      · simp only [begin_, List.length_set]; exact h.wl
      · rw [q4]; simp only [begin_]; have := h.nx; split <;> omega
      · rw [q5]; simp only [begin_, List.length_append, List.length_singleton]; have := h.dl; omega
  · rename_i hw
    exact ⟨hr, h.bd.mono (by omega) (by omega), fun j w' k' hj => (h.bdw j w' k' hj).mono (by omega) (by omega), h.wl, by have := h.nx; omega, by have := h.dl; omega⟩
theorem PL.init {n workers : Nat} (hn : 1 ≤ n) : PL n workers 0 (init n workers) := by
  refine ⟨init_ok hn, ⟨Nat.le_refl _, Nat.le_refl _, Nat.zero_le _, hn, fun i => ?_, fun _ => Nat.zero_le _, fun _ => Nat.zero_le _⟩, fun j w k hj => ?_, by simp [Go.Proofs.Ytldijnabgabehaa.so.init], Nat.le_refl _, Nat.le_refl _⟩
  · show (if i < n then i + 1 else 0) ≤ n
    split <;> omega
  · have := (List.mem_replicate.1 (List.mem_of_getElem? hj)).2
    cases this
end Go.Proofs.Ytldijnabgabehaa.so
