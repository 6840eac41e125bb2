/- Over the model's own code: what our small machine cannot run by itself, in plain steps; a loop over a map, in whatever order. -/
import Derived.Test.YtpbejdlpkpehlaaVx22
import Derived.Maps.RangeRun
namespace Go.Vx
open Go.RowKit (Below)
open Go.ChangeMaps (setBlock)

/-- Whatever world goes with (t, M): the code comes to one of Q's ends. -/
def MW [Val] (P : Program) (c : Code) (t : Tr AV) (M : AMem) (Q : PEx → Tr AV → AMem → Prop) : Prop :=
  ∀ (B : Nat → Prop) (w0 : World) (e : Env) (w : World) (a : Act) (K : Exit → Act → World → Prop), TM e t a.tmps → MR B w0 e M w →
    (∀ x t' M' e' a' w', Q x t' M' → XR M M' e e' → TM e' t' a'.tmps → a'.defers = a.defers → MR B w0 e' M' w' → K x.out a' w') → c.wp P K a w
section
variable {P : Program} {call : FuncId → List AV → AMem → Option (AV × AMem)} {N : Nat} {t : Tr AV} {M : AMem} {Q : PEx → Tr AV → AMem → Prop}
theorem MW_of [Val] (hdraw : DrawSound P) (hcall : CallSound P call) {c : Code} {pc : PCode} (hc : compCode P c = some pc) (h : W (exec call N pc t M) Q) : MW P c t M Q := by
  obtain ⟨x, t', M', h1, h2⟩ := h
  intro B w0 e w a K hT hm hK
  exact exec_ok hdraw hcall N c pc hc e M w t a x t' M' K hT hm h1 fun e' a' w' he hT' hd hm' => hK x t' M' e' a' w' h2 he hT' hd hm'
theorem MW.mono [Val] {c : Code} {Q' : PEx → Tr AV → AMem → Prop} (h : MW P c t M Q) (hq : ∀ x t M, Q x t M → Q' x t M) : MW P c t M Q' :=
  fun B w0 e w a K hT hm hK => h B w0 e w a K hT hm fun x t' M' e' a' w' hq' => hK x t' M' e' a' w' (hq _ _ _ hq')
theorem MW_seq [Val] {c1 c2 : Code} (h : MW P c1 t M (Then Q fun t' M' => MW P c2 t' M' Q)) : MW P (.seq c1 c2) t M Q := by
  intro B w0 e w a K hT hm hK
  refine wp_seq (h B w0 e w a _ hT hm fun x t' M' e' a' w' hq he hT' hd hm' => ?_)
  cases x with
  | normal => exact (hq : MW P c2 t' M' Q) B w0 e' w' a' K hT' hm' fun x t'' M'' e'' a'' w'' hq' he' hT'' hd' hm'' => hK x t'' M'' e'' a'' w'' hq' (he.trans he') hT'' (hd'.trans hd) hm''
  | exit id => exact hK (.exit id) t' M' e' a' w' hq he hT' hd hm'
  | ret => exact hK .ret t' M' e' a' w' hq he hT' hd hm'
theorem MW_block [Val] {id : Nat} {c : Code} (h : MW P c t M (Out id Q)) : MW P (.block id c) t M Q := by
  intro B w0 e w a K hT hm hK
  refine wp_block (h B w0 e w a _ hT hm fun x t' M' e' a' w' hq he hT' hd hm' => ?_)
  cases x with
  | normal => exact hK .normal t' M' e' a' w' hq he hT' hd hm'
  | ret => exact hK .ret t' M' e' a' w' hq he hT' hd hm'
  | exit id' =>
    show (if id' = id then K .normal a' w' else K (.exit id') a' w')
    simp only [Out] at hq
    by_cases hid : id' = id
    · rw [if_pos hid] at hq ⊢
      exact hK .normal t' M' e' a' w' hq he hT' hd hm'
    · rw [if_neg hid] at hq ⊢
      exact hK (.exit id') t' M' e' a' w' hq he hT' hd hm'
end

/-! The worlds beside a loop over a map. -/
section
variable {B : Nat → Prop} {w0 : World} {e : Env} {M : AMem} {w : World}
/-- what is forgotten does no harm -/
theorem MR.dead [Val] (h : MR B w0 e M w) {b : Nat} {k : ABlk} (hk : M.get b = some k) : MR B w0 e (M.set b .dead) w := by
  have hget : ∀ m, (M.set b .dead).get m = if m = b then some .dead else M.get m := fun m => AMem.get_set hk
  refine ⟨h.fresh, Tr.full_set h.full _ _, h.below, h.base, fun m k' x hm hx => ?_, fun m k' x hm hx hw => ?_, fun m m' k1 k2 x1 x2 hne h1 h2 hx1 hx2 he => ?_, h.room, h.ro⟩
  · rw [hget] at hm
    split at hm
    · cases hm; trivial
    · exact h.blocks m k' x hm hx
  · rw [hget] at hm
    split at hm
    · cases hm; cases hw
    · exact h.own m k' x hm hx hw
  · rw [hget] at h1 h2
    split at h1
    · cases h1; rfl
    · split at h2
      · cases h2; cases k1 <;> rfl
      · exact h.sep m m' k1 k2 x1 x2 hne h1 h2 hx1 hx2 he
/-- blocks that nobody of M stands for are fenced off, and the world's present is where it begins -/
theorem MR.fence [Val] (h : MR B w0 e M w) {F : Nat → Prop} (hF : ∀ k, F k → k < w.heap.size) (hw : ∀ (b : Nat) (k : ABlk) (x : EB), M.get b = some k → e b = some x → k.wr = true → ¬ F x.blk) : MR (fun k => B k ∨ F k) w e M w :=
  ⟨h.fresh, h.full, BelowP.refl _ _, fun k hk => hk.elim (h.base k) (hF k), h.blocks, fun b k x hk hx hwr hb => hb.elim (h.own b k x hk hx hwr) (hw b k x hk hx hwr), h.sep, h.room,
    h.ro.1, fun a v hv => by
      obtain ⟨h1, c, h2, h3⟩ := h.ro.2 a v hv
      exact ⟨.inl h1, c, h2, by rw [World.cell?_of_block (h.below.block _ h1)]; exact h3⟩⟩
theorem MR.unfence [Val] {w1 w' : World} {e' : Env} {M' : AMem} {F : Nat → Prop} (h0 : MR B w0 e M w) (h : MR (fun k => B k ∨ F k) w1 e' M' w') (hb : BelowP B w w1) : MR B w0 e' M' w' :=
  ⟨h.fresh, h.full, (h0.below.trans hb).trans (h.below.mono fun k hk => .inl hk), fun k hk => h.base k (.inl hk), h.blocks, fun b k x hk hx hwr hB => h.own b k x hk hx hwr (.inl hB), h.sep, h.room, h0.ro.1.symm ▸ h.ro.1, h0.ro.2⟩
/-- the loop's own note is turned -/
theorem MR.note [Val] (h : MR B w0 e M w) {r : Nat} {m : Option Nat} {s c c' : Nat} {seen seen' : Array Nat} (hr : w.heap[r]? = some (.mapIter m s seen c)) (hB : ¬ B r) : MR B w0 e M (setBlock w r (.mapIter m s seen' c')) := by
  have hoth : ∀ i, i ≠ r → (setBlock w r (.mapIter m s seen' c')).heap[i]? = w.heap[i]? := fun i hi => by
    simp only [setBlock]; rw [Array.getElem?_setIfInBounds, if_neg (fun h => hi h.symm)]
  have hsz : (setBlock w r (.mapIter m s seen' c')).heap.size = w.heap.size := by simp [setBlock]
  refine ⟨h.fresh, h.full, h.below.trans ⟨rfl, rfl, rfl, by rw [hsz]; exact Nat.le_refl _, fun i hi => hoth i fun he => hB (he ▸ hi)⟩, fun k hk => by rw [hsz]; exact h.base k hk, fun b k x hk hx => ?_, h.own, h.sep, fun b x hx => by rw [hsz]; exact h.room b x hx, h.ro⟩
  have hb := h.blocks b k x hk hx
  by_cases he : x.blk = r
  · cases k with
    | dead => trivial
    | held => trivial
    | cells cs sz wr g =>
      obtain ⟨arr, T, fr, vs, h1, _⟩ := hb
      rw [he, hr] at h1; cases h1
    | map es =>
      obtain ⟨arr, c, ks, vs, h1, _⟩ := hb
      rw [he, hr] at h1; cases h1
  · exact hb.world (hoth _ he)
end

/-! A loop over a map. -/
section
variable {P : Program} {call : FuncId → List AV → AMem → Option (AV × AMem)} {N : Nat}
theorem wpOps_pre [Val] {B : Nat → Prop} {w0 : World} (hcall : CallSound P call) {ops : Array Oper} {Q : Exit → Act → World → Prop} {rest : List Nat} : ∀ (is : List Nat) (ps : List PInstr) (e : Env) (M : AMem) (w : World) (t : Tr AV) (a : Act) (t' : Tr AV) (M' : AMem),
    Align P ops is ps → TM e t a.tmps → MR B w0 e M w → runSeq call ps t M = some (t', M') →
    (∀ e' a' w', XR M M' e e' → TM e' t' a'.tmps → a'.defers = a.defers → MR B w0 e' M' w' → wpOps P ops Q rest a' w') → wpOps P ops Q (is ++ rest) a w
  | [], [], e, M, w, t, a, t', M', _, hT, hm, hr, hQ => by
    simp [runSeq] at hr
    obtain ⟨rfl, rfl⟩ := hr
    exact hQ e a w (XR.refl M e) hT rfl hm
  | i :: is, p :: ps, e, M, w, t, a, t', M', hal, hT, hm, hr, hQ => by
    obtain ⟨⟨o, ho, hp⟩, hal⟩ := hal
    rw [List.cons_append, wpOps_cons]
    simp only [runSeq] at hr
    cases hw : wantedA p t with
    | true =>
      simp only [hw, if_true] at hr
      cases hev : evalArgs t p.args with
      | none => simp [hev] at hr
      | some avs =>
        simp only [hev] at hr
        cases hv : val1 call p.op avs M with
        | none => simp [hv] at hr
        | some q =>
          obtain ⟨v, M1⟩ := q
          simp only [hv] at hr
          refine wpOp_ok hcall ho hp hT hm hw hev hv fun e' cv w' he hc hm' => ?_
          refine wpOps_pre hcall is ps e' M1 w' _ (a.put p.dst cv) t' M' hal ((hT.ext he.ext).put p.dst hc) hm' hr fun e'' a' w'' he' hT' hd hm'' => ?_
          exact hQ e'' a' w'' (he.trans he') hT' (by rw [hd]; cases p.dst <;> rfl) hm''
    | false =>
      simp only [hw, Bool.false_eq_true, if_false] at hr
      refine wpOp_skip ho hp hT hw ?_
      have hu : conc e undefA = some undef := by simp [undefA, conc, concs, undef]
      refine wpOps_pre hcall is ps e M w _ (a.put p.dst undef) t' M' hal (hT.put p.dst hu) hm hr fun e'' a' w'' he' hT' hd hm'' => ?_
      exact hQ e'' a' w'' he' hT' (by rw [hd]; cases p.dst <;> rfl) hm''
  | [], _ :: _, _, _, _, _, _, _, _, hal, _, _, _, _ => by simp [Align] at hal
  | _ :: _, [], _, _, _, _, _, _, _, hal, _, _, _, _ => by simp [Align] at hal
theorem run_range {w : World} {ty kt et : TypeId} {b : Nat} {es : Array MapEntry} {clock : Nat} (ht : P.underlying ty = some (.map kt et)) (hb : w.heap[b]? = some (.map es clock)) :
    (Instr.range ty (.map (some b))).run P w = .ok (.pointer (some ⟨w.heap.size, 0, none⟩)) (w.alloc (.mapIter (some b) clock #[] clock)) := by
  exact Go.run_range_map w ty kt et b es clock ht hb
theorem MR.unfence2 [Val] {B F : Nat → Prop} {w0 w1 w' : World} {e' : Env} {M' : AMem} (h : MR (fun k => B k ∨ F k) w1 e' M' w') (hb : BelowP B w0 w1) (ro : RoB B w0) : MR B w0 e' M' w' :=
  ⟨h.fresh, h.full, hb.trans (h.below.mono fun k hk => .inl hk), fun k hk => h.base k (.inl hk), h.blocks, fun b k x hk hx hwr hB => h.own b k x hk hx hwr (.inl hB), h.sep, h.room, h.ro.1, ro⟩
/-- the map is there again -/
theorem MR.revive [Val] {B F : Nat → Prop} {w0 wb w' : World} {e : Env} {K : AMem} (h : MR (fun k => B k ∨ F k) wb e K w') (hb : BelowP B w0 wb) (ro : RoB B w0) {mb : Nat} {xb : EB} {es : List (AV × AV)} {arr : Array MapEntry} {clock : Nat} (hk : K.get mb = some .dead) (hx : e mb = some xb) (hF : F xb.blk) (hnB : ¬ B xb.blk)
    (hnh : ∀ b, isHeld (K.get b) = false) (hheap : w'.heap[xb.blk]? = some (.map arr clock)) (h1 : concs e (es.map (·.1)) = some (arr.toList.map (·.key))) (h2 : concs e (es.map (·.2)) = some (arr.toList.map (·.val))) (h3 : Births arr clock) : MR B w0 e (K.set mb (.map es)) w' := by
  have hU := h.unfence2 hb ro
  have hget : ∀ m, (K.set mb (.map es)).get m = if m = mb then some (.map es) else K.get m := fun m => AMem.get_set hk
  have other : ∀ (m : Nat) (k : ABlk) (x : EB), K.get m = some k → e m = some x → x.blk = xb.blk → k = .dead := fun m k x hm hxm he => by
    cases k with
    | dead => rfl
    | held =>
      have := hnh m
      rw [hm] at this; cases this
    | cells cs sz wr g =>
      obtain ⟨a, T, fr, vs, q1, _⟩ := hU.blocks m _ x hm hxm
      rw [he, hheap] at q1; cases q1
    | map es' => exact absurd (.inr (by rw [he]; exact hF)) (h.own m _ x hm hxm rfl)
  refine ⟨hU.fresh, Tr.full_set hU.full _ _, hU.below, hU.base, fun m k x hm hxm => ?_, fun m k x hm hxm hw => ?_, fun m m' k1 k2 x1 x2 hne q1 q2 hx1 hx2 he => ?_, hU.room, hU.ro⟩
  · rw [hget] at hm
    split at hm
    · rename_i e1; subst e1
      cases hm
      rw [hx] at hxm; cases hxm
      exact ⟨arr, clock, _, _, hheap, h1, h2, rfl, rfl, h3⟩
    · exact hU.blocks m k x hm hxm
  · rw [hget] at hm
    split at hm
    · rename_i e1; subst e1
      rw [hx] at hxm; cases hxm
      exact hnB
    · exact hU.own m k x hm hxm hw
  · rw [hget] at q1 q2
    split at q1
    · rename_i e1; subst e1
      cases q1
      rw [hx] at hx1; cases hx1
      split at q2
      · rename_i e2; exact absurd e2.symm hne
      · rw [other m' k2 x2 q2 hx2 he.symm]; rfl
    · split at q2
      · rename_i e2; subst e2
        cases q2
        rw [hx] at hx2; cases hx2
        rw [other m k1 x1 q1 hx1 he]; rfl
      · exact hU.sep m m' k1 k2 x1 x2 hne q1 q2 hx1 hx2 he
theorem plain_op [Val] {ops : Array Oper} {Q : Exit → Act → World → Prop} {i : Nat} {o : Oper} {a : Act} {w w' : World} {v : Value} {K : Act → World → Prop} (ho : ops[i]? = some o) (hg : o.guard = none) (hr : (execOp a.eval o).run P w = .ok (.value v) w') (hK : K (a.put o.dst v) w') : wpOp P ops Q i K a w := by
  unfold wpOp
  simp only [ho]
  have : Region.wanted o (yielded ops a.tmps) = true := by unfold Region.wanted; rw [hg]
  rw [this]
  simp only [if_true]
  refine .inl ?_
  unfold Oper.wp
  rw [hr]
  exact hK
theorem wpOps_nil {ops : Array Oper} {Q : Exit → Act → World → Prop} {a : Act} {w : World} : wpOps P ops Q [] a w = Q .normal a w := rfl
set_option maxHeartbeats 2000000 in
/-- A loop over a map that nobody turns meanwhile: whatever the order in which the entries come. -/
theorem MW_range [Val] (hcall : CallSound P call) (hdraw : DrawSound P) {rid r1 r2 out nxt : Nat} {ops0 ops1 ops2 : Array Oper} {cbody : Code} {pbody : PCode} {ps0 ps1 ps2 : List PInstr} {o0 o1 o2 : Oper} {it nx pair more mb : Nat} {ty kt et : TypeId} {mo : Operand} {pm : PArg}
    {es : List (AV × AV)} {t t0 : Tr AV} {M M0 : AMem} {Q : PEx → Tr AV → AMem → Prop}
    (l0 : List.range ops0.size = List.range (ops0.size - 1) ++ [ops0.size - 1]) (a0 : Align P ops0 (List.range (ops0.size - 1)) ps0) (x0 : ops0[ops0.size - 1]? = some o0) (y0 : o0.op = .range ty mo ∧ o0.guard = none ∧ o0.dst = some it) (hmo : compArg mo = some pm) (ht : P.underlying ty = some (.map kt et))
    (l1 : List.range ops1.size = 0 :: List.range' 1 (ops1.size - 1)) (a1 : Align P ops1 (List.range' 1 (ops1.size - 1)) ps1) (x1 : ops1[0]? = some o1) (y1 : o1.op = .next (.tmp it) false ∧ o1.guard = none ∧ o1.dst = some nx)
    (l2 : List.range ops2.size = 0 :: List.range' 1 (ops2.size - 1)) (a2ops : Align P ops2 (List.range' 1 (ops2.size - 1)) ps2) (x2 : ops2[0]? = some o2) (y2 : o2.op = .entry (.tmp it) ∧ o2.guard = none ∧ o2.dst = some pair)
    (hb : compCode P cbody = some pbody) (hne : nxt ≠ out)
    (hpre : runSeq call ps0 t M = some (t0, M0)) (hm : pm.eval t0 = some (.map (some mb))) (hes : M0.get mb = some (.map es))
    (I : Option Addr → List Nat → Tr AV → AMem → Prop) (hI : ∀ p, I p [] (putT t0 (some it) (.rptr p)) (M0.set mb .dead)) (hit : ∀ p d t K, I p d t K → t.get it = some (.rptr p))
    (hstep : ∀ p done i t K, i < es.length → i ∉ done → done.Nodup → (∀ j ∈ done, j < es.length) → I p done t K → ∃ kv, es[i]? = some kv ∧ ∃ t1 t2 K2, runSeq call ps1 (putT t (some nx) (.tuple [.bool true, kv.1, kv.2])) K = some (t1, K) ∧ t1.get it = some (.rptr p) ∧ t1.get more = some (.bool true) ∧
      runSeq call ps2 (putT t1 (some pair) (.tuple [kv.1, kv.2])) K = some (t2, K2) ∧ W (exec call N pbody t2 K2) (fun x t' K' => (x = .normal ∨ x = .exit nxt) ∧ I p (done ++ [i]) t' K'))
    (hend : ∀ p done t K, done.Nodup → (∀ j, j ∈ done ↔ j < es.length) → I p done t K → ∃ t1, runSeq call ps1 (putT t (some nx) (.tuple [.bool false])) K = some (t1, K) ∧ t1.get more = some (.bool false) ∧ (Q .normal t1 K ∨ (K.get mb = some .dead ∧ (∀ b, isHeld (K.get b) = false) ∧ Q .normal t1 (K.set mb (.map es))))) :
    MW P (.seq (.region rid ops0 false) (.block out (.loop (.seq (.region r1 ops1 false) (.seq (.cond (.tmp more) .skip (.exit out)) (.block nxt (.seq (.region r2 ops2 false) cbody))))))) t M Q := by
  intro B w0 e w a K hT hmr hK
  refine wp_seq (wp_region ?_)
  rw [l0]
  refine wpOps_pre hcall _ ps0 e M w t a t0 M0 a0 hT hmr hpre fun e1 b1 w1 hx1 hT1 hd1 hmr1 => ?_
  rw [wpOps_cons]
  -- the map
  have hcm := compArg_ok hmo hT1 hm
  simp only [conc] at hcm
  cases hex : e1 mb with
  | none => rw [hex] at hcm; cases hcm
  | some xb =>
  rw [hex] at hcm
  simp only [Option.some.injEq] at hcm
  obtain ⟨arr, clock, ks, vs, hheap, hks, hvs, hke, hve, hbi⟩ := hmr1.blocks mb _ xb hes hex
  have hrun : (execOp b1.eval o0).run P w1 = .ok (.value (.pointer (some ⟨w1.heap.size, 0, none⟩))) (w1.alloc (.mapIter (some xb.blk) clock #[] clock)) := by
    simp [execOp, y0.1, ← hcm, run_range ht hheap, Result.andThen]
  refine plain_op x0 y0.2.1 hrun ?_
  rw [wpOps_nil, y0.2.2]
  obtain ⟨r, hrr⟩ : ∃ r, w1.heap.size = r := ⟨_, rfl⟩
  obtain ⟨w2, hw2⟩ : ∃ w2, w1.alloc (.mapIter (some xb.blk) clock #[] clock) = w2 := ⟨_, rfl⟩
  rw [hw2, hrr]
  have hxr : xb.blk < r := by rw [← hrr]; exact hmr1.room _ _ hex
  have hbel : Below w1.heap.size w1 w2 := by
    rw [← hw2]
    exact ⟨rfl, rfl, rfl, by simp, fun k hk => (MapKept.heap_alloc w1 _).2 k hk⟩
  have hsz2 : w2.heap.size = r + 1 := by rw [← hw2, ← hrr]; simp
  have hr2 : w2.heap[r]? = some (.mapIter (some xb.blk) clock #[] clock) := by
    rw [← hw2, ← hrr]; exact (MapKept.heap_alloc w1 _).1
  have hx2 : w2.heap[xb.blk]? = some (.map arr clock) := (hbel.block _ (by rw [hrr]; exact hxr)).trans hheap
  have hBr : ∀ k, B k → k < r := fun k hk => by rw [← hrr]; exact hmr1.base k hk
  have hU2 : MR B w0 e1 (M0.set mb .dead) w2 := (hmr1.outside hbel).dead hes
  have hF2 : MR (fun k => B k ∨ (k = r ∨ k = xb.blk)) w2 e1 (M0.set mb .dead) w2 := by
    refine hU2.fence (fun k hk => ?_) fun b k x hk hx hwr hF => ?_
    · rcases hk with rfl | rfl <;> omega
    · have hlt := hmr1.room b x hx
      rcases hF with hF | hF
      · omega
      · rw [AMem.get_set hes] at hk
        split at hk
        · cases hk; cases hwr
        · rename_i hne
          have := hmr1.sep b mb k _ x xb hne hk hes hx hex hF
          cases k <;> simp [ABlk.share, ABlk.wr] at this hwr
  have hlen : es.length = arr.toList.length := by
    have := concs_length hks
    rw [← hke] at this
    simpa using this.symm
  obtain ⟨p, hp⟩ : ∃ p : Option Addr, some (⟨r, 0, none⟩ : Addr) = p := ⟨_, rfl⟩
  have hT2 : TM e1 (putT t0 (some it) (.rptr p)) (b1.put (some it) (.pointer (some ⟨r, 0, none⟩))).tmps := hT1.put (some it) (by rw [← hp]; simp [conc])
  have hborn : ∀ (i j : Nat) (hi : i < arr.toList.length) (hj : j < arr.toList.length), (arr.toList[i]).born = (arr.toList[j]).born → i = j := fun i j hi hj he => by
    have h1 := hbi.2
    have h2 : (arr.toList.map (·.born))[i]'(by simpa using hi) = (arr.toList.map (·.born))[j]'(by simpa using hj) := by simpa using he
    have h3 := List.pairwise_iff_getElem.1 h1
    rcases Nat.lt_trichotomy i j with h | h | h
    · exact absurd h2 (h3 i j (by simpa using hi) (by simpa using hj) h)
    · exact h
    · exact absurd h2.symm (h3 j i (by simpa using hj) (by simpa using hi) h)
  have hite : ∀ (e' : Env) (t' : Tr AV) (a' : Act), TM e' t' a'.tmps → t'.get it = some (.rptr p) → a'.eval (.tmp it) = .pointer (some ⟨r, 0, none⟩) := fun e' t' a' hT' hg => by
    have := compArg_ok (x := .tmp it) (p := .tmp it) rfl hT' (v := .rptr p) hg
    rw [← hp] at this
    simp only [conc, Option.some.injEq] at this
    exact this.symm
  have key : ∀ (n : Nat) (done : List Nat) (t' : Tr AV) (K' : AMem) (e' : Env) (a' : Act) (wb w' : World), n + done.length = es.length + 1 → I p done t' K' → done.Nodup → (∀ j ∈ done, j < es.length) → XR M0 K' e1 e' → TM e' t' a'.tmps → a'.defers = a.defers →
      MR (fun k => B k ∨ (k = r ∨ k = xb.blk)) wb e' K' w' → BelowP B w0 wb → (∃ seen c, w'.heap[r]? = some (.mapIter (some xb.blk) clock seen c) ∧ clock ≤ c ∧ ∀ b, seen.contains b = true ↔ ∃ i ∈ done, ∃ h : i < arr.toList.length, (arr.toList[i]).born = b) → w'.heap[xb.blk]? = some (.map arr clock) →
      Code.rounds P (.seq (.region r1 ops1 false) (.seq (.cond (.tmp more) .skip (.exit out)) (.block nxt (.seq (.region r2 ops2 false) cbody)))) (Exit.inBlock out K) n a' w' := by
    intro n
    induction n with
    | zero =>
      intro done t' K' e' a' wb w' hn hId hnd hbd
      have h1 : done.length ≤ es.length := by
        have := List.Nodup.length_le_of_subset (l₁ := done) (l₂ := List.range es.length) hnd (fun x hx => List.mem_range.2 (hbd x hx))
        simpa using this
      omega
    | succ n ih =>
      intro done t' K' e' a' wb w' hn hId hnd hbd hX hT' hd' hmF hBB ⟨seen, c, hr', hcc, hseen⟩ hx'
      rw [rounds_succ]
      refine wp_seq (wp_region ?_)
      rw [l1, wpOps_cons]
      have hev := hite e' t' a' hT' (hit p done t' K' hId)
      rcases run_next_at (P := P) w' o1.type r xb.blk clock c seen arr clock hr' hx' hbi.1 hcc with ⟨h0, hrun2⟩ | ⟨en, hen, w3, hw3, hrun2⟩
      · -- nothing is left
        have hall : ∀ j, j ∈ done ↔ j < es.length := fun j => ⟨hbd j, fun hj => by
          rw [hlen] at hj
          have hmem : arr.toList[j] ∈ arr.toList := List.getElem_mem hj
          have hc : seen.contains (arr.toList[j]).born = true := by
            cases hcs : seen.contains (arr.toList[j]).born with
            | true => rfl
            | false =>
              have : arr.toList[j] ∈ (leftOf arr seen).toList := by
                unfold leftOf
                rw [Array.toList_filter, List.mem_filter]
                exact ⟨hmem, by rw [hcs]; rfl⟩
              have h2 := List.length_pos_of_mem this
              rw [Array.length_toList] at h2
              omega
          obtain ⟨i, hi, hil, hbe⟩ := (hseen _).1 hc
          have := hborn i j hil hj hbe
          rwa [← this]⟩
        obtain ⟨t1, q1, q2, q3⟩ := hend p done t' K' hnd hall hId
        have hrun3 : (execOp a'.eval o1).run P w' = .ok (.value (.tuple #[.bool false])) w' := by
          simp [execOp, y1.1, hev, hrun2, Result.andThen]
        refine plain_op x1 y1.2.1 hrun3 ?_
        rw [y1.2.2]
        have hTn : TM e' (putT t' (some nx) (.tuple [.bool false])) (a'.put (some nx) (.tuple #[.bool false])).tmps := hT'.put (some nx) (by simp [conc, concs])
        refine runSeq_ok hcall _ ps1 e' K' w' _ _ t1 K' a1 hTn hmF q1 fun e2 a2 w4 hX2 hT4 hd4 hm4 => ?_
        have hmo2 : a2.eval (.tmp more) = .bool false := by
          have := compArg_ok (x := .tmp more) (p := .tmp more) rfl hT4 (v := .bool false) q2
          exact conc_bool this
        refine wp_seq (wp_cond_false hmo2 (wp_exit ?_))
        show (if out = out then K .normal a2 w4 else K (.exit out) a2 w4)
        rw [if_pos rfl]
        rcases q3 with q3 | ⟨q3, q4, q5⟩
        · exact hK .normal t1 K' e2 a2 w4 q3 (hx1.trans (hX.trans hX2)) hT4 (by rw [hd4]; exact hd') (hm4.unfence2 hBB hmr.ro.2)
        · have hE : Ext e1 e2 := fun b x hb => hX2.ext b x (hX.ext b x hb)
          have hxx : w4.heap[xb.blk]? = some (.map arr clock) := (hm4.below.block xb.blk (.inr (.inr rfl))).trans ((hmF.below.block xb.blk (.inr (.inr rfl))).symm.trans hx')
          have hXs : XR K' (K'.set mb (.map es)) e2 e2 := XR.same set_n e2
          refine hK .normal t1 (K'.set mb (.map es)) e2 a2 w4 q5 ((hx1.trans (hX.trans hX2)).trans hXs) hT4 (by rw [hd4]; exact hd') (hm4.revive hBB hmr.ro.2 q3 (hE mb xb hex) (.inr rfl) (hmr1.own mb _ xb hes hex rfl) q4 hxx ?_ ?_ hbi)
          · rw [hke]; exact concs_ext hE _ hks
          · rw [hve]; exact concs_ext hE _ hvs
      · -- one comes
        have hmem : en ∈ arr.toList ∧ seen.contains en.born = false := by
          unfold leftOf at hen
          rw [Array.toList_filter, List.mem_filter] at hen
          exact ⟨hen.1, by simpa using hen.2⟩
        obtain ⟨i, hil, hie⟩ := List.getElem_of_mem hmem.1
        have hid : i ∉ done := fun h => by
          have := (hseen en.born).2 ⟨i, h, hil, by rw [hie]⟩
          rw [hmem.2] at this; cases this
        have hil2 : i < es.length := by rw [hlen]; exact hil
        obtain ⟨kv, hkv, t1, t2, K2, q1, q2, q3, q4, q5⟩ := hstep p done i t' K' hil2 hid hnd hbd hId
        have hExt : Ext e1 e' := hX.ext
        have ck : conc e' kv.1 = some en.key := by
          obtain ⟨u, g1, g2⟩ := concs_get hks i kv.1 (by rw [List.getElem?_map, hkv]; rfl)
          rw [← hke, List.getElem?_map, List.getElem?_eq_getElem hil, hie] at g1
          cases g1
          exact hExt.conc g2
        have cv : conc e' kv.2 = some en.val := by
          obtain ⟨u, g1, g2⟩ := concs_get hvs i kv.2 (by rw [List.getElem?_map, hkv]; rfl)
          rw [← hve, List.getElem?_map, List.getElem?_eq_getElem hil, hie] at g1
          cases g1
          exact hExt.conc g2
        obtain ⟨w4, hw4⟩ : ∃ w4, setBlock w3 r (.mapIter (some xb.blk) clock (seen.push en.born) clock) = w4 := ⟨_, rfl⟩
        rw [hw4] at hrun2
        have hrun3 : (execOp a'.eval o1).run P w' = .ok (.value (.tuple #[.bool true, en.key, en.val])) w4 := by
          simp [execOp, y1.1, hev, hrun2, Result.andThen]
        refine plain_op x1 y1.2.1 hrun3 ?_
        rw [y1.2.2]
        -- the world behind it
        have hm3 : MR B w0 e' K' w3 := by
          rcases hw3 with rfl | rfl
          · exact hmF.unfence2 hBB hmr.ro.2
          · exact (hmF.unfence2 hBB hmr.ro.2).drawn _
        have hr3 : w3.heap[r]? = some (.mapIter (some xb.blk) clock seen c) := by rcases hw3 with rfl | rfl <;> exact hr'
        have hx3 : w3.heap[xb.blk]? = some (.map arr clock) := by rcases hw3 with rfl | rfl <;> exact hx'
        have hsz3 : r < w3.heap.size := by
          rw [Array.getElem?_eq_some_iff] at hr3
          exact hr3.1
        have hm4 : MR B w0 e' K' w4 := by
          rw [← hw4]
          exact hm3.note hr3 fun h => Nat.lt_irrefl _ (hBr r h)
        have hr4 : w4.heap[r]? = some (.mapIter (some xb.blk) clock (seen.push en.born) clock) := by
          rw [← hw4]
          simp only [setBlock]
          rw [Array.getElem?_setIfInBounds, if_pos rfl, if_pos hsz3]
        have hx4 : w4.heap[xb.blk]? = some (.map arr clock) := by
          rw [← hw4]
          simp only [setBlock]
          rw [Array.getElem?_setIfInBounds, if_neg (by omega)]
          exact hx3
        have hF4 : MR (fun k => B k ∨ (k = r ∨ k = xb.blk)) w4 e' K' w4 := hm4.fence (fun k hk => by
          have : w4.heap.size = w3.heap.size := by rw [← hw4]; simp [setBlock]
          rcases hk with rfl | rfl <;> omega) fun b k x hk hx hwr hF => hmF.own b k x hk hx hwr (.inr hF)
        have hTn : TM e' (putT t' (some nx) (.tuple [.bool true, kv.1, kv.2])) (a'.put (some nx) (.tuple #[.bool true, en.key, en.val])).tmps := hT'.put (some nx) (by simp [conc, concs, ck, cv])
        refine runSeq_ok hcall _ ps1 e' K' w4 _ _ t1 K' a1 hTn hF4 q1 fun e2 a2 w5 hX2 hT5 hd5 hm5 => ?_
        have hmo2 : a2.eval (.tmp more) = .bool true := by
          have := compArg_ok (x := .tmp more) (p := .tmp more) rfl hT5 (v := .bool true) q3
          exact conc_bool this
        refine wp_seq (wp_cond_true hmo2 (wp_skip ?_))
        refine wp_block (wp_seq (wp_region ?_))
        rw [l2, wpOps_cons]
        have hev2 := hite e2 t1 a2 hT5 q2
        have hr5 : w5.heap[r]? = some (.mapIter (some xb.blk) clock (seen.push en.born) clock) := (hm5.below.block r (.inr (.inl rfl))).trans hr4
        have hx5 : w5.heap[xb.blk]? = some (.map arr clock) := (hm5.below.block xb.blk (.inr (.inr rfl))).trans hx4
        have hrun4 : (execOp a2.eval o2).run P w5 = .ok (.value (.tuple #[en.key, en.val])) w5 := by
          have := run_entry_at (P := P) w5 r xb.blk clock seen arr clock en hr5 hx5 hmem.1 hbi.2
          simp [execOp, y2.1, hev2, this, Result.andThen]
        refine plain_op x2 y2.2.1 hrun4 ?_
        rw [y2.2.2]
        have hTp : TM e2 (putT t1 (some pair) (.tuple [kv.1, kv.2])) (a2.put (some pair) (.tuple #[en.key, en.val])).tmps := hT5.put (some pair) (by simp [conc, concs, hX2.ext.conc ck, hX2.ext.conc cv])
        refine runSeq_ok hcall _ ps2 e2 K' w5 _ _ t2 K2 a2ops hTp hm5 q4 fun e3 a3 w6 hX3 hT6 hd6 hm6 => ?_
        obtain ⟨x, t7, K7, q6, q7, q8⟩ := q5
        refine exec_ok hdraw hcall N cbody pbody hb e3 K2 w6 t2 a3 x t7 K7 _ hT6 hm6 q6 fun e4 a4 w7 hX4 hT7 hd7 hm7 => ?_
        have hgo : Code.rounds P (.seq (.region r1 ops1 false) (.seq (.cond (.tmp more) .skip (.exit out)) (.block nxt (.seq (.region r2 ops2 false) cbody)))) (Exit.inBlock out K) n a4 w7 := by
          refine ih (done ++ [i]) t7 K7 e4 a4 w4 w7 (by rw [List.length_append, List.length_singleton]; omega) q8 ?_ (fun j hj => ?_) (hX.trans (hX2.trans (hX3.trans hX4))) hT7 ?_ hm7 hm4.below ⟨seen.push en.born, clock, (hm7.below.block r (.inr (.inl rfl))).trans hr4, Nat.le_refl _, fun b => ?_⟩ ((hm7.below.block xb.blk (.inr (.inr rfl))).trans hx4)
          · rw [List.nodup_append]
            exact ⟨hnd, by simp, fun x hx y hy h => hid (by simp at hy; rw [← hy, ← h]; exact hx)⟩
          · rcases List.mem_append.1 hj with hj | hj
            · exact hbd j hj
            · simp at hj; omega
          · rw [hd7, hd6]
            show (a2.put (some pair) _).defers = a.defers
            rw [show (a2.put (some pair) (Value.tuple #[en.key, en.val])).defers = a2.defers from rfl, hd5]
            exact hd'
          · rw [Array.contains_push, Bool.or_eq_true, hseen b]
            constructor
            · rintro (⟨j, hj, hjl, he⟩ | he)
              · exact ⟨j, List.mem_append_left _ hj, hjl, he⟩
              · exact ⟨i, by simp, hil, by rw [hie]; simpa using (show b = en.born by simpa using he).symm⟩
            · rintro ⟨j, hj, hjl, he⟩
              rcases List.mem_append.1 hj with hj | hj
              · exact .inl ⟨j, hj, hjl, he⟩
              · simp only [List.mem_singleton] at hj
                subst hj
                exact .inr (by rw [hie] at he; simp [he])
        rcases q7 with rfl | rfl
        · exact hgo
        · show (if nxt = nxt then _ else _)
          rw [if_pos rfl]
          exact hgo
  refine wp_block (wp_loop_rounds (es.length + 1) (key (es.length + 1) [] _ _ e1 _ w2 w2 (by simp) (hI p) List.nodup_nil (fun j hj => by cases hj) ⟨?_, ?_, ?_⟩ hT2 ?_ hF2 hU2.below ⟨#[], clock, hr2, Nat.le_refl _, fun b => by simp⟩ hx2))
  · rw [set_n]; exact Nat.le_refl _
  · exact Ext.refl e1
  · exact fun b _ => rfl
  · exact hd1
end
/-! A function's call, out of its code. -/
section
variable {P : Program}
theorem calls_of_MW [Val] {f : FuncId} {fn : Func} {c : Code} {prs : List PRes} (h1 : P.funcs[f]? = some fn) (hb : fn.body = some c) (hrs : mapO (compRes P) fn.results.toList = some prs) {args : List AV} {M : AMem} (hle : args.length ≤ fn.ntmps) {R : AV → AMem → Prop}
    (h : MW P c (setArgs (Tr.ofList (List.replicate fn.ntmps undefA)) 0 args) M (fun x t K => (x = .normal ∨ x = .ret) ∧ ∃ vs, resIs t K prs = some vs ∧ R (resV vs) K)) :
    ∀ (B : Nat → Prop) (w0 : World) (e : Env) (w : World) (cargs : List Value), concs e args = some cargs → MR B w0 e M w →
      Calls P f cargs.toArray w fun en w' => ∃ r M' e' v, R r M' ∧ XR M M' e e' ∧ en = .returned v ∧ conc e' r = some v ∧ MR B w0 e' M' w' := by
  intro B w0 e w cargs hc hm
  refine calls_of_wp h1 hb ?_
  refine h B w0 e w { tmps := cargs.toArray ++ Array.replicate (fn.ntmps - cargs.toArray.size) undef, defers := [] } _ (TM.begin hc hle) hm fun x t' M' e' a' w' hq he hT hd hm' => ?_
  obtain ⟨hfin, vs, hv, hR⟩ := hq
  obtain ⟨cv, k1, k2⟩ := results_ok hT hm' hrs hv
  rcases hfin with rfl | rfl
  · exact ⟨hd, cv, k2, _, M', e', cv, hR, he, rfl, k1, hm'⟩
  · exact ⟨hd, cv, k2, _, M', e', cv, hR, he, rfl, k1, hm'⟩
/-- what a call made and left is forgotten -/
theorem MR.forget [Val] {B : Nat → Prop} {w0 w w' : World} {e e' : Env} {M M' : AMem} (h0 : MR B w0 e M w) (h : MR B w0 e' M' w') (hx : XR M M' e e') (hs : Step M M') : MR B w0 e M w' := by
  have key : ∀ (b : Nat) (k : ABlk) (x : EB), M.get b = some k → e b = some x → M'.get b = some k ∧ e' b = some x := fun b k x hk hx' => by
    have hlt : b < M.n := by
      have := (h0.full b).1 (by show (M.get b).isSome = true; rw [hk]; rfl)
      exact this
    exact ⟨(hs.grow.get b hlt).trans hk, (hx.old b hlt).trans hx'⟩
  refine ⟨h0.fresh, h0.full, h.below, h.base, fun b k x hk hxb => ?_, fun b k x hk hxb hw => ?_, fun b b' k k' x x' hne hk hk' hxb hxb' he => ?_, fun b x hxb => ?_, h0.ro⟩
  · obtain ⟨g1, g2⟩ := key b k x hk hxb
    have hb := h.blocks b k x g1 g2
    have h0b := h0.blocks b k x hk hxb
    cases k with
    | dead => trivial
    | held => trivial
    | cells cs sz wr g =>
      obtain ⟨arr, T, fr, vs, k1, k2, k3, k4, k5⟩ := hb
      obtain ⟨_, _, _, vs0, _, _, _, j4, _⟩ := h0b
      have : vs = vs0 := by
        have := hx.ext.concs j4
        rw [k4] at this; cases this; rfl
      exact ⟨arr, T, fr, vs, k1, k2, k3, by rw [this]; exact j4, k5⟩
    | map es =>
      obtain ⟨arr, c, ks, vs, k1, k2, k3, k4, k5, k6⟩ := hb
      obtain ⟨_, _, ks0, vs0, _, j2, j3, _, _, _⟩ := h0b
      have e1 : ks = ks0 := by
        have := hx.ext.concs j2
        rw [k2] at this; cases this; rfl
      have e2 : vs = vs0 := by
        have := hx.ext.concs j3
        rw [k3] at this; cases this; rfl
      exact ⟨arr, c, ks, vs, k1, by rw [e1]; exact j2, by rw [e2]; exact j3, k4, k5, k6⟩
  · obtain ⟨g1, g2⟩ := key b k x hk hxb
    exact h.own b k x g1 g2 hw
  · obtain ⟨g1, g2⟩ := key b k x hk hxb
    obtain ⟨g3, g4⟩ := key b' k' x' hk' hxb'
    exact h.sep b b' k k' x x' hne g1 g3 g2 g4 he
  · by_cases hlt : b < M.n
    · exact h.room b x ((hx.old b hlt).trans hxb)
    · rw [h0.fresh b (by omega)] at hxb; cases hxb
end
/-! A function's code beside its form in our small machine. -/
section
variable {P : Program}
theorem comp_seq {a b : Code} {p q : PCode} (h : compCode P (.seq a b) = some (.seq p q)) : compCode P a = some p ∧ compCode P b = some q := by
  simp only [compCode] at h
  cases h1 : compCode P a with
  | none => simp [h1] at h
  | some pa =>
    cases h2 : compCode P b with
    | none => simp [h1, h2] at h
    | some pb =>
      simp [h1, h2] at h
      exact ⟨by rw [h.1], by rw [h.2]⟩
theorem comp_block {i j : Nat} {a : Code} {p : PCode} (h : compCode P (.block i a) = some (.block j p)) : compCode P a = some p := by
  simp only [compCode] at h
  cases h1 : compCode P a with
  | none => simp [h1] at h
  | some pa =>
    simp [h1] at h
    rw [h.2]
theorem comp_loop {a : Code} {p : PCode} (h : compCode P (.loop a) = some (.loop p)) : compCode P a = some p := by
  simp only [compCode] at h
  cases h1 : compCode P a with
  | none => simp [h1] at h
  | some pa =>
    simp [h1] at h
    rw [h]
theorem body_of {fn : Func} {c : Code} {pf : PFn} (hb : fn.body = some c) (h : compFunc P fn = some pf) : compCode P c = some pf.body ∧ mapO (compRes P) fn.results.toList = some pf.res ∧ pf.n = fn.ntmps := by
  unfold compFunc at h
  simp only [hb] at h
  cases h1 : compCode P c with
  | none => simp [h1] at h
  | some pc =>
    cases h2 : mapO (compRes P) fn.results.toList with
    | none => simp [h1, h2] at h
    | some prs =>
      simp only [h1, h2, Option.some.injEq] at h
      subst h
      exact ⟨rfl, rfl, rfl⟩
theorem args_tr {args : List AV} {n : Nat} (hn : args.length ≤ n) : Dom (setArgs (Tr.ofList (List.replicate n undefA)) 0 args) n ∧ ∀ (i : Nat) (v : AV), args[i]? = some v → (setArgs (Tr.ofList (List.replicate n undefA)) 0 args).get i = some v := by
  have hb : ∀ j : Nat, j < args.length → ((Tr.ofList (List.replicate n undefA)).get (0 + j)).isSome = true := fun j hj => by
    rw [Tr.ofList_get]; simp; omega
  have hget : ∀ m, (setArgs (Tr.ofList (List.replicate n undefA)) 0 args).get m = if m < args.length then args[m]? else (Tr.ofList (List.replicate n undefA)).get m := by
    intro m
    letI : Val := ⟨fun _ => 0, fun _ => undef, fun _ => none⟩
    rw [setArgs_get args _ 0 m hb]; simp
  refine ⟨fun i => ?_, fun i v hi => by rw [hget, if_pos (List.getElem?_eq_some_iff.1 hi).1]; exact hi⟩
  rw [hget]
  split
  · rename_i hi; rw [List.getElem?_eq_getElem hi]; simp; omega
  · rw [Tr.ofList_get]; simp [List.getElem?_replicate]
    split <;> simp_all
/-- the form of a loop over a map -/
structure RS (P : Program) (c : Code) (out nxt it nx pair more : Nat) (pm : PArg) (ps0 ps1 ps2 : List PInstr) (cb : Code) : Prop where
  ex : ∃ (rid r1 r2 : Nat) (ops0 ops1 ops2 : Array Oper) (o0 o1 o2 : Oper) (ty kt et : TypeId) (mo : Operand),
    c = .seq (.region rid ops0 false) (.block out (.loop (.seq (.region r1 ops1 false) (.seq (.cond (.tmp more) .skip (.exit out)) (.block nxt (.seq (.region r2 ops2 false) cb)))))) ∧
    (List.range ops0.size = List.range (ops0.size - 1) ++ [ops0.size - 1] ∧ Align P ops0 (List.range (ops0.size - 1)) ps0 ∧ ops0[ops0.size - 1]? = some o0 ∧ (o0.op = .range ty mo ∧ o0.guard = none ∧ o0.dst = some it) ∧ compArg mo = some pm ∧ P.underlying ty = some (.map kt et)) ∧
    (List.range ops1.size = 0 :: List.range' 1 (ops1.size - 1) ∧ Align P ops1 (List.range' 1 (ops1.size - 1)) ps1 ∧ ops1[0]? = some o1 ∧ (o1.op = .next (.tmp it) false ∧ o1.guard = none ∧ o1.dst = some nx)) ∧
    (List.range ops2.size = 0 :: List.range' 1 (ops2.size - 1) ∧ Align P ops2 (List.range' 1 (ops2.size - 1)) ps2 ∧ ops2[0]? = some o2 ∧ (o2.op = .entry (.tmp it) ∧ o2.guard = none ∧ o2.dst = some pair))
end
section
variable {P : Program} {call : FuncId → List AV → AMem → Option (AV × AMem)} {N : Nat}
theorem MW_rangeS [Val] (hcall : CallSound P call) (hdraw : DrawSound P) {c cb : Code} {out nxt it nx pair more mb i j : Nat} {pm : PArg} {ps0 ps1 ps2 : List PInstr} {x0 x1 x2 x3 pbody : PCode} (h : RS P c out nxt it nx pair more pm ps0 ps1 ps2 cb)
    (hk : compCode P c = some (.seq x0 (.block i (.loop (.seq x1 (.seq x2 (.block j (.seq x3 pbody)))))))) (hne : nxt ≠ out)
    {es : List (AV × AV)} {t t0 : Tr AV} {M M0 : AMem} {Q : PEx → Tr AV → AMem → Prop}
    (hpre : runSeq call ps0 t M = some (t0, M0)) (hm : pm.eval t0 = some (.map (some mb))) (hes : M0.get mb = some (.map es))
    (I : Option Addr → List Nat → Tr AV → AMem → Prop) (hI : ∀ p, I p [] (putT t0 (some it) (.rptr p)) (M0.set mb .dead)) (hit : ∀ p d t K, I p d t K → t.get it = some (.rptr p))
    (hstep : ∀ p done i t K, i < es.length → i ∉ done → done.Nodup → (∀ j ∈ done, j < es.length) → I p done t K → ∃ kv, es[i]? = some kv ∧ ∃ t1 t2 K2, runSeq call ps1 (putT t (some nx) (.tuple [.bool true, kv.1, kv.2])) K = some (t1, K) ∧ t1.get it = some (.rptr p) ∧ t1.get more = some (.bool true) ∧
      runSeq call ps2 (putT t1 (some pair) (.tuple [kv.1, kv.2])) K = some (t2, K2) ∧ W (exec call N pbody t2 K2) (fun x t' K' => (x = .normal ∨ x = .exit nxt) ∧ I p (done ++ [i]) t' K'))
    (hend : ∀ p done t K, done.Nodup → (∀ j, j ∈ done ↔ j < es.length) → I p done t K → ∃ t1, runSeq call ps1 (putT t (some nx) (.tuple [.bool false])) K = some (t1, K) ∧ t1.get more = some (.bool false) ∧ (Q .normal t1 K ∨ (K.get mb = some .dead ∧ (∀ b, isHeld (K.get b) = false) ∧ Q .normal t1 (K.set mb (.map es))))) :
    MW P c t M Q := by
  obtain ⟨rid, r1, r2, ops0, ops1, ops2, o0, o1, o2, ty, kt, et, mo, rfl, ⟨l0, a0, y0, z0, hmo, ht⟩, ⟨l1, a1, y1, z1⟩, ⟨l2, a2, y2, z2⟩⟩ := h.ex
  obtain ⟨_, hk⟩ := comp_seq hk
  have hk := comp_block hk
  have hk := comp_loop hk
  obtain ⟨_, hk⟩ := comp_seq hk
  obtain ⟨_, hk⟩ := comp_seq hk
  have hk := comp_block hk
  obtain ⟨_, hk⟩ := comp_seq hk
  exact MW_range hcall hdraw l0 a0 y0 z0 hmo ht l1 a1 y1 z1 l2 a2 y2 z2 hk hne hpre hm hes I hI hit hstep hend
end
/-! One row that a call made is kept, all else that it left is forgotten. -/
theorem MR.take [Val] {B : Nat → Prop} {w0 w w' : World} {e e' : Env} {M K : AMem} (h0 : MR B w0 e M w) (h : MR B w0 e' K w') (hx : XR M K e e') (hs : Step M K) (hok : Okg M) {b sz : Nat} {cs : List AV} {g : Option Nat} (hb : M.n ≤ b) (hk : K.get b = some (.cells cs sz true g)) (hg : ∀ γ, g = some γ → M.n ≤ γ) {x : EB} (hxb : e' b = some x)
    (hi : ∀ e1 e2 : Env, concs e1 cs = concs e2 cs) : MR B w0 (e.set M.n x) (M.push (.cells cs sz true none)) w' ∧ XR M (M.push (.cells cs sz true none)) e (e.set M.n x) := by
  have hM := h0.forget h hx hs
  have hE : Ext e (e.set M.n x) := Ext.one (h0.fresh _ (Nat.le_refl _)) x
  have hget : ∀ m, (M.push (.cells cs sz true none)).get m = if m = M.n then some (.cells cs sz true none) else M.get m := fun m => Tr.get_push M.t M.n _ m h0.full
  have hset : ∀ m, (e.set M.n x) m = if m = M.n then some x else e m := fun m => rfl
  have hlt : ∀ (m : Nat) (k : ABlk), M.get m = some k → m < M.n := fun m k hm => (h0.full m).1 (by show (M.get m).isSome = true; rw [hm]; rfl)
  have hold : ∀ (m : Nat) (k : ABlk) (y : EB), m ≠ M.n → (M.push (.cells cs sz true none)).get m = some k → (e.set M.n x) m = some y → M.get m = some k ∧ e m = some y ∧ K.get m = some k ∧ e' m = some y := fun m k y hne hm hy => by
    rw [hget, if_neg hne] at hm
    rw [hset, if_neg hne] at hy
    have := hlt m k hm
    exact ⟨hm, hy, (hs.grow.get m this).trans hm, (hx.old m this).trans hy⟩
  have share : ∀ (m : Nat) (k : ABlk) (y : EB), m ≠ M.n → (M.push (.cells cs sz true none)).get m = some k → (e.set M.n x) m = some y → x.blk = y.blk → k = .dead := fun m k y hne hm hy he => by
    obtain ⟨q1, q2, q3, q4⟩ := hold m k y hne hm hy
    have hml := hlt m k q1
    have hsh := h.sep b m _ k x y (by omega) hk q3 hxb q4 he
    cases k with
    | dead => rfl
    | held => simp [ABlk.share] at hsh
    | map es => simp [ABlk.share] at hsh
    | cells cs' sz' wr' g' =>
      simp only [ABlk.share, Bool.not_true, Bool.false_and, Bool.false_or, Bool.and_eq_true] at hsh
      cases hgg : g with
      | none => rw [hgg] at hsh; simp at hsh
      | some γ =>
        rw [hgg] at hsh
        have hg' : g' = some γ := (by simpa using hsh.2 : some γ = g').symm
        subst hg'
        have := hok.2 m cs' sz' wr' γ q1
        have := hg γ hgg
        omega
  refine ⟨⟨fun m hm => ?_, Tr.full_push h0.full _, hM.below, hM.base, fun m k y hm hy => ?_, fun m k y hm hy hw => ?_, fun m m' k1 k2 x1 x2 hne q1 q2 hx1 hx2 he => ?_, fun m y hy => ?_, hM.ro⟩, by rw [push_n]; omega, hE, fun m hm => by rw [hset, if_neg (by omega)]⟩
  · rw [push_n] at hm
    rw [hset, if_neg (by omega)]
    exact h0.fresh m (by omega)
  · by_cases hmn : m = M.n
    · subst hmn
      rw [hget, if_pos rfl] at hm; cases hm
      rw [hset, if_pos rfl] at hy; cases hy
      obtain ⟨arr, T, fr, vs, k1, k2, k3, k4, k5⟩ := h.blocks b _ x hk hxb
      exact ⟨arr, T, fr, vs, k1, k2, k3, (hi _ _).trans k4, k5⟩
    · obtain ⟨q1, q2, _, _⟩ := hold m k y hmn hm hy
      exact (hM.blocks m k y q1 q2).ext hE
  · by_cases hmn : m = M.n
    · subst hmn
      rw [hset, if_pos rfl] at hy; cases hy
      exact h.own b _ x hk hxb rfl
    · obtain ⟨q1, q2, _, _⟩ := hold m k y hmn hm hy
      exact hM.own m k y q1 q2 hw
  · by_cases h1 : m = M.n
    · subst h1
      have hx1' := hx1
      rw [hset, if_pos rfl] at hx1; cases hx1
      have := share m' k2 x2 (Ne.symm hne) q2 hx2 he
      subst this
      cases k1 <;> rfl
    · by_cases h2 : m' = M.n
      · subst h2
        rw [hset, if_pos rfl] at hx2; cases hx2
        have := share m k1 x1 h1 q1 hx1 he.symm
        subst this; rfl
      · obtain ⟨a1, a2, _, _⟩ := hold m k1 x1 h1 q1 hx1
        obtain ⟨b1, b2, _, _⟩ := hold m' k2 x2 h2 q2 hx2
        exact hM.sep m m' k1 k2 x1 x2 hne a1 b1 a2 b2 he
  · rw [hset] at hy
    split at hy
    · cases hy; exact h.room b x hxb
    · exact hM.room m y hy
end Go.Vx
