/- The code of our small machine does what the model's code does: code, functions, calls. -/
import Derived.Test.YtpbejdlpkpehlaaVx10
import Derived.LoopN
namespace Go.Vx

section
variable {P : Program} {B : Nat → Prop} {w0 : World} {call : FuncId → List AV → AMem → Option (AV × AMem)}

/-- the operations of a region, ours beside the model's -/
def Align (P : Program) (ops : Array Oper) : List Nat → List PInstr → Prop
  | [], [] => True
  | i :: is, p :: ps => (∃ o, ops[i]? = some o ∧ compInstr P ops o = some p) ∧ Align P ops is ps
  | _, _ => False

theorem runSeq_ok [Val] (hcall : CallSound P call) {ops : Array Oper} {Q : Exit → Act → World → Prop} : ∀ (is : List Nat) (ps : List PInstr) (e : Env) (M : AMem) (w : World) (t : Tr AV) (a : Act) (t' : Tr AV) (M' : AMem),
    Align P ops is ps → TM e t a.tmps → MR B w0 e M w → runSeq call ps t M = some (t', M') →
    (∀ e' a' w', XR M M' e e' → TM e' t' a'.tmps → a'.defers = a.defers → MR B w0 e' M' w' → Q .normal a' w') → wpOps P ops Q is a w
  | [], [], e, M, w, t, a, t', M', _, hT, hm, hr, hQ => by
    simp [runSeq] at hr
    obtain ⟨rfl, rfl⟩ := hr
    exact hQ e a w (XR.refl M e) hT rfl hm
  | i :: is, p :: ps, e, M, w, t, a, t', M', hal, hT, hm, hr, hQ => by
    obtain ⟨⟨o, ho, hp⟩, hal⟩ := hal
    rw [wpOps_cons]
    simp only [runSeq] at hr
    cases hw : wantedA p t with
    | true =>
      simp only [hw, if_true] at hr
      cases hev : evalArgs t p.args with
      | none => simp [hev] at hr
      | some avs =>
        simp only [hev] at hr
        cases hv : val1 call p.op avs M with
        | none => simp [hv] at hr
        | some q =>
          obtain ⟨v, M1⟩ := q
          simp only [hv] at hr
          refine wpOp_ok hcall ho hp hT hm hw hev hv fun e' cv w' he hc hm' => ?_
          refine runSeq_ok hcall is ps e' M1 w' _ (a.put p.dst cv) t' M' hal ((hT.ext he.ext).put p.dst hc) hm' hr fun e'' a' w'' he' hT' hd hm'' => ?_
          exact hQ e'' a' w'' (he.trans he') hT' (by rw [hd]; cases p.dst <;> rfl) hm''
    | false =>
      simp only [hw, Bool.false_eq_true, if_false] at hr
      refine wpOp_skip ho hp hT hw ?_
      have hu : conc e undefA = some undef := by simp [undefA, conc, concs, undef]
      refine runSeq_ok hcall is ps e M w _ (a.put p.dst undef) t' M' hal (hT.put p.dst hu) hm hr fun e'' a' w'' he' hT' hd hm'' => ?_
      exact hQ e'' a' w'' he' hT' (by rw [hd]; cases p.dst <;> rfl) hm''
  | [], _ :: _, _, _, _, _, _, _, _, hal, _, _, _, _ => by simp [Align] at hal
  | _ :: _, [], _, _, _, _, _, _, _, hal, _, _, _, _ => by simp [Align] at hal

theorem mapO_get {α β : Type} {f : α → Option β} : ∀ {l : List α} {r : List β}, mapO f l = some r → r.length = l.length ∧ ∀ (i : Nat) (x : α), l[i]? = some x → ∃ y, r[i]? = some y ∧ f x = some y
  | [], _, h => by simp [mapO] at h; subst h; simp
  | x :: xs, _, h => by
    simp only [mapO] at h
    cases h1 : f x with
    | none => simp [h1] at h
    | some a =>
      cases h2 : mapO f xs with
      | none => simp [h1, h2] at h
      | some b =>
        simp [h1, h2] at h; subst h
        obtain ⟨k1, k2⟩ := mapO_get h2
        refine ⟨by simp [k1], fun i y hi => ?_⟩
        cases i with
        | zero => simp at hi; subst hi; exact ⟨a, rfl, h1⟩
        | succ i => simp at hi; simpa using k2 i y hi
theorem align_of [Val] {ops : Array Oper} {ps : List PInstr} (h : mapO (compInstr P ops) ops.toList = some ps) : Align P ops (List.range ops.size) ps := by
  obtain ⟨hl, hg⟩ := mapO_get h
  have key : ∀ (k : Nat) (is : List Nat) (qs : List PInstr), is.length = qs.length → (∀ j : Nat, j < is.length → is[j]? = some (k + j) ∧ qs[j]? = ps[k + j]?) → k + is.length ≤ ops.size → Align P ops is qs := by
    intro k is
    induction is generalizing k with
    | nil => intro qs hq _ _; cases qs with
      | nil => trivial
      | cons q qs => simp at hq
    | cons i is ih =>
      intro qs hq hj hk
      cases qs with
      | nil => simp at hq
      | cons q qs =>
        simp only [List.length_cons] at hk hq
        obtain ⟨h1, h2⟩ := hj 0 (by simp)
        simp at h1 h2
        subst h1
        have hlt : i < ops.toList.length := by simp; omega
        obtain ⟨y, hy, hc⟩ := hg i ops.toList[i] (List.getElem?_eq_getElem hlt)
        rw [hy] at h2; cases h2
        refine ⟨⟨ops.toList[i], by simp [Array.getElem?_eq_getElem (by simpa using hlt : i < ops.size)], hc⟩, ih (i + 1) qs (by omega) ?_ (by omega)⟩
        intro j hjl
        have := hj (j + 1) (by simp; omega)
        simp at this
        rw [Nat.add_assoc, Nat.add_comm 1 j]; exact this
  refine key 0 _ ps (by simp [hl]) (fun j hj => ?_) (by simp)
  simp at hj
  simp [hj]

/-- A region whose order is open: what is owed. -/
def DrawSound [Val] (P : Program) : Prop := ∀ (call : FuncId → List AV → AMem → Option (AV × AMem)), CallSound P call →
  ∀ (ops : Array Oper) (ds : List DInstr) (id : Nat), compRegion P ops true = some (.drawR ds) →
  ∀ (B : Nat → Prop) (w0 : World) (e : Env) (M : AMem) (w : World) (t : Tr AV) (a : Act) (t' : Tr AV) (M' : AMem) (Q : Exit → Act → World → Prop),
    TM e t a.tmps → MR B w0 e M w → runDraw call ds t M = some (t', M') →
    (∀ e' a' w', XR M M' e e' → TM e' t' a'.tmps → a'.defers = a.defers → MR B w0 e' M' w' → Q .normal a' w') → (Code.region id ops true).wp P Q a w

def PEx.out : PEx → Exit
  | .normal => .normal
  | .exit id => .exit id
  | .ret => .ret

theorem compRegion_false {ops : Array Oper} : compRegion P ops false = compRegion0 P ops false := by
  unfold compRegion
  cases compRegion0 P ops false <;> simp
theorem compRegion_seq {ops : Array Oper} {c : PCode} (h : compRegion P ops false = some c) : ∃ ps, mapO (compInstr P ops) ops.toList = some ps ∧ c = .seqR ps := by
  rw [compRegion_false] at h
  unfold compRegion0 at h
  cases hm : mapO (compInstr P ops) ops.toList with
  | none => simp [hm] at h
  | some ps => simp [hm] at h; exact ⟨ps, rfl, h.symm⟩
theorem compRegion0_draw {ops : Array Oper} {c : PCode} (h : compRegion0 P ops true = some c) : ∃ ds, c = .drawR ds := by
  unfold compRegion0 at h
  cases hm : mapO (compInstr P ops) ops.toList with
  | none => simp [hm] at h
  | some ps =>
    simp only [hm] at h
    simp only [Bool.not_true, Bool.false_eq_true, if_false] at h
    split at h
    · cases h; exact ⟨_, rfl⟩
    · cases h

theorem compRegion_cases {ops : Array Oper} {c : PCode} (h : compRegion P ops true = some c) : compRegion0 P ops true = some c ∨ (permOk (sunk P ops) ops.size = true ∧ compRegion0 P (permO ops (sunk P ops)) true = some c) := by
  unfold compRegion at h
  cases h0 : compRegion0 P ops true with
  | some c' => rw [h0] at h; exact .inl h
  | none =>
    rw [h0] at h
    simp only [Bool.true_and] at h
    split at h
    · rename_i hc
      exact .inr ⟨hc, h⟩
    · cases h
theorem compRegion_draw {ops : Array Oper} {c : PCode} (h : compRegion P ops true = some c) : ∃ ds, c = .drawR ds := by
  rcases compRegion_cases h with h | ⟨_, h⟩
  · exact compRegion0_draw h
  · exact compRegion0_draw h

theorem exec_ok [Val] (hdraw : DrawSound P) (hcall : CallSound P call) (N : Nat) : ∀ (c : Code) (pc : PCode), compCode P c = some pc →
    ∀ (e : Env) (M : AMem) (w : World) (t : Tr AV) (a : Act) (x : PEx) (t' : Tr AV) (M' : AMem) (Q : Exit → Act → World → Prop), TM e t a.tmps → MR B w0 e M w → exec call N pc t M = some (x, t', M') →
    (∀ e' a' w', XR M M' e e' → TM e' t' a'.tmps → a'.defers = a.defers → MR B w0 e' M' w' → Q x.out a' w') → c.wp P Q a w := by
  intro c
  induction c with
  | skip =>
    intro pc hc e M w t a x t' M' Q hT hm hr hQ
    simp [compCode] at hc; subst hc
    simp [exec] at hr; obtain ⟨rfl, rfl, rfl⟩ := hr
    exact wp_skip (hQ e a w (XR.refl M e) hT rfl hm)
  | ret =>
    intro pc hc e M w t a x t' M' Q hT hm hr hQ
    simp [compCode] at hc; subst hc
    simp [exec] at hr; obtain ⟨rfl, rfl, rfl⟩ := hr
    exact wp_ret (hQ e a w (XR.refl M e) hT rfl hm)
  | exit id =>
    intro pc hc e M w t a x t' M' Q hT hm hr hQ
    simp [compCode] at hc; subst hc
    simp [exec] at hr; obtain ⟨rfl, rfl, rfl⟩ := hr
    exact wp_exit (hQ e a w (XR.refl M e) hT rfl hm)
  | region id ops draw =>
    intro pc hc e M w t a x t' M' Q hT hm hr hQ
    simp only [compCode] at hc
    cases hcr : compRegion P ops draw with
    | none => rw [hcr] at hc; cases hc; simp [exec] at hr
    | some pr =>
    rw [hcr] at hc; cases hc; have hc := hcr; clear hcr
    cases draw with
    | false =>
      obtain ⟨ps, hps, rfl⟩ := compRegion_seq hc
      simp only [exec] at hr
      cases hs : runSeq call ps t M with
      | none => simp [hs] at hr
      | some q =>
        obtain ⟨t1, M1⟩ := q
        simp [hs] at hr; obtain ⟨rfl, rfl, rfl⟩ := hr
        exact wp_region (runSeq_ok hcall _ _ e M w t a _ _ (align_of hps) hT hm hs hQ)
    | true =>
      obtain ⟨ds, rfl⟩ := compRegion_draw hc
      simp only [exec] at hr
      cases hs : runDraw call ds t M with
      | none => simp [hs] at hr
      | some q =>
        obtain ⟨t1, M1⟩ := q
        simp [hs] at hr; obtain ⟨rfl, rfl, rfl⟩ := hr
        exact hdraw call hcall ops ds id hc B w0 e M w t a _ _ Q hT hm hs hQ
  | seq c1 c2 ih1 ih2 =>
    intro pc hc e M w t a x t' M' Q hT hm hr hQ
    simp only [compCode] at hc
    cases h1 : compCode P c1 with
    | none => simp [h1] at hc
    | some p1 =>
      cases h2 : compCode P c2 with
      | none => simp [h1, h2] at hc
      | some p2 =>
        simp [h1, h2] at hc; subst hc
        simp only [exec] at hr
        cases hs : exec call N p1 t M with
        | none => simp [hs] at hr
        | some q =>
          obtain ⟨x1, t1, M1⟩ := q
          refine wp_seq (ih1 p1 h1 e M w t a x1 t1 M1 _ hT hm hs fun e' a' w' he hT' hd hm' => ?_)
          cases x1 with
          | normal =>
            simp only [hs] at hr
            exact ih2 p2 h2 e' M1 w' t1 a' x t' M' Q hT' hm' hr fun e'' a'' w'' he' hT'' hd' hm'' => hQ e'' a'' w'' (he.trans he') hT'' (hd'.trans hd) hm''
          | exit id => simp [hs] at hr; obtain ⟨rfl, rfl, rfl⟩ := hr; exact hQ e' a' w' he hT' hd hm'
          | ret => simp [hs] at hr; obtain ⟨rfl, rfl, rfl⟩ := hr; exact hQ e' a' w' he hT' hd hm'
  | cond cnd c1 c2 ih1 ih2 =>
    intro pc hc e M w t a x t' M' Q hT hm hr hQ
    simp only [compCode] at hc
    cases h0 : compArg cnd with
    | none => simp [h0] at hc; subst hc; simp [exec] at hr
    | some pa =>
      cases h1 : compCode P c1 with
      | none => simp [h0, h1] at hc; subst hc; simp [exec] at hr
      | some p1 =>
        cases h2 : compCode P c2 with
        | none => simp [h0, h1, h2] at hc; subst hc; simp [exec] at hr
        | some p2 =>
          simp [h0, h1, h2] at hc; subst hc
          simp only [exec] at hr
          split at hr
          · rename_i hb
            have := conc_bool (compArg_ok h0 hT hb)
            exact wp_cond_true this (ih1 p1 h1 e M w t a x t' M' Q hT hm hr hQ)
          · rename_i hb
            have := conc_bool (compArg_ok h0 hT hb)
            exact wp_cond_false this (ih2 p2 h2 e M w t a x t' M' Q hT hm hr hQ)
          · cases hr
  | block id c ih =>
    intro pc hc e M w t a x t' M' Q hT hm hr hQ
    simp only [compCode] at hc
    cases h1 : compCode P c with
    | none => simp [h1] at hc
    | some p1 =>
      simp [h1] at hc; subst hc
      simp only [exec] at hr
      cases hs : exec call N p1 t M with
      | none => simp [hs] at hr
      | some q =>
        obtain ⟨x1, t1, M1⟩ := q
        refine wp_block (ih p1 h1 e M w t a x1 t1 M1 _ hT hm hs fun e' a' w' he hT' hd hm' => ?_)
        cases x1 with
        | normal => simp [hs] at hr; obtain ⟨rfl, rfl, rfl⟩ := hr; exact hQ e' a' w' he hT' hd hm'
        | ret => simp [hs] at hr; obtain ⟨rfl, rfl, rfl⟩ := hr; exact hQ e' a' w' he hT' hd hm'
        | exit id' =>
          simp only [hs] at hr
          show (if id' = id then Q .normal a' w' else Q (.exit id') a' w')
          by_cases hid : id' = id
          · rw [if_pos hid] at hr ⊢
            simp at hr; obtain ⟨rfl, rfl, rfl⟩ := hr
            exact hQ e' a' w' he hT' hd hm'
          · rw [if_neg hid] at hr ⊢
            simp at hr; obtain ⟨rfl, rfl, rfl⟩ := hr
            exact hQ e' a' w' he hT' hd hm'
  | loop c ih =>
    intro pc hc e M w t a x t' M' Q hT hm hr hQ
    simp only [compCode] at hc
    cases h1 : compCode P c with
    | none => simp [h1] at hc
    | some p1 =>
      simp [h1] at hc; subst hc
      simp only [exec] at hr
      -- as many rounds as are left
      refine wp_loop_rounds N ?_
      have key : ∀ (n : Nat) (e1 : Env) (M1 : AMem) (w1 : World) (t1 : Tr AV) (a1 : Act), XR M M1 e e1 → TM e1 t1 a1.tmps → a1.defers = a.defers → MR B w0 e1 M1 w1 →
          iter (exec call N p1) n t1 M1 = some (x, t', M') → Code.rounds P c Q n a1 w1 := by
        intro n
        induction n with
        | zero => intro e1 M1 w1 t1 a1 _ _ _ _ hi; simp [iter] at hi
        | succ n ihn =>
          intro e1 M1 w1 t1 a1 he1 hT1 hd1 hm1 hi
          rw [rounds_succ]
          simp only [iter] at hi
          cases hs : exec call N p1 t1 M1 with
          | none => simp [hs] at hi
          | some q =>
            obtain ⟨x2, t2, M2⟩ := q
            refine ih p1 h1 e1 M1 w1 t1 a1 x2 t2 M2 _ hT1 hm1 hs fun e' a' w' he hT' hd hm' => ?_
            cases x2 with
            | normal =>
              simp only [hs] at hi
              exact ihn e' M2 w' t2 a' (he1.trans he) hT' (hd.trans hd1) hm' hi
            | exit id => simp [hs] at hi; obtain ⟨rfl, rfl, rfl⟩ := hi; exact hQ e' a' w' (he1.trans he) hT' (hd.trans hd1) hm'
            | ret => simp [hs] at hi; obtain ⟨rfl, rfl, rfl⟩ := hi; exact hQ e' a' w' (he1.trans he) hT' (hd.trans hd1) hm'
      exact key N e M w t a (XR.refl M e) hT rfl hm hr
  | _ =>
    intro pc hc e M w t a x t' M' Q hT hm hr hQ
    simp [compCode] at hc; subst hc; simp [exec] at hr

theorem setArgs_get [Val] : ∀ (vs : List AV) (t : Tr AV) (i m : Nat), (∀ j : Nat, j < vs.length → (t.get (i + j)).isSome = true) →
    (setArgs t i vs).get m = if i ≤ m ∧ m < i + vs.length then vs[m - i]? else t.get m
  | [], t, i, m, _ => by
    simp only [setArgs, List.length_nil, Nat.add_zero]
    rw [if_neg (by omega)]
  | v :: vs, t, i, m, h => by
    simp only [setArgs]
    have h0 : (t.get i).isSome = true := by simpa using h 0 (by simp)
    rw [setArgs_get vs (t.set i v) (i + 1) m (fun j hj => by
      rw [Tr.get_set t i v _ h0]
      split
      · rfl
      · have := h (j + 1) (by simp; omega)
        rw [Nat.add_assoc, Nat.add_comm 1 j]; exact this)]
    rw [Tr.get_set t i v m h0]
    simp only [List.length_cons]
    by_cases hm : m = i
    · subst hm
      rw [if_neg (by omega), if_pos rfl, if_pos (by omega)]; simp
    · by_cases hr : i + 1 ≤ m ∧ m < i + 1 + vs.length
      · rw [if_pos hr, if_pos (by omega)]
        have : m - i = (m - (i + 1)) + 1 := by omega
        rw [this]; simp
      · rw [if_neg hr, if_neg hm, if_neg (by omega)]

theorem TM.begin [Val] {e : Env} {args : List AV} {cargs : List Value} {n : Nat} (hc : concs e args = some cargs) (hn : args.length ≤ n) :
    TM e (setArgs (Tr.ofList (List.replicate n undefA)) 0 args) (cargs.toArray ++ Array.replicate (n - cargs.toArray.size) undef) := by
  have hl := concs_length hc
  have hb : ∀ j : Nat, j < args.length → ((Tr.ofList (List.replicate n undefA)).get (0 + j)).isSome = true := by
    intro j hj
    rw [Tr.ofList_get]
    simp [List.getElem?_replicate]; omega
  refine ⟨fun i v hv => ?_, fun i hi => ?_⟩
  · rw [setArgs_get args _ 0 i hb] at hv
    by_cases hi : 0 ≤ i ∧ i < 0 + args.length
    · rw [if_pos hi] at hv
      simp only [Nat.sub_zero] at hv
      obtain ⟨u, h1, h2⟩ := concs_get hc i v hv
      refine ⟨u, ?_, h2⟩
      rw [Array.getElem?_append_left (by simp; omega)]
      simpa using h1
    · rw [if_neg hi, Tr.ofList_get] at hv
      have hin : i < n := by
        have := (List.getElem?_eq_some_iff.1 hv).1
        simpa using this
      rw [List.getElem?_replicate, if_pos hin] at hv
      cases hv
      refine ⟨undef, ?_, by simp [undefA, conc, concs, undef]⟩
      rw [Array.getElem?_append_right (by simp; omega)]
      simp [Array.getElem?_replicate]; omega
  · rw [setArgs_get args _ 0 i hb] at hi
    by_cases hii : 0 ≤ i ∧ i < 0 + args.length
    · rw [if_pos hii] at hi
      simp only [Nat.sub_zero, List.getElem?_eq_none_iff] at hi
      omega
    · rw [if_neg hii, Tr.ofList_get] at hi
      simp only [List.getElem?_eq_none_iff, List.length_replicate] at hi
      simp only [Array.getElem?_eq_none_iff, Array.size_append, Array.size_replicate, List.size_toArray]
      omega

def resVar (tmps : Array Value) : ResultVar → Sem Value
  | .tmp t => pure (tmps.getD t undef)
  | .cell ad t => do loadVar t (← asAddr (tmps.getD ad undef))
theorem results_eq (fn : Func) (tmps : Array Value) : Go.results fn tmps = (do
    let vs ← fn.results.mapM (resVar tmps)
    pure (if h : vs.size = 1 then vs[0] else .tuple vs)) := by
  unfold Go.results
  congr 1
theorem resI_ok [Val] {e : Env} {M : AMem} {w : World} {t : Tr AV} {a : Act} {r : ResultVar} {p : PRes} {v : AV} (hp : compRes P r = some p) (hT : TM e t a.tmps) (hm : MR B w0 e M w) (hr : resI t M p = some v) :
    ∃ cv, conc e v = some cv ∧ (resVar a.tmps r).run P w = .ok cv w := by
  cases r with
  | tmp i =>
    simp [compRes] at hp; subst hp
    simp only [resI] at hr
    obtain ⟨u, h1, h2⟩ := hT.get i v hr
    exact ⟨u, h2, by simp [resVar, h1]⟩
  | cell ad ty =>
    simp only [compRes] at hp
    cases hu : P.underlying ty with
    | none => simp [hu] at hp
    | some d =>
      cases hs : sizeOfP P ty with
      | none => simp [hu, hs] at hp
      | some n =>
        simp [hu, hs] at hp; subst hp
        simp only [resI] at hr
        split at hr
        · rename_i b o hg
          obtain ⟨u, h1, h2⟩ := hT.get ad _ hg
          obtain ⟨xb, hxb, rfl⟩ := conc_ptr h2
          have hgd : a.tmps.getD ad undef = .pointer (some ⟨xb.blk, xb.o + o, none⟩) := by simp [h1]
          cases hd : isAggD d with
          | true =>
            simp only [hd, if_true] at hr
            cases hl : M.loadCells b o n with
            | none => simp [hl] at hr
            | some cs =>
              simp only [hl, Option.some.injEq] at hr; subst hr
              obtain ⟨vs, k1, k2, k3, k4⟩ := hm.loadCells (P := P) hl hxb
              refine ⟨.agg vs.toArray, by simp [conc, k1], ?_⟩
              simp only [resVar, hgd, asAddr, Sem.run_bind, Sem.run_pure, Result.andThen_ok, loadVar, run_isAggD hu, hd, if_true, run_sizeOfP hs, k4]
          | false =>
            simp only [hd, Bool.false_eq_true, if_false] at hr
            cases hl : M.loadCells b o 1 with
            | none => simp [hl] at hr
            | some cs =>
              simp only [hl] at hr
              match cs, hr with
              | [v], hr =>
                simp only [Option.some.injEq] at hr; subst hr
                obtain ⟨vs, k1, k2, k3, k4⟩ := hm.loadCells (P := P) hl hxb
                obtain ⟨c, _, hc1, hc2, rfl⟩ := concs_cons k1
                have hcell := k3 0 c (by simp)
                simp only [Nat.add_zero] at hcell
                refine ⟨c, hc1, ?_⟩
                simp only [resVar, hgd, asAddr, Sem.run_bind, Sem.run_pure, Result.andThen_ok, loadVar, run_isAggD hu, hd, Bool.false_eq_true, if_false, run_load, hcell]
        · cases hr
theorem resIs_ok [Val] {e : Env} {M : AMem} {w : World} {t : Tr AV} {a : Act} (hT : TM e t a.tmps) (hm : MR B w0 e M w) : ∀ {rs : List ResultVar} {ps : List PRes} {vs : List AV},
    mapO (compRes P) rs = some ps → resIs t M ps = some vs →
    ∃ cvs, concs e vs = some cvs ∧ (rs.mapM (resVar a.tmps)).run P w = .ok cvs w
  | [], ps, vs, hp, hr => by
    simp [mapO] at hp; subst hp
    simp [resIs] at hr; subst hr
    exact ⟨[], rfl, rfl⟩
  | r :: rs, ps, vs, hp, hr => by
    simp only [mapO] at hp
    cases h1 : compRes P r with
    | none => simp [h1] at hp
    | some p =>
      cases h2 : mapO (compRes P) rs with
      | none => simp [h1, h2] at hp
      | some qs =>
        simp [h1, h2] at hp; subst hp
        simp only [resIs] at hr
        cases h3 : resI t M p with
        | none => simp [h3] at hr
        | some v =>
          cases h4 : resIs t M qs with
          | none => simp [h3, h4] at hr
          | some us =>
            simp [h3, h4] at hr; subst hr
            obtain ⟨cv, k1, k2⟩ := resI_ok h1 hT hm h3
            obtain ⟨cvs, k3, k4⟩ := resIs_ok hT hm h2 h4
            refine ⟨cv :: cvs, concs_mk k1 k3, ?_⟩
            rw [List.mapM_cons]
            simp only [Sem.run_bind, k2, Result.andThen_ok, k4, Sem.run_pure]

theorem results_ok [Val] {e : Env} {M : AMem} {w : World} {t : Tr AV} {a : Act} {fn : Func} {ps : List PRes} {vs : List AV} (hT : TM e t a.tmps) (hm : MR B w0 e M w)
    (hp : mapO (compRes P) fn.results.toList = some ps) (hr : resIs t M ps = some vs) : ∃ cv, conc e (resV vs) = some cv ∧ (Go.results fn a.tmps).run P w = .ok cv w := by
  obtain ⟨cvs, h1, h2⟩ := resIs_ok hT hm hp hr
  have hl := concs_length h1
  have h3 : (fn.results.mapM (resVar a.tmps)).run P w = .ok cvs.toArray w := by
    rw [Array.mapM_eq_mapM_toList]
    simp only [Sem.run_map, h2, Result.andThen_ok]
  have h4 : (Go.results fn a.tmps).run P w = .ok (if h : cvs.toArray.size = 1 then cvs.toArray[0] else .tuple cvs.toArray) w := by
    rw [results_eq]
    simp only [Sem.run_bind, h3, Result.andThen_ok, Sem.run_pure]
  match vs, h1 with
  | [v], h1 =>
    obtain ⟨c, _, k1, k2, rfl⟩ := concs_cons h1
    simp only [concs, Option.some.injEq] at k2; subst k2
    exact ⟨c, k1, by rw [h4]; simp⟩
  | [], h1 =>
    simp only [concs, Option.some.injEq] at h1; subst h1
    exact ⟨.tuple #[], by simp [resV, conc, concs], by rw [h4]; simp⟩
  | v :: u :: r, h1 =>
    refine ⟨.tuple cvs.toArray, by simp [resV, conc, h1], ?_⟩
    rw [h4]
    have hl' := concs_length h1
    simp only [List.length_cons] at hl'
    have : ¬ cvs.toArray.size = 1 := by simp only [List.size_toArray]; omega
    rw [dif_neg this]

/-- Our functions are the program's. -/
def CodeOk (P : Program) (code : FuncId → Option PFn) : Prop := ∀ (f : FuncId) (pf : PFn), code f = some pf → ∃ fn, P.funcs[f]? = some fn ∧ compFunc P fn = some pf ∧ hasBody P f = true

theorem stepF_ok [Val] {code : FuncId → Option PFn} (hdraw : DrawSound P) (hcode : CodeOk P code) (N : Nat) (ih : CallSound P call) : CallSound P (stepF code N call) := by
  intro f args M r M' h B w0 e w cargs hc hm
  unfold stepF at h
  cases hf : code f with
  | none => simp [hf] at h
  | some pf =>
    simp only [hf] at h
    obtain ⟨fn, h1, h2, h3⟩ := hcode f pf hf
    refine ⟨h3, ?_⟩
    unfold compFunc at h2
    cases hb : fn.body with
    | none => simp [hb] at h2
    | some c =>
      simp only [hb] at h2
      cases hcc : compCode P c with
      | none => simp [hcc] at h2
      | some pc =>
        cases hrs : mapO (compRes P) fn.results.toList with
        | none => simp [hcc, hrs] at h2
        | some prs =>
          simp only [hcc, hrs, Option.some.injEq] at h2
          subst h2
          split at h
          · rename_i hle
            cases hx : exec call N pc (setArgs (Tr.ofList (List.replicate fn.ntmps undefA)) 0 args) M with
            | none => simp [hx] at h
            | some q =>
              obtain ⟨x, t, M1⟩ := q
              simp only [hx] at h
              refine calls_of_wp h1 hb ?_
              have hfin : x = .normal ∨ x = .ret := by cases x <;> simp at h ⊢
              refine exec_ok hdraw ih N c pc hcc e M w _ { tmps := cargs.toArray ++ Array.replicate (fn.ntmps - cargs.toArray.size) undef, defers := [] } x t M1 _ (TM.begin hc hle) hm hx fun e' a' w' he hT hd hm' => ?_
              have hres : ∃ vs, resIs t M1 prs = some vs ∧ resV vs = r ∧ M1 = M' := by
                rcases hfin with rfl | rfl
                · simp only at h
                  cases hv : resIs t M1 prs with
                  | none => simp [hv] at h
                  | some vs => simp [hv] at h; exact ⟨vs, rfl, h.1, h.2⟩
                · simp only at h
                  cases hv : resIs t M1 prs with
                  | none => simp [hv] at h
                  | some vs => simp [hv] at h; exact ⟨vs, rfl, h.1, h.2⟩
              obtain ⟨vs, hv, rfl, rfl⟩ := hres
              obtain ⟨cv, k1, k2⟩ := results_ok hT hm' hrs hv
              rcases hfin with rfl | rfl
              · exact ⟨hd, cv, k2, e', cv, he, rfl, k1, hm'⟩
              · exact ⟨hd, cv, k2, e', cv, he, rfl, k1, hm'⟩
          · cases h

/-- A call's answer, whatever the world: it writes nothing that was there. -/
def Ro [Val] (w : World) : Prop := RoB (fun k => k < w.heap.size) w
theorem MR.roW [Val] {B : Nat → Prop} {w0 : World} {e : Env} {M : AMem} {w : World} (h : MR B w0 e M w) : Ro w := fun a v hm => by
  obtain ⟨hB, c, h1, h2⟩ := h.ro.2 a v hm
  exact ⟨h.base _ hB, c, h1, by rw [World.cell?_of_block (h.below.block _ hB)]; exact h2⟩
def Closed [Val] (P : Program) (f : FuncId) (args : List AV) (r : AV) : Prop :=
  ∀ (e : Env) (w : World) (cargs : List Value), Ro w → concs e args = some cargs →
    hasBody P f = true ∧ Calls P f cargs.toArray w fun en w' => ∃ v, en = .returned v ∧ conc e r = some v ∧ Go.RowKit.Below w.heap.size w w'
/-- calls whose answers are known without a run -/
def TblOk [Val] (P : Program) (tbl : FuncId → List AV → AMem → Option (AV × AMem)) : Prop := CallSound P tbl
theorem MR.outside [Val] {B : Nat → Prop} {w0 : World} {e : Env} {M : AMem} {w w' : World} (h : MR B w0 e M w) (hb : Go.RowKit.Below w.heap.size w w') : MR B w0 e M w' := by
  have hblk : ∀ k, k < w.heap.size → w'.heap[k]? = w.heap[k]? := fun k hk => hb.block k hk
  exact ⟨h.fresh, h.full, h.below.trans ⟨hb.os, hb.tape, hb.output, hb.size, fun k hk => hblk k (h.base k hk)⟩, fun k hk => Nat.lt_of_lt_of_le (h.base k hk) hb.size,
    fun b k x hk hx => (h.blocks b k x hk hx).world (hblk _ (h.room b x hx)), h.own, h.sep, fun b x hx => Nat.lt_of_lt_of_le (h.room b x hx) hb.size, h.ro⟩

theorem callF_ok [Val] {tbl : FuncId → List AV → AMem → Option (AV × AMem)} {code : FuncId → Option PFn} (hdraw : DrawSound P) (htbl : TblOk P tbl) (hcode : CodeOk P code) (N : Nat) : ∀ d : Nat, CallSound P (callF tbl code N d)
  | 0 => by intro f args M r M' h; simp [callF] at h
  | d + 1 => by
    have ih := callF_ok hdraw htbl hcode N d
    intro f args M r M' h B w0 e w cargs hc hm
    simp only [callF] at h
    cases ht : tbl f args M with
    | none =>
      rw [ht] at h
      exact stepF_ok hdraw hcode N ih f args M r M' h B w0 e w cargs hc hm
    | some r1 =>
      rw [ht] at h
      simp only [Option.some.injEq] at h
      subst h
      exact htbl f args M r M' ht B w0 e w cargs hc hm
theorem tblOk_lift [Val] {t : FuncId → List AV → Option AV} (h : ∀ (f : FuncId) (args : List AV) (r : AV), t f args = some r → Closed P f args r) : TblOk P (fun f a M => match t f a with
    | some r => some (r, M)
    | none => none) := by
  intro f args M r M' hr B w0 e w cargs hc hm
  simp only at hr
  cases ht : t f args with
  | none => rw [ht] at hr; cases hr
  | some r1 =>
    rw [ht] at hr
    simp only [Option.some.injEq, Prod.mk.injEq] at hr
    obtain ⟨rfl, rfl⟩ := hr
    obtain ⟨h1, h2⟩ := h f args _ ht e w cargs hm.roW hc
    refine ⟨h1, h2.mono ?_⟩
    rintro en w' ⟨v, g1, g2, g3⟩
    exact ⟨e, v, XR.refl M e, g1, g2, hm.outside g3⟩
theorem tblOk_or [Val] {t u : FuncId → List AV → AMem → Option (AV × AMem)} (ht : TblOk P t) (hu : TblOk P u) : TblOk P (fun f a M => match t f a M with
    | some q => some q
    | none => u f a M) := by
  intro f args M r M' hr
  simp only at hr
  cases h : t f args M with
  | none => rw [h] at hr; exact hu f args M r M' hr
  | some q =>
    rw [h] at hr
    simp only [Option.some.injEq] at hr
    subst hr
    exact ht f args M r M' h
end
end Go.Vx
