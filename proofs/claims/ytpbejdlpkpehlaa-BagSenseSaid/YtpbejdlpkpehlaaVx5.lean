/- Each instruction of our small machine does what the model's operation does: all together. -/
import Derived.Test.YtpbejdlpkpehlaaVx4
namespace Go.Vx
open Go.RowKit (Below)

section
variable {P : Program} {B : Nat → Prop} {w0 : World} {e : Env} {M : AMem} {w : World}

theorem zeroOf_run [Val] {t : TypeId} {z : AV} (h : zeroOf P t = some z) (e : Env) : ∃ cz, conc e z = some cz ∧ (zeroValue t).run P w = .ok cz w := by
  unfold zeroOf at h
  cases hi : P.info? t with
  | none => simp [hi] at h
  | some i =>
    simp only [hi] at h
    cases hz : i.zero with
    | none => simp [hz] at h
    | some cz =>
      simp only [hz] at h
      exact ⟨cz, ofV_conc e h, by simp [zeroValue, typeInfo, hi, hz]⟩
theorem newVar_ok [Val] (hm : MR B w0 e M w) {v : AV} {cv : Value} (T : TypeId) (hv : conc e v = some cv) :
    ∃ e', (newVar T cv).run P w = .ok ⟨w.heap.size, 0, none⟩ (w.alloc (.cells cv.cells T)) ∧ XR M (M.push (.cells v.cells 0 true none)) e e' ∧ conc e' (.ptr (some (M.n, 0))) = some (.pointer (some ⟨w.heap.size, 0, none⟩)) ∧
      MR B w0 e' (M.push (.cells v.cells 0 true none)) (w.alloc (.cells cv.cells T)) := by
  have h := hm.alloc v.cells cv.cells.toList T (conc_cells hv)
  refine ⟨e.set M.n ⟨w.heap.size, 0, 0⟩, by simp [newVar, newRow], hm.xone rfl _, by simp [conc, Env.set], ?_⟩
  simpa using h

theorem placesOf_run [Val] {t : TypeId} {parts : Array (Nat × Value)} {pl : List (Nat × Nat)} {z : AV} {avs : List AV} {cs : List AV} (hp : placesOf P t (parts.toList.map (·.1)) = some pl) (hz : zeroOf P t = some z)
    (ha : concs e avs = some (parts.toList.map (·.2))) (hf : fillA z.cells pl avs = some cs) :
    ∃ cv, conc e (.agg cs) = some cv ∧ (Instr.build t parts).run P w = .ok cv w := by
  unfold zeroOf at hz
  cases hi : P.info? t with
  | none => simp [hi] at hz
  | some it =>
    simp only [hi] at hz
    cases hzz : it.zero with
    | none => simp [hzz] at hz
    | some cz =>
      simp only [hzz] at hz
      have hzc := conc_cells (ofV_conc e hz)
      have hzip : (parts.toList.map (·.1)).zip (parts.toList.map (·.2)) = parts.toList := by
        have h := List.zip_unzip parts.toList
        rw [List.unzip_eq_map] at h
        exact h
      unfold placesOf at hp
      cases hu : P.underlying t with
      | none => simp [hu] at hp
      | some d =>
        cases d <;> simp only [hu] at hp <;> try (cases hp; done)
        case array n el =>
          cases hie : P.info? el with
          | none => simp [hie] at hp
          | some ie =>
            simp only [hie, Option.some.injEq] at hp
            obtain ⟨ovs, ho, hrun⟩ := run_fillA (fun i => some (i * ie.size, ie.size)) (parts.toList.map (·.1)) pl avs _ z.cells cs _ (by rw [← hp]; simp) ha hzc hf (by simp)
            rw [hzip] at hrun
            refine ⟨_, by simp [conc, ho]; rfl, ?_⟩
            refine run_build (P := P) w t parts ovs.toArray ?_
            unfold Program.built
            simp only [hi, hu, hzz, hie]
            simpa using hrun
        case struct fields =>
          cases hm : fields.toList.mapM (fun f => (P.info? f.type).map fun i => (f.offset, i.size)) with
          | none => simp only [hm] at hp; cases hp
          | some places =>
            simp only [hm] at hp
            obtain ⟨ovs, ho, hrun⟩ := run_fillA (fun i => places.toArray[i]?) (parts.toList.map (·.1)) pl avs _ z.cells cs _ (mapO_map hp) ha hzc hf (by simp)
            rw [hzip] at hrun
            refine ⟨_, by simp [conc, ho]; rfl, ?_⟩
            refine run_build (P := P) w t parts ovs.toArray ?_
            unfold Program.built
            simp only [hi, hu, hzz, hm]
            simpa using hrun

theorem run_callFunc {f : FuncId} (h : hasBody P f = true) (args : Array Value) : (callFunc f args).run P w = .ok (.enter f args) w := by
  unfold hasBody at h
  unfold callFunc
  simp only [Sem.run_bind, run_program, Result.andThen_ok]
  cases hf : P.funcs[f]? with
  | none => simp [hf] at h
  | some fn =>
    simp only [hf, Bool.and_eq_true] at h
    obtain ⟨h1, h2⟩ := h
    have h2' : (fn.name == "runtime.NumGoroutine") = false := by
      cases hb : fn.name == "runtime.NumGoroutine" with
      | false => rfl
      | true => simp [bne, hb] at h2
    have h3 : fn.body.isNone = false := by cases hb : fn.body <;> simp_all
    simp only [h2', h3, Bool.false_eq_true, if_false, Sem.run_pure]

theorem bnd_run [Val] {v : AV} {cv : Value} {y l : Nat} {code : BoundsCode} (h : bnd v y = some l) (hv : conc e v = some cv) : (Instr.sliceBound cv y code).run P w = .ok l w ∧ l ≤ y := by
  unfold bnd at h
  cases v <;> simp only at h <;> try (cases h; done)
  rename_i k i
  split at h
  · rename_i hi
    simp only [Option.some.injEq] at h; subst h
    rw [conc_int hv]
    refine ⟨?_, by omega⟩
    simp [Instr.sliceBound, asIntOf, hi.1, hi.2]
  · cases h

/-- an operand that may be there, as a value -/
def concO [Val] (e : Env) : Option AV → Option (Option Value)
  | none => some none
  | some v => match conc e v with
    | some a => some (some a)
    | none => none
theorem take1_conc [Val] {there : Bool} {l l' : List AV} {a : Option AV} {x : Option Operand} {ρ : Operand → Value} {rest : List Value} (hx : there = x.isSome) (h : take1 there l = some (a, l'))
    (hl : concs e l = some ((x.toList.map ρ) ++ rest)) : concO e a = some (x.map ρ) ∧ concs e l' = some rest ∧ a.isSome = x.isSome := by
  unfold take1 at h
  cases x with
  | none =>
    subst hx
    simp at h
    obtain ⟨rfl, rfl⟩ := h
    exact ⟨rfl, by simpa using hl, rfl⟩
  | some x =>
    subst hx
    simp only [Option.isSome_some, if_true] at h
    cases l with
    | nil => simp at h
    | cons v r =>
      simp only [Option.some.injEq, Prod.mk.injEq] at h
      obtain ⟨rfl, rfl⟩ := h
      simp only [Option.toList_some, List.map_cons, List.map_nil, List.cons_append, List.nil_append] at hl
      obtain ⟨b, c, h1, h2, h3⟩ := concs_cons hl
      cases h3
      exact ⟨by simp [concO, h1], h2, rfl⟩
theorem take3_conc [Val] {lo hi mx : Option Operand} {l : List AV} {a b c : Option AV} {ρ : Operand → Value} (h : take3 lo.isSome hi.isSome mx.isSome l = some (a, b, c))
    (hl : concs e l = some ((lo.toList ++ hi.toList ++ mx.toList).map ρ)) : concO e a = some (lo.map ρ) ∧ concO e b = some (hi.map ρ) ∧ concO e c = some (mx.map ρ) ∧ c.isSome = mx.isSome := by
  unfold take3 at h
  cases h1 : take1 lo.isSome l with
  | none => simp [h1] at h
  | some p =>
    obtain ⟨a', l1⟩ := p
    simp only [h1] at h
    simp only [List.map_append, List.append_assoc] at hl
    obtain ⟨c1, hl1, _⟩ := take1_conc rfl h1 hl
    cases h2 : take1 hi.isSome l1 with
    | none => simp [h2] at h
    | some p =>
      obtain ⟨b', l2⟩ := p
      simp only [h2] at h
      obtain ⟨c2, hl2, _⟩ := take1_conc rfl h2 hl1
      cases h3 : take1 mx.isSome l2 with
      | none => simp [h3] at h
      | some p =>
        obtain ⟨c', l3⟩ := p
        simp only [h3] at h
        have hl2' : concs e l2 = some (mx.toList.map ρ ++ []) := by simpa using hl2
        obtain ⟨c3, hl3, hs⟩ := take1_conc rfl h3 hl2'
        cases l3 with
        | cons v r => simp at h
        | nil =>
          simp only [Option.some.injEq, Prod.mk.injEq] at h
          obtain ⟨rfl, rfl, rfl⟩ := h
          exact ⟨c1, c2, c3, hs⟩
theorem concO_some [Val] {v : AV} {x : Option Value} (h : concO e (some v) = some x) : ∃ c, conc e v = some c ∧ x = some c := by
  simp only [concO] at h
  cases hc : conc e v with
  | none => simp [hc] at h
  | some c => simp [hc] at h; exact ⟨c, rfl, h.symm⟩
theorem concO_none [Val] {x : Option Value} (h : concO e none = some x) : x = none := by simp [concO] at h; exact h.symm
/-- the bounds, as the model takes them: 'cap' may be less than there is, if no max is told -/
theorem run_boundsI [Val] {isS : Bool} {len cap capR : Nat} {lo hi mx : Option AV} {clo chi cmx : Option Value} {l h m : Nat} (hb : boundsI len cap lo hi mx = some (l, h, m))
    (h1 : concO e lo = some clo) (h2 : concO e hi = some chi) (h3 : concO e mx = some cmx) (hcap : cap ≤ capR) (hlen : len ≤ cap) :
    ∃ mR, (Instr.sliceBounds isS len capR clo chi cmx).run P w = .ok (l, h, mR) w ∧ (if mx.isNone = true then m = cap ∧ mR = capR else mR = m) ∧ l ≤ h ∧ h ≤ m ∧ m ≤ cap := by
  unfold boundsI at hb
  cases mx with
  | some v =>
    obtain ⟨c3, hv3, rfl⟩ := concO_some h3
    simp only at hb
    cases hm : bnd v cap with
    | none => simp [hm] at hb
    | some m' =>
      simp only [hm] at hb
      have r3 := fun code => bnd_run (P := P) (w := w) (code := code) hm hv3
      have r3' : ∀ code, (Instr.sliceBound c3 capR code).run P w = .ok m' w := by
        intro code
        unfold bnd at hm
        cases v <;> simp only at hm <;> try (cases hm; done)
        rename_i k i
        split at hm
        · rename_i hi
          simp only [Option.some.injEq] at hm; subst hm
          rw [conc_int hv3]
          have : i ≤ (capR : Int) := by omega
          simp [Instr.sliceBound, asIntOf, hi.1, this]
        · cases hm
      cases hi with
      | none => simp at hb
      | some u =>
        obtain ⟨c2, hv2, rfl⟩ := concO_some h2
        simp only at hb
        cases hh : bnd u m' with
        | none => simp [hh] at hb
        | some h' =>
          simp only [hh] at hb
          have r2 := fun code => bnd_run (P := P) (w := w) (code := code) hh hv2
          cases lo with
          | none =>
            have := concO_none h1; subst this
            simp only [Option.some.injEq, Prod.mk.injEq] at hb
            obtain ⟨rfl, rfl, rfl⟩ := hb
            refine ⟨m', ?_, by simp, by omega, (r2 .index).2, (r3 .index).2⟩
            simp [Instr.sliceBounds, r3', (r2 _).1]
          | some t =>
            obtain ⟨c1, hv1, rfl⟩ := concO_some h1
            simp only at hb
            cases hl : bnd t h' with
            | none => simp [hl] at hb
            | some l' =>
              simp only [hl, Option.some.injEq, Prod.mk.injEq] at hb
              obtain ⟨rfl, rfl, rfl⟩ := hb
              have r1 := fun code => bnd_run (P := P) (w := w) (code := code) hl hv1
              refine ⟨m', ?_, by simp, (r1 .index).2, (r2 .index).2, (r3 .index).2⟩
              simp [Instr.sliceBounds, r3', (r2 _).1, (r1 _).1]
  | none =>
    have := concO_none h3; subst this
    simp only [Option.isSome_none, Bool.false_eq_true, if_false] at hb
    cases hi with
    | none =>
      have := concO_none h2; subst this
      simp only at hb
      cases lo with
      | none =>
        have := concO_none h1; subst this
        simp only [Option.some.injEq, Prod.mk.injEq] at hb
        obtain ⟨rfl, rfl, rfl⟩ := hb
        exact ⟨capR, by simp [Instr.sliceBounds], by simp, by omega, hlen, by omega⟩
      | some t =>
        obtain ⟨c1, hv1, rfl⟩ := concO_some h1
        simp only at hb
        cases hl : bnd t len with
        | none => simp [hl] at hb
        | some l' =>
          simp only [hl, Option.some.injEq, Prod.mk.injEq] at hb
          obtain ⟨rfl, rfl, rfl⟩ := hb
          have r1 := fun code => bnd_run (P := P) (w := w) (code := code) hl hv1
          exact ⟨capR, by simp [Instr.sliceBounds, (r1 _).1], by simp, (r1 .index).2, hlen, by omega⟩
    | some u =>
      obtain ⟨c2, hv2, rfl⟩ := concO_some h2
      simp only at hb
      cases hh : bnd u cap with
      | none => simp [hh] at hb
      | some h' =>
        simp only [hh] at hb
        have r2 := fun code => bnd_run (P := P) (w := w) (code := code) hh hv2
        have r2' : ∀ code, (Instr.sliceBound c2 capR code).run P w = .ok h' w := by
          intro code
          unfold bnd at hh
          cases u <;> simp only at hh <;> try (cases hh; done)
          rename_i k i
          split at hh
          · rename_i hi
            simp only [Option.some.injEq] at hh; subst hh
            rw [conc_int hv2]
            have : i ≤ (capR : Int) := by omega
            simp [Instr.sliceBound, asIntOf, hi.1, this]
          · cases hh
        cases lo with
        | none =>
          have := concO_none h1; subst this
          simp only [Option.some.injEq, Prod.mk.injEq] at hb
          obtain ⟨rfl, rfl, rfl⟩ := hb
          refine ⟨capR, ?_, by simp, by omega, (r2 .index).2, by omega⟩
          simp [Instr.sliceBounds, r2']
        | some t =>
          obtain ⟨c1, hv1, rfl⟩ := concO_some h1
          simp only at hb
          cases hl : bnd t h' with
          | none => simp [hl] at hb
          | some l' =>
            simp only [hl, Option.some.injEq, Prod.mk.injEq] at hb
            obtain ⟨rfl, rfl, rfl⟩ := hb
            have r1 := fun code => bnd_run (P := P) (w := w) (code := code) hl hv1
            refine ⟨capR, ?_, by simp, (r1 .index).2, (r2 .index).2, by omega⟩
            simp [Instr.sliceBounds, r2', (r1 _).1]

theorem MR.shareUp [Val] (h : MR B w0 e M w) {b : Nat} {cs : List AV} {sz : Nat} {wr : Bool} {g : Option Nat} (hk : M.get b = some (.cells cs sz wr g)) :
    MR B w0 e (M.set b (.cells cs sz wr (some (g.getD b)))) w := by
  have hget : ∀ m, (M.set b (.cells cs sz wr (some (g.getD b)))).get m = if m = b then some (.cells cs sz wr (some (g.getD b))) else M.get m := fun m => AMem.get_set hk
  refine ⟨h.fresh, Tr.full_set h.full _ _, h.below, h.base, ?_, ?_, ?_, h.room, h.ro⟩
  · intro m k x hk' hx
    rw [hget] at hk'
    by_cases hm : m = b
    · subst hm; rw [if_pos rfl] at hk'; cases hk'
      have := h.blocks m (.cells cs sz wr g) x hk hx
      exact this
    · rw [if_neg hm] at hk'; exact h.blocks m k x hk' hx
  · intro m k x hk' hx hw
    rw [hget] at hk'
    by_cases hm : m = b
    · subst hm; rw [if_pos rfl] at hk'; cases hk'
      exact h.own m (.cells cs sz wr g) x hk hx hw
    · rw [if_neg hm] at hk'; exact h.own m k x hk' hx hw
  · have up : ∀ k, (ABlk.cells cs sz wr g).share k = true → (ABlk.cells cs sz wr (some (g.getD b))).share k = true := by
      intro k hs
      cases k with
      | dead => rfl
      | held => simp [ABlk.share] at hs
      | map es => simp [ABlk.share] at hs
      | cells a1 a2 a3 a4 =>
        cases g with
        | none =>
          simp only [ABlk.share, Option.isSome_none, Bool.false_and, Bool.or_false] at hs ⊢
          simp [hs]
        | some g => exact hs
    have upR : ∀ k : ABlk, k.share (ABlk.cells cs sz wr g) = true → k.share (ABlk.cells cs sz wr (some (g.getD b))) = true := by
      intro k hs
      cases k with
      | dead => rfl
      | held => simp [ABlk.share] at hs
      | map es => simp [ABlk.share] at hs
      | cells a1 a2 a3 a4 =>
        cases g with
        | none =>
          simp only [ABlk.share] at hs ⊢
          cases a4 with
          | none => simpa using hs
          | some a4 => simp at hs ⊢; simp [hs]
        | some g => exact hs
    intro m m' k k' x x' hne hk1 hk2 hx hx' he
    rw [hget] at hk1 hk2
    by_cases hm : m = b
    · subst hm; rw [if_pos rfl] at hk1; cases hk1
      rw [if_neg (fun h => hne h.symm)] at hk2
      exact up _ (h.sep m m' _ k' x x' hne hk hk2 hx hx' he)
    · rw [if_neg hm] at hk1
      by_cases hm' : m' = b
      · subst hm'; rw [if_pos rfl] at hk2; cases hk2
        exact upR _ (h.sep m m' k _ x x' hne hk1 hk hx hx' he)
      · rw [if_neg hm'] at hk2
        exact h.sep m m' k k' x x' hne hk1 hk2 hx hx' he

/-- A block's number more, for a part of a block that has one. -/
theorem MR.pushShared [Val] (h : MR B w0 e M w) {b : Nat} {x : EB} {cs new : List AV} {sz o d : Nat} {wr : Bool} {g : Nat} (hk : M.get b = some (.cells cs sz wr (some g))) (hx : e b = some x)
    (hbr : BR e w ⟨x.blk, o, d⟩ (.cells new sz wr (some g))) :
    MR B w0 (e.set M.n ⟨x.blk, o, d⟩) (M.push (.cells new sz wr (some g))) w := by
  have hget : ∀ m, (M.push (.cells new sz wr (some g))).get m = if m = M.n then some (.cells new sz wr (some g)) else M.get m := fun m => Tr.get_push M.t M.n _ m h.full
  have two : ∀ k, (ABlk.cells cs sz wr (some g)).share k = true → (ABlk.cells new sz wr (some g)).share k = true := fun k hk => by rw [share_left (cs' := cs)]; exact hk
  have twoR : ∀ k : ABlk, k.share (ABlk.cells cs sz wr (some g)) = true → k.share (ABlk.cells new sz wr (some g)) = true := fun k hk => by rw [share_right (cs' := cs)]; exact hk
  have hself : (ABlk.cells cs sz wr (some g)).share (ABlk.cells cs sz wr (some g)) = true := by simp [ABlk.share]
  refine ⟨fun b hb => by simp only [AMem.push] at hb; unfold Env.set; rw [if_neg (by omega)]; exact h.fresh b (by omega), Tr.full_push h.full _, h.below, h.base, ?_, ?_, ?_, ?_, h.ro⟩
  · intro m k y hk' hy
    rw [hget] at hk'
    rcases Env.set_get hy with ⟨hm, hy'⟩ | ⟨rfl, rfl⟩
    · rw [if_neg hm] at hk'; exact (h.blocks m k y hk' hy').ext (h.one _)
    · rw [if_pos rfl] at hk'; cases hk'; exact hbr.ext (h.one _)
  · intro m k y hk' hy hw
    rw [hget] at hk'
    rcases Env.set_get hy with ⟨hm, hy'⟩ | ⟨rfl, rfl⟩
    · rw [if_neg hm] at hk'; exact h.own m k y hk' hy' hw
    · rw [if_pos rfl] at hk'; cases hk'; exact h.own b _ x hk hx hw
  · intro m m' k k' y y' hne hk1 hk2 hy hy' he
    rw [hget] at hk1 hk2
    rcases Env.set_get hy with ⟨hm, hy1⟩ | ⟨rfl, rfl⟩
    · rw [if_neg hm] at hk1
      rcases Env.set_get hy' with ⟨hm', hy2⟩ | ⟨rfl, rfl⟩
      · rw [if_neg hm'] at hk2
        exact h.sep m m' k k' y y' hne hk1 hk2 hy1 hy2 he
      · rw [if_pos rfl] at hk2; cases hk2
        apply twoR
        by_cases hmb : m = b
        · subst hmb; rw [hk] at hk1; cases hk1; exact hself
        · exact h.sep m b k _ y x hmb hk1 hk hy1 hx he
    · rw [if_pos rfl] at hk1; cases hk1
      rcases Env.set_get hy' with ⟨hm', hy2⟩ | ⟨rfl, rfl⟩
      · rw [if_neg hm'] at hk2
        apply two
        by_cases hmb : m' = b
        · subst hmb; rw [hk] at hk2; cases hk2; exact hself
        · exact h.sep b m' _ k' x y' (fun h => hmb h.symm) hk hk2 hx hy2 he
      · exact absurd rfl hne
  · intro m y hy
    rcases Env.set_get hy with ⟨hm, hy'⟩ | ⟨rfl, rfl⟩
    · exact h.room m y hy'
    · exact h.room b x hx

/-- The empty slice behind a block's known cells has a number of its own. -/
theorem alias_ok [Val] (hm : MR B w0 e M w) {b o adv sz : Nat} {cs : List AV} {wr : Bool} {g : Option Nat} {cv : Value} (hk : M.get b = some (.cells cs sz wr g)) (hle : o + adv ≤ cs.length) (hc : conc e (.tail b o adv) = some cv) :
    ∃ e', XR M (M.alias b cs sz wr g) e e' ∧ conc e' (.slice (some (M.n, 0)) 0 0 true) = some cv ∧ MR B w0 e' (M.alias b cs sz wr g) w := by
  simp only [conc] at hc
  cases hxb : e b with
  | none => simp [hxb] at hc
  | some xb =>
    simp only [hxb, Option.some.injEq] at hc
    subst hc
    have r1 := hm.shareUp hk
    have hk1 : (M.set b (.cells cs sz wr (some (g.getD b)))).get b = some (.cells cs sz wr (some (g.getD b))) := by rw [AMem.get_set hk, if_pos rfl]
    obtain ⟨arr, T, fr, vs, b1, b2, b3, b4, b5⟩ := hm.blocks b _ xb hk hxb
    generalize ho : (if xb.d = 0 then xb.o + o else xb.o + o + adv) = oo
    have hbr : BR e w ⟨xb.blk, oo, xb.d⟩ (.cells [] sz wr (some (g.getD b))) := by
      refine ⟨arr, T, fr, [], b1, b2, ?_, rfl, by intro i v hv; simp at hv⟩
      simp only [List.length_nil, Nat.add_zero]
      have : xb.o + o + adv + xb.d * sz ≤ arr.size := by omega
      split at ho
      · rename_i hz
        rw [hz, Nat.zero_mul]; omega
      · omega
    have r2 := r1.pushShared hk1 hxb hbr
    refine ⟨_, hm.xone rfl _, ?_, r2⟩
    have hlast : (e.set M.n ⟨xb.blk, oo, xb.d⟩) M.n = some (⟨xb.blk, oo, xb.d⟩ : EB) := Env.set_self _ _ _
    rw [conc_slice_mk hlast, if_pos (rfl : true = true)]
    simp only [Nat.add_zero, Nat.zero_add]
theorem run_sliceI [Val] {t el : TypeId} {sz : Nat} {x v : AV} {cx : Value} {lo hi mx : Option AV} {clo chi cmx : Option Value} {M' : AMem} (hu : P.underlying t = some (.slice el)) (hs : sizeOfP P el = some sz)
    (hm : MR B w0 e M w) (hx : conc e x = some cx) (h1 : concO e lo = some clo) (h2 : concO e hi = some chi) (h3 : concO e mx = some cmx)
    (h : sliceI M sz x lo hi mx = some (v, M')) :
    ∃ e' cv, (Instr.slice t cx clo chi cmx).run P w = .ok cv w ∧ XR M M' e e' ∧ conc e' v = some cv ∧ MR B w0 e' M' w := by
  unfold sliceI at h
  have hsz := fun w => run_sizeOfP (w := w) hs
  cases x <;> simp only at h <;> try (cases h; done)
  case slice a len cap gr =>
    by_cases hlen : len ≤ cap
    · rw [if_pos hlen] at h
      cases hb : boundsI len cap lo hi mx with
      | none => simp [hb] at h
      | some p =>
        obtain ⟨l, hh, m⟩ := p
        simp only [hb] at h
        cases a with
        | none =>
          simp only [Option.some.injEq, Prod.mk.injEq] at h
          obtain ⟨rfl, rfl⟩ := h
          have : cx = .slice none len cap := by simp [conc] at hx; exact hx.symm
          subst this
          obtain ⟨mR, hrun, hmR, hl1, hl2, hl3⟩ := run_boundsI (P := P) (w := w) (isS := true) hb h1 h2 h3 (Nat.le_refl cap) hlen
          have : mR = m := by split at hmR <;> omega
          subst this
          refine ⟨e, _, ?_, XR.refl M e, rfl, hm⟩
          simp only [Instr.slice, Sem.run_bind, run_underlying hu, Result.andThen_ok, hrun, hsz, Sem.run_pure]
          by_cases hml : mR = l <;> simp [hml]
        | some a =>
          obtain ⟨b, o⟩ := a
          obtain ⟨xb, hxb, rfl⟩ := conc_slice hx
          simp only at h
          obtain ⟨mR, hrun, hmR, hl1, hl2, hl3⟩ := run_boundsI (P := P) (w := w) (isS := true) (capR := cap + if gr = true then xb.d else 0) hb h1 h2 h3 (by omega) hlen
          have hgo : (Instr.slice t (.slice (some ⟨xb.blk, xb.o + o, none⟩) len (cap + if gr = true then xb.d else 0)) clo chi cmx).run P w =
              .ok (.slice (if mR = l then some ⟨xb.blk, xb.o + o, none⟩ else some ⟨xb.blk, xb.o + o + l * sz, none⟩) (hh - l) (mR - l)) w := by
            simp only [Instr.slice, Sem.run_bind, run_underlying hu, Result.andThen_ok, hrun, hsz, Sem.run_pure, Option.map_some, addr_add]
          rw [hgo]
          by_cases hg : gr = true ∧ mx.isNone = true
          · rw [if_pos hg] at h
            obtain ⟨hg1, hg2⟩ := hg
            rw [if_pos hg2, hg1, if_pos rfl] at hmR
            obtain ⟨rfl, rfl⟩ := hmR
            by_cases hlc : l < m
            · rw [if_pos hlc] at h
              simp only [Option.some.injEq, Prod.mk.injEq] at h
              obtain ⟨rfl, rfl⟩ := h
              refine ⟨e, _, rfl, XR.refl M e, ?_, hm⟩
              rw [conc_slice_mk hxb, if_pos (rfl : true = true), if_neg (show ¬ (m + xb.d = l) by omega)]
              have e1 : xb.o + (o + l * sz) = xb.o + o + l * sz := by omega
              have e2 : m - l + xb.d = m + xb.d - l := by omega
              rw [e1, e2]
            · rw [if_neg hlc] at h
              by_cases hc : l = m ∧ hh = l
              · rw [if_pos hc] at h
                obtain ⟨rfl, rfl⟩ := hc
                simp only [Option.some.injEq, Prod.mk.injEq] at h
                obtain ⟨rfl, rfl⟩ := h
                refine ⟨e, _, rfl, XR.refl M e, ?_, hm⟩
                simp only [conc, hxb]
                have e2 : hh + xb.d - hh = xb.d := by omega
                by_cases hz : xb.d = 0
                · rw [if_pos hz, if_pos (by omega), Nat.sub_self, e2]
                · rw [if_neg hz, if_neg (by omega), Nat.sub_self, e2]
              · rw [if_neg hc] at h; cases h
          · rw [if_neg hg] at h
            simp only [Option.some.injEq, Prod.mk.injEq] at h
            obtain ⟨rfl, rfl⟩ := h
            have : mR = m := by
              by_cases hn : mx.isNone = true
              · rw [if_pos hn] at hmR
                have : gr = false := by cases gr with | false => rfl | true => exact absurd ⟨rfl, hn⟩ hg
                subst this; simp at hmR; omega
              · rw [if_neg hn] at hmR; exact hmR
            subst this
            refine ⟨e, _, rfl, XR.refl M e, ?_, hm⟩
            rw [conc_slice_mk hxb]
            by_cases hml : mR = l
            · simp [hml]
            · simp [hml, Nat.add_assoc]
    · rw [if_neg hlen] at h; cases h
  case rslice a len cap =>
    by_cases hlen : len ≤ cap
    · rw [if_pos hlen] at h
      cases hb : boundsI len cap lo hi mx with
      | none => simp [hb] at h
      | some p =>
        obtain ⟨l, hh, m⟩ := p
        simp only [hb, Option.some.injEq, Prod.mk.injEq] at h
        obtain ⟨rfl, rfl⟩ := h
        have : cx = .slice a len cap := by simp [conc] at hx; exact hx.symm
        subst this
        obtain ⟨mR, hrun, hmR, hl1, hl2, hl3⟩ := run_boundsI (P := P) (w := w) (isS := true) hb h1 h2 h3 (Nat.le_refl cap) hlen
        have : mR = m := by split at hmR <;> omega
        subst this
        refine ⟨e, _, ?_, XR.refl M e, rfl, hm⟩
        simp only [Instr.slice, Sem.run_bind, run_underlying hu, Result.andThen_ok, hrun, hsz, Sem.run_pure]
    · rw [if_neg hlen] at h; cases h
  case tail b o adv =>
    split at h
    · rename_i heq
      simp only [Option.some.injEq, Prod.mk.injEq] at h
      obtain ⟨rfl, rfl⟩ := h
      have hx' := hx
      simp only [conc] at hx
      cases hxb : e b with
      | none => rw [hxb] at hx; cases hx
      | some xb =>
        rw [hxb] at hx
        simp only [Option.some.injEq] at hx
        subst hx
        obtain ⟨mR, hrun, hmR, hl1, hl2, hl3⟩ := run_boundsI (P := P) (w := w) (isS := true) (capR := xb.d) heq h1 h2 h3 (by omega) (Nat.le_refl 0)
        simp only [Option.isNone_none, if_true] at hmR
        refine ⟨e, _, ?_, XR.refl M e, hx', hm⟩
        simp only [Instr.slice, Sem.run_bind, run_underlying hu, Result.andThen_ok, hrun, hsz, Sem.run_pure, Option.map_some, addr_add, Nat.zero_mul, Nat.add_zero, Nat.sub_zero]
        have : mR = xb.d := by omega
        subst this
        simp
    · cases h
end
end Go.Vx
