/- A region whose order is open: in whatever order its instructions are done, they come to what they come to in the text's order. -/
import Derived.Test.YtpbejdlpkpehlaaVx13
namespace Go.Vx

section
variable {P : Program} {B : Nat → Prop} {w0 : World} {e : Env} {M : AMem} {w : World} {t : Tr AV} {a : Act} {ops : Array Oper} {Q : Exit → Act → World → Prop} {call : FuncId → List AV → AMem → Option (AV × AMem)}

/-- Some block beside, which nobody writes, stays as it is. -/
theorem MR.guardAdd [Val] (h : MR B w0 e M w) {p : Nat} (hp : p < w.heap.size) (hno : ∀ b k x, M.get b = some k → e b = some x → k.wr = true → x.blk ≠ p) : MR (fun k => B k ∨ k = p) w e M w :=
  ⟨h.fresh, h.full, BelowP.refl _ _, fun k hk => by rcases hk with hk | rfl; exact h.base k hk; exact hp, h.blocks, fun b k x hk hx hw => by
    rintro (hb | hb)
    · exact h.own b k x hk hx hw hb
    · exact hno b k x hk hx hw hb, h.sep, h.room, h.ro.1, fun a v hm => by
    obtain ⟨hB, c, h1, h2⟩ := h.ro.2 a v hm
    exact ⟨.inl hB, c, h1, by rw [World.cell?_of_block (h.below.block _ hB)]; exact h2⟩⟩
theorem MR.guardDrop [Val] {w' : World} {e' : Env} {M' : AMem} (h : MR B w0 e M w) {p : Nat} (h' : MR (fun k => B k ∨ k = p) w e' M' w') : MR B w0 e' M' w' :=
  ⟨h'.fresh, h'.full, h.below.trans (h'.below.mono fun _ hk => .inl hk), fun k hk => h'.base k (.inl hk), h'.blocks, fun b k x hk hx hw hb => h'.own b k x hk hx hw (.inl hb), h'.sep, h'.room, h'.ro.1, h.ro.2⟩

/-- One instruction that is wanted; a block beside stays. -/
theorem wpOp_keep [Val] (hcall : CallSound P call) {i : Nat} {o : Oper} {p : PInstr} {avs : List AV} {v : AV} {M' : AMem} {q : Nat} (ho : ops[i]? = some o) (hp : compInstr P ops o = some p) (hT : TM e t a.tmps) (hm : MR B w0 e M w)
    (hq : q < w.heap.size) (hno : ∀ b k x, M.get b = some k → e b = some x → k.wr = true → x.blk ≠ q)
    (hw : wantedA p t = true) (hev : evalArgs t p.args = some avs) (hv : val1 call p.op avs M = some (v, M')) {K : Act → World → Prop}
    (hK : ∀ e' cv w', XR M M' e e' → conc e' v = some cv → MR B w0 e' M' w' → w'.heap[q]? = w.heap[q]? → w.heap.size ≤ w'.heap.size → K (a.put p.dst cv) w') : wpOp P ops Q i K a w := by
  refine wpOp_ok hcall ho hp hT (hm.guardAdd hq hno) hw hev hv fun e' cv w' h1 h2 h3 => ?_
  exact hK e' cv w' h1 h2 (hm.guardDrop h3) (h3.below.block q (.inr rfl)) h3.below.size

theorem binC_new {op : BinOp} {t : TypeId} {p : PI} (h : binC P op t = some p) : isNew p = false := by
  unfold binC at h
  simp only at h
  repeat' (split at h <;> try (cases h; done))
  all_goals (cases h; rfl)
def newV (a : Addr) : Option Nat → Value
  | none => .pointer (some a)
  | some len => .slice (some a) len len
/-- A block is made. -/
theorem new_run [Val] {o : Oper} {p : PInstr} {avs : List AV} {cs : List AV} {k : Option Nat} (hp : compInstr P ops o = some p) (hT : TM e t a.tmps) (hev : evalArgs t p.args = some avs) (hc : newCells p.op avs = some (cs, k)) :
    ∃ T vs, concs e cs = some vs ∧ (execOp a.eval o).run P w = .ok (.value (newV ⟨w.heap.size, 0, none⟩ k)) (w.alloc (.cells vs.toArray T)) := by
  obtain ⟨xs, hop, hargs, hdst, hgd⟩ := compInstr_parts hp
  clear hgd
  have hca := compArgs_ok hargs hT hev
  obtain ⟨dst, op, ty, pos, after, guard⟩ := o
  generalize hpo : p.op = pop at hop hc
  have hnew : isNew pop = true := by
    unfold newCells at hc; split at hc <;> first | rfl | (cases hc)
  cases op <;> simp only [compOp] at hop <;> try (cases hop; done)
  case alloc el =>
    split at hop
    · rename_i z hz
      cases hop
      have := concs0 hca; subst this
      simp only [newCells, Option.some.injEq, Prod.mk.injEq] at hc
      obtain ⟨hc, rfl⟩ := hc
      subst hc
      obtain ⟨cz, h1, h2⟩ := zeroOf_run (P := P) (w := w) hz e
      refine ⟨el, cz.cells.toList, conc_cells h1, ?_⟩
      simp only [execOp, Instr.alloc, Sem.run_bind, h2, Result.andThen_ok, newVar, newRow, run_newObj, Sem.run_pure, newV]
      simp
    · cases hop
  case box el x =>
    cases hop
    obtain ⟨v, rfl, hv⟩ := concs1 hca
    simp only [newCells, Option.some.injEq, Prod.mk.injEq] at hc
    obtain ⟨hc, rfl⟩ := hc
    subst hc
    refine ⟨el, (a.eval x).cells.toList, conc_cells hv, ?_⟩
    simp only [execOp, Instr.box, Sem.run_bind, newVar, newRow, run_newObj, Result.andThen_ok, Sem.run_pure, newV]
    simp
  case buildSlice t len parts =>
    split at hop
    · rename_i el hu
      split at hop
      · rename_i i hi
        split at hop
        · rename_i z hz
          split at hop
          · rename_i hle
            split at hop
            · rename_i zs hzs
              cases hop
              simp only [newCells] at hc
              cases hf : fillA zs (parts.toList.map fun p => (p.1 * i.size, i.size)) avs with
              | none => simp [hf] at hc
              | some cs' =>
                simp only [hf, Option.some.injEq, Prod.mk.injEq] at hc
                obtain ⟨rfl, rfl⟩ := hc
                have hzc := ofVs_conc e hzs
                obtain ⟨ovs, ho, hrun⟩ := run_fillA (fun i' => some (i' * i.size, i.size)) (parts.toList.map (·.1)) _ avs _ zs _ _ (by simp [Function.comp_def]) hca hzc hf (by simp)
                have hzip : (parts.toList.map (·.1)).zip ((parts.toList.map (·.2)).map a.eval) = (parts.map fun (p : Nat × Operand) => (p.1, a.eval p.2)).toList := by
                  rw [List.map_map, List.zip_map']
                  simp
                rw [hzip] at hrun
                refine ⟨el, ovs, ho, ?_⟩
                have hno : ¬ (len * i.size > 2 ^ 24) := by
                  have : (2 : Nat) ^ 24 = 16777216 := by decide
                  omega
                simp only [execOp, newV]
                simp only [Instr.buildSlice, Sem.run_bind, run_underlying hu, Result.andThen_ok, sizeOf, typeInfo, run_program, hi, Sem.run_pure, if_neg hno]
                by_cases h0 : len * i.size = 0
                · rw [if_pos h0]
                  simp only [Sem.run_bind, Sem.run_pure, Result.andThen_ok]
                  have e0 : ((Array.range (len * i.size)).map fun x => (#[] : Array Value)[x % (#[] : Array Value).size]!) = (Array.range (len * i.size)).map (z.cells[· % z.cells.size]!) := by
                    apply Array.ext'; simp [h0]
                  have e1 : ((Array.range (len * i.size)).map (z.cells[· % z.cells.size]!)).toList.toArray = (Array.range (len * i.size)).map (z.cells[· % z.cells.size]!) := Array.ext' rfl
                  rw [e0, ← e1, hrun]
                  simp [newRow]
                · rw [if_neg h0]
                  simp only [Sem.run_bind, zeroValue, typeInfo, run_program, hi, hz, Result.andThen_ok, Sem.run_pure]
                  have e1 : ((Array.range (len * i.size)).map (z.cells[· % z.cells.size]!)).toList.toArray = (Array.range (len * i.size)).map (z.cells[· % z.cells.size]!) := Array.ext' rfl
                  rw [← e1, hrun]
                  simp [newRow]
            · cases hop
          · cases hop
        · cases hop
      · cases hop
    · cases hop
  case binOp op t x y t2 =>
    split at hop
    · rename_i q hq
      cases hop
      rw [binC_new hq] at hnew; cases hnew
    · split at hop
      · rename_i q hq
        cases hop
        unfold ifaceC at hq
        repeat' (split at hq <;> try (cases hq; done))
        all_goals (cases hq; simp [isNew] at hnew)
      · cases hop
  case unOp op t x =>
    cases op <;> simp only at hop <;> try (cases hop; done)
    all_goals (cases hop; simp [isNew] at hnew)
  case makeMap t rv =>
    cases rv with
    | some x => cases hop
    | none => cases hop; simp [isNew] at hnew
  all_goals exfalso
  all_goals
    (repeat' (split at hop <;> try (cases hop; done)))
  all_goals (cases hop; simp [isNew] at hnew)
end
end Go.Vx
