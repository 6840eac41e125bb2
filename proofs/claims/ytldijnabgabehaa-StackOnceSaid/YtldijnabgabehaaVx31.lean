/- A call sees what is reached of its arguments, and nothing else: run over that part of the memory, it is run over all of it. -/
import Derived.Test.YtldijnabgabehaaVx16
namespace Go.Vx
open Go.RowKit (Below)

/-! Blocks' numbers, renamed. -/
mutual
def AV.ren (f : Nat → Nat) : AV → AV
  | .ptr (some (b, o)) => .ptr (some (f b, o))
  | .slice (some (b, o)) n c g => .slice (some (f b, o)) n c g
  | .map (some r) => .map (some (f r))
  | .func fn a c => .func fn (AV.rens f a) (AV.rens f c)
  | .iface t v => .iface t (AV.ren f v)
  | .agg cs => .agg (AV.rens f cs)
  | .tuple cs => .tuple (AV.rens f cs)
  | .tail b o a => .tail (f b) o a
  | .ptr none => .ptr none
  | .slice none n c g => .slice none n c g
  | .map none => .map none
  | .bool b => .bool b
  | .int k n => .int k n
  | .str s => .str s
  | .nilFunc => .nilFunc
  | .nilIface => .nilIface
  | .rptr a => .rptr a
  | .rslice a n c => .rslice a n c
  | .oint k x lo hi => .oint k x lo hi
  | .oslice i lo hi => .oslice i lo hi
  | .ostr i lo hi => .ostr i lo hi
  | .oval i => .oval i
def AV.rens (f : Nat → Nat) : List AV → List AV
  | [] => []
  | v :: vs => AV.ren f v :: AV.rens f vs
end
mutual
def AV.refs : AV → List Nat
  | .ptr (some (b, _)) => [b]
  | .slice (some (b, _)) _ _ _ => [b]
  | .map (some r) => [r]
  | .func _ a c => AV.refsL a ++ AV.refsL c
  | .iface _ v => AV.refs v
  | .agg cs => AV.refsL cs
  | .tuple cs => AV.refsL cs
  | .tail b _ _ => [b]
  | .ptr none | .slice none _ _ _ | .map none | .bool _ | .int _ _ | .str _ | .nilFunc | .nilIface | .rptr _ | .rslice _ _ _ | .oint _ _ _ _ | .oslice _ _ _ | .ostr _ _ _ | .oval _ => []
def AV.refsL : List AV → List Nat
  | [] => []
  | v :: vs => AV.refs v ++ AV.refsL vs
end
mutual
theorem conc_ren [Val] (e : Env) (f : Nat → Nat) : ∀ v : AV, conc e (v.ren f) = conc (fun b => e (f b)) v
  | .ptr (some (b, o)) | .slice (some (b, o)) _ _ _ | .map (some b) | .tail b _ _ => by simp only [AV.ren, conc]
  | .func fn a c => by simp only [AV.ren, conc, concs_ren e f a, concs_ren e f c]
  | .iface t v => by simp only [AV.ren, conc, conc_ren e f v]
  | .agg cs => by simp only [AV.ren, conc, concs_ren e f cs]
  | .tuple cs => by simp only [AV.ren, conc, concs_ren e f cs]
  | .ptr none | .slice none _ _ _ | .map none | .bool _ | .int _ _ | .str _ | .nilFunc | .nilIface | .rptr _ | .rslice _ _ _ | .oint _ _ _ _ | .oslice _ _ _ | .ostr _ _ _ | .oval _ => by simp only [AV.ren, conc]
theorem concs_ren [Val] (e : Env) (f : Nat → Nat) : ∀ vs : List AV, concs e (AV.rens f vs) = concs (fun b => e (f b)) vs
  | [] => by simp only [AV.rens, concs]
  | v :: vs => by simp only [AV.rens, concs, conc_ren e f v, concs_ren e f vs]
end
mutual
theorem ren_ren (f g : Nat → Nat) : ∀ v : AV, (v.ren f).ren g = v.ren fun b => g (f b)
  | .ptr (some (b, o)) | .slice (some (b, o)) _ _ _ | .map (some b) | .tail b _ _ => by simp only [AV.ren]
  | .func fn a c => by simp only [AV.ren, rens_rens f g a, rens_rens f g c]
  | .iface t v => by simp only [AV.ren, ren_ren f g v]
  | .agg cs => by simp only [AV.ren, rens_rens f g cs]
  | .tuple cs => by simp only [AV.ren, rens_rens f g cs]
  | .ptr none | .slice none _ _ _ | .map none | .bool _ | .int _ _ | .str _ | .nilFunc | .nilIface | .rptr _ | .rslice _ _ _ | .oint _ _ _ _ | .oslice _ _ _ | .ostr _ _ _ | .oval _ => by simp only [AV.ren]
theorem rens_rens (f g : Nat → Nat) : ∀ vs : List AV, AV.rens g (AV.rens f vs) = AV.rens (fun b => g (f b)) vs
  | [] => by simp only [AV.rens]
  | v :: vs => by simp only [AV.rens, ren_ren f g v, rens_rens f g vs]
end
mutual
theorem ren_eq (f g : Nat → Nat) : ∀ v : AV, (∀ b ∈ v.refs, f b = g b) → v.ren f = v.ren g
  | .ptr (some (b, o)), h | .slice (some (b, o)) _ _ _, h | .map (some b), h | .tail b _ _, h => by
    simp only [AV.refs, List.mem_singleton, forall_eq] at h
    simp only [AV.ren, h]
  | .func fn a c, h => by
    simp only [AV.refs, List.mem_append] at h
    simp only [AV.ren, rens_eq f g a fun b hb => h b (.inl hb), rens_eq f g c fun b hb => h b (.inr hb)]
  | .iface t v, h => by
    simp only [AV.refs] at h
    simp only [AV.ren, ren_eq f g v h]
  | .agg cs, h => by
    simp only [AV.refs] at h
    simp only [AV.ren, rens_eq f g cs h]
  | .tuple cs, h => by
    simp only [AV.refs] at h
    simp only [AV.ren, rens_eq f g cs h]
  | .ptr none, _ | .slice none _ _ _, _ | .map none, _ | .bool _, _ | .int _ _, _ | .str _, _ | .nilFunc, _ | .nilIface, _ | .rptr _, _ | .rslice _ _ _, _ | .oint _ _ _ _, _ | .oslice _ _ _, _ | .ostr _ _ _, _ | .oval _, _ => by simp only [AV.ren]
theorem rens_eq (f g : Nat → Nat) : ∀ vs : List AV, (∀ b ∈ AV.refsL vs, f b = g b) → AV.rens f vs = AV.rens g vs
  | [], _ => by simp only [AV.rens]
  | v :: vs, h => by
    simp only [AV.refsL, List.mem_append] at h
    simp only [AV.rens, ren_eq f g v fun b hb => h b (.inl hb), rens_eq f g vs fun b hb => h b (.inr hb)]
end
mutual
theorem ren_id : ∀ v : AV, v.ren (fun b => b) = v
  | .ptr (some (b, o)) | .slice (some (b, o)) _ _ _ | .map (some b) | .tail b _ _ => by simp only [AV.ren]
  | .func fn a c => by simp only [AV.ren, rens_id a, rens_id c]
  | .iface t v => by simp only [AV.ren, ren_id v]
  | .agg cs => by simp only [AV.ren, rens_id cs]
  | .tuple cs => by simp only [AV.ren, rens_id cs]
  | .ptr none | .slice none _ _ _ | .map none | .bool _ | .int _ _ | .str _ | .nilFunc | .nilIface | .rptr _ | .rslice _ _ _ | .oint _ _ _ _ | .oslice _ _ _ | .ostr _ _ _ | .oval _ => by simp only [AV.ren]
theorem rens_id : ∀ vs : List AV, AV.rens (fun b => b) vs = vs
  | [] => by simp only [AV.rens]
  | v :: vs => by simp only [AV.rens, ren_id v, rens_id vs]
end
mutual
theorem refs_ren (f : Nat → Nat) : ∀ v : AV, (v.ren f).refs = v.refs.map f
  | .ptr (some (b, o)) | .slice (some (b, o)) _ _ _ | .map (some b) | .tail b _ _ => by simp only [AV.ren, AV.refs, List.map_cons, List.map_nil]
  | .func fn a c => by simp only [AV.ren, AV.refs, refsL_rens f a, refsL_rens f c, List.map_append]
  | .iface t v => by simp only [AV.ren, AV.refs, refs_ren f v]
  | .agg cs => by simp only [AV.ren, AV.refs, refsL_rens f cs]
  | .tuple cs => by simp only [AV.ren, AV.refs, refsL_rens f cs]
  | .ptr none | .slice none _ _ _ | .map none | .bool _ | .int _ _ | .str _ | .nilFunc | .nilIface | .rptr _ | .rslice _ _ _ | .oint _ _ _ _ | .oslice _ _ _ | .ostr _ _ _ | .oval _ => by simp only [AV.ren, AV.refs, List.map_nil]
theorem refsL_rens (f : Nat → Nat) : ∀ vs : List AV, AV.refsL (AV.rens f vs) = (AV.refsL vs).map f
  | [] => by simp only [AV.rens, AV.refsL, List.map_nil]
  | v :: vs => by simp only [AV.rens, AV.refsL, refs_ren f v, refsL_rens f vs, List.map_append]
end
theorem rens_map (f : Nat → Nat) : ∀ vs : List AV, AV.rens f vs = vs.map (AV.ren f)
  | [] => by simp only [AV.rens, List.map_nil]
  | v :: vs => by simp only [AV.rens, List.map_cons, rens_map f vs]

def ABlk.ren (f : Nat → Nat) : ABlk → ABlk
  | .dead => .dead
  | .held => .held
  | .cells cs sz wr g => .cells (AV.rens f cs) sz wr (g.map f)
  | .map es => .map (es.map fun x => (x.1.ren f, x.2.ren f))
def ABlk.refs : ABlk → List Nat
  | .cells cs _ _ _ => AV.refsL cs
  | .map es => AV.refsL (es.map (·.1)) ++ AV.refsL (es.map (·.2))
  | .dead | .held => []
theorem BR.ren [Val] {e : Env} {f : Nat → Nat} {w : World} {x : EB} {k : ABlk} : BR e w x (k.ren f) ↔ BR (fun b => e (f b)) w x k := by
  cases k with
  | dead => exact Iff.rfl
  | held => exact Iff.rfl
  | cells cs sz wr g =>
    have hl : (AV.rens f cs).length = cs.length := by rw [rens_map, List.length_map]
    simp only [ABlk.ren, BR, concs_ren, hl]
  | map es =>
    have h1 : ((es.map fun x => (x.1.ren f, x.2.ren f)).map (·.1)) = AV.rens f (es.map (·.1)) := by rw [rens_map, List.map_map, List.map_map]; rfl
    have h2 : ((es.map fun x => (x.1.ren f, x.2.ren f)).map (·.2)) = AV.rens f (es.map (·.2)) := by rw [rens_map, List.map_map, List.map_map]; rfl
    simp only [ABlk.ren, BR, h1, h2, concs_ren]
theorem blk_ren_ren (f g : Nat → Nat) (k : ABlk) (hk : ∀ cs sz wr gr, k = .cells cs sz wr gr → gr = none) : (k.ren f).ren g = k.ren fun b => g (f b) := by
  cases k with
  | dead => rfl
  | held => rfl
  | cells cs sz wr gr =>
    obtain rfl := hk cs sz wr gr rfl
    simp only [ABlk.ren, rens_rens, Option.map_none]
  | map es => simp only [ABlk.ren, List.map_map, Function.comp_def, ren_ren]
theorem blk_ren_eq (f g : Nat → Nat) (k : ABlk) (hk : ∀ cs sz wr gr, k = .cells cs sz wr gr → gr = none) (h : ∀ b ∈ k.refs, f b = g b) : k.ren f = k.ren g := by
  cases k with
  | dead => rfl
  | held => rfl
  | cells cs sz wr gr =>
    obtain rfl := hk cs sz wr gr rfl
    simp only [ABlk.ren, rens_eq f g cs h, Option.map_none]
  | map es =>
    simp only [ABlk.refs, List.mem_append] at h
    simp only [ABlk.ren, ABlk.map.injEq]
    refine List.map_congr_left fun x hx => ?_
    have h1 : ∀ (l : List AV) (v : AV), v ∈ l → ∀ b ∈ v.refs, b ∈ AV.refsL l := by
      intro l
      induction l with
      | nil => intro v hv; simp at hv
      | cons u l ih =>
        intro v hv b hb
        rw [AV.refsL, List.mem_append]
        rcases List.mem_cons.1 hv with rfl | hv
        · exact .inl hb
        · exact .inr (ih v hv b hb)
    rw [ren_eq f g x.1 fun b hb => h b (.inl (h1 _ _ (List.mem_map_of_mem hx) b hb)), ren_eq f g x.2 fun b hb => h b (.inr (h1 _ _ (List.mem_map_of_mem hx) b hb))]
theorem blk_ren_id (k : ABlk) : k.ren (fun b => b) = k := by
  cases k with
  | dead => rfl
  | held => rfl
  | cells cs sz wr g => simp only [ABlk.ren, rens_id]; cases g <;> rfl
  | map es => simp only [ABlk.ren, ren_id]; simp
theorem ABlk.wr_ren (f : Nat → Nat) (k : ABlk) : (k.ren f).wr = k.wr := by cases k <;> rfl
theorem ABlk.share_ren (f : Nat → Nat) {k k' : ABlk} (h : k.share k' = true) : (k.ren f).share (k'.ren f) = true := by
  cases k <;> cases k' <;> simp only [ABlk.share, ABlk.ren] at h ⊢ <;> try exact h
  rename_i cs sz w g cs' sz' w' g'
  rw [Bool.or_eq_true] at h ⊢
  refine h.imp id fun h => ?_
  rw [Bool.and_eq_true] at h ⊢
  refine ⟨by simpa using h.1, ?_⟩
  have : g = g' := by simpa using h.2
  subst this; simp

/-! What is reached. -/
def refsAt (get : Nat → Option ABlk) (b : Nat) : List Nat := match get b with
  | some k => k.refs
  | none => []
def reach (get : Nat → Option ABlk) : Nat → List Nat → List Nat → List Nat
  | 0, _, seen => seen
  | _ + 1, [], seen => seen
  | n + 1, b :: todo, seen => if seen.contains b then reach get n todo seen else reach get n (refsAt get b ++ todo) (seen ++ [b])
theorem reach_nodup {get : Nat → Option ABlk} : ∀ (n : Nat) (todo seen : List Nat), seen.Nodup → (reach get n todo seen).Nodup
  | 0, _, _, h => by simpa only [reach] using h
  | _ + 1, [], _, h => by simpa only [reach] using h
  | n + 1, b :: todo, seen, h => by
    rw [reach]
    split
    · exact reach_nodup n todo seen h
    · rename_i hb
      refine reach_nodup n _ _ (List.nodup_append.2 ⟨h, by simp, fun x hx y hy e => ?_⟩)
      rw [List.mem_singleton.1 hy] at e; subst e
      exact hb (by simpa using hx)
theorem reach_mono {get : Nat → Option ABlk} : ∀ (n : Nat) (todo seen : List Nat), ∀ b ∈ seen, b ∈ reach get n todo seen
  | 0, _, _, b, h => by simpa only [reach] using h
  | _ + 1, [], _, b, h => by simpa only [reach] using h
  | n + 1, c :: todo, seen, b, h => by
    rw [reach]
    split
    · exact reach_mono n todo seen b h
    · exact reach_mono n _ _ b (List.mem_append_left _ h)
theorem reach_same {get get2 : Nat → Option ABlk} : ∀ (n : Nat) (todo seen : List Nat), (∀ b ∈ reach get n todo seen, get2 b = get b) → reach get2 n todo seen = reach get n todo seen
  | 0, _, _, _ => by simp only [reach]
  | _ + 1, [], _, _ => by simp only [reach]
  | n + 1, c :: todo, seen, h => by
    rw [reach] at h ⊢
    rw [reach]
    split
    · rename_i hc
      rw [if_pos hc] at h
      exact reach_same n todo seen h
    · rename_i hc
      rw [if_neg hc] at h
      have : refsAt get2 c = refsAt get c := by
        unfold refsAt
        rw [h c (reach_mono _ _ _ _ (List.mem_append_right _ (List.mem_singleton.2 rfl)))]
      rw [this]
      exact reach_same n _ _ h
theorem ABlk.refs_ren (f : Nat → Nat) (k : ABlk) : (k.ren f).refs = k.refs.map f := by
  cases k with
  | dead => rfl
  | held => rfl
  | cells cs sz wr g => exact refsL_rens f cs
  | map es =>
    have h1 : ((es.map fun x => (x.1.ren f, x.2.ren f)).map (·.1)) = AV.rens f (es.map (·.1)) := by rw [rens_map, List.map_map, List.map_map]; rfl
    have h2 : ((es.map fun x => (x.1.ren f, x.2.ren f)).map (·.2)) = AV.rens f (es.map (·.2)) := by rw [rens_map, List.map_map, List.map_map]; rfl
    simp only [ABlk.ren, ABlk.refs, h1, h2, refsL_rens, List.map_append]
theorem contains_map {f : Nat → Nat} (hf : ∀ a b, f a = f b → a = b) (l : List Nat) (b : Nat) : (l.map f).contains (f b) = l.contains b := by
  rw [Bool.eq_iff_iff]
  simp only [List.contains_iff_mem, List.mem_map]
  exact ⟨fun ⟨a, h1, h2⟩ => hf _ _ h2 ▸ h1, fun h => ⟨b, h, rfl⟩⟩
theorem idxOf_map {f : Nat → Nat} (hf : ∀ a b, f a = f b → a = b) : ∀ (l : List Nat) (b : Nat), (l.map f).idxOf (f b) = l.idxOf b
  | [], _ => rfl
  | a :: l, b => by
    rw [List.map_cons, List.idxOf_cons, List.idxOf_cons, idxOf_map hf l b]
    have : (f a == f b) = (a == b) := by
      rw [Bool.eq_iff_iff]; simp only [beq_iff_eq]
      exact ⟨hf _ _, fun h => h ▸ rfl⟩
    rw [this]
theorem reach_map {get get2 : Nat → Option ABlk} {f : Nat → Nat} (hf : ∀ a b, f a = f b → a = b) (hg : ∀ i, get2 (f i) = (get i).map (ABlk.ren f)) : ∀ (n : Nat) (todo seen : List Nat), reach get2 n (todo.map f) (seen.map f) = (reach get n todo seen).map f
  | 0, _, _ => by simp only [reach]
  | _ + 1, [], _ => by simp only [reach, List.map_nil]
  | n + 1, c :: todo, seen => by
    rw [List.map_cons, reach, reach, contains_map hf]
    split
    · exact reach_map hf hg n todo seen
    · have : refsAt get2 (f c) = (refsAt get c).map f := by
        unfold refsAt
        rw [hg]
        cases get c with
        | none => rfl
        | some k => exact ABlk.refs_ren f k
      rw [this, ← List.map_append, ← List.map_singleton (f := f), ← List.map_append]
      exact reach_map hf hg n _ _
/-- may it be seen so: it is ours, and stands at no other's place; it leads to nothing else -/
def okB (ρ : List Nat) : ABlk → Bool
  | .cells cs _ true none => (AV.refsL cs).all ρ.contains
  | .map es => (AV.refsL (es.map (·.1)) ++ AV.refsL (es.map (·.2))).all ρ.contains
  | _ => false
theorem okB_refs {ρ : List Nat} {k : ABlk} (h : okB ρ k = true) : ∀ b ∈ k.refs, b ∈ ρ := by
  intro b hb
  unfold okB at h
  split at h
  · simpa using List.all_eq_true.1 h b hb
  · simpa using List.all_eq_true.1 h b hb
  · cases h
theorem okB_wr {ρ : List Nat} {k : ABlk} (h : okB ρ k = true) : k.wr = true := by
  unfold okB at h
  split at h
  · rfl
  · rfl
  · cases h
theorem okB_grp {ρ : List Nat} {k : ABlk} (h : okB ρ k = true) : ∀ cs sz wr gr, k = .cells cs sz wr gr → gr = none := by
  intro cs sz wr gr e
  subst e
  unfold okB at h
  split at h
  · rename_i e; cases e; rfl
  · rename_i e; cases e
  · cases h
/-- nobody stands where it stands -/
theorem okB_share {ρ : List Nat} {k k' : ABlk} (h : okB ρ k = true) (hs : k.share k' = true) : k' = .dead := by
  unfold okB at h
  split at h
  · cases k' <;> simp [ABlk.share] at hs ⊢
  · cases k' <;> simp [ABlk.share] at hs ⊢
  · cases h
def extr (get : Nat → Option ABlk) (ρ : List Nat) : Option (List ABlk) := mapO (fun b => match get b with
  | some k => if okB ρ k then some (k.ren fun b => ρ.idxOf b) else none
  | none => none) ρ
/-- what a call sees: the blocks' numbers, the blocks, the arguments, all by numbers of their own -/
def view (fuel : Nat) (M : AMem) (args : List AV) : Option (List Nat × List ABlk × List AV) :=
  let ρ := reach M.get fuel (AV.refsL args) []
  match extr M.get ρ with
  | some l => if (AV.refsL args).all ρ.contains then some (ρ, l, AV.rens (fun b => ρ.idxOf b) args) else none
  | none => none
def memOf (l : List ABlk) (g : Addr → Option AV) : AMem := ⟨Tr.ofList l, l.length, g⟩
/-- by which numbers they are known outside -/
def extN (ρ : List Nat) (n : Nat) (i : Nat) : Nat := if i < ρ.length then ρ.getD i 0 else n + (i - ρ.length)
def blkAt (M : AMem) (ρ : List Nat) (m : AMem) (b : Nat) : ABlk :=
  if b < M.n then (if ρ.contains b then ((m.get (ρ.idxOf b)).getD .dead).ren (extN ρ M.n) else (M.get b).getD .dead)
  else ((m.get (b - M.n + ρ.length)).getD .dead).ren (extN ρ M.n)
def glue (M : AMem) (ρ : List Nat) (m : AMem) : AMem :=
  let N := M.n + (m.n - ρ.length)
  ⟨Tr.ofList ((List.range N).map (blkAt M ρ m)), N, M.g⟩
def okM (m : AMem) : Bool := (List.range m.n).all fun i => match m.get i with
  | some .dead => true
  | some (.cells _ _ true none) => true
  | some (.map _) => true
  | _ => false
/-- of what it left: what is still reached -/
def grpAt (get : Nat → Option ABlk) (j : Nat) : Option Nat := match get j with
  | some (.cells _ _ _ g) => g
  | _ => none
def cleanBlk (keep : List Nat) (get : Nat → Option ABlk) (i : Nat) : ABlk := if keep.contains i then match get i with
    | some (.cells cs sz true (some g)) => if keep.all fun j => j == i || !(grpAt get j == some g) then .cells cs sz true none else .dead
    | some k => k
    | none => .dead
  else .dead
def clean (fuel : Nat) (m : AMem) (roots : List AV) : AMem :=
  let keep := reach m.get fuel (AV.refsL roots) []
  ⟨Tr.ofList ((List.range m.n).map (cleanBlk keep m.get)), m.n, m.g⟩
def frameX (fuel : Nat) (fs : FuncId → Bool) (inner : FuncId → List AV → AMem → Option (AV × AMem)) : FuncId → List AV → AMem → Option (AV × AMem) := fun f args M =>
  if fs f then match view fuel M args with
    | some (ρ, l, a) => match inner f a (memOf l M.g) with
      | some (r, m) => if okM (clean fuel m (a ++ [r])) then some (r.ren (extN ρ M.n), glue M ρ (clean fuel m (a ++ [r]))) else none
      | none => none
    | none => none
  else none

structure Viewed (M : AMem) (args : List AV) (ρ : List Nat) (l : List ABlk) (a : List AV) : Prop where
  nodup : ρ.Nodup
  len : l.length = ρ.length
  at_ : ∀ (i b : Nat), ρ[i]? = some b → ∃ k, M.get b = some k ∧ okB ρ k = true ∧ l[i]? = some (k.ren fun b => ρ.idxOf b)
  refs : ∀ b ∈ AV.refsL args, b ∈ ρ
  args : a = AV.rens (fun b => ρ.idxOf b) args
theorem viewed_of {fuel : Nat} {M : AMem} {args : List AV} {ρ : List Nat} {l : List ABlk} {a : List AV} (h : view fuel M args = some (ρ, l, a)) : Viewed M args ρ l a := by
  unfold view at h
  simp only at h
  split at h
  · rename_i l' hl
    split at h
    · rename_i hr
      simp only [Option.some.injEq, Prod.mk.injEq] at h
      obtain ⟨rfl, rfl, rfl⟩ := h
      obtain ⟨h1, h2⟩ := mapO_get hl
      refine ⟨reach_nodup _ _ _ (by simp), h1, fun i b hi => ?_, fun b hb => by simpa using List.all_eq_true.1 hr b hb, rfl⟩
      obtain ⟨y, e1, e2⟩ := h2 i b hi
      split at e2
      · rename_i k hk
        split at e2
        · rename_i ho
          cases e2
          exact ⟨k, hk, ho, e1⟩
        · cases e2
      · cases e2
    · cases h
  · cases h
theorem extN_at {ρ : List Nat} {n b : Nat} (h : b ∈ ρ) : extN ρ n (ρ.idxOf b) = b := by
  have hlt := List.idxOf_lt_length_iff.2 h
  unfold extN
  rw [if_pos hlt, List.getD_eq_getElem?_getD, List.getElem?_eq_getElem hlt]
  simp
theorem extN_lt {ρ : List Nat} {n i : Nat} (hi : i < ρ.length) : ρ[i]? = some (extN ρ n i) := by
  unfold extN
  rw [if_pos hi, List.getD_eq_getElem?_getD, List.getElem?_eq_getElem hi]; rfl
theorem extN_ge {ρ : List Nat} {n i : Nat} (hi : ρ.length ≤ i) : extN ρ n i = n + (i - ρ.length) := by
  unfold extN
  rw [if_neg (by omega)]
theorem memOf_get {l : List ABlk} {g : Addr → Option AV} (i : Nat) : (memOf l g).get i = l[i]? := Tr.ofList_get l i
theorem glue_n {M : AMem} {ρ : List Nat} {m : AMem} : (glue M ρ m).n = M.n + (m.n - ρ.length) := rfl
theorem glue_get {M : AMem} {ρ : List Nat} {m : AMem} (b : Nat) : (glue M ρ m).get b = if b < M.n + (m.n - ρ.length) then some (blkAt M ρ m b) else none := by
  show (Tr.ofList _).get b = _
  rw [Tr.ofList_get]
  by_cases h : b < M.n + (m.n - ρ.length)
  · rw [if_pos h, List.getElem?_map, List.getElem?_range h]; rfl
  · rw [if_neg h]
    exact List.getElem?_eq_none (by rw [List.length_map, List.length_range]; omega)

/-! It is sound. -/
theorem okM_at {m : AMem} (h : okM m = true) {i : Nat} {k : ABlk} (hi : i < m.n) (hk : m.get i = some k) : k = .dead ∨ k.wr = true := by
  have := List.all_eq_true.1 h i (List.mem_range.2 hi)
  rw [hk] at this
  cases k with
  | dead => exact .inl rfl
  | held => cases this
  | cells cs sz wr g => cases wr with
    | true => exact .inr rfl
    | false => cases g <;> cases this
  | map es => exact .inr rfl
theorem okM_grp {m : AMem} (h : okM m = true) {i : Nat} {k : ABlk} (hi : i < m.n) (hk : m.get i = some k) : ∀ cs sz wr gr, k = .cells cs sz wr gr → gr = none := by
  have := List.all_eq_true.1 h i (List.mem_range.2 hi)
  rw [hk] at this
  intro cs sz wr gr e
  subst e
  cases wr <;> cases gr <;> first | rfl | cases this
theorem okM_held {m : AMem} (h : okM m = true) {i : Nat} {k : ABlk} (hi : i < m.n) (hk : m.get i = some k) : k ≠ .held := by
  have := List.all_eq_true.1 h i (List.mem_range.2 hi)
  rw [hk] at this
  rintro rfl
  cases this
theorem clean_get {fuel : Nat} {m : AMem} {roots : List AV} (i : Nat) : (clean fuel m roots).get i = if i < m.n then some (cleanBlk (reach m.get fuel (AV.refsL roots) []) m.get i) else none := by
  show (Tr.ofList _).get i = _
  rw [Tr.ofList_get]
  by_cases h : i < m.n
  · rw [if_pos h, List.getElem?_map, List.getElem?_range h]; rfl
  · rw [if_neg h]
    exact List.getElem?_eq_none (by rw [List.length_map, List.length_range]; omega)
theorem clean_full {fuel : Nat} {m : AMem} {roots : List AV} : (clean fuel m roots).t.Full m.n := by
  have := Tr.ofList_full ((List.range m.n).map (cleanBlk (reach m.get fuel (AV.refsL roots) []) m.get))
  rw [List.length_map, List.length_range] at this
  exact this
/-- a block that is left: as it was, but that nobody shares its place -/
theorem cleanBlk_cases (keep : List Nat) (get : Nat → Option ABlk) (i : Nat) : cleanBlk keep get i = .dead ∨ (i ∈ keep ∧ get i = some (cleanBlk keep get i)) ∨
    ∃ cs sz g, i ∈ keep ∧ get i = some (.cells cs sz true (some g)) ∧ cleanBlk keep get i = .cells cs sz true none ∧ ∀ j ∈ keep, j ≠ i → grpAt get j ≠ some g := by
  unfold cleanBlk
  split
  · rename_i hc
    have hc' : i ∈ keep := by simpa using hc
    split
    · rename_i cs sz g hg
      split
      · rename_i ha
        refine .inr (.inr ⟨cs, sz, g, hc', hg, rfl, fun j hj hne => ?_⟩)
        have := List.all_eq_true.1 ha j hj
        simp only [Bool.or_eq_true, beq_iff_eq, Bool.not_eq_true', beq_eq_false_iff_ne] at this
        rcases this with h | h
        · exact absurd h hne
        · exact h
      · exact .inl rfl
    · rename_i k _ hk
      exact .inr (.inl ⟨hc', hk⟩)
    · exact .inl rfl
  · exact .inl rfl
theorem share_dead {k : ABlk} : k.share .dead = true := by cases k <;> rfl
theorem share_dead' {k : ABlk} : ABlk.share .dead k = true := by cases k <;> rfl
theorem ren_dead {f : Nat → Nat} : ABlk.ren f .dead = .dead := rfl
theorem clean_ok [Val] {B : Nat → Prop} {w0 w : World} {e : Env} {m : AMem} (h : MR B w0 e m w) (fuel : Nat) (roots : List AV) : MR B w0 e (clean fuel m roots) w := by
  have key : ∀ (b : Nat) (k : ABlk), (clean fuel m roots).get b = some k → k = .dead ∨ (b ∈ reach m.get fuel (AV.refsL roots) [] ∧ m.get b = some k) ∨
      ∃ cs sz g, b ∈ reach m.get fuel (AV.refsL roots) [] ∧ m.get b = some (.cells cs sz true (some g)) ∧ k = .cells cs sz true none ∧ ∀ j ∈ reach m.get fuel (AV.refsL roots) [], j ≠ b → grpAt m.get j ≠ some g := by
    intro b k hk
    rw [clean_get] at hk
    split at hk
    rotate_left
    · cases hk
    cases hk
    rcases cleanBlk_cases (reach m.get fuel (AV.refsL roots) []) m.get b with h1 | h1 | ⟨cs, sz, g, h1, h2, h3, h4⟩
    · exact .inl h1
    · exact .inr (.inl h1)
    · exact .inr (.inr ⟨cs, sz, g, h1, h2, h3, h4⟩)
  refine ⟨h.fresh, clean_full, h.below, h.base, ?_, ?_, ?_, h.room, h.ro⟩
  · intro b k x hk hx
    rcases key b k hk with rfl | ⟨_, h1⟩ | ⟨cs, sz, g, _, h2, rfl, _⟩
    · trivial
    · exact h.blocks b k x h1 hx
    · exact h.blocks b (.cells cs sz true (some g)) x h2 hx
  · intro b k x hk hx hw
    rcases key b k hk with rfl | ⟨_, h1⟩ | ⟨cs, sz, g, _, h2, rfl, _⟩
    · cases hw
    · exact h.own b k x h1 hx hw
    · exact h.own b _ x h2 hx rfl
  · intro b b' k k' x x' hne hk hk' hx hx' he
    by_cases hd : k = .dead
    · subst hd; exact share_dead'
    by_cases hd' : k' = .dead
    · subst hd'; exact share_dead
    rcases key b k hk with rfl | ⟨m1, h1⟩ | ⟨cs, sz, g, m1, h2, rfl, h4⟩
    · exact share_dead'
    · rcases key b' k' hk' with rfl | ⟨m1', h1'⟩ | ⟨cs', sz', g', m1', h2', rfl, h4'⟩
      · exact share_dead
      · exact h.sep b b' k k' x x' hne h1 h1' hx hx' he
      · exfalso
        have hs := h.sep b b' k _ x x' hne h1 h2' hx hx' he
        cases k with
        | dead => exact hd rfl
        | held => simp [ABlk.share] at hs
        | map es => simp [ABlk.share] at hs
        | cells c1 s1 w1 g1 =>
          have hg := h4' b m1 hne
          simp only [grpAt, h1] at hg
          simp only [ABlk.share, Bool.not_true, Bool.and_false, Bool.false_or, Bool.and_eq_true, beq_iff_eq] at hs
          exact hg hs.2
    · rcases key b' k' hk' with rfl | ⟨m1', h1'⟩ | ⟨cs', sz', g', m1', h2', rfl, h4'⟩
      · exact share_dead
      · exfalso
        have hs := h.sep b b' _ k' x x' hne h2 h1' hx hx' he
        cases k' with
        | dead => exact hd' rfl
        | held => simp [ABlk.share] at hs
        | map es => simp [ABlk.share] at hs
        | cells c1 s1 w1 g1 =>
          have hg := h4 b' m1' (fun e => hne e.symm)
          simp only [grpAt, h1'] at hg
          simp only [ABlk.share, Bool.not_true, Bool.false_and, Bool.false_or, Bool.and_eq_true, beq_iff_eq] at hs
          exact hg hs.2.symm
      · exfalso
        have hs := h.sep b b' _ _ x x' hne h2 h2' hx hx' he
        have hg := h4 b' m1' (fun e => hne e.symm)
        simp only [grpAt, h2'] at hg
        simp only [ABlk.share, Bool.not_true, Bool.false_and, Bool.false_or, Bool.and_eq_true, beq_iff_eq] at hs
        exact hg hs.2.symm
set_option maxHeartbeats 1000000 in
theorem frame_ok [Val] {P : Program} {fuel : Nat} {fs : FuncId → Bool} {inner : FuncId → List AV → AMem → Option (AV × AMem)} (h : CallSound P inner) : TblOk P (frameX fuel fs inner) := by
  intro f args M r M' hr B w0 e w cargs hcs hm
  unfold frameX at hr
  split at hr
  rotate_left
  · cases hr
  split at hr
  rotate_left
  · cases hr
  rename_i ρ l a hv
  split at hr
  rotate_left
  · cases hr
  rename_i r1 m0 hin
  obtain ⟨m, hmc⟩ : ∃ m, m = clean fuel m0 (a ++ [r1]) := ⟨_, rfl⟩
  rw [← hmc] at hr
  split at hr
  rotate_left
  · cases hr
  rename_i hok
  cases hr
  have V := viewed_of hv
  obtain ⟨es, hes⟩ : ∃ es : Env, es = fun i => e (extN ρ M.n i) := ⟨_, rfl⟩
  obtain ⟨B', hB'⟩ : ∃ B' : Nat → Prop, B' = fun k => k < w.heap.size ∧ ∀ b ∈ ρ, ∀ x, e b = some x → x.blk ≠ k := ⟨_, rfl⟩
  have hlt : ∀ b ∈ ρ, b < M.n := by
    intro b hb
    obtain ⟨i, hi, rfl⟩ := List.getElem_of_mem hb
    obtain ⟨k, hk, _⟩ := V.at_ i _ (List.getElem?_eq_getElem hi)
    exact (hm.full _).1 (by show (M.get _).isSome = true; rw [hk]; rfl)
  have hn : (memOf l M.g).n = ρ.length := V.len
  -- blocks of the small memory
  have hsm : ∀ (i : Nat) (k : ABlk), (memOf l M.g).get i = some k → ∃ k0, i < ρ.length ∧ M.get (extN ρ M.n i) = some k0 ∧ okB ρ k0 = true ∧ k = k0.ren (fun b => ρ.idxOf b) ∧ k.ren (extN ρ M.n) = k0 := by
    intro i k hk
    rw [memOf_get] at hk
    have hi : i < ρ.length := by have := (List.getElem?_eq_some_iff.1 hk).1; rw [V.len] at this; exact this
    obtain ⟨k0, g1, g2, g3⟩ := V.at_ i _ (extN_lt hi)
    rw [hk] at g3
    cases g3
    refine ⟨k0, hi, g1, g2, rfl, ?_⟩
    rw [blk_ren_ren _ _ _ (okB_grp g2), blk_ren_eq _ (fun b => b) _ (okB_grp g2) (fun b hb => extN_at (okB_refs g2 b hb)), blk_ren_id]
  have hargs : concs es a = some cargs := by
    have : AV.rens (extN ρ M.n) a = args := by
      rw [V.args, rens_rens, rens_eq _ (fun b => b) _ (fun b hb => extN_at (V.refs b hb)), rens_id]
    rw [hes, ← concs_ren, this]; exact hcs
  have hBB : ∀ k, B k → B' k := by
    intro k hk
    rw [hB']
    refine ⟨hm.base k hk, fun b hb x hx he => ?_⟩
    obtain ⟨i, hi, rfl⟩ := List.getElem_of_mem hb
    obtain ⟨k0, g1, g2, _⟩ := V.at_ i _ (List.getElem?_eq_getElem hi)
    subst he
    exact hm.own _ k0 x g1 hx (okB_wr g2) hk
  have hms : MR B' w es (memOf l M.g) w := by
    refine ⟨fun b hb => ?_, ?_, BelowP.refl _ _, fun k hk => by rw [hB'] at hk; exact hk.1, fun i k x hk hx => ?_, fun i k x hk hx _ => ?_, fun i j k k' x x' hne hk hk' hx hx' he => ?_, fun i x hx => ?_, hm.ro.1, fun a v ha => ?_⟩
    · rw [hn] at hb
      rw [hes]
      simp only
      rw [extN_ge hb]
      exact hm.fresh _ (by omega)
    · show (Tr.ofList l).Full l.length
      exact Tr.ofList_full l
    · obtain ⟨k0, hi, g1, g2, g3, g4⟩ := hsm i k hk
      rw [hes] at hx ⊢
      have := hm.blocks _ k0 x g1 hx
      rw [← g4] at this
      exact BR.ren.1 this
    · obtain ⟨k0, hi, g1, g2, g3, g4⟩ := hsm i k hk
      rw [hB']
      intro hb
      rw [hes] at hx
      exact hb.2 _ (List.mem_of_getElem? (extN_lt hi)) x hx rfl
    · obtain ⟨k0, hi, g1, g2, g3, g4⟩ := hsm i k hk
      obtain ⟨k0', hi', g1', g2', g3', g4'⟩ := hsm j k' hk'
      rw [hes] at hx hx'
      have hne' : extN ρ M.n i ≠ extN ρ M.n j := by
        intro e
        have h1 := extN_lt (n := M.n) hi
        have h2 := extN_lt (n := M.n) hi'
        rw [e] at h1
        exact hne ((List.getElem?_inj hi V.nodup).1 (h1.trans h2.symm))
      have := hm.sep _ _ k0 k0' x x' hne' g1 g1' hx hx' he
      rw [g3, g3']
      exact ABlk.share_ren _ this
    · rw [hes] at hx
      exact hm.room _ x hx
    · obtain ⟨h1, c, h2, h3⟩ := hm.ro.2 a v ha
      refine ⟨hBB _ h1, c, h2, ?_⟩
      rw [← h3]
      exact World.cell?_of_block (hm.below.block _ h1)
  obtain ⟨c1, c2⟩ := h f a (memOf l M.g) r1 m0 hin B' w es w cargs hargs hms
  refine ⟨c1, c2.mono ?_⟩
  rintro en w' ⟨e', v, hx, hv1, hv2, hm0⟩
  have hm' := clean_ok hm0 fuel (a ++ [r1])
  rw [← hmc] at hm'
  have hmn : m.n = m0.n := by rw [hmc]; rfl
  have hnm : ρ.length ≤ m.n := by have := hx.n; rw [hn] at this; rw [hmn]; exact this
  obtain ⟨e2, he2⟩ : ∃ e2 : Env, e2 = fun b => if b < M.n then e b else e' (b - M.n + ρ.length) := ⟨_, rfl⟩
  have hold : ∀ i, i < ρ.length → e' i = e (extN ρ M.n i) := by
    intro i hi
    rw [hx.old i (by rw [hn]; exact hi), hes]
  have hbig : ∀ i, e2 (extN ρ M.n i) = e' i := by
    intro i
    rw [he2]
    simp only
    by_cases hi : i < ρ.length
    · rw [if_pos (hlt _ (List.mem_of_getElem? (extN_lt hi))), hold i hi]
    · rw [extN_ge (by omega), if_neg (by omega)]
      congr 1; omega
  have hcomp : (fun b => e2 (extN ρ M.n b)) = e' := funext hbig
  have hext : Ext e e2 := by
    intro b x hb
    have : b < M.n := by
      by_cases hbn : b < M.n
      · exact hbn
      · rw [hm.fresh b (by omega)] at hb; cases hb
    rw [he2]; simp only; rw [if_pos this]; exact hb
  have hxr : XR M (glue M ρ m) e e2 := ⟨by rw [glue_n]; omega, hext, fun b hb => by rw [he2]; simp only; rw [if_pos hb]⟩
  -- a block of the whole: one of the part, or one of before that stands as it stood
  have key : ∀ (b : Nat) (k : ABlk) (x : EB), (glue M ρ m).get b = some k → e2 b = some x →
      (∃ i k1, b = extN ρ M.n i ∧ m.get i = some k1 ∧ e' i = some x ∧ k = k1.ren (extN ρ M.n) ∧ (k1 = .dead ∨ k1.wr = true)) ∨ (b < M.n ∧ b ∉ ρ ∧ M.get b = some k ∧ e b = some x ∧ (k = .dead ∨ B' x.blk)) := by
    intro b k x hk hxb
    rw [glue_get] at hk
    split at hk
    rotate_left
    · cases hk
    rename_i hbN
    cases hk
    unfold blkAt
    by_cases hbn : b < M.n
    · rw [if_pos hbn]
      by_cases hbρ : b ∈ ρ
      · left
        have hi := List.idxOf_lt_length_iff.2 hbρ
        have hs : (m.get (ρ.idxOf b)).isSome = true := (hm'.full _).2 (by omega)
        obtain ⟨k1, hk1⟩ := Option.isSome_iff_exists.1 hs
        refine ⟨ρ.idxOf b, k1, (extN_at hbρ).symm, hk1, ?_, ?_, okM_at hok (by omega) hk1⟩
        · rw [← hbig, extN_at hbρ]; exact hxb
        · rw [if_pos (by simpa using hbρ), hk1]; rfl
      · right
        have hxe : e b = some x := by rw [he2] at hxb; simp only at hxb; rw [if_pos hbn] at hxb; exact hxb
        have hs : (M.get b).isSome = true := (hm.full _).2 hbn
        obtain ⟨k1, hk1⟩ := Option.isSome_iff_exists.1 hs
        rw [if_neg (by simpa using hbρ), hk1]
        refine ⟨hbn, hbρ, rfl, hxe, ?_⟩
        by_cases hd : k1 = .dead
        · exact .inl hd
        · right
          rw [hB']
          refine ⟨hm.room b x hxe, fun b1 hb1 x1 hx1 he => ?_⟩
          obtain ⟨i, hi, rfl⟩ := List.getElem_of_mem hb1
          obtain ⟨k0, g1, g2, _⟩ := V.at_ i _ (List.getElem?_eq_getElem hi)
          have := hm.sep _ b k0 k1 x1 x (fun e => hbρ (e ▸ hb1)) g1 hk1 hx1 hxe he
          exact hd (okB_share g2 this)
    · left
      rw [if_neg hbn]
      have hs : (m.get (b - M.n + ρ.length)).isSome = true := (hm'.full _).2 (by omega)
      obtain ⟨k1, hk1⟩ := Option.isSome_iff_exists.1 hs
      refine ⟨b - M.n + ρ.length, k1, ?_, hk1, ?_, by rw [hk1]; rfl, okM_at hok (by omega) hk1⟩
      · rw [extN_ge (by omega)]; omega
      · rw [he2] at hxb; simp only at hxb; rw [if_neg hbn] at hxb; exact hxb
  have hres : conc e2 (r1.ren (extN ρ M.n)) = some v := by rw [conc_ren, hcomp]; exact hv2
  refine ⟨e2, v, hxr, hv1, hres, ⟨fun b hb => ?_, ?_, hm.below.trans (hm'.below.mono hBB), fun k hk => Nat.lt_of_lt_of_le (hm.base k hk) hm'.below.size, ?_, ?_, ?_, ?_, hm.ro⟩⟩
  · rw [glue_n] at hb
    rw [he2]
    simp only
    rw [if_neg (by omega)]
    exact hm'.fresh _ (by omega)
  · intro b
    show ((glue M ρ m).get b).isSome = true ↔ _
    rw [glue_get, glue_n]
    split <;> simp_all
  · intro b k x hk hxb
    rcases key b k x hk hxb with ⟨i, k1, rfl, g1, g2, rfl, _⟩ | ⟨h1, h2, h3, h4, h5⟩
    · rw [BR.ren, hcomp]
      exact hm'.blocks i k1 x g1 g2
    · rcases h5 with rfl | h5
      · trivial
      · exact ((hm.blocks b k x h3 h4).ext hext).world (hm'.below.block _ h5)
  · intro b k x hk hxb hw hb
    rcases key b k x hk hxb with ⟨i, k1, rfl, g1, g2, rfl, _⟩ | ⟨h1, h2, h3, h4, h5⟩
    · rw [ABlk.wr_ren] at hw
      exact hm'.own i k1 x g1 g2 hw (hBB _ hb)
    · exact hm.own b k x h3 h4 hw hb
  · intro b b2 k k2 x x2 hne hk hk2 hxb hxb2 he
    rcases key b k x hk hxb with ⟨i, k1, rfl, g1, g2, rfl, g5⟩ | ⟨h1, h2, h3, h4, h5⟩
    · rcases key b2 k2 x2 hk2 hxb2 with ⟨j, k3, rfl, q1, q2, rfl, q5⟩ | ⟨p1, p2, p3, p4, p5⟩
      · exact ABlk.share_ren _ (hm'.sep i j k1 k3 x x2 (fun e => hne (e ▸ rfl)) g1 q1 g2 q2 he)
      · rcases p5 with rfl | p5
        · exact share_dead
        · rcases g5 with rfl | g5
          · exact share_dead'
          · exact absurd p5 (he ▸ hm'.own i k1 x g1 g2 g5)
    · rcases key b2 k2 x2 hk2 hxb2 with ⟨j, k3, rfl, q1, q2, rfl, q5⟩ | ⟨p1, p2, p3, p4, p5⟩
      · rcases h5 with rfl | h5
        · exact share_dead'
        · rcases q5 with rfl | q5
          · exact share_dead
          · exact absurd h5 (he ▸ hm'.own j k3 x2 q1 q2 q5)
      · exact hm.sep b b2 k k2 x x2 hne h3 p3 h4 p4 he
  · intro b x hxb
    rw [he2] at hxb
    simp only at hxb
    split at hxb
    · exact Nat.lt_of_lt_of_le (hm.room b x hxb) hm'.below.size
    · exact hm'.room _ x hxb

/-! What is seen, elsewhere and later. -/
theorem mapO_over {α β γ : Type} (f : β → Option γ) (g : α → β) : ∀ l : List α, mapO f (l.map g) = mapO (fun x => f (g x)) l
  | [] => rfl
  | x :: l => by simp only [List.map_cons, mapO, mapO_over f g l]
theorem mapO_congr {α γ : Type} {f g : α → Option γ} : ∀ {l : List α}, (∀ x ∈ l, f x = g x) → mapO f l = mapO g l
  | [], _ => rfl
  | x :: l, h => by
    simp only [mapO, h x (by simp), mapO_congr (l := l) fun y hy => h y (by simp [hy])]
theorem view_same {fuel : Nat} {M M' : AMem} {args : List AV} {ρ : List Nat} {l : List ABlk} {a : List AV} (h : view fuel M args = some (ρ, l, a)) (hs : ∀ b ∈ ρ, M'.get b = M.get b) : view fuel M' args = some (ρ, l, a) := by
  have hρ : reach M.get fuel (AV.refsL args) [] = ρ := by
    unfold view at h
    simp only at h
    split at h
    · split at h
      · simp only [Option.some.injEq, Prod.mk.injEq] at h; exact h.1
      · cases h
    · cases h
  have h2 : reach M'.get fuel (AV.refsL args) [] = ρ := by
    rw [reach_same (get := M.get) (get2 := M'.get) fuel _ _ (by rw [hρ]; exact hs), hρ]
  have h3 : extr M'.get ρ = extr M.get ρ := mapO_congr fun b hb => by rw [hs b hb]
  unfold view at h ⊢
  simp only [h2, h3]
  simp only [hρ] at h
  exact h
theorem okB_map {f : Nat → Nat} (hf : ∀ a b, f a = f b → a = b) (σ : List Nat) (k : ABlk) : okB (σ.map f) (k.ren f) = okB σ k := by
  have key : ∀ l : List Nat, (l.map f).all (σ.map f).contains = l.all σ.contains := fun l => by
    rw [List.all_map]
    congr 1
    funext b
    exact contains_map hf σ b
  cases k with
  | dead => rfl
  | held => rfl
  | cells cs sz wr g =>
    cases wr <;> cases g <;> simp only [ABlk.ren, okB, Option.map_none, Option.map_some, refsL_rens, key]
  | map es =>
    have h1 : ((es.map fun x => (x.1.ren f, x.2.ren f)).map (·.1)) = AV.rens f (es.map (·.1)) := by rw [rens_map, List.map_map, List.map_map]; rfl
    have h2 : ((es.map fun x => (x.1.ren f, x.2.ren f)).map (·.2)) = AV.rens f (es.map (·.2)) := by rw [rens_map, List.map_map, List.map_map]; rfl
    simp only [ABlk.ren, okB, h1, h2, refsL_rens, ← List.map_append, key]
theorem view_map {fuel : Nat} {m M' : AMem} {args : List AV} {σ : List Nat} {l : List ABlk} {a : List AV} {f : Nat → Nat} (hf : ∀ a b, f a = f b → a = b) (hg : ∀ i, M'.get (f i) = (m.get i).map (ABlk.ren f))
    (h : view fuel m args = some (σ, l, a)) : view fuel M' (AV.rens f args) = some (σ.map f, l, a) := by
  unfold view at h ⊢
  simp only at h ⊢
  have e1 : reach M'.get fuel (AV.refsL (AV.rens f args)) [] = (reach m.get fuel (AV.refsL args) []).map f := by
    rw [refsL_rens]; exact reach_map hf hg fuel _ []
  rw [e1]
  generalize reach m.get fuel (AV.refsL args) [] = ρ at h ⊢
  have e2 : extr M'.get (ρ.map f) = extr m.get ρ := by
    unfold extr
    rw [mapO_over]
    refine mapO_congr fun b _ => ?_
    rw [hg]
    cases hb : m.get b with
    | none => rfl
    | some k =>
      simp only [Option.map_some, okB_map hf]
      cases ho : okB ρ k with
      | false => rfl
      | true =>
        simp only [if_true]
        rw [blk_ren_ren _ _ _ (okB_grp ho)]
        congr 2
        funext c
        exact idxOf_map hf ρ c
  rw [e2]
  have e3 : (AV.refsL (AV.rens f args)).all (ρ.map f).contains = (AV.refsL args).all ρ.contains := by
    rw [refsL_rens, List.all_map]
    congr 1
    funext b
    exact contains_map hf ρ b
  have e4 : AV.rens (fun b => (ρ.map f).idxOf b) (AV.rens f args) = AV.rens (fun b => ρ.idxOf b) args := by
    rw [rens_rens]
    congr 1
    funext c
    exact idxOf_map hf ρ c
  rw [e3, e4]
  cases hx : extr m.get ρ with
  | none => rw [hx] at h; cases h
  | some l' =>
    rw [hx] at h
    simp only at h ⊢
    split at h
    · simp only [Option.some.injEq, Prod.mk.injEq] at h
      obtain ⟨rfl, rfl, rfl⟩ := h
      rename_i hh
      rw [if_pos hh]
    · cases h
theorem extN_inj {ρ : List Nat} {n : Nat} (hd : ρ.Nodup) (hlt : ∀ b ∈ ρ, b < n) : ∀ i j, extN ρ n i = extN ρ n j → i = j := by
  intro i j h
  by_cases hi : i < ρ.length
  · by_cases hj : j < ρ.length
    · have h1 := extN_lt (n := n) hi
      have h2 := extN_lt (n := n) hj
      rw [h] at h1
      exact (List.getElem?_inj hi hd).1 (h1.trans h2.symm)
    · have := hlt _ (List.mem_of_getElem? (extN_lt (n := n) hi))
      rw [h, extN_ge (by omega)] at this
      omega
  · by_cases hj : j < ρ.length
    · have := hlt _ (List.mem_of_getElem? (extN_lt (n := n) hj))
      rw [← h, extN_ge (by omega)] at this
      omega
    · rw [extN_ge (by omega), extN_ge (by omega)] at h
      omega
theorem glue_at {M : AMem} {ρ : List Nat} {m : AMem} (hd : ρ.Nodup) (hlt : ∀ b ∈ ρ, b < M.n) (hm : m.t.Full m.n) (hn : ρ.length ≤ m.n) (i : Nat) : (glue M ρ m).get (extN ρ M.n i) = (m.get i).map (ABlk.ren (extN ρ M.n)) := by
  rw [glue_get]
  by_cases hi : i < ρ.length
  · have h1 := extN_lt (n := M.n) hi
    have hb := List.mem_of_getElem? h1
    have hl := hlt _ hb
    have hs : (m.get i).isSome = true := (hm _).2 (by omega)
    obtain ⟨k, hk⟩ := Option.isSome_iff_exists.1 hs
    have hx : ρ.idxOf (extN ρ M.n i) = i := by
      have h2 := List.idxOf_lt_length_iff.2 hb
      have h3 : ρ[ρ.idxOf (extN ρ M.n i)]? = some (extN ρ M.n i) := by
        rw [List.getElem?_eq_getElem h2]; simp
      exact (List.getElem?_inj h2 hd).1 (h3.trans h1.symm)
    rw [if_pos (by omega)]
    unfold blkAt
    rw [if_pos hl, if_pos (by simpa using hb), hx, hk]
    rfl
  · rw [extN_ge (by omega)]
    by_cases hl : i < m.n
    · have hs : (m.get i).isSome = true := (hm _).2 hl
      obtain ⟨k, hk⟩ := Option.isSome_iff_exists.1 hs
      rw [if_pos (by omega)]
      unfold blkAt
      rw [if_neg (by omega), show M.n + (i - ρ.length) - M.n + ρ.length = i by omega, hk]
      rfl
    · have hs : m.get i = none := by
        cases h : m.get i with
        | none => rfl
        | some k => exact absurd ((hm i).1 (by show (m.get i).isSome = true; rw [h]; rfl)) hl
      rw [if_neg (by omega), hs]; rfl
end Go.Vx
