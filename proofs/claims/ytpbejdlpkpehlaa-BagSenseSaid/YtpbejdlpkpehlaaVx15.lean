/- A region whose order is open: the proof that it comes to what it comes to in the text's order. -/
import Derived.Test.YtpbejdlpkpehlaaVx14
import Derived.Orders
namespace Go.Vx

theorem effsOf_spec (f : Nat → Bool) (n : Nat) : ((List.range n).filter f).length = En f n ∧ ∀ c, c < En f n → ∃ j, j < n ∧ f j = true ∧ En f j = c ∧ ((List.range n).filter f).getD c 0 = j := by
  induction n with
  | zero => exact ⟨rfl, fun c hc => by simp [En] at hc⟩
  | succ n ih =>
    obtain ⟨h1, h2⟩ := ih
    rw [List.range_succ, List.filter_append]
    cases hf : f n with
    | false =>
      simp only [List.filter_cons, hf, Bool.false_eq_true, if_false, List.filter_nil, List.append_nil, En, Nat.add_zero]
      refine ⟨h1, fun c hc => ?_⟩
      obtain ⟨j, g1, g2, g3, g4⟩ := h2 c hc
      exact ⟨j, by omega, g2, g3, g4⟩
    | true =>
      simp only [List.filter_cons, hf, if_true, List.filter_nil, En, List.length_append, List.length_cons, List.length_nil]
      refine ⟨by omega, fun c hc => ?_⟩
      by_cases hlt : c < En f n
      · obtain ⟨j, g1, g2, g3, g4⟩ := h2 c hlt
        refine ⟨j, by omega, g2, g3, ?_⟩
        rw [← g4]
        simp only [List.getD_eq_getElem?_getD]
        rw [List.getElem?_append_left (by omega)]
      · have hc' : c = En f n := by omega
        refine ⟨n, by omega, hf, hc'.symm, ?_⟩
        simp only [List.getD_eq_getElem?_getD]
        rw [List.getElem?_append_right (by omega), h1, hc', Nat.sub_self]; rfl
theorem foldmax_le {g : Nat → Bool} {κ : Nat} : ∀ (l : List Nat) (a : Nat), a ≤ κ → (∀ c ∈ l, g c = true → c + 1 ≤ κ) → l.foldl (fun acc c => if g c = true then max acc (c + 1) else acc) a ≤ κ
  | [], _, h, _ => h
  | c :: l, a, h, hl => by
    simp only [List.foldl_cons]
    refine foldmax_le l _ ?_ fun c' hc' => hl c' (List.mem_cons_of_mem _ hc')
    split
    · rename_i hg; have := hl c List.mem_cons_self hg; omega
    · exact h
theorem foldmin_ge {g : Nat → Bool} {κ : Nat} : ∀ (l : List Nat) (a : Nat), κ ≤ a → (∀ c ∈ l, g c = true → κ ≤ c) → κ ≤ l.foldl (fun acc c => if g c = true then min acc c else acc) a
  | [], _, h, _ => h
  | c :: l, a, h, hl => by
    simp only [List.foldl_cons]
    refine foldmin_ge l _ ?_ fun c' hc' => hl c' (List.mem_cons_of_mem _ hc')
    split
    · rename_i hg; have := hl c List.mem_cons_self hg; omega
    · exact h

theorem load_same {op : PI} {avs : List AV} {M M' : AMem} {v : AV} (hl : isLoad op = true) (h : opI op avs M = some (.val v M')) : M' = M := by
  cases op <;> simp only [isLoad] at hl <;> try (cases hl; done)
  all_goals
    unfold opI at h
    split at h <;> rename_i heq <;> try (cases heq; done)
  all_goals first
    | (cases h; done)
    | skip
  all_goals
    (repeat' (split at h <;> try (cases h; done)))
  all_goals
    first
    | (cases h; done)
    | (cases h; rfl)
theorem sameAt_at [Val] {op : PI} {avs : List AV} {v : AV} {ms : List AMem} {lo : Nat} : ∀ {k : Nat}, sameAt op avs v ms lo k = true → ∀ j, j < k → ∃ M', opI op avs (ms.getD (lo + j) mD) = some (.val v M') ∧ M'.n = (ms.getD (lo + j) mD).n
  | 0, _, j, hj => by omega
  | k + 1, h, j, hj => by
    simp only [sameAt, Bool.and_eq_true] at h
    by_cases hjk : j = k
    · subst hjk
      have h1 := h.1
      split at h1
      · rename_i M hM
        split at h1
        · rename_i v' M' hop
          simp only [Bool.and_eq_true, beq_iff_eq] at h1
          rw [List.getD_eq_getElem?_getD, hM]
          exact ⟨M', by rw [← AV.beq_eq _ _ h1.1]; exact hop, h1.2⟩
        · cases h1
      · cases h1
    · exact sameAt_at h.2 j (by omega)

theorem wantedA_congr {p : PInstr} {t t' : Tr AV} (h : ∀ m ∈ namesOf p, t.get m = t'.get m) : wantedA p t = wantedA p t' := by
  unfold wantedA
  cases hg : p.guard with
  | none => rfl
  | some g =>
    obtain ⟨m, want⟩ := g
    simp only
    rw [h m (by simp [namesOf, hg])]
theorem evalArgs_congr {t t' : Tr AV} : ∀ {l : List PArg}, (∀ m, PArg.tmp m ∈ l → t.get m = t'.get m) → evalArgs t l = evalArgs t' l
  | [], _ => rfl
  | x :: xs, h => by
    simp only [evalArgs]
    rw [evalArgs_congr (l := xs) fun m hm => h m (List.mem_cons_of_mem _ hm)]
    have : x.eval t = x.eval t' := by
      cases x with
      | tmp m => exact h m List.mem_cons_self
      | const v => rfl
    rw [this]
theorem evalArgs_names [Val] {p : PInstr} {t t' : Tr AV} (h : ∀ m ∈ namesOf p, t.get m = t'.get m) : evalArgs t p.args = evalArgs t' p.args :=
  evalArgs_congr fun m hm => h m (by
    unfold namesOf
    refine List.mem_append_left _ (List.mem_append_left _ ?_)
    exact List.mem_filterMap.2 ⟨_, hm, rfl⟩)
theorem TM.congr [Val] {e : Env} {t t' : Tr AV} {tmps : Array Value} (h : TM e t tmps) (ht : ∀ m, t'.get m = t.get m) : TM e t' tmps :=
  ⟨fun i v hv => h.get i v (by rw [← ht]; exact hv), fun i hi => h.out i (by rw [← ht]; exact hi)⟩
theorem apart_dst {p q : PInstr} (h : apartN p q = true) {m : Nat} (hd : p.dst = some m) : m ∉ namesOf q := by
  intro hm
  simp [apartN, hd, hm] at h
theorem apart_dst' {p q : PInstr} (h : apartN p q = true) {m : Nat} (hd : q.dst = some m) : m ∉ namesOf p := by
  intro hm
  simp [apartN, hd, hm] at h
theorem dst_names {p : PInstr} {m : Nat} (h : p.dst = some m) : m ∈ namesOf p := by simp [namesOf, h]

/-- what is known of the instructions of a region whose order is open -/
structure DrawOk (P : Program) (ops : Array Oper) (ps : List PInstr) (bs : List Nat) : Prop where
  len : ps.length = ops.size
  comp : ∀ (i : Nat) (o : Oper), ops[i]? = some o → compInstr P ops o = some (ps.getD i pD)
  bits : bs = masks ops.toList []
  ok : ∀ i j, i < j → j < ops.size → (bs.getD j 0).testBit i = true ∨ ((¬(isEff (ps.getD i pD).op = true ∧ isEff (ps.getD j pD).op = true) ∨ floats ps bs j = true) ∧ apartN (ps.getD i pD) (ps.getD j pD) = true)
  one : ∀ i j, i < ops.size → j < ops.size → floats ps bs j = true → (isLoad (ps.getD i pD).op = true → (bs.getD i 0).testBit j = false) ∧ (floats ps bs i = true → i = j)
  down : ∀ (i : Nat) (o : Oper), ops[i]? = some o → ∀ e ∈ o.after.toList, Region.binds .any e = true → e.on < i
  any : P.follows .mixedOrders = true

theorem compRegion_draw' [Val] {P : Program} {ops : Array Oper} {ds : List DInstr} (h : compRegion0 P ops true = some (.drawR ds)) :
    ∃ ps bs, DrawOk P ops ps bs ∧ ds.length = ops.size ∧ ∀ i, i < ops.size → ds.getD i dD = mkDraw ps bs i (ps.getD i pD) := by
  unfold compRegion0 at h
  cases hm : mapO (compInstr P ops) ops.toList with
  | none => simp [hm] at h
  | some ps =>
    simp only [hm, Bool.not_true, Bool.false_eq_true, if_false] at h
    split at h
    · rename_i hc
      simp only [Bool.and_eq_true] at hc
      obtain ⟨⟨hok, hdown⟩, hany⟩ := hc
      obtain ⟨hl, hg⟩ := mapO_get hm
      have hlen : ps.length = ops.size := by simpa using hl
      simp only [Option.some.injEq, PCode.drawR.injEq] at h
      refine ⟨ps, masks ops.toList [], ⟨hlen, ?_, rfl, ?_, ?_, ?_, hany⟩, ?_, ?_⟩
      · intro i o ho
        obtain ⟨y, h1, h2⟩ := hg i o (by simpa using ho)
        rw [List.getD_eq_getElem?_getD, h1]; exact h2
      · intro i j hij hj
        unfold drawOk at hok
        rw [Bool.and_eq_true] at hok
        have hok := hok.1
        rw [List.all_eq_true] at hok
        have h1 := hok j (by simp [hlen]; exact hj)
        rw [List.all_eq_true] at h1
        have h2 := h1 i (by simpa using hij)
        simp only [Bool.or_eq_true, Bool.and_eq_true, Bool.not_eq_true'] at h2
        rcases h2 with h2 | ⟨h2 | h2, h3⟩
        · exact .inl h2
        · refine .inr ⟨.inl ?_, h3⟩
          rintro ⟨a, b⟩
          rw [a, b] at h2; cases h2
        · exact .inr ⟨.inr h2, h3⟩
      · intro i j hi hj hfl
        unfold drawOk at hok
        rw [Bool.and_eq_true] at hok
        have hok := hok.2
        rw [List.all_eq_true] at hok
        have h1 := hok j (by simp [hlen]; exact hj)
        rw [hfl] at h1
        simp only [Bool.not_true, Bool.false_or] at h1
        rw [List.all_eq_true] at h1
        have h2 := h1 i (by simp [hlen]; exact hi)
        simp only [Bool.or_eq_true, Bool.and_eq_true, Bool.not_eq_true', beq_iff_eq] at h2
        obtain ⟨h2, h3⟩ := h2
        refine ⟨fun hl => ?_, fun hf => ?_⟩
        · rcases h2 with h2 | h2
          · rw [h2] at hl; cases hl
          · exact h2
        · rcases h3 with h3 | h3
          · rw [h3] at hf; cases hf
          · exact h3
      · intro i o ho e he hb
        rw [List.all_eq_true] at hdown
        have h1 := hdown (o, i) (by
          rw [List.mem_zipIdx_iff_getElem?]; simpa using ho)
        have h2 := Array.all_eq_true'.1 h1 e (by simpa using he)
        simp only [hb, Bool.not_true, Bool.false_or, decide_eq_true_eq] at h2
        exact h2
      · rw [← h]; simp [hlen]
      · intro i hi
        rw [← h, List.getD_eq_getElem?_getD, List.getElem?_map, List.getElem?_zipIdx]
        have : ps[i]? = some (ps.getD i pD) := by
          rw [List.getD_eq_getElem?_getD, List.getElem?_eq_getElem (by omega)]; rfl
        rw [this]; simp
    · cases h

section
variable {P : Program} {ops : Array Oper} {ps : List PInstr} {bs : List Nat}

/-- what is done is closed, and this one's turn may come -/
structure Turn (ops : Array Oper) (S : Nat → Bool) (i : Nat) : Prop where
  lt : i < ops.size
  sub : ∀ k, S k = true → k < ops.size
  closed : ∀ (k : Nat) (o : Oper), S k = true → ops[k]? = some o → ∀ e ∈ o.after.toList, Region.binds .any e = true → S e.on = true
  deps : ∀ (o : Oper), ops[i]? = some o → ∀ e ∈ o.after.toList, Region.binds .any e = true → S e.on = true
  out : S i = false

theorem Turn.bit [Val] (hd : DrawOk P ops ps bs) {S : Nat → Bool} {i : Nat} (h : Turn ops S i) {j : Nat} (hj : (bs.getD i 0).testBit j = true) : S j = true := by
  rw [hd.bits] at hj
  obtain ⟨o, ho⟩ : ∃ o, ops[i]? = some o := ⟨_, Array.getElem?_eq_getElem h.lt⟩
  exact masks_closed (S := fun k => S k = true) (fun k o' hk ho' => h.closed k o' hk (by simpa using ho')) i o (by simpa using ho) (h.deps o ho) (fun k hk => by simpa using h.sub k hk) j hj
theorem Turn.bit' [Val] (hd : DrawOk P ops ps bs) {S : Nat → Bool} {i : Nat} (h : Turn ops S i) {j : Nat} (hj : S j = true) : (bs.getD j 0).testBit i = false := by
  cases hb : (bs.getD j 0).testBit i with
  | false => rfl
  | true =>
    rw [hd.bits] at hb
    have hjl := h.sub j hj
    have := masks_closed (S := fun k => S k = true) (fun k o' hk ho' => h.closed k o' hk (by simpa using ho')) j ops[j] (by simp [Array.getElem?_eq_getElem hjl]) (h.closed j _ hj (Array.getElem?_eq_getElem hjl)) (fun k hk => by simpa using h.sub k hk) i hb
    rw [h.out] at this; cases this
/-- in the text's order -/
theorem Turn.text (hd : DrawOk P ops ps bs) {i : Nat} (hi : i < ops.size) : Turn ops (fun j => decide (j < i)) i :=
  ⟨hi, fun k hk => by simp at hk; omega, fun k o hk ho e he hb => by
    have := hd.down k o ho e he hb
    simp at hk ⊢; omega, fun o ho e he hb => by
    have := hd.down i o ho e he hb
    simpa using this, by simp⟩

theorem Turn.names [Val] (hd : DrawOk P ops ps bs) {S : Nat → Bool} {i : Nat} (h : Turn ops S i) {m j : Nat} (hm : m ∈ namesOf (ps.getD i pD)) (hj : j < ops.size) (hdj : (ps.getD j pD).dst = some m) : S j = decide (j < i) := by
  rcases Nat.lt_trichotomy j i with hl | he | hl
  · rw [decide_eq_true hl]
    rcases hd.ok j i hl h.lt with hb | ⟨_, ha⟩
    · exact h.bit hd hb
    · exact absurd hm (apart_dst ha hdj)
  · subst he; rw [h.out]; simp
  · rw [decide_eq_false (by omega)]
    cases hs : S j with
    | false => rfl
    | true =>
      rcases hd.ok i j hl hj with hb | ⟨_, ha⟩
      · have := h.bit' hd hs; rw [hb] at this; cases this
      · exact absurd hm (apart_dst' ha hdj)

/-- how far the ones that turn memory have come -/
structure Come (ops : Array Oper) (ps : List PInstr) (bs : List Nat) (f : Nat → Bool) (S : Nat → Bool) (κ : Nat) : Prop where
  le : κ ≤ En f ops.size
  done : ∀ j, j < ops.size → f j = true → En f j < κ → S j = true
  turn : ∀ j, j < ops.size → f j = true → floats ps bs j = false → S j = true → En f j < κ

theorem Turn.pos [Val] (hd : DrawOk P ops ps bs) {S : Nat → Bool} {i κ : Nat} {f : Nat → Bool} (hf : ∀ j, j < ops.size → f j = isEff (ps.getD j pD).op) (h : Turn ops S i) (hk : Come ops ps bs f S κ)
    (hne : ∀ j, j < ops.size → floats ps bs j = true → S j = true → En f j ≠ κ) (hi : f i = true) (hfi : floats ps bs i = false) : En f i = κ := by
  rcases Nat.lt_trichotomy (En f i) κ with hl | he | hl
  · have := hk.done i h.lt hi hl; rw [h.out] at this; cases this
  · exact he
  · obtain ⟨j, h1, h2, h3⟩ := En_ex f i κ hl
    have hjl : j < ops.size := Nat.lt_trans h1 h.lt
    rcases hd.ok j i h1 h.lt with hb | ⟨hno | hno, _⟩
    · have hs := h.bit hd hb
      cases hfj : floats ps bs j with
      | false => have := hk.turn j hjl h2 hfj hs; omega
      | true => exact absurd h3 (hne j hjl hfj hs)
    · exact absurd ⟨by rw [← hf j hjl]; exact h2, by rw [← hf i h.lt]; exact hi⟩ hno
    · rw [hfi] at hno; cases hno

theorem Turn.bounds [Val] (hd : DrawOk P ops ps bs) {S : Nat → Bool} {i κ : Nat} {f : Nat → Bool} (hf : ∀ j, j < ops.size → f j = isEff (ps.getD j pD).op) (h : Turn ops S i) (hk : Come ops ps bs f S κ) (hld : isLoad (ps.getD i pD).op = true) :
    (mkDraw ps bs i (ps.getD i pD)).lo ≤ κ ∧ κ ≤ (mkDraw ps bs i (ps.getD i pD)).hi := by
  have heq : effsOf ps = (List.range ops.size).filter f := by
    unfold effsOf
    rw [hd.len]
    refine List.filter_congr fun j hj => ?_
    rw [hf j (by simpa using hj)]
  obtain ⟨hl, hc⟩ := effsOf_spec f ops.size
  have hκ := hk.le
  unfold mkDraw
  simp only [heq]
  constructor
  · refine foldmax_le (g := fun c => (bs.getD i 0).testBit (((List.range ops.size).filter f).getD c 0)) _ _ (Nat.zero_le _) fun c hcl hg => ?_
    rw [List.mem_range, hl] at hcl
    obtain ⟨j, g1, g2, g3, g4⟩ := hc c hcl
    simp only [g4] at hg
    cases hfj : floats ps bs j with
    | false =>
      have := hk.turn j g1 g2 hfj (h.bit hd hg)
      omega
    | true =>
      have := (hd.one i j h.lt g1 hfj).1 hld
      rw [this] at hg; cases hg
  · refine foldmin_ge (g := fun c => (bs.getD (((List.range ops.size).filter f).getD c 0) 0).testBit i) _ _ (by omega) fun c hcl hg => ?_
    rw [List.mem_range, hl] at hcl
    obtain ⟨j, g1, g2, g3, g4⟩ := hc c hcl
    simp only [g4] at hg
    rcases Nat.lt_or_ge c κ with hlt | hge
    · have hs := hk.done j g1 g2 (by omega)
      have := h.bit' hd hs
      rw [this] at hg; cases hg
    · exact hge

theorem all_listed {listed : Array Bool} (hd : DrawOk P ops ps bs) (h : Region.ready .any ops listed = []) (hs : listed.size = ops.size) : ∀ i, i < ops.size → listed.getD i false = true := by
  intro i
  induction i using Nat.strongRecOn with
  | _ i ih =>
    intro hi
    cases hl : listed.getD i false with
    | true => rfl
    | false =>
      have hr : i ∈ Region.ready .any ops listed := by
        refine mem_ready.2 ⟨?_, ops[i], Array.getElem?_eq_getElem hi, fun e he hb => ?_⟩
        · have hil : i < listed.size := by omega
          simp [Array.getD, hil] at hl ⊢; exact hl
        · have := hd.down i ops[i] (Array.getElem?_eq_getElem hi) e (by simpa using he) hb
          exact ih e.on this (by omega)
      rw [h] at hr; cases hr
end

section
variable {P : Program} {B : Nat → Prop} {w0 : World} {ops : Array Oper} {ps : List PInstr} {bs : List Nat} {call : FuncId → List AV → AMem → Option (AV × AMem)}

theorem En_set {S S' : Nat → Bool} {i : Nat} (hS : S i = false) (hS' : S' i = true) (hoth : ∀ j, j ≠ i → S' j = S j) : ∀ n, En (fun j => !S j) n = En (fun j => !S' j) n + if i < n then 1 else 0
  | 0 => by simp [En]
  | n + 1 => by
    simp only [En]
    rw [En_set hS hS' hoth n]
    by_cases hin : i = n
    · subst hin; simp [hS, hS']
    · simp only [hoth n (fun h => hin h.symm)]
      by_cases h : i < n
      · have h' : i < n + 1 := by omega
        simp only [h, h', if_true]; omega
      · have h' : ¬ i < n + 1 := by omega
        simp only [h, h', if_false]; omega


/-- A block that was to come is there in the world. -/
theorem MR.place [Val] {e : Env} {M : AMem} {w : World} (h : MR B w0 e M w) {n0 : Nat} (hn : e n0 = none) (hlt : n0 < M.n) (hh : isHeld (M.get n0) = true) (o : Obj) : MR B w0 (e.set n0 ⟨w.heap.size, 0, 0⟩) M (w.alloc o) := by
  have hold : ∀ i, i < w.heap.size → (w.alloc o).heap[i]? = w.heap[i]? := fun i hi => heap_alloc_old w o hi
  have hk : ∀ k, M.get n0 = some k → k = .held := by
    intro k hk; rw [hk] at hh; cases k <;> simp [isHeld] at hh; rfl
  refine ⟨fun b hb => by unfold Env.set; rw [if_neg (by omega)]; exact h.fresh b hb, h.full, h.below.alloc h.base o, fun k hk => by have := h.base k hk; simp; omega, ?_, ?_, ?_, ?_, h.ro⟩
  · intro b j x hj hx
    rcases Env.set_get hx with ⟨hb, hx'⟩ | ⟨rfl, rfl⟩
    · exact ((h.blocks b j x hj hx').ext (Ext.one hn _)).world (hold _ (h.room b x hx'))
    · rw [hk j hj]; trivial
  · intro b j x hj hx hw
    rcases Env.set_get hx with ⟨hb, hx'⟩ | ⟨rfl, rfl⟩
    · exact h.own b j x hj hx' hw
    · exact fun hb => absurd (h.base _ hb) (Nat.lt_irrefl _)
  · intro b b' j j' x x' hne hj hj' hx hx' he
    rcases Env.set_get hx with ⟨hb, hx1⟩ | ⟨rfl, rfl⟩
    · rcases Env.set_get hx' with ⟨hb', hx1'⟩ | ⟨rfl, rfl⟩
      · exact h.sep b b' j j' x x' hne hj hj' hx1 hx1' he
      · exact absurd he (Nat.ne_of_lt (h.room b x hx1))
    · rcases Env.set_get hx' with ⟨hb', hx1'⟩ | ⟨rfl, rfl⟩
      · exact absurd he.symm (Nat.ne_of_lt (h.room b' x' hx1'))
      · exact absurd rfl hne
  · intro b x hx
    simp only [World.size_alloc]
    rcases Env.set_get hx with ⟨hb, hx'⟩ | ⟨rfl, rfl⟩
    · have := h.room b x hx'; omega
    · simp
/-- nobody else that may write stands for it -/
theorem MR.alone [Val] {e : Env} {M : AMem} {w : World} (h : MR B w0 e M w) {n0 : Nat} {x0 : EB} (hx0 : e n0 = some x0) (hh : isHeld (M.get n0) = true) : ∀ b k x, M.get b = some k → e b = some x → k.wr = true → x.blk ≠ x0.blk := by
  intro b k x hk hx hw he
  cases hk0 : M.get n0 with
  | none => rw [hk0] at hh; cases hh
  | some k0 =>
    have : k0 = .held := by rw [hk0] at hh; cases k0 <;> simp [isHeld] at hh; rfl
    subst this
    by_cases hb : b = n0
    · subst hb; rw [hk] at hk0; cases hk0; simp [ABlk.wr] at hw
    · have := h.sep n0 b .held k x0 x (fun h => hb h.symm) hk0 hk hx0 hx he.symm
      cases k <;> simp [ABlk.share, ABlk.wr] at this hw
/-- A block that was to come, and that is there in the world, is there. -/
theorem MR.fill [Val] {e : Env} {M : AMem} {w : World} (h : MR B w0 e M w) {n0 p : Nat} {T : TypeId} {cs : List AV} {vs : List Value} (hx0 : e n0 = some ⟨p, 0, 0⟩) (hlt : n0 < M.n) (hh : isHeld (M.get n0) = true)
    (hB : ¬ B p) (hp : w.heap[p]? = some (.cells vs.toArray T (0, 0))) (hc : concs e cs = some vs) : MR B w0 e (M.set n0 (.cells cs 0 true none)) w := by
  have hsome : (M.get n0).isSome = true := by cases hg : M.get n0 <;> simp [hg, isHeld] at hh ⊢
  have hget : ∀ m, (M.set n0 (.cells cs 0 true none)).get m = if m = n0 then some (.cells cs 0 true none) else M.get m := fun m => Tr.get_set M.t n0 _ m hsome
  have halone := fun b k x hk hx hne he => h.sep n0 b .held k ⟨p, 0, 0⟩ x hne (by
      cases hk0 : M.get n0 with
      | none => rw [hk0] at hh; cases hh
      | some k0 => rw [hk0] at hh; cases k0 <;> simp [isHeld] at hh; rfl) hk hx0 hx he
  have hdead : ∀ b k x, M.get b = some k → e b = some x → n0 ≠ b → p = x.blk → k = .dead := by
    intro b k x hk hx hne he
    have := halone b k x hk hx hne he
    cases k <;> simp [ABlk.share] at this; rfl
  refine ⟨h.fresh, ?_, h.below, h.base, ?_, ?_, ?_, h.room, h.ro⟩
  · intro i
    have := h.full i
    show ((M.set n0 (.cells cs 0 true none)).get i).isSome = true ↔ i < M.n
    rw [hget]
    by_cases hi : i = n0
    · subst hi; rw [if_pos rfl]; simp; exact hlt
    · rw [if_neg hi]; exact this
  · intro b k x hk hx
    rw [hget] at hk
    by_cases hb : b = n0
    · subst hb; rw [if_pos rfl] at hk; cases hk
      rw [hx0] at hx; cases hx
      exact ⟨vs.toArray, T, (0, 0), vs, hp, fun _ => rfl, by simp [concs_length hc], hc, by intro i v hv; simpa using hv⟩
    · rw [if_neg hb] at hk; exact h.blocks b k x hk hx
  · intro b k x hk hx hw
    rw [hget] at hk
    by_cases hb : b = n0
    · subst hb; rw [hx0] at hx; cases hx; exact hB
    · rw [if_neg hb] at hk; exact h.own b k x hk hx hw
  · intro b b' k k' x x' hne hk hk' hx hx' he
    rw [hget] at hk hk'
    by_cases hb : b = n0
    · subst hb
      rw [hx0] at hx; cases hx
      rw [if_neg (fun h => hne h.symm)] at hk'
      have := hdead b' k' x' hk' hx' hne he
      subst this
      cases k <;> rfl
    · rw [if_neg hb] at hk
      by_cases hb' : b' = n0
      · subst hb'
        rw [hx0] at hx'; cases hx'
        have := hdead b k x hk hx (fun h => hne h.symm) he.symm
        subst this; rfl
      · rw [if_neg hb'] at hk'
        exact h.sep b b' k k' x x' hne hk hk' hx hx' he

/-- A block is made: on we go. -/
theorem wpOp_new [Val] {e : Env} {w : World} {t : Tr AV} {a : Act} {Q : Exit → Act → World → Prop} {i : Nat} {o : Oper} {p : PInstr} {avs cs : List AV} {k : Option Nat} (ho : ops[i]? = some o) (hp : compInstr P ops o = some p) (hT : TM e t a.tmps)
    (hw : wantedA p t = true) (hev : evalArgs t p.args = some avs) (hc : newCells p.op avs = some (cs, k)) {K : Act → World → Prop}
    (hK : ∀ T vs, concs e cs = some vs → K (a.put p.dst (newV ⟨w.heap.size, 0, none⟩ k)) (w.alloc (.cells vs.toArray T))) : wpOp P ops Q i K a w := by
  obtain ⟨T, vs, h1, h2⟩ := new_run (w := w) hp hT hev hc
  obtain ⟨xs, _, _, hdst, _⟩ := compInstr_parts hp
  unfold wpOp
  simp only [ho]
  rw [wanted_ok hp hT, hw]
  simp only [if_true]
  refine .inl ?_
  unfold Oper.wp
  rw [h2]
  simp only [Oper.upon]
  rw [← hdst]
  exact hK T vs h1
/-- One instruction that is wanted; perhaps a block beside stays. -/
theorem wpOp_both [Val] (hcall : CallSound P call) {e : Env} {M : AMem} {w : World} {t : Tr AV} {a : Act} {Q : Exit → Act → World → Prop} {i : Nat} {o : Oper} {p : PInstr} {avs : List AV} {v : AV} {M' : AMem} (q : Option Nat) (ho : ops[i]? = some o) (hp : compInstr P ops o = some p) (hT : TM e t a.tmps) (hm : MR B w0 e M w)
    (hq : ∀ j, q = some j → j < w.heap.size ∧ ∀ b k x, M.get b = some k → e b = some x → k.wr = true → x.blk ≠ j)
    (hw : wantedA p t = true) (hev : evalArgs t p.args = some avs) (hv : val1 call p.op avs M = some (v, M')) {K : Act → World → Prop}
    (hK : ∀ e' cv w', XR M M' e e' → conc e' v = some cv → MR B w0 e' M' w' → (∀ j, q = some j → w'.heap[j]? = w.heap[j]?) → K (a.put p.dst cv) w') : wpOp P ops Q i K a w := by
  cases q with
  | none => exact wpOp_ok hcall ho hp hT hm hw hev hv fun e' cv w' h1 h2 h3 => hK e' cv w' h1 h2 h3 (fun j hj => by cases hj)
  | some j => exact wpOp_keep hcall ho hp hT hm (hq j rfl).1 (hq j rfl).2 hw hev hv fun e' cv w' h1 h2 h3 h4 _ => hK e' cv w' h1 h2 h3 (fun j' hj => by cases hj; exact h4)

/-- the one that floats, when it is done ahead of its place: its block is in the world -/
def Early [Val] (B : Nat → Prop) (n0 : Nat) (e : Env) (w : World) (p : PInstr) (A : Option (List AV)) : Prop :=
  match A with
  | none => True
  | some avs => ∃ cs k q T vs, newCells p.op avs = some (cs, k) ∧ e n0 = some ⟨q, 0, 0⟩ ∧ ¬ B q ∧ w.heap[q]? = some (.cells vs.toArray T (0, 0)) ∧ concs e cs = some vs

/-- where we are in the middle of a region whose order is open -/
structure Mid [Val] (B : Nat → Prop) (w0 : World) (ops : Array Oper) (ps : List PInstr) (bs : List Nat) (ds : List DInstr) (rs : List Rec) (ms : List AMem) (t : Tr AV) (e0 : Env) (M0 : AMem) (df : List Deferred)
    (listed : Array Bool) (e : Env) (κ : Nat) (a : Act) (w : World) : Prop where
  size : listed.size = ops.size
  closed : ∀ (k : Nat) (o : Oper), listed.getD k false = true → ops[k]? = some o → ∀ ed ∈ o.after.toList, Region.binds .any ed = true → listed.getD ed.on false = true
  come : Come ops ps bs (fun j => (ds.getD j dD).eff) (fun j => listed.getD j false) κ
  xr : XR M0 (ms.getD κ mD) e0 e
  tm : TM e (finN (fun j => (ds.getD j dD).p.dst) (fun j => (rs.getD j rD).v) (fun j => listed.getD j false) t ops.size) a.tmps
  defers : a.defers = df
  mr : MR B w0 e (ms.getD κ mD) w
  fl0 : ∀ j, j < ops.size → floats ps bs j = true → listed.getD j false = false → e M0.n = none
  fl1 : ∀ j, j < ops.size → floats ps bs j = true → listed.getD j false = true → κ ≤ En (fun j => (ds.getD j dD).eff) j → Early B M0.n e w (ps.getD j pD) (rs.getD j rD).avs
  held : ∀ j, j < ops.size → floats ps bs j = true → κ ≤ En (fun j => (ds.getD j dD).eff) j → isHeld ((ms.getD κ mD).get M0.n) = true
  num : ∀ j, j < ops.size → floats ps bs j = true → M0.n < (ms.getD κ mD).n
def Mid.Clear (ops : Array Oper) (ps : List PInstr) (bs : List Nat) (ds : List DInstr) (listed : Array Bool) (κ : Nat) : Prop :=
  ∀ j, j < ops.size → floats ps bs j = true → listed.getD j false = true → En (fun j => (ds.getD j dD).eff) j ≠ κ

theorem floats_eff {ps : List PInstr} {bs : List Nat} {j : Nat} (h : floats ps bs j = true) : isEff (ps.getD j pD).op = true := by
  unfold floats at h
  rw [Bool.and_eq_true] at h
  have h1 := h.1
  generalize (ps.getD j pD).op = op at h1
  cases op <;> simp [isNew] at h1 <;> rfl

/-- where the one that floats has been done ahead of its place, and its place has come -/
theorem Mid.clear [Val] (hd : DrawOk P ops ps bs) {ds : List DInstr} (hds : ∀ i, i < ops.size → ds.getD i dD = mkDraw ps bs i (ps.getD i pD)) {rs : List Rec} {ms : List AMem} {t : Tr AV} {M0 : AMem}
    (hfact : ∀ i, i < ops.size → TFact call M0.n (fun j => ds.getD j dD) (fun j => (rs.getD j rD).v) (fun j => (rs.getD j rD).avs) (fun k => ms.getD k mD) t i)
    {e0 : Env} {df : List Deferred} {listed : Array Bool} {e : Env} {κ : Nat} {a : Act} {w : World} (h : Mid B w0 ops ps bs ds rs ms t e0 M0 df listed e κ a w) :
    ∃ κ', Mid B w0 ops ps bs ds rs ms t e0 M0 df listed e κ' a w ∧ Mid.Clear ops ps bs ds listed κ' := by
  by_cases hex : ∃ j, j < ops.size ∧ floats ps bs j = true ∧ listed.getD j false = true ∧ En (fun j => (ds.getD j dD).eff) j = κ
  · obtain ⟨j, hj, hfl, hl, hEn⟩ := hex
    have hje : (ds.getD j dD).eff = true := by rw [hds j hj]; exact floats_eff hfl
    have huniq : ∀ k, k < ops.size → floats ps bs k = true → k = j := fun k hk hkf => (hd.one k j hk hj hfl).2 hkf
    have hp : (ds.getD j dD).p = ps.getD j pD := by rw [hds j hj]; rfl
    have hdf : (ds.getD j dD).fl = true := by rw [hds j hj]; exact hfl
    have hcome : Come ops ps bs (fun j => (ds.getD j dD).eff) (fun j => listed.getD j false) (κ + 1) := by
      refine ⟨?_, ?_, ?_⟩
      · have := En_lt (fun j => (ds.getD j dD).eff) hj hje
        omega
      · intro k hk hke hlt
        by_cases hkk : En (fun j => (ds.getD j dD).eff) k = κ
        · have : k = j := En_inj (fun j => (ds.getD j dD).eff) hke hje (by rw [hkk, hEn])
          rw [this]; exact hl
        · exact h.come.done k hk hke (by omega)
      · intro k hk hke hkf hs
        have := h.come.turn k hk hke hkf hs
        omega
    have hmem : XR M0 (ms.getD (κ + 1) mD) e0 e ∧ MR B w0 e (ms.getD (κ + 1) mD) w ∧ (ms.getD (κ + 1) mD).n = (ms.getD κ mD).n := by
      have hfj := hfact j hj
      unfold TFact at hfj
      simp only [hp] at hfj
      have hearly := h.fl1 j hj hfl hl (by omega)
      cases hA : (rs.getD j rD).avs with
      | none =>
        simp only [hA] at hfj
        have := hfj.2.2 hje
        rw [hEn] at this
        rw [this]
        exact ⟨h.xr, h.mr, rfl⟩
      | some avs =>
        simp only [hA] at hfj
        have hst := hfj.2.2.1 hje
        rw [hEn] at hst
        unfold step1 at hst
        simp only [hdf, if_true, hp] at hst
        unfold fillI at hst
        rw [hA] at hearly
        obtain ⟨cs, k, q, T, vs, g1, g2, g3, g4, g5⟩ := hearly
        split at hst
        · rename_i hh
          rw [g1] at hst
          simp only [Option.some.injEq, Prod.mk.injEq] at hst
          rw [← hst.2]
          refine ⟨⟨h.xr.n, h.xr.ext, h.xr.old⟩, h.mr.fill g2 (h.num j hj hfl) hh g3 g4 g5, rfl⟩
        · cases hst
    refine ⟨κ + 1, ⟨h.size, h.closed, hcome, hmem.1, h.tm, h.defers, hmem.2.1, h.fl0, ?_, ?_, ?_⟩, ?_⟩
    · intro k hk hkf hs hle
      rw [huniq k hk hkf] at hle; omega
    · intro k hk hkf hle
      rw [huniq k hk hkf] at hle; omega
    · intro k hk hkf
      rw [hmem.2.2]; exact h.num k hk hkf
    · intro k hk hkf _
      rw [huniq k hk hkf]; omega
  · refine ⟨κ, h, fun j hj hfl hl hEn => hex ⟨j, hj, hfl, hl, hEn⟩⟩

theorem Come.next [Val] {f S S' : Nat → Bool} {κ κ' i : Nat} (h : Come ops ps bs f S κ) (hi : i < ops.size) (hSi : S' i = true) (hSo : ∀ j, j ≠ i → S' j = S j)
    (hκ : (κ' = κ ∧ (f i = false ∨ floats ps bs i = true)) ∨ (κ' = κ + 1 ∧ f i = true ∧ En f i = κ)) : Come ops ps bs f S' κ' := by
  refine ⟨?_, ?_, ?_⟩
  · rcases hκ with ⟨rfl, _⟩ | ⟨rfl, h1, h2⟩
    · exact h.le
    · have := En_lt f hi h1; omega
  · intro j hj hje hlt
    by_cases hji : j = i
    · subst hji; exact hSi
    · rw [hSo j hji]
      rcases hκ with ⟨rfl, _⟩ | ⟨rfl, h1, h2⟩
      · exact h.done j hj hje hlt
      · refine h.done j hj hje ?_
        rcases Nat.lt_or_ge (En f j) κ with h3 | h3
        · exact h3
        · exact absurd (En_inj f hje h1 (by omega)) hji
  · intro j hj hje hjf hs
    by_cases hji : j = i
    · subst hji
      rcases hκ with ⟨rfl, h1 | h1⟩ | ⟨rfl, h1, h2⟩
      · rw [h1] at hje; cases hje
      · rw [h1] at hjf; cases hjf
      · omega
    · rw [hSo j hji] at hs
      have := h.turn j hj hje hjf hs
      rcases hκ with ⟨rfl, _⟩ | ⟨rfl, _⟩ <;> omega

theorem draw_go [Val] (hcall : CallSound P call) (hd : DrawOk P ops ps bs) {ds : List DInstr} (hds : ∀ i, i < ops.size → ds.getD i dD = mkDraw ps bs i (ps.getD i pD)) {rs : List Rec} {ms : List AMem} {t : Tr AV} {M0 : AMem}
    (hfact : ∀ i, i < ops.size → TFact call M0.n (fun j => ds.getD j dD) (fun j => (rs.getD j rD).v) (fun j => (rs.getD j rD).avs) (fun k => ms.getD k mD) t i)
    (hchk : ∀ i, i < ops.size → checkRec ms (rs.getD i rD) = true) (hrd : ∀ i, i < ops.size → (rs.getD i rD).d = ds.getD i dD)
    {e0 : Env} {df : List Deferred} {Q : Exit → Act → World → Prop}
    (hQ : ∀ e' a' w', XR M0 (ms.getD (En (fun j => (ds.getD j dD).eff) ops.size) mD) e0 e' → TM e' (finN (fun j => (ds.getD j dD).p.dst) (fun j => (rs.getD j rD).v) (fun _ => true) t ops.size) a'.tmps → a'.defers = df → MR B w0 e' (ms.getD (En (fun j => (ds.getD j dD).eff) ops.size) mD) w' → Q .normal a' w') :
    ∀ (fuel : Nat) (listed : Array Bool) (e : Env) (κ : Nat) (a : Act) (w : World),
      En (fun j => !listed.getD j false) ops.size ≤ fuel → Mid B w0 ops ps bs ds rs ms t e0 M0 df listed e κ a w → Mid.Clear ops ps bs ds listed κ →
      wpAny P .any ops Q fuel listed a w := by
  have hf : ∀ j, j < ops.size → (ds.getD j dD).eff = isEff (ps.getD j pD).op := by
    intro j hj; rw [hds j hj]; rfl
  have hp : ∀ j, j < ops.size → (ds.getD j dD).p = ps.getD j pD := by
    intro j hj; rw [hds j hj]; rfl
  have hflq : ∀ j, j < ops.size → (ds.getD j dD).fl = floats ps bs j := by
    intro j hj; rw [hds j hj]; rfl
  -- all are done
  have fin : ∀ (listed : Array Bool) (e : Env) (κ : Nat) (a : Act) (w : World), Region.ready .any ops listed = [] → Mid B w0 ops ps bs ds rs ms t e0 M0 df listed e κ a w → Mid.Clear ops ps bs ds listed κ → Q .normal a w := by
    intro listed e κ a w hr hm hcl
    have hall := all_listed hd hr hm.size
    have hκm : κ = En (fun j => (ds.getD j dD).eff) ops.size := by
      rcases Nat.lt_or_ge κ (En (fun j => (ds.getD j dD).eff) ops.size) with hlt | hge
      · obtain ⟨j, h1, h2, h3⟩ := En_ex _ _ _ hlt
        cases hfj : floats ps bs j with
        | false => have := hm.come.turn j h1 h2 hfj (hall j h1); omega
        | true => exact absurd h3 (hcl j h1 hfj (hall j h1))
      · have := hm.come.le; omega
    subst hκm
    refine hQ e a w hm.xr (hm.tm.congr fun m => finN_congr _ fun j hj _ => ?_) hm.defers hm.mr
    exact (hall j hj).symm
  intro fuel
  induction fuel with
  | zero =>
    intro listed e κ a w hfu hm hcl
    have hall : ∀ i, i < ops.size → listed.getD i false = true := by
      intro i hi
      cases hl : listed.getD i false with
      | true => rfl
      | false =>
        have := En_lt (fun j => !listed.getD j false) (i := i) (j := ops.size) hi (by simp only [hl]; rfl)
        omega
    have hr : Region.ready .any ops listed = [] := by
      rw [List.eq_nil_iff_forall_not_mem]
      intro i hi
      obtain ⟨h1, o, h2, _⟩ := mem_ready.1 hi
      have hil : i < ops.size := (Array.getElem?_eq_some_iff.1 h2).1
      have h3 := hall i hil
      have : i < listed.size := by have := hm.size; omega
      simp [Array.getD, this] at h1 h3
      rw [h1] at h3; cases h3
    exact ⟨hr, fin listed e κ a w hr hm hcl⟩
  | succ fuel ih =>
    intro listed e κ a w hfu hm hcl
    refine ⟨fun hr => fin listed e κ a w hr hm hcl, fun i hi => ?_⟩
    obtain ⟨hun, o, ho, hdeps⟩ := mem_ready.1 hi
    have hil : i < ops.size := (Array.getElem?_eq_some_iff.1 ho).1
    have hils : i < listed.size := by have := hm.size; omega
    have hS : listed.getD i false = false := by
      simp [Array.getD, hils] at hun ⊢; exact hun
    have hturn : Turn ops (fun j => listed.getD j false) i := by
      refine ⟨hil, fun k hk' => ?_, hm.closed, fun o' ho' ed hed hb => ?_, hS⟩
      · rcases Nat.lt_or_ge k listed.size with h | h
        · have := hm.size; omega
        · rw [Array.getD, dif_neg (by omega)] at hk'; cases hk'
      · rw [ho] at ho'; cases ho'
        exact hdeps ed (by simpa using hed) hb
    have hSi : (listed.setIfInBounds i true).getD i false = true := by
      rw [Array.getD_eq_getD_getElem?, Array.getElem?_setIfInBounds]; simp [hils]
    have hSo : ∀ j, j ≠ i → (listed.setIfInBounds i true).getD j false = listed.getD j false := by
      intro j hj
      rw [Array.getD_eq_getD_getElem?, Array.getD_eq_getD_getElem?, Array.getElem?_setIfInBounds, if_neg (fun h => hj h.symm)]
    have huniq : ∀ j k, j < ops.size → k < ops.size → floats ps bs j = true → floats ps bs k = true → k = j := fun j k hj hk hjf hkf => (hd.one k j hk hj hjf).2 hkf
    -- what it reads is what it reads in the text's order
    have hread : ∀ m ∈ namesOf (ps.getD i pD), (finN (fun j => (ds.getD j dD).p.dst) (fun j => (rs.getD j rD).v) (fun j => listed.getD j false) t ops.size).get m = (finN (fun j => (ds.getD j dD).p.dst) (fun j => (rs.getD j rD).v) (fun _ => true) t i).get m := by
      intro m hmn
      rw [← finN_first ops.size (Nat.le_of_lt hil)]
      refine finN_congr _ fun j hj hdj => ?_
      simp only [hp j hj] at hdj
      exact hturn.names hd hmn hj hdj
    have hfi := hfact i hil
    have hci := hchk i hil
    have hrdi := hrd i hil
    unfold TFact at hfi
    simp only [hp i hil] at hfi
    have hpc := hd.comp i o ho
    -- the block that stands in the world ahead of its time
    have hprot : ∃ q : Option Nat, (∀ j, q = some j → j < w.heap.size ∧ ∀ b k x, (ms.getD κ mD).get b = some k → e b = some x → k.wr = true → x.blk ≠ j) ∧
        (∀ e' w', Ext e e' → (∀ j, q = some j → w'.heap[j]? = w.heap[j]?) → ∀ j, j < ops.size → floats ps bs j = true → listed.getD j false = true → κ ≤ En (fun j => (ds.getD j dD).eff) j → Early B M0.n e' w' (ps.getD j pD) (rs.getD j rD).avs) := by
      by_cases hex : ∃ j, j < ops.size ∧ floats ps bs j = true ∧ listed.getD j false = true ∧ κ ≤ En (fun j => (ds.getD j dD).eff) j
      · obtain ⟨j, hj, hjf, hjs, hjk⟩ := hex
        have hE := hm.fl1 j hj hjf hjs hjk
        cases hA : (rs.getD j rD).avs with
        | none =>
          refine ⟨none, fun j' hj' => (by cases hj'), fun e' w' _ _ k hk hkf _ _ => ?_⟩
          rw [huniq j k hj hk hjf hkf, hA]; trivial
        | some avs =>
          rw [hA] at hE
          obtain ⟨cs, kk, q, T, vs, g1, g2, g3, g4, g5⟩ := hE
          refine ⟨some q, fun j' hj' => ?_, fun e' w' hext hsame k hk hkf _ _ => ?_⟩
          · cases hj'
            refine ⟨(Array.getElem?_eq_some_iff.1 g4).1, ?_⟩
            exact hm.mr.alone (x0 := ⟨q, 0, 0⟩) g2 (hm.held j hj hjf hjk)
          · rw [huniq j k hj hk hjf hkf, hA]
            exact ⟨cs, kk, q, T, vs, g1, hext _ _ g2, g3, by rw [hsame q rfl]; exact g4, hext.concs g5⟩
      · exact ⟨none, fun j' hj' => (by cases hj'), fun e' w' _ _ k hk hkf hks hkk => absurd ⟨k, hk, hkf, hks, hkk⟩ hex⟩
    obtain ⟨q, hq1, hq2⟩ := hprot
    -- on to the rest
    have next : ∀ (e' : Env) (κ' : Nat) (cv : Value) (w' : World), conc e' ((rs.getD i rD).v) = some cv → Ext e e' → XR M0 (ms.getD κ' mD) e0 e' → MR B w0 e' (ms.getD κ' mD) w' →
        ((κ' = κ ∧ ((ds.getD i dD).eff = false ∨ floats ps bs i = true)) ∨ (κ' = κ + 1 ∧ (ds.getD i dD).eff = true ∧ En (fun j => (ds.getD j dD).eff) i = κ)) →
        (∀ j, q = some j → w'.heap[j]? = w.heap[j]?) → (ms.getD κ mD).n ≤ (ms.getD κ' mD).n →
        (floats ps bs i = false → M0.n < (ms.getD κ mD).n → e' M0.n = e M0.n) →
        (floats ps bs i = false → isHeld ((ms.getD κ mD).get M0.n) = true → isHeld ((ms.getD κ' mD).get M0.n) = true) →
        (floats ps bs i = true → κ' ≤ En (fun j => (ds.getD j dD).eff) i → Early B M0.n e' w' (ps.getD i pD) (rs.getD i rD).avs) →
        wpAny P .any ops Q fuel (listed.setIfInBounds i true) (a.put (ps.getD i pD).dst cv) w' := by
      intro e' κ' cv w' hcv hext hxr hmr hκ' hsame hnn hfl0 hheld hearly
      have hmid : Mid B w0 ops ps bs ds rs ms t e0 M0 df (listed.setIfInBounds i true) e' κ' (a.put (ps.getD i pD).dst cv) w' := by
        refine ⟨by simp [hm.size], ?_, hm.come.next hil hSi hSo hκ', hxr, ?_, ?_, hmr, ?_, ?_, ?_, ?_⟩
        · intro k o' hk' ho' ed hed hb
          by_cases hki : k = i
          · subst hki
            rw [ho] at ho'; cases ho'
            have h1 := hdeps ed (by simpa using hed) hb
            by_cases he : ed.on = k
            · rw [he]; exact hSi
            · rw [hSo _ he]; exact h1
          · rw [hSo k hki] at hk'
            have h1 := hm.closed k o' hk' ho' ed hed hb
            by_cases he : ed.on = i
            · rw [he]; exact hSi
            · rw [hSo _ he]; exact h1
        · have hT' := (hm.tm.ext hext).put (ps.getD i pD).dst hcv
          refine hT'.congr fun m => ?_
          have hins := finN_ins (D := fun j => (ds.getD j dD).p.dst) (V := fun j => (rs.getD j rD).v) (S := fun j => listed.getD j false) (S' := fun j => (listed.setIfInBounds i true).getD j false) (t := t) m hS hSi hSo ops.size hil (by
            intro j hij hj hsj hdi hdj
            simp only [hp i hil] at hdi
            simp only [hp j hj] at hdj
            have := hturn.names hd (dst_names hdi) hj hdj
            rw [hsj] at this
            simp at this; omega)
          rw [hins]
          simp only [hp i hil]
        · rw [← hm.defers]; cases (ps.getD i pD).dst <;> rfl
        · intro j hj hjf hs
          have hji : j ≠ i := by rintro rfl; rw [hSi] at hs; cases hs
          rw [hSo j hji] at hs
          have hif : floats ps bs i = false := by
            cases hif : floats ps bs i with
            | false => rfl
            | true => exact absurd (huniq i j hil hj hif hjf) hji
          rw [hfl0 hif (hm.num j hj hjf)]
          exact hm.fl0 j hj hjf hs
        · intro j hj hjf hs hle
          by_cases hji : j = i
          · subst hji; exact hearly hjf hle
          · rw [hSo j hji] at hs
            refine hq2 e' w' hext hsame j hj hjf hs ?_
            rcases hκ' with ⟨rfl, _⟩ | ⟨rfl, _⟩ <;> omega
        · intro j hj hjf hle
          by_cases hif : floats ps bs i = true
          · have := huniq i j hil hj hif hjf
            subst this
            rcases hκ' with ⟨rfl, _⟩ | ⟨rfl, _, h2⟩
            · exact hm.held j hj hjf hle
            · omega
          · have hif' : floats ps bs i = false := by simpa using hif
            refine hheld hif' (hm.held j hj hjf ?_)
            rcases hκ' with ⟨rfl, _⟩ | ⟨rfl, _⟩ <;> omega
        · intro j hj hjf
          have := hm.num j hj hjf
          omega
      obtain ⟨κ'', hmid', hclear⟩ := hmid.clear hd hds hfact
      refine ih _ e' κ'' _ w' ?_ hmid' hclear
      have := En_set (S := fun j => listed.getD j false) (S' := fun j => (listed.setIfInBounds i true).getD j false) hS hSi hSo ops.size
      rw [if_pos hil] at this
      omega
    cases hA : (rs.getD i rD).avs with
    | none =>
      simp only [hA] at hfi
      obtain ⟨g1, g2, g3⟩ := hfi
      have hw : wantedA (ps.getD i pD) (finN (fun j => (ds.getD j dD).p.dst) (fun j => (rs.getD j rD).v) (fun j => listed.getD j false) t ops.size) = false := by
        rw [wantedA_congr hread]; exact g1
      refine wpOp_skip ho hpc hm.tm hw ?_
      have hu : conc e ((rs.getD i rD).v) = some undef := by rw [g2]; simp [undefA, conc, concs, undef]
      by_cases hstay : (ds.getD i dD).eff = false ∨ (floats ps bs i = true ∧ En (fun j => (ds.getD j dD).eff) i ≠ κ)
      · refine next e κ undef w hu (Ext.refl e) hm.xr hm.mr (.inl ⟨rfl, hstay.imp id (·.1)⟩) (fun _ _ => rfl) (Nat.le_refl _) (fun _ _ => rfl) (fun _ h => h) (fun _ _ => ?_)
        rw [hA]; trivial
      · have hie : (ds.getD i dD).eff = true := by
          cases hie : (ds.getD i dD).eff with
          | true => rfl
          | false => exact absurd (.inl hie) hstay
        have hpos : En (fun j => (ds.getD j dD).eff) i = κ := by
          cases hif : floats ps bs i with
          | false => exact hturn.pos hd hf hm.come hcl hie hif
          | true =>
            rcases Nat.decEq (En (fun j => (ds.getD j dD).eff) i) κ with h | h
            · exact absurd (.inr ⟨hif, h⟩) hstay
            · exact h
        have hsn := g3 hie
        rw [hpos] at hsn
        refine next e (κ + 1) undef w hu (Ext.refl e) ?_ ?_ (.inr ⟨rfl, hie, hpos⟩) (fun _ _ => rfl) ?_ (fun _ _ => rfl) (fun _ h => ?_) (fun _ _ => ?_)
        · rw [hsn]; exact hm.xr
        · rw [hsn]; exact hm.mr
        · rw [hsn]; exact Nat.le_refl _
        · rw [hsn]; exact h
        · rw [hA]; trivial
    | some avs =>
      simp only [hA] at hfi
      obtain ⟨g1, g2, g3, g4⟩ := hfi
      have hw : wantedA (ps.getD i pD) (finN (fun j => (ds.getD j dD).p.dst) (fun j => (rs.getD j rD).v) (fun j => listed.getD j false) t ops.size) = true := by
        rw [wantedA_congr hread]; exact g1
      have hev : evalArgs (finN (fun j => (ds.getD j dD).p.dst) (fun j => (rs.getD j rD).v) (fun j => listed.getD j false) t ops.size) (ps.getD i pD).args = some avs := by
        rw [evalArgs_names hread]; exact g2
      cases hif : floats ps bs i with
      | true =>
        have hie : (ds.getD i dD).eff = true := by rw [hf i hil]; exact floats_eff hif
        have hst := g3 hie
        unfold step1 at hst
        rw [hflq i hil, hif] at hst
        simp only [if_true, hp i hil] at hst
        unfold fillI at hst
        split at hst
        · rename_i hh
          cases hnc : newCells (ps.getD i pD).op avs with
          | none => rw [hnc] at hst; cases hst
          | some ck =>
            obtain ⟨cs, k⟩ := ck
            rw [hnc] at hst
            simp only [Option.some.injEq, Prod.mk.injEq] at hst
            obtain ⟨hv1, hM1⟩ := hst
            have hge : κ ≤ En (fun j => (ds.getD j dD).eff) i := by
              rcases Nat.lt_or_ge (En (fun j => (ds.getD j dD).eff) i) κ with h | h
              · have := hm.come.done i hil hie h
                rw [hS] at this; cases this
              · exact h
            have hnone := hm.fl0 i hil hif hS
            have hnum := hm.num i hil hif
            have hheld := hm.held i hil hif hge
            refine wpOp_new ho hpc hm.tm hw hev hnc fun T vs hcs => ?_
            have hplace := hm.mr.place hnone hnum hheld (.cells vs.toArray T)
            have hext : Ext e (e.set M0.n ⟨w.heap.size, 0, 0⟩) := Ext.one hnone _
            have hxr : XR M0 (ms.getD κ mD) e0 (e.set M0.n ⟨w.heap.size, 0, 0⟩) :=
              ⟨hm.xr.n, hm.xr.ext.trans hext, fun b hb => by unfold Env.set; rw [if_neg (by omega)]; exact hm.xr.old b hb⟩
            have hget : (e.set M0.n ⟨w.heap.size, 0, 0⟩) M0.n = some ⟨w.heap.size, 0, 0⟩ := by unfold Env.set; rw [if_pos rfl]
            have hcv : conc (e.set M0.n ⟨w.heap.size, 0, 0⟩) ((rs.getD i rD).v) = some (newV ⟨w.heap.size, 0, none⟩ k) := by
              rw [← hv1]; cases k <;> simp [newAV, newV, conc, hget]
            have hsame : ∀ j, q = some j → (w.alloc (.cells vs.toArray T)).heap[j]? = w.heap[j]? := fun j hj => heap_alloc_old w _ (hq1 j hj).1
            have hnB : ¬ B w.heap.size := fun hb => absurd (hm.mr.base _ hb) (Nat.lt_irrefl _)
            by_cases hpos : En (fun j => (ds.getD j dD).eff) i = κ
            · have hM1' : ms.getD (κ + 1) mD = (ms.getD κ mD).set M0.n (.cells cs 0 true none) := by rw [← hpos]; exact hM1.symm
              refine next _ (κ + 1) _ _ hcv hext ?_ ?_ (.inr ⟨rfl, hie, hpos⟩) hsame ?_ (fun h => by rw [hif] at h; cases h) (fun h => by rw [hif] at h; cases h) (fun _ h => by omega)
              · rw [hM1']; exact ⟨hxr.n, hxr.ext, hxr.old⟩
              · rw [hM1']
                exact hplace.fill hget hnum hheld hnB (heap_alloc_new w _) (hext.concs hcs)
              · rw [hM1']; exact Nat.le_refl _
            · refine next _ κ _ _ hcv hext hxr hplace (.inl ⟨rfl, .inr hif⟩) hsame (Nat.le_refl _) (fun h => by rw [hif] at h; cases h) (fun h => by rw [hif] at h; cases h) (fun _ _ => ?_)
              rw [hA]
              exact ⟨cs, k, w.heap.size, T, vs, hnc, hget, hnB, heap_alloc_new w _, hext.concs hcs⟩
        · cases hst
      | false =>
      have hold : ∀ (e' : Env) (κ' : Nat), XR (ms.getD κ mD) (ms.getD κ' mD) e e' → floats ps bs i = false → M0.n < (ms.getD κ mD).n → e' M0.n = e M0.n := fun e' κ' h _ hlt => h.old _ hlt
      cases hie : (ds.getD i dD).eff with
      | true =>
        have hpos := hturn.pos hd hf hm.come hcl hie hif
        have hst := g3 hie
        rw [hpos] at hst
        unfold step1 at hst
        rw [hflq i hil, hif] at hst
        simp only [Bool.false_eq_true, if_false, hp i hil] at hst
        cases hv : val1 call (ps.getD i pD).op avs (ms.getD κ mD) with
        | none => rw [hv] at hst; cases hst
        | some r =>
          obtain ⟨v, M'⟩ := r
          rw [hv] at hst
          simp only at hst
          split at hst
          · cases hst
          · rename_i hkeep
            simp only [Option.some.injEq, Prod.mk.injEq] at hst
            obtain ⟨hv1, hM1⟩ := hst
            rw [hv1, hM1] at hv
            rw [hM1] at hkeep
            refine wpOp_both hcall q ho hpc hm.tm hm.mr hq1 hw hev hv fun e' cv w' h1 h2 h3 h4 => ?_
            refine next e' (κ + 1) cv w' h2 h1.ext (hm.xr.trans h1) h3 (.inr ⟨rfl, hie, hpos⟩) h4 h1.n (hold e' (κ + 1) h1) (fun _ h => ?_) (fun h => by rw [hif] at h; cases h)
            cases hx : isHeld ((ms.getD (κ + 1) mD).get M0.n) with
            | true => rfl
            | false => rw [h, hx] at hkeep; exact absurd rfl hkeep
      | false =>
        obtain ⟨M1, hop, hn⟩ := g4 hie
        have heff : isEff (ps.getD i pD).op = false := by rw [← hf i hil]; exact hie
        have hval : ∃ M2, val1 call (ps.getD i pD).op avs (ms.getD κ mD) = some ((rs.getD i rD).v, M2) ∧ M2 = ms.getD κ mD := by
          cases hld : isLoad (ps.getD i pD).op with
          | false =>
            have := opI_pure heff hld hop hn (ms.getD κ mD)
            exact ⟨_, by unfold val1; rw [this], rfl⟩
          | true =>
            have hb := hturn.bounds hd hf hm.come hld
            have hb0 := (Turn.text hd hil).bounds hd (κ := En (fun j => (ds.getD j dD).eff) i) hf ⟨En_le _ (Nat.le_of_lt hil), fun j hj hje h => by
                simp only [decide_eq_true_eq]
                rcases Nat.lt_or_ge j i with h' | h'
                · exact h'
                · have := En_le (fun j => (ds.getD j dD).eff) h'; omega, fun j hj hje _ h => by
                simp only [decide_eq_true_eq] at h
                exact En_lt _ h hje⟩ hld
            have hop' : ∃ M', opI (ps.getD i pD).op avs (ms.getD κ mD) = some (.val (rs.getD i rD).v M') := by
              unfold checkRec at hci
              simp only [hA, hrdi, hds i hil, Bool.or_eq_true, Bool.not_eq_true', beq_iff_eq] at hci
              rcases hci with ((h | h) | h) | h
              · rw [show (mkDraw ps bs i (ps.getD i pD)).eff = isEff (ps.getD i pD).op from rfl, heff] at h; cases h
              · rw [show (mkDraw ps bs i (ps.getD i pD)).p = ps.getD i pD from rfl, hld] at h; cases h
              · have : En (fun j => (ds.getD j dD).eff) i = κ := by omega
                rw [this] at hop; exact ⟨_, hop⟩
              · obtain ⟨M', k1, _⟩ := sameAt_at h (κ - (mkDraw ps bs i (ps.getD i pD)).lo) (by omega)
                rw [show (mkDraw ps bs i (ps.getD i pD)).lo + (κ - (mkDraw ps bs i (ps.getD i pD)).lo) = κ by omega] at k1
                exact ⟨M', k1⟩
            obtain ⟨M', hop'⟩ := hop'
            have := load_same hld hop'
            subst this
            exact ⟨_, by unfold val1; rw [hop'], rfl⟩
        obtain ⟨M2, hv, rfl⟩ := hval
        refine wpOp_both hcall q ho hpc hm.tm hm.mr hq1 hw hev hv fun e' cv w' h1 h2 h3 h4 => ?_
        exact next e' κ cv w' h2 h1.ext (hm.xr.trans h1) h3 (.inl ⟨rfl, .inl hie⟩) h4 (Nat.le_refl _) (hold e' κ h1) (fun _ h => h) (fun h => by rw [hif] at h; cases h)

/-- A block's number, for one that is to come. -/
theorem MR.pushHeld [Val] {e : Env} {M : AMem} {w : World} (h : MR B w0 e M w) : MR B w0 e (M.push .held) w := by
  have hget : ∀ m, (M.push .held).get m = if m = M.n then some .held else M.get m := fun m => Tr.get_push M.t M.n .held m h.full
  have hnone := h.fresh M.n (Nat.le_refl _)
  have hne : ∀ b x, e b = some x → b ≠ M.n := by rintro b x hx rfl; rw [hnone] at hx; cases hx
  refine ⟨fun b hb => h.fresh b (by simp only [AMem.push] at hb; omega), Tr.full_push h.full .held, h.below, h.base, ?_, ?_, ?_, h.room, h.ro⟩
  · intro b k x hk hx
    rw [hget, if_neg (hne b x hx)] at hk
    exact h.blocks b k x hk hx
  · intro b k x hk hx hw
    rw [hget, if_neg (hne b x hx)] at hk
    exact h.own b k x hk hx hw
  · intro b b' k k' x x' hbb hk hk' hx hx' he
    rw [hget, if_neg (hne b x hx)] at hk
    rw [hget, if_neg (hne b' x' hx')] at hk'
    exact h.sep b b' k k' x x' hbb hk hk' hx hx' he

theorem drawCore [Val] (P : Program) (call : FuncId → List AV → AMem → Option (AV × AMem)) (hcall : CallSound P call) (ops : Array Oper) (ds : List DInstr) (hc : compRegion0 P ops true = some (.drawR ds))
    (B : Nat → Prop) (w0 : World) (e : Env) (M : AMem) (w : World) (t : Tr AV) (a : Act) (t' : Tr AV) (M' : AMem) (Q : Exit → Act → World → Prop)
    (hT : TM e t a.tmps) (hm : MR B w0 e M w) (hr : runDraw call ds t M = some (t', M'))
    (hQ : ∀ e' a' w', XR M M' e e' → TM e' t' a'.tmps → a'.defers = a.defers → MR B w0 e' M' w' → Q .normal a' w') :
    P.follows .mixedOrders = true ∧ wpAny P .any ops Q ops.size (Array.replicate ops.size false) a { w with drawn := w.drawn + 1 } := by
  obtain ⟨ps, bs, hd, hlen, hds⟩ := compRegion_draw' hc
  unfold runDraw at hr
  cases htr : trace call M.n ds t (if ds.any (·.fl) = true then M.push .held else M) with
  | none => rw [htr] at hr; cases hr
  | some q =>
    obtain ⟨rs, ms, t1⟩ := q
    rw [htr] at hr
    simp only at hr
    split at hr
    · rename_i hchk
      cases hla : ms.getLast? with
      | none => rw [hla] at hr; cases hr
      | some M1 =>
        rw [hla] at hr
        simp only [Option.some.injEq, Prod.mk.injEq] at hr
        obtain ⟨rfl, rfl⟩ := hr
        obtain ⟨i1, i2, i3, i4, i5, i6⟩ := trace_facts call M.n ds t _ rs ms t1 htr
        rw [hlen] at i1 i2 i3 i5 i6
        have hlast : ms.getD (En (fun j => (ds.getD j dD).eff) ops.size) mD = M1 := by
          rw [List.getLast?_eq_getElem?, i3] at hla
          simp only [Nat.add_sub_cancel] at hla
          rw [List.getD_eq_getElem?_getD, hla]; rfl
        have hany : ∀ j, j < ops.size → floats ps bs j = true → ds.any (·.fl) = true := by
          intro j hj hjf
          rw [List.any_eq_true]
          refine ⟨ds.getD j dD, ?_, by rw [hds j hj]; exact hjf⟩
          rw [List.getD_eq_getElem?_getD, List.getElem?_eq_getElem (by omega)]
          exact List.getElem_mem _
        have hno : ∀ k, (Array.replicate ops.size false).getD k false = false := by
          intro k; simp [Array.getD]
        refine ⟨hd.any, ?_⟩
        refine draw_go (B := B) (w0 := w0) (e0 := e) (M0 := M) (df := a.defers) hcall hd hds i6 (fun i hi => ?_) i2 (fun e' a' w' h1 h2 h3 h4 => ?_) ops.size _ e 0 a _ ?_ ⟨by simp, ?_, ⟨Nat.zero_le _, ?_, ?_⟩, ?_, ?_, rfl, ?_, ?_, ?_, ?_, ?_⟩ ?_
        · rw [List.all_eq_true] at hchk
          refine hchk _ ?_
          rw [List.getD_eq_getElem?_getD, List.getElem?_eq_getElem (by omega)]
          exact List.getElem_mem _
        · rw [hlast] at h1 h4
          rw [← i5] at h2
          exact hQ e' a' w' h1 h2 h3 h4
        · have : ∀ n, En (fun j => !(Array.replicate ops.size false).getD j false) n ≤ n := by
            intro n
            induction n with
            | zero => simp [En]
            | succ n ih => simp only [En]; split <;> omega
          exact this _
        · intro k o hk
          rw [hno] at hk; cases hk
        · intro j hj _ h; omega
        · intro j hj _ _ h
          simp only [hno] at h; cases h
        · rw [i4]
          split
          · exact ⟨by simp [AMem.push], Ext.refl e, fun _ _ => rfl⟩
          · exact XR.refl M e
        · refine hT.congr fun m => ?_
          have : ∀ n, finN (fun j => (ds.getD j dD).p.dst) (fun j => (rs.getD j rD).v) (fun j => (Array.replicate ops.size false).getD j false) t n = t := by
            intro n
            induction n with
            | zero => rfl
            | succ n ih =>
              simp only [finN]
              rw [if_neg (by rw [hno]; exact Bool.false_ne_true), ih]
          rw [this]
        · rw [i4]
          split
          · exact (hm.drawn _).pushHeld
          · exact hm.drawn _
        · intro j _ _ _
          exact hm.fresh _ (Nat.le_refl _)
        · intro j _ _ h
          rw [hno] at h; cases h
        · intro j hj hjf _
          rw [i4, if_pos (hany j hj hjf)]
          have : (M.push .held).get M.n = some .held := by
            rw [show (M.push .held).get M.n = if M.n = M.n then some .held else M.get M.n from Tr.get_push M.t M.n .held M.n hm.full, if_pos rfl]
          rw [this]; rfl
        · intro j hj hjf
          rw [i4, if_pos (hany j hj hjf)]
          simp [AMem.push]
        · intro j hj hjf h
          rw [hno] at h; cases h
    · cases hr
/-! Another order of the operations. -/
theorem wpAny_perm {P : Program} {ops ops' : Array Oper} {Q : Exit → Act → World → Prop} {r π : Nat → Nat} (hsz : ops'.size = ops.size)
    (h1 : ∀ i, i < ops.size → r i < ops.size ∧ π (r i) = i) (h2 : ∀ k, k < ops.size → π k < ops.size ∧ r (π k) = k) (h3 : ∀ j, ops.size ≤ j → ops.size ≤ r j)
    (hop : ∀ i o, ops[i]? = some o → ∃ o', ops'[r i]? = some o' ∧ o'.dst = o.dst ∧ o'.after = o.after.map (fun e => { e with on := r e.on }) ∧ o'.guard = o.guard.map (fun g => (r g.1, g.2)) ∧ (∀ a w next, o'.wp P a w next Q = o.wp P a w next Q) ∧ ∀ a w, o'.asks P a w = o.asks P a w) :
    ∀ (fuel : Nat) (listed listed' : Array Bool) (a : Act) (w : World), listed.size = ops.size → listed'.size = ops.size → (∀ j, listed'.getD (r j) false = listed.getD j false) → wpAny P .any ops' Q fuel listed' a w → wpAny P .any ops Q fuel listed a w := by
  have hinj : ∀ i j, i < ops.size → r i = r j → i = j := fun i j hi he => by
    rcases Nat.lt_or_ge j ops.size with hj | hj
    · rw [← (h1 i hi).2, he, (h1 j hj).2]
    · have := h3 j hj
      have := (h1 i hi).1
      omega
  have hft : ∀ (l : Array Bool) k, k < l.size → l.getD k true = l.getD k false := fun l k hk => by simp [Array.getD, hk]
  have hrd : ∀ (listed listed' : Array Bool), listed.size = ops.size → listed'.size = ops.size → (∀ j, listed'.getD (r j) false = listed.getD j false) → ∀ i, i < ops.size → (i ∈ Region.ready .any ops listed ↔ r i ∈ Region.ready .any ops' listed') := by
    intro listed listed' hs hs' hl i hi
    rw [mem_ready, mem_ready, hft _ _ (by rw [hs]; exact hi), hft _ _ (by rw [hs']; exact (h1 i hi).1), hl i]
    refine and_congr_right fun _ => ?_
    constructor
    · rintro ⟨o, ho, hd⟩
      obtain ⟨o', ho', _, ha, _⟩ := hop i o ho
      refine ⟨o', ho', fun e he hb => ?_⟩
      rw [ha, Array.mem_map] at he
      obtain ⟨e0, he0, rfl⟩ := he
      rw [hl]
      exact hd e0 he0 hb
    · rintro ⟨o', ho', hd⟩
      obtain ⟨o, ho⟩ : ∃ o, ops[i]? = some o := ⟨_, Array.getElem?_eq_getElem hi⟩
      obtain ⟨o2, ho2, _, ha, _⟩ := hop i o ho
      rw [ho'] at ho2
      cases ho2
      refine ⟨o, ho, fun e he hb => ?_⟩
      have := hd { e with on := r e.on } (by rw [ha]; exact Array.mem_map.2 ⟨e, he, rfl⟩) hb
      rwa [hl] at this
  have hnil : ∀ (listed listed' : Array Bool), listed.size = ops.size → listed'.size = ops.size → (∀ j, listed'.getD (r j) false = listed.getD j false) → Region.ready .any ops listed = [] → Region.ready .any ops' listed' = [] := by
    intro listed listed' hs hs' hl h
    rw [List.eq_nil_iff_forall_not_mem]
    intro k hk
    have hkl : k < ops.size := by
      obtain ⟨_, o, ho, _⟩ := mem_ready.1 hk
      have := (Array.getElem?_eq_some_iff.1 ho).1
      omega
    obtain ⟨p1, p2⟩ := h2 k hkl
    have := (hrd listed listed' hs hs' hl (π k) p1).2 (by rw [p2]; exact hk)
    rw [h] at this
    cases this
  have hy : ∀ (tm : Array Value) j, yielded ops' tm (r j) = yielded ops tm j := by
    intro tm j
    unfold yielded
    rcases Nat.lt_or_ge j ops.size with hj | hj
    · obtain ⟨o, ho⟩ : ∃ o, ops[j]? = some o := ⟨_, Array.getElem?_eq_getElem hj⟩
      obtain ⟨o', ho', hd, _⟩ := hop j o ho
      rw [ho, ho', Option.bind_some, Option.bind_some, hd]
    · rw [Array.getElem?_eq_none hj, Array.getElem?_eq_none (by have := h3 j hj; omega)]
  intro fuel
  induction fuel with
  | zero =>
    intro listed listed' a w hs hs' hl h
    refine ⟨?_, h.2⟩
    rw [List.eq_nil_iff_forall_not_mem]
    intro i hi
    have hil : i < ops.size := by
      obtain ⟨_, o, ho, _⟩ := mem_ready.1 hi
      exact (Array.getElem?_eq_some_iff.1 ho).1
    have := (hrd listed listed' hs hs' hl i hil).1 hi
    rw [h.1] at this
    cases this
  | succ fuel ih =>
    intro listed listed' a w hs hs' hl h
    refine ⟨fun hr => h.1 (hnil listed listed' hs hs' hl hr), fun i hi => ?_⟩
    have hil : i < ops.size := by
      obtain ⟨_, o, ho, _⟩ := mem_ready.1 hi
      exact (Array.getElem?_eq_some_iff.1 ho).1
    have hw := h.2 (r i) ((hrd listed listed' hs hs' hl i hil).1 hi)
    obtain ⟨o, ho⟩ : ∃ o, ops[i]? = some o := ⟨_, Array.getElem?_eq_getElem hil⟩
    obtain ⟨o', ho', hd, _, hg, hwp, has⟩ := hop i o ho
    have hk : ∀ a w, wpAny P .any ops' Q fuel (listed'.setIfInBounds (r i) true) a w → wpAny P .any ops Q fuel (listed.setIfInBounds i true) a w := fun a w => by
      refine ih _ _ a w (by simpa using hs) (by simpa using hs') fun j => ?_
      rw [Array.getD_eq_getD_getElem?, Array.getD_eq_getD_getElem?, Array.getElem?_setIfInBounds, Array.getElem?_setIfInBounds]
      by_cases hij : i = j
      · subst hij
        rw [if_pos rfl, if_pos rfl, if_pos (by rw [hs']; exact (h1 i hil).1), if_pos (by rw [hs]; exact hil)]
      · rw [if_neg (fun he => hij (hinj i j hil he)), if_neg hij, ← Array.getD_eq_getD_getElem?, ← Array.getD_eq_getD_getElem?, hl]
    have hw' := wpOp_mono hk hw
    unfold wpOp at hw' ⊢
    rw [ho'] at hw'
    rw [ho]
    simp only at hw' ⊢
    have hwt : Region.wanted o' (yielded ops' a.tmps) = Region.wanted o (yielded ops a.tmps) := by
      unfold Region.wanted
      rw [hg]
      cases o.guard with
      | none => rfl
      | some g => simp only [Option.map_some]; rw [hy]
    rw [hwt, hd, hwp, has] at hw'
    exact hw'
theorem permOk_spec {ord : List Nat} {n : Nat} (h : permOk ord n = true) : ord.length = n ∧ ∀ k, k < n → ord.getD k n < n ∧ ord.idxOf (ord.getD k n) = k ∧ ord.idxOf k < n ∧ ord.getD (ord.idxOf k) n = k := by
  unfold permOk at h
  rw [Bool.and_eq_true, beq_iff_eq, List.all_eq_true] at h
  refine ⟨h.1, fun k hk => ?_⟩
  have := h.2 k (List.mem_range.2 hk)
  simp only [Bool.and_eq_true, decide_eq_true_eq, beq_iff_eq] at this
  exact ⟨this.1.1.1, this.1.1.2, this.1.2, this.2⟩
theorem renO_wp {P : Program} {Q : Exit → Act → World → Prop} {ord : List Nat} {o : Oper} (a : Act) (w : World) (next : Act → World → Prop) : (renO ord o).wp P a w next Q = o.wp P a w next Q := rfl
theorem renO_asks {P : Program} {ord : List Nat} {o : Oper} (a : Act) (w : World) : (renO ord o).asks P a w = o.asks P a w := rfl
theorem drawSound [Val] (P : Program) : DrawSound P := by
  intro call hcall ops ds id hc B w0 e M w t a t' M' Q hT hm hr hQ
  rcases compRegion_cases hc with hc | ⟨hp, hc⟩
  · obtain ⟨h1, h2⟩ := drawCore P call hcall ops ds hc B w0 e M w t a t' M' Q hT hm hr hQ
    exact wp_region_any h1 h2
  · obtain ⟨h1, h2⟩ := drawCore P call hcall _ ds hc B w0 e M w t a t' M' Q hT hm hr hQ
    obtain ⟨hl, hs⟩ := permOk_spec hp
    generalize sunk P ops = ord at *
    have hsz : (permO ops ord).size = ops.size := by simp [permO, hl]
    rw [hsz] at h2
    have hge : ∀ j, ops.size ≤ j → ops.size ≤ ord.idxOf j := fun j hj => by
      rcases Nat.lt_or_ge (ord.idxOf j) ops.size with h | h
      · have hm : j ∈ ord := List.idxOf_lt_length_iff.1 (by omega)
        have e1 := hs (ord.idxOf j) h
        have e2 : ord.getD (ord.idxOf j) ops.size = j := by
          rw [List.getD_eq_getElem?_getD, List.getElem?_eq_getElem (by omega)]
          simp
        rw [e2] at e1
        omega
      · exact h
    refine wp_region_any h1 (wpAny_perm (ops' := permO ops ord) (r := fun i => ord.idxOf i) (π := fun k => ord.getD k ops.size) hsz (fun i hi => ⟨(hs i hi).2.2.1, (hs i hi).2.2.2⟩) (fun k hk => ⟨(hs k hk).1, (hs k hk).2.1⟩) hge (fun i o ho => ?_) ops.size (Array.replicate ops.size false) (Array.replicate ops.size false) a _ (by simp) (by simp) (fun j => by simp [Array.getD]) h2)
    have hil := (Array.getElem?_eq_some_iff.1 ho).1
    refine ⟨renO ord o, ?_, rfl, rfl, rfl, fun _ _ _ => rfl, fun _ _ => rfl⟩
    obtain ⟨_, _, k1, k2⟩ := hs i hil
    have k3 : ord[ord.idxOf i]? = some i := by
      rw [List.getD_eq_getElem?_getD, List.getElem?_eq_getElem (by omega)] at k2
      rw [List.getElem?_eq_getElem (by omega)]
      simp
    simp only [permO, List.getElem?_toArray, List.getElem?_map, k3, Option.map_some]
    rw [List.getD_eq_getElem?_getD, Array.getElem?_toList, ho]
    rfl
end
end Go.Vx
