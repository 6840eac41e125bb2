/- Which addings are named: walked over the model's own code, for the loop over the map comes in any order. -/
import Derived.Test.YtpbejdlpkpehlaaBgLack
namespace Go.Proofs.Ytpbejdlpkpehlaa.bag
open Go Go.Vx
theorem formN : ∃ (A1 A2 R A3 A4 Z cb : Code), Try.f19.body = some (.seq A1 (.seq A2 (.seq R (.seq A3 (.seq A4 Z))))) ∧ RS Try.prog R 0 1 13 14 16 15 (.tmp 12) [⟨.move, [.tmp 1], some 12, none⟩] [⟨.extract 0, [.tmp 14], some 15, none⟩] [⟨.extract 1, [.tmp 16], some 17, none⟩, ⟨.move, [.tmp 17], some 7, none⟩] cb :=
  ⟨_, _, _, _, _, _, _, rfl, ⟨⟨_, _, _, _, _, _, _, _, _, _, _, _, _, rfl, ⟨rfl, ⟨⟨_, rfl, by kernel_rfl⟩, trivial⟩, rfl, ⟨rfl, rfl, rfl⟩, rfl, Try.underlying50⟩, ⟨rfl, ⟨⟨_, rfl, by kernel_rfl⟩, trivial⟩, rfl, ⟨rfl, rfl, rfl⟩⟩, ⟨rfl, ⟨⟨_, rfl, by kernel_rfl⟩, ⟨_, rfl, by kernel_rfl⟩, trivial⟩, rfl, ⟨rfl, rfl, rfl⟩⟩⟩⟩⟩
/-- the numbers of the addings that are named: those that ended, and those that somebody was given -/
def namB (vals : List Int) (i : Nat) (s : Sn) : Bool := addB s && (decide (s.to ≥ 0) || decide ((i : Int) ∈ vals))
def namedU (vals : List Int) : List Sn → Nat → List Nat
  | [], _ => []
  | s :: l, i => (if namB vals i s then [i] else []) ++ namedU vals l (i + 1)
def namedT (vals : List Int) (l : List Sn) (i : Nat) : List Nat := namedU vals (l.take i) 0
theorem namedU_append (vals : List Int) (s : Sn) : ∀ (l : List Sn) (i : Nat), namedU vals (l ++ [s]) i = namedU vals l i ++ if namB vals (i + l.length) s then [i + l.length] else []
  | [], i => by simp [namedU]
  | x :: l, i => by
    rw [List.cons_append, namedU, namedU, namedU_append vals s l (i + 1), List.append_assoc, List.length_cons, show i + 1 + l.length = i + (l.length + 1) by omega]
theorem namedT_succ {vals : List Int} {l : List Sn} {i : Nat} (h : i < l.length) : namedT vals l (i + 1) = namedT vals l i ++ if namB vals i l[i] then [i] else [] := by
  unfold namedT
  rw [List.take_add_one, List.getElem?_eq_getElem h]
  show namedU vals (l.take i ++ [l[i]]) 0 = _
  rw [namedU_append, Nat.zero_add, List.length_take, Nat.min_eq_left (by omega)]
theorem namedT_len (vals : List Int) (l : List Sn) : ∀ i, i ≤ l.length → (namedT vals l i).length ≤ i
  | 0, _ => by simp [namedT, namedU]
  | i + 1, h => by
    have := namedT_len vals l i (by omega)
    rw [namedT_succ (by omega), List.length_append]
    split <;> simp <;> omega
abbrev ints (l : List Nat) : List AV := l.map fun (i : Nat) => AV.int .i64 (i : Int)
theorem ints_flat (l : List Nat) : (l.map fun (i : Nat) => [AV.int .i64 (i : Int)]).flatten = ints l := by
  induction l with
  | nil => rfl
  | cons x l ih => simp [ih]
/-- the row that came of it: nothing, or a row of its own -/
def NRow (M K : AMem) (ov : AV) (out : List Nat) : Prop := (out = [] ∧ ov = .slice none 0 0 false) ∨ (out ≠ [] ∧ ∃ b g, ov = .slice (some (b, 0)) out.length out.length true ∧ M.n ≤ b ∧ K.get b = some (.cells (ints out) 1 true g) ∧ ∀ γ, g = some γ → M.n ≤ γ)
theorem NRow.fresh {M K : AMem} {ov : AV} {out : List Nat} (h : NRow M K ov out) : FreshE M K 1 ov (out.map fun (i : Nat) => [AV.int .i64 (i : Int)]) := by
  rcases h with ⟨rfl, rfl⟩ | ⟨hne, b, g, rfl, h1, h2, h3⟩
  · exact .inr ⟨rfl, rfl⟩
  · refine .inl ⟨b, true, 1, g, by rw [List.length_map], h1, by rw [ints_flat]; exact h2, fun _ => rfl, h3, fun e he => ?_, by rw [ints_flat]; simp [one_int]⟩
    obtain ⟨i, _, rfl⟩ := List.mem_map.1 he
    rfl
theorem NRow.keep {M K K' : AMem} {ov : AV} {out : List Nat} (h : NRow M K ov out) (hk : ∀ c, sbOf ov = some c → K'.get c = K.get c) : NRow M K' ov out := by
  rcases h with h | ⟨hne, b, g, rfl, h1, h2, h3⟩
  · exact .inl h
  · exact .inr ⟨hne, b, g, rfl, h1, (hk b rfl).trans h2, h3⟩
theorem step_of {M A B : AMem} (hA : Step M A) (hn : A.n ≤ B.n) (hg : B.g = A.g) (hok : Okg B) (hnh : ∀ b, M.n ≤ b → isHeld (B.get b) = false) (hs : ∀ c, c < M.n → B.get c = A.get c) : Step M B :=
  ⟨⟨Nat.le_trans hA.grow.n hn, fun b hb => (hs b hb).trans (hA.grow.get b hb), hg.trans hA.grow.g, fun _ => hok.1⟩, hok, hnh⟩
abbrev givenE (given : List (Int × Int)) : List (Int × AV) := given.map fun p => (p.1, AV.int .i64 p.2)
def boolsE (keys : List Int) : List (Int × AV) := keys.map fun x => (x, AV.bool true)
set_option maxRecDepth 20000 in
set_option maxHeartbeats 16000000 in
theorem named_calls [Val] {M : AMem} {lv : AV} {l : List Sn} {gb : Nat} {given : List (Int × Int)} (hok : Okg M) (hh : ∀ b, isHeld (M.get b) = false) (hl : SnR M lv l) (hgv : M.get gb = some (.map (ents .i64 (givenE given)))) (hn : l.length ≤ 90000) :
    hasBody Try.prog 19 = true ∧ ∀ (B : Nat → Prop) (w0 : World) (e : Env) (w : World) (cargs : List Value), concs e [lv, .map (some gb)] = some cargs → MR B w0 e M w →
      Calls Try.prog 19 cargs.toArray w fun en w' => ∃ r K e' v, (Step M K ∧ NRow M K r (namedT (given.map (·.2)) l l.length)) ∧ XR M K e e' ∧ en = .returned v ∧ conc e' r = some v ∧ MR B w0 e' K w' := by
  obtain ⟨A1, A2, R, A3, A4, Z, cb, hb, hR⟩ := formN
  obtain ⟨hcc, hrs, hnt⟩ := body_of hb c19_ok
  obtain ⟨k1, hcc⟩ := comp_seq hcc
  obtain ⟨k2, hcc⟩ := comp_seq hcc
  obtain ⟨k3, hcc⟩ := comp_seq hcc
  obtain ⟨k4, hcc⟩ := comp_seq hcc
  obtain ⟨k5, k6⟩ := comp_seq hcc
  have hcall : CallSound Try.prog (callF noT code 100000 5) := callF_ok (drawSound _) noT_ok codeOk 100000 5
  refine ⟨c19_body, fun B w0 e w cargs hc hm => ?_⟩
  refine calls_of_MW (R := fun x K => Step M K ∧ NRow M K x (namedT (given.map (·.2)) l l.length)) Try.func19 hb hrs (by rw [← hnt]; exact (by decide : (2 : Nat) ≤ 45)) ?_ B w0 e w cargs hc hm
  rw [← hnt]
  show MW Try.prog _ (setArgs (Tr.ofList (List.replicate 45 undefA)) 0 [lv, .map (some gb)]) M _
  obtain ⟨hd, ha⟩ := args_tr (args := [lv, .map (some gb)]) (n := 45) (by simp)
  generalize setArgs (Tr.ofList (List.replicate 45 undefA)) 0 [lv, .map (some gb)] = t at hd ha ⊢
  have h0 := ha 0 _ rfl
  have h1 := ha 1 _ rfl
  clear ha
  have hgl : gb < M.n := get_lt hok.1 hgv
  refine MW_seq (MW_of (drawSound _) hcall (N := 100000) k1 (W_seqR (by simp only [runSeq_cons, runSeq_nil, evalArgs_nil, evalArgs_const, val1, putT, opI_move]; rfl) ?_))
  have mm : opI .makeMap [] M = some (.val (.map (some M.n)) (M.push (.map (ents .i64 [])))) := rfl
  have s2 : Step M (M.push (.map (ents .i64 []))) := (Step.refl hok).push (fun _ _ _ _ he => by cases he)
  have g2 := get_push_self (k := .map (ents .i64 [])) hok.1
  have gv2 := (get_push_old (k := .map (ents .i64 [])) hok.1 hgl).trans hgv
  have n2 : (M.push (.map (ents .i64 []))).n = M.n + 1 := push_n
  refine MW_seq (MW_of (drawSound _) hcall (N := 100000) k2 (W_seqR (by simp only [runSeq_cons, runSeq_nil, evalArgs_nil, evalArgs_tmp, val1, putT, Tr.get_set_self, Tr.get_set_ne, hd _, ne_eq, Nat.reduceEqDiff, not_false_eq_true, decide_true, Nat.reduceLT, opI_move, mm]; rfl) ?_))
  generalize M.push (.map (ents .i64 [])) = K2 at *
  have hh2 : ∀ b, isHeld (K2.get b) = false := fun b => by
    by_cases hlt : b < M.n
    · rw [s2.grow.get b hlt]; exact hh b
    · exact s2.nh b (by omega)
  have hlen : (ents .i64 (givenE given)).length = given.length := by simp [ents]
  show MW _ _ _ _ _
  -- who was given one
  refine MW_seq (MW_rangeS hcall (drawSound _) (N := 100000) hR k3 (by decide) (by simp only [runSeq_cons, runSeq_nil, evalArgs_nil, evalArgs_tmp, val1, putT, Tr.get_set_ne, ne_eq, Nat.reduceEqDiff, not_false_eq_true, opI_move, h1]; rfl) (by simp only [PArg.eval, Tr.get_set_self, Tr.get_set_ne, hd _, ne_eq, Nat.reduceEqDiff, not_false_eq_true, decide_true, Nat.reduceLT]; try rfl) gv2
    (fun p done t K' => Dom t 45 ∧ t.get 0 = some lv ∧ t.get 4 = some (.slice none 0 0 false) ∧ t.get 5 = some (.map (some M.n)) ∧ t.get 13 = some (.rptr p) ∧ Okg K' ∧ (∀ b, isHeld (K'.get b) = false) ∧ K'.n = K2.n ∧ K'.g = K2.g ∧ K'.get gb = some .dead ∧ (∀ c, c < M.n → c ≠ gb → K'.get c = K2.get c) ∧
      ∃ es, K'.get M.n = some (.map (ents .i64 es)) ∧ ∀ y, asg y es = if y ∈ done.map (fun i => (given.getD i (0, 0)).2) then some (.bool true) else none) (fun p => ?_) (fun p d t K' h => h.2.2.2.2.1) ?_ ?_)
  · refine ⟨by unfold putT; ((repeat (with_reducible apply Dom.set)); exact hd), by simp only [putT, Tr.get_set_ne, ne_eq, Nat.reduceEqDiff, not_false_eq_true, h0], by simp only [putT, Tr.get_set_self, Tr.get_set_ne, hd _, ne_eq, Nat.reduceEqDiff, not_false_eq_true, decide_true, Nat.reduceLT], by simp only [putT, Tr.get_set_self, Tr.get_set_ne, hd _, ne_eq, Nat.reduceEqDiff, not_false_eq_true, decide_true, Nat.reduceLT]; try rfl, by simp only [putT, Tr.get_set_self, Tr.get_set_ne, hd _, ne_eq, Nat.reduceEqDiff, not_false_eq_true, decide_true, Nat.reduceLT]; try rfl, ⟨s2.ok.1.set _ _, fun b cs sz wr g hb => ?_⟩, fun b => ?_, set_n, set_g, by rw [get_set_mem gv2, if_pos rfl], fun c hc hne => by rw [get_set_mem gv2, if_neg hne], [], by rw [get_set_mem gv2, if_neg (by omega)]; exact g2, fun y => by simp [asg]⟩
    · rw [get_set_mem gv2] at hb
      split at hb
      · cases hb
      · exact s2.ok.2 b cs sz wr g hb
    · rw [get_set_mem gv2]
      split
      · rfl
      · exact hh2 b
  · rintro p done i t K' hi hnd2 hndd hbd ⟨hd, h0, h4, h5, h13, ok', nh', hn', hg', hdead, hold, es, hes, hasg⟩
    rw [hlen] at hi
    have hgi : given.getD i (0, 0) = given[i] := by rw [List.getD_eq_getElem?_getD, List.getElem?_eq_getElem hi]; rfl
    obtain ⟨x, hx⟩ : ∃ x, given[i].2 = x := ⟨_, rfl⟩
    have hM0 : M.n < K'.n := get_lt ok'.1 hes
    obtain ⟨es', u1, u2, u3, u4, u5⟩ := update_own (x := x) (v := .bool true) (⟨⟨Nat.zero_le _, fun b hb => absurd hb (Nat.not_lt_zero _), rfl, fun _ => ok'.1⟩, ok', fun b _ => nh' b⟩ : Step ⟨.nil, 0, K'.g⟩ K') (Nat.zero_le _) hes
    refine ⟨(.int .i64 given[i].1, .int .i64 x), ?_, _, _, _, by simp only [runSeq_cons, runSeq_nil, evalArgs_nil, evalArgs_tmp, val1, putT, Tr.get_set_self, hd _, decide_true, Nat.reduceLT, opI_extract, List.getElem?_cons_zero]; rfl, by simp only [Tr.get_set_ne, ne_eq, Nat.reduceEqDiff, not_false_eq_true, h13], by simp only [Tr.get_set_self, Tr.get_set_ne, hd _, ne_eq, Nat.reduceEqDiff, not_false_eq_true, decide_true, Nat.reduceLT]; try rfl, by simp only [runSeq_cons, runSeq_nil, evalArgs_nil, evalArgs_tmp, val1, putT, Tr.get_set_self, Tr.get_set_ne, hd _, ne_eq, Nat.reduceEqDiff, not_false_eq_true, decide_true, Nat.reduceLT, opI_move, opI_extract, List.getElem?_cons_zero, List.getElem?_cons_succ]; rfl, ?_⟩
    · simp only [ents, givenE, List.map_map]
      rw [List.getElem?_map, List.getElem?_eq_getElem hi, ← hx]; rfl
    · refine W_seqR (by simp only [runSeq_cons, runSeq_nil, evalArgs_nil, evalArgs_tmp, evalArgs_const, val1, putT, Tr.get_set_self, Tr.get_set_ne, hd _, ne_eq, Nat.reduceEqDiff, not_false_eq_true, decide_true, Nat.reduceLT, opI_move, h5, u1]; rfl) ?_
      refine ⟨.inl rfl, by ((repeat (with_reducible apply Dom.set)); exact hd), by simp only [Tr.get_set_ne, ne_eq, Nat.reduceEqDiff, not_false_eq_true, h0], by simp only [Tr.get_set_ne, ne_eq, Nat.reduceEqDiff, not_false_eq_true, h4], by simp only [Tr.get_set_ne, ne_eq, Nat.reduceEqDiff, not_false_eq_true, h5], by simp only [Tr.get_set_ne, ne_eq, Nat.reduceEqDiff, not_false_eq_true, h13], u3.ok, fun b => u3.nh b (Nat.zero_le _), by rw [set_n]; exact hn', by rw [set_g]; exact hg', by rw [get_set_mem hes, if_neg (by omega)]; exact hdead, fun c hc hne => by rw [get_set_mem hes, if_neg (by omega)]; exact hold c hc hne, es', u4, fun y => ?_⟩
      rw [u2, hasg, List.map_append, List.map_cons, List.map_nil, hgi, hx]
      by_cases hy : y = x
      · rw [if_pos hy, if_pos (by simp [hy])]
      · rw [if_neg hy]
        have : (y ∈ done.map (fun i => (given.getD i (0, 0)).2) ++ [x]) ↔ y ∈ done.map (fun i => (given.getD i (0, 0)).2) := by simp [hy]
        simp only [this]
  · rintro p done t K' hndd hall ⟨hd, h0, h4, h5, h13, ok', nh', hn', hg', hdead, hold, es, hes, hasg⟩
    refine ⟨_, by simp only [runSeq_cons, runSeq_nil, evalArgs_nil, evalArgs_tmp, val1, putT, Tr.get_set_self, hd _, decide_true, Nat.reduceLT, opI_extract, List.getElem?_cons_zero]; rfl, by simp only [Tr.get_set_self, Tr.get_set_ne, hd _, ne_eq, Nat.reduceEqDiff, not_false_eq_true, decide_true, Nat.reduceLT]; try rfl, .inr ⟨hdead, nh', ?_⟩⟩
    have hvals : ∀ y, asg y es = if y ∈ given.map (·.2) then some (.bool true) else none := fun y => by
      rw [hasg]
      have : (y ∈ done.map (fun i => (given.getD i (0, 0)).2)) ↔ y ∈ given.map (·.2) := by
        constructor
        · intro h
          obtain ⟨i, hi, rfl⟩ := List.mem_map.1 h
          have hil := (hall i).1 hi
          rw [hlen] at hil
          rw [List.getD_eq_getElem?_getD, List.getElem?_eq_getElem hil]
          exact List.mem_map.2 ⟨_, List.getElem_mem hil, rfl⟩
        · intro h
          obtain ⟨q, hq, rfl⟩ := List.mem_map.1 h
          obtain ⟨i, hil, rfl⟩ := List.getElem_of_mem hq
          refine List.mem_map.2 ⟨i, (hall i).2 (by rw [hlen]; exact hil), ?_⟩
          rw [List.getD_eq_getElem?_getD, List.getElem?_eq_getElem hil]; rfl
      simp only [this]
    have hM0 : M.n < K'.n := get_lt ok'.1 hes
    have gvK : (K'.set gb (.map (ents .i64 (givenE given)))).get gb = some (.map (ents .i64 (givenE given))) := by rw [get_set_mem hdead, if_pos rfl]
    have gmK : (K'.set gb (.map (ents .i64 (givenE given)))).get M.n = some (.map (ents .i64 es)) := by rw [get_set_mem hdead, if_neg (by omega)]; exact hes
    have okK : Okg (K'.set gb (.map (ents .i64 (givenE given)))) := ⟨ok'.1.set _ _, fun b cs sz wr g hb => by
      rw [get_set_mem hdead] at hb
      split at hb
      · cases hb
      · exact ok'.2 b cs sz wr g hb⟩
    have sK : Step M (K'.set gb (.map (ents .i64 (givenE given)))) := by
      refine step_of s2 (by rw [set_n]; omega) (by rw [set_g]; exact hg') okK (fun b _ => ?_) (fun c hc => ?_)
      · rw [get_set_mem hdead]
        split
        · rfl
        · exact nh' b
      · rw [get_set_mem hdead]
        by_cases hcg : c = gb
        · rw [if_pos hcg, hcg, gv2]
        · rw [if_neg hcg]; exact hold c hc hcg
    generalize K'.set gb (.map (ents .i64 (givenE given))) = K3 at *
    show MW _ _ _ _ _
    refine MW_seq (MW_of (drawSound _) hcall (N := 100000) k4 (W_seqR (by simp only [runSeq_cons, runSeq_nil, evalArgs_nil, evalArgs_const, val1, putT, opI_move]; rfl) ?_))
    show MW _ _ _ _ _
    have lv3 := (hl.grow sK.grow).len
    refine MW_seq (MW_of (drawSound _) hcall (N := 100000) k5 (W_seq (W_seqR (by simp only [runSeq_cons, runSeq_nil, evalArgs_nil, evalArgs_tmp, evalArgs_const, val1, putT, Tr.get_set_self, Tr.get_set_ne, hd _, ne_eq, Nat.reduceEqDiff, not_false_eq_true, decide_true, Nat.reduceLT, opI_move, h0, lv3]; rfl) (W_block (W_loop (fun k t K => ∃ (i : Nat) (ov : AV), k + i = l.length ∧ Dom t 45 ∧ t.get 5 = some (.map (some M.n)) ∧ t.get 8 = some ov ∧ t.get 20 = some lv ∧ t.get 21 = some (.int .i64 l.length) ∧ t.get 22 = some (.int .i64 i) ∧ Step M K ∧ K.get M.n = some (.map (ents .i64 es)) ∧
      NRow M K ov (namedT (given.map (·.2)) l i) ∧ (∀ c, sbOf ov = some c → M.n < c)) (k := l.length) (by omega) ?_ ?_)))))
    · exact ⟨0, _, rfl, by ((repeat (with_reducible apply Dom.set)); exact hd), by simp only [Tr.get_set_ne, ne_eq, Nat.reduceEqDiff, not_false_eq_true, h5], by simp only [Tr.get_set_self, Tr.get_set_ne, hd _, ne_eq, Nat.reduceEqDiff, not_false_eq_true, decide_true, Nat.reduceLT]; try rfl, by simp only [Tr.get_set_self, Tr.get_set_ne, hd _, ne_eq, Nat.reduceEqDiff, not_false_eq_true, decide_true, Nat.reduceLT]; try rfl, by simp only [Tr.get_set_self, Tr.get_set_ne, hd _, ne_eq, Nat.reduceEqDiff, not_false_eq_true, decide_true, Nat.reduceLT]; try rfl, by simp only [Tr.get_set_self, Tr.get_set_ne, hd _, ne_eq, Nat.reduceEqDiff, not_false_eq_true, decide_true, Nat.reduceLT]; try rfl, sK, gmK, .inl ⟨rfl, rfl⟩, fun c hc => by cases hc⟩
    · clear h0 h4 h5 h13 hd
      rintro k t K ⟨i, ov, hk, hd, h5, h8, h20, h21, h22, sK2, gm, row, sbv⟩
      refine W_seq (W_seqR (by simp only [runSeq_cons, runSeq_nil, evalArgs_nil, evalArgs_tmp, val1, putT, opI_lss, h21, h22]; rfl) ?_)
      refine W_seq (W_cond (by simp only [PArg.eval, Tr.get_set_self, hd _, decide_true, Nat.reduceLT]; rfl) (fun hb => W_skip ?_) (fun hb => W_exit ?_))
      · have hi : i < l.length := by
          have := of_decide_eq_true hb
          omega
        obtain ⟨p, ev, hse, pp, ix, la, _⟩ := (hl.grow sK2.grow).at_ hi
        obtain ⟨he10, heone⟩ := hse.one
        have hns := namedT_succ (vals := given.map (·.2)) hi
        have hnl := namedT_len (given.map (·.2)) l i (by omega)
        have hMK : M.n < K.n := get_lt sK2.ok.1 gm
        generalize hs : l[i] = s at *
        have s3 := sK2.push (k := .cells [.int .i64 0, .int .i64 0, .int .i64 0, .int .i64 0, .int .i64 0, .int .u64 0, .slice none 0 0 false, .int .i64 0, .int .u64 0, .slice none 0 0 false] 0 true none) (fun _ _ _ _ he => by cases he)
        have g3 := get_push_self (k := .cells [.int .i64 0, .int .i64 0, .int .i64 0, .int .i64 0, .int .i64 0, .int .u64 0, .slice none 0 0 false, .int .i64 0, .int .u64 0, .slice none 0 0 false] 0 true none) sK2.ok.1
        obtain ⟨st4, s4, g4, o4⟩ := store_all (n := 10) (new := ev) s3 sK2.grow.n g3 he10 rfl heone
        show W _ _
        refine W_seq (W_block (W_seq (W_seqR (by simp only [runSeq_cons, runSeq_nil, evalArgs_nil, evalArgs_tmp, val1, putT, Tr.get_set_self, Tr.get_set_ne, hd _, ne_eq, Nat.reduceEqDiff, not_false_eq_true, decide_true, Nat.reduceLT, opI_move, opI_new, h20, h22, ix, la, st4]; rfl) ?_)))
        have old4 : ∀ c, c < K.n → (AMem.set _ K.n (.cells ev 0 true none)).get c = K.get c := fun c hc => (o4 c (by omega)).trans (get_push_old sK2.ok.1 hc)
        have n4 : (AMem.set (K.push (.cells [.int .i64 0, .int .i64 0, .int .i64 0, .int .i64 0, .int .i64 0, .int .u64 0, .slice none 0 0 false, .int .i64 0, .int .u64 0, .slice none 0 0 false] 0 true none)) K.n (.cells ev 0 true none)).n = K.n + 1 := by rw [set_n, push_n]
        generalize AMem.set (K.push (.cells [.int .i64 0, .int .i64 0, .int .i64 0, .int .i64 0, .int .i64 0, .int .u64 0, .slice none 0 0 false, .int .i64 0, .int .u64 0, .slice none 0 0 false] 0 true none)) K.n (.cells ev 0 true none) = K4 at *
        have gm4 := (old4 M.n hMK).trans gm
        have LA4 : opI (.load true 10) [.ptr (some (K.n, 0))] K4 = some (.val (.agg ev) K4) := by
          have := loads_own (o := 0) (n := 10) g4 (by omega)
          rwa [List.drop_zero, List.take_of_length_le (by omega)] at this
        obtain ⟨_, K5, c5, s5, rfl⟩ := adding_ok (T := noT) (fun _ _ => rfl) hse 4 K4 s4.ok
        have gm5 := (s5.grow.get _ (by omega)).trans gm4
        have ge5 := (s5.grow.get _ (by omega)).trans g4
        have t5 := s4.trans s5
        have hsbK : ∀ c, sbOf ov = some c → c < K.n := fun c hc => by
          rcases row with ⟨_, rfl⟩ | ⟨_, b, g, rfl, q1, q2, _⟩
          · cases hc
          · simp only [sbOf, Option.some.injEq] at hc
            subst hc
            exact get_lt sK2.ok.1 q2
        have row5 : NRow M K5 ov (namedT (given.map (·.2)) l i) := row.keep fun c hc => (s5.grow.get c (by have := hsbK c hc; omega)).trans (old4 c (hsbK c hc))
        have hsf := hse
        obtain ⟨w_, x_, va_, la_, hev, _, _⟩ := hsf
        have e3 : opI (.load false 1) [.ptr (some (K.n, 3))] K5 = some (.val (.int .i64 s.to) K5) := load_own ge5 (by rw [hev]; rfl)
        have lk : opI (.lookup 0 false (.bool false)) [.map (some M.n), .int .i64 i] K5 = some (.val (.bool (decide ((i : Int) ∈ given.map (·.2)))) K5) := by
          rw [lookup_own gm5, hvals]
          by_cases hm : (i : Int) ∈ given.map (·.2)
          · rw [if_pos hm, decide_eq_true hm]; rfl
          · rw [if_neg hm, decide_eq_false hm]; rfl
        have wi1 : wrapF .i64 ((i : Int) + 1) = i + 1 := wrapF_small (by omega) (by omega)
        refine W_seq (W.mono (Q := fun z t' K' => z = .normal ∧ K' = K5 ∧ Dom t' 45 ∧ t'.get 5 = some (.map (some M.n)) ∧ t'.get 8 = some ov ∧ t'.get 9 = some (.int .i64 i) ∧ t'.get 20 = some lv ∧ t'.get 21 = some (.int .i64 l.length) ∧ t'.get 22 = some (.int .i64 i) ∧ t'.get 38 = some (.bool (namB (given.map (·.2)) i s))) ?_ ?_)
        · unfold namB
          cases q1 : addB s with
          | false =>
            rw [q1] at c5
            refine W_seqR (by simp only [runSeq_cons, runSeq_nil, evalArgs_nil, evalArgs_tmp, evalArgs_const, val1, putT, Tr.get_set_self, Tr.get_set_ne, Tr.isSome_set, hd _, ne_eq, Nat.reduceEqDiff, not_false_eq_true, decide_true, Nat.reduceLT, opI_move, opI_callF, opI_pick, runSeq_guard (b := false), Bool.false_beq, Bool.not_true, runSeq_skip, LA4, c5]; rfl) ?_
            exact ⟨rfl, rfl, by ((repeat (with_reducible apply Dom.set)); exact hd), by simp only [Tr.get_set_ne, ne_eq, Nat.reduceEqDiff, not_false_eq_true, h5], by simp only [Tr.get_set_ne, ne_eq, Nat.reduceEqDiff, not_false_eq_true, h8], by simp only [Tr.get_set_self, Tr.get_set_ne, hd _, ne_eq, Nat.reduceEqDiff, not_false_eq_true, decide_true, Nat.reduceLT], by simp only [Tr.get_set_ne, ne_eq, Nat.reduceEqDiff, not_false_eq_true, h20], by simp only [Tr.get_set_ne, ne_eq, Nat.reduceEqDiff, not_false_eq_true, h21], by simp only [Tr.get_set_ne, ne_eq, Nat.reduceEqDiff, not_false_eq_true, h22], by simp only [Tr.get_set_self, Tr.get_set_ne, hd _, ne_eq, Nat.reduceEqDiff, not_false_eq_true, decide_true, Nat.reduceLT]; try rfl⟩
          | true =>
            rw [q1] at c5
            cases q2 : decide (s.to ≥ 0) with
            | true =>
              refine W_seqR (by simp only [runSeq_cons, runSeq_nil, evalArgs_nil, evalArgs_tmp, evalArgs_const, val1, putT, Tr.get_set_self, Tr.get_set_ne, Tr.isSome_set, hd _, ne_eq, Nat.reduceEqDiff, not_false_eq_true, decide_true, Nat.reduceLT, opI_move, opI_geq, opI_callF, opI_fieldP, opI_pick, Nat.zero_add, runSeq_guard (b := true), beq_self_eq_true, Bool.true_beq, LA4, c5, e3, q2]; rfl) ?_
              exact ⟨rfl, rfl, by ((repeat (with_reducible apply Dom.set)); exact hd), by simp only [Tr.get_set_ne, ne_eq, Nat.reduceEqDiff, not_false_eq_true, h5], by simp only [Tr.get_set_ne, ne_eq, Nat.reduceEqDiff, not_false_eq_true, h8], by simp only [Tr.get_set_self, Tr.get_set_ne, hd _, ne_eq, Nat.reduceEqDiff, not_false_eq_true, decide_true, Nat.reduceLT], by simp only [Tr.get_set_ne, ne_eq, Nat.reduceEqDiff, not_false_eq_true, h20], by simp only [Tr.get_set_ne, ne_eq, Nat.reduceEqDiff, not_false_eq_true, h21], by simp only [Tr.get_set_ne, ne_eq, Nat.reduceEqDiff, not_false_eq_true, h22], by simp only [Tr.get_set_self, Tr.get_set_ne, hd _, ne_eq, Nat.reduceEqDiff, not_false_eq_true, decide_true, Nat.reduceLT]; try rfl⟩
            | false =>
              refine W_seqR (by simp only [runSeq_cons, runSeq_nil, evalArgs_nil, evalArgs_tmp, evalArgs_const, val1, putT, Tr.get_set_self, Tr.get_set_ne, Tr.isSome_set, hd _, ne_eq, Nat.reduceEqDiff, not_false_eq_true, decide_true, Nat.reduceLT, opI_move, opI_geq, opI_callF, opI_fieldP, opI_pick, Nat.zero_add, runSeq_guard (b := true), runSeq_guard (b := false), beq_self_eq_true, h5, LA4, c5, e3, q2, lk]; rfl) ?_
              exact ⟨rfl, rfl, by ((repeat (with_reducible apply Dom.set)); exact hd), by simp only [Tr.get_set_ne, ne_eq, Nat.reduceEqDiff, not_false_eq_true, h5], by simp only [Tr.get_set_ne, ne_eq, Nat.reduceEqDiff, not_false_eq_true, h8], by simp only [Tr.get_set_self, Tr.get_set_ne, hd _, ne_eq, Nat.reduceEqDiff, not_false_eq_true, decide_true, Nat.reduceLT], by simp only [Tr.get_set_ne, ne_eq, Nat.reduceEqDiff, not_false_eq_true, h20], by simp only [Tr.get_set_ne, ne_eq, Nat.reduceEqDiff, not_false_eq_true, h21], by simp only [Tr.get_set_ne, ne_eq, Nat.reduceEqDiff, not_false_eq_true, h22], by simp only [Tr.get_set_self, Tr.get_set_ne, hd _, ne_eq, Nat.reduceEqDiff, not_false_eq_true, decide_true, Nat.reduceLT]; try rfl⟩
        clear h5 h8 h20 h21 h22 hd
        rintro z t' K' ⟨rfl, rfl, hd, h5, h8, h9, h20, h21, h22, h38⟩
        show W _ _
        cases hN : namB (given.map (·.2)) i s with
        | false =>
          rw [hN] at h38 hns
          refine W_cond (b := false) (by simp only [PArg.eval, h38]; try rfl) (fun hb => by cases hb) (fun _ => W_skip ?_)
          show W _ _
          refine W_seqR (by simp only [runSeq_cons, runSeq_nil, evalArgs_nil, evalArgs_tmp, evalArgs_const, val1, putT, Tr.get_set_self, hd _, decide_true, Nat.reduceLT, opI_move, opI_add, h22, wi1]; rfl) ?_
          exact ⟨k - 1, by omega, i + 1, ov, by omega, by ((repeat (with_reducible apply Dom.set)); exact hd), by simp only [Tr.get_set_ne, ne_eq, Nat.reduceEqDiff, not_false_eq_true, h5], by simp only [Tr.get_set_ne, ne_eq, Nat.reduceEqDiff, not_false_eq_true, h8], by simp only [Tr.get_set_ne, ne_eq, Nat.reduceEqDiff, not_false_eq_true, h20], by simp only [Tr.get_set_ne, ne_eq, Nat.reduceEqDiff, not_false_eq_true, h21], by simp only [Tr.get_set_self, Tr.get_set_ne, hd _, ne_eq, Nat.reduceEqDiff, not_false_eq_true, decide_true, Nat.reduceLT]; rfl, t5, gm5, by rw [hns]; simpa using row5, sbv⟩
        | true =>
          rw [hN] at h38 hns
          simp only [if_true] at hns
          have hel : ((namedT (given.map (·.2)) l i).map fun (i : Nat) => [AV.int .i64 (i : Int)]).length ≤ i := by rw [List.length_map]; exact hnl
          obtain ⟨K6, g6, p1, p2, p3, p4, p5, p6, p7⟩ := push_el (bytes := 8) (x := .int .i64 i) (z := [.int .i64 0]) t5 row5.fresh rfl rfl (by omega) rfl (by omega) (by omega)
          have hcl : AV.cells (.int .i64 i) = [.int .i64 i] := rfl
          rw [List.length_map] at p2 p4
          rw [hcl] at p1 p2 p4
          refine W_cond (b := true) (by simp only [PArg.eval, h38]; try rfl) (fun _ => ?_) (fun hb => by cases hb)
          refine W_seqR (by simp only [runSeq_cons, runSeq_nil, evalArgs_nil, evalArgs_tmp, val1, putT, Tr.get_set_self, Tr.get_set_ne, hd _, ne_eq, Nat.reduceEqDiff, not_false_eq_true, decide_true, Nat.reduceLT, opI_move, h8, h9, p1, p2]; rfl) ?_
          show W _ _
          refine W_seqR (by simp only [runSeq_cons, runSeq_nil, evalArgs_nil, evalArgs_tmp, evalArgs_const, val1, putT, Tr.get_set_self, Tr.get_set_ne, hd _, ne_eq, Nat.reduceEqDiff, not_false_eq_true, decide_true, Nat.reduceLT, opI_move, opI_add, h22, wi1]; rfl) ?_
          have gm6 := p5 M.n _ gm5 rfl (fun h => by have := sbv _ h; omega)
          have hlen7 : (namedT (given.map (·.2)) l i ++ [i]).length = (namedT (given.map (·.2)) l i).length + 1 := by simp
          refine ⟨k - 1, by omega, i + 1, _, by omega, by ((repeat (with_reducible apply Dom.set)); exact hd), by simp only [Tr.get_set_ne, ne_eq, Nat.reduceEqDiff, not_false_eq_true, h5], by simp only [Tr.get_set_self, Tr.get_set_ne, hd _, ne_eq, Nat.reduceEqDiff, not_false_eq_true, decide_true, Nat.reduceLT]; try rfl, by simp only [Tr.get_set_ne, ne_eq, Nat.reduceEqDiff, not_false_eq_true, h20], by simp only [Tr.get_set_ne, ne_eq, Nat.reduceEqDiff, not_false_eq_true, h21], by simp only [Tr.get_set_self, Tr.get_set_ne, hd _, ne_eq, Nat.reduceEqDiff, not_false_eq_true, decide_true, Nat.reduceLT]; rfl, p3, gm6, ?_, fun c hc => ?_⟩
          · rw [hns]
            obtain ⟨b, gr, sz', g, q1, q2, q3, q4, q5, _⟩ := p4
            simp only [AV.slice.injEq, Option.some.injEq, Prod.mk.injEq] at q1
            obtain ⟨⟨rfl, _⟩, _, _, rfl⟩ := q1
            have := q4 rfl
            subst this
            refine .inr ⟨by simp, _, g, by rw [hlen7], q2, ?_, q5⟩
            rw [q3]
            congr 2
            rw [← ints_flat, List.map_append]; rfl
          · simp only [sbOf, Option.some.injEq] at hc
            have := get_lt t5.ok.1 gm5
            omega
      · have hi : i = l.length := by
          have := of_decide_eq_false hb
          omega
        subst hi
        show MW _ _ _ _ _
        refine MW_of (drawSound _) hcall (N := 100000) k6 (W_seq (W_seqR (by simp only [runSeq_cons, runSeq_nil, evalArgs_nil, evalArgs_tmp, val1, putT, Tr.get_set_self, Tr.get_set_ne, hd _, ne_eq, Nat.reduceEqDiff, not_false_eq_true, decide_true, Nat.reduceLT, opI_move, h8]; rfl) (W_ret ?_)))
        exact ⟨.inr rfl, _, fin_tmp (by simp only [Tr.get_set_self, Tr.get_set_ne, hd _, ne_eq, Nat.reduceEqDiff, not_false_eq_true, decide_true, Nat.reduceLT]; try rfl), sK2, row⟩
end Go.Proofs.Ytpbejdlpkpehlaa.bag
