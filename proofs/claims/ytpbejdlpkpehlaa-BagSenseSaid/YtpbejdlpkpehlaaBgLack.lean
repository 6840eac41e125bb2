/- How many tasks were lacking: walked over the model's own code, for the loop over the map comes in any order. -/
import Derived.Test.YtpbejdlpkpehlaaBgTal
namespace Go.Proofs.Ytpbejdlpkpehlaa.bag
open Go Go.Vx
def noT : Tbl := fun _ _ _ => none
theorem noT_ok [Val] : TblOk Try.prog noT := by intro f args M r M' h; cases h
theorem formL : ∃ (A1 A2 A3 A4 R Z cb : Code), Try.f16.body = some (.seq A1 (.seq A2 (.seq A3 (.seq A4 (.seq R Z))))) ∧ RS Try.prog R 3 4 50 51 53 52 (.tmp 49) [⟨.move, [.tmp 5], some 49, none⟩] [⟨.extract 0, [.tmp 51], some 52, none⟩] [⟨.extract 1, [.tmp 53], some 54, none⟩, ⟨.move, [.tmp 54], some 10, none⟩] cb :=
  ⟨_, _, _, _, _, _, _, rfl, ⟨⟨_, _, _, _, _, _, _, _, _, _, _, _, _, rfl, ⟨rfl, ⟨⟨_, rfl, by kernel_rfl⟩, trivial⟩, rfl, ⟨rfl, rfl, rfl⟩, rfl, Try.underlying45⟩, ⟨rfl, ⟨⟨_, rfl, by kernel_rfl⟩, trivial⟩, rfl, ⟨rfl, rfl, rfl⟩⟩, ⟨rfl, ⟨⟨_, rfl, by kernel_rfl⟩, ⟨_, rfl, by kernel_rfl⟩, trivial⟩, rfl, ⟨rfl, rfl, rfl⟩⟩⟩⟩⟩
def sumD (f : Int → Int) (keys : List Int) (done : List Nat) : Int := done.foldl (fun n i => n + max (f (keys.getD i 0)) 0) 0
theorem sumD_add (f : Int → Int) (keys : List Int) (done : List Nat) (i : Nat) : sumD f keys (done ++ [i]) = sumD f keys done + max (f (keys.getD i 0)) 0 := by unfold sumD; rw [List.foldl_append]; rfl
theorem sumD_le {f : Int → Int} {keys : List Int} (h : ∀ x, f x ≤ 90000) : ∀ done : List Nat, 0 ≤ sumD f keys done ∧ sumD f keys done ≤ done.length * 90000 := by
  intro done
  have key : ∀ (done : List Nat) (n : Int), n ≤ done.foldl (fun n i => n + max (f (keys.getD i 0)) 0) n ∧ done.foldl (fun n i => n + max (f (keys.getD i 0)) 0) n ≤ n + done.length * 90000 := by
    intro done
    induction done with
    | nil => intro n; simp
    | cons i done ih =>
      intro n
      have h1 := ih (n + max (f (keys.getD i 0)) 0)
      have h2 := h (keys.getD i 0)
      simp only [List.foldl_cons, List.length_cons]
      omega
  have := key done 0
  unfold sumD
  omega
theorem sumD_all {f : Int → Int} {keys : List Int} {done : List Nat} (hnd : done.Nodup) (hm : ∀ j, j ∈ done ↔ j < keys.length) : sumD f keys done = keys.foldl (fun n x => n + max (f x) 0) 0 := by
  have hp : done.Perm (List.range keys.length) := (List.perm_ext_iff_of_nodup hnd List.nodup_range).2 fun j => by rw [hm, List.mem_range]
  unfold sumD
  rw [hp.foldl_eq' (fun x _ y _ z => by omega)]
  have e : (List.range keys.length).map (fun i => keys.getD i 0) = keys := by
    apply List.ext_getElem?
    intro i
    rw [List.getElem?_map]
    by_cases hi : i < keys.length
    · rw [List.getElem?_range hi, List.getElem?_eq_getElem hi, Option.map_some, List.getD_eq_getElem?_getD, List.getElem?_eq_getElem hi]; rfl
    · rw [List.getElem?_eq_none (by rw [List.length_range]; omega), List.getElem?_eq_none (by omega)]; rfl
  conv => rhs; rw [← e]
  rw [List.foldl_map]
theorem opI_max0 {x : Int} {M : AMem} : opI (.minmax true) [.int .i64 x, .int .i64 0] M = some (.val (.int .i64 (max x 0)) M) := by
  simp only [opI, if_true]
  congr 3
  split <;> omega
set_option maxRecDepth 20000 in
set_option maxHeartbeats 16000000 in
theorem lack_calls [Val] {M : AMem} {lv : AV} {rc : List AV} {l : List Sn} {r : Sn} (hok : Okg M) (hl : SnR M lv l) (hr : SnC rc r) (hn : l.length ≤ 90000) :
    hasBody Try.prog 16 = true ∧ ∀ (B : Nat → Prop) (w0 : World) (e : Env) (w : World) (cargs : List Value), concs e [lv, .agg rc] = some cargs → MR B w0 e M w →
      Calls Try.prog 16 cargs.toArray w fun en w' => ∃ v, en = .returned v ∧ conc e (.int .i64 (lackN r l)) = some v ∧ MR B w0 e M w' := by
  obtain ⟨A1, A2, A3, A4, R, Z, cb, hb, hR⟩ := formL
  obtain ⟨hcc, hrs, hnt⟩ := body_of hb c16_ok
  obtain ⟨k1, hcc⟩ := comp_seq hcc
  obtain ⟨k2, hcc⟩ := comp_seq hcc
  obtain ⟨k3, hcc⟩ := comp_seq hcc
  obtain ⟨k4, hcc⟩ := comp_seq hcc
  obtain ⟨k5, k6⟩ := comp_seq hcc
  have hcall : CallSound Try.prog (callF noT code 100000 5) := callF_ok (drawSound _) noT_ok codeOk 100000 5
  refine ⟨c16_body, fun B w0 e w cargs hc hm => ?_⟩
  refine (calls_of_MW (R := fun x K => x = .int .i64 (lackN r l) ∧ Step M K) Try.func16 hb hrs (by rw [← hnt]; exact (by decide : (2 : Nat) ≤ 60)) ?_ B w0 e w cargs hc hm).mono ?_
  rotate_left
  · rintro en w' ⟨x, M', e', v, ⟨rfl, hs⟩, hx, he, hv, hm'⟩
    exact ⟨v, he, by simpa [conc] using hv, hm.forget hm' hx hs⟩
  rw [← hnt]
  show MW Try.prog _ (setArgs (Tr.ofList (List.replicate 60 undefA)) 0 [lv, .agg rc]) M _
  obtain ⟨hd, ha⟩ := args_tr (args := [lv, .agg rc]) (n := 60) (by simp)
  generalize setArgs (Tr.ofList (List.replicate 60 undefA)) 0 [lv, .agg rc] = t at hd ha ⊢
  have h0 := ha 0 _ rfl
  have h1 := ha 1 _ rfl
  clear ha
  obtain ⟨s1, g1⟩ := boxed (Step.refl hok) rc
  have n1 : (M.push (.cells rc 0 true none)).n = M.n + 1 := push_n
  refine MW_seq (MW_of (drawSound _) hcall (N := 100000) k1 (W_seqR (by simp only [runSeq_cons, runSeq_nil, evalArgs_nil, evalArgs_tmp, evalArgs_const, val1, putT, opI_move, opI_box, cells_agg, h1]; rfl) ?_))
  generalize M.push (.cells rc 0 true none) = K1 at *
  have mm : opI .makeMap [] K1 = some (.val (.map (some K1.n)) (K1.push (.map (ents .u64 [])))) := rfl
  have s2 : Step M (K1.push (.map (ents .u64 []))) := s1.push (fun _ _ _ _ he => by cases he)
  have g2 := get_push_self (k := .map (ents .u64 [])) s1.ok.1
  have g1' := (get_push_old (k := .map (ents .u64 [])) s1.ok.1 (show M.n < K1.n by omega)).trans g1
  have n2 : (K1.push (.map (ents .u64 []))).n = K1.n + 1 := push_n
  refine MW_seq (MW_of (drawSound _) hcall (N := 100000) k2 (W_seqR (by simp only [runSeq_cons, runSeq_nil, evalArgs_nil, evalArgs_tmp, val1, putT, Tr.get_set_self, Tr.get_set_ne, hd _, ne_eq, Nat.reduceEqDiff, not_false_eq_true, decide_true, Nat.reduceLT, opI_move, mm]; rfl) ?_))
  generalize K1.push (.map (ents .u64 [])) = K2 at *
  -- they are counted
  have lv2 := (hl.grow s2.grow).len
  refine MW_seq (MW_of (drawSound _) hcall (N := 100000) k3 (W_seq (W_seqR (by simp only [runSeq_cons, runSeq_nil, evalArgs_nil, evalArgs_tmp, evalArgs_const, val1, putT, Tr.get_set_self, Tr.get_set_ne, hd _, ne_eq, Nat.reduceEqDiff, not_false_eq_true, decide_true, Nat.reduceLT, opI_move, h0, lv2]; rfl) (W_block (W_loop (fun k t K => ∃ i : Nat, k + i = l.length ∧ Dom t 60 ∧ t.get 3 = some (.ptr (some (M.n, 0))) ∧ t.get 5 = some (.map (some K1.n)) ∧ t.get 12 = some lv ∧ t.get 13 = some (.int .i64 l.length) ∧ t.get 14 = some (.int .i64 i) ∧ Step M K ∧ K.get M.n = some (.cells rc 0 true none) ∧
    K.get K1.n = some (.map (ents .u64 (esF (keysN r (l.take i)) (leftN r (l.take i))))) ∧ (keysN r (l.take i)).Nodup ∧ ∀ y, y ∉ keysN r (l.take i) → leftN r (l.take i) y = 0) (k := l.length) (by omega) ?_ ?_)))))
  · exact ⟨0, rfl, by ((repeat (with_reducible apply Dom.set)); exact hd), by simp only [Tr.get_set_self, Tr.get_set_ne, hd _, ne_eq, Nat.reduceEqDiff, not_false_eq_true, decide_true, Nat.reduceLT]; try rfl, by simp only [Tr.get_set_self, Tr.get_set_ne, hd _, ne_eq, Nat.reduceEqDiff, not_false_eq_true, decide_true, Nat.reduceLT]; try rfl, by simp only [Tr.get_set_self, Tr.get_set_ne, hd _, ne_eq, Nat.reduceEqDiff, not_false_eq_true, decide_true, Nat.reduceLT]; try rfl, by simp only [Tr.get_set_self, Tr.get_set_ne, hd _, ne_eq, Nat.reduceEqDiff, not_false_eq_true, decide_true, Nat.reduceLT]; try rfl, by simp only [Tr.get_set_self, Tr.get_set_ne, hd _, ne_eq, Nat.reduceEqDiff, not_false_eq_true, decide_true, Nat.reduceLT]; try rfl, s2, g1', g2, List.nodup_nil, fun y _ => rfl⟩
  · clear h0 h1 hd
    rintro k t K ⟨i, hk, hd, h3, h5, h12, h13, h14, sK, gr, gm, hnd, hz⟩
    refine W_seq (W_seqR (by simp only [runSeq_cons, runSeq_nil, evalArgs_nil, evalArgs_tmp, val1, putT, opI_lss, h13, h14]; rfl) ?_)
    refine W_seq (W_cond (by simp only [PArg.eval, Tr.get_set_self, hd _, decide_true, Nat.reduceLT]; rfl) (fun hb => W_skip ?_) (fun hb => W_exit ?_))
    · have hi : i < l.length := by
        have := of_decide_eq_true hb
        omega
      obtain ⟨p, ev, hse, pp, ix, la, _⟩ := (hl.grow sK.grow).at_ hi
      obtain ⟨he10, heone⟩ := hse.one
      have htk : l.take (i + 1) = l.take i ++ [l[i]] := by rw [List.take_add_one, List.getElem?_eq_getElem hi]; rfl
      have hlb := fun x => leftN_le r x (l.take i)
      have hK1K : K1.n < K.n := get_lt sK.ok.1 gm
      generalize hs : l[i] = s at *
      have s3 := sK.push (k := .cells [.int .i64 0, .int .i64 0, .int .i64 0, .int .i64 0, .int .i64 0, .int .u64 0, .slice none 0 0 false, .int .i64 0, .int .u64 0, .slice none 0 0 false] 0 true none) (fun _ _ _ _ he => by cases he)
      have g3 := get_push_self (k := .cells [.int .i64 0, .int .i64 0, .int .i64 0, .int .i64 0, .int .i64 0, .int .u64 0, .slice none 0 0 false, .int .i64 0, .int .u64 0, .slice none 0 0 false] 0 true none) sK.ok.1
      obtain ⟨st4, s4, g4, o4⟩ := store_all (n := 10) (new := ev) s3 sK.grow.n g3 he10 rfl heone
      show W _ _
      refine W_seq (W_block (W_seq (W_seqR (by simp only [runSeq_cons, runSeq_nil, evalArgs_nil, evalArgs_tmp, val1, putT, Tr.get_set_self, Tr.get_set_ne, hd _, ne_eq, Nat.reduceEqDiff, not_false_eq_true, decide_true, Nat.reduceLT, opI_new, h12, h14, ix, la, st4]; rfl) ?_)))
      have old4 : ∀ c, c < K.n → (AMem.set _ K.n (.cells ev 0 true none)).get c = K.get c := fun c hc => (o4 c (by omega)).trans (get_push_old sK.ok.1 hc)
      have n4 : (AMem.set (K.push (.cells [.int .i64 0, .int .i64 0, .int .i64 0, .int .i64 0, .int .i64 0, .int .u64 0, .slice none 0 0 false, .int .i64 0, .int .u64 0, .slice none 0 0 false] 0 true none)) K.n (.cells ev 0 true none)).n = K.n + 1 := by rw [set_n, push_n]
      generalize AMem.set (K.push (.cells [.int .i64 0, .int .i64 0, .int .i64 0, .int .i64 0, .int .i64 0, .int .u64 0, .slice none 0 0 false, .int .i64 0, .int .u64 0, .slice none 0 0 false] 0 true none)) K.n (.cells ev 0 true none) = K4 at *
      have gr4 := (old4 M.n (by omega)).trans gr
      have gm4 := (old4 K1.n hK1K).trans gm
      have LA4 : opI (.load true 10) [.ptr (some (K.n, 0))] K4 = some (.val (.agg ev) K4) := by
        have := loads_own (o := 0) (n := 10) g4 (by omega)
        rwa [List.drop_zero, List.take_of_length_le (by omega)] at this
      obtain ⟨_, K5, c5, s5, rfl⟩ := adding_ok (T := noT) (fun _ _ => rfl) hse 4 K4 s4.ok
      have gr5 := (s5.grow.get _ (by omega)).trans gr4
      have gm5 := (s5.grow.get _ (by omega)).trans gm4
      have ge5 := (s5.grow.get _ (by omega)).trans g4
      have hfin : ∀ (t : Tr AV) (K' : AMem), Dom t 60 → t.get 3 = some (.ptr (some (M.n, 0))) → t.get 5 = some (.map (some K1.n)) → t.get 12 = some lv → t.get 13 = some (.int .i64 l.length) → t.get 14 = some (.int .i64 ((i : Int) + 1)) → Step M K' → K'.get M.n = some (.cells rc 0 true none) →
          K'.get K1.n = some (.map (ents .u64 (esF (keysN r (l.take (i + 1))) (leftN r (l.take (i + 1)))))) → (keysN r (l.take (i + 1))).Nodup → (∀ y, y ∉ keysN r (l.take (i + 1)) → leftN r (l.take (i + 1)) y = 0) → ∃ k' < k, ∃ i : Nat, k' + i = l.length ∧ Dom t 60 ∧ t.get 3 = some (.ptr (some (M.n, 0))) ∧ t.get 5 = some (.map (some K1.n)) ∧ t.get 12 = some lv ∧ t.get 13 = some (.int .i64 l.length) ∧ t.get 14 = some (.int .i64 i) ∧ Step M K' ∧ K'.get M.n = some (.cells rc 0 true none) ∧
          K'.get K1.n = some (.map (ents .u64 (esF (keysN r (l.take i)) (leftN r (l.take i))))) ∧ (keysN r (l.take i)).Nodup ∧ ∀ y, y ∉ keysN r (l.take i) → leftN r (l.take i) y = 0 :=
        fun t K' hd h3 h5 h12 h13 h14 sK gr gm hnd hz => ⟨k - 1, by omega, i + 1, by omega, hd, h3, h5, h12, h13, by rw [h14]; simp, sK, gr, gm, hnd, hz⟩
      have wi1 : wrapF .i64 ((i : Int) + 1) = i + 1 := wrapF_small (by omega) (by omega)
      have hkeys := keysN_add r s (l.take i)
      have hleft := fun x => leftN_add r s (l.take i) x
      rw [htk] at hfin
      refine W_block (W_seq (W.mono (Q := fun z t' K' => z = .normal ∧ Step M K' ∧ K'.get M.n = some (.cells rc 0 true none) ∧ K'.get K1.n = some (.map (ents .u64 (esF (keysN r (l.take i)) (leftN r (l.take i))))) ∧ K'.get K.n = some (.cells ev 0 true none) ∧ Dom t' 60 ∧ t'.get 3 = some (.ptr (some (M.n, 0))) ∧ t'.get 5 = some (.map (some K1.n)) ∧ t'.get 7 = some (.ptr (some (K.n, 0))) ∧ t'.get 12 = some lv ∧ t'.get 13 = some (.int .i64 l.length) ∧ t'.get 14 = some (.int .i64 i) ∧ t'.get 18 = some (.bool (addB s && aheadB s r))) ?_ ?_))
      · cases hadd : addB s with
        | false =>
          rw [hadd] at c5
          refine W_seqR (by simp only [runSeq_cons, runSeq_nil, evalArgs_nil, evalArgs_tmp, evalArgs_const, val1, putT, Tr.get_set_self, Tr.get_set_ne, Tr.isSome_set, hd _, ne_eq, Nat.reduceEqDiff, not_false_eq_true, decide_true, Nat.reduceLT, opI_move, opI_callF, opI_pick, runSeq_guard (b := false), Bool.false_beq, Bool.not_true, LA4, c5]; rfl) ?_
          exact ⟨rfl, s4.trans s5, gr5, gm5, ge5, by ((repeat (with_reducible apply Dom.set)); exact hd), by simp only [Tr.get_set_ne, ne_eq, Nat.reduceEqDiff, not_false_eq_true, h3], by simp only [Tr.get_set_ne, ne_eq, Nat.reduceEqDiff, not_false_eq_true, h5], by simp only [Tr.get_set_self, Tr.get_set_ne, hd _, ne_eq, Nat.reduceEqDiff, not_false_eq_true, decide_true, Nat.reduceLT], by simp only [Tr.get_set_ne, ne_eq, Nat.reduceEqDiff, not_false_eq_true, h12], by simp only [Tr.get_set_ne, ne_eq, Nat.reduceEqDiff, not_false_eq_true, h13], by simp only [Tr.get_set_ne, ne_eq, Nat.reduceEqDiff, not_false_eq_true, h14], by simp only [Tr.get_set_self, Tr.get_set_ne, hd _, ne_eq, Nat.reduceEqDiff, not_false_eq_true, decide_true, Nat.reduceLT]; try rfl⟩
        | true =>
          rw [hadd] at c5
          have LA5 : opI (.load true 10) [.ptr (some (K.n, 0))] K5 = some (.val (.agg ev) K5) := by
            have := loads_own (o := 0) (n := 10) ge5 (by omega)
            rwa [List.drop_zero, List.take_of_length_le (by omega)] at this
          have LB5 : opI (.load true 10) [.ptr (some (M.n, 0))] K5 = some (.val (.agg rc) K5) := by
            have hrl := hr.one.1
            have := loads_own (o := 0) (n := 10) gr5 (by omega)
            rwa [List.drop_zero, List.take_of_length_le (by omega)] at this
          obtain ⟨_, K6, c6, s6, rfl⟩ := ahead_ok (T := noT) (fun _ _ => rfl) hse hr 4 K5 s5.ok
          refine W_seqR (by simp only [runSeq_cons, runSeq_nil, evalArgs_nil, evalArgs_tmp, evalArgs_const, val1, putT, Tr.get_set_self, Tr.get_set_ne, Tr.isSome_set, hd _, ne_eq, Nat.reduceEqDiff, not_false_eq_true, decide_true, Nat.reduceLT, opI_move, opI_callF, opI_pick, runSeq_guard (b := true), beq_self_eq_true, h3, LA4, c5, LA5, LB5, c6]; rfl) ?_
          have l5 := s5.grow.n
          exact ⟨rfl, (s4.trans s5).trans s6, (s6.grow.get _ (get_lt s5.ok.1 gr5)).trans gr5, (s6.grow.get _ (get_lt s5.ok.1 gm5)).trans gm5, (s6.grow.get _ (get_lt s5.ok.1 ge5)).trans ge5, by ((repeat (with_reducible apply Dom.set)); exact hd), by simp only [Tr.get_set_ne, ne_eq, Nat.reduceEqDiff, not_false_eq_true, h3], by simp only [Tr.get_set_ne, ne_eq, Nat.reduceEqDiff, not_false_eq_true, h5], by simp only [Tr.get_set_self, Tr.get_set_ne, hd _, ne_eq, Nat.reduceEqDiff, not_false_eq_true, decide_true, Nat.reduceLT], by simp only [Tr.get_set_ne, ne_eq, Nat.reduceEqDiff, not_false_eq_true, h12], by simp only [Tr.get_set_ne, ne_eq, Nat.reduceEqDiff, not_false_eq_true, h13], by simp only [Tr.get_set_ne, ne_eq, Nat.reduceEqDiff, not_false_eq_true, h14], by simp only [Tr.get_set_self, Tr.get_set_ne, hd _, ne_eq, Nat.reduceEqDiff, not_false_eq_true, decide_true, Nat.reduceLT, Bool.true_and]; try rfl⟩
      clear h3 h5 h12 h13 h14 hd
      rintro z t' K6 ⟨rfl, s6, gr6, gm6, ge6, hd, h3, h5, h7, h12, h13, h14, h18⟩
      show W _ _
      have hsf := hse
      obtain ⟨w_, x_, va_, la_, hev, _, _⟩ := hsf
      have f2 : opI (.load false 1) [.ptr (some (K.n, 2))] K6 = some (.val (.int .i64 s.from_) K6) := load_own ge6 (by rw [hev]; rfl)
      have f5 : opI (.load false 1) [.ptr (some (K.n, 5))] K6 = some (.val (.int .u64 s.task) K6) := load_own ge6 (by rw [hev]; rfl)
      cases hA : (addB s && aheadB s r) with
      | true =>
        rw [hA] at h18 hkeys
        simp only [if_true] at hkeys
        have hb1 := hlb s.task
        have ww : wrapF .i64 (leftN r (l.take i) s.task + 1) = leftN r (l.take i) s.task + 1 := by
          have hl1 : (l.take i).length = i := by rw [List.length_take]; omega
          rw [hl1] at hb1
          exact wrapF_any (by omega) (by omega)
        obtain ⟨lk, K7, u7, s7, gm7, hnd7, hz7, o7, n7⟩ := tally s6 (by omega) hnd gm6 hz s.task 1 (g := leftN r (l.take i ++ [s])) (fun y => by
          rw [hleft]
          unfold bump
          rw [hA, if_pos rfl]
          split <;> omega)
        refine W_cond (b := true) (by simp only [PArg.eval, h18]; try rfl) (fun _ => ?_) (fun hb => by cases hb)
        refine W_seqR (by simp only [runSeq_cons, runSeq_nil, evalArgs_nil, evalArgs_tmp, evalArgs_const, val1, putT, Tr.get_set_self, Tr.get_set_ne, hd _, ne_eq, Nat.reduceEqDiff, not_false_eq_true, decide_true, Nat.reduceLT, opI_move, opI_add, opI_fieldP, Nat.zero_add, Nat.reduceAdd, h5, h7, f5, lk, ww, u7]; rfl) ?_
        show W _ _
        refine W_seqR (by simp only [runSeq_cons, runSeq_nil, evalArgs_nil, evalArgs_tmp, evalArgs_const, val1, putT, Tr.get_set_self, Tr.get_set_ne, hd _, ne_eq, Nat.reduceEqDiff, not_false_eq_true, decide_true, Nat.reduceLT, opI_move, opI_add, h14, wi1]; rfl) ?_
        exact hfin _ K7 (by ((repeat (with_reducible apply Dom.set)); exact hd)) (by simp only [Tr.get_set_ne, ne_eq, Nat.reduceEqDiff, not_false_eq_true, h3]) (by simp only [Tr.get_set_ne, ne_eq, Nat.reduceEqDiff, not_false_eq_true, h5]) (by simp only [Tr.get_set_ne, ne_eq, Nat.reduceEqDiff, not_false_eq_true, h12]) (by simp only [Tr.get_set_ne, ne_eq, Nat.reduceEqDiff, not_false_eq_true, h13]) (by simp only [Tr.get_set_self, Tr.get_set_ne, hd _, ne_eq, Nat.reduceEqDiff, not_false_eq_true, decide_true, Nat.reduceLT]) s7 ((o7 _ (by omega)).trans gr6) (by rw [hkeys]; exact gm7) (by rw [hkeys]; exact hnd7) (by rw [hkeys]; exact hz7)
      | false =>
        rw [hA] at h18 hkeys
        simp only [Bool.false_eq_true, if_false] at hkeys
        refine W_cond (b := false) (by simp only [PArg.eval, h18]; try rfl) (fun hb => by cases hb) (fun _ => ?_)
        have LA6 : opI (.load true 10) [.ptr (some (K.n, 0))] K6 = some (.val (.agg ev) K6) := by
          have := loads_own (o := 0) (n := 10) ge6 (by omega)
          rwa [List.drop_zero, List.take_of_length_le (by omega)] at this
        obtain ⟨_, K7, c7, s7, rfl⟩ := taking_ok (T := noT) (fun _ _ => rfl) hse 4 K6 s6.ok
        have gr7 := (s7.grow.get _ (get_lt s6.ok.1 gr6)).trans gr6
        have gm7 := (s7.grow.get _ (get_lt s6.ok.1 gm6)).trans gm6
        have ge7 := (s7.grow.get _ (get_lt s6.ok.1 ge6)).trans ge6
        have e2 : opI (.load false 1) [.ptr (some (K.n, 2))] K7 = some (.val (.int .i64 s.from_) K7) := load_own ge7 (by rw [hev]; rfl)
        have e8 : opI (.load false 1) [.ptr (some (K.n, 8))] K7 = some (.val (.int .u64 s.v) K7) := load_own ge7 (by rw [hev]; rfl)
        have hrf := hr
        obtain ⟨w2, x2, va2, la2, hrv, _, _⟩ := hrf
        have e3 : opI (.load false 1) [.ptr (some (M.n, 3))] K7 = some (.val (.int .i64 r.to) K7) := load_own gr7 (by rw [hrv]; rfl)
        have skip : (takB s && decide (s.from_ < r.to)) = false → keysN r (l.take i ++ [s]) = keysN r (l.take i) ∧ ∀ y, leftN r (l.take i ++ [s]) y = leftN r (l.take i) y := fun hT => by
          rw [hT] at hkeys
          refine ⟨hkeys, fun y => ?_⟩
          rw [hleft]
          unfold bump
          rw [hA, hT]
          simp
        have same : (∀ y, leftN r (l.take i ++ [s]) y = leftN r (l.take i) y) → esF (keysN r (l.take i)) (leftN r (l.take i ++ [s])) = esF (keysN r (l.take i)) (leftN r (l.take i)) := fun h => List.map_congr_left fun y _ => by rw [h]
        cases hT1 : takB s with
        | false =>
          rw [hT1] at c7
          obtain ⟨q1, q2⟩ := skip (by rw [hT1]; rfl)
          refine W_seq (W_seqR (by simp only [runSeq_cons, runSeq_nil, evalArgs_nil, evalArgs_tmp, evalArgs_const, val1, putT, Tr.get_set_self, Tr.get_set_ne, Tr.isSome_set, hd _, ne_eq, Nat.reduceEqDiff, not_false_eq_true, decide_true, Nat.reduceLT, opI_move, opI_callF, opI_pick, runSeq_guard (b := false), Bool.false_beq, Bool.not_true, h7, LA6, c7]; rfl) ?_)
          refine W_cond (b := false) (by simp only [PArg.eval, Tr.get_set_self, Tr.get_set_ne, hd _, ne_eq, Nat.reduceEqDiff, not_false_eq_true, decide_true, Nat.reduceLT]; try rfl) (fun hb => by cases hb) (fun _ => W_skip ?_)
          show W _ _
          refine W_seqR (by simp only [runSeq_cons, runSeq_nil, evalArgs_nil, evalArgs_tmp, evalArgs_const, val1, putT, Tr.get_set_self, Tr.get_set_ne, hd _, ne_eq, Nat.reduceEqDiff, not_false_eq_true, decide_true, Nat.reduceLT, opI_move, opI_add, h14, wi1]; rfl) ?_
          exact hfin _ K7 (by ((repeat (with_reducible apply Dom.set)); exact hd)) (by simp only [Tr.get_set_ne, ne_eq, Nat.reduceEqDiff, not_false_eq_true, h3]) (by simp only [Tr.get_set_ne, ne_eq, Nat.reduceEqDiff, not_false_eq_true, h5]) (by simp only [Tr.get_set_ne, ne_eq, Nat.reduceEqDiff, not_false_eq_true, h12]) (by simp only [Tr.get_set_ne, ne_eq, Nat.reduceEqDiff, not_false_eq_true, h13]) (by simp only [Tr.get_set_self, Tr.get_set_ne, hd _, ne_eq, Nat.reduceEqDiff, not_false_eq_true, decide_true, Nat.reduceLT]) (s6.trans s7) gr7 (by rw [q1, same q2]; exact gm7) (by rw [q1]; exact hnd) (fun y hy => by rw [q2]; rw [q1] at hy; exact hz y hy)
        | true =>
          rw [hT1] at c7
          cases hT2 : decide (s.from_ < r.to) with
          | false =>
            obtain ⟨q1, q2⟩ := skip (by rw [hT1, hT2]; rfl)
            refine W_seq (W_seqR (by simp only [runSeq_cons, runSeq_nil, evalArgs_nil, evalArgs_tmp, evalArgs_const, val1, putT, Tr.get_set_self, Tr.get_set_ne, Tr.isSome_set, hd _, ne_eq, Nat.reduceEqDiff, not_false_eq_true, decide_true, Nat.reduceLT, opI_move, opI_lss, opI_callF, opI_fieldP, opI_pick, Nat.zero_add, runSeq_guard (b := true), beq_self_eq_true, h3, h7, LA6, c7, e2, e3, hT2]; rfl) ?_)
            refine W_cond (b := false) (by simp only [PArg.eval, Tr.get_set_self, Tr.get_set_ne, hd _, ne_eq, Nat.reduceEqDiff, not_false_eq_true, decide_true, Nat.reduceLT]; try rfl) (fun hb => by cases hb) (fun _ => W_skip ?_)
            show W _ _
            refine W_seqR (by simp only [runSeq_cons, runSeq_nil, evalArgs_nil, evalArgs_tmp, evalArgs_const, val1, putT, Tr.get_set_self, Tr.get_set_ne, hd _, ne_eq, Nat.reduceEqDiff, not_false_eq_true, decide_true, Nat.reduceLT, opI_move, opI_add, h14, wi1]; rfl) ?_
            exact hfin _ K7 (by ((repeat (with_reducible apply Dom.set)); exact hd)) (by simp only [Tr.get_set_ne, ne_eq, Nat.reduceEqDiff, not_false_eq_true, h3]) (by simp only [Tr.get_set_ne, ne_eq, Nat.reduceEqDiff, not_false_eq_true, h5]) (by simp only [Tr.get_set_ne, ne_eq, Nat.reduceEqDiff, not_false_eq_true, h12]) (by simp only [Tr.get_set_ne, ne_eq, Nat.reduceEqDiff, not_false_eq_true, h13]) (by simp only [Tr.get_set_self, Tr.get_set_ne, hd _, ne_eq, Nat.reduceEqDiff, not_false_eq_true, decide_true, Nat.reduceLT]) (s6.trans s7) gr7 (by rw [q1, same q2]; exact gm7) (by rw [q1]; exact hnd) (fun y hy => by rw [q2]; rw [q1] at hy; exact hz y hy)
          | true =>
            rw [hT1, hT2] at hkeys
            simp only [Bool.and_self, if_true] at hkeys
            have hb1 := hlb s.v
            have ww : wrapF .i64 (leftN r (l.take i) s.v - 1) = leftN r (l.take i) s.v + (-1) := by
              have hl1 : (l.take i).length = i := by rw [List.length_take]; omega
              rw [hl1] at hb1
              rw [wrapF_any (by omega) (by omega)]; omega
            obtain ⟨lk, K8, u8, s8, gm8, hnd8, hz8, o8, n8⟩ := tally (s6.trans s7) (by omega) hnd gm7 hz s.v (-1) (g := leftN r (l.take i ++ [s])) (fun y => by
              rw [hleft]
              unfold bump
              rw [hA, hT1, hT2]
              simp only [Bool.false_eq_true, if_false, Bool.and_self, if_true]
              split <;> omega)
            refine W_seq (W_seqR (by simp only [runSeq_cons, runSeq_nil, evalArgs_nil, evalArgs_tmp, evalArgs_const, val1, putT, Tr.get_set_self, Tr.get_set_ne, Tr.isSome_set, hd _, ne_eq, Nat.reduceEqDiff, not_false_eq_true, decide_true, Nat.reduceLT, opI_move, opI_lss, opI_callF, opI_fieldP, opI_pick, Nat.zero_add, runSeq_guard (b := true), beq_self_eq_true, h3, h7, LA6, c7, e2, e3, hT2]; rfl) ?_)
            refine W_cond (b := true) (by simp only [PArg.eval, Tr.get_set_self, Tr.get_set_ne, hd _, ne_eq, Nat.reduceEqDiff, not_false_eq_true, decide_true, Nat.reduceLT]; try rfl) (fun _ => ?_) (fun hb => by cases hb)
            refine W_seqR (by simp only [runSeq_cons, runSeq_nil, evalArgs_nil, evalArgs_tmp, evalArgs_const, val1, putT, Tr.get_set_self, Tr.get_set_ne, hd _, ne_eq, Nat.reduceEqDiff, not_false_eq_true, decide_true, Nat.reduceLT, opI_move, opI_sub, opI_fieldP, Nat.zero_add, Nat.reduceAdd, h5, h7, e8, lk, ww, u8]; rfl) ?_
            show W _ _
            refine W_seqR (by simp only [runSeq_cons, runSeq_nil, evalArgs_nil, evalArgs_tmp, evalArgs_const, val1, putT, Tr.get_set_self, Tr.get_set_ne, hd _, ne_eq, Nat.reduceEqDiff, not_false_eq_true, decide_true, Nat.reduceLT, opI_move, opI_add, h14, wi1]; rfl) ?_
            exact hfin _ K8 (by ((repeat (with_reducible apply Dom.set)); exact hd)) (by simp only [Tr.get_set_ne, ne_eq, Nat.reduceEqDiff, not_false_eq_true, h3]) (by simp only [Tr.get_set_ne, ne_eq, Nat.reduceEqDiff, not_false_eq_true, h5]) (by simp only [Tr.get_set_ne, ne_eq, Nat.reduceEqDiff, not_false_eq_true, h12]) (by simp only [Tr.get_set_ne, ne_eq, Nat.reduceEqDiff, not_false_eq_true, h13]) (by simp only [Tr.get_set_self, Tr.get_set_ne, hd _, ne_eq, Nat.reduceEqDiff, not_false_eq_true, decide_true, Nat.reduceLT]) s8 ((o8 _ (by omega)).trans gr7) (by rw [hkeys]; exact gm8) (by rw [hkeys]; exact hnd8) (by rw [hkeys]; exact hz8)
    · have hi : i = l.length := by
        have := of_decide_eq_false hb
        omega
      subst hi
      rw [List.take_length] at gm hnd hz
      show MW _ _ _ _ _
      refine MW_seq (MW_of (drawSound _) hcall (N := 100000) k4 (W_seqR (by simp only [runSeq_cons, runSeq_nil, evalArgs_nil, evalArgs_const, val1, putT, opI_move]; rfl) ?_))
      show MW _ _ _ _ _
      have hkl := keysN_len r l
      have hle : ∀ x, leftN r l x ≤ 90000 := fun x => by have := leftN_le r x l; omega
      have hlen : (ents .u64 (esF (keysN r l) (leftN r l))).length = (keysN r l).length := by simp [ents, esF]
      refine MW_seq (MW_rangeS hcall (drawSound _) (N := 100000) hR k5 (by decide) (by simp only [runSeq_cons, runSeq_nil, evalArgs_nil, evalArgs_tmp, val1, putT, Tr.get_set_ne, ne_eq, Nat.reduceEqDiff, not_false_eq_true, opI_move, h5]; rfl) (by simp only [PArg.eval, Tr.get_set_self, Tr.get_set_ne, hd _, ne_eq, Nat.reduceEqDiff, not_false_eq_true, decide_true, Nat.reduceLT]; try rfl) gm
        (fun p done t K' => K' = K.set K1.n .dead ∧ Dom t 60 ∧ t.get 50 = some (.rptr p) ∧ t.get 8 = some (.int .i64 (sumD (leftN r l) (keysN r l) done))) (fun p => ⟨rfl, by unfold putT; ((repeat (with_reducible apply Dom.set)); exact hd), by simp only [putT, Tr.get_set_self, Tr.get_set_ne, hd _, ne_eq, Nat.reduceEqDiff, not_false_eq_true, decide_true, Nat.reduceLT]; try rfl, by simp only [putT, Tr.get_set_self, Tr.get_set_ne, hd _, ne_eq, Nat.reduceEqDiff, not_false_eq_true, decide_true, Nat.reduceLT]; rfl⟩) (fun p d t K' h => h.2.2.1) ?_ ?_)
      · rintro p done i t K' hi hnd2 hndd hbd ⟨rfl, hd, h50, h8⟩
        rw [hlen] at hi
        have hsl := sumD_le (keys := keysN r l) hle done
        have hdl : done.length ≤ l.length := by
          have := List.Nodup.length_le_of_subset (l₁ := done) (l₂ := List.range (keysN r l).length) hndd (fun x hx => List.mem_range.2 (by have := hbd x hx; rwa [hlen] at this))
          rw [List.length_range] at this
          omega
        have hx : (keysN r l).getD i 0 = (keysN r l)[i] := by rw [List.getD_eq_getElem?_getD, List.getElem?_eq_getElem hi]; rfl
        have hadd := sumD_add (leftN r l) (keysN r l) done i
        rw [hx] at hadd
        have hxl := hle (keysN r l)[i]
        generalize hxe : (keysN r l)[i] = x at *
        have ww : wrapF .i64 (sumD (leftN r l) (keysN r l) done + max (leftN r l x) 0) = sumD (leftN r l) (keysN r l) done + max (leftN r l x) 0 := wrapF_any (by omega) (by omega)
        refine ⟨(.int .u64 x, .int .i64 (leftN r l x)), ?_, _, _, _, by simp only [runSeq_cons, runSeq_nil, evalArgs_nil, evalArgs_tmp, val1, putT, Tr.get_set_self, hd _, decide_true, Nat.reduceLT, opI_extract, List.getElem?_cons_zero]; rfl, by simp only [Tr.get_set_ne, ne_eq, Nat.reduceEqDiff, not_false_eq_true, h50], by simp only [Tr.get_set_self, Tr.get_set_ne, hd _, ne_eq, Nat.reduceEqDiff, not_false_eq_true, decide_true, Nat.reduceLT]; try rfl, by simp only [runSeq_cons, runSeq_nil, evalArgs_nil, evalArgs_tmp, val1, putT, Tr.get_set_self, Tr.get_set_ne, hd _, ne_eq, Nat.reduceEqDiff, not_false_eq_true, decide_true, Nat.reduceLT, opI_move, opI_extract, List.getElem?_cons_zero, List.getElem?_cons_succ]; rfl, ?_⟩
        · simp only [ents, esF, List.map_map]
          rw [List.getElem?_map, List.getElem?_eq_getElem hi, hxe]; rfl
        · refine W_seqR (by simp only [runSeq_cons, runSeq_nil, evalArgs_nil, evalArgs_tmp, evalArgs_const, val1, putT, Tr.get_set_self, Tr.get_set_ne, hd _, ne_eq, Nat.reduceEqDiff, not_false_eq_true, decide_true, Nat.reduceLT, opI_move, opI_add, h8, opI_max0, ww]; rfl) ?_
          exact ⟨.inl rfl, rfl, by ((repeat (with_reducible apply Dom.set)); exact hd), by simp only [Tr.get_set_ne, ne_eq, Nat.reduceEqDiff, not_false_eq_true, h50], by simp only [Tr.get_set_self, Tr.get_set_ne, hd _, ne_eq, Nat.reduceEqDiff, not_false_eq_true, decide_true, Nat.reduceLT]; rw [hadd]⟩
      · rintro p done t K' hndd hall ⟨rfl, hd, h50, h8⟩
        refine ⟨_, by simp only [runSeq_cons, runSeq_nil, evalArgs_nil, evalArgs_tmp, val1, putT, Tr.get_set_self, hd _, decide_true, Nat.reduceLT, opI_extract, List.getElem?_cons_zero]; rfl, by simp only [Tr.get_set_self, Tr.get_set_ne, hd _, ne_eq, Nat.reduceEqDiff, not_false_eq_true, decide_true, Nat.reduceLT]; try rfl, .inl ?_⟩
        rw [sumD_all hndd (fun j => by rw [hall, hlen])] at h8
        show MW _ _ _ _ _
        refine MW_of (drawSound _) hcall (N := 100000) k6 (W_seq (W_seqR (by simp only [runSeq_cons, runSeq_nil, evalArgs_nil, evalArgs_tmp, val1, putT, Tr.get_set_self, Tr.get_set_ne, hd _, ne_eq, Nat.reduceEqDiff, not_false_eq_true, decide_true, Nat.reduceLT, opI_move, h8]; rfl) (W_ret ?_)))
        refine ⟨.inr rfl, _, fin_tmp (by simp only [Tr.get_set_self, Tr.get_set_ne, hd _, ne_eq, Nat.reduceEqDiff, not_false_eq_true, decide_true, Nat.reduceLT]; try rfl), rfl, ?_⟩
        exact sK.set (by omega) gm (fun _ _ _ _ he => by cases he)
end Go.Proofs.Ytpbejdlpkpehlaa.bag
