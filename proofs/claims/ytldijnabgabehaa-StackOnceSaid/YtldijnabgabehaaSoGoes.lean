/- Told what the cells tell, a walk goes on as the plain one does. -/
import Derived.Test.YtldijnabgabehaaSoSim
namespace Go.Proofs.Ytldijnabgabehaa.so
open Go Go.Vx
theorem pair' {t y : Nat} (ht : t + 1 < 4294967296) (hy : y < 4294967296) : ((BitVec.ofInt 64 (((t : Int) + 1) * 4294967296) ||| BitVec.ofInt 64 (y : Int)).toNat : Int) = ((pr (t + 1) y : Nat) : Int) := by
  rw [orr (by omega) (by omega) (by omega) (by omega)]
  unfold pr; omega
theorem wpr {t y : Nat} (ht : t < 4294967296) (hy : y < 4294967296) : wrapF .u64 ((pr t y : Nat) : Int) = ((pr t y : Nat) : Int) := wu (by omega) (by unfold pr; omega)
theorem top_c {n V T : Nat} {m : Mem} (h : Bd n V T m) : m.ti < 4294967296 ∨ 4096 < n := by have := h.ti; omega
theorem st_goes {n V T : Nat} {m : Mem} {w : Wk} {S : List ABlk} (hS : St n w S) (h : Bd n V T m) (hw : BdW n V T w) (ho : over w = false) (hn1 : 1 ≤ n) (hn : n ≤ 4096) (hT : T + 1 < 4294967296) (hV : V < 4294967296) : ∃ S', Goes S (told m w).1 (told m w).2 S' ∧ St n (step m w).2 S' := by
  have hti := h.ti
  have hhi := h.hi
  have headc : ∀ (v : Nat), (m.hi = 0 ∧ head1 m v = .nomem v) ∨ (1 ≤ m.hi ∧ head1 m v = .t2 v (m.ht, m.hi)) := fun v => by
    unfold head1
    split
    · exact .inl ⟨by assumption, rfl⟩
    · exact .inr ⟨by omega, rfl⟩
  have topc : (m.ti = 0 ∧ top1 m = .empty) ∨ (1 ≤ m.ti ∧ top1 m = .q2 (m.tt, m.ti)) := by
    unfold top1
    split
    · exact .inl ⟨by assumption, rfl⟩
    · exact .inr ⟨by omega, rfl⟩
  cases w with
  | t1 v =>
    obtain rfl := hS
    rcases headc v with ⟨hc, e⟩ | ⟨hc, e⟩
    · refine ⟨_, ask_of (fun g => W0_T0 g _ _ _) rfl rfl ?_, by simp only [step, e]; rfl⟩
      · simp only [told]
        simp (disch := omega) only [List.forall_mem_cons, List.not_mem_nil, false_implies, implies_true, and_true, true_and, lo_pr, beq_iff_eq]
        try omega
    · refine ⟨W3 ((1 + m.hi : Nat) : Int) n (pr m.ht m.hi : Nat) v, ask_of (fun g => W0_T1 g _ _ _) rfl ?_ ?_, by simp only [step, e]; rfl⟩
      · simp only [told]
        simp (disch := omega) only [lo_pr, wi, Int.natCast_add, Int.cast_ofNat_Int]
      · simp only [told]
        simp (disch := omega) only [List.forall_mem_cons, List.not_mem_nil, false_implies, implies_true, and_true, lo_pr, wi, gt_iff_lt, decide_eq_false_iff_not, beq_eq_false_iff_ne, ne_eq]
        try omega
  | t2 v t =>
    obtain rfl := hS
    obtain ⟨t, i⟩ := t
    simp only [BdW] at hw
    have hl := h.link i
    refine ⟨W6 (pr t i : Nat) (pr (t + 1) (m.link i) : Nat) n v, ask_of (fun g => W3_T0 g _ _ _ _ _) rfl ?_ ?_, rfl⟩
    · simp only [told]
      simp (disch := omega) only [hi_pr, wu, wpr, w3, pair']
    · simp (disch := omega) only [List.forall_mem_cons, List.not_mem_nil, false_implies, implies_true, and_true, beq_self_eq_true]
      try omega
  | t3 v t l =>
    obtain rfl := hS
    obtain ⟨t, i⟩ := t
    simp only [BdW] at hw
    by_cases he : (m.ht, m.hi) = (t, i)
    · have e : step m (.t3 v (t, i) l) = ({ m with ht := t + 1, hi := l }, .p2 v i) := if_pos he
      have e2 : told m (.t3 v (t, i) l) = (pr m.ht m.hi, true) := by simp only [told, he, decide_true]
      rw [e, e2]
      refine ⟨W8 ((1 + n + i : Nat) : Int) v n i, ask_of (fun g => W6_T0 g _ _ _ _ _) rfl ?_ ?_, rfl⟩
      · simp (disch := omega) only [lo_pr, wi, wu, w3, Int.natCast_add, Int.cast_ofNat_Int]
      · simp (disch := omega) only [List.forall_mem_cons, List.not_mem_nil, false_implies, implies_true, and_true, lo_pr, wu, beq_self_eq_true]
        try omega
    · have e : step m (.t3 v (t, i) l) = (m, head1 m v) := if_neg he
      have e2 : told m (.t3 v (t, i) l) = (pr m.ht m.hi, false) := by simp only [told, he, decide_false]
      rw [e, e2]
      rcases headc v with ⟨hc, e⟩ | ⟨hc, e⟩
      · refine ⟨_, ask_of (fun g => W6_F0 g _ _ _ _ _) rfl rfl ?_, by rw [e]; rfl⟩
        · simp (disch := omega) only [List.forall_mem_cons, List.not_mem_nil, false_implies, implies_true, and_true, true_and, lo_pr, beq_iff_eq]
          try omega
      · refine ⟨W3 ((1 + m.hi : Nat) : Int) n (pr m.ht m.hi : Nat) v, ask_of (fun g => W6_F1 g _ _ _ _ _) rfl ?_ ?_, by rw [e]; rfl⟩
        · simp (disch := omega) only [lo_pr, wi, Int.natCast_add, Int.cast_ofNat_Int]
        · simp (disch := omega) only [List.forall_mem_cons, List.not_mem_nil, false_implies, implies_true, and_true, lo_pr, wi, gt_iff_lt, decide_eq_false_iff_not, beq_eq_false_iff_ne, ne_eq]
          try omega
  | p2 v i =>
    obtain rfl := hS
    exact ⟨_, ask_of (fun g => W8_T0 g _ _ _ _ _) rfl rfl (by simp), rfl⟩
  | p3 v i =>
    obtain rfl := hS
    simp only [BdW] at hw
    refine ⟨W13 ((1 + 2 * n + i : Nat) : Int) m.ti n (pr m.tt m.ti : Nat) i v, ask_of (fun g => W11_T0 g _ _ _ _) rfl ?_ ?_, rfl⟩
    · simp only [told]
      simp (disch := omega) only [lo_pr, wi, wu, Int.natCast_add, Int.natCast_mul, Int.cast_ofNat_Int]
    · simp (disch := omega) only [List.not_mem_nil, false_implies, implies_true]
      try omega
  | p4 v i t =>
    obtain rfl := hS
    obtain ⟨t, j⟩ := t
    simp only [BdW] at hw
    refine ⟨W15 (pr t j : Nat) (pr (t + 1) i : Nat) n i v, ask_of (fun g => W13_T0 g _ _ _ _ _ _ _) rfl ?_ ?_, rfl⟩
    · simp only
      simp (disch := omega) only [hi_pr, wu, wpr, w3, pair']
    · simp (disch := omega) only [List.forall_mem_cons, List.not_mem_nil, false_implies, implies_true, and_true, beq_self_eq_true]
      try omega
  | p5 v i t =>
    obtain rfl := hS
    obtain ⟨t, j⟩ := t
    simp only [BdW] at hw
    by_cases he : (m.tt, m.ti) = (t, j)
    · have e : step m (.p5 v i (t, j)) = ({ m with tt := t + 1, ti := i }, .pushed v) := if_pos he
      have e2 : told m (.p5 v i (t, j)) = (pr m.tt m.ti, true) := by simp only [told, he, decide_true]
      rw [e, e2]
      refine ⟨_, ask_of (fun g => W15_T0 g _ _ _ _ _ _) rfl rfl ?_, _, _, rfl⟩
      · simp (disch := omega) only [List.forall_mem_cons, List.not_mem_nil, false_implies, implies_true, and_true]
        try omega
    · have e : step m (.p5 v i (t, j)) = (m, .p4 v i (m.tt, m.ti)) := if_neg he
      have e2 : told m (.p5 v i (t, j)) = (pr m.tt m.ti, false) := by simp only [told, he, decide_false]
      rw [e, e2]
      refine ⟨W13 ((1 + 2 * n + i : Nat) : Int) m.ti n (pr m.tt m.ti : Nat) i v, ask_of (fun g => W15_F0 g _ _ _ _ _ _) rfl ?_ ?_, rfl⟩
      · simp (disch := omega) only [lo_pr, wi, wu, Int.natCast_add, Int.natCast_mul, Int.cast_ofNat_Int]
      · simp (disch := omega) only [List.not_mem_nil, false_implies, implies_true]
        try omega
  | q1 =>
    obtain rfl := hS
    rcases topc with ⟨hc, e⟩ | ⟨hc, e⟩
    · refine ⟨_, ask_of (fun g => W1_T0 g _ _) rfl rfl ?_, by simp only [step, e]; exact .inl rfl⟩
      · simp only [told]
        simp (disch := omega) only [List.forall_mem_cons, List.not_mem_nil, false_implies, implies_true, and_true, true_and, lo_pr, beq_iff_eq]
        try omega
    · refine ⟨W5 ((1 + 2 * n + m.ti : Nat) : Int) n (pr m.tt m.ti : Nat) m.ti, ask_of (fun g => W1_T1 g _ _) rfl ?_ ?_, by simp only [step, e]; rfl⟩
      · simp only [told]
        simp (disch := omega) only [lo_pr, wi, Int.natCast_add, Int.natCast_mul, Int.cast_ofNat_Int]
      · simp only [told]
        simp (disch := omega) only [List.forall_mem_cons, List.not_mem_nil, false_implies, implies_true, and_true, lo_pr, wi, Bool.not_eq_false', ge_iff_le, decide_eq_true_eq, beq_eq_false_iff_ne, ne_eq]
        try omega
  | q2 t =>
    obtain rfl := hS
    obtain ⟨t, i⟩ := t
    simp only [BdW] at hw
    have hl := h.below i
    refine ⟨W7 (pr t i : Nat) (pr (t + 1) (m.below i) : Nat) n i, ask_of (fun g => W5_T0 g _ _ _ _ _) rfl ?_ ?_, rfl⟩
    · simp only [told]
      simp (disch := omega) only [hi_pr, wu, wpr, w3, pair']
    · simp (disch := omega) only [List.forall_mem_cons, List.not_mem_nil, false_implies, implies_true, and_true, beq_self_eq_true]
      try omega
  | q3 t b =>
    obtain rfl := hS
    obtain ⟨t, i⟩ := t
    simp only [BdW] at hw
    by_cases he : (m.tt, m.ti) = (t, i)
    · have e : step m (.q3 (t, i) b) = ({ m with tt := t + 1, ti := b }, .q4 i) := if_pos he
      have e2 : told m (.q3 (t, i) b) = (pr m.tt m.ti, true) := by simp only [told, he, decide_true]
      rw [e, e2]
      refine ⟨W9 ((1 + n + i : Nat) : Int) n (pr t i : Nat) i, ask_of (fun g => W7_T0 g _ _ _ _ _) rfl ?_ ?_, _, rfl⟩
      · simp (disch := omega) only [wi, Int.natCast_add, Int.cast_ofNat_Int]
      · simp (disch := omega) only [List.not_mem_nil, false_implies, implies_true]
        try omega
    · have e : step m (.q3 (t, i) b) = (m, top1 m) := if_neg he
      have e2 : told m (.q3 (t, i) b) = (pr m.tt m.ti, false) := by simp only [told, he, decide_false]
      rw [e, e2]
      rcases topc with ⟨hc, e⟩ | ⟨hc, e⟩
      · refine ⟨_, ask_of (fun g => W7_F0 g _ _ _ _ _) rfl rfl ?_, by rw [e]; exact .inr ⟨_, _, rfl⟩⟩
        · simp (disch := omega) only [List.forall_mem_cons, List.not_mem_nil, false_implies, implies_true, and_true, true_and, lo_pr, beq_iff_eq]
          try omega
      · refine ⟨W5 ((1 + 2 * n + m.ti : Nat) : Int) n (pr m.tt m.ti : Nat) m.ti, ask_of (fun g => W7_F1 g _ _ _ _ _) rfl ?_ ?_, by rw [e]; rfl⟩
        · simp (disch := omega) only [lo_pr, wi, Int.natCast_add, Int.natCast_mul, Int.cast_ofNat_Int]
        · simp (disch := omega) only [List.forall_mem_cons, List.not_mem_nil, false_implies, implies_true, and_true, lo_pr, wi, Bool.not_eq_false', ge_iff_le, decide_eq_true_eq, beq_eq_false_iff_ne, ne_eq]
          try omega
  | q4 i =>
    obtain ⟨x, rfl⟩ := hS
    simp only [BdW] at hw
    have ht := h.task i
    refine ⟨W12 ((1 + n + i : Nat) : Int) n i x i (m.task i), ask_of (fun g => W9_T0 g _ _ _ _ _) rfl ?_ ?_, _, _, rfl⟩
    · simp only [told]
      simp (disch := omega) only [wi, Int.natCast_add, Int.cast_ofNat_Int]
    · simp (disch := omega) only [List.forall_mem_cons, List.not_mem_nil, false_implies, implies_true, and_true, true_and, wi, beq_self_eq_true, Bool.not_eq_false', ge_iff_le, gt_iff_lt, decide_eq_true_eq, decide_eq_false_iff_not]
      try omega
  | u1 v i =>
    obtain ⟨c, x, rfl⟩ := hS
    simp only [BdW] at hw
    refine ⟨W14 c ((1 + i : Nat) : Int) m.hi n i (pr m.ht m.hi : Nat) x i v, ask_of (fun g => W12_T0 g _ _ _ _ _ _ _) rfl ?_ ?_, _, _, rfl⟩
    · simp only [told]
      simp (disch := omega) only [lo_pr, wi, wu, Int.natCast_add, Int.cast_ofNat_Int]
    · simp (disch := omega) only [List.forall_mem_cons, List.not_mem_nil, false_implies, implies_true, and_true, beq_self_eq_true]
      try omega
  | u2 v i t =>
    obtain ⟨c, x, rfl⟩ := hS
    obtain ⟨t, j⟩ := t
    simp only [BdW] at hw
    refine ⟨W16 c (pr t j : Nat) (pr (t + 1) i : Nat) n i x i v, ask_of (fun g => W14_T0 g _ _ _ _ _ _ _ _ _ _) rfl ?_ ?_, _, _, rfl⟩
    · simp only
      simp (disch := omega) only [hi_pr, wu, wpr, w3, pair']
    · simp (disch := omega) only [List.forall_mem_cons, List.not_mem_nil, false_implies, implies_true, and_true, beq_self_eq_true]
      try omega
  | u3 v i t =>
    obtain ⟨c, x, rfl⟩ := hS
    obtain ⟨t, j⟩ := t
    simp only [BdW] at hw
    by_cases he : (m.ht, m.hi) = (t, j)
    · have e : step m (.u3 v i (t, j)) = ({ m with ht := t + 1, hi := i }, .popped v) := if_pos he
      have e2 : told m (.u3 v i (t, j)) = (pr m.ht m.hi, true) := by simp only [told, he, decide_true]
      rw [e, e2]
      refine ⟨_, ask_of (fun g => W16_T0 g _ _ _ _ _ _ _ _ _) rfl rfl ?_, _, rfl⟩
      · simp (disch := omega) only [List.forall_mem_cons, List.not_mem_nil, false_implies, implies_true, and_true, beq_self_eq_true]
        try omega
    · have e : step m (.u3 v i (t, j)) = (m, .u2 v i (m.ht, m.hi)) := if_neg he
      have e2 : told m (.u3 v i (t, j)) = (pr m.ht m.hi, false) := by simp only [told, he, decide_false]
      rw [e, e2]
      refine ⟨W14 c ((1 + i : Nat) : Int) m.hi n i (pr m.ht m.hi : Nat) x i v, ask_of (fun g => W16_F0 g _ _ _ _ _ _ _ _ _) rfl ?_ ?_, _, _, rfl⟩
      · simp (disch := omega) only [lo_pr, wi, wu, Int.natCast_add, Int.cast_ofNat_Int]
      · simp (disch := omega) only [List.forall_mem_cons, List.not_mem_nil, false_implies, implies_true, and_true, beq_self_eq_true]
        try omega
  | _ => cases ho
/-- a new walk -/
theorem askNew_of {f : FuncId} {xs : List AV} {S S0 : List ABlk} {way : List (Nat × Bool)} {σ : List Nat} {owe : List (Bool × Bool)} {k : Nat} (h : ∀ g, stepO runW 400 way f xs [] g (fun r => [r]) = some (.ptr (some (k, 0)), σ, S0, [P0], owe)) (hs : S0 = S) (ho : ∀ p ∈ owe, p.1 = p.2) : AskNew f xs S := fun g => ⟨way, σ, owe, k, by rw [h g, hs], ho⟩
abbrev ArgP (n : Nat) : AV := .agg [.int .i64 0, .int .i64 n]
theorem starts (n v : Nat) (h1 : 1 ≤ n) (hn : n ≤ 4096) : (∃ S, AskNew 12 [ArgP n, .int .u64 v] S ∧ St n (.t1 v) S) ∧ ∃ S, AskNew 13 [ArgP n] S ∧ St n .q1 S := by
  refine ⟨⟨_, askNew_of (fun g => W_push0 g _ _) rfl ?_, rfl⟩, _, askNew_of (fun g => W_pop0 g _) rfl ?_, rfl⟩
  · simp (disch := omega) only [List.forall_mem_cons, List.not_mem_nil, false_implies, implies_true, and_true, wi, Bool.not_eq_false', ge_iff_le, decide_eq_true_eq]
    try omega
  · simp (disch := omega) only [List.forall_mem_cons, List.not_mem_nil, false_implies, implies_true, and_true, wi, Bool.not_eq_false', ge_iff_le, decide_eq_true_eq]
    try omega
end Go.Proofs.Ytldijnabgabehaa.so
