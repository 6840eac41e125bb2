/- The walk of a Push or a Pop and the document's machine: which states of the one go with which of the other; what both show is the same, and told the same they go on so. -/
import Derived.Test.YtmgfamnongagbaaGreatSkD
namespace Go.Proofs.YtmgfamnongagbaaGreat.stk
open Go Go.Vx
def lo (u : Int) : Int := u % 4294967296
def hi (u : Int) : Int := u / 4294967296
theorem lo_b (u : Int) : 0 ≤ lo u ∧ lo u < 4294967296 := by unfold lo; omega
theorem w32 {x : Int} : wrapF .u32 x = lo x := rfl
theorem wi {x : Int} (h1 : -9223372036854775808 ≤ x) (h2 : x ≤ 9223372036854775807) : wrapF .i64 x = x := by unfold wrapF; simp only; omega
theorem wu {x : Int} (h1 : 0 ≤ x) (h2 : x ≤ 18446744073709551615) : wrapF .u64 x = x := by unfold wrapF; simp only; omega
theorem lo_lo {u : Int} : lo (lo u) = lo u := by unfold lo; omega
theorem lo_hi {u : Int} (h1 : 0 ≤ u) (h2 : u ≤ 18446744073709551615) : lo (hi u) = hi u := by unfold lo hi; omega
theorem hi_b {u : Int} (h1 : 0 ≤ u) (h2 : u ≤ 18446744073709551615) : 0 ≤ hi u ∧ hi u < 4294967296 := by unfold hi; omega
theorem td {u : Int} (h : 0 ≤ u) : u.tdiv 4294967296 = hi u := by unfold hi; rw [Int.tdiv_eq_ediv_of_nonneg h]
theorem tm {u : Int} (h : 0 ≤ u) : u.tmod 4294967296 = lo u := by unfold lo; rw [Int.tmod_eq_emod_of_nonneg h]
theorem fd {u : Int} : u.fdiv 4294967296 = hi u := by unfold hi; rw [Int.fdiv_eq_ediv_of_nonneg _ (by decide)]
theorem orr {x y : Int} (h1 : 0 ≤ x) (h2 : x < 4294967296) (h3 : 0 ≤ y) (h4 : y < 4294967296) : ((BitVec.ofInt 64 (x * 4294967296) ||| BitVec.ofInt 64 y).toNat : Int) = x * 4294967296 + y := by
  obtain ⟨a, rfl⟩ : ∃ a : Nat, x = a := ⟨x.toNat, by omega⟩
  obtain ⟨b, rfl⟩ : ∃ b : Nat, y = b := ⟨y.toNat, by omega⟩
  rw [BitVec.toNat_or, BitVec.toNat_ofInt, BitVec.toNat_ofInt]
  have e1 : ((a : Int) * 4294967296 % ((2 ^ 64 : Nat) : Int)).toNat = a <<< 32 := by
    rw [Nat.shiftLeft_eq]; omega
  have e2 : ((b : Int) % ((2 ^ 64 : Nat) : Int)).toNat = b := by omega
  rw [e1, e2, ← Nat.shiftLeft_add_eq_or_of_lt (by omega), Nat.shiftLeft_eq]
  omega

/-! What a call comes to, whatever else there is. -/
abbrev P0 : AV := .ptr (some (0, 0))
def Ask (f : FuncId) (xs : List AV) (S S' : List ABlk) (r : AV) : Prop := ∀ g, ∃ way σ owe, stepO runW 400 way f (P0 :: xs) S g (fun _ => [P0]) = some (r, σ, S', [P0], owe) ∧ ∀ p ∈ owe, p.1 = p.2
theorem ask_of {f : FuncId} {xs : List AV} {S S' S0 : List ABlk} {r r0 : AV} {way : List (Nat × Bool)} {σ : List Nat} {owe : List (Bool × Bool)} (h : ∀ g, stepO runW 400 way f (P0 :: xs) S g (fun _ => [P0]) = some (r0, σ, S0, [P0], owe))
    (hr : r0 = r) (hs : S0 = S') (ho : ∀ p ∈ owe, p.1 = p.2) : Ask f xs S S' r := fun g => ⟨way, σ, owe, by rw [h g, hr, hs], ho⟩
/-- what a list of tasks is: nothing, or a new row of one -/
def HeldIs (f : FuncId) (S : List ABlk) : List Int → Prop
  | [] => Ask f [] S S (.slice none 0 0 false)
  | [x] => ∃ k gr sz, S.length ≤ k ∧ Ask f [] S S (.slice (some (k, 0)) 1 1 gr) ∧ ∀ g, ∃ way σ owe, stepO runW 400 way f [P0] S g (fun r => [r]) = some (.slice (some (k, 0)) 1 1 gr, σ, [.cells [.int .u64 x] sz true none], [.slice (some (0, 0)) 1 1 gr], owe) ∧ ∀ p ∈ owe, p.1 = p.2
  | _ => False
/-- what is seen: the access that is wanted, the result, the tasks -/
structure Obs where
  k : Int
  c : Int
  a : Int
  b : Int
  ok : Bool
  code : Int
  val : Int
  over : Bool
  held : List Int
def Shows (fw fr fh : FuncId) (S : List ABlk) (o : Obs) : Prop :=
  Ask fw [] S S (.tuple [.agg [.int .i64 o.k, .int .i64 o.c, .int .u64 o.a, .int .u64 o.b], .bool o.ok]) ∧
  Ask fr [] S S (.tuple [.agg [.int .i64 o.code, .int .u64 o.val, .slice none 0 0 false], .bool o.over]) ∧ HeldIs fh S o.held
abbrev ShowsW := Shows 20 21 24
abbrev ShowsD := Shows 34 35 36
def Goes (f : FuncId) (S : List ABlk) (u : Int) (w : Bool) (S' : List ABlk) : Prop := Ask f [.int .u64 u, .bool w] S S' (.tuple [])
abbrev GoesW := Goes 25
abbrev GoesD := Goes 37
def U64 (u : Int) : Prop := 0 ≤ u ∧ u ≤ 18446744073709551615
/-- such a stack may be -/
def Rt (at_ n : Int) : Prop := 1 ≤ n ∧ n ≤ 4096 ∧ 0 ≤ at_ ∧ at_ < 65536 - 3 * n - 1
inductive Sim : List ABlk → List ABlk → Prop
  | bad1 (at_ n v : Int) : Sim (W1) (D1 at_ n v)
  | bad2 (at_ n : Int) : Sim (W1) (D3 at_ n)
  | t1 (at_ n v : Int) (h0 : Rt at_ n) : Sim (W0 (at_ + 1) n at_ v) (D0 at_ n v (at_ + 1))
  | nomem (at_ n v : Int) : Sim (W3) (D4 at_ n v)
  | brk (at_ n v : Int) : Sim (W5) (D6 at_ n v)
  | t2 (at_ n v h : Int) (h0 : Rt at_ n) (h1 : U64 h) (h2 : 1 ≤ lo h ∧ lo h ≤ n) : Sim (W4 (at_ + 1 + lo h) (at_ + 1) n h at_ v) (D5 at_ n v (at_ + 1) h)
  | t2b (at_ n v h l : Int) (h0 : Rt at_ n) (h1 : U64 h) (h2 : 1 ≤ lo h ∧ lo h ≤ n) : Sim (W4 (at_ + 1 + lo h) (at_ + 1) n h at_ v) (D13 at_ n v (at_ + 1) h l)
  | t3 (at_ n v h l : Int) (h0 : Rt at_ n) (h1 : U64 h) (h2 : U64 l) (h3 : 1 ≤ lo h ∧ lo h ≤ n) : Sim (W9 (at_ + 1) h (lo (hi h + 1) * 4294967296 + lo l) n at_ v) (D10 at_ n v (at_ + 1) h l)
  | p2 (at_ n v h : Int) (h0 : Rt at_ n) (h1 : 1 ≤ lo h ∧ lo h ≤ n) : Sim (W11 (at_ + 1 + n + lo h) v at_ n (lo h)) (D12 at_ n v (lo h))
  | p3 (at_ n v h : Int) (h0 : Rt at_ n) (h1 : 1 ≤ lo h ∧ lo h ≤ n) : Sim (W15 at_ n (lo h) v) (D18 at_ n v (lo h))
  | p4 (at_ n v h t : Int) (h0 : Rt at_ n) (h1 : U64 t) (h2 : 1 ≤ lo h ∧ lo h ≤ n) : Sim (W17 (at_ + 1 + 2 * n + lo h) (lo t) at_ n t (lo h) v) (D20 at_ n v t (lo h))
  | p5 (at_ n v h t : Int) (h0 : Rt at_ n) (h1 : U64 t) (h2 : 1 ≤ lo h ∧ lo h ≤ n) : Sim (W19 at_ t (lo (hi t + 1) * 4294967296 + lo h) n (lo h) v) (D22 at_ n v t (lo h))
  | pend (at_ n v h t x y z : Int) : Sim (W21 x y z) (D24 at_ n v t (lo h))
  | q1 (at_ n : Int) (h0 : Rt at_ n) : Sim (W2 at_ n) (D2 at_ n)
  | emp (at_ n t x y : Int) : Sim (W6 x) (D7 at_ n t y)
  | brq (at_ n t x y : Int) : Sim (W8 x) (D9 at_ n t y)
  | emp2 (at_ n t b y x0 x1 x2 : Int) : Sim (W13 x0 x1 x2) (D15 at_ n t b y)
  | brq2 (at_ n t b y x0 x1 x2 : Int) : Sim (W14 x0 x1 x2) (D17 at_ n t b y)
  | q2 (at_ n h : Int) (h0 : Rt at_ n) (h1 : U64 h) (h2 : 1 ≤ lo h ∧ lo h ≤ n) : Sim (W7 (at_ + 1 + 2 * n + lo h) at_ n h (lo h)) (D8 at_ n h (lo h))
  | q2b (at_ n h b : Int) (h0 : Rt at_ n) (h1 : U64 h) (h2 : 1 ≤ lo h ∧ lo h ≤ n) : Sim (W7 (at_ + 1 + 2 * n + lo h) at_ n h (lo h)) (D16 at_ n h b (lo h))
  | q3 (at_ n h b : Int) (h0 : Rt at_ n) (h1 : U64 h) (h2 : U64 b) (h3 : 1 ≤ lo h ∧ lo h ≤ n) : Sim (W10 at_ h (lo (hi h + 1) * 4294967296 + lo b) n (lo h)) (D11 at_ n h b (lo h))
  | q4 (at_ n h b : Int) (h0 : Rt at_ n) (h1 : U64 h) (h2 : 1 ≤ lo h ∧ lo h ≤ n) : Sim (W12 (at_ + 1 + n + lo h) at_ n h (lo h)) (D14 at_ n h b (lo h))
  | u1 (at_ n v h b : Int) (h0 : Rt at_ n) (h1 : U64 h) (h2 : 1 ≤ lo h ∧ lo h ≤ n) : Sim (W16 (at_ + 1 + n + lo h) (at_ + 1) n (lo h) at_ h (lo h) v) (D19 at_ n v h b (lo h) (at_ + 1))
  | u2 (at_ n v h b t : Int) (h0 : Rt at_ n) (h1 : U64 h) (h2 : U64 t) (h3 : 1 ≤ lo h ∧ lo h ≤ n) : Sim (W18 (at_ + 1 + n + lo h) (at_ + 1 + lo h) (lo t) (at_ + 1) n (lo h) t at_ h (lo h) v) (D21 at_ n v h b (lo h) (at_ + 1) t)
  | u2b (at_ n v h b t l : Int) (h0 : Rt at_ n) (h1 : U64 h) (h2 : U64 t) (h3 : 1 ≤ lo h ∧ lo h ≤ n) : Sim (W18 (at_ + 1 + n + lo h) (at_ + 1 + lo h) (lo t) (at_ + 1) n (lo h) t at_ h (lo h) v) (D26 at_ n v h b (lo h) (at_ + 1) t l)
  | u3 (at_ n v h b t l : Int) (h0 : Rt at_ n) (h1 : U64 h) (h2 : U64 t) (h3 : 1 ≤ lo h ∧ lo h ≤ n) : Sim (W20 (at_ + 1 + n + lo h) (at_ + 1) t (lo (hi t + 1) * 4294967296 + lo h) n (lo h) at_ h (lo h) v) (D23 at_ n v h b (lo h) (at_ + 1) t l)
  | uend (at_ n v h b x : Int) : Sim (W22 x v) (D25 at_ n v h b (lo h))

/-! Both show the same. -/
theorem sim_shows {S D : List ABlk} (h : Sim S D) : ∃ o, ShowsW S o ∧ ShowsD D o ∧ (o.over = false → o.code = 0 ∧ o.val = 0) := by
  cases h
  case bad1 at_ n v =>
    refine ⟨⟨0, 0, 0, 0, false, 2, 0, true, []⟩, ⟨?_, ?_, ?_⟩, ⟨?_, ?_, ?_⟩, by simp⟩
    · exact ask_of (by intro g; apply W1_want) (by first | rfl | simp (disch := omega) only [tm, td, fd, w32, lo_lo, lo_hi, wi, wu, orr]) rfl (by simp)
    · exact ask_of (by intro g; apply W1_res) rfl rfl (by simp)
    · exact ask_of (by intro g; apply W1_held) rfl rfl (by simp)
    · exact ask_of (by intro g; apply D1_want) (by first | rfl | simp (disch := omega) only [tm, td, fd, w32, lo_lo, lo_hi, wi, wu, orr]) rfl (by simp)
    · exact ask_of (by intro g; apply D1_res) rfl rfl (by simp)
    · exact ask_of (by intro g; apply D1_held) rfl rfl (by simp)
  case bad2 at_ n =>
    refine ⟨⟨0, 0, 0, 0, false, 2, 0, true, []⟩, ⟨?_, ?_, ?_⟩, ⟨?_, ?_, ?_⟩, by simp⟩
    · exact ask_of (by intro g; apply W1_want) (by first | rfl | simp (disch := omega) only [tm, td, fd, w32, lo_lo, lo_hi, wi, wu, orr]) rfl (by simp)
    · exact ask_of (by intro g; apply W1_res) rfl rfl (by simp)
    · exact ask_of (by intro g; apply W1_held) rfl rfl (by simp)
    · exact ask_of (by intro g; apply D3_want) (by first | rfl | simp (disch := omega) only [tm, td, fd, w32, lo_lo, lo_hi, wi, wu, orr]) rfl (by simp)
    · exact ask_of (by intro g; apply D3_res) rfl rfl (by simp)
    · exact ask_of (by intro g; apply D3_held) rfl rfl (by simp)
  case t1 at_ n v h0 =>
    have b0 := h0
    unfold Rt at b0
    refine ⟨⟨1, (at_ + 1), 0, 0, true, 0, 0, false, [v]⟩, ⟨?_, ?_, ?_⟩, ⟨?_, ?_, ?_⟩, by simp⟩
    · exact ask_of (by intro g; apply W0_want) (by first | rfl | simp (disch := omega) only [tm, td, fd, w32, lo_lo, lo_hi, wi, wu, orr]) rfl (by simp)
    · exact ask_of (by intro g; apply W0_res) rfl rfl (by simp)
    · exact ⟨_, _, _, Nat.le_of_ble_eq_true rfl, ask_of (by intro g; apply W0_held) rfl rfl (by simp), fun g => ⟨_, _, _, by apply W0_heldr, by simp⟩⟩
    · exact ask_of (by intro g; apply D0_want) (by first | rfl | simp (disch := omega) only [tm, td, fd, w32, lo_lo, lo_hi, wi, wu, orr]) rfl (by simp)
    · exact ask_of (by intro g; apply D0_res) rfl rfl (by simp)
    · exact ⟨_, _, _, Nat.le_of_ble_eq_true rfl, ask_of (by intro g; apply D0_held) rfl rfl (by simp), fun g => ⟨_, _, _, by apply D0_heldr, by simp⟩⟩
  case nomem at_ n v =>
    refine ⟨⟨0, 0, 0, 0, false, 7, 0, true, []⟩, ⟨?_, ?_, ?_⟩, ⟨?_, ?_, ?_⟩, by simp⟩
    · exact ask_of (by intro g; apply W3_want) (by first | rfl | simp (disch := omega) only [tm, td, fd, w32, lo_lo, lo_hi, wi, wu, orr]) rfl (by simp)
    · exact ask_of (by intro g; apply W3_res) rfl rfl (by simp)
    · exact ask_of (by intro g; apply W3_held) rfl rfl (by simp)
    · exact ask_of (by intro g; apply D4_want) (by first | rfl | simp (disch := omega) only [tm, td, fd, w32, lo_lo, lo_hi, wi, wu, orr]) rfl (by simp)
    · exact ask_of (by intro g; apply D4_res) rfl rfl (by simp)
    · exact ask_of (by intro g; apply D4_held) rfl rfl (by simp)
  case brk at_ n v =>
    refine ⟨⟨0, 0, 0, 0, false, 9, 0, true, []⟩, ⟨?_, ?_, ?_⟩, ⟨?_, ?_, ?_⟩, by simp⟩
    · exact ask_of (by intro g; apply W5_want) (by first | rfl | simp (disch := omega) only [tm, td, fd, w32, lo_lo, lo_hi, wi, wu, orr]) rfl (by simp)
    · exact ask_of (by intro g; apply W5_res) rfl rfl (by simp)
    · exact ask_of (by intro g; apply W5_held) rfl rfl (by simp)
    · exact ask_of (by intro g; apply D6_want) (by first | rfl | simp (disch := omega) only [tm, td, fd, w32, lo_lo, lo_hi, wi, wu, orr]) rfl (by simp)
    · exact ask_of (by intro g; apply D6_res) rfl rfl (by simp)
    · exact ask_of (by intro g; apply D6_held) rfl rfl (by simp)
  case t2 at_ n v h h0 h1 h2 =>
    have b0 := h0
    unfold Rt at b0
    have b1 := h1
    unfold U64 at b1
    have l_h := lo_b h
    have m_h := lo_b (hi h + 1)
    have i_h := hi_b (u := h) (by omega) (by omega)
    refine ⟨⟨1, (at_ + 1 + lo h), 0, 0, true, 0, 0, false, [v]⟩, ⟨?_, ?_, ?_⟩, ⟨?_, ?_, ?_⟩, by simp⟩
    · exact ask_of (by intro g; apply W4_want) (by first | rfl | simp (disch := omega) only [tm, td, fd, w32, lo_lo, lo_hi, wi, wu, orr]) rfl (by simp)
    · exact ask_of (by intro g; apply W4_res) rfl rfl (by simp)
    · exact ⟨_, _, _, Nat.le_of_ble_eq_true rfl, ask_of (by intro g; apply W4_held) rfl rfl (by simp), fun g => ⟨_, _, _, by apply W4_heldr, by simp⟩⟩
    · exact ask_of (by intro g; apply D5_want) (by first | rfl | simp (disch := omega) only [tm, w32, lo_lo, wi]) rfl (by simp)
    · exact ask_of (by intro g; apply D5_res) rfl rfl (by simp)
    · exact ⟨_, _, _, Nat.le_of_ble_eq_true rfl, ask_of (by intro g; apply D5_held) rfl rfl (by simp), fun g => ⟨_, _, _, by apply D5_heldr, by simp⟩⟩
  case t2b at_ n v h l h0 h1 h2 =>
    have b0 := h0
    unfold Rt at b0
    have b1 := h1
    unfold U64 at b1
    have l_h := lo_b h
    have m_h := lo_b (hi h + 1)
    have i_h := hi_b (u := h) (by omega) (by omega)
    have l_l := lo_b l
    have m_l := lo_b (hi l + 1)
    refine ⟨⟨1, (at_ + 1 + lo h), 0, 0, true, 0, 0, false, [v]⟩, ⟨?_, ?_, ?_⟩, ⟨?_, ?_, ?_⟩, by simp⟩
    · exact ask_of (by intro g; apply W4_want) (by first | rfl | simp (disch := omega) only [tm, td, fd, w32, lo_lo, lo_hi, wi, wu, orr]) rfl (by simp)
    · exact ask_of (by intro g; apply W4_res) rfl rfl (by simp)
    · exact ⟨_, _, _, Nat.le_of_ble_eq_true rfl, ask_of (by intro g; apply W4_held) rfl rfl (by simp), fun g => ⟨_, _, _, by apply W4_heldr, by simp⟩⟩
    · exact ask_of (by intro g; apply D13_want) (by first | rfl | simp (disch := omega) only [tm, w32, lo_lo, wi]) rfl (by simp)
    · exact ask_of (by intro g; apply D13_res) rfl rfl (by simp)
    · exact ⟨_, _, _, Nat.le_of_ble_eq_true rfl, ask_of (by intro g; apply D13_held) rfl rfl (by simp), fun g => ⟨_, _, _, by apply D13_heldr, by simp⟩⟩
  case t3 at_ n v h l h0 h1 h2 h3 =>
    have b0 := h0
    unfold Rt at b0
    have b1 := h1
    unfold U64 at b1
    have b2 := h2
    unfold U64 at b2
    have l_h := lo_b h
    have m_h := lo_b (hi h + 1)
    have i_h := hi_b (u := h) (by omega) (by omega)
    have l_l := lo_b l
    have m_l := lo_b (hi l + 1)
    have i_l := hi_b (u := l) (by omega) (by omega)
    refine ⟨⟨3, (at_ + 1), h, (lo (hi h + 1) * 4294967296 + lo l), true, 0, 0, false, [v]⟩, ⟨?_, ?_, ?_⟩, ⟨?_, ?_, ?_⟩, by simp⟩
    · exact ask_of (by intro g; apply W9_want) (by first | rfl | simp (disch := omega) only [tm, td, fd, w32, lo_lo, lo_hi, wi, wu, orr]) rfl (by simp)
    · exact ask_of (by intro g; apply W9_res) rfl rfl (by simp)
    · exact ⟨_, _, _, Nat.le_of_ble_eq_true rfl, ask_of (by intro g; apply W9_held) rfl rfl (by simp), fun g => ⟨_, _, _, by apply W9_heldr, by simp⟩⟩
    · exact ask_of (by intro g; apply D10_want) (by first | rfl | simp (disch := omega) only [tm, td, w32, lo_lo, lo_hi, wu]) rfl (by simp)
    · exact ask_of (by intro g; apply D10_res) rfl rfl (by simp)
    · exact ⟨_, _, _, Nat.le_of_ble_eq_true rfl, ask_of (by intro g; apply D10_held) rfl rfl (by simp), fun g => ⟨_, _, _, by apply D10_heldr, by simp⟩⟩
  case p2 at_ n v h h0 h1 =>
    have b0 := h0
    unfold Rt at b0
    have l_h := lo_b h
    have m_h := lo_b (hi h + 1)
    refine ⟨⟨2, (at_ + 1 + n + lo h), v, 0, true, 0, 0, false, [v]⟩, ⟨?_, ?_, ?_⟩, ⟨?_, ?_, ?_⟩, by simp⟩
    · exact ask_of (by intro g; apply W11_want) (by first | rfl | simp (disch := omega) only [tm, td, fd, w32, lo_lo, lo_hi, wi, wu, orr]) rfl (by simp)
    · exact ask_of (by intro g; apply W11_res) rfl rfl (by simp)
    · exact ⟨_, _, _, Nat.le_of_ble_eq_true rfl, ask_of (by intro g; apply W11_held) rfl rfl (by simp), fun g => ⟨_, _, _, by apply W11_heldr, by simp⟩⟩
    · exact ask_of (by intro g; apply D12_want) (by first | rfl | simp (disch := omega) only [wi]) rfl (by simp)
    · exact ask_of (by intro g; apply D12_res) rfl rfl (by simp)
    · exact ⟨_, _, _, Nat.le_of_ble_eq_true rfl, ask_of (by intro g; apply D12_held) rfl rfl (by simp), fun g => ⟨_, _, _, by apply D12_heldr, by simp⟩⟩
  case p3 at_ n v h h0 h1 =>
    have b0 := h0
    unfold Rt at b0
    have l_h := lo_b h
    have m_h := lo_b (hi h + 1)
    refine ⟨⟨1, at_, 0, 0, true, 0, 0, false, [v]⟩, ⟨?_, ?_, ?_⟩, ⟨?_, ?_, ?_⟩, by simp⟩
    · exact ask_of (by intro g; apply W15_want) (by first | rfl | simp (disch := omega) only [tm, td, fd, w32, lo_lo, lo_hi, wi, wu, orr]) rfl (by simp)
    · exact ask_of (by intro g; apply W15_res) rfl rfl (by simp)
    · exact ⟨_, _, _, Nat.le_of_ble_eq_true rfl, ask_of (by intro g; apply W15_held) rfl rfl (by simp), fun g => ⟨_, _, _, by apply W15_heldr, by simp⟩⟩
    · exact ask_of (by intro g; apply D18_want) (by first | rfl | simp (disch := omega) only [tm, td, fd, w32, lo_lo, lo_hi, wi, wu, orr]) rfl (by simp)
    · exact ask_of (by intro g; apply D18_res) rfl rfl (by simp)
    · exact ⟨_, _, _, Nat.le_of_ble_eq_true rfl, ask_of (by intro g; apply D18_held) rfl rfl (by simp), fun g => ⟨_, _, _, by apply D18_heldr, by simp⟩⟩
  case p4 at_ n v h t h0 h1 h2 =>
    have b0 := h0
    unfold Rt at b0
    have b1 := h1
    unfold U64 at b1
    have l_h := lo_b h
    have m_h := lo_b (hi h + 1)
    have l_t := lo_b t
    have m_t := lo_b (hi t + 1)
    have i_t := hi_b (u := t) (by omega) (by omega)
    refine ⟨⟨2, (at_ + 1 + 2 * n + lo h), (lo t), 0, true, 0, 0, false, [v]⟩, ⟨?_, ?_, ?_⟩, ⟨?_, ?_, ?_⟩, by simp⟩
    · exact ask_of (by intro g; apply W17_want) (by first | rfl | simp (disch := omega) only [tm, td, fd, w32, lo_lo, lo_hi, wi, wu, orr]) rfl (by simp)
    · exact ask_of (by intro g; apply W17_res) rfl rfl (by simp)
    · exact ⟨_, _, _, Nat.le_of_ble_eq_true rfl, ask_of (by intro g; apply W17_held) rfl rfl (by simp), fun g => ⟨_, _, _, by apply W17_heldr, by simp⟩⟩
    · exact ask_of (by intro g; apply D20_want) (by first | rfl | simp (disch := omega) only [tm, w32, lo_lo, wi, wu]) rfl (by simp)
    · exact ask_of (by intro g; apply D20_res) rfl rfl (by simp)
    · exact ⟨_, _, _, Nat.le_of_ble_eq_true rfl, ask_of (by intro g; apply D20_held) rfl rfl (by simp), fun g => ⟨_, _, _, by apply D20_heldr, by simp⟩⟩
  case p5 at_ n v h t h0 h1 h2 =>
    have b0 := h0
    unfold Rt at b0
    have b1 := h1
    unfold U64 at b1
    have l_h := lo_b h
    have m_h := lo_b (hi h + 1)
    have l_t := lo_b t
    have m_t := lo_b (hi t + 1)
    have i_t := hi_b (u := t) (by omega) (by omega)
    refine ⟨⟨3, at_, t, (lo (hi t + 1) * 4294967296 + lo h), true, 0, 0, false, [v]⟩, ⟨?_, ?_, ?_⟩, ⟨?_, ?_, ?_⟩, by simp⟩
    · exact ask_of (by intro g; apply W19_want) (by first | rfl | simp (disch := omega) only [tm, td, fd, w32, lo_lo, lo_hi, wi, wu, orr]) rfl (by simp)
    · exact ask_of (by intro g; apply W19_res) rfl rfl (by simp)
    · exact ⟨_, _, _, Nat.le_of_ble_eq_true rfl, ask_of (by intro g; apply W19_held) rfl rfl (by simp), fun g => ⟨_, _, _, by apply W19_heldr, by simp⟩⟩
    · exact ask_of (by intro g; apply D22_want) (by first | rfl | simp (disch := omega) only [td, w32, lo_lo, lo_hi, wu]) rfl (by simp)
    · exact ask_of (by intro g; apply D22_res) rfl rfl (by simp)
    · exact ⟨_, _, _, Nat.le_of_ble_eq_true rfl, ask_of (by intro g; apply D22_held) rfl rfl (by simp), fun g => ⟨_, _, _, by apply D22_heldr, by simp⟩⟩
  case pend at_ n v h t x y z =>
    have l_h := lo_b h
    have m_h := lo_b (hi h + 1)
    have l_t := lo_b t
    have m_t := lo_b (hi t + 1)
    refine ⟨⟨0, 0, 0, 0, false, 0, 0, true, []⟩, ⟨?_, ?_, ?_⟩, ⟨?_, ?_, ?_⟩, by simp⟩
    · exact ask_of (by intro g; apply W21_want) (by first | rfl | simp (disch := omega) only [tm, td, fd, w32, lo_lo, lo_hi, wi, wu, orr]) rfl (by simp)
    · exact ask_of (by intro g; apply W21_res) rfl rfl (by simp)
    · exact ask_of (by intro g; apply W21_held) rfl rfl (by simp)
    · exact ask_of (by intro g; apply D24_want) (by first | rfl | simp (disch := omega) only [tm, td, fd, w32, lo_lo, lo_hi, wi, wu, orr]) rfl (by simp)
    · exact ask_of (by intro g; apply D24_res) rfl rfl (by simp)
    · exact ask_of (by intro g; apply D24_held) rfl rfl (by simp)
  case q1 at_ n h0 =>
    have b0 := h0
    unfold Rt at b0
    refine ⟨⟨1, at_, 0, 0, true, 0, 0, false, []⟩, ⟨?_, ?_, ?_⟩, ⟨?_, ?_, ?_⟩, by simp⟩
    · exact ask_of (by intro g; apply W2_want) (by first | rfl | simp (disch := omega) only [tm, td, fd, w32, lo_lo, lo_hi, wi, wu, orr]) rfl (by simp)
    · exact ask_of (by intro g; apply W2_res) rfl rfl (by simp)
    · exact ask_of (by intro g; apply W2_held) rfl rfl (by simp)
    · exact ask_of (by intro g; apply D2_want) (by first | rfl | simp (disch := omega) only [tm, td, fd, w32, lo_lo, lo_hi, wi, wu, orr]) rfl (by simp)
    · exact ask_of (by intro g; apply D2_res) rfl rfl (by simp)
    · exact ask_of (by intro g; apply D2_held) rfl rfl (by simp)
  case emp at_ n t x y =>
    have l_t := lo_b t
    have m_t := lo_b (hi t + 1)
    refine ⟨⟨0, 0, 0, 0, false, 5, 0, true, []⟩, ⟨?_, ?_, ?_⟩, ⟨?_, ?_, ?_⟩, by simp⟩
    · exact ask_of (by intro g; apply W6_want) (by first | rfl | simp (disch := omega) only [tm, td, fd, w32, lo_lo, lo_hi, wi, wu, orr]) rfl (by simp)
    · exact ask_of (by intro g; apply W6_res) rfl rfl (by simp)
    · exact ask_of (by intro g; apply W6_held) rfl rfl (by simp)
    · exact ask_of (by intro g; apply D7_want) (by first | rfl | simp (disch := omega) only [tm, td, fd, w32, lo_lo, lo_hi, wi, wu, orr]) rfl (by simp)
    · exact ask_of (by intro g; apply D7_res) rfl rfl (by simp)
    · exact ask_of (by intro g; apply D7_held) rfl rfl (by simp)
  case brq at_ n t x y =>
    have l_t := lo_b t
    have m_t := lo_b (hi t + 1)
    refine ⟨⟨0, 0, 0, 0, false, 9, 0, true, []⟩, ⟨?_, ?_, ?_⟩, ⟨?_, ?_, ?_⟩, by simp⟩
    · exact ask_of (by intro g; apply W8_want) (by first | rfl | simp (disch := omega) only [tm, td, fd, w32, lo_lo, lo_hi, wi, wu, orr]) rfl (by simp)
    · exact ask_of (by intro g; apply W8_res) rfl rfl (by simp)
    · exact ask_of (by intro g; apply W8_held) rfl rfl (by simp)
    · exact ask_of (by intro g; apply D9_want) (by first | rfl | simp (disch := omega) only [tm, td, fd, w32, lo_lo, lo_hi, wi, wu, orr]) rfl (by simp)
    · exact ask_of (by intro g; apply D9_res) rfl rfl (by simp)
    · exact ask_of (by intro g; apply D9_held) rfl rfl (by simp)
  case emp2 at_ n t b y x0 x1 x2 =>
    have l_t := lo_b t
    have m_t := lo_b (hi t + 1)
    have l_b := lo_b b
    have m_b := lo_b (hi b + 1)
    refine ⟨⟨0, 0, 0, 0, false, 5, 0, true, []⟩, ⟨?_, ?_, ?_⟩, ⟨?_, ?_, ?_⟩, by simp⟩
    · exact ask_of (by intro g; apply W13_want) (by first | rfl | simp (disch := omega) only [tm, td, fd, w32, lo_lo, lo_hi, wi, wu, orr]) rfl (by simp)
    · exact ask_of (by intro g; apply W13_res) rfl rfl (by simp)
    · exact ask_of (by intro g; apply W13_held) rfl rfl (by simp)
    · exact ask_of (by intro g; apply D15_want) (by first | rfl | simp (disch := omega) only [tm, td, fd, w32, lo_lo, lo_hi, wi, wu, orr]) rfl (by simp)
    · exact ask_of (by intro g; apply D15_res) rfl rfl (by simp)
    · exact ask_of (by intro g; apply D15_held) rfl rfl (by simp)
  case brq2 at_ n t b y x0 x1 x2 =>
    have l_t := lo_b t
    have m_t := lo_b (hi t + 1)
    have l_b := lo_b b
    have m_b := lo_b (hi b + 1)
    refine ⟨⟨0, 0, 0, 0, false, 9, 0, true, []⟩, ⟨?_, ?_, ?_⟩, ⟨?_, ?_, ?_⟩, by simp⟩
    · exact ask_of (by intro g; apply W14_want) (by first | rfl | simp (disch := omega) only [tm, td, fd, w32, lo_lo, lo_hi, wi, wu, orr]) rfl (by simp)
    · exact ask_of (by intro g; apply W14_res) rfl rfl (by simp)
    · exact ask_of (by intro g; apply W14_held) rfl rfl (by simp)
    · exact ask_of (by intro g; apply D17_want) (by first | rfl | simp (disch := omega) only [tm, td, fd, w32, lo_lo, lo_hi, wi, wu, orr]) rfl (by simp)
    · exact ask_of (by intro g; apply D17_res) rfl rfl (by simp)
    · exact ask_of (by intro g; apply D17_held) rfl rfl (by simp)
  case q2 at_ n h h0 h1 h2 =>
    have b0 := h0
    unfold Rt at b0
    have b1 := h1
    unfold U64 at b1
    have l_h := lo_b h
    have m_h := lo_b (hi h + 1)
    have i_h := hi_b (u := h) (by omega) (by omega)
    refine ⟨⟨1, (at_ + 1 + 2 * n + lo h), 0, 0, true, 0, 0, false, []⟩, ⟨?_, ?_, ?_⟩, ⟨?_, ?_, ?_⟩, by simp⟩
    · exact ask_of (by intro g; apply W7_want) (by first | rfl | simp (disch := omega) only [tm, td, fd, w32, lo_lo, lo_hi, wi, wu, orr]) rfl (by simp)
    · exact ask_of (by intro g; apply W7_res) rfl rfl (by simp)
    · exact ask_of (by intro g; apply W7_held) rfl rfl (by simp)
    · exact ask_of (by intro g; apply D8_want) (by first | rfl | simp (disch := omega) only [wi]) rfl (by simp)
    · exact ask_of (by intro g; apply D8_res) rfl rfl (by simp)
    · exact ask_of (by intro g; apply D8_held) rfl rfl (by simp)
  case q2b at_ n h b h0 h1 h2 =>
    have b0 := h0
    unfold Rt at b0
    have b1 := h1
    unfold U64 at b1
    have l_h := lo_b h
    have m_h := lo_b (hi h + 1)
    have i_h := hi_b (u := h) (by omega) (by omega)
    have l_b := lo_b b
    have m_b := lo_b (hi b + 1)
    refine ⟨⟨1, (at_ + 1 + 2 * n + lo h), 0, 0, true, 0, 0, false, []⟩, ⟨?_, ?_, ?_⟩, ⟨?_, ?_, ?_⟩, by simp⟩
    · exact ask_of (by intro g; apply W7_want) (by first | rfl | simp (disch := omega) only [tm, td, fd, w32, lo_lo, lo_hi, wi, wu, orr]) rfl (by simp)
    · exact ask_of (by intro g; apply W7_res) rfl rfl (by simp)
    · exact ask_of (by intro g; apply W7_held) rfl rfl (by simp)
    · exact ask_of (by intro g; apply D16_want) (by first | rfl | simp (disch := omega) only [wi]) rfl (by simp)
    · exact ask_of (by intro g; apply D16_res) rfl rfl (by simp)
    · exact ask_of (by intro g; apply D16_held) rfl rfl (by simp)
  case q3 at_ n h b h0 h1 h2 h3 =>
    have b0 := h0
    unfold Rt at b0
    have b1 := h1
    unfold U64 at b1
    have b2 := h2
    unfold U64 at b2
    have l_h := lo_b h
    have m_h := lo_b (hi h + 1)
    have i_h := hi_b (u := h) (by omega) (by omega)
    have l_b := lo_b b
    have m_b := lo_b (hi b + 1)
    have i_b := hi_b (u := b) (by omega) (by omega)
    refine ⟨⟨3, at_, h, (lo (hi h + 1) * 4294967296 + lo b), true, 0, 0, false, []⟩, ⟨?_, ?_, ?_⟩, ⟨?_, ?_, ?_⟩, by simp⟩
    · exact ask_of (by intro g; apply W10_want) (by first | rfl | simp (disch := omega) only [tm, td, fd, w32, lo_lo, lo_hi, wi, wu, orr]) rfl (by simp)
    · exact ask_of (by intro g; apply W10_res) rfl rfl (by simp)
    · exact ask_of (by intro g; apply W10_held) rfl rfl (by simp)
    · exact ask_of (by intro g; apply D11_want) (by first | rfl | simp (disch := omega) only [tm, td, w32, lo_lo, lo_hi, wu]) rfl (by simp)
    · exact ask_of (by intro g; apply D11_res) rfl rfl (by simp)
    · exact ask_of (by intro g; apply D11_held) rfl rfl (by simp)
  case q4 at_ n h b h0 h1 h2 =>
    have b0 := h0
    unfold Rt at b0
    have b1 := h1
    unfold U64 at b1
    have l_h := lo_b h
    have m_h := lo_b (hi h + 1)
    have i_h := hi_b (u := h) (by omega) (by omega)
    have l_b := lo_b b
    have m_b := lo_b (hi b + 1)
    refine ⟨⟨1, (at_ + 1 + n + lo h), 0, 0, true, 0, 0, false, []⟩, ⟨?_, ?_, ?_⟩, ⟨?_, ?_, ?_⟩, by simp⟩
    · exact ask_of (by intro g; apply W12_want) (by first | rfl | simp (disch := omega) only [tm, td, fd, w32, lo_lo, lo_hi, wi, wu, orr]) rfl (by simp)
    · exact ask_of (by intro g; apply W12_res) rfl rfl (by simp)
    · exact ask_of (by intro g; apply W12_held) rfl rfl (by simp)
    · exact ask_of (by intro g; apply D14_want) (by first | rfl | simp (disch := omega) only [wi]) rfl (by simp)
    · exact ask_of (by intro g; apply D14_res) rfl rfl (by simp)
    · exact ask_of (by intro g; apply D14_held) rfl rfl (by simp)
  case u1 at_ n v h b h0 h1 h2 =>
    have b0 := h0
    unfold Rt at b0
    have b1 := h1
    unfold U64 at b1
    have l_h := lo_b h
    have m_h := lo_b (hi h + 1)
    have i_h := hi_b (u := h) (by omega) (by omega)
    have l_b := lo_b b
    have m_b := lo_b (hi b + 1)
    refine ⟨⟨1, (at_ + 1), 0, 0, true, 0, 0, false, [v]⟩, ⟨?_, ?_, ?_⟩, ⟨?_, ?_, ?_⟩, by simp⟩
    · exact ask_of (by intro g; apply W16_want) (by first | rfl | simp (disch := omega) only [tm, td, fd, w32, lo_lo, lo_hi, wi, wu, orr]) rfl (by simp)
    · exact ask_of (by intro g; apply W16_res) rfl rfl (by simp)
    · exact ⟨_, _, _, Nat.le_of_ble_eq_true rfl, ask_of (by intro g; apply W16_held) rfl rfl (by simp), fun g => ⟨_, _, _, by apply W16_heldr, by simp⟩⟩
    · exact ask_of (by intro g; apply D19_want) (by first | rfl | simp (disch := omega) only [tm, td, fd, w32, lo_lo, lo_hi, wi, wu, orr]) rfl (by simp)
    · exact ask_of (by intro g; apply D19_res) rfl rfl (by simp)
    · exact ⟨_, _, _, Nat.le_of_ble_eq_true rfl, ask_of (by intro g; apply D19_held) rfl rfl (by simp), fun g => ⟨_, _, _, by apply D19_heldr, by simp⟩⟩
  case u2 at_ n v h b t h0 h1 h2 h3 =>
    have b0 := h0
    unfold Rt at b0
    have b1 := h1
    unfold U64 at b1
    have b2 := h2
    unfold U64 at b2
    have l_h := lo_b h
    have m_h := lo_b (hi h + 1)
    have i_h := hi_b (u := h) (by omega) (by omega)
    have l_b := lo_b b
    have m_b := lo_b (hi b + 1)
    have l_t := lo_b t
    have m_t := lo_b (hi t + 1)
    have i_t := hi_b (u := t) (by omega) (by omega)
    refine ⟨⟨2, (at_ + 1 + lo h), (lo t), 0, true, 0, 0, false, [v]⟩, ⟨?_, ?_, ?_⟩, ⟨?_, ?_, ?_⟩, by simp⟩
    · exact ask_of (by intro g; apply W18_want) (by first | rfl | simp (disch := omega) only [tm, td, fd, w32, lo_lo, lo_hi, wi, wu, orr]) rfl (by simp)
    · exact ask_of (by intro g; apply W18_res) rfl rfl (by simp)
    · exact ⟨_, _, _, Nat.le_of_ble_eq_true rfl, ask_of (by intro g; apply W18_held) rfl rfl (by simp), fun g => ⟨_, _, _, by apply W18_heldr, by simp⟩⟩
    · exact ask_of (by intro g; apply D21_want) (by first | rfl | simp (disch := omega) only [tm, w32, lo_lo, wi, wu]) rfl (by simp)
    · exact ask_of (by intro g; apply D21_res) rfl rfl (by simp)
    · exact ⟨_, _, _, Nat.le_of_ble_eq_true rfl, ask_of (by intro g; apply D21_held) rfl rfl (by simp), fun g => ⟨_, _, _, by apply D21_heldr, by simp⟩⟩
  case u2b at_ n v h b t l h0 h1 h2 h3 =>
    have b0 := h0
    unfold Rt at b0
    have b1 := h1
    unfold U64 at b1
    have b2 := h2
    unfold U64 at b2
    have l_h := lo_b h
    have m_h := lo_b (hi h + 1)
    have i_h := hi_b (u := h) (by omega) (by omega)
    have l_b := lo_b b
    have m_b := lo_b (hi b + 1)
    have l_t := lo_b t
    have m_t := lo_b (hi t + 1)
    have i_t := hi_b (u := t) (by omega) (by omega)
    have l_l := lo_b l
    have m_l := lo_b (hi l + 1)
    refine ⟨⟨2, (at_ + 1 + lo h), (lo t), 0, true, 0, 0, false, [v]⟩, ⟨?_, ?_, ?_⟩, ⟨?_, ?_, ?_⟩, by simp⟩
    · exact ask_of (by intro g; apply W18_want) (by first | rfl | simp (disch := omega) only [tm, td, fd, w32, lo_lo, lo_hi, wi, wu, orr]) rfl (by simp)
    · exact ask_of (by intro g; apply W18_res) rfl rfl (by simp)
    · exact ⟨_, _, _, Nat.le_of_ble_eq_true rfl, ask_of (by intro g; apply W18_held) rfl rfl (by simp), fun g => ⟨_, _, _, by apply W18_heldr, by simp⟩⟩
    · exact ask_of (by intro g; apply D26_want) (by first | rfl | simp (disch := omega) only [tm, w32, lo_lo, wi, wu]) rfl (by simp)
    · exact ask_of (by intro g; apply D26_res) rfl rfl (by simp)
    · exact ⟨_, _, _, Nat.le_of_ble_eq_true rfl, ask_of (by intro g; apply D26_held) rfl rfl (by simp), fun g => ⟨_, _, _, by apply D26_heldr, by simp⟩⟩
  case u3 at_ n v h b t l h0 h1 h2 h3 =>
    have b0 := h0
    unfold Rt at b0
    have b1 := h1
    unfold U64 at b1
    have b2 := h2
    unfold U64 at b2
    have l_h := lo_b h
    have m_h := lo_b (hi h + 1)
    have i_h := hi_b (u := h) (by omega) (by omega)
    have l_b := lo_b b
    have m_b := lo_b (hi b + 1)
    have l_t := lo_b t
    have m_t := lo_b (hi t + 1)
    have i_t := hi_b (u := t) (by omega) (by omega)
    have l_l := lo_b l
    have m_l := lo_b (hi l + 1)
    refine ⟨⟨3, (at_ + 1), t, (lo (hi t + 1) * 4294967296 + lo h), true, 0, 0, false, [v]⟩, ⟨?_, ?_, ?_⟩, ⟨?_, ?_, ?_⟩, by simp⟩
    · exact ask_of (by intro g; apply W20_want) (by first | rfl | simp (disch := omega) only [tm, td, fd, w32, lo_lo, lo_hi, wi, wu, orr]) rfl (by simp)
    · exact ask_of (by intro g; apply W20_res) rfl rfl (by simp)
    · exact ⟨_, _, _, Nat.le_of_ble_eq_true rfl, ask_of (by intro g; apply W20_held) rfl rfl (by simp), fun g => ⟨_, _, _, by apply W20_heldr, by simp⟩⟩
    · exact ask_of (by intro g; apply D23_want) (by first | rfl | simp (disch := omega) only [td, w32, lo_lo, lo_hi, wu]) rfl (by simp)
    · exact ask_of (by intro g; apply D23_res) rfl rfl (by simp)
    · exact ⟨_, _, _, Nat.le_of_ble_eq_true rfl, ask_of (by intro g; apply D23_held) rfl rfl (by simp), fun g => ⟨_, _, _, by apply D23_heldr, by simp⟩⟩
  case uend at_ n v h b x =>
    have l_h := lo_b h
    have m_h := lo_b (hi h + 1)
    have l_b := lo_b b
    have m_b := lo_b (hi b + 1)
    refine ⟨⟨0, 0, 0, 0, false, 0, v, true, []⟩, ⟨?_, ?_, ?_⟩, ⟨?_, ?_, ?_⟩, by simp⟩
    · exact ask_of (by intro g; apply W22_want) (by first | rfl | simp (disch := omega) only [tm, td, fd, w32, lo_lo, lo_hi, wi, wu, orr]) rfl (by simp)
    · exact ask_of (by intro g; apply W22_res) rfl rfl (by simp)
    · exact ask_of (by intro g; apply W22_held) rfl rfl (by simp)
    · exact ask_of (by intro g; apply D25_want) (by first | rfl | simp (disch := omega) only [tm, td, fd, w32, lo_lo, lo_hi, wi, wu, orr]) rfl (by simp)
    · exact ask_of (by intro g; apply D25_res) rfl rfl (by simp)
    · exact ask_of (by intro g; apply D25_held) rfl rfl (by simp)

/-! Told the same, they go on so. -/
theorem sim_goes {S D : List ABlk} (h : Sim S D) (u : Int) (hu : U64 u) (w : Bool) : ∃ S' D', GoesW S u w S' ∧ GoesD D u w D' ∧ Sim S' D' := by
  have bu := hu
  unfold U64 at bu
  cases h
  case bad1 at_ n v =>
    have l_u := lo_b u
    have m_u := lo_b (hi u + 1)
    have i_u := hi_b (u := u) (by omega) (by omega)
    cases w
    · refine ⟨_, _, ask_of (by intro g; apply W1_F0) rfl ?_ ?_, ask_of (by intro g; apply D1_F0) rfl ?_ ?_, .bad1 at_ n v⟩
      · first | rfl | (simp (disch := omega) only [tm, td, fd, w32, lo_lo, lo_hi, wi, wu, orr])
      · first | (simp (disch := omega) only [List.not_mem_nil, false_implies, implies_true]; done) | (simp (disch := omega) only [List.forall_mem_cons, List.not_mem_nil, false_implies, implies_true, and_true, tm, td, fd, w32, lo_lo, lo_hi, wi, wu, orr, beq_self_eq_true, true_and, Bool.not_eq_true', Bool.not_eq_false', ge_iff_le, gt_iff_lt, decide_eq_true_eq, decide_eq_false_iff_not, beq_iff_eq, beq_eq_false_iff_ne, ne_eq]; omega)
      · first | rfl | (simp (disch := omega) only [tm, td, fd, w32, lo_lo, lo_hi, wi, wu, orr])
      · first | (simp (disch := omega) only [List.not_mem_nil, false_implies, implies_true]; done) | (simp (disch := omega) only [List.forall_mem_cons, List.not_mem_nil, false_implies, implies_true, and_true, tm, td, fd, w32, lo_lo, lo_hi, wi, wu, orr, beq_self_eq_true, true_and, Bool.not_eq_true', Bool.not_eq_false', ge_iff_le, gt_iff_lt, decide_eq_true_eq, decide_eq_false_iff_not, beq_iff_eq, beq_eq_false_iff_ne, ne_eq]; omega)
    · refine ⟨_, _, ask_of (by intro g; apply W1_T0) rfl ?_ ?_, ask_of (by intro g; apply D1_T0) rfl ?_ ?_, .bad1 at_ n v⟩
      · first | rfl | (simp (disch := omega) only [tm, td, fd, w32, lo_lo, lo_hi, wi, wu, orr])
      · first | (simp (disch := omega) only [List.not_mem_nil, false_implies, implies_true]; done) | (simp (disch := omega) only [List.forall_mem_cons, List.not_mem_nil, false_implies, implies_true, and_true, tm, td, fd, w32, lo_lo, lo_hi, wi, wu, orr, beq_self_eq_true, true_and, Bool.not_eq_true', Bool.not_eq_false', ge_iff_le, gt_iff_lt, decide_eq_true_eq, decide_eq_false_iff_not, beq_iff_eq, beq_eq_false_iff_ne, ne_eq]; omega)
      · first | rfl | (simp (disch := omega) only [tm, td, fd, w32, lo_lo, lo_hi, wi, wu, orr])
      · first | (simp (disch := omega) only [List.not_mem_nil, false_implies, implies_true]; done) | (simp (disch := omega) only [List.forall_mem_cons, List.not_mem_nil, false_implies, implies_true, and_true, tm, td, fd, w32, lo_lo, lo_hi, wi, wu, orr, beq_self_eq_true, true_and, Bool.not_eq_true', Bool.not_eq_false', ge_iff_le, gt_iff_lt, decide_eq_true_eq, decide_eq_false_iff_not, beq_iff_eq, beq_eq_false_iff_ne, ne_eq]; omega)
  case bad2 at_ n =>
    have l_u := lo_b u
    have m_u := lo_b (hi u + 1)
    have i_u := hi_b (u := u) (by omega) (by omega)
    cases w
    · refine ⟨_, _, ask_of (by intro g; apply W1_F0) rfl ?_ ?_, ask_of (by intro g; apply D3_F0) rfl ?_ ?_, .bad2 at_ n⟩
      · first | rfl | (simp (disch := omega) only [tm, td, fd, w32, lo_lo, lo_hi, wi, wu, orr])
      · first | (simp (disch := omega) only [List.not_mem_nil, false_implies, implies_true]; done) | (simp (disch := omega) only [List.forall_mem_cons, List.not_mem_nil, false_implies, implies_true, and_true, tm, td, fd, w32, lo_lo, lo_hi, wi, wu, orr, beq_self_eq_true, true_and, Bool.not_eq_true', Bool.not_eq_false', ge_iff_le, gt_iff_lt, decide_eq_true_eq, decide_eq_false_iff_not, beq_iff_eq, beq_eq_false_iff_ne, ne_eq]; omega)
      · first | rfl | (simp (disch := omega) only [tm, td, fd, w32, lo_lo, lo_hi, wi, wu, orr])
      · first | (simp (disch := omega) only [List.not_mem_nil, false_implies, implies_true]; done) | (simp (disch := omega) only [List.forall_mem_cons, List.not_mem_nil, false_implies, implies_true, and_true, tm, td, fd, w32, lo_lo, lo_hi, wi, wu, orr, beq_self_eq_true, true_and, Bool.not_eq_true', Bool.not_eq_false', ge_iff_le, gt_iff_lt, decide_eq_true_eq, decide_eq_false_iff_not, beq_iff_eq, beq_eq_false_iff_ne, ne_eq]; omega)
    · refine ⟨_, _, ask_of (by intro g; apply W1_T0) rfl ?_ ?_, ask_of (by intro g; apply D3_T0) rfl ?_ ?_, .bad2 at_ n⟩
      · first | rfl | (simp (disch := omega) only [tm, td, fd, w32, lo_lo, lo_hi, wi, wu, orr])
      · first | (simp (disch := omega) only [List.not_mem_nil, false_implies, implies_true]; done) | (simp (disch := omega) only [List.forall_mem_cons, List.not_mem_nil, false_implies, implies_true, and_true, tm, td, fd, w32, lo_lo, lo_hi, wi, wu, orr, beq_self_eq_true, true_and, Bool.not_eq_true', Bool.not_eq_false', ge_iff_le, gt_iff_lt, decide_eq_true_eq, decide_eq_false_iff_not, beq_iff_eq, beq_eq_false_iff_ne, ne_eq]; omega)
      · first | rfl | (simp (disch := omega) only [tm, td, fd, w32, lo_lo, lo_hi, wi, wu, orr])
      · first | (simp (disch := omega) only [List.not_mem_nil, false_implies, implies_true]; done) | (simp (disch := omega) only [List.forall_mem_cons, List.not_mem_nil, false_implies, implies_true, and_true, tm, td, fd, w32, lo_lo, lo_hi, wi, wu, orr, beq_self_eq_true, true_and, Bool.not_eq_true', Bool.not_eq_false', ge_iff_le, gt_iff_lt, decide_eq_true_eq, decide_eq_false_iff_not, beq_iff_eq, beq_eq_false_iff_ne, ne_eq]; omega)
  case t1 at_ n v h0 =>
    have b0 := h0
    unfold Rt at b0
    have l_u := lo_b u
    have m_u := lo_b (hi u + 1)
    have i_u := hi_b (u := u) (by omega) (by omega)
    cases w
    · rcases (show lo u = 0 ∨ n < lo u ∨ (1 ≤ lo u ∧ lo u ≤ n) by omega) with hc | hc | hc
      · refine ⟨_, _, ask_of (by intro g; apply W0_F0) rfl ?_ ?_, ask_of (by intro g; apply D0_F0) rfl ?_ ?_, .nomem at_ n v⟩
        · first | rfl | (simp (disch := omega) only [tm, td, fd, w32, lo_lo, lo_hi, wi, wu, orr])
        · first | (simp (disch := omega) only [List.forall_mem_cons, List.not_mem_nil, false_implies, implies_true, and_true, w32, true_and, beq_iff_eq]; done) | (simp (disch := omega) only [List.forall_mem_cons, List.not_mem_nil, false_implies, implies_true, and_true, w32, true_and, beq_iff_eq]; omega)
        · first | rfl | (simp (disch := omega) only [tm, td, fd, w32, lo_lo, lo_hi, wi, wu, orr])
        · first | (simp (disch := omega) only [List.forall_mem_cons, List.not_mem_nil, false_implies, implies_true, and_true, tm, w32, lo_lo, wi, beq_iff_eq]; done) | (simp (disch := omega) only [List.forall_mem_cons, List.not_mem_nil, false_implies, implies_true, and_true, tm, w32, lo_lo, wi, beq_iff_eq]; omega)
      · refine ⟨_, _, ask_of (by intro g; apply W0_F2) rfl ?_ ?_, ask_of (by intro g; apply D0_F2) rfl ?_ ?_, .brk at_ n v⟩
        · first | rfl | (simp (disch := omega) only [tm, td, fd, w32, lo_lo, lo_hi, wi, wu, orr])
        · first | (simp (disch := omega) only [List.forall_mem_cons, List.not_mem_nil, false_implies, implies_true, and_true, w32, wi, true_and, gt_iff_lt, decide_eq_true_eq, beq_eq_false_iff_ne, ne_eq]; done) | (simp (disch := omega) only [List.forall_mem_cons, List.not_mem_nil, false_implies, implies_true, and_true, w32, wi, true_and, gt_iff_lt, decide_eq_true_eq, beq_eq_false_iff_ne, ne_eq]; omega)
        · first | rfl | (simp (disch := omega) only [tm, td, fd, w32, lo_lo, lo_hi, wi, wu, orr])
        · first | (simp (disch := omega) only [List.forall_mem_cons, List.not_mem_nil, false_implies, implies_true, and_true, tm, w32, lo_lo, wi, gt_iff_lt, decide_eq_true_eq, beq_eq_false_iff_ne, ne_eq]; done) | (simp (disch := omega) only [List.forall_mem_cons, List.not_mem_nil, false_implies, implies_true, and_true, tm, w32, lo_lo, wi, gt_iff_lt, decide_eq_true_eq, beq_eq_false_iff_ne, ne_eq]; omega)
      · refine ⟨_, _, ask_of (by intro g; apply W0_F1) rfl ?_ ?_, ask_of (by intro g; apply D0_F1) rfl ?_ ?_, .t2 at_ n v u h0 hu (by omega)⟩
        · first | rfl | (simp (disch := omega) only [w32, wi])
        · first | (simp (disch := omega) only [List.forall_mem_cons, List.not_mem_nil, false_implies, implies_true, and_true, w32, wi, gt_iff_lt, decide_eq_false_iff_not, beq_eq_false_iff_ne, ne_eq]; done) | (simp (disch := omega) only [List.forall_mem_cons, List.not_mem_nil, false_implies, implies_true, and_true, w32, wi, gt_iff_lt, decide_eq_false_iff_not, beq_eq_false_iff_ne, ne_eq]; omega)
        · first | rfl | (simp (disch := omega) only [tm, td, fd, w32, lo_lo, lo_hi, wi, wu, orr])
        · first | (simp (disch := omega) only [List.forall_mem_cons, List.not_mem_nil, false_implies, implies_true, and_true, tm, w32, lo_lo, wi, gt_iff_lt, decide_eq_false_iff_not, beq_eq_false_iff_ne, ne_eq]; done) | (simp (disch := omega) only [List.forall_mem_cons, List.not_mem_nil, false_implies, implies_true, and_true, tm, w32, lo_lo, wi, gt_iff_lt, decide_eq_false_iff_not, beq_eq_false_iff_ne, ne_eq]; omega)
    · rcases (show lo u = 0 ∨ n < lo u ∨ (1 ≤ lo u ∧ lo u ≤ n) by omega) with hc | hc | hc
      · refine ⟨_, _, ask_of (by intro g; apply W0_T0) rfl ?_ ?_, ask_of (by intro g; apply D0_T0) rfl ?_ ?_, .nomem at_ n v⟩
        · first | rfl | (simp (disch := omega) only [tm, td, fd, w32, lo_lo, lo_hi, wi, wu, orr])
        · first | (simp (disch := omega) only [List.forall_mem_cons, List.not_mem_nil, false_implies, implies_true, and_true, w32, true_and, beq_iff_eq]; done) | (simp (disch := omega) only [List.forall_mem_cons, List.not_mem_nil, false_implies, implies_true, and_true, w32, true_and, beq_iff_eq]; omega)
        · first | rfl | (simp (disch := omega) only [tm, td, fd, w32, lo_lo, lo_hi, wi, wu, orr])
        · first | (simp (disch := omega) only [List.forall_mem_cons, List.not_mem_nil, false_implies, implies_true, and_true, tm, w32, lo_lo, wi, beq_iff_eq]; done) | (simp (disch := omega) only [List.forall_mem_cons, List.not_mem_nil, false_implies, implies_true, and_true, tm, w32, lo_lo, wi, beq_iff_eq]; omega)
      · refine ⟨_, _, ask_of (by intro g; apply W0_T2) rfl ?_ ?_, ask_of (by intro g; apply D0_T2) rfl ?_ ?_, .brk at_ n v⟩
        · first | rfl | (simp (disch := omega) only [tm, td, fd, w32, lo_lo, lo_hi, wi, wu, orr])
        · first | (simp (disch := omega) only [List.forall_mem_cons, List.not_mem_nil, false_implies, implies_true, and_true, w32, wi, true_and, gt_iff_lt, decide_eq_true_eq, beq_eq_false_iff_ne, ne_eq]; done) | (simp (disch := omega) only [List.forall_mem_cons, List.not_mem_nil, false_implies, implies_true, and_true, w32, wi, true_and, gt_iff_lt, decide_eq_true_eq, beq_eq_false_iff_ne, ne_eq]; omega)
        · first | rfl | (simp (disch := omega) only [tm, td, fd, w32, lo_lo, lo_hi, wi, wu, orr])
        · first | (simp (disch := omega) only [List.forall_mem_cons, List.not_mem_nil, false_implies, implies_true, and_true, tm, w32, lo_lo, wi, gt_iff_lt, decide_eq_true_eq, beq_eq_false_iff_ne, ne_eq]; done) | (simp (disch := omega) only [List.forall_mem_cons, List.not_mem_nil, false_implies, implies_true, and_true, tm, w32, lo_lo, wi, gt_iff_lt, decide_eq_true_eq, beq_eq_false_iff_ne, ne_eq]; omega)
      · refine ⟨_, _, ask_of (by intro g; apply W0_T1) rfl ?_ ?_, ask_of (by intro g; apply D0_T1) rfl ?_ ?_, .t2 at_ n v u h0 hu (by omega)⟩
        · first | rfl | (simp (disch := omega) only [w32, wi])
        · first | (simp (disch := omega) only [List.forall_mem_cons, List.not_mem_nil, false_implies, implies_true, and_true, w32, wi, gt_iff_lt, decide_eq_false_iff_not, beq_eq_false_iff_ne, ne_eq]; done) | (simp (disch := omega) only [List.forall_mem_cons, List.not_mem_nil, false_implies, implies_true, and_true, w32, wi, gt_iff_lt, decide_eq_false_iff_not, beq_eq_false_iff_ne, ne_eq]; omega)
        · first | rfl | (simp (disch := omega) only [tm, td, fd, w32, lo_lo, lo_hi, wi, wu, orr])
        · first | (simp (disch := omega) only [List.forall_mem_cons, List.not_mem_nil, false_implies, implies_true, and_true, tm, w32, lo_lo, wi, gt_iff_lt, decide_eq_false_iff_not, beq_eq_false_iff_ne, ne_eq]; done) | (simp (disch := omega) only [List.forall_mem_cons, List.not_mem_nil, false_implies, implies_true, and_true, tm, w32, lo_lo, wi, gt_iff_lt, decide_eq_false_iff_not, beq_eq_false_iff_ne, ne_eq]; omega)
  case nomem at_ n v =>
    have l_u := lo_b u
    have m_u := lo_b (hi u + 1)
    have i_u := hi_b (u := u) (by omega) (by omega)
    cases w
    · refine ⟨_, _, ask_of (by intro g; apply W3_F0) rfl ?_ ?_, ask_of (by intro g; apply D4_F0) rfl ?_ ?_, .nomem at_ n v⟩
      · first | rfl | (simp (disch := omega) only [tm, td, fd, w32, lo_lo, lo_hi, wi, wu, orr])
      · first | (simp (disch := omega) only [List.not_mem_nil, false_implies, implies_true]; done) | (simp (disch := omega) only [List.forall_mem_cons, List.not_mem_nil, false_implies, implies_true, and_true, tm, td, fd, w32, lo_lo, lo_hi, wi, wu, orr, beq_self_eq_true, true_and, Bool.not_eq_true', Bool.not_eq_false', ge_iff_le, gt_iff_lt, decide_eq_true_eq, decide_eq_false_iff_not, beq_iff_eq, beq_eq_false_iff_ne, ne_eq]; omega)
      · first | rfl | (simp (disch := omega) only [tm, td, fd, w32, lo_lo, lo_hi, wi, wu, orr])
      · first | (simp (disch := omega) only [List.not_mem_nil, false_implies, implies_true]; done) | (simp (disch := omega) only [List.forall_mem_cons, List.not_mem_nil, false_implies, implies_true, and_true, tm, td, fd, w32, lo_lo, lo_hi, wi, wu, orr, beq_self_eq_true, true_and, Bool.not_eq_true', Bool.not_eq_false', ge_iff_le, gt_iff_lt, decide_eq_true_eq, decide_eq_false_iff_not, beq_iff_eq, beq_eq_false_iff_ne, ne_eq]; omega)
    · refine ⟨_, _, ask_of (by intro g; apply W3_T0) rfl ?_ ?_, ask_of (by intro g; apply D4_T0) rfl ?_ ?_, .nomem at_ n v⟩
      · first | rfl | (simp (disch := omega) only [tm, td, fd, w32, lo_lo, lo_hi, wi, wu, orr])
      · first | (simp (disch := omega) only [List.not_mem_nil, false_implies, implies_true]; done) | (simp (disch := omega) only [List.forall_mem_cons, List.not_mem_nil, false_implies, implies_true, and_true, tm, td, fd, w32, lo_lo, lo_hi, wi, wu, orr, beq_self_eq_true, true_and, Bool.not_eq_true', Bool.not_eq_false', ge_iff_le, gt_iff_lt, decide_eq_true_eq, decide_eq_false_iff_not, beq_iff_eq, beq_eq_false_iff_ne, ne_eq]; omega)
      · first | rfl | (simp (disch := omega) only [tm, td, fd, w32, lo_lo, lo_hi, wi, wu, orr])
      · first | (simp (disch := omega) only [List.not_mem_nil, false_implies, implies_true]; done) | (simp (disch := omega) only [List.forall_mem_cons, List.not_mem_nil, false_implies, implies_true, and_true, tm, td, fd, w32, lo_lo, lo_hi, wi, wu, orr, beq_self_eq_true, true_and, Bool.not_eq_true', Bool.not_eq_false', ge_iff_le, gt_iff_lt, decide_eq_true_eq, decide_eq_false_iff_not, beq_iff_eq, beq_eq_false_iff_ne, ne_eq]; omega)
  case brk at_ n v =>
    have l_u := lo_b u
    have m_u := lo_b (hi u + 1)
    have i_u := hi_b (u := u) (by omega) (by omega)
    cases w
    · refine ⟨_, _, ask_of (by intro g; apply W5_F0) rfl ?_ ?_, ask_of (by intro g; apply D6_F0) rfl ?_ ?_, .brk at_ n v⟩
      · first | rfl | (simp (disch := omega) only [tm, td, fd, w32, lo_lo, lo_hi, wi, wu, orr])
      · first | (simp (disch := omega) only [List.not_mem_nil, false_implies, implies_true]; done) | (simp (disch := omega) only [List.forall_mem_cons, List.not_mem_nil, false_implies, implies_true, and_true, tm, td, fd, w32, lo_lo, lo_hi, wi, wu, orr, beq_self_eq_true, true_and, Bool.not_eq_true', Bool.not_eq_false', ge_iff_le, gt_iff_lt, decide_eq_true_eq, decide_eq_false_iff_not, beq_iff_eq, beq_eq_false_iff_ne, ne_eq]; omega)
      · first | rfl | (simp (disch := omega) only [tm, td, fd, w32, lo_lo, lo_hi, wi, wu, orr])
      · first | (simp (disch := omega) only [List.not_mem_nil, false_implies, implies_true]; done) | (simp (disch := omega) only [List.forall_mem_cons, List.not_mem_nil, false_implies, implies_true, and_true, tm, td, fd, w32, lo_lo, lo_hi, wi, wu, orr, beq_self_eq_true, true_and, Bool.not_eq_true', Bool.not_eq_false', ge_iff_le, gt_iff_lt, decide_eq_true_eq, decide_eq_false_iff_not, beq_iff_eq, beq_eq_false_iff_ne, ne_eq]; omega)
    · refine ⟨_, _, ask_of (by intro g; apply W5_T0) rfl ?_ ?_, ask_of (by intro g; apply D6_T0) rfl ?_ ?_, .brk at_ n v⟩
      · first | rfl | (simp (disch := omega) only [tm, td, fd, w32, lo_lo, lo_hi, wi, wu, orr])
      · first | (simp (disch := omega) only [List.not_mem_nil, false_implies, implies_true]; done) | (simp (disch := omega) only [List.forall_mem_cons, List.not_mem_nil, false_implies, implies_true, and_true, tm, td, fd, w32, lo_lo, lo_hi, wi, wu, orr, beq_self_eq_true, true_and, Bool.not_eq_true', Bool.not_eq_false', ge_iff_le, gt_iff_lt, decide_eq_true_eq, decide_eq_false_iff_not, beq_iff_eq, beq_eq_false_iff_ne, ne_eq]; omega)
      · first | rfl | (simp (disch := omega) only [tm, td, fd, w32, lo_lo, lo_hi, wi, wu, orr])
      · first | (simp (disch := omega) only [List.not_mem_nil, false_implies, implies_true]; done) | (simp (disch := omega) only [List.forall_mem_cons, List.not_mem_nil, false_implies, implies_true, and_true, tm, td, fd, w32, lo_lo, lo_hi, wi, wu, orr, beq_self_eq_true, true_and, Bool.not_eq_true', Bool.not_eq_false', ge_iff_le, gt_iff_lt, decide_eq_true_eq, decide_eq_false_iff_not, beq_iff_eq, beq_eq_false_iff_ne, ne_eq]; omega)
  case t2 at_ n v h h0 h1 h2 =>
    have b0 := h0
    unfold Rt at b0
    have b1 := h1
    unfold U64 at b1
    have l_h := lo_b h
    have m_h := lo_b (hi h + 1)
    have i_h := hi_b (u := h) (by omega) (by omega)
    have l_u := lo_b u
    have m_u := lo_b (hi u + 1)
    have i_u := hi_b (u := u) (by omega) (by omega)
    cases w
    · refine ⟨_, _, ask_of (by intro g; apply W4_F0) rfl ?_ ?_, ask_of (by intro g; apply D5_F0) rfl ?_ ?_, .t3 at_ n v h u h0 h1 hu (by omega)⟩
      · first | rfl | (simp (disch := omega) only [fd, w32, lo_hi, wu, orr])
      · first | (simp (disch := omega) only [List.forall_mem_cons, List.not_mem_nil, false_implies, implies_true, and_true, beq_self_eq_true]; done) | (simp (disch := omega) only [List.forall_mem_cons, List.not_mem_nil, false_implies, implies_true, and_true, tm, td, fd, w32, lo_lo, lo_hi, wi, wu, orr, beq_self_eq_true, true_and, Bool.not_eq_true', Bool.not_eq_false', ge_iff_le, gt_iff_lt, decide_eq_true_eq, decide_eq_false_iff_not, beq_iff_eq, beq_eq_false_iff_ne, ne_eq]; omega)
      · first | rfl | (simp (disch := omega) only [tm, td, fd, w32, lo_lo, lo_hi, wi, wu, orr])
      · first | (simp (disch := omega) only [List.not_mem_nil, false_implies, implies_true]; done) | (simp (disch := omega) only [List.forall_mem_cons, List.not_mem_nil, false_implies, implies_true, and_true, tm, td, fd, w32, lo_lo, lo_hi, wi, wu, orr, beq_self_eq_true, true_and, Bool.not_eq_true', Bool.not_eq_false', ge_iff_le, gt_iff_lt, decide_eq_true_eq, decide_eq_false_iff_not, beq_iff_eq, beq_eq_false_iff_ne, ne_eq]; omega)
    · refine ⟨_, _, ask_of (by intro g; apply W4_T0) rfl ?_ ?_, ask_of (by intro g; apply D5_T0) rfl ?_ ?_, .t3 at_ n v h u h0 h1 hu (by omega)⟩
      · first | rfl | (simp (disch := omega) only [fd, w32, lo_hi, wu, orr])
      · first | (simp (disch := omega) only [List.forall_mem_cons, List.not_mem_nil, false_implies, implies_true, and_true, beq_self_eq_true]; done) | (simp (disch := omega) only [List.forall_mem_cons, List.not_mem_nil, false_implies, implies_true, and_true, tm, td, fd, w32, lo_lo, lo_hi, wi, wu, orr, beq_self_eq_true, true_and, Bool.not_eq_true', Bool.not_eq_false', ge_iff_le, gt_iff_lt, decide_eq_true_eq, decide_eq_false_iff_not, beq_iff_eq, beq_eq_false_iff_ne, ne_eq]; omega)
      · first | rfl | (simp (disch := omega) only [tm, td, fd, w32, lo_lo, lo_hi, wi, wu, orr])
      · first | (simp (disch := omega) only [List.not_mem_nil, false_implies, implies_true]; done) | (simp (disch := omega) only [List.forall_mem_cons, List.not_mem_nil, false_implies, implies_true, and_true, tm, td, fd, w32, lo_lo, lo_hi, wi, wu, orr, beq_self_eq_true, true_and, Bool.not_eq_true', Bool.not_eq_false', ge_iff_le, gt_iff_lt, decide_eq_true_eq, decide_eq_false_iff_not, beq_iff_eq, beq_eq_false_iff_ne, ne_eq]; omega)
  case t2b at_ n v h l h0 h1 h2 =>
    have b0 := h0
    unfold Rt at b0
    have b1 := h1
    unfold U64 at b1
    have l_h := lo_b h
    have m_h := lo_b (hi h + 1)
    have i_h := hi_b (u := h) (by omega) (by omega)
    have l_l := lo_b l
    have m_l := lo_b (hi l + 1)
    have l_u := lo_b u
    have m_u := lo_b (hi u + 1)
    have i_u := hi_b (u := u) (by omega) (by omega)
    cases w
    · refine ⟨_, _, ask_of (by intro g; apply W4_F0) rfl ?_ ?_, ask_of (by intro g; apply D13_F0) rfl ?_ ?_, .t3 at_ n v h u h0 h1 hu (by omega)⟩
      · first | rfl | (simp (disch := omega) only [fd, w32, lo_hi, wu, orr])
      · first | (simp (disch := omega) only [List.forall_mem_cons, List.not_mem_nil, false_implies, implies_true, and_true, beq_self_eq_true]; done) | (simp (disch := omega) only [List.forall_mem_cons, List.not_mem_nil, false_implies, implies_true, and_true, tm, td, fd, w32, lo_lo, lo_hi, wi, wu, orr, beq_self_eq_true, true_and, Bool.not_eq_true', Bool.not_eq_false', ge_iff_le, gt_iff_lt, decide_eq_true_eq, decide_eq_false_iff_not, beq_iff_eq, beq_eq_false_iff_ne, ne_eq]; omega)
      · first | rfl | (simp (disch := omega) only [tm, td, fd, w32, lo_lo, lo_hi, wi, wu, orr])
      · first | (simp (disch := omega) only [List.not_mem_nil, false_implies, implies_true]; done) | (simp (disch := omega) only [List.forall_mem_cons, List.not_mem_nil, false_implies, implies_true, and_true, tm, td, fd, w32, lo_lo, lo_hi, wi, wu, orr, beq_self_eq_true, true_and, Bool.not_eq_true', Bool.not_eq_false', ge_iff_le, gt_iff_lt, decide_eq_true_eq, decide_eq_false_iff_not, beq_iff_eq, beq_eq_false_iff_ne, ne_eq]; omega)
    · refine ⟨_, _, ask_of (by intro g; apply W4_T0) rfl ?_ ?_, ask_of (by intro g; apply D13_T0) rfl ?_ ?_, .t3 at_ n v h u h0 h1 hu (by omega)⟩
      · first | rfl | (simp (disch := omega) only [fd, w32, lo_hi, wu, orr])
      · first | (simp (disch := omega) only [List.forall_mem_cons, List.not_mem_nil, false_implies, implies_true, and_true, beq_self_eq_true]; done) | (simp (disch := omega) only [List.forall_mem_cons, List.not_mem_nil, false_implies, implies_true, and_true, tm, td, fd, w32, lo_lo, lo_hi, wi, wu, orr, beq_self_eq_true, true_and, Bool.not_eq_true', Bool.not_eq_false', ge_iff_le, gt_iff_lt, decide_eq_true_eq, decide_eq_false_iff_not, beq_iff_eq, beq_eq_false_iff_ne, ne_eq]; omega)
      · first | rfl | (simp (disch := omega) only [tm, td, fd, w32, lo_lo, lo_hi, wi, wu, orr])
      · first | (simp (disch := omega) only [List.not_mem_nil, false_implies, implies_true]; done) | (simp (disch := omega) only [List.forall_mem_cons, List.not_mem_nil, false_implies, implies_true, and_true, tm, td, fd, w32, lo_lo, lo_hi, wi, wu, orr, beq_self_eq_true, true_and, Bool.not_eq_true', Bool.not_eq_false', ge_iff_le, gt_iff_lt, decide_eq_true_eq, decide_eq_false_iff_not, beq_iff_eq, beq_eq_false_iff_ne, ne_eq]; omega)
  case t3 at_ n v h l h0 h1 h2 h3 =>
    have b0 := h0
    unfold Rt at b0
    have b1 := h1
    unfold U64 at b1
    have b2 := h2
    unfold U64 at b2
    have l_h := lo_b h
    have m_h := lo_b (hi h + 1)
    have i_h := hi_b (u := h) (by omega) (by omega)
    have l_l := lo_b l
    have m_l := lo_b (hi l + 1)
    have i_l := hi_b (u := l) (by omega) (by omega)
    have l_u := lo_b u
    have m_u := lo_b (hi u + 1)
    have i_u := hi_b (u := u) (by omega) (by omega)
    cases w
    · rcases (show lo u = 0 ∨ n < lo u ∨ (1 ≤ lo u ∧ lo u ≤ n) by omega) with hc | hc | hc
      · refine ⟨_, _, ask_of (by intro g; apply W9_F0) rfl ?_ ?_, ask_of (by intro g; apply D10_F0) rfl ?_ ?_, .nomem at_ n v⟩
        · first | rfl | (simp (disch := omega) only [tm, td, fd, w32, lo_lo, lo_hi, wi, wu, orr])
        · first | (simp (disch := omega) only [List.forall_mem_cons, List.not_mem_nil, false_implies, implies_true, and_true, w32, true_and, beq_iff_eq]; done) | (simp (disch := omega) only [List.forall_mem_cons, List.not_mem_nil, false_implies, implies_true, and_true, w32, true_and, beq_iff_eq]; omega)
        · first | rfl | (simp (disch := omega) only [tm, td, fd, w32, lo_lo, lo_hi, wi, wu, orr])
        · first | (simp (disch := omega) only [List.forall_mem_cons, List.not_mem_nil, false_implies, implies_true, and_true, tm, w32, lo_lo, wi, beq_iff_eq]; done) | (simp (disch := omega) only [List.forall_mem_cons, List.not_mem_nil, false_implies, implies_true, and_true, tm, w32, lo_lo, wi, beq_iff_eq]; omega)
      · refine ⟨_, _, ask_of (by intro g; apply W9_F2) rfl ?_ ?_, ask_of (by intro g; apply D10_F2) rfl ?_ ?_, .brk at_ n v⟩
        · first | rfl | (simp (disch := omega) only [tm, td, fd, w32, lo_lo, lo_hi, wi, wu, orr])
        · first | (simp (disch := omega) only [List.forall_mem_cons, List.not_mem_nil, false_implies, implies_true, and_true, w32, wi, true_and, gt_iff_lt, decide_eq_true_eq, beq_eq_false_iff_ne, ne_eq]; done) | (simp (disch := omega) only [List.forall_mem_cons, List.not_mem_nil, false_implies, implies_true, and_true, w32, wi, true_and, gt_iff_lt, decide_eq_true_eq, beq_eq_false_iff_ne, ne_eq]; omega)
        · first | rfl | (simp (disch := omega) only [tm, td, fd, w32, lo_lo, lo_hi, wi, wu, orr])
        · first | (simp (disch := omega) only [List.forall_mem_cons, List.not_mem_nil, false_implies, implies_true, and_true, tm, w32, lo_lo, wi, gt_iff_lt, decide_eq_true_eq, beq_eq_false_iff_ne, ne_eq]; done) | (simp (disch := omega) only [List.forall_mem_cons, List.not_mem_nil, false_implies, implies_true, and_true, tm, w32, lo_lo, wi, gt_iff_lt, decide_eq_true_eq, beq_eq_false_iff_ne, ne_eq]; omega)
      · refine ⟨_, _, ask_of (by intro g; apply W9_F1) rfl ?_ ?_, ask_of (by intro g; apply D10_F1) rfl ?_ ?_, .t2b at_ n v u l h0 hu (by omega)⟩
        · first | rfl | (simp (disch := omega) only [w32, wi])
        · first | (simp (disch := omega) only [List.forall_mem_cons, List.not_mem_nil, false_implies, implies_true, and_true, w32, wi, gt_iff_lt, decide_eq_false_iff_not, beq_eq_false_iff_ne, ne_eq]; done) | (simp (disch := omega) only [List.forall_mem_cons, List.not_mem_nil, false_implies, implies_true, and_true, w32, wi, gt_iff_lt, decide_eq_false_iff_not, beq_eq_false_iff_ne, ne_eq]; omega)
        · first | rfl | (simp (disch := omega) only [tm, td, fd, w32, lo_lo, lo_hi, wi, wu, orr])
        · first | (simp (disch := omega) only [List.forall_mem_cons, List.not_mem_nil, false_implies, implies_true, and_true, tm, w32, lo_lo, wi, gt_iff_lt, decide_eq_false_iff_not, beq_eq_false_iff_ne, ne_eq]; done) | (simp (disch := omega) only [List.forall_mem_cons, List.not_mem_nil, false_implies, implies_true, and_true, tm, w32, lo_lo, wi, gt_iff_lt, decide_eq_false_iff_not, beq_eq_false_iff_ne, ne_eq]; omega)
    · refine ⟨_, _, ask_of (by intro g; apply W9_T0) rfl ?_ ?_, ask_of (by intro g; apply D10_T0) rfl ?_ ?_, .p2 at_ n v h h0 (by omega)⟩
      · first | rfl | (simp (disch := omega) only [w32, lo_lo, wi, wu])
      · first | (simp (disch := omega) only [List.forall_mem_cons, List.not_mem_nil, false_implies, implies_true, and_true, w32, wu, beq_self_eq_true]; done) | (simp (disch := omega) only [List.forall_mem_cons, List.not_mem_nil, false_implies, implies_true, and_true, tm, td, fd, w32, lo_lo, lo_hi, wi, wu, orr, beq_self_eq_true, true_and, Bool.not_eq_true', Bool.not_eq_false', ge_iff_le, gt_iff_lt, decide_eq_true_eq, decide_eq_false_iff_not, beq_iff_eq, beq_eq_false_iff_ne, ne_eq]; omega)
      · first | rfl | (simp (disch := omega) only [tm, w32, lo_lo, wi, wu])
      · first | (simp (disch := omega) only [List.not_mem_nil, false_implies, implies_true]; done) | (simp (disch := omega) only [List.forall_mem_cons, List.not_mem_nil, false_implies, implies_true, and_true, tm, td, fd, w32, lo_lo, lo_hi, wi, wu, orr, beq_self_eq_true, true_and, Bool.not_eq_true', Bool.not_eq_false', ge_iff_le, gt_iff_lt, decide_eq_true_eq, decide_eq_false_iff_not, beq_iff_eq, beq_eq_false_iff_ne, ne_eq]; omega)
  case p2 at_ n v h h0 h1 =>
    have b0 := h0
    unfold Rt at b0
    have l_h := lo_b h
    have m_h := lo_b (hi h + 1)
    have l_u := lo_b u
    have m_u := lo_b (hi u + 1)
    have i_u := hi_b (u := u) (by omega) (by omega)
    cases w
    · refine ⟨_, _, ask_of (by intro g; apply W11_F0) rfl ?_ ?_, ask_of (by intro g; apply D12_F0) rfl ?_ ?_, .p3 at_ n v h h0 (by omega)⟩
      · first | rfl | (simp (disch := omega) only [tm, td, fd, w32, lo_lo, lo_hi, wi, wu, orr])
      · first | (simp (disch := omega) only [List.not_mem_nil, false_implies, implies_true]; done) | (simp (disch := omega) only [List.forall_mem_cons, List.not_mem_nil, false_implies, implies_true, and_true, tm, td, fd, w32, lo_lo, lo_hi, wi, wu, orr, beq_self_eq_true, true_and, Bool.not_eq_true', Bool.not_eq_false', ge_iff_le, gt_iff_lt, decide_eq_true_eq, decide_eq_false_iff_not, beq_iff_eq, beq_eq_false_iff_ne, ne_eq]; omega)
      · first | rfl | (simp (disch := omega) only [tm, td, fd, w32, lo_lo, lo_hi, wi, wu, orr])
      · first | (simp (disch := omega) only [List.not_mem_nil, false_implies, implies_true]; done) | (simp (disch := omega) only [List.forall_mem_cons, List.not_mem_nil, false_implies, implies_true, and_true, tm, td, fd, w32, lo_lo, lo_hi, wi, wu, orr, beq_self_eq_true, true_and, Bool.not_eq_true', Bool.not_eq_false', ge_iff_le, gt_iff_lt, decide_eq_true_eq, decide_eq_false_iff_not, beq_iff_eq, beq_eq_false_iff_ne, ne_eq]; omega)
    · refine ⟨_, _, ask_of (by intro g; apply W11_T0) rfl ?_ ?_, ask_of (by intro g; apply D12_T0) rfl ?_ ?_, .p3 at_ n v h h0 (by omega)⟩
      · first | rfl | (simp (disch := omega) only [tm, td, fd, w32, lo_lo, lo_hi, wi, wu, orr])
      · first | (simp (disch := omega) only [List.not_mem_nil, false_implies, implies_true]; done) | (simp (disch := omega) only [List.forall_mem_cons, List.not_mem_nil, false_implies, implies_true, and_true, tm, td, fd, w32, lo_lo, lo_hi, wi, wu, orr, beq_self_eq_true, true_and, Bool.not_eq_true', Bool.not_eq_false', ge_iff_le, gt_iff_lt, decide_eq_true_eq, decide_eq_false_iff_not, beq_iff_eq, beq_eq_false_iff_ne, ne_eq]; omega)
      · first | rfl | (simp (disch := omega) only [tm, td, fd, w32, lo_lo, lo_hi, wi, wu, orr])
      · first | (simp (disch := omega) only [List.not_mem_nil, false_implies, implies_true]; done) | (simp (disch := omega) only [List.forall_mem_cons, List.not_mem_nil, false_implies, implies_true, and_true, tm, td, fd, w32, lo_lo, lo_hi, wi, wu, orr, beq_self_eq_true, true_and, Bool.not_eq_true', Bool.not_eq_false', ge_iff_le, gt_iff_lt, decide_eq_true_eq, decide_eq_false_iff_not, beq_iff_eq, beq_eq_false_iff_ne, ne_eq]; omega)
  case p3 at_ n v h h0 h1 =>
    have b0 := h0
    unfold Rt at b0
    have l_h := lo_b h
    have m_h := lo_b (hi h + 1)
    have l_u := lo_b u
    have m_u := lo_b (hi u + 1)
    have i_u := hi_b (u := u) (by omega) (by omega)
    cases w
    · refine ⟨_, _, ask_of (by intro g; apply W15_F0) rfl ?_ ?_, ask_of (by intro g; apply D18_F0) rfl ?_ ?_, .p4 at_ n v h u h0 hu (by omega)⟩
      · first | rfl | (simp (disch := omega) only [w32, wi, wu])
      · first | (simp (disch := omega) only [List.not_mem_nil, false_implies, implies_true]; done) | (simp (disch := omega) only [List.forall_mem_cons, List.not_mem_nil, false_implies, implies_true, and_true, tm, td, fd, w32, lo_lo, lo_hi, wi, wu, orr, beq_self_eq_true, true_and, Bool.not_eq_true', Bool.not_eq_false', ge_iff_le, gt_iff_lt, decide_eq_true_eq, decide_eq_false_iff_not, beq_iff_eq, beq_eq_false_iff_ne, ne_eq]; omega)
      · first | rfl | (simp (disch := omega) only [tm, td, fd, w32, lo_lo, lo_hi, wi, wu, orr])
      · first | (simp (disch := omega) only [List.not_mem_nil, false_implies, implies_true]; done) | (simp (disch := omega) only [List.forall_mem_cons, List.not_mem_nil, false_implies, implies_true, and_true, tm, td, fd, w32, lo_lo, lo_hi, wi, wu, orr, beq_self_eq_true, true_and, Bool.not_eq_true', Bool.not_eq_false', ge_iff_le, gt_iff_lt, decide_eq_true_eq, decide_eq_false_iff_not, beq_iff_eq, beq_eq_false_iff_ne, ne_eq]; omega)
    · refine ⟨_, _, ask_of (by intro g; apply W15_T0) rfl ?_ ?_, ask_of (by intro g; apply D18_T0) rfl ?_ ?_, .p4 at_ n v h u h0 hu (by omega)⟩
      · first | rfl | (simp (disch := omega) only [w32, wi, wu])
      · first | (simp (disch := omega) only [List.not_mem_nil, false_implies, implies_true]; done) | (simp (disch := omega) only [List.forall_mem_cons, List.not_mem_nil, false_implies, implies_true, and_true, tm, td, fd, w32, lo_lo, lo_hi, wi, wu, orr, beq_self_eq_true, true_and, Bool.not_eq_true', Bool.not_eq_false', ge_iff_le, gt_iff_lt, decide_eq_true_eq, decide_eq_false_iff_not, beq_iff_eq, beq_eq_false_iff_ne, ne_eq]; omega)
      · first | rfl | (simp (disch := omega) only [tm, td, fd, w32, lo_lo, lo_hi, wi, wu, orr])
      · first | (simp (disch := omega) only [List.not_mem_nil, false_implies, implies_true]; done) | (simp (disch := omega) only [List.forall_mem_cons, List.not_mem_nil, false_implies, implies_true, and_true, tm, td, fd, w32, lo_lo, lo_hi, wi, wu, orr, beq_self_eq_true, true_and, Bool.not_eq_true', Bool.not_eq_false', ge_iff_le, gt_iff_lt, decide_eq_true_eq, decide_eq_false_iff_not, beq_iff_eq, beq_eq_false_iff_ne, ne_eq]; omega)
  case p4 at_ n v h t h0 h1 h2 =>
    have b0 := h0
    unfold Rt at b0
    have b1 := h1
    unfold U64 at b1
    have l_h := lo_b h
    have m_h := lo_b (hi h + 1)
    have l_t := lo_b t
    have m_t := lo_b (hi t + 1)
    have i_t := hi_b (u := t) (by omega) (by omega)
    have l_u := lo_b u
    have m_u := lo_b (hi u + 1)
    have i_u := hi_b (u := u) (by omega) (by omega)
    cases w
    · refine ⟨_, _, ask_of (by intro g; apply W17_F0) rfl ?_ ?_, ask_of (by intro g; apply D20_F0) rfl ?_ ?_, .p5 at_ n v h t h0 h1 (by omega)⟩
      · first | rfl | (simp (disch := omega) only [fd, w32, lo_hi, wu, orr])
      · first | (simp (disch := omega) only [List.forall_mem_cons, List.not_mem_nil, false_implies, implies_true, and_true, beq_self_eq_true]; done) | (simp (disch := omega) only [List.forall_mem_cons, List.not_mem_nil, false_implies, implies_true, and_true, tm, td, fd, w32, lo_lo, lo_hi, wi, wu, orr, beq_self_eq_true, true_and, Bool.not_eq_true', Bool.not_eq_false', ge_iff_le, gt_iff_lt, decide_eq_true_eq, decide_eq_false_iff_not, beq_iff_eq, beq_eq_false_iff_ne, ne_eq]; omega)
      · first | rfl | (simp (disch := omega) only [tm, td, fd, w32, lo_lo, lo_hi, wi, wu, orr])
      · first | (simp (disch := omega) only [List.not_mem_nil, false_implies, implies_true]; done) | (simp (disch := omega) only [List.forall_mem_cons, List.not_mem_nil, false_implies, implies_true, and_true, tm, td, fd, w32, lo_lo, lo_hi, wi, wu, orr, beq_self_eq_true, true_and, Bool.not_eq_true', Bool.not_eq_false', ge_iff_le, gt_iff_lt, decide_eq_true_eq, decide_eq_false_iff_not, beq_iff_eq, beq_eq_false_iff_ne, ne_eq]; omega)
    · refine ⟨_, _, ask_of (by intro g; apply W17_T0) rfl ?_ ?_, ask_of (by intro g; apply D20_T0) rfl ?_ ?_, .p5 at_ n v h t h0 h1 (by omega)⟩
      · first | rfl | (simp (disch := omega) only [fd, w32, lo_hi, wu, orr])
      · first | (simp (disch := omega) only [List.forall_mem_cons, List.not_mem_nil, false_implies, implies_true, and_true, beq_self_eq_true]; done) | (simp (disch := omega) only [List.forall_mem_cons, List.not_mem_nil, false_implies, implies_true, and_true, tm, td, fd, w32, lo_lo, lo_hi, wi, wu, orr, beq_self_eq_true, true_and, Bool.not_eq_true', Bool.not_eq_false', ge_iff_le, gt_iff_lt, decide_eq_true_eq, decide_eq_false_iff_not, beq_iff_eq, beq_eq_false_iff_ne, ne_eq]; omega)
      · first | rfl | (simp (disch := omega) only [tm, td, fd, w32, lo_lo, lo_hi, wi, wu, orr])
      · first | (simp (disch := omega) only [List.not_mem_nil, false_implies, implies_true]; done) | (simp (disch := omega) only [List.forall_mem_cons, List.not_mem_nil, false_implies, implies_true, and_true, tm, td, fd, w32, lo_lo, lo_hi, wi, wu, orr, beq_self_eq_true, true_and, Bool.not_eq_true', Bool.not_eq_false', ge_iff_le, gt_iff_lt, decide_eq_true_eq, decide_eq_false_iff_not, beq_iff_eq, beq_eq_false_iff_ne, ne_eq]; omega)
  case p5 at_ n v h t h0 h1 h2 =>
    have b0 := h0
    unfold Rt at b0
    have b1 := h1
    unfold U64 at b1
    have l_h := lo_b h
    have m_h := lo_b (hi h + 1)
    have l_t := lo_b t
    have m_t := lo_b (hi t + 1)
    have i_t := hi_b (u := t) (by omega) (by omega)
    have l_u := lo_b u
    have m_u := lo_b (hi u + 1)
    have i_u := hi_b (u := u) (by omega) (by omega)
    cases w
    · refine ⟨_, _, ask_of (by intro g; apply W19_F0) rfl ?_ ?_, ask_of (by intro g; apply D22_F0) rfl ?_ ?_, .p4 at_ n v h u h0 hu (by omega)⟩
      · first | rfl | (simp (disch := omega) only [w32, wi, wu])
      · first | (simp (disch := omega) only [List.not_mem_nil, false_implies, implies_true]; done) | (simp (disch := omega) only [List.forall_mem_cons, List.not_mem_nil, false_implies, implies_true, and_true, tm, td, fd, w32, lo_lo, lo_hi, wi, wu, orr, beq_self_eq_true, true_and, Bool.not_eq_true', Bool.not_eq_false', ge_iff_le, gt_iff_lt, decide_eq_true_eq, decide_eq_false_iff_not, beq_iff_eq, beq_eq_false_iff_ne, ne_eq]; omega)
      · first | rfl | (simp (disch := omega) only [tm, td, fd, w32, lo_lo, lo_hi, wi, wu, orr])
      · first | (simp (disch := omega) only [List.not_mem_nil, false_implies, implies_true]; done) | (simp (disch := omega) only [List.forall_mem_cons, List.not_mem_nil, false_implies, implies_true, and_true, tm, td, fd, w32, lo_lo, lo_hi, wi, wu, orr, beq_self_eq_true, true_and, Bool.not_eq_true', Bool.not_eq_false', ge_iff_le, gt_iff_lt, decide_eq_true_eq, decide_eq_false_iff_not, beq_iff_eq, beq_eq_false_iff_ne, ne_eq]; omega)
    · refine ⟨_, _, ask_of (by intro g; apply W19_T0) rfl ?_ ?_, ask_of (by intro g; apply D22_T0) rfl ?_ ?_, .pend at_ n v h u at_ t (lo (hi t + 1) * 4294967296 + lo h)⟩
      · first | rfl | (simp (disch := omega) only [tm, td, fd, w32, lo_lo, lo_hi, wi, wu, orr])
      · first | (simp (disch := omega) only [List.forall_mem_cons, List.not_mem_nil, false_implies, implies_true, and_true]; done) | (simp (disch := omega) only [List.forall_mem_cons, List.not_mem_nil, false_implies, implies_true, and_true, tm, td, fd, w32, lo_lo, lo_hi, wi, wu, orr, beq_self_eq_true, true_and, Bool.not_eq_true', Bool.not_eq_false', ge_iff_le, gt_iff_lt, decide_eq_true_eq, decide_eq_false_iff_not, beq_iff_eq, beq_eq_false_iff_ne, ne_eq]; omega)
      · first | rfl | (simp (disch := omega) only [tm, td, fd, w32, lo_lo, lo_hi, wi, wu, orr])
      · first | (simp (disch := omega) only [List.not_mem_nil, false_implies, implies_true]; done) | (simp (disch := omega) only [List.forall_mem_cons, List.not_mem_nil, false_implies, implies_true, and_true, tm, td, fd, w32, lo_lo, lo_hi, wi, wu, orr, beq_self_eq_true, true_and, Bool.not_eq_true', Bool.not_eq_false', ge_iff_le, gt_iff_lt, decide_eq_true_eq, decide_eq_false_iff_not, beq_iff_eq, beq_eq_false_iff_ne, ne_eq]; omega)
  case pend at_ n v h t x y z =>
    have l_h := lo_b h
    have m_h := lo_b (hi h + 1)
    have l_t := lo_b t
    have m_t := lo_b (hi t + 1)
    have l_u := lo_b u
    have m_u := lo_b (hi u + 1)
    have i_u := hi_b (u := u) (by omega) (by omega)
    cases w
    · refine ⟨_, _, ask_of (by intro g; apply W21_F0) rfl ?_ ?_, ask_of (by intro g; apply D24_F0) rfl ?_ ?_, .pend at_ n v h t x y z⟩
      · first | rfl | (simp (disch := omega) only [tm, td, fd, w32, lo_lo, lo_hi, wi, wu, orr])
      · first | (simp (disch := omega) only [List.not_mem_nil, false_implies, implies_true]; done) | (simp (disch := omega) only [List.forall_mem_cons, List.not_mem_nil, false_implies, implies_true, and_true, tm, td, fd, w32, lo_lo, lo_hi, wi, wu, orr, beq_self_eq_true, true_and, Bool.not_eq_true', Bool.not_eq_false', ge_iff_le, gt_iff_lt, decide_eq_true_eq, decide_eq_false_iff_not, beq_iff_eq, beq_eq_false_iff_ne, ne_eq]; omega)
      · first | rfl | (simp (disch := omega) only [tm, td, fd, w32, lo_lo, lo_hi, wi, wu, orr])
      · first | (simp (disch := omega) only [List.not_mem_nil, false_implies, implies_true]; done) | (simp (disch := omega) only [List.forall_mem_cons, List.not_mem_nil, false_implies, implies_true, and_true, tm, td, fd, w32, lo_lo, lo_hi, wi, wu, orr, beq_self_eq_true, true_and, Bool.not_eq_true', Bool.not_eq_false', ge_iff_le, gt_iff_lt, decide_eq_true_eq, decide_eq_false_iff_not, beq_iff_eq, beq_eq_false_iff_ne, ne_eq]; omega)
    · refine ⟨_, _, ask_of (by intro g; apply W21_T0) rfl ?_ ?_, ask_of (by intro g; apply D24_T0) rfl ?_ ?_, .pend at_ n v h t x y z⟩
      · first | rfl | (simp (disch := omega) only [tm, td, fd, w32, lo_lo, lo_hi, wi, wu, orr])
      · first | (simp (disch := omega) only [List.not_mem_nil, false_implies, implies_true]; done) | (simp (disch := omega) only [List.forall_mem_cons, List.not_mem_nil, false_implies, implies_true, and_true, tm, td, fd, w32, lo_lo, lo_hi, wi, wu, orr, beq_self_eq_true, true_and, Bool.not_eq_true', Bool.not_eq_false', ge_iff_le, gt_iff_lt, decide_eq_true_eq, decide_eq_false_iff_not, beq_iff_eq, beq_eq_false_iff_ne, ne_eq]; omega)
      · first | rfl | (simp (disch := omega) only [tm, td, fd, w32, lo_lo, lo_hi, wi, wu, orr])
      · first | (simp (disch := omega) only [List.not_mem_nil, false_implies, implies_true]; done) | (simp (disch := omega) only [List.forall_mem_cons, List.not_mem_nil, false_implies, implies_true, and_true, tm, td, fd, w32, lo_lo, lo_hi, wi, wu, orr, beq_self_eq_true, true_and, Bool.not_eq_true', Bool.not_eq_false', ge_iff_le, gt_iff_lt, decide_eq_true_eq, decide_eq_false_iff_not, beq_iff_eq, beq_eq_false_iff_ne, ne_eq]; omega)
  case q1 at_ n h0 =>
    have b0 := h0
    unfold Rt at b0
    have l_u := lo_b u
    have m_u := lo_b (hi u + 1)
    have i_u := hi_b (u := u) (by omega) (by omega)
    cases w
    · rcases (show lo u = 0 ∨ n < lo u ∨ (1 ≤ lo u ∧ lo u ≤ n) by omega) with hc | hc | hc
      · refine ⟨_, _, ask_of (by intro g; apply W2_F0) rfl ?_ ?_, ask_of (by intro g; apply D2_F0) rfl ?_ ?_, .emp at_ n u at_ (lo u)⟩
        · first | rfl | (simp (disch := omega) only [tm, td, fd, w32, lo_lo, lo_hi, wi, wu, orr])
        · first | (simp (disch := omega) only [List.forall_mem_cons, List.not_mem_nil, false_implies, implies_true, and_true, w32, true_and, beq_iff_eq]; done) | (simp (disch := omega) only [List.forall_mem_cons, List.not_mem_nil, false_implies, implies_true, and_true, w32, true_and, beq_iff_eq]; omega)
        · first | rfl | (simp (disch := omega) only [tm, w32, lo_lo, wi])
        · first | (simp (disch := omega) only [List.forall_mem_cons, List.not_mem_nil, false_implies, implies_true, and_true, tm, w32, lo_lo, wi, beq_iff_eq]; done) | (simp (disch := omega) only [List.forall_mem_cons, List.not_mem_nil, false_implies, implies_true, and_true, tm, w32, lo_lo, wi, beq_iff_eq]; omega)
      · refine ⟨_, _, ask_of (by intro g; apply W2_F2) rfl ?_ ?_, ask_of (by intro g; apply D2_F2) rfl ?_ ?_, .brq at_ n u at_ (lo u)⟩
        · first | rfl | (simp (disch := omega) only [tm, td, fd, w32, lo_lo, lo_hi, wi, wu, orr])
        · first | (simp (disch := omega) only [List.forall_mem_cons, List.not_mem_nil, false_implies, implies_true, and_true, w32, wi, true_and, Bool.not_eq_true', ge_iff_le, decide_eq_true_eq, decide_eq_false_iff_not, beq_eq_false_iff_ne, ne_eq]; done) | (simp (disch := omega) only [List.forall_mem_cons, List.not_mem_nil, false_implies, implies_true, and_true, w32, wi, true_and, Bool.not_eq_true', ge_iff_le, decide_eq_true_eq, decide_eq_false_iff_not, beq_eq_false_iff_ne, ne_eq]; omega)
        · first | rfl | (simp (disch := omega) only [tm, w32, lo_lo, wi])
        · first | (simp (disch := omega) only [List.forall_mem_cons, List.not_mem_nil, false_implies, implies_true, and_true, tm, w32, lo_lo, wi, gt_iff_lt, decide_eq_true_eq, beq_eq_false_iff_ne, ne_eq]; done) | (simp (disch := omega) only [List.forall_mem_cons, List.not_mem_nil, false_implies, implies_true, and_true, tm, w32, lo_lo, wi, gt_iff_lt, decide_eq_true_eq, beq_eq_false_iff_ne, ne_eq]; omega)
      · refine ⟨_, _, ask_of (by intro g; apply W2_F1) rfl ?_ ?_, ask_of (by intro g; apply D2_F1) rfl ?_ ?_, .q2 at_ n u h0 hu (by omega)⟩
        · first | rfl | (simp (disch := omega) only [w32, wi])
        · first | (simp (disch := omega) only [List.forall_mem_cons, List.not_mem_nil, false_implies, implies_true, and_true, w32, wi, Bool.not_eq_false', ge_iff_le, decide_eq_true_eq, beq_eq_false_iff_ne, ne_eq]; done) | (simp (disch := omega) only [List.forall_mem_cons, List.not_mem_nil, false_implies, implies_true, and_true, w32, wi, Bool.not_eq_false', ge_iff_le, decide_eq_true_eq, beq_eq_false_iff_ne, ne_eq]; omega)
        · first | rfl | (simp (disch := omega) only [tm, w32, lo_lo, wi])
        · first | (simp (disch := omega) only [List.forall_mem_cons, List.not_mem_nil, false_implies, implies_true, and_true, tm, w32, lo_lo, wi, gt_iff_lt, decide_eq_false_iff_not, beq_eq_false_iff_ne, ne_eq]; done) | (simp (disch := omega) only [List.forall_mem_cons, List.not_mem_nil, false_implies, implies_true, and_true, tm, w32, lo_lo, wi, gt_iff_lt, decide_eq_false_iff_not, beq_eq_false_iff_ne, ne_eq]; omega)
    · rcases (show lo u = 0 ∨ n < lo u ∨ (1 ≤ lo u ∧ lo u ≤ n) by omega) with hc | hc | hc
      · refine ⟨_, _, ask_of (by intro g; apply W2_T0) rfl ?_ ?_, ask_of (by intro g; apply D2_T0) rfl ?_ ?_, .emp at_ n u at_ (lo u)⟩
        · first | rfl | (simp (disch := omega) only [tm, td, fd, w32, lo_lo, lo_hi, wi, wu, orr])
        · first | (simp (disch := omega) only [List.forall_mem_cons, List.not_mem_nil, false_implies, implies_true, and_true, w32, true_and, beq_iff_eq]; done) | (simp (disch := omega) only [List.forall_mem_cons, List.not_mem_nil, false_implies, implies_true, and_true, w32, true_and, beq_iff_eq]; omega)
        · first | rfl | (simp (disch := omega) only [tm, w32, lo_lo, wi])
        · first | (simp (disch := omega) only [List.forall_mem_cons, List.not_mem_nil, false_implies, implies_true, and_true, tm, w32, lo_lo, wi, beq_iff_eq]; done) | (simp (disch := omega) only [List.forall_mem_cons, List.not_mem_nil, false_implies, implies_true, and_true, tm, w32, lo_lo, wi, beq_iff_eq]; omega)
      · refine ⟨_, _, ask_of (by intro g; apply W2_T2) rfl ?_ ?_, ask_of (by intro g; apply D2_T2) rfl ?_ ?_, .brq at_ n u at_ (lo u)⟩
        · first | rfl | (simp (disch := omega) only [tm, td, fd, w32, lo_lo, lo_hi, wi, wu, orr])
        · first | (simp (disch := omega) only [List.forall_mem_cons, List.not_mem_nil, false_implies, implies_true, and_true, w32, wi, true_and, Bool.not_eq_true', ge_iff_le, decide_eq_true_eq, decide_eq_false_iff_not, beq_eq_false_iff_ne, ne_eq]; done) | (simp (disch := omega) only [List.forall_mem_cons, List.not_mem_nil, false_implies, implies_true, and_true, w32, wi, true_and, Bool.not_eq_true', ge_iff_le, decide_eq_true_eq, decide_eq_false_iff_not, beq_eq_false_iff_ne, ne_eq]; omega)
        · first | rfl | (simp (disch := omega) only [tm, w32, lo_lo, wi])
        · first | (simp (disch := omega) only [List.forall_mem_cons, List.not_mem_nil, false_implies, implies_true, and_true, tm, w32, lo_lo, wi, gt_iff_lt, decide_eq_true_eq, beq_eq_false_iff_ne, ne_eq]; done) | (simp (disch := omega) only [List.forall_mem_cons, List.not_mem_nil, false_implies, implies_true, and_true, tm, w32, lo_lo, wi, gt_iff_lt, decide_eq_true_eq, beq_eq_false_iff_ne, ne_eq]; omega)
      · refine ⟨_, _, ask_of (by intro g; apply W2_T1) rfl ?_ ?_, ask_of (by intro g; apply D2_T1) rfl ?_ ?_, .q2 at_ n u h0 hu (by omega)⟩
        · first | rfl | (simp (disch := omega) only [w32, wi])
        · first | (simp (disch := omega) only [List.forall_mem_cons, List.not_mem_nil, false_implies, implies_true, and_true, w32, wi, Bool.not_eq_false', ge_iff_le, decide_eq_true_eq, beq_eq_false_iff_ne, ne_eq]; done) | (simp (disch := omega) only [List.forall_mem_cons, List.not_mem_nil, false_implies, implies_true, and_true, w32, wi, Bool.not_eq_false', ge_iff_le, decide_eq_true_eq, beq_eq_false_iff_ne, ne_eq]; omega)
        · first | rfl | (simp (disch := omega) only [tm, w32, lo_lo, wi])
        · first | (simp (disch := omega) only [List.forall_mem_cons, List.not_mem_nil, false_implies, implies_true, and_true, tm, w32, lo_lo, wi, gt_iff_lt, decide_eq_false_iff_not, beq_eq_false_iff_ne, ne_eq]; done) | (simp (disch := omega) only [List.forall_mem_cons, List.not_mem_nil, false_implies, implies_true, and_true, tm, w32, lo_lo, wi, gt_iff_lt, decide_eq_false_iff_not, beq_eq_false_iff_ne, ne_eq]; omega)
  case emp at_ n t x y =>
    have l_t := lo_b t
    have m_t := lo_b (hi t + 1)
    have l_u := lo_b u
    have m_u := lo_b (hi u + 1)
    have i_u := hi_b (u := u) (by omega) (by omega)
    cases w
    · refine ⟨_, _, ask_of (by intro g; apply W6_F0) rfl ?_ ?_, ask_of (by intro g; apply D7_F0) rfl ?_ ?_, .emp at_ n t x y⟩
      · first | rfl | (simp (disch := omega) only [tm, td, fd, w32, lo_lo, lo_hi, wi, wu, orr])
      · first | (simp (disch := omega) only [List.not_mem_nil, false_implies, implies_true]; done) | (simp (disch := omega) only [List.forall_mem_cons, List.not_mem_nil, false_implies, implies_true, and_true, tm, td, fd, w32, lo_lo, lo_hi, wi, wu, orr, beq_self_eq_true, true_and, Bool.not_eq_true', Bool.not_eq_false', ge_iff_le, gt_iff_lt, decide_eq_true_eq, decide_eq_false_iff_not, beq_iff_eq, beq_eq_false_iff_ne, ne_eq]; omega)
      · first | rfl | (simp (disch := omega) only [tm, td, fd, w32, lo_lo, lo_hi, wi, wu, orr])
      · first | (simp (disch := omega) only [List.not_mem_nil, false_implies, implies_true]; done) | (simp (disch := omega) only [List.forall_mem_cons, List.not_mem_nil, false_implies, implies_true, and_true, tm, td, fd, w32, lo_lo, lo_hi, wi, wu, orr, beq_self_eq_true, true_and, Bool.not_eq_true', Bool.not_eq_false', ge_iff_le, gt_iff_lt, decide_eq_true_eq, decide_eq_false_iff_not, beq_iff_eq, beq_eq_false_iff_ne, ne_eq]; omega)
    · refine ⟨_, _, ask_of (by intro g; apply W6_T0) rfl ?_ ?_, ask_of (by intro g; apply D7_T0) rfl ?_ ?_, .emp at_ n t x y⟩
      · first | rfl | (simp (disch := omega) only [tm, td, fd, w32, lo_lo, lo_hi, wi, wu, orr])
      · first | (simp (disch := omega) only [List.not_mem_nil, false_implies, implies_true]; done) | (simp (disch := omega) only [List.forall_mem_cons, List.not_mem_nil, false_implies, implies_true, and_true, tm, td, fd, w32, lo_lo, lo_hi, wi, wu, orr, beq_self_eq_true, true_and, Bool.not_eq_true', Bool.not_eq_false', ge_iff_le, gt_iff_lt, decide_eq_true_eq, decide_eq_false_iff_not, beq_iff_eq, beq_eq_false_iff_ne, ne_eq]; omega)
      · first | rfl | (simp (disch := omega) only [tm, td, fd, w32, lo_lo, lo_hi, wi, wu, orr])
      · first | (simp (disch := omega) only [List.not_mem_nil, false_implies, implies_true]; done) | (simp (disch := omega) only [List.forall_mem_cons, List.not_mem_nil, false_implies, implies_true, and_true, tm, td, fd, w32, lo_lo, lo_hi, wi, wu, orr, beq_self_eq_true, true_and, Bool.not_eq_true', Bool.not_eq_false', ge_iff_le, gt_iff_lt, decide_eq_true_eq, decide_eq_false_iff_not, beq_iff_eq, beq_eq_false_iff_ne, ne_eq]; omega)
  case brq at_ n t x y =>
    have l_t := lo_b t
    have m_t := lo_b (hi t + 1)
    have l_u := lo_b u
    have m_u := lo_b (hi u + 1)
    have i_u := hi_b (u := u) (by omega) (by omega)
    cases w
    · refine ⟨_, _, ask_of (by intro g; apply W8_F0) rfl ?_ ?_, ask_of (by intro g; apply D9_F0) rfl ?_ ?_, .brq at_ n t x y⟩
      · first | rfl | (simp (disch := omega) only [tm, td, fd, w32, lo_lo, lo_hi, wi, wu, orr])
      · first | (simp (disch := omega) only [List.not_mem_nil, false_implies, implies_true]; done) | (simp (disch := omega) only [List.forall_mem_cons, List.not_mem_nil, false_implies, implies_true, and_true, tm, td, fd, w32, lo_lo, lo_hi, wi, wu, orr, beq_self_eq_true, true_and, Bool.not_eq_true', Bool.not_eq_false', ge_iff_le, gt_iff_lt, decide_eq_true_eq, decide_eq_false_iff_not, beq_iff_eq, beq_eq_false_iff_ne, ne_eq]; omega)
      · first | rfl | (simp (disch := omega) only [tm, td, fd, w32, lo_lo, lo_hi, wi, wu, orr])
      · first | (simp (disch := omega) only [List.not_mem_nil, false_implies, implies_true]; done) | (simp (disch := omega) only [List.forall_mem_cons, List.not_mem_nil, false_implies, implies_true, and_true, tm, td, fd, w32, lo_lo, lo_hi, wi, wu, orr, beq_self_eq_true, true_and, Bool.not_eq_true', Bool.not_eq_false', ge_iff_le, gt_iff_lt, decide_eq_true_eq, decide_eq_false_iff_not, beq_iff_eq, beq_eq_false_iff_ne, ne_eq]; omega)
    · refine ⟨_, _, ask_of (by intro g; apply W8_T0) rfl ?_ ?_, ask_of (by intro g; apply D9_T0) rfl ?_ ?_, .brq at_ n t x y⟩
      · first | rfl | (simp (disch := omega) only [tm, td, fd, w32, lo_lo, lo_hi, wi, wu, orr])
      · first | (simp (disch := omega) only [List.not_mem_nil, false_implies, implies_true]; done) | (simp (disch := omega) only [List.forall_mem_cons, List.not_mem_nil, false_implies, implies_true, and_true, tm, td, fd, w32, lo_lo, lo_hi, wi, wu, orr, beq_self_eq_true, true_and, Bool.not_eq_true', Bool.not_eq_false', ge_iff_le, gt_iff_lt, decide_eq_true_eq, decide_eq_false_iff_not, beq_iff_eq, beq_eq_false_iff_ne, ne_eq]; omega)
      · first | rfl | (simp (disch := omega) only [tm, td, fd, w32, lo_lo, lo_hi, wi, wu, orr])
      · first | (simp (disch := omega) only [List.not_mem_nil, false_implies, implies_true]; done) | (simp (disch := omega) only [List.forall_mem_cons, List.not_mem_nil, false_implies, implies_true, and_true, tm, td, fd, w32, lo_lo, lo_hi, wi, wu, orr, beq_self_eq_true, true_and, Bool.not_eq_true', Bool.not_eq_false', ge_iff_le, gt_iff_lt, decide_eq_true_eq, decide_eq_false_iff_not, beq_iff_eq, beq_eq_false_iff_ne, ne_eq]; omega)
  case emp2 at_ n t b y x0 x1 x2 =>
    have l_t := lo_b t
    have m_t := lo_b (hi t + 1)
    have l_b := lo_b b
    have m_b := lo_b (hi b + 1)
    have l_u := lo_b u
    have m_u := lo_b (hi u + 1)
    have i_u := hi_b (u := u) (by omega) (by omega)
    cases w
    · refine ⟨_, _, ask_of (by intro g; apply W13_F0) rfl ?_ ?_, ask_of (by intro g; apply D15_F0) rfl ?_ ?_, .emp2 at_ n t b y x0 x1 x2⟩
      · first | rfl | (simp (disch := omega) only [tm, td, fd, w32, lo_lo, lo_hi, wi, wu, orr])
      · first | (simp (disch := omega) only [List.not_mem_nil, false_implies, implies_true]; done) | (simp (disch := omega) only [List.forall_mem_cons, List.not_mem_nil, false_implies, implies_true, and_true, tm, td, fd, w32, lo_lo, lo_hi, wi, wu, orr, beq_self_eq_true, true_and, Bool.not_eq_true', Bool.not_eq_false', ge_iff_le, gt_iff_lt, decide_eq_true_eq, decide_eq_false_iff_not, beq_iff_eq, beq_eq_false_iff_ne, ne_eq]; omega)
      · first | rfl | (simp (disch := omega) only [tm, td, fd, w32, lo_lo, lo_hi, wi, wu, orr])
      · first | (simp (disch := omega) only [List.not_mem_nil, false_implies, implies_true]; done) | (simp (disch := omega) only [List.forall_mem_cons, List.not_mem_nil, false_implies, implies_true, and_true, tm, td, fd, w32, lo_lo, lo_hi, wi, wu, orr, beq_self_eq_true, true_and, Bool.not_eq_true', Bool.not_eq_false', ge_iff_le, gt_iff_lt, decide_eq_true_eq, decide_eq_false_iff_not, beq_iff_eq, beq_eq_false_iff_ne, ne_eq]; omega)
    · refine ⟨_, _, ask_of (by intro g; apply W13_T0) rfl ?_ ?_, ask_of (by intro g; apply D15_T0) rfl ?_ ?_, .emp2 at_ n t b y x0 x1 x2⟩
      · first | rfl | (simp (disch := omega) only [tm, td, fd, w32, lo_lo, lo_hi, wi, wu, orr])
      · first | (simp (disch := omega) only [List.not_mem_nil, false_implies, implies_true]; done) | (simp (disch := omega) only [List.forall_mem_cons, List.not_mem_nil, false_implies, implies_true, and_true, tm, td, fd, w32, lo_lo, lo_hi, wi, wu, orr, beq_self_eq_true, true_and, Bool.not_eq_true', Bool.not_eq_false', ge_iff_le, gt_iff_lt, decide_eq_true_eq, decide_eq_false_iff_not, beq_iff_eq, beq_eq_false_iff_ne, ne_eq]; omega)
      · first | rfl | (simp (disch := omega) only [tm, td, fd, w32, lo_lo, lo_hi, wi, wu, orr])
      · first | (simp (disch := omega) only [List.not_mem_nil, false_implies, implies_true]; done) | (simp (disch := omega) only [List.forall_mem_cons, List.not_mem_nil, false_implies, implies_true, and_true, tm, td, fd, w32, lo_lo, lo_hi, wi, wu, orr, beq_self_eq_true, true_and, Bool.not_eq_true', Bool.not_eq_false', ge_iff_le, gt_iff_lt, decide_eq_true_eq, decide_eq_false_iff_not, beq_iff_eq, beq_eq_false_iff_ne, ne_eq]; omega)
  case brq2 at_ n t b y x0 x1 x2 =>
    have l_t := lo_b t
    have m_t := lo_b (hi t + 1)
    have l_b := lo_b b
    have m_b := lo_b (hi b + 1)
    have l_u := lo_b u
    have m_u := lo_b (hi u + 1)
    have i_u := hi_b (u := u) (by omega) (by omega)
    cases w
    · refine ⟨_, _, ask_of (by intro g; apply W14_F0) rfl ?_ ?_, ask_of (by intro g; apply D17_F0) rfl ?_ ?_, .brq2 at_ n t b y x0 x1 x2⟩
      · first | rfl | (simp (disch := omega) only [tm, td, fd, w32, lo_lo, lo_hi, wi, wu, orr])
      · first | (simp (disch := omega) only [List.not_mem_nil, false_implies, implies_true]; done) | (simp (disch := omega) only [List.forall_mem_cons, List.not_mem_nil, false_implies, implies_true, and_true, tm, td, fd, w32, lo_lo, lo_hi, wi, wu, orr, beq_self_eq_true, true_and, Bool.not_eq_true', Bool.not_eq_false', ge_iff_le, gt_iff_lt, decide_eq_true_eq, decide_eq_false_iff_not, beq_iff_eq, beq_eq_false_iff_ne, ne_eq]; omega)
      · first | rfl | (simp (disch := omega) only [tm, td, fd, w32, lo_lo, lo_hi, wi, wu, orr])
      · first | (simp (disch := omega) only [List.not_mem_nil, false_implies, implies_true]; done) | (simp (disch := omega) only [List.forall_mem_cons, List.not_mem_nil, false_implies, implies_true, and_true, tm, td, fd, w32, lo_lo, lo_hi, wi, wu, orr, beq_self_eq_true, true_and, Bool.not_eq_true', Bool.not_eq_false', ge_iff_le, gt_iff_lt, decide_eq_true_eq, decide_eq_false_iff_not, beq_iff_eq, beq_eq_false_iff_ne, ne_eq]; omega)
    · refine ⟨_, _, ask_of (by intro g; apply W14_T0) rfl ?_ ?_, ask_of (by intro g; apply D17_T0) rfl ?_ ?_, .brq2 at_ n t b y x0 x1 x2⟩
      · first | rfl | (simp (disch := omega) only [tm, td, fd, w32, lo_lo, lo_hi, wi, wu, orr])
      · first | (simp (disch := omega) only [List.not_mem_nil, false_implies, implies_true]; done) | (simp (disch := omega) only [List.forall_mem_cons, List.not_mem_nil, false_implies, implies_true, and_true, tm, td, fd, w32, lo_lo, lo_hi, wi, wu, orr, beq_self_eq_true, true_and, Bool.not_eq_true', Bool.not_eq_false', ge_iff_le, gt_iff_lt, decide_eq_true_eq, decide_eq_false_iff_not, beq_iff_eq, beq_eq_false_iff_ne, ne_eq]; omega)
      · first | rfl | (simp (disch := omega) only [tm, td, fd, w32, lo_lo, lo_hi, wi, wu, orr])
      · first | (simp (disch := omega) only [List.not_mem_nil, false_implies, implies_true]; done) | (simp (disch := omega) only [List.forall_mem_cons, List.not_mem_nil, false_implies, implies_true, and_true, tm, td, fd, w32, lo_lo, lo_hi, wi, wu, orr, beq_self_eq_true, true_and, Bool.not_eq_true', Bool.not_eq_false', ge_iff_le, gt_iff_lt, decide_eq_true_eq, decide_eq_false_iff_not, beq_iff_eq, beq_eq_false_iff_ne, ne_eq]; omega)
  case q2 at_ n h h0 h1 h2 =>
    have b0 := h0
    unfold Rt at b0
    have b1 := h1
    unfold U64 at b1
    have l_h := lo_b h
    have m_h := lo_b (hi h + 1)
    have i_h := hi_b (u := h) (by omega) (by omega)
    have l_u := lo_b u
    have m_u := lo_b (hi u + 1)
    have i_u := hi_b (u := u) (by omega) (by omega)
    cases w
    · refine ⟨_, _, ask_of (by intro g; apply W7_F0) rfl ?_ ?_, ask_of (by intro g; apply D8_F0) rfl ?_ ?_, .q3 at_ n h u h0 h1 hu (by omega)⟩
      · first | rfl | (simp (disch := omega) only [fd, w32, lo_hi, wu, orr])
      · first | (simp (disch := omega) only [List.forall_mem_cons, List.not_mem_nil, false_implies, implies_true, and_true, beq_self_eq_true]; done) | (simp (disch := omega) only [List.forall_mem_cons, List.not_mem_nil, false_implies, implies_true, and_true, tm, td, fd, w32, lo_lo, lo_hi, wi, wu, orr, beq_self_eq_true, true_and, Bool.not_eq_true', Bool.not_eq_false', ge_iff_le, gt_iff_lt, decide_eq_true_eq, decide_eq_false_iff_not, beq_iff_eq, beq_eq_false_iff_ne, ne_eq]; omega)
      · first | rfl | (simp (disch := omega) only [tm, td, fd, w32, lo_lo, lo_hi, wi, wu, orr])
      · first | (simp (disch := omega) only [List.not_mem_nil, false_implies, implies_true]; done) | (simp (disch := omega) only [List.forall_mem_cons, List.not_mem_nil, false_implies, implies_true, and_true, tm, td, fd, w32, lo_lo, lo_hi, wi, wu, orr, beq_self_eq_true, true_and, Bool.not_eq_true', Bool.not_eq_false', ge_iff_le, gt_iff_lt, decide_eq_true_eq, decide_eq_false_iff_not, beq_iff_eq, beq_eq_false_iff_ne, ne_eq]; omega)
    · refine ⟨_, _, ask_of (by intro g; apply W7_T0) rfl ?_ ?_, ask_of (by intro g; apply D8_T0) rfl ?_ ?_, .q3 at_ n h u h0 h1 hu (by omega)⟩
      · first | rfl | (simp (disch := omega) only [fd, w32, lo_hi, wu, orr])
      · first | (simp (disch := omega) only [List.forall_mem_cons, List.not_mem_nil, false_implies, implies_true, and_true, beq_self_eq_true]; done) | (simp (disch := omega) only [List.forall_mem_cons, List.not_mem_nil, false_implies, implies_true, and_true, tm, td, fd, w32, lo_lo, lo_hi, wi, wu, orr, beq_self_eq_true, true_and, Bool.not_eq_true', Bool.not_eq_false', ge_iff_le, gt_iff_lt, decide_eq_true_eq, decide_eq_false_iff_not, beq_iff_eq, beq_eq_false_iff_ne, ne_eq]; omega)
      · first | rfl | (simp (disch := omega) only [tm, td, fd, w32, lo_lo, lo_hi, wi, wu, orr])
      · first | (simp (disch := omega) only [List.not_mem_nil, false_implies, implies_true]; done) | (simp (disch := omega) only [List.forall_mem_cons, List.not_mem_nil, false_implies, implies_true, and_true, tm, td, fd, w32, lo_lo, lo_hi, wi, wu, orr, beq_self_eq_true, true_and, Bool.not_eq_true', Bool.not_eq_false', ge_iff_le, gt_iff_lt, decide_eq_true_eq, decide_eq_false_iff_not, beq_iff_eq, beq_eq_false_iff_ne, ne_eq]; omega)
  case q2b at_ n h b h0 h1 h2 =>
    have b0 := h0
    unfold Rt at b0
    have b1 := h1
    unfold U64 at b1
    have l_h := lo_b h
    have m_h := lo_b (hi h + 1)
    have i_h := hi_b (u := h) (by omega) (by omega)
    have l_b := lo_b b
    have m_b := lo_b (hi b + 1)
    have l_u := lo_b u
    have m_u := lo_b (hi u + 1)
    have i_u := hi_b (u := u) (by omega) (by omega)
    cases w
    · refine ⟨_, _, ask_of (by intro g; apply W7_F0) rfl ?_ ?_, ask_of (by intro g; apply D16_F0) rfl ?_ ?_, .q3 at_ n h u h0 h1 hu (by omega)⟩
      · first | rfl | (simp (disch := omega) only [fd, w32, lo_hi, wu, orr])
      · first | (simp (disch := omega) only [List.forall_mem_cons, List.not_mem_nil, false_implies, implies_true, and_true, beq_self_eq_true]; done) | (simp (disch := omega) only [List.forall_mem_cons, List.not_mem_nil, false_implies, implies_true, and_true, tm, td, fd, w32, lo_lo, lo_hi, wi, wu, orr, beq_self_eq_true, true_and, Bool.not_eq_true', Bool.not_eq_false', ge_iff_le, gt_iff_lt, decide_eq_true_eq, decide_eq_false_iff_not, beq_iff_eq, beq_eq_false_iff_ne, ne_eq]; omega)
      · first | rfl | (simp (disch := omega) only [tm, td, fd, w32, lo_lo, lo_hi, wi, wu, orr])
      · first | (simp (disch := omega) only [List.not_mem_nil, false_implies, implies_true]; done) | (simp (disch := omega) only [List.forall_mem_cons, List.not_mem_nil, false_implies, implies_true, and_true, tm, td, fd, w32, lo_lo, lo_hi, wi, wu, orr, beq_self_eq_true, true_and, Bool.not_eq_true', Bool.not_eq_false', ge_iff_le, gt_iff_lt, decide_eq_true_eq, decide_eq_false_iff_not, beq_iff_eq, beq_eq_false_iff_ne, ne_eq]; omega)
    · refine ⟨_, _, ask_of (by intro g; apply W7_T0) rfl ?_ ?_, ask_of (by intro g; apply D16_T0) rfl ?_ ?_, .q3 at_ n h u h0 h1 hu (by omega)⟩
      · first | rfl | (simp (disch := omega) only [fd, w32, lo_hi, wu, orr])
      · first | (simp (disch := omega) only [List.forall_mem_cons, List.not_mem_nil, false_implies, implies_true, and_true, beq_self_eq_true]; done) | (simp (disch := omega) only [List.forall_mem_cons, List.not_mem_nil, false_implies, implies_true, and_true, tm, td, fd, w32, lo_lo, lo_hi, wi, wu, orr, beq_self_eq_true, true_and, Bool.not_eq_true', Bool.not_eq_false', ge_iff_le, gt_iff_lt, decide_eq_true_eq, decide_eq_false_iff_not, beq_iff_eq, beq_eq_false_iff_ne, ne_eq]; omega)
      · first | rfl | (simp (disch := omega) only [tm, td, fd, w32, lo_lo, lo_hi, wi, wu, orr])
      · first | (simp (disch := omega) only [List.not_mem_nil, false_implies, implies_true]; done) | (simp (disch := omega) only [List.forall_mem_cons, List.not_mem_nil, false_implies, implies_true, and_true, tm, td, fd, w32, lo_lo, lo_hi, wi, wu, orr, beq_self_eq_true, true_and, Bool.not_eq_true', Bool.not_eq_false', ge_iff_le, gt_iff_lt, decide_eq_true_eq, decide_eq_false_iff_not, beq_iff_eq, beq_eq_false_iff_ne, ne_eq]; omega)
  case q3 at_ n h b h0 h1 h2 h3 =>
    have b0 := h0
    unfold Rt at b0
    have b1 := h1
    unfold U64 at b1
    have b2 := h2
    unfold U64 at b2
    have l_h := lo_b h
    have m_h := lo_b (hi h + 1)
    have i_h := hi_b (u := h) (by omega) (by omega)
    have l_b := lo_b b
    have m_b := lo_b (hi b + 1)
    have i_b := hi_b (u := b) (by omega) (by omega)
    have l_u := lo_b u
    have m_u := lo_b (hi u + 1)
    have i_u := hi_b (u := u) (by omega) (by omega)
    cases w
    · rcases (show lo u = 0 ∨ n < lo u ∨ (1 ≤ lo u ∧ lo u ≤ n) by omega) with hc | hc | hc
      · refine ⟨_, _, ask_of (by intro g; apply W10_F0) rfl ?_ ?_, ask_of (by intro g; apply D11_F0) rfl ?_ ?_, .emp2 at_ n u b (lo u) at_ h (lo (hi h + 1) * 4294967296 + lo b)⟩
        · first | rfl | (simp (disch := omega) only [tm, td, fd, w32, lo_lo, lo_hi, wi, wu, orr])
        · first | (simp (disch := omega) only [List.forall_mem_cons, List.not_mem_nil, false_implies, implies_true, and_true, w32, true_and, beq_iff_eq]; done) | (simp (disch := omega) only [List.forall_mem_cons, List.not_mem_nil, false_implies, implies_true, and_true, w32, true_and, beq_iff_eq]; omega)
        · first | rfl | (simp (disch := omega) only [tm, w32, lo_lo, wi])
        · first | (simp (disch := omega) only [List.forall_mem_cons, List.not_mem_nil, false_implies, implies_true, and_true, tm, w32, lo_lo, wi, beq_iff_eq]; done) | (simp (disch := omega) only [List.forall_mem_cons, List.not_mem_nil, false_implies, implies_true, and_true, tm, w32, lo_lo, wi, beq_iff_eq]; omega)
      · refine ⟨_, _, ask_of (by intro g; apply W10_F2) rfl ?_ ?_, ask_of (by intro g; apply D11_F2) rfl ?_ ?_, .brq2 at_ n u b (lo u) at_ h (lo (hi h + 1) * 4294967296 + lo b)⟩
        · first | rfl | (simp (disch := omega) only [tm, td, fd, w32, lo_lo, lo_hi, wi, wu, orr])
        · first | (simp (disch := omega) only [List.forall_mem_cons, List.not_mem_nil, false_implies, implies_true, and_true, w32, wi, true_and, Bool.not_eq_true', ge_iff_le, decide_eq_true_eq, decide_eq_false_iff_not, beq_eq_false_iff_ne, ne_eq]; done) | (simp (disch := omega) only [List.forall_mem_cons, List.not_mem_nil, false_implies, implies_true, and_true, w32, wi, true_and, Bool.not_eq_true', ge_iff_le, decide_eq_true_eq, decide_eq_false_iff_not, beq_eq_false_iff_ne, ne_eq]; omega)
        · first | rfl | (simp (disch := omega) only [tm, w32, lo_lo, wi])
        · first | (simp (disch := omega) only [List.forall_mem_cons, List.not_mem_nil, false_implies, implies_true, and_true, tm, w32, lo_lo, wi, gt_iff_lt, decide_eq_true_eq, beq_eq_false_iff_ne, ne_eq]; done) | (simp (disch := omega) only [List.forall_mem_cons, List.not_mem_nil, false_implies, implies_true, and_true, tm, w32, lo_lo, wi, gt_iff_lt, decide_eq_true_eq, beq_eq_false_iff_ne, ne_eq]; omega)
      · refine ⟨_, _, ask_of (by intro g; apply W10_F1) rfl ?_ ?_, ask_of (by intro g; apply D11_F1) rfl ?_ ?_, .q2b at_ n u b h0 hu (by omega)⟩
        · first | rfl | (simp (disch := omega) only [w32, wi])
        · first | (simp (disch := omega) only [List.forall_mem_cons, List.not_mem_nil, false_implies, implies_true, and_true, w32, wi, Bool.not_eq_false', ge_iff_le, decide_eq_true_eq, beq_eq_false_iff_ne, ne_eq]; done) | (simp (disch := omega) only [List.forall_mem_cons, List.not_mem_nil, false_implies, implies_true, and_true, w32, wi, Bool.not_eq_false', ge_iff_le, decide_eq_true_eq, beq_eq_false_iff_ne, ne_eq]; omega)
        · first | rfl | (simp (disch := omega) only [tm, w32, lo_lo, wi])
        · first | (simp (disch := omega) only [List.forall_mem_cons, List.not_mem_nil, false_implies, implies_true, and_true, tm, w32, lo_lo, wi, gt_iff_lt, decide_eq_false_iff_not, beq_eq_false_iff_ne, ne_eq]; done) | (simp (disch := omega) only [List.forall_mem_cons, List.not_mem_nil, false_implies, implies_true, and_true, tm, w32, lo_lo, wi, gt_iff_lt, decide_eq_false_iff_not, beq_eq_false_iff_ne, ne_eq]; omega)
    · refine ⟨_, _, ask_of (by intro g; apply W10_T0) rfl ?_ ?_, ask_of (by intro g; apply D11_T0) rfl ?_ ?_, .q4 at_ n h b h0 h1 (by omega)⟩
      · first | rfl | (simp (disch := omega) only [wi])
      · first | (simp (disch := omega) only [List.not_mem_nil, false_implies, implies_true]; done) | (simp (disch := omega) only [List.forall_mem_cons, List.not_mem_nil, false_implies, implies_true, and_true, tm, td, fd, w32, lo_lo, lo_hi, wi, wu, orr, beq_self_eq_true, true_and, Bool.not_eq_true', Bool.not_eq_false', ge_iff_le, gt_iff_lt, decide_eq_true_eq, decide_eq_false_iff_not, beq_iff_eq, beq_eq_false_iff_ne, ne_eq]; omega)
      · first | rfl | (simp (disch := omega) only [tm, td, fd, w32, lo_lo, lo_hi, wi, wu, orr])
      · first | (simp (disch := omega) only [List.not_mem_nil, false_implies, implies_true]; done) | (simp (disch := omega) only [List.forall_mem_cons, List.not_mem_nil, false_implies, implies_true, and_true, tm, td, fd, w32, lo_lo, lo_hi, wi, wu, orr, beq_self_eq_true, true_and, Bool.not_eq_true', Bool.not_eq_false', ge_iff_le, gt_iff_lt, decide_eq_true_eq, decide_eq_false_iff_not, beq_iff_eq, beq_eq_false_iff_ne, ne_eq]; omega)
  case q4 at_ n h b h0 h1 h2 =>
    have b0 := h0
    unfold Rt at b0
    have b1 := h1
    unfold U64 at b1
    have l_h := lo_b h
    have m_h := lo_b (hi h + 1)
    have i_h := hi_b (u := h) (by omega) (by omega)
    have l_b := lo_b b
    have m_b := lo_b (hi b + 1)
    have l_u := lo_b u
    have m_u := lo_b (hi u + 1)
    have i_u := hi_b (u := u) (by omega) (by omega)
    cases w
    · refine ⟨_, _, ask_of (by intro g; apply W12_F0) rfl ?_ ?_, ask_of (by intro g; apply D14_F0) rfl ?_ ?_, .u1 at_ n u h b h0 h1 (by omega)⟩
      · first | rfl | (simp (disch := omega) only [wi])
      · first | (simp (disch := omega) only [List.forall_mem_cons, List.not_mem_nil, false_implies, implies_true, and_true, wi, beq_self_eq_true, true_and, Bool.not_eq_false', ge_iff_le, gt_iff_lt, decide_eq_true_eq, decide_eq_false_iff_not]; done) | (simp (disch := omega) only [List.forall_mem_cons, List.not_mem_nil, false_implies, implies_true, and_true, wi, beq_self_eq_true, true_and, Bool.not_eq_false', ge_iff_le, gt_iff_lt, decide_eq_true_eq, decide_eq_false_iff_not]; omega)
      · first | rfl | (simp (disch := omega) only [wi])
      · first | (simp (disch := omega) only [List.forall_mem_cons, List.not_mem_nil, false_implies, implies_true, and_true, wi, Bool.not_eq_false', ge_iff_le, gt_iff_lt, decide_eq_true_eq, decide_eq_false_iff_not]; done) | (simp (disch := omega) only [List.forall_mem_cons, List.not_mem_nil, false_implies, implies_true, and_true, wi, Bool.not_eq_false', ge_iff_le, gt_iff_lt, decide_eq_true_eq, decide_eq_false_iff_not]; omega)
    · refine ⟨_, _, ask_of (by intro g; apply W12_T0) rfl ?_ ?_, ask_of (by intro g; apply D14_T0) rfl ?_ ?_, .u1 at_ n u h b h0 h1 (by omega)⟩
      · first | rfl | (simp (disch := omega) only [wi])
      · first | (simp (disch := omega) only [List.forall_mem_cons, List.not_mem_nil, false_implies, implies_true, and_true, wi, beq_self_eq_true, true_and, Bool.not_eq_false', ge_iff_le, gt_iff_lt, decide_eq_true_eq, decide_eq_false_iff_not]; done) | (simp (disch := omega) only [List.forall_mem_cons, List.not_mem_nil, false_implies, implies_true, and_true, wi, beq_self_eq_true, true_and, Bool.not_eq_false', ge_iff_le, gt_iff_lt, decide_eq_true_eq, decide_eq_false_iff_not]; omega)
      · first | rfl | (simp (disch := omega) only [wi])
      · first | (simp (disch := omega) only [List.forall_mem_cons, List.not_mem_nil, false_implies, implies_true, and_true, wi, Bool.not_eq_false', ge_iff_le, gt_iff_lt, decide_eq_true_eq, decide_eq_false_iff_not]; done) | (simp (disch := omega) only [List.forall_mem_cons, List.not_mem_nil, false_implies, implies_true, and_true, wi, Bool.not_eq_false', ge_iff_le, gt_iff_lt, decide_eq_true_eq, decide_eq_false_iff_not]; omega)
  case u1 at_ n v h b h0 h1 h2 =>
    have b0 := h0
    unfold Rt at b0
    have b1 := h1
    unfold U64 at b1
    have l_h := lo_b h
    have m_h := lo_b (hi h + 1)
    have i_h := hi_b (u := h) (by omega) (by omega)
    have l_b := lo_b b
    have m_b := lo_b (hi b + 1)
    have l_u := lo_b u
    have m_u := lo_b (hi u + 1)
    have i_u := hi_b (u := u) (by omega) (by omega)
    cases w
    · refine ⟨_, _, ask_of (by intro g; apply W16_F0) rfl ?_ ?_, ask_of (by intro g; apply D19_F0) rfl ?_ ?_, .u2 at_ n v h b u h0 h1 hu (by omega)⟩
      · first | rfl | (simp (disch := omega) only [w32, wi, wu])
      · first | (simp (disch := omega) only [List.forall_mem_cons, List.not_mem_nil, false_implies, implies_true, and_true, beq_self_eq_true]; done) | (simp (disch := omega) only [List.forall_mem_cons, List.not_mem_nil, false_implies, implies_true, and_true, tm, td, fd, w32, lo_lo, lo_hi, wi, wu, orr, beq_self_eq_true, true_and, Bool.not_eq_true', Bool.not_eq_false', ge_iff_le, gt_iff_lt, decide_eq_true_eq, decide_eq_false_iff_not, beq_iff_eq, beq_eq_false_iff_ne, ne_eq]; omega)
      · first | rfl | (simp (disch := omega) only [tm, td, fd, w32, lo_lo, lo_hi, wi, wu, orr])
      · first | (simp (disch := omega) only [List.not_mem_nil, false_implies, implies_true]; done) | (simp (disch := omega) only [List.forall_mem_cons, List.not_mem_nil, false_implies, implies_true, and_true, tm, td, fd, w32, lo_lo, lo_hi, wi, wu, orr, beq_self_eq_true, true_and, Bool.not_eq_true', Bool.not_eq_false', ge_iff_le, gt_iff_lt, decide_eq_true_eq, decide_eq_false_iff_not, beq_iff_eq, beq_eq_false_iff_ne, ne_eq]; omega)
    · refine ⟨_, _, ask_of (by intro g; apply W16_T0) rfl ?_ ?_, ask_of (by intro g; apply D19_T0) rfl ?_ ?_, .u2 at_ n v h b u h0 h1 hu (by omega)⟩
      · first | rfl | (simp (disch := omega) only [w32, wi, wu])
      · first | (simp (disch := omega) only [List.forall_mem_cons, List.not_mem_nil, false_implies, implies_true, and_true, beq_self_eq_true]; done) | (simp (disch := omega) only [List.forall_mem_cons, List.not_mem_nil, false_implies, implies_true, and_true, tm, td, fd, w32, lo_lo, lo_hi, wi, wu, orr, beq_self_eq_true, true_and, Bool.not_eq_true', Bool.not_eq_false', ge_iff_le, gt_iff_lt, decide_eq_true_eq, decide_eq_false_iff_not, beq_iff_eq, beq_eq_false_iff_ne, ne_eq]; omega)
      · first | rfl | (simp (disch := omega) only [tm, td, fd, w32, lo_lo, lo_hi, wi, wu, orr])
      · first | (simp (disch := omega) only [List.not_mem_nil, false_implies, implies_true]; done) | (simp (disch := omega) only [List.forall_mem_cons, List.not_mem_nil, false_implies, implies_true, and_true, tm, td, fd, w32, lo_lo, lo_hi, wi, wu, orr, beq_self_eq_true, true_and, Bool.not_eq_true', Bool.not_eq_false', ge_iff_le, gt_iff_lt, decide_eq_true_eq, decide_eq_false_iff_not, beq_iff_eq, beq_eq_false_iff_ne, ne_eq]; omega)
  case u2 at_ n v h b t h0 h1 h2 h3 =>
    have b0 := h0
    unfold Rt at b0
    have b1 := h1
    unfold U64 at b1
    have b2 := h2
    unfold U64 at b2
    have l_h := lo_b h
    have m_h := lo_b (hi h + 1)
    have i_h := hi_b (u := h) (by omega) (by omega)
    have l_b := lo_b b
    have m_b := lo_b (hi b + 1)
    have l_t := lo_b t
    have m_t := lo_b (hi t + 1)
    have i_t := hi_b (u := t) (by omega) (by omega)
    have l_u := lo_b u
    have m_u := lo_b (hi u + 1)
    have i_u := hi_b (u := u) (by omega) (by omega)
    cases w
    · refine ⟨_, _, ask_of (by intro g; apply W18_F0) rfl ?_ ?_, ask_of (by intro g; apply D21_F0) rfl ?_ ?_, .u3 at_ n v h b t u h0 h1 h2 (by omega)⟩
      · first | rfl | (simp (disch := omega) only [fd, w32, lo_lo, lo_hi, wu, orr])
      · first | (simp (disch := omega) only [List.forall_mem_cons, List.not_mem_nil, false_implies, implies_true, and_true, beq_self_eq_true]; done) | (simp (disch := omega) only [List.forall_mem_cons, List.not_mem_nil, false_implies, implies_true, and_true, tm, td, fd, w32, lo_lo, lo_hi, wi, wu, orr, beq_self_eq_true, true_and, Bool.not_eq_true', Bool.not_eq_false', ge_iff_le, gt_iff_lt, decide_eq_true_eq, decide_eq_false_iff_not, beq_iff_eq, beq_eq_false_iff_ne, ne_eq]; omega)
      · first | rfl | (simp (disch := omega) only [tm, td, fd, w32, lo_lo, lo_hi, wi, wu, orr])
      · first | (simp (disch := omega) only [List.not_mem_nil, false_implies, implies_true]; done) | (simp (disch := omega) only [List.forall_mem_cons, List.not_mem_nil, false_implies, implies_true, and_true, tm, td, fd, w32, lo_lo, lo_hi, wi, wu, orr, beq_self_eq_true, true_and, Bool.not_eq_true', Bool.not_eq_false', ge_iff_le, gt_iff_lt, decide_eq_true_eq, decide_eq_false_iff_not, beq_iff_eq, beq_eq_false_iff_ne, ne_eq]; omega)
    · refine ⟨_, _, ask_of (by intro g; apply W18_T0) rfl ?_ ?_, ask_of (by intro g; apply D21_T0) rfl ?_ ?_, .u3 at_ n v h b t u h0 h1 h2 (by omega)⟩
      · first | rfl | (simp (disch := omega) only [fd, w32, lo_lo, lo_hi, wu, orr])
      · first | (simp (disch := omega) only [List.forall_mem_cons, List.not_mem_nil, false_implies, implies_true, and_true, beq_self_eq_true]; done) | (simp (disch := omega) only [List.forall_mem_cons, List.not_mem_nil, false_implies, implies_true, and_true, tm, td, fd, w32, lo_lo, lo_hi, wi, wu, orr, beq_self_eq_true, true_and, Bool.not_eq_true', Bool.not_eq_false', ge_iff_le, gt_iff_lt, decide_eq_true_eq, decide_eq_false_iff_not, beq_iff_eq, beq_eq_false_iff_ne, ne_eq]; omega)
      · first | rfl | (simp (disch := omega) only [tm, td, fd, w32, lo_lo, lo_hi, wi, wu, orr])
      · first | (simp (disch := omega) only [List.not_mem_nil, false_implies, implies_true]; done) | (simp (disch := omega) only [List.forall_mem_cons, List.not_mem_nil, false_implies, implies_true, and_true, tm, td, fd, w32, lo_lo, lo_hi, wi, wu, orr, beq_self_eq_true, true_and, Bool.not_eq_true', Bool.not_eq_false', ge_iff_le, gt_iff_lt, decide_eq_true_eq, decide_eq_false_iff_not, beq_iff_eq, beq_eq_false_iff_ne, ne_eq]; omega)
  case u2b at_ n v h b t l h0 h1 h2 h3 =>
    have b0 := h0
    unfold Rt at b0
    have b1 := h1
    unfold U64 at b1
    have b2 := h2
    unfold U64 at b2
    have l_h := lo_b h
    have m_h := lo_b (hi h + 1)
    have i_h := hi_b (u := h) (by omega) (by omega)
    have l_b := lo_b b
    have m_b := lo_b (hi b + 1)
    have l_t := lo_b t
    have m_t := lo_b (hi t + 1)
    have i_t := hi_b (u := t) (by omega) (by omega)
    have l_l := lo_b l
    have m_l := lo_b (hi l + 1)
    have l_u := lo_b u
    have m_u := lo_b (hi u + 1)
    have i_u := hi_b (u := u) (by omega) (by omega)
    cases w
    · refine ⟨_, _, ask_of (by intro g; apply W18_F0) rfl ?_ ?_, ask_of (by intro g; apply D26_F0) rfl ?_ ?_, .u3 at_ n v h b t u h0 h1 h2 (by omega)⟩
      · first | rfl | (simp (disch := omega) only [fd, w32, lo_lo, lo_hi, wu, orr])
      · first | (simp (disch := omega) only [List.forall_mem_cons, List.not_mem_nil, false_implies, implies_true, and_true, beq_self_eq_true]; done) | (simp (disch := omega) only [List.forall_mem_cons, List.not_mem_nil, false_implies, implies_true, and_true, tm, td, fd, w32, lo_lo, lo_hi, wi, wu, orr, beq_self_eq_true, true_and, Bool.not_eq_true', Bool.not_eq_false', ge_iff_le, gt_iff_lt, decide_eq_true_eq, decide_eq_false_iff_not, beq_iff_eq, beq_eq_false_iff_ne, ne_eq]; omega)
      · first | rfl | (simp (disch := omega) only [tm, td, fd, w32, lo_lo, lo_hi, wi, wu, orr])
      · first | (simp (disch := omega) only [List.not_mem_nil, false_implies, implies_true]; done) | (simp (disch := omega) only [List.forall_mem_cons, List.not_mem_nil, false_implies, implies_true, and_true, tm, td, fd, w32, lo_lo, lo_hi, wi, wu, orr, beq_self_eq_true, true_and, Bool.not_eq_true', Bool.not_eq_false', ge_iff_le, gt_iff_lt, decide_eq_true_eq, decide_eq_false_iff_not, beq_iff_eq, beq_eq_false_iff_ne, ne_eq]; omega)
    · refine ⟨_, _, ask_of (by intro g; apply W18_T0) rfl ?_ ?_, ask_of (by intro g; apply D26_T0) rfl ?_ ?_, .u3 at_ n v h b t u h0 h1 h2 (by omega)⟩
      · first | rfl | (simp (disch := omega) only [fd, w32, lo_lo, lo_hi, wu, orr])
      · first | (simp (disch := omega) only [List.forall_mem_cons, List.not_mem_nil, false_implies, implies_true, and_true, beq_self_eq_true]; done) | (simp (disch := omega) only [List.forall_mem_cons, List.not_mem_nil, false_implies, implies_true, and_true, tm, td, fd, w32, lo_lo, lo_hi, wi, wu, orr, beq_self_eq_true, true_and, Bool.not_eq_true', Bool.not_eq_false', ge_iff_le, gt_iff_lt, decide_eq_true_eq, decide_eq_false_iff_not, beq_iff_eq, beq_eq_false_iff_ne, ne_eq]; omega)
      · first | rfl | (simp (disch := omega) only [tm, td, fd, w32, lo_lo, lo_hi, wi, wu, orr])
      · first | (simp (disch := omega) only [List.not_mem_nil, false_implies, implies_true]; done) | (simp (disch := omega) only [List.forall_mem_cons, List.not_mem_nil, false_implies, implies_true, and_true, tm, td, fd, w32, lo_lo, lo_hi, wi, wu, orr, beq_self_eq_true, true_and, Bool.not_eq_true', Bool.not_eq_false', ge_iff_le, gt_iff_lt, decide_eq_true_eq, decide_eq_false_iff_not, beq_iff_eq, beq_eq_false_iff_ne, ne_eq]; omega)
  case u3 at_ n v h b t l h0 h1 h2 h3 =>
    have b0 := h0
    unfold Rt at b0
    have b1 := h1
    unfold U64 at b1
    have b2 := h2
    unfold U64 at b2
    have l_h := lo_b h
    have m_h := lo_b (hi h + 1)
    have i_h := hi_b (u := h) (by omega) (by omega)
    have l_b := lo_b b
    have m_b := lo_b (hi b + 1)
    have l_t := lo_b t
    have m_t := lo_b (hi t + 1)
    have i_t := hi_b (u := t) (by omega) (by omega)
    have l_l := lo_b l
    have m_l := lo_b (hi l + 1)
    have l_u := lo_b u
    have m_u := lo_b (hi u + 1)
    have i_u := hi_b (u := u) (by omega) (by omega)
    cases w
    · refine ⟨_, _, ask_of (by intro g; apply W20_F0) rfl ?_ ?_, ask_of (by intro g; apply D23_F0) rfl ?_ ?_, .u2b at_ n v h b u l h0 h1 hu (by omega)⟩
      · first | rfl | (simp (disch := omega) only [w32, wi, wu])
      · first | (simp (disch := omega) only [List.forall_mem_cons, List.not_mem_nil, false_implies, implies_true, and_true, beq_self_eq_true]; done) | (simp (disch := omega) only [List.forall_mem_cons, List.not_mem_nil, false_implies, implies_true, and_true, tm, td, fd, w32, lo_lo, lo_hi, wi, wu, orr, beq_self_eq_true, true_and, Bool.not_eq_true', Bool.not_eq_false', ge_iff_le, gt_iff_lt, decide_eq_true_eq, decide_eq_false_iff_not, beq_iff_eq, beq_eq_false_iff_ne, ne_eq]; omega)
      · first | rfl | (simp (disch := omega) only [tm, td, fd, w32, lo_lo, lo_hi, wi, wu, orr])
      · first | (simp (disch := omega) only [List.not_mem_nil, false_implies, implies_true]; done) | (simp (disch := omega) only [List.forall_mem_cons, List.not_mem_nil, false_implies, implies_true, and_true, tm, td, fd, w32, lo_lo, lo_hi, wi, wu, orr, beq_self_eq_true, true_and, Bool.not_eq_true', Bool.not_eq_false', ge_iff_le, gt_iff_lt, decide_eq_true_eq, decide_eq_false_iff_not, beq_iff_eq, beq_eq_false_iff_ne, ne_eq]; omega)
    · refine ⟨_, _, ask_of (by intro g; apply W20_T0) rfl ?_ ?_, ask_of (by intro g; apply D23_T0) rfl ?_ ?_, .uend at_ n v h b (at_ + 1 + n + lo h)⟩
      · first | rfl | (simp (disch := omega) only [tm, td, fd, w32, lo_lo, lo_hi, wi, wu, orr])
      · first | (simp (disch := omega) only [List.forall_mem_cons, List.not_mem_nil, false_implies, implies_true, and_true, beq_self_eq_true]; done) | (simp (disch := omega) only [List.forall_mem_cons, List.not_mem_nil, false_implies, implies_true, and_true, tm, td, fd, w32, lo_lo, lo_hi, wi, wu, orr, beq_self_eq_true, true_and, Bool.not_eq_true', Bool.not_eq_false', ge_iff_le, gt_iff_lt, decide_eq_true_eq, decide_eq_false_iff_not, beq_iff_eq, beq_eq_false_iff_ne, ne_eq]; omega)
      · first | rfl | (simp (disch := omega) only [tm, td, fd, w32, lo_lo, lo_hi, wi, wu, orr])
      · first | (simp (disch := omega) only [List.not_mem_nil, false_implies, implies_true]; done) | (simp (disch := omega) only [List.forall_mem_cons, List.not_mem_nil, false_implies, implies_true, and_true, tm, td, fd, w32, lo_lo, lo_hi, wi, wu, orr, beq_self_eq_true, true_and, Bool.not_eq_true', Bool.not_eq_false', ge_iff_le, gt_iff_lt, decide_eq_true_eq, decide_eq_false_iff_not, beq_iff_eq, beq_eq_false_iff_ne, ne_eq]; omega)
  case uend at_ n v h b x =>
    have l_h := lo_b h
    have m_h := lo_b (hi h + 1)
    have l_b := lo_b b
    have m_b := lo_b (hi b + 1)
    have l_u := lo_b u
    have m_u := lo_b (hi u + 1)
    have i_u := hi_b (u := u) (by omega) (by omega)
    cases w
    · refine ⟨_, _, ask_of (by intro g; apply W22_F0) rfl ?_ ?_, ask_of (by intro g; apply D25_F0) rfl ?_ ?_, .uend at_ n v h b x⟩
      · first | rfl | (simp (disch := omega) only [tm, td, fd, w32, lo_lo, lo_hi, wi, wu, orr])
      · first | (simp (disch := omega) only [List.not_mem_nil, false_implies, implies_true]; done) | (simp (disch := omega) only [List.forall_mem_cons, List.not_mem_nil, false_implies, implies_true, and_true, tm, td, fd, w32, lo_lo, lo_hi, wi, wu, orr, beq_self_eq_true, true_and, Bool.not_eq_true', Bool.not_eq_false', ge_iff_le, gt_iff_lt, decide_eq_true_eq, decide_eq_false_iff_not, beq_iff_eq, beq_eq_false_iff_ne, ne_eq]; omega)
      · first | rfl | (simp (disch := omega) only [tm, td, fd, w32, lo_lo, lo_hi, wi, wu, orr])
      · first | (simp (disch := omega) only [List.not_mem_nil, false_implies, implies_true]; done) | (simp (disch := omega) only [List.forall_mem_cons, List.not_mem_nil, false_implies, implies_true, and_true, tm, td, fd, w32, lo_lo, lo_hi, wi, wu, orr, beq_self_eq_true, true_and, Bool.not_eq_true', Bool.not_eq_false', ge_iff_le, gt_iff_lt, decide_eq_true_eq, decide_eq_false_iff_not, beq_iff_eq, beq_eq_false_iff_ne, ne_eq]; omega)
    · refine ⟨_, _, ask_of (by intro g; apply W22_T0) rfl ?_ ?_, ask_of (by intro g; apply D25_T0) rfl ?_ ?_, .uend at_ n v h b x⟩
      · first | rfl | (simp (disch := omega) only [tm, td, fd, w32, lo_lo, lo_hi, wi, wu, orr])
      · first | (simp (disch := omega) only [List.not_mem_nil, false_implies, implies_true]; done) | (simp (disch := omega) only [List.forall_mem_cons, List.not_mem_nil, false_implies, implies_true, and_true, tm, td, fd, w32, lo_lo, lo_hi, wi, wu, orr, beq_self_eq_true, true_and, Bool.not_eq_true', Bool.not_eq_false', ge_iff_le, gt_iff_lt, decide_eq_true_eq, decide_eq_false_iff_not, beq_iff_eq, beq_eq_false_iff_ne, ne_eq]; omega)
      · first | rfl | (simp (disch := omega) only [tm, td, fd, w32, lo_lo, lo_hi, wi, wu, orr])
      · first | (simp (disch := omega) only [List.not_mem_nil, false_implies, implies_true]; done) | (simp (disch := omega) only [List.forall_mem_cons, List.not_mem_nil, false_implies, implies_true, and_true, tm, td, fd, w32, lo_lo, lo_hi, wi, wu, orr, beq_self_eq_true, true_and, Bool.not_eq_true', Bool.not_eq_false', ge_iff_le, gt_iff_lt, decide_eq_true_eq, decide_eq_false_iff_not, beq_iff_eq, beq_eq_false_iff_ne, ne_eq]; omega)
end Go.Proofs.YtmgfamnongagbaaGreat.stk
