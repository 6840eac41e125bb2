/- The same machine, cut into small functions: so the kernel runs it in less room. -/
import Derived.Test.YtpbejdlpkpehlaaVx18
namespace Go.Vx

/-! Trees, numbers, cells: in steps that the kernel does at once. -/
section
variable {α : Type}
noncomputable def getK (t : Tr α) : Nat → Option α :=
  Tr.rec (motive := fun _ => Nat → Option α) (fun _ => none) (fun v _ _ gl gr n => Bool.rec (Bool.rec (gr (Nat.sub (Nat.div n 2) 1)) (gl (Nat.div n 2)) (Nat.beq (Nat.mod n 2) 1)) (some v) (Nat.beq n 0)) t
theorem getK_eq : ∀ (t : Tr α) (n : Nat), getK t n = t.get n
  | .nil, _ => rfl
  | .node v l r, n => by
    show Bool.rec (motive := fun _ => Option α) (Bool.rec (motive := fun _ => Option α) (getK r (Nat.sub (Nat.div n 2) 1)) (getK l (Nat.div n 2)) (Nat.beq (Nat.mod n 2) 1)) (some v) (Nat.beq n 0) = _
    rw [getK_eq l, getK_eq r]
    simp only [Tr.get]
    cases h : Nat.beq n 0 with
    | true => rw [if_pos (Nat.eq_of_beq_eq_true h)]
    | false =>
      rw [if_neg (Nat.ne_of_beq_eq_false h)]
      cases k : Nat.beq (Nat.mod n 2) 1 with
      | true => rw [if_pos (show n % 2 = 1 from Nat.eq_of_beq_eq_true k)]; rfl
      | false => rw [if_neg (show ¬ n % 2 = 1 from Nat.ne_of_beq_eq_false k)]; rfl
noncomputable def setK (t : Tr α) : Nat → α → Tr α :=
  Tr.rec (motive := fun _ => Nat → α → Tr α) (fun _ _ => .nil) (fun v l r gl gr n x => Bool.rec (Bool.rec (.node v l (gr (Nat.sub (Nat.div n 2) 1) x)) (.node v (gl (Nat.div n 2) x) r) (Nat.beq (Nat.mod n 2) 1)) (.node x l r) (Nat.beq n 0)) t
theorem setK_eq : ∀ (t : Tr α) (n : Nat) (x : α), setK t n x = t.set n x
  | .nil, _, _ => rfl
  | .node v l r, n, x => by
    show Bool.rec (motive := fun _ => Tr α) (Bool.rec (motive := fun _ => Tr α) (.node v l (setK r (Nat.sub (Nat.div n 2) 1) x)) (.node v (setK l (Nat.div n 2) x) r) (Nat.beq (Nat.mod n 2) 1)) (.node x l r) (Nat.beq n 0) = _
    rw [setK_eq l, setK_eq r]
    simp only [Tr.set]
    cases h : Nat.beq n 0 with
    | true => rw [if_pos (Nat.eq_of_beq_eq_true h)]
    | false =>
      rw [if_neg (Nat.ne_of_beq_eq_false h)]
      cases k : Nat.beq (Nat.mod n 2) 1 with
      | true => rw [if_pos (show n % 2 = 1 from Nat.eq_of_beq_eq_true k)]; rfl
      | false => rw [if_neg (show ¬ n % 2 = 1 from Nat.ne_of_beq_eq_false k)]; rfl
noncomputable def pushK (t : Tr α) : Nat → α → Tr α :=
  Tr.rec (motive := fun _ => Nat → α → Tr α) (fun _ x => .node x .nil .nil) (fun v l r gl gr n x => Bool.rec (.node v l (gr (Nat.sub (Nat.div n 2) 1) x)) (.node v (gl (Nat.div n 2) x) r) (Nat.beq (Nat.mod n 2) 1)) t
theorem pushK_eq : ∀ (t : Tr α) (n : Nat) (x : α), pushK t n x = t.push n x
  | .nil, _, _ => rfl
  | .node v l r, n, x => by
    show Bool.rec (motive := fun _ => Tr α) (.node v l (pushK r (Nat.sub (Nat.div n 2) 1) x)) (.node v (pushK l (Nat.div n 2) x) r) (Nat.beq (Nat.mod n 2) 1) = _
    rw [pushK_eq l, pushK_eq r]
    simp only [Tr.push]
    cases k : Nat.beq (Nat.mod n 2) 1 with
    | true => rw [if_pos (show n % 2 = 1 from Nat.eq_of_beq_eq_true k)]; rfl
    | false => rw [if_neg (show ¬ n % 2 = 1 from Nat.ne_of_beq_eq_false k)]; rfl
end
noncomputable def pushM (M : AMem) (k : ABlk) : AMem := ⟨pushK M.t M.n k, Nat.add M.n 1, M.g⟩
theorem pushM_eq (M : AMem) (k : ABlk) : pushM M k = M.push k := by unfold pushM AMem.push; rw [pushK_eq]
def nthK : List AV → Nat → Option AV
  | [], _ => none
  | v :: l, n => match Nat.beq n 0 with
    | true => some v
    | false => nthK l (Nat.sub n 1)
theorem nthK_eq : ∀ (l : List AV) (n : Nat), nthK l n = l[n]?
  | [], n => by simp [nthK]
  | v :: l, n => by
    simp only [nthK]
    cases h : Nat.beq n 0 with
    | true => rw [Nat.eq_of_beq_eq_true h]; rfl
    | false =>
      have hn := Nat.ne_of_beq_eq_false h
      simp only [nthK_eq l]
      obtain ⟨m, rfl⟩ : ∃ m, n = m + 1 := ⟨n - 1, by omega⟩
      show l[m + 1 - 1]? = _
      simp
/-- one cell -/
noncomputable def cellK (M : AMem) (b o : Nat) : Option AV :=
  match getK M.t b with
  | some (.cells cs _ _ _) => nthK cs o
  | _ => none
theorem cellK_eq (M : AMem) (b o : Nat) : (match cellK M b o with | some v => some [v] | none => none) = M.loadCells b o 1 := by
  unfold cellK AMem.loadCells AMem.get
  rw [getK_eq]
  cases M.t.get b with
  | none => rfl
  | some k =>
    cases k with
    | dead => rfl
    | held => rfl
    | map es => rfl
    | cells cs sz wr g =>
      simp only [nthK_eq]
      by_cases h : o < cs.length
      · rw [if_pos (by omega), List.getElem?_eq_getElem h, List.drop_eq_getElem_cons h]; rfl
      · rw [if_neg (by omega), List.getElem?_eq_none (by omega)]
/-- cells laid into a row, from a place on -/
def putK : List AV → Nat → List AV → Option (List AV)
  | cs, o, new => match cs with
    | [] => match new with
      | [] => match Nat.beq o 0 with
        | true => some []
        | false => none
      | _ :: _ => none
    | c :: cs => match Nat.beq o 0 with
      | true => match new with
        | [] => some (c :: cs)
        | v :: vs => match putK cs 0 vs with
          | some l => some (v :: l)
          | none => none
      | false => match putK cs (Nat.sub o 1) new with
        | some l => some (c :: l)
        | none => none
theorem putK_eq : ∀ (cs : List AV) (o : Nat) (new : List AV), putK cs o new = if o + new.length ≤ cs.length then some (splice cs o new) else none
  | [], o, [] => by
    unfold putK
    cases h : Nat.beq o 0 with
    | true => rw [Nat.eq_of_beq_eq_true h]; rfl
    | false => have := Nat.ne_of_beq_eq_false h; rw [if_neg (by simp; omega)]
  | [], o, v :: vs => by
    unfold putK
    rw [if_neg (by simp)]
  | c :: cs, o, new => by
    unfold putK
    cases h : Nat.beq o 0 with
    | true =>
      have h0 := Nat.eq_of_beq_eq_true h
      subst h0
      cases new with
      | nil => simp [splice]
      | cons v vs =>
        simp only [putK_eq cs 0 vs]
        by_cases hl : vs.length ≤ cs.length
        · rw [if_pos (by omega), if_pos (by simp; omega)]; simp [splice]
        · rw [if_neg (by omega), if_neg (by simp; omega)]
    | false =>
      have hn := Nat.ne_of_beq_eq_false h
      obtain ⟨m, rfl⟩ : ∃ m, o = m + 1 := ⟨o - 1, by omega⟩
      have hs : Nat.sub (m + 1) 1 = m := by show m + 1 - 1 = m; omega
      simp only [hs, putK_eq cs m new]
      by_cases hl : m + new.length ≤ cs.length
      · rw [if_pos hl, if_pos (by simp; omega)]
        simp only [splice, Nat.succ_add, List.drop_succ_cons, List.take_succ_cons, List.cons_append]
      · rw [if_neg hl, if_neg (by simp; omega)]
def allOne : List AV → Bool
  | [] => true
  | v :: l => match v.one with
    | true => allOne l
    | false => false
theorem allOne_eq : ∀ l : List AV, allOne l = l.all AV.one
  | [] => rfl
  | v :: l => by simp only [allOne, List.all_cons, allOne_eq l]; cases v.one <;> rfl
noncomputable def storeK (M : AMem) (b o : Nat) (new : List AV) : Option AMem :=
  match getK M.t b with
  | some (.cells cs sz true g) => match allOne new with
    | true => match putK cs o new with
      | some l => match g with
        | none => some ⟨setK M.t b (.cells l sz true none), M.n, M.g⟩
        | some g => some ((M.kill g b).set b (.cells l sz true (some g)))
      | none => none
    | false => none
  | _ => none
theorem storeK_eq (M : AMem) (b o : Nat) (new : List AV) : storeK M b o new = M.storeCells b o new := by
  unfold storeK AMem.storeCells AMem.get
  rw [getK_eq]
  rcases M.t.get b with _ | k
  · rfl
  · cases k with
    | dead => rfl
    | held => rfl
    | map es => rfl
    | cells cs sz wr g =>
      cases wr with
      | false => rfl
      | true =>
        simp only [allOne_eq, putK_eq]
        by_cases h1 : new.all AV.one = true
        · simp only [h1, and_true]
          by_cases h2 : o + new.length ≤ cs.length
          · simp only [h2, if_true]
            cases g with
            | none => simp only [setK_eq]; rfl
            | some g => rfl
          · simp only [h2, if_false]
        · have h1' : new.all AV.one = false := by simpa using h1
          simp only [h1', Bool.false_eq_true, and_false, if_false]
def sameK (a b : IntKind) : Bool :=
  match a with
  | .i64 => match b with | .i64 => true | _ => false
  | .u64 => match b with | .u64 => true | _ => false
  | .i8 => match b with | .i8 => true | _ => false
  | .u8 => match b with | .u8 => true | _ => false
  | .i16 => match b with | .i16 => true | _ => false
  | .u16 => match b with | .u16 => true | _ => false
  | .i32 => match b with | .i32 => true | _ => false
  | .u32 => match b with | .u32 => true | _ => false
theorem sameK_eq (a b : IntKind) : sameK a b = decide (a = b) := by cases a <;> cases b <;> rfl
def ltI (a b : Int) : Bool :=
  match a with
  | .ofNat m => match b with
    | .ofNat n => Nat.ble (Nat.add m 1) n
    | .negSucc _ => false
  | .negSucc m => match b with
    | .ofNat _ => true
    | .negSucc n => Nat.ble (Nat.add n 1) m
theorem ble_decide (m n : Nat) : Nat.ble m n = decide (m ≤ n) := by
  cases h : Nat.ble m n with
  | true => simpa using Nat.le_of_ble_eq_true h
  | false => have := Nat.not_le_of_not_ble_eq_true (by simp [h] : ¬ Nat.ble m n = true); simpa using this
theorem ltI_eq (a b : Int) : ltI a b = decide (a < b) := by
  cases a <;> cases b <;> simp only [ltI, ble_decide] <;> (rw [Bool.eq_iff_iff]; simp only [decide_eq_true_eq])
  · show _ + 1 ≤ _ ↔ _; simp only [Int.ofNat_eq_natCast]; omega
  · simp only [Int.ofNat_eq_natCast, Int.negSucc_eq]; simp; omega
  · simp only [Int.ofNat_eq_natCast, Int.negSucc_eq]; simp; omega
  · show _ + 1 ≤ _ ↔ _; simp only [Int.negSucc_eq]; omega
def eqI (a b : Int) : Bool :=
  match a with
  | .ofNat m => match b with
    | .ofNat n => Nat.beq m n
    | .negSucc _ => false
  | .negSucc m => match b with
    | .ofNat _ => false
    | .negSucc n => Nat.beq m n
theorem beq_decide (m n : Nat) : Nat.beq m n = decide (m = n) := by
  cases h : Nat.beq m n with
  | true => simpa using Nat.eq_of_beq_eq_true h
  | false => have := Nat.ne_of_beq_eq_false h; simpa using this
theorem eqI_eq (a b : Int) : eqI a b = (a == b) := by
  rw [show (a == b) = decide (a = b) from rfl]
  cases a <;> cases b <;> simp only [eqI, beq_decide] <;> (rw [Bool.eq_iff_iff]; simp only [decide_eq_true_eq])
  · simp only [Int.ofNat_eq_natCast]; omega
  · simp
  · simp
  · simp only [Int.negSucc_eq]; omega
def addI (a b : Int) : Int :=
  match a with
  | .ofNat m => match b with
    | .ofNat n => .ofNat (Nat.add m n)
    | .negSucc n => .ofNat m + .negSucc n
  | .negSucc m => .negSucc m + b
theorem addI_eq (a b : Int) : addI a b = a + b := by cases a <;> cases b <;> rfl
def wrapK (k : IntKind) (n : Int) : Int :=
  match n with
  | .ofNat m => match Nat.ble m 127 with
    | true => .ofNat m
    | false => match k with
      | .i64 => match Nat.ble m 9223372036854775807 with
        | true => .ofNat m
        | false => wrapF .i64 (.ofNat m)
      | .u64 => match Nat.ble m 18446744073709551615 with
        | true => .ofNat m
        | false => wrapF .u64 (.ofNat m)
      | k => wrapF k (.ofNat m)
  | .negSucc m => wrapF k (.negSucc m)
theorem wrapK_eq (k : IntKind) (n : Int) : wrapK k n = wrapF k n := by
  cases n with
  | negSucc m => rfl
  | ofNat m =>
    simp only [wrapK]
    cases h : Nat.ble m 127 with
    | true =>
      rw [ble_decide] at h
      have h := of_decide_eq_true h
      simp only [Int.ofNat_eq_natCast]
      cases k <;> simp only [wrapF] <;> first | omega | (split <;> omega)
    | false =>
      cases k <;> simp only
      case i64 =>
        cases h2 : Nat.ble m 9223372036854775807 with
        | true =>
          rw [ble_decide] at h2
          have h2 := of_decide_eq_true h2
          simp only [Int.ofNat_eq_natCast, wrapF]; split <;> omega
        | false => rfl
      case u64 =>
        cases h2 : Nat.ble m 18446744073709551615 with
        | true =>
          rw [ble_decide] at h2
          have h2 := of_decide_eq_true h2
          simp only [Int.ofNat_eq_natCast, wrapF]; omega
        | false => rfl
/-! Operands. -/
noncomputable def argK (t : Tr AV) (x : PArg) : Option AV := PArg.rec (fun i => getK t i) (fun v => some v) x
noncomputable def argsK (t : Tr AV) (l : List PArg) : Option (List AV) :=
  List.rec (some []) (fun x _ ih => Option.rec none (fun a => Option.rec none (fun b => some (a :: b)) ih) (argK t x)) l
theorem argsK_eq (t : Tr AV) : ∀ xs : List PArg, argsK t xs = evalArgs t xs
  | [] => rfl
  | x :: xs => by
    show Option.rec (motive := fun _ => Option (List AV)) none (fun a => Option.rec (motive := fun _ => Option (List AV)) none (fun b => some (a :: b)) (argsK t xs)) (argK t x) = _
    rw [argsK_eq t xs]
    simp only [evalArgs]
    have : argK t x = x.eval t := by cases x <;> simp [argK, PArg.eval, getK_eq]
    rw [this]
    cases x.eval t <;> cases evalArgs t xs <;> rfl
noncomputable def putTK (t : Tr AV) (dst : Option Nat) (v : AV) : Tr AV := Option.rec t (fun d => setK t d v) dst
theorem putTK_eq (t : Tr AV) (dst : Option Nat) (v : AV) : putTK t dst v = putT t dst v := by
  cases dst <;> simp [putTK, putT, setK_eq]
noncomputable def wantG (t : Tr AV) (g : Nat × Bool) : Bool := match getK t g.1 with
  | some (.bool b) => b == g.2
  | _ => false
noncomputable def wantedK (p : PInstr) (t : Tr AV) : Bool := Option.rec true (fun g => wantG t g) p.guard
theorem wantedK_eq (p : PInstr) (t : Tr AV) : wantedK p t = wantedA p t := by
  unfold wantedK wantedA
  cases p.guard with
  | none => rfl
  | some q => simp only [wantG, getK_eq]; rfl

def kAdd (k : IntKind) (a b : Int) : Option AV := some (.int k (wrapK k (addI a b)))
def kSub (k : IntKind) (a b : Int) : Option AV := some (.int k (wrapK k (a - b)))
def kEql (a b : Int) : Option AV := some (.bool (eqI a b))
def kNeq (a b : Int) : Option AV := some (.bool (!eqI a b))
def kLss (a b : Int) : Option AV := some (.bool (ltI a b))
def kLeq (a b : Int) : Option AV := some (.bool (!ltI b a))
def kGtr (a b : Int) : Option AV := some (.bool (ltI b a))
def kGeq (a b : Int) : Option AV := some (.bool (!ltI a b))
def kArith (op : BinOp) (k : IntKind) (a b : Int) : Option AV :=
  match op with
  | .add => kAdd k a b
  | .sub => kSub k a b
  | .eql => kEql a b
  | .neq => kNeq a b
  | .lss => kLss a b
  | .leq => kLeq a b
  | .gtr => kGtr a b
  | .geq => kGeq a b
  | op => intI op k a b
theorem kArith_eq (op : BinOp) (k : IntKind) (a b : Int) : kArith op k a b = intI op k a b := by
  have nlt : ∀ a b : Int, (!decide (a < b)) = decide (b ≤ a) := fun a b => by
    rw [Bool.eq_iff_iff]; simp
  cases op <;> simp only [kArith, intI, kAdd, kSub, kEql, kNeq, kLss, kLeq, kGtr, kGeq, wrapK_eq, addI_eq, eqI_eq, ltI_eq, nlt] <;> rfl
/-- two numbers of one kind -/
def kInts (op : BinOp) (k k' : IntKind) (a b : Int) : Option AV :=
  match op with
  | .shl => binI .shl (.int k a) (.int k' b)
  | .shr => binI .shr (.int k a) (.int k' b)
  | op => match sameK k k' with
    | true => kArith op k a b
    | false => none
theorem kInts_eq (op : BinOp) (k k' : IntKind) (a b : Int) : kInts op k k' a b = binI op (.int k a) (.int k' b) := by
  cases op <;> simp only [kInts, binI, kArith_eq, sameK_eq] <;> (by_cases h : k = k' <;> simp [h])
def toInt : AV → Option (IntKind × Int)
  | .int k n => some (k, n)
  | _ => none
theorem toInt_some {v : AV} {k : IntKind} {n : Int} (h : toInt v = some (k, n)) : v = .int k n := by
  cases v <;> simp [toInt] at h
  obtain ⟨rfl, rfl⟩ := h; rfl
def valO (M : AMem) : Option AV → Option SR
  | some v => some (.val v M)
  | none => none
def kBin2 (op : BinOp) (a b : AV) : Option AV :=
  match toInt a with
  | some (k, x) => match toInt b with
    | some (k', y) => kInts op k k' x y
    | none => binI op a b
  | none => binI op a b
theorem kBin2_eq (op : BinOp) (a b : AV) : kBin2 op a b = binI op a b := by
  unfold kBin2
  cases ha : toInt a with
  | none => rfl
  | some p =>
    obtain ⟨k, x⟩ := p
    cases hb : toInt b with
    | none => rfl
    | some q =>
      obtain ⟨k', y⟩ := q
      simp only
      rw [kInts_eq, toInt_some ha, toInt_some hb]
def kBin (op : BinOp) (args : List AV) (M : AMem) : Option SR :=
  match args with
  | [a, b] => valO M (kBin2 op a b)
  | _ => none
def kMove (args : List AV) (M : AMem) : Option SR :=
  match args with
  | [v] => some (.val v M)
  | _ => none
def toPtr : AV → Option (Nat × Nat)
  | .ptr (some p) => some p
  | _ => none
theorem toPtr_some {v : AV} {p : Nat × Nat} (h : toPtr v = some p) : v = .ptr (some p) := by
  cases v <;> simp only [toPtr] at h <;> try (cases h; done)
  rename_i a
  cases a <;> simp at h
  subst h; rfl
def kField1 (off : Nat) (v : AV) (M : AMem) : Option SR :=
  match toPtr v with
  | some p => some (.val (.ptr (some (p.1, p.2 + off))) M)
  | none => opI (.fieldAddr off) [v] M
def kField (off : Nat) (args : List AV) (M : AMem) : Option SR :=
  match args with
  | [v] => kField1 off v M
  | _ => none
def kLoadA (M : AMem) : Option (List AV) → Option SR
  | some cs => some (.val (.agg cs) M)
  | none => none
def kLoadV (M : AMem) : Option (List AV) → Option SR
  | some [v] => some (.val v M)
  | _ => none
noncomputable def kLoad1 (agg : Bool) (n : Nat) (v : AV) (M : AMem) : Option SR :=
  match toPtr v with
  | some p => match agg with
    | true => kLoadA M (M.loadCells p.1 p.2 n)
    | false => valO M (cellK M p.1 p.2)
  | none => opI (.load agg n) [v] M
noncomputable def kLoad (agg : Bool) (n : Nat) (args : List AV) (M : AMem) : Option SR :=
  match args with
  | [v] => kLoad1 agg n v M
  | _ => none
def kStoreM : Option AMem → Option SR
  | some M => some (.val (.tuple []) M)
  | none => none
noncomputable def kStore1 (n : Nat) (v x : AV) (M : AMem) : Option SR :=
  match toPtr v with
  | some p => if x.cells.length = n then kStoreM (storeK M p.1 p.2 x.cells) else none
  | none => opI (.store n) [v, x] M
noncomputable def kStore (n : Nat) (args : List AV) (M : AMem) : Option SR :=
  match args with
  | [v, x] => kStore1 n v x M
  | _ => none
noncomputable def kBox (args : List AV) (M : AMem) : Option SR :=
  match args with
  | [v] => some (.val (.ptr (some (M.n, 0))) (pushM M (.cells v.cells 0 true none)))
  | _ => none
noncomputable def kNew (cs : List AV) (args : List AV) (M : AMem) : Option SR :=
  match args with
  | [] => some (.val (.ptr (some (M.n, 0))) (pushM M (.cells cs 0 true none)))
  | _ => none
def kCall (f : FuncId) (args : List AV) (_ : AMem) : Option SR := some (.call f args)
def kMkFunc (fn : Fn) (n : Nat) (args : List AV) (M : AMem) : Option SR := some (.val (.func fn (args.take n) (args.drop n)) M)
def kNot (args : List AV) (M : AMem) : Option SR :=
  match args with
  | [v] => match v with
    | .bool b => some (.val (.bool (!b)) M)
    | _ => none
  | _ => none
def kPick (args : List AV) (M : AMem) : Option SR :=
  match args with
  | [c, a, b] => match c with
    | .bool true => some (.val a M)
    | .bool false => some (.val b M)
    | _ => none
  | _ => none
def kNil1 (v : AV) (M : AMem) : Option SR :=
  match toPtr v with
  | some _ => some (.val v M)
  | none => opI .nilCheck [v] M
def kNil (args : List AV) (M : AMem) : Option SR :=
  match args with
  | [v] => kNil1 v M
  | _ => none
def kEqPtr (neg : Bool) (args : List AV) (M : AMem) : Option SR :=
  match args with
  | [a, b] => match eqPtrI a b with
    | some r => some (.val (.bool (xorB neg r)) M)
    | none => none
  | _ => none
def kExtract (i : Nat) (args : List AV) (M : AMem) : Option SR :=
  match args with
  | [t] => match t with
    | .tuple vs => valO M (nthK vs i)
    | _ => none
  | _ => none
def aggO (M : AMem) : Option (List AV) → Option SR
  | some cs => some (.val (.agg cs) M)
  | none => none
def kBuild (zero : List AV) (pl : List (Nat × Nat)) (args : List AV) (M : AMem) : Option SR := aggO M (fillA zero pl args)
def kCallV (args : List AV) (_ : AMem) : Option SR :=
  match args with
  | f :: vs => match f with
    | .func (.func f) first captured => some (.call f (first ++ vs ++ captured))
    | _ => none
  | _ => none
noncomputable def opK (p : PI) : List AV → AMem → Option SR :=
  PI.rec (motive := fun _ => List AV → AMem → Option SR)
    (kMove)
    (kPick)
    (kNot)
    (fun op => kBin op)
    (fun neg => opI (.eqBool neg))
    (fun neg => kEqPtr neg)
    (fun kind neg => opI (.eqNil kind neg))
    (fun fs neg => opI (.eqStruct fs neg))
    (fun k => opI (.conv k))
    (fun t => opI (.mkIface t))
    (fun fn n => kMkFunc fn n)
    (fun off => kField off)
    (fun off n agg => opI (.field off n agg))
    (fun sz => opI (.indexAddrS sz))
    (fun len sz => opI (.indexAddrA len sz))
    (opI .indexStr)
    (fun len sz agg => opI (.indexArr len sz agg))
    (fun sz lo hi mx => opI (.slice sz lo hi mx))
    (fun n sz lo hi mx => opI (.slicePA n sz lo hi mx))
    (fun lo hi => opI (.sliceStr lo hi))
    (fun i => kExtract i)
    (kNil)
    (fun zero pl => kBuild zero pl)
    (opI .lenS)
    (opI .lenStr)
    (fun m => opI (.minmax m))
    (fun t ok zero => opI (.assertC t ok zero))
    (fun agg n => kLoad agg n)
    (fun cs => kNew cs)
    (kBox)
    (fun len zero pl => opI (.sliceLit len zero pl))
    (fun n => kStore n)
    (fun sz bytes => opI (.append sz bytes))
    (fun sz => opI (.copy sz))
    (fun sz bytes zero => opI (.makeSlice sz bytes zero))
    (fun f => kCall f)
    (kCallV)
    (fun tbl via => opI (.invoke tbl via))
    (opI .makeMap)
    (fun tag ok zero => opI (.lookup tag ok zero))
    (fun tag => opI (.mapUpdate tag))
    (fun tag => opI (.delete tag))
    (opI .lenM)
    (fun sz zero => opI (.clear sz zero))
    (fun tbl via promo => opI (.invokeP tbl via promo))
    (opI .bytesStr)
    (fun neg => opI (.unI neg))
    p
theorem kField1_eq (off : Nat) (v : AV) (M : AMem) : kField1 off v M = opI (.fieldAddr off) [v] M := by
  unfold kField1
  cases h : toPtr v with
  | none => rfl
  | some p => rw [toPtr_some h]; rfl
theorem kLoad1_eq (agg : Bool) (n : Nat) (v : AV) (M : AMem) : kLoad1 agg n v M = opI (.load agg n) [v] M := by
  unfold kLoad1
  cases h : toPtr v with
  | none => rfl
  | some p =>
    rw [toPtr_some h]
    obtain ⟨b, o⟩ := p
    cases agg with
    | true =>
      simp only [opI, if_true]
      cases M.loadCells b o n <;> rfl
    | false =>
      simp only [opI, Bool.false_eq_true, if_false]
      rw [← cellK_eq]
      cases cellK M b o <;> rfl
theorem kStore1_eq (n : Nat) (v x : AV) (M : AMem) : kStore1 n v x M = opI (.store n) [v, x] M := by
  unfold kStore1
  cases h : toPtr v with
  | none => rfl
  | some p =>
    rw [toPtr_some h]
    obtain ⟨b, o⟩ := p
    simp only [opI, storeK_eq]
    split
    · cases M.storeCells b o x.cells <;> rfl
    · rfl
theorem opK_eq (p : PI) (args : List AV) (M : AMem) : opK p args M = opI p args M := by
  cases p
  case move =>
    show kMove args M = _
    rcases args with _ | ⟨a, _ | ⟨b, l⟩⟩ <;> rfl
  case bin op =>
    show kBin op args M = _
    rcases args with _ | ⟨a, _ | ⟨b, _ | ⟨c, l⟩⟩⟩
    · rfl
    · rfl
    · simp only [kBin, kBin2_eq, opI]
      cases binI op a b <;> rfl
    · rfl
  case fieldAddr off =>
    show kField off args M = _
    rcases args with _ | ⟨a, _ | ⟨b, l⟩⟩
    · rfl
    · exact kField1_eq _ _ _
    · simp only [kField]; cases a <;> simp [opI]
  case load agg n =>
    show kLoad agg n args M = _
    rcases args with _ | ⟨a, _ | ⟨b, l⟩⟩
    · rfl
    · exact kLoad1_eq _ _ _ _
    · simp only [kLoad]; cases a <;> simp [opI]
  case store n =>
    show kStore n args M = _
    rcases args with _ | ⟨a, _ | ⟨b, _ | ⟨c, l⟩⟩⟩
    · rfl
    · simp only [kStore]; cases a <;> simp [opI]
    · exact kStore1_eq _ _ _ _
    · simp only [kStore]; cases a <;> simp [opI]
  case box =>
    show kBox args M = _
    rcases args with _ | ⟨a, _ | ⟨b, l⟩⟩ <;> simp only [kBox, pushM_eq] <;> rfl
  case new cs =>
    show kNew cs args M = _
    cases args <;> simp only [kNew, pushM_eq] <;> rfl
  case callF f =>
    show kCall f args M = _
    cases args <;> rfl
  case mkFunc fn n =>
    show kMkFunc fn n args M = _
    cases args <;> rfl
  case not =>
    show kNot args M = _
    rcases args with _ | ⟨a, _ | ⟨b, l⟩⟩
    · rfl
    · cases a <;> rfl
    · simp only [kNot]; cases a <;> simp [opI]
  case pick =>
    show kPick args M = _
    rcases args with _ | ⟨c, _ | ⟨a, _ | ⟨b, _ | ⟨d, l⟩⟩⟩⟩
    · rfl
    · cases c <;> rfl
    · cases c <;> rfl
    · cases c <;> simp only [kPick, opI]
      rename_i x; cases x <;> rfl
    · cases c <;> rfl
  case nilCheck =>
    show kNil args M = _
    rcases args with _ | ⟨a, _ | ⟨b, l⟩⟩
    · rfl
    · simp only [kNil, kNil1]
      cases h : toPtr a with
      | none => rfl
      | some p => rw [toPtr_some h]; rfl
    · rfl
  case eqPtr neg =>
    show kEqPtr neg args M = _
    rcases args with _ | ⟨a, _ | ⟨b, _ | ⟨c, l⟩⟩⟩
    · rfl
    · rfl
    · simp only [kEqPtr, opI]; cases eqPtrI a b <;> rfl
    · rfl
  case extract i =>
    show kExtract i args M = _
    rcases args with _ | ⟨a, _ | ⟨b, l⟩⟩
    · rfl
    · cases a <;> simp only [kExtract, opI, nthK_eq]
      rename_i vs; cases vs[i]? <;> rfl
    · cases a <;> rfl
  case build zero pl =>
    show kBuild zero pl args M = _
    have : opI (.build zero pl) args M = match fillA zero pl args with
        | some cs => some (.val (.agg cs) M)
        | none => none := by cases args <;> rfl
    rw [this]
    simp only [kBuild]
    cases fillA zero pl args <;> rfl
  case callV =>
    show kCallV args M = _
    rcases args with _ | ⟨a, l⟩
    · rfl
    · cases a <;> simp only [kCallV, opI]
      rename_i fn first captured; cases fn <;> rfl
  all_goals rfl

section
variable (call : FuncId → List AV → AMem → Option (AV × AMem))
noncomputable def srK (M : AMem) (r : SR) : Option (AV × AMem) := SR.rec (fun v M' => some (v, M')) (fun f args => call f args M) r
noncomputable def val1K (op : PI) (avs : List AV) (M : AMem) : Option (AV × AMem) := Option.rec none (fun r => srK call M r) (opK op avs M)
theorem val1K_eq (op : PI) (avs : List AV) (M : AMem) : val1K call op avs M = val1 call op avs M := by
  unfold val1K val1; rw [opK_eq]
  rcases opI op avs M with _ | ⟨v, M'⟩ | ⟨f, as⟩ <;> rfl
noncomputable def doneK (ih : Tr AV → AMem → Option (Tr AV × AMem)) (t : Tr AV) (dst : Option Nat) (q : Option (AV × AMem)) : Option (Tr AV × AMem) :=
  Option.rec none (fun q => Prod.rec (fun v M' => ih (putTK t dst v) M') q) q
noncomputable def goK (p : PInstr) (ih : Tr AV → AMem → Option (Tr AV × AMem)) (t : Tr AV) (M : AMem) : Option (Tr AV × AMem) :=
  Bool.rec (ih (putTK t p.dst undefA) M) (Option.rec none (fun avs => doneK ih t p.dst (val1K call p.op avs M)) (argsK t p.args)) (wantedK p t)
noncomputable def runSeqK (ps : List PInstr) : Tr AV → AMem → Option (Tr AV × AMem) :=
  List.rec (motive := fun _ => Tr AV → AMem → Option (Tr AV × AMem)) (fun t M => some (t, M)) (fun p _ ih t M => goK call p ih t M) ps
theorem runSeqK_eq : ∀ (ps : List PInstr) (t : Tr AV) (M : AMem), runSeqK call ps t M = runSeq call ps t M
  | [], t, M => rfl
  | p :: ps, t, M => by
    show goK call p (runSeqK call ps) t M = _
    have ih : runSeqK call ps = runSeq call ps := by funext t M; exact runSeqK_eq ps t M
    rw [ih]
    simp only [goK, doneK, runSeq, val1K_eq, wantedK_eq, argsK_eq, putTK_eq]
    cases wantedA p t with
    | true =>
      simp only [if_true]
      cases evalArgs t p.args with
      | none => rfl
      | some avs =>
        simp only
        rcases val1 call p.op avs M with _ | ⟨v, M'⟩ <;> rfl
    | false => simp only [Bool.false_eq_true, if_false]
noncomputable def step1K (n0 : Nat) (d : DInstr) (avs : List AV) (M : AMem) : Option (AV × AMem) :=
  match d.fl with
  | true => fillI d.p.op avs n0 M
  | false => match val1K call d.p.op avs M with
    | some (v, M') => if isHeld (M.get n0) && !isHeld (M'.get n0) then none else some (v, M')
    | none => none
theorem step1K_eq (n0 : Nat) (d : DInstr) (avs : List AV) (M : AMem) : step1K call n0 d avs M = step1 call n0 d avs M := by
  unfold step1K step1
  rw [val1K_eq]
  cases d.fl <;> rfl
def recK (d : DInstr) (avs : Option (List AV)) (v : AV) (pre : List AMem) : Option (List Rec × List AMem × Tr AV) → Option (List Rec × List AMem × Tr AV)
  | some (rs, ms, t') => some (⟨d, avs, v⟩ :: rs, pre ++ ms, t')
  | none => none
noncomputable def traceK (n0 : Nat) : List DInstr → Tr AV → AMem → Option (List Rec × List AMem × Tr AV)
  | [], t, M => some ([], [M], t)
  | d :: ds, t, M =>
    match wantedK d.p t with
    | true =>
      match argsK t d.p.args with
      | some avs =>
        match d.eff with
        | true =>
          match step1K call n0 d avs M with
          | some (v, M') => recK d (some avs) v [M] (traceK n0 ds (putTK t d.p.dst v) M')
          | none => none
        | false => match opK d.p.op avs M with
          | some (.val v M') => if M'.n = M.n then recK d (some avs) v [] (traceK n0 ds (putTK t d.p.dst v) M) else none
          | _ => none
      | none => none
    | false => recK d none undefA (if d.eff then [M] else []) (traceK n0 ds (putTK t d.p.dst undefA) M)
theorem traceK_eq (n0 : Nat) : ∀ (ds : List DInstr) (t : Tr AV) (M : AMem), traceK call n0 ds t M = trace call n0 ds t M
  | [], t, M => rfl
  | d :: ds, t, M => by
    simp only [traceK, trace, step1K_eq, opK_eq, traceK_eq n0 ds, wantedK_eq, argsK_eq, putTK_eq]
    cases wantedA d.p t with
    | true =>
      simp only [if_true]
      cases evalArgs t d.p.args with
      | none => rfl
      | some avs =>
        simp only
        cases d.eff with
        | true =>
          simp only [if_true]
          rcases step1 call n0 d avs M with _ | ⟨v, M'⟩
          · rfl
          · simp only
            rcases trace call n0 ds (putT t d.p.dst v) M' with _ | ⟨rs, ms, t'⟩ <;> rfl
        | false =>
          simp only [Bool.false_eq_true, if_false]
          rcases opI d.p.op avs M with _ | ⟨v, M'⟩ | ⟨f, as⟩
          · rfl
          · simp only
            split
            · rcases trace call n0 ds (putT t d.p.dst v) M with _ | ⟨rs, ms, t'⟩ <;> rfl
            · rfl
          · rfl
    | false =>
      simp only [Bool.false_eq_true, if_false]
      rcases trace call n0 ds (putT t d.p.dst undefA) M with _ | ⟨rs, ms, t'⟩
      · rfl
      · simp only [recK]
        cases d.eff <;> rfl
noncomputable def sameAtK (op : PI) (avs : List AV) (v : AV) (ms : List AMem) (lo : Nat) : Nat → Bool
  | 0 => true
  | k + 1 => (match ms[lo + k]? with
    | some M => match opK op avs M with
      | some (.val v' M') => v'.beq v && M'.n == M.n
      | _ => false
    | none => false) && sameAtK op avs v ms lo k
theorem sameAtK_eq (op : PI) (avs : List AV) (v : AV) (ms : List AMem) (lo : Nat) : ∀ k, sameAtK op avs v ms lo k = sameAt op avs v ms lo k
  | 0 => rfl
  | k + 1 => by
    simp only [sameAtK, sameAt, opK_eq, sameAtK_eq op avs v ms lo k]
    cases ms[lo + k]? with
    | none => rfl
    | some M => simp only; rcases opI op avs M with _ | ⟨v, M'⟩ | ⟨f, as⟩ <;> rfl
noncomputable def checkRecK (ms : List AMem) (r : Rec) : Bool :=
  match r.d.eff with
  | true => true
  | false => match isLoad r.d.p.op with
    | false => true
    | true => match r.d.lo == r.d.hi with
      | true => true
      | false => match r.avs with
        | none => true
        | some avs => sameAtK r.d.p.op avs r.v ms r.d.lo (r.d.hi + 1 - r.d.lo)
theorem checkRecK_eq (ms : List AMem) (r : Rec) : checkRecK ms r = checkRec ms r := by
  unfold checkRecK checkRec
  cases r.avs with
  | none => cases r.d.eff <;> cases isLoad r.d.p.op <;> cases (r.d.lo == r.d.hi) <;> rfl
  | some avs =>
    simp only [sameAtK_eq]
    cases r.d.eff <;> cases isLoad r.d.p.op <;> cases (r.d.lo == r.d.hi) <;> simp
noncomputable def endK (rs : List Rec) (ms : List AMem) (t' : Tr AV) : Option (Tr AV × AMem) :=
  match rs.all (checkRecK ms) with
  | true => match ms.getLast? with
    | some M' => some (t', M')
    | none => none
  | false => none
noncomputable def runDrawK (ds : List DInstr) (t : Tr AV) (M : AMem) : Option (Tr AV × AMem) :=
  match traceK call M.n ds t (if ds.any (·.fl) then M.push .held else M) with
  | some (rs, ms, t') => endK rs ms t'
  | none => none
theorem runDrawK_eq (ds : List DInstr) (t : Tr AV) (M : AMem) : runDrawK call ds t M = runDraw call ds t M := by
  unfold runDrawK runDraw
  rw [traceK_eq]
  rcases trace call M.n ds t (if ds.any (·.fl) then M.push .held else M) with _ | ⟨rs, ms, t'⟩
  · rfl
  · simp only [endK]
    have : checkRecK ms = checkRec ms := by funext r; exact checkRecK_eq ms r
    rw [this]
    cases rs.all (checkRec ms) <;> rfl
noncomputable def iterK (body : Tr AV → AMem → Option (PEx × Tr AV × AMem)) (n : Nat) : Tr AV → AMem → Option (PEx × Tr AV × AMem) :=
  Nat.rec (motive := fun _ => Tr AV → AMem → Option (PEx × Tr AV × AMem)) (fun _ _ => none) (fun _ ih t M => contK ih (body t M)) n
where contK (ih : Tr AV → AMem → Option (PEx × Tr AV × AMem)) (r : Option (PEx × Tr AV × AMem)) : Option (PEx × Tr AV × AMem) :=
  Option.rec none (fun q => Prod.rec (fun x tm => PEx.rec (Prod.rec (fun t M => ih t M) tm) (fun id => some (.exit id, tm)) (some (.ret, tm)) x) q) r
theorem iterK_eq (body : Tr AV → AMem → Option (PEx × Tr AV × AMem)) : ∀ (n : Nat) (t : Tr AV) (M : AMem), iterK body n t M = iter body n t M
  | 0, _, _ => rfl
  | n + 1, t, M => by
    show iterK.contK (iterK body n) (body t M) = _
    have ih : iterK body n = iter body n := by funext t M; exact iterK_eq body n t M
    rw [ih]
    simp only [iter, iterK.contK]
    rcases body t M with _ | ⟨x, t', M'⟩
    · rfl
    · cases x <;> rfl
noncomputable def normK (r : Option (Tr AV × AMem)) : Option (PEx × Tr AV × AMem) := Option.rec none (fun q => some (.normal, q)) r
noncomputable def condK (b : Option AV) (x y : Option (PEx × Tr AV × AMem)) : Option (PEx × Tr AV × AMem) :=
  match b with
  | some (.bool true) => x
  | some (.bool false) => y
  | _ => none
noncomputable def blockK (id : Nat) (r : Option (PEx × Tr AV × AMem)) : Option (PEx × Tr AV × AMem) :=
  Option.rec none (fun q => Prod.rec (fun x tm => PEx.rec (some (.normal, tm)) (fun id' => Bool.rec (some (.exit id', tm)) (some (.normal, tm)) (Nat.beq id' id)) (some (.ret, tm)) x) q) r
noncomputable def execK (N : Nat) (c : PCode) : Tr AV → AMem → Option (PEx × Tr AV × AMem) :=
  PCode.rec (motive := fun _ => Tr AV → AMem → Option (PEx × Tr AV × AMem))
    (fun t M => some (.normal, t, M))
    (fun ps t M => normK (runSeqK call ps t M))
    (fun ds t M => normK (runDrawK call ds t M))
    (fun _ _ ia ib t M => iterK.contK ib (ia t M))
    (fun c _ _ ix iy t M => condK (argK t c) (ix t M) (iy t M))
    (fun id _ ib t M => blockK id (ib t M))
    (fun _ ib t M => iterK ib N t M)
    (fun id t M => some (.exit id, t, M))
    (fun t M => some (.ret, t, M))
    (fun _ _ => none)
    c
theorem execK_eq (N : Nat) : ∀ (c : PCode) (t : Tr AV) (M : AMem), execK call N c t M = exec call N c t M
  | .skip, t, M => rfl
  | .seqR ps, t, M => by
    show normK (runSeqK call ps t M) = _
    rw [runSeqK_eq]
    simp only [exec, normK]
    rcases runSeq call ps t M with _ | ⟨t', M'⟩ <;> rfl
  | .drawR ds, t, M => by
    show normK (runDrawK call ds t M) = _
    rw [runDrawK_eq]
    simp only [exec, normK]
    rcases runDraw call ds t M with _ | ⟨t', M'⟩ <;> rfl
  | .seq a b, t, M => by
    show iterK.contK (execK call N b) (execK call N a t M) = _
    have ih : execK call N b = exec call N b := by funext t M; exact execK_eq N b t M
    rw [ih, execK_eq N a]
    simp only [exec, iterK.contK]
    rcases exec call N a t M with _ | ⟨x, t', M'⟩
    · rfl
    · cases x <;> rfl
  | .cond c x y, t, M => by
    show condK (argK t c) (execK call N x t M) (execK call N y t M) = _
    have : argK t c = c.eval t := by cases c <;> simp [argK, PArg.eval, getK_eq]
    rw [this, execK_eq N x, execK_eq N y]
    simp only [exec, condK]
    rfl
  | .block id c, t, M => by
    show blockK id (execK call N c t M) = _
    rw [execK_eq N c]
    simp only [exec, blockK]
    rcases exec call N c t M with _ | ⟨x, t', M'⟩
    · rfl
    · cases x with
      | normal => rfl
      | ret => rfl
      | exit id' =>
        simp only
        cases h : Nat.beq id' id with
        | true => rw [if_pos (Nat.eq_of_beq_eq_true h)]
        | false => rw [if_neg (Nat.ne_of_beq_eq_false h)]
  | .loop c, t, M => by
    show iterK (execK call N c) N t M = _
    have ih : execK call N c = exec call N c := by funext t M; exact execK_eq N c t M
    rw [ih, iterK_eq]; rfl
  | .exit id, t, M => rfl
  | .ret, t, M => rfl
  | .fail, _, _ => rfl
end
def finK (res : List PRes) : Option (PEx × Tr AV × AMem) → Option (AV × AMem)
  | some (.exit _, _, _) => none
  | some (_, t, M') => match resIs t M' res with
    | some vs => some (resV vs, M')
    | none => none
  | none => none
noncomputable def callFK (tbl : FuncId → List AV → AMem → Option (AV × AMem)) (code : FuncId → Option PFn) (N : Nat) : Nat → FuncId → List AV → AMem → Option (AV × AMem)
  | 0, _, _, _ => none
  | d + 1, f, args, M => match tbl f args M with
    | some q => some q
    | none => match code f with
      | none => none
      | some fn => if args.length ≤ fn.n then finK fn.res (execK (callFK tbl code N d) N fn.body (setArgs fn.base 0 args) M) else none
theorem callFK_eq (tbl : FuncId → List AV → AMem → Option (AV × AMem)) (code : FuncId → Option PFn) (N : Nat) : ∀ (d : Nat) (f : FuncId) (args : List AV) (M : AMem), callFK tbl code N d f args M = callF tbl code N d f args M
  | 0, _, _, _ => rfl
  | d + 1, f, args, M => by
    simp only [callFK, callF, stepF]
    cases tbl f args M with
    | some r => rfl
    | none =>
      simp only
      cases code f with
      | none => rfl
      | some fn =>
        simp only
        split
        · have : callFK tbl code N d = callF tbl code N d := by funext f a M; exact callFK_eq tbl code N d f a M
          rw [this, execK_eq]
          rcases exec (callF tbl code N d) N fn.body (setArgs fn.base 0 args) M with _ | ⟨x, t', M'⟩
          · rfl
          · cases x <;> rfl
        · rfl
theorem of_callFK {tbl : FuncId → List AV → AMem → Option (AV × AMem)} {code : FuncId → Option PFn} {N d : Nat} {f : FuncId} {args : List AV} {M : AMem} {r : AV} (h : (callFK tbl code N d f args M).map (·.1) = some r) : (callF tbl code N d f args M).map (·.1) = some r := by
  rw [← callFK_eq]; exact h
end Go.Vx
