/- The instructions of our small machine, what they come to, and how they are made of the model's operations. -/
import Derived.Test.YtpbejdlpkpehlaaVx2
namespace Go.Vx

/-- An instruction; its operands stand beside it. -/
inductive PI where
  | move
  | pick
  | not
  | bin (op : BinOp)
  | eqBool (neg : Bool)
  | eqPtr (neg : Bool)
  | eqNil (kind : Nat) (neg : Bool)
  | eqStruct (fs : List (Nat × Nat)) (neg : Bool)
  | conv (k : IntKind)
  | mkIface (t : TypeId)
  | mkFunc (fn : Fn) (n : Nat)
  | fieldAddr (off : Nat)
  | field (off n : Nat) (agg : Bool)
  | indexAddrS (sz : Nat)
  | indexAddrA (len sz : Nat)
  | indexStr
  | indexArr (len sz : Nat) (agg : Bool)
  | slice (sz : Nat) (lo hi mx : Bool)
  | slicePA (n sz : Nat) (lo hi mx : Bool)
  | sliceStr (lo hi : Bool)
  | extract (i : Nat)
  | nilCheck
  | build (zero : List AV) (pl : List (Nat × Nat))
  | lenS
  | lenStr
  | minmax (isMax : Bool)
  | assertC (t : TypeId) (ok : Bool) (zero : AV)
  | load (agg : Bool) (n : Nat)
  | new (cs : List AV)
  | box
  | sliceLit (len : Nat) (zero : List AV) (pl : List (Nat × Nat))
  | store (n : Nat)
  | append (sz bytes : Nat)
  | copy (sz : Nat)
  | makeSlice (sz bytes : Nat) (zero : List AV)
  | callF (f : FuncId)
  | callV
  | invoke (tbl : List (TypeId × FuncId)) (via : List (TypeId × FuncId × Bool × Nat))
  | makeMap
  | lookup (tag : Nat) (ok : Bool) (zero : AV)
  | mapUpdate (tag : Nat)
  | delete (tag : Nat)
  | lenM
  | clear (sz : Nat) (zero : List AV)
  | invokeP (tbl : List (TypeId × FuncId)) (via : List (TypeId × FuncId × Bool × Nat)) (promo : List (TypeId × FuncId × Nat × Nat × Bool))
  | bytesStr
  | unI (neg : Bool)

/-- What an instruction comes to: a value, or a call. -/
inductive SR where
  | val (v : AV) (M : AMem)
  | call (f : FuncId) (args : List AV)

/-- a number as its kind has it -/
def wrapF (k : IntKind) (n : Int) : Int :=
  match k with
  | .i64 => let m := n % 18446744073709551616; if m ≥ 9223372036854775808 then m - 18446744073709551616 else m
  | .u64 => n % 18446744073709551616
  | .i32 => let m := n % 4294967296; if m ≥ 2147483648 then m - 4294967296 else m
  | .u32 => n % 4294967296
  | .i16 => let m := n % 65536; if m ≥ 32768 then m - 65536 else m
  | .u16 => n % 65536
  | .i8 => let m := n % 256; if m ≥ 128 then m - 256 else m
  | .u8 => n % 256
theorem wrapF_eq (k : IntKind) (n : Int) : k.wrap n = wrapF k n := by
  cases k <;> simp [IntKind.wrap, wrapF, IntKind.bits, IntKind.signed]

def intI (op : BinOp) (k : IntKind) (a b : Int) : Option AV :=
  match op with
  | .add => some (.int k (wrapF k (a + b)))
  | .sub => some (.int k (wrapF k (a - b)))
  | .mul => some (.int k (wrapF k (a * b)))
  | .quo => if b = 0 then none else some (.int k (wrapF k (a.tdiv b)))
  | .rem => if b = 0 then none else some (.int k (a.tmod b))
  | .and => some (.int k (wrapF k (BitVec.ofInt k.bits a &&& BitVec.ofInt k.bits b).toNat))
  | .or => some (.int k (wrapF k (BitVec.ofInt k.bits a ||| BitVec.ofInt k.bits b).toNat))
  | .xor => some (.int k (wrapF k (BitVec.ofInt k.bits a ^^^ BitVec.ofInt k.bits b).toNat))
  | .andNot => some (.int k (wrapF k (BitVec.ofInt k.bits a &&& ~~~ BitVec.ofInt k.bits b).toNat))
  | .eql => some (.bool (a == b))
  | .neq => some (.bool (a != b))
  | .lss => some (.bool (decide (a < b)))
  | .leq => some (.bool (decide (a ≤ b)))
  | .gtr => some (.bool (decide (a > b)))
  | .geq => some (.bool (decide (a ≥ b)))
  | .shl | .shr => none
/-- a number of which no more is known than bounds -/
def viewI : AV → Option (IntKind × SE × Int × Int)
  | .int k n => some (k, .lit n, n, n)
  | .oint k x lo hi => some (k, x, lo, hi)
  | _ => none
def minK : IntKind → Int
  | .i8 => -128 | .i16 => -32768 | .i32 => -2147483648 | .i64 => -9223372036854775808 | _ => 0
def maxK : IntKind → Int
  | .i8 => 127 | .i16 => 32767 | .i32 => 2147483647 | .i64 => 9223372036854775807 | .u8 => 255 | .u16 => 65535 | .u32 => 4294967295 | .u64 => 18446744073709551615
def okO (k : IntKind) (n : SE) (lo hi : Int) : Option AV := if minK k ≤ lo ∧ hi ≤ maxK k then some (.oint k n lo hi) else none
def cmpO (yes no : Bool) : Option AV := if yes then some (.bool true) else if no then some (.bool false) else none
def binO (op : BinOp) (k : IntKind) (a : SE) (la ha : Int) (b : SE) (lb hb : Int) : Option AV :=
  match op with
  | .add => okO k (.add a b) (la + lb) (ha + hb)
  | .sub => okO k (.sub a b) (la - hb) (ha - lb)
  | .mul => if 0 ≤ la ∧ 0 ≤ lb then okO k (.mul a b) (la * lb) (ha * hb) else none
  | .lss => cmpO (decide (ha < lb)) (decide (hb ≤ la))
  | .leq => cmpO (decide (ha ≤ lb)) (decide (hb < la))
  | .gtr => cmpO (decide (hb < la)) (decide (ha ≤ lb))
  | .geq => cmpO (decide (hb ≤ la)) (decide (ha < lb))
  | .eql => cmpO (decide (la = ha ∧ lb = hb ∧ la = lb)) (decide (ha < lb ∨ hb < la))
  | .neq => cmpO (decide (ha < lb ∨ hb < la)) (decide (la = ha ∧ lb = hb ∧ la = lb))
  | _ => none
def binI (op : BinOp) : AV → AV → Option AV
  | .int k a, .int k' b =>
    match op with
    | .shl => if b < 0 then none else some (.int k (wrapF k (a * 2 ^ min b.toNat k.bits)))
    | .shr => if b < 0 then none else some (.int k (a.fdiv (2 ^ min b.toNat k.bits)))
    | op => if k = k' then intI op k a b else none
  | .str a, .str b =>
    match op with
    | .add => if ((a.size + b.size : Nat) : Int) > IntKind.i64.max then none else some (.str (a ++ b))
    | .eql => some (.bool (a.toList == b.toList))
    | .neq => some (.bool (!(a.toList == b.toList)))
    | _ => none
  | a, b => match viewI a, viewI b with
    | some (k, n, lo, hi), some (k', m, lo', hi') => if k = k' then binO op k n lo hi m lo' hi' else none
    | _, _ => none

def xorB (neg : Bool) (b : Bool) : Bool := if neg then !b else b
def eqPtrI : AV → AV → Option Bool
  | .ptr none, .ptr b => some b.isNone
  | .ptr (some _), .ptr none => some false
  | .ptr (some a), .ptr (some b) => if a.1 = b.1 then some (a.2 == b.2) else none
  | _, _ => none
/-- one of both is nil -/
def eqNilI : Nat → AV → AV → Option Bool
  | 0, .slice none _ _ _, .slice b _ _ _ => some b.isNone
  | 0, .slice (some _) _ _ _, .slice none _ _ _ => some false
  | 0, .rslice none _ _, .slice none _ _ _ => some true
  | 0, .tail _ _ _, .slice none _ _ _ => some false
  | 0, .rslice (some _) _ _, .slice none _ _ _ => some false
  | 1, .map none, .map b => some b.isNone
  | 1, .map (some _), .map none => some false
  | 2, .nilFunc, .nilFunc => some true
  | 2, .func _ _ _, .nilFunc => some false
  | 2, .nilFunc, .func _ _ _ => some false
  | 3, .nilIface, .nilIface => some true
  | 3, .iface _ _, .nilIface => some false
  | 3, .nilIface, .iface _ _ => some false
  | _, _, _ => none

/-- parts laid into cells -/
def fillA : List AV → List (Nat × Nat) → List AV → Option (List AV)
  | cs, [], [] => some cs
  | cs, (off, sz) :: pl, v :: vs => if v.cells.length = sz ∧ off + sz ≤ cs.length then fillA (splice cs off v.cells) pl vs else none
  | _, _, _ => none

def partA (agg : Bool) (cs : List AV) (off n : Nat) : Option AV :=
  if agg then if off + n ≤ cs.length then some (.agg ((cs.drop off).take n)) else none else cs[off]?

/-- an operand that may be there -/
def take1 (there : Bool) (l : List AV) : Option (Option AV × List AV) :=
  if there then match l with
    | v :: r => some (some v, r)
    | [] => none
  else some (none, l)
def take3 (lo hi mx : Bool) (l : List AV) : Option (Option AV × Option AV × Option AV) :=
  match take1 lo l with
  | none => none
  | some (a, l) => match take1 hi l with
    | none => none
    | some (b, l) => match take1 mx l with
      | some (c, []) => some (a, b, c)
      | _ => none
def bnd (v : AV) (y : Nat) : Option Nat :=
  match v with
  | .int _ i => if 0 ≤ i ∧ i ≤ y then some i.toNat else none
  | _ => none
/-- a slice expression's bounds: low, high, max -/
def boundsI (len cap : Nat) (lo hi mx : Option AV) : Option (Nat × Nat × Nat) :=
  match (match mx with
    | some v => bnd v cap
    | none => some cap) with
  | none => none
  | some m => match (match hi with
      | some v => bnd v m
      | none => if mx.isSome then none else some len) with
    | none => none
    | some h => match (match lo with
        | some v => bnd v h
        | none => some 0) with
      | none => none
      | some l => some (l, h, m)
/-- an empty slice at a block's end: where it lies is not told -/
def AMem.alias (M : AMem) (b : Nat) (cs : List AV) (sz : Nat) (wr : Bool) (g : Option Nat) : AMem :=
  let g := g.getD b
  (M.set b (.cells cs sz wr (some g))).push (.cells [] sz wr (some g))
def sliceI (M : AMem) (sz : Nat) (x : AV) (lo hi mx : Option AV) : Option (AV × AMem) :=
  match x with
  | .slice a len cap gr => match (if len ≤ cap then boundsI len cap lo hi mx else none) with
    | none => none
    | some (l, h, m) => match a with
      | none => some (.slice none (h - l) (m - l) false, M)
      | some (b, o) =>
        if gr = true ∧ mx.isNone = true then
          if l < cap then some (.slice (some (b, o + l * sz)) (h - l) (m - l) true, M)
          else if l = cap ∧ h = l then some (.tail b o (l * sz), M)
          else none
        else some (.slice (some (b, if m = l then o else o + l * sz)) (h - l) (m - l) false, M)
  | .rslice a len cap => match (if len ≤ cap then boundsI len cap lo hi mx else none) with
    | none => none
    | some (l, h, m) => some (.rslice (if m = l then a else a.map (·.add (l * sz))) (h - l) (m - l), M)
  | .tail b o adv => match mx, boundsI 0 0 lo hi mx with
    | none, some (0, 0, _) => some (.tail b o adv, M)
    | _, _ => none
  | _ => none

/-- what stands in a slice -/
def AMem.sliceCells (M : AMem) (sz : Nat) : AV → Option (Nat × List AV)
  | .slice none 0 _ _ => some (0, [])
  | .slice (some (b, o)) n _ _ => match M.loadCells b o (n * sz) with
    | some l => some (n, l)
    | none => none
  | .rslice none 0 _ => some (0, [])
  | .tail _ _ _ => some (0, [])
  | .rslice (some a) n _ => match M.loadG a (n * sz) with
    | some l => some (n, l)
    | none => none
  | _ => none
/-- the bytes of a row -/
def bytesL : List AV → Option (List UInt8)
  | [] => some []
  | .int .u8 n :: l => match bytesL l with
    | some r => some (UInt8.ofNat n.toNat :: r)
    | none => none
  | _ => none
/-- a block that grew out of another one, and may lie where that one lies -/
def AMem.grow (M : AMem) (b : Nat) (cs : List AV) (sz : Nat) (g : Option Nat) (new : List AV) : AMem :=
  let g := g.getD b
  ((M.kill g b).set b (.cells cs sz true (some g))).push (.cells new sz true (some g))
def AMem.append0 (M : AMem) (sz bytes : Nat) (s : AV) (m : Nat) (new : List AV) : Option (AV × AMem) :=
  match s with
  | .slice none 0 0 _ =>
    if m = 0 then some (s, M)
    else if m * bytes ≤ 70368744177664 ∧ m ≤ 4611686018427387904 ∧ new.length = m * sz then
      some (.slice (some (M.n, 0)) m m true, M.push (.cells new sz true none))
    else none
  | .slice (some (b, o)) len cap gr =>
    if len + m ≤ cap then
      match M.storeCells b (o + len * sz) new with
      | some M' => some (.slice (some (b, o)) (len + m) cap gr, M')
      | none => none
    else if (len + m) * bytes ≤ 70368744177664 ∧ len + m ≤ 4611686018427387904 ∧ new.length = m * sz then
      match M.get b with
      | some (.cells cs sz' wr g) =>
        if o + len * sz ≤ cs.length then
          let all := (cs.drop o).take (len * sz) ++ new
          if gr then
            if wr = true ∧ len = cap ∧ cs.length = o + cap * sz ∧ sz' = sz ∧ new.all AV.one = true then
              some (.slice (some (M.n, 0)) (len + m) (len + m) true, M.grow b cs sz g all)
            else none
          else some (.slice (some (M.n, 0)) (len + m) (len + m) true, M.push (.cells all sz true none))
        else none
      | _ => none
    else none
  | .rslice _ 0 0 =>
    if m = 0 then some (s, M)
    else if m * bytes ≤ 70368744177664 ∧ m ≤ 4611686018427387904 ∧ new.length = m * sz then
      some (.slice (some (M.n, 0)) m m true, M.push (.cells new sz true none))
    else none
  | _ => none
def AMem.append (M : AMem) (sz bytes : Nat) (s : AV) (m : Nat) (new : List AV) : Option (AV × AMem) :=
  match s with
  | .tail b o adv =>
    if m = 0 then some (s, M) else match M.get b with
      | some (.cells cs sz' wr g) => if sz' = sz ∧ o + adv ≤ cs.length then (M.alias b cs sz wr g).append0 sz bytes (.slice (some (M.n, 0)) 0 0 true) m new else none
      | _ => none
  | s => M.append0 sz bytes s m new
/-- are two parts of a struct the same? -/
def eqScalar : Nat → AV → AV → Option Bool
  | 0, .int k a, .int l b => if k = l then some (a == b) else none
  | 1, .bool a, .bool b => some (a == b)
  | 2, .str a, .str b => some (a.toList == b.toList)
  | _, _, _ => none
def eqParts : List (Nat × Nat) → List AV → List AV → Option Bool
  | [], _, _ => some true
  | (o, tag) :: os, xs, ys => match xs[o]?, ys[o]? with
    | some x, some y => match eqScalar tag x y with
      | some true => eqParts os xs ys
      | some false => some false
      | none => none
    | _, _ => none
/-- a map's entry by its key: its place and value -/
def findK (tag : Nat) (k : AV) : List (AV × AV) → Nat → Option (Option (Nat × AV))
  | [], _ => some none
  | (x, v) :: es, i => match eqScalar tag k x with
    | some true => some (some (i, v))
    | some false => findK tag k es (i + 1)
    | none => none
def AMem.entries (M : AMem) (b : Nat) : Option (List (AV × AV)) :=
  match M.get b with
  | some (.map es) => some es
  | _ => none
def resL (ok : Bool) (v : AV) (b : Bool) : AV := if ok then .tuple [v, .bool b] else v
def lookupI (M : AMem) (tag : Nat) (ok : Bool) (z m k : AV) : Option AV :=
  match m with
  | .map none => some (resL ok z false)
  | .map (some b) => match M.entries b with
    | some es => match findK tag k es 0 with
      | some (some (_, v)) => some (resL ok v true)
      | some none => some (resL ok z false)
      | none => none
    | none => none
  | _ => none
def updateI (M : AMem) (tag : Nat) (m k v : AV) : Option AMem :=
  match m with
  | .map (some b) => match M.entries b with
    | some es => match findK tag k es 0 with
      | some (some (i, _)) => some (M.set b (.map (es.set i (k, v))))
      | some none => some (M.set b (.map (es ++ [(k, v)])))
      | none => none
    | none => none
  | _ => none
def deleteI (M : AMem) (tag : Nat) (m k : AV) : Option AMem :=
  match m with
  | .map none => some M
  | .map (some b) => match M.entries b with
    | some es => match findK tag k es 0 with
      | some (some (i, _)) => some (M.set b (.map (es.eraseIdx i)))
      | some none => some (M.set b (.map es))
      | none => none
    | none => none
  | _ => none
def lenI (M : AMem) (m : AV) : Option AV :=
  match m with
  | .map none => some (.int .i64 0)
  | .map (some b) => match M.entries b with
    | some es => some (.int .i64 es.length)
    | none => none
  | _ => none
/-- what a pointer leads to -/
def viaI (M : AMem) (agg : Bool) (n : Nat) (v : AV) : Option AV :=
  match v with
  | .ptr (some (b, o)) => if agg then match M.loadCells b o n with
      | some cs => some (.agg cs)
      | none => none
    else match M.loadCells b o 1 with
      | some [u] => some u
      | _ => none
  | _ => none
def invokeI (M : AMem) (tbl : List (TypeId × FuncId)) (via : List (TypeId × FuncId × Bool × Nat)) (t : TypeId) (v : AV) (vs : List AV) : Option SR :=
  match tbl.lookup t with
  | some f => some (.call f (v :: vs))
  | none => match via.lookup t with
    | some (f, agg, n) => match viaI M agg n v with
      | some u => some (.call f (u :: vs))
      | none => none
    | none => none
/-- a method of a part, at the part -/
def promoI (off n : Nat) (agg : Bool) (v : AV) : Option AV :=
  match v with
  | .agg cs => partA agg cs off n
  | _ => none
def opI (p : PI) (args : List AV) (M : AMem) : Option SR :=
  match p, args with
  | .move, [v] => some (.val v M)
  | .pick, [.bool c, a, b] => some (.val (if c then a else b) M)
  | .not, [.bool b] => some (.val (.bool (!b)) M)
  | .bin op, [a, b] => match binI op a b with
    | some v => some (.val v M)
    | none => none
  | .eqBool neg, [.bool a, .bool b] => some (.val (.bool (xorB neg (a == b))) M)
  | .eqPtr neg, [a, b] => match eqPtrI a b with
    | some r => some (.val (.bool (xorB neg r)) M)
    | none => none
  | .eqNil kind neg, [a, b] => match eqNilI kind a b with
    | some r => some (.val (.bool (xorB neg r)) M)
    | none => none
  | .eqStruct fs neg, [.agg a, .agg b] => match eqParts fs a b with
    | some r => some (.val (.bool (xorB neg r)) M)
    | none => none
  | .bytesStr, [v] => match M.sliceCells 1 v with
    | some (_, cs) => match bytesL cs with
      | some l => some (.val (.str ⟨l.toArray⟩) M)
      | none => none
    | none => none
  | .unI neg, [.int k n] => match (if neg then intI .sub k 0 n else intI .xor k (if k.signed then -1 else k.max) n) with
    | some v => some (.val v M)
    | none => none
  | .conv k, [.int _ n] => some (.val (.int k (wrapF k n)) M)
  | .conv k, [.oint _ n lo hi] => if minK k ≤ lo ∧ hi ≤ maxK k then some (.val (.oint k n lo hi) M) else none
  | .mkIface t, [v] => some (.val (.iface t v) M)
  | .mkFunc fn n, vs => some (.val (.func fn (vs.take n) (vs.drop n)) M)
  | .fieldAddr off, [.ptr (some (b, o))] => some (.val (.ptr (some (b, o + off))) M)
  | .field off n agg, [.agg cs] => match partA agg cs off n with
    | some v => some (.val v M)
    | none => none
  | .indexAddrS sz, [.slice (some (b, o)) len _ _, .int _ i] => if 0 ≤ i ∧ i < len then some (.val (.ptr (some (b, o + i.toNat * sz))) M) else none
  | .indexAddrS sz, [.rslice (some a) len _, .int _ i] => if 0 ≤ i ∧ i < len then some (.val (.rptr (some (a.add (i.toNat * sz)))) M) else none
  | .fieldAddr off, [.rptr (some a)] => some (.val (.rptr (some (a.add off))) M)
  | .indexAddrA len sz, [.ptr (some (b, o)), .int _ i] => if 0 ≤ i ∧ i < len then some (.val (.ptr (some (b, o + i.toNat * sz))) M) else none
  | .indexAddrA len sz, [.rptr (some a), .int _ i] => if 0 ≤ i ∧ i < len then some (.val (.rptr (some (a.add (i.toNat * sz)))) M) else none
  | .indexStr, [.str s, .int _ i] => if 0 ≤ i then match s[i.toNat]? with
      | some c => some (.val (.int .u8 c.toNat) M)
      | none => none
    else none
  | .indexArr len sz agg, [.agg cs, .int _ i] => if 0 ≤ i ∧ i < len then match partA agg cs (i.toNat * sz) sz with
      | some v => some (.val v M)
      | none => none
    else none
  | .slice sz lo hi mx, x :: l => match take3 lo hi mx l with
    | some (lo, hi, mx) => match sliceI M sz x lo hi mx with
      | some (v, M') => some (.val v M')
      | none => none
    | none => none
  | .slicePA n sz lo hi mx, .ptr (some (b, o)) :: l => match take3 lo hi mx l with
    | some (lo, hi, mx) => match boundsI n n lo hi mx with
      | some (l, h, m) => some (.val (.slice (some (b, if m = l then o else o + l * sz)) (h - l) (m - l) false) M)
      | none => none
    | none => none
  | .sliceStr lo hi, .str s :: l => match take3 lo hi false l with
    | some (lo, hi, mx) => match boundsI s.size s.size lo hi mx with
      | some (l, h, _) => some (.val (.str (s.extract l h)) M)
      | none => none
    | none => none
  | .extract i, [.tuple vs] => match vs[i]? with
    | some v => some (.val v M)
    | none => none
  | .nilCheck, [v] => match v with
    | .ptr (some _) | .func (.func _) _ _ | .slice _ _ _ _ | .map _ => some (.val v M)
    | _ => none
  | .build zero pl, vs => match fillA zero pl vs with
    | some cs => some (.val (.agg cs) M)
    | none => none
  | .lenS, [v] => match v with
    | .slice _ n _ _ => some (.val (.int .i64 n) M)
    | .rslice _ n _ => some (.val (.int .i64 n) M)
    | .oslice i lo hi => some (.val (.oint .i64 (.len i) lo hi) M)
    | .tail _ _ _ => some (.val (.int .i64 0) M)
    | _ => none
  | .makeMap, [] => some (.val (.map (some M.n)) (M.push (.map [])))
  | .lookup tag ok z, [m, k] => match lookupI M tag ok z m k with
    | some r => some (.val r M)
    | none => none
  | .mapUpdate tag, [m, k, v] => match updateI M tag m k v with
    | some M' => some (.val (.tuple []) M')
    | none => none
  | .delete tag, [m, k] => match deleteI M tag m k with
    | some M' => some (.val (.tuple []) M')
    | none => none
  | .lenM, [m] => match lenI M m with
    | some r => some (.val r M)
    | none => none
  | .lenStr, [.str s] => some (.val (.int .i64 s.size) M)
  | .lenStr, [.ostr i lo hi] => some (.val (.oint .i64 (.len i) lo hi) M)
  | .minmax isMax, [.int k x, .int _ y] => some (.val (.int k (if isMax then (if y > x then y else x) else (if y < x then y else x))) M)
  | .assertC t ok zero, [v] => match v with
    | .iface u x => if u = t then some (.val (if ok then .tuple [x, .bool true] else x) M) else if ok then some (.val (.tuple [zero, .bool false]) M) else none
    | .nilIface => if ok then some (.val (.tuple [zero, .bool false]) M) else none
    | _ => none
  | .load agg n, [.ptr (some (b, o))] =>
    if agg then match M.loadCells b o n with
      | some cs => some (.val (.agg cs) M)
      | none => none
    else match M.loadCells b o 1 with
      | some [v] => some (.val v M)
      | _ => none
  | .load agg n, [.rptr (some p)] =>
    if agg then match M.loadG p n with
      | some cs => some (.val (.agg cs) M)
      | none => none
    else match M.loadG p 1 with
      | some [v] => some (.val v M)
      | _ => none
  | .new cs, [] => some (.val (.ptr (some (M.n, 0))) (M.push (.cells cs 0 true none)))
  | .box, [v] => some (.val (.ptr (some (M.n, 0))) (M.push (.cells v.cells 0 true none)))
  | .sliceLit len zero pl, vs => match fillA zero pl vs with
    | some cs => some (.val (.slice (some (M.n, 0)) len len false) (M.push (.cells cs 0 true none)))
    | none => none
  | .store n, [.ptr (some (b, o)), v] => if v.cells.length = n then match M.storeCells b o v.cells with
      | some M' => some (.val (.tuple []) M')
      | none => none
    else none
  | .append sz bytes, [s, x] => match M.sliceCells sz x with
    | some (m, new) => match M.append sz bytes s m new with
      | some (v, M') => some (.val v M')
      | none => none
    | none => none
  | .copy sz, [d, x] => match d, M.sliceCells sz x with
    | .slice none 0 _ _, some _ => some (.val (.int .i64 0) M)
    | .slice (some (b, o)) n _ _, some (m, l) => match M.storeCells b o (l.take (Nat.min m n * sz)) with
      | some M' => some (.val (.int .i64 (Nat.min m n : Nat)) M')
      | none => none
    | _, _ => none
  | .makeSlice sz bytes zero, [.int _ l, .int _ c] =>
    if 0 ≤ l ∧ l ≤ c ∧ c * bytes ≤ 4294967296 ∧ c ≤ 4294967296 then
      some (.val (.slice (some (M.n, 0)) l.toNat c.toNat false) (M.push (.cells ((List.range (c.toNat * sz)).map fun i => zero.getD (i % sz) (.tuple [])) sz true none)))
    else none
  | .callF f, vs => some (.call f vs)
  | .callV, .func (.func f) first captured :: vs => some (.call f (first ++ vs ++ captured))
  | .invoke tbl via, .iface t v :: vs => invokeI M tbl via t v vs
  | .invokeP tbl via promo, .iface t v :: vs => match promo.lookup t with
    | some (f, off, n, agg) => match promoI off n agg v with
      | some u => some (.call f (u :: vs))
      | none => none
    | none => invokeI M tbl via t v vs
  | .clear sz zero, [x] => match x with
    | .slice none _ _ _ => some (.val (.tuple []) M)
    | .slice (some _) 0 _ _ => some (.val (.tuple []) M)
    | .slice (some (b, o)) n _ _ => match M.storeCells b o ((List.range (n * sz)).map fun i => zero.getD (i % sz) (.tuple [])) with
      | some M' => some (.val (.tuple []) M')
      | none => none
    | _ => none
  | _, _ => none

/-! The model's constants, and its operations, as ours. -/
def ofV0 : Value → Option AV
  | .bool b => some (.bool b)
  | .int k n => some (.int k n)
  | .string s => some (.str s)
  | .pointer none => some (.ptr none)
  | .slice none l c => some (.slice none l c false)
  | .map none => some (.map none)
  | .nilFunc => some .nilFunc
  | .nilIface => some .nilIface
  | _ => none
def ofVs : List Value → Option (List AV)
  | [] => some []
  | v :: vs => match ofV0 v, ofVs vs with
    | some a, some b => some (a :: b)
    | _, _ => none
def ofV (v : Value) : Option AV :=
  match v with
  | .agg cs => match ofVs cs.toList with
    | some l => some (.agg l)
    | none => none
  | .tuple cs => match ofVs cs.toList with
    | some l => some (.tuple l)
    | none => none
  | .func (.func f) a b => match ofVs a.toList, ofVs b.toList with
    | some l, some m => some (.func (.func f) l m)
    | _, _ => none
  | .iface t x => match ofV0 x with
    | some a => some (.iface t a)
    | none => none
  | v => ofV0 v
theorem ofV0_conc [Val] (e : Env) {v : Value} {a : AV} (h : ofV0 v = some a) : conc e a = some v := by
  cases v with
  | pointer p => cases p <;> simp [ofV0] at h; subst h; simp [conc]
  | slice p l c => cases p <;> simp [ofV0] at h; subst h; simp [conc]
  | map p => cases p <;> simp [ofV0] at h; subst h; simp [conc]
  | _ => simp [ofV0] at h <;> (subst h; simp [conc])
theorem ofVs_conc [Val] (e : Env) : ∀ {v : List Value} {a : List AV}, ofVs v = some a → concs e a = some v
  | [], _, h => by simp [ofVs] at h; subst h; simp [concs]
  | v :: vs, _, h => by
    simp only [ofVs] at h
    cases h1 : ofV0 v with
    | none => simp [h1] at h
    | some a =>
      cases h2 : ofVs vs with
      | none => simp [h1, h2] at h
      | some b => simp [h1, h2] at h; subst h; exact concs_mk (ofV0_conc e h1) (ofVs_conc e h2)
theorem ofV_conc [Val] (e : Env) {v : Value} {a : AV} (h : ofV v = some a) : conc e a = some v := by
  unfold ofV at h
  split at h
  · split at h
    · cases h; rename_i cs l hl; simp [conc, ofVs_conc e hl]
    · cases h
  · split at h
    · cases h; rename_i cs l hl; simp [conc, ofVs_conc e hl]
    · cases h
  · split at h
    · cases h; rename_i h1 h2; simp [conc, ofVs_conc e h1, ofVs_conc e h2]
    · cases h
  · split at h
    · cases h; rename_i hl; simp [conc, ofV0_conc e hl]
    · cases h
  · exact ofV0_conc e h

def isAggD : TypeDesc → Bool
  | .struct _ | .array _ _ => true
  | _ => false
/-- the places of a struct's or array's parts -/
def placesOf (P : Program) (t : TypeId) (is : List Nat) : Option (List (Nat × Nat)) :=
  match P.underlying t with
  | some (.struct fields) => match fields.toList.mapM (fun f => (P.info? f.type).map fun i => (f.offset, i.size)) with
    | some places => mapO (fun i => places.toArray[i]?) is
    | none => none
  | some (.array _ el) => match P.info? el with
    | some x => some (is.map fun i => (i * x.size, x.size))
    | none => none
  | _ => none
def zeroOf (P : Program) (t : TypeId) : Option AV :=
  match P.info? t with
  | some i => match i.zero with
    | some z => ofV z
    | none => none
  | none => none
def sizeOfP (P : Program) (t : TypeId) : Option Nat := (P.info? t).map (·.size)
def bytesOfP (P : Program) (t : TypeId) : Option Nat := (P.info? t).map (·.bytes)

/-- a struct's parts, where all are plain: places and kinds -/
def eqFieldsC (P : Program) : List Field → Option (List (Nat × Nat))
  | [] => some []
  | f :: fs =>
    if f.name ≠ "_" then match P.underlying f.type, eqFieldsC P fs with
      | some (.int _), some l => some ((f.offset, 0) :: l)
      | some .bool, some l => some ((f.offset, 1) :: l)
      | some .string, some l => some ((f.offset, 2) :: l)
      | _, _ => none
    else none
def binC (P : Program) (op : BinOp) (t : TypeId) : Option PI :=
  let neg : Bool := match op with | .neq => true | _ => false
  match P.underlying t with
  | some (.int _) | some .string => some (.bin op)
  | some .bool => match op with
    | .eql | .neq => some (.eqBool neg)
    | _ => none
  | some (.pointer el) => match op with
    | .eql | .neq => match sizeOfP P el with
      | some (_ + 1) => some (.eqPtr neg)
      | _ => none
    | _ => none
  | some (.slice _) => match op with
    | .eql | .neq => some (.eqNil 0 neg)
    | _ => none
  | some (.map _ _) => match op with
    | .eql | .neq => some (.eqNil 1 neg)
    | _ => none
  | some (.func _ _ _) => match op with
    | .eql | .neq => some (.eqNil 2 neg)
    | _ => none
  | some (.struct fs) => match op with
    | .eql | .neq => if P.stoodInHeld t || P.eqGuardType P.depth t then none else match eqFieldsC P fs.toList with
      | some l => some (.eqStruct l neg)
      | none => none
    | _ => none
  | _ => none

/-- the functions that a method's name leads to, by the dynamic type -/
def methodsOf (P : Program) (name : String) : Nat → List TypeInfo → List (TypeId × FuncId)
  | _, [] => []
  | t, i :: is =>
    match i.methods.find? (·.name == name) with
    | some m =>
      if m.path.isEmpty then
        match m.func, P.underlying t with
        | some (f, true), some (.pointer _) => (t, f) :: methodsOf P name (t + 1) is
        | some (_, false), some (.pointer _) => methodsOf P name (t + 1) is
        | some (f, false), some _ => (t, f) :: methodsOf P name (t + 1) is
        | _, _ => methodsOf P name (t + 1) is
      else methodsOf P name (t + 1) is
    | none => methodsOf P name (t + 1) is

/-- those that take what the pointer leads to -/
def viaOf (P : Program) (name : String) : Nat → List TypeInfo → List (TypeId × FuncId × Bool × Nat)
  | _, [] => []
  | t, i :: is =>
    match i.methods.find? (·.name == name) with
    | some m =>
      if m.path.isEmpty then
        match m.func, P.underlying t with
        | some (f, false), some (.pointer el) => match P.underlying el, sizeOfP P el with
          | some d, some n => (t, f, isAggD d, n) :: viaOf P name (t + 1) is
          | _, _ => viaOf P name (t + 1) is
        | _, _ => viaOf P name (t + 1) is
      else viaOf P name (t + 1) is
    | none => viaOf P name (t + 1) is
/-- those that are a part's -/
def promoOf (P : Program) (name : String) : Nat → List TypeInfo → List (TypeId × FuncId × Nat × Nat × Bool)
  | _, [] => []
  | t, i :: is =>
    match i.methods.find? (·.name == name) with
    | some m =>
      match m.path.toList, m.func with
      | [s], some (f, false) =>
        if s.deref then promoOf P name (t + 1) is
        else match P.underlying s.struct with
          | some (.struct fields) => match fields[s.index]? with
            | some fd => match sizeOfP P fd.type, P.underlying fd.type with
              | some _, some (.pointer _) => promoOf P name (t + 1) is
              | some n, some d => (t, f, fd.offset, n, isAggD d) :: promoOf P name (t + 1) is
              | _, _ => promoOf P name (t + 1) is
            | none => promoOf P name (t + 1) is
          | _ => promoOf P name (t + 1) is
      | _, _ => promoOf P name (t + 1) is
    | none => promoOf P name (t + 1) is
def isNilC : Operand → Bool
  | .const .nilIface => true
  | _ => false
/-- an interface value and the literal nil -/
def ifaceC (P : Program) (op : BinOp) (t : TypeId) (x y : Operand) : Option PI :=
  match P.underlying t with
  | some (.interface _) => if isNilC x || isNilC y then match op with
      | .eql => some (.eqNil 3 false)
      | .neq => some (.eqNil 3 true)
      | _ => none
    else none
  | _ => none
def hasBody (P : Program) (f : FuncId) : Bool :=
  match P.funcs[f]? with
  | some fn => fn.body.isSome && fn.name != "runtime.NumGoroutine"
  | none => false

/-- a map's keys, where they are plain -/
def tagOf (P : Program) (t : TypeId) : Option Nat :=
  match P.underlying t with
  | some (.int _) => some 0
  | some .bool => some 1
  | some .string => some 2
  | _ => none
def compOp (P : Program) (o : Oper) : Option (PI × List Operand) :=
  match o.op with
  | .move x | .assign x => some (.move, [x])
  | .pick c a b => some (.pick, [c, a, b])
  | .alloc el => match zeroOf P el with
    | some z => some (.new z.cells, [])
    | none => none
  | .box _ x => some (.box, [x])
  | .build t parts => match placesOf P t (parts.toList.map (·.1)), zeroOf P t with
    | some pl, some z => some (.build z.cells pl, parts.toList.map (·.2))
    | _, _ => none
  | .buildSlice t len parts => match P.underlying t with
    | some (.slice el) => match P.info? el with
      | some i => match i.zero with
        | some z =>
          if len * i.size ≤ 16777216 then
            match ofVs ((Array.range (len * i.size)).map (z.cells[· % z.cells.size]!)).toList with
            | some zs => some (.sliceLit len zs (parts.toList.map fun p => (p.1 * i.size, i.size)), parts.toList.map (·.2))
            | none => none
          else none
        | none => none
      | none => none
    | _ => none
  | .load t a => match P.underlying t, sizeOfP P t with
    | some d, some n => some (.load (isAggD d) n, [a])
    | _, _ => none
  | .store t a x => match sizeOfP P t with
    | some n => some (.store n, [a, x])
    | none => none
  | .nilCheck x => some (.nilCheck, [x])
  | .binOp op t x y _ => match binC P op t with
    | some p => some (p, [x, y])
    | none => match ifaceC P op t x y with
      | some p => some (p, [x, y])
      | none => none
  | .unOp .not _ x => some (.not, [x])
  | .unOp .neg _ x => some (.unI true, [x])
  | .unOp .xor _ x => some (.unI false, [x])
  | .convert s d x => match P.underlying s, P.underlying d with
    | some _, some (.int k) => some (.conv k, [x])
    | some (.slice e), some .string => match P.underlying e with
      | some (.int .u8) => some (.bytesStr, [x])
      | _ => none
    | _, _ => none
  | .makeInterface t x => match P.underlying t with
    | some (.interface _) => none
    | some _ => some (.mkIface t, [x])
    | none => none
  | .makeFunc fn first captured => some (.mkFunc fn first.size, first.toList ++ captured.toList)
  | .makeSlice t l c => match P.underlying t with
    | some (.slice el) => match sizeOfP P el, bytesOfP P el, zeroOf P el with
      | some n, some b, some z => if z.cells.length = n then some (.makeSlice n b z.cells, [l, c]) else none
      | _, _, _ => none
    | _ => none
  | .slice t x lo hi mx => match P.underlying t with
    | some (.slice el) => match sizeOfP P el with
      | some n => some (.slice n lo.isSome hi.isSome mx.isSome, [x] ++ lo.toList ++ hi.toList ++ mx.toList)
      | none => none
    | some (.array n el) => match sizeOfP P el with
      | some k => some (.slicePA n k lo.isSome hi.isSome mx.isSome, [x] ++ lo.toList ++ hi.toList ++ mx.toList)
      | none => none
    | some .string => if mx.isSome then none else some (.sliceStr lo.isSome hi.isSome, [x] ++ lo.toList ++ hi.toList)
    | _ => none
  | .fieldAddr t x f => match P.underlying t with
    | some (.struct fields) => match fields[f]? with
      | some fd => match sizeOfP P fd.type with
        | some (_ + 1) => some (.fieldAddr fd.offset, [x])
        | _ => none
      | none => none
    | _ => none
  | .field t x f => match P.underlying t with
    | some (.struct fields) => match fields[f]? with
      | some fd => match sizeOfP P fd.type, P.underlying fd.type with
        | some n, some d => some (.field fd.offset n (isAggD d), [x])
        | _, _ => none
      | none => none
    | _ => none
  | .indexAddr t x i => match P.underlying t with
    | some (.slice el) => match sizeOfP P el with
      | some n => some (.indexAddrS n, [x, i])
      | none => none
    | some (.array len el) => match sizeOfP P el with
      | some n => some (.indexAddrA len n, [x, i])
      | none => none
    | _ => none
  | .index t x i => match P.underlying t with
    | some .string => some (.indexStr, [x, i])
    | some (.array len el) => match sizeOfP P el, P.underlying el with
      | some n, some d => some (.indexArr len n (isAggD d), [x, i])
      | _, _ => none
    | _ => none
  | .extract t i => some (.extract i, [t])
  | .typeAssert x _ asserted ok => match P.underlying asserted with
    | some (.interface _) => none
    | some _ => match zeroOf P asserted with
      | some z => some (.assertC asserted ok z, [x])
      | none => none
    | none => none
  | .makeMap _ none => some (.makeMap, [])
  | .lookup t x ix ok => match P.underlying t with
    | some (.map kt el) => match tagOf P kt, zeroOf P el with
      | some tag, some z => some (.lookup tag ok z, [x, ix])
      | _, _ => none
    | _ => none
  | .mapUpdate t m k x => match P.underlying t with
    | some (.map kt _) => match tagOf P kt with
      | some tag => some (.mapUpdate tag, [m, k, x])
      | none => none
    | _ => none
  | .insert t m k x => match P.underlying t with
    | some (.map kt _) => match tagOf P kt with
      | some tag => some (.mapUpdate tag, [m, k, x])
      | none => none
    | _ => none
  | .call c =>
    match c.callee with
    | .builtin .delete => match c.argTypes[0]? with
      | some t => match P.underlying t with
        | some (.map kt _) => match tagOf P kt with
          | some tag => some (.delete tag, c.args.toList)
          | none => none
        | _ => none
      | none => none
    | .value (.func f) => if hasBody P f then some (.callF f, c.args.toList) else none
    | .value x => some (.callV, x :: c.args.toList)
    | .builtin .clear => match c.argTypes[0]? with
      | some t => match P.underlying t with
        | some (.slice el) => match sizeOfP P el, zeroOf P el with
          | some n, some z => if z.cells.length = n then some (.clear n z.cells, c.args.toList) else none
          | _, _ => none
        | _ => none
      | none => none
    | .invoke x name => if ((promoOf P name 0 P.types.toList).filter fun p => hasBody P p.2.1).isEmpty then some (.invoke ((methodsOf P name 0 P.types.toList).filter fun p => hasBody P p.2) ((viaOf P name 0 P.types.toList).filter fun p => hasBody P p.2.1), x :: c.args.toList)
      else some (.invokeP ((methodsOf P name 0 P.types.toList).filter fun p => hasBody P p.2) ((viaOf P name 0 P.types.toList).filter fun p => hasBody P p.2.1) ((promoOf P name 0 P.types.toList).filter fun p => hasBody P p.2.1), x :: c.args.toList)
    | .builtin .len => match c.argTypes[0]? with
      | some t => match P.underlying t with
        | some (.slice _) => some (.lenS, c.args.toList)
        | some .string => some (.lenStr, c.args.toList)
        | some (.map _ _) => some (.lenM, c.args.toList)
        | _ => none
      | none => none
    | .builtin .max => some (.minmax true, c.args.toList)
    | .builtin .min => some (.minmax false, c.args.toList)
    | .builtin .append => match c.argTypes[0]?, c.argTypes[1]? with
      | some s, some x => match P.underlying s, P.underlying x with
        | some (.slice el), some (.slice _) => match sizeOfP P el, bytesOfP P el, zeroOf P el with
          | some n, some b, some z => if z.cells.length = n then some (.append n b, c.args.toList) else none
          | _, _, _ => none
        | _, _ => none
      | _, _ => none
    | .builtin .copy => match c.argTypes[0]?, c.argTypes[1]? with
      | some s, some x => match P.underlying s, P.underlying x with
        | some (.slice el), some (.slice _) => match sizeOfP P el with
          | some n => some (.copy n, c.args.toList)
          | none => none
        | _, _ => none
      | _, _ => none
    | _ => none
  | _ => none
end Go.Vx
