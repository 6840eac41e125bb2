/- The code of our small machine, how it is made of the model's, and how it runs. -/
import Derived.Test.YtpbejdlpkpehlaaVx3
namespace Go.Vx

inductive PArg where
  | tmp (t : Nat)
  | const (v : AV)
structure PInstr where
  op : PI
  args : List PArg
  dst : Option Nat
  guard : Option (Nat × Bool)
/-- An instruction of a region whose order is open: does it turn memory; may its new block be made ahead of calls that stand ahead of it; how many of those that do are ahead of it, at least and at most. -/
structure DInstr where
  p : PInstr
  eff : Bool
  fl : Bool
  lo : Nat
  hi : Nat

inductive PCode where
  | skip
  | seqR (ps : List PInstr)
  | drawR (ps : List DInstr)
  | seq (a b : PCode)
  | cond (c : PArg) (thn els : PCode)
  | block (id : Nat) (body : PCode)
  | loop (body : PCode)
  | exit (id : Nat)
  | ret
  | fail

inductive PRes where
  | tmp (t : Nat)
  | cell (t : Nat) (agg : Bool) (n : Nat)
structure PFunc where
  ntmps : Nat
  pad : Nat → List AV → Tr AV
  body : PCode
  results : List PRes

def undefA : AV := .tuple []
def PArg.eval (t : Tr AV) : PArg → Option AV
  | .tmp i => t.get i
  | .const v => some v
def evalArgs (t : Tr AV) : List PArg → Option (List AV)
  | [] => some []
  | x :: xs => match x.eval t, evalArgs t xs with
    | some a, some b => some (a :: b)
    | _, _ => none
def putT (t : Tr AV) (dst : Option Nat) (v : AV) : Tr AV :=
  match dst with
  | some d => t.set d v
  | none => t
def wantedA (p : PInstr) (t : Tr AV) : Bool :=
  match p.guard with
  | none => true
  | some (m, want) => match t.get m with
    | some (.bool b) => b == want
    | _ => false

section
variable (call : FuncId → List AV → AMem → Option (AV × AMem))
/-- what an instruction that is wanted puts, and leaves -/
def val1 (op : PI) (avs : List AV) (M : AMem) : Option (AV × AMem) :=
  match opI op avs M with
  | some (.val v M') => some (v, M')
  | some (.call f args) => call f args M
  | none => none
def runSeq : List PInstr → Tr AV → AMem → Option (Tr AV × AMem)
  | [], t, M => some (t, M)
  | p :: ps, t, M =>
    if wantedA p t then
      match evalArgs t p.args with
      | some avs => match val1 call p.op avs M with
        | some (v, M') => runSeq ps (putT t p.dst v) M'
        | none => none
      | none => none
    else runSeq ps (putT t p.dst undefA) M

/-- what one of an open region's instructions came to: its operands if it was wanted, and its value -/
structure Rec where
  d : DInstr
  avs : Option (List AV)
  v : AV
/-- a new block, at the number that was kept for it -/
def newCells : PI → List AV → Option (List AV × Option Nat)
  | .new cs, [] => some (cs, none)
  | .box, [v] => some (v.cells, none)
  | .sliceLit len zero pl, vs => match fillA zero pl vs with
    | some cs => some (cs, some len)
    | none => none
  | _, _ => none
/-- what leads to it: a pointer, or a slice of so many -/
def newAV (n0 : Nat) : Option Nat → AV
  | none => .ptr (some (n0, 0))
  | some len => .slice (some (n0, 0)) len len false
def isHeld : Option ABlk → Bool
  | some .held => true
  | _ => false
def fillI (op : PI) (avs : List AV) (n0 : Nat) (M : AMem) : Option (AV × AMem) :=
  if isHeld (M.get n0) then match newCells op avs with
    | some (cs, k) => some (newAV n0 k, M.set n0 (.cells cs 0 true none))
    | none => none
  else none
def step1 (n0 : Nat) (d : DInstr) (avs : List AV) (M : AMem) : Option (AV × AMem) :=
  if d.fl then fillI d.p.op avs n0 M else match val1 call d.p.op avs M with
    | some (v, M') => if isHeld (M.get n0) && !isHeld (M'.get n0) then none else some (v, M')
    | none => none
def trace (n0 : Nat) : List DInstr → Tr AV → AMem → Option (List Rec × List AMem × Tr AV)
  | [], t, M => some ([], [M], t)
  | d :: ds, t, M =>
    if wantedA d.p t then
      match evalArgs t d.p.args with
      | some avs =>
        if d.eff then
          match step1 call n0 d avs M with
          | some (v, M') => match trace n0 ds (putT t d.p.dst v) M' with
            | some (rs, ms, t') => some (⟨d, some avs, v⟩ :: rs, M :: ms, t')
            | none => none
          | none => none
        else match opI d.p.op avs M with
          | some (.val v M') => if M'.n = M.n then match trace n0 ds (putT t d.p.dst v) M with
              | some (rs, ms, t') => some (⟨d, some avs, v⟩ :: rs, ms, t')
              | none => none
            else none
          | _ => none
      | none => none
    else match trace n0 ds (putT t d.p.dst undefA) M with
      | some (rs, ms, t') => some (⟨d, none, undefA⟩ :: rs, if d.eff then M :: ms else ms, t')
      | none => none
end

mutual
def AV.beq : AV → AV → Bool
  | .bool a, .bool b => a == b
  | .int k a, .int l b => k == l && a == b
  | .str a, .str b => a.toList == b.toList
  | .ptr a, .ptr b => a == b
  | .slice a l c g, .slice a' l' c' g' => a == a' && l == l' && c == c' && g == g'
  | .map a, .map b => a == b
  | .func (.func f) a b, .func (.func g) c d => f == g && AV.beqs a c && AV.beqs b d
  | .nilFunc, .nilFunc => true
  | .iface t a, .iface u b => t == u && AV.beq a b
  | .nilIface, .nilIface => true
  | .agg a, .agg b => AV.beqs a b
  | .tuple a, .tuple b => AV.beqs a b
  | .oint k x lo hi, .oint k' x' lo' hi' => k == k' && x.beq x' && lo == lo' && hi == hi'
  | .oslice i lo hi, .oslice i' lo' hi' => i == i' && lo == lo' && hi == hi'
  | .ostr i lo hi, .ostr i' lo' hi' => i == i' && lo == lo' && hi == hi'
  | .oval i, .oval i' => i == i'
  | .tail b o a, .tail b' o' a' => b == b' && o == o' && a == a'
  | .rptr a, .rptr b => decide (a = b)
  | .rslice a l c, .rslice b m n => decide (a = b) && l == m && c == n
  | _, _ => false
def AV.beqs : List AV → List AV → Bool
  | [], [] => true
  | a :: as, b :: bs => AV.beq a b && AV.beqs as bs
  | _, _ => false
end

def isLoad : PI → Bool
  | .load _ _ | .lookup _ _ _ | .lenM | .bytesStr => true
  | _ => false
/-- a read comes to the same at each place where it may stand -/
def sameAt (op : PI) (avs : List AV) (v : AV) (ms : List AMem) (lo : Nat) : Nat → Bool
  | 0 => true
  | k + 1 => (match ms[lo + k]? with
    | some M => match opI op avs M with
      | some (.val v' M') => v'.beq v && M'.n == M.n
      | _ => false
    | none => false) && sameAt op avs v ms lo k
def checkRec (ms : List AMem) (r : Rec) : Bool :=
  match r.avs with
  | none => true
  | some avs => r.d.eff || !isLoad r.d.p.op || r.d.lo == r.d.hi || sameAt r.d.p.op avs r.v ms r.d.lo (r.d.hi + 1 - r.d.lo)

def runDraw (call : FuncId → List AV → AMem → Option (AV × AMem)) (ds : List DInstr) (t : Tr AV) (M : AMem) : Option (Tr AV × AMem) :=
  match trace call M.n ds t (if ds.any (·.fl) then M.push .held else M) with
  | some (rs, ms, t') => if rs.all (checkRec ms) then match ms.getLast? with
      | some M' => some (t', M')
      | none => none
    else none
  | none => none

inductive PEx where
  | normal
  | exit (id : Nat)
  | ret
/-- a loop's rounds -/
def iter (body : Tr AV → AMem → Option (PEx × Tr AV × AMem)) : Nat → Tr AV → AMem → Option (PEx × Tr AV × AMem)
  | 0, _, _ => none
  | n + 1, t, M => match body t M with
    | some (.normal, t', M') => iter body n t' M'
    | r => r
def exec (call : FuncId → List AV → AMem → Option (AV × AMem)) (N : Nat) : PCode → Tr AV → AMem → Option (PEx × Tr AV × AMem)
  | .skip, t, M => some (.normal, t, M)
  | .seqR ps, t, M => match runSeq call ps t M with
    | some (t', M') => some (.normal, t', M')
    | none => none
  | .drawR ds, t, M => match runDraw call ds t M with
    | some (t', M') => some (.normal, t', M')
    | none => none
  | .seq a b, t, M => match exec call N a t M with
    | some (.normal, t', M') => exec call N b t' M'
    | r => r
  | .cond c x y, t, M => match c.eval t with
    | some (.bool true) => exec call N x t M
    | some (.bool false) => exec call N y t M
    | _ => none
  | .block id c, t, M => match exec call N c t M with
    | some (.exit id', t', M') => if id' = id then some (.normal, t', M') else some (.exit id', t', M')
    | r => r
  | .loop c, t, M => iter (exec call N c) N t M
  | .exit id, t, M => some (.exit id, t, M)
  | .ret, t, M => some (.ret, t, M)
  | .fail, _, _ => none

def resI (t : Tr AV) (M : AMem) : PRes → Option AV
  | .tmp i => t.get i
  | .cell i agg n => match t.get i with
    | some (.ptr (some (b, o))) => if agg then match M.loadCells b o n with
        | some cs => some (.agg cs)
        | none => none
      else match M.loadCells b o 1 with
        | some [v] => some v
        | _ => none
    | _ => none
def resIs (t : Tr AV) (M : AMem) : List PRes → Option (List AV)
  | [] => some []
  | r :: rs => match resI t M r, resIs t M rs with
    | some a, some b => some (a :: b)
    | _, _ => none
def resV : List AV → AV
  | [v] => v
  | vs => .tuple vs

/-- the temporaries at a call's beginning: 'base' has so many, all without a value -/
def setArgs (t : Tr AV) : Nat → List AV → Tr AV
  | _, [] => t
  | i, v :: vs => setArgs (t.set i v) (i + 1) vs
structure PFn where
  n : Nat
  base : Tr AV
  body : PCode
  res : List PRes
/-- one call, the calls in it being known -/
def stepF (code : FuncId → Option PFn) (N : Nat) (call : FuncId → List AV → AMem → Option (AV × AMem)) (f : FuncId) (args : List AV) (M : AMem) : Option (AV × AMem) :=
  match code f with
  | none => none
  | some fn => if args.length ≤ fn.n then
      match exec call N fn.body (setArgs fn.base 0 args) M with
      | some (.exit _, _, _) => none
      | some (_, t, M') => match resIs t M' fn.res with
        | some vs => some (resV vs, M')
        | none => none
      | none => none
    else none
/-- some calls' answers are known -/
def callF (tbl : FuncId → List AV → AMem → Option (AV × AMem)) (code : FuncId → Option PFn) (N : Nat) : Nat → FuncId → List AV → AMem → Option (AV × AMem)
  | 0, _, _, _ => none
  | d + 1, f, args, M => match tbl f args M with
    | some q => some q
    | none => stepF code N (callF tbl code N d) f args M

/-! How it is made. -/
def compArg : Operand → Option PArg
  | .tmp t => some (.tmp t)
  | .const v => match ofV v with
    | some a => some (.const a)
    | none => none
  | .func f => some (.const (.func (.func f) [] []))
  | .global g => some (.const (.rptr (some ⟨g, 0, none⟩)))
def compInstr (P : Program) (ops : Array Oper) (o : Oper) : Option PInstr :=
  match compOp P o with
  | some (pi, xs) => match mapO compArg xs with
    | some args => match o.guard with
      | none => some ⟨pi, args, o.dst, none⟩
      | some (j, want) => match (ops[j]?).bind (·.dst) with
        | some t => some ⟨pi, args, o.dst, some (t, want)⟩
        | none => none
    | none => none
  | none => none

/-- does it turn memory, or call? -/
def isEff : PI → Bool
  | .new _ | .box | .sliceLit _ _ _ | .store _ | .append _ _ | .copy _ | .makeSlice _ _ _ | .callF _ | .callV | .invoke _ _ | .makeMap | .mapUpdate _ | .delete _ | .clear _ _ | .invokeP _ _ _ => true
  | _ => false
/-- which ones must have been ahead: bits -/
def masks : List Oper → List Nat → List Nat
  | [], acc => acc
  | o :: os, acc => masks os (acc ++ [o.after.toList.foldl (fun s e => if Region.binds .any e then s ||| 2 ^ e.on ||| acc.getD e.on 0 else s) 0])
def namesOf (p : PInstr) : List Nat :=
  (p.args.filterMap fun | .tmp t => some t | _ => none) ++ p.dst.toList ++ (match p.guard with | some (t, _) => [t] | none => [])
def isNew : PI → Bool
  | .new _ | .box | .sliceLit _ _ _ => true
  | _ => false
def pD : PInstr := ⟨.move, [], none, none⟩
/-- which ones turn memory, in order -/
def effsOf (ps : List PInstr) : List Nat := (List.range ps.length).filter fun j => isEff (ps.getD j pD).op
/-- may the j-th one float? it makes a block; one that turns memory and isn't ahead of it by need stands ahead of it -/
def floats (ps : List PInstr) (bs : List Nat) (j : Nat) : Bool :=
  isNew (ps.getD j pD).op && (List.range j).any fun i => isEff (ps.getD i pD).op && !(bs.getD j 0).testBit i
def apartN (p q : PInstr) : Bool :=
  !((p.dst.toList.any fun d => (namesOf q).contains d) || (q.dst.toList.any fun d => (namesOf p).contains d))
/-- each two that name one place, of which one is written, are in order; each two that turn memory are, but for one that floats -/
def drawOk (ps : List PInstr) (bs : List Nat) : Bool :=
  ((List.range ps.length).all fun j => (List.range j).all fun i =>
    (bs.getD j 0).testBit i || ((!(isEff (ps.getD i pD).op && isEff (ps.getD j pD).op) || floats ps bs j) && apartN (ps.getD i pD) (ps.getD j pD))) &&
  ((List.range ps.length).all fun j => !floats ps bs j || (List.range ps.length).all fun i => (!isLoad (ps.getD i pD).op || !(bs.getD i 0).testBit j) && (!floats ps bs i || i == j))
def mkDraw (ps : List PInstr) (bs : List Nat) (i : Nat) (p : PInstr) : DInstr :=
  let es := effsOf ps
  let lo := (List.range es.length).foldl (fun acc c => if (bs.getD i 0).testBit (es.getD c 0) then max acc (c + 1) else acc) 0
  let hi := (List.range es.length).foldl (fun acc c => if (bs.getD (es.getD c 0) 0).testBit i then min acc c else acc) es.length
  ⟨p, isEff p.op, floats ps bs i, lo, hi⟩
def compRegion0 (P : Program) (ops : Array Oper) (draw : Bool) : Option PCode :=
  match mapO (compInstr P ops) ops.toList with
  | none => none
  | some ps =>
    if !draw then some (.seqR ps)
    else
      let bs := masks ops.toList []
      if drawOk ps bs && (ops.toList.zipIdx.all fun x => x.1.after.all fun e => !Region.binds .any e || decide (e.on < x.2)) && P.follows .mixedOrders then
        some (.drawR (ps.zipIdx.map fun x => mkDraw ps bs x.2 x.1))
      else none
/-- an operation that makes a block, and that one behind it that turns memory needn't wait for -/
def sinks (ps : List PInstr) (bs : List Nat) (i : Nat) : Bool :=
  isNew (ps.getD i pD).op && (List.range ps.length).any fun j => decide (i < j) && isEff (ps.getD j pD).op && !(bs.getD j 0).testBit i
/-- the text's order, but what can sink stands right ahead of the first one that needs it -/
def sinkOrd (ps : List PInstr) (bs : List Nat) : List Nat :=
  (List.range ps.length).foldl (fun acc k => if sinks ps bs k then acc else acc ++ ((List.range k).filter fun i => sinks ps bs i && (bs.getD k 0).testBit i && !acc.contains i) ++ [k]) []
def permOk (ord : List Nat) (n : Nat) : Bool :=
  ord.length == n && (List.range n).all fun k => decide (ord.getD k n < n) && ord.idxOf (ord.getD k n) == k && decide (ord.idxOf k < n) && ord.getD (ord.idxOf k) n == k
def renO (ord : List Nat) (o : Oper) : Oper :=
  { o with after := o.after.map (fun e => { e with on := ord.idxOf e.on }), guard := o.guard.map fun g => (ord.idxOf g.1, g.2) }
def permO (ops : Array Oper) (ord : List Nat) : Array Oper := (ord.map fun i => renO ord (ops.toList.getD i default)).toArray
def sunk (P : Program) (ops : Array Oper) : List Nat := match mapO (compInstr P ops) ops.toList with
  | some ps => sinkOrd ps (masks ops.toList [])
  | none => []
def compRegion (P : Program) (ops : Array Oper) (draw : Bool) : Option PCode :=
  match compRegion0 P ops draw with
  | some c => some c
  | none => if draw && permOk (sunk P ops) ops.size then compRegion0 P (permO ops (sunk P ops)) true else none
def compCode (P : Program) : Code → Option PCode
  | .skip => some .skip
  | .region _ ops draw => match compRegion P ops draw with
    | some c => some c
    | none => some .fail
  | .seq a b => match compCode P a, compCode P b with
    | some x, some y => some (.seq x y)
    | _, _ => none
  | .cond c a b => match compArg c, compCode P a, compCode P b with
    | some c, some x, some y => some (.cond c x y)
    | _, _, _ => some .fail
  | .block id c => match compCode P c with
    | some x => some (.block id x)
    | none => none
  | .loop c => match compCode P c with
    | some x => some (.loop x)
    | none => none
  | .exit id => some (.exit id)
  | .ret => some .ret
  | _ => some .fail
def compRes (P : Program) : ResultVar → Option PRes
  | .tmp t => some (.tmp t)
  | .cell a t => match P.underlying t, sizeOfP P t with
    | some d, some n => some (.cell a (isAggD d) n)
    | _, _ => none
def compFunc (P : Program) (fn : Func) : Option PFn :=
  match fn.body with
  | none => none
  | some c => match compCode P c, mapO (compRes P) fn.results.toList with
    | some b, some r => some ⟨fn.ntmps, Tr.ofList (List.replicate fn.ntmps undefA), b, r⟩
    | _, _ => none
end Go.Vx
