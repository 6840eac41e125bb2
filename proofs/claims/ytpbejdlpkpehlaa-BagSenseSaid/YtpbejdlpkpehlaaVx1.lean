/- Values, blocks and memory of a small machine of our own; what they stand for in a world of the model. -/
import Derived.Orders
import Derived.Below
import Derived.Laws.CopyRow
import Derived.Laws.Tables
import Derived.Laws.Cells
import Derived.Laws.Rows
namespace Go.Vx
open Go.RowKit (Below)

/-- Numbers of which no more is known than bounds: how they were made of those that came in. -/
inductive SE where
  | var (i : Nat)
  | lit (n : Int)
  | len (i : Nat)
  | add (x y : SE)
  | sub (x y : SE)
  | mul (x y : SE)
def SE.beq : SE → SE → Bool
  | .var i, .var j => i == j
  | .lit n, .lit m => n == m
  | .len i, .len j => i == j
  | .add x y, .add a b => x.beq a && y.beq b
  | .sub x y, .sub a b => x.beq a && y.beq b
  | .mul x y, .mul a b => x.beq a && y.beq b
  | _, _ => false

/-- A value: an address is a block's number of our own, and a place in it. 'gr': the slice may have more room than 'cap' tells. 'rptr', 'rslice': addresses of the world outside, carried along. 'oint', 'oslice', 'ostr', 'oval': what came in; of a number, a length, no more is known than bounds. -/
inductive AV where
  | bool (b : Bool)
  | int (k : IntKind) (n : Int)
  | str (s : ByteArray)
  | ptr (a : Option (Nat × Nat))
  | slice (a : Option (Nat × Nat)) (len cap : Nat) (gr : Bool)
  | map (r : Option Nat)
  | func (fn : Fn) (first captured : List AV)
  | nilFunc
  | iface (t : TypeId) (v : AV)
  | nilIface
  | agg (cs : List AV)
  | tuple (vs : List AV)
  | rptr (a : Option Addr)
  | rslice (a : Option Addr) (len cap : Nat)
  | oint (k : IntKind) (x : SE) (lo hi : Int)
  | oslice (i lo hi : Nat)
  | ostr (i lo hi : Nat)
  | oval (i : Nat)
  | tail (b o adv : Nat)

/-- What came in and is not looked at: numbers, and values of one cell; what package variables hold, which nobody writes. -/
class Val where
  int : Nat → Int
  any : Nat → Value
  g : Addr → Option AV
def SE.eval [Val] : SE → Int
  | .var i => Val.int i
  | .lit n => n
  | .len i => match Val.any i with
    | .slice _ n _ => n
    | .string s => s.size
    | _ => 0
  | .add x y => x.eval + y.eval
  | .sub x y => x.eval - y.eval
  | .mul x y => x.eval * y.eval
/-- What a block's number stands for: a block of the world, the place where ours begins, how many elements more have room than we tell. -/
structure EB where
  blk : Nat
  o : Nat
  d : Nat

/-- What our blocks' numbers stand for. -/
def Env : Type := Nat → Option EB
def Env.set (e : Env) (n : Nat) (x : EB) : Env := fun b => if b = n then some x else e b
/-- e' knows all that e knows. -/
def Ext (e e' : Env) : Prop := ∀ (b : Nat) (x : EB), e b = some x → e' b = some x

/-- a value of one cell, but no bool -/
def opq (v : Value) : Bool := v.oneCell' && match v with
  | .bool _ => false
  | _ => true
mutual
def conc [Val] (e : Env) : AV → Option Value
  | .bool b => some (.bool b)
  | .int k n => some (.int k n)
  | .str s => some (.string s)
  | .ptr none => some (.pointer none)
  | .ptr (some (b, o)) => match e b with
    | some x => some (.pointer (some ⟨x.blk, x.o + o, none⟩))
    | none => none
  | .slice none len cap _ => some (.slice none len cap)
  | .slice (some (b, o)) len cap gr => match e b with
    | some x => some (.slice (some ⟨x.blk, x.o + o, none⟩) len (cap + if gr then x.d else 0))
    | none => none
  | .map none => some (.map none)
  | .map (some r) => match e r with
    | some x => some (.map (some x.blk))
    | none => none
  | .func fn f c => match concs e f, concs e c with
    | some a, some b => some (.func fn a.toArray b.toArray)
    | _, _ => none
  | .nilFunc => some .nilFunc
  | .iface t v => match conc e v with
    | some a => some (.iface t a)
    | none => none
  | .nilIface => some .nilIface
  | .agg cs => match concs e cs with
    | some a => some (.agg a.toArray)
    | none => none
  | .tuple cs => match concs e cs with
    | some a => some (.tuple a.toArray)
    | none => none
  | .rptr a => some (.pointer a)
  | .rslice a len cap => some (.slice a len cap)
  | .oint k x lo hi => if lo ≤ x.eval ∧ x.eval ≤ hi then some (.int k x.eval) else none
  | .oslice i lo hi => match Val.any i with
    | .slice a len cap => if lo ≤ len ∧ len ≤ hi then some (.slice a len cap) else none
    | _ => none
  | .ostr i lo hi => match Val.any i with
    | .string s => if lo ≤ s.size ∧ s.size ≤ hi then some (.string s) else none
    | _ => none
  | .oval i => if opq (Val.any i) = true then some (Val.any i) else none
  | .tail b o adv => match e b with
    | some x => some (.slice (some ⟨x.blk, if x.d = 0 then x.o + o else x.o + o + adv, none⟩) 0 x.d)
    | none => none
def concs [Val] (e : Env) : List AV → Option (List Value)
  | [] => some []
  | v :: vs => match conc e v, concs e vs with
    | some a, some b => some (a :: b)
    | _, _ => none
end

mutual
theorem conc_ext [Val] {e e' : Env} (he : Ext e e') : ∀ (v : AV) {w : Value}, conc e v = some w → conc e' v = some w
  | .bool _, _, h => by simpa [conc] using h
  | .int _ _, _, h => by simpa [conc] using h
  | .str _, _, h => by simpa [conc] using h
  | .ptr none, _, h => by simpa [conc] using h
  | .ptr (some (b, o)), _, h => by
    simp only [conc] at h ⊢
    cases hx : e b with
    | none => simp [hx] at h
    | some x => rw [hx] at h; rw [he _ _ hx]; exact h
  | .slice none _ _ _, _, h => by simpa [conc] using h
  | .slice (some (b, o)) _ _ _, _, h => by
    simp only [conc] at h ⊢
    cases hx : e b with
    | none => simp [hx] at h
    | some x => rw [hx] at h; rw [he _ _ hx]; exact h
  | .map none, _, h => by simpa [conc] using h
  | .map (some b), _, h => by
    simp only [conc] at h ⊢
    cases hx : e b with
    | none => simp [hx] at h
    | some x => rw [hx] at h; rw [he _ _ hx]; exact h
  | .func fn f c, _, h => by
    simp only [conc] at h ⊢
    cases h1 : concs e f with
    | none => simp [h1] at h
    | some a =>
      cases h2 : concs e c with
      | none => simp [h1, h2] at h
      | some b => rw [h1, h2] at h; rw [concs_ext he f h1, concs_ext he c h2]; exact h
  | .nilFunc, _, h => by simpa [conc] using h
  | .iface t v, _, h => by
    simp only [conc] at h ⊢
    cases h1 : conc e v with
    | none => simp [h1] at h
    | some a => rw [h1] at h; rw [conc_ext he v h1]; exact h
  | .nilIface, _, h => by simpa [conc] using h
  | .agg cs, _, h => by
    simp only [conc] at h ⊢
    cases h1 : concs e cs with
    | none => simp [h1] at h
    | some a => rw [h1] at h; rw [concs_ext he cs h1]; exact h
  | .tuple cs, _, h => by
    simp only [conc] at h ⊢
    cases h1 : concs e cs with
    | none => simp [h1] at h
    | some a => rw [h1] at h; rw [concs_ext he cs h1]; exact h
  | .rptr _, _, h => by simpa [conc] using h
  | .rslice _ _ _, _, h => by simpa [conc] using h
  | .oint _ _ _ _, _, h => by simpa only [conc] using h
  | .oslice _ _ _, _, h => by simpa only [conc] using h
  | .ostr _ _ _, _, h => by simpa only [conc] using h
  | .oval _, _, h => by simpa only [conc] using h
  | .tail b o adv, _, h => by
    simp only [conc] at h ⊢
    cases hx : e b with
    | none => simp [hx] at h
    | some x => rw [hx] at h; rw [he _ _ hx]; exact h
theorem concs_ext [Val] {e e' : Env} (he : Ext e e') : ∀ (vs : List AV) {ws : List Value}, concs e vs = some ws → concs e' vs = some ws
  | [], _, h => by simpa [concs] using h
  | v :: vs, _, h => by
    simp only [concs] at h ⊢
    cases h1 : conc e v with
    | none => simp [h1] at h
    | some a =>
      cases h2 : concs e vs with
      | none => simp [h1, h2] at h
      | some b => rw [h1, h2] at h; rw [conc_ext he v h1, concs_ext he vs h2]; exact h
end

theorem Ext.refl (e : Env) : Ext e e := fun _ _ h => h
theorem Ext.trans {a b c : Env} (h : Ext a b) (k : Ext b c) : Ext a c := fun _ _ hx => k _ _ (h _ _ hx)
theorem Ext.one {e : Env} {n : Nat} (h : e n = none) (x : EB) : Ext e (e.set n x) := fun b y hy => by
  unfold Env.set
  by_cases hb : b = n
  · subst hb; rw [h] at hy; cases hy
  · rw [if_neg hb]; exact hy
theorem Env.set_self (e : Env) (n : Nat) (x : EB) : (e.set n x) n = some x := by simp [Env.set]
theorem Env.set_get {e : Env} {n b : Nat} {x y : EB} (h : (e.set n x) b = some y) : (b ≠ n ∧ e b = some y) ∨ (b = n ∧ y = x) := by
  unfold Env.set at h
  by_cases hb : b = n
  · rw [if_pos hb] at h; cases h; exact .inr ⟨hb, rfl⟩
  · rw [if_neg hb] at h; exact .inl ⟨hb, h⟩
theorem Ext.conc [Val] {e e' : Env} (h : Ext e e') {v : AV} {w : Value} (hv : conc e v = some w) : Vx.conc e' v = some w := conc_ext h v hv
theorem Ext.concs [Val] {e e' : Env} (h : Ext e e') {v : List AV} {w : List Value} (hv : concs e v = some w) : Vx.concs e' v = some w := concs_ext h v hv
theorem Ext.get {e e' : Env} (h : Ext e e') {b : Nat} {x : EB} (hx : e b = some x) : e' b = some x := h _ _ hx

theorem concs_length [Val] {e : Env} : ∀ {vs : List AV} {ws : List Value}, concs e vs = some ws → ws.length = vs.length
  | [], _, h => by simp [concs] at h; simp [← h]
  | v :: vs, _, h => by
    simp only [concs] at h
    cases h1 : conc e v with
    | none => simp [h1] at h
    | some a =>
      cases h2 : concs e vs with
      | none => simp [h1, h2] at h
      | some b => simp [h1, h2] at h; subst h; simp [concs_length h2]
theorem concs_cons [Val] {e : Env} {v : AV} {vs : List AV} {ws : List Value} (h : concs e (v :: vs) = some ws) : ∃ a b, conc e v = some a ∧ concs e vs = some b ∧ ws = a :: b := by
  simp only [concs] at h
  cases h1 : conc e v with
  | none => simp [h1] at h
  | some a =>
    cases h2 : concs e vs with
    | none => simp [h1, h2] at h
    | some b => simp [h1, h2] at h; exact ⟨a, b, rfl, rfl, h.symm⟩
theorem concs_mk [Val] {e : Env} {v : AV} {vs : List AV} {a : Value} {b : List Value} (h : conc e v = some a) (k : concs e vs = some b) : concs e (v :: vs) = some (a :: b) := by
  simp [concs, h, k]
theorem concs_append [Val] {e : Env} : ∀ {vs us : List AV} {a b : List Value}, concs e vs = some a → concs e us = some b → concs e (vs ++ us) = some (a ++ b)
  | [], _, _, _, h, k => by simp [concs] at h; subst h; simpa using k
  | v :: vs, _, _, _, h, k => by
    obtain ⟨x, y, h1, h2, rfl⟩ := concs_cons h
    exact concs_mk h1 (concs_append h2 k)
theorem concs_get [Val] {e : Env} : ∀ {vs : List AV} {ws : List Value}, concs e vs = some ws → ∀ (i : Nat) (v : AV), vs[i]? = some v → ∃ w, ws[i]? = some w ∧ conc e v = some w
  | [], _, _, i, v, hi => by simp at hi
  | u :: vs, _, h, i, v, hi => by
    obtain ⟨x, y, h1, h2, rfl⟩ := concs_cons h
    cases i with
    | zero => simp at hi; subst hi; exact ⟨x, rfl, h1⟩
    | succ i => simp at hi; simpa using concs_get h2 i v hi
theorem concs_take [Val] {e : Env} : ∀ (n : Nat) {vs : List AV} {ws : List Value}, concs e vs = some ws → concs e (vs.take n) = some (ws.take n)
  | 0, _, _, _ => by simp [concs]
  | n + 1, [], _, h => by simp [concs] at h; subst h; simp [concs]
  | n + 1, u :: vs, _, h => by
    obtain ⟨x, y, h1, h2, rfl⟩ := concs_cons h
    simpa using concs_mk h1 (concs_take n h2)
theorem concs_drop [Val] {e : Env} : ∀ (n : Nat) {vs : List AV} {ws : List Value}, concs e vs = some ws → concs e (vs.drop n) = some (ws.drop n)
  | 0, _, _, h => by simpa using h
  | n + 1, [], _, h => by simp [concs] at h; subst h; simp [concs]
  | n + 1, u :: vs, _, h => by
    obtain ⟨x, y, h1, h2, rfl⟩ := concs_cons h
    simpa using concs_drop n h2
theorem concs_replicate [Val] {e : Env} {v : AV} {a : Value} (h : conc e v = some a) : ∀ n : Nat, concs e (List.replicate n v) = some (List.replicate n a)
  | 0 => by simp [concs]
  | n + 1 => by simpa [List.replicate_succ] using concs_mk h (concs_replicate h n)

def AV.cells : AV → List AV
  | .agg cs => cs
  | v => [v]
theorem conc_cells [Val] {e : Env} {v : AV} {w : Value} (h : conc e v = some w) : concs e v.cells = some w.cells.toList := by
  have one : ∀ u : Value, (∀ cs, u ≠ .agg cs) → u.cells = #[u] := fun u hu => by cases u <;> first | rfl | exact absurd rfl (hu _)
  cases v with
  | agg cs =>
    simp only [conc] at h
    cases h1 : concs e cs with
    | none => simp [h1] at h
    | some a => simp [h1] at h; subst h; simpa [AV.cells, Value.cells] using h1
  | bool b => simp [conc] at h; subst h; simp [AV.cells, Value.cells, concs, conc]
  | int k n => simp [conc] at h; subst h; simp [AV.cells, Value.cells, concs, conc]
  | str s => simp [conc] at h; subst h; simp [AV.cells, Value.cells, concs, conc]
  | nilFunc => simp [conc] at h; subst h; simp [AV.cells, Value.cells, concs, conc]
  | nilIface => simp [conc] at h; subst h; simp [AV.cells, Value.cells, concs, conc]
  | rptr a => simp [conc] at h; subst h; simp [AV.cells, Value.cells, concs, conc]
  | rslice a l c => simp [conc] at h; subst h; simp [AV.cells, Value.cells, concs, conc]
  | oint k n lo hi =>
    have hw : ∀ cs, w ≠ .agg cs := by intro cs hc; subst hc; simp [conc] at h
    rw [one w hw]; exact concs_mk h rfl
  | oslice i lo hi =>
    have hw : ∀ cs, w ≠ .agg cs := by
      intro cs hc; subst hc
      simp only [conc] at h
      split at h
      · split at h <;> cases h
      · cases h
    rw [one w hw]; exact concs_mk h rfl
  | ostr i lo hi =>
    have hw : ∀ cs, w ≠ .agg cs := by
      intro cs hc; subst hc
      simp only [conc] at h
      split at h
      · split at h <;> cases h
      · cases h
    rw [one w hw]; exact concs_mk h rfl
  | oval i =>
    have hw : ∀ cs, w ≠ .agg cs := by
      intro cs hc; subst hc
      simp only [conc] at h
      split at h
      · rename_i ho
        simp only [Option.some.injEq] at h
        rw [h] at ho; simp [opq, Value.oneCell'] at ho
      · cases h
    rw [one w hw]; exact concs_mk h rfl
  | tail b o adv =>
    have hw : ∀ cs, w ≠ .agg cs := by
      intro cs hc; subst hc
      simp only [conc] at h
      cases hx : e b <;> simp [hx] at h
    rw [one w hw]; exact concs_mk h rfl
  | ptr a =>
    have hw : ∀ cs, w ≠ .agg cs := by
      intro cs hc; subst hc
      cases a with
      | none => simp [conc] at h
      | some p => obtain ⟨b, o⟩ := p; simp only [conc] at h; cases hx : e b <;> simp [hx] at h
    rw [one w hw]; exact concs_mk h rfl
  | slice a l c g =>
    have hw : ∀ cs, w ≠ .agg cs := by
      intro cs hc; subst hc
      cases a with
      | none => simp [conc] at h
      | some p => obtain ⟨b, o⟩ := p; simp only [conc] at h; cases hx : e b <;> simp [hx] at h
    rw [one w hw]; exact concs_mk h rfl
  | map a =>
    have hw : ∀ cs, w ≠ .agg cs := by
      intro cs hc; subst hc
      cases a with
      | none => simp [conc] at h
      | some b => simp only [conc] at h; cases hx : e b <;> simp [hx] at h
    rw [one w hw]; exact concs_mk h rfl
  | func fn f c =>
    have hw : ∀ cs, w ≠ .agg cs := by
      intro cs hc; subst hc
      simp only [conc] at h
      cases h1 : concs e f <;> cases h2 : concs e c <;> simp [h1, h2] at h
    rw [one w hw]; exact concs_mk h rfl
  | iface t u =>
    have hw : ∀ cs, w ≠ .agg cs := by
      intro cs hc; subst hc
      simp only [conc] at h
      cases h1 : conc e u <;> simp [h1] at h
    rw [one w hw]; exact concs_mk h rfl
  | tuple cs =>
    have hw : ∀ cs, w ≠ .agg cs := by
      intro cs' hc; subst hc
      simp only [conc] at h
      cases h1 : concs e cs <;> simp [h1] at h
    rw [one w hw]; exact concs_mk h rfl

/-- one cell takes it -/
def AV.one : AV → Bool
  | .agg _ | .tuple _ => false
  | _ => true
theorem conc_one [Val] {e : Env} {v : AV} {w : Value} (h : conc e v = some w) (hv : v.one = true) : w.oneCell' = true := by
  cases v with
  | agg cs => simp [AV.one] at hv
  | tuple cs => simp [AV.one] at hv
  | bool b => simp [conc] at h; subst h; rfl
  | int k n => simp [conc] at h; subst h; rfl
  | str s => simp [conc] at h; subst h; rfl
  | nilFunc => simp [conc] at h; subst h; rfl
  | nilIface => simp [conc] at h; subst h; rfl
  | rptr a => simp [conc] at h; subst h; rfl
  | rslice a l c => simp [conc] at h; subst h; rfl
  | tail b o adv =>
    simp only [conc] at h
    cases hx : e b with
    | none => simp [hx] at h
    | some x => simp [hx] at h; subst h; rfl
  | oint k n lo hi => simp only [conc] at h; split at h <;> simp at h; subst h; rfl
  | oslice i lo hi =>
    simp only [conc] at h
    split at h
    · split at h
      · cases h; rfl
      · cases h
    · cases h
  | ostr i lo hi =>
    simp only [conc] at h
    split at h
    · split at h
      · cases h; rfl
      · cases h
    · cases h
  | oval i =>
    simp only [conc] at h
    split at h
    · rename_i ho; cases h; simp only [opq, Bool.and_eq_true] at ho; exact ho.1
    · cases h
  | ptr a =>
    cases a with
    | none => simp [conc] at h; subst h; rfl
    | some p => obtain ⟨b, o⟩ := p; simp only [conc] at h; cases hx : e b <;> simp [hx] at h; subst h; rfl
  | slice a l c g =>
    cases a with
    | none => simp [conc] at h; subst h; rfl
    | some p => obtain ⟨b, o⟩ := p; simp only [conc] at h; cases hx : e b <;> simp [hx] at h; subst h; rfl
  | map a =>
    cases a with
    | none => simp [conc] at h; subst h; rfl
    | some b => simp only [conc] at h; cases hx : e b <;> simp [hx] at h; subst h; rfl
  | func fn f c =>
    simp only [conc] at h
    cases h1 : concs e f <;> cases h2 : concs e c <;> simp [h1, h2] at h; subst h; rfl
  | iface t u =>
    simp only [conc] at h
    cases h1 : conc e u <;> simp [h1] at h; subst h; rfl
theorem concs_one [Val] {e : Env} : ∀ {vs : List AV} {ws : List Value}, concs e vs = some ws → vs.all AV.one = true → ∀ w ∈ ws, w.oneCell' = true
  | [], _, h, _, w, hw => by simp [concs] at h; subst h; simp at hw
  | v :: vs, _, h, hv, w, hw => by
    obtain ⟨x, y, h1, h2, rfl⟩ := concs_cons h
    simp only [List.all_cons, Bool.and_eq_true] at hv
    rcases List.mem_cons.1 hw with rfl | hw
    · exact conc_one h1 hv.1
    · exact concs_one h2 hv.2 w hw

/-! A tree of cells, found by their number. -/
inductive Tr (α : Type) where
  | nil
  | node (v : α) (l r : Tr α)
namespace Tr
variable {α : Type}
def get : Tr α → Nat → Option α
  | nil, _ => none
  | node v l r, n => if n = 0 then some v else if n % 2 = 1 then l.get (n / 2) else r.get (n / 2 - 1)
def set : Tr α → Nat → α → Tr α
  | nil, _, _ => nil
  | node v l r, n, x => if n = 0 then node x l r else if n % 2 = 1 then node v (l.set (n / 2) x) r else node v l (r.set (n / 2 - 1) x)
/-- behind the last one: 'n' is how many there are -/
def push : Tr α → Nat → α → Tr α
  | nil, _, x => node x nil nil
  | node v l r, n, x => if n % 2 = 1 then node v (l.push (n / 2) x) r else node v l (r.push (n / 2 - 1) x)
def mapI (f : Nat → α → α) : Nat → Nat → Tr α → Tr α
  | _, _, nil => nil
  | a, s, node v l r => node (f a v) (mapI f (a + s) (2 * s) l) (mapI f (a + 2 * s) (2 * s) r)
def Full (t : Tr α) (n : Nat) : Prop := ∀ i, (t.get i).isSome = true ↔ i < n
theorem get_set (t : Tr α) : ∀ (n : Nat) (x : α) (m : Nat), (t.get n).isSome = true → (t.set n x).get m = if m = n then some x else t.get m := by
  induction t with
  | nil => intro n x m h; simp [get] at h
  | node v l r ihl ihr =>
    intro n x m h
    simp only [set]
    by_cases hn : n = 0
    · subst hn
      simp only [if_true, get]
      by_cases hm : m = 0 <;> simp [hm]
    · simp only [hn, if_false, get] at h ⊢
      by_cases ho : n % 2 = 1
      · simp only [ho, if_true] at h ⊢
        simp only [get]
        by_cases hm : m = 0
        · subst hm
          have : (0 : Nat) ≠ n := fun e => hn e.symm
          simp [this]
        · simp only [hm, if_false]
          by_cases hmo : m % 2 = 1
          · simp only [hmo, if_true]
            rw [ihl _ _ _ h]
            have : (m / 2 = n / 2) ↔ m = n := by omega
            simp [this]
          · have : m ≠ n := by omega
            simp [hmo, this]
      · simp only [ho, if_false] at h ⊢
        simp only [get]
        by_cases hm : m = 0
        · subst hm
          have : (0 : Nat) ≠ n := fun e => hn e.symm
          simp [this]
        · simp only [hm, if_false]
          by_cases hmo : m % 2 = 1
          · have : m ≠ n := by omega
            simp [hmo, this]
          · simp only [hmo, if_false]
            rw [ihr _ _ _ h]
            have : (m / 2 - 1 = n / 2 - 1) ↔ m = n := by omega
            simp [this]
theorem set_none (t : Tr α) : ∀ (n : Nat) (x : α), t.get n = none → t.set n x = t := by
  induction t with
  | nil => intro n x h; rfl
  | node v l r ihl ihr =>
    intro n x h
    simp only [set, get] at h ⊢
    by_cases hn : n = 0
    · simp [hn] at h
    · simp only [hn, if_false] at h ⊢
      by_cases ho : n % 2 = 1
      · simp only [ho, if_true] at h ⊢; rw [ihl _ _ h]
      · simp only [ho, if_false] at h ⊢; rw [ihr _ _ h]
theorem full_nil : Full (nil : Tr α) 0 := fun i => by simp [get]
theorem full_left {v : α} {l r : Tr α} {n : Nat} (h : Full (node v l r) n) : Full l (n / 2) := fun i => by
  have := h (2 * i + 1)
  simp only [get] at this
  have e1 : (2 * i + 1) ≠ 0 := by omega
  have e2 : (2 * i + 1) % 2 = 1 := by omega
  have e3 : (2 * i + 1) / 2 = i := by omega
  simp only [e1, e2, e3, if_false, if_true] at this
  rw [this]; omega
theorem full_right {v : α} {l r : Tr α} {n : Nat} (h : Full (node v l r) n) : Full r ((n - 1) / 2) := fun i => by
  have := h (2 * i + 2)
  simp only [get] at this
  have e1 : (2 * i + 2) ≠ 0 := by omega
  have e2 : ¬ (2 * i + 2) % 2 = 1 := by omega
  have e3 : (2 * i + 2) / 2 - 1 = i := by omega
  simp only [e1, e2, e3, if_false] at this
  rw [this]; omega
theorem full_pos {v : α} {l r : Tr α} {n : Nat} (h : Full (node v l r) n) : 0 < n := (h 0).1 (by simp [get])
theorem get_push (t : Tr α) : ∀ (n : Nat) (x : α) (m : Nat), Full t n → (t.push n x).get m = if m = n then some x else t.get m := by
  induction t with
  | nil =>
    intro n x m h
    have hn : n = 0 := by
      have := (h 0).2
      cases n with
      | zero => rfl
      | succ n => exact absurd (this (by omega)) (by simp [get])
    subst hn
    simp only [push, get]
    by_cases hm : m = 0 <;> simp [hm]
  | node v l r ihl ihr =>
    intro n x m h
    have hp := full_pos h
    simp only [push]
    by_cases ho : n % 2 = 1
    · simp only [ho, if_true, get]
      by_cases hm : m = 0
      · subst hm
        have : (0 : Nat) ≠ n := by omega
        simp [this]
      · simp only [hm, if_false]
        by_cases hmo : m % 2 = 1
        · simp only [hmo, if_true]
          rw [ihl _ _ _ (full_left h)]
          have : (m / 2 = n / 2) ↔ m = n := by omega
          simp [this]
        · have : m ≠ n := by omega
          simp [hmo, this]
    · simp only [ho, if_false, get]
      by_cases hm : m = 0
      · subst hm
        have : (0 : Nat) ≠ n := by omega
        simp [this]
      · simp only [hm, if_false]
        by_cases hmo : m % 2 = 1
        · have : m ≠ n := by omega
          simp [hmo, this]
        · simp only [hmo, if_false]
          have hr := full_right h
          have : (n - 1) / 2 = n / 2 - 1 := by omega
          rw [this] at hr
          rw [ihr _ _ _ hr]
          have : (m / 2 - 1 = n / 2 - 1) ↔ m = n := by omega
          simp [this]
theorem full_push {t : Tr α} {n : Nat} (h : Full t n) (x : α) : Full (t.push n x) (n + 1) := fun i => by
  rw [get_push t n x i h]
  by_cases hi : i = n
  · subst hi; simp
  · simp only [hi, if_false]; rw [h i]; omega
theorem full_set {t : Tr α} {n : Nat} (h : Full t n) (k : Nat) (x : α) : Full (t.set k x) n := fun i => by
  cases hk : t.get k with
  | none => rw [set_none t k x hk]; exact h i
  | some v =>
    rw [get_set t k x i (by simp [hk])]
    by_cases hi : i = k
    · subst hi; simp only [if_true]; have := h i; rw [hk] at this; simpa using this
    · simp only [hi, if_false]; exact h i
theorem get_mapI (f : Nat → α → α) (t : Tr α) : ∀ (a s n : Nat), (mapI f a s t).get n = (t.get n).map (f (a + s * n)) := by
  induction t with
  | nil => intro a s n; simp [mapI, get]
  | node v l r ihl ihr =>
    intro a s n
    simp only [mapI, get]
    by_cases hn : n = 0
    · subst hn; simp
    · simp only [hn, if_false]
      by_cases ho : n % 2 = 1
      · simp only [ho, if_true]
        rw [ihl]
        have : a + s + 2 * s * (n / 2) = a + s * n := by
          have e : n = 2 * (n / 2) + 1 := by omega
          conv => rhs; rw [e]
          rw [Nat.mul_add, Nat.mul_one, ← Nat.mul_assoc, Nat.mul_comm s 2]; omega
        rw [this]
      · simp only [ho, if_false]
        rw [ihr]
        have : a + 2 * s + 2 * s * (n / 2 - 1) = a + s * n := by
          have e : n = 2 * (n / 2 - 1) + 2 := by omega
          conv => rhs; rw [e]
          rw [Nat.mul_add, ← Nat.mul_assoc, Nat.mul_comm s 2]; omega
        rw [this]
theorem full_mapI {t : Tr α} {n : Nat} (h : Full t n) (f : Nat → α → α) (a s : Nat) : Full (mapI f a s t) n := fun i => by
  rw [get_mapI]; simpa using h i
def ofListGo : List α → Nat → Tr α → Tr α
  | [], _, t => t
  | x :: xs, n, t => ofListGo xs (n + 1) (t.push n x)
def ofList (l : List α) : Tr α := ofListGo l 0 nil
theorem ofListGo_get : ∀ (l : List α) (n : Nat) (t : Tr α), Full t n → Full (ofListGo l n t) (n + l.length) ∧ ∀ i, (ofListGo l n t).get i = if i < n then t.get i else l[i - n]?
  | [], n, t, h => ⟨by simpa [ofListGo] using h, fun i => by
      simp only [ofListGo, List.getElem?_nil]
      by_cases hi : i < n
      · simp [hi]
      · simp only [hi, if_false]
        have := h i
        cases hg : t.get i with
        | none => rfl
        | some v => rw [hg] at this; exact absurd (this.1 rfl) hi⟩
  | x :: xs, n, t, h => by
    obtain ⟨h1, h2⟩ := ofListGo_get xs (n + 1) (t.push n x) (full_push h x)
    refine ⟨by simpa [ofListGo, Nat.add_assoc, Nat.add_comm 1] using h1, fun i => ?_⟩
    simp only [ofListGo]
    rw [h2 i, get_push t n x i h]
    by_cases hi : i < n
    · have : i < n + 1 := by omega
      have h' : i ≠ n := by omega
      simp [hi, this, h']
    · by_cases he : i = n
      · subst he; simp
      · have h1 : ¬ i < n + 1 := by omega
        simp only [h1, hi, if_false]
        have : i - n = (i - (n + 1)) + 1 := by omega
        rw [this]; simp
theorem ofList_full (l : List α) : Full (ofList l) l.length := by
  have := (ofListGo_get l 0 nil full_nil).1
  simpa [ofList] using this
theorem ofList_get (l : List α) (i : Nat) : (ofList l).get i = l[i]? := by
  have := (ofListGo_get l 0 nil full_nil).2 i
  simpa [ofList] using this
end Tr
end Go.Vx
