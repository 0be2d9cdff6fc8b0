/- A part of the proof that doormanlaw21.LinOpen returns true for every input, on no condition. -/
import Derived.Calls
import Derived.Orders
import Derived.Defers
set_option linter.unusedVariables false
set_option linter.unusedSimpArgs false
/-! Frames as functions, the plain values of operations, the combinators of the printed conditions. -/
namespace Go.Dm
open Go

abbrev Env := Nat → Value

def upd (e : Env) (d : Nat) (v : Value) : Env := fun t => match Nat.beq t d with | true => v | false => e t
def upo (e : Env) (d : Option Nat) (v : Value) : Env := match d with | some d => upd e d v | none => e

def actOf (n : Nat) (ds : List Deferred) (e : Env) : Act := { tmps := Array.ofFn (n := n) fun i => e i.1, defers := ds }

theorem actOf_upd (n : Nat) (ds : List Deferred) (e : Env) (d : Nat) (v : Value) : actOf n ds (upd e d v) = (actOf n ds e).put (some d) v := by
  simp only [actOf, Act.put, upd]
  congr 1
  apply Array.ext
  · simp
  · intro i h1 h2
    rw [Array.getElem_setIfInBounds (by simpa using h1)]
    simp only [Array.getElem_ofFn]
    cases h : Nat.beq i d with
    | true => have := Nat.eq_of_beq_eq_true h; subst this; simp
    | false =>
      have : d ≠ i := fun hh => by subst hh; simp at h
      simp [this]

theorem actOf_upo (n : Nat) (ds : List Deferred) (e : Env) (d : Option Nat) (v : Value) : actOf n ds (upo e d v) = (actOf n ds e).put d v := by
  cases d with
  | none => rfl
  | some d => exact actOf_upd n ds e d v

/-- An operand's value. -/
def rd (n : Nat) (e : Env) : Operand → Value
  | .tmp t => match Nat.blt t n with | true => e t | false => undef
  | .const v => v
  | .global g => .pointer (some ⟨g, 0, none⟩)
  | .func f => .func (.func f) #[] #[]

theorem blt_lt {t n : Nat} (h : Nat.blt t n = true) : t < n := by rwa [Nat.blt_eq] at h
theorem blt_not {t n : Nat} (h : Nat.blt t n = false) : ¬ t < n := fun hh => by rw [← Nat.blt_eq] at hh; rw [hh] at h; cases h

theorem rd_eval (n : Nat) (ds : List Deferred) (e : Env) : (actOf n ds e).eval = rd n e := by
  funext x
  cases x with
  | tmp t =>
    simp only [Act.eval, actOf, rd]
    cases h : Nat.blt t n with
    | true => have := blt_lt h; simp [this]
    | false => have := blt_not h; simp [this]
  | const v => rfl
  | global g => rfl
  | func f => rfl

/-! ### Plain values -/

/-- Goes on with a value that must be there. -/
def pv {α : Type} (o : Option α) (k : α → Prop) : Prop := match o with | some v => k v | none => False
theorem pv_i {α : Type} {o : Option α} {v : α} {k : α → Prop} (h : o = some v) (hk : k v) : pv o k := by subst h; exact hk
theorem pv_e {α : Type} {o : Option α} {k : α → Prop} (h : pv o k) : ∃ v, o = some v ∧ k v := by
  cases o with
  | none => exact h.elim
  | some v => exact ⟨v, rfl, h⟩

def pickV (c a b : Value) : Option Value := match c with | .bool t => some (match t with | true => a | false => b) | _ => none
def nilV (x : Value) : Option Value := match x with
  | .pointer (some a) => some (.pointer (some a))
  | .func (.func f) a b => some (.func (.func f) a b)
  | .func (.yield l) a b => some (.func (.yield l) a b)
  | .iface t v => some (.iface t v)
  | _ => none
def addrV (off : Nat) (x : Value) : Option Value := match x with | .pointer (some ⟨b, o, none⟩) => some (.pointer (some ⟨b, o + off, none⟩)) | _ => none

def intBin (op : BinOp) (k : IntKind) (a b : Int) : Option Value := match op with
  | .add => some (.int k (k.wrap (a + b)))
  | .sub => some (.int k (k.wrap (a - b)))
  | .mul => some (.int k (k.wrap (a * b)))
  | .eql => some (.bool (a == b))
  | .neq => some (.bool (a != b))
  | .lss => some (.bool (a < b))
  | .leq => some (.bool (a ≤ b))
  | .gtr => some (.bool (a > b))
  | .geq => some (.bool (a ≥ b))
  | .quo => if b = 0 then none else some (.int k (k.wrap (a.tdiv b)))
  | .rem => if b = 0 then none else some (.int k (a.tmod b))
  | .and => some (.int k (k.wrap ((BitVec.ofInt k.bits a &&& BitVec.ofInt k.bits b).toNat)))
  | .or => some (.int k (k.wrap ((BitVec.ofInt k.bits a ||| BitVec.ofInt k.bits b).toNat)))
  | .xor => some (.int k (k.wrap ((BitVec.ofInt k.bits a ^^^ BitVec.ofInt k.bits b).toNat)))
  | .andNot => some (.int k (k.wrap ((BitVec.ofInt k.bits a &&& ~~~ BitVec.ofInt k.bits b).toNat)))
  | _ => none

def strBin (op : BinOp) (a b : ByteArray) : Option Value := match op with
  | .eql => some (.bool (a.toList == b.toList))
  | .neq => some (.bool !(a.toList == b.toList))
  | .lss => some (.bool (Op.bytesLess a.toList b.toList))
  | .geq => some (.bool !(Op.bytesLess a.toList b.toList))
  | .gtr => some (.bool !(Op.bytesLess a.toList b.toList || a.toList == b.toList))
  | .leq => some (.bool (Op.bytesLess a.toList b.toList || a.toList == b.toList))
  | _ => none

def boolBin (op : BinOp) (a b : Bool) : Option Value := match op with
  | .eql => some (.bool (a == b))
  | .neq => some (.bool !(a == b))
  | _ => none

def shiftV (op : BinOp) (k : IntKind) (a b : Int) : Option Value :=
  if b < 0 then none else match op with
  | .shl => some (.int k (k.wrap (a * 2 ^ (min b.toNat k.bits))))
  | .shr => some (.int k (a.fdiv (2 ^ (min b.toNat k.bits))))
  | _ => none

/-- 'x == nil' and the like. -/
def nilBin (op : BinOp) (isNil : Bool) : Option Value := match op with
  | .eql => some (.bool isNil)
  | .neq => some (.bool !isNil)
  | _ => none

def binV (op : BinOp) (x y : Value) : Option Value :=
  match x, y with
  | .int k a, .int k' b => match op with
    | .shl => shiftV .shl k a b
    | .shr => shiftV .shr k a b
    | op => if k = k' then intBin op k a b else none
  | .string a, .string b => strBin op a b
  | _, _ => none
def boolV (op : BinOp) (x y : Value) : Option Value := match x, y with | .bool a, .bool b => boolBin op a b | _, _ => none
def ptrV (op : BinOp) (x y : Value) : Option Value := match x, y with
  | .pointer none, .pointer b => nilBin op b.isNone
  | .pointer (some _), .pointer none => nilBin op false
  | _, _ => none
def slcV (op : BinOp) (x y : Value) : Option Value := match x, y with
  | .slice none _ _, .slice b _ _ => nilBin op b.isNone
  | .slice (some _) _ _, .slice none _ _ => nilBin op false
  | _, _ => none
def fnV (op : BinOp) (x y : Value) : Option Value := match x, y with
  | .func _ _ _, .nilFunc => nilBin op false
  | .nilFunc, .nilFunc => nilBin op true
  | _, _ => none
def ifV (cst : Bool) (op : BinOp) (x y : Value) : Option Value := match x, y with
  | .iface _ _, .nilIface => nilBin op false
  | .nilIface, .nilIface => match cst with | true => nilBin op true | false => none
  | _, _ => none

def unV (op : UnOp) (x : Value) : Option Value := match op, x with
  | .not, .bool b => some (.bool !b)
  | .neg, .int k n => some (.int k (k.wrap (0 - n)))
  | _, _ => none

def cvtV (k : IntKind) (x : Value) : Option Value := match x with | .int _ n => some (.int k (k.wrap n)) | _ => none
def fieldV (agg : Bool) (off size : Nat) (x : Value) : Option Value := match x with
  | .agg cs => match agg with | true => some (.agg (cs.extract off (off + size))) | false => cs[off]?
  | _ => none
def idxSV (size : Nat) (x i : Value) : Option Value := match x, i with
  | .slice (some ⟨b, o, none⟩) len _, .int _ i => if 0 ≤ i ∧ i < len then some (.pointer (some ⟨b, o + i.toNat * size, none⟩)) else none
  | _, _ => none
def idxAV (len size : Nat) (x i : Value) : Option Value := match x, i with
  | .pointer (some ⟨b, o, none⟩), .int _ i => if 0 ≤ i ∧ i < len then some (.pointer (some ⟨b, o + i.toNat * size, none⟩)) else none
  | _, _ => none
def idxStrV (x i : Value) : Option Value := match x, i with
  | .string s, .int _ i => match (if 0 ≤ i then s[i.toNat]? else none) with | some b => some (.int .u8 b.toNat) | none => none
  | _, _ => none
def idxArrV (agg : Bool) (len size : Nat) (x i : Value) : Option Value := match x, i with
  | .agg cs, .int _ i => if 0 ≤ i ∧ i < len then fieldV agg (i.toNat * size) size (.agg cs) else none
  | _, _ => none
def extV (x : Value) (i : Nat) : Option Value := match x with | .tuple vs => vs[i]? | _ => none
def lenV (x : Value) : Option Value := match x with | .slice _ n _ => some (.int .i64 n) | _ => none
def lenSV (x : Value) : Option Value := match x with | .string s => some (.int .i64 s.size) | _ => none
def capV (x : Value) : Option Value := match x with | .slice _ _ c => some (.int .i64 c) | _ => none

def intOf' : Value → Option Int | .int _ n => some n | _ => none
/-- 'x[lo:hi]' of a slice. -/
def sliceV (size : Nat) (x : Value) (lo hi : Option Value) : Option Value := match x with
  | .slice a len cap =>
    match (match hi with | none => some (len : Int) | some h => intOf' h), (match lo with | none => some 0 | some l => intOf' l) with
    | some h, some l =>
      if 0 ≤ h ∧ h ≤ cap ∧ 0 ≤ l ∧ l ≤ h then
        some (.slice (if cap = l.toNat then a else a.map (·.add (l.toNat * size))) (h.toNat - l.toNat) (cap - l.toNat))
      else none
    | _, _ => none
  | _ => none
/-- 'x[lo:hi:max]' of a slice. -/
def slice3V (size : Nat) (x : Value) (lo hi mx : Option Value) : Option Value := match x with
  | .slice a _ cap =>
    match (match hi with | none => none | some h => intOf' h), (match lo with | none => some 0 | some l => intOf' l), (match mx with | none => none | some m => intOf' m) with
    | some h, some l, some m =>
      if 0 ≤ m ∧ m ≤ cap ∧ 0 ≤ h ∧ h ≤ m ∧ 0 ≤ l ∧ l ≤ h then
        some (.slice (if m.toNat = l.toNat then a else a.map (·.add (l.toNat * size))) (h.toNat - l.toNat) (m.toNat - l.toNat))
      else none
    | _, _, _ => none
  | _ => none
/-- '(*array)[lo:hi]'. -/
def sliceAV (n size : Nat) (x : Value) (lo hi : Option Value) : Option Value := match x with
  | .pointer (some a) =>
    match (match hi with | none => some (n : Int) | some h => intOf' h), (match lo with | none => some 0 | some l => intOf' l) with
    | some h, some l =>
      if 0 ≤ h ∧ h ≤ n ∧ 0 ≤ l ∧ l ≤ h then
        some (.slice (some (if n = l.toNat then a else a.add (l.toNat * size))) (h.toNat - l.toNat) (n - l.toNat))
      else none
    | _, _ => none
  | _ => none

/-- Whatever a run without memory yields. -/
def valS {α : Type} (P : Program) : Sem α → Option α
  | .pure a => some a
  | .program k => valS P (k P)
  | _ => none

theorem valS_run {α : Type} {P : Program} : ∀ {s : Sem α} {a : α}, valS P s = some a → ∀ w, s.run P w = .ok a w
  | .pure _, _, h, w => by simp only [valS, Option.some.injEq] at h; subst h; rfl
  | .program k, _, h, w => by simp only [valS] at h; exact valS_run h w
  | .load .., _, h, _ => by cases h
  | .store .., _, h, _ => by cases h
  | .new .., _, h, _ => by cases h
  | .shape .., _, h, _ => by cases h
  | .freeze .., _, h, _ => by cases h
  | .frozen .., _, h, _ => by cases h
  | .getObj .., _, h, _ => by cases h
  | .setObj .., _, h, _ => by cases h
  | .choose .., _, h, _ => by cases h
  | .sys .., _, h, _ => by cases h
  | .mark .., _, h, _ => by cases h
  | .halt .., _, h, _ => by cases h

theorem valS_bind {α β : Type} {P : Program} {s : Sem α} {f : α → Sem β} {a : α} (h : valS P s = some a) : valS P (s >>= f) = valS P (f a) := by
  show valS P (s.bind f) = _
  induction s with
  | pure b => simp only [valS, Option.some.injEq] at h; subst h; rfl
  | program k ih => simp only [valS, Sem.bind] at h ⊢; exact ih _ h
  | _ => cases h

end Go.Dm
