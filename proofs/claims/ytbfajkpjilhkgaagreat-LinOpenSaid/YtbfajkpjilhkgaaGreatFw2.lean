/- A part of the proof that doormanlaw21.LinOpen returns true for every input, on no condition. -/
import Derived.Test.YtbfajkpjilhkgaaGreatFw1
import GoSem.Dispatch
set_option linter.unusedVariables false
set_option linter.unusedSimpArgs false
/-! What an operation without memory yields, and that the model's operation does. -/
namespace Go.Dm
open Go

def isConstOp : Operand → Bool | .const _ => true | _ => false

def sizeP (P : Program) (t : TypeId) : Option Nat := (P.info? t).map (·.size)
def aggP (P : Program) (t : TypeId) : Option Bool := match P.underlying t with | some (.struct _) => some true | some (.array _ _) => some true | some _ => some false | none => none

/-- '==' of structs: by the model itself. -/
def structV (P : Program) (op : BinOp) (t : TypeId) (x y : Value) : Option Value :=
  match x, y with
  | .agg a, .agg b => match P.eqGuardType P.depth t, op with
    | false, .eql => (valS P (Op.equal t (.agg a) (.agg b))).map .bool
    | false, .neq => (valS P (Op.equal t (.agg a) (.agg b))).map fun b => .bool !b
    | _, _ => none
  | _, _ => none

def binP (P : Program) (op : BinOp) (t : TypeId) (x y : Operand) (a b : Value) : Option Value :=
  match P.underlying t with
  | some .bool => boolV op a b
  | some (.int _) => binV op a b
  | some .string => binV op a b
  | some (.pointer _) => ptrV op a b
  | some (.slice _) => slcV op a b
  | some (.func _ _ _) => fnV op a b
  | some (.interface _) => ifV (isConstOp x || isConstOp y) op a b
  | some (.struct _) => structV P op t a b
  | _ => none

/-- A list of operands' values. -/
def lm (ρ : Operand → Value) (a : Array Operand) : Array Value := (a.toList.map ρ).toArray
theorem lm_eq (ρ : Operand → Value) (a : Array Operand) : lm ρ a = a.map ρ := by unfold lm; apply Array.ext'; simp

/-- Where fields lie. -/
def placesL (P : Program) : List Field → Option (List (Nat × Nat))
  | [] => some []
  | f :: fs => match sizeP P f.type, placesL P fs with | some n, some l => some ((f.offset, n) :: l) | _, _ => none
def zeroP (P : Program) (t : TypeId) : Option (List Value) := match P.info? t with | some i => i.zero.map fun v => v.cells.toList | none => none
def bytesP (P : Program) (t : TypeId) : Option Nat := (P.info? t).map (·.bytes)
def splice (cs : List Value) (o : Nat) (xs : List Value) : List Value := cs.take o ++ xs ++ cs.drop (o + xs.length)
/-- Parts into a row of cells, each at its place. -/
def fillL (place : Nat → Option (Nat × Nat)) : List Value → List (Nat × Value) → Option (List Value)
  | cs, [] => some cs
  | cs, (i, v) :: rest => match place i with
    | none => none
    | some (off, size) => if v.cells.size = size ∧ off + size ≤ cs.length then fillL place (splice cs off v.cells.toList) rest else none
/-- A composite struct. -/
def buildV (places : List (Nat × Nat)) (zero : List Value) (parts : List (Nat × Value)) : Option Value :=
  (fillL (fun i => places[i]?) zero parts).map fun l => .agg l.toArray
def partsL (ρ : Operand → Value) (a : Array (Nat × Operand)) : List (Nat × Value) := a.toList.map fun p => (p.1, ρ p.2)

def max2V (mx : Bool) (x y : Value) : Option Value := match x, y with
  | .int k a, .int _ b => match mx with | true => some (.int k (if b > a then b else a)) | false => some (.int k (if b < a then b else a))
  | _, _ => none
def maxV (mx : Bool) : Value → List Value → Option Value
  | x, [] => some x
  | x, y :: r => match max2V mx x y with | some z => maxV mx z r | none => none

/-- The plain operations. -/
def pureV (P : Program) (ρ : Operand → Value) (op : Op) : Option Value :=
  match op with
  | .move x => some (ρ x)
  | .assign x => some (ρ x)
  | .pick c a b => pickV (ρ c) (ρ a) (ρ b)
  | .nilCheck x => nilV (ρ x)
  | .binOp op t x y _ => binP P op t x y (ρ x) (ρ y)
  | .unOp op _ x => unV op (ρ x)
  | .convert s d x => match P.underlying s, P.underlying d with | some (.int _), some (.int k) => cvtV k (ρ x) | _, _ => none
  | .makeInterface t x => match P.underlying t with | some (.pointer _) => some (.iface t (ρ x)) | _ => none
  | .makeFunc fn a b => some (.func fn (lm ρ a) (lm ρ b))
  | .fieldAddr s x f => match P.underlying s with
    | some (.struct fs) => match fs[f]? with
      | some fd => match sizeP P fd.type with
        | some (_ + 1) => addrV fd.offset (ρ x)
        | _ => none
      | none => none
    | _ => none
  | .field s x f => match P.underlying s with
    | some (.struct fs) => match fs[f]? with
      | some fd => match aggP P fd.type, sizeP P fd.type with
        | some a, some n => fieldV a fd.offset n (ρ x)
        | _, _ => none
      | none => none
    | _ => none
  | .indexAddr t x i => match P.underlying t with
    | some (.slice e) => match sizeP P e with | some n => idxSV n (ρ x) (ρ i) | none => none
    | some (.array l e) => match sizeP P e with | some n => idxAV l n (ρ x) (ρ i) | none => none
    | _ => none
  | .index t x i => match P.underlying t with
    | some .string => idxStrV (ρ x) (ρ i)
    | some (.array l e) => match aggP P e, sizeP P e with | some a, some n => idxArrV a l n (ρ x) (ρ i) | _, _ => none
    | _ => none
  | .extract x i => extV (ρ x) i
  | .slice t x lo hi mx => match P.underlying t with
    | some (.slice e) => match sizeP P e with
      | some n => match mx with | none => sliceV n (ρ x) (lo.map ρ) (hi.map ρ) | some m => slice3V n (ρ x) (lo.map ρ) (hi.map ρ) (some (ρ m))
      | none => none
    | some (.array l e) => match sizeP P e, mx with | some n, none => sliceAV l n (ρ x) (lo.map ρ) (hi.map ρ) | _, _ => none
    | _ => none
  | .build t parts => match P.underlying t with
    | some (.struct fs) => match placesL P fs.toList, zeroP P t with
      | some pl, some z => buildV pl z (partsL ρ parts)
      | _, _ => none
    | _ => none
  | .call { callee := .builtin .len, args, argTypes } => match argTypes[0]?, args[0]? with
    | some t, some x => match P.underlying t with
      | some (.slice _) => lenV (ρ x)
      | some .string => lenSV (ρ x)
      | _ => none
    | _, _ => none
  | .call { callee := .builtin .max, args, .. } => match args.toList.map ρ with | x :: r => maxV true x r | [] => none
  | .call { callee := .builtin .min, args, .. } => match args.toList.map ρ with | x :: r => maxV false x r | [] => none
  | .call { callee := .builtin .cap, args, argTypes } => match argTypes[0]?, args[0]? with
    | some t, some x => match P.underlying t with
      | some (.slice _) => capV (ρ x)
      | _ => none
    | _, _ => none
  | _ => none

/-- Is it of the plain kind? -/
def isPure (P : Program) : Op → Bool
  | .move _ | .assign _ | .pick .. | .nilCheck _ | .binOp .. | .unOp .. | .convert .. | .makeInterface .. | .makeFunc .. | .fieldAddr .. | .field .. | .indexAddr ..
  | .index .. | .extract .. | .slice .. | .build .. => true
  | .call { callee := .builtin .cap, .. } => true
  | .call { callee := .builtin .max, .. } => true
  | .call { callee := .builtin .min, .. } => true
  | .call { callee := .builtin .len, argTypes, .. } => match argTypes[0]? with
    | some t => match P.underlying t with | some (.map _ _) => false | _ => true
    | none => true
  | _ => false

section
variable {P : Program}

theorem valS_pure {α : Type} (a : α) : valS P (pure a) = some a := rfl
theorem valS_underlying {t : TypeId} {d : TypeDesc} (h : P.underlying t = some d) : valS P (underlying t) = some d := by
  show valS P (Sem.bind program _) = _
  simp only [program, Sem.bind, valS, h]; rfl
theorem valS_typeInfo {t : TypeId} {i : TypeInfo} (h : P.info? t = some i) : valS P (typeInfo t) = some i := by
  show valS P (Sem.bind program _) = _
  simp only [program, Sem.bind, valS, h]; rfl
theorem valS_sizeOf {t : TypeId} {n : Nat} (h : sizeP P t = some n) : valS P (sizeOf t) = some n := by
  simp only [sizeP, Option.map_eq_some_iff] at h
  obtain ⟨i, hi, rfl⟩ := h
  exact (valS_bind (valS_typeInfo hi)).trans rfl
theorem valS_isAgg {t : TypeId} {b : Bool} (h : aggP P t = some b) : valS P (isAgg t) = some b := by
  unfold aggP at h
  cases hu : P.underlying t with
  | none => rw [hu] at h; cases h
  | some d =>
    rw [hu] at h
    refine (valS_bind (valS_underlying hu)).trans ?_
    cases d <;> simp_all [valS_pure]

end
end Go.Dm
