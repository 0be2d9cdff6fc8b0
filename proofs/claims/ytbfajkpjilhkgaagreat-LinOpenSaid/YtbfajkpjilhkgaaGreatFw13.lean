/- A part of the proof that doormanlaw21.LinOpen returns true for every input, on no condition. -/
import Derived.Test.YtbfajkpjilhkgaaGreatFw12
set_option linter.unusedVariables false
set_option linter.unusedSimpArgs false
/-! What is asked of code, its boxes being kept apart from memory. -/
namespace Go.Dm
open Go

def bit (m t : Nat) : Bool := Nat.beq (Nat.land (Nat.shiftRight m t) 1) 1
def setb (m t : Nat) : Nat := Nat.lor m (Nat.shiftLeft 1 t)
def seto (m : Nat) (t : Option Nat) : Nat := match t with | some t => setb m t | none => m
def maskOf : List Nat → Nat | [] => 0 | t :: l => setb (maskOf l) t

abbrev BL := List (Nat × Nat × Bool)
abbrev DL := List (Nat × Nat × Nat)
def lookB : BL → Nat → Option (Nat × Bool)
  | [], _ => none
  | (t, p) :: l, x => match Nat.beq t x with | true => some p | false => lookB l x
def lookD : DL → Nat → Option (Nat × Nat)
  | [], _ => none
  | (t, p) :: l, x => match Nat.beq t x with | true => some p | false => lookD l x
def isPl (B : BL) (D : DL) (t : Nat) : Bool := match lookB B t, lookD D t with | none, none => true | _, _ => false
/-- No address derived of a box is at hand. -/
def noDer (L b : Nat) : DL → Bool
  | [] => true
  | (t, bt, _) :: l => match Nat.beq bt b, bit L t with | true, true => false | _, _ => noDer L b l

/-- Temps at hand; 0: memory is as it is, 1: boxes were made since, 2: written; whether there are boxes. -/
structure St where
  L : Nat
  d : Nat
  hx : Bool

inductive An where
  | nil
  | mk (j : List Nat) (d : Nat) (hx : Bool) (l r : An)
def An.st : An → St | .nil => ⟨0, 2, true⟩ | .mk j d hx _ _ => ⟨maskOf j, d, hx⟩
def An.js : An → List Nat | .nil => [] | .mk j _ _ _ _ => j
def An.lf : An → An | .nil => .nil | .mk _ _ _ l _ => l
def An.rt : An → An | .nil => .nil | .mk _ _ _ _ r => r

/-- Which box an operand points into. -/
def boxOf (B : BL) (D : DL) (L : Nat) : Operand → Option (Nat × Nat × Bool × Nat)
  | .tmp t => match bit L t with
    | true => match lookB B t with
      | some (k, g) => some (t, k, g, 0)
      | none => match lookD D t with
        | some (b, off) => match bit L b, lookB B b with | true, some (k, g) => some (b, k, g, off) | _, _ => none
        | none => none
    | false => none
  | _ => none
def okO (B : BL) (D : DL) (L : Nat) : Operand → Bool
  | .tmp t => match bit L t with | true => isPl B D t | false => false
  | _ => true
def okL (B : BL) (D : DL) (L : Nat) : List Operand → Bool
  | [] => true
  | x :: l => match okO B D L x with | true => okL B D L l | false => false
def optL : Option Operand → List Operand | some x => [x] | none => []
def sndL : List (Nat × Operand) → List Operand | [] => [] | p :: l => p.2 :: sndL l
/-- What an operation reads. -/
def opsO : Op → List Operand
  | .move x | .assign x | .box _ x | .load _ x | .nilCheck x | .unOp _ _ x | .convert _ _ x | .makeInterface _ x | .fieldAddr _ x _ | .field _ x _ | .extract x _ => [x]
  | .pick c a b => [c, a, b]
  | .build _ ps | .buildSlice _ _ ps => sndL ps.toList
  | .store _ a v | .binOp _ _ a v _ | .makeSlice _ a v | .indexAddr _ a v | .index _ a v | .lookup _ a v _ => [a, v]
  | .makeFunc _ a b => a.toList ++ b.toList
  | .slice _ x l h m => x :: (optL l ++ optL h ++ optL m)
  | .mapUpdate _ m k v => [m, k, v]
  | .call { callee := .value f, args, .. } => f :: args.toList
  | .call { callee := .invoke r _, args, .. } => r :: args.toList
  | .call { callee := .builtin _, args, .. } => args.toList
  | _ => []

/-- Effects, without those that nothing is known of. -/
def effB (P : Program) (ρ : Operand → Value) (o : Oper) (w : World) (K : Value → World → Prop) : Prop :=
  match o.op with
  | .call { callee := .builtin b, args, argTypes } => match builtinC P ρ b args.toList argTypes.toList w K with
    | some p => p
    | none => False
  | _ => effC P ρ o w K

/-- Does it write nothing that was there? -/
def makes : Op → Bool
  | .alloc _ | .box _ _ | .buildSlice _ _ _ | .makeSlice _ _ _ | .makeMap _ _ | .lookup _ _ _ _ => true
  | _ => false
def isLd : Op → Bool | .load _ _ => true | _ => false

/-- Memory with the boxes as they are. -/
structure Sy (u : World) (X : Nat → Prop) (w : World) (X' : Nat → Prop) : Prop where
  fr : Fr X u w
  sub : ∀ b, X' b → X b ∨ u.heap.size ≤ b
  lt : ∀ b, X' b → b < w.heap.size
  mono : ∀ b, X b → X' b
def syC (u : World) (X : Nat → Prop) (K : World → (Nat → Prop) → Prop) : Prop := ∀ w X', Sy u X w X' → K w X'
/-- The boxes are as they were. -/
def kp (X : Nat → Prop) (w w' : World) : Prop := ∀ b, X b → w'.heap[b]? = w.heap[b]?
def kpIf (hx : Bool) (X : Nat → Prop) (w w' : World) (p : Prop) : Prop := match hx with | true => kp X w w' ∧ p | false => p

abbrev KT := St → Env → World → (Nat → Prop) → Prop
def syIf (c : Bool) (st : St) (u : World) (X : Nat → Prop) (K : St → World → (Nat → Prop) → Prop) : Prop :=
  match c with | true => syC u X fun w X' => K ⟨st.L, 0, true⟩ w X' | false => K st u X


/-- Zero cells that fill a box. -/
def okZ (g : Bool) (z : List Value) : Bool := match g with
  | true => true
  | false => match z with | [v] => one1 v | _ => false
def okB (g : Bool) (k : Nat) (v : Value) : Bool := match g with
  | true => match v with | .agg cs => Nat.beq cs.size k && cs.toList.all one1 | _ => false
  | false => one1 v
def ofC (g : Bool) (z : List Value) : Value := match g with
  | true => .agg z.toArray
  | false => match z with | v :: _ => v | [] => undef
def ldB (g' : Bool) (off sz : Nat) (g : Bool) (k : Nat) (c : Value) (K : Value → Prop) : Prop :=
  match (Nat.beq off 0 && Nat.beq sz k), g, g' with
  | true, true, true => K c
  | true, false, false => K c
  | _, true, _ => match Nat.ble (off + sz) k with | true => pv (fieldV g' off sz c) K | false => False
  | _, _, _ => False
/-- A box's content with a part written. -/
def setV (off sz : Nat) (c v : Value) : Option Value := match c with
  | .agg cs => if v.cells.size = sz ∧ off + sz ≤ cs.size ∧ v.cells.toList.all one1 = true then some (.agg (splice cs.toList off v.cells.toList).toArray) else none
  | _ => none
def stB (off sz : Nat) (g : Bool) (k : Nat) (c v : Value) (K : Value → Prop) : Prop :=
  match (Nat.beq off 0 && Nat.beq sz k), g with
  | true, true => okB true k v = true ∧ K v
  | true, false => okB false k v = true ∧ K v
  | false, true => pv (setV off sz c v) K
  | false, false => False

section
variable (P : Program) (n : Nat) (B : BL) (D : DL)

def coreB (st : St) (e : Env) (u : World) (X : Nat → Prop) (o : Oper) (G : Value → World → Prop) : Prop :=
  match isLd o.op with
  | true => match o.op with
    | .load t a => match aggP P t, sizeP P t with
      | some g', some sz => match boxOf B D st.L a with
        | some (b, k, g, off) => ldB g' off sz g k (e b) fun v => G v u
        | none => match okO B D st.L a, Nat.blt st.d 2 with
          | true, true => ldC u g' sz (rd n e a) fun v => G v u
          | _, _ => False
      | _, _ => False
    | _ => False
  | false => match okL B D st.L (opsO o.op) with
    | false => False
    | true => match isPure P o.op with
      | true => pv (pureV P (rd n e) o.op) fun v => G v u
      | false => match Nat.beq st.d 0 with
        | false => False
        | true => match makes o.op with
          | true => effB P (rd n e) o u G
          | false => effB P (rd n e) o u fun v u' => kpIf st.hx X u u' (G v u')

/-- Has memory to be made as it is, ahead of this? -/
def needS (st : St) (o : Oper) : Bool := match isLd o.op with
  | true => match o.op with
    | .load _ a => match boxOf B D st.L a with | some _ => false | none => Nat.ble 2 st.d
    | _ => true
  | false => match isPure P o.op with | true => false | false => Nat.ble 1 st.d

def dstOk (dst : Option Nat) : Bool := match dst with | none => true | some t => isPl B D t
def putSt (st : St) (dst : Option Nat) : St := ⟨seto st.L dst, st.d, st.hx⟩

def genB (st : St) (e : Env) (u : World) (X : Nat → Prop) (o : Oper) (K : KT) : Prop :=
  match dstOk B D o.dst with
  | false => False
  | true => syIf (needS P B D st o) st u X fun st u X => coreB P n B D st e u X o fun v u' => K (putSt st o.dst) (upo e o.dst v) u' X

def gokB (L : Nat) (ops : Array Oper) (j : Nat) : Bool := match ops[j]? with
  | some o => match o.dst with | some t => (match bit L t with | true => isPl B D t | false => false) | none => true
  | none => true

def opB (ops : Array Oper) (st : St) (e : Env) (u : World) (X : Nat → Prop) (o : Oper) (K : KT) : Prop :=
  match o.guard with
  | some (j, want) => match gokB B D st.L ops j, dstOk B D o.dst with
    | true, true => syIf (needS P B D st o) st u X fun st u X =>
        gd (gval n e ops j) want (fun G => coreB P n B D st e u X o G) (fun v u' => K (putSt st o.dst) (upo e o.dst v) u' X) u
    | _, _ => False
  | none => match o.op with
    | .alloc t => match o.dst with
      | some d => match lookB B d with
        | some (k, g) => match zeroP P t, aggP P t, noDer st.L d D, Nat.blt d n with
          | some z, some g', true, true => match Nat.beq z.length k && (g' == g) && okZ g z with
            | true => K ⟨setb st.L d, max st.d 1, st.hx⟩ (upd e d (ofC g z)) u X
            | false => False
          | _, _, _, _ => False
        | none => genB P n B D st e u X o K
      | none => genB P n B D st e u X o K
    | .box t x => match o.dst with
      | some d => match lookB B d with
        | some (k, g) => match okO B D st.L x, noDer st.L d D, Nat.blt d n, (g || Nat.beq k 1) with
          | true, true, true, true => okB g k (rd n e x) = true ∧ K ⟨setb st.L d, max st.d 1, st.hx⟩ (upd e d (rd n e x)) u X
          | _, _, _, _ => False
        | none => genB P n B D st e u X o K
      | none => genB P n B D st e u X o K
    | .store t a x => match boxOf B D st.L a with
      | some (b, k, g, off) => match okO B D st.L x, sizeP P t, o.dst with
        | true, some sz, none => stB off sz g k (e b) (rd n e x) fun c => K ⟨st.L, 2, st.hx⟩ (upd e b c) u X
        | _, _, _ => False
      | none => genB P n B D st e u X o K
    | .fieldAddr s x f => match boxOf B D st.L x with
      | some (b, k, g, off) => match P.underlying s, o.dst with
        | some (.struct fs), some d => match fs[f]?, lookD D d, Nat.blt d n with
          | some fd, some (b', off'), true => match Nat.beq b' b && Nat.beq off' (off + fd.offset) && (match sizeP P fd.type with | some (_ + 1) => true | _ => false) && (match lookB B d with | none => true | some _ => false) with
            | true => K ⟨setb st.L d, st.d, st.hx⟩ e u X
            | false => False
          | _, _, _ => False
        | _, _ => False
      | none => genB P n B D st e u X o K
    | _ => genB P n B D st e u X o K

/-- Operations of one guard. -/
def sameG (j : Nat) (want : Bool) (o : Oper) : Bool := match o.guard with | some (j', w') => Nat.beq j j' && (want == w') | none => false
def takeG (j : Nat) (want : Bool) : List Oper → List Oper
  | [] => []
  | o :: l => match sameG j want o with | true => o :: takeG j want l | false => []
def dropG (j : Nat) (want : Bool) : List Oper → List Oper
  | [] => []
  | o :: l => match sameG j want o with | true => dropG j want l | false => o :: l
/-- Are their results new, and none the guard? -/
def freshG (L : Nat) (gt : Option Nat) : List Oper → Bool
  | [] => true
  | o :: l => match o.dst with
    | none => freshG L gt l
    | some t => match bit L t, (match gt with | some g => Nat.beq g t | none => false) with | false, false => freshG L gt l | _, _ => false

abbrev GJ := List Nat × Nat × Bool
/-- Operations one behind the other, their guard being met. -/
def runB : List Oper → St → Env → World → (Nat → Prop) → KT → Prop
  | [], st, e, u, X, K => K st e u X
  | o :: l, st, e, u, X, K => match o.op with
    | .fieldAddr s x f => match boxOf B D st.L x with
      | some (b, k, g, off) => match P.underlying s, o.dst with
        | some (.struct fs), some d => match fs[f]?, lookD D d, Nat.blt d n with
          | some fd, some (b', off'), true => match Nat.beq b' b && Nat.beq off' (off + fd.offset) && (match sizeP P fd.type with | some (_ + 1) => true | _ => false) && (match lookB B d with | none => true | some _ => false) with
            | true => runB l ⟨setb st.L d, st.d, st.hx⟩ e u X K
            | false => False
          | _, _, _ => False
        | _, _ => False
      | none => genB P n B D st e u X o fun st e u X => runB l st e u X K
    | _ => genB P n B D st e u X o fun st e u X => runB l st e u X K

def trimE : List Nat → Env → Env
  | [], _ => fun _ => undef
  | t :: l, e => upd (trimE l e) t (e t)
def ovrE : List Nat → Env → Env → Env
  | [], e, _ => e
  | t :: l, e, v => upd (ovrE l e v) t (v t)
def toG (L : Nat) (J : GJ) (st : St) (e : Env) (u : World) (X : Nat → Prop) (K : Env → World → (Nat → Prop) → Prop) : Prop :=
  syIf (Nat.blt J.2.1 st.d) st u X fun st u X =>
    match Nat.beq (Nat.land L st.L) L, (match st.hx with | true => J.2.2 | false => true) with
    | true, true => K (trimE J.1 e) u X
    | _, _ => False
def gdB (v : Value) (want : Bool) (A Z : (Env → World → (Nat → Prop) → Prop) → Prop) (K : Env → World → (Nat → Prop) → Prop) : Prop :=
  (boolOf v = some want → A K) ∧ (boolOf v ≠ some want → Z K)

def dstIn (t : Nat) : List Oper → Bool
  | [] => false
  | o :: l => match o.dst with | some d => (match Nat.beq d t with | true => true | false => dstIn t l) | none => dstIn t l
def subD (run : List Oper) : List Nat → Bool | [] => true | t :: l => match dstIn t run with | true => subD run l | false => false
def allPl (B : BL) (D : DL) : List Nat → Bool | [] => true | t :: l => match isPl B D t with | true => allPl B D l | false => false
def listB (ops : Array Oper) : Nat → List GJ → List Oper → St → Env → World → (Nat → Prop) → KT → Prop
  | 0, _, l, st, e, u, X, K => match l with | [] => K st e u X | _ :: _ => False
  | _ + 1, _, [], st, e, u, X, K => K st e u X
  | m + 1, gs, o :: l, st, e, u, X, K => match o.guard, gs with
    | some (j, want), J :: gs => match gokB B D st.L ops j, freshG st.L ((ops[j]?).bind (·.dst)) (takeG j want (o :: l)), allPl B D J.1 && subD (takeG j want (o :: l)) J.1 with
      | true, true, true => gdB (gval n e ops j) want
          (fun N => runB P n B D (takeG j want (o :: l)) st e u X fun st' e u X => toG (Nat.lor (maskOf J.1) st.L) J st' e u X N)
          (fun N => toG (Nat.lor (maskOf J.1) st.L) J ⟨Nat.lor (maskOf J.1) st.L, st.d, st.hx⟩ (fun _ => undef) u X N)
          (fun v u X => listB ops m gs (dropG j want (o :: l)) ⟨Nat.lor (maskOf J.1) st.L, J.2.1, J.2.2⟩ (ovrE J.1 e v) u X K)
      | _, _, _ => False
    | _, _ => opB P n B D ops st e u X o fun st e u X => listB ops m gs l st e u X K

/-- A load that was done still yields what it did. -/
def stillB (ops : Array Oper) (st : St) (r : Nat) (e : Env) (u : World) (Y : Prop) : Prop :=
  match ops[r]? with
  | some o => match o.op, o.dst with
    | .load t a, some d => match aggP P t, sizeP P t, bit st.L d && isPl B D d && Nat.blt d n with
      | some g, some k, true => match boxOf B D st.L a with
        | some (b, k', g', off) => match o.guard with
          | none => ldB g off k g' k' (e b) (fun v => v = e d) ∧ Y
          | some (j, want) => match gokB B D st.L ops j with
            | true => (boolOf (gval n e ops j) = some want → ldB g off k g' k' (e b) (fun v => v = e d)) ∧ Y
            | false => False
        | none => match okO B D st.L a, Nat.blt st.d 2 with
          | true, true => match o.guard with
            | none => Ld u g k (rd n e a) (rd n e (.tmp d)) ∧ Y
            | some (j, want) => match gokB B D st.L ops j with
              | true => (boolOf (gval n e ops j) = some want → Ld u g k (rd n e a) (rd n e (.tmp d))) ∧ Y
              | false => False
          | _, _ => False
      | _, _, _ => False
    | _, _ => False
  | none => False
def stillsB (ops : Array Oper) (st : St) : List Nat → Env → World → Prop → Prop
  | [], _, _, Y => Y
  | r :: rs, e, u, Y => stillB P n B D ops st r e u (stillsB ops st rs e u Y)

def treeB (ops : Array Oper) (masks : List Nat) : BT → List Nat → St → Env → World → (Nat → Prop) → KT → Prop
  | .nil, _, st, e, u, X, K => K st e u X
  | .cons i t, E, st, e, u, X, K => match ops[i]? with
    | none => False
    | some o => opB P n B D ops st e u X o fun st e u X => stillsB P n B D ops st (pends P ops masks i E) e u (treeB ops masks t (i :: E) st e u X K)
  | .both a b, E, st, e, u, X, K => treeB ops masks a E st e u X K ∧ treeB ops masks b E st e u X K

/-- Operations in one order, in which no load is read again. -/
def linT : BT → Option (List Nat)
  | .nil => some []
  | .cons i t => match linT t with | some l => some (i :: l) | none => none
  | .both _ _ => none
def permO (ops : Array Oper) : List Nat → List Oper
  | [] => []
  | i :: l => match ops[i]? with | some o => o :: permO ops l | none => permO ops l
def npend (P : Program) (ops : Array Oper) (masks : List Nat) : List Nat → List Nat → Bool
  | _, [] => true
  | E, i :: l => match ops[i]?, pends P ops masks i E with | some _, [] => npend P ops masks (i :: E) l | _, _ => false

/-- On to where ways meet. -/
def toJ (j : An) (st : St) (e : Env) (u : World) (X : Nat → Prop) (K : Env → World → (Nat → Prop) → Prop) : Prop :=
  syIf (Nat.blt j.st.d st.d) st u X fun st u X =>
    match Nat.beq (Nat.land j.st.L st.L) j.st.L, (match st.hx with | true => j.st.hx | false => true) with
    | true, true => K (trimE j.js e) u X
    | _, _ => False

def jnB (A : (Env → World → (Nat → Prop) → Prop) → Prop) (K : Env → World → (Nat → Prop) → Prop) : Prop := A K
/-- A loop: what holds at each round's head, with a number that falls. -/
def lpB (F : Env → World → (Nat → Prop) → (Env → World → (Nat → Prop) → Prop) → Prop) (e : Env) (u : World) (X : Nat → Prop) : Prop :=
  ∃ I : Nat → Env → World → (Nat → Prop) → Prop, (∃ m, I m e u X) ∧ ∀ m e1 u1 X1, I m e1 u1 X1 → F e1 u1 X1 fun e2 u2 X2 => ∃ m', m' < m ∧ I m' e2 u2 X2

abbrev QB := Exit → KT
def thnB (K : KT) (Q : QB) : QB := fun ex st e u X => match ex with | .normal => K st e u X | ex => Q ex st e u X
def inBB (id : Nat) (Q : QB) : QB := fun ex st e u X => match ex with
  | .exit i => match Nat.beq i id with | true => Q .normal st e u X | false => Q (.exit i) st e u X
  | ex => Q ex st e u X

abbrev GM := List (Nat × List GJ)
def lookG : GM → Nat → List GJ
  | [], _ => []
  | (i, p) :: l, k => match Nat.beq i k with | true => p | false => lookG l k

def hasBoth : BT → Bool | .nil => false | .cons _ t => hasBoth t | .both _ _ => true
/-- Do several ways lead on? -/
def multiB (pm : Plans) : Code → Bool
  | .region id _ true => hasBoth (lookP pm id).1
  | c => multi c

def vcB (pm : Plans) (gm : GM) : Code → An → St → Env → World → (Nat → Prop) → QB → Prop
  | .skip, _, st, e, u, X, Q => Q .normal st e u X
  | .label _, _, st, e, u, X, Q => Q .normal st e u X
  | .region id ops d, _, st, e, u, X, Q => match d with
    | false => listB P n B D ops ops.size (lookG gm id) ops.toList st e u X fun st e u X => Q .normal st e u X
    | true => match drawOk P n ops (lookP pm id).1 (lookP pm id).2 with
      | true => syIf (Nat.ble 1 st.d) st u X fun st u X => match linT (lookP pm id).1 with
        | some l => match npend P ops (lookP pm id).2 [] l with
          | true => listB P n B D ops l.length (lookG gm id) (permO ops l) st e (drewW u) X fun st e u X => Q .normal st e u X
          | false => treeB P n B D ops (lookP pm id).2 (lookP pm id).1 [] st e (drewW u) X fun st e u X => Q .normal st e u X
        | none => treeB P n B D ops (lookP pm id).2 (lookP pm id).1 [] st e (drewW u) X fun st e u X => Q .normal st e u X
      | false => False
  | .seq a b, an, st, e, u, X, Q => match multiB pm a with
    | false => vcB pm gm a an.lf st e u X (thnB (fun st e u X => vcB pm gm b an.rt st e u X Q) Q)
    | true => jnB (fun K => vcB pm gm a an.lf st e u X (thnB (fun st e u X => toJ an st e u X K) Q)) fun e u X => vcB pm gm b an.rt an.st e u X Q
  | .cond c a b, an, st, e, u, X, Q => match okO B D st.L c with
    | true => condC (rd n e c) (vcB pm gm a an.lf st e u X Q) (vcB pm gm b an.rt st e u X Q)
    | false => False
  | .block id c, an, st, e, u, X, Q => vcB pm gm c an st e u X (inBB id Q)
  | .loop c, an, st, e, u, X, Q => toJ an st e u X fun e u X => lpB (fun e u X N => vcB pm gm c an.lf an.st e u X (thnB (fun st e u X => toJ an st e u X N) Q)) e u X
  | .exit id, _, st, e, u, X, Q => Q (.exit id) st e u X
  | .ret, _, st, e, u, X, Q => Q .ret st e u X
  | .scope c, an, st, e, u, X, Q => vcB pm gm c an st e u X Q
  | _, _, _, _, _, _, _ => False

def resB : List ResultVar → St → Env → World → (List Value → Prop) → Prop
  | [], _, _, _, K => K []
  | .tmp t :: rs, st, e, u, K => match okO B D st.L (.tmp t) with
    | true => resB rs st e u fun vs => K (rd n e (.tmp t) :: vs)
    | false => False
  | .cell a t :: rs, st, e, u, K => match aggP P t, sizeP P t with
    | some g, some k => match boxOf B D st.L (.tmp a) with
      | some (b, k', g', off) => ldB g off k g' k' (e b) fun v => resB rs st e u fun vs => K (v :: vs)
      | none => match okO B D st.L (.tmp a), Nat.blt st.d 2 with
        | true, true => ldC u g k (rd n e (.tmp a)) fun v => resB rs st e u fun vs => K (v :: vs)
        | _, _ => False
    | _, _ => False
/-- Is some result in memory? -/
def realR (L : Nat) : List ResultVar → Bool
  | [] => false
  | .tmp _ :: rs => realR L rs
  | .cell a _ :: rs => match boxOf B D L (.tmp a) with | some _ => realR L rs | none => true

def finB (rs : List ResultVar) (R : Value → World → Prop) : QB := fun ex st e u X => match ex with
  | .normal => resB P n B D rs st e u fun vs => syIf (Nat.ble 1 st.d) st u X fun _ u _ => R (oneOr vs) u
  | .ret => resB P n B D rs st e u fun vs => syIf (Nat.ble 1 st.d) st u X fun _ u _ => R (oneOr vs) u
  | _ => False

def argMask : Nat → Nat | 0 => 0 | k + 1 => setb (argMask k) k
def argsOk (B : BL) (D : DL) : Nat → Bool | 0 => true | k + 1 => match isPl B D k with | true => argsOk B D k | false => false
end

/-- What is asked of a function's body, its boxes being kept apart. -/
def vcFB (P : Program) (B : BL) (D : DL) (an : An) (pm : Plans) (gm : GM) (f : FuncId) (args : List Value) (w : World) (R : Value → World → Prop) : Prop :=
  match P.funcs[f]? with
  | some fn => match fn.body, Nat.ble args.length fn.ntmps with
    | some c, true => match argsOk B D args.length with
      | true => vcB P fn.ntmps B D pm gm c an ⟨argMask args.length, 0, false⟩ (envOf args) w no (finB P fn.ntmps B D fn.results.toList R)
      | false => False
    | _, _ => False
  | none => False
end Go.Dm
