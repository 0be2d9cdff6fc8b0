/- A part of the proof that doormanlaw21.LinOpen returns true for every input, on no condition. -/
import Derived.Test.YtbfajkpjilhkgaaGreatC1
set_option linter.unusedVariables false
set_option linter.unusedSimpArgs false
set_option linter.deprecated false
/-! Structs held against each other. -/
namespace Go.Dm
open Go Go.Proofs

def eqFs (P : Program) (d : Nat) (xs ys : Array Value) : List (Bool × TypeId × Nat) → Option Bool
  | [] => some true
  | (true, t, o) :: fs => (match valS P (part t xs o), valS P (part t ys o) with
       | some a, some b => match valS P (Op.equalIn d t a b) with
         | some true => eqFs P d xs ys fs
         | some false => some false
         | none => none
       | _, _ => none)
  | (false, _, _) :: fs => eqFs P d xs ys fs
def fieldsOf (P : Program) (t : TypeId) : Option (List (Bool × TypeId × Nat)) := match P.underlying t, P.stoodInHeld t with
  | some (.struct fs), false => some (fs.toList.map fun f => (decide (f.name ≠ "_"), f.type, f.offset))
  | _, _ => none

theorem equal_struct {P : Program} {t : TypeId} {l : List (Bool × TypeId × Nat)} {d : Nat} {xs ys : Array Value} {r : Bool} (hl : fieldsOf P t = some l) (h : eqFs P d xs ys l = some r) :
    valS P (Op.equalIn (d + 1) t (.agg xs) (.agg ys)) = some r := by
  unfold fieldsOf at hl
  split at hl
  · rename_i fields hu hs
    simp only [Option.some.injEq] at hl
    unfold Op.equalIn
    rw [valS_bind (valS_underlying hu)]
    have hp : valS P program = some P := rfl
    dsimp only []
    rw [valS_bind hp, hs]
    simp only [Bool.false_eq_true, if_false]
    rw [← Array.forIn_toList]
    subst hl
    generalize fields.toList = l at h
    induction l with
    | nil => simp only [eqFs, List.map_nil, Option.some.injEq] at h; subst h; rfl
    | cons f l ih =>
      rw [List.map_cons] at h
      rw [List.forIn_cons]
      by_cases hf : f.name ≠ "_"
      · rw [if_pos hf]
        rw [decide_eq_true hf] at h
        simp only [eqFs] at h
        split at h
        · rename_i a b ha hb
          split at h
          · rename_i he
            simp only [bind_assoc]
            rw [valS_bind ha, valS_bind hb, valS_bind he]
            exact ih h
          · rename_i he
            simp only [bind_assoc]
            rw [valS_bind ha, valS_bind hb, valS_bind he]
            exact h
          · cases h
        · cases h
      · rw [if_neg hf]
        rw [decide_eq_false hf] at h
        exact ih h
  · cases hl

theorem part_cell {P : Program} {t : TypeId} (ha : aggP P t = some false) {xs : Array Value} {o : Nat} {v : Value} (h : xs[o]? = some v) : valS P (part t xs o) = some v := by
  unfold part
  rw [valS_bind (valS_isAgg ha)]
  simp only [Bool.false_eq_true, if_false, h]; rfl
theorem part_aggs {P : Program} {t : TypeId} {n : Nat} (ha : aggP P t = some true) (hn : sizeP P t = some n) {xs : Array Value} {o : Nat} : valS P (part t xs o) = some (.agg (xs.extract o (o + n))) := by
  unfold part
  rw [valS_bind (valS_isAgg ha)]
  simp only [if_true]
  rw [valS_bind (valS_sizeOf hn)]; rfl
theorem eq_int {P : Program} {t : TypeId} {k : IntKind} (h : P.underlying t = some (.int k)) (d : Nat) (a b : Int) : valS P (Op.equalIn (d + 1) t (.int k a) (.int k b)) = some (decide (a = b)) := by
  unfold Op.equalIn
  rw [valS_bind (valS_underlying h)]
  simp only [if_true, valS_pure]
  by_cases hh : a = b <;> simp [hh]
theorem eq_bool {P : Program} {t : TypeId} (h : P.underlying t = some .bool) (d : Nat) (a b : Bool) : valS P (Op.equalIn (d + 1) t (.bool a) (.bool b)) = some (decide (a = b)) := by
  unfold Op.equalIn
  rw [valS_bind (valS_underlying h)]
  simp only [valS_pure]
  cases a <;> cases b <;> rfl
theorem eq_str {P : Program} {t : TypeId} (h : P.underlying t = some .string) (d : Nat) (a b : ByteArray) : valS P (Op.equalIn (d + 1) t (.string a) (.string b)) = some (decide (a = b)) := by
  unfold Op.equalIn
  rw [valS_bind (valS_underlying h)]
  simp only [valS_pure, ba_eq]

theorem structV_n {P : Program} {t : TypeId} {xs ys : Array Value} {r : Bool} (hg : P.eqGuardType P.depth t = false) (h : valS P (Op.equalIn (9999 + 1) t (.agg xs) (.agg ys)) = some r) : structV P .neq t (.agg xs) (.agg ys) = some (.bool !r) := by
  have : valS P (Op.equal t (.agg xs) (.agg ys)) = some r := h
  unfold structV
  simp only [hg, this, Option.map_some]
theorem structV_e {P : Program} {t : TypeId} {xs ys : Array Value} {r : Bool} (hg : P.eqGuardType P.depth t = false) (h : valS P (Op.equalIn (9999 + 1) t (.agg xs) (.agg ys)) = some r) : structV P .eql t (.agg xs) (.agg ys) = some (.bool r) := by
  have : valS P (Op.equal t (.agg xs) (.agg ys)) = some r := h
  unfold structV
  simp only [hg, this, Option.map_some]

theorem u3 : Tryz.prog.underlying 3 = some (.int .i64) := by kernel_rfl
theorem a3 : aggP Tryz.prog 3 = some false := by kernel_rfl
theorem u4 : Tryz.prog.underlying 4 = some .bool := by kernel_rfl
theorem a4 : aggP Tryz.prog 4 = some false := by kernel_rfl
theorem u9 : Tryz.prog.underlying 9 = some .string := by kernel_rfl
theorem a9 : aggP Tryz.prog 9 = some false := by kernel_rfl
theorem u22 : Tryz.prog.underlying 22 = some (.int .u64) := by kernel_rfl
theorem a22 : aggP Tryz.prog 22 = some false := by kernel_rfl
theorem a150 : aggP Tryz.prog 150 = some true := by kernel_rfl
theorem z150 : sizeP Tryz.prog 150 = some 3 := by kernel_rfl
theorem l24 : fieldsOf Tryz.prog 24 = some [(true, 3, 0), (true, 3, 1), (true, 3, 2), (true, 3, 3), (true, 3, 4), (true, 22, 5), (true, 22, 6)] := by kernel_rfl
theorem l75 : fieldsOf Tryz.prog 75 = some [(true, 22, 0), (true, 22, 1), (true, 4, 2)] := by kernel_rfl
theorem l150 : fieldsOf Tryz.prog 150 = some [(true, 3, 0), (true, 3, 1), (true, 3, 2)] := by kernel_rfl
theorem l152 : fieldsOf Tryz.prog 152 = some [(true, 9, 0), (true, 150, 1), (true, 150, 4), (true, 22, 7)] := by kernel_rfl
theorem l154 : fieldsOf Tryz.prog 154 = some [(true, 3, 0), (true, 3, 1), (true, 3, 2)] := by kernel_rfl
theorem l357 : fieldsOf Tryz.prog 357 = some [(true, 3, 0), (true, 3, 1), (true, 3, 2), (true, 22, 3)] := by kernel_rfl
theorem g75 : Tryz.prog.eqGuardType Tryz.prog.depth 75 = false := by kernel_rfl
theorem g150 : Tryz.prog.eqGuardType Tryz.prog.depth 150 = false := by kernel_rfl
theorem g152 : Tryz.prog.eqGuardType Tryz.prog.depth 152 = false := by kernel_rfl
theorem g154 : Tryz.prog.eqGuardType Tryz.prog.depth 154 = false := by kernel_rfl
theorem g357 : Tryz.prog.eqGuardType Tryz.prog.depth 357 = false := by kernel_rfl

/-- One field of several. -/
theorem eqFs_c {P : Program} {d : Nat} {xs ys : Array Value} {t o : Nat} {l : List (Bool × TypeId × Nat)} {a b : Value} {c r : Bool} (ha : valS P (part t xs o) = some a) (hb : valS P (part t ys o) = some b) (he : valS P (Op.equalIn d t a b) = some c)
    (h : eqFs P d xs ys l = some r) : eqFs P d xs ys ((true, t, o) :: l) = some (c && r) := by
  simp only [eqFs, ha, hb, he]
  cases c
  · rfl
  · simpa using h
theorem eq3i {k1 k2 k3 : IntKind} {t t1 t2 t3 : TypeId} {d : Nat} {a b c a' b' c' : Int} (hl : fieldsOf Tryz.prog t = some [(true, t1, 0), (true, t2, 1), (true, t3, 2)]) (h1 : Tryz.prog.underlying t1 = some (.int k1)) (h2 : Tryz.prog.underlying t2 = some (.int k2)) (h3 : Tryz.prog.underlying t3 = some (.int k3))
    (e1 : aggP Tryz.prog t1 = some false) (e2 : aggP Tryz.prog t2 = some false) (e3 : aggP Tryz.prog t3 = some false) :
    valS Tryz.prog (Op.equalIn (d + 1 + 1) t (.agg #[.int k1 a, .int k2 b, .int k3 c]) (.agg #[.int k1 a', .int k2 b', .int k3 c'])) = some (decide (a = a') && (decide (b = b') && (decide (c = c') && true))) :=
  equal_struct hl (eqFs_c (part_cell e1 rfl) (part_cell e1 rfl) (eq_int h1 _ _ _) (eqFs_c (part_cell e2 rfl) (part_cell e2 rfl) (eq_int h2 _ _ _) (eqFs_c (part_cell e3 rfl) (part_cell e3 rfl) (eq_int h3 _ _ _) rfl)))
end Go.Dm
/-! What the program computes, on plain data: maps, sessions, presences, books, queues, feeds. -/
namespace Go.Dm
open Go

deriving instance DecidableEq for Sess
deriving instance Inhabited for Sess
structure Pres where
  st : Int
  pr : Int
  live : Int
deriving DecidableEq, Inhabited
def Pres.cells (p : Pres) : List Value := [.int .i64 p.st, .int .i64 p.pr, .int .i64 p.live]
def Pres.v (p : Pres) : Value := .agg p.cells.toArray
def Pres.zero : Pres := ⟨0, 0, 0⟩
structure Ent where
  ss : List Sess
  told : Pres
deriving DecidableEq, Inhabited
def Ent.zero : Ent := ⟨[], Pres.zero⟩
structure Chg where
  user : ByteArray
  old : Pres
  new : Pres
deriving DecidableEq
def Chg.cells (c : Chg) : List Value := .string c.user :: (c.old.cells ++ c.new.cells)
structure Evt where
  user : ByteArray
  old : Pres
  new : Pres
  seq : Nat
deriving DecidableEq
def Evt.cells (e : Evt) : List Value := .string e.user :: (e.old.cells ++ e.new.cells ++ [.int .u64 e.seq])
def Evt.v (e : Evt) : Value := .agg e.cells.toArray
deriving instance DecidableEq for Tm
def Tm.cells (t : Tm) : List Value := [.int .u64 t.now, .int .u64 t.seq, .bool t.shut]

/-! ### Order of names -/
theorem bl_irr : ∀ (a : List UInt8), Op.bytesLess a a = false
  | [] => rfl
  | a :: l => by simp [Op.bytesLess, bl_irr l]
theorem bl_trans : ∀ (a b c : List UInt8), Op.bytesLess a b = true → Op.bytesLess b c = true → Op.bytesLess a c = true
  | _, [], _, h, _ => by unfold Op.bytesLess at h; cases h
  | _, _ :: _, [], _, h => by unfold Op.bytesLess at h; cases h
  | [], _ :: _, _ :: _, _, _ => rfl
  | a :: x, b :: y, c :: z, h1, h2 => by
    simp only [Op.bytesLess, Bool.or_eq_true, Bool.and_eq_true, decide_eq_true_eq, beq_iff_eq] at h1 h2 ⊢
    rcases h1 with h1 | ⟨rfl, h1⟩
    · rcases h2 with h2 | ⟨rfl, h2⟩
      · exact .inl (UInt8.lt_trans h1 h2)
      · exact .inl h1
    · rcases h2 with h2 | ⟨rfl, h2⟩
      · exact .inl h2
      · exact .inr ⟨rfl, bl_trans x y z h1 h2⟩
theorem bl_tri : ∀ (a b : List UInt8), Op.bytesLess a b = false → Op.bytesLess b a = false → a = b
  | [], [], _, _ => rfl
  | [], _ :: _, h, _ => by simp [Op.bytesLess] at h
  | _ :: _, [], _, h => by simp [Op.bytesLess] at h
  | a :: x, b :: y, h1, h2 => by
    simp only [Op.bytesLess, Bool.or_eq_false_iff, Bool.and_eq_false_iff, decide_eq_false_iff_not, beq_eq_false_iff_ne, ne_eq] at h1 h2
    have hab : a = b := by
      rcases UInt8.lt_or_lt_of_ne (a := a) (b := b) |> fun h => (Classical.em (a = b)).imp id h with h | h | h
      · exact h
      · exact absurd h h1.1
      · exact absurd h h2.1
    subst hab
    rw [bl_tri x y (h1.2.resolve_left (by simp)) (h2.2.resolve_left (by simp))]
theorem ba_ext {a b : ByteArray} (h : a.data.toList = b.data.toList) : a = b := by
  cases a; cases b; congr 1; exact Array.ext' h
theorem sl_irr (a : ByteArray) : strLt a a = false := bl_irr _
theorem sl_trans {a b c : ByteArray} (h1 : strLt a b = true) (h2 : strLt b c = true) : strLt a c = true := bl_trans _ _ _ h1 h2
theorem sl_tri {a b : ByteArray} (h1 : strLt a b = false) (h2 : strLt b a = false) : a = b := ba_ext (bl_tri _ _ h1 h2)
theorem sl_asym {a b : ByteArray} (h : strLt a b = true) : strLt b a = false := by
  cases hh : strLt b a
  · rfl
  · have := sl_trans h hh; rw [sl_irr] at this; cases this
theorem sl_ne {a b : ByteArray} (h : strLt a b = true) : a ≠ b := fun hh => by subst hh; rw [sl_irr] at h; cases h

/-! ### Maps with their keys in order -/
section
variable {α : Type}
abbrev Mp (α : Type) := List (ByteArray × α)
def keysUp : Mp α → Prop
  | [] => True
  | (a, _) :: m => (∀ p ∈ m, strLt a p.1 = true) ∧ keysUp m
def mGet : Mp α → ByteArray → Option α
  | [], _ => none
  | (a, x) :: m, k => if a = k then some x else mGet m k
def mWith : Mp α → ByteArray → α → Mp α
  | [], k, v => [(k, v)]
  | (a, x) :: m, k, v => if a = k then (k, v) :: m else if strLt k a = true then (k, v) :: (a, x) :: m else (a, x) :: mWith m k v
def mWithout : Mp α → ByteArray → Mp α
  | [], _ => []
  | (a, x) :: m, k => if a = k then m else (a, x) :: mWithout m k
/-- How many keys are less. -/
def lbK : Mp α → ByteArray → Nat
  | [], _ => 0
  | (a, _) :: m, k => if strLt a k = true then lbK m k + 1 else 0
def hasK (m : Mp α) (k : ByteArray) : Bool := (mGet m k).isSome

theorem lbK_le : ∀ (m : Mp α) (k : ByteArray), lbK m k ≤ m.length
  | [], _ => Nat.le_refl _
  | (a, x) :: m, k => by
    unfold lbK; split
    · have := lbK_le m k; simp; omega
    · simp
theorem lbK_lt : ∀ (m : Mp α) (k : ByteArray) (i : Nat) (p : ByteArray × α), i < lbK m k → m[i]? = some p → strLt p.1 k = true
  | [], _, _, _, h, _ => by simp [lbK] at h
  | (a, x) :: m, k, i, p, h, hp => by
    unfold lbK at h
    split at h
    · rename_i ha
      cases i with
      | zero => simp at hp; subst hp; exact ha
      | succ i => exact lbK_lt m k i p (by omega) (by simpa using hp)
    · omega
theorem lbK_ge : ∀ (m : Mp α) (k : ByteArray), keysUp m → ∀ (i : Nat) (p : ByteArray × α), lbK m k ≤ i → m[i]? = some p → strLt p.1 k = false
  | [], _, _, _, _, _, h => by simp at h
  | (a, x) :: m, k, hu, i, p, h, hp => by
    unfold lbK at h
    split at h
    · cases i with
      | zero => omega
      | succ i => exact lbK_ge m k hu.2 i p (by omega) (by simpa using hp)
    · rename_i ha
      have ha : strLt a k = false := by simpa using ha
      cases i with
      | zero => simp at hp; subst hp; exact ha
      | succ i =>
        have hp' : m[i]? = some p := by simpa using hp
        have hap := hu.1 p (List.mem_of_getElem? hp')
        cases hh : strLt p.1 k
        · rfl
        · have := sl_trans hap hh; rw [ha] at this; cases this
/-- A key is where it would be. -/
theorem mGet_lb : ∀ (m : Mp α) (k : ByteArray), keysUp m → mGet m k = match m[lbK m k]? with | some p => if p.1 = k then some p.2 else none | none => none
  | [], _, _ => rfl
  | (a, x) :: m, k, hu => by
    unfold mGet lbK
    by_cases hak : a = k
    · subst hak; rw [sl_irr]; simp
    · rw [if_neg hak]
      by_cases hl : strLt a k = true
      · rw [if_pos hl, mGet_lb m k hu.2]; simp
      · rw [if_neg hl]
        simp only [List.getElem?_cons_zero, hak, if_false]
        have : ∀ (m : Mp α), (∀ p ∈ m, strLt a p.1 = true) → mGet m k = none := by
          intro m hm
          induction m with
          | nil => rfl
          | cons p m ih =>
            obtain ⟨b, y⟩ := p
            unfold mGet
            have hab := hm (b, y) (by simp)
            have : b ≠ k := fun hh => by subst hh; exact hl hab
            rw [if_neg this]; exact ih fun p hp => hm p (by simp [hp])
        exact this m hu.1
theorem mWith_has : ∀ (m : Mp α) (k : ByteArray) (v : α), keysUp m → hasK m k = true → mWith m k v = m.set (lbK m k) (k, v)
  | [], _, _, _, h => by simp [hasK, mGet] at h
  | (a, x) :: m, k, v, hu, h => by
    unfold mWith lbK
    by_cases hak : a = k
    · subst hak; rw [sl_irr]; simp
    · rw [if_neg hak]
      have h' : hasK m k = true := by unfold hasK mGet at h; rw [if_neg hak] at h; exact h
      have hl : strLt a k = true := by
        have hg := mGet_lb m k hu.2
        unfold hasK at h'
        rw [hg] at h'
        split at h'
        · rename_i p hp
          split at h'
          · rename_i hpk; have := hu.1 p (List.mem_of_getElem? hp); rw [hpk] at this; exact this
          · cases h'
        · cases h'
      rw [if_neg (by rw [sl_asym hl]; simp), if_pos hl, List.set_cons_succ, mWith_has m k v hu.2 h']
theorem mWith_not : ∀ (m : Mp α) (k : ByteArray) (v : α), keysUp m → hasK m k = false → mWith m k v = m.take (lbK m k) ++ (k, v) :: m.drop (lbK m k)
  | [], _, _, _, _ => rfl
  | (a, x) :: m, k, v, hu, h => by
    unfold mWith lbK
    have hak : a ≠ k := fun hh => by subst hh; simp [hasK, mGet] at h
    rw [if_neg hak]
    have h' : hasK m k = false := by unfold hasK mGet at h; rw [if_neg hak] at h; exact h
    by_cases hl : strLt a k = true
    · rw [if_neg (by rw [sl_asym hl]; simp), if_pos hl, mWith_not m k v hu.2 h']; simp
    · have hka : strLt k a = true := by
        cases hh : strLt k a
        · exact absurd (sl_tri (by simpa using hl) hh) hak
        · rfl
      rw [if_pos hka, if_neg hl]; simp
theorem mWithout_has : ∀ (m : Mp α) (k : ByteArray), keysUp m → hasK m k = true → mWithout m k = m.take (lbK m k) ++ m.drop (lbK m k + 1)
  | [], _, _, h => by simp [hasK, mGet] at h
  | (a, x) :: m, k, hu, h => by
    unfold mWithout lbK
    by_cases hak : a = k
    · subst hak; rw [sl_irr]; simp
    · rw [if_neg hak]
      have h' : hasK m k = true := by unfold hasK mGet at h; rw [if_neg hak] at h; exact h
      have hl : strLt a k = true := by
        have hg := mGet_lb m k hu.2
        unfold hasK at h'
        rw [hg] at h'
        split at h'
        · rename_i p hp
          split at h'
          · rename_i hpk; have := hu.1 p (List.mem_of_getElem? hp); rw [hpk] at this; exact this
          · cases h'
        · cases h'
      rw [if_pos hl, mWithout_has m k hu.2 h']; simp
theorem mWithout_not : ∀ (m : Mp α) (k : ByteArray), hasK m k = false → mWithout m k = m
  | [], _, _ => rfl
  | (a, x) :: m, k, h => by
    unfold mWithout
    have hak : a ≠ k := fun hh => by subst hh; simp [hasK, mGet] at h
    have h' : hasK m k = false := by unfold hasK mGet at h; rw [if_neg hak] at h; exact h
    rw [if_neg hak, mWithout_not m k h']
theorem mem_mWith : ∀ (m : Mp α) (k : ByteArray) (v : α) (p), p ∈ mWith m k v → p = (k, v) ∨ p ∈ m
  | [], k, v, p, h => by simp [mWith] at h; exact .inl h
  | (a, x) :: m, k, v, p, h => by
    unfold mWith at h
    split at h
    · rcases List.mem_cons.1 h with h | h
      · exact .inl h
      · exact .inr (by simp [h])
    · split at h
      · rcases List.mem_cons.1 h with h | h
        · exact .inl h
        · exact .inr h
      · rcases List.mem_cons.1 h with h | h
        · exact .inr (by simp [h])
        · rcases mem_mWith m k v p h with h | h
          · exact .inl h
          · exact .inr (by simp [h])
theorem keysUp_with : ∀ (m : Mp α) (k : ByteArray) (v : α), keysUp m → keysUp (mWith m k v)
  | [], k, v, _ => ⟨by simp, trivial⟩
  | (a, x) :: m, k, v, hu => by
    unfold mWith
    split
    · rename_i h; subst h; exact hu
    · rename_i hak
      split
      · rename_i hl
        refine ⟨fun p hp => ?_, hu⟩
        rcases List.mem_cons.1 hp with rfl | hp
        · exact hl
        · exact sl_trans hl (hu.1 p hp)
      · rename_i hl
        have hak' : strLt a k = true := by
          cases hh : strLt a k
          · exact absurd (sl_tri hh (by simpa using hl)) hak
          · rfl
        refine ⟨fun p hp => ?_, keysUp_with m k v hu.2⟩
        rcases mem_mWith m k v p hp with rfl | hp
        · exact hak'
        · exact hu.1 p hp
theorem mem_mWithout : ∀ (m : Mp α) (k : ByteArray) (p), p ∈ mWithout m k → p ∈ m
  | [], _, _, h => h
  | (a, x) :: m, k, p, h => by
    unfold mWithout at h
    split at h
    · simp [h]
    · rcases List.mem_cons.1 h with h | h
      · simp [h]
      · simp [mem_mWithout m k p h]
theorem keysUp_without : ∀ (m : Mp α) (k : ByteArray), keysUp m → keysUp (mWithout m k)
  | [], _, h => h
  | (a, x) :: m, k, hu => by
    unfold mWithout
    split
    · exact hu.2
    · exact ⟨fun p hp => hu.1 p (mem_mWithout m k p hp), keysUp_without m k hu.2⟩
theorem mWith_len : ∀ (m : Mp α) (k : ByteArray) (v : α), (mWith m k v).length ≤ m.length + 1
  | [], _, _ => Nat.le_refl _
  | (a, x) :: m, k, v => by
    unfold mWith
    split
    · simp
    · split
      · simp
      · have := mWith_len m k v; simp; omega
theorem mWithout_len : ∀ (m : Mp α) (k : ByteArray), (mWithout m k).length ≤ m.length
  | [], _ => Nat.le_refl _
  | (a, x) :: m, k => by
    unfold mWithout
    split
    · simp
    · have := mWithout_len m k; simp; omega
end

/-! ### Sessions -/
def sHas (l : List Sess) (id : Int) : Bool := l.any fun s => decide (s.id = id)
def sPurge (l : List Sess) (now : Nat) : List Sess := l.filter fun s => !decide (s.till ≤ now)
def sIns : List Sess → Sess → List Sess
  | [], s => [s]
  | a :: l, s => if a.id = s.id then s :: l else if s.id < a.id then s :: a :: l else a :: sIns l s
def sSet (l : List Sess) (s : Sess) (most : Int) : List Sess × Int :=
  if sHas l s.id = true then (sIns l s, 0) else if most ≤ l.length then (l, 2) else (sIns l s, 0)
def sBeat (l : List Sess) (id : Int) (till : Nat) : List Sess × Int :=
  if sHas l id = true then (l.map fun s => if s.id = id then { s with till := max s.till till } else s, 0) else (l, 3)
def sClear (l : List Sess) (id : Int) : List Sess × Int :=
  if sHas l id = true then (l.filter fun s => !decide (s.id = id), 0) else (l, 3)
def idsUp : List Sess → Prop
  | [] => True
  | a :: l => (∀ s ∈ l, a.id < s.id) ∧ idsUp l

/-! ### Presences -/
def pStep (b : Sess × Int) (s : Sess) : Sess × Int := (if b.2 = 0 ∨ better s b.1 = true then s else b.1, b.2 + 1)
def Sess.zero : Sess := ⟨0, 0, 0, 0⟩
def pOf (l : List Sess) (now : Nat) : Pres := let b := (sPurge l now).foldl pStep (Sess.zero, 0); ⟨b.1.st, b.1.pr, b.2⟩

/-! ### Books -/
abbrev Book := Mp Ent
structure OpP where
  kind : Int
  user : ByteArray
  id : Int
  st : Int
  pr : Int
  ttl : Nat
  users : List ByteArray
deriving DecidableEq
def entOf (b : Book) (u : ByteArray) : Ent := (mGet b u).getD Ent.zero
def settle (b : Book) (u : ByteArray) (l : List Sess) (now : Nat) : Book × List Chg :=
  let was := entOf b u
  let p := pOf l now
  (if l = [] then mWithout b u else mWith b u ⟨l, p⟩, if p ≠ was.told then [⟨u, was.told, p⟩] else [])
def bSess (b : Book) (x : OpP) (now : Nat) (most : Int) : List Sess × Int :=
  let l := sPurge (entOf b x.user).ss now
  let till := addT now x.ttl
  if x.kind = 1 then sSet l ⟨x.id, x.st, x.pr, till⟩ most else if x.kind = 2 then sBeat l x.id till else if x.kind = 3 then sClear l x.id else (l, 0)
def bWrite (b : Book) (x : OpP) (now : Nat) (most : Int) : Book × List Chg × Int :=
  let r := bSess b x now most
  let q := settle b x.user r.1 now
  (q.1, q.2, r.2)
def bSweepStep (now : Nat) (r : Book × List Chg) (p : ByteArray × Ent) : Book × List Chg :=
  let q := settle r.1 p.1 (sPurge p.2.ss now) now
  (q.1, r.2 ++ q.2)
def bSweep (b : Book) (now : Nat) : Book × List Chg := b.foldl (bSweepStep now) (b, [])
def bPres (b : Book) (u : ByteArray) (now : Nat) : Pres := pOf (entOf b u).ss now
def bStored (b : Book) : Nat := b.foldl (fun n p => n + p.2.ss.length) 0

/-! ### Queues and feeds -/
structure Rng where
  room : Nat
  l : List Evt
  lost : Bool
deriving DecidableEq
def Rng.put (r : Rng) (x : Evt) : Rng × Bool := if r.room ≤ r.l.length then ({ r with lost := true }, false) else ({ r with l := r.l ++ [x] }, true)
def Rng.drain (r : Rng) : Rng := { r with l := [], lost := false }
structure Feed where
  watches : Mp Nat
  qs : List Rng
deriving DecidableEq
def isCl (who : Int) : Bool := decide (0 ≤ who ∧ who < 8)
def maskOf' (f : Feed) (u : ByteArray) : Nat := (mGet f.watches u).getD 0
def Feed.watching (f : Feed) (who : Int) (u : ByteArray) : Bool := isCl who && (maskOf' f u).testBit who.toNat
def Feed.watch (f : Feed) (who : Int) (u : ByteArray) : Feed :=
  if isCl who = true then { f with watches := mWith f.watches u (maskOf' f u ||| 2 ^ who.toNat) } else f
def clearBit (m i : Nat) : Nat := if m.testBit i then m - 2 ^ i else m
def Feed.unwatch (f : Feed) (who : Int) (u : ByteArray) : Feed :=
  if isCl who = true ∧ maskOf' f u ≠ 0 then
    (if clearBit (maskOf' f u) who.toNat = 0 then { f with watches := mWithout f.watches u } else { f with watches := mWith f.watches u (clearBit (maskOf' f u) who.toNat) })
  else f
def Feed.count (f : Feed) (who : Int) : Nat := (f.watches.filter fun p => isCl who && p.2.testBit who.toNat).length
def tellOne (w : Mp Nat) (c : Chg) (seq : Nat) (who : Nat) (q : Rng) : Rng :=
  if Feed.watching ⟨w, []⟩ who c.user = true then (q.put ⟨c.user, c.old, c.new, seq⟩).1 else q
def Feed.tell1 (f : Feed) (seq : Nat) (c : Chg) : Feed := { f with qs := f.qs.mapIdx fun who q => tellOne f.watches c seq who q }
def Feed.tell (f : Feed) (l : List Chg) (seq : Nat) : Feed := l.foldl (fun f c => f.tell1 seq c) f
def Feed.drain (f : Feed) (who : Int) : Feed × List Evt × Bool :=
  if isCl who = true then match f.qs[who.toNat]? with
    | some q => ({ f with qs := f.qs.set who.toNat q.drain }, q.l, q.lost)
    | none => (f, [], false)
  else (f, [], false)
def newFeed (room : Nat) : Feed := ⟨[], List.replicate 8 ⟨room, [], false⟩⟩
end Go.Dm
/-! Searching. -/
namespace Go.Dm
open Go Go.Proofs
variable {w : World} {R : Value → World → Prop} {Im : Nat → Prop}

theorem shr1 {a : Nat} : binV .shr (.int .u64 (a : Nat)) (.int .u64 1) = some (.int .u64 (a / 2 : Nat)) := by
  show shiftV .shr .u64 (a : Int) 1 = _
  unfold shiftV
  rw [if_neg (by omega)]
  have : (a : Int).fdiv (2 ^ (min (Int.toNat 1) (IntKind.bits .u64))) = ((a / 2 : Nat) : Int) := by
    show (a : Int).fdiv (2 ^ 1) = _
    rw [Int.fdiv_eq_ediv_of_nonneg _ (by decide)]
    rfl
  simp only [this]
theorem cvt_u {a : Nat} (h : a < 2^64) {k : IntKind} : cvtV .u64 (.int k (a : Nat)) = some (.int .u64 (a : Nat)) := by
  simp only [cvtV]; rw [wrap_u (by omega) (by omega)]
theorem cvt_i {a : Nat} (h : a < 2^63) {k : IntKind} : cvtV .i64 (.int k (a : Nat)) = some (.int .i64 (a : Nat)) := by
  simp only [cvtV]; rw [wrap_i (by omega) (by omega)]
theorem addN {a b : Nat} (h : a + b < 2^63) : binV .add (.int .i64 (a : Nat)) (.int .i64 (b : Nat)) = some (.int .i64 (a + b : Nat)) := by
  rw [add_i (by omega) (by omega)]; rfl
theorem add1 {a : Nat} (h : a + 1 < 2^63) : binV .add (.int .i64 (a : Nat)) (.int .i64 1) = some (.int .i64 (a + 1 : Nat)) := by
  rw [add_i (by omega) (by omega)]; rfl
theorem keyAt {α : Type} {m : Mp α} {i : Nat} {p : ByteArray × α} (h : m[i]? = some p) : (m.map fun p => Value.string p.1)[i]? = some (.string p.1) := by
  rw [List.getElem?_map, h]; rfl

theorem c381 {α : Type} {v : Value} {m : Mp α} {k : ByteArray} (hk : SlI w Im 1 v m.length (m.map fun p => .string p.1)) (hu : keysUp m) (hn : m.length < 2^61)
    (h : R (.tuple #[.int .i64 (lbK m k : Nat), .bool (hasK m k)]) w) : CallsR Tryz.prog 381 #[v, .string k] w R := by
  apply sh381; unfold S381
  refine pv_i hk.lenV ?_
  rw [jnB_e]
  have hle := lbK_le m k
  refine lp_c (fun d e u X => ∃ i j : Nat, d = j - i ∧ i ≤ lbK m k ∧ lbK m k ≤ j ∧ j ≤ m.length ∧ u = w ∧ X = no ∧ e 0 = v ∧ e 1 = .string k ∧ e 6 = .int .i64 m.length ∧ e 7 = .int .i64 (i : Nat) ∧ e 8 = .int .i64 (j : Nat)) m.length
    ⟨0, m.length, by omega, by omega, hle, Nat.le_refl _, rfl, rfl, rfl, rfl, rfl, rfl, rfl⟩ ?_
  rintro d e u X N ⟨i, j, rfl, hi, hj, hjn, rfl, rfl, e0', e1, e6, e7, e8⟩ hN
  simp only [e0', e1, e6, e7, e8, lss_i, pv_some, condC_b, decide_eq_true_eq]
  split
  · rename_i hij
    have hij : i < j := by omega
    refine pv_i (addN (by omega)) ?_
    refine pv_i (cvt_u (by omega)) ?_
    refine pv_i shr1 ?_
    refine pv_i (cvt_i (by omega)) ?_
    have hm : (i + j) / 2 < m.length := by omega
    obtain ⟨q, hq⟩ : ∃ q, m[(i + j) / 2]? = some q := ⟨_, List.getElem?_eq_getElem hm⟩
    obtain ⟨p, hp, hl⟩ := hk.ld1 (i := ((i + j) / 2 : Nat)) (kd := .i64) (by omega) (by omega) (x := .string q.1) (by rw [Int.toNat_natCast]; exact keyAt hq)
    refine pv_i hp ?_
    refine hl ?_
    refine c404 ?_
    cases hc : strLt q.1 k
    · rw [condC_f]
      refine hN _ _ _ _ ?_ ⟨i, (i + j) / 2, rfl, hi, ?_, by omega, rfl, rfl, rfl, rfl, rfl, rfl, rfl⟩
      · omega
      · rcases Nat.lt_or_ge ((i + j) / 2) (lbK m k) with hh | hh
        · rw [lbK_lt m k _ q hh hq] at hc; cases hc
        · exact hh
    · rw [condC_t]
      refine pv_i (add1 (by omega)) ?_
      refine hN _ _ _ _ ?_ ⟨(i + j) / 2 + 1, j, rfl, ?_, hj, hjn, rfl, rfl, rfl, rfl, rfl, rfl, rfl⟩
      · omega
      · rcases Nat.lt_or_ge ((i + j) / 2) (lbK m k) with hh | hh
        · exact hh
        · rw [lbK_ge m k hu _ q hh hq] at hc; cases hc
  · rename_i hij
    have hil : i = lbK m k := by omega
    subst hil
    dsimp only [upd]
    refine pv_i lss_i ?_
    have hg := mGet_lb m k hu
    by_cases hlt : lbK m k < m.length
    · obtain ⟨q, hq⟩ : ∃ q, m[lbK m k]? = some q := ⟨_, List.getElem?_eq_getElem hlt⟩
      rw [decide_eq_true (show ((lbK m k : Nat) : Int) < (m.length : Nat) by omega), gdB_b, if_pos rfl]
      obtain ⟨p, hp, hl⟩ := hk.ld1' (i := (lbK m k : Nat)) (kd := .i64) (by omega) (by omega) (x := .string q.1) (by rw [Int.toNat_natCast]; exact keyAt hq)
      refine pv_i hp ?_
      refine hl _ ?_
      refine pv_i eql_s ?_
      rw [hq] at hg
      by_cases hqk : q.1 = k
      · have hh : hasK m k = true := by unfold hasK; rw [hg]; simp [hqk]
        rw [hh] at h
        simpa [gdB_b, gdB_u, upd_s, pickV_b, pv_some, hqk] using h
      · have hh : hasK m k = false := by unfold hasK; rw [hg]; simp [hqk]
        rw [hh] at h
        simp only [hqk, decide_false, upd_s, gdB_b, reduceIte]
        refine pv_i hp ?_
        refine hl _ ?_
        refine c405 ?_
        simpa [gdB_b, gdB_u, upd_s, pickV_b, pv_some, e0] using h
    · rw [decide_eq_false (show ¬ ((lbK m k : Nat) : Int) < (m.length : Nat) by omega), gdB_b]
      rw [List.getElem?_eq_none (by omega)] at hg
      have hh : hasK m k = false := by unfold hasK; rw [hg]; rfl
      rw [hh] at h
      simpa [gdB_b, gdB_u, upd_s, pickV_b, pv_some, e0] using h
end Go.Dm
/-! Slices that one owns: an element stored, the front, the rest cleared. -/
namespace Go.Dm
open Go Go.Proofs

theorem SlO.got {w : World} {k n : Nat} {t : TypeId} {v : Value} {cells : List Value} {ob : Option Nat} (h : SlO w k t v n cells ob) (hn : 0 < n) :
    ∃ b c full, ob = .some b ∧ v = .slice (.some ⟨b, 0, none⟩) n c ∧ n ≤ c ∧ own w b = .some full ∧ full.length = c * k ∧ full.take (n * k) = cells ∧ typ w b = .some t := by
  obtain ⟨⟨c, h1, h2, h3, h4⟩, h5⟩ := h
  cases ob with
  | none => have := h3 rfl; omega
  | some b => obtain ⟨full, g1, g2, g3, g4⟩ := h4 b rfl; exact ⟨b, c, full, rfl, h1, h2, g1, g2, g3, g4⟩
theorem SlO.imm {w : World} {k n : Nat} {t : TypeId} {v : Value} {cells : List Value} {ob : Option Nat} (h : SlO w k t v n cells ob) : SlI w (fun _ => True) k v n cells := h.toI fun _ _ => trivial

theorem splice_take {F xs : List Value} {o n : Nat} (h : o + xs.length ≤ n) (hn : n ≤ F.length) : (splice F o xs).take n = splice (F.take n) o xs := by
  rw [take_splice h hn]
  unfold splice
  rw [List.take_take, Nat.min_eq_left (by omega), List.drop_take]

theorem SlO.stk {w : World} {k n : Nat} {t : TypeId} {v : Value} {cells : List Value} {ob : Option Nat} (h : SlO w k t v n cells ob) {i : Nat} {kd : IntKind} (hi : i < n) {x : Value} (hx : x.cells.size = k) (h1 : x.cells.toList.all one1 = true) :
    ∃ p, idxSV k v (.int kd (i : Nat)) = Option.some p ∧ ∀ (K : World → Prop), (∀ w', SlO w' k t v n (splice cells (i * k) x.cells.toList) ob → Fr (fun b => ob = Option.some b) w w' → K w') → stC w k p x K := by
  obtain ⟨b, c, full, rfl, rfl, hc, g1, g2, g3, g4⟩ := h.got (by omega)
  have hlen := h.len
  have hik : i * k + k ≤ n * k := by rw [← Nat.succ_mul]; exact Nat.mul_le_mul_right k (by omega)
  have hnc : n * k ≤ c * k := Nat.mul_le_mul_right k hc
  have hxl : x.cells.toList.length = k := by simpa using hx
  refine ⟨.pointer (Option.some ⟨b, 0 + i * k, none⟩), by unfold idxSV; simp only [Int.toNat_natCast]; rw [if_pos ⟨by omega, by omega⟩], fun K hK => ?_⟩
  refine st_i g1 (by omega) hx h1 rfl fun w' hp => ?_
  rw [Nat.zero_add] at hp
  refine hK w' ⟨⟨c, rfl, hc, by simp, fun b' hb' => ?_⟩, ?_⟩ (hp.fr.mono fun x _ hx => by unfold one at hx; rw [hx])
  · cases hb'
    exact ⟨_, hp.own, by rw [splice_length (by omega)]; exact g2, by rw [splice_take (by omega) (by omega), g3], by rw [hp.typ]; exact g4⟩
  · rw [splice_length (by omega)]; exact hlen

theorem SlO.pre {w : World} {k n : Nat} {t : TypeId} {v : Value} {cells : List Value} {ob : Option Nat} (h : SlO w k t v n cells ob) {i : Nat} (hi : i ≤ n) (hn : 0 < n) :
    ∃ v', sliceV k v none (Option.some (.int .i64 (i : Nat))) = Option.some v' ∧ SlO w k t v' i (cells.take (i * k)) ob := by
  obtain ⟨b, c, full, rfl, rfl, hc, g1, g2, g3, g4⟩ := h.got hn
  have hlen := h.len
  refine ⟨_, slice_pre (by omega), ⟨⟨c, rfl, by omega, by simp, fun b' hb' => ?_⟩, ?_⟩⟩
  · cases hb'
    exact ⟨full, g1, g2, by rw [← g3, List.take_take, Nat.min_eq_left (Nat.mul_le_mul_right k hi)], g4⟩
  · rw [List.length_take, hlen]; exact Nat.min_eq_left (Nat.mul_le_mul_right k hi)

theorem SlO.clr {w : World} {k n : Nat} {t : TypeId} {v : Value} {cells : List Value} {ob : Option Nat} {zero : List Value} (h : SlO w k t v n cells ob) {i : Nat} (hi : i ≤ n) (hn : 0 < n) (hz : zero.length = k) (hz1 : zero.all one1 = true) :
    ∃ v', sliceV k v (Option.some (.int .i64 (i : Nat))) none = Option.some v' ∧ ∀ (K : Value → World → Prop), (∀ w' cells', SlO w' k t v n cells' ob → cells'.take (i * k) = cells.take (i * k) → Fr (fun b => ob = Option.some b) w w' → K (.tuple #[]) w') → clC w zero v' K := by
  obtain ⟨b, c, full, rfl, rfl, hc, g1, g2, g3, g4⟩ := h.got hn
  have hlen := h.len
  have hnc : n * k ≤ c * k := Nat.mul_le_mul_right k hc
  have hik : i * k ≤ n * k := Nat.mul_le_mul_right k hi
  have hnik : i * k + (n - i) * k = n * k := by rw [← Nat.add_mul]; congr 1; omega
  have hrl : (repL (n - i) zero).length = (n - i) * k := by rw [repL_length, hz]
  refine ⟨_, slice_suf hi hc, fun K hK => ⟨_, _, _, rfl, ?_⟩⟩
  refine putAt_b g1 (o := i * k) (by rw [hrl]; omega) (all_repL hz1 _) ?_ _ _ (fun hne => ⟨_, rfl, ?_⟩)
  · intro w' o' ty fr
    refine hK w' (splice cells (i * k) (repL (n - i) zero)) ⟨⟨c, rfl, hc, by simp, fun b' hb' => ?_⟩, ?_⟩ ?_ (fr.mono fun x _ hx => by unfold one at hx; rw [hx])
    · cases hb'
      exact ⟨_, o', by rw [splice_length (by rw [hrl]; omega)]; exact g2, by rw [splice_take (by rw [hrl]; omega) (by omega), g3], by rw [ty]; exact g4⟩
    · rw [splice_length (by rw [hrl]; omega)]; exact hlen
    · exact take_splice_le (Nat.le_refl _) (by omega)
  · by_cases hci : c = i
    · exfalso; apply hne; have : n - i = 0 := by omega
      rw [this]; rfl
    · rw [if_neg hci]; rfl

/-! ### Elements of a flat kind -/
section
variable {α : Type} {enc : α → List Value} {k : Nat}
theorem flat_len (hk : ∀ x, (enc x).length = k) : ∀ (l : List α), (l.flatMap enc).length = l.length * k
  | [] => by simp
  | a :: l => by rw [List.flatMap_cons, List.length_append, hk, flat_len hk l, List.length_cons, Nat.succ_mul]; omega
theorem flat_take (hk : ∀ x, (enc x).length = k) : ∀ (l : List α) (i : Nat), (l.flatMap enc).take (i * k) = (l.take i).flatMap enc
  | [], i => by simp
  | a :: l, 0 => by simp
  | a :: l, i + 1 => by
    rw [List.flatMap_cons, List.take_succ_cons, List.flatMap_cons, Nat.succ_mul, ← flat_take hk l i]
    rw [List.take_append, hk a]
    rw [List.take_of_length_le (by rw [hk a]; omega), Nat.add_sub_cancel]
theorem flat_drop (hk : ∀ x, (enc x).length = k) : ∀ (l : List α) (i : Nat), (l.flatMap enc).drop (i * k) = (l.drop i).flatMap enc
  | [], i => by simp
  | a :: l, 0 => by simp
  | a :: l, i + 1 => by
    rw [List.flatMap_cons, List.drop_succ_cons, Nat.succ_mul, ← flat_drop hk l i, List.drop_append, hk a]
    rw [List.drop_of_length_le (by rw [hk a]; omega), List.nil_append, Nat.add_sub_cancel]
theorem flat_at (hk : ∀ x, (enc x).length = k) {l : List α} {i : Nat} {x : α} (h : l[i]? = some x) : ((l.flatMap enc).drop (i * k)).take k = enc x := by
  rw [flat_drop hk]
  have hlt : i < l.length := by
    rcases Nat.lt_or_ge i l.length with hh | hh
    · exact hh
    · rw [List.getElem?_eq_none hh] at h; cases h
  rw [List.drop_eq_getElem_cons hlt, List.flatMap_cons]
  have : l[i] = x := by rw [List.getElem?_eq_getElem hlt] at h; exact Option.some.inj h
  rw [this, List.take_append, hk x, Nat.sub_self, List.take_of_length_le (by rw [hk x]; exact Nat.le_refl _)]; simp
theorem flat_set (hk : ∀ x, (enc x).length = k) {l : List α} {i : Nat} {x : α} (h : i < l.length) : splice (l.flatMap enc) (i * k) (enc x) = (l.set i x).flatMap enc := by
  unfold splice
  rw [hk x, ← Nat.succ_mul, flat_take hk, flat_drop hk]
  rw [List.set_eq_take_append_cons_drop, if_pos h, List.flatMap_append, List.flatMap_cons, List.append_assoc]
/-- A flat row, read. -/
theorem SlI.at {w : World} {Im : Nat → Prop} {v : Value} {l : List α} (h : SlI w Im k v l.length (l.flatMap enc)) (hk : ∀ x, (enc x).length = k) {i : Nat} {kd : IntKind} {x : α} (hx : l[i]? = some x) :
    ∃ p, idxSV k v (.int kd (i : Nat)) = some p ∧ ∀ (K : Value → Prop), K (.agg (enc x).toArray) → ldC w true k p K := by
  have hlt : i < l.length := by
    rcases Nat.lt_or_ge i l.length with hh | hh
    · exact hh
    · rw [List.getElem?_eq_none hh] at hx; cases hx
  obtain ⟨p, hp, hl⟩ := h.ldk' (i := (i : Nat)) (kd := kd) (by omega) (by omega)
  rw [Int.toNat_natCast, flat_at hk hx] at hl
  exact ⟨p, hp, hl⟩
end
theorem sess_len (s : Sess) : s.cells.length = 4 := rfl
theorem pres_len (s : Pres) : s.cells.length = 3 := rfl
theorem evt_len (s : Evt) : s.cells.length = 8 := rfl
theorem chg_len (s : Chg) : s.cells.length = 7 := rfl
theorem flat_one {α : Type} {enc : α → List Value} (h : ∀ x, (enc x).all one1 = true) : ∀ l : List α, (l.flatMap enc).all one1 = true
  | [] => rfl
  | a :: l => by rw [List.flatMap_cons, List.all_append, h a, flat_one h l]; rfl
theorem sess_one (s : Sess) : s.cells.all one1 = true := rfl
theorem pres_one (s : Pres) : s.cells.all one1 = true := rfl
theorem evt_one (s : Evt) : s.cells.all one1 = true := rfl
theorem chg_one (s : Chg) : s.cells.all one1 = true := rfl
theorem key_one {α : Type} (m : Mp α) : (m.map fun p => Value.string p.1).all one1 = true := by
  induction m with
  | nil => rfl
  | cons p m ih => rw [List.map_cons, List.all_cons, ih]; rfl
end Go.Dm
/-! Sessions. -/
namespace Go.Dm
open Go Go.Proofs
variable {w : World} {R : Value → World → Prop} {Im : Nat → Prop}

/-! ### Plain -/
def sLb : List Sess → Int → Nat
  | [], _ => 0
  | a :: l, id => if a.id < id then sLb l id + 1 else 0
theorem sLb_le : ∀ (l : List Sess) (id : Int), sLb l id ≤ l.length
  | [], _ => Nat.le_refl _
  | a :: l, id => by unfold sLb; split; (have := sLb_le l id; simp; omega); simp
theorem sLb_lt : ∀ (l : List Sess) (id : Int) (i : Nat) (s : Sess), i < sLb l id → l[i]? = some s → s.id < id
  | [], _, _, _, h, _ => by simp [sLb] at h
  | a :: l, id, i, s, h, hs => by
    unfold sLb at h
    split at h
    · rename_i ha
      cases i with
      | zero => simp at hs; subst hs; exact ha
      | succ i => exact sLb_lt l id i s (by omega) (by simpa using hs)
    · omega
theorem sLb_ge : ∀ (l : List Sess) (id : Int), idsUp l → ∀ (i : Nat) (s : Sess), sLb l id ≤ i → l[i]? = some s → id ≤ s.id
  | [], _, _, _, _, _, h => by simp at h
  | a :: l, id, hu, i, s, h, hs => by
    unfold sLb at h
    split at h
    · cases i with
      | zero => omega
      | succ i => exact sLb_ge l id hu.2 i s (by omega) (by simpa using hs)
    · rename_i ha
      cases i with
      | zero => simp at hs; subst hs; omega
      | succ i => have := hu.1 s (List.mem_of_getElem? (by simpa using hs)); omega
theorem sHas_lb : ∀ (l : List Sess) (id : Int), idsUp l → sHas l id = match l[sLb l id]? with | some s => decide (s.id = id) | none => false
  | [], _, _ => rfl
  | a :: l, id, hu => by
    have ih := sHas_lb l id hu.2
    have e1 : sHas (a :: l) id = (decide (a.id = id) || sHas l id) := by simp [sHas]
    rw [e1, ih]
    have e2 : sLb (a :: l) id = if a.id < id then sLb l id + 1 else 0 := rfl
    rw [e2]
    by_cases h : a.id < id
    · rw [if_pos h]
      have : decide (a.id = id) = false := by simp; omega
      rw [this, Bool.false_or]; simp
    · rw [if_neg h]
      simp only [List.getElem?_cons_zero]
      by_cases he : a.id = id
      · simp [he]
      · have : ∀ l : List Sess, (∀ s ∈ l, a.id < s.id) → (match l[sLb l id]? with | some s => decide (s.id = id) | none => false) = false := by
          intro l hl
          split
          · rename_i s hs; have := hl s (List.mem_of_getElem? hs); simp; omega
          · rfl
        rw [this l hu.1, Bool.or_false]
theorem sIns_has : ∀ (l : List Sess) (s : Sess), idsUp l → sHas l s.id = true → sIns l s = l.set (sLb l s.id) s
  | [], _, _, h => by simp [sHas] at h
  | a :: l, s, hu, h => by
    unfold sIns sLb
    by_cases he : a.id = s.id
    · rw [if_pos he, if_neg (by omega)]; rfl
    · rw [if_neg he]
      have h' : sHas l s.id = true := by simpa [sHas, he] using h
      have hlt : a.id < s.id := by
        unfold sHas at h'; rw [List.any_eq_true] at h'
        obtain ⟨t, ht, hts⟩ := h'
        have := hu.1 t ht; simp at hts; omega
      rw [if_neg (by omega), if_pos hlt, List.set_cons_succ, sIns_has l s hu.2 h']
theorem sIns_not : ∀ (l : List Sess) (s : Sess), idsUp l → sHas l s.id = false → sIns l s = l.take (sLb l s.id) ++ s :: l.drop (sLb l s.id)
  | [], _, _, _ => rfl
  | a :: l, s, hu, h => by
    unfold sIns sLb
    have he : a.id ≠ s.id := fun hh => by simp [sHas, hh] at h
    have h' : sHas l s.id = false := by simpa [sHas, he] using h
    rw [if_neg he]
    by_cases hlt : s.id < a.id
    · rw [if_pos hlt, if_neg (by omega)]; rfl
    · rw [if_neg hlt, if_pos (by omega), sIns_not l s hu.2 h']; rfl
theorem sClear_has : ∀ (l : List Sess) (id : Int), idsUp l → sHas l id = true → l.filter (fun s => !decide (s.id = id)) = l.take (sLb l id) ++ l.drop (sLb l id + 1)
  | [], _, _, h => by simp [sHas] at h
  | a :: l, id, hu, h => by
    unfold sLb
    by_cases he : a.id = id
    · rw [if_neg (by omega), List.filter_cons_of_neg (by simp [he])]
      simp only [List.take_zero, List.nil_append, Nat.zero_add, List.drop_succ_cons, List.drop_zero]
      rw [List.filter_eq_self]
      intro s hs; have := hu.1 s hs; simp; omega
    · have h' : sHas l id = true := by simpa [sHas, he] using h
      have hlt : a.id < id := by
        unfold sHas at h'; rw [List.any_eq_true] at h'
        obtain ⟨t, ht, hts⟩ := h'
        have := hu.1 t ht; simp at hts; omega
      rw [if_pos hlt, List.filter_cons_of_pos (by simp [he]), sClear_has l id hu.2 h']; rfl
def sTill (till : Nat) (s : Sess) : Sess := { s with till := max s.till till }
theorem sBeat_has : ∀ (l : List Sess) (id : Int) (till : Nat), idsUp l → sHas l id = true → ∃ s, l[sLb l id]? = some s ∧ l.map (fun s => if s.id = id then { s with till := max s.till till } else s) = l.set (sLb l id) (sTill till s)
  | [], _, _, _, h => by simp [sHas] at h
  | a :: l, id, till, hu, h => by
    unfold sLb
    by_cases he : a.id = id
    · refine ⟨a, by rw [if_neg (by omega)]; rfl, ?_⟩
      rw [if_neg (by omega), List.map_cons, if_pos he, List.set_cons_zero]
      congr 1
      have : ∀ l : List Sess, (∀ s ∈ l, a.id < s.id) → l.map (fun s => if s.id = id then { s with till := max s.till till } else s) = l := by
        intro l hl
        induction l with
        | nil => rfl
        | cons b l ih => rw [List.map_cons, if_neg (by have := hl b (by simp); omega), ih fun s hs => hl s (by simp [hs])]
      exact this l hu.1
    · have h' : sHas l id = true := by simpa [sHas, he] using h
      have hlt : a.id < id := by
        unfold sHas at h'; rw [List.any_eq_true] at h'
        obtain ⟨t, ht, hts⟩ := h'
        have := hu.1 t ht; simp at hts; omega
      obtain ⟨s, hs, hm⟩ := sBeat_has l id till hu.2 h'
      refine ⟨s, by rw [if_pos hlt]; exact hs, ?_⟩
      rw [if_pos hlt, List.map_cons, if_neg he, hm]; rfl
theorem idsUp_sub : ∀ {l l' : List Sess}, l'.Sublist l → idsUp l → idsUp l'
  | _, _, .slnil, h => h
  | _, _, .cons a h, hu => idsUp_sub h hu.2
  | _, _, .cons₂ a h, hu => ⟨fun s hs => hu.1 s (h.mem hs), idsUp_sub h hu.2⟩
theorem idsUp_purge {l : List Sess} (now : Nat) (h : idsUp l) : idsUp (sPurge l now) := idsUp_sub List.filter_sublist h

/-! ### Contracts -/
theorem c400 {s : Sess} {id : Int} (h : ∀ w', Fr no w w' → R (.int .i64 (cmpI s.id id)) w') : CallsR Tryz.prog 400 #[s.v, .int .i64 id] w R := by
  apply sh400; unfold S400
  refine ⟨rfl, ?_⟩
  refine pv_i (v := .int .i64 s.id) rfl ?_
  intro w1 X1 y1
  refine c243 ?_
  exact ⟨kp_no (Fr.refl _ _) y1.lt, h _ y1.frno⟩
theorem ent400 : entersP Tryz.prog 400 = true := by kernel_rfl
theorem ent359 : entersP Tryz.prog 359 = true := by kernel_rfl

theorem c399 {v : Value} {l : List Sess} {id : Int} (hk : SlI w Im 4 v l.length (l.flatMap Sess.cells)) (hu : idsUp l) (hn : l.length < 2^61)
    (h : ∀ w', Fr no w w' → R (.tuple #[.int .i64 (sLb l id : Nat), .bool (sHas l id)]) w') : CallsR Tryz.prog 399 #[v, .int .i64 id, .func (.func 400) #[] #[]] w R := by
  apply sh399; unfold S399
  refine pv_i hk.lenV ?_
  rw [jnB_e]
  have hle := sLb_le l id
  refine lp_c (fun d e u X => ∃ i j : Nat, d = j - i ∧ i ≤ sLb l id ∧ sLb l id ≤ j ∧ j ≤ l.length ∧ Fr no w u ∧ X = no ∧ e 0 = v ∧ e 1 = .int .i64 id ∧ e 2 = .func (.func 400) #[] #[] ∧ e 8 = .int .i64 l.length ∧ e 9 = .int .i64 (i : Nat) ∧ e 10 = .int .i64 (j : Nat)) l.length
    ⟨0, l.length, by omega, by omega, hle, Nat.le_refl _, Fr.refl _ _, rfl, rfl, rfl, rfl, rfl, rfl, rfl⟩ ?_
  rintro d e u X N ⟨i, j, rfl, hi, hj, hjn, fr, rfl, e0', e1, e2, e8, e9, e10⟩ hN
  have hk' := hk.ext fr
  simp only [e0', e1, e2, e8, e9, e10, lss_i, pv_some, condC_b, decide_eq_true_eq]
  split
  · rename_i hij
    have hij : i < j := by omega
    refine pv_i (addN (by omega)) ?_
    refine pv_i (cvt_u (by omega)) ?_
    refine pv_i shr1 ?_
    refine pv_i (cvt_i (by omega)) ?_
    have hm : (i + j) / 2 < l.length := by omega
    obtain ⟨q, hq⟩ : ∃ q, l[(i + j) / 2]? = some q := ⟨_, List.getElem?_eq_getElem hm⟩
    obtain ⟨p, hp, hl⟩ := hk'.at (kd := .i64) sess_len hq
    refine pv_i hp ?_
    refine hl _ ?_
    refine ⟨ent400, ?_⟩
    refine c400 fun w1 f1 => ?_
    refine pv_i lss_i ?_
    by_cases hc : q.id < id
    · have : decide (cmpI q.id id < 0) = true := by unfold cmpI; rw [if_pos hc]; rfl
      rw [this, condC_t]
      refine pv_i (add1 (by omega)) ?_
      refine hN _ _ _ _ ?_ ⟨(i + j) / 2 + 1, j, rfl, ?_, hj, hjn, fr.trans f1, rfl, rfl, rfl, rfl, rfl, rfl, rfl⟩
      · omega
      · rcases Nat.lt_or_ge ((i + j) / 2) (sLb l id) with hh | hh
        · exact hh
        · have := sLb_ge l id hu _ q hh hq; omega
    · have : decide (cmpI q.id id < 0) = false := by unfold cmpI; rw [if_neg hc]; split <;> rfl
      rw [this, condC_f]
      refine hN _ _ _ _ ?_ ⟨i, (i + j) / 2, rfl, hi, ?_, by omega, fr.trans f1, rfl, rfl, rfl, rfl, rfl, rfl, rfl⟩
      · omega
      · rcases Nat.lt_or_ge ((i + j) / 2) (sLb l id) with hh | hh
        · have := sLb_lt l id _ q hh hq; omega
        · exact hh
  · rename_i hij
    have hil : i = sLb l id := by omega
    subst hil
    dsimp only [upd]
    refine pv_i lss_i ?_
    have hg := sHas_lb l id hu
    by_cases hlt : sLb l id < l.length
    · obtain ⟨q, hq⟩ : ∃ q, l[sLb l id]? = some q := ⟨_, List.getElem?_eq_getElem hlt⟩
      rw [decide_eq_true (show ((sLb l id : Nat) : Int) < (l.length : Nat) by omega), gdB_b, if_pos rfl]
      obtain ⟨p, hp, hl⟩ := hk'.at (kd := .i64) sess_len hq
      refine pv_i hp ?_
      refine hl _ ?_
      refine ⟨ent400, ?_⟩
      refine c400 fun w1 f1 => ?_
      refine pv_i eql_i ?_
      have h' := h w1 (fr.trans f1)
      rw [hg, hq] at h'
      have hge := sLb_ge l id hu _ q (Nat.le_refl _) hq
      have : decide (cmpI q.id id = 0) = decide (q.id = id) := by
        unfold cmpI
        by_cases hqi : q.id = id
        · simp [hqi]
        · have h1 : ¬ q.id < id := by omega
          have h2 : id < q.id := by omega
          simp [hqi, h1, h2]
      rw [this]
      simpa [upd_s, pickV_b, pv_some] using h'
    · rw [decide_eq_false (show ¬ ((sLb l id : Nat) : Int) < (l.length : Nat) by omega), gdB_b]
      have h' := h u fr
      rw [hg, List.getElem?_eq_none (by omega)] at h'
      simpa [upd_s, pickV_b, pv_some] using h'

theorem c374 {v : Value} {l : List Sess} {id : Int} (hk : SlI w Im 4 v l.length (l.flatMap Sess.cells)) (hu : idsUp l) (hn : l.length < 2^61)
    (h : ∀ w', Fr no w w' → R (.tuple #[.int .i64 (sLb l id : Nat), .bool (sHas l id)]) w') : CallsR Tryz.prog 374 #[v, .int .i64 id] w R := by
  apply sh374; unfold S374
  refine c399 hk hu hn fun w1 f1 => ?_
  exact pv_i rfl (pv_i rfl (h w1 f1))

theorem c359 {s : Sess} {b now : Nat} (hb : blk w b = some [.int .u64 now]) (h : ∀ w', Fr no w w' → R (.bool (decide (s.till ≤ now))) w') : CallsR Tryz.prog 359 #[s.v, .pointer (some ⟨b, 0, none⟩)] w R := by
  apply sh359; unfold S359
  refine ⟨rfl, ?_⟩
  refine ld_b hb rfl ?_
  refine pv_i (v := .int .u64 s.till) rfl ?_
  intro w1 X1 y1
  refine c360 ?_
  exact ⟨kp_no (Fr.refl _ _) y1.lt, h _ y1.frno⟩

/-- Whether nobody changed it: a condition on sessions that a function value tells. -/
def Tells (w : World) (S : Nat → Prop) (fv : Value) (q : Sess → Bool) : Prop :=
  ∀ w', Fr S w w' → ∀ (s : Sess) (K : Value → World → Prop), (∀ w'', Fr no w' w'' → K (.bool (q s)) w'') → dyC Tryz.prog fv #[s.v] w' K

theorem c391 {v fv : Value} {l : List Sess} {q : Sess → Bool} (hk : SlI w Im 4 v l.length (l.flatMap Sess.cells)) (hn : l.length < 2^61) (hq : Tells w no fv q)
    (h : ∀ w', Fr no w w' → R (.int .i64 (match l.findIdx? q with | some i => (i : Int) | none => -1)) w') : CallsR Tryz.prog 391 #[v, fv] w R := by
  apply sh391; unfold S391
  rw [jnB_e]
  refine pv_i hk.lenV ?_
  refine lp_c (fun d e u X => ∃ i : Nat, d = l.length - i ∧ i ≤ l.length ∧ l.findIdx? q = ((l.drop i).findIdx? q).map (· + i) ∧ Fr no w u ∧ X = no ∧ e 0 = v ∧ e 1 = fv ∧ e 7 = .int .i64 l.length ∧ e 8 = .int .i64 (i : Nat)) l.length
    ⟨0, by omega, by omega, by simp, Fr.refl _ _, rfl, rfl, rfl, rfl, rfl⟩ ?_
  rintro d e u X N ⟨i, rfl, hi, hfi, fr, rfl, e0', e1, e7, e8⟩ hN
  have hk' := hk.ext fr
  simp only [e0', e1, e7, e8, lss_i, pv_some, condC_b, decide_eq_true_eq]
  split
  · rename_i hlt
    have hlt : i < l.length := by omega
    obtain ⟨s, hs⟩ : ∃ s, l[i]? = some s := ⟨_, List.getElem?_eq_getElem hlt⟩
    have hd : l.drop i = s :: l.drop (i + 1) := by
      rw [List.drop_eq_getElem_cons hlt]; congr 1
      rw [List.getElem?_eq_getElem hlt] at hs; exact Option.some.inj hs
    obtain ⟨p, hp, hl⟩ := hk'.at (kd := .i64) sess_len hs
    refine pv_i hp ?_
    refine hl _ ?_
    refine hq u fr s _ fun w1 f1 => ?_
    rw [hd, List.findIdx?_cons] at hfi
    cases hqs : q s
    · rw [condC_f]
      refine pv_i (add1 (by omega)) ?_
      refine hN _ _ _ _ ?_ ⟨i + 1, rfl, by omega, ?_, fr.trans f1, rfl, rfl, rfl, rfl, rfl⟩
      · omega
      · rw [hfi, hqs]; simp [Option.map_map, Function.comp_def]; congr; funext x; omega
    · rw [condC_t]
      have := h w1 (fr.trans f1)
      rw [hfi, hqs] at this
      simpa using this
  · rename_i hlt
    have : i = l.length := by omega
    subst this
    rw [List.drop_length] at hfi
    have := h u fr
    rw [hfi] at this
    simpa using this

/-- DeleteFunc, in one's own slice. -/
theorem c357 {v fv : Value} {l : List Sess} {q : Sess → Bool} {ob : Option Nat} (hs : SlO w 4 357 v l.length (l.flatMap Sess.cells) ob) (hn : l.length < 2^61) (hq : Tells w (fun b => ob = some b) fv q)
    (h : ∀ v' w', SlO w' 4 357 v' (l.filter fun s => !q s).length ((l.filter fun s => !q s).flatMap Sess.cells) ob → Fr (fun b => ob = some b) w w' → R v' w') : CallsR Tryz.prog 357 #[v, fv] w R := by
  apply sh357; unfold S357
  refine c391 hs.imm hn (fun w' f => hq w' f.of_no) fun w1 f1 => ?_
  have hs1 := hs.keep f1 (fun _ _ => id)
  cases hfi : l.findIdx? q with
  | none =>
    simp only
    refine pv_i eql_i ?_
    rw [show decide ((-1 : Int) = -1) = true from rfl, condC_t]
    have : l.filter (fun s => !q s) = l := by
      rw [List.filter_eq_self]
      intro s hs'
      rw [List.findIdx?_eq_none_iff] at hfi
      simp [hfi s hs']
    rw [this] at h
    exact h v w1 hs1 f1.of_no
  | some i0 =>
    simp only
    obtain ⟨hi0, hq0, hbef⟩ := List.findIdx?_eq_some_iff_getElem.1 hfi
    refine pv_i eql_i ?_
    rw [decide_eq_false (by omega), condC_f, jnB_e]
    refine pv_i (add1 (by omega)) ?_
    obtain ⟨b0, c0, full0, hob, -, -, ho0, -, -, -⟩ := hs.got (show 0 < l.length by omega)
    have hblt := own_lt ho0
    have hfilt : ∀ j, l.filter (fun s => !q s) = (l.take j).filter (fun s => !q s) ++ (l.drop j).filter (fun s => !q s) := fun j => by
      rw [← List.filter_append, List.take_append_drop]
    refine lp_c (fun d e u X => ∃ (i j : Nat) (l' : List Sess), d = l.length - j ∧ j ≤ l.length ∧ i ≤ j ∧ l'.length = l.length ∧ i = ((l.take j).filter fun s => !q s).length ∧ l'.take i = (l.take j).filter (fun s => !q s) ∧ l'.drop j = l.drop j ∧
      SlO u 4 357 v l.length (l'.flatMap Sess.cells) ob ∧ Fr (fun b => ob = some b) w u ∧ (∀ b, X b → w.heap.size ≤ b ∧ b < u.heap.size) ∧ e 0 = v ∧ e 1 = fv ∧ e 5 = .int .i64 (i : Nat) ∧ e 6 = .int .i64 (j : Nat)) (l.length - (i0 + 1))
      ⟨i0, i0 + 1, l, ?_⟩ ?_
    · have htk : (l.take (i0 + 1)).filter (fun s => !q s) = l.take i0 := by
        rw [List.take_succ_eq_append_getElem hi0, List.filter_append]
        have h1 : (l.take i0).filter (fun s => !q s) = l.take i0 := by
          rw [List.filter_eq_self]
          intro s hs'
          obtain ⟨j, hj, rfl⟩ := List.mem_iff_getElem.1 hs'
          have hji : j < i0 := by simp at hj; omega
          have := hbef j hji
          simp only [List.getElem_take]; simpa using this
        rw [h1]; simp [hq0]
      refine ⟨by omega, by omega, by omega, rfl, ?_, ?_, rfl, hs1, f1.of_no, (fun b hb => hb.elim), rfl, rfl, rfl, rfl⟩
      · rw [htk, List.length_take]; omega
      · rw [htk]
    · rintro d e u X N ⟨i, j, l', rfl, hj, hij, hl', hic, htk, hdr, hso, fr, hX, e0', e1, e5, e6⟩ hN
      simp only [e0', e1, e5, e6]
      refine pv_i hso.lenV ?_
      refine pv_i lss_i ?_
      by_cases hjn : j < l.length
      · rw [decide_eq_true (by omega), condC_t, jnB_e]
        have hlj : l'[j]? = some l[j] := by
          have : (l'.drop j)[0]? = (l.drop j)[0]? := by rw [hdr]
          rw [List.getElem?_drop, List.getElem?_drop, Nat.add_zero, List.getElem?_eq_getElem hjn] at this; exact this
        have hso' := hso; rw [← hl'] at hso'
        obtain ⟨p, hp, hl⟩ := hso'.imm.at (kd := .i64) sess_len hlj
        refine pv_i hp ?_
        refine hl _ ?_
        refine ⟨rfl, ?_⟩
        intro u1 X1 y1
        have f01 : Fr (fun b => ob = some b) w u1 ∧ _ := y1.step fr (fun b hb => (hX b hb).1)
        have hso1 : SlO u1 4 357 v l.length (l'.flatMap Sess.cells) ob := hso.keep y1.fr (fun b hb hx => by rw [hob] at hb; cases hb; have := (hX b0 hx).1; omega)
        refine hq u1 f01.1 l[j] _ fun u2 f2 => ?_
        refine ⟨kp_no f2 y1.lt, ?_⟩
        have f02 := f01.1.trans f2.of_no
        have hso2 := hso1.keep f2 (fun _ _ => id)
        have hX2 : ∀ b, X1 b → w.heap.size ≤ b ∧ b < u2.heap.size := fun b hb => ⟨f01.2.1 b hb, Nat.lt_of_lt_of_le (y1.lt b hb) f2.size⟩
        have hdr' : l'.drop (j + 1) = l.drop (j + 1) := by rw [← List.drop_drop, hdr, List.drop_drop]
        have htk1 : (l.take (j + 1)).filter (fun s => !q s) = (l.take j).filter (fun s => !q s) ++ (if q l[j] = true then [] else [l[j]]) := by
          rw [List.take_succ_eq_append_getElem hjn, List.filter_append]; congr 1
          cases hh : q l[j] <;> simp [hh]
        refine pv_i (v := .bool (!q l[j])) rfl ?_
        cases hqj : q l[j]
        · rw [Bool.not_false, condC_t]
          obtain ⟨p2, hp2, hst⟩ := hso2.stk (i := i) (kd := .i64) (by omega) (x := l[j].v) rfl rfl
          refine pv_i hp2 ?_
          refine hst _ fun u3 hso3 f3 => ?_
          refine ⟨kp_fr f3 (fun b hb => (hX2 b hb).2) (fun b hb hh => by rw [hob] at hh; cases hh; have := (hX2 b0 hb).1; omega), ?_⟩
          refine pv_i (add1 (by omega)) ?_
          dsimp only [upd]
          refine pv_i (add1 (by omega)) ?_
          have : splice (l'.flatMap Sess.cells) (i * 4) l[j].v.cells.toList = (l'.set i l[j]).flatMap Sess.cells := flat_set sess_len (by omega)
          rw [this] at hso3
          refine hN _ _ _ _ ?_ ⟨i + 1, j + 1, l'.set i l[j], rfl, by omega, by omega, by simp [hl'], ?_, ?_, ?_, hso3, f02.trans f3, fun b hb => ⟨(hX2 b hb).1, Nat.lt_of_lt_of_le (hX2 b hb).2 f3.size⟩, rfl, rfl, rfl, rfl⟩
          · omega
          · rw [htk1, hqj, hic]; simp
          · rw [htk1, hqj, ← htk, List.take_succ_eq_append_getElem (by simp; omega), List.take_set_of_le (Nat.le_refl _)]; simp
          · rw [List.drop_set_of_lt (by omega)]; exact hdr'
        · rw [Bool.not_true, condC_f]
          dsimp only [upd]
          refine pv_i (add1 (by omega)) ?_
          refine hN _ _ _ _ ?_ ⟨i, j + 1, l', rfl, by omega, by omega, hl', ?_, ?_, hdr', hso2, f02, hX2, rfl, rfl, rfl, rfl⟩
          · omega
          · rw [htk1, hqj, hic]; simp
          · rw [htk1, hqj, htk]; simp
      · have hjl : j = l.length := by omega
        subst hjl
        rw [decide_eq_false (by omega), condC_f]
        dsimp only [upd]
        rw [List.take_length] at hic htk
        obtain ⟨v1, hv1, hcl⟩ := hso.clr (i := i) (by omega) (by omega) (zero := [(.int .i64 0), (.int .i64 0), (.int .i64 0), (.int .u64 0)]) rfl rfl
        refine pv_i hv1 ?_
        refine hcl _ fun u1 cells' hso1 htk1 f1' => ?_
        refine ⟨kp_fr f1' (fun b hb => (hX b hb).2) (fun b hb hh => by rw [hob] at hh; cases hh; have := (hX b0 hb).1; omega), ?_⟩
        obtain ⟨v2, hv2, hso2⟩ := hso1.pre (i := i) (by omega) (by omega)
        refine pv_i hv2 ?_
        rw [htk1, flat_take sess_len, htk, hic] at hso2
        exact h v2 u1 hso2 (fr.trans f1')
end Go.Dm
/-! Sessions: Purge, Set, Beat, Clear. -/
namespace Go.Dm
open Go Go.Proofs
variable {w : World} {R : Value → World → Prop} {Im : Nat → Prop}

/-- A fresh slice of sessions is handed back. -/
def NewS (w : World) (l : List Sess) (K : Value → World → Prop) : Prop :=
  ∀ v' w' ob, SlO w' 4 357 v' l.length (l.flatMap Sess.cells) ob → Fr no w w' → (∀ b, ob = some b → w.heap.size ≤ b) → K v' w'

theorem c358s {v : Value} {l : List Sess} (hk : SlI w Im 4 v l.length (l.flatMap Sess.cells)) (hn : l.length < 2^40) (h : NewS w l R) : CallsR Tryz.prog 358 #[v] w R :=
  c358 hk (by omega) (flat_one sess_one l) h

theorem c295 {v : Value} {l : List Sess} {now : Nat} (hk : SlI w Im 4 v l.length (l.flatMap Sess.cells)) (hn : l.length < 2^40) (h : NewS w (sPurge l now) R) : CallsR Tryz.prog 295 #[v, .int .u64 now] w R := by
  apply sh295; unfold S295
  refine al_i fun b w1 n1 => ?_
  refine c358s (hk.ext n1.fr) hn fun v2 w2 ob hs f2 hob => ?_
  refine c357 (q := fun s => decide (s.till ≤ now)) hs (by omega) ?_ fun v3 w3 hs3 f3 => ?_
  · intro w' f s K hK
    refine ⟨ent359, ?_⟩
    have hb : blk w' b = some [.int .u64 now] := f.blk (f2.blk (own_blk n1.own) id) (fun hh => by have := hob b hh; have := n1.eq; have := n1.size; omega)
    exact c359 hb hK
  · refine h v3 w3 ob hs3 ?_ (fun b hb => by have := hob b hb; have := n1.size; omega)
    exact (n1.fr.trans f2).trans' f3 (fun b hb hh => by have := hob b hh; have := n1.size; omega)

/-! ### Insert, Delete -/
theorem f401 : ∀ (b1 b2 o1 o2 l1 l2 c1 c2 : Nat) (x1 x2 : List Value) (w : World) (K : Value → World → Prop), own w b1 = some x1 → own w b2 = some x2 → b1 ≠ b2 → K (.bool false) w → exC Tryz.prog 401 #[.slice (some ⟨b1, o1, none⟩) l1 c1, .slice (some ⟨b2, o2, none⟩) l2 c2] w K :=
  fun _ _ _ _ _ _ _ _ _ _ _ _ h1 h2 hb h => ex_overlaps (f := 401) (fn := Tryz.f401) (t := 294) (elem := 357) (k := 4) (by kernel_rfl) (by kernel_rfl) (by kernel_rfl) (by kernel_rfl) (by kernel_rfl) (by kernel_rfl) (by kernel_rfl) h1 h2 hb h
theorem f382 : ∀ (b1 b2 o1 o2 l1 l2 c1 c2 : Nat) (x1 x2 : List Value) (w : World) (K : Value → World → Prop), own w b1 = some x1 → own w b2 = some x2 → b1 ≠ b2 → K (.bool false) w → exC Tryz.prog 382 #[.slice (some ⟨b1, o1, none⟩) l1 c1, .slice (some ⟨b2, o2, none⟩) l2 c2] w K :=
  fun _ _ _ _ _ _ _ _ _ _ _ _ h1 h2 hb h => ex_overlaps (f := 382) (fn := Tryz.f382) (t := 40) (elem := 9) (k := 1) (by kernel_rfl) (by kernel_rfl) (by kernel_rfl) (by kernel_rfl) (by kernel_rfl) (by kernel_rfl) (by kernel_rfl) h1 h2 hb h
theorem f384 : ∀ (b1 b2 o1 o2 l1 l2 c1 c2 : Nat) (x1 x2 : List Value) (w : World) (K : Value → World → Prop), own w b1 = some x1 → own w b2 = some x2 → b1 ≠ b2 → K (.bool false) w → exC Tryz.prog 384 #[.slice (some ⟨b1, o1, none⟩) l1 c1, .slice (some ⟨b2, o2, none⟩) l2 c2] w K :=
  fun _ _ _ _ _ _ _ _ _ _ _ _ h1 h2 hb h => ex_overlaps (f := 384) (fn := Tryz.f384) (t := 314) (elem := 340) (k := 1) (by kernel_rfl) (by kernel_rfl) (by kernel_rfl) (by kernel_rfl) (by kernel_rfl) (by kernel_rfl) (by kernel_rfl) h1 h2 hb h
theorem f409 : ∀ (b1 b2 o1 o2 l1 l2 c1 c2 : Nat) (x1 x2 : List Value) (w : World) (K : Value → World → Prop), own w b1 = some x1 → own w b2 = some x2 → b1 ≠ b2 → K (.bool false) w → exC Tryz.prog 409 #[.slice (some ⟨b1, o1, none⟩) l1 c1, .slice (some ⟨b2, o2, none⟩) l2 c2] w K :=
  fun _ _ _ _ _ _ _ _ _ _ _ _ h1 h2 hb h => ex_overlaps (f := 409) (fn := Tryz.f409) (t := 190) (elem := 349) (k := 4) (by kernel_rfl) (by kernel_rfl) (by kernel_rfl) (by kernel_rfl) (by kernel_rfl) (by kernel_rfl) (by kernel_rfl) h1 h2 hb h
theorem c350 {v : Value} {n : Nat} {cells new : List Value} {ob : Option Nat} {i vb : Nat} (hs : SlO w 1 9 v n cells ob) (hi : i ≤ n) (hn : n < 2^40) (h1 : cells.all one1 = true) (hv : own w vb = some new) (hnl : new.length = 1) (hn1 : new.all one1 = true) (hvb : ob ≠ some vb)
    (h : ∀ v' w' ob', SlO w' 1 9 v' (n + 1) (cells.take (i * 1) ++ new ++ cells.drop (i * 1)) ob' → Fr (fun b => ob = some b) w w' → (∀ b, ob' = some b → ob = some b ∨ w.heap.size ≤ b) → R v' w') : CallsR Tryz.prog 350 #[v, .int .i64 (i : Nat), .slice (some ⟨vb, 0, none⟩) 1 1] w R := by
  apply sh350; unfold S350
  exact insert_g hs hi rfl (by decide) (by omega) (by omega) h1 rfl hv hnl hn1 hvb f382 h
theorem c351 {v : Value} {n : Nat} {cells new : List Value} {ob : Option Nat} {i vb : Nat} (hs : SlO w 1 340 v n cells ob) (hi : i ≤ n) (hn : n < 2^40) (h1 : cells.all one1 = true) (hv : own w vb = some new) (hnl : new.length = 1) (hn1 : new.all one1 = true) (hvb : ob ≠ some vb)
    (h : ∀ v' w' ob', SlO w' 1 340 v' (n + 1) (cells.take (i * 1) ++ new ++ cells.drop (i * 1)) ob' → Fr (fun b => ob = some b) w w' → (∀ b, ob' = some b → ob = some b ∨ w.heap.size ≤ b) → R v' w') : CallsR Tryz.prog 351 #[v, .int .i64 (i : Nat), .slice (some ⟨vb, 0, none⟩) 1 1] w R := by
  apply sh351; unfold S351
  exact insert_g hs hi rfl (by decide) (by omega) (by omega) h1 rfl hv hnl hn1 hvb f384 h
theorem c375 {v : Value} {n : Nat} {cells new : List Value} {ob : Option Nat} {i vb : Nat} (hs : SlO w 4 357 v n cells ob) (hi : i ≤ n) (hn : n < 2^40) (h1 : cells.all one1 = true) (hv : own w vb = some new) (hnl : new.length = 4) (hn1 : new.all one1 = true) (hvb : ob ≠ some vb)
    (h : ∀ v' w' ob', SlO w' 4 357 v' (n + 1) (cells.take (i * 4) ++ new ++ cells.drop (i * 4)) ob' → Fr (fun b => ob = some b) w w' → (∀ b, ob' = some b → ob = some b ∨ w.heap.size ≤ b) → R v' w') : CallsR Tryz.prog 375 #[v, .int .i64 (i : Nat), .slice (some ⟨vb, 0, none⟩) 1 1] w R := by
  apply sh375; unfold S375
  exact insert_g hs hi rfl (by decide) (by omega) (by omega) h1 rfl hv hnl hn1 hvb f401 h
theorem c390 {v : Value} {n : Nat} {cells new : List Value} {ob : Option Nat} {i vb : Nat} (hs : SlO w 4 349 v n cells ob) (hi : i ≤ n) (hn : n < 2^40) (h1 : cells.all one1 = true) (hv : own w vb = some new) (hnl : new.length = 4) (hn1 : new.all one1 = true) (hvb : ob ≠ some vb)
    (h : ∀ v' w' ob', SlO w' 4 349 v' (n + 1) (cells.take (i * 4) ++ new ++ cells.drop (i * 4)) ob' → Fr (fun b => ob = some b) w w' → (∀ b, ob' = some b → ob = some b ∨ w.heap.size ≤ b) → R v' w') : CallsR Tryz.prog 390 #[v, .int .i64 (i : Nat), .slice (some ⟨vb, 0, none⟩) 1 1] w R := by
  apply sh390; unfold S390
  exact insert_g hs hi rfl (by decide) (by omega) (by omega) h1 rfl hv hnl hn1 hvb f409 h
theorem c346 {v : Value} {n : Nat} {cells : List Value} {ob : Option Nat} {i j : Nat} (hs : SlO w 1 9 v n cells ob) (hij : i ≤ j) (hj : j ≤ n) (hn : n < 2^40) (h1 : cells.all one1 = true)
    (h : ∀ v' w', SlO w' 1 9 v' (n - (j - i)) (cells.take (i * 1) ++ cells.drop (j * 1)) ob → Fr (fun b => ob = some b) w w' → R v' w') : CallsR Tryz.prog 346 #[v, .int .i64 (i : Nat), .int .i64 (j : Nat)] w R := by
  apply sh346; unfold S346
  exact delete_g hs hij hj rfl (by decide) (by omega) (by omega) h1 rfl h
theorem c348 {v : Value} {n : Nat} {cells : List Value} {ob : Option Nat} {i j : Nat} (hs : SlO w 1 340 v n cells ob) (hij : i ≤ j) (hj : j ≤ n) (hn : n < 2^40) (h1 : cells.all one1 = true)
    (h : ∀ v' w', SlO w' 1 340 v' (n - (j - i)) (cells.take (i * 1) ++ cells.drop (j * 1)) ob → Fr (fun b => ob = some b) w w' → R v' w') : CallsR Tryz.prog 348 #[v, .int .i64 (i : Nat), .int .i64 (j : Nat)] w R := by
  apply sh348; unfold S348
  exact delete_g hs hij hj rfl (by decide) (by omega) (by omega) h1 rfl h
theorem c376 {v : Value} {n : Nat} {cells : List Value} {ob : Option Nat} {i j : Nat} (hs : SlO w 4 357 v n cells ob) (hij : i ≤ j) (hj : j ≤ n) (hn : n < 2^40) (h1 : cells.all one1 = true)
    (h : ∀ v' w', SlO w' 4 357 v' (n - (j - i)) (cells.take (i * 4) ++ cells.drop (j * 4)) ob → Fr (fun b => ob = some b) w w' → R v' w') : CallsR Tryz.prog 376 #[v, .int .i64 (i : Nat), .int .i64 (j : Nat)] w R := by
  apply sh376; unfold S376
  exact delete_g hs hij hj rfl (by decide) (by omega) (by omega) h1 rfl h
theorem c388 {v : Value} {n : Nat} {cells : List Value} {ob : Option Nat} {i j : Nat} (hs : SlO w 4 349 v n cells ob) (hij : i ≤ j) (hj : j ≤ n) (hn : n < 2^40) (h1 : cells.all one1 = true)
    (h : ∀ v' w', SlO w' 4 349 v' (n - (j - i)) (cells.take (i * 4) ++ cells.drop (j * 4)) ob → Fr (fun b => ob = some b) w w' → R v' w') : CallsR Tryz.prog 388 #[v, .int .i64 (i : Nat), .int .i64 (j : Nat)] w R := by
  apply sh388; unfold S388
  exact delete_g hs hij hj rfl (by decide) (by omega) (by omega) h1 rfl h

/-! ### Set, Beat, Clear -/
theorem sIns_len {l : List Sess} {s : Sess} (hu : idsUp l) (hh : sHas l s.id = false) : (sIns l s).length = l.length + 1 := by
  have := sLb_le l s.id
  rw [sIns_not l s hu hh]; simp; omega
theorem c328 {v : Value} {l : List Sess} {s : Sess} {most : Int} (hk : SlI w Im 4 v l.length (l.flatMap Sess.cells)) (hu : idsUp l) (hn : l.length < 2^39)
    (h : NewS w (sSet l s most).1 (fun v' w' => R (.tuple #[v', .int .i64 (sSet l s most).2]) w')) : CallsR Tryz.prog 328 #[v, s.v, .int .i64 most] w R := by
  apply sh328; unfold S328
  refine ⟨rfl, ?_⟩
  intro w1 X1 y1
  refine c358s (hk.ext y1.frno) (by omega) fun v2 w2 ob hs f2 hob => ?_
  refine ⟨kp_no f2 y1.lt, ?_⟩
  have f02 := y1.frno.trans f2
  have l2 : ∀ b, X1 b → b < w2.heap.size := fun b hb => Nat.lt_of_lt_of_le (y1.lt b hb) f2.size
  refine pv_i (v := .int .i64 s.id) rfl ?_
  refine c374 hs.imm hu (by omega) fun w3 f3 => ?_
  refine ⟨kp_no f3 l2, ?_⟩
  have f03 := f02.trans f3
  have hs3 := hs.keep f3 (fun _ _ => id)
  have l3 : ∀ b, X1 b → b < w3.heap.size := fun b hb => Nat.lt_of_lt_of_le (l2 b hb) f3.size
  have hdis : ∀ b, X1 b → ¬ ob = some b := fun b hb hh => by have := hob b hh; have := y1.lt b hb; omega
  have hob' : ∀ b, ob = some b → w.heap.size ≤ b := fun b hh => by have := hob b hh; have := y1.frno.size; omega
  refine pv_i (ext2a _ _) (pv_i (ext2b _ _) ?_)
  rw [jnB_e]
  have hlb := sLb_le l s.id
  unfold NewS sSet at h
  cases hh : sHas l s.id with
  | true =>
    rw [condC_t]
    rw [hh, if_pos rfl] at h
    have hlt : sLb l s.id < l.length := by
      rcases Nat.lt_or_ge (sLb l s.id) l.length with h' | h'
      · exact h'
      · rw [sHas_lb l _ hu, List.getElem?_eq_none h'] at hh; cases hh
    obtain ⟨p, hp, hst⟩ := hs3.stk (i := sLb l s.id) (kd := .i64) hlt (x := s.v) rfl rfl
    refine pv_i hp ?_
    refine hst _ fun w4 hs4 f4 => ?_
    refine ⟨kp_fr f4 l3 hdis, ?_⟩
    dsimp only [upd]
    have : splice (l.flatMap Sess.cells) (sLb l s.id * 4) s.v.cells.toList = (l.set (sLb l s.id) s).flatMap Sess.cells := flat_set sess_len hlt
    rw [this, ← sIns_has l s hu hh] at hs4
    have hl : l.length = (sIns l s).length := by rw [sIns_has l s hu hh]; simp
    rw [hl] at hs4
    exact h v2 w4 ob hs4 (f03.trans' f4 fun b hb hh => by have := hob' b hh; omega) hob'
  | false =>
    rw [condC_f]
    rw [hh, if_neg (by simp)] at h
    refine pv_i hs3.lenV ?_
    refine pv_i geq_i ?_
    by_cases hm : most ≤ l.length
    · rw [decide_eq_true hm, condC_t]
      rw [if_pos hm] at h
      exact h v2 w3 ob hs3 f03 hob'
    · rw [decide_eq_false hm, condC_f]
      rw [if_neg hm] at h
      refine ⟨s.cells, rfl, ?_⟩
      have n4 := newB_nw w3 s.cells 357
      have hs4 := hs3.keep n4.fr (fun _ _ => id)
      refine c375 hs4 hlb (by omega) (flat_one sess_one l) n4.own rfl rfl ?_ fun v5 w5 ob5 hs5 f5 hob5 => ?_
      · intro hh2
        obtain ⟨⟨c, _, _, _, h4⟩, _⟩ := hs3
        obtain ⟨full, g1, _⟩ := h4 _ hh2
        have := own_lt g1; omega
      refine ⟨kp_fr f5 (fun b hb => Nat.lt_of_lt_of_le (l3 b hb) n4.fr.size) hdis, ?_⟩
      dsimp only [upd]
      have hin := sIns_not l s hu hh
      have hfl : (sIns l s).flatMap Sess.cells = (l.flatMap Sess.cells).take (sLb l s.id * 4) ++ s.cells ++ (l.flatMap Sess.cells).drop (sLb l s.id * 4) := by
        rw [hin, flat_take sess_len, flat_drop sess_len, List.flatMap_append, List.flatMap_cons, List.append_assoc]
      rw [← hfl, ← sIns_len hu hh] at hs5
      refine h v5 w5 ob5 hs5 ((f03.trans n4.fr).trans' f5 fun b hb hh => by have := hob' b hh; omega) ?_
      intro b hb
      rcases hob5 b hb with h6 | h6
      · exact hob' b h6
      · have := n4.fr.size; have := f03.size; omega

theorem c329 {v : Value} {l : List Sess} {id : Int} {till : Nat} (hk : SlI w Im 4 v l.length (l.flatMap Sess.cells)) (hu : idsUp l) (hn : l.length < 2^39)
    (h : NewS w (sBeat l id till).1 (fun v' w' => R (.tuple #[v', .int .i64 (sBeat l id till).2]) w')) : CallsR Tryz.prog 329 #[v, .int .i64 id, .int .u64 till] w R := by
  apply sh329; unfold S329
  refine c358s hk (by omega) fun v2 w2 ob hs f2 hob => ?_
  refine c374 hs.imm hu (by omega) fun w3 f3 => ?_
  have f03 := f2.trans f3
  have hs3 := hs.keep f3 (fun _ _ => no_not _)
  refine pv_i (ext2a _ _) (pv_i (ext2b _ _) ?_)
  refine pv_i (v := .bool (!sHas l id)) rfl ?_
  unfold NewS sBeat at h
  cases hh : sHas l id with
  | false =>
    rw [hh, if_neg (by simp)] at h
    rw [Bool.not_false, condC_t]
    exact h v2 w3 ob hs3 f03 hob
  | true =>
    rw [hh, if_pos rfl] at h
    rw [Bool.not_true, condC_f]
    obtain ⟨s, hs', hmap⟩ := sBeat_has l id till hu hh
    have hlt : sLb l id < l.length := by
      rcases Nat.lt_or_ge (sLb l id) l.length with h' | h'
      · exact h'
      · rw [List.getElem?_eq_none h'] at hs'; cases hs'
    obtain ⟨b, c, full, rfl, rfl, hc, g1, g2, g3, g4⟩ := hs3.got (by omega)
    have hat := flat_at sess_len hs'
    have hll : sLb l id * 4 + 4 ≤ l.length * 4 := by rw [← Nat.succ_mul]; exact Nat.mul_le_mul_right 4 (by omega)
    have hlc : l.length * 4 ≤ c * 4 := Nat.mul_le_mul_right 4 hc
    have hfat : (full.drop (sLb l id * 4)).take 4 = s.cells := by
      rw [← hat, ← g3, List.drop_take, List.take_take]; congr 1; omega
    refine pv_i (v := .pointer (some ⟨b, 0 + sLb l id * 4, none⟩)) (by unfold idxSV; simp only [Int.toNat_natCast]; rw [if_pos ⟨by omega, by omega⟩]) ?_
    refine pv_i (v := .pointer (some ⟨b, sLb l id * 4 + 3, none⟩)) (by rw [Nat.zero_add]; rfl) ?_
    refine ld_i (v := .int .u64 s.till) g1 ?_ ?_
    · have : ((full.drop (sLb l id * 4)).take 4)[3]? = s.cells[3]? := by rw [hfat]
      rw [List.getElem?_take_of_lt (by omega), List.getElem?_drop] at this; exact this
    refine pv_i (v := .int .u64 (max s.till till : Nat)) ?_ ?_
    · show (some (Value.int .u64 (if (till : Int) > (s.till : Int) then (till : Int) else (s.till : Int)))) = _
      congr 2
      by_cases h5 : till > s.till
      · rw [if_pos (by omega)]; omega
      · rw [if_neg (by omega)]; omega
    refine pv_i (v := .pointer (some ⟨b, 0 + sLb l id * 4, none⟩)) (by unfold idxSV; simp only [Int.toNat_natCast]; rw [if_pos ⟨by omega, by omega⟩]) ?_
    refine pv_i (v := .pointer (some ⟨b, sLb l id * 4 + 3, none⟩)) (by rw [Nat.zero_add]; rfl) ?_
    refine st_i g1 (by omega) rfl rfl rfl fun w4 p4' => ?_
    have p4 : Pt w3 b (splice full (sLb l id * 4 + 3) [.int .u64 (max s.till till : Nat)]) w4 := p4'
    have hfin : SlO w4 4 357 (.slice ((some b).map fun b => ⟨b, 0, none⟩) l.length c) l.length ((l.set (sLb l id) (sTill till s)).flatMap Sess.cells) (some b) := by
      refine ⟨⟨c, rfl, hc, by simp, fun b' hb' => ?_⟩, by rw [flat_len sess_len, List.length_set]⟩
      cases hb'
      refine ⟨_, p4.own, by rw [splice_length (xs := [.int .u64 (max s.till till : Nat)]) (by show sLb l id * 4 + 3 + 1 ≤ full.length; omega)]; exact g2, ?_, by rw [p4.typ]; exact g4⟩
      rw [splice_take (xs := [.int .u64 (max s.till till : Nat)]) (by show sLb l id * 4 + 3 + 1 ≤ l.length * 4; omega) (by omega), g3, ← flat_set sess_len hlt]
      have hL : (l.flatMap Sess.cells) = (l.flatMap Sess.cells).take (sLb l id * 4) ++ (s.cells ++ (l.flatMap Sess.cells).drop (sLb l id * 4 + 4)) := by
        rw [← hat, ← List.drop_drop, List.take_append_drop, List.take_append_drop]
      have hA : ((l.flatMap Sess.cells).take (sLb l id * 4)).length = sLb l id * 4 := by rw [List.length_take, flat_len sess_len]; omega
      generalize (l.flatMap Sess.cells).take (sLb l id * 4) = A at hL hA
      generalize (l.flatMap Sess.cells).drop (sLb l id * 4 + 4) = B at hL
      rw [hL]
      have e1 : List.take (sLb l id * 4 + 3) A = A := List.take_of_length_le (by omega)
      have e2 : List.drop (sLb l id * 4 + 4) A = [] := List.drop_of_length_le (by omega)
      have e3 : List.take (sLb l id * 4) A = A := List.take_of_length_le (by omega)
      have e4 : List.drop (sLb l id * 4 + 3 + 1) A = [] := List.drop_of_length_le (by omega)
      have e5 : sLb l id * 4 + 3 + 1 - sLb l id * 4 = 4 := by omega
      unfold splice
      simp [e5, List.take_append, List.drop_append, hA, Sess.cells, sTill, e1, e2, e3, e4]
    rw [← hmap] at hfin
    refine h _ w4 (some b) ?_ (f03.trans' p4.fr fun b' hb' hh => by unfold one at hh; subst hh; have := hob b' rfl; omega) hob
    show SlO w4 4 357 _ (l.map _).length _ _
    rw [List.length_map]
    exact hfin

theorem c330 {v : Value} {l : List Sess} {id : Int} (hk : SlI w Im 4 v l.length (l.flatMap Sess.cells)) (hu : idsUp l) (hn : l.length < 2^39)
    (h : NewS w (sClear l id).1 (fun v' w' => R (.tuple #[v', .int .i64 (sClear l id).2]) w')) : CallsR Tryz.prog 330 #[v, .int .i64 id] w R := by
  apply sh330; unfold S330
  refine c358s hk (by omega) fun v2 w2 ob hs f2 hob => ?_
  refine c374 hs.imm hu (by omega) fun w3 f3 => ?_
  have f03 := f2.trans f3
  have hs3 := hs.keep f3 (fun _ _ => no_not _)
  refine pv_i (ext2a _ _) (pv_i (ext2b _ _) ?_)
  refine pv_i (v := .bool (!sHas l id)) rfl ?_
  unfold NewS sClear at h
  cases hh : sHas l id with
  | false =>
    rw [hh, if_neg (by simp)] at h
    rw [Bool.not_false, condC_t]
    exact h v2 w3 ob hs3 f03 hob
  | true =>
    rw [hh, if_pos rfl] at h
    rw [Bool.not_true, condC_f]
    have hlt : sLb l id < l.length := by
      rcases Nat.lt_or_ge (sLb l id) l.length with h' | h'
      · exact h'
      · rw [sHas_lb l _ hu, List.getElem?_eq_none h'] at hh; cases hh
    refine pv_i (add1 (by omega)) ?_
    refine c376 hs3 (by omega) (by omega) (by omega) (flat_one sess_one l) fun v4 w4 hs4 f4 => ?_
    have hc := sClear_has l id hu hh
    have hfl : (l.filter fun s => !decide (s.id = id)).flatMap Sess.cells = (l.flatMap Sess.cells).take (sLb l id * 4) ++ (l.flatMap Sess.cells).drop ((sLb l id + 1) * 4) := by
      rw [hc, flat_take sess_len, flat_drop sess_len, List.flatMap_append]
    have hln : (l.filter fun s => !decide (s.id = id)).length = l.length - (sLb l id + 1 - sLb l id) := by rw [hc]; simp; omega
    rw [← hfl, ← hln] at hs4
    exact h v4 w4 ob hs4 (f03.trans' f4 fun b hb hh => by have := hob b hh; omega) hob
end Go.Dm
/-! Maps. -/
namespace Go.Dm
open Go Go.Proofs
variable {w : World} {R : Value → World → Prop} {Im : Nat → Prop}

theorem SlO.lt {w : World} {k n : Nat} {t : TypeId} {v : Value} {cells : List Value} {ob : Option Nat} (h : SlO w k t v n cells ob) : ∀ b, ob = some b → b < w.heap.size := by
  intro b hb
  obtain ⟨⟨c, _, _, _, h4⟩, _⟩ := h
  obtain ⟨full, g1, _⟩ := h4 b hb
  exact own_lt g1

theorem SlI.one {w : World} {k n : Nat} {v : Value} {cells : List Value} (h : SlI w Im k v n cells) : one1 v = true := by obtain ⟨b, c, rfl, _⟩ := h.row; rfl
theorem SlO.one {w : World} {k n : Nat} {t : TypeId} {v : Value} {cells : List Value} {ob : Option Nat} (h : SlO w k t v n cells ob) : one1 v = true := by obtain ⟨⟨c, rfl, _⟩, _⟩ := h; rfl
theorem okB2 {a b : Value} (ha : one1 a = true) (hb : one1 b = true) : okB true 2 (.agg #[a, b]) = true := by simp [okB, ha, hb]

theorem buildV2 {a b : Value} (ha : one1 a = true) (hb : one1 b = true) : buildV [(0, 1), (1, 1)] [(.slice none 0 0), (.slice none 0 0)] [(0, a), (1, b)] = some (.agg #[a, b]) := by
  unfold buildV fillL
  simp only [List.getElem?_cons_zero, cells_one ha]
  unfold fillL
  simp only [List.getElem?_cons_succ, List.getElem?_cons_zero, cells_one hb]
  rfl

/-- A map: its keys, rising, and what stands at each. -/
def MapI (w : World) (Im : Nat → Prop) (k : Nat) (v : Value) (m : Mp (List Value)) : Prop :=
  ∃ ks vs, v = .agg #[ks, vs] ∧ SlI w Im 1 ks m.length (m.map fun p => .string p.1) ∧ SlI w Im k vs m.length (m.flatMap fun p => p.2) ∧ (∀ p ∈ m, p.2.length = k) ∧ (∀ p ∈ m, p.2.all one1 = true) ∧ keysUp m
theorem MapI.ext {w w' : World} {k : Nat} {v : Value} {m : Mp (List Value)} (h : MapI w Im k v m) (f : Fr no w w') : MapI w' Im k v m := by
  obtain ⟨ks, vs, rfl, hk, hv, r⟩ := h
  exact ⟨ks, vs, rfl, hk.ext f, hv.ext f, r⟩
theorem MapI.keep {S : Nat → Prop} {w w' : World} {k : Nat} {v : Value} {m : Mp (List Value)} (h : MapI w Im k v m) (f : Fr S w w') (hS : ∀ b, Im b → ¬ S b) : MapI w' Im k v m := by
  obtain ⟨ks, vs, rfl, hk, hv, r⟩ := h
  exact ⟨ks, vs, rfl, hk.keep f hS, hv.keep f hS, r⟩
theorem MapI.im {Im' : Nat → Prop} {w : World} {k : Nat} {v : Value} {m : Mp (List Value)} (h : MapI w Im k v m) (hS : ∀ b, b < w.heap.size → Im b → Im' b) : MapI w Im' k v m := by
  obtain ⟨ks, vs, rfl, hk, hv, r⟩ := h
  exact ⟨ks, vs, rfl, hk.im hS, hv.im hS, r⟩
theorem MapI.zero (w : World) (k : Nat) : MapI w Im k (.agg #[.slice none 0 0, .slice none 0 0]) [] := ⟨_, _, rfl, SlI.nil .., SlI.nil .., by simp, by simp, trivial⟩

theorem flat_one' : ∀ {m : Mp (List Value)}, (∀ p ∈ m, p.2.all one1 = true) → (m.flatMap fun p => p.2).all one1 = true
  | [], _ => rfl
  | p :: m, h => by rw [List.flatMap_cons, List.all_append, h p (by simp), flat_one' fun q hq => h q (by simp [hq])]; rfl
theorem flatlen' {k : Nat} : ∀ {m : Mp (List Value)}, (∀ p ∈ m, p.2.length = k) → (m.flatMap fun p => p.2).length = m.length * k
  | [], _ => by simp
  | p :: m, h => by
    rw [List.flatMap_cons, List.length_append, h p (by simp), flatlen' (m := m) fun q hq => h q (by simp [hq]), List.length_cons, Nat.succ_mul]; omega
theorem flat_take' {k : Nat} : ∀ {m : Mp (List Value)} (i : Nat), (∀ p ∈ m, p.2.length = k) → (m.flatMap fun p => p.2).take (i * k) = (m.take i).flatMap fun p => p.2
  | [], i, _ => by simp
  | _ :: _, 0, _ => by simp
  | p :: m, i + 1, h => by
    rw [List.flatMap_cons, List.take_succ_cons, List.flatMap_cons, Nat.succ_mul, ← flat_take' (m := m) i fun q hq => h q (by simp [hq])]
    rw [List.take_append, h p (by simp), List.take_of_length_le (by rw [h p (by simp)]; omega), Nat.add_sub_cancel]
theorem flat_drop' {k : Nat} : ∀ {m : Mp (List Value)} (i : Nat), (∀ p ∈ m, p.2.length = k) → (m.flatMap fun p => p.2).drop (i * k) = (m.drop i).flatMap fun p => p.2
  | [], i, _ => by simp
  | _ :: _, 0, _ => by simp
  | p :: m, i + 1, h => by
    rw [List.flatMap_cons, List.drop_succ_cons, Nat.succ_mul, ← flat_drop' (m := m) i fun q hq => h q (by simp [hq]), List.drop_append, h p (by simp)]
    rw [List.drop_of_length_le (by rw [h p (by simp)]; omega), List.nil_append, Nat.add_sub_cancel]
theorem flat_at' {k : Nat} {m : Mp (List Value)} {i : Nat} {p : ByteArray × List Value} (hl : ∀ p ∈ m, p.2.length = k) (h : m[i]? = some p) : ((m.flatMap fun p => p.2).drop (i * k)).take k = p.2 := by
  rw [flat_drop' i hl]
  have hlt : i < m.length := by
    rcases Nat.lt_or_ge i m.length with hh | hh
    · exact hh
    · rw [List.getElem?_eq_none hh] at h; cases h
  rw [List.drop_eq_getElem_cons hlt, List.flatMap_cons]
  have : m[i] = p := by rw [List.getElem?_eq_getElem hlt] at h; exact Option.some.inj h
  have hp := hl p (List.mem_of_getElem? h)
  rw [this, List.take_append, hp, Nat.sub_self, List.take_of_length_le (by omega)]; simp
theorem flat_set' {k : Nat} {m : Mp (List Value)} {i : Nat} {q : ByteArray × List Value} (hl : ∀ p ∈ m, p.2.length = k) (h : i < m.length) (hq : q.2.length = k) : splice (m.flatMap fun p => p.2) (i * k) q.2 = (m.set i q).flatMap fun p => p.2 := by
  unfold splice
  rw [hq, ← Nat.succ_mul, flat_take' i hl, flat_drop' (i + 1) hl]
  rw [List.set_eq_take_append_cons_drop, if_pos h, List.flatMap_append, List.flatMap_cons, List.append_assoc]
theorem lb_has {α : Type} {m : Mp α} {key : ByteArray} (hu : keysUp m) (hh : hasK m key = true) : lbK m key < m.length := by
  rcases Nat.lt_or_ge (lbK m key) m.length with h' | h'
  · exact h'
  · unfold hasK at hh; rw [mGet_lb m key hu, List.getElem?_eq_none h'] at hh; cases hh
theorem at_has {α : Type} {m : Mp α} {key : ByteArray} (hu : keysUp m) (hh : hasK m key = true) : ∃ x, m[lbK m key]? = some (key, x) ∧ mGet m key = some x := by
  have hlt := lb_has hu hh
  have hg := mGet_lb m key hu
  unfold hasK at hh
  rw [hg] at hh
  obtain ⟨q, hq⟩ : ∃ q, m[lbK m key]? = some q := ⟨_, List.getElem?_eq_getElem hlt⟩
  rw [hq] at hh hg ⊢
  simp only at hh hg
  split at hh
  · rename_i h1
    obtain ⟨a, x⟩ := q
    simp only at h1; subst h1
    exact ⟨x, rfl, by rw [hg, if_pos rfl]⟩
  · cases hh
theorem map_key_set {m : Mp (List Value)} {key : ByteArray} {x : List Value} (hu : keysUp m) (hh : hasK m key = true) : (m.set (lbK m key) (key, x)).map (fun p => Value.string p.1) = m.map fun p => Value.string p.1 := by
  obtain ⟨y, hy, _⟩ := at_has hu hh
  rw [List.map_set]
  apply List.ext_getElem?
  intro i
  rw [List.getElem?_set]
  split
  · rename_i h
    subst h
    have := lb_has hu hh
    rw [List.getElem?_map, hy]
    simp [this]
  · rfl

theorem find_g {f : Nat} {v : Value} {k : Nat} {m : Mp (List Value)} {key : ByteArray} (hm : MapI w Im k v m) (hn : m.length < 2^61) (h : ∀ w', Fr no w w' → R (.tuple #[.int .i64 (lbK m key : Nat), .bool (hasK m key)]) w') :
    okB true 2 v = true ∧ pv (fieldV false 0 1 v) fun t7 => syC w no fun w1 X2 => CallsR Tryz.prog 381 #[t7, .string key] w1 fun t9 w3 => kp X2 w1 w3 ∧ pv (extV t9 0) fun t10 => pv (extV t9 1) fun t11 => R (.tuple #[t10, t11]) w3 := by
  obtain ⟨ks, vs, rfl, hk, hv, hlen, hone, hu⟩ := hm
  refine ⟨?_, ?_⟩
  · obtain ⟨b1, c1, rfl, _⟩ := hk.row
    obtain ⟨b2, c2, rfl, _⟩ := hv.row
    rfl
  refine pv_i (v := ks) rfl ?_
  intro w1 X1 y1
  refine c381 (hk.ext y1.frno) hu hn ?_
  refine ⟨kp_no (Fr.refl _ _) y1.lt, ?_⟩
  exact pv_i (ext2a _ _) (pv_i (ext2b _ _) (h w1 y1.frno))
theorem c345 {v : Value} {k : Nat} {m : Mp (List Value)} {key : ByteArray} (hm : MapI w Im k v m) (hn : m.length < 2^61) (h : ∀ w', Fr no w w' → R (.tuple #[.int .i64 (lbK m key : Nat), .bool (hasK m key)]) w') : CallsR Tryz.prog 345 #[v, .string key] w R := by
  apply sh345; unfold S345; exact find_g (f := 0) hm hn h
theorem c354 {v : Value} {k : Nat} {m : Mp (List Value)} {key : ByteArray} (hm : MapI w Im k v m) (hn : m.length < 2^61) (h : ∀ w', Fr no w w' → R (.tuple #[.int .i64 (lbK m key : Nat), .bool (hasK m key)]) w') : CallsR Tryz.prog 354 #[v, .string key] w R := by
  apply sh354; unfold S354; exact find_g (f := 0) hm hn h
end Go.Dm
