/- A part of the proof that doormanlaw21.LinOpen returns true for every input, on no condition. -/
import Derived.Test.YtbfajkpjilhkgaaGreatT5
set_option linter.unusedVariables false
set_option linter.unusedSimpArgs false
/-! Small steps. -/
namespace Go.Dm
open Go

theorem wrap_i {x : Int} (h1 : -2^63 ≤ x) (h2 : x < 2^63) : IntKind.wrap .i64 x = x := by
  simp [IntKind.wrap, IntKind.signed, IntKind.bits]; omega
theorem wrap_u {x : Int} (h1 : 0 ≤ x) (h2 : x < 2^64) : IntKind.wrap .u64 x = x := by
  simp [IntKind.wrap, IntKind.signed, IntKind.bits]; omega

theorem pv_some {α : Type} (v : α) (k : α → Prop) : pv (some v) k = k v := rfl
theorem condC_t (A B : Prop) : condC (.bool true) A B = A := by
  simp [condC]
theorem condC_f (A B : Prop) : condC (.bool false) A B = B := by
  simp [condC]
theorem condC_b (b : Bool) (A B : Prop) : condC (.bool b) A B = if b = true then A else B := by
  cases b <;> simp [condC_t, condC_f]
theorem gd_tt (A K w) : gd (.bool true) true A K w = A K := by simp [gd, boolOf]
theorem gd_ff (A K w) : gd (.bool false) false A K w = A K := by simp [gd, boolOf]
theorem gd_tf (A K w) : gd (.bool true) false A K w = K undef w := by simp [gd, boolOf]
theorem gd_ft (A K w) : gd (.bool false) true A K w = K undef w := by simp [gd, boolOf]
theorem jnB_e (A : (Env → World → (Nat → Prop) → Prop) → Prop) (K) : jnB A K = A K := rfl

theorem gdB_b (b want : Bool) (A Z K) : gdB (.bool b) want A Z K = if b = want then A K else Z K := by
  by_cases h : b = want
  · subst h; simp [gdB, boolOf]
  · simp [gdB, boolOf, h]
theorem gdB_u (want : Bool) (A Z K) : gdB undef want A Z K = Z K := by
  have : boolOf undef ≠ some want := by simp [boolOf, undef]
  simp [gdB, this]
theorem upd_a (e : Env) (d : Nat) (v : Value) (t : Nat) : upd e d v t = if t = d then v else e t := by
  unfold upd
  by_cases h : t = d
  · subst h; simp
  · have : Nat.beq t d = false := by
      cases hb : Nat.beq t d with
      | false => rfl
      | true => exact absurd (Nat.eq_of_beq_eq_true hb) h
    simp [h, this]
theorem upd_s (e : Env) (d : Nat) (v : Value) : upd e d v d = v := by rw [upd_a, if_pos rfl]
theorem ext2a (a b : Value) : extV (.tuple #[a, b]) 0 = some a := rfl
theorem ext2b (a b : Value) : extV (.tuple #[a, b]) 1 = some b := rfl
theorem ext3a (a b c : Value) : extV (.tuple #[a, b, c]) 0 = some a := rfl
theorem ext3b (a b c : Value) : extV (.tuple #[a, b, c]) 1 = some b := rfl
theorem ext3c (a b c : Value) : extV (.tuple #[a, b, c]) 2 = some c := rfl
theorem not_b (b : Bool) : unV .not (.bool b) = some (.bool (!b)) := rfl
theorem pickV_b (c : Bool) (a b : Value) : pickV (.bool c) a b = some (if c = true then a else b) := by cases c <;> rfl
theorem and_gd (b c : Bool) (k : Nat) (w : World) (X : Nat → Prop) (F : World → (Nat → Prop) → Value → Prop) :
    gdB (.bool b) true (fun N => N (upd e0 k (.bool c)) w X) (fun N => N (upd e0 k undef) w X) (fun g w X => pv (pickV (.bool b) (g k) (.bool false)) (F w X)) = F w X (.bool (b && c)) := by
  rw [gdB_b]; cases b <;> simp [upd_a, pickV_b, pv_some]
theorem or_gd (b c : Bool) (k : Nat) (w : World) (X : Nat → Prop) (F : World → (Nat → Prop) → Value → Prop) :
    gdB (.bool b) false (fun N => N (upd e0 k (.bool c)) w X) (fun N => N (upd e0 k undef) w X) (fun g w X => pv (pickV (.bool b) (.bool true) (g k)) (F w X)) = F w X (.bool (b || c)) := by
  rw [gdB_b]; cases b <;> simp [upd_a, pickV_b, pv_some]
theorem loop_eq (s : ByteArray) : ∀ (k i : Nat) (r : List UInt8), s.size - i = k → ByteArray.toList.loop s i r = r.reverse ++ s.data.toList.drop i := by
  intro k
  induction k with
  | zero =>
    intro i r h
    unfold ByteArray.toList.loop
    have h' : s.data.size ≤ i := by show s.size ≤ i; omega
    rw [if_neg (by omega), List.drop_eq_nil_of_le (by simpa using h')]; simp
  | succ k ih =>
    intro i r h
    unfold ByteArray.toList.loop
    rw [if_pos (by omega), ih (i + 1) _ (by omega)]
    have hi : i < s.data.size := by show i < s.size; omega
    have e1 : s.data.toList.drop i = s.data.toList[i]'(by simpa using hi) :: s.data.toList.drop (i + 1) := List.drop_eq_getElem_cons (by simpa using hi)
    have e2 : s.get! i = s.data.toList[i]'(by simpa using hi) := by
      show s.data[i]! = _
      rw [getElem!_pos s.data i hi]; simp
    rw [e1, e2, List.reverse_cons, List.append_assoc]; rfl
theorem ba_toList (s : ByteArray) : s.toList = s.data.toList := by
  show ByteArray.toList.loop s 0 [] = _
  rw [loop_eq s _ 0 [] rfl]; simp
theorem syC_i {u : World} {X : Nat → Prop} {K : World → (Nat → Prop) → Prop} (h : ∀ w X', Sy u X w X' → K w X') : syC u X K := h
theorem kp_fr {S X : Nat → Prop} {w w' : World} (h : Fr S w w') (hl : ∀ b, X b → b < w.heap.size) (hd : ∀ b, X b → ¬ S b) : kp X w w' := fun b hb => h.keep b (hl b hb) (hd b hb)
theorem kp_no {X : Nat → Prop} {w w' : World} (h : Fr no w w') (hl : ∀ b, X b → b < w.heap.size) : kp X w w' := kp_fr h hl fun _ _ h => h
/-- A first look at memory. -/
theorem Sy.frno {u w : World} {X' : Nat → Prop} (h : Sy u no w X') : Fr no u w := h.fr
theorem Sy.ge {u w : World} {X' : Nat → Prop} (h : Sy u no w X') : ∀ b, X' b → u.heap.size ≤ b := fun b hb => (h.sub b hb).resolve_left id
/-- Boxes alone, made since. -/
theorem Fr.boxes {w0 u w : World} {S X : Nat → Prop} (h : Fr S w0 u) (k : Fr X u w) (hX : ∀ b, X b → w0.heap.size ≤ b) : Fr S w0 w :=
  h.trans' k fun b hb hx => by have := hX b hx; omega
theorem Sy.step {w0 u w : World} {S X X' : Nat → Prop} (y : Sy u X w X') (h : Fr S w0 u) (hX : ∀ b, X b → w0.heap.size ≤ b) : Fr S w0 w ∧ (∀ b, X' b → w0.heap.size ≤ b) ∧ (∀ b, X' b → b < w.heap.size) :=
  ⟨h.boxes y.fr hX, fun b hb => (y.sub b hb).elim (hX b) fun hh => Nat.le_trans h.size hh, y.lt⟩
end Go.Dm
/-! Rows that are read. -/
namespace Go.Dm
open Go

/-- Blocks yet to be made are of the kind. -/
def NewI (w : World) (Im : Nat → Prop) : Prop := ∀ b, w.heap.size ≤ b → Im b
theorem NewI.mono {w w' : World} {Im : Nat → Prop} (h : NewI w Im) (hs : w.heap.size ≤ w'.heap.size) : NewI w' Im := fun b hb => h b (Nat.le_trans hs hb)
theorem NewI.fr {w w' : World} {S Im : Nat → Prop} (h : NewI w Im) (hf : Fr S w w') : NewI w' Im := h.mono hf.size

/-- The slice v has n elements of k cells each, of blocks that nobody changes. -/
structure SlI (w : World) (Im : Nat → Prop) (k : Nat) (v : Value) (n : Nat) (cells : List Value) : Prop where
  ex : ∃ base c, v = .slice base n c ∧ n ≤ c ∧ (base = none → c = 0) ∧ ∀ a, base = some a → 0 < n → ∃ b o full, a = ⟨b, o, none⟩ ∧ blk w b = some full ∧ Im b ∧ o + n * k ≤ full.length ∧ (full.drop o).take (n * k) = cells
  len : cells.length = n * k

theorem SlI.nil (w : World) (Im : Nat → Prop) (k : Nat) : SlI w Im k (.slice none 0 0) 0 [] := ⟨⟨none, 0, rfl, Nat.le_refl _, fun _ => rfl, fun _ h => by cases h⟩, by simp⟩

theorem SlI.keep {S Im : Nat → Prop} {w w' : World} {k n : Nat} {v : Value} {cells : List Value} (h : SlI w Im k v n cells) (hf : Fr S w w') (hS : ∀ b, Im b → ¬ S b) : SlI w' Im k v n cells := by
  obtain ⟨⟨base, c, h1, h2, h3, h4⟩, h5⟩ := h
  refine ⟨⟨base, c, h1, h2, h3, fun a ha hn => ?_⟩, h5⟩
  obtain ⟨b, o, full, g1, g2, g3, g4, g5⟩ := h4 a ha hn
  exact ⟨b, o, full, g1, hf.blk g2 (hS b g3), g3, g4, g5⟩
theorem SlI.ext {Im : Nat → Prop} {w w' : World} {k n : Nat} {v : Value} {cells : List Value} (h : SlI w Im k v n cells) (hf : Fr no w w') : SlI w' Im k v n cells := h.keep hf fun _ _ h => h
theorem SlI.im {Im Im' : Nat → Prop} {w : World} {k n : Nat} {v : Value} {cells : List Value} (h : SlI w Im k v n cells) (hS : ∀ b, b < w.heap.size → Im b → Im' b) : SlI w Im' k v n cells := by
  obtain ⟨⟨base, c, h1, h2, h3, h4⟩, h5⟩ := h
  refine ⟨⟨base, c, h1, h2, h3, fun a ha hn => ?_⟩, h5⟩
  obtain ⟨b, o, full, g1, g2, g3, g4, g5⟩ := h4 a ha hn
  exact ⟨b, o, full, g1, g2, hS b (blk_lt g2) g3, g4, g5⟩

theorem SlO.toI {w : World} {Im : Nat → Prop} {k n : Nat} {t : TypeId} {v : Value} {cells : List Value} {ob : Option Nat} (h : SlO w k t v n cells ob) (hI : ∀ b, ob = some b → Im b) : SlI w Im k v n cells := by
  obtain ⟨⟨c, h1, h2, h3, h4⟩, h5⟩ := h
  refine ⟨⟨_, c, h1, h2, ?_, fun a ha _ => ?_⟩, h5⟩
  · intro hb; cases ob with
    | none => exact h3 rfl
    | some b => cases hb
  · cases ob with
    | none => cases ha
    | some b =>
      obtain ⟨full, g1, g2, g3, g4⟩ := h4 b rfl
      simp only [Option.map_some, Option.some.injEq] at ha; subst ha
      exact ⟨b, 0, full, rfl, own_blk g1, hI b rfl, by rw [g2, Nat.zero_add]; exact Nat.mul_le_mul_right k h2, by simpa using g3⟩

theorem SlI.row {w : World} {k n : Nat} {Im : Nat → Prop} {v : Value} {cells : List Value} (h : SlI w Im k v n cells) : ∃ base c, v = .slice base n c ∧ n ≤ c ∧ (base = none → c = 0) ∧ Row w base (n * k) cells := by
  obtain ⟨⟨base, c, h1, h2, h3, h4⟩, h5⟩ := h
  refine ⟨base, c, h1, h2, h3, h5, ?_⟩
  cases base with
  | none => left; have := h3 rfl; have : n = 0 := by omega
            simp [this]
  | some a =>
    rcases Nat.eq_zero_or_pos n with h0 | h0
    · left; simp [h0]
    obtain ⟨b, o, full, g1, g2, g3, g4, g5⟩ := h4 a rfl h0
    exact .inr ⟨b, o, full, by rw [g1], g2, g4, g5.symm⟩

theorem SlI.lenV {w : World} {k n : Nat} {Im : Nat → Prop} {v : Value} {cells : List Value} (h : SlI w Im k v n cells) : Dm.lenV v = some (.int .i64 n) := by
  obtain ⟨⟨base, c, rfl, _⟩, _⟩ := h; rfl
theorem SlO.lenV {w : World} {k n : Nat} {t : TypeId} {v : Value} {cells : List Value} {ob : Option Nat} (h : SlO w k t v n cells ob) : Dm.lenV v = some (.int .i64 n) := by
  obtain ⟨⟨c, rfl, _⟩, _⟩ := h; rfl

/-- The address of an element, and the load of one cell. -/
theorem SlI.idx {w : World} {k n : Nat} {Im : Nat → Prop} {v : Value} {cells : List Value} (h : SlI w Im k v n cells) {i : Int} {kd : IntKind} (h0 : 0 ≤ i) (hi : i < n) :
    ∃ b o full, idxSV k v (.int kd i) = some (.pointer (some ⟨b, o + i.toNat * k, none⟩)) ∧ blk w b = some full ∧ Im b ∧ o + n * k ≤ full.length ∧ (full.drop o).take (n * k) = cells := by
  obtain ⟨⟨base, c, rfl, h2, h3, h4⟩, h5⟩ := h
  cases base with
  | none => have := h3 rfl; omega
  | some a =>
    obtain ⟨b, o, full, rfl, g2, g3, g4, g5⟩ := h4 a rfl (by omega)
    exact ⟨b, o, full, by simp [idxSV, h0, hi], g2, g3, g4, g5⟩

/-- Loading element i of a slice whose elements are one cell. -/
theorem SlI.ld1 {w : World} {n : Nat} {Im : Nat → Prop} {v : Value} {cells : List Value} (h : SlI w Im 1 v n cells) {i : Int} {kd : IntKind} (h0 : 0 ≤ i) (hi : i < n) {K : Value → Prop} {x : Value} (hx : cells[i.toNat]? = some x) :
    ∃ p, idxSV 1 v (.int kd i) = some p ∧ (K x → ldC w false 1 p K) := by
  obtain ⟨b, o, full, h1, h2, h3, h4, h5⟩ := h.idx (kd := kd) h0 hi
  refine ⟨_, h1, fun hK => ld_b h2 ?_ hK⟩
  rw [← h5] at hx
  rw [List.getElem?_take] at hx
  split at hx
  · rw [List.getElem?_drop] at hx; simpa using hx
  · cases hx

theorem SlI.ld1' {w : World} {n : Nat} {Im : Nat → Prop} {v : Value} {cells : List Value} (h : SlI w Im 1 v n cells) {i : Int} {kd : IntKind} (h0 : 0 ≤ i) (hi : i < n) {x : Value} (hx : cells[i.toNat]? = some x) :
    ∃ p, idxSV 1 v (.int kd i) = some p ∧ ∀ (K : Value → Prop), K x → ldC w false 1 p K := by
  obtain ⟨b, o, full, h1, h2, h3, h4, h5⟩ := h.idx (kd := kd) h0 hi
  refine ⟨_, h1, fun K hK => ld_b h2 ?_ hK⟩
  rw [← h5] at hx
  rw [List.getElem?_take] at hx
  split at hx
  · rw [List.getElem?_drop] at hx; simpa using hx
  · cases hx
theorem SlI.ldk' {w : World} {k n : Nat} {Im : Nat → Prop} {v : Value} {cells : List Value} (h : SlI w Im k v n cells) {i : Int} {kd : IntKind} (h0 : 0 ≤ i) (hi : i < n) :
    ∃ p, idxSV k v (.int kd i) = some p ∧ ∀ (K : Value → Prop), K (.agg ((cells.drop (i.toNat * k)).take k).toArray) → ldC w true k p K := by
  obtain ⟨b, o, full, h1, h2, h3, h4, h5⟩ := h.idx (kd := kd) h0 hi
  have hik : i.toNat * k + k ≤ n * k := by
    rw [← Nat.succ_mul]; exact Nat.mul_le_mul_right k (by omega)
  refine ⟨_, h1, fun K hK => la_b h2 (by omega) ?_ hK⟩
  rw [← h5, List.drop_take, List.take_take, List.drop_drop]
  congr 1
  omega

theorem SlI.ldk {w : World} {k n : Nat} {Im : Nat → Prop} {v : Value} {cells : List Value} (h : SlI w Im k v n cells) {i : Int} {kd : IntKind} (h0 : 0 ≤ i) (hi : i < n) {K : Value → Prop} :
    ∃ p, idxSV k v (.int kd i) = some p ∧ (K (.agg ((cells.drop (i.toNat * k)).take k).toArray) → ldC w true k p K) := by
  obtain ⟨b, o, full, h1, h2, h3, h4, h5⟩ := h.idx (kd := kd) h0 hi
  have hik : i.toNat * k + k ≤ n * k := by
    rw [← Nat.succ_mul]; exact Nat.mul_le_mul_right k (by omega)
  refine ⟨_, h1, fun hK => la_b h2 (by omega) ?_ hK⟩
  rw [← h5, List.drop_take, List.take_take, List.drop_drop]
  congr 1
  omega

theorem lp_b {F : Env → World → (Nat → Prop) → (Env → World → (Nat → Prop) → Prop) → Prop} {e : Env} {u : World} {X : Nat → Prop} (I : Nat → Env → World → (Nat → Prop) → Prop) (m : Nat) (h0 : I m e u X)
    (hr : ∀ m e1 u1 X1, I m e1 u1 X1 → F e1 u1 X1 fun e2 u2 X2 => ∃ m', m' < m ∧ I m' e2 u2 X2) : lpB F e u X := ⟨I, ⟨m, h0⟩, hr⟩
theorem lp_c {F : Env → World → (Nat → Prop) → (Env → World → (Nat → Prop) → Prop) → Prop} {e : Env} {u : World} {X : Nat → Prop} (I : Nat → Env → World → (Nat → Prop) → Prop) (m : Nat) (h0 : I m e u X)
    (hr : ∀ m e1 u1 X1 N, I m e1 u1 X1 → (∀ m' e2 u2 X2, m' < m → I m' e2 u2 X2 → N e2 u2 X2) → F e1 u1 X1 N) : lpB F e u X :=
  ⟨I, ⟨m, h0⟩, fun m e1 u1 X1 hI => hr m e1 u1 X1 _ hI fun m' _ _ _ hm hI' => ⟨m', hm, hI'⟩⟩
/-- Sums and the like of numbers that fit. -/
theorem add_i {a b : Int} (h1 : -2^63 ≤ a + b) (h2 : a + b < 2^63) : binV .add (.int .i64 a) (.int .i64 b) = some (.int .i64 (a + b)) := by
  show some (Value.int .i64 (IntKind.wrap .i64 (a + b))) = _
  rw [wrap_i h1 h2]
theorem sub_i {a b : Int} (h1 : -2^63 ≤ a - b) (h2 : a - b < 2^63) : binV .sub (.int .i64 a) (.int .i64 b) = some (.int .i64 (a - b)) := by
  show some (Value.int .i64 (IntKind.wrap .i64 (a - b))) = _
  rw [wrap_i h1 h2]
theorem mul_i {a b : Int} (h1 : -2^63 ≤ a * b) (h2 : a * b < 2^63) : binV .mul (.int .i64 a) (.int .i64 b) = some (.int .i64 (a * b)) := by
  show some (Value.int .i64 (IntKind.wrap .i64 (a * b))) = _
  rw [wrap_i h1 h2]
theorem lss_i {k : IntKind} {a b : Int} : binV .lss (.int k a) (.int k b) = some (.bool (decide (a < b))) := by
  show (if k = k then _ else _) = _; rw [if_pos rfl]; rfl
theorem gtr_i {k : IntKind} {a b : Int} : binV .gtr (.int k a) (.int k b) = some (.bool (decide (b < a))) := by
  show (if k = k then _ else _) = _; rw [if_pos rfl]; rfl
theorem leq_i {k : IntKind} {a b : Int} : binV .leq (.int k a) (.int k b) = some (.bool (decide (a ≤ b))) := by
  show (if k = k then _ else _) = _; rw [if_pos rfl]; rfl
theorem geq_i {k : IntKind} {a b : Int} : binV .geq (.int k a) (.int k b) = some (.bool (decide (b ≤ a))) := by
  show (if k = k then _ else _) = _; rw [if_pos rfl]; rfl
theorem eql_i {k : IntKind} {a b : Int} : binV .eql (.int k a) (.int k b) = some (.bool (decide (a = b))) := by
  show (if k = k then _ else _) = _; rw [if_pos rfl]
  show some (Value.bool (a == b)) = _
  by_cases h : a = b <;> simp [h]
theorem neq_i {k : IntKind} {a b : Int} : binV .neq (.int k a) (.int k b) = some (.bool (decide (a ≠ b))) := by
  show (if k = k then _ else _) = _; rw [if_pos rfl]
  show some (Value.bool (a != b)) = _
  by_cases h : a = b <;> simp [h]
theorem ldx {n i : Nat} {k : IntKind} : idxSV n (.slice none 0 0) (.int k i) = none := rfl
end Go.Dm
/-! Numbers, times, cells, latches. -/
namespace Go.Dm
open Go Go.Proofs
variable {w : World} {R : Value → World → Prop}

def maxU : Nat := 18446744073709551615
def addT (a b : Nat) : Nat := min (a + b) maxU
theorem addT_le (a b : Nat) : addT a b ≤ maxU := Nat.min_le_right ..
theorem c276 {a b : Nat} (ha : a ≤ maxU) (hb : b ≤ maxU) (h : R (.int .u64 (addT a b : Nat)) w) : CallsR Tryz.prog 276 #[.int .u64 a, .int .u64 b] w R := by
  apply sh276
  unfold maxU at *
  have e1 : IntKind.wrap .u64 (18446744073709551615 - (a : Int)) = 18446744073709551615 - (a : Int) := wrap_u (by omega) (by omega)
  simp only [S276, binV, intBin, pv_some, condC_b, e1, if_true, decide_eq_true_eq]
  split
  · have : addT a b = 18446744073709551615 := by unfold addT maxU; omega
    rw [this] at h; exact h
  · have : addT a b = a + b := by unfold addT maxU; omega
    rw [wrap_u (by omega) (by omega)]
    rw [this] at h; exact_mod_cast h

theorem c360 {now till : Nat} (h : R (.bool (decide (till ≤ now))) w) : CallsR Tryz.prog 360 #[.int .u64 now, .int .u64 till] w R := by
  apply sh360
  simp only [S360, binV, intBin, pv_some, if_true, Int.ofNat_le]
  exact h

/-- The time: what it is, how many writings there were, is it closed. -/
structure Tm where
  now : Nat
  seq : Nat
  shut : Bool
def Tm.v (t : Tm) : Value := .agg #[.int .u64 t.now, .int .u64 t.seq, .bool t.shut]
def Tm.ok (t : Tm) : Prop := t.now ≤ maxU ∧ t.seq ≤ maxU
def Tm.pass (t : Tm) (by_ : Nat) : Tm := { t with now := addT t.now by_ }
def Tm.take (t : Tm) : Tm := { t with seq := addT t.seq 1 }
def Tm.close (t : Tm) : Tm := { t with shut := true }

theorem c171 {t : Tm} {b : Nat} (ht : t.ok) (hb : b ≤ maxU) (h : ∀ w', Fr no w w' → R (t.pass b).v w') : CallsR Tryz.prog 171 #[t.v, .int .u64 b] w R := by
  apply sh171
  unfold S171
  refine ⟨rfl, ?_⟩
  refine pv_i (v := .int .u64 t.now) rfl ?_
  intro w1 X1 y1
  refine c276 ht.1 hb ?_
  refine ⟨kp_no (Fr.refl _ _) y1.lt, ?_⟩
  refine pv_i (v := (t.pass b).v) rfl ?_
  refine ⟨rfl, ?_⟩
  intro w2 X2 y2
  exact h w2 (y2.step y1.frno y1.ge).1
theorem c174 {a b c : Int} (h : R (.bool (decide (b ≤ a ∧ a ≤ c))) w) : CallsR Tryz.prog 174 #[.int .i64 a, .int .i64 b, .int .i64 c] w R := by
  apply sh174
  simp only [S174, binV, intBin, pv_some, if_true, gdB_b, decide_eq_true_eq, upd_a, reduceIte, pickV_b]
  by_cases h1 : b ≤ a <;> simp [h1] at h ⊢ <;> exact h

theorem ba_toList_nil (s : ByteArray) : (s.toList == (⟨#[]⟩ : ByteArray).toList) = decide (s.size = 0) := by
  rw [ba_toList, ba_toList]
  show (s.data.toList == []) = decide (s.data.size = 0)
  rw [← Array.length_toList]
  cases s.data.toList <;> simp
theorem c172 {s : ByteArray} (h : R (.bool (decide (s.size ≠ 0 ∧ s.size ≤ 16))) w) : CallsR Tryz.prog 172 #[.string s] w R := by
  apply sh172
  simp only [S172, binV, strBin, lenSV, intBin, pv_some, if_true, and_gd, ba_toList_nil]
  have e : (!decide (s.size = 0) && decide ((s.size : Int) ≤ 16)) = decide (s.size ≠ 0 ∧ s.size ≤ 16) := by
    by_cases h1 : s.size = 0 <;> by_cases h2 : s.size ≤ 16 <;> simp [h1, h2] <;> omega
  rw [e]; exact h

theorem c173 {a b c : Int} (h : R (.bool (decide (0 ≤ a ∧ a ≤ 255 ∧ 1 ≤ b ∧ b ≤ 9 ∧ 0 ≤ c ∧ c ≤ 9))) w) : CallsR Tryz.prog 173 #[.int .i64 a, .int .i64 b, .int .i64 c] w R := by
  apply sh173
  simp only [S173, binV, intBin, pv_some, if_true, and_gd, ge_iff_le]
  have e : (decide (0 ≤ a) && decide (a ≤ 255) && decide (1 ≤ b) && decide (b ≤ 9) && decide (0 ≤ c) && decide (c ≤ 9)) = decide (0 ≤ a ∧ a ≤ 255 ∧ 1 ≤ b ∧ b ≤ 9 ∧ 0 ≤ c ∧ c ≤ 9) := by
    simp only [Bool.decide_and, Bool.and_assoc]
  rw [e]; exact h

/-- An epoch. -/
structure Ep where
  v : Nat
  bound : Nat
def Ep.val (c : Ep) : Value := .agg #[.int .u64 c.v, .int .u64 c.bound]
def Ep.spent (c : Ep) : Bool := decide (c.bound ≤ c.v)
def Ep.writing (c : Ep) : Bool := decide (c.v % 2 = 1)
def Ep.begin (c : Ep) : Ep := if c.spent = false ∧ c.writing = false then { c with v := c.v + 1 } else c
def Ep.fin (c : Ep) : Ep := if c.writing = true then { c with v := c.v + 1 } else c

theorem c403 {c : Ep} (h : ∀ w', Fr no w w' → R (.bool c.spent) w') : CallsR Tryz.prog 403 #[c.val] w R := by
  apply sh403
  unfold S403
  refine ⟨rfl, ?_⟩
  refine pv_i (v := .int .u64 c.v) rfl ?_
  refine pv_i (v := .int .u64 c.bound) rfl ?_
  simp only [binV, intBin, pv_some, if_true, ge_iff_le, Int.ofNat_le]
  intro w1 X1 y1
  exact h w1 y1.frno
theorem and1 {n : Nat} (hn : n ≤ maxU) : IntKind.wrap .u64 ((BitVec.ofInt (IntKind.bits .u64) (n : Int) &&& BitVec.ofInt (IntKind.bits .u64) 1).toNat : Int) = ((n % 2 : Nat) : Int) := by
  have : (BitVec.ofInt (IntKind.bits .u64) (n : Int) &&& BitVec.ofInt (IntKind.bits .u64) 1).toNat = n % 2 := by
    unfold maxU at hn
    have e0 : BitVec.ofInt (IntKind.bits .u64) (n : Int) = BitVec.ofNat 64 n := by simp [IntKind.bits]
    have e1 : BitVec.ofInt (IntKind.bits .u64) 1 = BitVec.ofNat 64 1 := rfl
    rw [e0, e1]
    show (BitVec.ofNat 64 n &&& BitVec.ofNat 64 1).toNat = n % 2
    rw [BitVec.toNat_and, BitVec.toNat_ofNat, BitVec.toNat_ofNat, Nat.mod_eq_of_lt (by omega)]
    exact Nat.and_one_is_mod n
  rw [this]
  exact wrap_u (by omega) (by omega)
theorem c183 {c : Ep} (hc : c.v ≤ maxU) (h : ∀ w', Fr no w w' → R (.bool c.writing) w') : CallsR Tryz.prog 183 #[c.val] w R := by
  apply sh183
  unfold S183
  refine ⟨rfl, ?_⟩
  refine pv_i (v := .int .u64 c.v) rfl ?_
  have e := and1 hc
  simp only [binV, intBin, pv_some, if_true, e]
  intro w1 X1 y1
  have e2 : (((c.v % 2 : Nat) : Int) == 1) = c.writing := by
    unfold Ep.writing
    by_cases hh : c.v % 2 = 1
    · simp [hh]
    · have : c.v % 2 = 0 := by omega
      simp [this]
  rw [e2]
  exact h w1 y1.frno
theorem c309 {c : Ep} (h : ∀ w', Fr no w w' → R (.int .u64 c.v) w') : CallsR Tryz.prog 309 #[c.val] w R := by
  apply sh309
  unfold S309
  refine ⟨rfl, ?_⟩
  refine pv_i (v := .int .u64 c.v) rfl ?_
  intro w1 X1 y1
  exact h w1 y1.frno

theorem c377 {c : Ep} (hb : c.bound ≤ maxU) (hc : c.v ≤ maxU) (h : ∀ w', Fr no w w' → R c.begin.val w') : CallsR Tryz.prog 377 #[c.val] w R := by
  apply sh377
  unfold S377
  refine ⟨rfl, ?_⟩
  rw [jnB_e]
  intro w1 X1 y1
  refine c403 fun w2 f2 => ?_
  refine ⟨kp_no f2 y1.lt, ?_⟩
  refine pv_i (v := .bool (!c.spent)) rfl ?_
  have f12 := y1.frno.trans f2
  have l2 : ∀ b, X1 b → b < w2.heap.size := fun b hb => Nat.lt_of_lt_of_le (y1.lt b hb) f2.size
  rw [gdB_b]
  have fin : ∀ (w3 : World) (d : Ep), Fr no w w3 → d = c.begin → (okB true 2 d.val = true ∧ syC w3 X1 fun w9 X10 => R d.val w9) := by
    intro w3 d f3 hd
    refine ⟨rfl, ?_⟩
    intro w4 X4 y4
    rw [hd]
    exact h w4 (y4.step f3 y1.ge).1
  cases hs : c.spent with
  | true =>
    simp only [Bool.not_true, Bool.false_eq_true, reduceIte, upd_a, pickV_b, pv_some, condC_f]
    exact fin w2 c f12 (by simp [Ep.begin, hs])
  | false =>
    simp only [Bool.not_false, reduceIte]
    refine c183 hc fun w3 f3 => ?_
    refine ⟨kp_no f3 l2, ?_⟩
    refine pv_i (v := .bool (!c.writing)) rfl ?_
    simp only [upd_a, reduceIte, pickV_b, pv_some]
    cases hw : c.writing with
    | true =>
      simp only [Bool.not_true, condC_f]
      exact fin w3 c (f12.trans f3) (by simp [Ep.begin, hw])
    | false =>
      simp only [Bool.not_false, condC_t]
      refine pv_i (v := .int .u64 c.v) rfl ?_
      have hlt : c.v < c.bound := by simpa [Ep.spent] using hs
      unfold maxU at *
      have e := wrap_u (x := (c.v : Int) + 1) (by omega) (by omega)
      simp only [binV, intBin, if_true, pv_some, e]
      refine pv_i (v := Ep.val ⟨c.v + 1, c.bound⟩) rfl ?_
      exact fin w3 _ (f12.trans f3) (by simp [Ep.begin, hw, hs])

theorem c378 {c : Ep} (hc : c.v < maxU) (h : ∀ w', Fr no w w' → R c.fin.val w') : CallsR Tryz.prog 378 #[c.val] w R := by
  apply sh378
  unfold S378
  refine ⟨rfl, ?_⟩
  rw [jnB_e]
  intro w1 X1 y1
  refine c183 (Nat.le_of_lt hc) fun w2 f2 => ?_
  refine ⟨kp_no f2 y1.lt, ?_⟩
  have f12 := y1.frno.trans f2
  have fin : ∀ (w3 : World) (d : Ep), Fr no w w3 → d = c.fin → (okB true 2 d.val = true ∧ syC w3 X1 fun w9 X10 => R d.val w9) := by
    intro w3 d f3 hd
    refine ⟨rfl, ?_⟩
    intro w4 X4 y4
    rw [hd]
    exact h w4 (y4.step f3 y1.ge).1
  cases hw : c.writing with
  | false =>
    simp only [condC_f]
    exact fin w2 c f12 (by simp [Ep.fin, hw])
  | true =>
    simp only [condC_t]
    refine pv_i (v := .int .u64 c.v) rfl ?_
    unfold maxU at *
    have e := wrap_u (x := (c.v : Int) + 1) (by omega) (by omega)
    simp only [binV, intBin, if_true, pv_some, e]
    refine pv_i (v := Ep.val ⟨c.v + 1, c.bound⟩) rfl ?_
    exact fin w2 _ f12 (by simp [Ep.fin, hw])
end Go.Dm
/-! Latches, hashes, comparisons. -/
namespace Go.Dm
open Go Go.Proofs
variable {w : World} {R : Value → World → Prop}

/-- A latch: who has it, and one more; 0: nobody. -/
def latV (l : Int) : Value := .agg #[.int .i64 l]
theorem c186 {l : Int} (h : ∀ w', Fr no w w' → R (.bool (decide (l = 0))) w') : CallsR Tryz.prog 186 #[latV l] w R := by
  apply sh186
  unfold S186
  refine ⟨rfl, ?_⟩
  refine pv_i (v := .int .i64 l) rfl ?_
  simp only [binV, intBin, if_true, pv_some]
  intro w1 X1 y1
  have e : (l == 0) = decide (l = 0) := by by_cases hh : l = 0 <;> simp [hh]
  rw [e]; exact h w1 y1.frno
theorem c365 {l : Int} (h0 : 0 ≤ l) (h1 : l < 2^62) (h : ∀ w', Fr no w w' → R (.int .i64 (l - 1)) w') : CallsR Tryz.prog 365 #[latV l] w R := by
  apply sh365
  unfold S365
  refine ⟨rfl, ?_⟩
  refine pv_i (v := .int .i64 l) rfl ?_
  simp only [binV, intBin, if_true, pv_some, wrap_i (x := l - 1) (by omega) (by omega)]
  intro w1 X1 y1
  exact h w1 y1.frno

theorem c310 {l who : Int} (hw : 0 ≤ who) (hw2 : who < 2^62) (h : ∀ w', Fr no w w' → R (.tuple #[latV (if l = 0 then who + 1 else l), .bool (decide (l = 0))]) w') : CallsR Tryz.prog 310 #[latV l, .int .i64 who] w R := by
  apply sh310
  unfold S310
  refine ⟨rfl, ?_⟩
  have e0 : decide (who < 0) = false := by simp; omega
  simp only [binV, intBin, if_true, pv_some, e0, gdB_b]
  intro w1 X1 y1
  refine c186 fun w2 f2 => ?_
  refine ⟨kp_no f2 y1.lt, ?_⟩
  have f12 := y1.frno.trans f2
  refine pv_i (v := .bool (!decide (l = 0))) rfl ?_
  simp only [upd_a, reduceIte, pickV_b, pv_some, Bool.false_eq_true]
  by_cases hl : l = 0
  · have e1 : (!decide (l = 0)) = false := by simp [hl]
    simp only [e1, condC_f, wrap_i (x := who + 1) (by omega) (by omega)]
    refine pv_i (v := latV (who + 1)) rfl ?_
    refine ⟨rfl, ?_⟩
    intro w3 X3 y3
    have := h w3 (y3.step f12 y1.ge).1
    simpa [hl] using this
  · have e1 : (!decide (l = 0)) = true := by simp [hl]
    simp only [e1, condC_t]
    refine ⟨rfl, ?_⟩
    intro w3 X3 y3
    have := h w3 (y3.step f12 y1.ge).1
    simpa [hl] using this

theorem c311 {l who : Int} (hl0 : 0 ≤ l) (hl2 : l < 2^62) (h : ∀ w', Fr no w w' → R (.tuple #[latV (if l ≠ 0 ∧ l - 1 = who then 0 else l), .bool (decide (l ≠ 0 ∧ l - 1 = who))]) w') : CallsR Tryz.prog 311 #[latV l, .int .i64 who] w R := by
  apply sh311
  unfold S311
  refine ⟨rfl, ?_⟩
  intro w1 X1 y1
  refine c186 fun w2 f2 => ?_
  refine ⟨kp_no f2 y1.lt, ?_⟩
  have f12 := y1.frno.trans f2
  have l2 : ∀ b, X1 b → b < w2.heap.size := fun b hb => Nat.lt_of_lt_of_le (y1.lt b hb) f2.size
  rw [gdB_b]
  have bad : ∀ w3, Fr no w w3 → ¬ (l ≠ 0 ∧ l - 1 = who) → (okB true 1 (latV l) = true ∧ syC w3 X1 fun w13 X14 => R (.tuple #[latV l, .bool false]) w13) := by
    intro w3 f3 hn
    refine ⟨rfl, ?_⟩
    intro w4 X4 y4
    have := h w4 (y4.step f3 y1.ge).1
    rw [if_neg hn, decide_eq_false hn] at this; exact this
  by_cases hl : l = 0
  · have e1 : decide (l = 0) = true := by simp [hl]
    simp only [e1, upd_a, reduceIte, pickV_b, pv_some, condC_t, Bool.true_eq_false]
    exact bad w2 f12 (by simp [hl])
  · have e1 : decide (l = 0) = false := by simp [hl]
    simp only [e1, reduceIte]
    refine c365 hl0 hl2 fun w3 f3 => ?_
    refine ⟨kp_no f3 l2, ?_⟩
    have f13 := f12.trans f3
    simp only [binV, intBin, if_true, pv_some, upd_a, reduceIte, pickV_b, Bool.false_eq_true]
    by_cases hh : l - 1 = who
    · have e2 : (l - 1 != who) = false := by simp [hh]
      simp only [e2, condC_f]
      refine pv_i (v := latV 0) rfl ?_
      refine ⟨rfl, ?_⟩
      intro w4 X4 y4
      have := h w4 (y4.step f13 y1.ge).1
      rw [if_pos ⟨hl, hh⟩, decide_eq_true ⟨hl, hh⟩] at this; exact this
    · have e2 : (l - 1 != who) = true := by simp [hh]
      simp only [e2, condC_t]
      exact bad w3 f13 (by simp [hh])

/-- A session. -/
structure Sess where
  id : Int
  st : Int
  pr : Int
  till : Nat
def Sess.cells (s : Sess) : List Value := [.int .i64 s.id, .int .i64 s.st, .int .i64 s.pr, .int .u64 s.till]
def Sess.v (s : Sess) : Value := .agg s.cells.toArray
def better (a b : Sess) : Bool := decide (b.pr < a.pr) || (decide (a.pr = b.pr) && decide (a.id < b.id))
theorem c387 {a b : Sess} (h : ∀ w', Fr no w w' → R (.bool (better a b)) w') : CallsR Tryz.prog 387 #[a.v, b.v] w R := by
  apply sh387
  unfold S387
  refine ⟨rfl, rfl, ?_⟩
  refine pv_i (v := .int .i64 a.pr) rfl ?_
  refine pv_i (v := .int .i64 b.pr) rfl ?_
  have ea : fieldV false 2 1 a.v = some (.int .i64 a.pr) := rfl
  have eb : fieldV false 2 1 b.v = some (.int .i64 b.pr) := rfl
  have ea0 : fieldV false 0 1 a.v = some (.int .i64 a.id) := rfl
  have eb0 : fieldV false 0 1 b.v = some (.int .i64 b.id) := rfl
  simp only [binV, intBin, if_true, pv_some, ea, eb, ea0, eb0]
  have e : (a.pr == b.pr) = decide (a.pr = b.pr) := by by_cases hh : a.pr = b.pr <;> simp [hh]
  have fin : ∀ (X : Nat → Prop) (c : Bool), X = no → c = better a b → (syC w X fun w16 X17 => R (.bool c) w16) := by
    intro X c hX hc
    subst hX hc
    intro w1 X1 y1
    exact h w1 y1.frno
  rw [gdB_b]
  by_cases h1 : b.pr < a.pr
  · have e1 : decide (a.pr > b.pr) = true := by simp [h1]
    simp only [e1, Bool.true_eq_false, reduceIte, upd_a]
    simp only [gdB, boolOf, undef]
    simp [pickV_b, pv_some, upd_a]
    exact fin _ _ rfl (by simp [better, h1])
  · have e1 : decide (a.pr > b.pr) = false := by simp [h1]
    simp only [e1, reduceIte, upd_a, gdB_b]
    by_cases h2 : a.pr = b.pr
    · have e2 : (a.pr == b.pr) = true := by simp [h2]
      simp only [e2, reduceIte, upd_a, pickV_b, pv_some, Bool.false_eq_true]
      exact fin _ _ rfl (by simp [better, h2])
    · have e2 : (a.pr == b.pr) = false := by simp [h2]
      simp only [e2, reduceIte, upd_a, pickV_b, pv_some, Bool.false_eq_true]
      exact fin _ _ rfl (by simp [better, h1, h2])

/-! Hashes -/
def basis : Nat := 14695981039346656037
def prime : Nat := 1099511628211
def hashStep (h : Nat) (b : UInt8) : Nat := ((h ^^^ b.toNat) * prime) % 2^64
def hashL (l : List UInt8) (h : Nat) : Nat := l.foldl hashStep h
def hashOf (s : ByteArray) : Nat := hashL s.data.toList basis
theorem hashStep_lt (h : Nat) (b : UInt8) : hashStep h b < 2^64 := Nat.mod_lt _ (by decide)

theorem mulStep (x : Nat) : binV .mul (.int .u64 (x : Nat)) (.int .u64 1099511628211) = some (.int .u64 (((x * prime) % 2^64 : Nat) : Int)) := by
  show (if IntKind.u64 = IntKind.u64 then some (Value.int .u64 (IntKind.wrap .u64 ((x : Int) * 1099511628211))) else none) = _
  rw [if_pos rfl]
  have : IntKind.wrap .u64 ((x : Int) * 1099511628211) = (((x * prime) % 2^64 : Nat) : Int) := by
    unfold prime
    simp [IntKind.wrap, IntKind.signed, IntKind.bits]
  rw [this]
theorem c289 {s : ByteArray} (hs : s.size < 2^62) (h : R (.int .u64 (hashOf s : Nat)) w) : CallsR Tryz.prog 289 #[.string s] w R := by
  apply sh289
  unfold S289
  rw [jnB_e]
  refine pv_i (v := .int .i64 s.size) rfl ?_
  refine lp_c (fun m e u X => ∃ i : Nat, i ≤ s.size ∧ m = s.size - i ∧ u = w ∧ ∃ g : Nat, g < 2^64 ∧ hashL (s.data.toList.drop i) g = hashOf s ∧ e 0 = .string s ∧ e 7 = .int .i64 i ∧ e 6 = .int .i64 s.size ∧ e 3 = .int .u64 g) s.size
    ⟨0, Nat.zero_le _, rfl, rfl, basis, by unfold basis; omega, by rw [List.drop_zero]; rfl, rfl, rfl, rfl, by show Value.int .u64 14695981039346656037 = _; unfold basis; simp⟩ ?_
  rintro m e u X N ⟨i, hi, rfl, rfl, g, hg, hgh, e0', e7, e6, e3⟩ hN
  simp only [e0', e7, e6, e3, lss_i, pv_some, condC_b, decide_eq_true_eq]
  split
  · rename_i hlt
    have hlt : i < s.size := by omega
    have hi' : i < s.data.size := hlt
    have hb := (s.data[i]).toNat_lt
    refine pv_i (v := .int .u8 (s.data[i]).toNat) ?_ ?_
    · have h1 : s[i]? = some (s.data[i]) := by
        show (if h : i < s.size then some s[i] else none) = _
        rw [dif_pos hlt]; rfl
      unfold idxStrV
      simp only [Int.toNat_natCast, Int.natCast_nonneg, if_true, h1]
    refine pv_i (v := .int .u64 (s.data[i]).toNat) ?_ ?_
    · simp only [cvtV]; rw [wrap_u (by omega) (by omega)]
    have hxl : g ^^^ (s.data[i]).toNat < 2^64 := Nat.xor_lt_two_pow hg (by omega)
    refine pv_i (v := .int .u64 (g ^^^ (s.data[i]).toNat : Nat)) ?_ ?_
    · have a1 : BitVec.ofInt (IntKind.bits .u64) (g : Int) = BitVec.ofNat 64 g := by simp [IntKind.bits]
      have a2 : BitVec.ofInt (IntKind.bits .u64) ((s.data[i]).toNat : Int) = BitVec.ofNat 64 (s.data[i]).toNat := by simp [IntKind.bits]
      simp only [binV, intBin, if_true]
      rw [a1, a2]
      have : (BitVec.ofNat 64 g ^^^ BitVec.ofNat 64 (s.data[i]).toNat).toNat = g ^^^ (s.data[i]).toNat := by
        rw [BitVec.toNat_xor, BitVec.toNat_ofNat, BitVec.toNat_ofNat, Nat.mod_eq_of_lt hg, Nat.mod_eq_of_lt (by omega)]
      have e4 : IntKind.wrap .u64 (((BitVec.ofNat 64 g ^^^ BitVec.ofNat 64 (s.data[i]).toNat).toNat : Nat) : Int) = ((g ^^^ (s.data[i]).toNat : Nat) : Int) := by rw [this, wrap_u (by omega) (by omega)]
      exact congrArg (fun x => some (Value.int .u64 x)) e4
    refine pv_i (v := .int .u64 (hashStep g (s.data[i]) : Nat)) (mulStep _) ?_
    refine pv_i (add_i (by omega) (by omega)) ?_
    refine hN (s.size - (i + 1)) _ _ _ (by omega) ⟨i + 1, hlt, rfl, rfl, hashStep g (s.data[i]), hashStep_lt _ _, ?_, rfl, rfl, rfl, rfl⟩
    have e9 : s.data.toList.drop i = s.data[i] :: s.data.toList.drop (i + 1) := by
      have := List.drop_eq_getElem_cons (l := s.data.toList) (i := i) (by simpa using hi')
      simpa using this
    rw [← hgh, e9]; simp only [hashL, List.foldl_cons]
  · have hie : i = s.size := by omega
    have : hashL (s.data.toList.drop i) g = g := by
      rw [List.drop_eq_nil_of_le (by simp; show s.size ≤ i; omega)]; rfl
    rw [this] at hgh
    subst hgh
    exact h
theorem hashOf_lt (s : ByteArray) : hashOf s < 2^64 := by
  unfold hashOf hashL
  generalize s.data.toList = l
  have : ∀ (l : List UInt8) (g : Nat), g < 2^64 → l.foldl hashStep g < 2^64 := by
    intro l
    induction l with
    | nil => intro g hg; exact hg
    | cons b l ih => intro g hg; exact ih _ (hashStep_lt _ _)
  exact this l _ (by decide)
def stripeOf (s : ByteArray) (n : Nat) : Nat := hashOf s % n
theorem stripeOf_lt {s : ByteArray} {n : Nat} (hn : 1 ≤ n) : stripeOf s n < n := Nat.mod_lt _ hn
theorem c185 {s : ByteArray} {n : Nat} (hs : s.size < 2^62) (hn : 1 ≤ n) (hn2 : n < 2^62) (h : R (.int .i64 (stripeOf s n : Nat)) w) : CallsR Tryz.prog 185 #[.string s, .int .i64 n] w R := by
  apply sh185
  unfold S185
  refine pv_i lss_i ?_
  rw [decide_eq_false (by omega), condC_f]
  refine c289 hs ?_
  have hl := hashOf_lt s
  have hm := stripeOf_lt (s := s) hn
  refine pv_i (v := .int .u64 n) ?_ ?_
  · simp only [cvtV]; rw [wrap_u (by omega) (by omega)]
  refine pv_i (v := .int .u64 (stripeOf s n : Nat)) ?_ ?_
  · have h0 : ¬ ((n : Int) = 0) := by omega
    simp only [binV, intBin, if_true, h0, if_false]
    unfold stripeOf
    rw [Int.natCast_emod, ← Int.tmod_eq_emod_of_nonneg (by omega)]
  refine pv_i (v := .int .i64 (stripeOf s n : Nat)) ?_ ?_
  · simp only [cvtV]; rw [wrap_i (by omega) (by omega)]
  exact h
theorem c290 {s k : Int} (h0 : 0 ≤ s) (h1 : s ≤ 8) (h2 : 0 ≤ k) (h3 : k ≤ 8) (h : R (.int .i64 (4 * s + k)) w) : CallsR Tryz.prog 290 #[.int .i64 s, .int .i64 k] w R := by
  apply sh290
  unfold S290
  refine pv_i (mul_i (by omega) (by omega)) ?_
  refine pv_i (add_i (by omega) (by omega)) ?_
  exact h
theorem c280 {k : Int} (h : R (.bool (decide (0 ≤ k ∧ k < 8))) w) : CallsR Tryz.prog 280 #[.int .i64 k] w R := by
  apply sh280
  simp only [S280, geq_i, lss_i, pv_some, and_gd]
  rw [Bool.decide_and] at h; exact h
theorem c324 {k : IntKind} {a : Int} (h : R (.bool false) w) : CallsR Tryz.prog 324 #[.int k a] w R := by
  apply sh324
  unfold S324
  refine pv_i neq_i ?_
  simpa using h
def cmpI (a b : Int) : Int := if a < b then -1 else if b < a then 1 else 0
theorem c243 {a b : Int} (h : R (.int .i64 (cmpI a b)) w) : CallsR Tryz.prog 243 #[.int .i64 a, .int .i64 b] w R := by
  apply sh243
  unfold S243
  refine c324 ?_
  refine c324 ?_
  rw [condC_f, condC_f, lss_i, pv_some, condC_b, gtr_i, pv_some, condC_b]
  unfold cmpI at h
  by_cases h1 : a < b
  · simpa [h1] using h
  · by_cases h2 : b < a
    · simpa [h1, h2] using h
    · simpa [h1, h2] using h
/-- Strings in order. -/
def strLt (a b : ByteArray) : Bool := Op.bytesLess a.data.toList b.data.toList
theorem neq_s {a b : ByteArray} : binV .neq (.string a) (.string b) = some (.bool (decide (a ≠ b))) := by
  show some (Value.bool (!(a.toList == b.toList))) = _
  rw [ba_toList, ba_toList]
  by_cases h : a = b
  · subst h; simp
  · have : a.data.toList ≠ b.data.toList := fun hh => h (by cases a; cases b; congr 1; exact Array.ext' hh)
    have h2 : (a.data.toList == b.data.toList) = false := by simpa using fun hh => this (by rw [hh])
    rw [h2]; simp [h]
theorem eql_s {a b : ByteArray} : binV .eql (.string a) (.string b) = some (.bool (decide (a = b))) := by
  show some (Value.bool (a.toList == b.toList)) = _
  rw [ba_toList, ba_toList]
  by_cases h : a = b
  · subst h; simp
  · have : a.data.toList ≠ b.data.toList := fun hh => h (by cases a; cases b; congr 1; exact Array.ext' hh)
    have h2 : (a.data.toList == b.data.toList) = false := by simpa using fun hh => this (by rw [hh])
    rw [h2]; simp [h]
theorem lss_s {a b : ByteArray} : binV .lss (.string a) (.string b) = some (.bool (strLt a b)) := by
  show some (Value.bool (Op.bytesLess a.toList b.toList)) = _
  rw [ba_toList, ba_toList]; rfl
theorem c405 {a : ByteArray} (h : R (.bool false) w) : CallsR Tryz.prog 405 #[.string a] w R := by
  apply sh405
  unfold S405
  refine pv_i neq_s ?_
  simpa using h
theorem c413 {a : ByteArray} (h : R (.bool false) w) : CallsR Tryz.prog 413 #[.string a] w R := by
  apply sh413
  unfold S413
  refine pv_i neq_s ?_
  simpa using h
theorem c404 {a b : ByteArray} (h : R (.bool (strLt a b)) w) : CallsR Tryz.prog 404 #[.string a, .string b] w R := by
  apply sh404
  unfold S404
  refine c413 ?_
  simp only [gdB_b, Bool.false_eq_true, reduceIte, upd_a, pickV_b, pv_some]
  simp only [lss_s, pv_some, pickV_b, gdB_b, reduceIte, upd_a, Bool.false_eq_true]
  exact h
end Go.Dm
/-! Go's library of slices. -/
namespace Go.Dm
open Go Go.Proofs
variable {w : World} {R : Value → World → Prop}

theorem clone_g {bytes k : Nat} {zero : List Value} {e : TypeId} {Im : Nat → Prop} {v : Value} {n : Nat} {cells : List Value} (hI : SlI w Im k v n cells) (hz : zero.length = k) (hb : 0 < bytes) (hbound : n * bytes ≤ 2 ^ 47) (h1 : cells.all one1 = true)
    (h : ∀ v' w' ob, SlO w' k e v' n cells ob → Fr no w w' → (∀ b, ob = some b → w.heap.size ≤ b) → R v' w') :
    pv (slcV .eql v (.slice none 0 0)) fun t4 => condC t4 (R (.slice none 0 0) w) (bsC w k zero e 0 [] fun t5 w1 => apC w1 bytes k zero e t5 v fun t7 w2 => R t7 w2) := by
  obtain ⟨base, c, hv, hnc, hbc, hrow⟩ := hI.row
  have hlen := hI.len
  subst hv
  cases base with
  | none =>
    have hc := hbc rfl
    have hn : n = 0 := by omega
    subst hn
    have hcells : cells = [] := List.length_eq_zero_iff.1 (by rw [hlen]; simp)
    subst hcells
    show condC (.bool true) _ _
    rw [condC_t]
    exact h _ _ none (SlO.nil w k e) (Fr.refl _ _) (fun b hb => by cases hb)
  | some a =>
    show condC (.bool false) _ _
    rw [condC_f]
    refine ⟨[], rfl, ?_⟩
    have hn := newB_nw w [] e
    have ho : SlO (newB w [] e) k e (.slice (some ⟨w.heap.size, 0, none⟩) 0 0) 0 [] (some w.heap.size) := by
      refine ⟨⟨0, rfl, Nat.le_refl _, fun _ => rfl, fun b hb => ?_⟩, by simp⟩
      cases hb
      exact ⟨[], hn.own, by simp, by simp, hn.typ⟩
    have hI2 := hI.ext hn.fr
    obtain ⟨base2, c2, hv2, _, _, hrow2⟩ := hI2.row
    simp only [Value.slice.injEq] at hv2
    obtain ⟨rfl, _, rfl⟩ := hv2
    refine ap_o ho hrow2 hz hb (by simpa using hbound) h1 ?_
    intro v' w' ob' hs hf hob
    rw [Nat.zero_add, List.nil_append] at hs
    refine h v' w' ob' hs ?_ ?_
    · exact hn.fr.trans' hf fun b hb he => by
        simp only [Option.some.injEq] at he; omega
    · intro b hb
      rcases hob b hb with he | he
      · simp only [Option.some.injEq] at he; omega
      · have := hn.fr.size; omega

theorem c347 {Im : Nat → Prop} {v : Value} {n : Nat} {cells : List Value} (hI : SlI w Im 1 v n cells) (hbound : n * 16 ≤ 2 ^ 47) (h1 : cells.all one1 = true)
    (h : ∀ v' w' ob, SlO w' 1 9 v' n cells ob → Fr no w w' → (∀ b, ob = some b → w.heap.size ≤ b) → R v' w') : CallsR Tryz.prog 347 #[v] w R := by
  apply sh347; unfold S347
  exact clone_g hI rfl (by decide) hbound h1 h
theorem c349 {Im : Nat → Prop} {v : Value} {n : Nat} {cells : List Value} (hI : SlI w Im 1 v n cells) (hbound : n * 4 ≤ 2 ^ 47) (h1 : cells.all one1 = true)
    (h : ∀ v' w' ob, SlO w' 1 340 v' n cells ob → Fr no w w' → (∀ b, ob = some b → w.heap.size ≤ b) → R v' w') : CallsR Tryz.prog 349 #[v] w R := by
  apply sh349; unfold S349
  exact clone_g hI rfl (by decide) hbound h1 h
theorem c358 {Im : Nat → Prop} {v : Value} {n : Nat} {cells : List Value} (hI : SlI w Im 4 v n cells) (hbound : n * 32 ≤ 2 ^ 47) (h1 : cells.all one1 = true)
    (h : ∀ v' w' ob, SlO w' 4 357 v' n cells ob → Fr no w w' → (∀ b, ob = some b → w.heap.size ≤ b) → R v' w') : CallsR Tryz.prog 358 #[v] w R := by
  apply sh358; unfold S358
  exact clone_g hI rfl (by decide) hbound h1 h
theorem c389 {Im : Nat → Prop} {v : Value} {n : Nat} {cells : List Value} (hI : SlI w Im 4 v n cells) (hbound : n * 48 ≤ 2 ^ 47) (h1 : cells.all one1 = true)
    (h : ∀ v' w' ob, SlO w' 4 349 v' n cells ob → Fr no w w' → (∀ b, ob = some b → w.heap.size ≤ b) → R v' w') : CallsR Tryz.prog 389 #[v] w R := by
  apply sh389; unfold S389
  exact clone_g hI rfl (by decide) hbound h1 h
end Go.Dm
/-! Go's library of slices: Delete, Insert. -/
namespace Go.Dm
open Go Go.Proofs
variable {w : World} {R : Value → World → Prop}

theorem add_addr (b o n : Nat) : (⟨b, o, none⟩ : Addr).add n = ⟨b, o + n, none⟩ := add_eq b o n

/-- The first i elements. -/
theorem slice_pre {k b n c i : Nat} (hi : i ≤ c) : sliceV k (.slice (some ⟨b, 0, none⟩) n c) none (some (.int .i64 (i : Nat))) = some (.slice (some ⟨b, 0, none⟩) i c) := by
  unfold sliceV
  simp only [intOf']
  rw [if_pos ⟨by omega, by omega, by omega, by omega⟩]
  by_cases hc : c = 0
  · simp [hc]
  · simp [hc, add_addr]
/-- What lies behind the first i elements. -/
theorem slice_suf {k b n c i : Nat} (hi : i ≤ n) (hn : n ≤ c) : sliceV k (.slice (some ⟨b, 0, none⟩) n c) (some (.int .i64 (i : Nat))) none = some (.slice (some ⟨b, if c = i then 0 else i * k, none⟩) (n - i) (c - i)) := by
  unfold sliceV
  simp only [intOf']
  rw [if_pos ⟨by omega, by omega, by omega, by omega⟩]
  by_cases hc : c = i
  · simp [hc]
  · simp [hc, add_addr]
/-- Elements i to j. -/
theorem slice_mid {k b n c i j : Nat} (hi : i ≤ j) (hj : j ≤ c) : sliceV k (.slice (some ⟨b, 0, none⟩) n c) (some (.int .i64 (i : Nat))) (some (.int .i64 (j : Nat))) = some (.slice (some ⟨b, if c = i then 0 else i * k, none⟩) (j - i) (c - i)) := by
  unfold sliceV
  simp only [intOf']
  rw [if_pos ⟨by omega, by omega, by omega, by omega⟩]
  by_cases hc : c = i
  · simp [hc]
  · simp [hc, add_addr]

theorem all_drop {p : Value → Bool} {l : List Value} (h : l.all p = true) (i : Nat) : (l.drop i).all p = true := by
  rw [List.all_eq_true] at h ⊢; exact fun x hx => h x (List.mem_of_mem_drop hx)
theorem all_repL {p : Value → Bool} {z : List Value} (h : z.all p = true) : ∀ n, (repL n z).all p = true
  | 0 => rfl
  | n + 1 => by simp only [repL, List.all_append, h, all_repL h n, Bool.and_self]

/-- A block, written twice. -/
theorem putAt_b {w : World} {b o : Nat} {full xs : List Value} {K : World → Prop} (h : own w b = some full) (hl : o + xs.length ≤ full.length) (h1 : xs.all one1 = true)
    (hk : ∀ w', own w' b = some (splice full o xs) → (∀ c, typ w' c = typ w c) → Fr (one b) w w' → K w') (base : Option Addr) (skip : Nat) (hb : xs ≠ [] → ∃ p, base = some ⟨b, p, none⟩ ∧ p + skip = o) : putAt w base skip xs K := by
  by_cases hx : xs = []
  · subst hx
    refine .inl ⟨rfl, hk w ?_ (fun _ => rfl) (Fr.refl _ _)⟩
    rw [splice_nil]; exact h
  · obtain ⟨p, rfl, rfl⟩ := hb hx
    have hp := putB_pt (ds := splice full (p + skip) xs) h
    exact .inr ⟨b, p, full, rfl, h, hl, h1, hk _ hp.own hp.typ hp.fr⟩

theorem delete_g {bytes k : Nat} {zero : List Value} {e : TypeId} {v : Value} {n : Nat} {cells : List Value} {ob : Option Nat} {i j : Nat} (hs : SlO w k e v n cells ob) (hij : i ≤ j) (hj : j ≤ n) (hz : zero.length = k) (hb : 0 < bytes)
    (hn : n < 2^62) (hbound : n * bytes ≤ 2 ^ 47) (h1 : cells.all one1 = true) (hz1 : zero.all one1 = true)
    (h : ∀ v' w', SlO w' k e v' (n - (j - i)) (cells.take (i * k) ++ cells.drop (j * k)) ob → Fr (fun b => ob = some b) w w' → R v' w') :
    pv (lenV v) fun t12 => pv (slice3V k v (some (.int .i64 (i : Nat))) (some (.int .i64 (j : Nat))) (some t12)) fun t13 => pv (binV .eql (.int .i64 (i : Nat)) (.int .i64 (j : Nat))) fun t16 => condC t16
 (R v w)
 (pv (lenV v) fun t19 => pv (sliceV k v none (some (.int .i64 (i : Nat)))) fun t22 => pv (sliceV k v (some (.int .i64 (j : Nat))) none) fun t25 => apC (drewW w) bytes k zero e t22 t25 fun t26 w1 => pv (lenV t26) fun t29 => pv (sliceV k t26 (some t29) (some t19)) fun t31 => clC w1 zero t31 fun _ w2 => R t26 w2) := by
  have hlen := hs.len
  obtain ⟨⟨c, rfl, h2, h3, h4⟩, _⟩ := id hs
  refine pv_i (v := .int .i64 n) rfl ?_
  have hsome : ∃ t, slice3V k (.slice (ob.map fun b => (⟨b, 0, none⟩ : Addr)) n c) (some (.int .i64 (i : Nat))) (some (.int .i64 (j : Nat))) (some (.int .i64 n)) = some t := by
    unfold slice3V
    simp only [intOf']
    rw [if_pos ⟨by omega, by omega, by omega, by omega, by omega, by omega⟩]
    exact ⟨_, rfl⟩
  obtain ⟨t, ht⟩ := hsome
  refine pv_i ht ?_
  refine pv_i eql_i ?_
  by_cases hijn : i = j
  · subst hijn
    rw [decide_eq_true rfl, condC_t]
    refine h _ w ?_ (Fr.refl _ _)
    rw [Nat.sub_self, Nat.sub_zero, List.take_append_drop]; exact hs
  · rw [decide_eq_false (by omega), condC_f]
    refine pv_i (v := .int .i64 n) rfl ?_
    cases ob with
    | none => have := h3 rfl; omega
    | some b =>
      obtain ⟨full, g1, g2, g3, g4⟩ := h4 b rfl
      simp only [Option.map_some]
      refine pv_i (slice_pre (by omega)) ?_
      refine pv_i (slice_suf (by omega) h2) ?_
      have hjc : c ≠ j ∨ n = j := by omega
      have hnk : n * k ≤ full.length := by rw [g2]; exact Nat.mul_le_mul_right k h2
      have hik : i * k ≤ n * k := Nat.mul_le_mul_right k (by omega)
      have hjk : j * k + (n - j) * k = n * k := by rw [← Nat.add_mul]; congr 1; omega
      have hdl : (cells.drop (j * k)).length = (n - j) * k := by rw [List.length_drop, hlen]; omega
      have hde : cells.drop (j * k) = (full.drop (j * k)).take ((n - j) * k) := by
        rw [← g3, List.drop_take]; congr 1; omega
      refine ⟨_, i, c, _, n - j, c - j, full.take (i * k), cells.drop (j * k), rfl, rfl, ?_, ?_, hb, ?_, fun hfit => ?_, fun hfit => by omega⟩
      · refine ⟨by rw [List.length_take]; omega, .inr ⟨b, 0, full, rfl, own_blk g1, by omega, by simp⟩⟩
      · refine ⟨hdl, ?_⟩
        by_cases hnj : n = j
        · left; subst hnj; simp
        · right
          have hcj : c ≠ j := by omega
          refine ⟨b, j * k, full, by rw [if_neg hcj], own_blk g1, by omega, hde⟩
      · have : i + (n - j) ≤ n := by omega
        exact Nat.le_trans (Nat.mul_le_mul_right _ this) hbound
      · have g1' : own (drewW w) b = some full := g1
        refine putAt_b g1' (o := i * k) ?_ (all_drop h1 _) ?_ _ _ (fun _ => ⟨0, rfl, by omega⟩)
        · rw [hdl]; have : i * k + (n - j) * k ≤ n * k := by rw [← Nat.add_mul]; exact Nat.mul_le_mul_right k (by omega)
          omega
        intro w1 o1 ty1 f1
        have hl1 : (splice full (i * k) (cells.drop (j * k))).length = full.length := splice_length (by
          rw [hdl]; have : i * k + (n - j) * k ≤ n * k := by rw [← Nat.add_mul]; exact Nat.mul_le_mul_right k (by omega)
          omega)
        refine pv_i (v := .int .i64 (i + (n - j) : Nat)) rfl ?_
        refine pv_i (slice_mid (i := i + (n - j)) (j := n) (by omega) (by omega)) ?_
        have hcm : c ≠ i + (n - j) := by omega
        have hmk : (i + (n - j)) * k + (n - (i + (n - j))) * k = n * k := by rw [← Nat.add_mul]; congr 1; omega
        refine ⟨_, _, _, rfl, ?_⟩
        refine putAt_b o1 (o := (i + (n - j)) * k) ?_ (all_repL hz1 _) ?_ _ _ (fun _ => ⟨(i + (n - j)) * k, by rw [if_neg hcm], rfl⟩)
        · rw [repL_length, hz, hl1]; omega
        intro w2 o2 ty2 f2
        refine h _ w2 ⟨⟨c, ?_, by omega, by simp, fun b' hb' => ?_⟩, ?_⟩ ?_
        · simp only [Option.map_some, Value.slice.injEq, true_and]; exact ⟨by omega, trivial⟩
        · cases hb'
          refine ⟨_, o2, ?_, ?_, by rw [ty2, ty1]; exact g4⟩
          · rw [splice_length (by rw [repL_length, hz, hl1]; omega), hl1, g2]
          · have hm : n - (j - i) = i + (n - j) := by omega
            rw [hm]
            unfold splice
            rw [List.append_assoc, List.take_append_of_le_length (by simp only [List.length_take, List.length_append, List.length_drop, hlen]; have : (i + (n - j)) * k = i * k + (n - j) * k := Nat.add_mul ..; omega), List.take_take, Nat.min_self]
            have hmm : (i + (n - j)) * k = i * k + (n - j) * k := Nat.add_mul ..
            rw [List.take_append_of_le_length (by simp only [List.length_take, List.length_append, List.length_drop, hlen]; omega)]
            rw [List.take_of_length_le (by simp only [List.length_take, List.length_append, List.length_drop, hlen]; omega)]
            rw [← g3, List.take_take, Nat.min_eq_left hik]
        · rw [List.length_append, List.length_take, hdl, hlen, Nat.min_eq_left hik, ← Nat.add_mul]; congr 1; omega
        · exact (((drewW_fr _ w).trans (f1.mono fun x _ hx => by unfold one at hx; rw [hx])).trans (f2.mono fun x _ hx => by unfold one at hx; rw [hx]))
end Go.Dm
/-! Go's library of slices: Insert. -/
namespace Go.Dm
open Go Go.Proofs
variable {w : World} {R : Value → World → Prop}

theorem shape_own {w : World} {b : Nat} {cs : List Value} (h : own w b = some cs) : ∃ t n, w.shape? b = some (t, n) := by
  unfold own at h
  split at h
  · rename_i c t hh; exact ⟨t, c.size, by simp [World.shape?, hh]⟩
  · cases h

theorem overlaps_run {P : Program} {elem : TypeId} {params res : Array TypeId} {b1 b2 o1 o2 l1 l2 c1 c2 : Nat} {x1 x2 : List Value} (hp : ∃ t k, params[0]? = some t ∧ P.underlying t = some (.slice elem) ∧ sizeP P elem = some k)
    (h1 : own w b1 = some x1) (h2 : own w b2 = some x2) (hb : b1 ≠ b2) :
    (Extern.SlicesOverlaps.overlaps params res #[.slice (some ⟨b1, o1, none⟩) l1 c1, .slice (some ⟨b2, o2, none⟩) l2 c2]).run P w = .ok (.bool false) w := by
  obtain ⟨t, k, ht, hu, hk⟩ := hp
  obtain ⟨t1, n1, hs1⟩ := shape_own h1
  obtain ⟨t2, n2, hs2⟩ := shape_own h2
  have f1 := fun o => frozen_own h1 o
  have f2 := fun o => frozen_own h2 o
  delta Extern.SlicesOverlaps.overlaps
  dsimp only []
  rw [ht]
  dsimp only []
  refine Eq.trans (run_bind_val (s := underlying t) (valS_underlying hu)) ?_
  refine Eq.trans (run_bind_val (s := sizeOf elem) (valS_sizeOf hk)) ?_
  have hne : (b1 != b2) = true := by simp [hb]
  have hne' : (b1 == b2) = false := by simp [hb]
  show Sem.run P (if l1 = 0 ∨ l2 = 0 ∨ k = 0 then _ else _) w = _
  split
  · rfl
  · simp [hne, hne', Sem.run_bind, frozen, Sem.run, f1, f2, Result.andThen, noView, viewAt, shape, hs1, hs2, mayBeOne, stringish, pure]

/-- A call of overlaps, of blocks apart. -/
theorem ex_overlaps {f : FuncId} {fn : Func} {elem t : TypeId} {k b1 b2 o1 o2 l1 l2 c1 c2 : Nat} {x1 x2 : List Value} {K : Value → World → Prop}
    (hf : Tryz.prog.funcs[f]? = some fn) (hn : (!(fn.name == "runtime.NumGoroutine") && fn.body.isNone) = true) (hx : Extern.findNext fn = none) (hy : Extern.find fn = some (Extern.SlicesOverlaps.overlaps fn.params #[]))
    (ht : fn.params[0]? = some t) (hu : Tryz.prog.underlying t = some (.slice elem)) (hk : sizeP Tryz.prog elem = some k)
    (h1 : own w b1 = some x1) (h2 : own w b2 = some x2) (hb : b1 ≠ b2) (h : K (.bool false) w) :
    exC Tryz.prog f #[.slice (some ⟨b1, o1, none⟩) l1 c1, .slice (some ⟨b2, o2, none⟩) l2 c2] w K := by
  refine ⟨.bool false, w, ?_, h⟩
  simp only [Bool.and_eq_true, Bool.not_eq_true'] at hn
  unfold callFunc
  show (Sem.bind program _).run Tryz.prog w = _
  simp only [program, Sem.bind, Sem.run, hf, hn.1, hn.2, hx, hy, Bool.false_eq_true, if_false, if_true]
  have := overlaps_run (P := Tryz.prog) (res := #[]) (o1 := o1) (o2 := o2) (l1 := l1) (l2 := l2) (c1 := c1) (c2 := c2) (w := w) ⟨t, k, ht, hu, hk⟩ h1 h2 hb
  show (Sem.bind (mark _) _).run Tryz.prog w = _
  simp only [mark, Sem.bind, Sem.run]
  exact (run_bind_ok this).trans rfl

theorem take_splice {F xs : List Value} {o n : Nat} (h : o + xs.length ≤ n) (hn : n ≤ F.length) : (splice F o xs).take n = F.take o ++ xs ++ (F.drop (o + xs.length)).take (n - (o + xs.length)) := by
  unfold splice
  have hl : (F.take o ++ xs).length = o + xs.length := by simp; omega
  rw [List.take_append, hl, List.take_of_length_le (by rw [hl]; exact h)]
theorem take_splice_le {F xs : List Value} {o n : Nat} (h : n ≤ o) (hn : o ≤ F.length) : (splice F o xs).take n = F.take n := by
  unfold splice
  rw [List.append_assoc, List.take_append_of_le_length (by simp; omega), List.take_take, Nat.min_eq_left h]
theorem drop_splice {F xs : List Value} {o n : Nat} (h : n = o) (hn : o + xs.length ≤ F.length) : (splice F o xs).drop n = xs ++ F.drop (o + xs.length) := by
  subst h
  unfold splice
  have hl : (F.take n).length = n := by simp; omega
  rw [List.append_assoc, List.drop_append, hl, Nat.sub_self, List.drop_zero, List.drop_of_length_le (by omega), List.nil_append]
theorem ins1 {F new D : List Value} {a k m : Nat} (hn : new.length = k) (hD : D.length = m) (hF : a + k + m ≤ F.length) : (splice (splice F (a + k) D) a new).take (a + k + m) = F.take a ++ new ++ D := by
  have hl : (splice F (a + k) D).length = F.length := splice_length (by omega)
  rw [take_splice (by omega) (by omega), take_splice_le (by omega) (by omega), drop_splice (by omega) (by omega)]
  rw [show a + k + m - (a + new.length) = D.length by omega, List.take_append_of_le_length (by omega), List.take_length]
theorem ins2 {F new D : List Value} {a k m : Nat} (hn : new.length = k) (hD : D.length = m) (hF : a + k + m ≤ F.length) : (splice (splice F a new) (a + k) D).take (a + k + m) = F.take a ++ new ++ D := by
  have hl : (splice F a new).length = F.length := splice_length (by omega)
  rw [take_splice (by omega) (by omega), take_splice (by omega) (by omega)]
  rw [show a + k + m - (a + k + D.length) = 0 by omega, show a + k - (a + new.length) = 0 by omega]
  simp

/-- Insert of one element, whatever the capacity. -/
theorem insert_g {bytes k : Nat} {zero : List Value} {e : TypeId} {f g : FuncId} {v : Value} {n : Nat} {cells new : List Value} {ob : Option Nat} {i vb : Nat} (hs : SlO w k e v n cells ob) (hi : i ≤ n) (hz : zero.length = k) (hb : 0 < bytes)
    (hn : n < 2^62) (hbound : (n + 1) * bytes ≤ 2 ^ 47) (h1 : cells.all one1 = true) (hz1 : zero.all one1 = true) (hv : own w vb = some new) (hnl : new.length = k) (hn1 : new.all one1 = true) (hvb : ob ≠ some vb)
    (hov : ∀ (b1 b2 o1 o2 l1 l2 c1 c2 : Nat) (x1 x2 : List Value) (w : World) (K : Value → World → Prop), own w b1 = some x1 → own w b2 = some x2 → b1 ≠ b2 → K (.bool false) w → exC Tryz.prog f #[.slice (some ⟨b1, o1, none⟩) l1 c1, .slice (some ⟨b2, o2, none⟩) l2 c2] w K)
    (h : ∀ v' w' ob', SlO w' k e v' (n + 1) (cells.take (i * k) ++ new ++ cells.drop (i * k)) ob' → Fr (fun b => ob = some b) w w' → (∀ b, ob' = some b → ob = some b ∨ w.heap.size ≤ b) → R v' w') :
    pv (sliceV k v (some (.int .i64 (i : Nat))) none) fun t12 => pv (lenV (.slice (some ⟨vb, 0, none⟩) 1 1)) fun t14 => pv (binV .eql t14 (.int .i64 0)) fun t16 => condC t16
 (R v w)
 (pv (lenV v) fun t19 => pv (binV .eql (.int .i64 (i : Nat)) t19) fun t22 => condC t22
 (apC w bytes k zero e v (.slice (some ⟨vb, 0, none⟩) 1 1) fun t25 w1 => R t25 w1)
 (pv (binV .add t19 t14) fun t28 => pv (capV v) fun t30 => pv (binV .gtr t28 t30) fun t31 => condC t31
 (pv (sliceV k v none (some (.int .i64 (i : Nat)))) fun t34 => pv (binV .add t19 t14) fun t37 => pv (binV .sub t37 (.int .i64 (i : Nat))) fun t39 => apzC w bytes k zero e t34 t39 fun t40 w2 => pv (sliceV k t40 (some (.int .i64 (i : Nat))) none) fun t43 => cpC w2 k t43 (.slice (some ⟨vb, 0, none⟩) 1 1) fun t45 w3 => pv (binV .add (.int .i64 (i : Nat)) t14) fun t49 => pv (sliceV k t40 (some t49) none) fun t50 => pv (sliceV k v (some (.int .i64 (i : Nat))) none) fun t53 => cpC (drewW w3) k t50 t53 fun t54 w4 => R t40 w4)
 (pv (binV .add t19 t14) fun t59 => pv (sliceV k v none (some t59)) fun t60 => pv (binV .add (.int .i64 (i : Nat)) t14) fun t65 => pv (sliceV k t60 (some t65) none) fun t66 => exC Tryz.prog f #[(.slice (some ⟨vb, 0, none⟩) 1 1), t66] w fun t67 w5 => pv (unV .not t67) fun t68 => condC t68
 (pv (binV .add (.int .i64 (i : Nat)) t14) fun t72 => pv (sliceV k t60 (some t72) none) fun t73 => pv (sliceV k t60 (some (.int .i64 (i : Nat))) none) fun t76 => cpC (drewW w5) k t73 t76 fun t77 w6 => pv (sliceV k t60 (some (.int .i64 (i : Nat))) none) fun t80 => cpC w6 k t80 (.slice (some ⟨vb, 0, none⟩) 1 1) fun t82 w7 => R t60 w7)
 (pv (sliceV k t60 (some t19) none) fun t86 => cpC w5 k t86 (.slice (some ⟨vb, 0, none⟩) 1 1) fun t88 w8 => pv (sliceV k t60 (some (.int .i64 (i : Nat))) none) fun t91 => CallsR Tryz.prog g #[t91, t14] w8 fun t93 w9 => R t60 w9)))) := by
  have hlen := hs.len
  obtain ⟨⟨c, hv', h2, h3, h4⟩, _⟩ := id hs
  have hrow1 : Row w (some ⟨vb, 0, none⟩) (1 * k) new := ⟨by omega, .inr ⟨vb, 0, new, rfl, own_blk hv, by omega, by simp [List.take_of_length_le, hnl]⟩⟩
  have hsuf : ∃ t, sliceV k v (some (.int .i64 (i : Nat))) none = some t := by
    subst hv'
    unfold sliceV
    simp only [intOf']
    rw [if_pos ⟨by omega, by omega, by omega, by omega⟩]
    exact ⟨_, rfl⟩
  obtain ⟨t12, ht12⟩ := hsuf
  refine pv_i ht12 ?_
  refine pv_i (v := .int .i64 1) rfl ?_
  refine pv_i eql_i ?_
  rw [decide_eq_false (by omega), condC_f]
  refine pv_i hs.lenV ?_
  refine pv_i eql_i ?_
  by_cases hin : i = n
  · rw [decide_eq_true (by omega), condC_t]
    refine ap_o hs hrow1 hz hb (by omega) hn1 ?_
    intro v' w' ob' hs' hf hob
    refine h v' w' ob' ?_ hf hob
    rw [hin, ← hlen, List.take_length, List.drop_length, List.append_nil]
    exact hs'
  · rw [decide_eq_false (by omega), condC_f]
    refine pv_i (add_i (by omega) (by omega)) ?_
    have hcap : capV v = some (.int .i64 c) := by subst hv'; rfl
    refine pv_i hcap ?_
    refine pv_i gtr_i ?_
    cases ob with
    | none => have := h3 rfl; omega
    | some b =>
      obtain ⟨full, g1, g2, g3, g4⟩ := h4 b rfl
      have hbv : b ≠ vb := fun hh => hvb (by rw [hh])
      simp only [Option.map_some] at hv'
      subst hv'
      have hik : i * k + (n - i) * k = n * k := by rw [← Nat.add_mul]; congr 1; omega
      have hck : n * k ≤ c * k := Nat.mul_le_mul_right k h2
      have hdl : (cells.drop (i * k)).length = (n - i) * k := by rw [List.length_drop, hlen]; omega
      have htk : cells.take (i * k) = full.take (i * k) := by rw [← g3, List.take_take, Nat.min_eq_left (by omega)]
      have hdk : cells.drop (i * k) = (full.drop (i * k)).take ((n - i) * k) := by rw [← g3, List.drop_take]; congr 1; omega
      by_cases hfit : n + 1 ≤ c
      · rw [decide_eq_false (by omega), condC_f]
        refine pv_i (add_i (by omega) (by omega)) ?_
        refine pv_i (v := .slice (some ⟨b, 0, none⟩) (n + 1) c) ?_ ?_
        · have := slice_pre (k := k) (b := b) (n := n) (c := c) (i := n + 1) hfit
          exact_mod_cast this
        refine pv_i (v := .int .i64 (i + 1 : Nat)) (by have := add_i (a := (i : Int)) (b := 1) (by omega) (by omega); exact_mod_cast this) ?_
        refine pv_i (slice_suf (by omega) hfit) ?_
        refine hov _ _ _ _ _ _ _ _ _ _ _ _ hv g1 (fun hh => hbv hh.symm) ?_
        refine pv_i (v := .bool true) rfl ?_
        rw [condC_t]
        refine pv_i (v := .int .i64 (i + 1 : Nat)) (by have := add_i (a := (i : Int)) (b := 1) (by omega) (by omega); exact_mod_cast this) ?_
        refine pv_i (slice_suf (by omega) hfit) ?_
        refine pv_i (slice_suf (by omega) hfit) ?_
        have hci : c ≠ i := by omega
        have hck2 : (n + 1) * k ≤ c * k := Nat.mul_le_mul_right k hfit
        have hnk1 : (n + 1) * k = n * k + k := Nat.succ_mul n k
        have hik1 : (i + 1) * k = i * k + k := Nat.succ_mul i k
        have hmin : min (n + 1 - i) (n + 1 - (i + 1)) = n - i := by omega
        refine ⟨_, _, _, _, _, _, cells.drop (i * k), rfl, rfl, ?_, ?_⟩
        · rw [hmin]
          exact ⟨hdl, .inr ⟨b, i * k, full, by rw [if_neg hci], own_blk (w := drewW w) g1, by omega, hdk⟩⟩
        refine putAt_b (w := drewW w) g1 (o := (i + 1) * k) (by omega) (all_drop h1 _) ?_ _ _ (fun _ => ⟨(i + 1) * k, by rw [if_neg (by omega)], rfl⟩)
        intro w1 o1 ty1 f1
        refine pv_i (slice_suf (by omega) hfit) ?_
        have hl1 : (splice full ((i + 1) * k) (cells.drop (i * k))).length = full.length := splice_length (by omega)
        have hv1 : own w1 vb = some new := f1.own (own_drew w vb ▸ hv) (fun hh => hbv hh.symm)
        refine ⟨_, _, _, _, _, _, new, rfl, rfl, ?_, ?_⟩
        · have hm1 : min 1 (n + 1 - i) = 1 := by omega
          rw [hm1]
          exact ⟨by omega, .inr ⟨vb, 0, new, rfl, own_blk hv1, by omega, by simp [List.take_of_length_le, hnl]⟩⟩
        refine putAt_b o1 (o := i * k) (by omega) hn1 ?_ _ _ (fun _ => ⟨i * k, by rw [if_neg hci], rfl⟩)
        intro w2 o2 ty2 f2
        refine h _ w2 (some b) ⟨⟨c, rfl, hfit, by simp, fun b' hb' => ?_⟩, ?_⟩ ?_ (fun b' hb' => .inl hb')
        · cases hb'
          refine ⟨_, o2, by rw [splice_length (by omega), hl1, g2], ?_, by rw [ty2, ty1]; exact g4⟩
          rw [htk, hik1, show (n + 1) * k = i * k + k + (n - i) * k by omega]
          exact ins1 hnl hdl (by omega)
        · simp only [List.length_append, List.length_take, hdl, hlen, hnl]; omega
        · exact (((drewW_fr _ w).trans (f1.mono fun x _ hx => by unfold one at hx; rw [hx])).trans (f2.mono fun x _ hx => by unfold one at hx; rw [hx]))
      · rw [decide_eq_true (by omega), condC_t]
        have hci : c ≠ i := by omega
        have hnk1 : (n + 1) * k = n * k + k := Nat.succ_mul n k
        have hik1 : (i + 1) * k = i * k + k := Nat.succ_mul i k
        refine pv_i (slice_pre (by omega)) ?_
        refine pv_i (add_i (by omega) (by omega)) ?_
        refine pv_i (v := .int .i64 (n + 1 - i : Nat)) (by have := sub_i (a := (n : Int) + 1) (b := i) (by omega) (by omega); rw [this]; congr 2; omega) ?_
        have hsum : i + (n + 1 - i) = n + 1 := by omega
        refine ⟨_, _, _, _, _, cells.take (i * k), rfl, rfl, ⟨by rw [List.length_take, hlen]; omega, .inr ⟨b, 0, full, rfl, own_blk g1, by omega, by rw [htk]; simp⟩⟩, hb, ?_, by omega, fun hh => by omega, fun _ d hd => ?_⟩
        · rw [Int.toNat_natCast, hsum]; exact hbound
        rw [Int.toNat_natCast, hsum] at hd ⊢
        have hn' := newB_nw (drewW w) (cells.take (i * k) ++ repL (n + 1 - i) zero ++ repL (d - (n + 1)) zero) e
        have hsz : (drewW w).heap.size = w.heap.size := rfl
        rw [hsz] at hn'
        have hnew : own (newB (drewW w) (cells.take (i * k) ++ repL (n + 1 - i) zero ++ repL (d - (n + 1)) zero) e) w.heap.size = some _ := hn'.own
        have htyp := hn'.typ
        have hfr := hn'.fr
        revert hnew htyp hfr
        generalize hF : cells.take (i * k) ++ repL (n + 1 - i) zero ++ repL (d - (n + 1)) zero = F
        generalize newB (drewW w) F e = w1
        intro hnew htyp hfr
        have hFl : F.length = d * k := by
          subst hF
          simp only [List.length_append, List.length_take, repL_length, hz, hlen, Nat.min_eq_left (show i * k ≤ n * k by omega)]
          rw [← Nat.add_mul, ← Nat.add_mul]; congr 1; omega
        have hFt : F.take (i * k) = cells.take (i * k) := by
          subst hF
          rw [List.append_assoc, List.take_append_of_le_length (by rw [List.length_take, hlen]; omega), List.take_take, Nat.min_self]
        have hdk1 : (n + 1) * k ≤ d * k := Nat.mul_le_mul_right k hd
        have hvlt := own_lt hv
        have hblt := own_lt g1
        refine pv_i (slice_suf (by omega) hd) ?_
        refine ⟨_, _, _, _, _, _, new, rfl, rfl, ?_, ?_⟩
        · have hm1 : min 1 (n + 1 - i) = 1 := by omega
          rw [hm1]
          exact ⟨by omega, .inr ⟨vb, 0, new, rfl, own_blk (hfr.own (own_drew w vb ▸ hv) id), by omega, by simp [List.take_of_length_le, hnl]⟩⟩
        refine putAt_b hnew (o := i * k) (by omega) hn1 ?_ _ _ (fun _ => ⟨i * k, by rw [if_neg (by omega)], rfl⟩)
        intro w2 o2 ty2 f2
        have hl2 : (splice F (i * k) new).length = F.length := splice_length (by omega)
        refine pv_i (v := .int .i64 (i + 1 : Nat)) (by have := add_i (a := (i : Int)) (b := 1) (by omega) (by omega); exact_mod_cast this) ?_
        refine pv_i (slice_suf (by omega) hd) ?_
        refine pv_i (slice_suf (by omega) h2) ?_
        have hm2 : min (n - i) (n + 1 - (i + 1)) = n - i := by omega
        have g2' : own w2 b = some full := f2.own (hfr.own (own_drew w b ▸ g1) id) (fun hh => by unfold one at hh; omega)
        refine ⟨_, _, _, _, _, _, cells.drop (i * k), rfl, rfl, ?_, ?_⟩
        · rw [hm2]
          exact ⟨hdl, .inr ⟨b, i * k, full, by rw [if_neg hci], own_blk (w := drewW w2) g2', by omega, hdk⟩⟩
        have hdi : n - i = 0 ∨ d ≠ i + 1 := by omega
        refine putAt_b (w := drewW w2) o2 (o := (i + 1) * k) (by omega) (all_drop h1 _) ?_ _ _ (fun _ => ⟨(i + 1) * k, by rw [if_neg (by omega)], rfl⟩)
        intro w3 o3 ty3 f3
        refine h _ w3 (some w.heap.size) ⟨⟨d, rfl, hd, by simp, fun b' hb' => ?_⟩, ?_⟩ ?_ (fun b' hb' => .inr (by cases hb'; exact Nat.le_refl _))
        · cases hb'
          refine ⟨_, o3, by rw [splice_length (by omega), hl2, hFl], ?_, ?_⟩
          · rw [← hFt, hik1, show (n + 1) * k = i * k + k + (n - i) * k by omega]
            exact ins2 hnl hdl (by omega)
          · rw [ty3, typ_drew, ty2]; exact htyp
        · simp only [List.length_append, List.length_take, hdl, hlen, hnl]; omega
        · have f0 : Fr (fun b' => some b = some b') w w1 := (drewW_fr _ w).ex hfr
          exact ((f0.own1 f2 (by omega)).trans (drewW_fr _ w2)).own1 f3 (by omega)
end Go.Dm
