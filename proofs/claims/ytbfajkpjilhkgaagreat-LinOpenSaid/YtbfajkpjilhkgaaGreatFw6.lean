/- A part of the proof that doormanlaw21.LinOpen returns true for every input, on no condition. -/
import Derived.Test.YtbfajkpjilhkgaaGreatFw5
set_option linter.unusedVariables false
set_option linter.unusedSimpArgs false
/-! Rows of zeros; filling; slices that are made, appended to, copied. -/
namespace Go.Dm
open Go

def repL : Nat → List Value → List Value
  | 0, _ => []
  | n + 1, z => z ++ repL n z

theorem repL_length (n : Nat) (z : List Value) : (repL n z).length = n * z.length := by
  induction n with
  | zero => simp [repL]
  | succ n ih => simp [repL, ih, Nat.succ_mul]; omega

theorem repL_get (z : List Value) : ∀ (n i : Nat), i < n * z.length → (repL n z)[i]? = z[i % z.length]?
  | 0, i, h => by omega
  | n + 1, i, h => by
    simp only [repL]
    by_cases hi : i < z.length
    · rw [List.getElem?_append_left hi, Nat.mod_eq_of_lt hi]
    · rw [List.getElem?_append_right (by omega), repL_get z n (i - z.length) (by rw [Nat.succ_mul] at h; omega)]
      rw [show i % z.length = (i - z.length) % z.length from Nat.mod_eq_sub_mod (by omega)]

theorem range_mod (n : Nat) (z : Array Value) (m : Nat) (hm : m = n * z.size) : ((Array.range m).map fun i => z[i % z.size]!) = (repL n z.toList).toArray := by
  subst hm
  apply Array.ext
  · simp [repL_length]
  · intro i h1 h2
    have hi : i < n * z.toList.length := by simpa using h1
    have hz : 0 < z.size := by
      cases hz : z.size with
      | zero => simp [hz] at hi
      | succ k => omega
    simp only [Array.getElem_map, Array.getElem_range]
    have := repL_get z.toList n i hi
    have hmod : i % z.size < z.size := Nat.mod_lt _ hz
    rw [getElem!_pos z (i % z.size) hmod]
    simp only [List.getElem_toArray]
    rw [List.getElem?_eq_getElem (by rw [repL_length]; exact hi)] at this
    simp only [Array.length_toList] at this
    rw [List.getElem?_eq_getElem (by simpa using hmod)] at this
    simp only [Option.some.injEq, Array.getElem_toList] at this
    exact this.symm

/-- The first k cells behind an address. -/
def Row (w : World) (base : Option Addr) (k : Nat) (xs : List Value) : Prop :=
  xs.length = k ∧ (k = 0 ∨ ∃ b o cs, base = some ⟨b, o, none⟩ ∧ blk w b = some cs ∧ o + k ≤ cs.length ∧ xs = (cs.drop o).take k)

def drewW (w : World) : World := { w with drawn := w.drawn + 1 }

/-- A composite slice. -/
def bsC (w : World) (size : Nat) (zero : List Value) (e : TypeId) (len : Nat) (parts : List (Nat × Value)) (K : Value → World → Prop) : Prop :=
  ∃ cs, fillL (fun i => some (i * size, size)) (repL len zero) parts = some cs ∧ K (.slice (some ⟨w.heap.size, 0, none⟩) len len) (newB w cs e)

def msC (w : World) (bytes : Nat) (zero : List Value) (e : TypeId) (l c : Value) (K : Value → World → Prop) : Prop :=
  ∃ (k k' : IntKind) (n m : Nat), l = .int k n ∧ c = .int k' m ∧ n ≤ m ∧ m < 2 ^ 47 ∧ m * bytes ≤ 2 ^ 47 ∧
    K (.slice (some ⟨w.heap.size, 0, none⟩) n m) (newB w (repL m zero) e)

/-- Writing a row behind an address (nothing is asked of an empty one). -/
def putAt (w : World) (base : Option Addr) (skip : Nat) (xs : List Value) (K : World → Prop) : Prop :=
  (xs = [] ∧ K w) ∨ (∃ b o cs, base = some ⟨b, o, none⟩ ∧ own w b = some cs ∧ o + skip + xs.length ≤ cs.length ∧ xs.all one1 = true ∧ K (putB w b (splice cs (o + skip) xs)))

/-- 'append(s, x...)'. -/
def apC (w : World) (bytes size : Nat) (zero : List Value) (e : TypeId) (s x : Value) (K : Value → World → Prop) : Prop :=
  ∃ base sl sc xb n xc old new, s = .slice base sl sc ∧ x = .slice xb n xc ∧ Row w base (sl * size) old ∧ Row w xb (n * size) new ∧ 0 < bytes ∧ (sl + n) * bytes ≤ 2 ^ 47 ∧
    (sl + n ≤ sc → putAt w base (sl * size) new fun w' => K (.slice base (sl + n) sc) w') ∧
    (sc < sl + n → ∀ c, sl + n ≤ c → K (.slice (some ⟨w.heap.size, 0, none⟩) (sl + n) c) (newB (drewW w) (old ++ new ++ repL (c - (sl + n)) zero) e))

/-- 'append(s, make([]T, n)...)'. -/
def apzC (w : World) (bytes size : Nat) (zero : List Value) (e : TypeId) (s x : Value) (K : Value → World → Prop) : Prop :=
  ∃ base sl sc k n old, s = .slice base sl sc ∧ x = .int k n ∧ Row w base (sl * size) old ∧ 0 < bytes ∧ (sl + n.toNat) * bytes ≤ 2 ^ 47 ∧ 0 ≤ n ∧
    (sl + n.toNat ≤ sc → putAt w base (sl * size) (repL n.toNat zero) fun w' => K (.slice base (sl + n.toNat) sc) w') ∧
    (sc < sl + n.toNat → ∀ c, sl + n.toNat ≤ c → K (.slice (some ⟨w.heap.size, 0, none⟩) (sl + n.toNat) c) (newB (drewW w) (old ++ repL n.toNat zero ++ repL (c - (sl + n.toNat)) zero) e))

def cpC (w : World) (size : Nat) (d s : Value) (K : Value → World → Prop) : Prop :=
  ∃ base dl dc sb sl sc new, d = .slice base dl dc ∧ s = .slice sb sl sc ∧ Row w sb (min sl dl * size) new ∧
    putAt w base 0 new fun w' => K (.int .i64 (min sl dl : Nat)) w'

def clC (w : World) (zero : List Value) (s : Value) (K : Value → World → Prop) : Prop :=
  ∃ base n c, s = .slice base n c ∧ putAt w base 0 (repL n zero) fun w' => K (.tuple #[]) w'

section
variable {P : Program}

theorem row_first {w : World} {base : Option Addr} {k n c size : Nat} {xs : List Value} (h : Row w base k xs) (hk : k = n * size) :
    (Builtin.firstCells size n (.slice base n c)).run P w = .ok xs.toArray w ∨ (∃ m c', (Builtin.firstCells size n (.slice base m c')).run P w = .ok xs.toArray w) := by
  subst hk
  obtain ⟨h1, h2⟩ := h
  left
  cases base with
  | none =>
    rcases h2 with h2 | ⟨b, o, cs, hb, _⟩
    · rw [h2] at h1
      have : xs = [] := List.length_eq_zero_iff.1 h1
      subst this; rfl
    · cases hb
  | some a =>
    simp only [Builtin.firstCells]
    rcases h2 with h2 | ⟨b, o, cs, hb, hc, hl, hx⟩
    · rw [h2] at h1 ⊢
      have : xs = [] := List.length_eq_zero_iff.1 h1
      subst this; rfl
    · simp only [Option.some.injEq] at hb; subst hb
      have := loadFrom_run (P := P) hc o (n * size) 0 #[] (by omega)
      rw [show loadCells ⟨b, o, none⟩ (n * size) = loadCellsFrom ⟨b, o, none⟩ 0 (n * size) #[] from rfl, this, hx]
      simp

theorem first_run {w : World} {base : Option Addr} {n m c size : Nat} {xs : List Value} (h : Row w base (n * size) xs) :
    (Builtin.firstCells size n (.slice base m c)).run P w = .ok xs.toArray w := by
  rcases row_first (P := P) (n := n) (c := c) h rfl with h' | ⟨m', c', h'⟩
  · cases base <;> exact h'
  · cases base <;> exact h'

theorem putAt_run {w : World} {base : Option Addr} {skip : Nat} {xs : List Value} {K : World → Prop} (h : putAt w base skip xs K) :
    ∃ w', K w' ∧ (if let some a := base then storeCells (a.add skip) xs else pure () : Sem Unit).run P w = .ok () w' := by
  rcases h with ⟨rfl, hK⟩ | ⟨b, o, cs, rfl, ho, hl, hone, hK⟩
  · refine ⟨w, hK, ?_⟩
    cases base <;> rfl
  · refine ⟨_, hK, ?_⟩
    simp only [add_eq]
    have := storeCells_run (P := P) xs w cs (o + skip) 0 ho (by omega) hone
    simpa using this

theorem growBy_le (need : Nat) : ∀ (r c : Nat), 256 ≤ c → c < 2 * need ∨ c ≤ need → Builtin.growBy need r c ≤ 2 * need
  | 0, c, _, h => by simp only [Builtin.growBy]; omega
  | r + 1, c, hc, h => by
    simp only [Builtin.growBy]
    split
    · omega
    · exact growBy_le need r _ (by omega) (by omega)

theorem nextcap_le {need cap : Nat} (h : cap < need) : Builtin.nextslicecap need cap ≤ 2 * need := by
  unfold Builtin.nextslicecap
  split
  · omega
  · split
    · omega
    · exact growBy_le need 4 cap (by omega) (by omega)

end
end Go.Dm
