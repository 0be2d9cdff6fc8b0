/- A part of the proof that doormanlaw21.LinOpen returns true for every input, on no condition. -/
import Derived.Test.YtbfajkpjilhkgaaGreatFw6
import GoSem.Dispatch
set_option linter.unusedVariables false
set_option linter.unusedSimpArgs false
/-! Maps keyed by whole numbers or by strings. -/
namespace Go.Dm
open Go

def keyEq (str : Bool) : Value → Value → Option Bool
  | .int k a, .int k' b => match str with | false => if k = k' then some (a == b) else none | true => none
  | .string a, .string b => match str with | true => some (a == b) | false => none
  | _, _ => none
def findE (str : Bool) (k : Value) : List MapEntry → Nat → Option (Option (Nat × Value))
  | [], _ => some none
  | e :: es, i => match keyEq str k e.key with
    | some true => some (some (i, e.val))
    | some false => findE str k es (i + 1)
    | none => none

def mapEs (w : World) (m : Value) : Option (Array MapEntry) := match m with
  | .map none => some #[]
  | .map (some r) => match w.heap[r]? with | some (.map es _) => some es | _ => none
  | _ => none

def setM (w : World) (r : Nat) (es : Array MapEntry) (clock : Nat) : World := { w with heap := w.heap.setIfInBounds r (.map es clock) }
def newM (w : World) : World := { w with heap := w.heap.push (.map #[] 0) }

def mgRes (ok : Bool) (zero : Value) (r : Option (Nat × Value)) : Value := match r, ok with
  | some (_, v), true => .tuple #[v, .bool true]
  | some (_, v), false => v
  | none, true => .tuple #[zero, .bool false]
  | none, false => zero
def mgC (w : World) (str ok : Bool) (zero m k : Value) (K : Value → Prop) : Prop :=
  ∃ es, mapEs w m = some es ∧ ∃ r, findE str k es.toList 0 = some r ∧
    K (mgRes ok zero r)
def muC (w : World) (str : Bool) (m k v : Value) (K : World → Prop) : Prop :=
  ∃ r es clock, m = .map (some r) ∧ w.heap[r]? = some (.map es clock) ∧ ∃ f, findE str k es.toList 0 = some f ∧
    match f with
    | some (i, _) => K (setM w r (es.modify i fun e => { e with key := k, val := v }) clock)
    | none => K (setM w r (es.push { key := k, val := v, born := clock }) (clock + 1))
def mkC (w : World) (K : Value → World → Prop) : Prop := K (.map (some w.heap.size)) (newM w)
def mlC (w : World) (m : Value) (K : Value → Prop) : Prop := ∃ es, mapEs w m = some es ∧ K (.int .i64 es.size)
def mdC (w : World) (str : Bool) (m k : Value) (K : Value → World → Prop) : Prop :=
  ∃ r es clock, m = .map (some r) ∧ w.heap[r]? = some (.map es clock) ∧ ∃ f, findE str k es.toList 0 = some f ∧
    match f with
    | some (i, _) => K (.tuple #[]) (setM w r (es.eraseIdxIfInBounds i) clock)
    | none => K (.tuple #[]) (setM w r es clock)

/-- Is it a kind of keys that are served: strings? -/
def keyKind (P : Program) (t : TypeId) : Option Bool := match P.underlying t with | some (.int _) => some false | some .string => some true | _ => none
def zeroVP (P : Program) (t : TypeId) : Option Value := match P.info? t with | some i => i.zero | none => none

section
variable {P : Program} {w : World}

theorem sameNow_eq {t : TypeId} {str : Bool} {d : TypeDesc} (hd : P.underlying t = some d) (hk : keyKind P t = some str) (a b : Value) {r : Bool} (h : keyEq str a b = some r) : Instr.sameNow d a b = some r := by
  unfold keyKind at hk
  rw [hd] at hk
  unfold keyEq at h
  split at h
  · split at h
    · cases d <;> simp at hk
      simpa [Instr.sameNow] using h
    · cases h
  · split at h
    · cases d <;> simp at hk
      simpa [Instr.sameNow] using h
    · cases h
  · cases h

theorem findNow_eq {t : TypeId} {str : Bool} {d : TypeDesc} (hd : P.underlying t = some d) (hk : keyKind P t = some str) (k : Value) : ∀ (es : List MapEntry) (i : Nat) (r : Option (Nat × Value)), findE str k es i = some r →
    Instr.findNow d k es i = some r
  | [], i, r, h => by simpa [findE, Instr.findNow] using h
  | e :: es, i, r, h => by
    unfold findE at h
    unfold Instr.findNow
    split at h
    · rename_i h1; rw [sameNow_eq hd hk _ _ h1]; exact h
    · rename_i h1; rw [sameNow_eq hd hk _ _ h1]; exact findNow_eq hd hk k es (i + 1) r h
    · cases h

theorem keyKind_under {t : TypeId} {str : Bool} (hk : keyKind P t = some str) : ∃ d, P.underlying t = some d ∧ ((∃ k, d = .int k) ∨ d = .string) := by
  unfold keyKind at hk
  split at hk
  · rename_i k h; exact ⟨_, h, .inl ⟨k, rfl⟩⟩
  · rename_i h; exact ⟨_, h, .inr rfl⟩
  · cases hk

theorem checkKey_val {t : TypeId} {str e : Bool} (hk : keyKind P t = some str) (v : Value) : valS P (Instr.checkKey e 10000 t v) = some () := by
  obtain ⟨d, hd, h⟩ := keyKind_under hk
  unfold Instr.checkKey
  rw [valS_bind (valS_underlying hd)]
  rcases h with ⟨k, rfl⟩ | rfl <;> rfl

theorem findKey_val {t : TypeId} {str : Bool} (hk : keyKind P t = some str) {k : Value} {es : List MapEntry} {r : Option (Nat × Value)} (h : findE str k es 0 = some r) : valS P (Instr.findKey t k es) = some r := by
  obtain ⟨d, hd, _⟩ := keyKind_under hk
  unfold Instr.findKey
  rw [valS_bind (valS_underlying hd)]
  simp only [findNow_eq hd hk k es 0 r h]
  rfl

theorem getObj_run {r : Nat} {es : Array MapEntry} {c : Nat} (h : w.heap[r]? = some (.map es c)) : (getObj r).run P w = .ok (.map es c) w := by
  simp [getObj, Sem.run, h]
theorem setObj_run {r : Nat} {es ds : Array MapEntry} {c d : Nat} (h : w.heap[r]? = some (.map es c)) : (setObj r (.map ds d)).run P w = .ok () (setM w r ds d) := by
  simp [setObj, Sem.run, h, setM]

theorem lookup_run {t kt et : TypeId} {str ok : Bool} {m k z : Value} {K : Value → Prop} (ht : P.underlying t = some (.map kt et)) (hk : keyKind P kt = some str) (hz : zeroVP P et = some z)
    (h : mgC w str ok z m k K) : ∃ v, (Instr.lookup t m k ok).run P w = .ok v w ∧ K v := by
  obtain ⟨es, hes, r, hr, hK⟩ := h
  refine ⟨_, ?_, hK⟩
  have hzero : valS P (zeroValue et) = some z := by
    unfold zeroVP at hz
    split at hz
    · rename_i i hi
      unfold zeroValue
      rw [valS_bind (valS_typeInfo hi), hz]; rfl
    · cases hz
  have tail : (do
      let __x ← do
          let __do_lift ← Instr.findKey kt k es.toList
          match __do_lift with
          | some (_, v) => pure (v, true)
          | none => do pure (← zeroValue et, false)
      pure (if ok = true then Value.tuple #[__x.1, .bool __x.2] else __x.1) : Sem Value).run P w = .ok (mgRes ok z r) w := by
    cases r with
    | none =>
      rw [run_bind_val (findKey_val hk hr)]
      simp only [run_bind_val hzero, run_bind_val (valS_pure _)]
      cases ok <;> rfl
    | some p =>
      obtain ⟨i, v⟩ := p
      rw [run_bind_val (findKey_val hk hr)]
      simp only [run_bind_val (valS_pure _)]
      cases ok <;> rfl
  unfold Instr.lookup
  rw [run_bind_val (valS_underlying ht)]
  unfold mapEs at hes
  split at hes
  · simp only [Option.some.injEq] at hes; subst hes
    simp only []
    rw [run_bind_val (valS_pure _), run_bind_val (checkKey_val hk k)]
    exact tail
  · rename_i r'
    split at hes
    · rename_i es' c hh
      simp only [Option.some.injEq] at hes; subst hes
      simp only []
      rw [run_bind_ok (getObj_run hh)]
      simp only []
      rw [run_bind_val (valS_pure _), run_bind_val (checkKey_val hk k)]
      exact tail
    · cases hes
  · cases hes

theorem findE_some {str : Bool} {k : Value} : ∀ (es : List MapEntry) (i j : Nat) (v : Value), findE str k es i = some (some (j, v)) → ∃ e, es[j - i]? = some e ∧ i ≤ j ∧ keyEq str k e.key = some true
  | [], i, j, v, h => by simp [findE] at h
  | e :: es, i, j, v, h => by
    unfold findE at h
    split at h
    · rename_i h1
      simp only [Option.some.injEq, Prod.mk.injEq] at h
      obtain ⟨rfl, rfl⟩ := h
      exact ⟨e, by simp, Nat.le_refl _, h1⟩
    · rename_i h1
      obtain ⟨e', h2, h3, h4⟩ := findE_some es (i + 1) j v h
      refine ⟨e', ?_, by omega, h4⟩
      rw [show j - i = (j - (i + 1)) + 1 by omega]
      simpa using h2
    · cases h

theorem ba_eq {a b : ByteArray} : (a == b) = decide (a = b) := by
  cases a with | mk x =>
  cases b with | mk y =>
  have : (ByteArray.mk x == ByteArray.mk y) = (x == y) := rfl
  rw [this]
  by_cases h : x = y
  · subst h; simp
  · simp [h]

theorem keyThatStays_val {str : Bool} {a b : Value} (h : keyEq str b a = some true) : valS P (Instr.keyThatStays a b) = some b := by
  unfold Instr.keyThatStays
  have : Instr.sameBits 10000 a b = true := by
    unfold keyEq at h
    split at h
    · split at h
      · split at h
        · rename_i hk
          simp only [Option.some.injEq, beq_iff_eq] at h
          subst hk; subst h; simp [Instr.sameBits]
        · cases h
      · cases h
    · split at h
      · simp only [Option.some.injEq, ba_eq, decide_eq_true_eq] at h
        subst h; simp [Instr.sameBits, ba_eq]
      · cases h
    · cases h
  rw [if_pos this]; rfl

theorem mapUpdate_run {t kt et : TypeId} {str : Bool} {m k v : Value} {K : World → Prop} (ht : P.underlying t = some (.map kt et)) (hk : keyKind P kt = some str)
    (h : muC w str m k v K) : ∃ w', (Instr.mapUpdate t m k v).run P w = .ok () w' ∧ K w' := by
  obtain ⟨r, es, clock, rfl, hh, f, hf, hK⟩ := h
  unfold Instr.mapUpdate
  rw [run_bind_val (valS_underlying ht)]
  simp only []
  rw [run_bind_ok (getObj_run hh)]
  simp only []
  rw [run_bind_val (checkKey_val hk k), run_bind_val (findKey_val hk hf)]
  cases f with
  | none => exact ⟨_, setObj_run hh, hK⟩
  | some p =>
    obtain ⟨i, u⟩ := p
    obtain ⟨e, he, _, hke⟩ := findE_some _ _ _ _ hf
    have he' : es[i]? = some e := by simpa using he
    have hkk : ((es[i]?).map (·.key)).getD k = e.key := by rw [he']; rfl
    simp only [hkk]
    rw [run_bind_val (keyThatStays_val hke)]
    exact ⟨_, setObj_run hh, hK⟩

theorem delete_run {t kt et u ty : TypeId} {str : Bool} {m k : Value} {K : Value → World → Prop} (ht : P.underlying t = some (.map kt et)) (hk : keyKind P kt = some str)
    (h : mdC w str m k K) : ∃ v w', (Builtin.delete_ #[t, u] ty #[m, k]).run P w = .ok v w' ∧ K v w' := by
  obtain ⟨r, es, clock, rfl, hh, f, hf, hK⟩ := h
  unfold Builtin.delete_
  simp only [List.getElem?_toArray, List.getElem?_cons_zero, List.getElem?_cons_succ]
  rw [run_bind_val (valS_underlying ht)]
  simp only []
  rw [run_bind_ok (getObj_run hh)]
  simp only []
  rw [run_bind_val (checkKey_val hk k), run_bind_val (findKey_val hk hf)]
  cases f with
  | none =>
    refine ⟨_, _, ?_, hK⟩
    exact (run_bind_ok (setObj_run hh)).trans rfl
  | some p =>
    refine ⟨_, _, ?_, hK⟩
    exact (run_bind_ok (setObj_run hh)).trans rfl

theorem lenMap_run {t kt et ty : TypeId} {m : Value} {K : Value → Prop} (ht : P.underlying t = some (.map kt et)) (h : mlC w m K) : ∃ v, (Builtin.len_ #[t] ty #[m]).run P w = .ok v w ∧ K v := by
  obtain ⟨es, hes, hK⟩ := h
  refine ⟨_, ?_, hK⟩
  unfold Builtin.len_
  simp only [List.getElem?_toArray, List.getElem?_cons_zero]
  rw [run_bind_val (valS_underlying ht)]
  unfold mapEs at hes
  split at hes
  · simp only [Option.some.injEq] at hes; subst hes; rfl
  · split at hes
    · rename_i hh
      simp only [Option.some.injEq] at hes; subst hes
      simp only []
      rw [run_bind_ok (getObj_run hh)]; rfl
    · cases hes
  · cases hes

theorem makeMap_run {t : TypeId} {K : Value → World → Prop} (h : mkC w K) : ∃ v w', (Instr.makeMap t none).run P w = .ok v w' ∧ K v w' :=
  ⟨_, _, rfl, h⟩
end
end Go.Dm
