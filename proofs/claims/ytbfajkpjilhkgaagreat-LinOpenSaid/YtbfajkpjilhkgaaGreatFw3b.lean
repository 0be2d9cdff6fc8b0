/- A part of the proof that doormanlaw21.LinOpen returns true for every input, on no condition. -/
import Derived.Test.YtbfajkpjilhkgaaGreatFw3
import Derived.Laws.Sem
set_option linter.unusedVariables false
set_option linter.unusedSimpArgs false
namespace Go.Dm
open Go
theorem splice_nil (cs : List Value) (o : Nat) : splice cs o [] = cs := by simp [splice]
theorem splice_cons (cs : List Value) (o : Nat) (x : Value) (xs : List Value) (h : o < cs.length) : splice (cs.set o x) (o + 1) xs = splice cs o (x :: xs) := by
  unfold splice
  have e : (cs.set o x).take (o + 1) = cs.take o ++ [x] := by
    rw [List.take_succ_eq_append_getElem (by simpa using h)]
    rw [List.take_set_of_le (by omega)]
    simp
  rw [e]
  have d : (cs.set o x).drop (o + 1 + xs.length) = cs.drop (o + 1 + xs.length) := by
    rw [List.drop_set]; rw [if_pos (by omega)]
  rw [d]
  simp [show o + 1 + xs.length = o + (xs.length + 1) by omega]

theorem foldl_set (off : Nat) : ∀ (l : List Value) (k : Nat) (cs : Array Value), off + k + l.length ≤ cs.size →
    (l.zipIdx k).foldl (fun (cs : Array Value) (x : Value × Nat) => cs.setIfInBounds (off + x.2) x.1) cs = (splice cs.toList (off + k) l).toArray
  | [], k, cs, _ => by simp [splice]
  | x :: l, k, cs, h => by
    simp only [List.length_cons] at h
    simp only [List.zipIdx_cons, List.foldl_cons]
    rw [foldl_set off l (k + 1) _ (by simp; omega)]
    simp only [Array.toList_setIfInBounds]
    rw [show off + (k + 1) = off + k + 1 by omega, splice_cons _ _ _ _ (by simp; omega)]

theorem splice_length {cs : List Value} {o : Nat} {xs : List Value} (h : o + xs.length ≤ cs.length) : (splice cs o xs).length = cs.length := by
  unfold splice; simp; omega

theorem fill_eq (place : Nat → Option (Nat × Nat)) : ∀ (parts : List (Nat × Value)) (cs : List Value) (ds : List Value), fillL place cs parts = some ds →
    Instr.fill place cs.toArray parts = some ds.toArray
  | [], cs, ds, h => by simp only [fillL, Option.some.injEq] at h; subst h; rfl
  | (i, v) :: rest, cs, ds, h => by
    simp only [fillL] at h
    unfold Instr.fill
    split at h
    · cases h
    · rename_i off size hp
      split at h
      · rename_i hb
        rw [hp]
        obtain ⟨hb1, hb2⟩ := hb
        have hn : ¬ ((decide (v.cells.size ≠ size) || decide (off + v.cells.size > cs.toArray.size)) = true) := by
          simp [hb1]; omega
        simp only []
        rw [if_neg hn]
        have hf := foldl_set off v.cells.toList 0 cs.toArray (by simp [hb1]; omega)
        have hz : v.cells.zipIdx.foldl (fun (cs : Array Value) (x : Value × Nat) => cs.setIfInBounds (off + x.2) x.1) cs.toArray = (splice cs off v.cells.toList).toArray := by
          rw [← Array.foldl_toList]
          simp only [Array.toList_zipIdx]
          simpa using hf
        have := fill_eq place rest _ ds h
        rw [← this]
        congr 1
      · cases h

section
variable {P : Program}
theorem valS_zero {t : TypeId} {z : List Value} (h : zeroP P t = some z) : ∃ v, valS P (zeroValue t) = some v ∧ v.cells = z.toArray := by
  unfold zeroP at h
  split at h
  · rename_i i hi
    cases hz : i.zero with
    | none => rw [hz] at h; cases h
    | some v =>
      rw [hz] at h; simp only [Option.map_some, Option.some.injEq] at h
      refine ⟨v, ?_, by rw [← h]⟩
      unfold zeroValue
      rw [valS_bind (valS_typeInfo hi), hz]; rfl
  · cases h
theorem valS_bytes {t : TypeId} {n : Nat} (h : bytesP P t = some n) : ∃ i, valS P (typeInfo t) = some i ∧ i.bytes = n := by
  simp only [bytesP, Option.map_eq_some_iff] at h
  obtain ⟨i, hi, rfl⟩ := h
  exact ⟨i, valS_typeInfo hi, rfl⟩
end


section
variable {P : Program}
theorem placesL_val : ∀ {fs : List Field} {pl : List (Nat × Nat)}, placesL P fs = some pl → valS P (fs.mapM fun f => do pure (f.offset, ← sizeOf f.type) : Sem (List (Nat × Nat))) = some pl
  | [], pl, h => by simp only [placesL, Option.some.injEq] at h; subst h; rfl
  | f :: fs, pl, h => by
    simp only [placesL] at h
    split at h
    · rename_i n l hn hl
      simp only [Option.some.injEq] at h; subst h
      rw [List.mapM_cons]
      have h1 : valS P (do pure (f.offset, ← sizeOf f.type) : Sem (Nat × Nat)) = some (f.offset, n) := by rw [valS_bind (valS_sizeOf hn)]; rfl
      rw [valS_bind h1, valS_bind (placesL_val hl)]; rfl
    · cases h
theorem placesA_val {fs : Array Field} {pl : List (Nat × Nat)} (h : placesL P fs.toList = some pl) :
    valS P (fs.mapM fun f => do pure (f.offset, ← sizeOf f.type) : Sem (Array (Nat × Nat))) = some pl.toArray := by
  rw [Array.mapM_eq_mapM_toList]
  exact (valS_bind (f := fun l => pure (List.toArray l)) (placesL_val h)).trans rfl
end
end Go.Dm
