/- A part of the proof that doormanlaw21.LinOpen returns true for every input, on no condition. -/
import Derived.Test.YtbfajkpjilhkgaaGreatFw3b
set_option linter.unusedVariables false
set_option linter.unusedSimpArgs false
namespace Go.Dm
open Go
set_option linter.unusedSimpArgs false
attribute [-instance] Go.instLawfulMonadSem_derived
section
variable {P : Program}

theorem pickV_val' {ρ : Operand → Value} {c a b : Operand} {v : Value} (h : pickV (ρ c) (ρ a) (ρ b) = some v) :
    valS P (do pure (if ← asBool (ρ c) then ρ a else ρ b) : Sem Value) = some v := by
  unfold pickV at h
  split at h
  · rename_i t ht
    rw [ht]
    cases t <;> simp_all [asBool, valS_bind (valS_pure _), valS_pure]
  · cases h

theorem valS_asIntOf {k : IntKind} {i : Int} : valS P (asIntOf (.int k i)) = some (k, i) := rfl

theorem add_eq' (b o n : Nat) : (⟨b, o, none⟩ : Addr).add n = ⟨b, o + n, none⟩ := by
  unfold Addr.add
  split
  · rename_i h; subst h; rfl
  · rfl

theorem nilV_val {x v : Value} (h : nilV x = some v) : v = x ∧ (x ≠ .pointer none ∧ x ≠ .nilIface ∧ x ≠ .nilFunc ∧ ∀ m a b, x ≠ .func (.method m) a b) := by
  unfold nilV at h
  split at h <;> simp only [Option.some.injEq, reduceCtorEq] at h <;> subst h <;> simp

theorem sureAddr_val {a : Addr} : valS P (Instr.sureAddr (.pointer (some a))) = some a := rfl

theorem sliceBound_val {k : IntKind} {i : Int} {y : Nat} {c : BoundsCode} (h0 : 0 ≤ i) (h1 : i ≤ y) : valS P (Instr.sliceBound (.int k i) y c) = some i.toNat := by
  unfold Instr.sliceBound
  show valS P (Sem.bind (asIntOf (.int k i)) _) = _
  simp only [asIntOf, pure, Sem.bind, valS]
  simp [h0, h1, valS, pure]

theorem intOf'_some {v : Value} {i : Int} (h : intOf' v = some i) : ∃ k, v = .int k i := by
  cases v <;> simp only [intOf', reduceCtorEq, Option.some.injEq] at h
  exact ⟨_, by rw [h]⟩

theorem bounds_none {len cap : Nat} {b : Bool} {lo hi : Option Value} {h l : Int}
    (hh : (match hi with | none => some (len : Int) | some h => intOf' h) = some h) (hl : (match lo with | none => some 0 | some l => intOf' l) = some l)
    (h0 : 0 ≤ h) (h1 : h ≤ cap) (l0 : 0 ≤ l) (l1 : l ≤ h) : valS P (Instr.sliceBounds b len cap lo hi none) = some (l.toNat, h.toNat, cap) := by
  have hl1 : l ≤ (h.toNat : Int) := by omega
  cases hi with
  | none =>
    simp only [Option.some.injEq] at hh; subst hh
    cases lo with
    | none => simp only [Option.some.injEq] at hl; subst hl; simp [Instr.sliceBounds, valS_bind (valS_pure _), valS_pure]
    | some v =>
      obtain ⟨k, rfl⟩ := intOf'_some hl
      simp [Instr.sliceBounds, valS_bind (valS_pure _), valS_pure, valS_bind (sliceBound_val (k := k) l0 (show l ≤ ((len : Nat) : Int) by omega))]
  | some v =>
    obtain ⟨k, rfl⟩ := intOf'_some hh
    cases lo with
    | none => simp only [Option.some.injEq] at hl; subst hl; simp [Instr.sliceBounds, valS_bind (valS_pure _), valS_pure, valS_bind (sliceBound_val (k := k) h0 h1)]
    | some v =>
      obtain ⟨k, rfl⟩ := intOf'_some hl
      simp [Instr.sliceBounds, valS_bind (valS_pure _), valS_pure, valS_bind (sliceBound_val (k := _) h0 h1), valS_bind (sliceBound_val (k := k) l0 hl1)]

theorem bounds_some {len cap : Nat} {b : Bool} {lo hi : Option Value} {mx : Value} {h l m : Int}
    (hh : (match hi with | none => none | some h => intOf' h) = some h) (hl : (match lo with | none => some 0 | some l => intOf' l) = some l) (hm : intOf' mx = some m)
    (m0 : 0 ≤ m) (m1 : m ≤ cap) (h0 : 0 ≤ h) (h1 : h ≤ m) (l0 : 0 ≤ l) (l1 : l ≤ h) : valS P (Instr.sliceBounds b len cap lo hi (some mx)) = some (l.toNat, h.toNat, m.toNat) := by
  obtain ⟨km, rfl⟩ := intOf'_some hm
  have hl1 : l ≤ (h.toNat : Int) := by omega
  have hh1 : h ≤ (m.toNat : Int) := by omega
  cases hi with
  | none => simp at hh
  | some v =>
    obtain ⟨k, rfl⟩ := intOf'_some hh
    cases lo with
    | none => simp only [Option.some.injEq] at hl; subst hl; simp [Instr.sliceBounds, valS_pure, valS_bind (sliceBound_val (k := km) m0 m1), valS_bind (sliceBound_val (k := k) h0 hh1), valS_bind (valS_pure _)]
    | some v =>
      obtain ⟨k', rfl⟩ := intOf'_some hl
      simp [Instr.sliceBounds, valS_bind (valS_pure _), valS_pure, valS_bind (sliceBound_val (k := km) m0 m1), valS_bind (sliceBound_val (k := k) h0 hh1), valS_bind (sliceBound_val (k := k') l0 hl1)]

theorem part_agg {t : TypeId} {cs : Array Value} {off n : Nat} {a : Bool} {v : Value} (ha : aggP P t = some a) (hn : sizeP P t = some n)
    (h : fieldV a off n (.agg cs) = some v) : valS P (part t cs off) = some v := by
  unfold part
  rw [valS_bind (valS_isAgg ha)]
  cases a with
  | true => simp only [fieldV, Option.some.injEq] at h; subst h; simp only [if_true]; rw [valS_bind (valS_sizeOf hn)]; rfl
  | false =>
    simp only [fieldV] at h
    simp [h, valS_pure]

theorem maxV_val (mx : Bool) : ∀ (r : List Value) (x v : Value), maxV mx x r = some v → valS P (r.foldlM (if mx = true then Builtin.max2 else Builtin.min2) x) = some v
  | [], x, v, h => by simp only [maxV, Option.some.injEq] at h; subst h; rfl
  | y :: r, x, v, h => by
    unfold maxV at h
    split at h
    · rename_i z hz
      rw [List.foldlM_cons]
      have : valS P ((if mx = true then Builtin.max2 else Builtin.min2) x y) = some z := by
        unfold max2V at hz
        split at hz
        · cases mx <;> simp only [Option.some.injEq] at hz <;> subst hz <;> rfl
        · cases hz
      rw [valS_bind this]
      exact maxV_val mx r z v h
    · cases h

theorem pureV_val {ρ : Operand → Value} {o : Oper} {v : Value} (h : pureV P ρ o.op = some v) : valS P (execOp ρ o) = some (.value v) := by
  obtain ⟨dst, op, type, pos, after, guard⟩ := o
  simp only at h ⊢
  unfold pureV at h
  split at h
  case h_1 => simp only [Option.some.injEq] at h; subst h; rfl
  case h_2 => simp only [Option.some.injEq] at h; subst h; rfl
  case h_3 c a b =>
    unfold pickV at h
    split at h
    · rename_i t ht
      simp only [Option.some.injEq] at h
      subst h
      cases t <;> simp only [execOp, ht, asBool, valS_bind (valS_pure _), valS_pure] <;> rfl
    · cases h
  case h_4 x =>
    obtain ⟨rfl, h1, h2, h3, h4⟩ := nilV_val h
    simp only [execOp, valS_pure]
  case h_5 => exact valS_value (binP_val h)
  case h_6 op' _ x =>
    refine valS_value ?_
    unfold unV at h
    split at h
    · rename_i hx; rw [hx]; simp only [Option.some.injEq] at h; subst h; rfl
    · rename_i hx; rw [hx]; simp only [Option.some.injEq] at h; subst h; rfl
    · cases h
  case h_7 s d x =>
    refine valS_value ?_
    split at h
    · rename_i ks kd hs hd
      unfold cvtV at h
      split at h
      · rename_i hx
        simp only [Option.some.injEq] at h; subst h
        unfold convert
        rw [valS_bind (valS_underlying hs), valS_bind (valS_underlying hd), hx]
        rfl
      · cases h
    · cases h
  case h_8 t x =>
    refine valS_value ?_
    split at h
    · rename_i e hu
      simp only [Option.some.injEq] at h; subst h
      unfold Instr.makeInterface
      rw [valS_bind (valS_underlying hu)]
      rfl
    · cases h
  case h_9 => simp only [Option.some.injEq, lm_eq] at h; subst h; exact valS_value rfl
  case h_10 s x f =>
    refine valS_value ?_
    split at h
    · rename_i fs hu
      split at h
      · rename_i fd hf
        split at h
        · rename_i n hn
          unfold addrV at h
          split at h
          · rename_i b off hx
            simp only [Option.some.injEq] at h; subst h
            unfold Instr.fieldAt
            rw [valS_bind (valS_underlying hu)]
            simp only [hf, hx]
            rw [valS_bind (sureAddr_val)]
            have : valS P (fieldPlace ⟨b, off, none⟩ fd) = some (Addr.add ⟨b, off, none⟩ fd.offset) := by
              unfold fieldPlace
              rw [valS_bind (valS_sizeOf hn)]
              simp [valS_pure]
            rw [valS_bind this, add_eq']
            rfl
          · cases h
        · cases h
      · cases h
    · cases h
  case h_11 s x f =>
    refine valS_value ?_
    split at h
    · rename_i fs hu
      split at h
      · rename_i fd hf
        split at h
        · rename_i a n ha hn
          cases hx : ρ x <;> rw [hx] at h <;> simp only [fieldV, reduceCtorEq] at h
          rename_i cs
          unfold Instr.field
          rw [valS_bind (valS_underlying hu)]
          simp only [hf]
          show valS P (Sem.bind (asAgg (.agg cs)) _) = _
          exact part_agg ha hn h
        · cases h
      · cases h
    · cases h
  case h_12 t x i =>
    refine valS_value ?_
    split at h
    · rename_i e hu
      split at h
      · rename_i n hn
        unfold idxSV at h
        split at h
        · rename_i b off len cap k ix hx hi
          split at h
          · rename_i hb
            simp only [Option.some.injEq] at h; subst h
            simp [add_eq', Instr.indexAt, hx, hi, valS_bind valS_asIntOf, valS_bind (valS_underlying hu), valS_bind (valS_pure _), valS_pure, hb, valS_bind (valS_sizeOf hn)]
          · cases h
        · cases h
      · cases h
    · rename_i l e hu
      split at h
      · rename_i n hn
        unfold idxAV at h
        split at h
        · rename_i b off k ix hx hi
          split at h
          · rename_i hb
            simp only [Option.some.injEq] at h; subst h
            simp [add_eq', Instr.indexAt, hx, hi, valS_bind valS_asIntOf, valS_bind (valS_underlying hu), valS_bind (valS_pure _), valS_bind sureAddr_val, valS_pure, hb, valS_bind (valS_sizeOf hn)]
          · cases h
        · cases h
      · cases h
    · cases h
  case h_13 t x i =>
    refine valS_value ?_
    split at h
    · rename_i hu
      unfold idxStrV at h
      split at h
      · rename_i s k ix hx hi
        split at h
        · rename_i b hb
          simp only [Option.some.injEq] at h; subst h
          simp only [Instr.index, hx, hi, valS_bind valS_asIntOf, valS_bind (valS_underlying hu), hb, valS_pure]
        · cases h
      · cases h
    · rename_i l e hu
      split at h
      · rename_i a n ha hn
        unfold idxArrV at h
        split at h
        · rename_i cs k ix hx hi
          split at h
          · rename_i hb
            simp only [Instr.index, hx, hi, valS_bind valS_asIntOf, valS_bind (valS_underlying hu), hb, if_true, and_self, valS_bind (valS_sizeOf hn)]
            exact part_agg ha hn h
          · cases h
        · cases h
      · cases h
    · cases h
  case h_14 x i =>
    refine valS_value ?_
    unfold extV at h
    split at h
    · rename_i vs hx
      unfold Instr.extract
      simp only [hx, h]
      rfl
    · cases h
  case h_15 t x lo hi mx =>
    refine valS_value ?_
    split at h
    · rename_i e hu
      split at h
      · rename_i n hn
        split at h
        · unfold sliceV at h
          split at h
          · rename_i a len cap hx
            split at h
            · rename_i hh l eh el
              split at h
              · rename_i hb
                simp only [Option.some.injEq] at h; subst h
                simp only [Instr.sliceAt, valS_bind (valS_underlying hu), Instr.slice, hx, Option.map_none]
                rw [valS_bind (bounds_none eh el hb.1 hb.2.1 hb.2.2.1 hb.2.2.2)]
                simp only [valS_bind (valS_sizeOf hn), valS_pure]
              · cases h
            · cases h
          · cases h
        · rename_i m
          unfold slice3V at h
          split at h
          · rename_i a len cap hx
            split at h
            · rename_i hh l mm eh el em
              split at h
              · rename_i hb
                simp only [Option.some.injEq] at h; subst h
                simp only [Instr.sliceAt, valS_bind (valS_underlying hu), Instr.slice, hx, Option.map_some]
                rw [valS_bind (bounds_some eh el em hb.1 hb.2.1 hb.2.2.1 hb.2.2.2.1 hb.2.2.2.2.1 hb.2.2.2.2.2)]
                simp only [valS_bind (valS_sizeOf hn), valS_pure]
              · cases h
            · cases h
          · cases h
      · cases h
    · rename_i l e hu
      split at h
      · rename_i n hn
        unfold sliceAV at h
        split at h
        · rename_i a hx
          split at h
          · rename_i hh ll eh el
            split at h
            · rename_i hb
              simp only [Option.some.injEq] at h; subst h
              simp only [Instr.sliceAt, valS_bind (valS_underlying hu), hx, valS_bind sureAddr_val, Option.map_none]
              rw [valS_bind (bounds_none eh el hb.1 hb.2.1 hb.2.2.1 hb.2.2.2)]
              simp only [valS_bind (valS_sizeOf hn), valS_pure]
            · cases h
          · cases h
        · cases h
      · cases h
    · cases h
  case h_16 t parts =>
    refine valS_value ?_
    split at h
    · rename_i fs hu
      split at h
      · rename_i pl z hpl hz
        unfold buildV at h
        cases hf : fillL (fun i => pl[i]?) z (partsL ρ parts) with
        | none => rw [hf] at h; cases h
        | some l =>
          rw [hf] at h; simp only [Option.map_some, Option.some.injEq] at h; subst h
          obtain ⟨zv, hzv, hzc⟩ := valS_zero hz
          unfold Instr.build
          rw [valS_bind hzv, valS_bind (valS_underlying hu)]
          have hm := placesA_val hpl
          simp only []
          rw [valS_bind hm]
          have hp : (parts.map fun (x : Nat × Operand) => (x.1, ρ x.2)).toList = partsL ρ parts := by simp [partsL]
          have hfe := fill_eq (fun i => pl[i]?) (partsL ρ parts) z l hf
          simp only [hzc, hp]
          have e : (fun (i : Nat) => pl.toArray[i]?) = fun i => pl[i]? := by funext i; simp
          rw [e, hfe]
          rfl
      · cases h
    · cases h
  case h_17 args argTypes =>
    split at h
    · rename_i t x ht hx
      have ht' : argTypes[0]? = some t := ht
      have hx' : (Array.map ρ args)[0]? = some (ρ x) := by simp [hx]
      split at h
      · rename_i e hu
        unfold lenV at h
        split at h
        · rename_i a n c hv
          simp only [Option.some.injEq] at h; subst h
          simp only [execOp, resolve, valS_bind (valS_pure _), invoke, builtin, Builtin.len_, ht', hx', hv, goInt]
          exact valS_value (by simp only [valS_bind (valS_underlying hu), valS_pure])
        · cases h
      · rename_i hu
        unfold lenSV at h
        split at h
        · rename_i s' hv
          simp only [Option.some.injEq] at h; subst h
          simp only [execOp, resolve, valS_bind (valS_pure _), invoke, builtin, Builtin.len_, ht', hx', hv, goInt]
          exact valS_value (by simp only [valS_bind (valS_underlying hu), valS_pure])
        · cases h
      · cases h
    · cases h
  case h_18 args argTypes =>
    split at h
    · rename_i x r hx
      simp only [execOp, resolve, valS_bind (valS_pure _), invoke, builtin]
      refine valS_value ?_
      unfold Builtin.max_
      have : (Array.map ρ args).toList = x :: r := by simpa using hx
      simp only [this]
      exact maxV_val true r x v h
    · cases h
  case h_19 args argTypes =>
    split at h
    · rename_i x r hx
      simp only [execOp, resolve, valS_bind (valS_pure _), invoke, builtin]
      refine valS_value ?_
      unfold Builtin.min_
      have : (Array.map ρ args).toList = x :: r := by simpa using hx
      simp only [this]
      exact maxV_val false r x v h
    · cases h
  case h_20 args argTypes =>
    split at h
    · rename_i t x ht hx
      have ht' : argTypes[0]? = some t := ht
      have hx' : (Array.map ρ args)[0]? = some (ρ x) := by simp [hx]
      split at h
      · rename_i e hu
        unfold capV at h
        split at h
        · rename_i a n c hv
          simp only [Option.some.injEq] at h; subst h
          simp only [execOp, resolve, valS_bind (valS_pure _), invoke, builtin, Builtin.cap_, ht', hx', hv, goInt]
          exact valS_value (by simp only [valS_bind (valS_underlying hu), valS_pure])
        · cases h
      · cases h
    · cases h
  case h_21 => cases h

end
end Go.Dm
