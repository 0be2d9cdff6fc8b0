/- A part of the proof that doormanlaw21.LinOpen returns true for every input, on no condition. -/
import Derived.Test.YtbfajkpjilhkgaaGreatFw2
set_option linter.unusedVariables false
set_option linter.unusedSimpArgs false
namespace Go.Dm
open Go
section
variable {P : Program}

theorem pickV_val {ρ : Operand → Value} {c a b : Operand} {v : Value} (h : pickV (ρ c) (ρ a) (ρ b) = some v) :
    valS P (do pure (Next.value (← (do pure (if ← asBool (ρ c) then ρ a else ρ b) : Sem Value)))) = some (.value v) := by
  unfold pickV at h
  split at h
  · rename_i t ht
    rw [ht]
    cases t <;> simp_all [asBool, bind, Sem.bind, pure, valS]
  · cases h

theorem valS_value {s : Sem Value} {v : Value} (h : valS P s = some v) : valS P (do pure (Next.value (← s))) = some (.value v) := by
  rw [valS_bind h]; rfl

theorem intBin_val {op : BinOp} {k : IntKind} {a b : Int} {v : Value} (h : intBin op k a b = some v) (x : TypeId) :
    valS P (binOp op x (.int k a) (.int k b)) = some v := by
  cases op <;> simp only [intBin] at h <;> try (cases h; done)
  all_goals first
    | (simp only [Option.some.injEq] at h; subst h; simp [binOp, Op.intArith, Op.intBits, Op.intCmp, pure, valS]; done)
    | (split at h <;> try cases h
       rename_i hb
       simp [binOp, Op.intDiv, hb, pure, valS])

theorem shiftV_val {op : BinOp} (hop : op = .shl ∨ op = .shr) {k k' : IntKind} {a b : Int} {v : Value} (h : shiftV op k a b = some v) (x : TypeId) :
    valS P (binOp op x (.int k a) (.int k' b)) = some v := by
  unfold shiftV at h
  split at h
  · cases h
  · rename_i hb
    rcases hop with rfl | rfl <;> simp only [Option.some.injEq] at h <;> subst h <;> simp [binOp, Op.shift, hb, pure, valS]

theorem strBin_val {op : BinOp} {a b : ByteArray} {v : Value} (h : strBin op a b = some v) (x : TypeId) :
    valS P (binOp op x (.string a) (.string b)) = some v := by
  cases op <;> simp only [strBin] at h <;> try (cases h; done)
  all_goals (simp only [Option.some.injEq] at h; subst h; simp [binOp, Op.stringOp, pure, valS])

theorem binV_val {op : BinOp} {a b : Value} {v : Value} (h : binV op a b = some v) (x : TypeId) :
    valS P (binOp op x a b) = some v := by
  unfold binV at h
  split at h
  · split at h
    · exact shiftV_val (.inl rfl) h x
    · exact shiftV_val (.inr rfl) h x
    · split at h
      · rename_i hk; subst hk; exact intBin_val h x
      · cases h
  · exact strBin_val h x
  · cases h

theorem equal_step {t : TypeId} {d : TypeDesc} (h : P.underlying t = some d) (f : TypeDesc → Sem Bool) : valS P (underlying t >>= f) = valS P (f d) :=
  valS_bind (valS_underlying h)

theorem eqlneq_val {op : BinOp} {t : TypeId} {a b : Value} {c : Bool} {v : Value} (hv : nilBin op c = some v ∨ boolBin op c true = some v)
    (hb : binOp .eql t a b = (do pure (.bool (← Op.equal t a b)))) (hn : binOp .neq t a b = (do pure (.bool (!(← Op.equal t a b)))))
    (he : valS P (Op.equal t a b) = some c) : valS P (binOp op t a b) = some v := by
  rcases hv with hv | hv <;> cases op <;> simp only [nilBin, boolBin] at hv <;> try (cases hv; done)
  all_goals (simp only [Option.some.injEq] at hv; subst hv; first | (rw [hb, valS_bind he]; simp [valS_pure]; done) | (rw [hn, valS_bind he]; simp [valS_pure]))

theorem equal_bool {t : TypeId} (h : P.underlying t = some .bool) (a b : Bool) : valS P (Op.equal t (.bool a) (.bool b)) = some (a == b) := by
  unfold Op.equal Op.maxDepth Op.equalIn
  rw [equal_step h]; rfl
theorem equal_ptr0 {t e : TypeId} (h : P.underlying t = some (.pointer e)) (b : Option Addr) : valS P (Op.equal t (.pointer none) (.pointer b)) = some b.isNone := by
  unfold Op.equal Op.maxDepth Op.equalIn
  rw [equal_step h]; rfl
theorem equal_ptr1 {t e : TypeId} (h : P.underlying t = some (.pointer e)) (a : Addr) : valS P (Op.equal t (.pointer (some a)) (.pointer none)) = some false := by
  unfold Op.equal Op.maxDepth Op.equalIn
  rw [equal_step h]; rfl
theorem equal_slc0 {t e : TypeId} (h : P.underlying t = some (.slice e)) (n c : Nat) (b : Option Addr) (m d : Nat) : valS P (Op.equal t (.slice none n c) (.slice b m d)) = some b.isNone := by
  unfold Op.equal Op.maxDepth Op.equalIn
  rw [equal_step h]; rfl
theorem equal_slc1 {t e : TypeId} (h : P.underlying t = some (.slice e)) (a : Addr) (n c m d : Nat) : valS P (Op.equal t (.slice (some a) n c) (.slice none m d)) = some false := by
  unfold Op.equal Op.maxDepth Op.equalIn
  rw [equal_step h]; rfl
theorem equal_fn0 {t : TypeId} {p r : Array TypeId} {vr : Bool} (h : P.underlying t = some (.func p r vr)) : valS P (Op.equal t .nilFunc .nilFunc) = some true := by
  unfold Op.equal Op.maxDepth Op.equalIn
  rw [equal_step h]; rfl
theorem equal_fn1 {t : TypeId} {p r : Array TypeId} {vr : Bool} (h : P.underlying t = some (.func p r vr)) (f : Fn) (a b : Array Value) : valS P (Op.equal t (.func f a b) .nilFunc) = some false := by
  unfold Op.equal Op.maxDepth Op.equalIn
  rw [equal_step h]; rfl
theorem equal_if0 {t : TypeId} {m : Array (String × TypeId)} (h : P.underlying t = some (.interface m)) : valS P (Op.equal t .nilIface .nilIface) = some true := by
  unfold Op.equal Op.maxDepth Op.equalIn
  rw [equal_step h]; rfl
theorem equal_if1 {t : TypeId} {m : Array (String × TypeId)} (h : P.underlying t = some (.interface m)) (u : TypeId) (v : Value) : valS P (Op.equal t (.iface u v) .nilIface) = some false := by
  unfold Op.equal Op.maxDepth Op.equalIn
  rw [equal_step h]; rfl

theorem eqGuard_none {op : BinOp} {t : TypeId} {x y : Operand} {a b : Value} (h1 : ¬ (a = .nilIface ∧ b = .nilIface)) (h2 : ∀ cs ds, ¬ (a = .agg cs ∧ b = .agg ds)) :
    valS P (eqGuard op t x y a b) = some () := by
  unfold eqGuard
  cases hq : (!(op matches .eql | .neq))
  · cases a <;> try rfl
    · cases b <;> try rfl
      exact absurd ⟨rfl, rfl⟩ h1
    · rename_i cs
      cases b <;> try rfl
      rename_i ds
      exact absurd ⟨rfl, rfl⟩ (h2 cs ds)
  · simp [valS_pure]

theorem valS_eqBin {op : BinOp} {t : TypeId} {x y : Operand} {a b v : Value} (hg : valS P (eqGuard op t x y a b) = some ()) (h : valS P (binOp op t a b) = some v) :
    valS P (do eqGuard op t x y a b; binOp op t a b) = some v := by
  rw [valS_bind hg]; exact h

theorem binP_val {op : BinOp} {t : TypeId} {x y : Operand} {a b v : Value} (h : binP P op t x y a b = some v) :
    valS P (do eqGuard op t x y a b; binOp op t a b) = some v := by
  unfold binP at h
  split at h
  · rename_i hu
    unfold boolV at h
    split at h
    · rename_i p q
      refine valS_eqBin (eqGuard_none (by simp) (by simp)) ?_
      refine eqlneq_val (c := p == q) (.inr ?_) rfl rfl (equal_bool hu p q)
      simpa [boolBin] using h
    · cases h
  · have h' := binV_val (P := P) h t
    refine valS_eqBin (eqGuard_none ?_ ?_) h' <;> (intros; rintro ⟨rfl, rfl⟩; simp [binV] at h)
  · have h' := binV_val (P := P) h t
    refine valS_eqBin (eqGuard_none ?_ ?_) h' <;> (intros; rintro ⟨rfl, rfl⟩; simp [binV] at h)
  · rename_i hu
    unfold ptrV at h
    split at h
    · exact valS_eqBin (eqGuard_none (by simp) (by simp)) (eqlneq_val (.inl h) rfl rfl (equal_ptr0 hu _))
    · exact valS_eqBin (eqGuard_none (by simp) (by simp)) (eqlneq_val (.inl h) rfl rfl (equal_ptr1 hu _))
    · cases h
  · rename_i hu
    unfold slcV at h
    split at h
    · exact valS_eqBin (eqGuard_none (by simp) (by simp)) (eqlneq_val (.inl h) rfl rfl (equal_slc0 hu _ _ _ _ _))
    · exact valS_eqBin (eqGuard_none (by simp) (by simp)) (eqlneq_val (.inl h) rfl rfl (equal_slc1 hu _ _ _ _ _))
    · cases h
  · rename_i hu
    unfold fnV at h
    split at h
    · exact valS_eqBin (eqGuard_none (by simp) (by simp)) (eqlneq_val (.inl h) rfl rfl (equal_fn1 hu _ _ _))
    · exact valS_eqBin (eqGuard_none (by simp) (by simp)) (eqlneq_val (.inl h) rfl rfl (equal_fn0 hu))
    · cases h
  · rename_i hu
    unfold ifV at h
    split at h
    · exact valS_eqBin (eqGuard_none (by simp) (by simp)) (eqlneq_val (.inl h) rfl rfl (equal_if1 hu _ _))
    · split at h
      · rename_i hc
        refine valS_eqBin ?_ (eqlneq_val (.inl h) rfl rfl (equal_if0 hu))
        cases x <;> cases y <;> simp [isConstOp] at hc <;> cases op <;> rfl
      · cases h
    · cases h
  · rename_i hu
    unfold structV at h
    split at h
    · rename_i ca cb
      have key : ∀ op', P.eqGuardType P.depth t = false → valS P (eqGuard op' t x y (.agg ca) (.agg cb)) = some () := by
        intro op' hg
        unfold eqGuard
        have hg' : valS P (do
            if (!(← program).eqGuardType (← program).depth t) = true then return
            if (← Op.eqGuardIn Op.maxDepth t (.agg ca) (.agg cb)) = true then unsupported (.noEntry "binop/eql: two nil values of an interface type with methods, in a part of a struct or an array") : Sem Unit) = some () := by
          show valS P (Sem.bind program _) = _
          simp [program, Sem.bind, valS, hg, bind, pure]
        cases hq : (!(op' matches .eql | .neq))
        · exact hg'
        · simp [valS_pure]
      split at h
      · rename_i hg
        cases hs : valS P (Op.equal t (.agg ca) (.agg cb)) with
        | none => rw [hs] at h; cases h
        | some c =>
          rw [hs] at h; simp only [Option.map_some, Option.some.injEq] at h; subst h
          refine valS_eqBin (key _ hg) ?_
          show valS P (do pure (Value.bool (← Op.equal t (.agg ca) (.agg cb)))) = _
          rw [valS_bind hs]; rfl
      · rename_i hg
        cases hs : valS P (Op.equal t (.agg ca) (.agg cb)) with
        | none => rw [hs] at h; cases h
        | some c =>
          rw [hs] at h; simp only [Option.map_some, Option.some.injEq] at h; subst h
          refine valS_eqBin (key _ hg) ?_
          show valS P (do pure (Value.bool (!(← Op.equal t (.agg ca) (.agg cb))))) = _
          rw [valS_bind hs]; rfl
      · cases h
    · cases h
  · cases h

end
end Go.Dm
