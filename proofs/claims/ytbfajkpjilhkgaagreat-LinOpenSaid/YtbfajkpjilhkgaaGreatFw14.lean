/- A part of the proof that doormanlaw21.LinOpen returns true for every input, on no condition. -/
import Derived.Test.YtbfajkpjilhkgaaGreatFw13
set_option linter.unusedVariables false
set_option linter.unusedSimpArgs false
/-! Agreement and monotony of operations. -/
namespace Go.Dm
open Go

theorem bit_eq (m t : Nat) : bit m t = m.testBit t := by
  unfold bit
  rw [Nat.testBit, show Nat.land (Nat.shiftRight m t) 1 = (m >>> t) &&& 1 from rfl, Nat.and_comm 1]
  rw [Nat.and_one_is_mod]
  have : m >>> t % 2 < 2 := Nat.mod_lt _ (by omega)
  rcases Nat.lt_or_ge (m >>> t % 2) 1 with h | h
  · have h0 : m >>> t % 2 = 0 := by omega
    rw [h0]; rfl
  · have h0 : m >>> t % 2 = 1 := by omega
    rw [h0]; rfl

theorem bit_setb (m d t : Nat) : bit (setb m d) t = true ↔ t = d ∨ bit m t = true := by
  rw [bit_eq, bit_eq]
  unfold setb
  rw [show Nat.lor m (Nat.shiftLeft 1 d) = m ||| (1 <<< d) from rfl, Nat.testBit_or, Nat.testBit_shiftLeft]
  simp only [Bool.or_eq_true, Bool.and_eq_true, decide_eq_true_eq]
  constructor
  · rintro (h | ⟨h1, h2⟩)
    · exact .inr h
    · left
      have : t - d = 0 := by
        rcases Nat.eq_zero_or_pos (t - d) with h | h
        · exact h
        · rw [Nat.testBit_lt_two_pow (Nat.one_lt_two_pow (by omega))] at h2; cases h2
      omega
  · rintro (rfl | h)
    · right; simp
    · exact .inl h

theorem bit_sub {m L t : Nat} (h : Nat.beq (Nat.land m L) m = true) (hb : bit m t = true) : bit L t = true := by
  have h1 := Nat.eq_of_beq_eq_true h
  rw [bit_eq] at hb ⊢
  rw [← h1, show Nat.land m L = m &&& L from rfl, Nat.testBit_and] at hb
  simp only [Bool.and_eq_true] at hb
  exact hb.2

theorem bit_mask {l : List Nat} {t : Nat} : bit (maskOf l) t = true ↔ t ∈ l := by
  induction l with
  | nil => simp only [maskOf, List.not_mem_nil, iff_false]; rw [bit_eq]; simp
  | cons a l ih => simp only [maskOf, bit_setb, ih, List.mem_cons]

theorem trimE_mem {l : List Nat} {e : Env} {t : Nat} (h : t ∈ l) : trimE l e t = e t := by
  induction l with
  | nil => cases h
  | cons a l ih =>
    simp only [trimE, upd]
    split
    · rename_i hh; rw [Nat.eq_of_beq_eq_true hh]
    · rename_i hh
      rcases List.mem_cons.1 h with rfl | h
      · simp at hh
      · exact ih h

section
variable {P : Program} {ρ ρ' : Operand → Value}

theorem lm_agree {a : Array Operand} (h : ∀ x ∈ a.toList, ρ x = ρ' x) : lm ρ a = lm ρ' a := by
  unfold lm; congr 1; exact List.map_congr_left h
theorem partsL_agree {a : Array (Nat × Operand)} (h : ∀ x ∈ sndL a.toList, ρ x = ρ' x) : partsL ρ a = partsL ρ' a := by
  unfold partsL
  generalize a.toList = l at h
  induction l with
  | nil => rfl
  | cons p l ih =>
    simp only [sndL, List.mem_cons, forall_eq_or_imp] at h
    simp only [List.map_cons, h.1, ih h.2]
theorem opt_agree {x : Option Operand} (h : ∀ y ∈ optL x, ρ y = ρ' y) : x.map ρ = x.map ρ' := by
  cases x with
  | none => rfl
  | some y => simp only [optL, List.mem_singleton, forall_eq] at h; simp [h]

theorem pureV_agree {op : Op} (h : ∀ x ∈ opsO op, ρ x = ρ' x) : pureV P ρ op = pureV P ρ' op := by
  cases op <;> try (simp only [opsO, List.mem_cons, List.not_mem_nil, or_false, forall_eq_or_imp, forall_eq] at h)
  all_goals try (simp only [pureV, h]; done)
  all_goals try (simp only [pureV]; done)
  case build t ps => simp only [pureV, partsL_agree h]
  case makeFunc fn a b =>
    simp only [pureV]
    rw [lm_agree (a := a) fun x hx => h x (List.mem_append_left _ hx), lm_agree (a := b) fun x hx => h x (List.mem_append_right _ hx)]
  case slice t x l hi m =>
    simp only [List.mem_append] at h
    obtain ⟨h1, h2⟩ := h
    have e1 := opt_agree (x := l) fun y hy => h2 y (.inl (.inl hy))
    have e2 := opt_agree (x := hi) fun y hy => h2 y (.inl (.inr hy))
    simp only [pureV, h1, e1, e2]
    cases m with
    | none => rfl
    | some m =>
      have e3 : ρ m = ρ' m := h2 m (.inr (by simp [optL]))
      simp only [e3]
  case call c =>
    obtain ⟨callee, args, tys⟩ := c
    cases callee with
    | value f => simp only [pureV]
    | invoke r nm => simp only [pureV]
    | builtin b =>
      have hl : ∀ x ∈ args.toList, ρ x = ρ' x := h
      have hm : args.toList.map ρ = args.toList.map ρ' := List.map_congr_left hl
      have h0 : ∀ x, args[0]? = some x → ρ x = ρ' x := fun x hx => hl x (by rw [Array.mem_toList_iff]; exact Array.mem_of_getElem? hx)
      cases b <;> simp only [pureV, hm]
      all_goals
        split
        · rename_i t x _ hx; simp only [h0 x hx]
        · rfl

theorem builtinC_agree {b : Builtin} {args : List Operand} {tys : List TypeId} {w : World} {K : Value → World → Prop} (h : ∀ x ∈ args, ρ x = ρ' x) : builtinC P ρ b args tys w K = builtinC P ρ' b args tys w K := by
  unfold builtinC
  split <;> (try simp only [List.mem_cons, List.not_mem_nil, or_false, forall_eq_or_imp, forall_eq] at h) <;> first | rfl | simp only [h]

theorem effB_agree {o : Oper} {w : World} {K : Value → World → Prop} (h : ∀ x ∈ opsO o.op, ρ x = ρ' x) : effB P ρ o w K = effB P ρ' o w K := by
  obtain ⟨dst, op, ty, aft, g⟩ := o
  unfold effB effC
  simp only at h ⊢
  cases op <;> try (simp only [opsO, List.mem_cons, List.not_mem_nil, or_false, forall_eq_or_imp, forall_eq] at h)
  all_goals try (simp only [h]; done)
  all_goals try rfl
  case buildSlice t len parts => simp only [partsL_agree h]
  case call c =>
    obtain ⟨callee, args, tys⟩ := c
    cases callee with
    | value f =>
      simp only [opsO, List.mem_cons, forall_eq_or_imp] at h
      have hl := lm_agree h.2
      cases f <;> simp only [hl, h.1]
    | invoke r nm =>
      simp only [opsO, List.mem_cons, forall_eq_or_imp] at h
      have hl := lm_agree h.2
      simp only [hl, h.1]
    | builtin b =>
      simp only [opsO] at h
      simp only [builtinC_agree h]

theorem effB_eff {o : Oper} {w : World} {K : Value → World → Prop} (h : effB P ρ o w K) : effC P ρ o w K := by
  obtain ⟨dst, op, ty, aft, g⟩ := o
  unfold effB at h
  unfold effC
  simp only at h ⊢
  cases op <;> try exact h
  case call c =>
    obtain ⟨callee, args, tys⟩ := c
    cases callee <;> try exact h
    simp only at h ⊢
    split at h
    · rename_i p hp; rw [hp]; exact h
    · exact h.elim

variable {w : World} {K K' : Value → World → Prop}

theorem pv_mono {α : Type} {x : Option α} {k k' : α → Prop} (h : pv x k) (hk : ∀ v, k v → k' v) : pv x k' := by
  cases x with
  | none => exact h
  | some v => exact hk v h
theorem putAt_mono {base : Option Addr} {skip : Nat} {xs : List Value} {k k' : World → Prop} (h : putAt w base skip xs k) (hk : ∀ w', k w' → k' w') : putAt w base skip xs k' := by
  rcases h with ⟨h1, h2⟩ | ⟨b, o, cs, h1, h2, h3, h4, h5⟩
  · exact .inl ⟨h1, hk _ h2⟩
  · exact .inr ⟨b, o, cs, h1, h2, h3, h4, hk _ h5⟩

theorem builtinC_mono {b : Builtin} {args : List Operand} {tys : List TypeId} {p : Prop} (hk : ∀ v w', K v w' → K' v w') (h : builtinC P ρ b args tys w K = some p) (hp : p) :
    ∃ q, builtinC P ρ b args tys w K' = some q ∧ q := by
  unfold builtinC at h ⊢
  split at h
  · rename_i t u s x
    split at h
    · rename_i e ht
      split at h
      · rename_i n b z e' hz hu
        simp only [Option.some.injEq] at h; subst h
        refine ⟨_, rfl, ?_⟩
        obtain ⟨base, sl, sc, xb, m, xc, old, new, a1, a2, a3, a4, a5, a6, a7, a8⟩ := hp
        exact ⟨base, sl, sc, xb, m, xc, old, new, a1, a2, a3, a4, a5, a6, fun hf => putAt_mono (a7 hf) fun w' => hk _ w', fun hf c hc => hk _ _ (a8 hf c hc)⟩
      · rename_i n b z k hz hu
        simp only [Option.some.injEq] at h; subst h
        refine ⟨_, rfl, ?_⟩
        obtain ⟨base, sl, sc, kk, m, old, a1, a2, a3, a4, a5, a6, a7, a8⟩ := hp
        exact ⟨base, sl, sc, kk, m, old, a1, a2, a3, a4, a5, a6, fun hf => putAt_mono (a7 hf) fun w' => hk _ w', fun hf c hc => hk _ _ (a8 hf c hc)⟩
      · cases h
    · cases h
  · split at h
    · split at h
      · simp only [Option.some.injEq] at h; subst h
        refine ⟨_, rfl, ?_⟩
        obtain ⟨base, dl, dc, sb, sl, sc, new, a1, a2, a3, a4⟩ := hp
        exact ⟨base, dl, dc, sb, sl, sc, new, a1, a2, a3, putAt_mono a4 fun w' => hk _ w'⟩
      · cases h
    · cases h
  · split at h
    · split at h
      · simp only [Option.some.injEq] at h; subst h
        refine ⟨_, rfl, ?_⟩
        obtain ⟨base, n, c, a1, a2⟩ := hp
        exact ⟨base, n, c, a1, putAt_mono a2 fun w' => hk _ w'⟩
      · cases h
    · cases h
  · split at h
    · simp only [Option.some.injEq] at h; subst h
      refine ⟨_, rfl, ?_⟩
      obtain ⟨es, a1, a2⟩ := hp
      exact ⟨es, a1, hk _ _ a2⟩
    · cases h
  · split at h
    · split at h
      · simp only [Option.some.injEq] at h; subst h
        refine ⟨_, rfl, ?_⟩
        obtain ⟨r, es, cl, a1, a2, f, a3, a4⟩ := hp
        refine ⟨r, es, cl, a1, a2, f, a3, ?_⟩
        cases f <;> exact hk _ _ a4
      · cases h
    · cases h
  · cases h

theorem builtinC_none {b : Builtin} {args : List Operand} {tys : List TypeId} (h : builtinC P ρ b args tys w K = none) : builtinC P ρ b args tys w K' = none := by
  unfold builtinC at h ⊢
  split at h
  · split at h
    · split at h
      · cases h
      · cases h
      · assumption
    · assumption
  · split at h
    · split at h
      · cases h
      · assumption
    · assumption
  · split at h
    · split at h
      · cases h
      · assumption
    · assumption
  · split at h
    · cases h
    · assumption
  · split at h
    · split at h
      · cases h
      · assumption
    · assumption
  · rfl

theorem effB_mono {o : Oper} (hk : ∀ v w', K v w' → K' v w') (h : effB P ρ o w K) : effB P ρ o w K' := by
  obtain ⟨dst, op, ty, aft, g⟩ := o
  unfold effB effC at h ⊢
  simp only at h ⊢
  cases op <;> (try simp only at h ⊢) <;> try exact h
  case alloc t => split at h <;> first | exact h.elim | exact hk _ _ h
  case box t x => exact hk _ _ h
  case buildSlice t len parts =>
    split at h
    · split at h
      · split at h
        · obtain ⟨cs, h1, h2⟩ := h; exact ⟨cs, h1, hk _ _ h2⟩
        · exact h
      · exact h
    · exact h
  case load t a =>
    split at h
    · obtain ⟨v, h1, h2⟩ := h; exact ⟨v, h1, hk _ _ h2⟩
    · exact h
  case store t a x =>
    split at h
    · obtain ⟨b, o, cs, h1, h2, h3, h4, h5, h6⟩ := h; exact ⟨b, o, cs, h1, h2, h3, h4, h5, hk _ _ h6⟩
    · exact h
  case makeMap t r =>
    split at h
    · exact hk _ _ h
    · exact h
  case makeSlice t l c =>
    split at h
    · split at h
      · split at h
        · obtain ⟨k, k', n, m, h1, h2, h3, h4, h5, h6⟩ := h; exact ⟨k, k', n, m, h1, h2, h3, h4, h5, hk _ _ h6⟩
        · exact h
      · exact h
    · exact h
  case lookup t m k ok =>
    split at h
    · split at h
      · obtain ⟨es, h1, r, h2, h3⟩ := h; exact ⟨es, h1, r, h2, hk _ _ h3⟩
      · exact h
    · exact h
  case mapUpdate t m k v =>
    split at h
    · split at h
      · obtain ⟨r, es, cl, h1, h2, f, h3, h4⟩ := h
        refine ⟨r, es, cl, h1, h2, f, h3, ?_⟩
        cases f <;> exact hk _ _ h4
      · exact h
    · exact h
  case call c =>
    obtain ⟨callee, args, tys⟩ := c
    cases callee with
    | value f =>
      have dy : ∀ fv as, dyC P fv as w K → dyC P fv as w K' := by
        intro fv as h
        unfold dyC at h ⊢
        split at h
        · exact ⟨h.1, h.2.imp hk⟩
        · obtain ⟨f, tmps, assign, body, h1, h2⟩ := h
          exact ⟨f, tmps, assign, body, h1, h2.mono fun e w' ⟨v, he, hv⟩ => ⟨v, he, hk _ _ hv⟩⟩
        · exact h
      cases f with
      | func f =>
        simp only at h ⊢
        split at h
        · exact h.imp hk
        · obtain ⟨v, w', h1, h2⟩ := h; exact ⟨v, w', h1, hk _ _ h2⟩
      | tmp t => exact dy _ _ h
      | const v => exact dy _ _ h
      | global v => exact dy _ _ h
    | invoke r nm =>
      simp only at h ⊢
      unfold ivC at h ⊢
      split at h
      · obtain ⟨g, r, h1, h2, h3⟩ := h; exact ⟨g, r, h1, h2, h3.imp hk⟩
      · exact h
    | builtin b =>
      simp only at h ⊢
      split at h
      · rename_i p hp
        obtain ⟨q, hq, hq'⟩ := builtinC_mono hk hp h
        rw [hq]; exact hq'
      · exact h.elim

/-- What makes new memory alone leaves all else. -/
theorem effB_makes {o : Oper} (hm : makes o.op = true) (h : effB P ρ o w K) : effB P ρ o w fun v w' => (w.heap.size ≤ w'.heap.size ∧ ∀ b, b < w.heap.size → w'.heap[b]? = w.heap[b]?) ∧ K v w' := by
  obtain ⟨dst, op, ty, aft, g⟩ := o
  have hn : ∀ (w : World) cs t, w.heap.size ≤ (newB w cs t).heap.size ∧ ∀ b, b < w.heap.size → (newB w cs t).heap[b]? = w.heap[b]? := fun w cs t =>
    ⟨(newB_nw w cs t).fr.size, fun b hb => (newB_nw w cs t).fr.keep b hb id⟩
  unfold effB effC at h ⊢
  simp only at h ⊢ hm
  cases op <;> simp only [makes, Bool.false_eq_true] at hm <;> simp only at h ⊢
  case alloc t => split at h <;> first | exact h.elim | exact ⟨hn _ _ _, h⟩
  case box t x => exact ⟨hn _ _ _, h⟩
  case buildSlice t len parts =>
    split at h
    · split at h
      · split at h
        · obtain ⟨cs, h1, h2⟩ := h; exact ⟨cs, h1, hn _ _ _, h2⟩
        · exact h
      · exact h
    · exact h
  case makeMap t r =>
    split at h
    · refine ⟨⟨by simp [newM], fun b hb => ?_⟩, h⟩
      simp only [newM, Array.getElem?_push]; rw [if_neg (by omega)]
    · exact h
  case makeSlice t l c =>
    split at h
    · split at h
      · split at h
        · obtain ⟨k, k', n, m, h1, h2, h3, h4, h5, h6⟩ := h; exact ⟨k, k', n, m, h1, h2, h3, h4, h5, hn _ _ _, h6⟩
        · exact h
      · exact h
    · exact h
  case lookup t m k ok =>
    split at h
    · split at h
      · obtain ⟨es, h1, r, h2, h3⟩ := h; exact ⟨es, h1, r, h2, ⟨Nat.le_refl _, by simp⟩, h3⟩
      · exact h
    · exact h
end
end Go.Dm
