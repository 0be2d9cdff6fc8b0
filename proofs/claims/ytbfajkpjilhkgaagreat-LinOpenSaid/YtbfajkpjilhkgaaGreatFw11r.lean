/- A part of the proof that doormanlaw21.LinOpen returns true for every input, on no condition. -/
import Derived.Test.YtbfajkpjilhkgaaGreatFw11
set_option linter.unusedVariables false
set_option linter.unusedSimpArgs false
/-! Ranges over functions. -/
namespace Go.Dm
open Go

abbrev QD := Exit → List Nat → Env → World → Prop
def marksOf (ds : List Nat) : List Deferred := ds.map fun D => { target := .collected D, args := #[] }

/-- A loop's record, a round being under way; behind it. -/
def lpBusy (r : Loop) : Loop := { r with state := .busy }
def lpDone (r : Loop) (c : Code) : Loop := { r with state := .done, pending := some c }
def lpOut (r : Loop) : Loop := { r with state := .exhausted }

def endT (L : Nat) (r : Loop) (K : Value → World → Prop) (w : World) : Prop := w.heap[L]? = some (.loop (lpBusy r)) ∧ K (.bool true) (w.putObj L (.loop r))
def endX (L : Nat) (r : Loop) (c : Code) (K : Value → World → Prop) (w : World) : Prop := w.heap[L]? = some (.loop (lpBusy r)) ∧ K (.bool false) (w.putObj L (.loop (lpDone r c)))
def begR (L : Nat) (r : Loop) (w : World) (K : World → Prop) : Prop := w.heap[L]? = some (.loop r) ∧ K (w.putObj L (.loop (lpBusy r)))

/-- Where the loop is entered. -/
structure RfIn (w w1 : World) (L : Nat) (r : Loop) : Prop where
  eq : L = w.heap.size + 1
  size : w1.heap.size = w.heap.size + 2
  keep : ∀ b, b < w.heap.size → w1.heap[b]? = w.heap[b]?
  tape : w1.tape = w.tape
  os : w1.os = w.os
  output : w1.output = w.output
  mark : w1.heap[w.heap.size]? = some (.deferred (some []))
  rec_ : w1.heap[L]? = some (.loop r)

def putPs (n : Nat) : List Nat → List Value → Env → Env
  | p :: ps, v :: vs, e => putPs n ps vs (match Nat.blt p n with | true => upd e p v | false => e)
  | _, _, e => e

def rndQ (L : Nat) (r : Loop) (K : Value → World → Prop) : QT := fun ex _ w => match ex with
  | .normal => endT L r K w
  | .ret => endX L r .ret K w
  | .exit i => endX L r (.exit i) K w
  | _ => False

/-- One round. -/
def rndC (P : Program) (n : Nat) (pm : Plans) (L : Nat) (r : Loop) (assign body : Code) (e : Env) (w : World) (K : Value → World → Prop) : Prop :=
  vc P n pm assign e w fun ex e1 w1 => match ex with
    | .normal => begR L r w1 fun w2 => vc P n pm body e1 w2 (rndQ L r K)
    | _ => False

def rfEnd (L : Nat) (r : Loop) (Q : Exit → World → Prop) (_ : Value) (w : World) : Prop :=
  (w.heap[L]? = some (.loop r) ∧ Q .normal (w.putObj L (.loop (lpOut r)))) ∨
  (w.heap[L]? = some (.loop (lpDone r .ret)) ∧ Q .ret (w.putObj L (.loop (lpOut (lpDone r .ret))))) ∨
  (∃ i, w.heap[L]? = some (.loop (lpDone r (.exit i))) ∧ Q (.exit i) (w.putObj L (.loop (lpOut (lpDone r (.exit i))))))

def rfC (P : Program) (rnd : Nat → Loop → (Nat → Value) → World → (Value → World → Prop) → Prop) (np : Nat) (g : Value) (w : World) (Q : Exit → World → Prop) : Prop :=
  match g with
  | .func (.func gf) first lb => entersP P gf = true ∧ ∀ (w1 : World) (L : Nat) (r : Loop), RfIn w w1 L r →
      (∀ (f : Nat → Value) (W : World) (K : Value → World → Prop), W.heap[L]? = some (.loop r) → rnd L r f W K → YieldR P L ((List.range np).map f).toArray W K) →
      CallsR P gf (first ++ #[.func (.yield L) #[] #[]] ++ lb) w1 (rfEnd L r Q)
  | _ => False

/-- What is asked where the loop is left: by its end, by a return, by an exit. -/
def rfQ (N T : World → Prop) (X : Nat → World → Prop) : Exit → World → Prop := fun ex w => match ex with
  | .normal => N w
  | .ret => T w
  | .exit i => X i w
  | _ => False

def inBD (id : Nat) (Q : QD) : QD := fun ex ds e w => match ex with
  | .exit i => match Nat.beq i id with | true => Q .normal ds e w | false => Q (.exit i) ds e w
  | ex => Q ex ds e w

def thnD (K : List Nat → Env → World → Prop) (Q : QD) : QD := fun ex ds e w => match ex with | .normal => K ds e w | ex => Q ex ds e w

def vcR (P : Program) (n : Nat) (pm : Plans) : Code → List Nat → Env → World → QD → Prop
  | .seq a b, ds, e, w, Q => vcR P n pm a ds e w (thnD (fun ds' e' w' => vcR P n pm b ds' e' w' Q) Q)
  | .block id c, ds, e, w, Q => vcR P n pm c ds e w (inBD id Q)
  | .scope c, ds, e, w, Q => vcR P n pm c ds e w Q
  | .cond c a b, ds, e, w, Q => condC (rd n e c) (vcR P n pm a ds e w Q) (vcR P n pm b ds e w Q)
  | .rangeFunc g ps assign body, ds, e, w, Q => rfC P (fun L r f W K => rndC P n pm L r assign body (putPs n ps.toList ((List.range ps.size).map f) e) W K) ps.size (rd n e g) w fun ex w' => Q ex (w.heap.size :: ds) e w'
  | c, ds, e, w, Q => vc P n pm c e w fun ex e' w' => Q ex ds e' w'

/-- The marks are taken. -/
def shutM : List Nat → World → (World → Prop) → Prop
  | [], w, K => K w
  | D :: ds, w, K => w.heap[D]? = some (.deferred (some [])) ∧ shutM ds (w.putObj D (.deferred none)) K

def finR (P : Program) (n : Nat) (rs : List ResultVar) (R : Value → World → Prop) : QD := fun ex ds e w => match ex with
  | .normal => shutM ds w fun w' => resC P n rs e w' fun vs => R (oneOr vs) w'
  | .ret => shutM ds w fun w' => resC P n rs e w' fun vs => R (oneOr vs) w'
  | _ => False

def vcRFn (P : Program) (pm : Plans) (f : FuncId) (args : List Value) (w : World) (R : Value → World → Prop) : Prop :=
  match P.funcs[f]? with
  | some fn => match fn.body, Nat.ble args.length fn.ntmps with
    | some c, true => vcR P fn.ntmps pm c [] (envOf args) w (finR P fn.ntmps fn.results.toList R)
    | _, _ => False
  | none => False

section
variable {P : Program} {n : Nat}

def QAD (n : Nat) (Q : QD) : Exit → Act → World → Prop := fun ex a w => ∃ ds e, a = actOf n (marksOf ds) e ∧ Q ex ds e w

theorem fold_ps (n : Nat) : ∀ (ps : List Nat) (args : List Value) (e : Env) (ds : List Deferred), (ps.zip args).foldl (fun (t : Array Value) (x : Nat × Value) => t.setIfInBounds x.1 x.2) (actOf n ds e).tmps = (actOf n ds (putPs n ps args e)).tmps
  | [], _, e, ds => by simp [putPs]
  | _ :: _, [], e, ds => by simp [putPs]
  | p :: ps, v :: vs, e, ds => by
    rw [List.zip_cons_cons, List.foldl_cons, putPs]
    have : ((actOf n ds e).tmps.setIfInBounds p v) = (actOf n ds (match Nat.blt p n with | true => upd e p v | false => e)).tmps := by
      cases h : Nat.blt p n with
      | true => rw [actOf_upd]; rfl
      | false =>
        have := blt_not h
        apply Array.ext
        · simp [actOf]
        · intro i h1 h2
          have : p ≠ i := by simp [actOf] at h2; omega
          simp only [actOf]
          rw [Array.getElem_setIfInBounds_ne (by simp [actOf] at h2 ⊢; exact h2) this]
    show (ps.zip vs).foldl _ ((actOf n ds e).tmps.setIfInBounds p v) = _
    rw [this]; exact fold_ps n ps vs _ ds

theorem putPs_tmps (n : Nat) (ps : Array Nat) (args : List Value) (e : Env) (ds : List Deferred) :
    (ps.zip args.toArray).foldl (fun (t : Array Value) (x : Nat × Value) => t.setIfInBounds x.1 x.2) (actOf n ds e).tmps = (actOf n ds (putPs n ps.toList args e)).tmps := by
  rw [← fold_ps, ← Array.foldl_toList]
  simp

theorem alloc_heap (w : World) (o : Obj) : (w.alloc o).heap = w.heap.push o := rfl

theorem rf_sound (hm : P.follows .mixedOrders = true) (pm : Plans) {g : Operand} {ps : Array Tmp} {assign body : Code} {ds : List Nat} {e : Env} {w : World} {Q : QD}
    (h : vcR P n pm (.rangeFunc g ps assign body) ds e w Q) : (Code.rangeFunc g ps assign body).wpIn (Wd none) 0 P (QAD n Q) (actOf n (marksOf ds) e) w := by
  unfold vcR rfC at h
  split at h
  · rename_i gf first lb hg
    obtain ⟨hent, h⟩ := h
    refine wpIn_rangeFunc fun fn _ => ?_
    let r : Loop := { state := .ready, pending := none, fn, tmps := (actOf n (marksOf ds) e).tmps, params := ps, assign, body, defers := w.heap.size }
    let w1 : World := (w.alloc (.deferred (some []))).alloc (.loop r)
    have hev : (actOf n (marksOf ds) e).eval g = .func (.func gf) first lb := by rw [rd_eval]; exact hg
    have hin : RfIn w w1 (w.heap.size + 1) r := by
      refine ⟨rfl, by simp [w1], fun b hb => ?_, rfl, rfl, rfl, ?_, ?_⟩
      · show ((w.heap.push _).push _)[b]? = _
        rw [Array.getElem?_push, if_neg (by simp; omega), Array.getElem?_push, if_neg (by omega)]
      · show ((w.heap.push _).push _)[w.heap.size]? = _
        rw [Array.getElem?_push, if_neg (by simp), Array.getElem?_push, if_pos rfl]
      · show ((w.heap.push _).push _)[w.heap.size + 1]? = _
        rw [Array.getElem?_push, if_pos (by simp)]
    refine ⟨w.heap.size + 1, marksOf [w.heap.size], w1, { target := .fn (.func gf) lb, args := first ++ #[.func (.yield (w.heap.size + 1)) #[] #[]] }, w1, gf,
      first ++ #[.func (.yield (w.heap.size + 1)) #[] #[]] ++ lb, w1, ?_, ?_, fun _ _ => trivial, ?_, fun _ => by simp_all [Wd, Fence.wide], ?_⟩
    · exact run_enterLoop_outer _ _ _ _ _
    · simp only [resolve, hev, Deferred.ofValue]
      simp [Act.eval, Sem.run, pure]
    · show (invoke (.fn (.func gf) lb) (first ++ #[.func (.yield (w.heap.size + 1)) #[] #[]])).run P w1 = _
      show (callFunc gf (first ++ #[.func (.yield (w.heap.size + 1)) #[] #[]] ++ lb)).run P w1 = _
      exact callFunc_enter hent
    · have hc := h w1 (w.heap.size + 1) r hin ?_
      · refine (callsIn_wide (n := 0)).2 (Calls.mono hc ?_)
        rintro en w3 ⟨v, rfl, hq⟩
        show ∃ jump w₄, (Instr.endLoop (w.heap.size + 1)).run P w3 = .ok jump w₄ ∧ _
        rcases hq with ⟨hl, hq⟩ | ⟨hl, hq⟩ | ⟨i, hl, hq⟩
        · exact ⟨none, _, run_endLoop hl (by simp [r]), _, _, rfl, hq⟩
        · exact ⟨some .ret, _, run_endLoop hl (by simp [lpDone]), wpIn_ret ⟨w.heap.size :: ds, e, rfl, hq⟩⟩
        · exact ⟨some (.exit i), _, run_endLoop hl (by simp [lpDone]), wpIn_exit ⟨w.heap.size :: ds, e, rfl, hq⟩⟩
      · intro fa W K hl hr
        have hlen : ((List.range ps.size).map fa).length = ps.size := by simp
        generalize (List.range ps.size).map fa = args at hlen hr
        have hy := run_yield (P := P) (args := args.toArray) hl (by simp [r, hlen])
        refine ⟨_, _, _, _, hy, ?_⟩
        have hact : (⟨(actOf n [] (putPs n ps.toList args e)).tmps, []⟩ : Act) = actOf n [] (putPs n ps.toList args e) := rfl
        refine roundIn_of_wpIn (F := Fence.wide) trivial ?_
        have htm : ((r.params.zip args.toArray).foldl (fun (tmps : Array Value) (x : Nat × Value) => tmps.setIfInBounds x.1 x.2) r.tmps) = (actOf n [] (putPs n ps.toList args e)).tmps := by
          have := putPs_tmps n ps args e (marksOf ds)
          exact this
        show Code.wpIn (Wd (some (w.heap.size + 1))) 0 P assign _ { tmps := ((r.params.zip args.toArray).foldl (fun (tmps : Array Value) (x : Nat × Value) => tmps.setIfInBounds x.1 x.2) r.tmps), defers := [] } W
        rw [htm, hact]
        refine wpIn_mono (vc_sound hm pm assign _ W _ ?_ hr) ?_
        · intro l e w hq; exact hq
        · rintro ex a1 W1 ⟨e1, rfl, hq⟩
          cases ex with
          | normal =>
            obtain ⟨hl1, hq⟩ := hq
            refine ⟨_, run_beginRound hl1 rfl, ?_⟩
            refine wpIn_mono (vc_sound (ro := some (w.heap.size + 1)) hm pm body _ _ _ ?_ hq) ?_
            · intro l e w hq; exact hq
            · rintro ex a2 W2 ⟨e2, rfl, hq⟩
              cases ex with
              | normal => obtain ⟨hl2, hq⟩ := hq; exact ⟨_, _, run_endRound none hl2, _, rfl, hq⟩
              | ret => obtain ⟨hl2, hq⟩ := hq; exact ⟨_, _, run_endRound (some .ret) hl2, _, rfl, hq⟩
              | exit i => obtain ⟨hl2, hq⟩ := hq; exact ⟨_, _, run_endRound (some (.exit i)) hl2, _, rfl, hq⟩
              | goto l => exact hq.elim
              | panic c => exact hq.elim
              | outgrown => exact hq.elim
          | _ => exact hq.elim
  · exact h.elim

theorem vcR_leaf (hm : P.follows .mixedOrders = true) (pm : Plans) {c : Code} {ds : List Nat} {e : Env} {w : World} {Q : QD} (hg : ∀ l, ∀ ds e w, ¬ Q (.goto l) ds e w)
    (h : vc P n pm c e w fun ex e' w' => Q ex ds e' w') : c.wpIn (Wd none) 0 P (QAD n Q) (actOf n (marksOf ds) e) w :=
  wpIn_mono (vc_sound hm pm c e w _ (fun l e w hq => hg l ds e w hq) h) fun _ _ _ ⟨e', ha, hq⟩ => ⟨ds, e', ha, hq⟩

theorem vcR_sound (hm : P.follows .mixedOrders = true) (pm : Plans) : ∀ (c : Code) (ds : List Nat) (e : Env) (w : World) (Q : QD), (∀ l, ∀ ds e w, ¬ Q (.goto l) ds e w) → vcR P n pm c ds e w Q →
    c.wpIn (Wd none) 0 P (QAD n Q) (actOf n (marksOf ds) e) w
  | .seq a b, ds, e, w, Q, hg, h => by
    unfold vcR at h
    refine wpIn_seq (wpIn_mono (vcR_sound hm pm a ds e w (thnD (fun ds' e' w' => vcR P n pm b ds' e' w' Q) Q) (fun l ds e w hq => hg l ds e w hq) h) ?_)
    rintro ex a' w' ⟨ds', e', rfl, hq⟩
    cases ex with
    | normal => exact vcR_sound hm pm b ds' e' w' Q hg hq
    | exit id => exact ⟨ds', e', rfl, hq⟩
    | goto l => exact ⟨ds', e', rfl, hq⟩
    | ret => exact ⟨ds', e', rfl, hq⟩
    | panic c => exact ⟨ds', e', rfl, hq⟩
    | outgrown => exact ⟨ds', e', rfl, hq⟩
  | .block id c, ds, e, w, Q, hg, h => by
    unfold vcR at h
    refine wpIn_block (wpIn_mono (vcR_sound hm pm c ds e w (inBD id Q) (fun l ds e w hq => hg l ds e w hq) h) ?_)
    rintro ex a' w' ⟨ds', e', rfl, hq⟩
    cases ex with
    | normal => exact ⟨ds', e', rfl, hq⟩
    | exit i =>
      simp only [inBD] at hq
      simp only [Exit.inBlock]
      split at hq
      · rename_i hb; rw [if_pos (Nat.eq_of_beq_eq_true hb)]; exact ⟨ds', e', rfl, hq⟩
      · rename_i hb
        rw [if_neg (fun he => by subst he; simp at hb)]
        exact ⟨ds', e', rfl, hq⟩
    | goto l => exact ⟨ds', e', rfl, hq⟩
    | ret => exact ⟨ds', e', rfl, hq⟩
    | panic c => exact ⟨ds', e', rfl, hq⟩
    | outgrown => exact ⟨ds', e', rfl, hq⟩
  | .scope c, ds, e, w, Q, hg, h => by
    unfold vcR at h
    refine wpIn_scope_straight (wpIn_mono (vcR_sound hm pm c ds e w Q hg h) ?_)
    rintro ex a' w' ⟨ds', e', rfl, hq⟩
    cases ex with
    | goto l => exact (hg l ds' e' w' hq).elim
    | normal => exact ⟨ds', e', rfl, hq⟩
    | exit i => exact ⟨ds', e', rfl, hq⟩
    | ret => exact ⟨ds', e', rfl, hq⟩
    | panic c => exact ⟨ds', e', rfl, hq⟩
    | outgrown => exact ⟨ds', e', rfl, hq⟩
  | .cond c a b, ds, e, w, Q, hg, h => by
    unfold vcR condC at h
    obtain ⟨t, hv, h1, h2⟩ := h
    refine wpIn_cond (t := t) (by rw [rd_eval]; exact hv) ?_
    cases t with
    | true => exact vcR_sound hm pm a ds e w Q hg (h1 rfl)
    | false => exact vcR_sound hm pm b ds e w Q hg (h2 rfl)
  | .rangeFunc g ps assign body, ds, e, w, Q, hg, h => rf_sound hm pm h
  | .skip, _, _, _, _, hg, h => by unfold vcR at h; exact vcR_leaf hm pm hg h
  | .region _ _ _, _, _, _, _, hg, h => by unfold vcR at h; exact vcR_leaf hm pm hg h
  | .loop _, _, _, _, _, hg, h => by unfold vcR at h; exact vcR_leaf hm pm hg h
  | .exit _, _, _, _, _, hg, h => by unfold vcR at h; exact vcR_leaf hm pm hg h
  | .label _, _, _, _, _, hg, h => by unfold vcR at h; exact vcR_leaf hm pm hg h
  | .goto _, _, _, _, _, hg, h => by unfold vcR at h; exact vcR_leaf hm pm hg h
  | .ret, _, _, _, _, hg, h => by unfold vcR at h; exact vcR_leaf hm pm hg h
  | .refuse _, _, _, _, _, hg, h => by unfold vcR at h; exact vcR_leaf hm pm hg h

theorem leaves_of {fn : Func} {e : Env} {R : Value → World → Prop} : ∀ (ds : List Nat) (all : List Deferred) (w : World), shutM ds w (fun w' => resC P n fn.results.toList e w' fun vs => R (oneOr vs) w') →
    LeavesInM (Wd none) 0 P fn (actOf n all e).tmps (fun en w' => ∃ v, en = .returned v ∧ R v w') (marksOf ds) .returning w
  | [], all, w, h => by
    obtain ⟨vs, hK, hr⟩ := results_run (ds := all) h
    exact ⟨_, hr, _, rfl, hK⟩
  | D :: ds, all, w, h => ⟨by simp, .inl ⟨D, _, rfl, run_takeDeferred h.1, leaves_of ds all _ h.2⟩⟩

theorem vcRFn_sound (hm : P.follows .mixedOrders = true) {pm : Plans} {f : FuncId} {args : List Value} {w : World} {R : Value → World → Prop} (h : vcRFn P pm f args w R) :
    CallsR P f args.toArray w R := by
  unfold vcRFn at h
  split at h
  · rename_i fn hf
    split at h
    · rename_i c hb hl
      have hl' := Nat.le_of_ble_eq_true hl
      refine (callsIn_wide (n := 0)).1 (callsIn_of_wp_marks (F := Wd none) (n := 0) hf hb trivial ?_)
      have hact : ({ tmps := args.toArray ++ Array.replicate (fn.ntmps - args.toArray.size) undef, defers := [] } : Act) = actOf fn.ntmps [] (envOf args) := by
        unfold actOf
        congr 1
        apply Array.ext
        · simp; omega
        · intro i h1 h2
          simp only [Array.getElem_ofFn, envOf]
          by_cases hi : i < args.length
          · rw [Array.getElem_append_left (by simpa using hi)]
            simp [List.getElem?_eq_getElem hi]
          · rw [Array.getElem_append_right (by simpa using hi)]
            simp [List.getElem?_eq_none (show args.length ≤ i by omega)]
      rw [hact]
      refine wpIn_mono (vcR_sound hm pm c [] _ w _ (by intro l ds e w hq; exact hq) h) ?_
      rintro ex a' w' ⟨ds, e', rfl, hq⟩
      cases ex with
      | normal => exact leaves_of ds (marksOf ds) w' hq
      | ret => exact leaves_of ds (marksOf ds) w' hq
      | exit i => exact hq
      | goto l => exact hq
      | panic c => exact hq.elim
      | outgrown => exact hq.elim
    · exact h.elim
  · exact h.elim
theorem vcRFn_go (hm : P.follows .mixedOrders = true) (pm : Plans) (f : FuncId) (args : List Value) {w : World} {R : Value → World → Prop} {S : Prop} (he : vcRFn P pm f args w R = S) (h : S) :
    CallsR P f args.toArray w R := vcRFn_sound hm (pm := pm) (by rw [he]; exact h)
end
end Go.Dm
