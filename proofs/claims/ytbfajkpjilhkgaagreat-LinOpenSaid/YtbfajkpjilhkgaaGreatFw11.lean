/- A part of the proof that doormanlaw21.LinOpen returns true for every input, on no condition. -/
import Derived.Test.YtbfajkpjilhkgaaGreatFw10
set_option linter.unusedVariables false
set_option linter.unusedSimpArgs false
/-! What is asked of code. -/
namespace Go.Dm
open Go

def boolOf : Value → Option Bool | .bool b => some b | _ => none

/-- A guarded operation. -/
def gd (v : Value) (want : Bool) (A : (Value → World → Prop) → Prop) (K : Value → World → Prop) (w : World) : Prop :=
  (boolOf v = some want → A K) ∧ (boolOf v ≠ some want → K undef w)

/-- Where ways meet again. -/
def jn (A : (Env → World → Prop) → Prop) (K : Env → World → Prop) : Prop := A K

def condC (v : Value) (A B : Prop) : Prop := ∃ b, v = .bool b ∧ (b = true → A) ∧ (b = false → B)

abbrev QT := Exit → Env → World → Prop
def thn (K : Env → World → Prop) (Q : QT) : QT := fun ex e w => match ex with | .normal => K e w | ex => Q ex e w
def inB (id : Nat) (Q : QT) : QT := fun ex e w => match ex with
  | .exit i => match Nat.beq i id with | true => Q .normal e w | false => Q (.exit i) e w
  | ex => Q ex e w

/-- A loop: what holds at each round's head, and a measure. -/
def lpC (B : Env → World → QT → Prop) (e : Env) (w : World) (Q : QT) : Prop :=
  ∃ (I : Env → World → Prop) (μ : Env → World → Nat), I e w ∧ ∀ e1 w1, I e1 w1 → B e1 w1 (fun ex e' w' => match ex with | .normal => I e' w' ∧ μ e' w' < μ e1 w1 | ex => Q ex e' w')

def gval (n : Nat) (e : Env) (ops : Array Oper) (j : Nat) : Value := match ops[j]? with
  | some o => match o.dst with | some t => rd n e (.tmp t) | none => undef
  | none => undef

def vcG (P : Program) (n : Nat) (ops : Array Oper) (o : Oper) (e : Env) (w : World) (K : Value → World → Prop) : Prop :=
  match o.guard with
  | none => vcOp P (rd n e) o w K
  | some (j, want) => gd (gval n e ops j) want (fun K' => vcOp P (rd n e) o w K') K w

def vcList (P : Program) (n : Nat) (ops : Array Oper) : List Oper → Env → World → (Env → World → Prop) → Prop
  | [], e, w, K => K e w
  | o :: rest, e, w, K => vcG P n ops o e w fun v w' => vcList P n ops rest (upo e o.dst v) w' K

/-- A load that was done still yields what it did. -/
def stillC (P : Program) (n : Nat) (ops : Array Oper) (r : Nat) (e : Env) (w : World) (X : Prop) : Prop :=
  match ops[r]? with
  | some o => match o.op, o.dst with
    | .load t a, some d => match aggP P t, sizeP P t with
      | some g, some k => match o.guard with
        | none => Ld w g k (rd n e a) (rd n e (.tmp d)) ∧ X
        | some (j, want) => (boolOf (gval n e ops j) = some want → Ld w g k (rd n e a) (rd n e (.tmp d))) ∧ X
      | _, _ => False
    | _, _ => False
  | none => False
def stillsC (P : Program) (n : Nat) (ops : Array Oper) : List Nat → Env → World → Prop → Prop
  | [], _, _, X => X
  | r :: rs, e, w, X => stillC P n ops r e w (stillsC P n ops rs e w X)

def pends (P : Program) (ops : Array Oper) (masks : List Nat) (i : Nat) : List Nat → List Nat
  | [] => []
  | r :: E => match pendB P ops masks r i with | true => r :: pends P ops masks i E | false => pends P ops masks i E

def vcT (P : Program) (n : Nat) (ops : Array Oper) (masks : List Nat) : BT → List Nat → Env → World → (Env → World → Prop) → Prop
  | .nil, _, e, w, K => K e w
  | .cons i t, E, e, w, K => match ops[i]? with
    | none => False
    | some o => vcG P n ops o e w fun v w' => stillsC P n ops (pends P ops masks i E) (upo e o.dst v) w' (vcT P n ops masks t (i :: E) (upo e o.dst v) w' K)
  | .both a b, E, e, w, K => vcT P n ops masks a E e w K ∧ vcT P n ops masks b E e w K

abbrev Plans := List (Nat × BT × List Nat)
def lookP : Plans → Nat → BT × List Nat
  | [], _ => (.nil, [])
  | (i, p) :: l, k => match Nat.beq i k with | true => p | false => lookP l k

/-- How many ways lead on behind code, and out of it by an exit. -/
def ways (id : Option Nat) : Code → Nat
  | .skip => match id with | none => 1 | some _ => 0
  | .region _ _ _ => match id with | none => 1 | some _ => 0
  | .label _ => match id with | none => 1 | some _ => 0
  | .seq a b => match ways none a with | 0 => (match id with | none => 0 | some _ => ways id a) | _ + 1 => (match id with | none => ways none b | some _ => ways id a + ways id b)
  | .cond _ a b => ways id a + ways id b
  | .block i c => match id with
    | none => ways none c + ways (some i) c
    | some j => match Nat.beq i j with | true => 0 | false => ways (some j) c
  | .loop c => match id with | none => 0 | some _ => ways id c
  | .rangeFunc _ _ _ _ => match id with | none => 2 | some _ => 1
  | .exit i => match id with | none => 0 | some j => (match Nat.beq i j with | true => 1 | false => 0)
  | .scope c => ways id c
  | .goto _ => 0
  | .ret => 0
  | .refuse _ => 0
def hasLoop : Code → Bool
  | .seq a b => hasLoop a || hasLoop b
  | .cond _ a b => hasLoop a || hasLoop b
  | .block _ c => hasLoop c
  | .loop _ => true
  | .rangeFunc .. => true
  | .scope c => hasLoop c
  | _ => false
def multi (c : Code) : Bool := hasLoop c || Nat.ble 2 (ways none c)

def vc (P : Program) (n : Nat) (pm : Plans) : Code → Env → World → QT → Prop
  | .skip, e, w, Q => Q .normal e w
  | .label _, e, w, Q => Q .normal e w
  | .region id ops d, e, w, Q => match d with
    | false => vcList P n ops ops.toList e w fun e' w' => Q .normal e' w'
    | true => match drawOk P n ops (lookP pm id).1 (lookP pm id).2 with
      | true => vcT P n ops (lookP pm id).2 (lookP pm id).1 [] e (drewW w) fun e' w' => Q .normal e' w'
      | false => False
  | .seq a b, e, w, Q => match multi a with
    | false => vc P n pm a e w (thn (fun e' w' => vc P n pm b e' w' Q) Q)
    | true => jn (fun K => vc P n pm a e w (thn K Q)) fun e' w' => vc P n pm b e' w' Q
  | .cond c a b, e, w, Q => condC (rd n e c) (vc P n pm a e w Q) (vc P n pm b e w Q)
  | .block id c, e, w, Q => vc P n pm c e w (inB id Q)
  | .loop c, e, w, Q => lpC (fun e' w' Q' => vc P n pm c e' w' Q') e w Q
  | .exit id, e, w, Q => Q (.exit id) e w
  | .ret, e, w, Q => Q .ret e w
  | .scope c, e, w, Q => vc P n pm c e w Q
  | _, _, _, _ => False

/-- Reading results. -/
def resC (P : Program) (n : Nat) : List ResultVar → Env → World → (List Value → Prop) → Prop
  | [], _, _, K => K []
  | .tmp t :: rs, e, w, K => resC P n rs e w fun vs => K (rd n e (.tmp t) :: vs)
  | .cell a t :: rs, e, w, K => match aggP P t, sizeP P t with
    | some g, some k => ldC w g k (rd n e (.tmp a)) fun v => resC P n rs e w fun vs => K (v :: vs)
    | _, _ => False
def oneOr (vs : List Value) : Value := match vs with | [v] => v | vs => .tuple vs.toArray

def envOf (args : List Value) : Env := fun t => match args[t]? with | some v => v | none => undef

def finQ (P : Program) (n : Nat) (rs : List ResultVar) (R : Value → World → Prop) : QT := fun ex e w => match ex with
  | .normal => resC P n rs e w fun vs => R (oneOr vs) w
  | .ret => resC P n rs e w fun vs => R (oneOr vs) w
  | _ => False

/-- What is asked of a function's body. -/
def vcFn (P : Program) (pm : Plans) (f : FuncId) (args : List Value) (w : World) (R : Value → World → Prop) : Prop :=
  match P.funcs[f]? with
  | some fn => match fn.body, Nat.ble args.length fn.ntmps with
    | some c, true => vc P fn.ntmps pm c (envOf args) w (finQ P fn.ntmps fn.results.toList R)
    | _, _ => False
  | none => False

section
variable {P : Program} {n : Nat} {ds : List Deferred}

def QA (n : Nat) (ds : List Deferred) (Q : QT) : Exit → Act → World → Prop := fun ex a w => ∃ e : Env, a = actOf n ds e ∧ Q ex e w

theorem rd_func (n : Nat) (e : Env) (f : FuncId) : rd n e (.func f) = .func (.func f) #[] #[] := rfl

theorem getD_rd (n : Nat) (ds : List Deferred) (e : Env) (t : Nat) : (actOf n ds e).tmps.getD t undef = rd n e (.tmp t) := by
  rw [← rd_eval n ds e]; rfl

theorem yielded_gval (n : Nat) (ds : List Deferred) (e : Env) (ops : Array Oper) (j : Nat) : yielded ops (actOf n ds e).tmps j = boolOf (gval n e ops j) := by
  unfold yielded gval
  cases ho : ops[j]? with
  | none => simp [boolOf, undef]
  | some o =>
    simp only [Option.bind_some]
    cases hd : o.dst with
    | none => simp [boolOf, undef]
    | some t =>
      simp only [Option.bind_some]
      have := getD_rd n ds e t
      rw [← this]
      cases hv : (actOf n ds e).tmps[t]? with
      | none => simp [hv, boolOf, undef]
      | some v =>
        have : (actOf n ds e).tmps.getD t undef = v := by simp [hv]
        rw [this]
        cases v <;> rfl

theorem wanted_none {o : Oper} (h : o.guard = none) (f : Nat → Option Bool) : Region.wanted o f = true := by simp [Region.wanted, h]
theorem wanted_some {o : Oper} {j : Nat} {want : Bool} (h : o.guard = some (j, want)) (f : Nat → Option Bool) : Region.wanted o f = true ↔ f j = some want := by simp [Region.wanted, h]

/-- An operation with its guard. -/
theorem vcG_gives {ops : Array Oper} {o : Oper} {e : Env} {w : World} {K : Value → World → Prop} (h : vcG P n ops o e w K) :
    (Region.wanted o (yielded ops (actOf n ds e).tmps) = true → vcOp P (rd n e) o w K) ∧ (¬ Region.wanted o (yielded ops (actOf n ds e).tmps) = true → K undef w) := by
  unfold vcG at h
  split at h
  · rename_i hg
    rw [wanted_none hg]
    exact ⟨fun _ => h, fun h' => absurd rfl h'⟩
  · rename_i j want hg
    rw [wanted_some hg, yielded_gval]
    exact h

theorem Gives.wpIn {o : Oper} {a : Act} {N : Act → World → Prop} {Q : Exit → Act → World → Prop} {w : World} {ro : Option Nat} (h : Gives P (fun v w' => N (a.put o.dst v) w') ((execOp a.eval o).run P w)) : o.wpIn (Wd ro) 0 P a w N Q := by
  refine ⟨fun _ _ => trivial, ?_⟩
  rw [semAt_of (notDefer h)]
  exact h.upon

theorem vcList_sound {ro : Option Nat} {ops : Array Oper} {Q : Exit → Act → World → Prop} : ∀ (l : List Nat) (os : List Oper) (k : Nat) (e : Env) (w : World) (K : Env → World → Prop), (∀ j, os[j]? = ops[k + j]?) → l = List.range' k os.length →
    (∀ e w, K e w → Q .normal (actOf n ds e) w) → vcList P n ops os e w K → wpOpsIn (Wd ro) 0 P ops Q l (actOf n ds e) w
  | [], [], _, _, _, _, _, _, hQ, h => hQ _ _ h
  | [], _ :: _, _, _, _, _, _, hl, _, _ => by simp [List.range'_succ] at hl
  | _ :: _, [], _, _, _, _, _, hl, _, _ => by simp at hl
  | i :: l, o :: os, k, e, w, K, hop, hl, hQ, h => by
    simp only [List.length_cons, List.range'_succ, List.cons.injEq] at hl
    obtain ⟨rfl, hl⟩ := hl
    have ho : ops[i]? = some o := by have := hop 0; simpa using this.symm
    have ih := fun e w => vcList_sound (ro := ro) l os (i + 1) e w K (fun j => by have := hop (j + 1); simpa [Nat.add_assoc, Nat.add_comm 1 j] using this) hl hQ
    simp only [vcList] at h
    obtain ⟨h1, h2⟩ := vcG_gives (ds := ds) h
    rw [wpOpsIn, ho]
    simp only
    split
    · rename_i hw
      have := vcOp_gives (rd_func n e) (h1 hw)
      rw [← rd_eval n ds e] at this
      refine Gives.wpIn (this.mono fun v w' hk => ?_)
      rw [← actOf_upo]
      exact ih _ _ hk
    · rename_i hw
      refine ⟨fun _ _ => trivial, ?_⟩
      rw [← actOf_upo]
      exact ih _ _ (h2 hw)

theorem wp_region_vc {ro : Option Nat} {ops : Array Oper} {id : Nat} {Q : Exit → Act → World → Prop} {e : Env} {w : World} {K : Env → World → Prop} (hQ : ∀ e w, K e w → Q .normal (actOf n ds e) w)
    (h : vcList P n ops ops.toList e w K) : (Code.region id ops false).wpIn (Wd ro) 0 P Q (actOf n ds e) w := by
  refine wpIn_region ?_
  rw [List.range_eq_range']
  exact vcList_sound (P := P) _ ops.toList 0 e w K (by simp) (by simp) hQ h

theorem pure_or {o : Oper} {ρ : Operand → Value} {K : Value → World → Prop} {w : World} (hρ : ∀ f, ρ (.func f) = .func (.func f) #[] #[]) (h : vcOp P ρ o w K) :
    (isPure P o.op = true → ∃ v, valS P (execOp ρ o) = some (.value v) ∧ K v w) ∧ (isPure P o.op = false → isLoad o.op = true → ∃ v, (execOp ρ o).run P w = .ok (.value v) w ∧ K v w) := by
  constructor
  · intro hp
    unfold vcOp at h
    rw [hp] at h
    obtain ⟨v, hv, hK⟩ := pv_e h
    exact ⟨v, pureV_val hv, hK⟩
  · intro hp hl
    unfold vcOp at h
    rw [hp] at h
    unfold effC at h
    cases ho : o.op <;> rw [ho] at hl <;> simp only [isLoad, Bool.false_eq_true] at hl
    rename_i t a
    simp only [ho] at h
    split at h
    · rename_i g k hg hn
      obtain ⟨v, hv, hK⟩ := h
      refine ⟨v, ?_, hK⟩
      unfold execOp
      simp only [ho]
      obtain ⟨b, off, cs, ha, r⟩ := id hv
      refine run_value ?_
      unfold Instr.loadAt
      rw [ha, run_bind_val sureAddr_val]
      rw [ha] at hv
      exact loadVar_run hg hn hv
    · exact h.elim

theorem still_of {ops : Array Oper} {r : Nat} {e : Env} {w : World} {X : Prop} (h : stillC P n ops r e w X) : Still P ops r (actOf n ds e) w ∧ X := by
  unfold stillC at h
  split at h
  · rename_i o ho
    split at h
    · rename_i t a d hop hd
      split at h
      · rename_i g k hg hk
        have key : Ld w g k (rd n e a) (rd n e (.tmp d)) → (execOp (actOf n ds e).eval o).run P w = .ok (.value ((actOf n ds e).tmps.getD d undef)) w := by
          intro hl
          rw [rd_eval, getD_rd]
          unfold execOp
          simp only [hop]
          obtain ⟨b, off, cs, ha, r⟩ := id hl
          refine run_value ?_
          unfold Instr.loadAt
          rw [ha, run_bind_val sureAddr_val]
          rw [ha] at hl
          exact loadVar_run hg hk hl
        split at h
        · refine ⟨?_, h.2⟩
          unfold Still
          simp only [ho]
          intro _ d' hd'
          rw [hd] at hd'; cases hd'
          exact key h.1
        · rename_i j want hgd
          refine ⟨?_, h.2⟩
          unfold Still
          simp only [ho]
          intro hw d' hd'
          rw [hd] at hd'; cases hd'
          rw [wanted_some hgd, yielded_gval] at hw
          exact key (h.1 hw)
      · exact h.elim
    · exact h.elim
  · exact h.elim

theorem stills_of {ops : Array Oper} {masks : List Nat} {i : Nat} {e : Env} {w : World} {X : Prop} : ∀ (E : List Nat), stillsC P n ops (pends P ops masks i E) e w X →
    (∀ r ∈ E, pendB P ops masks r i = true → Still P ops r (actOf n ds e) w) ∧ X
  | [], h => ⟨by simp, h⟩
  | r :: E, h => by
    unfold pends at h
    split at h
    · rename_i hp
      obtain ⟨h1, h2⟩ := still_of (ds := ds) h
      obtain ⟨h3, h4⟩ := stills_of E h2
      refine ⟨fun s hs hps => ?_, h4⟩
      rcases List.mem_cons.1 hs with rfl | hs
      · exact h1
      · exact h3 s hs hps
    · rename_i hp
      obtain ⟨h3, h4⟩ := stills_of E h
      refine ⟨fun s hs hps => ?_, h4⟩
      rcases List.mem_cons.1 hs with rfl | hs
      · rw [hp] at hps; cases hps
      · exact h3 s hs hps

theorem vcT_sound {ops : Array Oper} {masks : List Nat} : ∀ (t : BT) (E : List Nat) (e : Env) (w : World) (K : Env → World → Prop), vcT P n ops masks t E e w K →
    SST P ops masks (fun a w => ∃ e, a = actOf n ds e ∧ K e w) t E (actOf n ds e) w
  | .nil, _, e, w, K, h => ⟨e, rfl, h⟩
  | .both x y, E, e, w, K, h => ⟨vcT_sound x E e w K h.1, vcT_sound y E e w K h.2⟩
  | .cons i l, E, e, w, K, h => by
    unfold vcT at h
    split at h
    · exact h.elim
    · rename_i o ho
      obtain ⟨h1, h2⟩ := vcG_gives (ds := ds) h
      have fin : ∀ v w', (stillsC P n ops (pends P ops masks i E) (upo e o.dst v) w' (vcT P n ops masks l (i :: E) (upo e o.dst v) w' K)) →
          (∀ r ∈ E, pendB P ops masks r i = true → Still P ops r ((actOf n ds e).put o.dst v) w') ∧ SST P ops masks (fun a w => ∃ e, a = actOf n ds e ∧ K e w) l (i :: E) ((actOf n ds e).put o.dst v) w' := by
        intro v w' hs
        obtain ⟨h3, h4⟩ := stills_of (ds := ds) E hs
        rw [← actOf_upo]
        exact ⟨h3, vcT_sound l (i :: E) _ _ K h4⟩
      show stp P ops i _ _ _
      unfold stp
      simp only [ho]
      split
      · rename_i hw
        have hv := h1 hw
        obtain ⟨p1, p2⟩ := pure_or (rd_func n e) hv
        split
        · rename_i hp
          obtain ⟨v, hv1, hv2⟩ := p1 hp
          exact ⟨v, by rw [rd_eval]; exact hv1, fin v w hv2⟩
        · rename_i hp
          split
          · rename_i hl
            obtain ⟨v, hv1, hv2⟩ := p2 (by simpa using hp) hl
            exact ⟨v, by rw [rd_eval]; exact hv1, fin v w hv2⟩
          · have := vcOp_gives (rd_func n e) hv
            rw [rd_eval]
            exact this.mono fun v w' hk => fin v w' hk
      · rename_i hw
        exact fin undef w (h2 hw)

theorem actOf_size (n : Nat) (ds : List Deferred) (e : Env) : (actOf n ds e).tmps.size = n := by simp [actOf]

theorem stepR_scope {b : Frame} {a : Act} {k : List Item} {cs : List Frame} {w : World} {c : Code} : step P (lone (b.atR a (.code (.scope c) :: k)) cs w) = .next (lone (b.atR a (.code c :: .inScope c :: k)) cs w) :=
  step_lone_go (by simp [stepG, stepG.exec, Frame.atR])
theorem stepR_inScope {b : Frame} {a : Act} {k : List Item} {cs : List Frame} {w : World} {c : Code} : step P (lone (b.atR a (.inScope c :: k)) cs w) = .next (lone (b.atR a k) cs w) :=
  step_lone_go (by simp [stepG, stepG.exec, Frame.atR])
theorem wpIn_scope_straight {ro : Option Nat} {Q : Exit → Act → World → Prop} {a : Act} {w : World} {c : Code} (h : c.wpIn (Wd ro) 0 P (Exit.noGoto Q) a w) : (Code.scope c).wpIn (Wd ro) 0 P Q a w := by
  intro b k cs hro hb hr
  have h0 : (lone (b.atR a (.code (.scope c) :: k)) cs w).fenced P (Wd ro) := fenced_calm hb hr rfl
  obtain ⟨e, a₁, w₁, hq, harr⟩ := h b (.inScope c :: k) cs hro hb hr
  cases e with
  | normal => exact ⟨.normal, a₁, w₁, hq, .head h0 stepR_scope (StepsIn.trans harr (.one (fenced_calm hb hr rfl) stepR_inScope))⟩
  | exit id => exact ⟨.exit id, a₁, w₁, hq, fun k' hk => .head h0 stepR_scope (harr.1 k' (by simp [exitTo, hk])), fun hr' hk => let ⟨k₁, h1, h2⟩ := harr.2 hr' (by simp [exitTo, hk]); ⟨k₁, h1, .head h0 stepR_scope h2⟩⟩
  | goto l => exact hq.elim
  | ret => exact ⟨_, a₁, w₁, hq, .of_steps (.one h0 stepR_scope) harr⟩
  | panic ch => exact ⟨_, a₁, w₁, hq, .of_steps (.one h0 stepR_scope) harr⟩
  | outgrown => exact ⟨_, a₁, w₁, hq, .of_steps (.one h0 stepR_scope) harr⟩

/-- **What is asked of code suffices.** -/
theorem vc_sound {ro : Option Nat} (hm : P.follows .mixedOrders = true) (pm : Plans) : ∀ (c : Code) (e : Env) (w : World) (Q : QT), (∀ l, ∀ e w, ¬ Q (.goto l) e w) → vc P n pm c e w Q →
    c.wpIn (Wd ro) 0 P (QA n ds Q) (actOf n ds e) w
  | .skip, e, w, Q, _, h => wpIn_skip ⟨e, rfl, h⟩
  | .label _, e, w, Q, _, h => wpIn_label ⟨e, rfl, h⟩
  | .region id ops d, e, w, Q, _, h => by
    unfold vc at h
    cases d with
    | false => exact wp_region_vc (K := fun e w => Q .normal e w) (fun e w hq => ⟨e, rfl, hq⟩) h
    | true =>
      simp only at h
      split at h
      · rename_i hok
        exact draw_sound hm hok (K := fun a w => ∃ e, a = actOf n ds e ∧ Q .normal e w) (fun a w ⟨e, ha, hq⟩ => ⟨e, ha, hq⟩) (actOf_size n ds e) (vcT_sound _ _ _ _ _ h)
      · exact h.elim
  | .seq a b, e, w, Q, hg, h => by
    unfold vc at h
    have key : vc P n pm a e w (thn (fun e' w' => vc P n pm b e' w' Q) Q) := by
      split at h
      · exact h
      · exact h
    refine wpIn_seq (wpIn_mono (vc_sound hm pm a e w (thn (fun e' w' => vc P n pm b e' w' Q) Q) (fun l e w hq => hg l e w hq) key) ?_)
    rintro ex a' w' ⟨e', rfl, hq⟩
    cases ex with
    | normal => exact vc_sound hm pm b e' w' Q hg hq
    | exit id => exact ⟨e', rfl, hq⟩
    | goto l => exact ⟨e', rfl, hq⟩
    | ret => exact ⟨e', rfl, hq⟩
    | panic c => exact ⟨e', rfl, hq⟩
    | outgrown => exact ⟨e', rfl, hq⟩
  | .cond c a b, e, w, Q, hg, h => by
    unfold vc condC at h
    obtain ⟨t, hv, h1, h2⟩ := h
    refine wpIn_cond (t := t) (by rw [rd_eval]; exact hv) ?_
    cases t with
    | true => exact vc_sound hm pm a e w Q hg (h1 rfl)
    | false => exact vc_sound hm pm b e w Q hg (h2 rfl)
  | .block id c, e, w, Q, hg, h => by
    unfold vc at h
    refine wpIn_block (wpIn_mono (vc_sound hm pm c e w (inB id Q) (fun l e w hq => hg l e w hq) h) ?_)
    rintro ex a' w' ⟨e', rfl, hq⟩
    cases ex with
    | normal => exact ⟨e', rfl, hq⟩
    | exit i =>
      simp only [inB] at hq
      simp only [Exit.inBlock]
      split at hq
      · rename_i hb; rw [if_pos (Nat.eq_of_beq_eq_true hb)]; exact ⟨e', rfl, hq⟩
      · rename_i hb
        rw [if_neg (fun he => by subst he; simp at hb)]
        exact ⟨e', rfl, hq⟩
    | goto l => exact ⟨e', rfl, hq⟩
    | ret => exact ⟨e', rfl, hq⟩
    | panic c => exact ⟨e', rfl, hq⟩
    | outgrown => exact ⟨e', rfl, hq⟩
  | .loop c, e, w, Q, hg, h => by
    unfold vc lpC at h
    obtain ⟨I, μ, h0, hr⟩ := h
    intro b k cs hro hb hrm
    have key : ∀ m e w, μ e w = m → I e w →
        ∃ ex a' w', QA n ds Q ex a' w' ∧ ArrivesIn (Machine.fenced P (Wd ro)) P (lone (b.atR (actOf n ds e) (.code c :: .inLoop c :: k)) cs w) b k cs ex a' w' := by
      intro m
      induction m using Nat.strongRecOn with
      | _ m ih =>
        intro e w hn hI
        have hbd := vc_sound (ro := ro) hm pm c e w _ (by
          intro l e' w' hq
          exact hg l e' w' hq) (hr e w hI)
        obtain ⟨ex, a₁, w₁, ⟨e₁, rfl, hq⟩, harr⟩ := hbd b (.inLoop c :: k) cs hro hb hrm
        cases ex with
        | normal =>
          obtain ⟨hI₁, hlt⟩ := hq
          obtain ⟨e₂, a₂, w₂, hq₂, harr₂⟩ := ih (μ e₁ w₁) (hn ▸ hlt) e₁ w₁ rfl hI₁
          exact ⟨e₂, a₂, w₂, hq₂, .of_steps (StepsIn.trans harr (.one (fenced_calm hb hrm rfl) stepR_inLoop)) harr₂⟩
        | exit id => exact ⟨_, _, w₁, ⟨e₁, rfl, hq⟩, .pass (x := .inLoop c) rfl (fun _ _ => .inl (by simp)) harr⟩
        | goto l => exact ⟨_, _, w₁, ⟨e₁, rfl, hq⟩, .pass (x := .inLoop c) rfl (fun _ _ => .inl (by simp)) harr⟩
        | ret => exact ⟨_, _, w₁, ⟨e₁, rfl, hq⟩, .pass (x := .inLoop c) rfl (fun _ _ => .inl (by simp)) harr⟩
        | panic ch => exact ⟨_, _, w₁, ⟨e₁, rfl, hq⟩, .pass (x := .inLoop c) rfl (fun _ _ => .inl (by simp)) harr⟩
        | outgrown => exact ⟨_, _, w₁, ⟨e₁, rfl, hq⟩, .pass (x := .inLoop c) rfl (fun _ _ => .inl (by simp)) harr⟩
    obtain ⟨ex, a', w', hq, harr⟩ := key _ e w rfl h0
    exact ⟨ex, a', w', hq, .of_steps (.one (fenced_calm hb hrm rfl) stepR_loop) harr⟩
  | .exit id, e, w, Q, _, h => wpIn_exit ⟨e, rfl, h⟩
  | .ret, e, w, Q, _, h => wpIn_ret ⟨e, rfl, h⟩
  | .scope c, e, w, Q, hg, h => by
    unfold vc at h
    refine wpIn_scope_straight (wpIn_mono (vc_sound hm pm c e w Q hg h) ?_)
    rintro ex a' w' ⟨e', rfl, hq⟩
    cases ex with
    | goto l => exact (hg l e' w' hq).elim
    | normal => exact ⟨e', rfl, hq⟩
    | exit i => exact ⟨e', rfl, hq⟩
    | ret => exact ⟨e', rfl, hq⟩
    | panic c => exact ⟨e', rfl, hq⟩
    | outgrown => exact ⟨e', rfl, hq⟩
  | .rangeFunc _ _ _ _, _, _, _, _, h => h.elim
  | .goto _, _, _, _, _, h => h.elim
  | .refuse _, _, _, _, _, h => h.elim


theorem resC_run : ∀ (rs : List ResultVar) (e : Env) (w : World) (K : List Value → Prop), resC P n rs e w K → ∃ vs, K vs ∧ vs.length = rs.length ∧
    (rs.mapM (fun | .tmp t => pure ((actOf n ds e).tmps.getD t undef) | .cell a t => do loadVar t (← asAddr ((actOf n ds e).tmps.getD a undef)) : ResultVar → Sem Value)).run P w = .ok vs w
  | [], e, w, K, h => ⟨[], h, rfl, rfl⟩
  | .tmp t :: rs, e, w, K, h => by
    obtain ⟨vs, hK, hl, hr⟩ := resC_run rs e w _ h
    refine ⟨_, hK, by simp [hl], ?_⟩
    rw [List.mapM_cons]
    have h1 : (pure ((actOf n ds e).tmps.getD t undef) : Sem Value).run P w = .ok (rd n e (.tmp t)) w := by rw [getD_rd]; rfl
    rw [run_bind_ok h1, run_bind_ok hr]; rfl
  | .cell a t :: rs, e, w, K, h => by
    unfold resC at h
    split at h
    · rename_i g k hg hk
      obtain ⟨v, hv, h⟩ := h
      obtain ⟨vs, hK, hl, hr⟩ := resC_run rs e w _ h
      refine ⟨_, hK, by simp [hl], ?_⟩
      rw [List.mapM_cons]
      have h1 : (do loadVar t (← asAddr ((actOf n ds e).tmps.getD a undef)) : Sem Value).run P w = .ok v w := by
        rw [getD_rd]
        obtain ⟨b, off, cs, ha, r⟩ := id hv
        rw [ha]
        have hva : valS P (asAddr (.pointer (some ⟨b, off, none⟩))) = some ⟨b, off, none⟩ := rfl
        rw [run_bind_val hva]
        rw [ha] at hv
        exact loadVar_run hg hk hv
      rw [run_bind_ok h1, run_bind_ok hr]; rfl
    · exact h.elim

theorem results_run {fn : Func} {e : Env} {w : World} {K : List Value → Prop} (h : resC P n fn.results.toList e w K) :
    ∃ vs, K vs ∧ (results fn (actOf n ds e).tmps).run P w = .ok (oneOr vs) w := by
  obtain ⟨vs, hK, hl, hr⟩ := resC_run (ds := ds) _ e w K h
  refine ⟨vs, hK, ?_⟩
  unfold results
  rw [Array.mapM_eq_mapM_toList]
  have : (List.toArray <$> fn.results.toList.mapM (fun | .tmp t => pure ((actOf n ds e).tmps.getD t undef) | .cell a t => do loadVar t (← asAddr ((actOf n ds e).tmps.getD a undef)) : ResultVar → Sem Value) : Sem (Array Value)).run P w = .ok vs.toArray w := by
    rw [map_eq_pure_bind]
    rw [run_bind_ok hr]; rfl
  refine (run_bind_ok this).trans ?_
  simp only [pure, Sem.run]
  congr 1
  cases vs with
  | nil => simp [oneOr]
  | cons v vs =>
    cases vs with
    | nil => simp [oneOr]
    | cons u vs => simp [oneOr]

/-- **A function's contract, out of what is asked of its body.** -/
theorem vcFn_sound (hm : P.follows .mixedOrders = true) {pm : Plans} {f : FuncId} {args : List Value} {w : World} {R : Value → World → Prop} (h : vcFn P pm f args w R) :
    CallsR P f args.toArray w R := by
  unfold vcFn at h
  split at h
  · rename_i fn hf
    split at h
    · rename_i c hb hl
      have hl' := Nat.le_of_ble_eq_true hl
      refine (callsIn_wide (n := 0)).1 (callsIn_of_wp (F := Wd none) (n := 0) hf hb trivial ?_)
      have hact : ({ tmps := args.toArray ++ Array.replicate (fn.ntmps - args.toArray.size) undef, defers := [] } : Act) = actOf fn.ntmps [] (envOf args) := by
        unfold actOf
        congr 1
        apply Array.ext
        · simp; omega
        · intro i h1 h2
          simp only [Array.getElem_ofFn, envOf]
          by_cases hi : i < args.length
          · rw [Array.getElem_append_left (by simpa using hi)]
            simp [List.getElem?_eq_getElem hi]
          · rw [Array.getElem_append_right (by simpa using hi)]
            simp [List.getElem?_eq_none (show args.length ≤ i by omega)]
      rw [hact]
      refine wpIn_mono (vc_sound hm pm c _ w _ (by intro l e w hq; exact hq) h) ?_
      rintro ex a' w' ⟨e', rfl, hq⟩
      cases ex with
      | normal =>
        obtain ⟨vs, hK, hr⟩ := results_run (ds := []) hq
        exact ⟨rfl, _, hr, _, rfl, hK⟩
      | ret =>
        obtain ⟨vs, hK, hr⟩ := results_run (ds := []) hq
        exact ⟨rfl, _, hr, _, rfl, hK⟩
      | exit i => exact hq
      | goto l => exact hq
      | panic c => exact hq.elim
      | outgrown => exact hq.elim
    · exact h.elim
  · exact h.elim

end
end Go.Dm
