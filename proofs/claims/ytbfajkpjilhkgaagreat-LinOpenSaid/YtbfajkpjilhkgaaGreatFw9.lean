/- A part of the proof that doormanlaw21.LinOpen returns true for every input, on no condition. -/
import Derived.Test.YtbfajkpjilhkgaaGreatFw8
set_option linter.unusedVariables false
set_option linter.unusedSimpArgs false
namespace Go.Dm
open Go
section
variable {P : Program} {ops : Array Oper} {masks : List Nat} {n : Nat}

/-- The orders in which a region's operations are walked: where two that write are in no order, both ways are walked. -/
inductive BT where
  | nil
  | cons (i : Nat) (t : BT)
  | both (a b : BT)

def isEff (P : Program) (ops : Array Oper) (i : Nat) : Bool := match ops[i]? with | some o => !isPure P o.op && !isLoad o.op | none => false

def SST (P : Program) (ops : Array Oper) (masks : List Nat) (K : Act → World → Prop) : BT → List Nat → Act → World → Prop
  | .nil, _ => K
  | .cons i t, E => stp P ops i fun a' w' => (∀ r ∈ E, pendB P ops masks r i = true → Still P ops r a' w') ∧ SST P ops masks K t (i :: E) a' w'
  | .both x y, E => fun a w => SST P ops masks K x E a w ∧ SST P ops masks K y E a w

theorem SST_congr {K : Act → World → Prop} : ∀ (t : BT) (E E' : List Nat) (a : Act) (w : World), (∀ r, r ∈ E' → r ∈ E) → SST P ops masks K t E a w → SST P ops masks K t E' a w
  | .nil, _, _, _, _, _, h => h
  | .cons i t, E, E', _, _, he, h => stp_mono (fun a w ⟨h1, h2⟩ => ⟨fun r hr => h1 r (he r hr), SST_congr t _ _ a w (fun r hr => by
      rcases List.mem_cons.1 hr with rfl | hr
      · exact List.mem_cons_self
      · exact List.mem_cons_of_mem _ (he r hr)) h2⟩) h
  | .both x y, E, E', a, w, he, h => ⟨SST_congr x E E' a w he h.1, SST_congr y E E' a w he h.2⟩

/-- Every way goes through all that has not come, each behind what it waits for. -/
def FT (masks : List Nat) (N : Nat) : BT → List Nat → Prop
  | .nil, E => ∀ j, j < N → j ∈ E
  | .cons x t, E => x ∉ E ∧ (∀ y, waitsB masks x y = true → y ∈ E) ∧ FT masks N t (x :: E)
  | .both a b, E => FT masks N a E ∧ FT masks N b E

/-- In what order two may stand on a way. -/
def PO (P : Program) (ops : Array Oper) (masks : List Nat) : BT → List Nat → Prop
  | .nil, _ => True
  | .cons i t, L => (∀ r ∈ L, waitsB masks i r = true ∨ okPair P ops r i = true ∨ (isEff P ops r = true ∧ isEff P ops i = true)) ∧ PO P ops masks t (i :: L)
  | .both a b, L => PO P ops masks a L ∧ PO P ops masks b L

theorem FT_congr {N : Nat} : ∀ (t : BT) {E E' : List Nat}, (∀ y, y ∈ E ↔ y ∈ E') → FT masks N t E → FT masks N t E'
  | .nil, _, _, he, h => fun j hj => (he j).1 (h j hj)
  | .cons x t, E, E', he, ⟨h1, h2, h3⟩ => ⟨fun hm => h1 ((he x).2 hm), fun y hy => (he y).1 (h2 y hy), FT_congr t (fun y => by simp [he y]) h3⟩
  | .both a b, _, _, he, h => ⟨FT_congr a he h.1, FT_congr b he h.2⟩

theorem PO_sub : ∀ (t : BT) {L L' : List Nat}, (∀ y, y ∈ L' → y ∈ L) → PO P ops masks t L → PO P ops masks t L'
  | .nil, _, _, _, _ => trivial
  | .cons x t, L, L', he, ⟨h1, h2⟩ => ⟨fun r hr => h1 r (he r hr), PO_sub t (fun y hy => by
      rcases List.mem_cons.1 hy with rfl | hy
      · exact List.mem_cons_self
      · exact List.mem_cons_of_mem _ (he y hy)) h2⟩
  | .both a b, _, _, he, h => ⟨PO_sub a he h.1, PO_sub b he h.2⟩

def Closed (masks : List Nat) (E : List Nat) : Prop := ∀ r ∈ E, ∀ y, waitsB masks r y = true → y ∈ E

/-- Taking a quiet operation out of all ways. -/
def mvq (i : Nat) : BT → BT
  | .nil => .nil
  | .cons x t => if x = i then t else .cons x (mvq i t)
  | .both a b => .both (mvq i a) (mvq i b)

/-- Taking an operation that writes out of a way of which it is the first one that does. -/
def mve (P : Program) (ops : Array Oper) (i : Nat) : BT → Option BT
  | .nil => none
  | .cons x t => if x = i then some t else if isEff P ops x = true then none else (mve P ops i t).map (.cons x)
  | .both a b => match mve P ops i a with | some t => some t | none => mve P ops i b

theorem closed_cons {E : List Nat} {x : Nat} (hc : Closed masks E) (hw : ∀ y, waitsB masks x y = true → y ∈ E) : Closed masks (x :: E) := by
  intro r hr y hy
  rcases List.mem_cons.1 hr with rfl | hr
  · exact List.mem_cons_of_mem _ (hw y hy)
  · exact List.mem_cons_of_mem _ (hc r hr y hy)

/-- One swap, in a way. -/
theorem swap1 (A : Around P ops masks n) {x i : Nat} (hok : okPair P ops x i = true) {E : List Nat} (hc : Closed masks E) (hxE : x ∉ E) (hiE : i ∉ E) (hw : waitsB masks i x = false)
    {K : Act → World → Prop} {a : Act} {w : World} (hsz : a.tmps.size = n)
    (h : stp P ops x (fun a1 w1 => (∀ r ∈ E, pendB P ops masks r x = true → Still P ops r a1 w1) ∧
      stp P ops i (fun a2 w2 => (∀ r ∈ x :: E, pendB P ops masks r i = true → Still P ops r a2 w2) ∧ K a2 w2) a1 w1) a w) :
    stp P ops i (fun a1 w1 => (∀ r ∈ E, pendB P ops masks r i = true → Still P ops r a1 w1) ∧
      stp P ops x (fun a2 w2 => (∀ r ∈ i :: E, pendB P ops masks r x = true → Still P ops r a2 w2) ∧ K a2 w2) a1 w1) a w := by
  unfold okPair at hok
  split at hok
  · rename_i ox oi hx hi
    simp only [Bool.and_eq_true, Bool.or_eq_true] at hok
    have hE : ∀ r ∈ E, waitsB masks r x = false ∧ waitsB masks r i = false := by
      intro r hr
      constructor
      · cases hh : waitsB masks r x with
        | false => rfl
        | true => exact absurd (hc r hr x hh) hxE
      · cases hh : waitsB masks r i with
        | false => rfl
        | true => exact absurd (hc r hr i hh) hiE
    exact swap A hx hi hok.1.1 (by rcases hok.2 with (h | h) | h <;> simp [h]) hw hE hxE hiE hsz h
  · cases hok

theorem stp_some {i : Nat} {K : Act → World → Prop} {a : Act} {w : World} (h : stp P ops i K a w) : ∃ o, ops[i]? = some o := by
  unfold stp at h
  split at h
  · exact h.elim
  · rename_i o ho; exact ⟨o, ho⟩

theorem stp_and {i : Nat} (hq : isEff P ops i = false) {K K' : Act → World → Prop} {a : Act} {w : World} (h : stp P ops i K a w) (h' : stp P ops i K' a w) : stp P ops i (fun a w => K a w ∧ K' a w) a w := by
  obtain ⟨o, ho⟩ := stp_some h
  unfold isEff at hq
  rw [ho] at hq
  by_cases hp : isPure P o.op = true
  · obtain ⟨v, hv⟩ := stp_pure ho hp h
    rw [hv] at h h' ⊢
    exact ⟨h, h'⟩
  · have hl : isLoad o.op = true := by cases hl : isLoad o.op <;> simp_all
    unfold stp at h h' ⊢
    have hp' : isPure P o.op = false := by simpa using hp
    simp only [ho, hp', hl, Bool.false_eq_true, if_false, if_true] at h h' ⊢
    split at h
    · rename_i hw
      rw [if_pos hw] at h' ⊢
      obtain ⟨v, h1, h2⟩ := h
      obtain ⟨v', h3, h4⟩ := h'
      rw [h1] at h3
      cases h3
      exact ⟨v, h1, h2, h4⟩
    · rename_i hw
      rw [if_neg hw] at h' ⊢
      exact ⟨h, h'⟩

theorem move_q (A : Around P ops masks n) {i N : Nat} (hq : isEff P ops i = false) (hiN : i < N) {K : Act → World → Prop} : ∀ (t : BT) (E : List Nat) (a : Act) (w : World), i ∉ E → Closed masks E → FT masks N t E → PO P ops masks t [] →
    (∀ y, waitsB masks i y = true → y ∈ E) → a.tmps.size = n → SST P ops masks K t E a w →
    stp P ops i (fun a' w' => (∀ r ∈ E, pendB P ops masks r i = true → Still P ops r a' w') ∧ SST P ops masks K (mvq i t) (i :: E) a' w') a w
  | .nil, E, _, _, hiE, _, hf, _, _, _, _ => absurd (hf i hiN) hiE
  | .cons x t, E, a, w, hiE, hc, ⟨hxE, hxw, hft⟩, hpo, hw, hsz, h => by
    unfold mvq
    by_cases hxi : x = i
    · subst hxi
      rw [if_pos rfl]
      exact h
    · rw [if_neg hxi]
      have hwx : waitsB masks i x = false := by
        cases hh : waitsB masks i x with
        | false => rfl
        | true => exact absurd (hw x hh) hxE
      have hok : okPair P ops x i = true := by
        -- i stands somewhere in t, behind x
        have find : ∀ (t : BT) (E L : List Nat), i ∉ E → FT masks N t E → PO P ops masks t L → x ∈ L → okPair P ops x i = true := by
          intro t
          induction t with
          | nil => intro E L h1 h2; exact absurd (h2 i hiN) h1
          | cons y t ih =>
            intro E L h1 h2 h3 h4
            by_cases hy : y = i
            · subst hy
              rcases h3.1 x h4 with h | h | ⟨_, h⟩
              · rw [hwx] at h; cases h
              · exact h
              · rw [hq] at h; cases h
            · exact ih (y :: E) (y :: L) (by simp [h1]; exact fun h => hy h.symm) h2.2.2 h3.2 (List.mem_cons_of_mem _ h4)
          | both a b iha ihb => intro E L h1 h2 h3 h4; exact iha E L h1 h2.1 h3.1 h4
        exact find t (x :: E) [x] (by simp [hiE]; exact fun h => hxi h.symm) hft hpo.2 (by simp)
      obtain ⟨ox, hox⟩ := stp_some h
      have step : stp P ops x (fun a1 w1 => (∀ r ∈ E, pendB P ops masks r x = true → Still P ops r a1 w1) ∧
          stp P ops i (fun a2 w2 => (∀ r ∈ x :: E, pendB P ops masks r i = true → Still P ops r a2 w2) ∧ SST P ops masks K (mvq i t) (i :: x :: E) a2 w2) a1 w1) a w :=
        stp_mono' hox (fun u w' ⟨h1, h2⟩ => ⟨h1, move_q A hq hiN t (x :: E) _ w' (by simp [hiE]; exact fun h => hxi h.symm) (closed_cons hc hxw) hft (PO_sub t (by simp) hpo.2)
          (fun y hy => List.mem_cons_of_mem _ (hw y hy)) (by rw [put_size]; exact hsz) h2⟩) h
      have := swap1 A hok hc hxE hiE hwx hsz step
      refine stp_mono (fun a1 w1 ⟨h1, h2⟩ => ⟨h1, ?_⟩) this
      show stp P ops x _ a1 w1
      refine stp_mono (fun a2 w2 ⟨h3, h4⟩ => ⟨h3, ?_⟩) h2
      exact SST_congr _ _ _ _ _ (fun r hr => by simp only [List.mem_cons] at hr ⊢; rcases hr with h | h | h <;> simp [h]) h4
  | .both x y, E, a, w, hiE, hc, hf, hpo, hw, hsz, h => by
    have h1 := move_q A hq hiN x E a w hiE hc hf.1 hpo.1 hw hsz h.1
    have h2 := move_q A hq hiN y E a w hiE hc hf.2 hpo.2 hw hsz h.2
    refine stp_mono (fun a' w' ⟨⟨g1, g2⟩, ⟨_, g3⟩⟩ => ⟨g1, g2, g3⟩) (stp_and hq h1 h2)

theorem move_e (A : Around P ops masks n) {i : Nat} {K : Act → World → Prop} : ∀ (t t' : BT) (E : List Nat) (a : Act) (w : World), i ∉ E → Closed masks E → (∃ N, FT masks N t E) → PO P ops masks t [] → mve P ops i t = some t' →
    (∀ y, waitsB masks i y = true → y ∈ E) → a.tmps.size = n → SST P ops masks K t E a w →
    stp P ops i (fun a' w' => (∀ r ∈ E, pendB P ops masks r i = true → Still P ops r a' w') ∧ SST P ops masks K t' (i :: E) a' w') a w
  | .nil, _, _, _, _, _, _, _, _, hm, _, _, _ => by simp [mve] at hm
  | .cons x t, t', E, a, w, hiE, hc, ⟨N, hxE, hxw, hft⟩, hpo, hm, hw, hsz, h => by
    unfold mve at hm
    by_cases hxi : x = i
    · subst hxi
      rw [if_pos rfl] at hm
      cases hm
      exact h
    · rw [if_neg hxi] at hm
      split at hm
      · cases hm
      · rename_i hxe
        simp only [Option.map_eq_some_iff] at hm
        obtain ⟨t1, hm, rfl⟩ := hm
        have hwx : waitsB masks i x = false := by
          cases hh : waitsB masks i x with
          | false => rfl
          | true => exact absurd (hw x hh) hxE
        have hok : okPair P ops x i = true := by
          have find : ∀ (t t1 : BT) (L : List Nat), PO P ops masks t L → mve P ops i t = some t1 → x ∈ L → okPair P ops x i = true := by
            intro t
            induction t with
            | nil => intro t1 L _ h; simp [mve] at h
            | cons y t ih =>
              intro t1 L h3 h5 h4
              unfold mve at h5
              by_cases hy : y = i
              · subst hy
                rcases h3.1 x h4 with h | h | ⟨h, _⟩
                · rw [hwx] at h; cases h
                · exact h
                · rw [h] at hxe; exact absurd rfl hxe
              · rw [if_neg hy] at h5
                split at h5
                · cases h5
                · simp only [Option.map_eq_some_iff] at h5
                  obtain ⟨t2, h5, _⟩ := h5
                  exact ih t2 (y :: L) h3.2 h5 (List.mem_cons_of_mem _ h4)
            | both a b iha ihb =>
              intro t1 L h3 h5 h4
              unfold mve at h5
              split at h5
              · rename_i t2 h6; exact iha t2 L h3.1 h6 h4
              · exact ihb t1 L h3.2 h5 h4
          exact find t t1 [x] hpo.2 hm (by simp)
        obtain ⟨ox, hox⟩ := stp_some h
        have step : stp P ops x (fun a1 w1 => (∀ r ∈ E, pendB P ops masks r x = true → Still P ops r a1 w1) ∧
            stp P ops i (fun a2 w2 => (∀ r ∈ x :: E, pendB P ops masks r i = true → Still P ops r a2 w2) ∧ SST P ops masks K t1 (i :: x :: E) a2 w2) a1 w1) a w :=
          stp_mono' hox (fun u w' ⟨h1, h2⟩ => ⟨h1, move_e A t t1 (x :: E) _ w' (by simp [hiE]; exact fun h => hxi h.symm) (closed_cons hc hxw) ⟨N, hft⟩ (PO_sub t (by simp) hpo.2) hm
            (fun y hy => List.mem_cons_of_mem _ (hw y hy)) (by rw [put_size]; exact hsz) h2⟩) h
        have := swap1 A hok hc hxE hiE hwx hsz step
        refine stp_mono (fun a1 w1 ⟨h1, h2⟩ => ⟨h1, ?_⟩) this
        show stp P ops x _ a1 w1
        refine stp_mono (fun a2 w2 ⟨h3, h4⟩ => ⟨h3, ?_⟩) h2
        exact SST_congr _ _ _ _ _ (fun r hr => by simp only [List.mem_cons] at hr ⊢; rcases hr with h | h | h <;> simp [h]) h4
  | .both x y, t', E, a, w, hiE, hc, ⟨N, hf⟩, hpo, hm, hw, hsz, h => by
    unfold mve at hm
    split at hm
    · rename_i t1 h1
      simp only [Option.some.injEq] at hm; subst hm
      exact move_e A x _ E a w hiE hc ⟨N, hf.1⟩ hpo.1 h1 hw hsz h.1
    · exact move_e A y t' E a w hiE hc ⟨N, hf.2⟩ hpo.2 hm hw hsz h.2

theorem FT_mvq {i N : Nat} : ∀ (t : BT) (E : List Nat), (∀ y, waitsB masks i y = true → y ∈ E) → i ∉ E → FT masks N t E → FT masks N (mvq i t) (i :: E)
  | .nil, E, _, _, h => fun j hj => List.mem_cons_of_mem _ (h j hj)
  | .cons x t, E, hw, hiE, ⟨h1, h2, h3⟩ => by
    unfold mvq
    by_cases hxi : x = i
    · subst hxi; rw [if_pos rfl]; exact h3
    · rw [if_neg hxi]
      refine ⟨by simp [h1]; exact hxi, fun y hy => List.mem_cons_of_mem _ (h2 y hy), ?_⟩
      refine FT_congr _ (fun y => ?_) (FT_mvq t (x :: E) (fun y hy => List.mem_cons_of_mem _ (hw y hy)) (by simp [hiE]; exact fun h => hxi h.symm) h3)
      simp only [List.mem_cons]
      constructor <;> (intro h; rcases h with h | h | h <;> simp [h])
  | .both a b, E, hw, hiE, h => ⟨FT_mvq a E hw hiE h.1, FT_mvq b E hw hiE h.2⟩

theorem PO_mvq {i : Nat} : ∀ (t : BT) (L : List Nat), PO P ops masks t L → PO P ops masks (mvq i t) L
  | .nil, _, _ => trivial
  | .cons x t, L, ⟨h1, h2⟩ => by
    unfold mvq
    by_cases hxi : x = i
    · subst hxi; rw [if_pos rfl]; exact PO_sub t (fun y hy => List.mem_cons_of_mem _ hy) h2
    · rw [if_neg hxi]; exact ⟨h1, PO_mvq t _ h2⟩
  | .both a b, L, h => ⟨PO_mvq a L h.1, PO_mvq b L h.2⟩

theorem FT_mve {i N : Nat} : ∀ (t t' : BT) (E : List Nat), mve P ops i t = some t' → (∀ y, waitsB masks i y = true → y ∈ E) → i ∉ E → FT masks N t E → FT masks N t' (i :: E)
  | .nil, _, _, hm, _, _, _ => by simp [mve] at hm
  | .cons x t, t', E, hm, hw, hiE, ⟨h1, h2, h3⟩ => by
    unfold mve at hm
    by_cases hxi : x = i
    · subst hxi; rw [if_pos rfl] at hm; cases hm; exact h3
    · rw [if_neg hxi] at hm
      split at hm
      · cases hm
      · simp only [Option.map_eq_some_iff] at hm
        obtain ⟨t1, hm, rfl⟩ := hm
        refine ⟨by simp [h1]; exact hxi, fun y hy => List.mem_cons_of_mem _ (h2 y hy), ?_⟩
        refine FT_congr _ (fun y => ?_) (FT_mve t t1 (x :: E) hm (fun y hy => List.mem_cons_of_mem _ (hw y hy)) (by simp [hiE]; exact fun h => hxi h.symm) h3)
        simp only [List.mem_cons]
        constructor <;> (intro h; rcases h with h | h | h <;> simp [h])
  | .both a b, t', E, hm, hw, hiE, h => by
    unfold mve at hm
    split at hm
    · rename_i t1 h1; simp only [Option.some.injEq] at hm; subst hm; exact FT_mve a _ E h1 hw hiE h.1
    · exact FT_mve b t' E hm hw hiE h.2

theorem PO_mve {i : Nat} : ∀ (t t' : BT) (L : List Nat), mve P ops i t = some t' → PO P ops masks t L → PO P ops masks t' L
  | .nil, _, _, hm, _ => by simp [mve] at hm
  | .cons x t, t', L, hm, ⟨h1, h2⟩ => by
    unfold mve at hm
    by_cases hxi : x = i
    · subst hxi; rw [if_pos rfl] at hm; cases hm; exact PO_sub t (fun y hy => List.mem_cons_of_mem _ hy) h2
    · rw [if_neg hxi] at hm
      split at hm
      · cases hm
      · simp only [Option.map_eq_some_iff] at hm
        obtain ⟨t1, hm, rfl⟩ := hm
        exact ⟨h1, PO_mve t t1 _ hm h2⟩
  | .both a b, t', L, hm, h => by
    unfold mve at hm
    split at hm
    · rename_i t1 h1; simp only [Option.some.injEq] at hm; subst hm; exact PO_mve a _ L h1 h.1
    · exact PO_mve b t' L hm h.2

/-- Only the operations that write. -/
def effs (P : Program) (ops : Array Oper) : BT → BT
  | .nil => .nil
  | .cons x t => if isEff P ops x = true then .cons x (effs P ops t) else effs P ops t
  | .both a b => .both (effs P ops a) (effs P ops b)

theorem effs_mvq {i : Nat} (hq : isEff P ops i = false) : ∀ (t : BT), effs P ops (mvq i t) = effs P ops t
  | .nil => rfl
  | .cons x t => by
    unfold mvq
    by_cases hxi : x = i
    · subst hxi; rw [if_pos rfl]; simp [effs, hq]
    · rw [if_neg hxi]; simp only [effs, effs_mvq hq t]
  | .both a b => by simp only [mvq, effs, effs_mvq hq a, effs_mvq hq b]

theorem effs_mve {i : Nat} (hq : isEff P ops i = true) : ∀ (t : BT), (mve P ops i t).map (effs P ops) = mve P ops i (effs P ops t)
  | .nil => rfl
  | .cons x t => by
    by_cases hxi : x = i
    · subst hxi; simp [mve, effs, hq]
    · by_cases hx : isEff P ops x = true
      · simp [mve, effs, hxi, hx]
      · have ih := effs_mve hq t
        simp only [mve, effs, hxi, hx, if_false, Bool.false_eq_true]
        rw [← ih]
        cases mve P ops i t <;> simp [effs, hx]
  | .both a b => by
    have iha := effs_mve hq a
    have ihb := effs_mve hq b
    simp only [mve, effs]
    rw [← iha, ← ihb]
    cases mve P ops i a <;> simp

/-- What writes and may come next is a first one of some way; and so on. -/
def Cov (P : Program) (ops : Array Oper) (masks : List Nat) (N : Nat) : Nat → BT → List Nat → Prop
  | 0, _, _ => True
  | f + 1, t, E => ∀ i, i < N → isEff P ops i = true → i ∉ E → (∀ y, y < N → isEff P ops y = true → waitsB masks i y = true → y ∈ E) → ∃ t', mve P ops i t = some t' ∧ Cov P ops masks N f t' (i :: E)

theorem Cov_mono {N : Nat} : ∀ (f : Nat) (t : BT) (E : List Nat), Cov P ops masks N (f + 1) t E → Cov P ops masks N f t E
  | 0, _, _, _ => trivial
  | f + 1, t, E, h => fun i h1 h2 h3 h4 => by
    obtain ⟨t', ht, hc⟩ := h i h1 h2 h3 h4
    exact ⟨t', ht, Cov_mono f t' _ hc⟩

theorem any_of_SST {ro : Option Nat} (A : Around P ops masks n) (hm : ∀ (i : Nat) (o : Oper), ops[i]? = some o → ∀ y, waitsB masks i y = true → ∃ e ∈ o.after, Region.binds .any e = true ∧ (e.on = y ∨ waitsB masks e.on y = true))
    (hd : ∀ (i : Nat) (o : Oper), ops[i]? = some o → ∀ e ∈ o.after, Region.binds .any e = true → waitsB masks i e.on = true)
    {Q : Exit → Act → World → Prop} {K : Act → World → Prop} (hK : ∀ a w, K a w → Q .normal a w) : ∀ (fuel : Nat) (t : BT) (E F : List Nat) (listed : Array Bool) (a : Act) (w : World),
    listed.size = ops.size → (∀ j, listed.getD j true = false ↔ (j < ops.size ∧ j ∉ E)) → (∀ j, listed.getD j false = true ↔ j ∈ E) → (∀ j, isEff P ops j = true → (j ∈ F ↔ j ∈ E)) →
    E.Nodup → (∀ j ∈ E, j < ops.size) → E.length + fuel = ops.size →
    Closed masks E → FT masks ops.size t E → PO P ops masks t [] → Cov P ops masks ops.size fuel (effs P ops t) F → a.tmps.size = n → SST P ops masks K t E a w →
    wpAnyIn (Wd ro) 0 P .any ops Q fuel listed a w
  | fuel, t, E, F, listed, a, w, hsize, h1, h2, hF, hnd, hlt, hlen, hc, hf, hpo, hcov, hsz, h => by
    -- a way's first one is ready
    have head : ∀ (t : BT), FT masks ops.size t E → SST P ops masks K t E a w → Region.ready .any ops listed = [] → K a w := by
      intro t
      induction t with
      | nil => intro _ h _; exact h
      | cons x t ih =>
        intro hf h hr
        exfalso
        obtain ⟨o, ho⟩ := stp_some h
        have hxl : x < ops.size := by
          rcases Nat.lt_or_ge x ops.size with h | h
          · exact h
          · rw [Array.getElem?_eq_none h] at ho; cases ho
        have : x ∈ Region.ready .any ops listed := mem_ready.2 ⟨(h1 x).2 ⟨hxl, hf.1⟩, o, ho, fun e he hb => (h2 e.on).2 (hf.2.1 _ (hd x o ho e he hb))⟩
        rw [hr] at this; cases this
      | both x y ihx ihy => intro hf h hr; exact ihx hf.1 h.1 hr
    cases fuel with
    | zero =>
      have hnone : Region.ready .any ops listed = [] := by
        cases hr : Region.ready .any ops listed with
        | nil => rfl
        | cons j js =>
          exfalso
          have hj := mem_ready.1 (show j ∈ Region.ready .any ops listed by rw [hr]; simp)
          obtain ⟨hjl, hjE⟩ := (h1 j).1 hj.1
          have hfull : ∀ (l : List Nat) (N : Nat), l.Nodup → (∀ x ∈ l, x < N) → l.length = N → ∀ x, x < N → x ∈ l := by
            intro l N
            induction N generalizing l with
            | zero => intro _ _ _ x hx; omega
            | succ N ih =>
              intro hn hb hl x hx
              by_cases hN : N ∈ l
              · have hp := List.perm_cons_erase hN
                have hn' : (l.erase N).Nodup := hn.erase N
                have hN' : N ∉ l.erase N := fun hh => (List.Nodup.mem_erase_iff hn).1 hh |>.1 rfl
                have hb' : ∀ y ∈ l.erase N, y < N := fun y hy => by
                  have := hb y (List.mem_of_mem_erase hy)
                  have : y ≠ N := fun e => hN' (e ▸ hy)
                  omega
                have hl' : (l.erase N).length = N := by rw [List.length_erase_of_mem hN]; omega
                by_cases hxN : x = N
                · subst hxN; exact hN
                · exact List.mem_of_mem_erase (ih (l.erase N) hn' hb' hl' x (by omega))
              · exfalso
                have hb' : ∀ y ∈ l, y < N := fun y hy => by
                  have := hb y hy
                  have : y ≠ N := fun e => hN (e ▸ hy)
                  omega
                have hle : l.length ≤ N := by
                  have key : ∀ (M : Nat) (l : List Nat), l.Nodup → (∀ y ∈ l, y < M) → l.length ≤ M := by
                    intro M
                    induction M with
                    | zero => intro l _ hb; cases l with | nil => simp | cons y l => exact absurd (hb y (by simp)) (by omega)
                    | succ M ihM =>
                      intro l hn hb
                      by_cases hM : M ∈ l
                      · have := ihM (l.erase M) (hn.erase M) (fun y hy => by
                          have h1 := hb y (List.mem_of_mem_erase hy)
                          have : y ≠ M := fun e => (List.Nodup.mem_erase_iff hn).1 (e ▸ hy) |>.1 e
                          omega)
                        rw [List.length_erase_of_mem hM] at this
                        omega
                      · have := ihM l hn (fun y hy => by
                          have h1 := hb y hy
                          have : y ≠ M := fun e => hM (e ▸ hy)
                          omega)
                        omega
                  exact key N l hn hb'
                omega
          exact hjE (hfull E ops.size hnd hlt (by simpa using hlen) j hjl)
      exact ⟨hnone, hK _ _ (head t hf h hnone)⟩
    | succ fuel =>
      refine ⟨fun hr => hK _ _ (head t hf h hr), fun i hi => ?_⟩
      obtain ⟨hu, oi, hoi, hall⟩ := mem_ready.1 hi
      obtain ⟨hil, hiE⟩ := (h1 i).1 hu
      have hwE : ∀ y, waitsB masks i y = true → y ∈ E := by
        intro y hy
        obtain ⟨e, he, hb, hh⟩ := hm i oi hoi y hy
        have hon : e.on ∈ E := (h2 e.on).1 (hall e he hb)
        rcases hh with rfl | hh
        · exact hon
        · exact hc _ hon y hh
      have hl1 : ∀ j, (listed.setIfInBounds i true).getD j true = false ↔ (j < ops.size ∧ j ∉ i :: E) := by
        intro j
        by_cases hji : j = i
        · subst hji; simp [hsize, hil]
        · rw [getD_set_ne true (fun e => hji e.symm), h1 j]; simp [hji]
      have hl2 : ∀ j, (listed.setIfInBounds i true).getD j false = true ↔ j ∈ i :: E := by
        intro j
        by_cases hji : j = i
        · subst hji; simp [hsize, hil]
        · rw [getD_set_ne false (fun e => hji e.symm), h2 j]; simp [hji]
      have hnd' : (i :: E).Nodup := List.nodup_cons.2 ⟨hiE, hnd⟩
      have hlt' : ∀ j ∈ i :: E, j < ops.size := by
        intro j hj
        rcases List.mem_cons.1 hj with rfl | hj
        · exact hil
        · exact hlt j hj
      by_cases hq : isEff P ops i = true
      · obtain ⟨te, hte, hcov'⟩ := hcov i hil hq (fun hh => hiE ((hF i hq).1 hh)) (fun y _ hy hwy => (hF y hy).2 (hwE y hwy))
        have heff := effs_mve hq t
        rw [hte] at heff
        simp only [Option.map_eq_some_iff] at heff
        obtain ⟨t', ht', rfl⟩ := heff
        have hmv := move_e A t t' E a w hiE hc ⟨_, hf⟩ hpo ht' hwE hsz h
        refine stp_wpOp (stp_mono' hoi (fun u w' ⟨_, hs⟩ => ?_) hmv)
        refine any_of_SST A hm hd hK fuel t' (i :: E) (i :: F) (listed.setIfInBounds i true) _ w' (by simpa using hsize) hl1 hl2 ?_ hnd' hlt' (by simp; omega) (closed_cons hc hwE) (FT_mve t t' E ht' hwE hiE hf) (PO_mve t t' [] ht' hpo) hcov' (by rw [put_size]; exact hsz) hs
        intro j hj
        simp only [List.mem_cons, hF j hj]
      · have hq' : isEff P ops i = false := by simpa using hq
        have hmv := move_q A hq' hil t E a w hiE hc hf hpo hwE hsz h
        refine stp_wpOp (stp_mono' hoi (fun u w' ⟨_, hs⟩ => ?_) hmv)
        refine any_of_SST A hm hd hK fuel (mvq i t) (i :: E) F (listed.setIfInBounds i true) _ w' (by simpa using hsize) hl1 hl2 ?_ hnd' hlt' (by simp; omega) (closed_cons hc hwE) (FT_mvq t E hwE hiE hf) (PO_mvq t [] hpo) ?_ (by rw [put_size]; exact hsz) hs
        · intro j hj
          rw [hF j hj, List.mem_cons]
          constructor
          · exact fun h => .inr h
          · rintro (rfl | h)
            · rw [hj] at hq; exact absurd rfl hq
            · exact h
        · rw [effs_mvq hq']; exact Cov_mono _ _ _ hcov

/-! ### The check -/

def noSel (o : Oper) : Bool := match o.op with | .select .. => false | _ => true

def ftB (masks : List Nat) (N : Nat) : BT → List Nat → Bool
  | .nil, E => (List.range N).all fun j => E.contains j
  | .cons x t, E => !E.contains x && (List.range N).all (fun y => !waitsB masks x y || E.contains y) && ftB masks N t (x :: E)
  | .both a b, E => ftB masks N a E && ftB masks N b E

def poB (P : Program) (ops : Array Oper) (masks : List Nat) : BT → List Nat → Bool
  | .nil, _ => true
  | .cons i t, L => L.all (fun r => waitsB masks i r || okPair P ops r i || (isEff P ops r && isEff P ops i)) && poB P ops masks t (i :: L)
  | .both a b, L => poB P ops masks a L && poB P ops masks b L

def covB (P : Program) (ops : Array Oper) (masks : List Nat) (N : Nat) : Nat → BT → List Nat → Bool
  | 0, _, _ => true
  | f + 1, t, E => (List.range N).all fun i => !isEff P ops i || E.contains i || !((List.range N).all fun y => !isEff P ops y || !waitsB masks i y || E.contains y) ||
      match mve P ops i t with
      | some t' => covB P ops masks N f t' (i :: E)
      | none => false

def drawOk (P : Program) (n : Nat) (ops : Array Oper) (t : BT) (masks : List Nat) : Bool :=
  let k := ops.size
  let r := List.range k
  masks.all (fun m => Nat.blt m (2 ^ k)) && ftB masks k t [] && poB P ops masks t [] && covB P ops masks k k (effs P ops t) [] &&
  ops.toList.all noSel &&
  r.all (fun i => match ops[i]? with
    | none => false
    | some o => r.all (fun y => !waitsB masks i y || o.after.toList.any fun e => Region.binds .any e && (Nat.beq e.on y || waitsB masks e.on y)) &&
        o.after.toList.all (fun e => !Region.binds .any e || waitsB masks i e.on) &&
        (!isLoad o.op || ((match o.dst with | some d => Nat.blt d n && !(o.looksAt ops).contains d | none => false) && r.all fun x => Nat.beq x i || waitsB masks i x || keepsB ops x i)))

end
end Go.Dm
