/- A part of the proof that doormanlaw21.LinOpen returns true for every input, on no condition. -/
import Derived.Test.YtbfajkpjilhkgaaGreatFw16
set_option linter.unusedVariables false
set_option linter.unusedSimpArgs false
/-! What is asked with boxes apart suffices: functions. -/
namespace Go.Dm
open Go

theorem least_of {p : Nat → Prop} : ∀ (m : Nat), p m → ∃ k, p k ∧ ∀ j, p j → k ≤ j := by
  intro m
  induction m using Nat.strongRecOn with
  | _ m ih =>
    intro h
    by_cases hh : ∃ j, j < m ∧ p j
    · obtain ⟨j, hj, hp⟩ := hh; exact ih j hj hp
    · exact ⟨m, h, fun j hj => Nat.le_of_not_lt fun hlt => hh ⟨j, hlt, hj⟩⟩

section
variable {P : Program} {n : Nat} {B : BL} {D : DL}
variable {st : St} {e : Env} {u : World} {X : Nat → Prop} {er : Env} {w : World} {β : Nat → Nat}

theorem An.st_L (an : An) : an.st.L = maskOf an.js := by cases an <;> rfl

theorem toJ_e {an : An} {K : Env → World → (Nat → Prop) → Prop} (h : toJ an st e u X K) (r : Rel n B D st e u X er w β) :
    ∃ u' X', K (trimE an.js e) u' X' ∧ Rel n B D an.st (trimE an.js e) u' X' er w β := by
  unfold toJ at h
  have key : ∀ (st' : St) u' X', Rel n B D st' e u' X' er w β → st'.d ≤ an.st.d →
      (match Nat.beq (Nat.land an.st.L st'.L) an.st.L, (match st'.hx with | true => an.st.hx | false => true) with
      | true, true => K (trimE an.js e) u' X'
      | _, _ => False) → K (trimE an.js e) u' X' ∧ Rel n B D an.st (trimE an.js e) u' X' er w β := by
    intro st' u' X' r' hd hk
    split at hk
    · rename_i h1 h2
      refine ⟨hk, ?_⟩
      have hb : ∀ t, bit an.st.L t = true → bit st'.L t = true := fun t ht => bit_sub h1 ht
      have hj : ∀ t, bit an.st.L t = true → trimE an.js e t = e t := fun t ht => trimE_mem (bit_mask.1 (by rw [← An.st_L]; exact ht))
      refine ⟨fun t ht hpl => by rw [hj t ht]; exact r'.pl t (hb t ht) hpl, fun t k g hl ht => by rw [hj t ht]; exact r'.bx t k g hl (hb t ht),
        fun s t k g k' g' a1 a2 a3 a4 => r'.df s t k g k' g' a1 a2 (hb s a3) (hb t a4), fun t b off a1 a2 a3 => r'.dr t b off a1 a2 (hb t a3), r'.fr, fun hh => r'.f1 (by omega), fun hh => r'.f0 (by omega), r'.lt, fun hh => ?_⟩
      refine r'.nx ?_
      cases hx : st'.hx with
      | false => rfl
      | true => rw [hx] at h2; simp only at h2; rw [hh] at h2; cases h2
    · exact hk.elim
  unfold syIf at h
  split at h
  · obtain ⟨X', h1, h2⟩ := r.sync
    exact ⟨w, X', key _ _ _ h2 (Nat.zero_le _) (h _ _ h1)⟩
  · rename_i hc
    refine ⟨u, X, key _ _ _ r ?_ h⟩
    have := blt_not hc; omega

def ThenQ (n : Nat) (B : BL) (D : DL) (Q : QB) (M : QT) : Prop := ∀ ex st e u X er w β, Q ex st e u X → Rel n B D st e u X er w β → M ex er w

theorem Rel.drew (hd : st.d = 0) (r : Rel n B D st e u X er w β) : Rel n B D st e (drewW u) X er (drewW w) β := by
  have hu := r.f0 hd
  subst hu
  exact r.go (w' := drewW w) hd (fun _ _ => rfl) |> fun r' => ⟨r'.pl, r'.bx, r'.df, r'.dr, r'.fr, r'.f1, r'.f0, r'.lt, r'.nx⟩

theorem vcB_e {pm : Plans} {gm : GM} : ∀ (c : Code) (an : An) {st : St} {e : Env} {u : World} {X : Nat → Prop} {er : Env} {w : World} {β : Nat → Nat} {Q : QB} {M : QT},
    vcB P n B D pm gm c an st e u X Q → Rel n B D st e u X er w β → ThenQ n B D Q M → vc P n pm c er w M
  | .skip, _, _, _, _, _, _, _, _, _, _, h, r, hM => hM _ _ _ _ _ _ _ _ h r
  | .label _, _, _, _, _, _, _, _, _, _, _, h, r, hM => hM _ _ _ _ _ _ _ _ h r
  | .region id ops d, _, st, e, u, X, er, w, β, Q, M, h, r, hM => by
    unfold vcB at h
    unfold vc
    cases d with
    | false => exact listB_e _ _ _ h r fun _ _ _ _ _ _ _ hk rr => hM _ _ _ _ _ _ _ _ hk rr
    | true =>
      simp only at h ⊢
      split at h
      · rename_i hok
        rw [hok]
        have fin : ∀ st' u' X', (match linT (lookP pm id).1 with
              | some l => match npend P ops (lookP pm id).2 [] l with
                | true => listB P n B D ops l.length (lookG gm id) (permO ops l) st' e (drewW u') X' fun st e u X => Q .normal st e u X
                | false => treeB P n B D ops (lookP pm id).2 (lookP pm id).1 [] st' e (drewW u') X' fun st e u X => Q .normal st e u X
              | none => treeB P n B D ops (lookP pm id).2 (lookP pm id).1 [] st' e (drewW u') X' fun st e u X => Q .normal st e u X) →
            Rel n B D st' e u' X' er w β → st'.d = 0 → vcT P n ops (lookP pm id).2 (lookP pm id).1 [] er (drewW w) fun e' w' => M .normal e' w' := by
          intro st' u' X' h' r' hd
          split at h'
          · rename_i l hl
            split at h'
            · rename_i hn
              exact npend_e _ _ _ hl hn (listB_e _ _ _ h' (r'.drew hd) fun _ _ _ _ _ _ _ hk rr => hM _ _ _ _ _ _ _ _ hk rr)
            · exact treeB_e _ _ h' (r'.drew hd) fun _ _ _ _ _ _ _ hk rr => hM _ _ _ _ _ _ _ _ hk rr
          · exact treeB_e _ _ h' (r'.drew hd) fun _ _ _ _ _ _ _ hk rr => hM _ _ _ _ _ _ _ _ hk rr
        unfold syIf at h
        split at h
        · obtain ⟨X', h1, h2⟩ := r.sync
          exact fin _ _ _ (h _ _ h1) h2 rfl
        · rename_i hc
          refine fin _ _ _ h r ?_
          rcases Nat.eq_zero_or_pos st.d with hz | hz
          · exact hz
          · have := Nat.ble_eq_true_of_le hz; rw [this] at hc; cases hc
      · exact h.elim
  | .seq a b, an, _, _, _, _, er, w, _, Q, M, h, r, hM => by
    have key : vc P n pm a er w (thn (fun e' w' => vc P n pm b e' w' M) M) → vc P n pm (.seq a b) er w M := by
      intro hk
      unfold vc
      split <;> exact hk
    refine key ?_
    unfold vcB at h
    split at h
    · refine vcB_e a an.lf h r ?_
      intro ex st e u X er w β hk rr
      cases ex <;> first | exact vcB_e b an.rt hk rr hM | exact hM _ _ _ _ _ _ _ _ hk rr
    · refine vcB_e a an.lf h r ?_
      intro ex st e u X er w β hk rr
      cases ex with
      | normal =>
        have hk : toJ an st e u X fun e u X => vcB P n B D pm gm b an.rt an.st e u X Q := hk
        obtain ⟨u', X', h1, r1⟩ := toJ_e hk rr
        exact vcB_e b an.rt h1 r1 hM
      | _ => exact hM _ _ _ _ _ _ _ _ hk rr
  | .cond c a b, an, _, _, _, _, _, _, _, Q, M, h, r, hM => by
    unfold vcB at h
    unfold vc
    split at h
    · rename_i hok
      obtain ⟨t, hv, h1, h2⟩ := h
      refine ⟨t, by rw [okO_rd hok r]; exact hv, fun ht => vcB_e a an.lf (h1 ht) r hM, fun ht => vcB_e b an.rt (h2 ht) r hM⟩
    · exact h.elim
  | .block id c, an, _, _, _, _, _, _, _, Q, M, h, r, hM => by
    unfold vcB at h
    unfold vc
    refine vcB_e c an h r ?_
    intro ex st e u X er w β hk rr
    cases ex with
    | exit i =>
      simp only [inBB] at hk
      simp only [inB]
      split at hk
      · rename_i hb; rw [hb]; exact hM _ _ _ _ _ _ _ _ hk rr
      · rename_i hb; rw [hb]; exact hM _ _ _ _ _ _ _ _ hk rr
    | _ => exact hM _ _ _ _ _ _ _ _ hk rr
  | .loop c, an, _, _, _, _, er, w, β, Q, M, h, r, hM => by
    unfold vcB at h
    unfold vc lpC
    obtain ⟨u', X', ⟨I, ⟨m0, h0⟩, hr⟩, r'⟩ := toJ_e h r
    let Ir : Nat → Env → World → Prop := fun m er w => ∃ e u X β, I m e u X ∧ Rel n B D an.st e u X er w β
    have hl : ∀ er w, (∃ m, Ir m er w) → ∃ k, Ir k er w ∧ ∀ j, Ir j er w → k ≤ j := fun er w ⟨m, hm⟩ => least_of m hm
    let μ : Env → World → Nat := fun er w => open Classical in if hh : ∃ m, Ir m er w then Classical.choose (hl er w hh) else 0
    have hμ : ∀ er w (hh : ∃ m, Ir m er w), Ir (μ er w) er w ∧ ∀ j, Ir j er w → μ er w ≤ j := fun er w hh => by
      have := Classical.choose_spec (hl er w hh)
      simp only [μ, dif_pos hh]
      exact this
    refine ⟨fun er w => ∃ m, Ir m er w, μ, ⟨m0, _, _, _, _, h0, r'⟩, fun er1 w1 h1 => ?_⟩
    obtain ⟨⟨e2, u2, X2, β2, hI, r2⟩, hmin⟩ := hμ er1 w1 h1
    refine vcB_e c an.lf (hr _ e2 u2 X2 hI) r2 ?_
    intro ex st3 e3 u3 X3 er3 w3 β3 hq r3
    cases ex with
    | normal =>
      have hq : toJ an st3 e3 u3 X3 fun e2 u2 X2 => ∃ m', m' < μ er1 w1 ∧ I m' e2 u2 X2 := hq
      obtain ⟨u4, X4, ⟨m', hm', hI'⟩, r4⟩ := toJ_e hq r3
      have hex : ∃ m, Ir m er3 w3 := ⟨m', _, _, _, _, hI', r4⟩
      refine ⟨hex, ?_⟩
      have hs' := (hμ er3 w3 hex).2 m' ⟨_, _, _, _, hI', r4⟩
      exact Nat.lt_of_le_of_lt hs' hm'
    | _ => exact hM _ _ _ _ _ _ _ _ hq r3
  | .exit id, _, _, _, _, _, _, _, _, _, _, h, r, hM => hM _ _ _ _ _ _ _ _ h r
  | .ret, _, _, _, _, _, _, _, _, _, _, h, r, hM => hM _ _ _ _ _ _ _ _ h r
  | .scope c, an, _, _, _, _, _, _, _, Q, M, h, r, hM => by
    unfold vcB at h
    unfold vc
    exact vcB_e c an h r hM
  | .goto l, _, _, _, _, _, _, _, _, _, _, h, _, _ => h.elim
  | .refuse _, _, _, _, _, _, _, _, _, _, _, h, _, _ => h.elim
  | .rangeFunc .., _, _, _, _, _, _, _, _, _, _, h, _, _ => h.elim

theorem resB_e : ∀ (rs : List ResultVar) {K Kr : List Value → Prop}, resB P n B D rs st e u K → Rel n B D st e u X er w β → (∀ vs, K vs → Kr vs) → resC P n rs er w Kr
  | [], _, _, h, _, hk => hk _ h
  | .tmp t :: rs, K, Kr, h, r, hk => by
    unfold resB at h
    unfold resC
    split at h
    · rename_i hok
      rw [okO_rd hok r]
      exact resB_e rs h r fun vs hv => hk _ hv
    · exact h.elim
  | .cell a t :: rs, K, Kr, h, r, hk => by
    unfold resB at h
    unfold resC
    split at h
    · rename_i g k hg hs
      simp only [hg, hs]
      split at h
      · rename_i b k' g' off hb
        obtain ⟨h1, h2, h3⟩ := boxOf_rd hb r
        obtain ⟨v, hv, hK⟩ := ldB_e h h3 h2 r
        rw [h1]
        exact ⟨v, hv, resB_e rs hK r fun vs hv => hk _ hv⟩
      · split at h
        · rename_i hok hd
          have hd := Nat.blt_eq.mp hd
          rw [okO_rd hok r]
          obtain ⟨v, ⟨b, off, cs, ha, hb, hv⟩, hK⟩ := h
          exact ⟨v, ⟨b, off, cs, ha, (r.f1 hd).blk hb id, hv⟩, resB_e rs hK r fun vs hv => hk _ hv⟩
        · exact h.elim
    · exact h.elim

theorem argsOk_e : ∀ {k t : Nat}, argsOk B D k = true → t < k → isPl B D t = true
  | k + 1, t, h, ht => by
    unfold argsOk at h
    split at h
    · rename_i hk
      rcases Nat.lt_or_ge t k with h1 | h1
      · exact argsOk_e h h1
      · rw [show t = k by omega]; exact hk
    · cases h

theorem argMask_bit : ∀ {k t : Nat}, bit (argMask k) t = true → t < k
  | 0, t, h => by unfold argMask at h; rw [bit_eq] at h; simp at h
  | k + 1, t, h => by
    rcases (bit_setb _ _ _).1 h with rfl | h
    · omega
    · have := argMask_bit h; omega

theorem syEnd_e {R : World → Prop} (h : syIf (Nat.ble 1 st.d) st u X fun _ u _ => R u) (r : Rel n B D st e u X er w β) : R w := by
  unfold syIf at h
  split at h
  · obtain ⟨X', h1, h2⟩ := r.sync
    exact h _ _ h1
  · rename_i hc
    have : st.d = 0 := by
      rcases Nat.eq_zero_or_pos st.d with hz | hz
      · exact hz
      · have := Nat.ble_eq_true_of_le hz; rw [this] at hc; cases hc
    rw [r.f0 this]; exact h
end

/-- **What is asked with boxes apart suffices.** -/
theorem vcFB_sound {P : Program} (hm : P.follows .mixedOrders = true) {B : BL} {D : DL} {an : An} {pm : Plans} {gm : GM} {f : FuncId} {args : List Value} {w : World} {R : Value → World → Prop} (h : vcFB P B D an pm gm f args w R) :
    CallsR P f args.toArray w R := by
  refine vcFn_sound hm (pm := pm) ?_
  unfold vcFB at h
  unfold vcFn
  split at h
  · rename_i fn hfn
    simp only [hfn]
    split at h
    · rename_i c hb hle
      simp only [hb, hle]
      split at h
      · rename_i hok
        have r0 : Rel fn.ntmps B D ⟨argMask args.length, 0, false⟩ (envOf args) w no (envOf args) w (fun _ => 0) := by
          refine ⟨fun _ _ _ => rfl, fun t k g hl hb => ?_, fun s t k g k' g' h1 h2 h3 => ?_, fun t b off h1 h2 h3 => ?_, Fr.refl _ _, fun _ => Fr.refl _ _, fun _ => rfl, fun b hb => hb.elim, fun _ b hb => hb⟩
          · have := isPl_B (argsOk_e hok (argMask_bit hb)); rw [hl] at this; cases this
          · have := isPl_B (argsOk_e hok (argMask_bit h3)); rw [h1] at this; cases this
          · have := isPl_D (argsOk_e hok (argMask_bit h3)); rw [h2] at this; cases this
        refine vcB_e c an h r0 ?_
        intro ex st e u X er w β hk r
        cases ex with
        | normal => exact resB_e _ hk r fun vs hv => syEnd_e (R := fun w => R (oneOr vs) w) hv r
        | ret => exact resB_e _ hk r fun vs hv => syEnd_e (R := fun w => R (oneOr vs) w) hv r
        | _ => exact hk.elim
      · exact h.elim
    · exact h.elim
  · exact h.elim
theorem vcFB_go {P : Program} (hm : P.follows .mixedOrders = true) (B : BL) (D : DL) (an : An) (pm : Plans) (gm : GM) (f : FuncId) (args : List Value) {w : World} {R : Value → World → Prop} {S : Prop} (he : vcFB P B D an pm gm f args w R = S) (h : S) :
    CallsR P f args.toArray w R := vcFB_sound hm (B := B) (D := D) (an := an) (pm := pm) (gm := gm) (by rw [he]; exact h)
end Go.Dm
