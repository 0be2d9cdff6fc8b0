/- A part of the proof that doormanlaw21.LinOpen returns true for every input, on no condition. -/
import Derived.Test.YtbfajkpjilhkgaaGreatFw14
set_option linter.unusedVariables false
set_option linter.unusedSimpArgs false
/-! What is asked with boxes apart suffices. -/
namespace Go.Dm
open Go

section
variable {P : Program} {n : Nat} {B : BL} {D : DL}

structure Rel (n : Nat) (B : BL) (D : DL) (st : St) (e : Env) (u : World) (X : Nat → Prop) (er : Env) (w : World) (β : Nat → Nat) : Prop where
  pl : ∀ t, bit st.L t = true → isPl B D t = true → er t = e t
  bx : ∀ t k g, lookB B t = some (k, g) → bit st.L t = true → t < n ∧ er t = .pointer (some ⟨β t, 0, none⟩) ∧ own w (β t) = some (e t).cells.toList ∧ (e t).cells.size = k ∧
    (g = true → ∃ cs, e t = .agg cs) ∧ (g = false → one1 (e t) = true) ∧ (X (β t) ∨ u.heap.size ≤ β t)
  df : ∀ s t k g k' g', lookB B s = some (k, g) → lookB B t = some (k', g') → bit st.L s = true → bit st.L t = true → s ≠ t → β s ≠ β t
  dr : ∀ t b off, lookB B t = none → lookD D t = some (b, off) → bit st.L t = true → t < n ∧ er t = .pointer (some ⟨β b, off, none⟩)
  fr : Fr X u w
  f1 : st.d < 2 → Fr no u w
  f0 : st.d = 0 → w = u
  lt : ∀ b, X b → b < u.heap.size
  nx : st.hx = false → ∀ b, ¬ X b

variable {st : St} {e : Env} {u : World} {X : Nat → Prop} {er : Env} {w : World} {β : Nat → Nat}

theorem okO_rd {x : Operand} (h : okO B D st.L x = true) (r : Rel n B D st e u X er w β) : rd n er x = rd n e x := by
  unfold okO at h
  split at h
  · rename_i t
    split at h
    · rename_i hb
      simp only [rd]
      rw [r.pl t hb h]
    · cases h
  · rename_i hx
    cases x with
    | tmp t => exact absurd rfl (hx t)
    | const v => rfl
    | global g => rfl
    | func f => rfl

theorem okL_rd {l : List Operand} (h : okL B D st.L l = true) (r : Rel n B D st e u X er w β) : ∀ x ∈ l, rd n er x = rd n e x := by
  induction l with
  | nil => intro x hx; cases hx
  | cons a l ih =>
    unfold okL at h
    split at h
    · rename_i h1
      intro x hx
      rcases List.mem_cons.1 hx with rfl | hx
      · exact okO_rd h1 r
      · exact ih h x hx
    · cases h

theorem boxOf_rd {a : Operand} {b k off : Nat} {g : Bool} (h : boxOf B D st.L a = some (b, k, g, off)) (r : Rel n B D st e u X er w β) :
    rd n er a = .pointer (some ⟨β b, off, none⟩) ∧ bit st.L b = true ∧ lookB B b = some (k, g) := by
  unfold boxOf at h
  split at h
  · rename_i t
    split at h
    · rename_i hb
      split at h
      · rename_i k' g' hl
        simp only [Option.some.injEq, Prod.mk.injEq] at h
        obtain ⟨rfl, rfl, rfl, rfl⟩ := h
        obtain ⟨h1, h2, _⟩ := r.bx t _ _ hl hb
        refine ⟨?_, hb, hl⟩
        simp only [rd]
        rw [show Nat.blt t n = true from by rw [Nat.blt_eq]; exact h1]
        exact h2
      · rename_i hl
        split at h
        · rename_i b' off' hd
          split at h
          · rename_i k' g' hbb hlb
            simp only [Option.some.injEq, Prod.mk.injEq] at h
            obtain ⟨rfl, rfl, rfl, rfl⟩ := h
            obtain ⟨h1, h2⟩ := r.dr t _ _ hl hd hb
            refine ⟨?_, hbb, hlb⟩
            simp only [rd]
            rw [show Nat.blt t n = true from by rw [Nat.blt_eq]; exact h1]
            exact h2
          · cases h
        · cases h
    · cases h
  · cases h

theorem cells_one {v : Value} (h : one1 v = true) : v.cells = #[v] := by
  cases v <;> first | rfl | (cases h)

theorem isPl_B {t : Nat} (h : isPl B D t = true) : lookB B t = none := by
  unfold isPl at h; split at h
  · assumption
  · cases h
theorem isPl_D {t : Nat} (h : isPl B D t = true) : lookD D t = none := by
  unfold isPl at h; split at h
  · assumption
  · cases h

/-- A plain temp gets a value. -/
theorem Rel.put {dst : Option Nat} (hd : dstOk B D dst = true) (v : Value) (r : Rel n B D st e u X er w β) : Rel n B D (putSt st dst) (upo e dst v) u X (upo er dst v) w β := by
  cases dst with
  | none => exact r
  | some d =>
    have hp : isPl B D d = true := hd
    have hne : ∀ t, lookB B t ≠ none ∨ lookD D t ≠ none → Nat.beq t d = false := by
      intro t ht
      cases hh : Nat.beq t d with
      | false => rfl
      | true =>
        have := Nat.eq_of_beq_eq_true hh; subst this
        rcases ht with ht | ht
        · exact absurd (isPl_B hp) ht
        · exact absurd (isPl_D hp) ht
    have hbit : ∀ t, (lookB B t ≠ none ∨ lookD D t ≠ none) → bit (setb st.L d) t = true → bit st.L t = true := by
      intro t ht hb
      rcases (bit_setb _ _ _).1 hb with rfl | hb
      · have := hne _ ht; simp at this
      · exact hb
    refine ⟨fun t hb hpl => ?_, fun t k g hl hb => ?_, fun s t k g k' g' h1 h2 h3 h4 => ?_, fun t b off hl hdd hb => ?_, r.fr, r.f1, r.f0, r.lt, r.nx⟩
    · simp only [upo, upd]
      split
      · rfl
      · rename_i hh
        refine r.pl t ?_ hpl
        rcases (bit_setb _ _ _).1 hb with rfl | hb
        · simp at hh
        · exact hb
    · have h1 : lookB B t ≠ none ∨ lookD D t ≠ none := .inl (by rw [hl]; simp)
      have := r.bx t k g hl (hbit t h1 hb)
      simp only [upo, upd, hne t h1]
      exact this
    · exact r.df s t k g k' g' h1 h2 (hbit s (.inl (by rw [h1]; simp)) h3) (hbit t (.inl (by rw [h2]; simp)) h4)
    · have h1 : lookB B t ≠ none ∨ lookD D t ≠ none := .inr (by rw [hdd]; simp)
      have := r.dr t b off hl hdd (hbit t h1 hb)
      simp only [upo, upd, hne t h1]
      exact this

theorem Rel.sync (r : Rel n B D st e u X er w β) : ∃ X', Sy u X w X' ∧ Rel n B D ⟨st.L, 0, true⟩ e w X' er w β := by
  refine ⟨fun b => X b ∨ ∃ t k g, lookB B t = some (k, g) ∧ bit st.L t = true ∧ β t = b, ⟨r.fr, ?_, ?_, fun b h => .inl h⟩, ?_⟩
  · rintro b (h | ⟨t, k, g, h1, h2, rfl⟩)
    · exact .inl h
    · exact (r.bx t k g h1 h2).2.2.2.2.2.2
  · rintro b (h | ⟨t, k, g, h1, h2, rfl⟩)
    · exact Nat.lt_of_lt_of_le (r.lt b h) r.fr.size
    · exact own_lt (r.bx t k g h1 h2).2.2.1
  · refine ⟨r.pl, fun t k g hl hb => ?_, r.df, r.dr, Fr.refl _ _, fun _ => Fr.refl _ _, fun _ => rfl, ?_, fun h => by cases h⟩
    · obtain ⟨h1, h2, h3, h4, h5, h6, h7⟩ := r.bx t k g hl hb
      exact ⟨h1, h2, h3, h4, h5, h6, .inl (.inr ⟨t, k, g, hl, hb, rfl⟩)⟩
    · rintro b (h | ⟨t, k, g, h1, h2, rfl⟩)
      · exact Nat.lt_of_lt_of_le (r.lt b h) r.fr.size
      · exact own_lt (r.bx t k g h1 h2).2.2.1

theorem syIf_e {c : Bool} {K : St → World → (Nat → Prop) → Prop} (h : syIf c st u X K) (r : Rel n B D st e u X er w β) :
    ∃ st' u' X', K st' u' X' ∧ Rel n B D st' e u' X' er w β ∧ (c = true → st'.d = 0) := by
  unfold syIf at h
  split at h
  · obtain ⟨X', h1, h2⟩ := r.sync
    exact ⟨_, _, _, h _ _ h1, h2, fun _ => rfl⟩
  · exact ⟨_, _, _, h, r, fun h => by cases h⟩

/-- Memory went on. -/
theorem Rel.go {w' : World} (hd : st.d = 0) (r : Rel n B D st e u X er w β) (hk : ∀ b, X b → w'.heap[b]? = w.heap[b]?) : Rel n B D st e w' X er w' β := by
  have hu := r.f0 hd
  refine ⟨r.pl, fun t k g hl hb => ?_, r.df, r.dr, Fr.refl _ _, fun _ => Fr.refl _ _, fun _ => rfl, fun b hb => ?_, r.nx⟩
  · obtain ⟨h1, h2, h3, h4, h5, h6, h7⟩ := r.bx t k g hl hb
    have hx : X (β t) := by
      rcases h7 with h7 | h7
      · exact h7
      · exfalso; have := own_lt h3; rw [hu] at this; omega
    refine ⟨h1, h2, ?_, h4, h5, h6, .inl hx⟩
    unfold own at h3 ⊢
    rw [hk _ hx]; exact h3
  · have h1 := r.lt b hb
    rw [← hu] at h1
    have : w'.heap[b]? = some w.heap[b] := by rw [hk b hb]; simp [h1]
    exact heap_lt this

theorem ldB_e {g' g : Bool} {off sz k b : Nat} {K : Value → Prop} (h : ldB g' off sz g k (e b) K) (hl : lookB B b = some (k, g)) (hb : bit st.L b = true) (r : Rel n B D st e u X er w β) :
    ∃ v, Ld w g' sz (.pointer (some ⟨β b, off, none⟩)) v ∧ K v := by
  obtain ⟨h1, h2, h3, h4, h5, h6, h7⟩ := r.bx b k g hl hb
  have part : ∀ g', g = true → off + sz ≤ k → pv (fieldV g' off sz (e b)) K → ∃ v, Ld w g' sz (.pointer (some ⟨β b, off, none⟩)) v ∧ K v := by
    intro g' hg hle h
    obtain ⟨v, hv, hK⟩ := pv_e h
    obtain ⟨cs, hcs⟩ := h5 hg
    rw [hcs] at hv h3 h4
    simp only [Value.cells] at h3 h4
    refine ⟨v, ⟨β b, off, _, rfl, own_blk h3, ?_⟩, hK⟩
    cases g' with
    | true =>
      simp only [fieldV, Option.some.injEq] at hv; subst hv
      refine ⟨by simp [h4]; omega, ?_⟩
      congr 1
      apply Array.ext'
      simp [List.take_drop]
    | false => simpa [fieldV] using hv
  unfold ldB at h
  split at h
  · rename_i hc
    simp only [Bool.and_eq_true] at hc
    have e1 := Nat.eq_of_beq_eq_true hc.1
    have e2 := Nat.eq_of_beq_eq_true hc.2
    subst e1 e2
    obtain ⟨cs, hcs⟩ := h5 rfl
    refine ⟨e b, ⟨β b, 0, _, rfl, own_blk h3, by simp [h4], ?_⟩, h⟩
    rw [hcs] at h4 ⊢
    simp only [Value.cells] at h4 ⊢
    rw [List.drop_zero, List.take_of_length_le (by simp [h4])]
  · rename_i hc
    simp only [Bool.and_eq_true] at hc
    have e1 := Nat.eq_of_beq_eq_true hc.1
    have e2 := Nat.eq_of_beq_eq_true hc.2
    subst e1 e2
    refine ⟨e b, ⟨β b, 0, _, rfl, own_blk h3, ?_⟩, h⟩
    rw [cells_one (h6 rfl)]; rfl
  · split at h
    · rename_i hle
      exact part _ rfl (Nat.le_of_ble_eq_true hle) h
    · exact h.elim
  · exact h.elim

theorem coreB_e {o : Oper} {G : Value → World → Prop} {M : Value → World → Prop} (h : coreB P n B D st e u X o G) (r : Rel n B D st e u X er w β)
    (hM : ∀ v u' w', G v u' → Rel n B D st e u' X er w' β → M v w') : vcOp P (rd n er) o w M := by
  unfold coreB at h
  split at h
  · split at h
    · rename_i t a ho
      split at h
      · rename_i g' sz hg hs
        have hp : isPure P o.op = false := by rw [ho]; rfl
        unfold vcOp; rw [hp]; unfold effC; simp only [ho, hg, hs]
        split at h
        · rename_i b k g off hbo
          obtain ⟨h1, h2, h3⟩ := boxOf_rd hbo r
          obtain ⟨v, hv, hG⟩ := ldB_e h h3 h2 r
          rw [h1]
          exact ⟨v, hv, hM _ _ _ hG r⟩
        · split at h
          · rename_i hok hd
            have hd := Nat.blt_eq.mp hd
            rw [okO_rd hok r]
            obtain ⟨v, ⟨b, off, cs, ha, hb, hv⟩, hG⟩ := h
            exact ⟨v, ⟨b, off, cs, ha, (r.f1 hd).blk hb id, hv⟩, hM _ _ _ hG r⟩
          · exact h.elim
      · exact h.elim
    · exact h.elim
  · split at h
    · exact h.elim
    · rename_i hok
      have hag := okL_rd hok r
      split at h
      · rename_i hp
        unfold vcOp; rw [hp]
        simp only
        rw [pureV_agree hag]
        exact pv_mono h fun v hv => hM _ _ _ hv r
      · rename_i hp
        split at h
        · exact h.elim
        · rename_i hd
          have hd := Nat.eq_of_beq_eq_true hd
          have hu := r.f0 hd
          subst hu
          unfold vcOp; rw [hp]
          simp only
          refine effB_eff ?_
          rw [effB_agree hag]
          split at h
          · rename_i hm
            refine effB_mono (fun v w' hv => ?_) (effB_makes hm h)
            exact hM _ _ _ hv.2 (r.go hd fun b hb => hv.1.2 b (r.lt b hb))
          · refine effB_mono (fun v w' hv => ?_) h
            unfold kpIf at hv
            split at hv
            · exact hM _ _ _ hv.2 (r.go hd hv.1)
            · rename_i hx
              exact hM _ _ _ hv (r.go hd fun b hb => absurd hb (r.nx hx b))

theorem noDer_e {L b : Nat} : ∀ {D : DL}, noDer L b D = true → ∀ t off, lookD D t = some (b, off) → bit L t = true → False
  | [], _, t, off, h, _ => by cases h
  | (s, bt, o) :: D, hn, t, off, h, hb => by
    unfold noDer at hn
    unfold lookD at h
    split at h
    · rename_i hs
      simp only [Option.some.injEq, Prod.mk.injEq] at h
      obtain ⟨rfl, rfl⟩ := h
      have := Nat.eq_of_beq_eq_true hs; subst this
      split at hn
      · cases hn
      · rename_i hx; exact hx (by simp) hb
    · have hn' : noDer L b D = true := by
        split at hn
        · cases hn
        · exact hn
      exact noDer_e hn' t off h hb

/-- A box is made. -/
theorem Rel.mkBox {d k : Nat} {g : Bool} {c : Value} {t : TypeId} (hl : lookB B d = some (k, g)) (hnd : noDer st.L d D = true) (hdn : d < n) (hc : c.cells.size = k) (hg : g = true → ∃ cs, c = .agg cs)
    (hs : g = false → one1 c = true) (r : Rel n B D st e u X er w β) :
    Rel n B D ⟨setb st.L d, max st.d 1, st.hx⟩ (upd e d c) u X (upd er d (.pointer (some ⟨w.heap.size, 0, none⟩))) (newB w c.cells.toList t) (fun t => if t = d then w.heap.size else β t) := by
  have hnw := newB_nw w c.cells.toList t
  have hne : ∀ t, t ≠ d → Nat.beq t d = false := fun t ht => by
    cases hh : Nat.beq t d with
    | false => rfl
    | true => exact absurd (Nat.eq_of_beq_eq_true hh) ht
  have hbit : ∀ t, t ≠ d → bit (setb st.L d) t = true → bit st.L t = true := fun t ht hb => ((bit_setb _ _ _).1 hb).resolve_left ht
  have hpd : ∀ t, isPl B D t = true → t ≠ d := fun t ht h => by subst h; have := isPl_B ht; rw [hl] at this; cases this
  refine ⟨fun t hb hpl => ?_, fun t k' g' hlt hb => ?_, fun s t k1 g1 k2 g2 h1 h2 h3 h4 hst => ?_, fun t b off hlt hdt hb => ?_, r.fr.ex hnw.fr, fun h => ?_, fun h => ?_, r.lt, r.nx⟩
  · have := hpd t hpl
    simp only [upd, hne t this]
    exact r.pl t (hbit t this hb) hpl
  · by_cases htd : t = d
    · subst htd
      rw [hl] at hlt
      simp only [Option.some.injEq, Prod.mk.injEq] at hlt
      obtain ⟨rfl, rfl⟩ := hlt
      refine ⟨hdn, by simp [upd], ?_, by simpa [upd] using hc, by simpa [upd] using hg, by simpa [upd] using hs, .inr ?_⟩
      · simpa [upd] using hnw.own
      · simpa using r.fr.size
    · obtain ⟨h1, h2, h3, h4, h5, h6, h7⟩ := r.bx t k' g' hlt (hbit t htd hb)
      simp only [upd, hne t htd, if_neg htd]
      exact ⟨h1, h2, hnw.fr.own h3 id, h4, h5, h6, h7⟩
  · have hlt : ∀ t k g, lookB B t = some (k, g) → t ≠ d → bit (setb st.L d) t = true → β t < w.heap.size := fun t k g h1 h2 h3 => own_lt (r.bx t k g h1 (hbit t h2 h3)).2.2.1
    by_cases hs : s = d
    · subst hs
      have := hlt t _ _ h2 (fun h => hst h.symm) h4
      rw [if_pos rfl, if_neg (fun h => hst h.symm)]; omega
    · by_cases ht : t = d
      · subst ht
        have := hlt s _ _ h1 hst h3
        rw [if_pos rfl, if_neg hst]; omega
      · rw [if_neg hs, if_neg ht]
        exact r.df s t k1 g1 k2 g2 h1 h2 (hbit s hs h3) (hbit t ht h4) hst
  · have htd : t ≠ d := fun h => by subst h; rw [hl] at hlt; cases hlt
    have hb' := hbit t htd hb
    have hbd : b ≠ d := fun h => by subst h; exact noDer_e hnd t off hdt hb'
    simp only [upd, hne t htd, if_neg hbd]
    exact r.dr t b off hlt hdt hb'
  · exact (r.f1 (by simp only at h; omega)).ex hnw.fr
  · simp only at h; omega

/-- A box is written. -/
theorem Rel.wrBox {b k : Nat} {g : Bool} {c : Value} (hl : lookB B b = some (k, g)) (hb : bit st.L b = true) (hc : c.cells.size = k) (hg : g = true → ∃ cs, c = .agg cs)
    (hs : g = false → one1 c = true) (r : Rel n B D st e u X er w β) : Rel n B D ⟨st.L, 2, st.hx⟩ (upd e b c) u X er (putB w (β b) c.cells.toList) β := by
  obtain ⟨q1, q2, q3, q4, q5, q6, q7⟩ := r.bx b k g hl hb
  have hpt := putB_pt (ds := c.cells.toList) q3
  have hne : ∀ t, t ≠ b → Nat.beq t b = false := fun t ht => by
    cases hh : Nat.beq t b with
    | false => rfl
    | true => exact absurd (Nat.eq_of_beq_eq_true hh) ht
  refine ⟨fun t hbt hpl => ?_, fun t k' g' hlt hbt => ?_, r.df, r.dr, ?_, fun h => ?_, fun h => ?_, r.lt, r.nx⟩
  · have : t ≠ b := fun h => by subst h; have := isPl_B hpl; rw [hl] at this; cases this
    simp only [upd, hne t this]
    exact r.pl t hbt hpl
  · by_cases htb : t = b
    · subst htb
      rw [hl] at hlt
      simp only [Option.some.injEq, Prod.mk.injEq] at hlt
      obtain ⟨rfl, rfl⟩ := hlt
      refine ⟨q1, q2, ?_, by simpa [upd] using hc, by simpa [upd] using hg, by simpa [upd] using hs, q7⟩
      simpa [upd] using hpt.own
    · obtain ⟨h1, h2, h3, h4, h5, h6, h7⟩ := r.bx t k' g' hlt hbt
      simp only [upd, hne t htb]
      exact ⟨h1, h2, hpt.fr.own h3 (r.df t b _ _ _ _ hlt hl hbt hb htb), h4, h5, h6, h7⟩
  · refine r.fr.trans' hpt.fr fun a ha h => ?_
    have : a = β b := h
    subst this
    rcases q7 with h | h
    · exact h
    · omega
  · simp at h
  · simp at h

theorem splice_whole {cs vs : List Value} (h : vs.length = cs.length) : splice cs 0 vs = vs := by
  unfold splice
  simp [h]

theorem stB_e {b k off sz : Nat} {g : Bool} {v : Value} {K : Value → Prop} (h : stB off sz g k (e b) v K) (hl : lookB B b = some (k, g)) (hb : bit st.L b = true) (r : Rel n B D st e u X er w β) :
    ∃ c, K c ∧ c.cells.size = k ∧ (g = true → ∃ cs, c = .agg cs) ∧ (g = false → one1 c = true) ∧ v.cells.size = sz ∧ v.cells.toList.all one1 = true ∧ off + sz ≤ k ∧
      splice (e b).cells.toList off v.cells.toList = c.cells.toList := by
  obtain ⟨q1, q2, q3, q4, q5, q6, q7⟩ := r.bx b k g hl hb
  unfold stB at h
  split at h
  · rename_i hc
    simp only [Bool.and_eq_true] at hc
    have e1 := Nat.eq_of_beq_eq_true hc.1
    have e2 := Nat.eq_of_beq_eq_true hc.2
    subst e1 e2
    obtain ⟨h1, h2⟩ := h
    unfold okB at h1
    simp only at h1
    split at h1
    · rename_i cs
      simp only [Bool.and_eq_true] at h1
      have e3 := Nat.eq_of_beq_eq_true h1.1
      exact ⟨_, h2, e3, fun _ => ⟨_, rfl⟩, fun h => by (cases h), e3, h1.2, by omega, splice_whole (by rw [Array.length_toList, Array.length_toList, q4]; exact e3)⟩
    · cases h1
  · rename_i hc
    simp only [Bool.and_eq_true] at hc
    have e1 := Nat.eq_of_beq_eq_true hc.1
    have e2 := Nat.eq_of_beq_eq_true hc.2
    subst e1 e2
    obtain ⟨h1, h2⟩ := h
    have h1' : one1 v = true := h1
    clear h1
    rename one1 v = true => h1
    have hk1 : sz = 1 := by rw [← q4, cells_one (q6 rfl)]; rfl
    subst hk1
    exact ⟨_, h2, by rw [cells_one h1]; rfl, fun h => by (cases h), fun _ => h1, by rw [cells_one h1]; rfl, by rw [cells_one h1]; simp [h1], by omega, splice_whole (by rw [cells_one h1, Array.length_toList, Array.length_toList, q4]; rfl)⟩
  · obtain ⟨c, hv, hK⟩ := pv_e h
    obtain ⟨cs, hcs⟩ := q5 rfl
    rw [hcs] at hv q4 ⊢
    have hcc : (Value.agg cs).cells = cs := rfl
    rw [hcc] at q4 ⊢
    unfold setV at hv
    simp only at hv
    split at hv
    · rename_i hh
      obtain ⟨a1, a2, a3⟩ := hh
      simp only [Option.some.injEq] at hv; subst hv
      refine ⟨_, hK, ?_, fun _ => ⟨_, rfl⟩, fun h => by (cases h), a1, a3, by omega, rfl⟩
      show (splice cs.toList off v.cells.toList).toArray.size = k
      rw [List.size_toArray, splice_length (by simp only [Array.length_toList, a1]; omega)]
      simp [q4]
    · cases hv
  · exact h.elim

/-- An address in a box is at hand. -/
theorem Rel.der {d b off : Nat} (hl : lookB B d = none) (hdd : lookD D d = some (b, off)) (hdn : d < n) (r : Rel n B D st e u X er w β) :
    Rel n B D ⟨setb st.L d, st.d, st.hx⟩ e u X (upd er d (.pointer (some ⟨β b, off, none⟩))) w β := by
  have hne : ∀ t, t ≠ d → Nat.beq t d = false := fun t ht => by
    cases hh : Nat.beq t d with
    | false => rfl
    | true => exact absurd (Nat.eq_of_beq_eq_true hh) ht
  have hbit : ∀ t, t ≠ d → bit (setb st.L d) t = true → bit st.L t = true := fun t ht hb => ((bit_setb _ _ _).1 hb).resolve_left ht
  have hB : ∀ t k g, lookB B t = some (k, g) → t ≠ d := fun t k g ht h => by subst h; rw [hl] at ht; cases ht
  refine ⟨fun t hb hpl => ?_, fun t k g hlt hb => ?_, fun s t k g k' g' h1 h2 h3 h4 => ?_, fun t b' off' hlt hdt hb => ?_, r.fr, r.f1, r.f0, r.lt, r.nx⟩
  · have : t ≠ d := fun h => by subst h; have := isPl_D hpl; rw [hdd] at this; cases this
    simp only [upd, hne t this]
    exact r.pl t (hbit t this hb) hpl
  · have h1 := hB t k g hlt
    simp only [upd, hne t h1]
    exact r.bx t k g hlt (hbit t h1 hb)
  · exact r.df s t k g k' g' h1 h2 (hbit s (hB s _ _ h1) h3) (hbit t (hB t _ _ h2) h4)
  · by_cases htd : t = d
    · subst htd
      rw [hdd] at hdt
      simp only [Option.some.injEq, Prod.mk.injEq] at hdt
      obtain ⟨rfl, rfl⟩ := hdt
      exact ⟨hdn, by simp [upd]⟩
    · simp only [upd, hne t htd]
      exact r.dr t b' off' hlt hdt (hbit t htd hb)

end
end Go.Dm
