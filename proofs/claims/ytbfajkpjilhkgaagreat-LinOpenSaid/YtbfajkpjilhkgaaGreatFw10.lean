/- A part of the proof that doormanlaw21.LinOpen returns true for every input, on no condition. -/
import Derived.Test.YtbfajkpjilhkgaaGreatFw9
import Derived.Scope
set_option linter.unusedVariables false
set_option linter.unusedSimpArgs false
/-! What is asked of code, and that it suffices. -/
namespace Go.Dm
open Go

section
variable {P : Program} {ops : Array Oper} {masks : List Nat} {n : Nat}

theorem waits_lt (hlt : ∀ m ∈ masks, m < 2 ^ n) {x y : Nat} (hy : waitsB masks x y = true) : y < n := by
  unfold waitsB maskAt at hy
  rcases Nat.lt_or_ge y n with h | h
  · exact h
  · exfalso
    have hb : masks.getD x 0 < 2 ^ n := by
      rcases Nat.lt_or_ge x masks.length with hxl | hxl
      · simp only [List.getD_eq_getElem?_getD, List.getElem?_eq_getElem hxl, Option.getD_some]
        exact hlt _ (List.getElem_mem hxl)
      · simp [List.getD_eq_getElem?_getD, List.getElem?_eq_none hxl, Nat.two_pow_pos]
    rw [Nat.testBit_lt_two_pow (Nat.lt_of_lt_of_le hb (Nat.pow_le_pow_right (by omega) h))] at hy
    cases hy

theorem ftB_spec (hlt : ∀ m ∈ masks, m < 2 ^ n) : ∀ (t : BT) (E : List Nat), ftB masks n t E = true → FT masks n t E
  | .nil, E, h => by
    simp only [ftB, List.all_eq_true, List.mem_range] at h
    exact fun j hj => List.contains_iff_mem.1 (h j hj)
  | .cons x t, E, h => by
    simp only [ftB, Bool.and_eq_true, List.all_eq_true, List.mem_range, Bool.or_eq_true, Bool.not_eq_true'] at h
    obtain ⟨⟨h2, h1⟩, h3⟩ := h
    refine ⟨fun hm => (by rw [List.contains_iff_mem.2 hm] at h2; cases h2), fun y hy => ?_, ftB_spec hlt t _ h3⟩
    rcases h1 y (waits_lt hlt hy) with h | h
    · rw [hy] at h; cases h
    · exact List.contains_iff_mem.1 h
  | .both a b, E, h => by
    simp only [ftB, Bool.and_eq_true] at h
    exact ⟨ftB_spec hlt a E h.1, ftB_spec hlt b E h.2⟩

theorem poB_spec : ∀ (t : BT) (L : List Nat), poB P ops masks t L = true → PO P ops masks t L
  | .nil, _, _ => trivial
  | .cons i t, L, h => by
    simp only [poB, Bool.and_eq_true, List.all_eq_true, Bool.or_eq_true] at h
    exact ⟨fun r hr => by rcases h.1 r hr with (h | h) | h <;> simp [h], poB_spec t _ h.2⟩
  | .both a b, L, h => by
    simp only [poB, Bool.and_eq_true] at h
    exact ⟨poB_spec a L h.1, poB_spec b L h.2⟩

theorem covB_spec {N : Nat} : ∀ (f : Nat) (t : BT) (E : List Nat), covB P ops masks N f t E = true → Cov P ops masks N f t E
  | 0, _, _, _ => trivial
  | f + 1, t, E, h => by
    simp only [covB, List.all_eq_true, List.mem_range] at h
    intro i hi he hiE hw
    have := h i hi
    simp only [Bool.or_eq_true, Bool.not_eq_true'] at this
    rcases this with ((h1 | h1) | h1) | h1
    · rw [he] at h1; cases h1
    · exact absurd (List.contains_iff_mem.1 h1) hiE
    · exfalso
      have : ((List.range N).all fun y => !isEff P ops y || !waitsB masks i y || E.contains y) = true := by
        rw [List.all_eq_true]
        intro y hy
        simp only [Bool.or_eq_true, Bool.not_eq_true']
        by_cases hey : isEff P ops y = true
        · by_cases hwy : waitsB masks i y = true
          · right; exact List.contains_iff_mem.2 (hw y (List.mem_range.1 hy) hey hwy)
          · left; right; simpa using hwy
        · left; left; simpa using hey
      rw [this] at h1; cases h1
    · split at h1
      · rename_i t' ht'; exact ⟨t', ht', covB_spec f t' _ h1⟩
      · cases h1

theorem draw_sound {ro : Option Nat} {t : BT} {id : Nat} (hm : P.follows .mixedOrders = true) (h : drawOk P n ops t masks = true) {Q : Exit → Act → World → Prop} {K : Act → World → Prop}
    (hK : ∀ a w, K a w → Q .normal a w) {a : Act} {w : World} (hsz : a.tmps.size = n) (hs : SST P ops masks K t [] a (drewW w)) : (Code.region id ops true).wpIn (Wd ro) 0 P Q a w := by
  unfold drawOk at h
  simp only [Bool.and_eq_true] at h
  obtain ⟨⟨⟨⟨⟨h0, h1⟩, h2⟩, h3⟩, h5⟩, h6⟩ := h
  rw [List.all_eq_true] at h0 h5 h6
  have hmask : ∀ m ∈ masks, m < 2 ^ ops.size := fun m hm => blt_lt (h0 m hm)
  have hsel : ∀ (j : Nat) (o : Oper) cs b, ops[j]? = some o → o.op ≠ .select cs b := by
    intro j o cs b hj hc
    have hmem : o ∈ ops.toList := by
      have := Array.mem_of_getElem? hj
      exact Array.mem_toList_iff.2 this
    have := h5 o hmem
    unfold noSel at this; rw [hc] at this; cases this
  have hrow : ∀ (i : Nat) (o : Oper), ops[i]? = some o → (∀ y, y < ops.size → waitsB masks i y = true → ∃ e ∈ o.after, Region.binds .any e = true ∧ (e.on = y ∨ waitsB masks e.on y = true)) ∧
      (∀ e ∈ o.after, Region.binds .any e = true → waitsB masks i e.on = true) ∧
      (isLoad o.op = true → (∃ d, o.dst = some d ∧ d < n ∧ d ∉ o.looksAt ops) ∧ ∀ x, x < ops.size → x ≠ i → waitsB masks i x = false → keepsB ops x i = true) := by
    intro i o hi
    have hil : i < ops.size := by
      rcases Nat.lt_or_ge i ops.size with h | h
      · exact h
      · rw [Array.getElem?_eq_none h] at hi; cases hi
    have := h6 i (List.mem_range.2 hil)
    rw [hi] at this
    simp only [Bool.and_eq_true, List.all_eq_true, Bool.or_eq_true, Bool.not_eq_true', List.any_eq_true, List.mem_range, Array.mem_toList_iff] at this
    obtain ⟨⟨k1, k2⟩, k3⟩ := this
    refine ⟨fun y hy hw => ?_, fun e he hb => ?_, fun hl => ?_⟩
    · rcases k1 y hy with h | ⟨e, he, hb, hh⟩
      · rw [hw] at h; cases h
      · exact ⟨e, he, hb, hh.imp (fun h => Nat.eq_of_beq_eq_true h) (fun h => h)⟩
    · rcases k2 e he with h | h
      · rw [hb] at h; cases h
      · exact h
    · rcases k3 with h | ⟨h, h'⟩
      · rw [hl] at h; cases h
      · constructor
        · split at h
          · rename_i d hd
            simp only [Bool.and_eq_true, Bool.not_eq_true'] at h
            exact ⟨d, hd, blt_lt h.1, fun hm => by have := h.2; rw [List.contains_iff_mem.2 hm] at this; cases this⟩
          · cases h
        · intro x hx hne hw
          rcases h' x hx with (h | h) | h
          · exact absurd (Nat.eq_of_beq_eq_true h) hne
          · rw [hw] at h; cases h
          · exact h
  have hbig : ∀ i y, waitsB masks i y = true → y < ops.size := fun i y hy => waits_lt hmask hy
  have A : Around P ops masks n := by
    refine ⟨hsel, fun r x or hor hl hne hw => ?_, fun r or hor hl => ((hrow r or hor).2.2 hl).1⟩
    rcases Nat.lt_or_ge x ops.size with h | h
    · exact ((hrow r or hor).2.2 hl).2 x h hne hw
    · unfold keepsB; rw [Array.getElem?_eq_none h]
  refine wpIn_region_any hm ?_
  refine any_of_SST A (fun i o hi y hy => (hrow i o hi).1 y (hbig i y hy) hy) (fun i o hi => (hrow i o hi).2.1) hK ops.size t [] [] _ a _ (by simp) ?_ ?_ (by simp) List.nodup_nil (by simp) (by simp) (by intro r hr; cases hr) (ftB_spec hmask t [] h1) (poB_spec t [] h2) (covB_spec _ _ _ h3) hsz hs
  · intro j
    constructor
    · intro hh
      rcases Nat.lt_or_ge j ops.size with h | h
      · exact ⟨h, by simp⟩
      · simp [h] at hh
    · intro hj; simp [hj.1]
  · intro j
    constructor
    · intro hh
      rcases Nat.lt_or_ge j ops.size with h | h
      · simp [h] at hh
      · simp [h] at hh
    · intro hj; cases hj

end
end Go.Dm
