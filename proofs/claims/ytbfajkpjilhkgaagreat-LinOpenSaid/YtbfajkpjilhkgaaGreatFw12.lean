/- A part of the proof that doormanlaw21.LinOpen returns true for every input, on no condition. -/
import Derived.Test.YtbfajkpjilhkgaaGreatFw11r
set_option linter.unusedVariables false
set_option linter.unusedSimpArgs false
/-! Frames of memory, and the steps by which conditions are met. -/
namespace Go.Dm
open Go

/-- Blocks that were there, outside S, are as they were. -/
structure Fr (S : Nat → Prop) (w w' : World) : Prop where
  size : w.heap.size ≤ w'.heap.size
  keep : ∀ b, b < w.heap.size → ¬ S b → w'.heap[b]? = w.heap[b]?
  tape : w'.tape = w.tape
  os : w'.os = w.os
  output : w'.output = w.output

def no : Nat → Prop := fun _ => False
def one (b : Nat) : Nat → Prop := fun x => x = b
def typ (w : World) (b : Nat) : Option TypeId := match w.heap[b]? with | some (.cells _ t _) => some t | _ => none

theorem Fr.refl (S : Nat → Prop) (w : World) : Fr S w w := ⟨Nat.le_refl _, fun _ _ _ => rfl, rfl, rfl, rfl⟩
theorem Fr.trans' {S T : Nat → Prop} {w w1 w2 : World} (h : Fr S w w1) (k : Fr T w1 w2) (hT : ∀ b, b < w.heap.size → T b → S b) : Fr S w w2 :=
  ⟨Nat.le_trans h.size k.size, fun b hb hS => by rw [k.keep b (Nat.lt_of_lt_of_le hb h.size) (fun ht => hS (hT b hb ht)), h.keep b hb hS], k.tape.trans h.tape, k.os.trans h.os, k.output.trans h.output⟩
theorem Fr.trans {S : Nat → Prop} {w w1 w2 : World} (h : Fr S w w1) (k : Fr S w1 w2) : Fr S w w2 := h.trans' k (fun _ _ h => h)
theorem Fr.mono {S T : Nat → Prop} {w w' : World} (h : Fr S w w') (hs : ∀ b, b < w.heap.size → S b → T b) : Fr T w w' :=
  ⟨h.size, fun b hb ht => h.keep b hb (fun hS => ht (hs b hb hS)), h.tape, h.os, h.output⟩
theorem Fr.of_no {S : Nat → Prop} {w w' : World} (h : Fr no w w') : Fr S w w' := h.mono fun _ _ h => h.elim
/-- Then nothing that was there. -/
theorem Fr.ex {S : Nat → Prop} {w w1 w2 : World} (h : Fr S w w1) (k : Fr no w1 w2) : Fr S w w2 := h.trans' k (fun _ _ h => h.elim)
/-- Then a block of one's own. -/
theorem Fr.own1 {S : Nat → Prop} {w w1 w2 : World} {b : Nat} (h : Fr S w w1) (k : Fr (one b) w1 w2) (hb : w.heap.size ≤ b) : Fr S w w2 :=
  h.trans' k (fun c hc hcb => by unfold one at hcb; omega)

theorem heap_lt {w : World} {b : Nat} {o : Obj} (h : w.heap[b]? = some o) : b < w.heap.size := by
  rcases Nat.lt_or_ge b w.heap.size with hh | hh
  · exact hh
  · rw [Array.getElem?_eq_none hh] at h; cases h
theorem own_lt {w : World} {b : Nat} {cs : List Value} (h : own w b = some cs) : b < w.heap.size := by
  unfold own at h
  split at h
  · rename_i hh; exact heap_lt hh
  · cases h
theorem blk_lt {w : World} {b : Nat} {cs : List Value} (h : blk w b = some cs) : b < w.heap.size := by
  unfold blk at h
  split at h
  · rename_i hh; exact heap_lt hh
  · cases h
theorem typ_lt {w : World} {b : Nat} {t : TypeId} (h : typ w b = some t) : b < w.heap.size := by
  unfold typ at h
  split at h
  · rename_i hh; exact heap_lt hh
  · cases h

theorem Fr.own {S : Nat → Prop} {w w' : World} (h : Fr S w w') {b : Nat} {cs : List Value} (ho : own w b = some cs) (hb : ¬ S b) : Dm.own w' b = some cs := by
  unfold Dm.own at ho ⊢; rw [h.keep b (own_lt ho) hb]; exact ho
theorem Fr.blk {S : Nat → Prop} {w w' : World} (h : Fr S w w') {b : Nat} {cs : List Value} (ho : blk w b = some cs) (hb : ¬ S b) : Dm.blk w' b = some cs := by
  unfold Dm.blk at ho ⊢; rw [h.keep b (blk_lt ho) hb]; exact ho
theorem Fr.typ {S : Nat → Prop} {w w' : World} (h : Fr S w w') {b : Nat} {t : TypeId} (ho : typ w b = some t) (hb : ¬ S b) : Dm.typ w' b = some t := by
  unfold Dm.typ at ho ⊢; rw [h.keep b (typ_lt ho) hb]; exact ho
theorem no_not (b : Nat) : ¬ no b := id

/-- A new block. -/
structure Nw (w : World) (b : Nat) (cs : List Value) (t : TypeId) (w' : World) : Prop where
  own : own w' b = some cs
  typ : typ w' b = some t
  eq : b = w.heap.size
  size : w'.heap.size = w.heap.size + 1
  fr : Fr no w w'

/-- A block was written. -/
structure Pt (w : World) (b : Nat) (cs : List Value) (w' : World) : Prop where
  own : own w' b = some cs
  typ : ∀ c, typ w' c = typ w c
  size : w'.heap.size = w.heap.size
  fr : Fr (one b) w w'

theorem newB_nw (w : World) (cs : List Value) (t : TypeId) : Nw w w.heap.size cs t (newB w cs t) := by
  refine ⟨?_, ?_, rfl, ?_, ?_⟩
  · unfold own newB; simp
  · unfold typ newB; simp
  · simp [newB]
  · refine ⟨by simp [newB], fun b hb _ => ?_, rfl, rfl, rfl⟩
    simp only [newB, Array.getElem?_push]
    rw [if_neg (by omega)]

theorem drewW_fr (S : Nat → Prop) (w : World) : Fr S w (drewW w) := ⟨Nat.le_refl _, fun _ _ _ => rfl, rfl, rfl, rfl⟩
theorem own_drew (w : World) (b : Nat) : own (drewW w) b = own w b := rfl
theorem blk_drew (w : World) (b : Nat) : blk (drewW w) b = blk w b := rfl
theorem typ_drew (w : World) (b : Nat) : typ (drewW w) b = typ w b := rfl
theorem size_drew (w : World) : (drewW w).heap.size = w.heap.size := rfl

theorem putB_pt {w : World} {b : Nat} {cs ds : List Value} (h : own w b = some cs) : Pt w b ds (putB w b ds) := by
  refine ⟨own_putB h, fun c => ?_, by simp [putB], ⟨by simp [putB], fun c _ hc => heap_putB (fun e => hc e), rfl, rfl, rfl⟩⟩
  unfold typ
  by_cases hc : c = b
  · subst hc
    unfold own at h
    split at h
    · rename_i hh
      simp only [putB, Array.getElem?_modify, if_true, hh, Option.map_some, recell]
    · cases h
  · rw [heap_putB hc]

/-! ### Steps -/

theorem al_i {w : World} {cs : List Value} {t : TypeId} {K : Value → World → Prop} (h : ∀ b w', Nw w b cs t w' → K (.pointer (some ⟨b, 0, none⟩)) w') : alC w cs t K :=
  h _ _ (newB_nw w cs t)

theorem ld_b {w : World} {k b o : Nat} {cs : List Value} {v : Value} {K : Value → Prop} (h : blk w b = some cs) (hv : cs[o]? = some v) (hk : K v) : ldC w false k (.pointer (some ⟨b, o, none⟩)) K :=
  ⟨v, ⟨b, o, cs, rfl, h, hv⟩, hk⟩
theorem ld_i {w : World} {k b o : Nat} {cs : List Value} {v : Value} {K : Value → Prop} (h : own w b = some cs) (hv : cs[o]? = some v) (hk : K v) : ldC w false k (.pointer (some ⟨b, o, none⟩)) K :=
  ld_b (own_blk h) hv hk
theorem la_b {w : World} {k b o : Nat} {cs xs : List Value} {K : Value → Prop} (h : blk w b = some cs) (hl : o + k ≤ cs.length) (hv : (cs.drop o).take k = xs) (hk : K (.agg xs.toArray)) : ldC w true k (.pointer (some ⟨b, o, none⟩)) K :=
  ⟨_, ⟨b, o, cs, rfl, h, hl, by rw [hv]⟩, hk⟩
theorem la_i {w : World} {k b o : Nat} {cs xs : List Value} {K : Value → Prop} (h : own w b = some cs) (hl : o + k ≤ cs.length) (hv : (cs.drop o).take k = xs) (hk : K (.agg xs.toArray)) : ldC w true k (.pointer (some ⟨b, o, none⟩)) K :=
  la_b (own_blk h) hl hv hk

theorem st_i {w : World} {k b o : Nat} {cs ds : List Value} {v : Value} {K : World → Prop} (h : own w b = some cs) (hl : o + k ≤ cs.length) (hs : v.cells.size = k) (h1 : v.cells.toList.all one1 = true)
    (hd : splice cs o v.cells.toList = ds) (hk : ∀ w', Pt w b ds w' → K w') : stC w k (.pointer (some ⟨b, o, none⟩)) v K :=
  ⟨b, o, cs, rfl, h, hl, hs, h1, by rw [hd]; exact hk _ (putB_pt h)⟩

theorem co_i {v : Value} {b : Bool} {A B : Prop} (hv : v = .bool b) (h1 : b = true → A) (h2 : b = false → B) : condC v A B := ⟨b, hv, h1, h2⟩
theorem co_t {A B : Prop} (h : A) : condC (.bool true) A B := ⟨true, rfl, fun _ => h, fun h => by cases h⟩
theorem co_f {A B : Prop} (h : B) : condC (.bool false) A B := ⟨false, rfl, (fun h => by cases h), fun _ => h⟩

theorem gd_t {v : Value} {want : Bool} {A : (Value → World → Prop) → Prop} {K : Value → World → Prop} {w : World} (h : boolOf v = some want) (ha : A K) : gd v want A K w :=
  ⟨fun _ => ha, fun hn => absurd h hn⟩
theorem gd_f {v : Value} {want : Bool} {A : (Value → World → Prop) → Prop} {K : Value → World → Prop} {w : World} (h : boolOf v ≠ some want) (hk : K undef w) : gd v want A K w :=
  ⟨fun hn => absurd hn h, fun _ => hk⟩

theorem jn_i {A : (Env → World → Prop) → Prop} {K : Env → World → Prop} (h : A K) : jn A K := h
/-- Where ways meet: what holds there. -/
theorem jn_c {A : (Env → World → Prop) → Prop} {K : Env → World → Prop} (J : Env → World → Prop) (hA : (∀ e w, J e w → K e w) → A K) (hK : ∀ e w, J e w → K e w) : jn A K := hA hK

theorem lp_i {B : Env → World → QT → Prop} {e : Env} {w : World} {Q : QT} (I : Env → World → Prop) (μ : Env → World → Nat) (h0 : I e w)
    (hr : ∀ e1 w1, I e1 w1 → B e1 w1 (fun ex e' w' => match ex with | .normal => I e' w' ∧ μ e' w' < μ e1 w1 | ex => Q ex e' w')) : lpC B e w Q := ⟨I, μ, h0, hr⟩

theorem upd_self (e : Env) (t : Nat) : upd e t (e t) = e := by
  funext x
  unfold upd
  cases h : Nat.beq x t with
  | true => rw [Nat.eq_of_beq_eq_true h]
  | false => rfl

/-! ### A slice that one owns -/

/-- The slice v has n elements of k cells each, 'cells' in all; its array is the block ob, whole. -/
structure SlO (w : World) (k : Nat) (e : TypeId) (v : Value) (n : Nat) (cells : List Value) (ob : Option Nat) : Prop where
  ex : ∃ c, v = .slice (ob.map fun b => ⟨b, 0, none⟩) n c ∧ n ≤ c ∧ (ob = none → c = 0) ∧ ∀ b, ob = some b → ∃ full, own w b = some full ∧ full.length = c * k ∧ full.take (n * k) = cells ∧ typ w b = some e
  len : cells.length = n * k

theorem SlO.nil (w : World) (k : Nat) (e : TypeId) : SlO w k e (.slice none 0 0) 0 [] none :=
  ⟨⟨0, rfl, Nat.le_refl _, fun _ => rfl, fun b hb => by cases hb⟩, by simp⟩

theorem SlO.keep {w w' : World} {k n : Nat} {e : TypeId} {v : Value} {cells : List Value} {ob : Option Nat} {S : Nat → Prop} (h : SlO w k e v n cells ob) (hf : Fr S w w') (hb : ∀ b, ob = some b → ¬ S b) : SlO w' k e v n cells ob := by
  obtain ⟨⟨c, h1, h2, h3, h4⟩, h5⟩ := h
  refine ⟨⟨c, h1, h2, h3, fun b hbb => ?_⟩, h5⟩
  obtain ⟨full, g1, g2, g3, g4⟩ := h4 b hbb
  exact ⟨full, hf.own g1 (hb b hbb), g2, g3, hf.typ g4 (hb b hbb)⟩

theorem SlO.row {w : World} {k n : Nat} {e : TypeId} {v : Value} {cells : List Value} {ob : Option Nat} (h : SlO w k e v n cells ob) :
    ∃ base c, v = .slice base n c ∧ Row w base (n * k) cells := by
  obtain ⟨⟨c, h1, h2, h3, h4⟩, h5⟩ := h
  refine ⟨_, c, h1, h5, ?_⟩
  cases ob with
  | none => left; have := h3 rfl; have : n = 0 := by omega
            simp [this]
  | some b =>
    obtain ⟨full, g1, g2, g3, g4⟩ := h4 b rfl
    right
    refine ⟨b, 0, full, rfl, own_blk g1, ?_, by simp [g3]⟩
    rw [g2, Nat.zero_add]; exact Nat.mul_le_mul_right k h2

/-- Appending to it. -/
theorem ap_o {w : World} {bytes k n m xc : Nat} {zero : List Value} {e : TypeId} {s : Value} {cells new : List Value} {ob : Option Nat} {xb : Option Addr} {K : Value → World → Prop} (h : SlO w k e s n cells ob)
    (hx : Row w xb (m * k) new) (hz : zero.length = k) (hb : 0 < bytes) (hbound : (n + m) * bytes ≤ 2 ^ 47) (h1 : new.all one1 = true)
    (hk : ∀ v' w' ob', SlO w' k e v' (n + m) (cells ++ new) ob' → Fr (fun b => ob = some b) w w' → (∀ b, ob' = some b → ob = some b ∨ w.heap.size ≤ b) → K v' w') :
    apC w bytes k zero e s (.slice xb m xc) K := by
  obtain ⟨base, c, hs, hrow⟩ := h.row
  obtain ⟨⟨c', g1, g2, g3, g4⟩, g5⟩ := h
  have hcc : c = c' ∧ base = ob.map fun b => (⟨b, 0, none⟩ : Addr) := by rw [g1] at hs; simp only [Value.slice.injEq] at hs; exact ⟨hs.2.2.symm, hs.1.symm⟩
  obtain ⟨rfl, rfl⟩ := hcc
  refine ⟨_, n, c, xb, m, xc, cells, new, g1, rfl, hrow, hx, hb, hbound, fun hfit => ?_, fun hfit d hd => ?_⟩
  · by_cases hm : new = []
    · left
      refine ⟨hm, ?_⟩
      subst hm
      have hmk : m * k = 0 := by have := hx.1; simpa using this.symm
      refine hk _ _ ob ⟨⟨c, rfl, hfit, g3, fun b hbb => ?_⟩, by simp [g5, Nat.add_mul, hmk]⟩ (Fr.refl _ _) (fun b hbb => .inl hbb)
      obtain ⟨full, f1, f2, f3, f4⟩ := g4 b hbb
      exact ⟨full, f1, f2, by rw [Nat.add_mul, hmk]; simpa using f3, f4⟩
    · right
      cases ob with
      | none =>
        exfalso
        have := g3 rfl
        have : m = 0 := by omega
        subst this
        have := hx.1
        simp only [Nat.zero_mul] at this
        exact hm (List.length_eq_zero_iff.1 this)
      | some b =>
        obtain ⟨full, f1, f2, f3, f4⟩ := g4 b rfl
        have hlen := hx.1
        have hle : n * k + m * k ≤ full.length := by rw [f2, ← Nat.add_mul]; exact Nat.mul_le_mul_right k hfit
        refine ⟨b, 0, full, rfl, f1, by omega, h1, ?_⟩
        have hpt := putB_pt (ds := splice full (0 + n * k) new) f1
        refine hk _ _ (some b) ⟨⟨c, rfl, hfit, (by simp), fun b' hb' => ?_⟩, by simp [g5, hlen, Nat.add_mul]⟩ (hpt.fr.mono fun x _ hx => by unfold one at hx; rw [hx]) (fun b' hb' => .inl hb')
        cases hb'
        refine ⟨_, hpt.own, ?_, ?_, by rw [hpt.typ]; exact f4⟩
        · rw [splice_length (by omega)]; exact f2
        · unfold splice
          rw [Nat.zero_add, Nat.add_mul]
          have e1 : (full.take (n * k) ++ new).length = n * k + m * k := by simp [hlen]; omega
          rw [List.take_append_of_le_length (by omega), List.take_of_length_le (by omega), f3]
  · have hn := newB_nw (drewW w) (cells ++ new ++ repL (d - (n + m)) zero) e
    have hfr : Fr (fun b => ob = some b) w (newB (drewW w) (cells ++ new ++ repL (d - (n + m)) zero) e) := ((drewW_fr _ w).ex hn.fr)
    refine hk _ _ (some w.heap.size) ⟨⟨d, rfl, hd, (by simp), fun b' hb' => ?_⟩, by simp [g5, hx.1, Nat.add_mul]⟩ hfr (fun b' hb' => .inr (by cases hb'; exact Nat.le_refl _))
    cases hb'
    refine ⟨_, hn.own, ?_, ?_, hn.typ⟩
    · simp only [List.length_append, g5, hx.1, repL_length, hz]
      rw [← Nat.add_mul, ← Nat.add_mul]
      congr 1; omega
    · rw [List.take_append_of_le_length (by simp [g5, hx.1, Nat.add_mul]), List.take_of_length_le (by simp [g5, hx.1, Nat.add_mul])]

end Go.Dm
