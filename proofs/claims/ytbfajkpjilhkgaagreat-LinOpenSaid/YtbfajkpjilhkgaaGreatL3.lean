/- A part of the proof that doormanlaw21.LinOpen returns true for every input, on no condition. -/
import Derived.Test.YtbfajkpjilhkgaaGreatL2
set_option linter.unusedVariables false
set_option linter.unusedSimpArgs false
set_option linter.deprecated false
/-! Calls in the order in which they took place. -/
namespace Go.Dm
open Go Go.Proofs
variable {w : World} {R : Value → World → Prop} {Im Im' : Nat → Prop}

/-! Plain -/
def atN (l : List Nat) (i : Nat) : Nat := l[i]?.getD 0
def swapN (l : List Nat) (j : Nat) : List Nat := (l.set (j + 1) (atN l j)).set j (atN l (j + 1))
def inner (key : Nat → Int) (l : List Nat) : Nat → List Nat
  | 0 => l
  | j + 1 => if key (atN l (j + 1)) < key (atN l j) then inner key (swapN l j) j else l
def sortTo (key : Nat → Int) (l : List Nat) : Nat → List Nat
  | 0 => l
  | i + 1 => inner key (sortTo key l i) i
def insSort (key : Nat → Int) (l : List Nat) : List Nat := sortTo key l l.length
def histOrder (l : List CallP) : List Nat := insSort (fun i => (callAt l i).placed) ((List.range l.length).filter fun i => decide (0 ≤ (callAt l i).placed))
theorem atN_get {l : List Nat} {i : Nat} (h : i < l.length) : l[i]? = some (atN l i) := by unfold atN; rw [List.getElem?_eq_getElem h]; rfl
theorem atN_mem {l : List Nat} {i : Nat} (h : i < l.length) : atN l i ∈ l := List.mem_of_getElem? (atN_get h)
theorem swapN_len (l : List Nat) (j : Nat) : (swapN l j).length = l.length := by unfold swapN; simp
theorem swapN_all {P : Nat → Prop} {l : List Nat} {j : Nat} (hj : j + 1 < l.length) (h : ∀ x ∈ l, P x) : ∀ x ∈ swapN l j, P x := fun x hx => by
  unfold swapN at hx
  rcases mem_set hx with rfl | hx
  · exact h _ (atN_mem hj)
  · rcases mem_set hx with rfl | hx
    · exact h _ (atN_mem (by omega))
    · exact h x hx
theorem inner_len (key : Nat → Int) : ∀ (j : Nat) (l : List Nat), (inner key l j).length = l.length
  | 0, l => rfl
  | j + 1, l => by
    unfold inner; split
    · rw [inner_len key j, swapN_len]
    · rfl
theorem inner_all {P : Nat → Prop} (key : Nat → Int) : ∀ (j : Nat) (l : List Nat), j < l.length → (∀ x ∈ l, P x) → ∀ x ∈ inner key l j, P x
  | 0, l, _, h => h
  | j + 1, l, hj, h => by
    unfold inner; split
    · exact inner_all key j _ (by rw [swapN_len]; omega) (swapN_all hj h)
    · exact h
theorem sortTo_len (key : Nat → Int) (l : List Nat) : ∀ i, (sortTo key l i).length = l.length
  | 0 => rfl
  | i + 1 => by unfold sortTo; rw [inner_len, sortTo_len key l i]
theorem sortTo_all {P : Nat → Prop} (key : Nat → Int) {l : List Nat} (h : ∀ x ∈ l, P x) : ∀ i, i ≤ l.length → ∀ x ∈ sortTo key l i, P x
  | 0, _ => h
  | i + 1, hi => by unfold sortTo; exact inner_all key i _ (by rw [sortTo_len]; omega) (sortTo_all key h i (by omega))

def keyOf (raws : List RawC) (i : Nat) : Int := (callAt (raws.map fun r => r.c) i).placed
theorem ent242 : entersP Tryz.prog 242 = true := by kernel_rfl
theorem c242 {i j bl : Nat} {lv : Value} {raws : List RawC} (hb : blk w bl = some [lv]) (hc : CallsM w Im lv raws) (hi : i < raws.length) (hj : j < raws.length) (h : ∀ w', Fr no w w' → R (.int .i64 (cmpI (keyOf raws i) (keyOf raws j))) w') :
    CallsR Tryz.prog 242 #[.int .i64 (i : Nat), .int .i64 (j : Nat), .pointer (some ⟨bl, 0, none⟩)] w R := by
  apply sh242; unfold S242
  have fD := drewW_fr no w
  have hb1 := fD.blk hb id
  have hc1 := hc.ext fD
  generalize drewW w = w1 at fD hb1 hc1 ⊢
  obtain ⟨ri, hri⟩ : ∃ r, raws[i]? = some r := ⟨_, List.getElem?_eq_getElem hi⟩
  obtain ⟨rj, hrj⟩ : ∃ r, raws[j]? = some r := ⟨_, List.getElem?_eq_getElem hj⟩
  refine ld_b hb1 rfl ?_
  obtain ⟨a1, a2, h1, h2, h3⟩ := hc1.sl.fld (kd := .i64) raw_len hri (c := 12) (y := .int .i64 ri.c.placed) rfl (by decide)
  refine pv_i h1 (pv_i h2 (h3 _ ?_))
  refine ld_b hb1 rfl ?_
  obtain ⟨b1, b2, k1, k2, k3⟩ := hc1.sl.fld (kd := .i64) raw_len hrj (c := 12) (y := .int .i64 rj.c.placed) rfl (by decide)
  refine pv_i k1 (pv_i k2 (k3 _ ?_))
  refine c243 ?_
  have := h w1 fD
  unfold keyOf at this
  rw [callAt_raw hri, callAt_raw hrj] at this; exact this

theorem c372 {v : Value} {l : List Nat} {ob : Option Nat} {bl N : Nat} {lv : Value} {raws : List RawC} (hs : SlO w 1 3 v l.length (intCells l) ob) (hb : own w bl = some [lv]) (hne : ob ≠ some bl) (hc : CallsM w (fun x => x < N) lv raws) (hob : ∀ o, ob = some o → N ≤ o)
    (hr : ∀ i ∈ l, i < raws.length) (hn : l.length < 2^40)
    (h : ∀ w', SlO w' 1 3 v l.length (intCells (insSort (keyOf raws) l)) ob → Fr (fun x => ob = some x) w w' → R (.tuple #[]) w') : CallsR Tryz.prog 372 #[v, .int .i64 0, .int .i64 l.length, .func (.func 242) #[] #[.pointer (some ⟨bl, 0, none⟩)]] w R := by
  apply sh372; unfold S372
  refine pv_i (v := .int .i64 1) rfl ?_
  -- none, or one: nothing to do
  by_cases hl0 : l.length = 0
  · have hlz : l = [] := List.length_eq_zero_iff.1 hl0
    refine lp_c (fun d e u X => u = w ∧ e 2 = .int .i64 l.length ∧ e 8 = .int .i64 1) 0 ⟨rfl, rfl, rfl⟩ ?_
    rintro d e u X N' ⟨rfl, e2, e8⟩ hN
    simp only [e2, e8]
    refine pv_i lss_i ?_
    rw [decide_eq_false (by omega), condC_f]
    refine h u ?_ (Fr.refl _ _)
    subst hlz; exact hs
  have hkeep : ∀ (u : World), Fr (fun x => ob = some x) w u → own u bl = some [lv] ∧ CallsM u (fun x => x < N) lv raws := fun u f =>
    ⟨f.own hb hne, hc.keep f fun x hx hh => by have := hob x hh; omega⟩
  refine lp_c (fun d e u X => ∃ i : Nat, d = l.length - i ∧ 1 ≤ i ∧ i ≤ l.length ∧ X = no ∧ Fr (fun x => ob = some x) w u ∧ SlO u 1 3 v l.length (intCells (sortTo (keyOf raws) l i)) ob ∧
      e 0 = v ∧ e 1 = .int .i64 0 ∧ e 2 = .int .i64 l.length ∧ e 3 = .func (.func 242) #[] #[.pointer (some ⟨bl, 0, none⟩)] ∧ e 8 = .int .i64 (i : Nat)) (l.length - 1)
    ⟨1, by omega, by omega, by omega, rfl, Fr.refl _ _, hs, rfl, rfl, rfl, rfl, rfl⟩ ?_
  rintro d e u X N1 ⟨i, rfl, hi1, hi, rfl, f, hsu, e0', e1, e2, e3, e8⟩ hN
  simp only [e0', e1, e2, e3, e8]
  refine pv_i lss_i ?_
  by_cases hlt : i < l.length
  · rw [decide_eq_true (by omega), condC_t, jnB_e]
    have hsl := sortTo_len (keyOf raws) l i
    have hsall := sortTo_all (keyOf raws) hr i hi
    refine lp_c (fun d e u X => ∃ (j : Nat) (l' : List Nat), d = j ∧ j < l.length ∧ X = no ∧ Fr (fun x => ob = some x) w u ∧ l'.length = l.length ∧ (∀ x ∈ l', x < raws.length) ∧ SlO u 1 3 v l.length (intCells l') ob ∧ inner (keyOf raws) l' j = sortTo (keyOf raws) l (i + 1) ∧
        e 0 = v ∧ e 1 = .int .i64 0 ∧ e 2 = .int .i64 l.length ∧ e 3 = .func (.func 242) #[] #[.pointer (some ⟨bl, 0, none⟩)] ∧ e 8 = .int .i64 (i : Nat) ∧ e 9 = .int .i64 (j : Nat)) i
      ⟨i, _, rfl, hlt, rfl, f, hsl, hsall, hsu, rfl, rfl, rfl, rfl, rfl, rfl, rfl⟩ ?_
    rintro d e u X N2 ⟨j, l', rfl, hj, rfl, f, hl', hall, hsu, hin, e0', e1, e2, e3, e8, e9⟩ hN2
    simp only [e0', e1, e2, e3, e8, e9]
    refine pv_i gtr_i ?_
    -- it stands
    have stop : ∀ (u3 : World), Fr (fun x => ob = some x) w u3 → SlO u3 1 3 v l.length (intCells (sortTo (keyOf raws) l (i + 1))) ob →
        pv (binV .add (.int .i64 (i : Nat)) (.int .i64 1)) fun t16 => N1 (upd (upd (upd (upd (upd e0 8 t16) 3 (.func (.func 242) #[] #[.pointer (some ⟨bl, 0, none⟩)])) 2 (.int .i64 l.length)) 1 (.int .i64 0)) 0 v) u3 no := fun u3 f3 s3 => by
      refine pv_i (add1 (by omega)) ?_
      exact hN _ _ _ _ (by omega) ⟨i + 1, rfl, by omega, by omega, rfl, f3, s3, rfl, rfl, rfl, rfl, rfl⟩
    cases d with
    | zero =>
      rw [decide_eq_false (by simp)]
      refine and_gB (fun _ => ?_) (fun h => by cases h)
      rw [condC_f]
      refine stop _ (f.trans (drewW_fr _ _)) ?_
      rw [← hin]; exact hsu.keep (drewW_fr no _) (fun _ _ => no_not _)
    | succ j =>
      rw [decide_eq_true (by omega)]
      refine and_gB (fun h => by cases h) (fun _ => ?_)
      have fD := drewW_fr no u
      have f3 : Fr (fun x => ob = some x) w (drewW u) := f.trans (drewW_fr _ _)
      have s3 := hsu.keep fD (fun _ _ => no_not _)
      generalize drewW u = u3 at fD f3 s3 ⊢
      have bi : ∀ {k : Nat}, k < l.length → (intCells l')[k]? = some (.int .i64 (atN l' k : Nat)) := fun {k} hk => by unfold intCells; rw [List.getElem?_map, atN_get (by omega)]; rfl
      obtain ⟨a1, ha1, l1⟩ := s3.imm.ld1' (i := ((j + 1 : Nat) : Int)) (kd := .i64) (by omega) (by omega) (x := .int .i64 (atN l' (j + 1) : Nat)) (by rw [Int.toNat_natCast]; exact bi hj)
      obtain ⟨a2, ha2, l2⟩ := s3.imm.ld1' (i := ((j : Nat) : Int)) (kd := .i64) (by omega) (by omega) (x := .int .i64 (atN l' j : Nat)) (by rw [Int.toNat_natCast]; exact bi (by omega))
      have hsub : binV .sub (.int .i64 ((j + 1 : Nat) : Int)) (.int .i64 1) = some (.int .i64 (j : Nat)) := by
        rw [sub_i (by omega) (by omega)]; congr 2; omega
      refine pv_i ha1 (pv_i hsub (pv_i ha2 (l1 _ (l2 _ ?_))))
      refine ⟨ent242, ?_⟩
      obtain ⟨hb3, hc3⟩ := hkeep u3 f3
      refine c242 (own_blk hb3) hc3 (hall _ (atN_mem (by omega))) (hall _ (atN_mem (by omega))) fun u4 f4 => ?_
      have f04 : Fr (fun x => ob = some x) w u4 := f3.trans (f4.mono fun _ _ h => h.elim)
      have s4 := s3.keep f4 (fun _ _ => no_not _)
      refine pv_i lss_i ?_
      refine pv_i (v := .bool _) rfl ?_
      have hcmp : decide (cmpI (keyOf raws (atN l' (j + 1))) (keyOf raws (atN l' j)) < 0) = decide (keyOf raws (atN l' (j + 1)) < keyOf raws (atN l' j)) := by
        congr 1; apply propext; unfold cmpI
        split
        · omega
        · split <;> omega
      rw [hcmp]
      rw [inner] at hin
      by_cases hlt' : keyOf raws (atN l' (j + 1)) < keyOf raws (atN l' j)
      · rw [decide_eq_true hlt', condC_t]
        rw [if_pos hlt'] at hin
        refine pv_i hsub (pv_i hsub ?_)
        have fD := drewW_fr no u4
        have f5 : Fr (fun x => ob = some x) w (drewW u4) := f04.trans (drewW_fr _ _)
        have s5 := s4.keep fD (fun _ _ => no_not _)
        generalize drewW u4 = u5 at fD f5 s5 ⊢
        obtain ⟨c2, hc2, m2⟩ := s5.imm.ld1' (i := ((j : Nat) : Int)) (kd := .i64) (by omega) (by omega) (x := .int .i64 (atN l' j : Nat)) (by rw [Int.toNat_natCast]; exact bi (by omega))
        obtain ⟨c1, hc1, m1⟩ := s5.imm.ld1' (i := ((j + 1 : Nat) : Int)) (kd := .i64) (by omega) (by omega) (x := .int .i64 (atN l' (j + 1) : Nat)) (by rw [Int.toNat_natCast]; exact bi hj)
        refine pv_i hc2 (pv_i hc1 (m2 _ (m1 _ ?_)))
        obtain ⟨d1, hd1, q1⟩ := s5.stk (kd := .i64) hj (x := .int .i64 (atN l' j : Nat)) rfl rfl
        refine pv_i hd1 (q1 _ fun u6 s6 f6 => ?_)
        have hsp : splice (intCells l') ((j + 1) * 1) (Value.int .i64 (atN l' j : Nat)).cells.toList = intCells (l'.set (j + 1) (atN l' j)) := by rw [Nat.mul_one]; exact splice_int (by omega)
        rw [hsp] at s6
        obtain ⟨d2, hd2, q2⟩ := s6.stk (kd := .i64) (i := j) (by omega) (x := .int .i64 (atN l' (j + 1) : Nat)) rfl rfl
        refine pv_i hd2 (q2 _ fun u7 s7 f7 => ?_)
        have hsp2 : splice (intCells (l'.set (j + 1) (atN l' j))) (j * 1) (Value.int .i64 (atN l' (j + 1) : Nat)).cells.toList = intCells (swapN l' j) := by rw [Nat.mul_one]; exact splice_int (by rw [List.length_set]; omega)
        rw [hsp2] at s7
        refine pv_i hsub ?_
        exact hN2 _ _ _ _ (by omega) ⟨j, swapN l' j, rfl, by omega, rfl, (f5.trans f6).trans f7, by rw [swapN_len]; exact hl', swapN_all (by omega) hall, s7, hin, rfl, rfl, rfl, rfl, rfl, rfl⟩
      · rw [decide_eq_false hlt', condC_f]
        rw [if_neg hlt'] at hin
        refine stop _ f04 ?_
        rw [← hin]; exact s4
  · have : i = l.length := by omega
    subst this
    rw [decide_eq_false (by omega), condC_f]
    exact h u hsu f
end Go.Dm
/-! Histories judged. -/
namespace Go.Dm
open Go Go.Proofs
variable {w : World} {R : Value → World → Prop} {Im Im' : Nat → Prop}

theorem c323 {v : Value} {l : List Nat} {ob : Option Nat} {bl N : Nat} {lv : Value} {raws : List RawC} (hs : SlO w 1 3 v l.length (intCells l) ob) (hb : own w bl = some [lv]) (hne : ob ≠ some bl) (hc : CallsM w (fun x => x < N) lv raws) (hob : ∀ o, ob = some o → N ≤ o)
    (hr : ∀ i ∈ l, i < raws.length) (hn : l.length < 20)
    (h : ∀ w', SlO w' 1 3 v l.length (intCells (insSort (keyOf raws) l)) ob → Fr (fun x => ob = some x) w w' → R (.tuple #[]) w') : CallsR Tryz.prog 323 #[v, .int .i64 l.length, .func (.func 242) #[] #[.pointer (some ⟨bl, 0, none⟩)]] w R := by
  apply sh323; unfold S323
  rw [jnB_e]
  refine lp_c (fun d e u X => u = w ∧ X = no ∧ e 0 = v ∧ e 1 = .int .i64 l.length ∧ e 2 = .func (.func 242) #[] #[.pointer (some ⟨bl, 0, none⟩)] ∧ e 6 = .int .i64 20 ∧ e 7 = .int .i64 0 ∧ e 8 = .int .i64 20) 0 ⟨rfl, rfl, rfl, rfl, rfl, rfl, rfl, rfl⟩ ?_
  rintro d e u X N' ⟨rfl, rfl, e0', e1, e2, e6, e7, e8⟩ hN
  simp only [e0', e1, e2, e6, e7, e8]
  refine pv_i leq_i ?_
  rw [decide_eq_false (by omega), condC_f]
  refine c372 hs hb hne hc hob hr (by omega) fun w' hs' f' => ?_
  refine lp_c (fun d e u X => u = w' ∧ e 1 = .int .i64 l.length ∧ e 6 = .int .i64 20) 0 ⟨rfl, rfl, rfl⟩ ?_
  rintro d e u X N2 ⟨rfl, e1, e6⟩ hN2
  simp only [e1, e6]
  refine pv_i lss_i ?_
  rw [decide_eq_false (by omega), condC_f]
  exact h u hs' f'
theorem c241 {v : Value} {l : List Nat} {ob : Option Nat} {bl N : Nat} {lv : Value} {raws : List RawC} (hs : SlO w 1 3 v l.length (intCells l) ob) (hb : own w bl = some [lv]) (hne : ob ≠ some bl) (hc : CallsM w (fun x => x < N) lv raws) (hob : ∀ o, ob = some o → N ≤ o)
    (hr : ∀ i ∈ l, i < raws.length) (hn : l.length < 20)
    (h : ∀ w', SlO w' 1 3 v l.length (intCells (insSort (keyOf raws) l)) ob → Fr (fun x => ob = some x) w w' → R (.tuple #[]) w') : CallsR Tryz.prog 241 #[v, .func (.func 242) #[] #[.pointer (some ⟨bl, 0, none⟩)]] w R := by
  apply sh241; unfold S241
  refine pv_i hs.lenV ?_
  exact c323 hs hb hne hc hob hr hn h

theorem c137 {lv : Value} {raws : List RawC} (hl : CallsM w (fun _ => True) lv raws) (hn : raws.length < 20)
    (h : ∀ v w', Fr no w w' → SlI w' (fun _ => True) 1 v (histOrder (raws.map fun r => r.c)).length (intCells (histOrder (raws.map fun r => r.c))) → R v w') : CallsR Tryz.prog 137 #[lv] w R := by
  apply sh137; unfold S137
  refine al_i fun b w1 n1 => ?_
  have e1 := n1.eq; have z1 := n1.size
  have ho1 : own w1 b = some [lv] := by have := n1.own; rw [cells_one hl.sl.one] at this; exact this
  have hl1 : CallsM w1 (fun x => x < w.heap.size) lv raws := (hl.im fun x hx _ => hx).ext n1.fr
  rw [jnB_e]
  refine ld_i ho1 rfl ?_
  refine pv_i hl1.sl.lenV ?_
  generalize hL : (raws.map fun r => r.c) = L at h
  have hLn : L.length = raws.length := by rw [← hL]; exact List.length_map ..
  have hca : ∀ {k : Nat} {r : RawC}, raws[k]? = some r → callAt L k = r.c := fun hr => by rw [← hL]; exact callAt_raw hr
  have hfl : ∀ k, ((List.range k).filter fun i => decide (0 ≤ (callAt L i).placed)).length ≤ k := fun k => by
    have := List.length_filter_le (fun i => decide (0 ≤ (callAt L i).placed)) (List.range k); rw [List.length_range] at this; exact this
  refine lp_c (fun d e u X => ∃ (k : Nat) (av : Value) (oj : Option Nat), d = raws.length - k ∧ k ≤ raws.length ∧ Bn w X u ∧ own u b = some [lv] ∧ ¬ X b ∧ CallsM u (fun x => x < w.heap.size) lv raws ∧
      SlO u 1 3 av ((List.range k).filter fun i => decide (0 ≤ (callAt L i).placed)).length (intCells ((List.range k).filter fun i => decide (0 ≤ (callAt L i).placed))) oj ∧ (∀ o, oj = some o → w.heap.size ≤ o ∧ ¬ X o ∧ o ≠ b) ∧
      e 1 = .pointer (some ⟨b, 0, none⟩) ∧ e 3 = av ∧ e 6 = lv ∧ e 7 = .int .i64 raws.length ∧ e 8 = .int .i64 (k : Nat)) raws.length
    ⟨0, .slice none 0 0, none, rfl, by omega, ⟨n1.fr, fun _ h => h.elim, fun _ h => h.elim⟩, ho1, id, hl1, SlO.nil .., (fun o hh => by cases hh), rfl, rfl, rfl, rfl, rfl⟩ ?_
  rintro d e u X N ⟨k, av, oj, rfl, hk, hB, hob, hXb, hlu, hav, hoj, e1', e3, e6, e7, e8⟩ hN
  simp only [e1', e3, e6, e7, e8]
  refine pv_i lss_i ?_
  -- boxes made as they are
  have sy : ∀ {u2 : World} {X2 : Nat → Prop}, Sy u X u2 X2 → Bn w X2 u2 ∧ own u2 b = some [lv] ∧ ¬ X2 b ∧ CallsM u2 (fun x => x < w.heap.size) lv raws ∧
      SlO u2 1 3 av ((List.range k).filter fun i => decide (0 ≤ (callAt L i).placed)).length (intCells ((List.range k).filter fun i => decide (0 ≤ (callAt L i).placed))) oj ∧ (∀ o, oj = some o → w.heap.size ≤ o ∧ ¬ X2 o ∧ o ≠ b) := fun y => by
    refine ⟨hB.sy y, y.fr.own hob hXb, fun hh => ?_, hlu.keep y.fr (fun x hx hh => by have := hB.ge x hh; omega), hav.keep y.fr (fun o ho hh => (hoj o ho).2.1 hh), fun o ho => ⟨(hoj o ho).1, fun hh => ?_, (hoj o ho).2.2⟩⟩
    · rcases y.sub b hh with h1 | h1
      · exact hXb h1
      · have := own_lt hob; omega
    · rcases y.sub o hh with h1 | h1
      · exact (hoj o ho).2.1 h1
      · have := hav.lt o ho; omega
  by_cases hlt : k < raws.length
  · rw [decide_eq_true (by omega), condC_t]
    refine jn_p (fun e u X => ∃ (av : Value) (oj : Option Nat), Bn w X u ∧ own u b = some [lv] ∧ ¬ X b ∧ CallsM u (fun x => x < w.heap.size) lv raws ∧
      SlO u 1 3 av ((List.range (k + 1)).filter fun i => decide (0 ≤ (callAt L i).placed)).length (intCells ((List.range (k + 1)).filter fun i => decide (0 ≤ (callAt L i).placed))) oj ∧ (∀ o, oj = some o → w.heap.size ≤ o ∧ ¬ X o ∧ o ≠ b) ∧
      e 1 = .pointer (some ⟨b, 0, none⟩) ∧ e 3 = av ∧ e 6 = lv ∧ e 7 = .int .i64 raws.length ∧ e 8 = .int .i64 (k : Nat)) ?_ ?_
    rotate_left
    · rintro e u X ⟨av, oj, h1, h2, h3, h4, h5, h6, e1', e3, e6, e7, e8⟩
      simp only [e1', e3, e6, e7, e8]
      refine pv_i (add1 (by omega)) ?_
      exact hN _ _ _ _ (by omega) ⟨k + 1, av, oj, rfl, by omega, h1, h2, h3, h4, h5, h6, rfl, rfl, rfl, rfl, rfl⟩
    intro K hK
    obtain ⟨r, hr⟩ : ∃ r, raws[k]? = some r := ⟨_, List.getElem?_eq_getElem hlt⟩
    obtain ⟨a, ha, _⟩ := hlu.ld hr
    refine pv_i ha ?_
    intro u2 X2 y2
    obtain ⟨hB2, hob2, hXb2, hl2, hav2, hoj2⟩ := sy y2
    obtain ⟨a', ha', hl'⟩ := hl2.ld hr
    rw [ha] at ha'; cases ha'
    refine hl' _ ?_
    refine ⟨(hl2.in_ r (List.mem_of_getElem? hr)).ok, ?_⟩
    refine pv_i (v := .int .i64 r.c.placed) rfl ?_
    refine pv_i geq_i ?_
    by_cases hpl : 0 ≤ r.c.placed
    · rw [decide_eq_true hpl, condC_t]
      have hst : ((List.range (k + 1)).filter fun i => decide (0 ≤ (callAt L i).placed)) = ((List.range k).filter fun i => decide (0 ≤ (callAt L i).placed)) ++ [k] := by
        rw [List.range_succ, List.filter_append, List.filter_cons_of_pos (by rw [hca hr]; simpa using hpl)]; rfl
      intro u3 X3 y3
      have hz2 := hB2.fr.size
      have hB3 := hB2.sy y3
      have hob3 := y3.fr.own hob2 hXb2
      have hXb3 : ¬ X3 b := fun hh => by
        rcases y3.sub b hh with h1 | h1
        · exact hXb2 h1
        · have := own_lt hob2; omega
      have hl3 := hl2.keep y3.fr (fun x hx hh => by have := hB2.ge x hh; omega)
      have hav3 := hav2.keep y3.fr (fun o ho hh => (hoj2 o ho).2.1 hh)
      have hoj3 : ∀ o, oj = some o → w.heap.size ≤ o ∧ ¬ X3 o ∧ o ≠ b := fun o ho => ⟨(hoj2 o ho).1, fun hh => by
        rcases y3.sub o hh with h1 | h1
        · exact (hoj2 o ho).2.1 h1
        · have := hav2.lt o ho; omega, (hoj2 o ho).2.2⟩
      refine bs_i (cs := [.int .i64 (k : Nat)]) rfl rfl fun v4 u4 s4 f4 z4 => ?_
      obtain ⟨base, cc, rfl, hrow⟩ := s4.row
      have hfk := hfl k
      refine ap_o (hav3.keep f4 (fun _ _ => no_not _)) hrow rfl (by decide) (by omega) rfl fun v5 u5 o5 s5 f5 ho5 => ?_
      have hz3 := hB3.fr.size; have hz5 := f5.size
      refine ⟨kp_fr f5 (fun x hx => by have := hB3.lt x hx; omega) (fun x hx hh => (hoj3 x hh).2.1 hx), ?_⟩
      refine hK _ _ _ ⟨v5, o5, ⟨(hB3.fr.trans f4).trans' f5 (fun x hx hh => by have := (hoj3 x hh).1; omega), hB3.ge, fun x hx => by have := hB3.lt x hx; omega⟩, f5.own (f4.own hob3 id) (fun hh => (hoj3 b hh).2.2 rfl), hXb3, (hl3.ext f4).keep f5 (fun x hx hh => by have := (hoj3 x hh).1; omega), ?_, fun o ho => ?_, rfl, rfl, rfl, rfl, rfl⟩
      · rw [hst, List.length_append]
        have : intCells (((List.range k).filter fun i => decide (0 ≤ (callAt L i).placed)) ++ [k]) = intCells ((List.range k).filter fun i => decide (0 ≤ (callAt L i).placed)) ++ [.int .i64 (k : Nat)] := by unfold intCells; rw [List.map_append]; rfl
        rw [this]; exact s5
      · rcases ho5 o ho with h1 | h1
        · exact hoj3 o h1
        · have hbl := own_lt hob3
          exact ⟨by omega, fun hh => by have := hB3.lt o hh; omega, by omega⟩
    · rw [decide_eq_false hpl, condC_f]
      have hst : ((List.range (k + 1)).filter fun i => decide (0 ≤ (callAt L i).placed)) = ((List.range k).filter fun i => decide (0 ≤ (callAt L i).placed)) := by
        rw [List.range_succ, List.filter_append, List.filter_cons_of_neg (by rw [hca hr]; simpa using hpl)]; simp
      exact hK _ _ _ ⟨av, oj, hB2, hob2, hXb2, hl2, by rw [hst]; exact hav2, hoj2, rfl, rfl, rfl, rfl, rfl⟩
  · have : k = raws.length := by omega
    subst this
    rw [decide_eq_false (by omega), condC_f]
    dsimp only [upd]
    intro u2 X2 y2
    obtain ⟨hB2, hob2, hXb2, hl2, hav2, hoj2⟩ := sy y2
    have hfk := hfl raws.length
    refine c241 (N := w.heap.size) hav2 hob2 (fun hh => (hoj2 b hh).2.2 rfl) hl2 (fun o ho => (hoj2 o ho).1) (fun i hi => List.mem_range.1 (List.mem_filter.1 hi).1) (by omega) fun u3 s3 f3 => ?_
    refine ⟨kp_fr f3 hB2.lt (fun x hx hh => (hoj2 x hh).2.1 hx), ?_⟩
    have := h av u3 (hB2.fr.trans' f3 (fun x hx hh => by have := (hoj2 x hh).1; omega))
    unfold histOrder at this
    rw [hLn] at this
    have hlen : (insSort (fun i => (callAt L i).placed) ((List.range raws.length).filter fun i => decide (0 ≤ (callAt L i).placed))).length = ((List.range raws.length).filter fun i => decide (0 ≤ (callAt L i).placed)).length := by unfold insSort; rw [sortTo_len]
    rw [hlen] at this
    have hk : keyOf raws = fun i => (callAt L i).placed := by unfold keyOf; rw [hL]
    rw [hk] at s3
    exact this s3.imm

theorem c91 {c : Cfg} {lv : Value} {raws : List RawC} (hst : c.start ≤ maxU) (hl : CallsM w (fun _ => True) lv raws) (hcs : ∀ r ∈ raws, callOk r.c) (hn : raws.length < 20)
    (h : ∀ w', Fr no w w' → R (.tuple #[.int .i64 (replay c (raws.map fun r => r.c) ((histOrder (raws.map fun r => r.c)).map fun (i : Nat) => (i : Int))).1, .int .i64 (replay c (raws.map fun r => r.c) ((histOrder (raws.map fun r => r.c)).map fun (i : Nat) => (i : Int))).2]) w') : CallsR Tryz.prog 91 #[c.v, lv] w R := by
  apply sh91; unfold S91
  refine ⟨rfl, ?_⟩
  intro w1 X1 y1
  have hB1 := ((Bn.start w).sy y1).no (drewW_fr no w1)
  generalize drewW w1 = w2 at hB1 ⊢
  have hl2 := hl.ext hB1.fr
  refine c137 hl2 hn fun v w3 f3 hv => ?_
  have hB3 := hB1.no f3
  refine ⟨hB1.kp f3, rfl, ?_⟩
  have hol : (histOrder (raws.map fun r => r.c)).length < 2^27 := by
    unfold histOrder insSort; rw [sortTo_len]
    have := List.length_filter_le (fun i => decide (0 ≤ (callAt (raws.map fun r => r.c) i).placed)) (List.range (raws.map fun r => r.c).length)
    rw [List.length_range] at this
    have h2 : (raws.map fun r => r.c).length = raws.length := List.length_map ..
    omega
  refine c88 (order := (histOrder (raws.map fun r => r.c)).map fun (i : Nat) => (i : Int)) hst (hl2.ext f3) hcs (by rw [ints_eq, List.length_map]; exact hv) (by rw [List.length_map]; exact hol) (by omega) fun w4 f4 => ?_
  refine ⟨hB3.kp f4, ?_⟩
  refine pv_i (ext2a _ _) (pv_i (ext2b _ _) ?_)
  exact h w4 (hB3.no f4).fr
end Go.Dm
/-! Awake; short. -/
namespace Go.Dm
open Go Go.Proofs
variable {w : World} {R : Value → World → Prop} {Im Im' : Nat → Prop}

def small : Cfg := ⟨3, 2, 16, 4, 1, 100, 0⟩
def awC0 : CallP := ⟨0, 0, ⟨1, ⟨#[117]⟩, 0, 1, 0, 9, []⟩, 0, 0, 0, 1, 2, Rep.zero⟩
def awC1 (p : Pres) : CallP := ⟨1, 0, ⟨4, ⟨#[117]⟩, 0, 0, 0, 0, []⟩, 0, 0, 3, 4, 5, ⟨0, [p], [], false⟩⟩
theorem aw1 : findP small [awC0, awC1 Pres.zero] = ([], false, 0) := by decide +kernel
theorem aw2 : findP small [awC0, awC1 ⟨1, 0, 1⟩] = ([0, 1], true, 0) := by decide +kernel
theorem aw3 : replay small [awC0, awC1 Pres.zero] ((histOrder [awC0, awC1 Pres.zero]).map fun (i : Nat) => (i : Int)) = (1, 0) := by decide +kernel

theorem SlI.part {k n c b o : Nat} {full cells : List Value} (hb : blk w b = some full) (hI : Im b) (hc : n ≤ c) (hl : o + n * k ≤ full.length) (ht : (full.drop o).take (n * k) = cells) : SlI w Im k (.slice (some ⟨b, o, none⟩) n c) n cells := by
  refine ⟨⟨_, c, rfl, hc, (fun h => by cases h), fun a ha _ => ?_⟩, ?_⟩
  · cases ha; exact ⟨b, o, full, rfl, hb, hI, hl, ht⟩
  · rw [← ht, List.length_take, List.length_drop]; omega
theorem SlI.whole {k n b : Nat} {cs : List Value} (hb : blk w b = some cs) (hI : Im b) (hl : cs.length = n * k) : SlI w Im k (.slice (some ⟨b, 0, none⟩) n n) n cs :=
  SlI.part hb hI (Nat.le_refl _) (by omega) (by rw [List.drop_zero]; exact List.take_of_length_le (by omega))

def nilS : Value := .slice none 0 0
def awR0 : RawC := ⟨awC0, nilS, nilS, nilS⟩
def awR1 (p : Pres) (sv : Value) : RawC := ⟨awC1 p, nilS, sv, nilS⟩
theorem aw_ok0 : callOk awC0 := ⟨by decide, (fun s hs => by simp [awC0] at hs), by decide, by decide, by decide⟩
theorem aw_ok1 (p : Pres) : callOk (awC1 p) := ⟨by show (⟨#[117]⟩ : ByteArray).size < 2^62; decide, (fun s hs => by simp [awC1] at hs), by show 0 < 2^40; decide, by show 1 < 2^60; decide, by show 0 < 2^60; decide⟩
theorem aw_calls {b1 b2 : Nat} {p : Pres} (h1 : own w b1 = some p.cells) (h2 : own w b2 = some (awR0.cells ++ (awR1 p (.slice (some ⟨b1, 0, none⟩) 1 1)).cells)) :
    CallsM w (fun _ => True) (.slice (some ⟨b2, 0, none⟩) 2 2) [awR0, awR1 p (.slice (some ⟨b1, 0, none⟩) 1 1)] := by
  refine ⟨SlI.whole (own_blk h2) trivial rfl, fun r hr => ?_⟩
  simp only [List.mem_cons, List.not_mem_nil, or_false] at hr
  rcases hr with rfl | rfl
  · exact ⟨SlI.nil .., SlI.nil .., SlI.nil .., by show 9 ≤ maxU; decide, Nat.zero_le _⟩
  · exact ⟨SlI.nil .., SlI.whole (own_blk h1) trivial rfl, SlI.nil .., Nat.zero_le _, Nat.zero_le _⟩
theorem aw_oks {p : Pres} {sv : Value} : ∀ r ∈ [awR0, awR1 p sv], callOk r.c := fun r hr => by
  simp only [List.mem_cons, List.not_mem_nil, or_false] at hr
  rcases hr with rfl | rfl
  · exact aw_ok0
  · exact aw_ok1 p

theorem c86 (h : ∀ w', Fr no w w' → R (.bool true) w') : CallsR Tryz.prog 86 #[] w R := by
  apply sh86; unfold S86
  refine pv_i (v := .agg #[.int .i64 1, .string ⟨#[117]⟩, .int .i64 0, .int .i64 1, .int .i64 0, .int .u64 9, nilS]) rfl ?_
  refine pv_i (v := awR0.v) rfl ?_
  refine pv_i (v := .agg #[.int .i64 4, .string ⟨#[117]⟩, .int .i64 0, .int .i64 0, .int .i64 0, .int .u64 0, nilS]) rfl ?_
  refine pv_i (v := Pres.zero.v) rfl ?_
  refine ⟨Pres.zero.cells, rfl, ?_⟩
  have n1 := newB_nw w Pres.zero.cells 150
  revert n1
  generalize newB w Pres.zero.cells 150 = w1
  intro n1
  generalize hb1 : w.heap.size = b1 at n1 ⊢
  refine pv_i (v := .agg #[.int .i64 0, .slice (some ⟨b1, 0, none⟩) 1 1, nilS, .bool false]) rfl ?_
  refine pv_i (v := (awR1 Pres.zero (.slice (some ⟨b1, 0, none⟩) 1 1)).v) rfl ?_
  refine ⟨awR0.cells ++ (awR1 Pres.zero (.slice (some ⟨b1, 0, none⟩) 1 1)).cells, rfl, ?_⟩
  have n2 := newB_nw w1 (awR0.cells ++ (awR1 Pres.zero (.slice (some ⟨b1, 0, none⟩) 1 1)).cells) 120
  revert n2
  generalize newB w1 (awR0.cells ++ (awR1 Pres.zero (.slice (some ⟨b1, 0, none⟩) 1 1)).cells) 120 = w2
  intro n2
  have z1 := n1.size
  generalize hb2 : w1.heap.size = b2 at n2 ⊢
  have o1 := n2.fr.own n1.own id
  have o2 := n2.own
  have f2 := n1.fr.trans n2.fr
  refine c59 fun w3 f3 => ?_
  refine c93 (c := small) (raws := [awR0, awR1 Pres.zero (.slice (some ⟨b1, 0, none⟩) 1 1)]) (Nat.zero_le _) (aw_calls (f3.own o1 id) (f3.own o2 id)) aw_oks (by show 2 < 2^60; decide) fun v4 w4 f4 s4 => ?_
  rw [show ([awR0, awR1 Pres.zero (.slice (some ⟨b1, 0, none⟩) 1 1)].map fun r => r.c) = [awC0, awC1 Pres.zero] from rfl, aw1] at s4 ⊢
  refine pv_i (ext3a _ _ _) (pv_i (ext3b _ _ _) (pv_i (ext3c _ _ _) ?_))
  refine c59 fun w5 f5 => ?_
  have f35 := (f3.trans f4).trans f5
  refine c91 (c := small) (raws := [awR0, awR1 Pres.zero (.slice (some ⟨b1, 0, none⟩) 1 1)]) (Nat.zero_le _) (aw_calls (f35.own o1 id) (f35.own o2 id)) aw_oks (by show 2 < 20; decide) fun w6 f6 => ?_
  rw [show ([awR0, awR1 Pres.zero (.slice (some ⟨b1, 0, none⟩) 1 1)].map fun r => r.c) = [awC0, awC1 Pres.zero] from rfl, aw3]
  refine pv_i (ext2a _ _) (pv_i (ext2b _ _) ?_)
  have f36 := f35.trans f6
  have p1 := f36.own o1 id
  have p2 := f36.own o2 id
  refine pv_i (v := .pointer (some ⟨b2, 18, none⟩)) rfl ?_
  refine pv_i (v := .pointer (some ⟨b2, 32, none⟩)) rfl ?_
  refine pv_i (v := .pointer (some ⟨b2, 33, none⟩)) rfl ?_
  refine ld_i (v := .slice (some ⟨b1, 0, none⟩) 1 1) p2 rfl ?_
  refine pv_i (v := (⟨1, 0, 1⟩ : Pres).v) rfl ?_
  refine pv_i (v := .pointer (some ⟨b1, 0, none⟩)) rfl ?_
  refine st_i (ds := (⟨1, 0, 1⟩ : Pres).cells) p1 (by exact Nat.le_refl 3) rfl rfl rfl fun w7 q7 => ?_
  have f07 : Fr no w w7 := (f2.trans f36).own1 q7.fr (by omega)
  -- the second list's rows
  have r2 := q7.oth p2 (by omega)
  refine c59 fun w8 f8 => ?_
  refine c93 (c := small) (raws := [awR0, awR1 ⟨1, 0, 1⟩ (.slice (some ⟨b1, 0, none⟩) 1 1)]) (Nat.zero_le _) (aw_calls (f8.own q7.own id) (f8.own r2 id)) aw_oks (by show 2 < 2^60; decide) fun v9 w9 f9 s9 => ?_
  rw [show ([awR0, awR1 ⟨1, 0, 1⟩ (.slice (some ⟨b1, 0, none⟩) 1 1)].map fun r => r.c) = [awC0, awC1 ⟨1, 0, 1⟩] from rfl, aw2] at s9 ⊢
  refine pv_i (ext3a _ _ _) (pv_i (ext3b _ _ _) (pv_i (ext3c _ _ _) ?_))
  have fin := h w9 ((f07.trans f8).trans f9)
  refine pv_i (v := .bool true) rfl ?_
  refine and_gB (fun h => by cases h) (fun _ => ?_)
  refine pv_i (v := .bool true) rfl (pv_i (v := .bool true) rfl ?_)
  refine and_gB (fun h => by cases h) (fun _ => ?_)
  refine pv_i (v := .bool true) rfl (pv_i (v := .bool true) rfl ?_)
  refine and_gB (fun h => by cases h) (fun _ => ?_)
  refine pv_i (v := .bool true) rfl (pv_i (v := .bool true) rfl ?_)
  refine and_gB (fun h => by cases h) (fun _ => ?_)
  refine pv_i (v := .bool true) rfl ?_
  refine and_gB (fun h => by cases h) (fun _ => ?_)
  refine pv_i (v := .bool true) rfl (pv_i (v := .bool true) rfl ?_)
  refine and_gB (fun h => by cases h) (fun _ => ?_)
  refine pv_i s9.lenV ?_
  refine pv_i (v := .bool true) rfl (pv_i (v := .bool true) rfl ?_)
  exact pv_i (v := .bool true) rfl fin

def shortP (l : List CallP) : Bool := l.all fun c => opShort c.op && decide (c.reply.vals.length ≤ 60) && decide (c.reply.evs.length ≤ 60)
theorem row_at {full E : List Value} {o k c : Nat} (h : (full.drop o).take k = E) (hc : c < k) : full[o + c]? = E[c]? := by
  rw [← h, List.getElem?_take_of_lt hc, List.getElem?_drop]
theorem row_sub {full E : List Value} {o k c s : Nat} (h : (full.drop o).take k = E) (hc : c + s ≤ k) : (full.drop (o + c)).take s = (E.drop c).take s := by
  rw [← h, List.drop_take, List.take_take, List.drop_drop, Nat.min_eq_left (by omega)]
/-- A row's place. -/
theorem CallsM.place {lv : Value} {raws : List RawC} {i : Nat} {r : RawC} (h : CallsM w Im lv raws) (hr : raws[i]? = some r) :
    ∃ b o full, idxSV 18 lv (.int .i64 (i : Nat)) = some (.pointer (some ⟨b, o, none⟩)) ∧ blk w b = some full ∧ o + 18 ≤ full.length ∧ (full.drop o).take 18 = r.cells := by
  have hlt : i < raws.length := by
    rcases Nat.lt_or_ge i raws.length with hh | hh
    · exact hh
    · rw [List.getElem?_eq_none hh] at hr; cases hr
  obtain ⟨b, o, full, h1, h2, h3, h4, h5⟩ := h.sl.idx (i := (i : Nat)) (kd := .i64) (by omega) (by omega)
  rw [Int.toNat_natCast] at h1
  refine ⟨b, o + i * 18, full, h1, h2, by omega, ?_⟩
  have hf := flat_at raw_len hr
  rw [← h5, List.drop_take, List.take_take, List.drop_drop, Nat.min_eq_left (by omega)] at hf
  exact hf

theorem c87 {lv : Value} {raws : List RawC} (hl : CallsM w Im lv raws) (hn : raws.length < 2^60) (h : ∀ w', Fr no w w' → R (.bool (shortP (raws.map fun r => r.c))) w') : CallsR Tryz.prog 87 #[lv] w R := by
  apply sh87; unfold S87
  rw [jnB_e]
  have hst : ∀ {i : Nat} {r : RawC}, raws[i]? = some r → shortP ((raws.map fun r => r.c).take (i + 1)) = (shortP ((raws.map fun r => r.c).take i) && (opShort r.c.op && decide (r.c.reply.vals.length ≤ 60) && decide (r.c.reply.evs.length ≤ 60))) := fun {i r} hr => by
    have hlt : i < raws.length := by
      rcases Nat.lt_or_ge i raws.length with hh | hh
      · exact hh
      · rw [List.getElem?_eq_none hh] at hr; cases hr
    unfold shortP
    rw [← List.map_take, ← List.map_take, List.take_succ_eq_append_getElem hlt, List.map_append, List.all_append]
    rw [List.getElem?_eq_getElem hlt] at hr
    rw [Option.some.inj hr]; simp
  have bad : ∀ {i : Nat}, shortP ((raws.map fun r => r.c).take i) = false → shortP (raws.map fun r => r.c) = false := fun {i} hh => by
    unfold shortP at hh ⊢
    rw [List.all_eq_false] at hh ⊢
    obtain ⟨x, hx, hx2⟩ := hh
    exact ⟨x, List.mem_of_mem_take hx, hx2⟩
  refine lp_c (fun d e u X => ∃ i : Nat, d = raws.length - i ∧ i ≤ raws.length ∧ X = no ∧ Fr no w u ∧ shortP ((raws.map fun r => r.c).take i) = true ∧ e 0 = lv ∧ e 3 = .int .i64 (i : Nat)) raws.length
    ⟨0, rfl, by omega, rfl, Fr.refl _ _, rfl, rfl, rfl⟩ ?_
  rintro d e u X N ⟨i, rfl, hi, rfl, f, hsh, e0', e3⟩ hN
  simp only [e0', e3]
  have hlu := hl.ext f
  refine pv_i hlu.sl.lenV ?_
  refine pv_i lss_i ?_
  by_cases hlt : i < raws.length
  · rw [decide_eq_true (by omega), condC_t]
    obtain ⟨r, hr⟩ : ∃ r, raws[i]? = some r := ⟨_, List.getElem?_eq_getElem hlt⟩
    have hs := hst hr
    rw [hsh, Bool.true_and] at hs
    obtain ⟨b, o, full, h1, h2, h3, h4⟩ := hlu.place hr
    refine pv_i h1 ?_
    refine pv_i (v := .pointer (some ⟨b, o + 2, none⟩)) rfl ?_
    refine la_b h2 (by omega) (row_sub h4 (by decide)) ?_
    refine c62 (x := r.c.op) ((hlu.in_ r (List.mem_of_getElem? hr)).op) fun u2 f2 => ?_
    have f02 := f.trans f2
    have h2' := f2.blk h2 id
    refine pv_i (not_b _) ?_
    -- not short
    have no_ : ∀ (u3 : World), Fr no w u3 → shortP ((raws.map fun r => r.c).take (i + 1)) = false → R (.bool false) u3 := fun u3 f3 hh => by
      have := h u3 f3
      rw [bad hh] at this; exact this
    refine or_gB (fun k1 => ?_) (fun k1 => ?_)
    · refine or_gB (fun _ => ?_) (fun h => by cases h)
      rw [condC_t]
      exact no_ u2 f02 (by rw [hs]; cases ho : opShort r.c.op <;> simp_all)
    have ho : opShort r.c.op = true := by cases ho : opShort r.c.op <;> simp_all
    rw [ho, Bool.true_and] at hs
    refine pv_i h1 ?_
    refine pv_i (v := .pointer (some ⟨b, o + 14, none⟩)) rfl ?_
    refine pv_i (v := .pointer (some ⟨b, o + 14 + 1, none⟩)) rfl ?_
    refine ld_b (v := r.sv) h2' (by rw [Nat.add_assoc]; exact row_at h4 (by decide)) ?_
    have hin := (hl.ext f02).in_ r (List.mem_of_getElem? hr)
    refine pv_i hin.sv.lenV ?_
    refine pv_i gtr_i ?_
    refine pv_i (v := .bool _) rfl ?_
    refine or_gB (fun k2 => ?_) (fun k2 => ?_)
    · rw [condC_t]
      have k2 := of_decide_eq_true k2
      exact no_ u2 f02 (by rw [hs, show decide (r.c.reply.vals.length ≤ 60) = false from decide_eq_false (by omega)]; rfl)
    have k2 := of_decide_eq_false k2
    rw [show decide (r.c.reply.vals.length ≤ 60) = true from decide_eq_true (by omega), Bool.true_and] at hs
    refine pv_i h1 ?_
    refine pv_i (v := .pointer (some ⟨b, o + 14, none⟩)) rfl ?_
    refine pv_i (v := .pointer (some ⟨b, o + 14 + 2, none⟩)) rfl ?_
    refine ld_b (v := r.se) h2' (by rw [Nat.add_assoc]; exact row_at h4 (by decide)) ?_
    refine pv_i hin.se.lenV ?_
    refine pv_i gtr_i ?_
    refine pv_i (v := .bool _) rfl ?_
    by_cases k3 : 60 < r.c.reply.evs.length
    · rw [decide_eq_true (by omega), condC_t]
      exact no_ u2 f02 (by rw [hs]; exact decide_eq_false (by omega))
    · rw [decide_eq_false (by omega), condC_f]
      refine pv_i (add1 (by omega)) ?_
      exact hN _ _ _ _ (by omega) ⟨i + 1, rfl, by omega, rfl, f02, by rw [hs]; exact decide_eq_true (by omega), rfl, rfl⟩
  · have : i = raws.length := by omega
    subst this
    rw [decide_eq_false (by omega), condC_f]
    have := h u f
    rw [List.take_of_length_le (by rw [List.length_map]; exact Nat.le_refl _)] at hsh
    rw [hsh] at this; exact this
end Go.Dm
