/- A part of the proof that doormanlaw21.LinOpen returns true for every input, on no condition. -/
import Derived.Test.YtbfajkpjilhkgaaGreatG1
set_option linter.unusedVariables false
set_option linter.unusedSimpArgs false
set_option linter.deprecated false
/-! How many a client watches. -/
namespace Go.Dm
open Go Go.Proofs
variable {w : World} {R : Value → World → Prop}

theorem count_take {f : Feed} {who : Int} {j : Nat} {u : ByteArray} {m : Nat} (h : f.watches[j]? = some (u, m)) :
    (Feed.count ⟨f.watches.take (j + 1), []⟩ who) = (Feed.count ⟨f.watches.take j, []⟩ who) + if isCl who && m.testBit who.toNat then 1 else 0 := by
  have hlt : j < f.watches.length := by
    rcases Nat.lt_or_ge j f.watches.length with hh | hh
    · exact hh
    · rw [List.getElem?_eq_none hh] at h; cases h
  unfold Feed.count
  simp only []
  rw [List.take_succ_eq_append_getElem hlt, List.filter_append, List.length_append]
  rw [List.getElem?_eq_getElem hlt] at h
  rw [Option.some.inj h]
  congr 1
  cases hh : isCl who && m.testBit who.toNat <;> simp [hh]

theorem c277 {g : Gh} {p : List Nat} {b : Nat} {f : Feed} {who : Int} (hf : FeedR w g p b f) (hn : f.watches.length < 2^38) (h : ∀ w', Fr no w w' → R (.int .i64 (f.count who : Nat)) w') :
    CallsR Tryz.prog 277 #[.pointer (some ⟨b, 0, none⟩), .int .i64 who] w R := by
  apply sh277; unfold S277
  obtain ⟨hb, ks, vs, qbs, ho, hm, h1, h2, h3, h4⟩ := hf
  refine al_i fun b3 w1 n1 => al_i fun b5 w2 n2 => ?_
  have e1 := n1.eq; have z1 := n1.size; have e2 := n2.eq; have z2 := n2.size
  refine st_i (ds := [.int .i64 0]) n2.own (by simp) rfl rfl rfl fun w3 p3 => ?_
  have z3 := p3.size
  have f3 : Fr no w w3 := (n1.fr.trans n2.fr).own1 p3.fr (by omega)
  refine pv_i rfl ?_
  refine pv_i (v := .pointer (some ⟨b, 0, none⟩)) rfl ?_
  refine la_i (xs := [ks, vs]) (f3.own ho id) (by simp) rfl ?_
  refine c344 fun bl w4 n4 => ?_
  have e4 := n4.eq; have z4 := n4.size
  have f4 := f3.trans n4.fr
  refine ⟨ent380, fun w6 L rr hin hy => ?_⟩
  have eL := hin.eq; have z6 := hin.size
  have f6 := f4.trans hin.fr
  have o3 : own w6 b3 = some [.int .i64 who] := hin.fr.own (n4.fr.own (p3.oth (n2.fr.own n1.own id) (by omega)) id) id
  have o5 : own w6 b5 = some [.int .i64 0] := hin.fr.own (n4.fr.own p3.own id) id
  have ol : own w6 bl = some [ks, vs] := hin.fr.own n4.own id
  obtain ⟨ks', vs', hkv, hk, hv, r1, r2, r3⟩ := hm
  cases hkv
  show CallsR Tryz.prog 380 #[.func (.yield L) #[] #[], .pointer (some ⟨bl, 0, none⟩)] w6 _
  have hml : (mMap u32c f.watches).length = f.watches.length := by unfold mMap; rw [List.length_map]
  refine c380 (b := bl) (ks := ks) (vs := vs) (m := mMap u32c f.watches) (fun j W => j ≤ f.watches.length ∧ Fr no w W ∧ own W b3 = some [.int .i64 who] ∧ own W b5 = some [.int .i64 (Feed.count ⟨f.watches.take j, []⟩ who : Nat)] ∧ own W bl = some [ks, vs] ∧
      W.heap[L]? = some (.loop rr) ∧ W.heap[w4.heap.size]? = some (.deferred (some [])) ∧ w6.heap.size ≤ W.heap.size) (fun _ => False)
    ?_ r1 (by rw [hml]; omega) ?_ ?_ ?_ (fun W hW => hW.elim)
  · rintro j W ⟨hj, fW, q3, q5, ql, qL, qD, hz⟩
    exact ⟨own_blk ql, (hk.ext fW).im fun _ _ _ => trivial, (hv.ext fW).im fun _ _ _ => trivial⟩
  · exact ⟨by omega, f6, o3, by simpa [Feed.count] using o5, ol, hin.rec_, hin.mark, Nat.le_refl _⟩
  · rintro j W u x K ⟨hj, fW, q3, q5, ql, qL, qD, hz⟩ hx hK hZ
    obtain ⟨m, hm, rfl⟩ : ∃ m, f.watches[j]? = some (u, m) ∧ x = .int .u32 (m : Nat) := by
      unfold mMap at hx
      rw [List.getElem?_map] at hx
      cases hg : f.watches[j]? with
      | none => rw [hg] at hx; cases hx
      | some y =>
        rw [hg] at hx
        have hx := Option.some.inj hx
        obtain ⟨y1, y2⟩ := y
        unfold u32c at hx
        simp only [Prod.mk.injEq, List.cons.injEq, and_true] at hx
        exact ⟨y2, by rw [hx.1], hx.2.symm⟩
    have hjl : j < f.watches.length := by
      rcases Nat.lt_or_ge j f.watches.length with hh | hh
      · exact hh
      · rw [List.getElem?_eq_none hh] at hm; cases hm
    have hmlt : m < 256 := h4 _ (List.mem_of_getElem? hm)
    refine hy (fun i => if i = 0 then .string u else .int .u32 (m : Nat)) W K qL ?_
    have qLt := heap_lt qL; have qDt := heap_lt qD
    refine ⟨qL, ?_⟩
    have r3' : own (W.putObj L (.loop (lpBusy rr))) b3 = _ := (own_putObj (by omega)).trans q3
    have r5' : own (W.putObj L (.loop (lpBusy rr))) b5 = _ := (own_putObj (by omega)).trans q5
    have rl' : own (W.putObj L (.loop (lpBusy rr))) bl = _ := (own_putObj (by omega)).trans ql
    have rL : (W.putObj L (.loop (lpBusy rr))).heap[L]? = some (.loop (lpBusy rr)) := putObj_at qL
    have rD : (W.putObj L (.loop (lpBusy rr))).heap[w4.heap.size]? = some (.deferred (some [])) := by rw [World.putObj_heap_other (by omega)]; exact qD
    have fW3 : Fr no w (W.putObj L (.loop (lpBusy rr))) := fW.putObj (by omega)
    have z3' : W.heap.size = (W.putObj L (.loop (lpBusy rr))).heap.size := by rw [World.putObj_size]
    revert r3' r5' rl' rL rD fW3 z3'
    generalize W.putObj L (.loop (lpBusy rr)) = W3
    intro r3' r5' rl' rL rD fW3 z3'
    -- what happens last
    have fin : ∀ (u5 : World), (∀ c, c < W3.heap.size → c ≠ b5 → u5.heap[c]? = W3.heap[c]?) → Fr no w u5 → W3.heap.size = u5.heap.size → own u5 b5 = some [.int .i64 (Feed.count ⟨f.watches.take (j + 1), []⟩ who : Nat)] → endT L rr K u5 := by
      intro u5 hu fu zu hc
      have uL : u5.heap[L]? = some (.loop (lpBusy rr)) := by rw [hu L (heap_lt rL) (by omega)]; exact rL
      have uD : u5.heap[w4.heap.size]? = some (.deferred (some [])) := by rw [hu _ (heap_lt rD) (by omega)]; exact rD
      have uo : ∀ {c : Nat} {cs : List Value}, own W3 c = some cs → c ≠ b5 → own u5 c = some cs := fun {c cs} ho hne => by have := own_lt ho; unfold own at ho ⊢; rw [hu c this hne]; exact ho
      refine ⟨uL, ?_⟩
      refine hK _ ⟨by omega, fu.putObj (by omega), ?_, ?_, ?_, putObj_at uL, ?_, ?_⟩
      · rw [own_putObj (by omega)]; exact uo r3' (by omega)
      · rw [own_putObj (by omega)]; exact hc
      · rw [own_putObj (by omega)]; exact uo rl' (by omega)
      · rw [World.putObj_heap_other (by omega)]; exact uD
      · rw [World.putObj_size]; omega
    have hstep := count_take (who := who) hm
    refine ld_i r3' rfl ?_
    refine c280 ?_
    by_cases hc : 0 ≤ who ∧ who < 8
    · have hicl : isCl who = true := by unfold isCl; exact decide_eq_true hc
      rw [decide_eq_true hc]
      refine gd_t rfl ?_
      refine gd_t rfl ?_
      refine ld_i r3' rfl ?_
      refine gd_t rfl ?_
      refine pv_i (shrM hmlt hc.1 hc.2) ?_
      refine gd_t rfl ?_
      refine pv_i (andM (Nat.lt_of_le_of_lt (Nat.div_le_self _ _) hmlt)) ?_
      refine gd_t rfl ?_
      refine pv_i eql_i ?_
      have hte := test_eq ⟨m, hmlt⟩ ⟨who.toNat, by omega⟩
      simp only at hte
      rw [hte]
      refine pv_i (v := .bool (m.testBit who.toNat)) rfl ?_
      rw [hicl, Bool.true_and] at hstep
      cases hb : m.testBit who.toNat with
      | true =>
        rw [hb] at hstep
        rw [condC_t]
        refine ld_i r5' rfl ?_
        have hcl : Feed.count ⟨f.watches.take j, []⟩ who ≤ f.watches.length := by
          unfold Feed.count
          refine Nat.le_trans (List.length_filter_le _ _) ?_
          simp only [List.length_take]; omega
        refine pv_i (add1 (by omega)) ?_
        refine st_i (ds := [.int .i64 (Feed.count ⟨f.watches.take j, []⟩ who + 1 : Nat)]) r5' (by simp) rfl rfl rfl fun u5 p5 => ?_
        refine fin u5 (fun c hc hne => p5.fr.keep c hc hne) (fW3.own1 p5.fr (by omega)) (by rw [p5.size]) ?_
        rw [hstep, if_pos rfl]; exact p5.own
      | false =>
        rw [hb] at hstep
        rw [condC_f]
        refine fin W3 (fun _ _ _ => rfl) fW3 rfl ?_
        rw [hstep, if_neg (by simp)]; exact r5'
    · have hicl : isCl who = false := by unfold isCl; exact decide_eq_false hc
      rw [decide_eq_false hc]
      refine gd_f (by simp [boolOf]) ?_
      refine gd_f (by simp [boolOf]) ?_
      refine gd_f (by simp [boolOf]) ?_
      refine gd_f (by simp [boolOf]) ?_
      refine gd_f (by simp [boolOf]) ?_
      refine pv_i (v := .bool false) rfl ?_
      rw [condC_f]
      refine fin W3 (fun _ _ _ => rfl) fW3 rfl ?_
      rw [hstep, hicl, Bool.false_and, if_neg (by simp)]; exact r5'
  · rintro W ⟨hj, fW, q3, q5, ql, qL, qD, hz⟩
    rw [hml, List.take_length] at q5
    refine .inl ⟨qL, ?_⟩
    have qLt := heap_lt qL; have qDt := heap_lt qD
    have fU : Fr no w (W.putObj L (.loop (lpOut rr))) := fW.putObj (by omega)
    have u5 : own (W.putObj L (.loop (lpOut rr))) b5 = _ := (own_putObj (by omega)).trans q5
    have uD : (W.putObj L (.loop (lpOut rr))).heap[w4.heap.size]? = some (.deferred (some [])) := by rw [World.putObj_heap_other (by omega)]; exact qD
    revert fU u5 uD
    generalize W.putObj L (.loop (lpOut rr)) = U
    intro fU u5 uD
    rw [rfQ_n]
    refine ld_i u5 rfl ?_
    refine ⟨uD, ?_⟩
    exact h _ (fU.putObj (by have := f4.size; omega))
end Go.Dm
/-! Events of several feeds, by rising numbers. -/
namespace Go.Dm
open Go Go.Proofs
variable {w : World} {R : Value → World → Prop} {Im : Nat → Prop}

/-! Plain -/
def headSeq (rs : List (List Evt)) (b : Nat) : Nat := match rs[b]? with | some (x :: _) => x.seq | _ => 0
def bestTo (rs : List (List Evt)) : Nat → Option Nat
  | 0 => none
  | i + 1 => match rs[i]? with
    | some (x :: _) => match bestTo rs i with | none => some i | some b => if x.seq < headSeq rs b then some i else some b
    | _ => bestTo rs i
def mergeN : Nat → List (List Evt) → List Evt
  | 0, _ => []
  | n + 1, rs => match bestTo rs rs.length with
    | none => []
    | some b => match rs[b]? with | some (x :: r) => x :: mergeN n (rs.set b r) | _ => []
def total (rs : List (List Evt)) : Nat := (rs.map List.length).sum
def merge (rs : List (List Evt)) : List Evt := mergeN (total rs + 1) rs
theorem total_set : ∀ (rs : List (List Evt)) (b : Nat) (x : Evt) (r : List Evt), rs[b]? = some (x :: r) → total (rs.set b r) + 1 = total rs
  | [], b, _, _, h => by simp at h
  | l :: rs, 0, x, r, h => by
    simp at h; subst h; unfold total; simp; omega
  | l :: rs, b + 1, x, r, h => by
    have := total_set rs b x r (by simpa using h)
    unfold total at this ⊢; simp at this ⊢; omega
theorem le_total : ∀ {rs : List (List Evt)} {es : List Evt}, es ∈ rs → es.length ≤ total rs
  | a :: rs, es, h => by
    unfold total; simp only [List.map_cons, List.sum_cons]
    rcases List.mem_cons.1 h with rfl | h
    · omega
    · have := le_total h; unfold total at this; omega
theorem best_some (rs : List (List Evt)) : ∀ (i b : Nat), bestTo rs i = some b → b < i ∧ ∃ x r, rs[b]? = some (x :: r)
  | 0, b, h => by cases h
  | i + 1, b, h => by
    unfold bestTo at h
    split at h
    · rename_i x r hx
      split at h
      · cases h; exact ⟨by omega, x, r, hx⟩
      · rename_i b' hb'
        split at h
        · cases h; exact ⟨by omega, x, r, hx⟩
        · cases h
          obtain ⟨h1, h2⟩ := best_some rs i b hb'
          exact ⟨by omega, h2⟩
    · obtain ⟨h1, h2⟩ := best_some rs i b h
      exact ⟨by omega, h2⟩

/-! What is left -/
def rest (ls : List (List Evt)) (a : List Nat) : List (List Evt) := List.zipWith (fun l n => l.drop n) ls a
theorem rest_get {ls : List (List Evt)} {a : List Nat} {i : Nat} {es : List Evt} {n : Nat} (h : ls[i]? = some es) (h2 : a[i]? = some n) : (rest ls a)[i]? = some (es.drop n) := by
  unfold rest; rw [List.getElem?_zipWith, h, h2]
theorem rest_set {ls : List (List Evt)} {a : List Nat} {i : Nat} {es : List Evt} {n : Nat} {x : Evt} {r : List Evt} (h : ls[i]? = some es) (h2 : a[i]? = some n) (hx : es.drop n = x :: r) : rest ls (a.set i (n + 1)) = (rest ls a).set i r := by
  have hi : i < a.length := by
    rcases Nat.lt_or_ge i a.length with hh | hh
    · exact hh
    · rw [List.getElem?_eq_none hh] at h2; cases h2
  have hil : i < ls.length := by
    rcases Nat.lt_or_ge i ls.length with hh | hh
    · exact hh
    · rw [List.getElem?_eq_none hh] at h; cases h
  apply List.ext_getElem?; intro j
  unfold rest
  rw [List.getElem?_zipWith, List.getElem?_set, List.getElem?_set, List.getElem?_zipWith]
  by_cases hij : i = j
  · subst hij
    rw [if_pos rfl, if_pos hi, if_pos rfl, if_pos (by simp; omega), h]
    have : es.drop (n + 1) = r := by rw [← List.drop_drop, hx]; rfl
    simp [this]
  · rw [if_neg hij, if_neg hij]
theorem rest_zero (ls : List (List Evt)) : rest ls (List.replicate ls.length 0) = ls := by
  apply List.ext_getElem?; intro j
  unfold rest
  rw [List.getElem?_zipWith, List.getElem?_replicate]
  cases h : ls[j]? with
  | none => rfl
  | some es =>
    have : j < ls.length := by
      rcases Nat.lt_or_ge j ls.length with hh | hh
      · exact hh
      · rw [List.getElem?_eq_none hh] at h; cases h
    simp [this]
theorem rest_length {ls : List (List Evt)} {a : List Nat} (h : a.length = ls.length) : (rest ls a).length = ls.length := by unfold rest; simp; omega

/-! Fields of rows -/
theorem SlI.fld {α : Type} {enc : α → List Value} {k : Nat} {v y : Value} {l : List α} (h : SlI w Im k v l.length (l.flatMap enc)) (hk : ∀ x, (enc x).length = k) {i c : Nat} {kd : IntKind} {x : α} (hx : l[i]? = some x) (hy : (enc x)[c]? = some y) (hc : c < k) :
    ∃ p p', idxSV k v (.int kd (i : Nat)) = some p ∧ addrV c p = some p' ∧ ∀ (K : Value → Prop), K y → ldC w false 1 p' K := by
  have hlt : i < l.length := by
    rcases Nat.lt_or_ge i l.length with hh | hh
    · exact hh
    · rw [List.getElem?_eq_none hh] at hx; cases hx
  obtain ⟨b, o, full, h1, h2, h3, h4, h5⟩ := h.idx (i := (i : Nat)) (kd := kd) (by omega) (by omega)
  rw [Int.toNat_natCast] at h1
  refine ⟨_, .pointer (some ⟨b, o + i * k + c, none⟩), h1, rfl, fun K hK => ld_b h2 ?_ hK⟩
  have hf := flat_at hk hx
  rw [← h5] at hf
  have hik : i * k + k ≤ l.length * k := by rw [← Nat.succ_mul]; exact Nat.mul_le_mul_right k (by omega)
  have h6 : (((List.take (l.length * k) (full.drop o)).drop (i * k)).take k)[c]? = some y := by rw [hf]; exact hy
  rw [List.getElem?_take_of_lt hc, List.getElem?_drop, List.getElem?_take_of_lt (by omega), List.getElem?_drop] at h6
  rw [← h6]; congr 1; omega
/-- A slice made. -/
theorem ms_i {bytes n : Nat} {zero : List Value} {t : TypeId} {kd kd' : IntKind} {K : Value → World → Prop} (hn : n < 2^47) (hb : n * bytes ≤ 2^47)
    (h : ∀ v w', SlO w' zero.length t v n (repL n zero) (some w.heap.size) → Fr no w w' → w'.heap.size = w.heap.size + 1 → K v w') : msC w bytes zero t (.int kd n) (.int kd' n) K := by
  refine ⟨kd, kd', n, n, rfl, rfl, Nat.le_refl _, hn, hb, ?_⟩
  have nw := newB_nw w (repL n zero) t
  refine h _ _ ⟨⟨n, rfl, Nat.le_refl _, (fun h => by cases h), fun b hb => ?_⟩, repL_length n zero⟩ nw.fr nw.size
  cases hb
  exact ⟨_, nw.own, repL_length n zero, List.take_of_length_le (by rw [repL_length]; exact Nat.le_refl _), nw.typ⟩
def intCells (a : List Nat) : List Value := a.map fun n => .int .i64 (n : Nat)
theorem repL_int : ∀ n, repL n [.int .i64 0] = intCells (List.replicate n 0)
  | 0 => rfl
  | n + 1 => by unfold repL; rw [repL_int n]; rfl
theorem splice_int {a : List Nat} {i n : Nat} (hi : i < a.length) : splice (intCells a) i [.int .i64 (n : Nat)] = intCells (a.set i n) := by
  unfold splice intCells
  rw [List.set_eq_take_append_cons_drop, if_pos hi, List.map_append, List.map_cons, List.map_take, List.map_drop]
  simp
def bestI : Option Nat → Int | none => -1 | some b => (b : Nat)

theorem c85 {lv : Value} {vs : List Value} {ls : List (List Evt)} (hl : SlI w Im 1 lv ls.length vs) (hi : ∀ (i : Nat) (v : Value) (es : List Evt), vs[i]? = some v → ls[i]? = some es → SlI w Im 8 v es.length (es.flatMap Evt.cells)) (hs : ls.length < 2^30) (ht : total ls < 2^40)
    (h : ∀ v w' ob, SlO w' 8 152 v (merge ls).length ((merge ls).flatMap Evt.cells) ob → (∀ o, ob = some o → w.heap.size ≤ o) → Fr no w w' → R v w') : CallsR Tryz.prog 85 #[lv] w R := by
  apply sh85; unfold S85
  have hvl : vs.length = ls.length := by have := hl.len; omega
  refine pv_i hl.lenV ?_
  refine ms_i (by omega) (by omega) fun t9 w1 s1 f1 z1 => ?_
  rw [show ([Value.int .i64 0] : List Value).length = 1 from rfl, repL_int] at s1
  refine lp_c (fun d e u X => ∃ (a : List Nat) (acc : List Evt) (ov : Value) (ob : Option Nat), d = total (rest ls a) ∧ a.length = ls.length ∧ X = no ∧ Fr no w u ∧ acc ++ mergeN (total (rest ls a) + 1) (rest ls a) = merge ls ∧ acc.length + total (rest ls a) ≤ total ls ∧
      SlO u 1 3 t9 ls.length (intCells a) (some w.heap.size) ∧ SlO u 8 152 ov acc.length (acc.flatMap Evt.cells) ob ∧ (∀ o, ob = some o → w.heap.size < o) ∧ e 0 = lv ∧ e 3 = ov ∧ e 4 = t9) (total ls)
    ⟨List.replicate ls.length 0, [], .slice none 0 0, none, by rw [rest_zero], by simp, rfl, f1, by rw [rest_zero]; rfl, by rw [rest_zero]; simp, s1, SlO.nil .., (fun o hh => by cases hh), rfl, rfl, rfl⟩ ?_
  rintro d e u X N ⟨a, acc, ov, ob, rfl, hal, rfl, fu, hm, htot, hsa, hso, hob, e0', e3, e4⟩ hN
  simp only [e0', e3, e4]
  rw [jnB_e]
  refine pv_i hl.lenV ?_
  have lsat : ∀ i, i < ls.length → ∃ es v n, ls[i]? = some es ∧ vs[i]? = some v ∧ a[i]? = some n := fun i hi =>
    ⟨_, _, _, List.getElem?_eq_getElem hi, List.getElem?_eq_getElem (by omega), List.getElem?_eq_getElem (by omega)⟩
  have hIm : SlI u (fun _ => True) 1 t9 ls.length (intCells a) := hsa.imm
  have rlen := rest_length hal
  have bi : ∀ {b : Nat} {n : Nat}, a[b]? = some n → (intCells a)[b]? = some (.int .i64 (n : Nat)) := fun {b n} h => by unfold intCells; rw [List.getElem?_map, h]; rfl
  refine lp_c (fun d e u2 X => ∃ i : Nat, d = ls.length - i ∧ i ≤ ls.length ∧ X = no ∧ Fr no u u2 ∧ e 0 = lv ∧ e 3 = ov ∧ e 4 = t9 ∧ e 5 = .int .i64 (bestI (bestTo (rest ls a) i)) ∧ e 11 = .int .i64 ls.length ∧ e 12 = .int .i64 (i : Nat)) ls.length
    ⟨0, rfl, by omega, rfl, Fr.refl _ _, rfl, rfl, rfl, rfl, rfl, rfl⟩ ?_
  rintro d e u2 X N2 ⟨i, rfl, hil, rfl, f2, e0', e3, e4, e5, e11, e12⟩ hN2
  simp only [e0', e3, e4, e5, e11, e12]
  refine pv_i lss_i ?_
  by_cases hlt : i < ls.length
  · rw [decide_eq_true (by omega), condC_t, jnB_e]
    obtain ⟨es, v, n, h1, h2, h3⟩ := lsat i hlt
    have f3 : Fr no u (drewW u2) := f2.trans (drewW_fr _ _)
    generalize drewW u2 = u3 at f3 ⊢
    have hT := hIm.ext f3
    have hL := hl.ext (fu.trans f3)
    have hE := (hi i v es h2 h1).ext (fu.trans f3)
    obtain ⟨p1, hp1, l1⟩ := hT.ld1' (i := (i : Nat)) (kd := .i64) (by omega) (by omega) (x := .int .i64 (n : Nat)) (by rw [Int.toNat_natCast]; exact bi h3)
    obtain ⟨p2, hp2, l2⟩ := hL.ld1' (i := (i : Nat)) (kd := .i64) (by omega) (by omega) (x := v) (by rw [Int.toNat_natCast]; exact h2)
    refine pv_i hp1 ?_
    refine pv_i hp2 ?_
    refine l1 _ ?_
    refine l2 _ ?_
    refine pv_i hE.lenV ?_
    refine pv_i lss_i ?_
    have hrg := rest_get h1 h3
    -- behind it
    have next : ∀ (o : Option Nat), bestTo (rest ls a) (i + 1) = o →
        pv (binV .add (.int .i64 (i : Nat)) (.int .i64 1)) fun t55 => N2 (upd (upd (upd (upd (upd (upd e0 12 t55) 11 (.int .i64 ls.length)) 5 (.int .i64 (bestI o))) 4 t9) 3 ov) 0 lv) u3 no := by
      intro o hb
      refine pv_i (add1 (by omega)) ?_
      refine hN2 _ _ _ _ (by omega) ⟨i + 1, rfl, by omega, rfl, f3, rfl, rfl, rfl, ?_, rfl, rfl⟩
      rw [hb]; rfl
    by_cases hne : n < es.length
    · rw [decide_eq_true (by omega), gdB_b, if_pos rfl]
      obtain ⟨x, r, hxr⟩ : ∃ x r, es.drop n = x :: r := by
        cases hd : es.drop n with
        | nil => have := congrArg List.length hd; simp at this; omega
        | cons x r => exact ⟨x, r, rfl⟩
      have hx : es[n]? = some x := by
        have : (es.drop n)[0]? = some x := by rw [hxr]; rfl
        rw [List.getElem?_drop] at this; simpa using this
      rw [hxr] at hrg
      refine pv_i lss_i ?_
      dsimp only [upd]
      cases hb : bestTo (rest ls a) i with
      | none =>
        have hn : bestTo (rest ls a) (i + 1) = some i := by unfold bestTo; rw [hrg, hb]
        rw [show decide (bestI none < 0) = true from rfl]
        rw [gdB_b, if_neg (by simp)]
        dsimp only [upd]
        rw [gdB_b, if_pos rfl]
        refine pv_i (v := .bool true) rfl ?_
        refine pv_i (v := .bool true) rfl ?_
        rw [condC_t]
        exact next (some i) hn
      | some b =>
        have hn : bestTo (rest ls a) (i + 1) = if x.seq < headSeq (rest ls a) b then some i else some b := by
          rw [bestTo, hrg]; simp only []; rw [hb]
        rw [show decide (bestI (some b) < 0) = false from decide_eq_false (by show ¬ ((b : Nat) : Int) < 0; omega)]
        rw [gdB_b, if_pos rfl]
        obtain ⟨hbi, y, r', hy⟩ := best_some _ _ _ hb
        have hbl : b < ls.length := by omega
        obtain ⟨es', v', n', k1, k2, k3⟩ := lsat b hbl
        have hyr := rest_get k1 k3
        rw [hy] at hyr
        have hyr := Option.some.inj hyr
        have hy' : es'[n']? = some y := by
          have : (es'.drop n')[0]? = some y := by rw [← hyr]; rfl
          rw [List.getElem?_drop] at this; simpa using this
        obtain ⟨q1, hq1, m1⟩ := hL.ld1' (i := (b : Nat)) (kd := .i64) (by omega) (by omega) (x := v') (by rw [Int.toNat_natCast]; exact k2)
        obtain ⟨q2, hq2, m2⟩ := hT.ld1' (i := (b : Nat)) (kd := .i64) (by omega) (by omega) (x := .int .i64 (n' : Nat)) (by rw [Int.toNat_natCast]; exact bi k3)
        refine pv_i hp2 (pv_i hp1 (pv_i hq1 (pv_i hq2 ?_)))
        refine l2 _ (l1 _ ?_)
        obtain ⟨a1, a2, ha1, ha2, ha3⟩ := hE.fld (kd := .i64) evt_len hx (c := 7) (y := .int .u64 x.seq) rfl (by decide)
        refine pv_i ha1 (pv_i ha2 (ha3 _ ?_))
        refine m1 _ (m2 _ ?_)
        obtain ⟨b1, b2, hb1, hb2, hb3⟩ := ((hi b v' es' k2 k1).ext (fu.trans f3)).fld (kd := .i64) evt_len hy' (c := 7) (y := .int .u64 y.seq) rfl (by decide)
        refine pv_i hb1 (pv_i hb2 (hb3 _ ?_))
        have hhs : headSeq (rest ls a) b = y.seq := by unfold headSeq; rw [hy]
        rw [hhs] at hn
        refine pv_i (v := .bool (decide ((x.seq : Int) < (y.seq : Int)))) rfl ?_
        dsimp only [upd]
        rw [gdB_b, if_pos rfl]
        refine pv_i (v := .bool (decide ((x.seq : Int) < (y.seq : Int)))) rfl ?_
        refine pv_i (v := .bool (decide ((x.seq : Int) < (y.seq : Int)))) rfl ?_
        by_cases hxy : x.seq < y.seq
        · rw [decide_eq_true (by omega), condC_t]
          rw [if_pos hxy] at hn
          exact next (some i) hn
        · rw [decide_eq_false (by omega), condC_f]
          rw [if_neg hxy] at hn
          exact next (some b) hn
    · rw [decide_eq_false (by omega), gdB_b, if_neg (by simp)]
      dsimp only [upd]
      rw [gdB_u]
      dsimp only [upd]
      rw [gdB_b, if_neg (by simp)]
      dsimp only [upd]
      refine pv_i (v := .bool false) rfl ?_
      rw [condC_f]
      have hnil : es.drop n = [] := List.drop_of_length_le (by omega)
      rw [hnil] at hrg
      have hn : bestTo (rest ls a) (i + 1) = bestTo (rest ls a) i := by rw [bestTo, hrg]
      exact next _ hn
  · have : i = ls.length := by omega
    subst this
    rw [decide_eq_false (by omega), condC_f]
    refine pv_i lss_i ?_
    cases hb : bestTo (rest ls a) ls.length with
    | none =>
      rw [show decide (bestI none < 0) = true from rfl, condC_t]
      have hmm : merge ls = acc := by
        rw [← hm]; unfold mergeN; rw [rlen, hb]; simp
      rw [hmm] at h
      exact h ov u2 ob (hso.keep f2 (fun _ _ => no_not _)) (fun o hh => Nat.le_of_lt (hob o hh)) (fu.trans f2)
    | some b =>
      rw [show decide (bestI (some b) < 0) = false from decide_eq_false (by show ¬ ((b : Nat) : Int) < 0; omega), condC_f]
      obtain ⟨hbi, y, r', hy⟩ := best_some _ _ _ hb
      obtain ⟨es', v', n', k1, k2, k3⟩ := lsat b hbi
      have hyr := rest_get k1 k3
      rw [hy] at hyr
      have hyr := Option.some.inj hyr
      have hy' : es'[n']? = some y := by
        have : (es'.drop n')[0]? = some y := by rw [← hyr]; rfl
        rw [List.getElem?_drop] at this; simpa using this
      have f3 : Fr no u (drewW u2) := f2.trans (drewW_fr _ _)
      generalize drewW u2 = u3 at f3 ⊢
      have hT := hIm.ext f3
      have hL := hl.ext (fu.trans f3)
      obtain ⟨q1, hq1, m1⟩ := hL.ld1' (i := (b : Nat)) (kd := .i64) (by omega) (by omega) (x := v') (by rw [Int.toNat_natCast]; exact k2)
      obtain ⟨q2, hq2, m2⟩ := hT.ld1' (i := (b : Nat)) (kd := .i64) (by omega) (by omega) (x := .int .i64 (n' : Nat)) (by rw [Int.toNat_natCast]; exact bi k3)
      refine pv_i hq1 (pv_i hq2 ?_)
      refine m1 _ (m2 _ ?_)
      obtain ⟨a1, ha1, ha2⟩ := ((hi b v' es' k2 k1).ext (fu.trans f3)).at (kd := .i64) evt_len hy'
      refine pv_i ha1 (ha2 _ ?_)
      refine ⟨y.cells, rfl, ?_⟩
      have n4 := newB_nw u3 y.cells 152
      revert n4
      generalize newB u3 y.cells 152 = u4
      intro n4
      have f4 := f3.trans n4.fr
      have hrow : Row u4 (some ⟨u3.heap.size, 0, none⟩) (1 * 8) y.cells := ⟨rfl, .inr ⟨u3.heap.size, 0, y.cells, rfl, own_blk n4.own, (by exact Nat.le_refl 8), rfl⟩⟩
      have hts := total_set _ _ _ _ hy
      have hsz := fu.size; have hsz4 := f4.size
      refine ap_o (hso.keep f4 (fun _ _ => no_not _)) hrow rfl (by decide) (by omega) rfl fun v5 u5 o5 s5 f5 hob5 => ?_
      have fu5 : Fr no w u5 := (fu.trans f4).trans' f5 fun c hc hh => by have := hob c hh; omega
      have hsa5 := (hsa.keep f4 (fun _ _ => no_not _)).keep f5 (fun o hh hx => by cases hh; have := hob _ hx; omega)
      have hsz5 := f5.size
      obtain ⟨q3, hq3, m3⟩ := hsa5.imm.ld1' (i := (b : Nat)) (kd := .i64) (by omega) (by omega) (x := .int .i64 (n' : Nat)) (by rw [Int.toNat_natCast]; exact bi k3)
      refine pv_i hq3 (m3 _ ?_)
      have hn' : n' < es'.length := by
        rcases Nat.lt_or_ge n' es'.length with hh | hh
        · exact hh
        · rw [List.getElem?_eq_none hh] at hy'; cases hy'
      have hesl : es'.length < 2^60 := by
        have := (hi b v' es' k2 k1)
        have : es'.length ≤ total ls := by
          exact le_total (List.mem_of_getElem? k1)
        omega
      refine pv_i (add1 (by omega)) ?_
      obtain ⟨q4, hq4, m4⟩ := hsa5.stk (kd := .i64) hbi (x := .int .i64 (n' + 1 : Nat)) rfl rfl
      refine pv_i hq4 (m4 _ fun u6 s6 f6 => ?_)
      have hsp : splice (intCells a) (b * 1) (Value.int .i64 (n' + 1 : Nat)).cells.toList = intCells (a.set b (n' + 1)) := by rw [Nat.mul_one]; exact splice_int (by omega)
      rw [hsp] at s6
      have hrs := rest_set k1 k3 hyr.symm
      have hout : ∀ o, o5 = some o → w.heap.size < o := fun o hh => by
        rcases hob5 o hh with h1 | h1
        · exact hob o h1
        · have := (hsa5.lt _ rfl); have := hsa.lt _ rfl; omega
      refine hN _ _ _ _ ?_ ⟨a.set b (n' + 1), acc ++ [y], v5, o5, rfl, by simp [hal], rfl, fu5.trans' f6 (fun c hc hh => by cases hh; omega), ?_, ?_, s6, ?_, hout, rfl, rfl, rfl⟩
      · rw [hrs]; omega
      · rw [hrs, ← hm, List.append_assoc]
        congr 1
        conv => rhs; unfold mergeN
        rw [rlen, hb]; simp only []; rw [hy]
        show _ = y :: mergeN (total (rest ls a)) _
        rw [← hts]; rfl
      · rw [hrs, List.length_append]; simp; omega
      · rw [List.length_append, List.flatMap_append]
        have := s5.keep f6 (fun o hh hx => by cases hx; have := hout _ hh; omega)
        simpa using this
end Go.Dm
/-! Times; books swept. -/
namespace Go.Dm
open Go Go.Proofs
variable {w : World} {R : Value → World → Prop} {Im : Nat → Prop}

theorem c293 {t : Tm} (ht : t.ok) (h : ∀ w', Fr no w w' → R (.tuple #[t.take.v, .int .u64 t.take.seq]) w') : CallsR Tryz.prog 293 #[t.v] w R := by
  apply sh293; unfold S293
  refine ⟨rfl, ?_⟩
  refine pv_i (v := .int .u64 t.seq) rfl ?_
  intro w1 X1 y1
  refine c276 (b := 1) ht.2 (by decide) ?_
  refine ⟨kp_no (Fr.refl _ _) y1.lt, ?_⟩
  refine pv_i (v := t.take.v) rfl ?_
  intro w2 X2 y2
  have s2 := y2.step y1.frno y1.ge
  refine pv_i (v := .int .u64 t.take.seq) rfl ?_
  refine ⟨rfl, rfl, ?_⟩
  intro w3 X3 y3
  exact h w3 (y3.step (s2.1.trans (drewW_fr _ _)) s2.2.1).1
theorem Tm.take_ok {t : Tm} (h : t.ok) : t.take.ok := ⟨h.1, addT_le _ _⟩
theorem Tm.pass_ok {t : Tm} {b : Nat} (h : t.ok) : (t.pass b).ok := ⟨addT_le _ _, h.2⟩
theorem Tm.close_ok {t : Tm} (h : t.ok) : t.close.ok := h

theorem c180 {t : Tm} (h : ∀ w', Fr no w w' → R t.close.v w') : CallsR Tryz.prog 180 #[t.v] w R := by
  apply sh180; unfold S180
  refine ⟨rfl, ?_⟩
  refine pv_i (v := t.close.v) rfl ?_
  refine ⟨rfl, ?_⟩
  intro w1 X1 y1
  exact h w1 y1.frno

theorem c283 {v : Value} {b : Book} {u : ByteArray} {now : Nat} (hb : BookI w Im v b) (hn : b.length < 2^60) (h : ∀ w', Fr no w w' → R (bPres b u now).v w') : CallsR Tryz.prog 283 #[v, .string u, .int .u64 now] w R := by
  apply sh283; unfold S283
  refine ⟨hb.ok, ?_⟩
  obtain ⟨raw, hm, hr⟩ := hb
  have hlen := hr.len
  intro w1 X1 y1
  refine c287 (hm.ext y1.frno) (by omega) fun w2 f2 => ?_
  refine ⟨kp_no f2 y1.lt, ?_⟩
  refine pv_i (ext2a _ _) (pv_i (ext2b _ _) ?_)
  have fe := y1.frno.trans f2
  have hez := (hr.getZ (u := u)).keep fe (fun _ _ => no_not _)
  refine ⟨hez.ok, ?_⟩
  obtain ⟨esl, hec, hes, heu, hel⟩ := hez
  rw [hec]
  refine pv_i (v := esl) rfl ?_
  intro w3 X3 y3
  have g3 := y3.step fe y1.ge
  have hes3 : SlI w3 (fun _ => True) 4 esl (entOf b u).ss.length ((entOf b u).ss.flatMap Sess.cells) := by
    obtain ⟨sl', hx', hs', _⟩ := (hr.getZ (u := u)).keep g3.1 (fun _ _ => no_not _)
    rw [hec] at hx'
    simp only [List.cons.injEq] at hx'
    rw [hx'.1]; exact hs'.im fun _ _ _ => trivial
  refine c352 hes3 (by omega) fun w4 f4 => ?_
  refine ⟨kp_no f4 y3.lt, rfl, ?_⟩
  intro w5 X5 y5
  have g5 := y5.step (g3.1.trans f4) g3.2.1
  exact h w5 g5.1

/-! ### Swept -/
def swTo (b : Book) (now j : Nat) : Book × List Chg := (b.take j).foldl (bSweepStep now) (b, [])
theorem swTo_zero (b : Book) (now : Nat) : swTo b now 0 = (b, []) := rfl
theorem swTo_all (b : Book) (now : Nat) : swTo b now b.length = bSweep b now := by unfold swTo bSweep; rw [List.take_length]
theorem swTo_succ {b : Book} {now j : Nat} {p : ByteArray × Ent} (h : b[j]? = some p) : swTo b now (j + 1) = bSweepStep now (swTo b now j) p := by
  have hlt : j < b.length := by
    rcases Nat.lt_or_ge j b.length with hh | hh
    · exact hh
    · rw [List.getElem?_eq_none hh] at h; cases h
  unfold swTo
  rw [List.take_succ_eq_append_getElem hlt, List.foldl_append]
  rw [List.getElem?_eq_getElem hlt] at h
  rw [Option.some.inj h]; rfl
theorem settle_len (b : Book) (u : ByteArray) (l : List Sess) (now : Nat) : (settle b u l now).1.length ≤ b.length + 1 ∧ (settle b u l now).2.length ≤ 1 := by
  unfold settle; dsimp only
  constructor
  · split
    · have := mWithout_len b u; omega
    · exact mWith_len b u _
  · split <;> simp
theorem swTo_len (b : Book) (now : Nat) : ∀ j, (swTo b now j).1.length ≤ b.length + j ∧ (swTo b now j).2.length ≤ j
  | 0 => by rw [swTo_zero]; simp
  | j + 1 => by
    have ih := swTo_len b now j
    rcases Nat.lt_or_ge j b.length with hh | hh
    · rw [swTo_succ (List.getElem?_eq_getElem hh)]
      unfold bSweepStep
      have := settle_len (swTo b now j).1 (b[j]).1 (sPurge (b[j]).2.ss now) now
      simp only [List.length_append]; omega
    · have : swTo b now (j + 1) = swTo b now j := by unfold swTo; rw [List.take_of_length_le (by omega), List.take_of_length_le hh]
      rw [this]; omega

theorem c195 {v : Value} {b : Book} {now : Nat} (hb : BookI w Im v b) (hn : b.length < 2^36) (hI : NewI w Im)
    (h : ∀ v' cv w', BookI w' Im v' (bSweep b now).1 → ChgI w' Im cv (bSweep b now).2 → Fr no w w' → R (.tuple #[v', cv]) w') : CallsR Tryz.prog 195 #[v, .int .u64 now] w R := by
  apply sh195; unfold S195
  obtain ⟨ks, vs, rfl, hk1, hv1⟩ := hb.two
  refine al_i fun b2 w1 n1 => al_i fun b3 w2 n2 => al_i fun b4 w3 n3 => al_i fun b6 w4 n4 => ?_
  have e1 := n1.eq; have e2 := n2.eq; have e3 := n3.eq; have e4 := n4.eq; have z1 := n1.size; have z2 := n2.size; have z3 := n3.size; have z4 := n4.size
  have o2 : own w4 b2 = some [ks, vs] := n4.fr.own (n3.fr.own (n2.fr.own n1.own id) id) id
  refine la_i o2 (by simp) rfl ?_
  refine al_i fun b7 w5 n5 => ?_
  have e5 := n5.eq; have z5 := n5.size
  refine st_i (ds := [ks, vs]) n5.own (by simp) rfl (agg2_one hk1 hv1) rfl fun w6 p6 => ?_
  have z6 := p6.size
  have f6 : Fr no w w6 := ((((n1.fr.trans n2.fr).trans n3.fr).trans n4.fr).trans n5.fr).own1 p6.fr (by omega)
  refine la_i (xs := [ks, vs]) (p6.oth (n5.fr.own o2 id) (by omega)) (by simp) rfl ?_
  refine c286 fun bl w7 n7 => ?_
  have e7 := n7.eq; have z7 := n7.size
  refine ⟨ent353, fun w8 L rr hin hy => ?_⟩
  have eL := hin.eq; have z8 := hin.size
  have f8 : Fr no w w8 := (f6.trans n7.fr).trans hin.fr
  have o3 : own w8 b3 = some [.int .u64 now] := hin.fr.own (n7.fr.own (p6.oth (n5.fr.own (n4.fr.own (n3.fr.own n2.own id) id) id) (by omega)) id) id
  have o4 : own w8 b4 = some [.slice none 0 0, .slice none 0 0] := hin.fr.own (n7.fr.own (p6.oth (n5.fr.own (n4.fr.own n3.own id) id) (by omega)) id) id
  have o6 : own w8 b6 = some [.slice none 0 0] := hin.fr.own (n7.fr.own (p6.oth (n5.fr.own n4.own id) (by omega)) id) id
  have o7 : own w8 b7 = some [ks, vs] := hin.fr.own (n7.fr.own p6.own id) id
  have ol : own w8 bl = some [ks, vs] := hin.fr.own n7.own id
  show CallsR Tryz.prog 353 #[.func (.yield L) #[] #[], .pointer (some ⟨bl, 0, none⟩)] w8 _
  have hb0 := hb
  obtain ⟨raw, hm, hr⟩ := hb
  have hrl := hr.len
  obtain ⟨ks', vs', hkv, hk, hv, r1, r2, r3⟩ := id hm
  cases hkv
  refine c353 (b := bl) (ks := ks) (vs := vs) (m := raw) (fun j W => ∃ kj vj aj oj, j ≤ b.length ∧ Fr no w W ∧ own W b3 = some [.int .u64 now] ∧ own W b4 = some [.slice none 0 0, .slice none 0 0] ∧ own W b6 = some [aj] ∧ own W b7 = some [kj, vj] ∧ own W bl = some [ks, vs] ∧
      BookI W (fun x => Im x ∧ ¬ ((w.heap.size ≤ x ∧ x < w8.heap.size) ∨ oj = some x)) (.agg #[kj, vj]) (swTo b now j).1 ∧ SlO W 7 364 aj (swTo b now j).2.length ((swTo b now j).2.flatMap Chg.cells) oj ∧ (∀ o, oj = some o → w8.heap.size ≤ o) ∧
      W.heap[L]? = some (.loop rr) ∧ W.heap[w7.heap.size]? = some (.deferred (some [])) ∧ w8.heap.size ≤ W.heap.size) (fun _ => False)
    ?_ r1 (by omega) ?_ ?_ ?_ (fun W hW => hW.elim)
  · rintro j W ⟨kj, vj, aj, oj, hj, fW, q3, q4, q6, q7, ql, hB, hA, hO, qL, qD, hz⟩
    exact ⟨own_blk ql, (hk.ext fW).im fun _ _ _ => trivial, (hv.ext fW).im fun _ _ _ => trivial⟩
  · refine ⟨ks, vs, .slice none 0 0, none, by omega, f8, o3, o4, o6, o7, ol, ?_, SlO.nil .., (fun o hh => by cases hh), hin.rec_, hin.mark, Nat.le_refl _⟩
    refine (hb0.im (Im' := fun x => Im x ∧ ¬ ((w.heap.size ≤ x ∧ x < w8.heap.size) ∨ none = some x)) fun x hx hi => ⟨hi, fun hh => ?_⟩).ext f8
    rcases hh with hh | hh
    · omega
    · cases hh
  · rintro j W p K ⟨kj, vj, aj, oj, hj, fW, q3, q4, q6, q7, ql, hB, hA, hO, qL, qD, hz⟩ hp hK hZ
    obtain ⟨en, hbj, hen⟩ := hr.at hp
    have hjl : j < b.length := by
      rcases Nat.lt_or_ge j b.length with hh | hh
      · exact hh
      · rw [List.getElem?_eq_none hh] at hbj; cases hbj
    have hlens := swTo_len b now j
    obtain ⟨esl, hec, hes, heu, hel⟩ := id hen
    refine hy (fun i => if i = 0 then .string p.1 else .agg p.2.toArray) W K qL ?_
    have qLt := heap_lt qL; have qDt := heap_lt qD
    refine al_i fun b9 W1 m1 => ?_
    have g1 := m1.eq; have y1 := m1.size
    refine st_i (ds := p.2) m1.own (by exact Nat.le_refl 4) (by show p.2.toArray.size = 4; rw [List.size_toArray]; exact hen.len) (by show p.2.toArray.toList.all one1 = true; simpa using hen.one) (by show splice _ 0 p.2.toArray.toList = p.2; rw [hec]; rfl) fun W2 m2 => ?_
    have y2 := m2.size
    have qL2 : W2.heap[L]? = some (.loop rr) := m2.at (m1.fr.at qL id) (by omega)
    refine ⟨qL2, ?_⟩
    have fr2 : Fr no W W2 := m1.fr.own1 m2.fr (by omega)
    have tr : ∀ {b : Nat} {cs : List Value}, own W b = some cs → b ≠ L → own (W2.putObj L (.loop (lpBusy rr))) b = some cs := fun {b cs} ho hne => by
      rw [own_putObj hne]; exact m2.oth (m1.fr.own ho id) (by have := own_lt ho; omega)
    have t3 := tr q3 (by omega); have t4 := tr q4 (by omega); have t6 := tr q6 (by omega); have t7 := tr q7 (by omega); have tl := tr ql (by omega)
    have t9 : own (W2.putObj L (.loop (lpBusy rr))) b9 = some p.2 := by rw [own_putObj (by omega)]; exact m2.own
    have tL : (W2.putObj L (.loop (lpBusy rr))).heap[L]? = some (.loop (lpBusy rr)) := putObj_at qL2
    have tD : (W2.putObj L (.loop (lpBusy rr))).heap[w7.heap.size]? = some (.deferred (some [])) := by rw [World.putObj_heap_other (by omega)]; exact m2.at (m1.fr.at qD id) (by omega)
    have fW3 : Fr no w (W2.putObj L (.loop (lpBusy rr))) := ((fW.trans m1.fr).own1 m2.fr (by have := fW.size; omega)).putObj (by omega)
    have tB := (hB.ext fr2).keep (putObj_fr (L := L) (o := .loop (lpBusy rr))) (fun x hx hh => by unfold one at hh; exact hx.2 (.inl (by omega)))
    have tA := (hA.keep fr2 (fun _ _ => no_not _)).keep (putObj_fr (L := L) (o := .loop (lpBusy rr))) (fun o hh hx => by unfold one at hx; have := hO o hh; omega)
    have z3' : (W2.putObj L (.loop (lpBusy rr))).heap.size = W.heap.size + 1 := by rw [World.putObj_size]; omega
    revert t3 t4 t6 t7 tl t9 tL tD fW3 tB tA z3'
    generalize W2.putObj L (.loop (lpBusy rr)) = W3
    intro t3 t4 t6 t7 tl t9 tL tD fW3 tB tA z3'
    refine pv_i (v := .pointer (some ⟨b9, 0, none⟩)) rfl ?_
    have fD : Fr no W3 (drewW W3) := drewW_fr _ _
    have d3 := fD.own t3 id; have d4 := fD.own t4 id; have d6 := fD.own t6 id; have d7 := fD.own t7 id; have dl := fD.own tl id; have d9 := fD.own t9 id
    have dL := fD.at tL id; have dD := fD.at tD id; have fW4 := fW3.trans fD; have dB := tB.ext fD; have dA := tA.keep fD (fun _ _ => no_not _)
    have z4' : (drewW W3).heap.size = W3.heap.size := rfl
    clear t3 t4 t6 t7 tl t9 tL tD fW3 tB tA fD
    revert d3 d4 d6 d7 dl d9 dL dD fW4 dB dA z4'
    generalize drewW W3 = W4
    intro d3 d4 d6 d7 dl d9 dL dD fW4 dB dA z4'
    refine la_i (xs := [kj, vj]) d7 (by simp) rfl ?_
    refine ld_i (v := esl) d9 (by rw [hec]; rfl) ?_
    refine ld_i d3 rfl ?_
    refine ld_i d3 rfl ?_
    have hpl := sPurge_le en.ss now
    refine c295 (hes.ext fW4) (by omega) fun v5 W5 o5 s5 f5 ho5 => ?_
    have z5' := f5.size
    refine ⟨⟨b3, 0, _, rfl, own_blk (f5.own d3 id), rfl⟩, ⟨b7, 0, _, rfl, own_blk (f5.own d7 id), by simp, rfl⟩, ?_⟩
    have f45 := fW4.trans f5
    refine c294 (Im := fun x => Im x ∧ ¬ ((w.heap.size ≤ x ∧ x < w8.heap.size) ∨ oj = some x)) (dB.ext f5) (s5.toI fun o hh => ⟨hI o (by have := ho5 o hh; omega), fun hx => ?_⟩) (idsUp_purge now heu) (by omega) (by omega) (fun x hx => ⟨hI x (by omega), fun hh => ?_⟩) fun v6 cv W6 hB6 hC6 f6' => ?_
    · have := ho5 o hh
      rcases hx with hx | hx
      · omega
      · have := dA.lt o hx; omega
    · rcases hh with hh | hh
      · omega
      · have := dA.lt x hh; omega
    refine pv_i (ext2a _ _) (pv_i (ext2b _ _) ?_)
    have f46 := f5.trans f6'
    obtain ⟨kn, vn, rfl, hkn, hvn⟩ := hB6.two
    have z6' := f6'.size
    refine st_i (ds := [kn, vn]) (f46.own d7 id) (by simp) rfl (agg2_one hkn hvn) rfl fun W7 p7 => ?_
    have z7' := p7.size
    refine ld_i (p7.oth (f46.own d6 id) (by omega)) rfl ?_
    have hIm7 : ∀ x, (fun x => Im x ∧ ¬ ((w.heap.size ≤ x ∧ x < w8.heap.size) ∨ oj = some x)) x → ¬ one b7 x := fun x hx hh => by unfold one at hh; exact hx.2 (.inl (by omega))
    have hB7 := hB6.keep p7.fr hIm7
    have hC7 : ChgI W7 _ cv _ := SlI.keep hC6 p7.fr hIm7
    have hA7 := (dA.keep f46 (fun _ _ => no_not _)).keep p7.fr (fun o hh hx => by unfold one at hx; have := hO o hh; omega)
    obtain ⟨base, cc, rfl, _, _, hrow⟩ := hC7.row
    have hsl := settle_len (swTo b now j).1 p.1 (sPurge en.ss now) now
    refine ap_o hA7 hrow rfl (by decide) (by omega) (flat_one chg_one _) fun v8 W8 o8 s8 f8' ho8 => ?_
    have z8' := f8'.size
    have hno : ∀ c, c < w8.heap.size → ¬ oj = some c := fun c hc hh => by have := hO c hh; omega
    refine st_i (ds := [v8]) (f8'.own (p7.oth (f46.own d6 id) (by omega)) (hno _ (by omega))) (by simp) (by rw [cells_one s8.one]; rfl) (by rw [cells_one s8.one]; simpa using s8.one) (by rw [cells_one s8.one]; rfl) fun W9 p9 => ?_
    have z9' := p9.size
    have uL : W9.heap[L]? = some (.loop (lpBusy rr)) := p9.at (f8'.at (p7.at (f46.at dL id) (by omega)) (hno _ (by omega))) (by omega)
    refine ⟨uL, ?_⟩
    have fl : ∀ {c : Nat} {cs : List Value}, own W4 c = some cs → c < w8.heap.size → c ≠ b6 → c ≠ b7 → c ≠ L → own (W9.putObj L (.loop rr)) c = some cs := fun {c cs} ho hc h1 h2 h3 => by
      rw [own_putObj h3]; exact p9.oth (f8'.own (p7.oth (f46.own ho id) h2) (hno _ hc)) h1
    have ho8' : ∀ o, o8 = some o → w8.heap.size ≤ o := fun o hh => by
      rcases ho8 o hh with h1 | h1
      · exact hO o h1
      · omega
    have hst : swTo b now (j + 1) = ((settle (swTo b now j).1 p.1 (sPurge en.ss now) now).1, (swTo b now j).2 ++ (settle (swTo b now j).1 p.1 (sPurge en.ss now) now).2) := by rw [swTo_succ hbj]; rfl
    have fW9 : Fr no w W9 := (((f45.trans f6').own1 p7.fr (by omega)).trans' f8' (fun c hc hh => by have := hO c hh; have := f8.size; omega)).own1 p9.fr (by omega)
    refine hK _ ⟨kn, vn, v8, o8, by omega, fW9.putObj (by omega), fl d3 (by omega) (by omega) (by omega) (by omega), fl d4 (by omega) (by omega) (by omega) (by omega), ?_, ?_, fl dl (by omega) (by omega) (by omega) (by omega), ?_, ?_, ho8', putObj_at uL, ?_, ?_⟩
    · rw [own_putObj (by omega)]; exact p9.own
    · rw [own_putObj (by omega)]; exact p9.oth (f8'.own p7.own (hno _ (by omega))) (by omega)
    · rw [hst]
      have a1 := hB7.im (Im' := fun x => (Im x ∧ ¬ ((w.heap.size ≤ x ∧ x < w8.heap.size) ∨ oj = some x)) ∧ x < W7.heap.size) fun x hx hi => ⟨hi, hx⟩
      have a2 := a1.keep f8' fun x hx hh => hx.1.2 (.inr hh)
      have a3 := a2.keep p9.fr fun x hx hh => by unfold one at hh; exact hx.1.2 (.inl (by omega))
      have a4 := a3.keep (putObj_fr (L := L) (o := .loop rr)) fun x hx hh => by unfold one at hh; exact hx.1.2 (.inl (by omega))
      refine a4.im fun x _ hx => ⟨hx.1.1, fun hh => ?_⟩
      rcases hh with hh | hh
      · exact hx.1.2 (.inl hh)
      · rcases ho8 x hh with h1 | h1
        · exact hx.1.2 (.inr h1)
        · omega
    · rw [hst]
      have a1 := s8.keep p9.fr (fun o hh hx => by unfold one at hx; have := ho8' o hh; omega)
      have a2 := a1.keep (putObj_fr (L := L) (o := .loop rr)) (fun o hh hx => by unfold one at hx; have := ho8' o hh; omega)
      rw [List.length_append, List.flatMap_append]; exact a2
    · rw [World.putObj_heap_other (by omega)]; exact p9.at (f8'.at (p7.at (f46.at dD id) (by omega)) (hno _ (by omega))) (by omega)
    · rw [World.putObj_size]; omega
  · rintro W ⟨kj, vj, aj, oj, hj, fW, q3, q4, q6, q7, ql, hB, hA, hO, qL, qD, hz⟩
    rw [hrl, swTo_all] at hB hA
    refine .inl ⟨qL, ?_⟩
    have qLt := heap_lt qL; have qDt := heap_lt qD
    have u4 : own (W.putObj L (.loop (lpOut rr))) b4 = _ := (own_putObj (by omega)).trans q4
    have u6 : own (W.putObj L (.loop (lpOut rr))) b6 = _ := (own_putObj (by omega)).trans q6
    have u7 : own (W.putObj L (.loop (lpOut rr))) b7 = _ := (own_putObj (by omega)).trans q7
    have uD : (W.putObj L (.loop (lpOut rr))).heap[w7.heap.size]? = some (.deferred (some [])) := by rw [World.putObj_heap_other (by omega)]; exact qD
    have fU : Fr no w (W.putObj L (.loop (lpOut rr))) := fW.putObj (by omega)
    have uB := hB.keep (putObj_fr (L := L) (o := .loop (lpOut rr))) fun x hx hh => by unfold one at hh; exact hx.2 (.inl (by omega))
    have uA := hA.keep (putObj_fr (L := L) (o := .loop (lpOut rr))) fun o hh hx => by unfold one at hx; have := hO o hh; omega
    have uz : (W.putObj L (.loop (lpOut rr))).heap.size = W.heap.size := World.putObj_size
    revert u4 u6 u7 uD fU uB uA uz
    generalize W.putObj L (.loop (lpOut rr)) = U
    intro u4 u6 u7 uD fU uB uA uz
    rw [rfQ_n]
    have fD : Fr no U (drewW U) := drewW_fr _ _
    have v4 := fD.own u4 id; have v6 := fD.own u6 id; have v7 := fD.own u7 id; have vD := fD.at uD id; have fV := fU.trans fD; have vB := uB.ext fD; have vA := uA.keep fD (fun _ _ => no_not _)
    have vz : (drewW U).heap.size = U.heap.size := rfl
    clear u4 u6 u7 uD fU uB uA fD
    revert v4 v6 v7 vD fV vB vA vz
    generalize drewW U = V
    intro v4 v6 v7 vD fV vB vA vz
    refine la_i (xs := [kj, vj]) v7 (by simp) rfl ?_
    refine ld_i v6 rfl ?_
    obtain ⟨kz, vz', hkvz, hkz, hvz⟩ := vB.two
    simp only [Value.agg.injEq, Array.mk.injEq, List.cons.injEq, and_true] at hkvz
    obtain ⟨rfl, rfl⟩ := hkvz
    refine st_i (ds := [kj, vj]) v4 (by simp) rfl (agg2_one hkz hvz) rfl fun V2 p2 => ?_
    have pz := p2.size
    refine ⟨⟨b6, 0, _, rfl, own_blk (p2.oth v6 (by omega)), rfl⟩, ?_⟩
    refine ⟨p2.at vD (by omega), ?_⟩
    refine la_i (xs := [kj, vj]) (by rw [own_putObj (by omega)]; exact p2.own) (by simp) rfl ?_
    have k1 := (vB.keep p2.fr fun x hx hh => by unfold one at hh; exact hx.2 (.inl (by omega))).keep (putObj_fr (L := w7.heap.size) (o := .deferred none)) fun x hx hh => by unfold one at hh; exact hx.2 (.inl (by omega))
    have k2 := (vA.keep p2.fr fun o hh hx => by unfold one at hx; have := hO o hh; omega).keep (putObj_fr (L := w7.heap.size) (o := .deferred none)) fun o hh hx => by unfold one at hx; have := hO o hh; omega
    exact h _ _ _ (k1.im fun _ _ hx => hx.1) (k2.toI fun o hh => hI o (by have := hO o hh; omega)) ((fV.own1 p2.fr (by omega)).putObj (by omega))
end Go.Dm
