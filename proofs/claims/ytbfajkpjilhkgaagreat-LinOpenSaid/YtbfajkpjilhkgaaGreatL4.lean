/- A part of the proof that doormanlaw21.LinOpen returns true for every input, on no condition. -/
import Derived.Test.YtbfajkpjilhkgaaGreatL3
set_option linter.unusedVariables false
set_option linter.unusedSimpArgs false
set_option linter.deprecated false
/-! Plain: calls that have not ended may be left out. -/
namespace Go.Dm
open Go Go.Proofs

theorem callAt_old {l : List CallP} {x : CallP} {i : Nat} (h : i < l.length) : callAt (l ++ [x]) i = callAt l i := by unfold callAt; rw [List.getElem?_append_left h]
theorem callAt_new {l : List CallP} {x : CallP} : callAt (l ++ [x]) l.length = x := by unfold callAt; rw [List.getElem?_append_right (Nat.le_refl _), Nat.sub_self]; rfl
theorem inAt_old {inn : List Bool} {b : Bool} {i : Nat} (h : i < inn.length) : inAt (inn ++ [b]) i = inAt inn i := by unfold inAt; rw [List.getElem?_append_left h]
theorem replayGo_more {l : List CallP} {x : CallP} : ∀ (ord : List Int) (m : Mdl), (∀ i ∈ ord, 0 ≤ i ∧ i < l.length) → replayGo (l ++ [x]) m ord = replayGo l m ord
  | [], _, _ => rfl
  | i :: r, m, h => by
    have hi := h i (List.mem_cons_self ..)
    have hr : ∀ j ∈ r, 0 ≤ j ∧ j < l.length := fun j hj => h j (List.mem_cons_of_mem _ hj)
    unfold replayGo
    rw [if_neg (by rw [List.length_append]; simp; omega), if_neg (by omega), List.getElem?_append_left (by omega)]
    cases l[i.toNat]? with
    | none => rfl
    | some c =>
      simp only []
      split
      · exact replayGo_more r _ hr
      · rfl
theorem replay_more {c : Cfg} {l : List CallP} {x : CallP} {ord : List Nat} (h : ∀ i ∈ ord, i < l.length) : replay c (l ++ [x]) (ord.map fun (i : Nat) => (i : Int)) = replay c l (ord.map fun (i : Nat) => (i : Int)) := by
  unfold replay
  rw [replayGo_more _ _ (fun i hi => by obtain ⟨j, hj, rfl⟩ := List.mem_map.1 hi; have := h j hj; omega)]
theorem all_congr {n : Nat} {p q : Nat → Bool} (h : ∀ k, k < n → p k = q k) : (List.range n).all p = (List.range n).all q := by
  induction n with
  | zero => rfl
  | succ n ih => rw [List.range_succ, List.all_append, List.all_append, ih fun k hk => h k (by omega)]; simp [h n (by omega)]
theorem any_congr {n : Nat} {p q : Nat → Bool} (h : ∀ k, k < n → p k = q k) : (List.range n).any p = (List.range n).any q := by
  induction n with
  | zero => rfl
  | succ n ih => rw [List.range_succ, List.any_append, List.any_append, ih fun k hk => h k (by omega)]; simp [h n (by omega)]
theorem left_more {l : List CallP} {x : CallP} {inn : List Bool} (hx : x.ended < 0) (hi : inn.length = l.length) : leftTo (l ++ [x]) (inn ++ [false]) (l ++ [x]).length = leftTo l inn l.length := by
  rw [List.length_append]
  show leftTo (l ++ [x]) (inn ++ [false]) (l.length + 1) = _
  rw [left_succ, callAt_new, decide_eq_false (by omega), Bool.false_and, Bool.or_false]
  unfold leftTo
  exact any_congr fun k hk => by rw [callAt_old hk, inAt_old (by omega)]
theorem ready_more {l : List CallP} {x : CallP} {inn : List Bool} {i : Nat} (hx : x.ended < 0) (hi : inn.length = l.length) (hil : i < l.length) : ready (l ++ [x]) (inn ++ [false]) i = ready l inn i := by
  unfold ready
  rw [inAt_old (by omega)]
  congr 1
  rw [List.length_append]
  show readyTo (l ++ [x]) (inn ++ [false]) i (l.length + 1) = _
  unfold readyTo
  rw [List.range_succ, List.all_append]
  have hb : before (callAt (l ++ [x]) l.length) (callAt (l ++ [x]) i) = false := by
    rw [callAt_new]; unfold before; exact decide_eq_false (by omega)
  have e : ([l.length].all fun k => !(!inAt (inn ++ [false]) k && decide (k ≠ i) && before (callAt (l ++ [x]) k) (callAt (l ++ [x]) i))) = true := by
    simp [hb]
  rw [e, Bool.and_true]
  exact all_congr fun k hk => by rw [callAt_old hk, callAt_old hil, inAt_old (by omega)]
theorem find_more {c : Cfg} {l : List CallP} {x : CallP} (hx : x.ended < 0) : ∀ (f f' : Nat) (inn : List Bool) (ord : List Nat), f ≤ f' → inn.length = l.length → (∀ i ∈ ord, i < l.length) → findGo c l f inn ord ≠ none → findGo c (l ++ [x]) f' (inn ++ [false]) ord ≠ none
  | 0, _, _, _, _, _, _, h => absurd rfl h
  | f + 1, 0, _, _, hf, _, _, _ => by omega
  | f + 1, f' + 1, inn, ord, hf, hi, ho, h => by
    unfold findGo at h ⊢
    rw [replay_more ho, left_more hx hi]
    split at h
    · exact absurd rfl h
    rename_i hr
    rw [if_neg hr]
    split at h
    · rename_i hl; rw [if_pos hl]; simp
    · rename_i hl
      rw [if_neg hl]
      intro hn
      apply h
      rw [List.findSome?_eq_none_iff] at hn ⊢
      intro i him
      have hil := List.mem_range.1 him
      have := hn i (List.mem_range.2 (by rw [List.length_append]; omega))
      rw [ready_more hx hi hil] at this
      split at this
      · rename_i hrd
        rw [if_pos hrd]
        rw [List.set_append_left _ _ (by omega)] at this
        cases hg : findGo c l f (inn.set i true) (ord ++ [i]) with
        | none => rfl
        | some o =>
          exact absurd this (find_more hx f f' (inn.set i true) (ord ++ [i]) (by omega) (by rw [List.length_set]; exact hi) (fun j hj => by
            rcases List.mem_append.1 hj with h1 | h1
            · exact ho j h1
            · simp at h1; omega) (by rw [hg]; simp))
      · rename_i hrd; rw [if_neg hrd]
theorem open_law {c : Cfg} {l : List CallP} {x : CallP} (hr : c.right = true) (hl : l.length ≤ 4) (hx : x.ended < 0) :
    (findP c l).2.2 = 0 ∧ (findP c (l ++ [x])).2.2 = 0 ∧ ((findP c l).2.1 = true → (findP c (l ++ [x])).2.1 = true) ∧ (findP c (l ++ [x])).1.length ≤ l.length + 1 := by
  have hlx : (l ++ [x]).length = l.length + 1 := by simp
  have h1 : findP c l = match findGo c l (l.length + 1) (List.replicate l.length false) [] with | none => ([], false, 0) | some o => (o, true, 0) := by
    unfold findP; rw [if_neg (by simp [hr]), if_neg (by omega)]; rfl
  have h2 : findP c (l ++ [x]) = match findGo c (l ++ [x]) ((l ++ [x]).length + 1) (List.replicate (l ++ [x]).length false) [] with | none => ([], false, 0) | some o => (o, true, 0) := by
    unfold findP; rw [if_neg (by simp [hr]), if_neg (by omega)]; rfl
  have hrep : List.replicate (l ++ [x]).length false = List.replicate l.length false ++ [false] := by rw [hlx, List.replicate_succ']
  have hm := find_more (c := c) (l := l) hx (l.length + 1) ((l ++ [x]).length + 1) (List.replicate l.length false) [] (by omega) (List.length_replicate ..) (fun i hi => by cases hi)
  rw [h1, h2, hrep]
  rw [hrep] at h2
  refine ⟨?_, ?_, ?_, ?_⟩
  · split <;> rfl
  · split <;> rfl
  · intro hh
    cases hg : findGo c l (l.length + 1) (List.replicate l.length false) [] with
    | none => rw [hg] at hh; cases hh
    | some o =>
      have := hm (by rw [hg]; simp)
      cases hg2 : findGo c (l ++ [x]) ((l ++ [x]).length + 1) (List.replicate l.length false ++ [false]) [] with
      | none => exact absurd hg2 this
      | some o => rfl
  · cases hg2 : findGo c (l ++ [x]) ((l ++ [x]).length + 1) (List.replicate l.length false ++ [false]) [] with
    | none => simp
    | some o =>
      have := find_len c (l ++ [x]) _ _ _ _ (by rw [hlx]; simp) hg2
      rw [← hrep, falses_rep, hlx] at this
      simpa using this
end Go.Dm
/-! LinOpen. -/
namespace Go.Dm
open Go Go.Proofs
variable {w : World} {R : Value → World → Prop} {Im Im' : Nat → Prop}

def zeroC : List Value := [.int .i64 0, .int .i64 0, .int .i64 0, .string ⟨#[]⟩, .int .i64 0, .int .i64 0, .int .i64 0, .int .u64 0, .slice none 0 0, .int .i64 0, .int .u64 0, .int .i64 0, .int .i64 0, .int .i64 0, .int .i64 0, .slice none 0 0, .slice none 0 0, .bool false]
theorem apB {X : Nat → Prop} {u : World} {v : Value} {n m xc : Nat} {cells new : List Value} {ob : Option Nat} {xb : Option Addr} {K : Value → World → Prop} (hB : Bn w X u) (hs : SlO u 18 120 v n cells ob) (hob : ∀ o, ob = some o → w.heap.size ≤ o ∧ ¬ X o)
    (hrow : Row u xb (m * 18) new) (hb : n + m ≤ 2^30) (h1 : new.all one1 = true)
    (hk : ∀ v' u' ob', SlO u' 18 120 v' (n + m) (cells ++ new) ob' → Bn w X u' → kp X u u' → (∀ o, ob' = some o → w.heap.size ≤ o ∧ ¬ X o) → Fr (fun b => ob = some b) u u' → K v' u') : apC u 200 18 zeroC 120 v (.slice xb m xc) K := by
  refine ap_o hs hrow rfl (by decide) (by omega) h1 fun v' u' ob' s' f' ho' => ?_
  have hz := hB.fr.size; have hz' := f'.size
  refine hk v' u' ob' s' ⟨hB.fr.trans' f' (fun x hx hh => by have := (hob x hh).1; omega), hB.ge, fun x hx => by have := hB.lt x hx; omega⟩ (kp_fr f' hB.lt fun x hx hh => (hob x hh).2 hx) (fun o ho => ?_) f'
  rcases ho' o ho with h1 | h1
  · exact hob o h1
  · exact ⟨by omega, fun hh => by have := hB.lt o hh; omega⟩
theorem raws_one : ∀ {l : List RawC}, (∀ r ∈ l, r.in w Im) → (l.flatMap RawC.cells).all one1 = true
  | [], _ => rfl
  | r :: l, h => by
    rw [List.flatMap_cons, List.all_append, raws_one fun x hx => h x (List.mem_cons_of_mem _ hx), Bool.and_true]
    have hr := h r (List.mem_cons_self ..)
    have a1 := hr.us.one; have a2 := hr.sv.one; have a3 := hr.se.one
    unfold RawC.cells
    simp only [List.all_cons, a1, a2, a3]; rfl
theorem short_ok {l : List CallP} (h : shortP l = true) : ∀ c ∈ l, callOk c := fun c hc => by
  unfold shortP at h
  have := List.all_eq_true.1 h c hc
  simp only [Bool.and_eq_true, decide_eq_true_eq] at this
  obtain ⟨⟨h1, h2⟩, h3⟩ := this
  have h1 := of_decide_eq_true h1
  exact ⟨by omega, fun s hs => by have := h1.2.2 s hs; omega, by omega, by omega, by omega⟩

theorem c9 {c : Cfg} {lv xv : Value} {raws : List RawC} {x : OpP} (hst : c.start ≤ maxU) (hl : CallsM w (fun _ => True) lv raws) (hx : OpI w (fun _ => True) xv x) (h : ∀ w', Fr no w w' → R (.bool true) w') : CallsR Tryz.prog 9 #[c.v, lv, xv] w R := by
  apply sh9; unfold S9
  refine ⟨rfl, hx.ok, ?_⟩
  intro w1 X1 y1
  have hB1 := (Bn.start w).sy y1
  have yes : ∀ (u : World) (X : Nat → Prop), Bn w X u → CallsR Tryz.prog 86 #[] u fun t37 w27 => kp X u w27 ∧ R t37 w27 := fun u X hB => c86 fun w' f => ⟨hB.kp f, h w' (hB.no f).fr⟩
  refine c86 fun w2 f2 => ?_
  have hB2 := hB1.no f2
  refine ⟨hB1.kp f2, ?_⟩
  refine pv_i (v := .bool false) rfl ?_
  refine or_gB (fun h => by cases h) (fun _ => ?_)
  refine pv_i hl.sl.lenV ?_
  refine pv_i gtr_i ?_
  refine pv_i (v := .bool _) rfl ?_
  refine or_gB (fun h1 => ?_) (fun h1 => ?_)
  · refine or_gB (fun _ => ?_) (fun h => by cases h)
    refine or_gB (fun _ => ?_) (fun h => by cases h)
    rw [condC_t]; exact yes w2 X1 hB2
  have h4 : raws.length ≤ 4 := by have := of_decide_eq_false h1; omega
  refine c87 (hl.ext hB2.fr) (by omega) fun w3 f3 => ?_
  have hB3 := hB2.no f3
  refine ⟨hB2.kp f3, ?_⟩
  refine pv_i (not_b _) ?_
  refine pv_i (v := .bool _) rfl ?_
  refine or_gB (fun h2 => ?_) (fun h2 => ?_)
  · refine or_gB (fun _ => ?_) (fun h => by cases h)
    rw [condC_t]; exact yes w3 X1 hB3
  have hsh : shortP (raws.map fun r => r.c) = true := by cases hh : shortP (raws.map fun r => r.c) <;> simp_all
  refine c62 (hx.ext hB3.fr) fun w4 f4 => ?_
  have hB4 := hB3.no f4
  refine ⟨hB3.kp f4, ?_⟩
  refine pv_i (not_b _) ?_
  refine pv_i (v := .bool _) rfl ?_
  refine or_gB (fun h3 => ?_) (fun h3 => ?_)
  · rw [condC_t]; exact yes w4 X1 hB4
  have hxs : opShort x = true := by cases hh : opShort x <;> simp_all
  refine c89 fun w5 f5 => ?_
  have hB5 := hB4.no f5
  refine ⟨hB4.kp f5, ?_⟩
  refine pv_i (not_b _) ?_
  refine pv_i (v := .bool _) rfl ?_
  cases hr : c.right with
  | false =>
    rw [Bool.not_false, condC_t]; exact yes w5 X1 hB5
  | true =>
  rw [Bool.not_true, condC_f, jnB_e]
  refine lp_c (fun d e u X => ∃ (i : Nat) (last : Int), d = raws.length - i ∧ i ≤ raws.length ∧ X = X1 ∧ Bn w X u ∧ e 1 = lv ∧ e 3 = c.v ∧ e 5 = xv ∧ e 7 = .int .i64 last ∧ e 8 = .int .i64 (i : Nat)) raws.length
    ⟨0, 0, rfl, by omega, rfl, hB5, rfl, rfl, rfl, rfl, rfl⟩ ?_
  rintro d e u X N ⟨i, last, rfl, hi, rfl, hB, e1, e3, e5, e7, e8⟩ hN
  simp only [e1, e3, e5, e7, e8]
  refine pv_i hl.sl.lenV ?_
  refine pv_i lss_i ?_
  by_cases hlt : i < raws.length
  · rw [decide_eq_true (by omega), condC_t]
    obtain ⟨r, hri⟩ : ∃ r, raws[i]? = some r := ⟨_, List.getElem?_eq_getElem hlt⟩
    have hB6 := hB.no (drewW_fr no u)
    generalize drewW u = u6 at hB6 ⊢
    obtain ⟨b, o, full, q1, q2, q3, q4⟩ := (hl.ext hB6.fr).place hri
    have ld13 : ∀ (K : Value → Prop), K (.int .i64 r.c.ended) → ldC u6 false 1 (.pointer (some ⟨b, o + 13, none⟩)) K := fun K hK => ld_b q2 (row_at q4 (by decide)) hK
    have ld11 : ∀ (K : Value → Prop), K (.int .i64 r.c.began) → ldC u6 false 1 (.pointer (some ⟨b, o + 11, none⟩)) K := fun K hK => ld_b q2 (row_at q4 (by decide)) hK
    refine pv_i q1 (pv_i (v := .pointer (some ⟨b, o + 13, none⟩)) rfl (ld13 _ ?_))
    refine pv_i geq_i ?_
    -- on
    have next : (pv (idxSV 18 lv (.int .i64 (i : Nat))) fun t82 => pv (addrV 11 t82) fun t83 => pv (idxSV 18 lv (.int .i64 (i : Nat))) fun t87 => pv (addrV 13 t87) fun t88 => ldC (drewW u6) false 1 t83 fun t84 => ldC (drewW u6) false 1 t88 fun t89 => pv (maxV true (.int .i64 last) [t84, t89]) fun t90 => pv (binV .add (.int .i64 (i : Nat)) (.int .i64 1)) fun t43 => N (upd (upd (upd (upd (upd e0 8 t43) 7 t90) 5 xv) 3 c.v) 1 lv) (drewW u6) X) := by
      refine pv_i q1 (pv_i (v := .pointer (some ⟨b, o + 11, none⟩)) rfl (pv_i q1 (pv_i (v := .pointer (some ⟨b, o + 13, none⟩)) rfl ?_)))
      have hB7 := hB6.no (drewW_fr no u6)
      refine ld_b (v := .int .i64 r.c.began) q2 (row_at q4 (by decide)) ?_
      refine ld_b (v := .int .i64 r.c.ended) q2 (row_at q4 (by decide)) ?_
      refine pv_i rfl ?_
      refine pv_i (add1 (by omega)) ?_
      exact hN _ _ _ _ (by omega) ⟨i + 1, _, rfl, by omega, rfl, hB7, rfl, rfl, rfl, rfl, rfl⟩
    have far : R (.bool true) u6 := h u6 hB6.fr
    -- began or ended late
    have late : ∀ (b0 : Bool), (gdB (.bool b0) false (fun N41 => pv (idxSV 18 lv (.int .i64 (i : Nat))) fun t66 => pv (addrV 11 t66) fun t67 => ldC u6 false 1 t67 fun t68 => pv (binV .gtr t68 (.int .i64 1000000)) fun t69 => N41 (upd e0 69 t69) u6 X) (fun N42 => N42 (upd e0 69 undef) u6 X)
        (fun g43 w44 X45 => pv (pickV (.bool b0) (.bool true) (g43 69)) fun t70 => gdB t70 false (fun N46 => pv (idxSV 18 lv (.int .i64 (i : Nat))) fun t74 => pv (addrV 13 t74) fun t75 => ldC w44 false 1 t75 fun t76 => pv (binV .gtr t76 (.int .i64 1000000)) fun t77 => N46 (upd e0 77 t77) w44 X45) (fun N47 => N47 (upd e0 77 undef) w44 X45)
          (fun g48 w49 X50 => pv (pickV t70 (.bool true) (g48 77)) fun t78 => condC t78
            (R (.bool true) w49)
            (pv (idxSV 18 lv (.int .i64 (i : Nat))) fun t82 => pv (addrV 11 t82) fun t83 => pv (idxSV 18 lv (.int .i64 (i : Nat))) fun t87 => pv (addrV 13 t87) fun t88 => ldC (drewW w49) false 1 t83 fun t84 => ldC (drewW w49) false 1 t88 fun t89 => pv (maxV true (.int .i64 last) [t84, t89]) fun t90 => pv (binV .add (.int .i64 (i : Nat)) (.int .i64 1)) fun t43 => N (upd (upd (upd (upd (upd e0 8 t43) 7 t90) 5 xv) 3 c.v) 1 lv) (drewW w49) X50)))) := by
      intro b0
      refine or_gB (fun _ => ?_) (fun _ => ?_)
      · refine or_gB (fun _ => ?_) (fun h => by cases h)
        rw [condC_t]; exact far
      refine pv_i q1 (pv_i (v := .pointer (some ⟨b, o + 11, none⟩)) rfl (ld11 _ ?_))
      refine pv_i gtr_i ?_
      refine pv_i (v := .bool _) rfl ?_
      refine or_gB (fun _ => ?_) (fun _ => ?_)
      · rw [condC_t]; exact far
      refine pv_i q1 (pv_i (v := .pointer (some ⟨b, o + 13, none⟩)) rfl (ld13 _ ?_))
      refine pv_i gtr_i ?_
      refine pv_i (v := .bool _) rfl ?_
      cases hh : decide ((1000000 : Int) < r.c.ended) with
      | true => rw [condC_t]; exact far
      | false => rw [condC_f]; exact next
    refine and_gB (fun _ => ?_) (fun _ => ?_)
    · exact late false
    refine pv_i q1 (pv_i (v := .pointer (some ⟨b, o + 13, none⟩)) rfl (pv_i q1 (pv_i (v := .pointer (some ⟨b, o + 11, none⟩)) rfl (ld13 _ (ld11 _ ?_)))))
    refine pv_i lss_i ?_
    refine pv_i (v := .bool _) rfl ?_
    exact late _
  · have : i = raws.length := by omega
    subst this
    rw [decide_eq_false (by omega), condC_f]
    dsimp only [upd]
    have hcs : ∀ r ∈ raws, callOk r.c := fun r hr' => short_ok hsh _ (List.mem_map.2 ⟨r, hr', rfl⟩)
    have hLl : (raws.map fun r => r.c).length = raws.length := List.length_map ..
    refine c93 hst (hl.ext hB.fr) hcs (by omega) fun v6 w6 f6 s6 => ?_
    have hB6 := hB.no f6
    refine ⟨hB.kp f6, ?_⟩
    refine pv_i (ext3a _ _ _) (pv_i (ext3b _ _ _) (pv_i (ext3c _ _ _) ?_))
    refine jn_p (fun e u X => ∃ xc : CallP, xc.ended < 0 ∧ Bn w X u ∧ e 1 = lv ∧ e 10 = .bool (findP c (raws.map fun r => r.c)).2.1 ∧ e 11 = .int .i64 (findP c (raws.map fun r => r.c)).2.2 ∧ lenV (e 12) = some (.int .i64 (findP c ((raws.map fun r => r.c) ++ [xc])).1.length) ∧
      e 13 = .bool (findP c ((raws.map fun r => r.c) ++ [xc])).2.1 ∧ e 14 = .int .i64 (findP c ((raws.map fun r => r.c) ++ [xc])).2.2) ?_ ?_
    · intro K hK
      refine pv_i (v := .int .i64 (IntKind.wrap .i64 (last + 1))) rfl ?_
      obtain ⟨us, rfl, hus, htt⟩ := id hx
      have hxs' := of_decide_eq_true hxs
      obtain ⟨ub, uc, rfl, _⟩ := id hus.row
      generalize hrx : (⟨⟨7, 0, x, 0, 0, IntKind.wrap .i64 (last + 1), -1, -1, Rep.zero⟩, .slice ub x.users.length uc, nilS, nilS⟩ : RawC) = rx
      have hrxin : rx.in w (fun _ => True) := by
        rw [← hrx]; exact ⟨hus, SlI.nil .., SlI.nil .., htt, Nat.zero_le _⟩
      have hrxok : callOk rx.c := by
        rw [← hrx]; exact ⟨by show x.user.size < 2^62; omega, fun s hs => by have := hxs'.2.2 s hs; omega, by show x.users.length < 2^40; omega, by show 0 < 2^60; decide, by show 0 < 2^60; decide⟩
      have hrxe : rx.c.ended < 0 := by rw [← hrx]; show (-1 : Int) < 0; decide
      refine pv_i (v := rx.v) (by rw [← hrx]; rfl) ?_
      obtain ⟨lb, lc, rfl, _⟩ := id hl.sl.row
      have hB7 := hB6.no (drewW_fr no w6)
      generalize drewW w6 = w7 at hB7 ⊢
      have hone := raws_one hl.in_
      have hrone : rx.cells.all one1 = true := by
        have := raws_one (l := [rx]) (w := w) (Im := fun _ => True) (fun r hr' => by simp at hr'; rw [hr']; exact hrxin)
        simpa using this
      -- found
      have fin : ∀ (u : World) (v : Value) (ob : Option Nat), Bn w X u → SlO u 18 120 v (raws.length + 1) (raws.flatMap RawC.cells ++ rx.cells) ob →
          CallsR Tryz.prog 93 #[c.v, v] u fun t109 w60 => kp X u w60 ∧ pv (extV t109 0) fun t110 => pv (extV t109 1) fun t111 => pv (extV t109 2) fun t112 => K (upd (upd (upd (upd (upd (upd e0 14 t112) 13 t111) 12 t110) 11 (.int .i64 (findP c (raws.map fun r => r.c)).2.2)) 10 (.bool (findP c (raws.map fun r => r.c)).2.1)) 1 (.slice lb raws.length lc)) w60 X := by
        intro u v ob hBu hsu
        have hcm : CallsM u (fun _ => True) v (raws ++ [rx]) := ⟨by rw [List.length_append, List.flatMap_append]; simpa using hsu.imm, fun r hr' => by
          rcases List.mem_append.1 hr' with h1 | h1
          · exact (hl.in_ r h1).ext hBu.fr
          · simp at h1; rw [h1]; exact hrxin.ext hBu.fr⟩
        refine c93 hst hcm (fun r hr' => by
          rcases List.mem_append.1 hr' with h1 | h1
          · exact hcs r h1
          · simp at h1; rw [h1]; exact hrxok) (by rw [List.length_append]; simp; omega) fun v8 w8 f8 s8 => ?_
        refine ⟨hBu.kp f8, ?_⟩
        rw [show ((raws ++ [rx]).map fun r => r.c) = (raws.map fun r => r.c) ++ [rx.c] by simp] at s8 ⊢
        refine pv_i (ext3a _ _ _) (pv_i (ext3b _ _ _) (pv_i (ext3c _ _ _) ?_))
        exact hK _ _ _ ⟨rx.c, hrxe, hBu.no f8, rfl, rfl, rfl, s8.lenV, rfl, rfl⟩
      have fresh : ∀ (u : World), Bn w X u → ∀ o, some u.heap.size = some o → w.heap.size ≤ o ∧ ¬ X o := fun u hBu o ho => by
        cases ho; exact ⟨hBu.fr.size, fun hh => by have := hBu.lt _ hh; omega⟩
      refine ⟨?_, ?_⟩
      · -- the empty one first
        refine bs_i (cs := []) rfl rfl fun v8 w8 s8 f8 z8 => ?_
        have hB8 := hB7.no f8
        refine ⟨trivial, trivial, ?_, ?_⟩
        · have hrow8 := (hl.ext hB8.fr).sl.row
          obtain ⟨_, _, hrw, _, _, hrow8⟩ := hrow8
          cases hrw
          refine apB hB8 s8 (fresh w7 hB7) hrow8 (by omega) hone fun v9 w9 o9 s9 hB9 k9 ho9 f9 => ?_
          refine ⟨k9, trivial, trivial, ?_⟩
          refine bs_i (cs := rx.cells) rfl rfl fun v10 w10 s10 f10 z10 => ?_
          have hB10 := hB9.no f10
          refine ⟨trivial, ?_⟩
          obtain ⟨base, cc, rfl, hrow10⟩ := s10.row
          refine apB hB10 (s9.keep f10 (fun _ _ => no_not _)) ho9 hrow10 (by omega) hrone fun v11 w11 o11 s11 hB11 k11 ho11 f11 => ?_
          refine ⟨k11, trivial, ?_⟩
          exact fin w11 v11 o11 hB11 (by simpa using s11)
        · refine bs_i (cs := rx.cells) rfl rfl fun v9 w9 s9 f9 z9 => ?_
          have hB9 := hB8.no f9
          refine ⟨trivial, ?_⟩
          obtain ⟨_, _, hrw, _, _, hrow9⟩ := (hl.ext hB9.fr).sl.row
          cases hrw
          refine apB hB9 (s8.keep f9 (fun _ _ => no_not _)) (fresh w7 hB7) hrow9 (by omega) hone fun v10 w10 o10 s10 hB10 k10 ho10 f10 => ?_
          refine ⟨k10, trivial, trivial, ?_⟩
          have s9' := s9.keep f10 (fun o ho hh => by have h1 := Option.some.inj ho; have h2 := Option.some.inj hh; omega)
          obtain ⟨base, cc, rfl, hrow10⟩ := s9'.row
          refine apB hB10 s10 ho10 hrow10 (by omega) hrone fun v11 w11 o11 s11 hB11 k11 ho11 f11 => ?_
          refine ⟨k11, trivial, ?_⟩
          exact fin w11 v11 o11 hB11 (by simpa using s11)
      · refine bs_i (cs := rx.cells) rfl rfl fun v8 w8 s8 f8 z8 => ?_
        have hB8 := hB7.no f8
        refine ⟨trivial, ?_⟩
        refine bs_i (cs := []) rfl rfl fun v9 w9 s9 f9 z9 => ?_
        have hB9 := hB8.no f9
        refine ⟨trivial, trivial, ?_⟩
        obtain ⟨_, _, hrw, _, _, hrow9⟩ := (hl.ext hB9.fr).sl.row
        cases hrw
        refine apB hB9 s9 (fresh w8 hB8) hrow9 (by omega) hone fun v10 w10 o10 s10 hB10 k10 ho10 f10 => ?_
        refine ⟨k10, trivial, trivial, ?_⟩
        have s8' := (s8.keep f9 (fun _ _ => no_not _)).keep f10 (fun o ho hh => by have h1 := Option.some.inj ho; have h2 := Option.some.inj hh; omega)
        obtain ⟨base, cc, rfl, hrow10⟩ := s8'.row
        refine apB hB10 s10 ho10 hrow10 (by omega) hrone fun v11 w11 o11 s11 hB11 k11 ho11 f11 => ?_
        refine ⟨k11, trivial, ?_⟩
        exact fin w11 v11 o11 hB11 (by simpa using s11)
    · rintro e u X ⟨xc, hxe, hBu, e1, e10, e11, e12, e13, e14⟩
      obtain ⟨p1, p2, p3, p4⟩ := open_law (c := c) (l := raws.map fun r => r.c) hr (by omega) hxe
      rw [p1] at e11
      rw [p2] at e14
      rw [hLl] at p4
      simp only [e1, e10, e11, e13, e14]
      have fin := h u hBu.fr
      refine pv_i (v := .bool true) rfl ?_
      refine and_gB (fun h => by cases h) (fun _ => ?_)
      refine pv_i (v := .bool true) rfl ?_
      refine pv_i (v := .bool true) rfl ?_
      rw [gdB_b, if_pos rfl]
      refine pv_i (not_b _) ?_
      dsimp only [upd]
      cases hok : (findP c (raws.map fun r => r.c)).2.1 with
      | false =>
        rw [Bool.not_false, gdB_b, if_neg (by simp)]
        dsimp only [upd]
        rw [gdB_u]
        dsimp only [upd]
        rw [gdB_b, if_neg (by simp)]
        dsimp only [upd]
        rw [gdB_b, if_pos rfl]
        refine pv_i (v := .bool true) rfl ?_
        dsimp only [upd]
        exact pv_i (v := .bool true) rfl fin
      | true =>
        rw [Bool.not_true, gdB_b, if_pos rfl]
        dsimp only [upd]
        rw [p3 hok, gdB_b, if_pos rfl]
        refine pv_i e12 ?_
        refine pv_i hl.sl.lenV ?_
        refine pv_i (add1 (by omega)) ?_
        refine pv_i (v := .bool true) (by rw [leq_i, decide_eq_true (by omega)]) ?_
        dsimp only [upd]
        rw [gdB_b, if_pos rfl]
        refine pv_i (v := .bool true) rfl ?_
        dsimp only [upd]
        rw [gdB_b, if_pos rfl]
        refine pv_i (v := .bool true) rfl ?_
        dsimp only [upd]
        exact pv_i (v := .bool true) rfl fin
end Go.Dm
