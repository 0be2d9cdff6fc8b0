/- A part of the proof that doormanlaw21.LinOpen returns true for every input, on no condition. -/
import Derived.Test.YtbfajkpjilhkgaaGreatL1
set_option linter.unusedVariables false
set_option linter.unusedSimpArgs false
set_option linter.deprecated false
/-! Orders tried. -/
namespace Go.Dm
open Go Go.Proofs
variable {w : World} {R : Value → World → Prop} {Im Im' : Nat → Prop}

structure FindR (w : World) (g : Gh) (p : List Nat) (b : Nat) (c : Cfg) (lv : Value) (raws : List RawC) (inn : List Bool) (ord : List Nat) (iv ov : Value) (ib : Nat) (oj : Option Nat) : Prop where
  gb : g b = p
  own : Dm.own w b = some (c.cells ++ [lv, iv, ov])
  ins : SlO w 1 4 iv inn.length (inn.map Value.bool) (some ib)
  ib_ : g ib = p ++ [1]
  ors : SlO w 1 3 ov ord.length (intCells ord) oj
  oj_ : ∀ o, oj = some o → g o = p ++ [2]
  calls : CallsM w (ImG g) lv raws
  il : inn.length = raws.length

section
variable {g g' : Gh} {p q : List Nat} {b : Nat} {c : Cfg} {lv iv ov : Value} {raws : List RawC} {inn : List Bool} {ord : List Nat} {ib : Nat} {oj : Option Nat} {w w' : World}
theorem FindR.gx (h : FindR w g p b c lv raws inn ord iv ov ib oj) (e : Ex q w g w' g') (ha : Apart q p) (hq : q ≠ []) : FindR w' g' p b c lv raws inn ord iv ov ib oj := by
  obtain ⟨o1, o2⟩ := e.own h.own (by rw [h.gb]; exact ha.self)
  have hs : ∀ (s : Nat) (o : Nat), g o = p ++ [s] → ¬ Un q g o := fun s o ho hu => ha [s] (by unfold Un at hu; rwa [ho] at hu)
  exact ⟨by rw [o2]; exact h.gb, o1, h.ins.keep e.fr (fun o ho => by cases ho; exact hs 1 _ h.ib_), by rw [e.old _ (h.ins.lt _ rfl)]; exact h.ib_, h.ors.keep e.fr (fun o ho => hs 2 o (h.oj_ o ho)), fun o ho => by rw [e.old o (h.ors.lt o ho)]; exact h.oj_ o ho, h.calls.gx hq e, h.il⟩
theorem FindR.no (h : FindR w g p b c lv raws inn ord iv ov ib oj) (f : Fr Dm.no w w') : FindR w' g p b c lv raws inn ord iv ov ib oj :=
  ⟨h.gb, f.own h.own id, h.ins.keep f (fun _ _ => no_not _), h.ib_, h.ors.keep f (fun _ _ => no_not _), h.oj_, h.calls.ext f, h.il⟩
theorem FindR.setIn {i : Nat} {x : Bool} (h : FindR w g p b c lv raws inn ord iv ov ib oj) (hok : GhOk w g) (hp : p ≠ []) (hi : i < inn.length) (s : SlO w' 1 4 iv inn.length (splice (inn.map Value.bool) (i * 1) [.bool x]) (some ib)) (f : Fr (fun b => some ib = some b) w w') :
    FindR w' g p b c lv raws (inn.set i x) ord iv ov ib oj ∧ Ex p w g w' g := by
  have e : Ex (p ++ [1]) w g w' g := ⟨f.mono fun y _ hy => by cases hy; unfold Un; rw [h.ib_]; exact List.prefix_refl _, fun _ _ => rfl, hok.mono f.size⟩
  obtain ⟨o1, _⟩ := e.own h.own (by rw [h.gb]; exact not_child p 1)
  have hsp : splice (inn.map Value.bool) (i * 1) [.bool x] = (inn.set i x).map Value.bool := by
    unfold splice
    rw [List.set_eq_take_append_cons_drop, if_pos hi, List.map_append, List.map_cons, List.map_take, List.map_drop]
    simp
  rw [hsp] at s
  refine ⟨⟨h.gb, o1, by rw [List.length_set]; exact s, h.ib_, h.ors.keep e.fr (fun o ho hu => ?_), h.oj_, h.calls.gx (by simp) e, by rw [List.length_set]; exact h.il⟩, e.up (List.prefix_append _ _)⟩
  unfold Un at hu; rw [h.oj_ o ho, List.prefix_append_right_inj] at hu; simp at hu
/-- The order has become another one. -/
theorem FindR.setOrd {w4 : World} {ov' : Value} {ord' : List Nat} {oj' : Option Nat} (h : FindR w g p b c lv raws inn ord iv ov ib oj) (hok : GhOk w g) (hp : p ≠ []) (f : Fr (fun x => oj = some x) w w4) (s : SlO w4 1 3 ov' ord'.length (intCells ord') oj')
    (ho : ∀ x, oj' = some x → oj = some x ∨ w.heap.size ≤ x) (k : Pt w4 b (c.cells ++ [lv, iv, ov']) w') : ∃ g', FindR w' g' p b c lv raws inn ord' iv ov' ib oj' ∧ Ex p w g w' g' := by
  have e : Ex (p ++ [2]) w g w4 (fun x => if oj' = some x then p ++ [2] else g x) := by
    refine ⟨f.mono fun x _ hx => by unfold Un; rw [h.oj_ x hx]; exact List.prefix_refl _, fun x hx => ?_, fun x hx => ?_⟩
    · split
      · rename_i hh
        rcases ho x hh with h1 | h1
        · exact (h.oj_ x h1).symm
        · omega
      · rfl
    · split
      · rename_i hh; have := s.lt x hh; omega
      · exact hok x (by have := f.size; omega)
  have hoj' : ∀ x, oj' = some x → (fun x => if oj' = some x then p ++ [2] else g x) x = p ++ [2] := fun x hx => by simp only []; rw [if_pos hx]
  generalize (fun x => if oj' = some x then p ++ [2] else g x) = g4 at e hoj'
  obtain ⟨o1, o2⟩ := e.own h.own (by rw [h.gb]; exact not_child p 2)
  rw [h.gb] at o2
  have e2 : Ex p w4 g4 w' g4 := Ex.pt e.ok k (by rw [o2]; exact List.prefix_refl _)
  have hne : ∀ (t : Nat) (x : Nat), g4 x = p ++ [t] → ¬ one b x := fun t x hx hy => by
    unfold one at hy; subst hy; rw [o2] at hx; have := congrArg List.length hx; simp at this
  have hib : g4 ib = p ++ [1] := by rw [e.old _ (h.ins.lt _ rfl)]; exact h.ib_
  refine ⟨g4, ⟨o2, k.own, (h.ins.keep e.fr (fun x hx hu => ?_)).keep k.fr (fun x hx => by cases hx; exact hne 1 _ hib), hib, s.keep k.fr (fun x hx => hne 2 x (hoj' x hx)), hoj', (h.calls.gx (by simp) e).gx hp e2, h.il⟩, (e.up (List.prefix_append _ _)).trans e2⟩
  cases hx; unfold Un at hu; rw [h.ib_, List.prefix_append_right_inj] at hu; simp at hu

theorem callAt_raw {i : Nat} {r : RawC} (h : raws[i]? = some r) : callAt (raws.map fun r => r.c) i = r.c := by unfold callAt; rw [List.getElem?_map, h]; rfl
theorem inAt_get {i : Nat} {x : Bool} (h : inn[i]? = some x) : inAt inn i = x := by unfold inAt; rw [h]; rfl
/-- Is it in? -/
theorem FindR.ldi {i : Nat} (h : FindR w g p b c lv raws inn ord iv ov ib oj) (hi : i < raws.length) : ∃ a, idxSV 1 iv (.int .i64 (i : Nat)) = some a ∧ ∀ K : Value → Prop, K (.bool (inAt inn i)) → ldC w false 1 a K := by
  have hi' : i < inn.length := by have := h.il; omega
  have hx : inn[i]? = some (inAt inn i) := by rw [List.getElem?_eq_getElem hi', inAt_get (List.getElem?_eq_getElem hi')]
  exact h.ins.imm.ld1' (i := (i : Nat)) (kd := .i64) (by omega) (by omega) (x := .bool (inAt inn i)) (by rw [Int.toNat_natCast, List.getElem?_map, hx]; rfl)

theorem c306 {i : Nat} (hf : FindR w g p b c lv raws inn ord iv ov ib oj) (hi : i < raws.length) (hn : raws.length < 2^60) (h : ∀ w', Fr Dm.no w w' → R (.bool (ready (raws.map fun r => r.c) inn i)) w') : CallsR Tryz.prog 306 #[.pointer (some ⟨b, 0, none⟩), .int .i64 (i : Nat)] w R := by
  apply sh306; unfold S306
  rw [jnB_e]
  refine pv_i rfl ?_
  refine pv_i (v := .pointer (some ⟨b, 7, none⟩)) rfl ?_
  refine ld_i (v := lv) hf.own rfl ?_
  refine pv_i hf.calls.sl.lenV ?_
  generalize hL : (raws.map fun r => r.c) = L at h
  have hLn : L.length = raws.length := by rw [← hL]; exact List.length_map ..
  have hca : ∀ {k : Nat} {r : RawC}, raws[k]? = some r → callAt L k = r.c := fun hr => by rw [← hL]; exact callAt_raw hr
  refine lp_c (fun d e u X => ∃ k : Nat, d = raws.length - k ∧ k ≤ raws.length ∧ X = Dm.no ∧ Fr Dm.no w u ∧ readyTo L inn i k = true ∧ e 0 = .pointer (some ⟨b, 0, none⟩) ∧ e 1 = .int .i64 (i : Nat) ∧ e 10 = .int .i64 raws.length ∧ e 11 = .int .i64 (k : Nat)) raws.length
    ⟨0, rfl, by omega, rfl, Fr.refl _ _, rfl, rfl, rfl, rfl, rfl⟩ ?_
  rintro d e u X N ⟨k, rfl, hk, rfl, f, hrd, e0', e1, e10, e11⟩ hN
  simp only [e0', e1, e10, e11]
  refine pv_i lss_i ?_
  by_cases hlt : k < raws.length
  · rw [decide_eq_true (by omega), condC_t]
    refine pv_i rfl ?_
    refine pv_i (v := .pointer (some ⟨b, 8, none⟩)) rfl ?_
    have f2 := f.trans (drewW_fr Dm.no u)
    generalize drewW u = u2 at f2 ⊢
    have hf2 := hf.no f2
    refine ld_i (v := iv) hf2.own rfl ?_
    obtain ⟨a, ha, hl⟩ := hf2.ldi hlt
    refine pv_i ha (hl _ ?_)
    refine pv_i (not_b _) ?_
    have hstep : readyTo L inn i (k + 1) = !(!inAt inn k && decide (k ≠ i) && before (callAt L k) (callAt L i)) := by
      unfold readyTo at hrd ⊢
      rw [List.range_succ, List.all_append, hrd]; simp
    -- it holds nothing up
    have go : ∀ (u3 : World), Fr Dm.no w u3 → (!inAt inn k && decide (k ≠ i) && before (callAt L k) (callAt L i)) = false → pv (binV .add (.int .i64 (k : Nat)) (.int .i64 1)) fun t44 => N (upd (upd (upd (upd e0 11 t44) 10 (.int .i64 raws.length)) 1 (.int .i64 (i : Nat))) 0 (.pointer (some ⟨b, 0, none⟩))) u3 Dm.no := fun u3 f3 hh => by
      refine pv_i (add1 (by omega)) ?_
      exact hN _ _ _ _ (by omega) ⟨k + 1, rfl, by omega, rfl, f3, by rw [hstep, hh]; rfl, rfl, rfl, rfl, rfl⟩
    refine and_gB (fun h1 => ?_) (fun h1 => ?_)
    · refine and_gB (fun _ => ?_) (fun h => by cases h)
      rw [condC_f]; exact go u2 f2 (by rw [h1]; rfl)
    refine pv_i neq_i ?_
    refine pv_i (v := .bool _) rfl ?_
    refine and_gB (fun h2 => ?_) (fun h2 => ?_)
    · rw [condC_f]; exact go u2 f2 (by rw [h1, show decide (k ≠ i) = false from decide_eq_false (by have := of_decide_eq_false h2; omega)]; rfl)
    have hki : decide (k ≠ i) = true := decide_eq_true (by have := of_decide_eq_true h2; omega)
    refine pv_i rfl ?_
    refine pv_i (v := .pointer (some ⟨b, 7, none⟩)) rfl ?_
    refine pv_i rfl ?_
    refine pv_i (v := .pointer (some ⟨b, 7, none⟩)) rfl ?_
    obtain ⟨rk, hrk⟩ : ∃ r, raws[k]? = some r := ⟨_, List.getElem?_eq_getElem hlt⟩
    obtain ⟨ri, hri⟩ : ∃ r, raws[i]? = some r := ⟨_, List.getElem?_eq_getElem hi⟩
    refine ld_i (v := lv) hf2.own rfl ?_
    obtain ⟨a1, ha1, l1⟩ := hf2.calls.ld hrk
    refine pv_i ha1 (l1 _ ?_)
    refine ld_i (v := lv) hf2.own rfl ?_
    obtain ⟨a2, ha2, l2⟩ := hf2.calls.ld hri
    refine pv_i ha2 (l2 _ ?_)
    refine c240 (hf2.calls.in_ _ (List.mem_of_getElem? hrk)) (hf2.calls.in_ _ (List.mem_of_getElem? hri)) fun u3 f3 => ?_
    refine pv_i (v := .bool (before rk.c ri.c)) rfl ?_
    cases hb : before rk.c ri.c with
    | true =>
      rw [condC_t]
      have := h u3 (f2.trans f3)
      have hr : ready L inn i = false := by
        have hf : readyTo L inn i L.length = false := by
          unfold readyTo
          rw [List.all_eq_false]
          exact ⟨k, List.mem_range.2 (by omega), by rw [h1, hki, hca hrk, hca hri, hb]; simp⟩
        unfold ready; rw [hf]; rfl
      rw [hr] at this; exact this
    | false =>
      rw [condC_f]
      exact go u3 (f2.trans f3) (by rw [hca hrk, hca hri, hb]; simp)
  · have : k = raws.length := by omega
    subst this
    rw [decide_eq_false (by omega), condC_f]
    have hfu := hf.no f
    refine pv_i rfl ?_
    refine pv_i (v := .pointer (some ⟨b, 8, none⟩)) rfl ?_
    refine ld_i (v := iv) hfu.own rfl ?_
    obtain ⟨a, ha, hl⟩ := hfu.ldi hi
    refine pv_i ha (hl _ ?_)
    refine pv_i (not_b _) ?_
    have := h u f
    unfold ready at this
    rw [hLn, hrd, Bool.true_and] at this; exact this
end
end Go.Dm
/-! All orders tried. -/
namespace Go.Dm
open Go Go.Proofs
variable {w : World} {R : Value → World → Prop} {Im Im' : Nat → Prop}

theorem fs_none {α : Type} {F : Nat → Option α} {i : Nat} (h : (List.range i).findSome? F = none) (hi : F i = none) : (List.range (i + 1)).findSome? F = none := by
  rw [List.range_succ, List.findSome?_append, h]; simp [hi]
theorem fs_some {α : Type} {F : Nat → Option α} {i : Nat} {x : α} (h : (List.range i).findSome? F = none) (hi : F i = some x) : ∀ n, i < n → (List.range n).findSome? F = some x
  | 0, hn => by omega
  | n + 1, hn => by
    rw [List.range_succ, List.findSome?_append]
    rcases Nat.lt_or_ge i n with h1 | h1
    · rw [fs_some h hi n h1]; rfl
    · have : i = n := by omega
      subst this; rw [h]; simp [hi]
def falses (l : List Bool) : Nat := (l.filter fun b => !b).length
theorem falses_set : ∀ {l : List Bool} {i : Nat}, l[i]? = some false → falses (l.set i true) + 1 = falses l
  | [], i, h => by simp at h
  | a :: l, 0, h => by
    simp at h; subst h; unfold falses; simp
  | a :: l, i + 1, h => by
    have := falses_set (l := l) (i := i) (by simpa using h)
    unfold falses at this ⊢
    rw [List.set_cons_succ, List.filter_cons, List.filter_cons]
    split <;> (try simp only [List.length_cons]) <;> omega
theorem inAt_false {inn : List Bool} {i : Nat} (hi : i < inn.length) (h : inAt inn i = false) : inn[i]? = some false := by
  rw [List.getElem?_eq_getElem hi]
  rw [inAt_get (List.getElem?_eq_getElem hi)] at h
  rw [h]
theorem ints_eq (ord : List Nat) : (ord.map fun (i : Nat) => (i : Int)).map (Value.int .i64) = intCells ord := by unfold intCells; rw [List.map_map]; rfl
theorem left_succ (l : List CallP) (inn : List Bool) (n : Nat) : leftTo l inn (n + 1) = (leftTo l inn n || (decide (0 ≤ (callAt l n).ended) && !inAt inn n)) := by
  unfold leftTo; rw [List.range_succ, List.any_append]; simp

section
variable {p : List Nat} {b : Nat} {c : Cfg} {lv iv : Value} {raws : List RawC} {ib : Nat}
theorem c204 (hp : p ≠ []) (hst : c.start ≤ maxU) (hcs : ∀ r ∈ raws, callOk r.c) (hrl : raws.length < 2^20) :
    ∀ (f : Nat) {w : World} {R : Value → World → Prop} {g : Gh} {inn : List Bool} {ord : List Nat} {ov : Value} {oj : Option Nat}, FindR w g p b c lv raws inn ord iv ov ib oj → GhOk w g → falses inn < f → ord.length + falses inn < 2^21 →
    (findGo c (raws.map fun r => r.c) f inn ord = none → ∀ w' g' ov' oj', FindR w' g' p b c lv raws inn ord iv ov' ib oj' → Ex p w g w' g' → R (.bool false) w') →
    (∀ o, findGo c (raws.map fun r => r.c) f inn ord = some o → ∀ w' g' inn' ov' oj', FindR w' g' p b c lv raws inn' o iv ov' ib oj' → Ex p w g w' g' → R (.bool true) w') → CallsR Tryz.prog 204 #[.pointer (some ⟨b, 0, none⟩)] w R := by
  have hq0 := beside_ne p
  have hqa := beside_apart hp
  have hqn := beside_not hp
  generalize beside p = q at hq0 hqa hqn
  intro f
  induction f with
  | zero => intro w R g inn ord ov oj _ _ h; omega
  | succ f ih =>
  intro w R g inn ord ov oj hf hok hfl hol h0 h1
  generalize hL : (raws.map fun r => r.c) = L at h0 h1 ih
  have hLn : L.length = raws.length := by rw [← hL]; exact List.length_map ..
  have hca : ∀ {k : Nat} {r : RawC}, raws[k]? = some r → callAt L k = r.c := fun hr => by rw [← hL]; exact callAt_raw hr
  apply sh204; unfold S204
  refine pv_i rfl ?_
  refine pv_i (v := .pointer (some ⟨b, 0, none⟩)) rfl ?_
  refine pv_i rfl ?_
  refine pv_i (v := .pointer (some ⟨b, 7, none⟩)) rfl ?_
  refine pv_i rfl ?_
  refine pv_i (v := .pointer (some ⟨b, 9, none⟩)) rfl ?_
  have fD := drewW_fr no w
  have hf1 := hf.no fD
  generalize drewW w = w1 at fD hf1 ⊢
  refine la_i (xs := c.cells) hf1.own (by exact (by decide : 0 + 7 ≤ 10)) rfl ?_
  refine ld_i (v := lv) hf1.own rfl ?_
  refine ld_i (v := ov) hf1.own rfl ?_
  refine c88 (order := ord.map fun (i : Nat) => (i : Int)) hst (hf1.calls.im fun _ _ _ => trivial) hcs (by rw [ints_eq, List.length_map]; exact hf1.ors.imm) (by rw [List.length_map]; omega) (by omega) fun w2 f2 => ?_
  rw [hL]
  have hf2 := hf1.no f2
  have f02 := fD.trans f2
  refine pv_i (ext2a _ _) (pv_i (ext2b _ _) ?_)
  refine pv_i geq_i ?_
  have hgo : findGo c L (f + 1) inn ord = if 0 ≤ (replay c L (ord.map fun (i : Nat) => (i : Int))).1 then none else if leftTo L inn L.length = false then some ord else
    (List.range L.length).findSome? fun i => if ready L inn i = true then findGo c L f (inn.set i true) (ord ++ [i]) else none := rfl
  by_cases hr : 0 ≤ (replay c L (ord.map fun (i : Nat) => (i : Int))).1
  · rw [decide_eq_true hr, condC_t]
    exact h0 (by rw [hgo, if_pos hr]) w2 g ov oj hf2 (Ex.of_no hok f02)
  rw [decide_eq_false hr, condC_f, jnB_e]
  rw [if_neg hr] at hgo
  refine pv_i rfl ?_
  refine pv_i (v := .pointer (some ⟨b, 7, none⟩)) rfl ?_
  refine ld_i (v := lv) hf2.own rfl ?_
  refine pv_i hf2.calls.sl.lenV ?_
  have hB2 : Bx p q w g no w2 g := ⟨Ex.of_no hok f02, fun _ h => h.elim⟩
  refine lp_c (fun d e u X => ∃ (k : Nat) (g' : Gh), d = raws.length - k ∧ k ≤ raws.length ∧ Bx p q w g X u g' ∧ FindR u g' p b c lv raws inn ord iv ov ib oj ∧ e 0 = .pointer (some ⟨b, 0, none⟩) ∧ e 5 = .bool (leftTo L inn k) ∧ e 30 = lv ∧ e 31 = .int .i64 raws.length ∧ e 32 = .int .i64 (k : Nat)) raws.length
    ⟨0, g, rfl, by omega, hB2, hf2, rfl, rfl, rfl, rfl, rfl⟩ ?_
  rintro d e u X N ⟨k, g3, rfl, hk, hB3, hf3, e0', e5, e30, e31, e32⟩ hN
  simp only [e0', e5, e30, e31, e32]
  refine pv_i lss_i ?_
  by_cases hlt : k < raws.length
  · rw [decide_eq_true (by omega), condC_t]
    obtain ⟨r, hr'⟩ : ∃ r, raws[k]? = some r := ⟨_, List.getElem?_eq_getElem hlt⟩
    obtain ⟨a, ha, _⟩ := hf3.calls.ld hr'
    refine pv_i ha ?_
    intro u4 X4 y4
    obtain ⟨g4, hB4, hx4⟩ := hB3.sy y4
    have hf4 := hf3.gx hx4 hqa hq0
    obtain ⟨a', ha', hl'⟩ := hf4.calls.ld hr'
    rw [ha] at ha'; cases ha'
    refine hl' _ ?_
    refine ⟨(hf4.calls.in_ r (List.mem_of_getElem? hr')).ok, ?_⟩
    have hls := left_succ L inn k
    rw [hca hr'] at hls
    -- on
    have next : ∀ (t : Value) (u5 : World) (X5 : Nat → Prop) (g5 : Gh), Bx p q w g X5 u5 g5 → FindR u5 g5 p b c lv raws inn ord iv ov ib oj → t = .bool (leftTo L inn (k + 1)) →
        pv (binV .add (.int .i64 (k : Nat)) (.int .i64 1)) fun t53 => N (upd (upd (upd (upd (upd e0 32 t53) 31 (.int .i64 raws.length)) 30 lv) 5 t) 0 (.pointer (some ⟨b, 0, none⟩))) u5 X5 := by
      rintro t u5 X5 g5 b5 f5 rfl
      refine pv_i (add1 (by omega)) ?_
      exact hN _ _ _ _ (by omega) ⟨k + 1, g5, rfl, by omega, b5, f5, rfl, rfl, rfl, rfl, rfl⟩
    cases hlf : leftTo L inn k with
    | true =>
      rw [hlf, Bool.true_or] at hls
      rw [gdB_b, if_neg (by simp)]
      dsimp only [upd]
      rw [gdB_u]
      dsimp only [upd]
      rw [gdB_b, if_neg (by simp)]
      refine pv_i (v := .bool true) rfl ?_
      exact next _ u4 X4 g4 hB4 hf4 (by rw [hls])
    | false =>
      rw [hlf, Bool.false_or] at hls
      rw [gdB_b, if_pos rfl]
      refine pv_i (v := .int .i64 r.c.ended) rfl ?_
      refine pv_i geq_i ?_
      dsimp only [upd]
      by_cases he : 0 ≤ r.c.ended
      · rw [decide_eq_true he] at hls ⊢
        rw [gdB_b, if_pos rfl]
        refine pv_i rfl ?_
        refine pv_i (v := .pointer (some ⟨b, 8, none⟩)) rfl ?_
        intro u5 X5 y5
        obtain ⟨g5, hB5, hx5⟩ := hB4.sy y5
        have hf5 := hf4.gx hx5 hqa hq0
        refine ld_i (v := iv) hf5.own rfl ?_
        obtain ⟨a5, ha5, hl5⟩ := hf5.ldi hlt
        refine pv_i ha5 (hl5 _ ?_)
        refine pv_i (not_b _) ?_
        dsimp only [upd]
        rw [gdB_b, if_pos rfl]
        dsimp only [upd]
        refine pv_i (v := .bool (!inAt inn k)) rfl ?_
        refine pv_i (v := .bool (!inAt inn k)) rfl ?_
        exact next _ u5 X5 g5 hB5 hf5 (by rw [hls, Bool.true_and])
      · rw [decide_eq_false he] at hls ⊢
        rw [gdB_b, if_neg (by simp)]
        dsimp only [upd]
        rw [gdB_b, if_pos rfl]
        dsimp only [upd]
        refine pv_i (v := .bool false) rfl ?_
        refine pv_i (v := .bool false) rfl ?_
        exact next _ u4 X4 g4 hB4 hf4 (by rw [hls, Bool.false_and])
  · have : k = raws.length := by omega
    subst this
    rw [decide_eq_false (by omega), condC_f]
    dsimp only [upd]
    refine pv_i (not_b _) ?_
    rw [hLn] at hgo
    cases hlf : leftTo L inn raws.length with
    | false =>
      rw [Bool.not_false, condC_t]
      rw [if_pos hlf] at hgo
      intro u4 X4 y4
      obtain ⟨g4, hB4, hx4⟩ := hB3.sy y4
      exact h1 ord hgo u4 g4 inn ov oj (hf3.gx hx4 hqa hq0) hB4.ex
    | true =>
      rw [Bool.not_true, condC_f, jnB_e]
      rw [if_neg (by simp [hlf])] at hgo
      refine pv_i rfl ?_
      refine pv_i (v := .pointer (some ⟨b, 7, none⟩)) rfl ?_
      intro u4 X4 y4
      obtain ⟨g4, hB4, hx4⟩ := hB3.sy y4
      have hf4 := hf3.gx hx4 hqa hq0
      refine ld_i (v := lv) hf4.own rfl ?_
      refine pv_i hf4.calls.sl.lenV ?_
      refine lp_c (fun d e u X => ∃ (k : Nat) (g' : Gh) (ov' : Value) (oj' : Option Nat), d = raws.length - k ∧ k ≤ raws.length ∧ Bx p q w g X u g' ∧ FindR u g' p b c lv raws inn ord iv ov' ib oj' ∧
          (List.range k).findSome? (fun i => if ready L inn i = true then findGo c L f (inn.set i true) (ord ++ [i]) else none) = none ∧ e 0 = .pointer (some ⟨b, 0, none⟩) ∧ e 60 = .int .i64 raws.length ∧ e 61 = .int .i64 (k : Nat)) raws.length
        ⟨0, g4, ov, oj, rfl, by omega, hB4, hf4, rfl, rfl, rfl, rfl⟩ ?_
      rintro d e u X N ⟨k, g5, ov5, oj5, rfl, hk, hB5, hf5, hfs, e0', e60, e61⟩ hN
      simp only [e0', e60, e61]
      refine pv_i lss_i ?_
      by_cases hlt : k < raws.length
      · rw [decide_eq_true (by omega), condC_t]
        refine jn_p (fun e u X => (∃ (g' : Gh) (ov' : Value) (oj' : Option Nat), Bx p q w g X u g' ∧ FindR u g' p b c lv raws inn ord iv ov' ib oj') ∧ (if ready L inn k = true then findGo c L f (inn.set k true) (ord ++ [k]) else none) = none ∧
          e 0 = .pointer (some ⟨b, 0, none⟩) ∧ e 60 = .int .i64 raws.length ∧ e 61 = .int .i64 (k : Nat)) ?_ ?_
        rotate_left
        · rintro e u X ⟨⟨g', ov', oj', hB', hf'⟩, hn', e0', e60, e61⟩
          simp only [e0', e60, e61]
          refine pv_i (add1 (by omega)) ?_
          exact hN _ _ _ _ (by omega) ⟨k + 1, g', ov', oj', rfl, by omega, hB', hf', fs_none hfs hn', rfl, rfl, rfl⟩
        intro K hK
        refine c306 hf5 hlt (by omega) fun u6 f6 => ?_
        rw [hL]
        obtain ⟨hB6, k6⟩ := hB5.no f6
        have hf6 := hf5.no f6
        refine ⟨k6, ?_⟩
        refine pv_i (not_b _) ?_
        cases hrd : ready L inn k with
        | false =>
          rw [Bool.not_false, condC_t]
          exact hK _ _ _ ⟨⟨g5, ov5, oj5, hB6, hf6⟩, by rw [if_neg (by simp [hrd])], rfl, rfl, rfl⟩
        | true =>
          rw [Bool.not_true, condC_f]
          have hin : inAt inn k = false := by unfold ready at hrd; simp at hrd; exact hrd.2
          have hkl : k < inn.length := by have := hf6.il; omega
          have hkf := inAt_false hkl hin
          have hfal := falses_set hkf
          refine pv_i rfl ?_
          refine pv_i (v := .pointer (some ⟨b, 8, none⟩)) rfl ?_
          refine ld_i (v := iv) hf6.own rfl ?_
          obtain ⟨a7, ha7, hl7⟩ := hf6.ins.stk (kd := .i64) hkl (x := .bool true) rfl rfl
          refine pv_i ha7 (hl7 _ fun u7 s7 f7 => ?_)
          obtain ⟨hf7, e7⟩ := hf6.setIn hB6.ex.ok hp hkl s7 f7
          refine ⟨hB6.kp e7 (List.prefix_refl p) hqn, ?_⟩
          have hB7 := hB6.step e7 (List.prefix_refl p)
          refine pv_i rfl ?_
          refine pv_i (v := .pointer (some ⟨b, 9, none⟩)) rfl ?_
          refine ld_i (v := ov5) hf7.own rfl ?_
          refine bs_i (cs := [.int .i64 (k : Nat)]) rfl rfl fun v8 u8 s8 f8 z8 => ?_
          obtain ⟨base, cc, rfl, hrow⟩ := s8.row
          obtain ⟨hB8, _⟩ := hB7.no f8
          have hf8 := hf7.no f8
          refine ap_o hf8.ors hrow rfl (by decide) (by omega) rfl fun v9 u9 o9 s9 f9 ho9 => ?_
          refine ⟨kp_fr f9 (fun x hx => (hB8.bx x hx).2.1) (fun x hx hh => ?_), ?_⟩
          · have h1 := hf8.oj_ x hh; have h2 := (hB8.bx x hx).2.2; rw [h1] at h2; exact hqn (by rw [← h2]; exact List.prefix_append _ _)
          refine pv_i rfl ?_
          refine pv_i (v := .pointer (some ⟨b, 9, none⟩)) rfl ?_
          have hob : ¬ oj5 = some b := fun hh => by have h1 := hf8.oj_ b hh; rw [hf8.gb] at h1; have := congrArg List.length h1; simp at this
          refine st_i (ds := c.cells ++ [lv, iv, v9]) (f9.own hf8.own hob) (by exact (by decide : 9 + 1 ≤ 10)) (by rw [cells_one s9.one]; rfl) (by rw [cells_one s9.one]; simpa using s9.one) (by rw [cells_one s9.one]; rfl) fun u10 p10 => ?_
          have hcells : intCells ord ++ [Value.int .i64 (k : Nat)] = intCells (ord ++ [k]) := by unfold intCells; rw [List.map_append]; rfl
          rw [hcells] at s9
          have hbX : ∀ x, X x → ¬ one b x := fun x hx hh => by unfold one at hh; subst hh; have h2 := (hB8.bx _ hx).2.2; rw [hf8.gb] at h2; exact hqn (by rw [h2]; exact List.prefix_refl _)
          refine ⟨kp_fr p10.fr (fun x hx => Nat.lt_of_lt_of_le (hB8.bx x hx).2.1 f9.size) hbX, ?_⟩
          obtain ⟨g10, hf10, e10⟩ := hf8.setOrd (ord' := ord ++ [k]) hB8.ex.ok hp f9 (by rw [List.length_append]; exact s9) ho9 p10
          have hB10 := hB8.step e10 (List.prefix_refl p)
          have hfin : ∀ (u11 : World) (g11 : Gh), Ex p u10 g10 u11 g11 → Bx p q w g X u11 g11 ∧ kp X u10 u11 := fun u11 g11 e11 => ⟨hB10.step e11 (List.prefix_refl p), hB10.kp e11 (List.prefix_refl p) hqn⟩
          refine ih hf10 hB10.ex.ok (by omega) (by rw [List.length_append]; simp; omega) (fun hno u11 g11 ov11 oj11 hf11 e11 => ?_) (fun o ho u11 g11 inn11 ov11 oj11 hf11 e11 => ?_)
          · obtain ⟨hB11, k11⟩ := hfin u11 g11 e11
            refine ⟨k11, ?_⟩
            rw [condC_f]
            refine pv_i rfl ?_
            refine pv_i (v := .pointer (some ⟨b, 9, none⟩)) rfl ?_
            refine pv_i rfl ?_
            refine pv_i (v := .pointer (some ⟨b, 9, none⟩)) rfl ?_
            have fD := drewW_fr no u11
            obtain ⟨hB12, _⟩ := hB11.no fD
            have hf12 := hf11.no fD
            generalize drewW u11 = u12 at fD hB12 hf12 ⊢
            refine ld_i (v := ov11) hf12.own rfl ?_
            refine ld_i (v := ov11) hf12.own rfl ?_
            refine pv_i hf12.ors.lenV ?_
            have hlen : (ord ++ [k]).length = ord.length + 1 := by simp
            refine pv_i (v := .int .i64 (ord.length : Nat)) (by rw [hlen]; exact (sub_i (by omega) (by omega)).trans (by congr 2; omega)) ?_
            obtain ⟨ov13, hov13, s13⟩ := hf12.ors.pre (i := ord.length) (by omega) (by omega)
            refine pv_i hov13 ?_
            refine pv_i rfl ?_
            refine pv_i (v := .pointer (some ⟨b, 9, none⟩)) rfl ?_
            have hcel : (intCells (ord ++ [k])).take (ord.length * 1) = intCells ord := by rw [Nat.mul_one, ← hcells]; exact List.take_left' (by unfold intCells; simp)
            rw [hcel] at s13
            refine st_i (ds := c.cells ++ [lv, iv, ov13]) hf12.own (by exact (by decide : 9 + 1 ≤ 10)) (by rw [cells_one s13.one]; rfl) (by rw [cells_one s13.one]; simpa using s13.one) (by rw [cells_one s13.one]; rfl) fun u14 p14 => ?_
            obtain ⟨g14, hf14, e14⟩ := hf12.setOrd (ord' := ord) hB12.ex.ok hp (Fr.refl _ _) s13 (fun x hx => .inl hx) p14
            refine ⟨hB12.kp e14 (List.prefix_refl p) hqn, ?_⟩
            have hB14 := hB12.step e14 (List.prefix_refl p)
            refine pv_i rfl ?_
            refine pv_i (v := .pointer (some ⟨b, 8, none⟩)) rfl ?_
            refine ld_i (v := iv) hf14.own rfl ?_
            have hkl' : k < (inn.set k true).length := by rw [List.length_set]; exact hkl
            obtain ⟨a15, ha15, hl15⟩ := hf14.ins.stk (kd := .i64) hkl' (x := .bool false) rfl rfl
            refine pv_i ha15 (hl15 _ fun u15 s15 f15 => ?_)
            obtain ⟨hf15, e15⟩ := hf14.setIn hB14.ex.ok hp hkl' s15 f15
            refine ⟨hB14.kp e15 (List.prefix_refl p) hqn, ?_⟩
            have hback : (inn.set k true).set k false = inn := by
              rw [List.set_set]
              apply List.ext_getElem?; intro j
              rw [List.getElem?_set]
              split
              · rename_i hj; subst hj; first | (rw [if_pos hkl, hkf]) | (rw [hkf])
              · rfl
            rw [hback] at hf15
            exact hK _ _ _ ⟨⟨g14, _, _, hB14.step e15 (List.prefix_refl p), hf15⟩, by rw [if_pos hrd]; exact hno, rfl, rfl, rfl⟩
          · obtain ⟨hB11, k11⟩ := hfin u11 g11 e11
            refine ⟨k11, ?_⟩
            rw [condC_t]
            refine h1 o ?_ u11 g11 inn11 ov11 oj11 hf11 hB11.ex
            rw [hgo]
            exact fs_some hfs (by rw [if_pos hrd]; exact ho) _ hlt
      · have : k = raws.length := by omega
        subst this
        rw [decide_eq_false (by omega), condC_f]
        exact h0 (by rw [hgo]; exact hfs) u g5 ov5 oj5 hf5 hB5.ex
end
end Go.Dm
/-! Orders found. -/
namespace Go.Dm
open Go Go.Proofs
variable {w : World} {R : Value → World → Prop} {Im Im' : Nat → Prop}

theorem repL_bool : ∀ n, repL n [Value.bool false] = (List.replicate n false).map Value.bool
  | 0 => rfl
  | n + 1 => by unfold repL; rw [repL_bool n]; rfl
theorem falses_rep : ∀ n, falses (List.replicate n false) = n
  | 0 => rfl
  | n + 1 => by have := falses_rep n; unfold falses at this ⊢; rw [List.replicate_succ, List.filter_cons]; simp [this]

theorem ints_one : ∀ o : List Nat, (intCells o).all one1 = true
  | [] => rfl
  | a :: o => by have := ints_one o; unfold intCells at this ⊢; rw [List.map_cons, List.all_cons, this]; rfl
theorem find_len (c : Cfg) (l : List CallP) : ∀ (f : Nat) (inn : List Bool) (ord o : List Nat), l.length ≤ inn.length → findGo c l f inn ord = some o → o.length ≤ ord.length + falses inn
  | 0, inn, ord, o, _, h => by cases h
  | f + 1, inn, ord, o, hl, h => by
    unfold findGo at h
    split at h
    · cases h
    split at h
    · cases h; omega
    · obtain ⟨i, hi, hh⟩ := List.exists_of_findSome?_eq_some h
      split at hh
      · rename_i hr
        have hin : inAt inn i = false := by unfold ready at hr; simp at hr; exact hr.2
        have := find_len c l f _ _ _ (by rw [List.length_set]; exact hl) hh
        rw [List.length_append] at this
        have hi := List.mem_range.1 hi
        have h2 := falses_set (inAt_false (by omega : i < inn.length) hin)
        simp only [List.length_cons, List.length_nil] at this; omega
      · cases hh

theorem c93 {c : Cfg} {lv : Value} {raws : List RawC} (hst : c.start ≤ maxU) (hl : CallsM w (fun _ => True) lv raws) (hcs : ∀ r ∈ raws, callOk r.c) (hrl : raws.length < 2^60)
    (h : ∀ v w', Fr no w w' → SlI w' (fun _ => True) 1 v (findP c (raws.map fun r => r.c)).1.length (intCells (findP c (raws.map fun r => r.c)).1) → R (.tuple #[v, .bool (findP c (raws.map fun r => r.c)).2.1, .int .i64 (findP c (raws.map fun r => r.c)).2.2]) w') : CallsR Tryz.prog 93 #[c.v, lv] w R := by
  apply sh93; unfold S93
  refine ⟨rfl, ?_⟩
  intro w1 X1 y1
  have hB1 := (Bn.start w).sy y1
  refine c139 fun w2 f2 => ?_
  have hB2 := hB1.no f2
  refine ⟨hB1.kp f2, ?_⟩
  refine pv_i (not_b _) ?_
  have hLl : (raws.map fun r => r.c).length = raws.length := List.length_map ..
  unfold findP at h
  rw [hLl] at h
  cases hr : c.right with
  | false =>
    rw [Bool.not_false, condC_t]
    rw [if_pos hr] at h
    exact h _ w2 hB2.fr (SlI.nil ..)
  | true =>
  rw [Bool.not_true, condC_f]
  rw [if_neg (by simp [hr])] at h
  refine pv_i hl.sl.lenV ?_
  refine pv_i gtr_i ?_
  by_cases h7 : 7 < raws.length
  · rw [decide_eq_true (by omega), condC_t]
    rw [if_pos h7] at h
    exact h _ w2 hB2.fr (SlI.nil ..)
  rw [decide_eq_false (by omega), condC_f]
  rw [if_neg h7] at h
  refine pv_i hl.sl.lenV ?_
  have hB3 := hB2.no (drewW_fr no w2)
  have hz3 : (drewW w2).heap.size = w2.heap.size := rfl
  generalize drewW w2 = w3 at hB3 hz3 ⊢
  refine ms_i (by omega) (by omega) fun iv w4 s4 f4 z4 => ?_
  rw [show ([Value.bool false] : List Value).length = 1 from rfl, repL_bool] at s4
  refine ⟨rfl, ?_⟩
  obtain ⟨ibs, ic, rfl, _⟩ := id s4.row
  obtain ⟨lb, lc, rfl, _⟩ := id hl.sl.row
  refine pv_i (v := .agg (c.cells ++ [Value.slice lb raws.length lc, Value.slice ibs raws.length ic, Value.slice none 0 0]).toArray) rfl ?_
  refine al_i fun b w5 n5 => ?_
  have e5 := n5.eq; have z5 := n5.size
  have hB5 := (hB3.no f4).no n5.fr
  have hp : ([1] : List Nat) ≠ [] := by simp
  have hok5 : GhOk w5 (fun x => if x = b then [1] else if x = w3.heap.size then [1, 1] else []) := fun x hx => by simp only []; rw [if_neg (by omega), if_neg (by omega)]
  have him : ∀ x, x < w3.heap.size → ImG (fun x => if x = b then [1] else if x = w3.heap.size then [1, 1] else []) x := fun x hx => by show (if x = b then [1] else if x = w3.heap.size then [1, 1] else []) = []; rw [if_neg (by omega), if_neg (by omega)]
  have hl3 := hl.ext hB3.fr
  have hl5 : CallsM w5 (ImG (fun x => if x = b then [1] else if x = w3.heap.size then [1, 1] else [])) (.slice lb raws.length lc) raws :=
    ((hl3.im (Im' := ImG (fun x => if x = b then [1] else if x = w3.heap.size then [1, 1] else [])) fun x hx _ => him x hx).ext f4).ext n5.fr
  have hf5 : FindR w5 (fun x => if x = b then [1] else if x = w3.heap.size then [1, 1] else []) [1] b c (.slice lb raws.length lc) raws (List.replicate raws.length false) [] (.slice ibs raws.length ic) (.slice none 0 0) w3.heap.size none :=
    ⟨by simp, n5.own, by rw [List.length_replicate]; exact s4.keep n5.fr (fun _ _ => no_not _), by simp only []; rw [if_neg (by omega)]; simp, SlO.nil .., (fun o hh => by cases hh), hl5, List.length_replicate ..⟩
  have hgim : ∀ x, x < w3.heap.size → ¬ Un [1] (fun x => if x = b then [1] else if x = w3.heap.size then [1, 1] else []) x := fun x hx hu => by
    unfold Un at hu; rw [him x hx] at hu; simp at hu
  generalize (fun x => if x = b then [1] else if x = w3.heap.size then [1, 1] else []) = g5 at hok5 hl5 hf5 hgim
  have hz := hB3.fr.size
  have out : ∀ (w6 : World) (g6 : Gh), Ex [1] w5 g5 w6 g6 → kp X1 w5 w6 ∧ Fr no w w6 := fun w6 g6 e6 =>
    ⟨kp_fr e6.fr hB5.lt (fun x hx => hgim x (hB3.lt x hx)), hB5.fr.trans' e6.fr (fun x hx => hgim x (by omega))⟩
  refine c204 hp hst hcs (by omega) (raws.length + 1) hf5 hok5 (by rw [falses_rep]; omega) (by rw [falses_rep]; simp; omega) (fun hno w6 g6 ov6 oj6 hf6 e6 => ?_) (fun o ho w6 g6 inn6 ov6 oj6 hf6 e6 => ?_)
  · obtain ⟨k6, f6⟩ := out w6 g6 e6
    refine ⟨k6, ?_⟩
    refine pv_i (not_b _) ?_
    rw [Bool.not_false, condC_t]
    rw [hno] at h
    exact h _ w6 f6 (SlI.nil ..)
  · obtain ⟨k6, f6⟩ := out w6 g6 e6
    refine ⟨k6, ?_⟩
    refine pv_i (not_b _) ?_
    rw [Bool.not_true, condC_f]
    rw [ho] at h
    refine bs_i (cs := []) rfl rfl fun v7 w7 s7 f7 z7 => ?_
    have hf7 := hf6.no f7
    refine pv_i rfl ?_
    refine pv_i (v := .pointer (some ⟨b, 9, none⟩)) rfl ?_
    refine ld_i (v := ov6) hf7.own rfl ?_
    obtain ⟨base, cc, rfl, _, _, hrow⟩ := (hf7.ors.imm).row
    have hol := hf7.ors.len
    have hob : o.length < 2^40 := by
      have := find_len c (raws.map fun r => r.c) (raws.length + 1) _ _ _ (by rw [hLl, List.length_replicate]; exact Nat.le_refl _) ho
      rw [falses_rep] at this; simp at this; omega
    refine ap_o s7 hrow rfl (by decide) (by omega) (ints_one o) fun v8 w8 o8 s8 f8 ho8 => ?_
    have hz5 := hB5.fr.size; have hz6 := e6.size
    refine ⟨kp_fr f8 (fun x hx => by have := hB5.lt x hx; omega) (fun x hx hh => by cases hh; have := hB5.lt _ hx; omega), ?_⟩
    refine h _ w8 ((f6.trans f7).trans' f8 (fun x hx hh => by cases hh; omega)) ?_
    simpa using s8.imm
end Go.Dm
