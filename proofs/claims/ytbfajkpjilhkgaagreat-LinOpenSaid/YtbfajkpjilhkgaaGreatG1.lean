/- A part of the proof that doormanlaw21.LinOpen returns true for every input, on no condition. -/
import Derived.Test.YtbfajkpjilhkgaaGreatC4
set_option linter.unusedVariables false
set_option linter.unusedSimpArgs false
set_option linter.deprecated false
/-! Who owns which blocks; queues. -/
namespace Go.Dm
open Go Go.Proofs
variable {R : Value → World → Prop}

/-- Each block's owner: a path; none: nobody changes it. -/
abbrev Gh := Nat → List Nat
def GhOk (w : World) (g : Gh) : Prop := ∀ b, w.heap.size ≤ b → g b = []
def ImG (g : Gh) : Nat → Prop := fun b => g b = []
def Un (p : List Nat) (g : Gh) : Nat → Prop := fun b => p <+: g b
def Apart (q p : List Nat) : Prop := ∀ s, ¬ q <+: p ++ s

/-- What is under p alone has changed. -/
structure Ex (p : List Nat) (w : World) (g : Gh) (w' : World) (g' : Gh) : Prop where
  fr : Fr (Un p g) w w'
  old : ∀ b, b < w.heap.size → g' b = g b
  ok : GhOk w' g'

theorem GhOk.mono {w w' : World} {g : Gh} (h : GhOk w g) (hs : w.heap.size ≤ w'.heap.size) : GhOk w' g := fun b hb => h b (Nat.le_trans hs hb)
theorem GhOk.im {w : World} {g : Gh} (h : GhOk w g) : NewI w (ImG g) := h
theorem Ex.of_no {p : List Nat} {w w' : World} {g : Gh} (hok : GhOk w g) (f : Fr no w w') : Ex p w g w' g :=
  ⟨f.of_no, fun _ _ => rfl, hok.mono f.size⟩
theorem Ex.refl {p : List Nat} {w : World} {g : Gh} (hok : GhOk w g) : Ex p w g w g := Ex.of_no hok (Fr.refl _ _)
theorem Ex.trans {p : List Nat} {w w1 w2 : World} {g g1 g2 : Gh} (h : Ex p w g w1 g1) (k : Ex p w1 g1 w2 g2) : Ex p w g w2 g2 := by
  refine ⟨h.fr.trans' k.fr (fun b hb hu => ?_), fun b hb => ?_, k.ok⟩
  · unfold Un at hu ⊢; rw [← h.old b hb]; exact hu
  · rw [k.old b (Nat.lt_of_lt_of_le hb h.fr.size), h.old b hb]
theorem Ex.up {p q : List Nat} {w w' : World} {g g' : Gh} (h : Ex p w g w' g') (hq : q <+: p) : Ex q w g w' g' :=
  ⟨h.fr.mono fun b _ hu => hq.trans hu, h.old, h.ok⟩
/-- One block of its own was written. -/
theorem Ex.pt {p : List Nat} {w w' : World} {g : Gh} {b : Nat} {cs : List Value} (hok : GhOk w g) (h : Pt w b cs w') (hb : p <+: g b) : Ex p w g w' g :=
  ⟨h.fr.mono fun x _ hx => by unfold one at hx; subst hx; exact hb, fun _ _ => rfl, hok.mono (by rw [h.size]; exact Nat.le_refl _)⟩
theorem Ex.size {p : List Nat} {w w' : World} {g g' : Gh} (h : Ex p w g w' g') : w.heap.size ≤ w'.heap.size := h.fr.size
theorem un_not {p : List Nat} {g : Gh} {b : Nat} (hp : p ≠ []) (h : g b = []) : ¬ Un p g b := by unfold Un; rw [h]; simpa using hp
theorem im_un {p : List Nat} {g : Gh} (hp : p ≠ []) : ∀ b, ImG g b → ¬ Un p g b := fun _ h => un_not hp h
/-- What nobody changes goes on. -/
theorem Ex.imm {p : List Nat} {w w' : World} {g g' : Gh} (h : Ex p w g w' g') : ∀ b, b < w.heap.size → ImG g b → ImG g' b := fun b hb hi => by unfold ImG at *; rw [h.old b hb]; exact hi
theorem SlI.gx {p : List Nat} {w w' : World} {g g' : Gh} {k n : Nat} {v : Value} {cells : List Value} (s : SlI w (ImG g) k v n cells) (hp : p ≠ []) (h : Ex p w g w' g') : SlI w' (ImG g') k v n cells :=
  ((s.im (Im' := fun b => g b = [] ∧ b < w.heap.size) fun b hb hi => ⟨hi, hb⟩).keep h.fr fun b hi => un_not hp hi.1).im fun b _ hi => h.imm b hi.2 hi.1
theorem MapI.gx {p : List Nat} {w w' : World} {g g' : Gh} {k : Nat} {v : Value} {m : Mp (List Value)} (s : MapI w (ImG g) k v m) (hp : p ≠ []) (h : Ex p w g w' g') : MapI w' (ImG g') k v m := by
  obtain ⟨ks, vs, rfl, hk, hv, r⟩ := s; exact ⟨ks, vs, rfl, hk.gx hp h, hv.gx hp h, r⟩
theorem BookI.gx {p : List Nat} {w w' : World} {g g' : Gh} {v : Value} {b : Book} (s : BookI w (ImG g) v b) (hp : p ≠ []) (h : Ex p w g w' g') : BookI w' (ImG g') v b :=
  ((s.im (Im' := fun b => g b = [] ∧ b < w.heap.size) fun b hb hi => ⟨hi, hb⟩).keep h.fr fun b hi => un_not hp hi.1).im fun b _ hi => h.imm b hi.2 hi.1
theorem OpI.gx {p : List Nat} {w w' : World} {g g' : Gh} {v : Value} {x : OpP} (s : OpI w (ImG g) v x) (hp : p ≠ []) (h : Ex p w g w' g') : OpI w' (ImG g') v x :=
  ((s.im (Im' := fun b => g b = [] ∧ b < w.heap.size) fun b hb hi => ⟨hi, hb⟩).keep h.fr fun b hi => un_not hp hi.1).im fun b _ hi => h.imm b hi.2 hi.1
/-- A block of another owner. -/
theorem Ex.own {p : List Nat} {w w' : World} {g g' : Gh} (h : Ex p w g w' g') {b : Nat} {cs : List Value} (ho : Dm.own w b = some cs) (hb : ¬ p <+: g b) : Dm.own w' b = some cs ∧ g' b = g b :=
  ⟨h.fr.own ho hb, h.old b (own_lt ho)⟩
theorem apart_i {q p : List Nat} (h1 : ¬ q <+: p) (h2 : ¬ p <+: q) : Apart q p := fun s h => (List.prefix_or_prefix_of_prefix h (List.prefix_append p s)).elim h1 h2
theorem Apart.self {q p : List Nat} (h : Apart q p) : ¬ q <+: p := by have := h []; rwa [List.append_nil] at this
theorem Apart.sub {q p : List Nat} (h : Apart q p) (s : List Nat) : Apart q (p ++ s) := fun t ht => h (s ++ t) (by rw [← List.append_assoc]; exact ht)
theorem apart_idx {p : List Nat} {i j : Nat} (h : i ≠ j) : Apart (p ++ [i]) (p ++ [j]) := fun s hh => by
  rw [List.append_assoc, List.prefix_append_right_inj] at hh
  simp at hh; exact h hh
theorem not_child (p : List Nat) (i : Nat) : ¬ p ++ [i] <+: p := fun h => by have := h.length_le; simp at this; omega

/-! ### Queues -/
def RingR (w : World) (g : Gh) (p : List Nat) (b : Nat) (r : Rng) : Prop :=
  g b = p ∧ ∃ sl ob, own w b = some [.int .i64 r.room, sl, .bool r.lost] ∧ SlO w 8 152 sl r.l.length (r.l.flatMap Evt.cells) ob ∧ (∀ o, ob = some o → g o = p ++ [0]) ∧ r.room < 2^30 ∧ r.l.length ≤ r.room
theorem RingR.gx {p q : List Nat} {w w' : World} {g g' : Gh} {b : Nat} {r : Rng} (h : RingR w g p b r) (e : Ex q w g w' g') (ha : Apart q p) : RingR w' g' p b r := by
  obtain ⟨hb, sl, ob, ho, hs, hob, hr⟩ := h
  obtain ⟨o1, o2⟩ := e.own ho (by rw [hb]; exact ha.self)
  refine ⟨by rw [o2]; exact hb, sl, ob, o1, hs.keep e.fr (fun o hh hu => ha [0] (by have := hob o hh; unfold Un at hu; rw [this] at hu; exact hu)), fun o hh => ?_, hr⟩
  rw [e.old o (hs.lt o hh)]; exact hob o hh
theorem RingR.no {p : List Nat} {w w' : World} {g : Gh} {b : Nat} {r : Rng} (h : RingR w g p b r) (f : Fr no w w') : RingR w' g p b r := by
  obtain ⟨hb, sl, ob, ho, hs, hob, hr⟩ := h
  exact ⟨hb, sl, ob, f.own ho id, hs.keep f (fun _ _ => no_not _), hob, hr⟩

/-! Boxes of an owner of their own. -/
structure Bx (p q : List Nat) (w : World) (g : Gh) (X : Nat → Prop) (u : World) (g' : Gh) : Prop where
  ex : Ex p w g u g'
  bx : ∀ b, X b → w.heap.size ≤ b ∧ b < u.heap.size ∧ g' b = q
theorem Bx.start {p q : List Nat} {w : World} {g : Gh} (h : GhOk w g) : Bx p q w g Dm.no w g := ⟨Ex.refl h, fun _ h => h.elim⟩
theorem Bx.sy {p q : List Nat} {w u u' : World} {g g' : Gh} {X X' : Nat → Prop} (h : Bx p q w g X u g') (y : Sy u X u' X') : ∃ g'', Bx p q w g X' u' g'' ∧ Ex q u g' u' g'' := by
  classical
  refine ⟨fun b => if X' b then q else g' b, ⟨⟨h.ex.fr.trans' y.fr (fun b hb hx => by have := (h.bx b hx).1; omega), fun b hb => ?_, fun b hb => ?_⟩, fun b hb => ?_⟩, ⟨y.fr.mono fun b _ hx => ?_, fun b hb => ?_, fun b hb => ?_⟩⟩
  · have : ¬ X' b := fun hx => by
      have h1 := h.ex.size
      rcases y.sub b hx with h2 | h2
      · have := (h.bx b h2).1; omega
      · omega
    simp only [if_neg this]; exact h.ex.old b hb
  · have : ¬ X' b := fun hx => by have := y.lt b hx; omega
    simp only [if_neg this]; exact h.ex.ok b (by have := y.fr.size; omega)
  · refine ⟨?_, y.lt b hb, by simp only [if_pos hb]⟩
    rcases y.sub b hb with h2 | h2
    · exact (h.bx b h2).1
    · exact Nat.le_trans h.ex.size h2
  · unfold Un; rw [(h.bx b hx).2.2]; exact List.prefix_refl q
  · split
    · rename_i hx
      rcases y.sub b hx with h2 | h2
      · exact (h.bx b h2).2.2.symm
      · omega
    · rfl
  · have : ¬ X' b := fun hx => by have := y.lt b hx; omega
    simp only [if_neg this]; exact h.ex.ok b (by have := y.fr.size; omega)
theorem Bx.step {p q p' : List Nat} {w u u' : World} {g g' g'' : Gh} {X : Nat → Prop} (h : Bx p q w g X u g') (k : Ex p' u g' u' g'') (hp : p <+: p') : Bx p q w g X u' g'' :=
  ⟨h.ex.trans (k.up hp), fun b hb => ⟨(h.bx b hb).1, Nat.lt_of_lt_of_le (h.bx b hb).2.1 k.size, by rw [k.old b (h.bx b hb).2.1]; exact (h.bx b hb).2.2⟩⟩
theorem Bx.kp {p q p' : List Nat} {w u u' : World} {g g' g'' : Gh} {X : Nat → Prop} (h : Bx p q w g X u g') (k : Ex p' u g' u' g'') (hp : p <+: p') (hq : ¬ p <+: q) : Dm.kp X u u' :=
  kp_fr k.fr (fun b hb => (h.bx b hb).2.1) fun b hb hu => by unfold Un at hu; rw [(h.bx b hb).2.2] at hu; exact hq (hp.trans hu)
theorem Bx.no {p q : List Nat} {w u u' : World} {g g' : Gh} {X : Nat → Prop} (h : Bx p q w g X u g') (k : Fr Dm.no u u') : Bx p q w g X u' g' ∧ Dm.kp X u u' :=
  ⟨h.step (Ex.of_no h.ex.ok k) (List.prefix_refl p), kp_no k fun b hb => (h.bx b hb).2.1⟩
/-- An owner beside. -/
def beside (p : List Nat) : List Nat := [p.headD 0 + 1]
theorem beside_ne (p : List Nat) : beside p ≠ [] := by simp [beside]
theorem beside_apart {p : List Nat} (hp : p ≠ []) : Apart (beside p) p := fun s h => by
  match p, hp with
  | a :: p, _ => simp [beside] at h
theorem beside_not {p : List Nat} (hp : p ≠ []) : ¬ p <+: beside p := fun h => by
  match p, hp with
  | a :: p, _ => simp [beside] at h

theorem evt_ok (x : Evt) : okB true 8 x.v = true := rfl
theorem c296 {w : World} {g : Gh} {p : List Nat} {b : Nat} {r : Rng} {x : Evt} (hr : RingR w g p b r) (hok : GhOk w g) (hp : p ≠ [])
    (h : ∀ w' g', RingR w' g' p b (r.put x).1 → Ex p w g w' g' → R (.bool (r.put x).2) w') : CallsR Tryz.prog 296 #[.pointer (some ⟨b, 0, none⟩), x.v] w R := by
  apply sh296; unfold S296
  obtain ⟨hb, sl, ob, ho, hs, hob, hroom, hle⟩ := hr
  refine ⟨evt_ok x, ?_⟩
  intro w1 X1 y1
  have hblt := own_lt ho
  have hXg : ∀ c, X1 c → g c = [] := fun c hc => hok c (y1.ge c hc)
  have hXb : ∀ c, X1 c → ¬ c = b := fun c hc hh => by have := y1.ge c hc; omega
  have o1 : own (drewW w1) b = some [.int .i64 r.room, sl, .bool r.lost] := y1.frno.own ho id
  have s1 : SlO (drewW w1) 8 152 sl r.l.length (r.l.flatMap Evt.cells) ob := hs.keep (y1.frno.trans (drewW_fr _ _)) (fun _ _ => no_not _)
  have f1 : Fr no w (drewW w1) := y1.frno.trans (drewW_fr _ _)
  have l1 : ∀ c, X1 c → c < (drewW w1).heap.size := y1.lt
  generalize drewW w1 = u1 at o1 s1 f1 l1 ⊢
  refine pv_i rfl ?_
  refine pv_i (v := .pointer (some ⟨b, 1, none⟩)) rfl ?_
  refine pv_i rfl ?_
  refine pv_i (v := .pointer (some ⟨b, 0, none⟩)) rfl ?_
  refine ld_i o1 rfl ?_
  refine pv_i s1.lenV ?_
  refine ld_i o1 rfl ?_
  refine pv_i geq_i ?_
  unfold Rng.put at h
  by_cases hf : r.room ≤ r.l.length
  · rw [decide_eq_true (by omega), condC_t]
    rw [if_pos hf] at h
    refine pv_i rfl ?_
    refine pv_i (v := .pointer (some ⟨b, 2, none⟩)) rfl ?_
    refine st_i (ds := [.int .i64 r.room, sl, .bool true]) o1 (by simp) rfl rfl rfl fun w3 p3 => ?_
    refine ⟨kp_fr p3.fr l1 hXb, ?_⟩
    have e1 : Ex p w g w3 g := (Ex.of_no hok f1).trans (Ex.pt (hok.mono f1.size) p3 (by rw [hb]; exact List.prefix_refl p))
    refine h w3 g ⟨hb, sl, ob, p3.own, s1.keep p3.fr (fun o hh hx => ?_), hob, hroom, hle⟩ e1
    unfold one at hx; subst hx
    have := hob o hh; rw [hb] at this; have := congrArg List.length this; simp at this
  · rw [decide_eq_false (by omega), condC_f]
    rw [if_neg hf] at h
    refine pv_i rfl ?_
    refine pv_i (v := .pointer (some ⟨b, 1, none⟩)) rfl ?_
    have o2 : own (drewW u1) b = some [.int .i64 r.room, sl, .bool r.lost] := o1
    have s2 : SlO (drewW u1) 8 152 sl r.l.length (r.l.flatMap Evt.cells) ob := s1.keep (drewW_fr no _) (fun _ _ => no_not _)
    have f2 : Fr no w (drewW u1) := f1.trans (drewW_fr _ _)
    have l2 : ∀ c, X1 c → c < (drewW u1).heap.size := l1
    generalize drewW u1 = u2 at o2 s2 f2 l2 ⊢
    refine ld_i o2 rfl ?_
    refine ⟨x.cells, rfl, ?_⟩
    have n3 := newB_nw u2 x.cells 152
    revert n3
    generalize newB u2 x.cells 152 = u3
    intro n3
    have o3 := n3.fr.own o2 id
    have s3 := s2.keep n3.fr (fun _ _ => no_not _)
    refine ⟨⟨b, 1, _, rfl, own_blk o3, rfl⟩, ?_⟩
    have hrow : Row u3 (some ⟨u2.heap.size, 0, none⟩) (1 * 8) x.cells := ⟨rfl, .inr ⟨u2.heap.size, 0, x.cells, rfl, own_blk n3.own, (by exact Nat.le_refl 8), rfl⟩⟩
    refine ap_o s3 hrow rfl (by decide) (by omega) rfl fun v4 u4 ob4 s4 f4 hob4 => ?_
    have l3 : ∀ c, X1 c → c < u3.heap.size := fun c hc => Nat.lt_of_lt_of_le (l2 c hc) n3.fr.size
    have hXo : ∀ c, X1 c → ¬ ob = some c := fun c hc hh => by have := hob c hh; rw [hXg c hc] at this; simp at this
    refine ⟨kp_fr f4 l3 hXo, ?_⟩
    refine pv_i rfl ?_
    refine pv_i (v := .pointer (some ⟨b, 1, none⟩)) rfl ?_
    have hbo : ¬ ob = some b := fun hh => by have := hob b hh; rw [hb] at this; have := congrArg List.length this; simp at this
    have o4 := f4.own o3 hbo
    refine st_i (ds := [.int .i64 r.room, v4, .bool r.lost]) o4 (by simp) (by rw [cells_one s4.one]; rfl) (by rw [cells_one s4.one]; simpa using s4.one) (by rw [cells_one s4.one]; rfl) fun u5 p5 => ?_
    refine ⟨kp_fr p5.fr (fun c hc => Nat.lt_of_lt_of_le (l3 c hc) f4.size) hXb, ?_⟩
    have hs2 := f2.size; have hs3 := n3.size; have hs4 := f4.size; have hs5 := p5.size
    have hob4' : ∀ o, ob4 = some o → (ob = some o ∧ o < w.heap.size) ∨ w.heap.size ≤ o := fun o hh => by
      rcases hob4 o hh with h1 | h1
      · exact .inl ⟨h1, hs.lt o h1⟩
      · exact .inr (by omega)
    have e5 : Ex p w g u5 (fun c => if ob4 = some c then p ++ [0] else g c) := by
      refine ⟨?_, fun c hc => ?_, fun c hc => ?_⟩
      · refine ((f2.trans n3.fr).of_no.trans' f4 fun c hc hh => ?_).trans' p5.fr fun c hc hh => ?_
        · unfold Un; rw [hob c hh]; exact List.prefix_append _ _
        · unfold one at hh; subst hh; unfold Un; rw [hb]; exact List.prefix_refl p
      · split
        · rename_i hh
          rcases hob4' c hh with ⟨h1, _⟩ | h1
          · exact (hob c h1).symm
          · omega
        · rfl
      · split
        · rename_i hh; have := s4.lt c hh; omega
        · exact hok c (by omega)
    have hb4 : ¬ ob4 = some b := fun hh => by
      rcases hob4' b hh with ⟨h1, _⟩ | h1
      · exact hbo h1
      · omega
    refine h u5 _ ⟨by rw [if_neg hb4]; exact hb, v4, ob4, p5.own, ?_, fun o hh => by rw [if_pos hh], hroom, by simp; omega⟩ e5
    have s5 := s4.keep p5.fr (fun o hh hx => by unfold one at hx; subst hx; exact hb4 hh)
    rw [List.length_append, List.flatMap_append]
    simpa using s5
end Go.Dm
/-! Queues emptied; feeds. -/
namespace Go.Dm
open Go Go.Proofs
variable {w : World} {R : Value → World → Prop}

theorem c361 {v : Value} (h : ∀ b w', Nw w b v.cells.toList 317 w' → R (.func (.func 392) #[] #[.pointer (some ⟨b, 0, none⟩)]) w') : CallsR Tryz.prog 361 #[v] w R := by
  apply sh361; unfold S361
  exact al_i fun b w' n => h b w' n

theorem c392 {bl b : Nat} {lv y : Value} {l : List Evt} (I : Nat → (Nat → Prop) → World → Prop) (Z : World → Prop)
    (hr : ∀ i Y W, I i Y W → blk W bl = some [.pointer (some ⟨b, 0, none⟩)] ∧ (∃ cs, blk W b = some cs ∧ cs[1]? = some lv) ∧ SlI W (fun _ => True) 8 lv l.length (l.flatMap Evt.cells))
    (hn : l.length < 2^61) (hst : ∀ i Y W W' Y', I i Y W → Sy W Y W' Y' → I i Y' W') (h0 : I 0 no w)
    (hy : ∀ i Y W s K, I i Y W → l[i]? = some s → (∀ b, Y b → b < W.heap.size) → (∀ W', I (i + 1) Y W' → kp Y W W' → K (.bool true) W') → (∀ W', Z W' → kp Y W W' → K (.bool false) W') → dyC Tryz.prog y #[s.v] W K)
    (hend : ∀ Y W, I l.length Y W → R (.tuple #[]) W) (hx : ∀ W, Z W → R (.tuple #[]) W) : CallsR Tryz.prog 392 #[y, .pointer (some ⟨bl, 0, none⟩)] w R := by
  apply sh392; unfold S392
  obtain ⟨hbl, ⟨cs, hcs, hc1⟩, hl⟩ := hr 0 no w h0
  refine ld_b hbl rfl ?_
  refine pv_i rfl ?_
  refine pv_i (v := .pointer (some ⟨b, 1, none⟩)) rfl ?_
  refine ld_b hcs hc1 ?_
  refine pv_i hl.lenV ?_
  refine lp_c (fun d e u X => ∃ i : Nat, d = l.length - i ∧ i ≤ l.length ∧ I i X u ∧ (∀ b, X b → b < u.heap.size) ∧ e 0 = y ∧ e 8 = lv ∧ e 9 = .int .i64 l.length ∧ e 10 = .int .i64 (i : Nat)) l.length
    ⟨0, by omega, by omega, h0, (fun b hb => hb.elim), rfl, rfl, rfl, rfl⟩ ?_
  rintro d e u X N ⟨i, rfl, hi, hI, hXl, e0', e8, e9, e10⟩ hN
  obtain ⟨_, _, hl⟩ := hr _ _ u hI
  simp only [e0', e8, e9, e10, lss_i, pv_some, condC_b, decide_eq_true_eq]
  split
  · rename_i hlt
    have hlt : i < l.length := by omega
    obtain ⟨s, hs⟩ : ∃ s, l[i]? = some s := ⟨_, List.getElem?_eq_getElem hlt⟩
    obtain ⟨p, hp, hld⟩ := hl.at (kd := .i64) evt_len hs
    refine pv_i hp ?_
    refine hld _ ?_
    refine ⟨rfl, ?_⟩
    intro u1 X1 y1
    have hI1 := hst _ _ _ _ _ hI y1
    refine hy _ _ _ _ _ hI1 hs y1.lt (fun W' hI' hkp => ?_) (fun W' hZ hkp => ?_)
    · refine ⟨hkp, ?_⟩
      refine pv_i (not_b _) ?_
      rw [Bool.not_true, condC_f]
      refine pv_i (add1 (by omega)) ?_
      refine hN _ _ _ _ (by omega) ⟨i + 1, rfl, by omega, hI', ?_, rfl, rfl, rfl, rfl⟩
      intro b hb
      have h1 := y1.lt b hb
      have h2 := hkp b hb
      rcases Nat.lt_or_ge b W'.heap.size with h3 | h3
      · exact h3
      · rw [Array.getElem?_eq_none h3, Array.getElem?_eq_getElem h1] at h2; cases h2
    · refine ⟨hkp, ?_⟩
      refine pv_i (not_b _) ?_
      rw [Bool.not_false, condC_t]
      exact hx W' hZ
  · have : i = l.length := by omega
    subst this
    exact hend X u hI

theorem c297 {g : Gh} {p : List Nat} {b : Nat} {r : Rng} (hr : RingR w g p b r) (hok : GhOk w g) (hp : p ≠ [])
    (h : ∀ v w', RingR w' g p b r.drain → SlI w' (ImG g) 8 v r.l.length (r.l.flatMap Evt.cells) → Ex p w g w' g → R (.tuple #[v, .bool r.lost]) w') : CallsR Tryz.prog 297 #[.pointer (some ⟨b, 0, none⟩)] w R := by
  apply sh297; unfold S297
  obtain ⟨hb, sl, ob, ho, hs, hob, hroom, hle⟩ := hr
  have hblt := own_lt ho
  refine al_i fun b4 w1 n1 => ?_
  refine c361 fun bl w2 n2 => ?_
  have e1 := n1.eq; have z1 := n1.size; have e2 := n2.eq; have z2 := n2.size
  refine ⟨ent392, fun w6 L rr hin hy => ?_⟩
  have eL := hin.eq; have z6 := hin.size
  have f6 : Fr no w w6 := (n1.fr.trans n2.fr).trans hin.fr
  have o4 : own w6 b4 = some [.slice none 0 0] := hin.fr.own (n2.fr.own n1.own id) id
  have ol : own w6 bl = some [.pointer (some ⟨b, 0, none⟩)] := hin.fr.own n2.own id
  show CallsR Tryz.prog 392 #[.func (.yield L) #[] #[], .pointer (some ⟨bl, 0, none⟩)] w6 _
  refine c392 (lv := sl) (l := r.l) (b := b) (fun j Y W => ∃ sv oj, own W b4 = some [sv] ∧ SlO W 8 152 sv j ((r.l.take j).flatMap Evt.cells) oj ∧ (∀ o, oj = some o → w6.heap.size ≤ o ∧ ¬ Y o) ∧ Fr no w W ∧
      own W bl = some [.pointer (some ⟨b, 0, none⟩)] ∧ W.heap[L]? = some (.loop rr) ∧ W.heap[w2.heap.size]? = some (.deferred (some [])) ∧ w6.heap.size ≤ W.heap.size ∧ ∀ b, Y b → w6.heap.size ≤ b) (fun _ => False)
    ?_ (by omega) ?_ ?_ ?_ ?_ (fun W hW => hW.elim)
  · rintro j Y W ⟨sv, oj, q4, qs, qo, fW, ql, qL, qD, hz, hY⟩
    exact ⟨own_blk ql, ⟨_, own_blk (fW.own ho id), rfl⟩, (hs.keep fW (fun _ _ => no_not _)).imm⟩
  · rintro j Y W W' Y' ⟨sv, oj, q4, qs, qo, fW, ql, qL, qD, hz, hY⟩ sy
    have nY : ∀ b, b < w6.heap.size → ¬ Y b := fun b hb hh => by have := hY b hh; omega
    refine ⟨sv, oj, sy.fr.own q4 (nY _ (by omega)), qs.keep sy.fr (fun o hh => (qo o hh).2), fun o hh => ⟨(qo o hh).1, fun hy' => ?_⟩, fW.trans' sy.fr (fun b hb hh => by have := hY b hh; have := f6.size; omega), sy.fr.own ql (nY _ (by omega)), sy.fr.at qL (nY _ (by omega)), sy.fr.at qD (nY _ (by omega)), by have := sy.fr.size; omega, fun b hb => ?_⟩
    · rcases sy.sub o hy' with h1 | h1
      · exact (qo o hh).2 h1
      · have := qs.lt o hh; omega
    · rcases sy.sub b hb with hh | hh
      · exact hY b hh
      · omega
  · exact ⟨.slice none 0 0, none, o4, by simpa using SlO.nil w6 8 152, (fun o hh => by cases hh), f6, ol, hin.rec_, hin.mark, Nat.le_refl _, fun b hb => hb.elim⟩
  · rintro j Y W s K ⟨sv, oj, q4, qs, qo, fW, ql, qL, qD, hz, hY⟩ hsj hYl hK hZ
    have hj : j < r.l.length := by
      rcases Nat.lt_or_ge j r.l.length with hh | hh
      · exact hh
      · rw [List.getElem?_eq_none hh] at hsj; cases hsj
    refine hy (fun _ => s.v) W K qL ?_
    have qLt := heap_lt qL; have qDt := heap_lt qD
    refine al_i fun b7 W1 m1 => ?_
    have g1 := m1.eq; have y1 := m1.size
    refine st_i (ds := s.cells) m1.own (by exact Nat.le_refl 8) rfl rfl rfl fun W2 m2 => ?_
    have y2 := m2.size
    have qL2 : W2.heap[L]? = some (.loop rr) := m2.at (m1.fr.at qL id) (by omega)
    refine ⟨qL2, ?_⟩
    have tr : ∀ {b : Nat} {cs : List Value}, own W b = some cs → b ≠ L → own (W2.putObj L (.loop (lpBusy rr))) b = some cs := fun {b cs} ho hne => by
      rw [own_putObj hne]; exact m2.oth (m1.fr.own ho id) (by have := own_lt ho; omega)
    have r4 := tr q4 (by omega); have rl := tr ql (by omega)
    have r7 : own (W2.putObj L (.loop (lpBusy rr))) b7 = some s.cells := by rw [own_putObj (by omega)]; exact m2.own
    have rL : (W2.putObj L (.loop (lpBusy rr))).heap[L]? = some (.loop (lpBusy rr)) := putObj_at qL2
    have rD : (W2.putObj L (.loop (lpBusy rr))).heap[w2.heap.size]? = some (.deferred (some [])) := by rw [World.putObj_heap_other (by omega)]; exact m2.at (m1.fr.at qD id) (by omega)
    have fW3 : Fr no w (W2.putObj L (.loop (lpBusy rr))) := ((fW.trans m1.fr).own1 m2.fr (by have := fW.size; omega)).putObj (by omega)
    have kW3 : kp Y W (W2.putObj L (.loop (lpBusy rr))) := fun b hb => by
      have h1 := hY b hb; have h2 := hYl b hb
      rw [World.putObj_heap_other (by omega)]
      exact (m2.fr.keep b (by omega) (fun hh => by unfold one at hh; omega)).trans (m1.fr.keep b h2 id)
    have rs : SlO (W2.putObj L (.loop (lpBusy rr))) 8 152 sv j ((r.l.take j).flatMap Evt.cells) oj := by
      have a1 := (qs.keep m1.fr (fun _ _ => no_not _)).keep m2.fr (fun o hh hx => by unfold one at hx; have := qs.lt o hh; omega)
      exact a1.keep putObj_fr (fun o hh hx => by unfold one at hx; have := (qo o hh).1; omega)
    have z3' : (W2.putObj L (.loop (lpBusy rr))).heap.size = W.heap.size + 1 := by rw [World.putObj_size]; omega
    revert r4 rl r7 rL rD fW3 kW3 z3' rs
    generalize W2.putObj L (.loop (lpBusy rr)) = W3
    intro r4 rl r7 rL rD fW3 kW3 rs z3'
    refine ld_i r4 rfl ?_
    refine la_i r7 (by exact Nat.le_refl 8) rfl ?_
    refine ⟨s.cells, rfl, ?_⟩
    have n4 := newB_nw W3 s.cells 152
    revert n4
    generalize newB W3 s.cells 152 = W4
    intro n4
    have z4 := n4.size
    have rs4 := rs.keep n4.fr (fun _ _ => no_not _)
    have hrow : Row W4 (some ⟨W3.heap.size, 0, none⟩) (1 * 8) s.cells := ⟨rfl, .inr ⟨W3.heap.size, 0, s.cells, rfl, own_blk n4.own, (by exact Nat.le_refl 8), rfl⟩⟩
    refine ap_o rs4 hrow rfl (by decide) (by omega) rfl fun v5 W5 o5 s5 f5 hob5 => ?_
    have hno : ∀ c, c < w6.heap.size → ¬ oj = some c := fun c hc hh => by have := (qo c hh).1; omega
    have t4 := f5.own (n4.fr.own r4 id) (hno _ (by omega))
    refine st_i (ds := [v5]) t4 (by simp) (by rw [cells_one s5.one]; rfl) (by rw [cells_one s5.one]; simpa using s5.one) (by rw [cells_one s5.one]; rfl) fun W6 p6 => ?_
    have z5 := f5.size; have z6' := p6.size
    have tL : W6.heap[L]? = some (.loop (lpBusy rr)) := p6.at (f5.at (n4.fr.at rL id) (hno _ (by omega))) (by omega)
    refine ⟨tL, ?_⟩
    have hob5' : ∀ o, o5 = some o → w6.heap.size ≤ o ∧ ¬ Y o ∧ o ≠ b4 ∧ o ≠ L := fun o hh => by
      rcases hob5 o hh with h1 | h1
      · have := qo o h1; exact ⟨this.1, this.2, by omega, by omega⟩
      · exact ⟨by omega, fun hyo => by have := hYl o hyo; omega, by omega, by omega⟩
    have hf : ∀ {c : Nat} {cs : List Value}, own W3 c = some cs → c < w6.heap.size → c ≠ b4 → c ≠ L → own (W6.putObj L (.loop rr)) c = some cs := fun {c cs} ho hc h1 h2 => by
      rw [own_putObj h2]; exact p6.oth (f5.own (n4.fr.own ho id) (hno _ hc)) h1
    have htk : (r.l.take (j + 1)).flatMap Evt.cells = (r.l.take j).flatMap Evt.cells ++ s.cells := by
      rw [List.take_succ_eq_append_getElem hj, List.flatMap_append]
      rw [List.getElem?_eq_getElem hj] at hsj
      rw [Option.some.inj hsj]; simp
    have fin6 : Fr no w W6 := ((fW3.trans n4.fr).trans' f5 (fun c hc hh => by have := (qo c hh).1; have := f6.size; omega)).own1 p6.fr (by have := f6.size; omega)
    refine hK _ ⟨v5, o5, ?_, ?_, fun o hh => ⟨(hob5' o hh).1, (hob5' o hh).2.1⟩, fin6.putObj (by omega), hf rl (by omega) (by omega) (by omega), putObj_at tL, ?_, ?_, hY⟩ ?_
    · rw [own_putObj (by omega)]; exact p6.own
    · rw [htk]
      have a1 := s5.keep p6.fr (fun o hh hx => by unfold one at hx; exact (hob5' o hh).2.2.1 hx)
      exact a1.keep putObj_fr (fun o hh hx => by unfold one at hx; exact (hob5' o hh).2.2.2 hx)
    · rw [World.putObj_heap_other (by omega)]; exact p6.at (f5.at (n4.fr.at rD id) (hno _ (by omega))) (by omega)
    · rw [World.putObj_size]; omega
    · intro c hc
      have h1 := hY c hc; have h2 := hYl c hc
      rw [World.putObj_heap_other (by omega), p6.fr.keep c (by omega) (fun hh => by unfold one at hh; omega), f5.keep c (by omega) (fun hh => (qo c hh).2 hc), n4.fr.keep c (by omega) id]
      exact kW3 c hc
  · rintro Y W ⟨sv, oj, q4, qs, qo, fW, ql, qL, qD, hz, hY⟩
    rw [List.take_length] at qs
    refine .inl ⟨qL, ?_⟩
    have qLt := heap_lt qL; have qDt := heap_lt qD
    have fU : Fr no w (W.putObj L (.loop (lpOut rr))) := fW.putObj (by omega)
    have u4 : own (W.putObj L (.loop (lpOut rr))) b4 = _ := (own_putObj (by omega)).trans q4
    have uD : (W.putObj L (.loop (lpOut rr))).heap[w2.heap.size]? = some (.deferred (some [])) := by rw [World.putObj_heap_other (by omega)]; exact qD
    have us := qs.keep (putObj_fr (L := L) (o := .loop (lpOut rr))) (fun o hh hx => by unfold one at hx; have := (qo o hh).1; omega)
    have uz : (W.putObj L (.loop (lpOut rr))).heap.size = W.heap.size := World.putObj_size
    revert fU u4 uD us uz
    generalize W.putObj L (.loop (lpOut rr)) = U
    intro fU u4 uD us uz
    have ub := fU.own ho id
    rw [rfQ_n]
    refine pv_i rfl ?_
    refine pv_i (v := .pointer (some ⟨b, 2, none⟩)) rfl ?_
    refine ld_i ub rfl ?_
    refine pv_i rfl ?_
    refine pv_i (v := .pointer (some ⟨b, 1, none⟩)) rfl ?_
    refine st_i (ds := [.int .i64 r.room, .slice none 0 0, .bool r.lost]) ub (by simp) rfl rfl rfl fun U1 p1 => ?_
    refine pv_i rfl ?_
    refine pv_i (v := .pointer (some ⟨b, 2, none⟩)) rfl ?_
    refine st_i (ds := [.int .i64 r.room, .slice none 0 0, .bool false]) p1.own (by simp) rfl rfl rfl fun U2 p2 => ?_
    have zz1 := p1.size; have zz2 := p2.size; have zf := f6.size
    refine ld_i (p2.oth (p1.oth u4 (by omega)) (by omega)) rfl ?_
    refine ⟨p2.at (p1.at uD (by omega)) (by omega), ?_⟩
    have hgo : ∀ o, oj = some o → g o = [] := fun o hh => hok o (by have := (qo o hh).1; omega)
    have e3 : Ex p w g (U2.putObj w2.heap.size (.deferred none)) g := by
      have a := ((Ex.of_no hok fU).trans (Ex.pt (hok.mono fU.size) p1 (by rw [hb]; exact List.prefix_refl p))).trans (Ex.pt (hok.mono (by rw [zz1]; exact fU.size)) p2 (by rw [hb]; exact List.prefix_refl p))
      exact ⟨a.fr.putObj (L := w2.heap.size) (by omega), a.old, a.ok.mono (by rw [World.putObj_size]; exact Nat.le_refl _)⟩
    refine h sv _ ⟨hb, .slice none 0 0, none, ?_, ?_, (fun o hh => by cases hh), hroom, Nat.zero_le _⟩ ?_ e3
    · rw [own_putObj (by omega)]; exact p2.own
    · exact SlO.nil ..
    · have a1 := (us.keep p1.fr (fun o hh hx => by unfold one at hx; have := (qo o hh).1; omega)).keep p2.fr (fun o hh hx => by unfold one at hx; have := (qo o hh).1; omega)
      exact (a1.keep putObj_fr (fun o hh hx => by unfold one at hx; have := (qo o hh).1; omega)).toI hgo

theorem c244 {g : Gh} {p : List Nat} {n : Nat} (hok : GhOk w g) (hn : n < 2^30)
    (h : ∀ b w', w.heap.size = b → w'.heap.size = b + 1 → Fr no w w' → RingR w' (fun c => if c = b then p else g c) p b ⟨n, [], false⟩ → R (.pointer (some ⟨b, 0, none⟩)) w') : CallsR Tryz.prog 244 #[.int .i64 n] w R := by
  apply sh244; unfold S244
  refine pv_i (v := .int .i64 n) ?_ ?_
  · show (some (Value.int .i64 (if (0 : Int) > (n : Int) then 0 else (n : Int)))) = _
    rw [if_neg (by omega)]
  refine pv_i (v := .agg #[.int .i64 n, .slice none 0 0, .bool false]) rfl ?_
  refine al_i fun b w' nw => ?_
  exact h b w' nw.eq.symm (by rw [nw.size, nw.eq]) nw.fr ⟨by simp, .slice none 0 0, none, nw.own, SlO.nil .., (fun o hh => by cases hh), hn, Nat.zero_le _⟩
end Go.Dm
/-! Feeds. -/
namespace Go.Dm
open Go Go.Proofs
variable {w : World} {R : Value → World → Prop}

section
variable {α β : Type} (f : α → β)
def mMap (m : Mp α) : Mp β := m.map fun p => (p.1, f p.2)
theorem mGet_map : ∀ (m : Mp α) (k : ByteArray), mGet (mMap f m) k = (mGet m k).map f
  | [], _ => rfl
  | (a, x) :: m, k => by
    show mGet ((a, f x) :: mMap f m) k = _
    unfold mGet; split
    · rfl
    · exact mGet_map m k
theorem mWith_map : ∀ (m : Mp α) (k : ByteArray) (v : α), mWith (mMap f m) k (f v) = mMap f (mWith m k v)
  | [], _, _ => rfl
  | (a, x) :: m, k, v => by
    show mWith ((a, f x) :: mMap f m) k (f v) = _
    unfold mWith; split
    · rfl
    · split
      · rfl
      · show _ :: mWith (mMap f m) k (f v) = (a, f x) :: mMap f (mWith m k v)
        rw [mWith_map m k v]
theorem mWithout_map : ∀ (m : Mp α) (k : ByteArray), mWithout (mMap f m) k = mMap f (mWithout m k)
  | [], _ => rfl
  | (a, x) :: m, k => by
    show mWithout ((a, f x) :: mMap f m) k = _
    unfold mWithout; split
    · rfl
    · show (a, f x) :: mWithout (mMap f m) k = (a, f x) :: mMap f (mWithout m k)
      rw [mWithout_map m k]
end

/-! Masks -/
theorem bits_shr : ∀ (m : Fin 256) (i : Fin 8), ((m.val : Int)).fdiv (2 ^ (min (Int.toNat i.val) (IntKind.bits .u32))) = ((m.val / 2 ^ i.val : Nat) : Int) := by decide +kernel
theorem bits_and : ∀ (m : Fin 256), IntKind.wrap .u32 ((BitVec.ofInt (IntKind.bits .u32) (m.val : Int) &&& BitVec.ofInt (IntKind.bits .u32) 1).toNat) = ((m.val % 2 : Nat) : Int) := by decide +kernel
theorem bits_shl : ∀ (i : Fin 8), IntKind.wrap .u32 ((1 : Int) * 2 ^ (min (Int.toNat i.val) (IntKind.bits .u32))) = ((2 ^ i.val : Nat) : Int) := by decide +kernel
theorem bits_or : ∀ (m : Fin 256) (i : Fin 8), IntKind.wrap .u32 ((BitVec.ofInt (IntKind.bits .u32) (m.val : Int) ||| BitVec.ofInt (IntKind.bits .u32) ((2 ^ i.val : Nat) : Int)).toNat) = ((m.val ||| 2 ^ i.val : Nat) : Int) := by decide +kernel
theorem bits_not : ∀ (m : Fin 256) (i : Fin 8), IntKind.wrap .u32 ((BitVec.ofInt (IntKind.bits .u32) (m.val : Int) &&& ~~~ BitVec.ofInt (IntKind.bits .u32) ((2 ^ i.val : Nat) : Int)).toNat) = ((clearBit m.val i.val : Nat) : Int) := by decide +kernel
theorem or_lt : ∀ (m : Fin 256) (i : Fin 8), m.val ||| 2 ^ i.val < 256 := by decide +kernel
theorem clr_lt : ∀ (m : Fin 256) (i : Fin 8), clearBit m.val i.val < 256 := by decide +kernel
theorem test_eq : ∀ (m : Fin 256) (i : Fin 8), (decide (((m.val / 2 ^ i.val % 2 : Nat) : Int) = 1)) = m.val.testBit i.val := by decide +kernel

theorem shrM {m : Nat} {i : Int} (hm : m < 256) (h0 : 0 ≤ i) (hi : i < 8) : binV .shr (.int .u32 m) (.int .i64 i) = some (.int .u32 (m / 2 ^ i.toNat : Nat)) := by
  obtain ⟨i, rfl⟩ := Int.eq_ofNat_of_zero_le h0
  have := bits_shr ⟨m, hm⟩ ⟨i, by omega⟩
  show shiftV .shr .u32 m i = _
  unfold shiftV
  rw [if_neg (by omega)]
  simp only at this ⊢
  rw [this]; rfl
theorem andM {m : Nat} (hm : m < 256) : binV .and (.int .u32 m) (.int .u32 1) = some (.int .u32 (m % 2 : Nat)) := by
  show (if IntKind.u32 = IntKind.u32 then some (Value.int .u32 _) else none) = _
  rw [if_pos rfl]; exact congrArg (fun x => some (Value.int .u32 x)) (bits_and ⟨m, hm⟩)
theorem shlM {i : Int} (h0 : 0 ≤ i) (hi : i < 8) : binV .shl (.int .u32 1) (.int .i64 i) = some (.int .u32 (2 ^ i.toNat : Nat)) := by
  obtain ⟨i, rfl⟩ := Int.eq_ofNat_of_zero_le h0
  have := bits_shl ⟨i, by omega⟩
  show shiftV .shl .u32 1 i = _
  unfold shiftV
  rw [if_neg (by omega)]
  simp only at this ⊢
  rw [this]; rfl
theorem orM {m : Nat} {i : Nat} (hm : m < 256) (hi : i < 8) : binV .or (.int .u32 m) (.int .u32 (2 ^ i : Nat)) = some (.int .u32 (m ||| 2 ^ i : Nat)) := by
  show (if IntKind.u32 = IntKind.u32 then some (Value.int .u32 _) else none) = _
  rw [if_pos rfl]; exact congrArg (fun x => some (Value.int .u32 x)) (bits_or ⟨m, hm⟩ ⟨i, hi⟩)
theorem notM {m : Nat} {i : Nat} (hm : m < 256) (hi : i < 8) : binV .andNot (.int .u32 m) (.int .u32 (2 ^ i : Nat)) = some (.int .u32 (clearBit m i : Nat)) := by
  show (if IntKind.u32 = IntKind.u32 then some (Value.int .u32 _) else none) = _
  rw [if_pos rfl]; exact congrArg (fun x => some (Value.int .u32 x)) (bits_not ⟨m, hm⟩ ⟨i, hi⟩)

/-! ### Feeds -/
def u32c (n : Nat) : List Value := [.int .u32 n]
def FeedR (w : World) (g : Gh) (p : List Nat) (b : Nat) (f : Feed) : Prop :=
  g b = p ∧ ∃ ks vs, ∃ qbs : List Nat, own w b = some (ks :: vs :: qbs.map fun q => .pointer (some ⟨q, 0, none⟩)) ∧ MapI w (ImG g) 1 (.agg #[ks, vs]) (mMap u32c f.watches) ∧ qbs.length = 8 ∧ f.qs.length = 8 ∧
    (∀ i q r, qbs[i]? = some q → f.qs[i]? = some r → RingR w g (p ++ [i]) q r) ∧ (∀ x ∈ f.watches, x.2 < 256)

theorem FeedR.gx {p q : List Nat} {w w' : World} {g g' : Gh} {b : Nat} {f : Feed} (h : FeedR w g p b f) (e : Ex q w g w' g') (ha : Apart q p) (hq : q ≠ []) : FeedR w' g' p b f := by
  obtain ⟨hb, ks, vs, qbs, ho, hm, h1, h2, h3, h4⟩ := h
  obtain ⟨o1, o2⟩ := e.own ho (by rw [hb]; exact ha.self)
  exact ⟨by rw [o2]; exact hb, ks, vs, qbs, o1, hm.gx hq e, h1, h2, fun i c r hc hr => (h3 i c r hc hr).gx e (ha.sub _), h4⟩
theorem FeedR.no {p : List Nat} {w w' : World} {g : Gh} {b : Nat} {f : Feed} (h : FeedR w g p b f) (k : Fr no w w') : FeedR w' g p b f := by
  obtain ⟨hb, ks, vs, qbs, ho, hm, h1, h2, h3, h4⟩ := h
  exact ⟨hb, ks, vs, qbs, k.own ho id, hm.ext k, h1, h2, fun i c r hc hr => (h3 i c r hc hr).no k, h4⟩
theorem mask_lt {f : Feed} (h : ∀ x ∈ f.watches, x.2 < 256) (u : ByteArray) : maskOf' f u < 256 := by
  unfold maskOf'
  have : ∀ (m : Mp Nat), (∀ x ∈ m, x.2 < 256) → (mGet m u).getD 0 < 256 := by
    intro m hm
    induction m with
    | nil => simp [mGet]
    | cons p m ih =>
      obtain ⟨a, x⟩ := p
      unfold mGet; split
      · exact hm (a, x) (by simp)
      · exact ih fun q hq => hm q (by simp [hq])
  exact this _ h

theorem mask_get {f : Feed} {u : ByteArray} : u32of (mGet (mMap u32c f.watches) u) = .int .u32 (maskOf' f u : Nat) := by
  rw [mGet_map]; unfold maskOf'
  cases mGet f.watches u <;> rfl

theorem c278 {g : Gh} {p : List Nat} {b : Nat} {f : Feed} {who : Int} {u : ByteArray} (hf : FeedR w g p b f) (hn : f.watches.length < 2^38) (h : ∀ w', Fr no w w' → R (.bool (f.watching who u)) w') :
    CallsR Tryz.prog 278 #[.pointer (some ⟨b, 0, none⟩), .int .i64 who, .string u] w R := by
  apply sh278; unfold S278
  obtain ⟨hb, ks, vs, qbs, ho, hm, h1, h2, h3, h4⟩ := hf
  refine pv_i rfl ?_
  refine pv_i (v := .pointer (some ⟨b, 0, none⟩)) rfl ?_
  refine la_i (xs := [ks, vs]) ho (by simp) rfl ?_
  refine c279 hm (by unfold mMap; rw [List.length_map]; omega) fun w1 f1 => ?_
  rw [mask_get]
  refine pv_i (ext2a _ _) (pv_i (ext2b _ _) ?_)
  refine c280 ?_
  have hlt := mask_lt h4 u
  have h' := h w1 f1
  unfold Feed.watching isCl at h'
  rw [gdB_b]
  by_cases hc : 0 ≤ who ∧ who < 8
  · rw [decide_eq_true hc] at h' ⊢
    rw [if_pos rfl]
    refine pv_i (shrM hlt hc.1 hc.2) ?_
    refine pv_i (andM (Nat.lt_of_le_of_lt (Nat.div_le_self _ _) hlt)) ?_
    refine pv_i eql_i ?_
    dsimp only [upd]
    refine pv_i (v := .bool ((maskOf' f u).testBit who.toNat)) ?_ ?_
    · have := test_eq ⟨maskOf' f u, hlt⟩ ⟨who.toNat, by omega⟩
      simp only at this
      rw [this]; rfl
    · simpa using h'
  · rw [decide_eq_false hc] at h' ⊢
    rw [if_neg (by simp)]
    refine pv_i (v := .bool false) rfl ?_
    simpa using h'

theorem watch_lt {m : Mp Nat} {u : ByteArray} {n : Nat} (h : ∀ x ∈ m, x.2 < 256) (hn : n < 256) : ∀ x ∈ mWith m u n, x.2 < 256 := fun x hx => by
  rcases mem_mWith m u n x hx with rfl | hx
  · exact hn
  · exact h x hx
/-- The map of who watches is another one. -/
theorem feed_put {g : Gh} {p : List Nat} {b : Nat} {f : Feed} {w1 w2 : World} {ks vs : Value} {qbs : List Nat} {m' : Mp Nat} {ks' vs' : Value} (hok : GhOk w g) (hp : p ≠ []) (hb : g b = p) (f1 : Fr no w w1) (ho : own w b = some (ks :: vs :: qbs.map fun q => .pointer (some ⟨q, 0, none⟩)))
    (h1 : qbs.length = 8) (h2 : f.qs.length = 8) (h3 : ∀ i q r, qbs[i]? = some q → f.qs[i]? = some r → RingR w g (p ++ [i]) q r) (h4 : ∀ x ∈ m', x.2 < 256) (hm : MapI w1 (ImG g) 1 (.agg #[ks', vs']) (mMap u32c m'))
    (pt : Pt w1 b (ks' :: vs' :: qbs.map fun q => .pointer (some ⟨q, 0, none⟩)) w2) : FeedR w2 g p b { f with watches := m' } ∧ Ex p w g w2 g := by
  have e1 : Ex p w g w1 g := Ex.of_no hok f1
  have e2 : Ex p w1 g w2 g := Ex.pt e1.ok pt (by rw [hb]; exact List.prefix_refl p)
  refine ⟨⟨hb, ks', vs', qbs, pt.own, hm.gx hp e2, h1, h2, fun i q r hq hr => ?_, h4⟩, e1.trans e2⟩
  obtain ⟨a1, a2, a3, a4, a5, a6, a7⟩ := h3 i q r hq hr
  have hqb : q ≠ b := fun hh => by subst hh; rw [hb] at a1; have := congrArg List.length a1; simp at this
  refine ⟨a1, a2, a3, pt.oth (f1.own a4 id) hqb, (a5.keep f1 (fun _ _ => no_not _)).keep pt.fr (fun o ho' hx => ?_), a6, a7⟩
  unfold one at hx; subst hx
  have := a6 o ho'; rw [hb] at this; have := congrArg List.length this; simp at this

theorem agg2_cells {a c : Value} {l : List Value} : splice (a :: c :: l) 0 (Value.agg #[a, c]).cells.toList = a :: c :: l := rfl
theorem splice2 {a c a' c' : Value} {l : List Value} : splice (a :: c :: l) 0 (Value.agg #[a', c']).cells.toList = a' :: c' :: l := rfl
theorem agg2_one {a c : Value} (h1 : one1 a = true) (h2 : one1 c = true) : (Value.agg #[a, c]).cells.toList.all one1 = true := by
  show [a, c].all one1 = true
  simp [h1, h2]

theorem c191 {g : Gh} {p : List Nat} {b : Nat} {f : Feed} {who : Int} {u : ByteArray} (hf : FeedR w g p b f) (hok : GhOk w g) (hp : p ≠ []) (hn : f.watches.length < 2^37)
    (h : ∀ w', FeedR w' g p b (f.watch who u) → Ex p w g w' g → R (.tuple #[]) w') : CallsR Tryz.prog 191 #[.pointer (some ⟨b, 0, none⟩), .int .i64 who, .string u] w R := by
  apply sh191; unfold S191
  have hf0 := hf
  obtain ⟨hb, ks, vs, qbs, ho, hm, h1, h2, h3, h4⟩ := hf
  refine c280 ?_
  refine pv_i (not_b _) ?_
  unfold Feed.watch isCl at h
  by_cases hc : 0 ≤ who ∧ who < 8
  · rw [decide_eq_true hc, Bool.not_true, condC_f]
    rw [decide_eq_true hc, if_pos rfl] at h
    refine pv_i rfl ?_
    refine pv_i (v := .pointer (some ⟨b, 0, none⟩)) rfl ?_
    refine la_i (xs := [ks, vs]) ho (by simp) rfl ?_
    refine c279 hm (by unfold mMap; rw [List.length_map]; omega) fun w1 f1 => ?_
    rw [mask_get]
    refine pv_i (ext2a _ _) (pv_i (ext2b _ _) ?_)
    have hlt := mask_lt h4 u
    have hwi : who.toNat < 8 := by omega
    refine pv_i rfl ?_
    refine pv_i (v := .pointer (some ⟨b, 0, none⟩)) rfl ?_
    refine pv_i (shlM hc.1 hc.2) ?_
    refine pv_i (orM hlt hwi) ?_
    have f2 : Fr no w (drewW w1) := f1.trans (drewW_fr _ _)
    generalize drewW w1 = w2 at f2 ⊢
    refine la_i (xs := [ks, vs]) (f2.own ho id) (by simp) rfl ?_
    refine c282 (hm.ext f2) ((GhOk.im hok).fr f2) (by unfold mMap; rw [List.length_map]; omega) fun v' w3 hm3 f3 => ?_
    rw [show ([Value.int .u32 ((maskOf' f u ||| 2 ^ who.toNat : Nat))] : List Value) = u32c (maskOf' f u ||| 2 ^ who.toNat) from rfl, mWith_map] at hm3
    obtain ⟨ks', vs', rfl, hk', hv', r'⟩ := id hm3
    refine pv_i rfl ?_
    refine pv_i (v := .pointer (some ⟨b, 0, none⟩)) rfl ?_
    have f03 := f2.trans f3
    refine st_i (f03.own ho id) (by simp) rfl (agg2_one hk'.one hv'.one) splice2 fun w4 p4 => ?_
    have := feed_put hok hp hb f03 ho h1 h2 h3 (watch_lt h4 (or_lt ⟨_, hlt⟩ ⟨_, hwi⟩)) hm3 p4
    exact h w4 this.1 this.2
  · rw [decide_eq_false hc, Bool.not_false, condC_t]
    rw [decide_eq_false hc, if_neg (by simp)] at h
    exact h w hf0 (Ex.refl hok)

theorem c179 {g : Gh} {p : List Nat} {b : Nat} {f : Feed} {who : Int} {u : ByteArray} (hf : FeedR w g p b f) (hok : GhOk w g) (hp : p ≠ []) (hn : f.watches.length < 2^37)
    (h : ∀ w', FeedR w' g p b (f.unwatch who u) → Ex p w g w' g → R (.tuple #[]) w') : CallsR Tryz.prog 179 #[.pointer (some ⟨b, 0, none⟩), .int .i64 who, .string u] w R := by
  apply sh179; unfold S179
  have hf0 := hf
  obtain ⟨hb, ks, vs, qbs, ho, hm, h1, h2, h3, h4⟩ := hf
  refine pv_i rfl ?_
  refine pv_i (v := .pointer (some ⟨b, 0, none⟩)) rfl ?_
  refine la_i (xs := [ks, vs]) ho (by simp) rfl ?_
  refine c279 hm (by unfold mMap; rw [List.length_map]; omega) fun w1 f1 => ?_
  rw [mask_get]
  refine pv_i (ext2a _ _) (pv_i (ext2b _ _) ?_)
  refine c280 ?_
  refine pv_i (not_b _) ?_
  have hlt := mask_lt h4 u
  unfold Feed.unwatch isCl at h
  by_cases hc : 0 ≤ who ∧ who < 8
  · rw [decide_eq_true hc, Bool.not_true, gdB_b, if_pos rfl]
    rw [decide_eq_true hc] at h
    have hwi : who.toNat < 8 := by omega
    refine pv_i eql_i ?_
    dsimp only [upd]
    by_cases hm0 : maskOf' f u = 0
    · rw [if_neg (by simp [hm0])] at h
      rw [decide_eq_true (by omega)]
      refine pv_i (v := .bool true) rfl ?_
      rw [condC_t]
      exact h w1 (hf0.no f1) (Ex.of_no hok f1)
    · rw [if_pos ⟨rfl, hm0⟩] at h
      rw [decide_eq_false (by omega)]
      refine pv_i (v := .bool false) rfl ?_
      rw [condC_f]
      refine pv_i (shlM hc.1 hc.2) ?_
      refine pv_i (notM hlt hwi) ?_
      refine pv_i eql_i ?_
      by_cases hcl : clearBit (maskOf' f u) who.toNat = 0
      · rw [if_pos hcl] at h
        rw [decide_eq_true (by omega), condC_t]
        refine pv_i rfl ?_
        refine pv_i (v := .pointer (some ⟨b, 0, none⟩)) rfl ?_
        refine la_i (xs := [ks, vs]) (f1.own ho id) (by simp) rfl ?_
        refine c281 (hm.ext f1) ((GhOk.im hok).fr f1) (by unfold mMap; rw [List.length_map]; omega) fun v' w3 hm3 f3 => ?_
        rw [mWithout_map] at hm3
        obtain ⟨ks', vs', rfl, hk', hv', r'⟩ := id hm3
        refine pv_i rfl ?_
        refine pv_i (v := .pointer (some ⟨b, 0, none⟩)) rfl ?_
        have f03 := f1.trans f3
        refine st_i (f03.own ho id) (by simp) rfl (agg2_one hk'.one hv'.one) splice2 fun w4 p4 => ?_
        have := feed_put hok hp hb f03 ho h1 h2 h3 (fun x hx => h4 x (mem_mWithout _ _ x hx)) hm3 p4
        exact h w4 this.1 this.2
      · rw [if_neg hcl] at h
        rw [decide_eq_false (by omega), condC_f]
        refine pv_i rfl ?_
        refine pv_i (v := .pointer (some ⟨b, 0, none⟩)) rfl ?_
        refine la_i (xs := [ks, vs]) (f1.own ho id) (by simp) rfl ?_
        refine c282 (hm.ext f1) ((GhOk.im hok).fr f1) (by unfold mMap; rw [List.length_map]; omega) fun v' w3 hm3 f3 => ?_
        rw [show ([Value.int .u32 ((clearBit (maskOf' f u) who.toNat : Nat))] : List Value) = u32c (clearBit (maskOf' f u) who.toNat) from rfl, mWith_map] at hm3
        obtain ⟨ks', vs', rfl, hk', hv', r'⟩ := id hm3
        refine pv_i rfl ?_
        refine pv_i (v := .pointer (some ⟨b, 0, none⟩)) rfl ?_
        have f03 := f1.trans f3
        refine st_i (f03.own ho id) (by simp) rfl (agg2_one hk'.one hv'.one) splice2 fun w4 p4 => ?_
        have := feed_put hok hp hb f03 ho h1 h2 h3 (watch_lt h4 (clr_lt ⟨_, hlt⟩ ⟨_, hwi⟩)) hm3 p4
        exact h w4 this.1 this.2
  · rw [decide_eq_false hc, Bool.not_false, gdB_b, if_neg (by simp)]
    rw [decide_eq_false hc, if_neg (by simp)] at h
    refine pv_i (v := .bool true) rfl ?_
    rw [condC_t]
    exact h w1 (hf0.no f1) (Ex.of_no hok f1)
end Go.Dm
/-! Feeds: what is told, and emptied. -/
namespace Go.Dm
open Go Go.Proofs
variable {w : World} {R : Value → World → Prop}

theorem idxA_i {n b o i : Nat} {kd : IntKind} (h : i < n) : idxAV n 1 (.pointer (some ⟨b, o, none⟩)) (.int kd (i : Nat)) = some (.pointer (some ⟨b, o + i, none⟩)) := by
  show (if 0 ≤ (i : Int) ∧ (i : Int) < n then some (Value.pointer (some ⟨b, o + (i : Int).toNat * 1, none⟩)) else none) = _
  rw [if_pos (by omega)]; simp
/-- One queue has changed. -/
theorem feed_ring {g g' : Gh} {p : List Nat} {b i q : Nat} {f : Feed} {r' : Rng} {w w' : World} {ks vs : Value} {qbs : List Nat} (hp : p ≠ []) (hb : g b = p) (ho : own w b = some (ks :: vs :: qbs.map fun q => .pointer (some ⟨q, 0, none⟩)))
    (hm : MapI w (ImG g) 1 (.agg #[ks, vs]) (mMap u32c f.watches)) (h1 : qbs.length = 8) (h2 : f.qs.length = 8) (h3 : ∀ i q r, qbs[i]? = some q → f.qs[i]? = some r → RingR w g (p ++ [i]) q r) (h4 : ∀ x ∈ f.watches, x.2 < 256)
    (hq : qbs[i]? = some q) (hr : RingR w' g' (p ++ [i]) q r') (e : Ex (p ++ [i]) w g w' g') :
    g' b = p ∧ own w' b = some (ks :: vs :: qbs.map fun q => .pointer (some ⟨q, 0, none⟩)) ∧ MapI w' (ImG g') 1 (.agg #[ks, vs]) (mMap u32c f.watches) ∧ (∀ j q r, qbs[j]? = some q → (f.qs.set i r')[j]? = some r → RingR w' g' (p ++ [j]) q r) := by
  obtain ⟨o1, o2⟩ := e.own ho (by rw [hb]; exact not_child p i)
  refine ⟨by rw [o2]; exact hb, o1, hm.gx (by simp) e, fun j c r hc hj => ?_⟩
  rw [List.getElem?_set] at hj
  split at hj
  · rename_i hij
    subst hij
    rw [hq] at hc; cases hc
    split at hj
    · cases hj; exact hr
    · cases hj
  · rename_i hij
    exact (h3 j c r hc hj).gx e (apart_idx hij)

theorem c197 {g : Gh} {p : List Nat} {b : Nat} {f : Feed} {who : Int} (hf : FeedR w g p b f) (hok : GhOk w g) (hp : p ≠ [])
    (h : ∀ v w' , FeedR w' g p b (f.drain who).1 → SlI w' (ImG g) 8 v (f.drain who).2.1.length ((f.drain who).2.1.flatMap Evt.cells) → Ex p w g w' g → R (.tuple #[v, .bool (f.drain who).2.2]) w') : CallsR Tryz.prog 197 #[.pointer (some ⟨b, 0, none⟩), .int .i64 who] w R := by
  apply sh197; unfold S197
  have hf0 := hf
  obtain ⟨hb, ks, vs, qbs, ho, hm, h1, h2, h3, h4⟩ := hf
  refine c280 ?_
  refine pv_i (not_b _) ?_
  unfold Feed.drain isCl at h
  by_cases hc : 0 ≤ who ∧ who < 8
  · rw [decide_eq_true hc, Bool.not_true, condC_f]
    rw [decide_eq_true hc] at h
    obtain ⟨i, rfl⟩ := Int.eq_ofNat_of_zero_le hc.1
    have hi : i < 8 := by omega
    obtain ⟨q, hq⟩ : ∃ q, qbs[i]? = some q := ⟨_, List.getElem?_eq_getElem (by omega)⟩
    obtain ⟨r, hr⟩ : ∃ r, f.qs[i]? = some r := ⟨_, List.getElem?_eq_getElem (by omega)⟩
    simp only [Int.ofNat_eq_natCast, Int.toNat_natCast, hr, if_true] at h
    refine pv_i rfl ?_
    refine pv_i (v := .pointer (some ⟨b, 2, none⟩)) rfl ?_
    refine pv_i (v := .pointer (some ⟨b, 2 + i, none⟩)) (idxA_i hi) ?_
    refine ld_i (v := .pointer (some ⟨q, 0, none⟩)) ho (by rw [show 2 + i = i + 1 + 1 by omega, List.getElem?_cons_succ, List.getElem?_cons_succ, List.getElem?_map, hq]; rfl) ?_
    refine c297 (h3 i q r hq hr) hok (by simp) fun v w' hr' hs e => ?_
    refine pv_i (ext2a _ _) (pv_i (ext2b _ _) ?_)
    obtain ⟨a1, a2, a3, a4⟩ := feed_ring hp hb ho hm h1 h2 h3 h4 hq hr' e
    exact h v w' ⟨a1, ks, vs, qbs, a2, a3, h1, by simpa using h2, a4, h4⟩ hs (e.up (List.prefix_append _ _))
  · rw [decide_eq_false hc, Bool.not_false, condC_t]
    rw [decide_eq_false hc] at h
    refine h _ w hf0 ?_ (Ex.refl hok)
    exact SlI.nil ..

/-- The first of the queues told. -/
def tellTo (f : Feed) (c : Chg) (seq k : Nat) : Feed := { f with qs := f.qs.mapIdx fun i q => if i < k then tellOne f.watches c seq i q else q }
theorem tellTo_zero (f : Feed) (c : Chg) (seq : Nat) : tellTo f c seq 0 = f := by
  unfold tellTo; cases f with
  | mk m qs =>
    simp only [Feed.mk.injEq, true_and]
    apply List.ext_getElem?; intro i
    rw [List.getElem?_mapIdx]; cases qs[i]? <;> rfl
theorem tellTo_all (f : Feed) (c : Chg) (seq : Nat) (h : f.qs.length = 8) : tellTo f c seq 8 = f.tell1 seq c := by
  unfold tellTo Feed.tell1; congr 1
  apply List.ext_getElem?; intro i
  simp only [List.getElem?_mapIdx]
  cases hi : f.qs[i]? with
  | none => rfl
  | some q =>
    have : i < 8 := by
      rcases Nat.lt_or_ge i 8 with hh | hh
      · exact hh
      · rw [List.getElem?_eq_none (by omega)] at hi; cases hi
    simp [this]
theorem tellTo_get {f : Feed} {c : Chg} {seq k : Nat} {q : Rng} (h : f.qs[k]? = some q) : (tellTo f c seq k).qs[k]? = some q := by
  unfold tellTo; simp only [List.getElem?_mapIdx, h]; simp
theorem tellTo_succ {f : Feed} {c : Chg} {seq k : Nat} {q : Rng} (h : f.qs[k]? = some q) : tellTo f c seq (k + 1) = { tellTo f c seq k with qs := (tellTo f c seq k).qs.set k (tellOne f.watches c seq k q) } := by
  unfold tellTo; simp only [Feed.mk.injEq, true_and]
  apply List.ext_getElem?; intro i
  simp only [List.getElem?_mapIdx, List.getElem?_set, List.length_mapIdx]
  have hk : k < f.qs.length := by
    rcases Nat.lt_or_ge k f.qs.length with hh | hh
    · exact hh
    · rw [List.getElem?_eq_none hh] at h; cases h
  by_cases hik : k = i
  · subst hik; rw [h, if_pos rfl, if_pos hk]; simp
  · rw [if_neg hik]
    cases f.qs[i]? with
    | none => rfl
    | some q =>
      have : (i < k + 1) ↔ (i < k) := by omega
      simp [this]
theorem watching_qs (a b : List Rng) (m : Mp Nat) (who : Int) (u : ByteArray) : Feed.watching ⟨m, a⟩ who u = Feed.watching ⟨m, b⟩ who u := rfl

theorem idxArr_i {n i : Nat} {cs : Array Value} {kd : IntKind} {v : Value} (h : i < n) (hv : cs[i]? = some v) : idxArrV false n 1 (.agg cs) (.int kd (i : Nat)) = some v := by
  show (if 0 ≤ (i : Int) ∧ (i : Int) < n then fieldV false ((i : Int).toNat * 1) 1 (.agg cs) else none) = _
  rw [if_pos (by omega)]; simpa [fieldV] using hv

theorem tell_snoc (f : Feed) (l : List Chg) (c : Chg) (seq : Nat) : f.tell (l ++ [c]) seq = (f.tell l seq).tell1 seq c := by
  unfold Feed.tell; rw [List.foldl_append]; rfl
theorem tell_watches (f : Feed) : ∀ (l : List Chg) (seq : Nat), (f.tell l seq).watches = f.watches := by
  intro l seq
  unfold Feed.tell
  induction l generalizing f with
  | nil => rfl
  | cons c l ih => rw [List.foldl_cons, ih]; rfl

theorem c196 {g : Gh} {p : List Nat} {b seq : Nat} {f : Feed} {lv : Value} {l : List Chg} (hf : FeedR w g p b f) (hok : GhOk w g) (hp : p ≠ []) (hl : ChgI w (ImG g) lv l) (hln : l.length < 2^61) (hn : f.watches.length < 2^38)
    (h : ∀ w' g', FeedR w' g' p b (f.tell l seq) → Ex p w g w' g' → R (.tuple #[]) w') : CallsR Tryz.prog 196 #[.pointer (some ⟨b, 0, none⟩), lv, .int .u64 seq] w R := by
  apply sh196; unfold S196
  have hq0 := beside_ne p
  have hqa := beside_apart hp
  have hqn := beside_not hp
  generalize beside p = q at hq0 hqa hqn
  refine pv_i hl.lenV ?_
  refine lp_c (fun d e u X => ∃ (k : Nat) (g' : Gh), d = l.length - k ∧ k ≤ l.length ∧ Bx p q w g X u g' ∧ FeedR u g' p b (f.tell (l.take k) seq) ∧ ChgI u (ImG g') lv l ∧ e 0 = .pointer (some ⟨b, 0, none⟩) ∧ e 2 = .int .u64 seq ∧ e 10 = lv ∧ e 11 = .int .i64 l.length ∧ e 12 = .int .i64 (k : Nat)) l.length
    ⟨0, g, by omega, by omega, Bx.start hok, by simpa [Feed.tell] using hf, hl, rfl, rfl, rfl, rfl, rfl⟩ ?_
  rintro d e u X N ⟨k, g1, rfl, hk, hB, hF, hL, e0', e2, e10, e11, e12⟩ hN
  simp only [e0', e2, e10, e11, e12, lss_i, pv_some, condC_b, decide_eq_true_eq]
  split
  · rename_i hlt
    have hlt : k < l.length := by omega
    obtain ⟨c, hc⟩ : ∃ c, l[k]? = some c := ⟨_, List.getElem?_eq_getElem hlt⟩
    rw [jnB_e]
    obtain ⟨pt, hpt, hld⟩ := hL.at (kd := .i64) chg_len hc
    refine pv_i hpt ?_
    refine hld _ ?_
    refine ⟨rfl, ?_⟩
    refine pv_i rfl ?_
    refine pv_i (v := .pointer (some ⟨b, 2, none⟩)) rfl ?_
    intro u1 X1 y1
    obtain ⟨g2, hB1, hx1⟩ := hB.sy y1
    have hF1 := hF.gx hx1 hqa hq0
    have hL1 : ChgI u1 (ImG g2) lv l := SlI.gx hL hq0 hx1
    obtain ⟨hb, ks, vs, qbs, ho, hm, h1, h2, h3, h4⟩ := id hF1
    refine la_i (xs := qbs.map fun q => .pointer (some ⟨q, 0, none⟩)) ho (by simp [h1]) (by show List.take 8 (List.map _ qbs) = _; exact List.take_of_length_le (by simp [h1])) ?_
    have hlk : l.take (k + 1) = l.take k ++ [c] := by
      rw [List.take_succ_eq_append_getElem hlt]; rw [List.getElem?_eq_getElem hlt] at hc; rw [Option.some.inj hc]
    -- the queues of this change
    generalize hfk : f.tell (l.take k) seq = fk at hF1 hm h2 h3 h4
    have hwn : fk.watches.length < 2^38 := by rw [← hfk, tell_watches]; exact hn
    refine lp_c (fun d e u X => ∃ (i : Nat) (g' : Gh), d = 8 - i ∧ i ≤ 8 ∧ Bx p q w g X u g' ∧ FeedR u g' p b (tellTo fk c seq i) ∧ ChgI u (ImG g') lv l ∧ own u b = some (ks :: vs :: qbs.map fun q => .pointer (some ⟨q, 0, none⟩)) ∧
        e 0 = .pointer (some ⟨b, 0, none⟩) ∧ e 2 = .int .u64 seq ∧ e 7 = .agg c.cells.toArray ∧ e 10 = lv ∧ e 11 = .int .i64 l.length ∧ e 12 = .int .i64 (k : Nat) ∧ e 19 = .agg (qbs.map fun q => .pointer (some ⟨q, 0, none⟩)).toArray ∧ e 20 = .int .i64 (i : Nat)) 8
      ⟨0, g2, rfl, by omega, hB1, by rw [tellTo_zero]; exact hF1, hL1, ho, rfl, rfl, rfl, rfl, rfl, rfl, rfl, rfl⟩ ?_
    rintro d e u3 X3 N3 ⟨i, g3, rfl, hi, hB3, hF3, hL3, ho3, e0', e2, e7, e10, e11, e12, e19, e20⟩ hN3
    simp only [e0', e2, e7, e10, e11, e12, e19, e20]
    refine pv_i lss_i ?_
    by_cases hi8 : i < 8
    · rw [decide_eq_true (by omega), condC_t, jnB_e]
      obtain ⟨qb, hqb⟩ : ∃ qb, qbs[i]? = some qb := ⟨_, List.getElem?_eq_getElem (by omega)⟩
      obtain ⟨r, hr⟩ : ∃ r, fk.qs[i]? = some r := ⟨_, List.getElem?_eq_getElem (by omega)⟩
      refine pv_i (idxArr_i (v := .pointer (some ⟨qb, 0, none⟩)) hi8 (by simp [hqb])) ?_
      refine pv_i (v := .string c.user) rfl ?_
      refine c278 hF3 (by exact hwn) fun u4 f4 => ?_
      obtain ⟨hB4, k4⟩ := hB3.no f4
      refine ⟨k4, ?_⟩
      have hF4 := hF3.no f4
      have hL4 : ChgI u4 (ImG g3) lv l := SlI.ext hL3 f4
      have ho4 := f4.own ho3 id
      -- the next queue
      have next : ∀ (u5 : World) (g5 : Gh) (E : Env), Bx p q w g X3 u5 g5 → FeedR u5 g5 p b (tellTo fk c seq (i + 1)) → ChgI u5 (ImG g5) lv l → own u5 b = some (ks :: vs :: qbs.map fun q => .pointer (some ⟨q, 0, none⟩)) →
          E 0 = .pointer (some ⟨b, 0, none⟩) ∧ E 2 = .int .u64 seq ∧ E 7 = .agg c.cells.toArray ∧ E 10 = lv ∧ E 11 = .int .i64 l.length ∧ E 12 = .int .i64 (k : Nat) ∧ E 19 = .agg (qbs.map fun q => .pointer (some ⟨q, 0, none⟩)).toArray ∧ E 20 = .int .i64 (i : Nat) →
          pv (binV .add (E 20) (.int .i64 1)) fun t39 => N3 (upd (upd (upd (upd (upd (upd (upd (upd e0 20 t39) 19 (E 19)) 12 (E 12)) 11 (E 11)) 10 (E 10)) 7 (E 7)) 2 (E 2)) 0 (E 0)) u5 X3 := by
        rintro u5 g5 E b5 f5 l5 o5 ⟨E0, E2, E7, E10, E11, E12, E19, E20⟩
        rw [E20]
        refine pv_i (add1 (by omega)) ?_
        exact hN3 _ _ _ _ (by omega) ⟨i + 1, g5, rfl, by omega, b5, f5, l5, o5, E0, E2, E7, E10, E11, E12, E19, rfl⟩
      have hone : tellOne fk.watches c seq i r = if fk.watching i c.user = true then (r.put ⟨c.user, c.old, c.new, seq⟩).1 else r := rfl
      have hw : Feed.watching (tellTo fk c seq i) (i : Nat) c.user = fk.watching (i : Nat) c.user := rfl
      rw [hw]
      cases hwa : fk.watching (i : Nat) c.user with
      | true =>
        rw [condC_t]
        rw [hwa, if_pos rfl] at hone
        refine pv_i (v := .string c.user) rfl ?_
        refine pv_i (v := c.old.v) rfl ?_
        refine pv_i (v := c.new.v) rfl ?_
        refine pv_i (v := (⟨c.user, c.old, c.new, seq⟩ : Evt).v) rfl ?_
        obtain ⟨q1, ks', vs', qbs', q2, q3, q4, q5, q6, q7⟩ := id hF4
        have hqq : ks' = ks ∧ vs' = vs ∧ qbs' = qbs := by
          rw [ho4] at q2
          have q2 := Option.some.inj q2
          rw [List.cons.injEq, List.cons.injEq] at q2
          refine ⟨q2.1.symm, q2.2.1.symm, ?_⟩
          have := q2.2.2
          have inj : ∀ (a b : List Nat), (a.map fun q => Value.pointer (some ⟨q, 0, none⟩)) = (b.map fun q => Value.pointer (some ⟨q, 0, none⟩)) → a = b := by
            intro a
            induction a with
            | nil => intro b hb; cases b with | nil => rfl | cons _ _ => simp at hb
            | cons x a ih => intro b hb; cases b with
              | nil => simp at hb
              | cons y b => simp at hb; rw [hb.1, ih b (by simpa using hb.2)]
          exact (inj _ _ this).symm
        obtain ⟨rfl, rfl, rfl⟩ := hqq
        refine c296 (q6 i qb r hqb (tellTo_get hr)) hB4.ex.ok (by simp) fun u5 g5 hr5 e5 => ?_
        have hpi : p <+: p ++ [i] := List.prefix_append _ _
        refine ⟨hB4.kp e5 hpi hqn, ?_⟩
        obtain ⟨a1, a2, a3, a4⟩ := feed_ring hp q1 q2 q3 q4 q5 q6 q7 hqb hr5 e5
        refine next u5 g5 _ (hB4.step e5 hpi) ?_ (SlI.gx hL4 (by simp) e5) a2 ⟨rfl, rfl, rfl, rfl, rfl, rfl, rfl, rfl⟩
        rw [tellTo_succ hr, hone]
        exact ⟨a1, _, _, _, a2, a3, q4, by simpa using q5, a4, q7⟩
      | false =>
        rw [condC_f]
        rw [hwa, if_neg (by simp)] at hone
        refine next u4 g3 _ hB4 ?_ hL4 ho4 ⟨rfl, rfl, rfl, rfl, rfl, rfl, rfl, rfl⟩
        have : tellTo fk c seq (i + 1) = tellTo fk c seq i := by
          rw [tellTo_succ hr, hone]
          have hg := tellTo_get (c := c) (seq := seq) hr
          have hset : (tellTo fk c seq i).qs.set i r = (tellTo fk c seq i).qs := by
            apply List.ext_getElem?; intro j
            rw [List.getElem?_set]
            split
            · rename_i hij
              subst hij; rw [hg]
              split
              · rfl
              · rename_i hh
                rw [List.getElem?_eq_none (by omega)] at hg; cases hg
            · rfl
          rw [hset]
        rw [this]; exact hF4
    · have : i = 8 := by omega
      subst this
      rw [decide_eq_false (by omega), condC_f]
      refine pv_i (add1 (by omega)) ?_
      refine hN _ _ _ _ (by omega) ⟨k + 1, g3, rfl, by omega, hB3, ?_, hL3, rfl, rfl, rfl, rfl, rfl⟩
      rw [hlk, tell_snoc, hfk, ← tellTo_all fk c seq h2]; exact hF3
  · have : k = l.length := by omega
    subst this
    rw [List.take_length] at hF
    exact h u g1 hF hB.ex
end Go.Dm
/-! New feeds. -/
namespace Go.Dm
open Go Go.Proofs
variable {w : World} {R : Value → World → Prop}

/-- Nothing has changed; there is more. -/
structure Nx (w : World) (g : Gh) (w' : World) (g' : Gh) : Prop where
  fr : Fr no w w'
  old : ∀ b, b < w.heap.size → g' b = g b
  ok : GhOk w' g'
theorem Nx.ex {p : List Nat} {w w' : World} {g g' : Gh} (h : Nx w g w' g') : Ex p w g w' g' := ⟨h.fr.of_no, h.old, h.ok⟩
theorem Nx.refl {w : World} {g : Gh} (h : GhOk w g) : Nx w g w g := ⟨Fr.refl _ _, fun _ _ => rfl, h⟩
theorem Nx.of_no {w w' : World} {g : Gh} (h : GhOk w g) (f : Fr no w w') : Nx w g w' g := ⟨f, fun _ _ => rfl, h.mono f.size⟩
theorem Nx.trans {w w1 w2 : World} {g g1 g2 : Gh} (h : Nx w g w1 g1) (k : Nx w1 g1 w2 g2) : Nx w g w2 g2 :=
  ⟨h.fr.trans k.fr, fun b hb => (k.old b (Nat.lt_of_lt_of_le hb h.fr.size)).trans (h.old b hb), k.ok⟩
theorem Nx.pt {w w1 w2 : World} {g g1 : Gh} {b : Nat} {cs : List Value} (h : Nx w g w1 g1) (k : Pt w1 b cs w2) (hb : w.heap.size ≤ b) : Nx w g w2 g1 :=
  ⟨h.fr.own1 k.fr hb, h.old, h.ok.mono (by rw [k.size]; exact Nat.le_refl _)⟩
theorem RingR.nx {p : List Nat} {w w' : World} {g g' : Gh} {b : Nat} {r : Rng} (h : RingR w g p b r) (f : Nx w g w' g') : RingR w' g' p b r := by
  obtain ⟨hb, sl, ob, ho, hs, hob, hr⟩ := h
  exact ⟨by rw [f.old b (own_lt ho)]; exact hb, sl, ob, f.fr.own ho id, hs.keep f.fr (fun _ _ => no_not _), fun o hh => by rw [f.old o (hs.lt o hh)]; exact hob o hh, hr⟩
theorem RingR.pt {p : List Nat} {w w' : World} {g : Gh} {b c : Nat} {r : Rng} {cs : List Value} (h : RingR w g p b r) (k : Pt w c cs w') (h1 : g c ≠ p) (h2 : g c ≠ p ++ [0]) : RingR w' g p b r := by
  obtain ⟨hb, sl, ob, ho, hs, hob, hr⟩ := h
  refine ⟨hb, sl, ob, k.oth ho (fun hh => h1 (by rw [← hh]; exact hb)), hs.keep k.fr (fun o hh hx => ?_), hob, hr⟩
  unfold one at hx; subst hx
  exact h2 (hob o hh)
theorem FeedR.nx {p : List Nat} {w w' : World} {g g' : Gh} {b : Nat} {f : Feed} (h : FeedR w g p b f) (k : Nx w g w' g') : FeedR w' g' p b f := by
  obtain ⟨hb, ks, vs, qbs, ho, hm, h1, h2, h3, h4⟩ := h
  exact ⟨by rw [k.old b (own_lt ho)]; exact hb, ks, vs, qbs, k.fr.own ho id, hm.gx (p := [0]) (by simp) k.ex, h1, h2, fun i c r hc hr => (h3 i c r hc hr).nx k, h4⟩

theorem ptr_set (qbs : List Nat) (i q : Nat) (h : qbs.length = i) (hi : i < 8) (ks vs : Value) :
    splice (ks :: vs :: (qbs.map (fun q => Value.pointer (some ⟨q, 0, none⟩)) ++ List.replicate (8 - i) (Value.pointer none))) (2 + i) (Value.pointer (some ⟨q, 0, none⟩)).cells.toList =
    ks :: vs :: ((qbs ++ [q]).map (fun q => Value.pointer (some ⟨q, 0, none⟩)) ++ List.replicate (8 - (i + 1)) (Value.pointer none)) := by
  obtain ⟨k, hk⟩ : ∃ k, 8 - i = k + 1 := ⟨7 - i, by omega⟩
  rw [hk, show 8 - (i + 1) = k by omega, List.replicate_succ]
  show splice _ _ [Value.pointer (some ⟨q, 0, none⟩)] = _
  unfold splice
  rw [show 2 + i = i + 1 + 1 by omega]
  subst h
  have e1 : (qbs.map fun q => Value.pointer (some ⟨q, 0, none⟩)).length = qbs.length := List.length_map ..
  simp only [List.take_succ_cons, List.cons_append, List.length_cons, List.length_nil, List.map_append, List.map_cons, List.map_nil, List.append_assoc, List.cons_append, List.nil_append]
  rw [List.take_append_of_le_length (by omega), List.take_of_length_le (by omega)]
  simp only [show qbs.length + 1 + 1 + (0 + 1) = qbs.length + 1 + 1 + 1 by omega, List.drop_succ_cons]
  rw [List.drop_append, List.drop_of_length_le (by omega)]
  simp

theorem c141 {g : Gh} {p : List Nat} {n : Nat} (hok : GhOk w g) (hp : p ≠ []) (hn : n < 2^30)
    (h : ∀ b w' g', w.heap.size ≤ b → FeedR w' g' p b (newFeed n) → Nx w g w' g' → R (.pointer (some ⟨b, 0, none⟩)) w') : CallsR Tryz.prog 141 #[.int .i64 n] w R := by
  apply sh141; unfold S141
  refine pv_i rfl ?_
  refine al_i fun b w1 n1 => ?_
  rw [jnB_e]
  have e1 := n1.eq; have z1 := n1.size
  refine lp_c (fun d e u X => ∃ (i : Nat) (g' : Gh) (qbs : List Nat), d = 8 - i ∧ i ≤ 8 ∧ X = no ∧ Nx w g u g' ∧ qbs.length = i ∧ g' b = p ∧ own u b = some (Value.slice none 0 0 :: Value.slice none 0 0 :: (qbs.map (fun q => Value.pointer (some ⟨q, 0, none⟩)) ++ List.replicate (8 - i) (Value.pointer none))) ∧
      (∀ j q, qbs[j]? = some q → RingR u g' (p ++ [j]) q ⟨n, [], false⟩) ∧ e 0 = .int .i64 n ∧ e 3 = .pointer (some ⟨b, 0, none⟩) ∧ e 7 = .int .i64 (i : Nat)) 8
    ⟨0, fun x => if x = b then p else g x, [], rfl, by omega, rfl, ⟨n1.fr, fun x hx => by rw [if_neg (by omega)], fun x hx => by rw [if_neg (by omega)]; exact hok x (by omega)⟩, rfl, by simp, n1.own, (fun j q hq => by simp at hq), rfl, rfl, rfl⟩ ?_
  rintro d e u X N ⟨i, g1, qbs, rfl, hi, rfl, hx, hlen, hgb, ho, hr, e0', e3, e7⟩ hN
  simp only [e0', e3, e7]
  refine pv_i lss_i ?_
  by_cases hi8 : i < 8
  · rw [decide_eq_true (by omega), condC_t]
    refine pv_i rfl ?_
    refine pv_i (v := .pointer (some ⟨b, 2, none⟩)) rfl ?_
    have hx2 : Nx w g (drewW u) g1 := hx.trans (Nx.of_no hx.ok (drewW_fr _ _))
    have ho2 : own (drewW u) b = _ := ho
    have hr2 : ∀ j q, qbs[j]? = some q → RingR (drewW u) g1 (p ++ [j]) q ⟨n, [], false⟩ := fun j q hq => (hr j q hq).no (drewW_fr _ _)
    generalize drewW u = u2 at hx2 ho2 hr2 ⊢
    refine c244 (p := p ++ [i]) hx2.ok hn fun q w3 hq1 hq2 f3 r3 => ?_
    have x3 : Nx u2 g1 w3 (fun c => if c = q then p ++ [i] else g1 c) := ⟨f3, fun x hx => by rw [if_neg (by omega)], fun x hx => by rw [if_neg (by omega)]; exact hx2.ok x (by omega)⟩
    have hbl := own_lt ho2
    have hgb3 : (fun c => if c = q then p ++ [i] else g1 c) b = p := by simp only []; rw [if_neg (by omega)]; exact hgb
    have hr3 : ∀ j q', (qbs ++ [q])[j]? = some q' → RingR w3 (fun c => if c = q then p ++ [i] else g1 c) (p ++ [j]) q' ⟨n, [], false⟩ := fun j q' hj => by
      rcases Nat.lt_or_ge j qbs.length with hh | hh
      · rw [List.getElem?_append_left hh] at hj
        exact (hr2 j q' hj).nx x3
      · rw [List.getElem?_append_right hh] at hj
        have : j - qbs.length = 0 := by
          rcases Nat.eq_zero_or_pos (j - qbs.length) with h0 | h0
          · exact h0
          · rw [List.getElem?_eq_none (by simp; omega)] at hj; cases hj
        rw [this] at hj; cases hj
        have : j = i := by omega
        subst this; exact r3
    generalize (fun c => if c = q then p ++ [i] else g1 c) = g3 at x3 hgb3 hr3
    refine pv_i (v := .pointer (some ⟨b, 2 + i, none⟩)) (idxA_i hi8) ?_
    refine st_i (f3.own ho2 id) (by simp; omega) rfl rfl (ptr_set qbs i q hlen hi8 _ _) fun w4 p4 => ?_
    refine pv_i (add1 (by omega)) ?_
    refine hN _ _ _ _ (by omega) ⟨i + 1, g3, qbs ++ [q], rfl, by omega, rfl, (hx2.trans x3).pt p4 (by omega), by simp [hlen], hgb3, p4.own, fun j q' hj => (hr3 j q' hj).pt p4 ?_ ?_, rfl, rfl, rfl⟩
    · rw [hgb3]; intro hh; have := congrArg List.length hh; simp at this
    · rw [hgb3]; intro hh; have := congrArg List.length hh; simp at this
  · have : i = 8 := by omega
    subst this
    rw [decide_eq_false (by omega), condC_f]
    refine h b u g1 (by omega) ⟨hgb, _, _, qbs, ?_, ⟨_, _, rfl, SlI.nil .., SlI.nil .., ?_⟩, hlen, rfl, fun j q r hq hr' => ?_, (fun x hx => by simp [newFeed] at hx)⟩ hx
    · simpa using ho
    · exact ⟨fun _ hx => by simp [newFeed, mMap] at hx, fun _ hx => by simp [newFeed, mMap] at hx, trivial⟩
    · have : r = ⟨n, [], false⟩ := by
        have := List.mem_of_getElem? hr'
        simpa [newFeed] using List.eq_of_mem_replicate this
      subst this; exact hr j q hq
end Go.Dm
