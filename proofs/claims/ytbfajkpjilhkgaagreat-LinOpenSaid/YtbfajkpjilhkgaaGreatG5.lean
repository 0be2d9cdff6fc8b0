/- A part of the proof that doormanlaw21.LinOpen returns true for every input, on no condition. -/
import Derived.Test.YtbfajkpjilhkgaaGreatG4
set_option linter.unusedVariables false
set_option linter.unusedSimpArgs false
set_option linter.deprecated false
/-! What a table does. -/
namespace Go.Dm
open Go Go.Proofs
variable {w : World} {R : Value → World → Prop} {Im : Nat → Prop}

/-- A block becomes nobody's. -/
def reg (o : Option Nat) (g : Gh) : Gh := fun c => if o = some c then [] else g c
section
variable {g : Gh} {a : List Nat} {o : Option Nat}
theorem reg_ne (h : ∀ c, o = some c → g c = a) {c : Nat} (hc : g c ≠ a) : reg o g c = g c := by
  unfold reg; rw [if_neg (fun hh => hc (h c hh))]
theorem reg_im : ∀ b, ImG g b → ImG (reg o g) b := fun b hb => by unfold ImG reg at *; split <;> simp_all
theorem reg_ok {w : World} (h : GhOk w g) : GhOk w (reg o g) := fun b hb => reg_im b (h b hb)
theorem RingR.rg {w : World} {p : List Nat} {b : Nat} {r : Rng} (h : RingR w g p b r) (ho : ∀ c, o = some c → g c = a) (h1 : p ≠ a) (h2 : p ++ [0] ≠ a) : RingR w (reg o g) p b r := by
  obtain ⟨hb, sl, ob, hw, hs, hob, hr⟩ := h
  exact ⟨by rw [reg_ne ho (by rw [hb]; exact h1)]; exact hb, sl, ob, hw, hs, fun c hc => by rw [reg_ne ho (by rw [hob c hc]; exact h2)]; exact hob c hc, hr⟩
theorem FeedR.rg {w : World} {p : List Nat} {b : Nat} {f : Feed} (h : FeedR w g p b f) (ho : ∀ c, o = some c → g c = a) (hp : ∀ s, p ++ s ≠ a) : FeedR w (reg o g) p b f := by
  obtain ⟨hb, ks, vs, qbs, hw, hm, h1, h2, h3, h4⟩ := h
  exact ⟨by rw [reg_ne ho (by rw [hb]; have := hp []; rwa [List.append_nil] at this)]; exact hb, ks, vs, qbs, hw, hm.im (fun b _ hb => reg_im b hb), h1, h2, fun i c r hc hr => (h3 i c r hc hr).rg ho (hp [i]) (by rw [List.append_assoc]; exact hp _), h4⟩
theorem MdR.rg {w : World} {p : List Nat} {b : Nat} {m : Mdl} {bsv fsv : Value} {ob of : Option Nat} {raws : List (Value × Value)} {fbs : List Nat} (h : MdR w g p b m bsv fsv ob of raws fbs) (ho : ∀ c, o = some c → g c = p ++ [9]) : MdR w (reg o g) p b m bsv fsv ob of raws fbs := by
  have hne : ∀ (s : List Nat), s ≠ [9] → p ++ s ≠ p ++ [9] := fun s hs hh => hs (List.append_cancel_left hh)
  exact ⟨by rw [reg_ne ho (by rw [h.gb]; have := hne [] (by simp); rwa [List.append_nil] at this)]; exact h.gb, h.own, h.bs, fun c hc => by rw [reg_ne ho (by rw [h.ob c hc]; exact hne _ (by simp))]; exact h.ob c hc, h.bl,
    fun i r k hr hk => (h.bk i r k hr hk).im fun b _ hb => reg_im b hb, h.fs, fun c hc => by rw [reg_ne ho (by rw [h.of c hc]; exact hne _ (by simp))]; exact h.of c hc, h.fl,
    fun i c f hc hf => (h.fd i c f hc hf).rg ho (fun s => by rw [List.append_assoc]; exact hne _ (by simp)), h.n1, h.n2, h.cr, h.tk⟩
theorem Bx.rg {p q : List Nat} {w u : World} {g g' : Gh} {X : Nat → Prop} (h : Bx p q w g X u g') (ho : ∀ c, o = some c → g' c = a ∧ w.heap.size ≤ c) (hq : q ≠ a) : Bx p q w g X u (reg o g') :=
  ⟨⟨h.ex.fr, fun b hb => by unfold reg; rw [if_neg (fun hh => by have := (ho b hh).2; omega)]; exact h.ex.old b hb, reg_ok h.ex.ok⟩,
    fun b hb => ⟨(h.bx b hb).1, (h.bx b hb).2.1, by rw [reg_ne (fun c hc => (ho c hc).1) (by rw [(h.bx b hb).2.2]; exact hq)]; exact (h.bx b hb).2.2⟩⟩
end

section
variable {g : Gh} {p : List Nat} {b : Nat} {m : Mdl}
theorem c69 {who : Int} {xv : Value} {x : OpP} {n : Nat} (hm : ModelR w g p b m) (hok : GhOk w g) (hp : p ≠ []) (hx : OpI w (ImG g) xv x) (hu : x.user.size < 2^62) (hus : ∀ s ∈ x.users, s.size < 2^62) (hul : x.users.length < 2^40) (hz : m.sz n) (hn : n < 2^28)
    (h : ∀ v w' g', ModelR w' g' p b (m.do who x).1 → RepI w' (ImG g') v (m.do who x).2 → Ex p w g w' g' → R v w') : CallsR Tryz.prog 69 #[.pointer (some ⟨b, 0, none⟩), .int .i64 who, xv] w R := by
  apply sh69; unfold S69
  have hq0 := beside_ne p
  have hqa := beside_apart hp
  have hqn := beside_not hp
  have hq9 : Apart (beside p) (p ++ [9]) := hqa.sub [9]
  generalize beside p = q at hq0 hqa hqn hq9
  refine ⟨hx.ok, ?_⟩
  intro w1 X1 y1
  obtain ⟨g1, hB1, hx1⟩ := (Bx.start (p := p) (q := q) hok).sy y1
  have hm1 := hm.gx hx1 hqa hq0
  have ho1 := hx.gx hq0 hx1
  refine c67 ho1 (by omega) fun w2 f2 => ?_
  obtain ⟨hB2, k2⟩ := hB1.no f2
  have hm2 := hm1.no hB1.ex.ok f2
  have ho2 := ho1.ext f2
  refine ⟨k2, ?_⟩
  -- an error
  have err : ∀ (e : Int) (u : World) (X : Nat → Prop) (gu : Gh), Bx p q w g X u gu → ModelR u gu p b m → m.do who x = (m, ⟨e, [], [], false⟩) → okB true 4 (errV e) = true ∧ syC u X fun w' _ => R (errV e) w' := by
    intro e u X gu hB hmu hd
    rw [hd] at h
    refine ⟨rfl, ?_⟩
    intro w' X' y
    obtain ⟨g', hB', hx'⟩ := hB.sy y
    exact h _ w' g' (hmu.gx hx' hqa hq0) (RepI.err ..) hB'.ex
  -- done
  have fin : ∀ (v : Value) (u : World) (X : Nat → Prop) (gu : Gh), Bx p q w g X u gu → ModelR u gu p b (m.do who x).1 → RepI u (ImG gu) v (m.do who x).2 → okB true 4 v = true ∧ syC u X fun w' _ => R v w' := by
    intro v u X gu hB hmu hd
    refine ⟨hd.ok, ?_⟩
    intro w' X' y
    obtain ⟨g', hB', hx'⟩ := hB.sy y
    exact h _ w' g' (hmu.gx hx' hqa hq0) (hd.gx hq0 hx') hB'.ex
  refine or_gB (fun h1 => ?_) (fun h1 => ?_)
  · rw [condC_t]
    refine pv_i (v := errV 1) rfl ?_
    exact err 1 w2 X1 g1 hB2 hm2 (by unfold Mdl.do; rw [if_pos (.inl h1)])
  refine c174 ⟨(hB2.no (Fr.refl _ _)).2, ?_⟩
  refine pv_i (not_b _) ?_
  refine pv_i (v := .bool _) rfl ?_
  by_cases hw : 0 ≤ who ∧ who ≤ 7
  rotate_left
  · rw [decide_eq_false hw, Bool.not_false, condC_t]
    refine pv_i (v := errV 1) rfl ?_
    exact err 1 w2 X1 g1 hB2 hm2 (by unfold Mdl.do; rw [if_pos (.inr hw)])
  rw [decide_eq_true hw, Bool.not_true, condC_f]
  have hd0 : ¬ (opBad x = true ∨ ¬ (0 ≤ who ∧ who ≤ 7)) := fun hh => by rcases hh with hh | hh <;> simp_all
  obtain ⟨us, hxv, hus', htt⟩ := id ho2
  subst hxv
  refine pv_i (v := .int .i64 x.kind) rfl ?_
  refine jn_or3 ?_
  dsimp only [upd]
  by_cases k1 : x.kind = 1 ∨ x.kind = 2 ∨ x.kind = 3
  · rw [decide_eq_true k1, condC_t]
    have hd : m.do who x = m.write x := by unfold Mdl.do; rw [if_neg hd0, if_pos k1]
    refine c175 hm2 hB2.ex.ok hp ho2 hu hz hn fun w3 g3 hm3 e3 => ?_
    refine ⟨hB2.kp e3 (List.prefix_refl p) hqn, ?_⟩
    refine fin _ w3 X1 g3 (hB2.step e3 (List.prefix_refl p)) (by rw [hd]; exact hm3) ?_
    rw [hd]
    have : (m.write x).2 = ⟨(m.write x).2.err, [], [], false⟩ := by unfold Mdl.write; split <;> rfl
    rw [this]; exact RepI.err ..
  rw [decide_eq_false k1, condC_f]
  refine pv_i eql_i ?_
  by_cases k2' : x.kind = 8
  · rw [decide_eq_true k2', condC_t]
    have hd : m.do who x = m.poll who := by unfold Mdl.do; rw [if_neg hd0, if_neg k1, if_pos k2']
    refine c176 hm2 hB2.ex.ok hp fun v w3 g3 hm3 hr3 e3 => ?_
    refine ⟨hB2.kp e3 (List.prefix_refl p) hqn, ?_⟩
    exact fin _ w3 X1 g3 (hB2.step e3 (List.prefix_refl p)) (by rw [hd]; exact hm3) (by rw [hd]; exact hr3)
  rw [decide_eq_false k2', condC_f]
  refine pv_i rfl ?_
  refine pv_i (v := .pointer (some ⟨b, 7, none⟩)) rfl ?_
  refine pv_i (v := .pointer (some ⟨b, 9, none⟩)) rfl ?_
  obtain ⟨bsv, fsv, ob, of, raws, fbs, hd2⟩ := id hm2
  refine ld_i (v := .bool m.t.shut) hd2.own rfl ?_
  cases hsh : m.t.shut with
  | true =>
    rw [condC_t]
    refine pv_i (v := errV 5) rfl ?_
    exact err 5 w2 X1 g1 hB2 hm2 (by unfold Mdl.do; rw [if_neg hd0, if_neg k1, if_neg k2', if_pos hsh])
  | false =>
  rw [condC_f]
  have hsh' : ¬ m.t.shut = true := by simp [hsh]
  refine jn_p (fun e u X => ∃ gu, Bx p q w g X u gu ∧ ModelR u gu p b (m.do who x).1 ∧ RepI u (ImG gu) (e 7) (m.do who x).2) ?_ ?_
  rotate_left
  · rintro e u X ⟨gu, hBu, hmu, hru⟩
    exact fin _ u X gu hBu hmu hru
  intro K hK
  refine pv_i (v := .int .i64 x.kind) rfl ?_
  refine pv_i eql_i ?_
  by_cases k3 : x.kind = 6
  · rw [decide_eq_true k3, condC_t]
    have hd : m.do who x = ((m.watch who x.user).1, ⟨(m.watch who x.user).2, [], [], false⟩) := by unfold Mdl.do; rw [if_neg hd0, if_neg k1, if_neg k2', if_neg hsh', if_pos k3]
    refine pv_i (v := .string x.user) rfl ?_
    intro w3 X3 y3
    obtain ⟨g3, hB3, hx3⟩ := hB2.sy y3
    refine c177 (hm2.gx hx3 hqa hq0) hB3.ex.ok hp hu hz hn fun w4 g4 hm4 e4 => ?_
    refine ⟨hB3.kp e4 (List.prefix_refl p) hqn, ?_⟩
    refine pv_i (v := errV (m.watch who x.user).2) rfl ?_
    refine hK _ _ _ ⟨g4, hB3.step e4 (List.prefix_refl p), by rw [hd]; exact hm4, ?_⟩
    rw [hd]; exact RepI.err ..
  rw [decide_eq_false k3, condC_f]
  refine pv_i eql_i ?_
  by_cases k4 : x.kind = 7
  · rw [decide_eq_true k4, condC_t]
    have hd : m.do who x = ({ m with fs := m.fs.set (m.stripe x.user) ((m.feed (m.stripe x.user)).unwatch who x.user) }, Rep.zero) := by unfold Mdl.do; rw [if_neg hd0, if_neg k1, if_neg k2', if_neg hsh', if_neg k3, if_pos k4]
    intro w3 X3 y3
    obtain ⟨g3, hB3, hx3⟩ := hB2.sy y3
    have hd3 := hd2.gx hx3 hqa hq0
    refine pv_i rfl ?_
    refine pv_i (v := .pointer (some ⟨b, 11, none⟩)) rfl ?_
    have fD := drewW_fr no w3
    obtain ⟨hB4, _⟩ := hB3.no fD
    have hd4 := hd3.no hB3.ex.ok fD
    generalize drewW w3 = w4 at fD hB4 hd4 ⊢
    refine ld_i hd4.own rfl ?_
    refine pv_i (v := .string x.user) rfl ?_
    refine pv_i (v := .string x.user) rfl ?_
    refine c178 ⟨_, _, own_blk hd4.own⟩ hd4.cr hu ?_
    have hsl := stripe_lt hd4.cr x.user
    obtain ⟨r0, k, c, f, i1, i2, i3, i4, i5, i6⟩ := hd4.at hsl
    rw [i6] at hd
    generalize m.stripe x.user = s at hd i1 i2 i3 i4 i5 i6 hsl ⊢
    refine ⟨(hB4.no (Fr.refl _ _)).2, pv_i rfl rfl, ⟨b, 11, _, rfl, own_blk hd4.own, rfl⟩, ?_⟩
    obtain ⟨a, ha, hl⟩ := hd4.ldf i3
    refine pv_i ha (hl _ ?_)
    have hfz := hz.2 f (List.mem_of_getElem? i4)
    refine c179 (hd4.fd _ _ _ i3 i4) hB4.ex.ok (by simp) (by omega) fun w5 hf5 e5 => ?_
    have hpi : p <+: p ++ [3, s] := List.prefix_append _ _
    refine ⟨hB4.kp e5 hpi hqn, ?_⟩
    refine hK _ _ _ ⟨g3, hB4.step e5 hpi, by rw [hd]; exact ⟨_, _, _, _, _, _, hd4.feed i3 hf5 e5⟩, ?_⟩
    rw [hd]; exact RepI.err ..
  rw [decide_eq_false k4, condC_f]
  refine pv_i eql_i ?_
  by_cases k5 : x.kind = 9
  · rw [decide_eq_true k5, condC_t]
    have hd : m.do who x = ({ m with t := m.t.close }, Rep.zero) := by unfold Mdl.do; rw [if_neg hd0, if_neg k1, if_neg k2', if_neg hsh', if_neg k3, if_neg k4, if_pos k5]
    refine pv_i rfl ?_
    refine pv_i (v := .pointer (some ⟨b, 7, none⟩)) rfl ?_
    refine la_i (xs := m.t.cells) hd2.own (by exact (by decide : 7 + 3 ≤ 12)) rfl ?_
    intro w3 X3 y3
    obtain ⟨g3, hB3, hx3⟩ := hB2.sy y3
    have hd3 := hd2.gx hx3 hqa hq0
    refine c180 fun w4 f4 => ?_
    obtain ⟨hB4, k4'⟩ := hB3.no f4
    refine ⟨k4', ?_⟩
    have hd4 := hd3.no hB3.ex.ok f4
    refine pv_i rfl ?_
    refine pv_i (v := .pointer (some ⟨b, 7, none⟩)) rfl ?_
    refine st_i hd4.own (by exact (by decide : 7 + 3 ≤ 12)) rfl rfl rfl fun w5 p5 => ?_
    obtain ⟨hd5, e5⟩ := hd4.put (t' := m.t.close) hB4.ex.ok hp p5 hd4.tk
    refine ⟨hB4.kp e5 (List.prefix_refl p) hqn, ?_⟩
    refine hK _ _ _ ⟨g3, hB4.step e5 (List.prefix_refl p), by rw [hd]; exact ⟨_, _, _, _, _, _, hd5⟩, ?_⟩
    rw [hd]; exact RepI.err ..
  rw [decide_eq_false k5, condC_f]
  have hd : m.do who x = (m, ⟨0, (usersOf x).map m.pres, [], false⟩) := by unfold Mdl.do; rw [if_neg hd0, if_neg k1, if_neg k2', if_neg hsh', if_neg k3, if_neg k4, if_neg k5]
  intro w3 X3 y3
  obtain ⟨g3, hB3, hx3⟩ := hB2.sy y3
  have hd3 := hd2.gx hx3 hqa hq0
  have ho3 := ho2.gx hq0 hx3
  refine c181 ho3 hul fun uv w4 uo us4 huo f4 => ?_
  obtain ⟨hB4, k4'⟩ := hB3.no f4
  refine ⟨k4', ?_⟩
  have hd4 := hd3.no hB3.ex.ok f4
  have hz3 := hB3.ex.size
  have hus4 : SlI w4 (ImG g3) 1 uv (usersOf x).length ((usersOf x).map Value.string) := us4.toI fun o ho => hB3.ex.ok o (huo o ho)
  have hkeys : ∀ s ∈ usersOf x, s.size < 2^62 := fun s hs => by
    unfold usersOf at hs
    split at hs
    · simp at hs; rw [hs]; exact hu
    · split at hs
      · exact hus s hs
      · simp at hs
  have hulen : (usersOf x).length ≤ 2^40 := by
    unfold usersOf
    split
    · simp
    · split
      · omega
      · simp
  refine pv_i hus4.lenV ?_
  refine lp_c (fun d e u X => ∃ (i : Nat) (g' : Gh) (pv_ : Value) (oj : Option Nat), d = (usersOf x).length - i ∧ i ≤ (usersOf x).length ∧ Bx p q w g X u g' ∧ MdR u g' p b m bsv fsv ob of raws fbs ∧ SlI u (ImG g') 1 uv (usersOf x).length ((usersOf x).map Value.string) ∧
      SlO u 3 150 pv_ i ((((usersOf x).take i).map m.pres).flatMap Pres.cells) oj ∧ (∀ o, oj = some o → g' o = p ++ [9] ∧ w.heap.size ≤ o) ∧ e 0 = .pointer (some ⟨b, 0, none⟩) ∧ e 7 = .agg #[.int .i64 0, pv_, .slice none 0 0, .bool false] ∧ e 41 = uv ∧ e 42 = .int .i64 (usersOf x).length ∧ e 43 = .int .i64 (i : Nat)) (usersOf x).length
    ⟨0, g3, .slice none 0 0, none, rfl, by omega, hB4, hd4, hus4, SlO.nil .., (fun o hh => by cases hh), rfl, rfl, rfl, rfl, rfl⟩ ?_
  rintro d e u X N ⟨i, g5, pvv, oj, rfl, hi, hB5, hd5, hus5, hpv, hoj, e0', e7, e41, e42, e43⟩ hN
  simp only [e0', e7, e41, e42, e43]
  refine pv_i lss_i ?_
  by_cases hlt : i < (usersOf x).length
  · rw [decide_eq_true (by omega), condC_t]
    obtain ⟨s, hs⟩ : ∃ s, (usersOf x)[i]? = some s := ⟨_, List.getElem?_eq_getElem hlt⟩
    obtain ⟨a, ha, hl⟩ := hus5.ld1' (i := (i : Nat)) (kd := .i64) (by omega) (by omega) (x := .string s) (by rw [Int.toNat_natCast, List.getElem?_map, hs]; rfl)
    refine pv_i ha ?_
    intro w6 X6 y6
    obtain ⟨g6, hB6, hx6⟩ := hB5.sy y6
    have hd6 := hd5.gx hx6 hqa hq0
    have hus6 := hus5.gx hq0 hx6
    have hpv6 := hpv.keep y6.fr (fun o ho hx => by have h1 := (hoj o ho).1; have h2 := (hB5.bx o hx).2.2; rw [h1] at h2; rw [← h2] at hq9; exact hq9 [] (by simp))
    have hoj6 : ∀ o, oj = some o → g6 o = p ++ [9] ∧ w.heap.size ≤ o := fun o ho => ⟨by rw [hx6.old o (hpv.lt o ho)]; exact (hoj o ho).1, (hoj o ho).2⟩
    obtain ⟨a', ha', hl'⟩ := hus6.ld1' (i := (i : Nat)) (kd := .i64) (by omega) (by omega) (x := .string s) (by rw [Int.toNat_natCast, List.getElem?_map, hs]; rfl)
    rw [ha] at ha'; cases ha'
    refine hl' _ ?_
    obtain ⟨pb, pc, rfl, _⟩ := id hpv6.row
    refine pv_i (v := .slice pb i pc) rfl ?_
    have fD := drewW_fr no w6
    obtain ⟨hB7, _⟩ := hB6.no fD
    have hd7 := hd6.no hB6.ex.ok fD
    have hus7 := hus6.ext fD
    have hpv7 := hpv6.keep fD (fun _ _ => no_not _)
    generalize drewW w6 = w7 at fD hB7 hd7 hus7 hpv7 ⊢
    refine c182 ⟨_, _, _, _, _, _, hd7⟩ hB7.ex.ok (hkeys s (List.mem_of_getElem? hs)) hz (by omega) fun w8 f8 => ?_
    obtain ⟨hB8, k8⟩ := hB7.no f8
    refine ⟨k8, pv_i rfl rfl, ?_⟩
    refine bs_i (cs := (m.pres s).cells) rfl rfl fun v9 w9 s9 f9 z9 => ?_
    refine ⟨pv_i rfl rfl, ?_⟩
    obtain ⟨base, cc, rfl, hrow⟩ := s9.row
    have f79 := f8.trans f9
    refine ap_o (hpv7.keep f79 (fun _ _ => no_not _)) hrow rfl (by decide) (by omega) rfl fun v10 w10 o10 s10 f10 ho10 => ?_
    obtain ⟨hB9, k9⟩ := hB8.no f9
    have hz9 := hB9.ex.size
    refine ⟨kp_fr f10 (fun b hb => (hB9.bx b hb).2.1) (fun b hb hh => ?_), ?_⟩
    · have h1 := (hoj6 b hh).1; have h2 := (hB9.bx b hb).2.2; rw [h1] at h2; rw [← h2] at hq9; exact hq9 [] (by simp)
    have hd9 := hd7.no hB7.ex.ok f79
    have e10 : Ex (p ++ [9]) w9 g6 w10 (fun c => if o10 = some c then p ++ [9] else g6 c) := by
      refine ⟨f10.mono fun c _ hh => ?_, fun c hc => ?_, fun c hc => ?_⟩
      · unfold Un; rw [(hoj6 c hh).1]; exact List.prefix_refl _
      · split
        · rename_i hh
          rcases ho10 c hh with h1 | h1
          · exact (hoj6 c h1).1.symm
          · omega
        · rfl
      · split
        · rename_i hh; have := s10.lt c hh; omega
        · exact hB9.ex.ok c (by have := f10.size; omega)
    have hp9 : p <+: p ++ [9] := List.prefix_append _ _
    have hB10 := hB9.step e10 hp9
    have hd10 := hd9.side e10 (by simp)
    have hus10 := (hus7.ext f79).gx (by simp) e10
    have hoj10 : ∀ o, o10 = some o → (fun c => if o10 = some c then p ++ [9] else g6 c) o = p ++ [9] ∧ w.heap.size ≤ o := fun o ho => by
      refine ⟨by simp only []; rw [if_pos ho], ?_⟩
      rcases ho10 o ho with h1 | h1
      · exact (hoj6 o h1).2
      · omega
    generalize (fun c => if o10 = some c then p ++ [9] else g6 c) = g10 at hB10 hd10 hus10 hoj10
    have hl10 := s10.len
    obtain ⟨nb, nc, rfl, _⟩ := id s10.row
    refine pv_i (v := .agg #[.int .i64 0, .slice nb (i + 1) nc, .slice none 0 0, .bool false]) rfl ?_
    refine pv_i (add1 (by omega)) ?_
    refine hN _ _ _ _ (by omega) ⟨i + 1, g10, _, o10, rfl, by omega, hB10, hd10, hus10, ?_, hoj10, rfl, rfl, rfl, rfl, rfl⟩
    have htk : (usersOf x).take (i + 1) = (usersOf x).take i ++ [s] := by
      rw [List.take_succ_eq_append_getElem hlt]
      rw [List.getElem?_eq_getElem hlt] at hs
      rw [Option.some.inj hs]
    rw [htk, List.map_append, List.flatMap_append]
    simpa using s10
  · have : i = (usersOf x).length := by omega
    subst this
    rw [decide_eq_false (by omega), condC_f]
    rw [List.take_length] at hpv
    refine hK _ _ _ ⟨reg oj g5, hB5.rg hoj (fun hh => by rw [hh] at hq9; exact hq9 [] (by simp)), by rw [hd]; exact ⟨_, _, _, _, _, _, hd5.rg fun c hc => (hoj c hc).1⟩, ?_⟩
    rw [hd]
    exact ⟨pvv, _, rfl, by rw [List.length_map]; exact hpv.toI fun o ho => by unfold ImG reg; rw [if_pos ho], SlI.nil ..⟩
end
end Go.Dm
/-! New tables. -/
namespace Go.Dm
open Go Go.Proofs
variable {w : World} {R : Value → World → Prop} {Im : Nat → Prop}

theorem repL_two : ∀ n, repL n [Value.slice none 0 0, Value.slice none 0 0] = (List.replicate n (Value.slice none 0 0, Value.slice none 0 0)).flatMap two
  | 0 => rfl
  | n + 1 => by unfold repL; rw [repL_two n, List.replicate_succ, List.flatMap_cons]; rfl

theorem c60 {g : Gh} {p : List Nat} {c : Cfg} (hok : GhOk w g) (hp : p ≠ []) (hst : c.start ≤ maxU) (h0 : c.right = false → ∀ w', Fr no w w' → R (.tuple #[.pointer none, .int .i64 1]) w')
    (h1 : c.right = true → ∀ b w' g', w.heap.size ≤ b → ModelR w' g' p b (newMdl c) → Nx w g w' g' → R (.tuple #[.pointer (some ⟨b, 0, none⟩), .int .i64 0]) w') : CallsR Tryz.prog 60 #[c.v] w R := by
  apply sh60; unfold S60
  refine ⟨rfl, ?_⟩
  intro w1 X1 y1
  have hB := (Bn.start w).sy y1
  refine c139 fun w2 f2 => ?_
  have hB2 := hB.no f2
  refine ⟨hB.kp f2, ?_⟩
  refine pv_i (not_b _) ?_
  cases hr : c.right with
  | false =>
    rw [Bool.not_false, condC_t]
    exact h0 hr w2 hB2.fr
  | true =>
  have h1 := h1 hr
  rw [Bool.not_true, condC_f]
  have hc := Cfg.right_i hr
  refine pv_i (v := .int .u64 c.start) rfl ?_
  refine pv_i (v := (⟨c.start, 0, false⟩ : Tm).v) rfl ?_
  refine pv_i (v := .int .i64 c.stripes) rfl ?_
  have hB3 := hB2.no (drewW_fr no w2)
  have hsz3 : (drewW w2).heap.size = w2.heap.size := rfl
  generalize drewW w2 = w3 at hB3 hsz3 ⊢
  obtain ⟨n, hn⟩ : ∃ n : Nat, c.stripes = (n : Int) := ⟨c.stripes.toNat, by omega⟩
  obtain ⟨qn, hqn⟩ : ∃ n : Nat, c.queue = (n : Int) := ⟨c.queue.toNat, by omega⟩
  rw [hn]
  have hnm : newMdl c = ⟨c, ⟨c.start, 0, false⟩, List.replicate n [], List.replicate n (newFeed qn)⟩ := by unfold newMdl; rw [hn, hqn]; rfl
  refine ms_i (by omega) (by omega) fun bsv w4 s4 f4 z4 => ?_
  rw [show ([Value.slice none 0 0, Value.slice none 0 0] : List Value).length = 2 from rfl, repL_two] at s4
  refine ⟨pv_i rfl rfl, rfl, ?_⟩
  obtain ⟨bb, bc, rfl, _⟩ := id s4.row
  refine pv_i (v := .agg (c.cells ++ (⟨c.start, 0, false⟩ : Tm).cells ++ [Value.slice bb n bc, Value.slice none 0 0]).toArray) (by unfold Cfg.v Cfg.cells; rw [hn]; rfl) ?_
  refine al_i fun b w5 n5 => ?_
  have e5 := n5.eq; have z5 := n5.size
  rw [jnB_e]
  refine pv_i (v := .int .i64 n) (by rw [← hn]; rfl) ?_
  have hB5 := (hB3.no f4).no n5.fr
  have hbs5 := s4.keep n5.fr (fun _ _ => no_not _)
  have hb5 : own w5 b = some (c.cells ++ (⟨c.start, 0, false⟩ : Tm).cells ++ [Value.slice bb n bc, Value.slice none 0 0]) := n5.own
  have hz3 := hB3.fr.size
  have hgx : Nx w g w5 (fun x => if x = w3.heap.size then p ++ [1] else if x = b then p else g x) := by
    refine ⟨hB5.fr, fun x hx => ?_, fun x hx => ?_⟩
    · rw [if_neg (by omega), if_neg (by omega)]
    · rw [if_neg (by omega), if_neg (by omega)]; exact hok x (by omega)
  have hg1 : (fun x => if x = w3.heap.size then p ++ [1] else if x = b then p else g x) w3.heap.size = p ++ [1] := by simp
  have hg2 : (fun x => if x = w3.heap.size then p ++ [1] else if x = b then p else g x) b = p := by simp only []; rw [if_neg (by omega)]; simp
  generalize (fun x => if x = w3.heap.size then p ++ [1] else if x = b then p else g x) = g5 at hgx hg1 hg2
  refine lp_c (fun d e u X => ∃ (i : Nat) (g' : Gh) (fbs : List Nat) (fsv : Value) (oj : Option Nat), d = n - i ∧ i ≤ n ∧ X = X1 ∧ Bn w X u ∧ Nx w g u g' ∧ g' w3.heap.size = p ++ [1] ∧ g' b = p ∧ own u b = some (c.cells ++ (⟨c.start, 0, false⟩ : Tm).cells ++ [Value.slice bb n bc, fsv]) ∧
      SlO u 2 192 (.slice bb n bc) n ((List.replicate n (Value.slice none 0 0, Value.slice none 0 0)).flatMap two) (some w3.heap.size) ∧ SlO u 1 186 fsv i (fbs.map ptr) oj ∧ (∀ o, oj = some o → g' o = p ++ [2] ∧ w5.heap.size ≤ o) ∧ fbs.length = i ∧
      (∀ (j x : Nat), fbs[j]? = some x → FeedR u g' (p ++ [3, j]) x (newFeed qn)) ∧ w5.heap.size ≤ u.heap.size ∧ e 1 = c.v ∧ e 4 = .pointer (some ⟨b, 0, none⟩) ∧ e 18 = .int .i64 n ∧ e 19 = .int .i64 (i : Nat)) n
    ⟨0, g5, [], .slice none 0 0, none, rfl, by omega, rfl, hB5, hgx, hg1, hg2, hb5, hbs5, SlO.nil .., (fun o hh => by cases hh), rfl, (fun j x hx => by simp at hx), Nat.le_refl _, rfl, rfl, rfl, rfl⟩ ?_
  rintro d e u X N ⟨i, g1, fbs, fsv, oj, rfl, hi, rfl, hBu, hx, hgb, hgm, ho, hbs, hfs, hoj, hfl, hfd, hzu, e1, e4, e18, e19⟩ hN
  simp only [e1, e4, e18, e19]
  refine pv_i lss_i ?_
  by_cases hlt : i < n
  · rw [decide_eq_true (by omega), condC_t]
    refine pv_i rfl ?_
    refine pv_i (v := .pointer (some ⟨b, 11, none⟩)) rfl ?_
    have fD := drewW_fr no u
    have hB6 := hBu.no fD
    have k6 := hBu.kp fD
    have hx6 := hx.trans (Nx.of_no hx.ok fD)
    have ho6 := fD.own ho id
    have hbs6 := hbs.keep fD (fun _ _ => no_not _)
    have hfs6 := hfs.keep fD (fun _ _ => no_not _)
    have hfd6 : ∀ (j x : Nat), fbs[j]? = some x → FeedR (drewW u) g1 (p ++ [3, j]) x (newFeed qn) := fun j x hj => (hfd j x hj).no fD
    have hz6 : w5.heap.size ≤ (drewW u).heap.size := hzu
    generalize drewW u = u6 at fD hB6 k6 hx6 ho6 hbs6 hfs6 hfd6 hz6 ⊢
    refine ld_i ho6 rfl ?_
    refine pv_i (v := .int .i64 qn) (by unfold Cfg.v Cfg.cells; rw [hqn]; rfl) ?_
    refine c141 (p := p ++ [3, i]) hx6.ok (by simp) (by omega) fun fc w7 g7 hfc hf7 x7 => ?_
    have hB7 := hB6.no x7.fr
    refine ⟨hB6.kp x7.fr, ⟨b, 11, _, rfl, own_blk (x7.fr.own ho6 id), rfl⟩, ?_⟩
    have ho7 := x7.fr.own ho6 id
    refine bs_i (cs := [ptr fc]) rfl rfl fun v8 w8 s8 f8 z8 => ?_
    have ho8 := f8.own ho7 id
    refine ⟨⟨b, 11, _, rfl, own_blk ho8, rfl⟩, ?_⟩
    obtain ⟨base, cc, rfl, hrow⟩ := s8.row
    have f78 := x7.fr.trans f8
    have hB8 := hB7.no f8
    have hoj7 : ∀ o, oj = some o → g7 o = p ++ [2] ∧ w5.heap.size ≤ o := fun o ho' => ⟨by rw [x7.old o (hfs6.lt o ho')]; exact (hoj o ho').1, (hoj o ho').2⟩
    refine ap_o (hfs6.keep f78 (fun _ _ => no_not _)) hrow rfl (by decide) (by omega) rfl fun v9 w9 o9 s9 f9 ho9 => ?_
    have hXlt : ∀ x, X x → x < w3.heap.size := fun x hx => by have := hB3.lt x hx; omega
    have hz78 := f78.size; have hz9 := f9.size
    refine ⟨kp_fr f9 hB8.lt (fun x hx hh => by have h1 := (hoj x hh).2; have h2 := hXlt x hx; omega), ?_⟩
    have hbne : ¬ oj = some b := fun hh => by have := (hoj b hh).2; omega
    have hob9 := f9.own ho8 hbne
    refine pv_i rfl ?_
    refine pv_i (v := .pointer (some ⟨b, 11, none⟩)) rfl ?_
    have hx8 : Nx w g w8 g7 := (hx6.trans x7).trans (Nx.of_no x7.ok f8)
    refine st_i (ds := c.cells ++ (⟨c.start, 0, false⟩ : Tm).cells ++ [Value.slice bb n bc, v9]) hob9 (by exact (by decide : 11 + 1 ≤ 12)) (by rw [cells_one s9.one]; rfl) (by rw [cells_one s9.one]; simpa using s9.one) (by rw [cells_one s9.one]; rfl) fun w10 p10 => ?_
    have hz10 := p10.size
    have hB9 : Bn w X w9 := ⟨hB8.fr.trans' f9 (fun x hx hh => by have := (hoj x hh).2; omega), hB8.ge, fun x hx => Nat.lt_of_lt_of_le (hB8.lt x hx) f9.size⟩
    refine ⟨kp_fr p10.fr hB9.lt (fun x hx hh => by unfold one at hh; have := hXlt x hx; omega), ?_⟩
    refine pv_i (add1 (by omega)) ?_
    -- owners
    have e9 : Ex (p ++ [2]) w8 g7 w9 (fun x => if o9 = some x then p ++ [2] else g7 x) := by
      refine ⟨f9.mono fun x _ hh => ?_, fun x hx => ?_, fun x hx => ?_⟩
      · unfold Un; rw [(hoj7 x hh).1]; exact List.prefix_refl _
      · split
        · rename_i hh
          rcases ho9 x hh with h1 | h1
          · exact (hoj7 x h1).1.symm
          · omega
        · rfl
      · split
        · rename_i hh; have := s9.lt x hh; omega
        · exact hx8.ok x (by omega)
    have ho9' : ∀ o, o9 = some o → w5.heap.size ≤ o := fun o hh => by
      rcases ho9 o hh with h1 | h1
      · exact (hoj o h1).2
      · omega
    have hx9 : Nx w g w9 (fun x => if o9 = some x then p ++ [2] else g7 x) := by
      refine ⟨hB9.fr, fun x hx => ?_, e9.ok⟩
      rw [if_neg (fun hh => by have := ho9' x hh; omega)]; exact hx8.old x hx
    have hoj9 : ∀ o, o9 = some o → (fun x => if o9 = some x then p ++ [2] else g7 x) o = p ++ [2] ∧ w5.heap.size ≤ o := fun o hh => ⟨by simp only []; rw [if_pos hh], ho9' o hh⟩
    have hgm9 : (fun x => if o9 = some x then p ++ [2] else g7 x) b = p := by
      simp only []; rw [if_neg (fun hh => by have := ho9' b hh; omega), x7.old b (own_lt ho6)]; exact hgm
    have hgb9 : (fun x => if o9 = some x then p ++ [2] else g7 x) w3.heap.size = p ++ [1] := by
      simp only []; rw [if_neg (fun hh => by have := ho9' _ hh; omega), x7.old _ (by omega)]; exact hgb
    have hap : ∀ j, Apart (p ++ [2]) (p ++ [3, j]) := fun j s hh => by
      rw [List.append_assoc, List.prefix_append_right_inj] at hh; simp at hh
    have hfd9 : ∀ (j x : Nat), (fbs ++ [fc])[j]? = some x → FeedR w9 (fun x => if o9 = some x then p ++ [2] else g7 x) (p ++ [3, j]) x (newFeed qn) := fun j x hj => by
      rcases Nat.lt_or_ge j fbs.length with hh | hh
      · rw [List.getElem?_append_left hh] at hj
        exact (((hfd6 j x hj).nx x7).no f8).gx e9 (hap j) (by simp)
      · rw [List.getElem?_append_right hh] at hj
        have : j - fbs.length = 0 := by
          rcases Nat.eq_zero_or_pos (j - fbs.length) with h0 | h0
          · exact h0
          · rw [List.getElem?_eq_none (by simp; omega)] at hj; cases hj
        rw [this] at hj; cases hj
        have : j = i := by omega
        subst this
        exact (hf7.no f8).gx e9 (hap j) (by simp)
    generalize (fun x => if o9 = some x then p ++ [2] else g7 x) = g9 at e9 hx9 hoj9 hgm9 hgb9 hfd9
    refine hN _ _ _ _ (by omega) ⟨i + 1, g9, fbs ++ [fc], v9, o9, rfl, by omega, rfl, ⟨hB9.fr.own1 p10.fr (by omega), hB9.ge, fun x hx => by rw [hz10]; exact hB9.lt x hx⟩, hx9.pt p10 (by omega), hgb9, hgm9, p10.own, ?_, ?_, hoj9, by simp [hfl], fun j x hj => ?_, by omega, rfl, rfl, rfl, rfl⟩
    · exact ((hbs6.keep f78 (fun _ _ => no_not _)).keep f9 (fun o hh hx => by cases hh; have := (hoj _ hx).2; omega)).keep p10.fr (fun o hh hx => by unfold one at hx; cases hh; omega)
    · rw [List.map_append]
      exact s9.keep p10.fr (fun o hh hx => by unfold one at hx; have := ho9' o hh; omega)
    · refine (hfd9 j x hj).ptp hx9.ok p10 (fun s hh => ?_) (by rw [hgm9]; exact hp)
      rw [hgm9] at hh; have := congrArg List.length hh; simp at this
  · have : i = n := by omega
    subst this
    rw [decide_eq_false (by omega), condC_f]
    refine h1 b u g1 (by omega) ⟨.slice bb i bc, fsv, some w3.heap.size, oj, List.replicate i (Value.slice none 0 0, Value.slice none 0 0), fbs, ?_⟩ hx
    rw [hnm]
    refine ⟨hgm, ho, by rw [List.length_replicate]; exact hbs, (fun o hh => by cases hh; exact hgb), by simp, fun j r k hr hk => ?_, by rw [hfl]; exact hfs, fun o hh => (hoj o hh).1, by simp [hfl], fun j x f hx hf => ?_, by simp [hn], by simp [hn], hr, ⟨hst, Nat.zero_le _⟩⟩
    · have a1 := List.eq_of_mem_replicate (List.mem_of_getElem? hr)
      have a2 := List.eq_of_mem_replicate (List.mem_of_getElem? hk)
      rw [a1, a2]; exact BookI.zero _
    · have a2 := List.eq_of_mem_replicate (List.mem_of_getElem? hf)
      rw [a2]; exact hfd j x hx
end Go.Dm
