/- A part of the proof that doormanlaw21.LinOpen returns true for every input, on no condition. -/
import Derived.Test.YtbfajkpjilhkgaaGreatG3
set_option linter.unusedVariables false
set_option linter.unusedSimpArgs false
set_option linter.deprecated false
/-! Tables written and swept. -/
namespace Go.Dm
open Go Go.Proofs
variable {w : World} {R : Value → World → Prop} {Im : Nat → Prop}

theorem jn_p {A : NT → Prop} {K : NT} (P : NT) (h : ∀ K' : NT, (∀ e w X, P e w X → K' e w X) → A K') (hk : ∀ e w X, P e w X → K e w X) : jnB A K := h K hk
theorem ld_of {w : World} {ag : Bool} {k : Nat} {o : Option Value} {a v : Value} (h : ∃ a, o = some a ∧ ∀ K : Value → Prop, K v → ldC w ag k a K) (ha : o = some a) : Ld w ag k a v := by
  obtain ⟨a', h1, h2⟩ := h
  rw [h1] at ha; cases ha
  obtain ⟨v', hv, rfl⟩ := h2 (fun x => x = v) rfl
  exact hv
def errV (e : Int) : Value := .agg #[.int .i64 e, .slice none 0 0, .slice none 0 0, .bool false]
theorem mGet_mem {α : Type} : ∀ {m : Mp α} {k : ByteArray} {v : α}, mGet m k = some v → (k, v) ∈ m
  | (a, x) :: m, k, v, h => by
    unfold mGet at h
    split at h
    · rename_i hak; cases h; rw [hak]; exact List.mem_cons_self ..
    · exact List.mem_cons_of_mem _ (mGet_mem h)
theorem entOf_le {k : Book} {n : Nat} (h : ∀ e ∈ k, e.2.ss.length ≤ n) (u : ByteArray) : (entOf k u).ss.length ≤ n := by
  unfold entOf
  cases hg : mGet k u with
  | none => exact Nat.zero_le _
  | some e => exact h _ (mGet_mem hg)

section
variable {g : Gh} {p : List Nat} {b : Nat} {m : Mdl}
theorem c175 {xv : Value} {x : OpP} {n : Nat} (hm : ModelR w g p b m) (hok : GhOk w g) (hp : p ≠ []) (hx : OpI w (ImG g) xv x) (hu : x.user.size < 2^62) (hz : m.sz n) (hn : n < 2^28)
    (h : ∀ w' g', ModelR w' g' p b (m.write x).1 → Ex p w g w' g' → R (errV (m.write x).2.err) w') : CallsR Tryz.prog 175 #[.pointer (some ⟨b, 0, none⟩), xv] w R := by
  apply sh175; unfold S175
  have hq0 := beside_ne p
  have hqa := beside_apart hp
  have hqn := beside_not hp
  generalize beside p = q at hq0 hqa hqn
  refine ⟨hx.ok, ?_⟩
  intro w1 X1 y1
  obtain ⟨g1, hB1, hx1⟩ := (Bx.start (p := p) (q := q) hok).sy y1
  have hm1 := hm.gx hx1 hqa hq0
  have ho1 := hx.gx hq0 hx1
  refine c194 hm1 hB1.ex.ok hp fun w3 hm3 e3 => ?_
  refine ⟨hB1.kp e3 (List.prefix_refl p) hqn, ?_⟩
  have hB3 := hB1.step e3 (List.prefix_refl p)
  have ho3 := ho1.gx hp e3
  refine pv_i rfl ?_
  refine pv_i (v := .pointer (some ⟨b, 7, none⟩)) rfl ?_
  refine pv_i (v := .pointer (some ⟨b, 9, none⟩)) rfl ?_
  obtain ⟨bsv, fsv, ob, of, raws, fbs, hd3⟩ := id hm3
  refine ld_i (v := .bool m.t.shut) hd3.own rfl ?_
  cases hsh : m.t.shut with
  | true =>
    rw [condC_t]
    have hmw : m.write x = ({ m with t := m.t.take }, ⟨5, [], [], false⟩) := by unfold Mdl.write; rw [if_pos hsh]
    rw [hmw] at h
    refine pv_i (v := errV 5) rfl ?_
    refine ⟨rfl, ?_⟩
    intro w4 X4 y4
    obtain ⟨g4, hB4, hx4⟩ := hB3.sy y4
    exact h w4 g4 (hm3.gx hx4 hqa hq0) hB4.ex
  | false =>
    rw [condC_f]
    have hmw : m.write x = ({ m with t := m.t.take, bs := m.bs.set (m.stripe x.user) (bWrite (m.book (m.stripe x.user)) x m.t.now m.c.sessions).1, fs := m.fs.set (m.stripe x.user) ((m.feed (m.stripe x.user)).tell (bWrite (m.book (m.stripe x.user)) x m.t.now m.c.sessions).2.1 m.t.take.seq) }, ⟨(bWrite (m.book (m.stripe x.user)) x m.t.now m.c.sessions).2.2, [], [], false⟩) := by unfold Mdl.write; rw [if_neg (by simp [hsh])]
    rw [hmw] at h
    have hxu : fieldV false 1 1 xv = some (.string x.user) := by obtain ⟨us, rfl, _⟩ := hx; rfl
    refine pv_i hxu ?_
    have hcr := hd3.cr
    refine c178 (m := { m with t := m.t.take }) ⟨_, _, own_blk hd3.own⟩ hcr hu ?_
    refine ⟨(hB3.no (Fr.refl _ _)).2, ?_⟩
    have hsl := stripe_lt hcr x.user
    obtain ⟨r0, k, c, f, h1, h2, h3, h4, h5, h6⟩ := hd3.at hsl
    have h5 : m.book (m.stripe x.user) = k := h5
    have h6 : m.feed (m.stripe x.user) = f := h6
    have hst : ({ m with t := m.t.take } : Mdl).stripe x.user = m.stripe x.user := rfl
    rw [hst] at h1 h2 h3 h4 hsl ⊢
    rw [h5, h6] at h
    generalize m.stripe x.user = s at h h1 h2 h3 h4 h5 h6 hsl ⊢
    have hkz := hz.1 k (List.mem_of_getElem? h2)
    have hez := entOf_le hkz.2 x.user
    generalize hr : bWrite k x m.t.now m.c.sessions = r at h
    have hrl : r.2.1.length ≤ 1 := by rw [← hr]; unfold bWrite; exact (settle_len _ _ _ _).2
    refine jn_p (fun e u X => ∃ gu v' cv, Bx p q w g X u gu ∧ MdR u gu p b { m with t := m.t.take } bsv fsv ob of raws fbs ∧ BookI u (ImG gu) v' r.1 ∧ ChgI u (ImG gu) cv r.2.1 ∧ e 0 = .pointer (some ⟨b, 0, none⟩) ∧ e 5 = .int .u64 m.t.take.seq ∧ e 6 = .int .i64 (s : Nat) ∧ e 7 = v' ∧ e 8 = cv ∧ e 9 = .int .i64 r.2.2) ?_ ?_
    · intro K hK
      refine pv_i rfl ?_
      refine pv_i (v := .pointer (some ⟨b, 10, none⟩)) rfl ?_
      refine pv_i rfl ?_
      refine pv_i (v := .pointer (some ⟨b, 7, none⟩)) rfl ?_
      refine pv_i (v := .pointer (some ⟨b, 7, none⟩)) rfl ?_
      refine pv_i rfl ?_
      refine pv_i (v := .pointer (some ⟨b, 0, none⟩)) rfl ?_
      refine pv_i (v := .pointer (some ⟨b, 1, none⟩)) rfl ?_
      have fD := drewW_fr no w3
      obtain ⟨hB4, _⟩ := hB3.no fD
      have hd4 := hd3.no hB3.ex.ok fD
      have ho4 := ho3.ext fD
      generalize drewW w3 = w4 at fD hB4 hd4 ho4 ⊢
      refine ld_i hd4.own rfl ?_
      obtain ⟨a, ha, hl⟩ := hd4.ldb h1
      refine pv_i ha (hl _ ?_)
      refine ld_i (v := .int .u64 m.t.now) hd4.own rfl ?_
      refine ld_i (v := .int .i64 m.c.sessions) hd4.own rfl ?_
      -- what comes of it
      have run : ∀ (u : World) (X : Nat → Prop) (gu : Gh), Bx p q w g X u gu → MdR u gu p b { m with t := m.t.take } bsv fsv ob of raws fbs → OpI u (ImG gu) xv x → ∀ (Q : Value → World → Prop),
          (∀ v' cv u', Fr no u u' → BookI u' (ImG gu) v' r.1 → ChgI u' (ImG gu) cv r.2.1 → Q (.tuple #[v', cv, .int .i64 r.2.2]) u') → CallsR Tryz.prog 253 #[.agg #[r0.1, r0.2], xv, .int .u64 m.t.now, .int .i64 m.c.sessions] u Q := by
        intro u X gu hBu hdu hou Q hQ
        refine c253 (hdu.bk _ _ _ h1 h2) hou hdu.tk.1 (by omega) (by omega) (GhOk.im hBu.ex.ok) fun v' cv u' hb hc fu => ?_
        rw [hr] at hb hc ⊢
        exact hQ v' cv u' fu hb hc
      refine ⟨?_, ?_⟩
      · refine run w4 X1 g1 hB4 hd4 ho4 _ fun v' cv w5 f5 hb hc => ?_
        obtain ⟨hB5, k5⟩ := hB4.no f5
        have hd5 := hd4.no hB4.ex.ok f5
        refine ⟨k5, ?_⟩
        refine pv_i (ext3a _ _ _) (pv_i (ext3b _ _ _) (pv_i (ext3c _ _ _) ?_))
        refine ⟨⟨b, 1, _, rfl, own_blk hd5.own, rfl⟩, ⟨b, 7, _, rfl, own_blk hd5.own, rfl⟩, rfl, ?_, ⟨b, 10, _, rfl, own_blk hd5.own, rfl⟩, hb.ok, ?_⟩
        · exact ld_of (hd5.ldb h1) ha
        · exact hK _ _ _ ⟨g1, v', cv, hB5, hd5, hb, hc, rfl, rfl, rfl, rfl, rfl, rfl⟩
      · refine ⟨⟨b, 1, _, rfl, own_blk hd4.own, rfl⟩, ⟨b, 7, _, rfl, own_blk hd4.own, rfl⟩, rfl, ?_, ⟨b, 10, _, rfl, own_blk hd4.own, rfl⟩, ?_⟩
        · exact ld_of (hd4.ldb h1) ha
        intro w5 X5 y5
        obtain ⟨g5, hB5, hx5⟩ := hB4.sy y5
        have hd5 := hd4.gx hx5 hqa hq0
        refine run w5 X5 g5 hB5 hd5 (ho4.gx hq0 hx5) _ fun v' cv w6 f6 hb hc => ?_
        obtain ⟨hB6, k6⟩ := hB5.no f6
        refine ⟨k6, ?_⟩
        refine pv_i (ext3a _ _ _) (pv_i (ext3b _ _ _) (pv_i (ext3c _ _ _) ?_))
        exact ⟨hb.ok, hK _ _ _ ⟨g5, v', cv, hB6, hd5.no hB5.ex.ok f6, hb, hc, rfl, rfl, rfl, rfl, rfl, rfl⟩⟩
    · rintro e u X ⟨gu, v', cv, hBu, hdu, hb, hc, e0', e5, e6, e7, e8, e9⟩
      simp only [e0', e5, e6, e7, e8, e9]
      intro w5 X5 y5
      obtain ⟨g5, hB5, hx5⟩ := hBu.sy y5
      have hd5 := hdu.gx hx5 hqa hq0
      have hb5 := hb.gx hq0 hx5
      have hc5 : ChgI w5 (ImG g5) cv r.2.1 := SlI.gx hc hq0 hx5
      refine pv_i rfl ?_
      refine pv_i (v := .pointer (some ⟨b, 10, none⟩)) rfl ?_
      have fD := drewW_fr no w5
      obtain ⟨hB6, _⟩ := hB5.no fD
      have hd6 := hd5.no hB5.ex.ok fD
      have hb6 := hb5.ext fD
      have hc6 : ChgI _ (ImG g5) cv r.2.1 := SlI.ext hc5 fD
      generalize drewW w5 = w6 at fD hB6 hd6 hb6 hc6 ⊢
      refine ld_i hd6.own rfl ?_
      obtain ⟨ks, vs, rfl, hks, hvs⟩ := hb6.two
      have hsr : s < raws.length := by
        rcases Nat.lt_or_ge s raws.length with hh | hh
        · exact hh
        · rw [List.getElem?_eq_none hh] at h1; cases h1
      obtain ⟨a, ha, hl⟩ := hd6.bs.stk (kd := .i64) hsr (x := .agg #[ks, vs]) rfl (agg2_one hks hvs)
      refine pv_i ha (hl _ fun w7 s7 f7 => ?_)
      obtain ⟨hd7, e7'⟩ := hd6.book hB6.ex.ok hp hsr hb6 s7 f7
      refine ⟨hB6.kp e7' (List.prefix_refl p) hqn, ?_⟩
      have hB7 := hB6.step e7' (List.prefix_refl p)
      have hc7 : ChgI w7 (ImG g5) cv r.2.1 := SlI.gx hc6 hp e7'
      refine pv_i rfl ?_
      refine pv_i (v := .pointer (some ⟨b, 11, none⟩)) rfl ?_
      refine ld_i hd7.own rfl ?_
      obtain ⟨a2, ha2, hl2⟩ := hd7.ldf h3
      refine pv_i ha2 (hl2 _ ?_)
      have hfz := hz.2 f (List.mem_of_getElem? h4)
      refine c196 (hd7.fd _ _ _ h3 h4) hB7.ex.ok (by simp) hc7 (by omega) (by omega) fun w8 g8 hf8 e8' => ?_
      have hpi : p <+: p ++ [3, s] := List.prefix_append _ _
      refine ⟨hB7.kp e8' hpi hqn, ?_⟩
      have hB8 := hB7.step e8' hpi
      have hd8 := hd7.feed h3 hf8 e8'
      refine pv_i (v := errV r.2.2) rfl ?_
      refine ⟨rfl, ?_⟩
      intro w9 X9 y9
      obtain ⟨g9, hB9, hx9⟩ := hB8.sy y9
      exact h w9 g9 ⟨_, _, _, _, _, _, hd8.gx hx9 hqa hq0⟩ hB9.ex

theorem c83 {s : Int} {n : Nat} (hm : ModelR w g p b m) (hok : GhOk w g) (hp : p ≠ []) (hz : m.sz n) (hn : n < 2^28)
    (h : ∀ w' g', ModelR w' g' p b (m.sweep s) → Ex p w g w' g' → R (.tuple #[]) w') : CallsR Tryz.prog 83 #[.pointer (some ⟨b, 0, none⟩), .int .i64 s] w R := by
  apply sh83; unfold S83
  obtain ⟨bsv, fsv, ob, of, raws, fbs, hd⟩ := id hm
  unfold Mdl.sweep at h
  have hbl := hd.bl
  refine pv_i lss_i ?_
  refine or_gB (fun h1 => ?_) (fun h1 => ?_)
  · have h1 := of_decide_eq_true h1
    rw [if_pos (.inl h1)] at h
    rw [condC_t]
    exact h w g hm (Ex.refl hok)
  have h1 := of_decide_eq_false h1
  refine pv_i rfl ?_
  refine pv_i (v := .pointer (some ⟨b, 10, none⟩)) rfl ?_
  refine ld_i hd.own rfl ?_
  refine pv_i hd.bs.lenV ?_
  refine pv_i geq_i ?_
  refine pv_i (v := .bool _) rfl ?_
  by_cases h2 : (raws.length : Int) ≤ s
  · rw [if_pos (.inr (by omega))] at h
    rw [decide_eq_true h2, condC_t]
    exact h w g hm (Ex.refl hok)
  rw [if_neg (by omega)] at h
  rw [decide_eq_false h2, condC_f]
  obtain ⟨s, rfl⟩ := Int.eq_ofNat_of_zero_le (by omega : 0 ≤ s)
  rw [Int.toNat_natCast] at h
  refine c194 hm hok hp fun w1 hm1 e1 => ?_
  obtain ⟨bsv, fsv, ob, of, raws, fbs, hd1⟩ := id hm1
  refine pv_i rfl ?_
  refine pv_i (v := .pointer (some ⟨b, 10, none⟩)) rfl ?_
  refine pv_i rfl ?_
  refine pv_i (v := .pointer (some ⟨b, 10, none⟩)) rfl ?_
  refine pv_i rfl ?_
  refine pv_i (v := .pointer (some ⟨b, 7, none⟩)) rfl ?_
  refine pv_i (v := .pointer (some ⟨b, 7, none⟩)) rfl ?_
  have e2 : Ex p w g (drewW w1) g := e1.trans (Ex.of_no e1.ok (drewW_fr _ _))
  have hd2 := hd1.no e1.ok (drewW_fr no w1)
  generalize drewW w1 = w2 at e2 hd2 ⊢
  have hsl : s < m.c.stripes.toNat := by have := hd2.n1; have h3 := hd.n1; simp only [] at this; omega
  obtain ⟨r0, k, c, f, k1, k2, k3, k4, k5, k6⟩ := hd2.at hsl
  have k5 : m.book s = k := k5
  have k6 : m.feed s = f := k6
  rw [k5, k6] at h
  refine ld_i hd2.own rfl ?_
  refine ld_i hd2.own rfl ?_
  obtain ⟨a, ha, hl⟩ := hd2.ldb k1
  refine pv_i ha (hl _ ?_)
  refine ld_i (v := .int .u64 m.t.now) hd2.own rfl ?_
  have hkz := hz.1 k (List.mem_of_getElem? k2)
  refine c195 (hd2.bk _ _ _ k1 k2) (by omega) (GhOk.im e2.ok) fun v' cv w3 hb3 hc3 f3 => ?_
  have hd3 := hd2.no e2.ok f3
  have e3 := e2.trans (Ex.of_no e2.ok f3)
  have hrl : (bSweep k m.t.now).2.length ≤ k.length := by rw [← swTo_all]; exact (swTo_len _ _ _).2
  generalize bSweep k m.t.now = r at h hb3 hc3 hrl
  refine ⟨⟨b, 10, _, rfl, own_blk hd3.own, rfl⟩, ?_⟩
  refine pv_i (ext2a _ _) (pv_i (ext2b _ _) ?_)
  obtain ⟨ks, vs, rfl, hks, hvs⟩ := hb3.two
  have hsr : s < raws.length := by
    rcases Nat.lt_or_ge s raws.length with hh | hh
    · exact hh
    · rw [List.getElem?_eq_none hh] at k1; cases k1
  obtain ⟨a1, ha1, hl1⟩ := hd3.bs.stk (kd := .i64) hsr (x := .agg #[ks, vs]) rfl (agg2_one hks hvs)
  refine pv_i ha1 (hl1 _ fun w4 s4 f4 => ?_)
  obtain ⟨hd4, e4'⟩ := hd3.book e3.ok hp hsr hb3 s4 f4
  have e4 := e3.trans e4'
  refine pv_i rfl ?_
  refine pv_i (v := .pointer (some ⟨b, 11, none⟩)) rfl ?_
  refine ld_i hd4.own rfl ?_
  obtain ⟨a2, ha2, hl2⟩ := hd4.ldf k3
  refine pv_i ha2 (hl2 _ ?_)
  have hfz := hz.2 f (List.mem_of_getElem? k4)
  refine c196 (hd4.fd _ _ _ k3 k4) e4.ok (by simp) (SlI.gx hc3 hp e4') (by omega) (by omega) fun w5 g5 hf5 e5' => ?_
  exact h w5 g5 ⟨_, _, _, _, _, _, hd4.feed k3 hf5 e5'⟩ (e4.trans (e5'.up (List.prefix_append _ _)))
end
end Go.Dm
/-! Tables heeded. -/
namespace Go.Dm
open Go Go.Proofs
variable {w : World} {R : Value → World → Prop} {Im : Nat → Prop}

theorem sum_take {l : List Nat} {i x : Nat} (h : l[i]? = some x) : (l.take (i + 1)).sum = (l.take i).sum + x := by
  have hlt : i < l.length := by
    rcases Nat.lt_or_ge i l.length with hh | hh
    · exact hh
    · rw [List.getElem?_eq_none hh] at h; cases h
  rw [List.take_succ_eq_append_getElem hlt, List.sum_append]
  rw [List.getElem?_eq_getElem hlt] at h
  rw [Option.some.inj h]; simp
theorem sum_le {l : List Nat} {B : Nat} (h : ∀ x ∈ l, x ≤ B) : l.sum ≤ l.length * B := by
  induction l with
  | nil => simp
  | cons a l ih =>
    have h1 := h a (by simp)
    have h2 := ih fun x hx => h x (by simp [hx])
    rw [List.sum_cons, List.length_cons, Nat.succ_mul]; omega

section
variable {g : Gh} {p : List Nat} {b : Nat} {m : Mdl}
theorem c177 {who : Int} {u : ByteArray} {n : Nat} (hm : ModelR w g p b m) (hok : GhOk w g) (hp : p ≠ []) (hu : u.size < 2^62) (hz : m.sz n) (hn : n < 2^28)
    (h : ∀ w' g', ModelR w' g' p b (m.watch who u).1 → Ex p w g w' g' → R (.int .i64 (m.watch who u).2) w') : CallsR Tryz.prog 177 #[.pointer (some ⟨b, 0, none⟩), .int .i64 who, .string u] w R := by
  apply sh177; unfold S177
  obtain ⟨bsv, fsv, ob, of, raws, fbs, hd⟩ := id hm
  refine pv_i rfl ?_
  refine pv_i (v := .pointer (some ⟨b, 11, none⟩)) rfl ?_
  have fD := drewW_fr no w
  have hd1 := hd.no hok fD
  generalize drewW w = w1 at fD hd1 ⊢
  refine ld_i hd1.own rfl ?_
  refine c178 ⟨_, _, own_blk hd1.own⟩ hd1.cr hu ?_
  have hsl := stripe_lt hd1.cr u
  obtain ⟨r0, k, c, f, k1, k2, k3, k4, k5, k6⟩ := hd1.at hsl
  unfold Mdl.watch at h
  dsimp only at h
  rw [k6] at h
  generalize m.stripe u = s at h k1 k2 k3 k4 k5 k6 hsl ⊢
  refine ⟨⟨b, 11, _, rfl, own_blk hd1.own, rfl⟩, ?_⟩
  obtain ⟨a, ha, hl⟩ := hd1.ldf k3
  refine pv_i ha (hl _ ?_)
  rw [jnB_e]
  refine pv_i rfl ?_
  refine pv_i (v := .pointer (some ⟨b, 11, none⟩)) rfl ?_
  refine ld_i hd1.own rfl ?_
  refine pv_i hd1.fs.lenV ?_
  have hfl := hd1.fl
  have hcr := (Cfg.right_i hd1.cr).1
  have hn2 := hd1.n2
  have hcl : ∀ x ∈ m.fs.map (fun f => f.count who), x ≤ n := fun x hx => by
    obtain ⟨f, hf, rfl⟩ := List.mem_map.1 hx
    refine Nat.le_trans ?_ (hz.2 f hf)
    unfold Feed.count; exact List.length_filter_le _ _
  refine lp_c (fun d e u1 X => ∃ i : Nat, d = fbs.length - i ∧ i ≤ fbs.length ∧ X = no ∧ Fr no w1 u1 ∧ e 0 = .pointer (some ⟨b, 0, none⟩) ∧ e 1 = .int .i64 who ∧ e 2 = .string u ∧ e 7 = .pointer (some ⟨c, 0, none⟩) ∧ e 8 = .int .i64 (((m.fs.map fun f => f.count who).take i).sum : Nat) ∧ e 23 = fsv ∧ e 24 = .int .i64 fbs.length ∧ e 25 = .int .i64 (i : Nat)) fbs.length
    ⟨0, rfl, by omega, rfl, Fr.refl _ _, rfl, rfl, rfl, rfl, rfl, rfl, rfl, rfl⟩ ?_
  rintro d e u1 X N ⟨i, rfl, hi, rfl, f1, e0', e1, e2, e7, e8, e23, e24, e25⟩ hN
  simp only [e0', e1, e2, e7, e8, e23, e24, e25]
  refine pv_i lss_i ?_
  have hdu := hd1.no (hok.mono fD.size) f1
  by_cases hlt : i < fbs.length
  · rw [decide_eq_true (by omega), condC_t]
    obtain ⟨ci, hci⟩ : ∃ ci, fbs[i]? = some ci := ⟨_, List.getElem?_eq_getElem hlt⟩
    obtain ⟨fi, hfi⟩ : ∃ fi, m.fs[i]? = some fi := ⟨_, List.getElem?_eq_getElem (by omega)⟩
    obtain ⟨a1, ha1, hl1⟩ := hdu.ldf hci
    refine pv_i ha1 (hl1 _ ?_)
    have hfz := hz.2 fi (List.mem_of_getElem? hfi)
    refine c277 (hdu.fd _ _ _ hci hfi) (by omega) fun w2 f2 => ?_
    have hst := sum_take (l := m.fs.map fun f => f.count who) (i := i) (x := fi.count who) (by rw [List.getElem?_map, hfi]; rfl)
    have h1 : ((m.fs.map fun f => f.count who).take i).sum ≤ i * n := by
      refine Nat.le_trans (sum_le fun x hx => hcl x (List.mem_of_mem_take hx)) ?_
      exact Nat.mul_le_mul_right _ (by rw [List.length_take]; omega)
    have h2 : fi.count who ≤ n := hcl _ (List.mem_map.2 ⟨fi, List.mem_of_getElem? hfi, rfl⟩)
    have h3 : i * n ≤ 8 * n := Nat.mul_le_mul_right _ (by omega)
    refine pv_i (addN (by omega)) ?_
    refine pv_i (add1 (by omega)) ?_
    refine hN _ _ _ _ (by omega) ⟨i + 1, rfl, by omega, rfl, f1.trans f2, rfl, rfl, rfl, rfl, ?_, rfl, rfl, rfl⟩
    rw [hst]; rfl
  · have : i = fbs.length := by omega
    subst this
    rw [decide_eq_false (by omega), condC_f]
    rw [hfl, List.take_of_length_le (by simp)]
    have hfz := hz.2 f (List.mem_of_getElem? k4)
    refine c278 (hdu.fd _ _ _ k3 k4) (by omega) fun w2 f2 => ?_
    have hd2 := hdu.no ((hok.mono fD.size).mono f1.size) f2
    have f02 := (fD.trans f1).trans f2
    refine pv_i (not_b _) ?_
    have no_ : R (.int .i64 0) = R (.int .i64 0) := rfl
    have fin : (¬ (f.watching who u = false ∧ m.c.watches ≤ (m.count who : Int))) → CallsR Tryz.prog 191 #[.pointer (some ⟨c, 0, none⟩), .int .i64 who, .string u] w2 fun _ w17 => R (.int .i64 0) w17 := fun hh => by
      rw [if_neg hh] at h
      refine c191 (hd2.fd _ _ _ k3 k4) (hok.mono f02.size) (by simp) (by omega) fun w3 hf3 e3 => ?_
      exact h w3 g ⟨_, _, _, _, _, _, hd2.feed k3 hf3 e3⟩ ((Ex.of_no hok f02).trans (e3.up (List.prefix_append _ _)))
    refine and_gB (fun h1 => ?_) (fun h1 => ?_)
    · rw [condC_f]
      exact fin (fun hh => by rw [hh.1] at h1; cases h1)
    · have h1 : f.watching who u = false := by cases hh : f.watching who u <;> simp_all
      refine pv_i rfl ?_
      refine pv_i (v := .pointer (some ⟨b, 0, none⟩)) rfl ?_
      refine pv_i (v := .pointer (some ⟨b, 3, none⟩)) rfl ?_
      refine ld_i (v := .int .i64 m.c.watches) hd2.own rfl ?_
      refine pv_i geq_i ?_
      refine pv_i (v := .bool _) rfl ?_
      by_cases h2 : m.c.watches ≤ (m.count who : Int)
      · have h2' : m.c.watches ≤ (((m.fs.map fun f => f.count who).sum : Nat) : Int) := h2
        rw [decide_eq_true h2', condC_t]
        rw [if_pos ⟨h1, h2⟩] at h
        exact h w2 g ⟨_, _, _, _, _, _, hd2⟩ (Ex.of_no hok f02)
      · have h2' : ¬ m.c.watches ≤ (((m.fs.map fun f => f.count who).sum : Nat) : Int) := h2
        rw [decide_eq_false h2', condC_f]
        exact fin (fun hh => h2 hh.2)
end

/-! Parts of a list -/
section
variable {α : Type} (F : α → α)
def mapTo (l : List α) (i : Nat) : List α := l.mapIdx fun j x => if j < i then F x else x
theorem mapTo_zero (l : List α) : mapTo F l 0 = l := by
  unfold mapTo
  apply List.ext_getElem?; intro i
  rw [List.getElem?_mapIdx]; cases l[i]? <;> rfl
theorem mapTo_all (l : List α) : mapTo F l l.length = l.map F := by
  unfold mapTo
  apply List.ext_getElem?; intro i
  rw [List.getElem?_mapIdx, List.getElem?_map]
  cases h : l[i]? with
  | none => rfl
  | some x =>
    have : i < l.length := by
      rcases Nat.lt_or_ge i l.length with hh | hh
      · exact hh
      · rw [List.getElem?_eq_none hh] at h; cases h
    simp [this]
theorem mapTo_len (l : List α) (i : Nat) : (mapTo F l i).length = l.length := by unfold mapTo; simp
theorem mapTo_get {l : List α} {i : Nat} {x : α} (h : l[i]? = some x) : (mapTo F l i)[i]? = some x := by
  unfold mapTo; rw [List.getElem?_mapIdx, h]; simp
theorem mapTo_succ {l : List α} {i : Nat} {x : α} (h : l[i]? = some x) : mapTo F l (i + 1) = (mapTo F l i).set i (F x) := by
  unfold mapTo
  apply List.ext_getElem?; intro j
  have hk : i < l.length := by
    rcases Nat.lt_or_ge i l.length with hh | hh
    · exact hh
    · rw [List.getElem?_eq_none hh] at h; cases h
  rw [List.getElem?_set, List.length_mapIdx]
  by_cases hij : i = j
  · subst hij; rw [if_pos rfl, if_pos hk, List.getElem?_mapIdx, h]; simp
  · rw [if_neg hij, List.getElem?_mapIdx, List.getElem?_mapIdx]
    have : (j < i + 1) ↔ (j < i) := by omega
    simp [this]
end

def RepI (w : World) (Im : Nat → Prop) (v : Value) (r : Rep) : Prop := ∃ sv se, v = .agg #[.int .i64 r.err, sv, se, .bool r.lost] ∧ SlI w Im 3 sv r.vals.length (r.vals.flatMap Pres.cells) ∧ SlI w Im 8 se r.evs.length (r.evs.flatMap Evt.cells)
theorem RepI.err (w : World) (Im : Nat → Prop) (e : Int) : RepI w Im (errV e) ⟨e, [], [], false⟩ := ⟨_, _, rfl, SlI.nil .., SlI.nil ..⟩
theorem RepI.gx {p : List Nat} {w w' : World} {g g' : Gh} {v : Value} {r : Rep} (s : RepI w (ImG g) v r) (hp : p ≠ []) (h : Ex p w g w' g') : RepI w' (ImG g') v r := by
  obtain ⟨sv, se, rfl, h1, h2⟩ := s; exact ⟨sv, se, rfl, h1.gx hp h, h2.gx hp h⟩
theorem RepI.ok {v : Value} {r : Rep} (h : RepI w Im v r) : okB true 4 v = true := by
  obtain ⟨sv, se, rfl, h1, h2⟩ := h
  obtain ⟨_, _, rfl, _⟩ := h1.row
  obtain ⟨_, _, rfl, _⟩ := h2.row
  rfl

theorem total_bound {ls : List (List Evt)} {B : Nat} (h : ∀ l ∈ ls, l.length ≤ B) : total ls ≤ ls.length * B := by
  have := sum_le (l := ls.map List.length) (B := B) fun x hx => by obtain ⟨l, hl, rfl⟩ := List.mem_map.1 hx; exact h l hl
  unfold total; simpa using this

section
variable {g : Gh} {p : List Nat} {b : Nat} {m : Mdl}
theorem drain_len {w : World} {q : List Nat} {c : Nat} {f : Feed} {who : Int} (h : FeedR w g q c f) : (f.drain who).2.1.length ≤ 2^30 := by
  obtain ⟨hb, ks, vs, qbs, ho, hm, h1, h2, h3, h4⟩ := h
  unfold Feed.drain
  split
  · cases hq : f.qs[who.toNat]? with
    | none => exact Nat.zero_le _
    | some r =>
      have hi : who.toNat < f.qs.length := by
        rcases Nat.lt_or_ge who.toNat f.qs.length with hh | hh
        · exact hh
        · rw [List.getElem?_eq_none hh] at hq; cases hq
      obtain ⟨_, _, _, _, _, _, h5, h6⟩ := h3 who.toNat _ r (List.getElem?_eq_getElem (by omega)) hq
      show r.l.length ≤ 2^30
      omega
  · simp
def pollTo (m : Mdl) (who : Int) (i : Nat) : Mdl := { m with fs := mapTo (fun f => (f.drain who).1) m.fs i }
def lostTo (m : Mdl) (who : Int) (i : Nat) : Bool := (m.fs.take i).any fun f => (f.drain who).2.2

theorem c176 {who : Int} (hm : ModelR w g p b m) (hok : GhOk w g) (hp : p ≠ [])
    (h : ∀ v w' g', ModelR w' g' p b (m.poll who).1 → RepI w' (ImG g') v (m.poll who).2 → Ex p w g w' g' → R v w') : CallsR Tryz.prog 176 #[.pointer (some ⟨b, 0, none⟩), .int .i64 who] w R := by
  apply sh176; unfold S176
  have hq0 := beside_ne p
  have hqa := beside_apart hp
  have hqn := beside_not hp
  have hq9 : Apart (beside p) (p ++ [9]) := hqa.sub [9]
  generalize beside p = q at hq0 hqa hqn hq9
  obtain ⟨bsv, fsv, ob, of, raws, fbs, hd⟩ := id hm
  rw [jnB_e]
  refine pv_i rfl ?_
  refine pv_i (v := .pointer (some ⟨b, 11, none⟩)) rfl ?_
  refine ld_i hd.own rfl ?_
  refine pv_i hd.fs.lenV ?_
  have hfl := hd.fl
  have hcr := (Cfg.right_i hd.cr).1
  have hn2 := hd.n2
  refine lp_c (fun d e u X => ∃ (i : Nat) (g' : Gh) (vs : List Value) (av : Value) (oj : Option Nat), d = fbs.length - i ∧ i ≤ fbs.length ∧ Bx p q w g X u g' ∧ MdR u g' p b (pollTo m who i) bsv fsv ob of raws fbs ∧ SlO u 1 48 av i vs oj ∧ (∀ o, oj = some o → g' o = p ++ [9] ∧ w.heap.size ≤ o) ∧
      (∀ (j : Nat) (v : Value) (f : Feed), vs[j]? = some v → m.fs[j]? = some f → SlI u (ImG g') 8 v (f.drain who).2.1.length ((f.drain who).2.1.flatMap Evt.cells)) ∧
      e 1 = .int .i64 who ∧ e 5 = .agg #[.int .i64 0, .slice none 0 0, .slice none 0 0, .bool (lostTo m who i)] ∧ e 6 = av ∧ e 14 = fsv ∧ e 15 = .int .i64 fbs.length ∧ e 16 = .int .i64 (i : Nat)) fbs.length
    ⟨0, g, [], .slice none 0 0, none, rfl, by omega, Bx.start hok, by unfold pollTo; rw [mapTo_zero]; exact hd, SlO.nil .., (fun o hh => by cases hh), (fun j v f hv => by simp at hv), rfl, rfl, rfl, rfl, rfl, rfl⟩ ?_
  rintro d e u X N ⟨i, g1, vs, av, oj, rfl, hi, hB, hdu, hav, hoj, hvs, e1, e5, e6, e14, e15, e16⟩ hN
  simp only [e1, e5, e6, e14, e15, e16]
  refine pv_i lss_i ?_
  have hvl : vs.length = i := by have := hav.len; omega
  by_cases hlt : i < fbs.length
  · rw [decide_eq_true (by omega), condC_t]
    obtain ⟨ci, hci⟩ : ∃ ci, fbs[i]? = some ci := ⟨_, List.getElem?_eq_getElem hlt⟩
    obtain ⟨fi, hfi⟩ : ∃ fi, m.fs[i]? = some fi := ⟨_, List.getElem?_eq_getElem (by omega)⟩
    have hfi' : (pollTo m who i).fs[i]? = some fi := mapTo_get (fun f : Feed => (f.drain who).1) hfi
    obtain ⟨a1, ha1, hl1⟩ := hdu.ldf hci
    refine pv_i ha1 ?_
    intro u1 X1 y1
    obtain ⟨g2, hB1, hx1⟩ := hB.sy y1
    have hd1 := hdu.gx hx1 hqa hq0
    have hav1 := hav.keep y1.fr (fun o ho hx => by have h1 := (hoj o ho).1; have h2 := (hB.bx o hx).2.2; rw [h1] at h2; rw [← h2] at hq9; exact hq9 [] (by simp))
    have hoj1 : ∀ o, oj = some o → g2 o = p ++ [9] ∧ w.heap.size ≤ o := fun o ho => ⟨by rw [hx1.old o (hav.lt o ho)]; exact (hoj o ho).1, (hoj o ho).2⟩
    have hvs1 : ∀ (j : Nat) (v : Value) (f : Feed), vs[j]? = some v → m.fs[j]? = some f → SlI u1 (ImG g2) 8 v (f.drain who).2.1.length ((f.drain who).2.1.flatMap Evt.cells) := fun j v f hv hf => (hvs j v f hv hf).gx hq0 hx1
    obtain ⟨a2, ha2, hl2⟩ := hd1.ldf hci
    rw [ha1] at ha2; cases ha2
    refine hl2 _ ?_
    refine c197 (hd1.fd _ _ _ hci hfi') hB1.ex.ok (by simp) fun v w2 hf2 hs2 e2 => ?_
    have hpi : p <+: p ++ [3, i] := List.prefix_append _ _
    refine ⟨hB1.kp e2 hpi hqn, ?_⟩
    have hB2 := hB1.step e2 hpi
    have hd2 := hd1.feed hci hf2 e2
    have hav2 := hav1.keep e2.fr (fun o ho hu => by unfold Un at hu; rw [(hoj1 o ho).1, List.prefix_append_right_inj] at hu; simp at hu)
    have hvs2 : ∀ (j : Nat) (v : Value) (f : Feed), vs[j]? = some v → m.fs[j]? = some f → SlI w2 (ImG g2) 8 v (f.drain who).2.1.length ((f.drain who).2.1.flatMap Evt.cells) := fun j v f hv hf => (hvs1 j v f hv hf).gx (by simp) e2
    refine pv_i (ext2a _ _) (pv_i (ext2b _ _) ?_)
    refine bs_i (cs := [v]) (by obtain ⟨_, _, rfl, _⟩ := hs2.row; rfl) rfl fun v3 w3 s3 f3 z3 => ?_
    obtain ⟨base, cc, rfl, hrow⟩ := s3.row
    refine ap_o (hav2.keep f3 (fun _ _ => no_not _)) hrow rfl (by decide) (by omega) (by simpa using hs2.one) fun v4 w4 o4 s4 f4 ho4 => ?_
    obtain ⟨hB3, k3⟩ := hB2.no f3
    have hz3 := hB3.ex.size
    refine ⟨kp_fr f4 (fun b hb => (hB3.bx b hb).2.1) (fun b hb hh => ?_), ?_⟩
    · have h1 := (hoj1 b hh).1; have h2 := (hB3.bx b hb).2.2; rw [h1] at h2; rw [← h2] at hq9; exact hq9 [] (by simp)
    have hd3 := hd2.no hB2.ex.ok f3
    -- the new owner
    have e4 : Ex (p ++ [9]) w3 g2 w4 (fun c => if o4 = some c then p ++ [9] else g2 c) := by
      refine ⟨f4.mono fun c _ hh => ?_, fun c hc => ?_, fun c hc => ?_⟩
      · unfold Un; rw [(hoj1 c hh).1]; exact List.prefix_refl _
      · split
        · rename_i hh
          rcases ho4 c hh with h1 | h1
          · exact (hoj1 c h1).1.symm
          · omega
        · rfl
      · split
        · rename_i hh; have := s4.lt c hh; omega
        · exact hB3.ex.ok c (by have := f4.size; omega)
    have hp9 : p <+: p ++ [9] := List.prefix_append _ _
    have hB4 := hB3.step e4 hp9
    have hd4 : MdR w4 (fun c => if o4 = some c then p ++ [9] else g2 c) p b (pollTo m who (i + 1)) bsv fsv ob of raws fbs := by
      have : pollTo m who (i + 1) = { pollTo m who i with fs := (pollTo m who i).fs.set i (fi.drain who).1 } := by unfold pollTo; rw [mapTo_succ _ hfi]
      rw [this]
      exact hd3.side e4 (by simp)
    have hvs4 : ∀ (j : Nat) (x : Value) (f : Feed), (vs ++ [v])[j]? = some x → m.fs[j]? = some f → SlI w4 (ImG fun c => if o4 = some c then p ++ [9] else g2 c) 8 x (f.drain who).2.1.length ((f.drain who).2.1.flatMap Evt.cells) := fun j x f hx hf => by
      rcases Nat.lt_or_ge j vs.length with hh | hh
      · rw [List.getElem?_append_left hh] at hx
        exact ((hvs2 j x f hx hf).ext f3).gx (by simp) e4
      · rw [List.getElem?_append_right hh] at hx
        have : j - vs.length = 0 := by
          rcases Nat.eq_zero_or_pos (j - vs.length) with h0 | h0
          · exact h0
          · rw [List.getElem?_eq_none (by simp; omega)] at hx; cases hx
        rw [this] at hx; cases hx
        have : j = i := by omega
        subst this
        rw [hfi] at hf; cases hf
        exact (hs2.ext f3).gx (by simp) e4
    have hoj4 : ∀ o, o4 = some o → (fun c => if o4 = some c then p ++ [9] else g2 c) o = p ++ [9] ∧ w.heap.size ≤ o := fun o ho => by
      refine ⟨by simp only []; rw [if_pos ho], ?_⟩
      rcases ho4 o ho with h1 | h1
      · exact (hoj1 o h1).2
      · omega
    generalize (fun c => if o4 = some c then p ++ [9] else g2 c) = g4 at hB4 hd4 hvs4 hoj4
    have hlo : lostTo m who (i + 1) = (lostTo m who i || (fi.drain who).2.2) := by
      unfold lostTo
      have hl : i < m.fs.length := by omega
      rw [List.take_succ_eq_append_getElem hl, List.any_append]
      rw [List.getElem?_eq_getElem hl] at hfi
      rw [Option.some.inj hfi]; simp
    refine pv_i (v := .bool (lostTo m who i)) rfl ?_
    have last : ∀ (t : Value), t = .bool (lostTo m who (i + 1)) → pv (setV 3 1 (.agg #[.int .i64 0, .slice none 0 0, .slice none 0 0, .bool (lostTo m who i)]) t) fun c5_19 => pv (binV .add (.int .i64 (i : Nat)) (.int .i64 1)) fun t36 => N (upd (upd (upd (upd (upd (upd (upd e0 16 t36) 15 (.int .i64 fbs.length)) 14 fsv) 6 v4) 5 c5_19) 4 (e 4)) 1 (.int .i64 who)) w4 X1 := by
      rintro t rfl
      refine pv_i (v := .agg #[.int .i64 0, .slice none 0 0, .slice none 0 0, .bool (lostTo m who (i + 1))]) rfl ?_
      refine pv_i (add1 (by omega)) ?_
      exact hN _ _ _ _ (by omega) ⟨i + 1, g4, vs ++ [v], v4, o4, rfl, by omega, hB4, hd4, s4, hoj4, hvs4, rfl, rfl, rfl, rfl, rfl, rfl⟩
    rw [gdB_b]
    cases hlt' : lostTo m who i with
    | false =>
      rw [hlt', Bool.false_or] at hlo
      rw [hlt', hlo] at last
      rw [if_pos rfl]
      dsimp only [upd]
      refine pv_i (v := .bool (fi.drain who).2.2) rfl ?_
      exact last _ rfl
    | true =>
      rw [hlt', Bool.true_or] at hlo
      rw [hlt', hlo] at last
      rw [if_neg (by simp)]
      refine pv_i (v := .bool true) rfl ?_
      exact last _ rfl
  · have : i = fbs.length := by omega
    subst this
    rw [decide_eq_false (by omega), condC_f]
    dsimp only [upd]
    have hmp : pollTo m who fbs.length = (m.poll who).1 := by unfold pollTo Mdl.poll; rw [hfl, mapTo_all]
    rw [hmp] at hdu
    have hlp : lostTo m who fbs.length = (m.fs.any fun f => (f.drain who).2.2) := by unfold lostTo; rw [hfl, List.take_length]
    intro u1 X1 y1
    obtain ⟨g2, hB1, hx1⟩ := hB.sy y1
    have hd1 := hdu.gx hx1 hqa hq0
    have hav1 := hav.keep y1.fr (fun o ho hx => by have h1 := (hoj o ho).1; have h2 := (hB.bx o hx).2.2; rw [h1] at h2; rw [← h2] at hq9; exact hq9 [] (by simp))
    have hvs1 : ∀ (j : Nat) (v : Value) (f : Feed), vs[j]? = some v → m.fs[j]? = some f → SlI u1 (ImG g2) 8 v (f.drain who).2.1.length ((f.drain who).2.1.flatMap Evt.cells) := fun j v f hv hf => (hvs j v f hv hf).gx hq0 hx1
    have hll : (m.fs.map fun f => (f.drain who).2.1).length = fbs.length := by rw [List.length_map]; omega
    have htb : total (m.fs.map fun f => (f.drain who).2.1) ≤ 8 * 2^30 := by
      refine Nat.le_trans (total_bound (B := 2^30) fun l hl => ?_) (Nat.mul_le_mul_right _ (by rw [List.length_map]; omega))
      obtain ⟨f, hf, rfl⟩ := List.mem_map.1 hl
      obtain ⟨j, hj⟩ := List.getElem?_of_mem hf
      have hjl : j < m.fs.length := by
        rcases Nat.lt_or_ge j m.fs.length with hh | hh
        · exact hh
        · rw [List.getElem?_eq_none hh] at hj; cases hj
      exact drain_len (hd.fd j _ f (List.getElem?_eq_getElem (by omega)) hj)
    refine c85 (ls := m.fs.map fun f => (f.drain who).2.1) (Im := fun c => ImG g2 c ∨ oj = some c) (by rw [hll]; exact hav1.toI fun o ho => .inr ho) (fun j v es hv hes => ?_) (by omega) (by omega) fun v w2 o2 s2 ho2 f2 => ?_
    · rw [List.getElem?_map] at hes
      cases hf : m.fs[j]? with
      | none => rw [hf] at hes; cases hes
      | some f => rw [hf] at hes; cases hes; exact (hvs1 j v f hv hf).im fun _ _ h => .inl h
    obtain ⟨hB2, k2⟩ := hB1.no f2
    refine ⟨k2, ?_⟩
    obtain ⟨vb, vc, rfl, _⟩ := id s2.row
    refine pv_i (v := .agg #[.int .i64 0, .slice none 0 0, .slice vb (merge (m.fs.map fun f => (f.drain who).2.1)).length vc, .bool (lostTo m who fbs.length)]) rfl ?_
    have hsI : SlI w2 (ImG g2) 8 (.slice vb (merge (m.fs.map fun f => (f.drain who).2.1)).length vc) _ _ := s2.toI fun o ho => hB1.ex.ok o (ho2 o ho)
    have hrep : RepI w2 (ImG g2) (.agg #[.int .i64 0, .slice none 0 0, .slice vb (merge (m.fs.map fun f => (f.drain who).2.1)).length vc, .bool (lostTo m who fbs.length)]) (m.poll who).2 := ⟨_, _, by rw [hlp]; rfl, SlI.nil .., hsI⟩
    refine ⟨hrep.ok, ?_⟩
    intro u3 X3 y3
    obtain ⟨g3, hB3, hx3⟩ := hB2.sy y3
    exact h _ u3 g3 ⟨_, _, _, _, _, _, (hd1.no hB1.ex.ok f2).gx hx3 hqa hq0⟩ (hrep.gx hq0 hx3) hB3.ex
end
end Go.Dm
