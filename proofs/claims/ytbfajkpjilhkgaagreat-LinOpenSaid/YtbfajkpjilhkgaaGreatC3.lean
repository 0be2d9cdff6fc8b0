/- A part of the proof that doormanlaw21.LinOpen returns true for every input, on no condition. -/
import Derived.Test.YtbfajkpjilhkgaaGreatC2
set_option linter.unusedVariables false
set_option linter.unusedSimpArgs false
set_option linter.deprecated false
/-! Maps: With. -/
namespace Go.Dm
open Go Go.Proofs
variable {w : World} {R : Value → World → Prop} {Im : Nat → Prop}
set_option maxHeartbeats 1000000
theorem c282 {v : Value} {m : Mp (List Value)} {key : ByteArray} {y : Nat} (hm : MapI w Im 1 v m) (hI : NewI w Im) (hn : m.length < 2^38) (h : ∀ v' w', MapI w' Im 1 v' (mWith m key [.int .u32 (y : Nat)]) → Fr no w w' → R v' w') :
    CallsR Tryz.prog 282 #[v, .string key, .int .u32 (y : Nat)] w R := by
  apply sh282; unfold S282
  obtain ⟨ks, vs, rfl, hk, hv, hlen, hone, hu⟩ := hm
  have hxl : [Value.int .u32 (y : Nat)].length = 1 := rfl
  have hx1 : [Value.int .u32 (y : Nat)].all one1 = true := rfl
  obtain ⟨x, hxe⟩ : ∃ x, x = [Value.int .u32 (y : Nat)] := ⟨_, rfl⟩
  rw [← hxe] at hxl hx1 h
  have hcx : (Value.int .u32 (y : Nat)).cells.toList = x := by rw [hxe]; rfl
  have hks1 := hk.one
  have hvs1 := hv.one
  refine ⟨okB2 hks1 hvs1, ?_⟩
  intro w1 X1 y1
  have hv1 : (m.flatMap fun p => p.2).all one1 = true := flat_one' hone
  have s0 : w.heap.size ≤ w1.heap.size := y1.frno.size
  have hX1 := y1.lt
  refine c345 ⟨ks, vs, rfl, hk.ext y1.frno, hv.ext y1.frno, hlen, hone, hu⟩ (by omega) fun w3 f3 => ?_
  refine ⟨kp_no f3 y1.lt, ?_⟩
  have f : Fr no w (drewW w3) := (y1.frno.trans f3).trans (drewW_fr _ _)
  have lX : ∀ b, X1 b → b < (drewW w3).heap.size := fun b hb => Nat.lt_of_lt_of_le (y1.lt b hb) f3.size
  have s1 : w1.heap.size ≤ (drewW w3).heap.size := f3.size
  refine pv_i (ext2a _ _) (pv_i (ext2b _ _) ?_)
  have hlb := lbK_le m key
  cases hh : hasK m key with
  | true =>
    rw [condC_t, jnB_e]
    have hlt := lb_has hu hh
    have hset := mWith_has m key x hu hh
    have fin : ∀ (tD : Value) (u : World) (Xu : Nat → Prop) (ob : Option Nat), SlO u 1 340 tD m.length (m.flatMap fun p => p.2) ob → Fr no w u → (∀ b, ob = some b → w.heap.size ≤ b ∧ ¬ Xu b) → (∀ b, Xu b → w.heap.size ≤ b) →
        pv (idxSV 1 tD (.int .i64 (lbK m key : Nat))) fun t27 => syC u Xu fun w14 X15 => stC w14 1 t27 (.int .u32 (y : Nat)) fun w16 => kp X15 w14 w16 ∧ okB true 2 (.agg #[ks, tD]) = true ∧ syC w16 X15 fun w17 X18 => R (.agg #[ks, tD]) w17 := by
      intro tD u Xu ob cv fu hob hXw
      obtain ⟨b, cc, full, rfl, rfl, hc, g1, g2, g3, g4⟩ := cv.got (by omega)
      have hbl := own_lt g1
      have y0 : ∀ u', Fr Xu u u' → SlO u' 1 340 _ m.length (m.flatMap fun p => p.2) (some b) := fun u' fx => cv.keep fx (fun b' hb' => by cases hb'; exact (hob b rfl).2)
      have hp : idxSV 1 (.slice (some ⟨b, 0, none⟩) m.length cc) (.int .i64 (lbK m key : Nat)) = some (.pointer (some ⟨b, 0 + lbK m key * 1, none⟩)) := by unfold idxSV; simp only [Int.toNat_natCast]; rw [if_pos ⟨by omega, by omega⟩]
      refine pv_i hp ?_
      intro w14 X15 y14
      obtain ⟨p', hp', hst⟩ := (y0 w14 y14.fr).stk (i := lbK m key) (kd := .i64) hlt (x := .int .u32 (y : Nat)) (by rfl) (by rfl)
      rw [hp] at hp'; cases hp'
      refine hst _ fun w16 hs16 f16 => ?_
      rw [hcx] at hs16
      have hd15 : ∀ b', X15 b' → ¬ some b = some b' := fun b' hb' hh' => by
        cases hh'
        rcases y14.sub b hb' with h1 | h1
        · exact (hob b rfl).2 h1
        · omega
      refine ⟨kp_fr f16 y14.lt hd15, okB2 hks1 hs16.one, ?_⟩
      intro w17 X18 y17
      have f14 := y14.step fu hXw
      have f17 := y17.step (f14.1.trans' f16 (fun b' hb' hh' => by cases hh'; have := (hob b rfl).1; omega)) f14.2.1
      refine h _ w17 ⟨ks, _, rfl, ?_, ?_, ?_, ?_, keysUp_with m key x hu⟩ f17.1
      · have : (mWith m key x).map (fun p => Value.string p.1) = m.map fun p => Value.string p.1 := by rw [hset]; exact map_key_set hu hh
        rw [this, hset, List.length_set]; exact hk.ext f17.1
      · have := (hs16.keep y17.fr (fun b' hb' hh' => by cases hb'; exact hd15 b hh' rfl)).toI (Im := Im) (fun b' hb' => by cases hb'; exact hI b (hob b rfl).1)
        rw [hset, List.length_set, ← flat_set' hlen hlt (by exact hxl)]
        exact this
      · intro p hp; rcases mem_mWith m key x p hp with rfl | hp
        · exact hxl
        · exact hlen p hp
      · intro p hp; rcases mem_mWith m key x p hp with rfl | hp
        · exact hx1
        · exact hone p hp
    refine pv_i (v := ks) rfl ?_
    refine pv_i (v := vs) rfl ?_
    refine ⟨?_, ?_⟩
    · refine c349 (hv.ext f) (by omega) hv1 fun tD w8 obv cv f8 hob => ?_
      refine ⟨kp_no f8 lX, ?_⟩
      repeat (refine ⟨(by first | exact rfl | exact pv_i rfl rfl | exact okB2 (by assumption) (by assumption)), ?_⟩)
      have htD := cv.one
      refine pv_i (buildV2 hks1 htD) ?_
      repeat (refine ⟨(by first | exact rfl | exact pv_i rfl rfl | exact okB2 (by assumption) (by assumption)), ?_⟩)
      dsimp only [upd]
      refine pv_i (v := tD) rfl ?_
      refine fin tD w8 X1 obv cv (f.trans f8) (fun b hb => ⟨by have := hob b hb; omega, fun hx => by have := hob b hb; have := hX1 b hx; omega⟩) y1.ge
    · repeat (refine ⟨(by first | exact rfl | exact pv_i rfl rfl | exact okB2 (by assumption) (by assumption)), ?_⟩)
      intro w9 X9 y9
      have f9 := y9.step f y1.ge
      refine c349 (hv.ext f9.1) (by omega) hv1 fun tD w8 obv cv f8 hob => ?_
      refine ⟨kp_no f8 y9.lt, ?_⟩
      repeat (refine ⟨(by first | exact rfl | exact pv_i rfl rfl | exact okB2 (by assumption) (by assumption)), ?_⟩)
      have htD := cv.one
      refine pv_i (buildV2 hks1 htD) ?_
      repeat (refine ⟨(by first | exact rfl | exact pv_i rfl rfl | exact okB2 (by assumption) (by assumption)), ?_⟩)
      dsimp only [upd]
      refine pv_i (v := tD) rfl ?_
      refine fin tD w8 X9 obv cv (f9.1.trans f8) (fun b hb => ⟨by have := hob b hb; have := f9.1.size; omega, fun hx => by have := hob b hb; have := y9.lt b hx; omega⟩) f9.2.1
  | false =>
    rw [condC_f, jnB_e]
    have hnot := mWith_not m key x hu hh
    have fin : ∀ (tC tF : Value) (u u9 : World) (X9 : Nat → Prop) (obi obj : Option Nat), SlO u 1 9 tC (m.length + 1) ((m.map fun p => Value.string p.1).take (lbK m key * 1) ++ [.string key] ++ (m.map fun p => Value.string p.1).drop (lbK m key * 1)) obi →
        SlO u 1 340 tF (m.length + 1) ((m.flatMap fun p => p.2).take (lbK m key * 1) ++ x ++ (m.flatMap fun p => p.2).drop (lbK m key * 1)) obj → Fr no w u → (∀ b, obi = some b → w1.heap.size ≤ b) → (∀ b, obj = some b → w1.heap.size ≤ b) → Sy u X1 u9 X9 → R (.agg #[tC, tF]) u9 := by
      intro tC tF u u9 X9 obi obj ik iv fu hi hj y9
      have f9 := y9.step fu y1.ge
      have hml : (mWith m key x).length = m.length + 1 := by rw [hnot]; simp; omega
      refine h _ u9 ⟨tC, tF, rfl, ?_, ?_, ?_, ?_, keysUp_with m key x hu⟩ f9.1
      · have hs := (ik.keep y9.fr (fun b hb hx => by have := hi b hb; have := hX1 b hx; omega)).toI (Im := Im) (fun b hb => hI b (Nat.le_trans s0 (hi b hb)))
        rw [hml]
        have : (mWith m key x).map (fun p => Value.string p.1) = (m.map fun p => Value.string p.1).take (lbK m key * 1) ++ [.string key] ++ (m.map fun p => Value.string p.1).drop (lbK m key * 1) := by
          rw [hnot, Nat.mul_one, List.map_append, List.map_cons, List.map_take, List.map_drop, List.append_assoc]; rfl
        rw [this]; exact hs
      · have hs := (iv.keep y9.fr (fun b hb hx => by have := hj b hb; have := hX1 b hx; omega)).toI (Im := Im) (fun b hb => hI b (Nat.le_trans s0 (hj b hb)))
        rw [hml]
        have : (mWith m key x).flatMap (fun p => p.2) = (m.flatMap fun p => p.2).take (lbK m key * 1) ++ x ++ (m.flatMap fun p => p.2).drop (lbK m key * 1) := by
          rw [hnot, flat_take' _ hlen, flat_drop' _ hlen, List.flatMap_append, List.flatMap_cons, List.append_assoc]
        rw [this]; exact hs
      · intro p hp; rcases mem_mWith m key x p hp with rfl | hp
        · exact hxl
        · exact hlen p hp
      · intro p hp; rcases mem_mWith m key x p hp with rfl | hp
        · exact hx1
        · exact hone p hp
    refine pv_i (v := ks) rfl ?_
    refine pv_i (v := vs) rfl ?_
    refine ⟨?_, ?_⟩
    · refine c347 (hk.ext f) (by omega) (key_one m) fun tA u1 obk ck fA hobA => ?_
      refine ⟨kp_no fA lX, ?_⟩
      have hobk : ∀ b, obk = some b → w1.heap.size ≤ b := fun b hb => Nat.le_trans s1 (hobA b hb)
      have lX : ∀ b, X1 b → b < u1.heap.size := fun b hb => Nat.lt_of_lt_of_le (lX b hb) fA.size
      have f := f.trans fA
      have s1 := Nat.le_trans s1 fA.size
      repeat (refine ⟨(by first | exact rfl | exact pv_i rfl rfl | exact okB2 (by assumption) (by assumption)), ?_⟩)
      refine ⟨?_, ?_⟩
      · refine ⟨[.string key], rfl, ?_⟩
        have nB := newB_nw u1 [.string key] 9
        have neKB : obk ≠ some u1.heap.size := fun hh => by have := ck.lt _ hh; omega
        generalize newB u1 [.string key] 9 = u2 at nB ⊢
        have fA := nB.fr
        have bB := nB.own
        have ck := ck.keep fA (fun _ _ => no_not _)
        have lX : ∀ b, X1 b → b < u2.heap.size := fun b hb => Nat.lt_of_lt_of_le (lX b hb) fA.size
        have f := f.trans fA
        have s1 := Nat.le_trans s1 fA.size
        repeat (refine ⟨(by first | exact rfl | exact pv_i rfl rfl | exact okB2 (by assumption) (by assumption)), ?_⟩)
        refine ⟨?_, ?_⟩
        · refine c350 ck hlb (by omega) (key_one m) bB rfl rfl neKB fun tC u3 obi ik fC hobC => ?_
          refine ⟨kp_fr fC lX (fun b hb hh => by have := hobk b hh; have := hX1 b hb; omega), ?_⟩
          have hobi : ∀ b, obi = some b → w1.heap.size ≤ b := fun b hb => (hobC b hb).elim (fun hh => hobk b hh) (fun hh => Nat.le_trans s1 hh)
          have f := f.trans' fC (fun b hb hh => by have := hobk b hh; omega)
          have lX : ∀ b, X1 b → b < u3.heap.size := fun b hb => Nat.lt_of_lt_of_le (lX b hb) fC.size
          have s1 := Nat.le_trans s1 fC.size
          repeat (refine ⟨(by first | exact rfl | exact pv_i rfl rfl | exact okB2 (by assumption) (by assumption)), ?_⟩)
          refine ⟨?_, ?_⟩
          · refine c349 (hv.ext f) (by omega) hv1 fun tD u4 obv cv fA hobA => ?_
            refine ⟨kp_no fA lX, ?_⟩
            have hobv : ∀ b, obv = some b → w1.heap.size ≤ b := fun b hb => Nat.le_trans s1 (hobA b hb)
            have neIV : ∀ b, obi = some b → ¬ obv = some b := fun b hb hh => by have := hobA b hh; have := ik.lt b hb; omega
            have ik := ik.keep fA (fun _ _ => no_not _)
            have lX : ∀ b, X1 b → b < u4.heap.size := fun b hb => Nat.lt_of_lt_of_le (lX b hb) fA.size
            have f := f.trans fA
            have s1 := Nat.le_trans s1 fA.size
            repeat (refine ⟨(by first | exact rfl | exact pv_i rfl rfl | exact okB2 (by assumption) (by assumption)), ?_⟩)
            refine ⟨x, (by rw [hxe]; rfl), ?_⟩
            have nB := newB_nw u4 x 340
            have neVE : obv ≠ some u4.heap.size := fun hh => by have := cv.lt _ hh; omega
            generalize newB u4 x 340 = u5 at nB ⊢
            have fA := nB.fr
            have bE := nB.own
            have cv := cv.keep fA (fun _ _ => no_not _)
            have ik := ik.keep fA (fun _ _ => no_not _)
            have lX : ∀ b, X1 b → b < u5.heap.size := fun b hb => Nat.lt_of_lt_of_le (lX b hb) fA.size
            have f := f.trans fA
            have s1 := Nat.le_trans s1 fA.size
            repeat (refine ⟨(by first | exact rfl | exact pv_i rfl rfl | exact okB2 (by assumption) (by assumption)), ?_⟩)
            refine c351 cv hlb (by omega) hv1 bE hxl hx1 neVE fun tF u6 obj iv fF hobF => ?_
            refine ⟨kp_fr fF lX (fun b hb hh => by have := hobv b hh; have := hX1 b hb; omega), ?_⟩
            have hobj : ∀ b, obj = some b → w1.heap.size ≤ b := fun b hb => (hobF b hb).elim (fun hh => hobv b hh) (fun hh => Nat.le_trans s1 hh)
            have ik := ik.keep fF (fun b hb hh => neIV b hb hh)
            have f := f.trans' fF (fun b hb hh => by have := hobv b hh; omega)
            repeat (refine ⟨(by first | exact rfl | exact pv_i rfl rfl | exact okB2 (by assumption) (by assumption)), ?_⟩)
            refine pv_i (buildV2 ik.one iv.one) ?_
            refine ⟨okB2 ik.one iv.one, ?_⟩
            dsimp only [upd]
            intro w9 X9 y9
            exact fin tC tF _ _ _ obi obj ik iv f hobi hobj y9
          · refine ⟨x, (by rw [hxe]; rfl), ?_⟩
            have nB := newB_nw u3 x 340
            generalize newB u3 x 340 = u8 at nB ⊢
            have fA := nB.fr
            have bE := nB.own
            have ik := ik.keep fA (fun _ _ => no_not _)
            have lX : ∀ b, X1 b → b < u8.heap.size := fun b hb => Nat.lt_of_lt_of_le (lX b hb) fA.size
            have f := f.trans fA
            have s1 := Nat.le_trans s1 fA.size
            repeat (refine ⟨(by first | exact rfl | exact pv_i rfl rfl | exact okB2 (by assumption) (by assumption)), ?_⟩)
            refine c349 (hv.ext f) (by omega) hv1 fun tD u9 obv cv fA hobA => ?_
            refine ⟨kp_no fA lX, ?_⟩
            have hobv : ∀ b, obv = some b → w1.heap.size ≤ b := fun b hb => Nat.le_trans s1 (hobA b hb)
            have neVE : obv ≠ some u3.heap.size := fun hh => by have := hobA _ hh; have := own_lt bE; omega
            have neIV : ∀ b, obi = some b → ¬ obv = some b := fun b hb hh => by have := hobA b hh; have := ik.lt b hb; omega
            have bE := fA.own bE (no_not _)
            have ik := ik.keep fA (fun _ _ => no_not _)
            have lX : ∀ b, X1 b → b < u9.heap.size := fun b hb => Nat.lt_of_lt_of_le (lX b hb) fA.size
            have f := f.trans fA
            have s1 := Nat.le_trans s1 fA.size
            repeat (refine ⟨(by first | exact rfl | exact pv_i rfl rfl | exact okB2 (by assumption) (by assumption)), ?_⟩)
            refine c351 cv hlb (by omega) hv1 bE hxl hx1 neVE fun tF u10 obj iv fF hobF => ?_
            refine ⟨kp_fr fF lX (fun b hb hh => by have := hobv b hh; have := hX1 b hb; omega), ?_⟩
            have hobj : ∀ b, obj = some b → w1.heap.size ≤ b := fun b hb => (hobF b hb).elim (fun hh => hobv b hh) (fun hh => Nat.le_trans s1 hh)
            have ik := ik.keep fF (fun b hb hh => neIV b hb hh)
            have f := f.trans' fF (fun b hb hh => by have := hobv b hh; omega)
            repeat (refine ⟨(by first | exact rfl | exact pv_i rfl rfl | exact okB2 (by assumption) (by assumption)), ?_⟩)
            refine pv_i (buildV2 ik.one iv.one) ?_
            refine ⟨okB2 ik.one iv.one, ?_⟩
            dsimp only [upd]
            intro w9 X9 y9
            exact fin tC tF _ _ _ obi obj ik iv f hobi hobj y9
        · refine ⟨x, (by rw [hxe]; rfl), ?_⟩
          have nB := newB_nw u2 x 340
          have neKE : obk ≠ some u2.heap.size := fun hh => by have := ck.lt _ hh; omega
          generalize newB u2 x 340 = u12 at nB ⊢
          have fA := nB.fr
          have bB := fA.own bB (no_not _)
          have bE := nB.own
          have ck := ck.keep fA (fun _ _ => no_not _)
          have lX : ∀ b, X1 b → b < u12.heap.size := fun b hb => Nat.lt_of_lt_of_le (lX b hb) fA.size
          have f := f.trans fA
          have s1 := Nat.le_trans s1 fA.size
          repeat (refine ⟨(by first | exact rfl | exact pv_i rfl rfl | exact okB2 (by assumption) (by assumption)), ?_⟩)
          refine c350 ck hlb (by omega) (key_one m) bB rfl rfl neKB fun tC u13 obi ik fC hobC => ?_
          refine ⟨kp_fr fC lX (fun b hb hh => by have := hobk b hh; have := hX1 b hb; omega), ?_⟩
          have hobi : ∀ b, obi = some b → w1.heap.size ≤ b := fun b hb => (hobC b hb).elim (fun hh => hobk b hh) (fun hh => Nat.le_trans s1 hh)
          have bE := fC.own bE (fun hh => neKE hh)
          have f := f.trans' fC (fun b hb hh => by have := hobk b hh; omega)
          have lX : ∀ b, X1 b → b < u13.heap.size := fun b hb => Nat.lt_of_lt_of_le (lX b hb) fC.size
          have s1 := Nat.le_trans s1 fC.size
          repeat (refine ⟨(by first | exact rfl | exact pv_i rfl rfl | exact okB2 (by assumption) (by assumption)), ?_⟩)
          refine c349 (hv.ext f) (by omega) hv1 fun tD u14 obv cv fA hobA => ?_
          refine ⟨kp_no fA lX, ?_⟩
          have hobv : ∀ b, obv = some b → w1.heap.size ≤ b := fun b hb => Nat.le_trans s1 (hobA b hb)
          have neVE : obv ≠ some u2.heap.size := fun hh => by have := hobA _ hh; have := own_lt bE; omega
          have neIV : ∀ b, obi = some b → ¬ obv = some b := fun b hb hh => by have := hobA b hh; have := ik.lt b hb; omega
          have bE := fA.own bE (no_not _)
          have ik := ik.keep fA (fun _ _ => no_not _)
          have lX : ∀ b, X1 b → b < u14.heap.size := fun b hb => Nat.lt_of_lt_of_le (lX b hb) fA.size
          have f := f.trans fA
          have s1 := Nat.le_trans s1 fA.size
          repeat (refine ⟨(by first | exact rfl | exact pv_i rfl rfl | exact okB2 (by assumption) (by assumption)), ?_⟩)
          refine c351 cv hlb (by omega) hv1 bE hxl hx1 neVE fun tF u15 obj iv fF hobF => ?_
          refine ⟨kp_fr fF lX (fun b hb hh => by have := hobv b hh; have := hX1 b hb; omega), ?_⟩
          have hobj : ∀ b, obj = some b → w1.heap.size ≤ b := fun b hb => (hobF b hb).elim (fun hh => hobv b hh) (fun hh => Nat.le_trans s1 hh)
          have ik := ik.keep fF (fun b hb hh => neIV b hb hh)
          have f := f.trans' fF (fun b hb hh => by have := hobv b hh; omega)
          repeat (refine ⟨(by first | exact rfl | exact pv_i rfl rfl | exact okB2 (by assumption) (by assumption)), ?_⟩)
          refine pv_i (buildV2 ik.one iv.one) ?_
          refine ⟨okB2 ik.one iv.one, ?_⟩
          dsimp only [upd]
          intro w9 X9 y9
          exact fin tC tF _ _ _ obi obj ik iv f hobi hobj y9
      · refine ⟨x, (by rw [hxe]; rfl), ?_⟩
        have nB := newB_nw u1 x 340
        have neKE : obk ≠ some u1.heap.size := fun hh => by have := ck.lt _ hh; omega
        generalize newB u1 x 340 = u17 at nB ⊢
        have fA := nB.fr
        have bE := nB.own
        have ck := ck.keep fA (fun _ _ => no_not _)
        have lX : ∀ b, X1 b → b < u17.heap.size := fun b hb => Nat.lt_of_lt_of_le (lX b hb) fA.size
        have f := f.trans fA
        have s1 := Nat.le_trans s1 fA.size
        repeat (refine ⟨(by first | exact rfl | exact pv_i rfl rfl | exact okB2 (by assumption) (by assumption)), ?_⟩)
        refine ⟨[.string key], rfl, ?_⟩
        have nB := newB_nw u17 [.string key] 9
        have neKB : obk ≠ some u17.heap.size := fun hh => by have := ck.lt _ hh; omega
        generalize newB u17 [.string key] 9 = u18 at nB ⊢
        have fA := nB.fr
        have bE := fA.own bE (no_not _)
        have bB := nB.own
        have ck := ck.keep fA (fun _ _ => no_not _)
        have lX : ∀ b, X1 b → b < u18.heap.size := fun b hb => Nat.lt_of_lt_of_le (lX b hb) fA.size
        have f := f.trans fA
        have s1 := Nat.le_trans s1 fA.size
        repeat (refine ⟨(by first | exact rfl | exact pv_i rfl rfl | exact okB2 (by assumption) (by assumption)), ?_⟩)
        refine c350 ck hlb (by omega) (key_one m) bB rfl rfl neKB fun tC u19 obi ik fC hobC => ?_
        refine ⟨kp_fr fC lX (fun b hb hh => by have := hobk b hh; have := hX1 b hb; omega), ?_⟩
        have hobi : ∀ b, obi = some b → w1.heap.size ≤ b := fun b hb => (hobC b hb).elim (fun hh => hobk b hh) (fun hh => Nat.le_trans s1 hh)
        have bE := fC.own bE (fun hh => neKE hh)
        have f := f.trans' fC (fun b hb hh => by have := hobk b hh; omega)
        have lX : ∀ b, X1 b → b < u19.heap.size := fun b hb => Nat.lt_of_lt_of_le (lX b hb) fC.size
        have s1 := Nat.le_trans s1 fC.size
        repeat (refine ⟨(by first | exact rfl | exact pv_i rfl rfl | exact okB2 (by assumption) (by assumption)), ?_⟩)
        refine c349 (hv.ext f) (by omega) hv1 fun tD u20 obv cv fA hobA => ?_
        refine ⟨kp_no fA lX, ?_⟩
        have hobv : ∀ b, obv = some b → w1.heap.size ≤ b := fun b hb => Nat.le_trans s1 (hobA b hb)
        have neVE : obv ≠ some u1.heap.size := fun hh => by have := hobA _ hh; have := own_lt bE; omega
        have neIV : ∀ b, obi = some b → ¬ obv = some b := fun b hb hh => by have := hobA b hh; have := ik.lt b hb; omega
        have bE := fA.own bE (no_not _)
        have ik := ik.keep fA (fun _ _ => no_not _)
        have lX : ∀ b, X1 b → b < u20.heap.size := fun b hb => Nat.lt_of_lt_of_le (lX b hb) fA.size
        have f := f.trans fA
        have s1 := Nat.le_trans s1 fA.size
        repeat (refine ⟨(by first | exact rfl | exact pv_i rfl rfl | exact okB2 (by assumption) (by assumption)), ?_⟩)
        refine c351 cv hlb (by omega) hv1 bE hxl hx1 neVE fun tF u21 obj iv fF hobF => ?_
        refine ⟨kp_fr fF lX (fun b hb hh => by have := hobv b hh; have := hX1 b hb; omega), ?_⟩
        have hobj : ∀ b, obj = some b → w1.heap.size ≤ b := fun b hb => (hobF b hb).elim (fun hh => hobv b hh) (fun hh => Nat.le_trans s1 hh)
        have ik := ik.keep fF (fun b hb hh => neIV b hb hh)
        have f := f.trans' fF (fun b hb hh => by have := hobv b hh; omega)
        repeat (refine ⟨(by first | exact rfl | exact pv_i rfl rfl | exact okB2 (by assumption) (by assumption)), ?_⟩)
        refine pv_i (buildV2 ik.one iv.one) ?_
        refine ⟨okB2 ik.one iv.one, ?_⟩
        dsimp only [upd]
        intro w9 X9 y9
        exact fin tC tF _ _ _ obi obj ik iv f hobi hobj y9
    · refine ⟨?_, ?_⟩
      · refine ⟨[.string key], rfl, ?_⟩
        have nB := newB_nw (drewW w3) [.string key] 9
        generalize newB (drewW w3) [.string key] 9 = u23 at nB ⊢
        have fA := nB.fr
        have bB := nB.own
        have lX : ∀ b, X1 b → b < u23.heap.size := fun b hb => Nat.lt_of_lt_of_le (lX b hb) fA.size
        have f := f.trans fA
        have s1 := Nat.le_trans s1 fA.size
        repeat (refine ⟨(by first | exact rfl | exact pv_i rfl rfl | exact okB2 (by assumption) (by assumption)), ?_⟩)
        refine ⟨?_, ?_⟩
        · refine c347 (hk.ext f) (by omega) (key_one m) fun tA u24 obk ck fA hobA => ?_
          refine ⟨kp_no fA lX, ?_⟩
          have hobk : ∀ b, obk = some b → w1.heap.size ≤ b := fun b hb => Nat.le_trans s1 (hobA b hb)
          have neKB : obk ≠ some (drewW w3).heap.size := fun hh => by have := hobA _ hh; have := own_lt bB; omega
          have bB := fA.own bB (no_not _)
          have lX : ∀ b, X1 b → b < u24.heap.size := fun b hb => Nat.lt_of_lt_of_le (lX b hb) fA.size
          have f := f.trans fA
          have s1 := Nat.le_trans s1 fA.size
          repeat (refine ⟨(by first | exact rfl | exact pv_i rfl rfl | exact okB2 (by assumption) (by assumption)), ?_⟩)
          refine ⟨?_, ?_⟩
          · refine c350 ck hlb (by omega) (key_one m) bB rfl rfl neKB fun tC u25 obi ik fC hobC => ?_
            refine ⟨kp_fr fC lX (fun b hb hh => by have := hobk b hh; have := hX1 b hb; omega), ?_⟩
            have hobi : ∀ b, obi = some b → w1.heap.size ≤ b := fun b hb => (hobC b hb).elim (fun hh => hobk b hh) (fun hh => Nat.le_trans s1 hh)
            have f := f.trans' fC (fun b hb hh => by have := hobk b hh; omega)
            have lX : ∀ b, X1 b → b < u25.heap.size := fun b hb => Nat.lt_of_lt_of_le (lX b hb) fC.size
            have s1 := Nat.le_trans s1 fC.size
            repeat (refine ⟨(by first | exact rfl | exact pv_i rfl rfl | exact okB2 (by assumption) (by assumption)), ?_⟩)
            refine ⟨?_, ?_⟩
            · refine c349 (hv.ext f) (by omega) hv1 fun tD u26 obv cv fA hobA => ?_
              refine ⟨kp_no fA lX, ?_⟩
              have hobv : ∀ b, obv = some b → w1.heap.size ≤ b := fun b hb => Nat.le_trans s1 (hobA b hb)
              have neIV : ∀ b, obi = some b → ¬ obv = some b := fun b hb hh => by have := hobA b hh; have := ik.lt b hb; omega
              have ik := ik.keep fA (fun _ _ => no_not _)
              have lX : ∀ b, X1 b → b < u26.heap.size := fun b hb => Nat.lt_of_lt_of_le (lX b hb) fA.size
              have f := f.trans fA
              have s1 := Nat.le_trans s1 fA.size
              repeat (refine ⟨(by first | exact rfl | exact pv_i rfl rfl | exact okB2 (by assumption) (by assumption)), ?_⟩)
              refine ⟨x, (by rw [hxe]; rfl), ?_⟩
              have nB := newB_nw u26 x 340
              have neVE : obv ≠ some u26.heap.size := fun hh => by have := cv.lt _ hh; omega
              generalize newB u26 x 340 = u27 at nB ⊢
              have fA := nB.fr
              have bE := nB.own
              have cv := cv.keep fA (fun _ _ => no_not _)
              have ik := ik.keep fA (fun _ _ => no_not _)
              have lX : ∀ b, X1 b → b < u27.heap.size := fun b hb => Nat.lt_of_lt_of_le (lX b hb) fA.size
              have f := f.trans fA
              have s1 := Nat.le_trans s1 fA.size
              repeat (refine ⟨(by first | exact rfl | exact pv_i rfl rfl | exact okB2 (by assumption) (by assumption)), ?_⟩)
              refine c351 cv hlb (by omega) hv1 bE hxl hx1 neVE fun tF u28 obj iv fF hobF => ?_
              refine ⟨kp_fr fF lX (fun b hb hh => by have := hobv b hh; have := hX1 b hb; omega), ?_⟩
              have hobj : ∀ b, obj = some b → w1.heap.size ≤ b := fun b hb => (hobF b hb).elim (fun hh => hobv b hh) (fun hh => Nat.le_trans s1 hh)
              have ik := ik.keep fF (fun b hb hh => neIV b hb hh)
              have f := f.trans' fF (fun b hb hh => by have := hobv b hh; omega)
              repeat (refine ⟨(by first | exact rfl | exact pv_i rfl rfl | exact okB2 (by assumption) (by assumption)), ?_⟩)
              refine pv_i (buildV2 ik.one iv.one) ?_
              refine ⟨okB2 ik.one iv.one, ?_⟩
              dsimp only [upd]
              intro w9 X9 y9
              exact fin tC tF _ _ _ obi obj ik iv f hobi hobj y9
            · refine ⟨x, (by rw [hxe]; rfl), ?_⟩
              have nB := newB_nw u25 x 340
              generalize newB u25 x 340 = u30 at nB ⊢
              have fA := nB.fr
              have bE := nB.own
              have ik := ik.keep fA (fun _ _ => no_not _)
              have lX : ∀ b, X1 b → b < u30.heap.size := fun b hb => Nat.lt_of_lt_of_le (lX b hb) fA.size
              have f := f.trans fA
              have s1 := Nat.le_trans s1 fA.size
              repeat (refine ⟨(by first | exact rfl | exact pv_i rfl rfl | exact okB2 (by assumption) (by assumption)), ?_⟩)
              refine c349 (hv.ext f) (by omega) hv1 fun tD u31 obv cv fA hobA => ?_
              refine ⟨kp_no fA lX, ?_⟩
              have hobv : ∀ b, obv = some b → w1.heap.size ≤ b := fun b hb => Nat.le_trans s1 (hobA b hb)
              have neVE : obv ≠ some u25.heap.size := fun hh => by have := hobA _ hh; have := own_lt bE; omega
              have neIV : ∀ b, obi = some b → ¬ obv = some b := fun b hb hh => by have := hobA b hh; have := ik.lt b hb; omega
              have bE := fA.own bE (no_not _)
              have ik := ik.keep fA (fun _ _ => no_not _)
              have lX : ∀ b, X1 b → b < u31.heap.size := fun b hb => Nat.lt_of_lt_of_le (lX b hb) fA.size
              have f := f.trans fA
              have s1 := Nat.le_trans s1 fA.size
              repeat (refine ⟨(by first | exact rfl | exact pv_i rfl rfl | exact okB2 (by assumption) (by assumption)), ?_⟩)
              refine c351 cv hlb (by omega) hv1 bE hxl hx1 neVE fun tF u32 obj iv fF hobF => ?_
              refine ⟨kp_fr fF lX (fun b hb hh => by have := hobv b hh; have := hX1 b hb; omega), ?_⟩
              have hobj : ∀ b, obj = some b → w1.heap.size ≤ b := fun b hb => (hobF b hb).elim (fun hh => hobv b hh) (fun hh => Nat.le_trans s1 hh)
              have ik := ik.keep fF (fun b hb hh => neIV b hb hh)
              have f := f.trans' fF (fun b hb hh => by have := hobv b hh; omega)
              repeat (refine ⟨(by first | exact rfl | exact pv_i rfl rfl | exact okB2 (by assumption) (by assumption)), ?_⟩)
              refine pv_i (buildV2 ik.one iv.one) ?_
              refine ⟨okB2 ik.one iv.one, ?_⟩
              dsimp only [upd]
              intro w9 X9 y9
              exact fin tC tF _ _ _ obi obj ik iv f hobi hobj y9
          · refine ⟨x, (by rw [hxe]; rfl), ?_⟩
            have nB := newB_nw u24 x 340
            have neKE : obk ≠ some u24.heap.size := fun hh => by have := ck.lt _ hh; omega
            generalize newB u24 x 340 = u34 at nB ⊢
            have fA := nB.fr
            have bB := fA.own bB (no_not _)
            have bE := nB.own
            have ck := ck.keep fA (fun _ _ => no_not _)
            have lX : ∀ b, X1 b → b < u34.heap.size := fun b hb => Nat.lt_of_lt_of_le (lX b hb) fA.size
            have f := f.trans fA
            have s1 := Nat.le_trans s1 fA.size
            repeat (refine ⟨(by first | exact rfl | exact pv_i rfl rfl | exact okB2 (by assumption) (by assumption)), ?_⟩)
            refine c350 ck hlb (by omega) (key_one m) bB rfl rfl neKB fun tC u35 obi ik fC hobC => ?_
            refine ⟨kp_fr fC lX (fun b hb hh => by have := hobk b hh; have := hX1 b hb; omega), ?_⟩
            have hobi : ∀ b, obi = some b → w1.heap.size ≤ b := fun b hb => (hobC b hb).elim (fun hh => hobk b hh) (fun hh => Nat.le_trans s1 hh)
            have bE := fC.own bE (fun hh => neKE hh)
            have f := f.trans' fC (fun b hb hh => by have := hobk b hh; omega)
            have lX : ∀ b, X1 b → b < u35.heap.size := fun b hb => Nat.lt_of_lt_of_le (lX b hb) fC.size
            have s1 := Nat.le_trans s1 fC.size
            repeat (refine ⟨(by first | exact rfl | exact pv_i rfl rfl | exact okB2 (by assumption) (by assumption)), ?_⟩)
            refine c349 (hv.ext f) (by omega) hv1 fun tD u36 obv cv fA hobA => ?_
            refine ⟨kp_no fA lX, ?_⟩
            have hobv : ∀ b, obv = some b → w1.heap.size ≤ b := fun b hb => Nat.le_trans s1 (hobA b hb)
            have neVE : obv ≠ some u24.heap.size := fun hh => by have := hobA _ hh; have := own_lt bE; omega
            have neIV : ∀ b, obi = some b → ¬ obv = some b := fun b hb hh => by have := hobA b hh; have := ik.lt b hb; omega
            have bE := fA.own bE (no_not _)
            have ik := ik.keep fA (fun _ _ => no_not _)
            have lX : ∀ b, X1 b → b < u36.heap.size := fun b hb => Nat.lt_of_lt_of_le (lX b hb) fA.size
            have f := f.trans fA
            have s1 := Nat.le_trans s1 fA.size
            repeat (refine ⟨(by first | exact rfl | exact pv_i rfl rfl | exact okB2 (by assumption) (by assumption)), ?_⟩)
            refine c351 cv hlb (by omega) hv1 bE hxl hx1 neVE fun tF u37 obj iv fF hobF => ?_
            refine ⟨kp_fr fF lX (fun b hb hh => by have := hobv b hh; have := hX1 b hb; omega), ?_⟩
            have hobj : ∀ b, obj = some b → w1.heap.size ≤ b := fun b hb => (hobF b hb).elim (fun hh => hobv b hh) (fun hh => Nat.le_trans s1 hh)
            have ik := ik.keep fF (fun b hb hh => neIV b hb hh)
            have f := f.trans' fF (fun b hb hh => by have := hobv b hh; omega)
            repeat (refine ⟨(by first | exact rfl | exact pv_i rfl rfl | exact okB2 (by assumption) (by assumption)), ?_⟩)
            refine pv_i (buildV2 ik.one iv.one) ?_
            refine ⟨okB2 ik.one iv.one, ?_⟩
            dsimp only [upd]
            intro w9 X9 y9
            exact fin tC tF _ _ _ obi obj ik iv f hobi hobj y9
        · refine ⟨x, (by rw [hxe]; rfl), ?_⟩
          have nB := newB_nw u23 x 340
          generalize newB u23 x 340 = u39 at nB ⊢
          have fA := nB.fr
          have bB := fA.own bB (no_not _)
          have bE := nB.own
          have lX : ∀ b, X1 b → b < u39.heap.size := fun b hb => Nat.lt_of_lt_of_le (lX b hb) fA.size
          have f := f.trans fA
          have s1 := Nat.le_trans s1 fA.size
          repeat (refine ⟨(by first | exact rfl | exact pv_i rfl rfl | exact okB2 (by assumption) (by assumption)), ?_⟩)
          refine c347 (hk.ext f) (by omega) (key_one m) fun tA u40 obk ck fA hobA => ?_
          refine ⟨kp_no fA lX, ?_⟩
          have hobk : ∀ b, obk = some b → w1.heap.size ≤ b := fun b hb => Nat.le_trans s1 (hobA b hb)
          have neKB : obk ≠ some (drewW w3).heap.size := fun hh => by have := hobA _ hh; have := own_lt bB; omega
          have neKE : obk ≠ some u23.heap.size := fun hh => by have := hobA _ hh; have := own_lt bE; omega
          have bB := fA.own bB (no_not _)
          have bE := fA.own bE (no_not _)
          have lX : ∀ b, X1 b → b < u40.heap.size := fun b hb => Nat.lt_of_lt_of_le (lX b hb) fA.size
          have f := f.trans fA
          have s1 := Nat.le_trans s1 fA.size
          repeat (refine ⟨(by first | exact rfl | exact pv_i rfl rfl | exact okB2 (by assumption) (by assumption)), ?_⟩)
          refine c350 ck hlb (by omega) (key_one m) bB rfl rfl neKB fun tC u41 obi ik fC hobC => ?_
          refine ⟨kp_fr fC lX (fun b hb hh => by have := hobk b hh; have := hX1 b hb; omega), ?_⟩
          have hobi : ∀ b, obi = some b → w1.heap.size ≤ b := fun b hb => (hobC b hb).elim (fun hh => hobk b hh) (fun hh => Nat.le_trans s1 hh)
          have bE := fC.own bE (fun hh => neKE hh)
          have f := f.trans' fC (fun b hb hh => by have := hobk b hh; omega)
          have lX : ∀ b, X1 b → b < u41.heap.size := fun b hb => Nat.lt_of_lt_of_le (lX b hb) fC.size
          have s1 := Nat.le_trans s1 fC.size
          repeat (refine ⟨(by first | exact rfl | exact pv_i rfl rfl | exact okB2 (by assumption) (by assumption)), ?_⟩)
          refine c349 (hv.ext f) (by omega) hv1 fun tD u42 obv cv fA hobA => ?_
          refine ⟨kp_no fA lX, ?_⟩
          have hobv : ∀ b, obv = some b → w1.heap.size ≤ b := fun b hb => Nat.le_trans s1 (hobA b hb)
          have neVE : obv ≠ some u23.heap.size := fun hh => by have := hobA _ hh; have := own_lt bE; omega
          have neIV : ∀ b, obi = some b → ¬ obv = some b := fun b hb hh => by have := hobA b hh; have := ik.lt b hb; omega
          have bE := fA.own bE (no_not _)
          have ik := ik.keep fA (fun _ _ => no_not _)
          have lX : ∀ b, X1 b → b < u42.heap.size := fun b hb => Nat.lt_of_lt_of_le (lX b hb) fA.size
          have f := f.trans fA
          have s1 := Nat.le_trans s1 fA.size
          repeat (refine ⟨(by first | exact rfl | exact pv_i rfl rfl | exact okB2 (by assumption) (by assumption)), ?_⟩)
          refine c351 cv hlb (by omega) hv1 bE hxl hx1 neVE fun tF u43 obj iv fF hobF => ?_
          refine ⟨kp_fr fF lX (fun b hb hh => by have := hobv b hh; have := hX1 b hb; omega), ?_⟩
          have hobj : ∀ b, obj = some b → w1.heap.size ≤ b := fun b hb => (hobF b hb).elim (fun hh => hobv b hh) (fun hh => Nat.le_trans s1 hh)
          have ik := ik.keep fF (fun b hb hh => neIV b hb hh)
          have f := f.trans' fF (fun b hb hh => by have := hobv b hh; omega)
          repeat (refine ⟨(by first | exact rfl | exact pv_i rfl rfl | exact okB2 (by assumption) (by assumption)), ?_⟩)
          refine pv_i (buildV2 ik.one iv.one) ?_
          refine ⟨okB2 ik.one iv.one, ?_⟩
          dsimp only [upd]
          intro w9 X9 y9
          exact fin tC tF _ _ _ obi obj ik iv f hobi hobj y9
      · refine ⟨x, (by rw [hxe]; rfl), ?_⟩
        have nB := newB_nw (drewW w3) x 340
        generalize newB (drewW w3) x 340 = u45 at nB ⊢
        have fA := nB.fr
        have bE := nB.own
        have lX : ∀ b, X1 b → b < u45.heap.size := fun b hb => Nat.lt_of_lt_of_le (lX b hb) fA.size
        have f := f.trans fA
        have s1 := Nat.le_trans s1 fA.size
        repeat (refine ⟨(by first | exact rfl | exact pv_i rfl rfl | exact okB2 (by assumption) (by assumption)), ?_⟩)
        refine ⟨?_, ?_⟩
        · refine c347 (hk.ext f) (by omega) (key_one m) fun tA u46 obk ck fA hobA => ?_
          refine ⟨kp_no fA lX, ?_⟩
          have hobk : ∀ b, obk = some b → w1.heap.size ≤ b := fun b hb => Nat.le_trans s1 (hobA b hb)
          have neKE : obk ≠ some (drewW w3).heap.size := fun hh => by have := hobA _ hh; have := own_lt bE; omega
          have bE := fA.own bE (no_not _)
          have lX : ∀ b, X1 b → b < u46.heap.size := fun b hb => Nat.lt_of_lt_of_le (lX b hb) fA.size
          have f := f.trans fA
          have s1 := Nat.le_trans s1 fA.size
          repeat (refine ⟨(by first | exact rfl | exact pv_i rfl rfl | exact okB2 (by assumption) (by assumption)), ?_⟩)
          refine ⟨[.string key], rfl, ?_⟩
          have nB := newB_nw u46 [.string key] 9
          have neKB : obk ≠ some u46.heap.size := fun hh => by have := ck.lt _ hh; omega
          generalize newB u46 [.string key] 9 = u47 at nB ⊢
          have fA := nB.fr
          have bE := fA.own bE (no_not _)
          have bB := nB.own
          have ck := ck.keep fA (fun _ _ => no_not _)
          have lX : ∀ b, X1 b → b < u47.heap.size := fun b hb => Nat.lt_of_lt_of_le (lX b hb) fA.size
          have f := f.trans fA
          have s1 := Nat.le_trans s1 fA.size
          repeat (refine ⟨(by first | exact rfl | exact pv_i rfl rfl | exact okB2 (by assumption) (by assumption)), ?_⟩)
          refine c350 ck hlb (by omega) (key_one m) bB rfl rfl neKB fun tC u48 obi ik fC hobC => ?_
          refine ⟨kp_fr fC lX (fun b hb hh => by have := hobk b hh; have := hX1 b hb; omega), ?_⟩
          have hobi : ∀ b, obi = some b → w1.heap.size ≤ b := fun b hb => (hobC b hb).elim (fun hh => hobk b hh) (fun hh => Nat.le_trans s1 hh)
          have bE := fC.own bE (fun hh => neKE hh)
          have f := f.trans' fC (fun b hb hh => by have := hobk b hh; omega)
          have lX : ∀ b, X1 b → b < u48.heap.size := fun b hb => Nat.lt_of_lt_of_le (lX b hb) fC.size
          have s1 := Nat.le_trans s1 fC.size
          repeat (refine ⟨(by first | exact rfl | exact pv_i rfl rfl | exact okB2 (by assumption) (by assumption)), ?_⟩)
          refine c349 (hv.ext f) (by omega) hv1 fun tD u49 obv cv fA hobA => ?_
          refine ⟨kp_no fA lX, ?_⟩
          have hobv : ∀ b, obv = some b → w1.heap.size ≤ b := fun b hb => Nat.le_trans s1 (hobA b hb)
          have neVE : obv ≠ some (drewW w3).heap.size := fun hh => by have := hobA _ hh; have := own_lt bE; omega
          have neIV : ∀ b, obi = some b → ¬ obv = some b := fun b hb hh => by have := hobA b hh; have := ik.lt b hb; omega
          have bE := fA.own bE (no_not _)
          have ik := ik.keep fA (fun _ _ => no_not _)
          have lX : ∀ b, X1 b → b < u49.heap.size := fun b hb => Nat.lt_of_lt_of_le (lX b hb) fA.size
          have f := f.trans fA
          have s1 := Nat.le_trans s1 fA.size
          repeat (refine ⟨(by first | exact rfl | exact pv_i rfl rfl | exact okB2 (by assumption) (by assumption)), ?_⟩)
          refine c351 cv hlb (by omega) hv1 bE hxl hx1 neVE fun tF u50 obj iv fF hobF => ?_
          refine ⟨kp_fr fF lX (fun b hb hh => by have := hobv b hh; have := hX1 b hb; omega), ?_⟩
          have hobj : ∀ b, obj = some b → w1.heap.size ≤ b := fun b hb => (hobF b hb).elim (fun hh => hobv b hh) (fun hh => Nat.le_trans s1 hh)
          have ik := ik.keep fF (fun b hb hh => neIV b hb hh)
          have f := f.trans' fF (fun b hb hh => by have := hobv b hh; omega)
          repeat (refine ⟨(by first | exact rfl | exact pv_i rfl rfl | exact okB2 (by assumption) (by assumption)), ?_⟩)
          refine pv_i (buildV2 ik.one iv.one) ?_
          refine ⟨okB2 ik.one iv.one, ?_⟩
          dsimp only [upd]
          intro w9 X9 y9
          exact fin tC tF _ _ _ obi obj ik iv f hobi hobj y9
        · refine ⟨[.string key], rfl, ?_⟩
          have nB := newB_nw u45 [.string key] 9
          generalize newB u45 [.string key] 9 = u52 at nB ⊢
          have fA := nB.fr
          have bE := fA.own bE (no_not _)
          have bB := nB.own
          have lX : ∀ b, X1 b → b < u52.heap.size := fun b hb => Nat.lt_of_lt_of_le (lX b hb) fA.size
          have f := f.trans fA
          have s1 := Nat.le_trans s1 fA.size
          repeat (refine ⟨(by first | exact rfl | exact pv_i rfl rfl | exact okB2 (by assumption) (by assumption)), ?_⟩)
          refine c347 (hk.ext f) (by omega) (key_one m) fun tA u53 obk ck fA hobA => ?_
          refine ⟨kp_no fA lX, ?_⟩
          have hobk : ∀ b, obk = some b → w1.heap.size ≤ b := fun b hb => Nat.le_trans s1 (hobA b hb)
          have neKB : obk ≠ some u45.heap.size := fun hh => by have := hobA _ hh; have := own_lt bB; omega
          have neKE : obk ≠ some (drewW w3).heap.size := fun hh => by have := hobA _ hh; have := own_lt bE; omega
          have bB := fA.own bB (no_not _)
          have bE := fA.own bE (no_not _)
          have lX : ∀ b, X1 b → b < u53.heap.size := fun b hb => Nat.lt_of_lt_of_le (lX b hb) fA.size
          have f := f.trans fA
          have s1 := Nat.le_trans s1 fA.size
          repeat (refine ⟨(by first | exact rfl | exact pv_i rfl rfl | exact okB2 (by assumption) (by assumption)), ?_⟩)
          refine c350 ck hlb (by omega) (key_one m) bB rfl rfl neKB fun tC u54 obi ik fC hobC => ?_
          refine ⟨kp_fr fC lX (fun b hb hh => by have := hobk b hh; have := hX1 b hb; omega), ?_⟩
          have hobi : ∀ b, obi = some b → w1.heap.size ≤ b := fun b hb => (hobC b hb).elim (fun hh => hobk b hh) (fun hh => Nat.le_trans s1 hh)
          have bE := fC.own bE (fun hh => neKE hh)
          have f := f.trans' fC (fun b hb hh => by have := hobk b hh; omega)
          have lX : ∀ b, X1 b → b < u54.heap.size := fun b hb => Nat.lt_of_lt_of_le (lX b hb) fC.size
          have s1 := Nat.le_trans s1 fC.size
          repeat (refine ⟨(by first | exact rfl | exact pv_i rfl rfl | exact okB2 (by assumption) (by assumption)), ?_⟩)
          refine c349 (hv.ext f) (by omega) hv1 fun tD u55 obv cv fA hobA => ?_
          refine ⟨kp_no fA lX, ?_⟩
          have hobv : ∀ b, obv = some b → w1.heap.size ≤ b := fun b hb => Nat.le_trans s1 (hobA b hb)
          have neVE : obv ≠ some (drewW w3).heap.size := fun hh => by have := hobA _ hh; have := own_lt bE; omega
          have neIV : ∀ b, obi = some b → ¬ obv = some b := fun b hb hh => by have := hobA b hh; have := ik.lt b hb; omega
          have bE := fA.own bE (no_not _)
          have ik := ik.keep fA (fun _ _ => no_not _)
          have lX : ∀ b, X1 b → b < u55.heap.size := fun b hb => Nat.lt_of_lt_of_le (lX b hb) fA.size
          have f := f.trans fA
          have s1 := Nat.le_trans s1 fA.size
          repeat (refine ⟨(by first | exact rfl | exact pv_i rfl rfl | exact okB2 (by assumption) (by assumption)), ?_⟩)
          refine c351 cv hlb (by omega) hv1 bE hxl hx1 neVE fun tF u56 obj iv fF hobF => ?_
          refine ⟨kp_fr fF lX (fun b hb hh => by have := hobv b hh; have := hX1 b hb; omega), ?_⟩
          have hobj : ∀ b, obj = some b → w1.heap.size ≤ b := fun b hb => (hobF b hb).elim (fun hh => hobv b hh) (fun hh => Nat.le_trans s1 hh)
          have ik := ik.keep fF (fun b hb hh => neIV b hb hh)
          have f := f.trans' fF (fun b hb hh => by have := hobv b hh; omega)
          repeat (refine ⟨(by first | exact rfl | exact pv_i rfl rfl | exact okB2 (by assumption) (by assumption)), ?_⟩)
          refine pv_i (buildV2 ik.one iv.one) ?_
          refine ⟨okB2 ik.one iv.one, ?_⟩
          dsimp only [upd]
          intro w9 X9 y9
          exact fin tC tF _ _ _ obi obj ik iv f hobi hobj y9
theorem c356 {v : Value} {m : Mp (List Value)} {key : ByteArray} {x : List Value} (hm : MapI w Im 4 v m) (hI : NewI w Im) (hxl : x.length = 4) (hx1 : x.all one1 = true) (hn : m.length < 2^38) (h : ∀ v' w', MapI w' Im 4 v' (mWith m key x) → Fr no w w' → R v' w') :
    CallsR Tryz.prog 356 #[v, .string key, .agg x.toArray] w R := by
  apply sh356; unfold S356
  obtain ⟨ks, vs, rfl, hk, hv, hlen, hone, hu⟩ := hm
  obtain ⟨x0, x1, x2, x3, hxe⟩ : ∃ x0 x1 x2 x3, x = [x0, x1, x2, x3] := by
    match x, hxl with
    | [a, b, c, d], _ => exact ⟨a, b, c, d, rfl⟩
  have hcx : (Value.agg x.toArray).cells.toList = x := by simp [Value.cells]
  have hbx : okB true 4 (.agg x.toArray) = true := by unfold okB; simp only [List.size_toArray, hxl, hx1]; rfl
  have hks1 := hk.one
  have hvs1 := hv.one
  refine ⟨okB2 hks1 hvs1, hbx, ?_⟩
  intro w1 X1 y1
  have hv1 : (m.flatMap fun p => p.2).all one1 = true := flat_one' hone
  have s0 : w.heap.size ≤ w1.heap.size := y1.frno.size
  have hX1 := y1.lt
  refine c354 ⟨ks, vs, rfl, hk.ext y1.frno, hv.ext y1.frno, hlen, hone, hu⟩ (by omega) fun w3 f3 => ?_
  refine ⟨kp_no f3 y1.lt, ?_⟩
  have f : Fr no w (drewW w3) := (y1.frno.trans f3).trans (drewW_fr _ _)
  have lX : ∀ b, X1 b → b < (drewW w3).heap.size := fun b hb => Nat.lt_of_lt_of_le (y1.lt b hb) f3.size
  have s1 : w1.heap.size ≤ (drewW w3).heap.size := f3.size
  refine pv_i (ext2a _ _) (pv_i (ext2b _ _) ?_)
  have hlb := lbK_le m key
  cases hh : hasK m key with
  | true =>
    rw [condC_t, jnB_e]
    have hlt := lb_has hu hh
    have hset := mWith_has m key x hu hh
    have fin : ∀ (tD : Value) (u : World) (Xu : Nat → Prop) (ob : Option Nat), SlO u 4 349 tD m.length (m.flatMap fun p => p.2) ob → Fr no w u → (∀ b, ob = some b → w.heap.size ≤ b ∧ ¬ Xu b) → (∀ b, Xu b → w.heap.size ≤ b) →
        pv (idxSV 4 tD (.int .i64 (lbK m key : Nat))) fun t27 => syC u Xu fun w14 X15 => stC w14 4 t27 (.agg x.toArray) fun w16 => kp X15 w14 w16 ∧ okB true 2 (.agg #[ks, tD]) = true ∧ syC w16 X15 fun w17 X18 => R (.agg #[ks, tD]) w17 := by
      intro tD u Xu ob cv fu hob hXw
      obtain ⟨b, cc, full, rfl, rfl, hc, g1, g2, g3, g4⟩ := cv.got (by omega)
      have hbl := own_lt g1
      have y0 : ∀ u', Fr Xu u u' → SlO u' 4 349 _ m.length (m.flatMap fun p => p.2) (some b) := fun u' fx => cv.keep fx (fun b' hb' => by cases hb'; exact (hob b rfl).2)
      have hp : idxSV 4 (.slice (some ⟨b, 0, none⟩) m.length cc) (.int .i64 (lbK m key : Nat)) = some (.pointer (some ⟨b, 0 + lbK m key * 4, none⟩)) := by unfold idxSV; simp only [Int.toNat_natCast]; rw [if_pos ⟨by omega, by omega⟩]
      refine pv_i hp ?_
      intro w14 X15 y14
      obtain ⟨p', hp', hst⟩ := (y0 w14 y14.fr).stk (i := lbK m key) (kd := .i64) hlt (x := .agg x.toArray) (by simpa [Value.cells] using hxl) (by simpa [Value.cells] using hx1)
      rw [hp] at hp'; cases hp'
      refine hst _ fun w16 hs16 f16 => ?_
      rw [hcx] at hs16
      have hd15 : ∀ b', X15 b' → ¬ some b = some b' := fun b' hb' hh' => by
        cases hh'
        rcases y14.sub b hb' with h1 | h1
        · exact (hob b rfl).2 h1
        · omega
      refine ⟨kp_fr f16 y14.lt hd15, okB2 hks1 hs16.one, ?_⟩
      intro w17 X18 y17
      have f14 := y14.step fu hXw
      have f17 := y17.step (f14.1.trans' f16 (fun b' hb' hh' => by cases hh'; have := (hob b rfl).1; omega)) f14.2.1
      refine h _ w17 ⟨ks, _, rfl, ?_, ?_, ?_, ?_, keysUp_with m key x hu⟩ f17.1
      · have : (mWith m key x).map (fun p => Value.string p.1) = m.map fun p => Value.string p.1 := by rw [hset]; exact map_key_set hu hh
        rw [this, hset, List.length_set]; exact hk.ext f17.1
      · have := (hs16.keep y17.fr (fun b' hb' hh' => by cases hb'; exact hd15 b hh' rfl)).toI (Im := Im) (fun b' hb' => by cases hb'; exact hI b (hob b rfl).1)
        rw [hset, List.length_set, ← flat_set' hlen hlt (by exact hxl)]
        exact this
      · intro p hp; rcases mem_mWith m key x p hp with rfl | hp
        · exact hxl
        · exact hlen p hp
      · intro p hp; rcases mem_mWith m key x p hp with rfl | hp
        · exact hx1
        · exact hone p hp
    refine pv_i (v := ks) rfl ?_
    refine pv_i (v := vs) rfl ?_
    refine ⟨?_, ?_⟩
    · refine c389 (hv.ext f) (by omega) hv1 fun tD w8 obv cv f8 hob => ?_
      refine ⟨kp_no f8 lX, ?_⟩
      repeat (refine ⟨(by first | exact rfl | exact pv_i rfl rfl | exact okB2 (by assumption) (by assumption)), ?_⟩)
      have htD := cv.one
      refine pv_i (buildV2 hks1 htD) ?_
      repeat (refine ⟨(by first | exact rfl | exact pv_i rfl rfl | exact okB2 (by assumption) (by assumption)), ?_⟩)
      dsimp only [upd]
      refine pv_i (v := tD) rfl ?_
      refine fin tD w8 X1 obv cv (f.trans f8) (fun b hb => ⟨by have := hob b hb; omega, fun hx => by have := hob b hb; have := hX1 b hx; omega⟩) y1.ge
    · repeat (refine ⟨(by first | exact rfl | exact pv_i rfl rfl | exact okB2 (by assumption) (by assumption)), ?_⟩)
      intro w9 X9 y9
      have f9 := y9.step f y1.ge
      refine c389 (hv.ext f9.1) (by omega) hv1 fun tD w8 obv cv f8 hob => ?_
      refine ⟨kp_no f8 y9.lt, ?_⟩
      repeat (refine ⟨(by first | exact rfl | exact pv_i rfl rfl | exact okB2 (by assumption) (by assumption)), ?_⟩)
      have htD := cv.one
      refine pv_i (buildV2 hks1 htD) ?_
      repeat (refine ⟨(by first | exact rfl | exact pv_i rfl rfl | exact okB2 (by assumption) (by assumption)), ?_⟩)
      dsimp only [upd]
      refine pv_i (v := tD) rfl ?_
      refine fin tD w8 X9 obv cv (f9.1.trans f8) (fun b hb => ⟨by have := hob b hb; have := f9.1.size; omega, fun hx => by have := hob b hb; have := y9.lt b hx; omega⟩) f9.2.1
  | false =>
    rw [condC_f, jnB_e]
    have hnot := mWith_not m key x hu hh
    have fin : ∀ (tC tF : Value) (u u9 : World) (X9 : Nat → Prop) (obi obj : Option Nat), SlO u 1 9 tC (m.length + 1) ((m.map fun p => Value.string p.1).take (lbK m key * 1) ++ [.string key] ++ (m.map fun p => Value.string p.1).drop (lbK m key * 1)) obi →
        SlO u 4 349 tF (m.length + 1) ((m.flatMap fun p => p.2).take (lbK m key * 4) ++ x ++ (m.flatMap fun p => p.2).drop (lbK m key * 4)) obj → Fr no w u → (∀ b, obi = some b → w1.heap.size ≤ b) → (∀ b, obj = some b → w1.heap.size ≤ b) → Sy u X1 u9 X9 → R (.agg #[tC, tF]) u9 := by
      intro tC tF u u9 X9 obi obj ik iv fu hi hj y9
      have f9 := y9.step fu y1.ge
      have hml : (mWith m key x).length = m.length + 1 := by rw [hnot]; simp; omega
      refine h _ u9 ⟨tC, tF, rfl, ?_, ?_, ?_, ?_, keysUp_with m key x hu⟩ f9.1
      · have hs := (ik.keep y9.fr (fun b hb hx => by have := hi b hb; have := hX1 b hx; omega)).toI (Im := Im) (fun b hb => hI b (Nat.le_trans s0 (hi b hb)))
        rw [hml]
        have : (mWith m key x).map (fun p => Value.string p.1) = (m.map fun p => Value.string p.1).take (lbK m key * 1) ++ [.string key] ++ (m.map fun p => Value.string p.1).drop (lbK m key * 1) := by
          rw [hnot, Nat.mul_one, List.map_append, List.map_cons, List.map_take, List.map_drop, List.append_assoc]; rfl
        rw [this]; exact hs
      · have hs := (iv.keep y9.fr (fun b hb hx => by have := hj b hb; have := hX1 b hx; omega)).toI (Im := Im) (fun b hb => hI b (Nat.le_trans s0 (hj b hb)))
        rw [hml]
        have : (mWith m key x).flatMap (fun p => p.2) = (m.flatMap fun p => p.2).take (lbK m key * 4) ++ x ++ (m.flatMap fun p => p.2).drop (lbK m key * 4) := by
          rw [hnot, flat_take' _ hlen, flat_drop' _ hlen, List.flatMap_append, List.flatMap_cons, List.append_assoc]
        rw [this]; exact hs
      · intro p hp; rcases mem_mWith m key x p hp with rfl | hp
        · exact hxl
        · exact hlen p hp
      · intro p hp; rcases mem_mWith m key x p hp with rfl | hp
        · exact hx1
        · exact hone p hp
    refine pv_i (v := ks) rfl ?_
    refine pv_i (v := vs) rfl ?_
    refine ⟨?_, ?_⟩
    · refine c347 (hk.ext f) (by omega) (key_one m) fun tA u1 obk ck fA hobA => ?_
      refine ⟨kp_no fA lX, ?_⟩
      have hobk : ∀ b, obk = some b → w1.heap.size ≤ b := fun b hb => Nat.le_trans s1 (hobA b hb)
      have lX : ∀ b, X1 b → b < u1.heap.size := fun b hb => Nat.lt_of_lt_of_le (lX b hb) fA.size
      have f := f.trans fA
      have s1 := Nat.le_trans s1 fA.size
      repeat (refine ⟨(by first | exact rfl | exact pv_i rfl rfl | exact okB2 (by assumption) (by assumption)), ?_⟩)
      refine ⟨?_, ?_⟩
      · refine ⟨[.string key], rfl, ?_⟩
        have nB := newB_nw u1 [.string key] 9
        have neKB : obk ≠ some u1.heap.size := fun hh => by have := ck.lt _ hh; omega
        generalize newB u1 [.string key] 9 = u2 at nB ⊢
        have fA := nB.fr
        have bB := nB.own
        have ck := ck.keep fA (fun _ _ => no_not _)
        have lX : ∀ b, X1 b → b < u2.heap.size := fun b hb => Nat.lt_of_lt_of_le (lX b hb) fA.size
        have f := f.trans fA
        have s1 := Nat.le_trans s1 fA.size
        repeat (refine ⟨(by first | exact rfl | exact pv_i rfl rfl | exact okB2 (by assumption) (by assumption)), ?_⟩)
        refine ⟨?_, ?_⟩
        · refine c350 ck hlb (by omega) (key_one m) bB rfl rfl neKB fun tC u3 obi ik fC hobC => ?_
          refine ⟨kp_fr fC lX (fun b hb hh => by have := hobk b hh; have := hX1 b hb; omega), ?_⟩
          have hobi : ∀ b, obi = some b → w1.heap.size ≤ b := fun b hb => (hobC b hb).elim (fun hh => hobk b hh) (fun hh => Nat.le_trans s1 hh)
          have f := f.trans' fC (fun b hb hh => by have := hobk b hh; omega)
          have lX : ∀ b, X1 b → b < u3.heap.size := fun b hb => Nat.lt_of_lt_of_le (lX b hb) fC.size
          have s1 := Nat.le_trans s1 fC.size
          repeat (refine ⟨(by first | exact rfl | exact pv_i rfl rfl | exact okB2 (by assumption) (by assumption)), ?_⟩)
          refine ⟨?_, ?_⟩
          · refine c389 (hv.ext f) (by omega) hv1 fun tD u4 obv cv fA hobA => ?_
            refine ⟨kp_no fA lX, ?_⟩
            have hobv : ∀ b, obv = some b → w1.heap.size ≤ b := fun b hb => Nat.le_trans s1 (hobA b hb)
            have neIV : ∀ b, obi = some b → ¬ obv = some b := fun b hb hh => by have := hobA b hh; have := ik.lt b hb; omega
            have ik := ik.keep fA (fun _ _ => no_not _)
            have lX : ∀ b, X1 b → b < u4.heap.size := fun b hb => Nat.lt_of_lt_of_le (lX b hb) fA.size
            have f := f.trans fA
            have s1 := Nat.le_trans s1 fA.size
            repeat (refine ⟨(by first | exact rfl | exact pv_i rfl rfl | exact okB2 (by assumption) (by assumption)), ?_⟩)
            refine ⟨x, (by rw [hxe]; rfl), ?_⟩
            have nB := newB_nw u4 x 349
            have neVE : obv ≠ some u4.heap.size := fun hh => by have := cv.lt _ hh; omega
            generalize newB u4 x 349 = u5 at nB ⊢
            have fA := nB.fr
            have bE := nB.own
            have cv := cv.keep fA (fun _ _ => no_not _)
            have ik := ik.keep fA (fun _ _ => no_not _)
            have lX : ∀ b, X1 b → b < u5.heap.size := fun b hb => Nat.lt_of_lt_of_le (lX b hb) fA.size
            have f := f.trans fA
            have s1 := Nat.le_trans s1 fA.size
            repeat (refine ⟨(by first | exact rfl | exact pv_i rfl rfl | exact okB2 (by assumption) (by assumption)), ?_⟩)
            refine c390 cv hlb (by omega) hv1 bE hxl hx1 neVE fun tF u6 obj iv fF hobF => ?_
            refine ⟨kp_fr fF lX (fun b hb hh => by have := hobv b hh; have := hX1 b hb; omega), ?_⟩
            have hobj : ∀ b, obj = some b → w1.heap.size ≤ b := fun b hb => (hobF b hb).elim (fun hh => hobv b hh) (fun hh => Nat.le_trans s1 hh)
            have ik := ik.keep fF (fun b hb hh => neIV b hb hh)
            have f := f.trans' fF (fun b hb hh => by have := hobv b hh; omega)
            repeat (refine ⟨(by first | exact rfl | exact pv_i rfl rfl | exact okB2 (by assumption) (by assumption)), ?_⟩)
            refine pv_i (buildV2 ik.one iv.one) ?_
            refine ⟨okB2 ik.one iv.one, ?_⟩
            dsimp only [upd]
            intro w9 X9 y9
            exact fin tC tF _ _ _ obi obj ik iv f hobi hobj y9
          · refine ⟨x, (by rw [hxe]; rfl), ?_⟩
            have nB := newB_nw u3 x 349
            generalize newB u3 x 349 = u8 at nB ⊢
            have fA := nB.fr
            have bE := nB.own
            have ik := ik.keep fA (fun _ _ => no_not _)
            have lX : ∀ b, X1 b → b < u8.heap.size := fun b hb => Nat.lt_of_lt_of_le (lX b hb) fA.size
            have f := f.trans fA
            have s1 := Nat.le_trans s1 fA.size
            repeat (refine ⟨(by first | exact rfl | exact pv_i rfl rfl | exact okB2 (by assumption) (by assumption)), ?_⟩)
            refine c389 (hv.ext f) (by omega) hv1 fun tD u9 obv cv fA hobA => ?_
            refine ⟨kp_no fA lX, ?_⟩
            have hobv : ∀ b, obv = some b → w1.heap.size ≤ b := fun b hb => Nat.le_trans s1 (hobA b hb)
            have neVE : obv ≠ some u3.heap.size := fun hh => by have := hobA _ hh; have := own_lt bE; omega
            have neIV : ∀ b, obi = some b → ¬ obv = some b := fun b hb hh => by have := hobA b hh; have := ik.lt b hb; omega
            have bE := fA.own bE (no_not _)
            have ik := ik.keep fA (fun _ _ => no_not _)
            have lX : ∀ b, X1 b → b < u9.heap.size := fun b hb => Nat.lt_of_lt_of_le (lX b hb) fA.size
            have f := f.trans fA
            have s1 := Nat.le_trans s1 fA.size
            repeat (refine ⟨(by first | exact rfl | exact pv_i rfl rfl | exact okB2 (by assumption) (by assumption)), ?_⟩)
            refine c390 cv hlb (by omega) hv1 bE hxl hx1 neVE fun tF u10 obj iv fF hobF => ?_
            refine ⟨kp_fr fF lX (fun b hb hh => by have := hobv b hh; have := hX1 b hb; omega), ?_⟩
            have hobj : ∀ b, obj = some b → w1.heap.size ≤ b := fun b hb => (hobF b hb).elim (fun hh => hobv b hh) (fun hh => Nat.le_trans s1 hh)
            have ik := ik.keep fF (fun b hb hh => neIV b hb hh)
            have f := f.trans' fF (fun b hb hh => by have := hobv b hh; omega)
            repeat (refine ⟨(by first | exact rfl | exact pv_i rfl rfl | exact okB2 (by assumption) (by assumption)), ?_⟩)
            refine pv_i (buildV2 ik.one iv.one) ?_
            refine ⟨okB2 ik.one iv.one, ?_⟩
            dsimp only [upd]
            intro w9 X9 y9
            exact fin tC tF _ _ _ obi obj ik iv f hobi hobj y9
        · refine ⟨x, (by rw [hxe]; rfl), ?_⟩
          have nB := newB_nw u2 x 349
          have neKE : obk ≠ some u2.heap.size := fun hh => by have := ck.lt _ hh; omega
          generalize newB u2 x 349 = u12 at nB ⊢
          have fA := nB.fr
          have bB := fA.own bB (no_not _)
          have bE := nB.own
          have ck := ck.keep fA (fun _ _ => no_not _)
          have lX : ∀ b, X1 b → b < u12.heap.size := fun b hb => Nat.lt_of_lt_of_le (lX b hb) fA.size
          have f := f.trans fA
          have s1 := Nat.le_trans s1 fA.size
          repeat (refine ⟨(by first | exact rfl | exact pv_i rfl rfl | exact okB2 (by assumption) (by assumption)), ?_⟩)
          refine c350 ck hlb (by omega) (key_one m) bB rfl rfl neKB fun tC u13 obi ik fC hobC => ?_
          refine ⟨kp_fr fC lX (fun b hb hh => by have := hobk b hh; have := hX1 b hb; omega), ?_⟩
          have hobi : ∀ b, obi = some b → w1.heap.size ≤ b := fun b hb => (hobC b hb).elim (fun hh => hobk b hh) (fun hh => Nat.le_trans s1 hh)
          have bE := fC.own bE (fun hh => neKE hh)
          have f := f.trans' fC (fun b hb hh => by have := hobk b hh; omega)
          have lX : ∀ b, X1 b → b < u13.heap.size := fun b hb => Nat.lt_of_lt_of_le (lX b hb) fC.size
          have s1 := Nat.le_trans s1 fC.size
          repeat (refine ⟨(by first | exact rfl | exact pv_i rfl rfl | exact okB2 (by assumption) (by assumption)), ?_⟩)
          refine c389 (hv.ext f) (by omega) hv1 fun tD u14 obv cv fA hobA => ?_
          refine ⟨kp_no fA lX, ?_⟩
          have hobv : ∀ b, obv = some b → w1.heap.size ≤ b := fun b hb => Nat.le_trans s1 (hobA b hb)
          have neVE : obv ≠ some u2.heap.size := fun hh => by have := hobA _ hh; have := own_lt bE; omega
          have neIV : ∀ b, obi = some b → ¬ obv = some b := fun b hb hh => by have := hobA b hh; have := ik.lt b hb; omega
          have bE := fA.own bE (no_not _)
          have ik := ik.keep fA (fun _ _ => no_not _)
          have lX : ∀ b, X1 b → b < u14.heap.size := fun b hb => Nat.lt_of_lt_of_le (lX b hb) fA.size
          have f := f.trans fA
          have s1 := Nat.le_trans s1 fA.size
          repeat (refine ⟨(by first | exact rfl | exact pv_i rfl rfl | exact okB2 (by assumption) (by assumption)), ?_⟩)
          refine c390 cv hlb (by omega) hv1 bE hxl hx1 neVE fun tF u15 obj iv fF hobF => ?_
          refine ⟨kp_fr fF lX (fun b hb hh => by have := hobv b hh; have := hX1 b hb; omega), ?_⟩
          have hobj : ∀ b, obj = some b → w1.heap.size ≤ b := fun b hb => (hobF b hb).elim (fun hh => hobv b hh) (fun hh => Nat.le_trans s1 hh)
          have ik := ik.keep fF (fun b hb hh => neIV b hb hh)
          have f := f.trans' fF (fun b hb hh => by have := hobv b hh; omega)
          repeat (refine ⟨(by first | exact rfl | exact pv_i rfl rfl | exact okB2 (by assumption) (by assumption)), ?_⟩)
          refine pv_i (buildV2 ik.one iv.one) ?_
          refine ⟨okB2 ik.one iv.one, ?_⟩
          dsimp only [upd]
          intro w9 X9 y9
          exact fin tC tF _ _ _ obi obj ik iv f hobi hobj y9
      · refine ⟨x, (by rw [hxe]; rfl), ?_⟩
        have nB := newB_nw u1 x 349
        have neKE : obk ≠ some u1.heap.size := fun hh => by have := ck.lt _ hh; omega
        generalize newB u1 x 349 = u17 at nB ⊢
        have fA := nB.fr
        have bE := nB.own
        have ck := ck.keep fA (fun _ _ => no_not _)
        have lX : ∀ b, X1 b → b < u17.heap.size := fun b hb => Nat.lt_of_lt_of_le (lX b hb) fA.size
        have f := f.trans fA
        have s1 := Nat.le_trans s1 fA.size
        repeat (refine ⟨(by first | exact rfl | exact pv_i rfl rfl | exact okB2 (by assumption) (by assumption)), ?_⟩)
        refine ⟨[.string key], rfl, ?_⟩
        have nB := newB_nw u17 [.string key] 9
        have neKB : obk ≠ some u17.heap.size := fun hh => by have := ck.lt _ hh; omega
        generalize newB u17 [.string key] 9 = u18 at nB ⊢
        have fA := nB.fr
        have bE := fA.own bE (no_not _)
        have bB := nB.own
        have ck := ck.keep fA (fun _ _ => no_not _)
        have lX : ∀ b, X1 b → b < u18.heap.size := fun b hb => Nat.lt_of_lt_of_le (lX b hb) fA.size
        have f := f.trans fA
        have s1 := Nat.le_trans s1 fA.size
        repeat (refine ⟨(by first | exact rfl | exact pv_i rfl rfl | exact okB2 (by assumption) (by assumption)), ?_⟩)
        refine c350 ck hlb (by omega) (key_one m) bB rfl rfl neKB fun tC u19 obi ik fC hobC => ?_
        refine ⟨kp_fr fC lX (fun b hb hh => by have := hobk b hh; have := hX1 b hb; omega), ?_⟩
        have hobi : ∀ b, obi = some b → w1.heap.size ≤ b := fun b hb => (hobC b hb).elim (fun hh => hobk b hh) (fun hh => Nat.le_trans s1 hh)
        have bE := fC.own bE (fun hh => neKE hh)
        have f := f.trans' fC (fun b hb hh => by have := hobk b hh; omega)
        have lX : ∀ b, X1 b → b < u19.heap.size := fun b hb => Nat.lt_of_lt_of_le (lX b hb) fC.size
        have s1 := Nat.le_trans s1 fC.size
        repeat (refine ⟨(by first | exact rfl | exact pv_i rfl rfl | exact okB2 (by assumption) (by assumption)), ?_⟩)
        refine c389 (hv.ext f) (by omega) hv1 fun tD u20 obv cv fA hobA => ?_
        refine ⟨kp_no fA lX, ?_⟩
        have hobv : ∀ b, obv = some b → w1.heap.size ≤ b := fun b hb => Nat.le_trans s1 (hobA b hb)
        have neVE : obv ≠ some u1.heap.size := fun hh => by have := hobA _ hh; have := own_lt bE; omega
        have neIV : ∀ b, obi = some b → ¬ obv = some b := fun b hb hh => by have := hobA b hh; have := ik.lt b hb; omega
        have bE := fA.own bE (no_not _)
        have ik := ik.keep fA (fun _ _ => no_not _)
        have lX : ∀ b, X1 b → b < u20.heap.size := fun b hb => Nat.lt_of_lt_of_le (lX b hb) fA.size
        have f := f.trans fA
        have s1 := Nat.le_trans s1 fA.size
        repeat (refine ⟨(by first | exact rfl | exact pv_i rfl rfl | exact okB2 (by assumption) (by assumption)), ?_⟩)
        refine c390 cv hlb (by omega) hv1 bE hxl hx1 neVE fun tF u21 obj iv fF hobF => ?_
        refine ⟨kp_fr fF lX (fun b hb hh => by have := hobv b hh; have := hX1 b hb; omega), ?_⟩
        have hobj : ∀ b, obj = some b → w1.heap.size ≤ b := fun b hb => (hobF b hb).elim (fun hh => hobv b hh) (fun hh => Nat.le_trans s1 hh)
        have ik := ik.keep fF (fun b hb hh => neIV b hb hh)
        have f := f.trans' fF (fun b hb hh => by have := hobv b hh; omega)
        repeat (refine ⟨(by first | exact rfl | exact pv_i rfl rfl | exact okB2 (by assumption) (by assumption)), ?_⟩)
        refine pv_i (buildV2 ik.one iv.one) ?_
        refine ⟨okB2 ik.one iv.one, ?_⟩
        dsimp only [upd]
        intro w9 X9 y9
        exact fin tC tF _ _ _ obi obj ik iv f hobi hobj y9
    · refine ⟨?_, ?_⟩
      · refine ⟨[.string key], rfl, ?_⟩
        have nB := newB_nw (drewW w3) [.string key] 9
        generalize newB (drewW w3) [.string key] 9 = u23 at nB ⊢
        have fA := nB.fr
        have bB := nB.own
        have lX : ∀ b, X1 b → b < u23.heap.size := fun b hb => Nat.lt_of_lt_of_le (lX b hb) fA.size
        have f := f.trans fA
        have s1 := Nat.le_trans s1 fA.size
        repeat (refine ⟨(by first | exact rfl | exact pv_i rfl rfl | exact okB2 (by assumption) (by assumption)), ?_⟩)
        refine ⟨?_, ?_⟩
        · refine c347 (hk.ext f) (by omega) (key_one m) fun tA u24 obk ck fA hobA => ?_
          refine ⟨kp_no fA lX, ?_⟩
          have hobk : ∀ b, obk = some b → w1.heap.size ≤ b := fun b hb => Nat.le_trans s1 (hobA b hb)
          have neKB : obk ≠ some (drewW w3).heap.size := fun hh => by have := hobA _ hh; have := own_lt bB; omega
          have bB := fA.own bB (no_not _)
          have lX : ∀ b, X1 b → b < u24.heap.size := fun b hb => Nat.lt_of_lt_of_le (lX b hb) fA.size
          have f := f.trans fA
          have s1 := Nat.le_trans s1 fA.size
          repeat (refine ⟨(by first | exact rfl | exact pv_i rfl rfl | exact okB2 (by assumption) (by assumption)), ?_⟩)
          refine ⟨?_, ?_⟩
          · refine c350 ck hlb (by omega) (key_one m) bB rfl rfl neKB fun tC u25 obi ik fC hobC => ?_
            refine ⟨kp_fr fC lX (fun b hb hh => by have := hobk b hh; have := hX1 b hb; omega), ?_⟩
            have hobi : ∀ b, obi = some b → w1.heap.size ≤ b := fun b hb => (hobC b hb).elim (fun hh => hobk b hh) (fun hh => Nat.le_trans s1 hh)
            have f := f.trans' fC (fun b hb hh => by have := hobk b hh; omega)
            have lX : ∀ b, X1 b → b < u25.heap.size := fun b hb => Nat.lt_of_lt_of_le (lX b hb) fC.size
            have s1 := Nat.le_trans s1 fC.size
            repeat (refine ⟨(by first | exact rfl | exact pv_i rfl rfl | exact okB2 (by assumption) (by assumption)), ?_⟩)
            refine ⟨?_, ?_⟩
            · refine c389 (hv.ext f) (by omega) hv1 fun tD u26 obv cv fA hobA => ?_
              refine ⟨kp_no fA lX, ?_⟩
              have hobv : ∀ b, obv = some b → w1.heap.size ≤ b := fun b hb => Nat.le_trans s1 (hobA b hb)
              have neIV : ∀ b, obi = some b → ¬ obv = some b := fun b hb hh => by have := hobA b hh; have := ik.lt b hb; omega
              have ik := ik.keep fA (fun _ _ => no_not _)
              have lX : ∀ b, X1 b → b < u26.heap.size := fun b hb => Nat.lt_of_lt_of_le (lX b hb) fA.size
              have f := f.trans fA
              have s1 := Nat.le_trans s1 fA.size
              repeat (refine ⟨(by first | exact rfl | exact pv_i rfl rfl | exact okB2 (by assumption) (by assumption)), ?_⟩)
              refine ⟨x, (by rw [hxe]; rfl), ?_⟩
              have nB := newB_nw u26 x 349
              have neVE : obv ≠ some u26.heap.size := fun hh => by have := cv.lt _ hh; omega
              generalize newB u26 x 349 = u27 at nB ⊢
              have fA := nB.fr
              have bE := nB.own
              have cv := cv.keep fA (fun _ _ => no_not _)
              have ik := ik.keep fA (fun _ _ => no_not _)
              have lX : ∀ b, X1 b → b < u27.heap.size := fun b hb => Nat.lt_of_lt_of_le (lX b hb) fA.size
              have f := f.trans fA
              have s1 := Nat.le_trans s1 fA.size
              repeat (refine ⟨(by first | exact rfl | exact pv_i rfl rfl | exact okB2 (by assumption) (by assumption)), ?_⟩)
              refine c390 cv hlb (by omega) hv1 bE hxl hx1 neVE fun tF u28 obj iv fF hobF => ?_
              refine ⟨kp_fr fF lX (fun b hb hh => by have := hobv b hh; have := hX1 b hb; omega), ?_⟩
              have hobj : ∀ b, obj = some b → w1.heap.size ≤ b := fun b hb => (hobF b hb).elim (fun hh => hobv b hh) (fun hh => Nat.le_trans s1 hh)
              have ik := ik.keep fF (fun b hb hh => neIV b hb hh)
              have f := f.trans' fF (fun b hb hh => by have := hobv b hh; omega)
              repeat (refine ⟨(by first | exact rfl | exact pv_i rfl rfl | exact okB2 (by assumption) (by assumption)), ?_⟩)
              refine pv_i (buildV2 ik.one iv.one) ?_
              refine ⟨okB2 ik.one iv.one, ?_⟩
              dsimp only [upd]
              intro w9 X9 y9
              exact fin tC tF _ _ _ obi obj ik iv f hobi hobj y9
            · refine ⟨x, (by rw [hxe]; rfl), ?_⟩
              have nB := newB_nw u25 x 349
              generalize newB u25 x 349 = u30 at nB ⊢
              have fA := nB.fr
              have bE := nB.own
              have ik := ik.keep fA (fun _ _ => no_not _)
              have lX : ∀ b, X1 b → b < u30.heap.size := fun b hb => Nat.lt_of_lt_of_le (lX b hb) fA.size
              have f := f.trans fA
              have s1 := Nat.le_trans s1 fA.size
              repeat (refine ⟨(by first | exact rfl | exact pv_i rfl rfl | exact okB2 (by assumption) (by assumption)), ?_⟩)
              refine c389 (hv.ext f) (by omega) hv1 fun tD u31 obv cv fA hobA => ?_
              refine ⟨kp_no fA lX, ?_⟩
              have hobv : ∀ b, obv = some b → w1.heap.size ≤ b := fun b hb => Nat.le_trans s1 (hobA b hb)
              have neVE : obv ≠ some u25.heap.size := fun hh => by have := hobA _ hh; have := own_lt bE; omega
              have neIV : ∀ b, obi = some b → ¬ obv = some b := fun b hb hh => by have := hobA b hh; have := ik.lt b hb; omega
              have bE := fA.own bE (no_not _)
              have ik := ik.keep fA (fun _ _ => no_not _)
              have lX : ∀ b, X1 b → b < u31.heap.size := fun b hb => Nat.lt_of_lt_of_le (lX b hb) fA.size
              have f := f.trans fA
              have s1 := Nat.le_trans s1 fA.size
              repeat (refine ⟨(by first | exact rfl | exact pv_i rfl rfl | exact okB2 (by assumption) (by assumption)), ?_⟩)
              refine c390 cv hlb (by omega) hv1 bE hxl hx1 neVE fun tF u32 obj iv fF hobF => ?_
              refine ⟨kp_fr fF lX (fun b hb hh => by have := hobv b hh; have := hX1 b hb; omega), ?_⟩
              have hobj : ∀ b, obj = some b → w1.heap.size ≤ b := fun b hb => (hobF b hb).elim (fun hh => hobv b hh) (fun hh => Nat.le_trans s1 hh)
              have ik := ik.keep fF (fun b hb hh => neIV b hb hh)
              have f := f.trans' fF (fun b hb hh => by have := hobv b hh; omega)
              repeat (refine ⟨(by first | exact rfl | exact pv_i rfl rfl | exact okB2 (by assumption) (by assumption)), ?_⟩)
              refine pv_i (buildV2 ik.one iv.one) ?_
              refine ⟨okB2 ik.one iv.one, ?_⟩
              dsimp only [upd]
              intro w9 X9 y9
              exact fin tC tF _ _ _ obi obj ik iv f hobi hobj y9
          · refine ⟨x, (by rw [hxe]; rfl), ?_⟩
            have nB := newB_nw u24 x 349
            have neKE : obk ≠ some u24.heap.size := fun hh => by have := ck.lt _ hh; omega
            generalize newB u24 x 349 = u34 at nB ⊢
            have fA := nB.fr
            have bB := fA.own bB (no_not _)
            have bE := nB.own
            have ck := ck.keep fA (fun _ _ => no_not _)
            have lX : ∀ b, X1 b → b < u34.heap.size := fun b hb => Nat.lt_of_lt_of_le (lX b hb) fA.size
            have f := f.trans fA
            have s1 := Nat.le_trans s1 fA.size
            repeat (refine ⟨(by first | exact rfl | exact pv_i rfl rfl | exact okB2 (by assumption) (by assumption)), ?_⟩)
            refine c350 ck hlb (by omega) (key_one m) bB rfl rfl neKB fun tC u35 obi ik fC hobC => ?_
            refine ⟨kp_fr fC lX (fun b hb hh => by have := hobk b hh; have := hX1 b hb; omega), ?_⟩
            have hobi : ∀ b, obi = some b → w1.heap.size ≤ b := fun b hb => (hobC b hb).elim (fun hh => hobk b hh) (fun hh => Nat.le_trans s1 hh)
            have bE := fC.own bE (fun hh => neKE hh)
            have f := f.trans' fC (fun b hb hh => by have := hobk b hh; omega)
            have lX : ∀ b, X1 b → b < u35.heap.size := fun b hb => Nat.lt_of_lt_of_le (lX b hb) fC.size
            have s1 := Nat.le_trans s1 fC.size
            repeat (refine ⟨(by first | exact rfl | exact pv_i rfl rfl | exact okB2 (by assumption) (by assumption)), ?_⟩)
            refine c389 (hv.ext f) (by omega) hv1 fun tD u36 obv cv fA hobA => ?_
            refine ⟨kp_no fA lX, ?_⟩
            have hobv : ∀ b, obv = some b → w1.heap.size ≤ b := fun b hb => Nat.le_trans s1 (hobA b hb)
            have neVE : obv ≠ some u24.heap.size := fun hh => by have := hobA _ hh; have := own_lt bE; omega
            have neIV : ∀ b, obi = some b → ¬ obv = some b := fun b hb hh => by have := hobA b hh; have := ik.lt b hb; omega
            have bE := fA.own bE (no_not _)
            have ik := ik.keep fA (fun _ _ => no_not _)
            have lX : ∀ b, X1 b → b < u36.heap.size := fun b hb => Nat.lt_of_lt_of_le (lX b hb) fA.size
            have f := f.trans fA
            have s1 := Nat.le_trans s1 fA.size
            repeat (refine ⟨(by first | exact rfl | exact pv_i rfl rfl | exact okB2 (by assumption) (by assumption)), ?_⟩)
            refine c390 cv hlb (by omega) hv1 bE hxl hx1 neVE fun tF u37 obj iv fF hobF => ?_
            refine ⟨kp_fr fF lX (fun b hb hh => by have := hobv b hh; have := hX1 b hb; omega), ?_⟩
            have hobj : ∀ b, obj = some b → w1.heap.size ≤ b := fun b hb => (hobF b hb).elim (fun hh => hobv b hh) (fun hh => Nat.le_trans s1 hh)
            have ik := ik.keep fF (fun b hb hh => neIV b hb hh)
            have f := f.trans' fF (fun b hb hh => by have := hobv b hh; omega)
            repeat (refine ⟨(by first | exact rfl | exact pv_i rfl rfl | exact okB2 (by assumption) (by assumption)), ?_⟩)
            refine pv_i (buildV2 ik.one iv.one) ?_
            refine ⟨okB2 ik.one iv.one, ?_⟩
            dsimp only [upd]
            intro w9 X9 y9
            exact fin tC tF _ _ _ obi obj ik iv f hobi hobj y9
        · refine ⟨x, (by rw [hxe]; rfl), ?_⟩
          have nB := newB_nw u23 x 349
          generalize newB u23 x 349 = u39 at nB ⊢
          have fA := nB.fr
          have bB := fA.own bB (no_not _)
          have bE := nB.own
          have lX : ∀ b, X1 b → b < u39.heap.size := fun b hb => Nat.lt_of_lt_of_le (lX b hb) fA.size
          have f := f.trans fA
          have s1 := Nat.le_trans s1 fA.size
          repeat (refine ⟨(by first | exact rfl | exact pv_i rfl rfl | exact okB2 (by assumption) (by assumption)), ?_⟩)
          refine c347 (hk.ext f) (by omega) (key_one m) fun tA u40 obk ck fA hobA => ?_
          refine ⟨kp_no fA lX, ?_⟩
          have hobk : ∀ b, obk = some b → w1.heap.size ≤ b := fun b hb => Nat.le_trans s1 (hobA b hb)
          have neKB : obk ≠ some (drewW w3).heap.size := fun hh => by have := hobA _ hh; have := own_lt bB; omega
          have neKE : obk ≠ some u23.heap.size := fun hh => by have := hobA _ hh; have := own_lt bE; omega
          have bB := fA.own bB (no_not _)
          have bE := fA.own bE (no_not _)
          have lX : ∀ b, X1 b → b < u40.heap.size := fun b hb => Nat.lt_of_lt_of_le (lX b hb) fA.size
          have f := f.trans fA
          have s1 := Nat.le_trans s1 fA.size
          repeat (refine ⟨(by first | exact rfl | exact pv_i rfl rfl | exact okB2 (by assumption) (by assumption)), ?_⟩)
          refine c350 ck hlb (by omega) (key_one m) bB rfl rfl neKB fun tC u41 obi ik fC hobC => ?_
          refine ⟨kp_fr fC lX (fun b hb hh => by have := hobk b hh; have := hX1 b hb; omega), ?_⟩
          have hobi : ∀ b, obi = some b → w1.heap.size ≤ b := fun b hb => (hobC b hb).elim (fun hh => hobk b hh) (fun hh => Nat.le_trans s1 hh)
          have bE := fC.own bE (fun hh => neKE hh)
          have f := f.trans' fC (fun b hb hh => by have := hobk b hh; omega)
          have lX : ∀ b, X1 b → b < u41.heap.size := fun b hb => Nat.lt_of_lt_of_le (lX b hb) fC.size
          have s1 := Nat.le_trans s1 fC.size
          repeat (refine ⟨(by first | exact rfl | exact pv_i rfl rfl | exact okB2 (by assumption) (by assumption)), ?_⟩)
          refine c389 (hv.ext f) (by omega) hv1 fun tD u42 obv cv fA hobA => ?_
          refine ⟨kp_no fA lX, ?_⟩
          have hobv : ∀ b, obv = some b → w1.heap.size ≤ b := fun b hb => Nat.le_trans s1 (hobA b hb)
          have neVE : obv ≠ some u23.heap.size := fun hh => by have := hobA _ hh; have := own_lt bE; omega
          have neIV : ∀ b, obi = some b → ¬ obv = some b := fun b hb hh => by have := hobA b hh; have := ik.lt b hb; omega
          have bE := fA.own bE (no_not _)
          have ik := ik.keep fA (fun _ _ => no_not _)
          have lX : ∀ b, X1 b → b < u42.heap.size := fun b hb => Nat.lt_of_lt_of_le (lX b hb) fA.size
          have f := f.trans fA
          have s1 := Nat.le_trans s1 fA.size
          repeat (refine ⟨(by first | exact rfl | exact pv_i rfl rfl | exact okB2 (by assumption) (by assumption)), ?_⟩)
          refine c390 cv hlb (by omega) hv1 bE hxl hx1 neVE fun tF u43 obj iv fF hobF => ?_
          refine ⟨kp_fr fF lX (fun b hb hh => by have := hobv b hh; have := hX1 b hb; omega), ?_⟩
          have hobj : ∀ b, obj = some b → w1.heap.size ≤ b := fun b hb => (hobF b hb).elim (fun hh => hobv b hh) (fun hh => Nat.le_trans s1 hh)
          have ik := ik.keep fF (fun b hb hh => neIV b hb hh)
          have f := f.trans' fF (fun b hb hh => by have := hobv b hh; omega)
          repeat (refine ⟨(by first | exact rfl | exact pv_i rfl rfl | exact okB2 (by assumption) (by assumption)), ?_⟩)
          refine pv_i (buildV2 ik.one iv.one) ?_
          refine ⟨okB2 ik.one iv.one, ?_⟩
          dsimp only [upd]
          intro w9 X9 y9
          exact fin tC tF _ _ _ obi obj ik iv f hobi hobj y9
      · refine ⟨x, (by rw [hxe]; rfl), ?_⟩
        have nB := newB_nw (drewW w3) x 349
        generalize newB (drewW w3) x 349 = u45 at nB ⊢
        have fA := nB.fr
        have bE := nB.own
        have lX : ∀ b, X1 b → b < u45.heap.size := fun b hb => Nat.lt_of_lt_of_le (lX b hb) fA.size
        have f := f.trans fA
        have s1 := Nat.le_trans s1 fA.size
        repeat (refine ⟨(by first | exact rfl | exact pv_i rfl rfl | exact okB2 (by assumption) (by assumption)), ?_⟩)
        refine ⟨?_, ?_⟩
        · refine c347 (hk.ext f) (by omega) (key_one m) fun tA u46 obk ck fA hobA => ?_
          refine ⟨kp_no fA lX, ?_⟩
          have hobk : ∀ b, obk = some b → w1.heap.size ≤ b := fun b hb => Nat.le_trans s1 (hobA b hb)
          have neKE : obk ≠ some (drewW w3).heap.size := fun hh => by have := hobA _ hh; have := own_lt bE; omega
          have bE := fA.own bE (no_not _)
          have lX : ∀ b, X1 b → b < u46.heap.size := fun b hb => Nat.lt_of_lt_of_le (lX b hb) fA.size
          have f := f.trans fA
          have s1 := Nat.le_trans s1 fA.size
          repeat (refine ⟨(by first | exact rfl | exact pv_i rfl rfl | exact okB2 (by assumption) (by assumption)), ?_⟩)
          refine ⟨[.string key], rfl, ?_⟩
          have nB := newB_nw u46 [.string key] 9
          have neKB : obk ≠ some u46.heap.size := fun hh => by have := ck.lt _ hh; omega
          generalize newB u46 [.string key] 9 = u47 at nB ⊢
          have fA := nB.fr
          have bE := fA.own bE (no_not _)
          have bB := nB.own
          have ck := ck.keep fA (fun _ _ => no_not _)
          have lX : ∀ b, X1 b → b < u47.heap.size := fun b hb => Nat.lt_of_lt_of_le (lX b hb) fA.size
          have f := f.trans fA
          have s1 := Nat.le_trans s1 fA.size
          repeat (refine ⟨(by first | exact rfl | exact pv_i rfl rfl | exact okB2 (by assumption) (by assumption)), ?_⟩)
          refine c350 ck hlb (by omega) (key_one m) bB rfl rfl neKB fun tC u48 obi ik fC hobC => ?_
          refine ⟨kp_fr fC lX (fun b hb hh => by have := hobk b hh; have := hX1 b hb; omega), ?_⟩
          have hobi : ∀ b, obi = some b → w1.heap.size ≤ b := fun b hb => (hobC b hb).elim (fun hh => hobk b hh) (fun hh => Nat.le_trans s1 hh)
          have bE := fC.own bE (fun hh => neKE hh)
          have f := f.trans' fC (fun b hb hh => by have := hobk b hh; omega)
          have lX : ∀ b, X1 b → b < u48.heap.size := fun b hb => Nat.lt_of_lt_of_le (lX b hb) fC.size
          have s1 := Nat.le_trans s1 fC.size
          repeat (refine ⟨(by first | exact rfl | exact pv_i rfl rfl | exact okB2 (by assumption) (by assumption)), ?_⟩)
          refine c389 (hv.ext f) (by omega) hv1 fun tD u49 obv cv fA hobA => ?_
          refine ⟨kp_no fA lX, ?_⟩
          have hobv : ∀ b, obv = some b → w1.heap.size ≤ b := fun b hb => Nat.le_trans s1 (hobA b hb)
          have neVE : obv ≠ some (drewW w3).heap.size := fun hh => by have := hobA _ hh; have := own_lt bE; omega
          have neIV : ∀ b, obi = some b → ¬ obv = some b := fun b hb hh => by have := hobA b hh; have := ik.lt b hb; omega
          have bE := fA.own bE (no_not _)
          have ik := ik.keep fA (fun _ _ => no_not _)
          have lX : ∀ b, X1 b → b < u49.heap.size := fun b hb => Nat.lt_of_lt_of_le (lX b hb) fA.size
          have f := f.trans fA
          have s1 := Nat.le_trans s1 fA.size
          repeat (refine ⟨(by first | exact rfl | exact pv_i rfl rfl | exact okB2 (by assumption) (by assumption)), ?_⟩)
          refine c390 cv hlb (by omega) hv1 bE hxl hx1 neVE fun tF u50 obj iv fF hobF => ?_
          refine ⟨kp_fr fF lX (fun b hb hh => by have := hobv b hh; have := hX1 b hb; omega), ?_⟩
          have hobj : ∀ b, obj = some b → w1.heap.size ≤ b := fun b hb => (hobF b hb).elim (fun hh => hobv b hh) (fun hh => Nat.le_trans s1 hh)
          have ik := ik.keep fF (fun b hb hh => neIV b hb hh)
          have f := f.trans' fF (fun b hb hh => by have := hobv b hh; omega)
          repeat (refine ⟨(by first | exact rfl | exact pv_i rfl rfl | exact okB2 (by assumption) (by assumption)), ?_⟩)
          refine pv_i (buildV2 ik.one iv.one) ?_
          refine ⟨okB2 ik.one iv.one, ?_⟩
          dsimp only [upd]
          intro w9 X9 y9
          exact fin tC tF _ _ _ obi obj ik iv f hobi hobj y9
        · refine ⟨[.string key], rfl, ?_⟩
          have nB := newB_nw u45 [.string key] 9
          generalize newB u45 [.string key] 9 = u52 at nB ⊢
          have fA := nB.fr
          have bE := fA.own bE (no_not _)
          have bB := nB.own
          have lX : ∀ b, X1 b → b < u52.heap.size := fun b hb => Nat.lt_of_lt_of_le (lX b hb) fA.size
          have f := f.trans fA
          have s1 := Nat.le_trans s1 fA.size
          repeat (refine ⟨(by first | exact rfl | exact pv_i rfl rfl | exact okB2 (by assumption) (by assumption)), ?_⟩)
          refine c347 (hk.ext f) (by omega) (key_one m) fun tA u53 obk ck fA hobA => ?_
          refine ⟨kp_no fA lX, ?_⟩
          have hobk : ∀ b, obk = some b → w1.heap.size ≤ b := fun b hb => Nat.le_trans s1 (hobA b hb)
          have neKB : obk ≠ some u45.heap.size := fun hh => by have := hobA _ hh; have := own_lt bB; omega
          have neKE : obk ≠ some (drewW w3).heap.size := fun hh => by have := hobA _ hh; have := own_lt bE; omega
          have bB := fA.own bB (no_not _)
          have bE := fA.own bE (no_not _)
          have lX : ∀ b, X1 b → b < u53.heap.size := fun b hb => Nat.lt_of_lt_of_le (lX b hb) fA.size
          have f := f.trans fA
          have s1 := Nat.le_trans s1 fA.size
          repeat (refine ⟨(by first | exact rfl | exact pv_i rfl rfl | exact okB2 (by assumption) (by assumption)), ?_⟩)
          refine c350 ck hlb (by omega) (key_one m) bB rfl rfl neKB fun tC u54 obi ik fC hobC => ?_
          refine ⟨kp_fr fC lX (fun b hb hh => by have := hobk b hh; have := hX1 b hb; omega), ?_⟩
          have hobi : ∀ b, obi = some b → w1.heap.size ≤ b := fun b hb => (hobC b hb).elim (fun hh => hobk b hh) (fun hh => Nat.le_trans s1 hh)
          have bE := fC.own bE (fun hh => neKE hh)
          have f := f.trans' fC (fun b hb hh => by have := hobk b hh; omega)
          have lX : ∀ b, X1 b → b < u54.heap.size := fun b hb => Nat.lt_of_lt_of_le (lX b hb) fC.size
          have s1 := Nat.le_trans s1 fC.size
          repeat (refine ⟨(by first | exact rfl | exact pv_i rfl rfl | exact okB2 (by assumption) (by assumption)), ?_⟩)
          refine c389 (hv.ext f) (by omega) hv1 fun tD u55 obv cv fA hobA => ?_
          refine ⟨kp_no fA lX, ?_⟩
          have hobv : ∀ b, obv = some b → w1.heap.size ≤ b := fun b hb => Nat.le_trans s1 (hobA b hb)
          have neVE : obv ≠ some (drewW w3).heap.size := fun hh => by have := hobA _ hh; have := own_lt bE; omega
          have neIV : ∀ b, obi = some b → ¬ obv = some b := fun b hb hh => by have := hobA b hh; have := ik.lt b hb; omega
          have bE := fA.own bE (no_not _)
          have ik := ik.keep fA (fun _ _ => no_not _)
          have lX : ∀ b, X1 b → b < u55.heap.size := fun b hb => Nat.lt_of_lt_of_le (lX b hb) fA.size
          have f := f.trans fA
          have s1 := Nat.le_trans s1 fA.size
          repeat (refine ⟨(by first | exact rfl | exact pv_i rfl rfl | exact okB2 (by assumption) (by assumption)), ?_⟩)
          refine c390 cv hlb (by omega) hv1 bE hxl hx1 neVE fun tF u56 obj iv fF hobF => ?_
          refine ⟨kp_fr fF lX (fun b hb hh => by have := hobv b hh; have := hX1 b hb; omega), ?_⟩
          have hobj : ∀ b, obj = some b → w1.heap.size ≤ b := fun b hb => (hobF b hb).elim (fun hh => hobv b hh) (fun hh => Nat.le_trans s1 hh)
          have ik := ik.keep fF (fun b hb hh => neIV b hb hh)
          have f := f.trans' fF (fun b hb hh => by have := hobv b hh; omega)
          repeat (refine ⟨(by first | exact rfl | exact pv_i rfl rfl | exact okB2 (by assumption) (by assumption)), ?_⟩)
          refine pv_i (buildV2 ik.one iv.one) ?_
          refine ⟨okB2 ik.one iv.one, ?_⟩
          dsimp only [upd]
          intro w9 X9 y9
          exact fin tC tF _ _ _ obi obj ik iv f hobi hobj y9
end Go.Dm
