/- A part of the proof that doormanlaw21.LinOpen returns true for every input, on no condition. -/
import Derived.Test.YtbfajkpjilhkgaaGreatC3
set_option linter.unusedVariables false
set_option linter.unusedSimpArgs false
set_option linter.deprecated false
/-! Maps: Get, Without, All. -/
namespace Go.Dm
open Go Go.Proofs
variable {w : World} {R : Value → World → Prop} {Im : Nat → Prop}

def u32of (o : Option (List Value)) : Value := match o with | some [x] => x | _ => .int .u32 0
theorem c279 {v : Value} {m : Mp (List Value)} {key : ByteArray} (hm : MapI w Im 1 v m) (hn : m.length < 2^61)
    (h : ∀ w', Fr no w w' → R (.tuple #[u32of (mGet m key), .bool (hasK m key)]) w') : CallsR Tryz.prog 279 #[v, .string key] w R := by
  apply sh279; unfold S279
  obtain ⟨ks, vs, rfl, hk, hv, hlen, hone, hu⟩ := hm
  refine ⟨okB2 hk.one hv.one, ?_⟩
  intro w1 X1 y1
  refine c345 ⟨ks, vs, rfl, hk.ext y1.frno, hv.ext y1.frno, hlen, hone, hu⟩ hn fun w3 f3 => ?_
  refine ⟨kp_no f3 y1.lt, ?_⟩
  refine pv_i (ext2a _ _) (pv_i (ext2b _ _) ?_)
  refine pv_i (not_b _) ?_
  have f := y1.frno.trans f3
  have h' := h w3 f
  cases hh : hasK m key with
  | false =>
    rw [Bool.not_false, condC_t]
    rw [hh] at h'
    have : mGet m key = none := by unfold hasK at hh; cases hg : mGet m key <;> simp_all
    rw [this] at h'; exact h'
  | true =>
    rw [Bool.not_true, condC_f]
    obtain ⟨x, hx, hg⟩ := at_has hu hh
    rw [hh, hg] at h'
    have hlt := lb_has hu hh
    have hxl : x.length = 1 := hlen _ (List.mem_of_getElem? hx)
    obtain ⟨x0, rfl⟩ : ∃ x0, x = [x0] := by match x, hxl with | [a], _ => exact ⟨a, rfl⟩
    refine pv_i (v := vs) rfl ?_
    have hfl : (m.flatMap fun p => p.2)[lbK m key]? = some x0 := by
      have := flat_at' hlen hx
      have h2 : (((m.flatMap fun p => p.2).drop (lbK m key * 1)).take 1)[0]? = some x0 := by rw [this]; rfl
      rw [List.getElem?_take_of_lt (by omega), List.getElem?_drop, Nat.mul_one] at h2; exact h2
    obtain ⟨p, hp, hl⟩ := (hv.ext f).ld1' (i := (lbK m key : Nat)) (kd := .i64) (by omega) (by omega) (x := x0) (by rw [Int.toNat_natCast]; exact hfl)
    refine pv_i hp ?_
    exact hl _ h'

/-- An entry's cells, zero ones where there is none. -/
def getZ (m : Mp (List Value)) (key : ByteArray) : List Value := (mGet m key).getD [.slice none 0 0, .int .i64 0, .int .i64 0, .int .i64 0]
theorem c287 {v : Value} {m : Mp (List Value)} {key : ByteArray} (hm : MapI w Im 4 v m) (hn : m.length < 2^61)
    (h : ∀ w', Fr no w w' → R (.tuple #[.agg (getZ m key).toArray, .bool (hasK m key)]) w') : CallsR Tryz.prog 287 #[v, .string key] w R := by
  apply sh287; unfold S287
  obtain ⟨ks, vs, rfl, hk, hv, hlen, hone, hu⟩ := hm
  refine ⟨okB2 hk.one hv.one, ?_⟩
  intro w1 X1 y1
  refine c354 ⟨ks, vs, rfl, hk.ext y1.frno, hv.ext y1.frno, hlen, hone, hu⟩ hn fun w3 f3 => ?_
  refine ⟨kp_no f3 y1.lt, ?_⟩
  refine pv_i (ext2a _ _) (pv_i (ext2b _ _) ?_)
  refine pv_i (not_b _) ?_
  have f := y1.frno.trans f3
  cases hh : hasK m key with
  | false =>
    rw [Bool.not_false, condC_t]
    refine ⟨rfl, ?_⟩
    intro w4 X4 y4
    have h' := h w4 (y4.step f y1.ge).1
    have : mGet m key = none := by unfold hasK at hh; cases hg : mGet m key <;> simp_all
    rw [hh, getZ, this] at h'; exact h'
  | true =>
    rw [Bool.not_true, condC_f]
    obtain ⟨x, hx, hg⟩ := at_has hu hh
    have hlt := lb_has hu hh
    have hxl : x.length = 4 := hlen _ (List.mem_of_getElem? hx)
    refine pv_i (v := vs) rfl ?_
    obtain ⟨p, hp, hl⟩ := (hv.ext f).ldk' (i := (lbK m key : Nat)) (kd := .i64) (by omega) (by omega)
    rw [Int.toNat_natCast, flat_at' hlen hx] at hl
    refine pv_i hp ?_
    refine hl _ ?_
    refine ⟨by have := hone _ (List.mem_of_getElem? hx); simp only at this; simp [okB, hxl]; simpa using this, ?_⟩
    intro w4 X4 y4
    have h' := h w4 (y4.step f y1.ge).1
    rw [hh, getZ, hg] at h'; exact h'

theorem without_fin {k : Nat} {te : TypeId} {m : Mp (List Value)} {key : ByteArray} {ob1 ob2 : Option Nat} {t1 t2 : Value} (hlen : ∀ p ∈ m, p.2.length = k) (hone : ∀ p ∈ m, p.2.all one1 = true) (hu : keysUp m) (hh : hasK m key = true)
    (h1 : SlO w 1 9 t1 (m.length - (lbK m key + 1 - lbK m key)) ((m.map fun p => Value.string p.1).take (lbK m key * 1) ++ (m.map fun p => Value.string p.1).drop ((lbK m key + 1) * 1)) ob1)
    (h2 : SlO w k te t2 (m.length - (lbK m key + 1 - lbK m key)) ((m.flatMap fun p => p.2).take (lbK m key * k) ++ (m.flatMap fun p => p.2).drop ((lbK m key + 1) * k)) ob2) (hI1 : ∀ b, ob1 = some b → Im b) (hI2 : ∀ b, ob2 = some b → Im b) :
    MapI w Im k (.agg #[t1, t2]) (mWithout m key) := by
  have hlt := lb_has hu hh
  have hw := mWithout_has m key hu hh
  have hml : (mWithout m key).length = m.length - (lbK m key + 1 - lbK m key) := by rw [hw]; simp; omega
  refine ⟨t1, t2, rfl, ?_, ?_, ?_, ?_, keysUp_without m key hu⟩
  · have := h1.toI (Im := Im) hI1
    rw [hml, hw, List.map_append, List.map_take, List.map_drop]
    rw [Nat.mul_one, Nat.mul_one] at this; exact this
  · have := h2.toI (Im := Im) hI2
    rw [hml, hw, List.flatMap_append, ← flat_take' _ hlen, ← flat_drop' _ hlen]; exact this
  · intro p hp; exact hlen p (mem_mWithout m key p hp)
  · intro p hp; exact hone p (mem_mWithout m key p hp)
theorem c281 {v : Value} {m : Mp (List Value)} {key : ByteArray} (hm : MapI w Im 1 v m) (hI : NewI w Im) (hn : m.length < 2^38) (h : ∀ v' w', MapI w' Im 1 v' (mWithout m key) → Fr no w w' → R v' w') :
    CallsR Tryz.prog 281 #[v, .string key] w R := by
  apply sh281; unfold S281
  have hm0 := hm
  obtain ⟨ks, vs, rfl, hk, hv, hlen, hone, hu⟩ := hm
  refine ⟨okB2 hk.one hv.one, ?_⟩
  intro w1 X1 y1
  refine c345 ⟨ks, vs, rfl, hk.ext y1.frno, hv.ext y1.frno, hlen, hone, hu⟩ (by omega) fun w3 f3 => ?_
  refine ⟨kp_no f3 y1.lt, ?_⟩
  refine pv_i (ext2a _ _) (pv_i (ext2b _ _) ?_)
  refine pv_i (not_b _) ?_
  have f := y1.frno.trans f3
  have s0 := y1.frno.size
  have hlb := lbK_le m key
  cases hh : hasK m key with
  | false =>
    rw [Bool.not_false, condC_t]
    refine ⟨okB2 hk.one hv.one, ?_⟩
    intro w4 X4 y4
    have f4 := (y4.step f y1.ge).1
    refine h _ w4 ?_ f4
    rw [mWithout_not m key hh]; exact hm0.ext f4
  | true =>
    rw [Bool.not_true, condC_f]
    have hlt := lb_has hu hh
    refine pv_i (add1 (by omega)) ?_
    refine pv_i (add1 (by omega)) ?_
    refine pv_i (v := ks) rfl ?_
    refine pv_i (v := vs) rfl ?_
    have fd := f.trans (drewW_fr _ w3)
    have hv1 : (m.flatMap fun p => p.2).all one1 = true := flat_one' hone
    refine c347 (hk.ext fd) (by omega) (key_one m) fun tA w4 ob1 c1 f4 hob1 => ?_
    refine ⟨kp_no f4 (fun b hb => Nat.lt_of_lt_of_le (y1.lt b hb) f3.size), ?_⟩
    refine ⟨pv_i rfl rfl, ?_⟩
    have l4 : ∀ b, X1 b → b < w4.heap.size := fun b hb => Nat.lt_of_lt_of_le (y1.lt b hb) (Nat.le_trans f3.size f4.size)
    have hob1' : ∀ b, ob1 = some b → w1.heap.size ≤ b := fun b hb => Nat.le_trans f3.size (hob1 b hb)
    refine c346 c1 (by omega) (by omega) (by omega) (key_one m) fun tB w5 d1 f5 => ?_
    refine ⟨kp_fr f5 l4 (fun b hb hh => by have := hob1' b hh; have := y1.lt b hb; omega), ?_⟩
    refine ⟨pv_i rfl rfl, ?_⟩
    have f05 : Fr no w w5 := (fd.trans f4).trans' f5 (fun b hb hh => by have := hob1' b hh; omega)
    refine c349 (hv.ext f05) (by omega) hv1 fun tC w6 ob2 c2 f6 hob2 => ?_
    have l5 : ∀ b, X1 b → b < w5.heap.size := fun b hb => Nat.lt_of_lt_of_le (l4 b hb) f5.size
    refine ⟨kp_no f6 l5, ?_⟩
    have d1' := d1.keep f6 (fun _ _ => no_not _)
    have ne : ∀ b, ob1 = some b → ¬ ob2 = some b := fun b hb hh => by have := hob2 b hh; have := d1.lt b hb; omega
    have hob2' : ∀ b, ob2 = some b → w1.heap.size ≤ b := fun b hb => by have := hob2 b hb; have := f5.size; have := f4.size; have := f3.size; have : (drewW w3).heap.size = w3.heap.size := rfl; omega
    refine c348 c2 (by omega) (by omega) (by omega) hv1 fun tD w7 d2 f7 => ?_
    have l6 : ∀ b, X1 b → b < w6.heap.size := fun b hb => Nat.lt_of_lt_of_le (l5 b hb) f6.size
    refine ⟨kp_fr f7 l6 (fun b hb hh => by have := hob2' b hh; have := y1.lt b hb; omega), ?_⟩
    have d1'' := d1'.keep f7 (fun b hb hh => ne b hb hh)
    refine pv_i (buildV2 d1''.one d2.one) ?_
    refine ⟨okB2 d1''.one d2.one, ?_⟩
    intro w8 X8 y8
    have f07 : Fr no w w7 := (f05.trans f6).trans' f7 (fun b hb hh => by have := hob2' b hh; omega)
    have f8 := (y8.step f07 y1.ge).1
    refine h _ w8 (without_fin hlen hone hu hh (d1''.keep y8.fr (fun b hb hx => by have := hob1' b hb; have := y1.lt b hx; omega)) (d2.keep y8.fr (fun b hb hx => by have := hob2' b hb; have := y1.lt b hx; omega)) (fun b hb => hI b (Nat.le_trans s0 (hob1' b hb))) (fun b hb => hI b (Nat.le_trans s0 (hob2' b hb)))) f8
theorem c355 {v : Value} {m : Mp (List Value)} {key : ByteArray} (hm : MapI w Im 4 v m) (hI : NewI w Im) (hn : m.length < 2^38) (h : ∀ v' w', MapI w' Im 4 v' (mWithout m key) → Fr no w w' → R v' w') :
    CallsR Tryz.prog 355 #[v, .string key] w R := by
  apply sh355; unfold S355
  have hm0 := hm
  obtain ⟨ks, vs, rfl, hk, hv, hlen, hone, hu⟩ := hm
  refine ⟨okB2 hk.one hv.one, ?_⟩
  intro w1 X1 y1
  refine c354 ⟨ks, vs, rfl, hk.ext y1.frno, hv.ext y1.frno, hlen, hone, hu⟩ (by omega) fun w3 f3 => ?_
  refine ⟨kp_no f3 y1.lt, ?_⟩
  refine pv_i (ext2a _ _) (pv_i (ext2b _ _) ?_)
  refine pv_i (not_b _) ?_
  have f := y1.frno.trans f3
  have s0 := y1.frno.size
  have hlb := lbK_le m key
  cases hh : hasK m key with
  | false =>
    rw [Bool.not_false, condC_t]
    refine ⟨okB2 hk.one hv.one, ?_⟩
    intro w4 X4 y4
    have f4 := (y4.step f y1.ge).1
    refine h _ w4 ?_ f4
    rw [mWithout_not m key hh]; exact hm0.ext f4
  | true =>
    rw [Bool.not_true, condC_f]
    have hlt := lb_has hu hh
    refine pv_i (add1 (by omega)) ?_
    refine pv_i (add1 (by omega)) ?_
    refine pv_i (v := ks) rfl ?_
    refine pv_i (v := vs) rfl ?_
    have fd := f.trans (drewW_fr _ w3)
    have hv1 : (m.flatMap fun p => p.2).all one1 = true := flat_one' hone
    refine c347 (hk.ext fd) (by omega) (key_one m) fun tA w4 ob1 c1 f4 hob1 => ?_
    refine ⟨kp_no f4 (fun b hb => Nat.lt_of_lt_of_le (y1.lt b hb) f3.size), ?_⟩
    refine ⟨pv_i rfl rfl, ?_⟩
    have l4 : ∀ b, X1 b → b < w4.heap.size := fun b hb => Nat.lt_of_lt_of_le (y1.lt b hb) (Nat.le_trans f3.size f4.size)
    have hob1' : ∀ b, ob1 = some b → w1.heap.size ≤ b := fun b hb => Nat.le_trans f3.size (hob1 b hb)
    refine c346 c1 (by omega) (by omega) (by omega) (key_one m) fun tB w5 d1 f5 => ?_
    refine ⟨kp_fr f5 l4 (fun b hb hh => by have := hob1' b hh; have := y1.lt b hb; omega), ?_⟩
    refine ⟨pv_i rfl rfl, ?_⟩
    have f05 : Fr no w w5 := (fd.trans f4).trans' f5 (fun b hb hh => by have := hob1' b hh; omega)
    refine c389 (hv.ext f05) (by omega) hv1 fun tC w6 ob2 c2 f6 hob2 => ?_
    have l5 : ∀ b, X1 b → b < w5.heap.size := fun b hb => Nat.lt_of_lt_of_le (l4 b hb) f5.size
    refine ⟨kp_no f6 l5, ?_⟩
    have d1' := d1.keep f6 (fun _ _ => no_not _)
    have ne : ∀ b, ob1 = some b → ¬ ob2 = some b := fun b hb hh => by have := hob2 b hh; have := d1.lt b hb; omega
    have hob2' : ∀ b, ob2 = some b → w1.heap.size ≤ b := fun b hb => by have := hob2 b hb; have := f5.size; have := f4.size; have := f3.size; have : (drewW w3).heap.size = w3.heap.size := rfl; omega
    refine c388 c2 (by omega) (by omega) (by omega) hv1 fun tD w7 d2 f7 => ?_
    have l6 : ∀ b, X1 b → b < w6.heap.size := fun b hb => Nat.lt_of_lt_of_le (l5 b hb) f6.size
    refine ⟨kp_fr f7 l6 (fun b hb hh => by have := hob2' b hh; have := y1.lt b hb; omega), ?_⟩
    have d1'' := d1'.keep f7 (fun b hb hh => ne b hb hh)
    refine pv_i (buildV2 d1''.one d2.one) ?_
    refine ⟨okB2 d1''.one d2.one, ?_⟩
    intro w8 X8 y8
    have f07 : Fr no w w7 := (f05.trans f6).trans' f7 (fun b hb hh => by have := hob2' b hh; omega)
    have f8 := (y8.step f07 y1.ge).1
    refine h _ w8 (without_fin hlen hone hu hh (d1''.keep y8.fr (fun b hb hx => by have := hob1' b hb; have := y1.lt b hx; omega)) (d2.keep y8.fr (fun b hb hx => by have := hob2' b hb; have := y1.lt b hx; omega)) (fun b hb => hI b (Nat.le_trans s0 (hob1' b hb))) (fun b hb => hI b (Nat.le_trans s0 (hob2' b hb)))) f8

theorem c286 {v : Value} (h : ∀ b w', Nw w b v.cells.toList 192 w' → R (.func (.func 353) #[] #[.pointer (some ⟨b, 0, none⟩)]) w') : CallsR Tryz.prog 286 #[v] w R := by
  apply sh286; unfold S286
  exact al_i fun b w' n => h b w' n
theorem c344 {v : Value} (h : ∀ b w', Nw w b v.cells.toList 316 w' → R (.func (.func 380) #[] #[.pointer (some ⟨b, 0, none⟩)]) w') : CallsR Tryz.prog 344 #[v] w R := by
  apply sh344; unfold S344
  exact al_i fun b w' n => h b w' n
theorem ent353 : entersP Tryz.prog 353 = true := by kernel_rfl
theorem ent380 : entersP Tryz.prog 380 = true := by kernel_rfl
theorem ent408 : entersP Tryz.prog 408 = true := by kernel_rfl
theorem ent392 : entersP Tryz.prog 392 = true := by kernel_rfl
end Go.Dm
/-! Memory round a range over a function. -/
namespace Go.Dm
open Go Go.Proofs

theorem RfIn.fr {w w1 : World} {L : Nat} {r : Loop} (h : RfIn w w1 L r) : Fr no w w1 := ⟨by have := h.size; omega, fun b hb _ => h.keep b hb, h.tape, h.os, h.output⟩
theorem own_putObj {w : World} {L b : Nat} {o : Obj} (h : b ≠ L) : own (w.putObj L o) b = own w b := by unfold own; rw [World.putObj_heap_other h]
theorem blk_putObj {w : World} {L b : Nat} {o : Obj} (h : b ≠ L) : blk (w.putObj L o) b = blk w b := by unfold blk; rw [World.putObj_heap_other h]
theorem Fr.putObj {w w' : World} {S : Nat → Prop} {L : Nat} {o : Obj} (h : Fr S w w') (hL : w.heap.size ≤ L) : Fr S w (w'.putObj L o) :=
  ⟨by rw [World.putObj_size]; exact h.size, fun b hb hS => by rw [World.putObj_heap_other (by omega)]; exact h.keep b hb hS, h.tape, h.os, h.output⟩
theorem putObj_fr {w : World} {L : Nat} {o : Obj} : Fr (one L) w (w.putObj L o) :=
  ⟨by rw [World.putObj_size]; exact Nat.le_refl _, fun b hb hS => World.putObj_heap_other (fun h => hS h), rfl, rfl, rfl⟩
theorem putObj_at {w : World} {L : Nat} {o o' : Obj} (h : w.heap[L]? = some o') : (w.putObj L o).heap[L]? = some o := World.putObj_heap_same (heap_lt h)
theorem own_not {w : World} {L b : Nat} {cs : List Value} (h : own w b = some cs) {r : Loop} (hL : w.heap[L]? = some (.loop r)) : b ≠ L := by
  intro hh; subst hh; unfold own at h; rw [hL] at h; cases h
theorem own_notD {w : World} {L b : Nat} {cs : List Value} (h : own w b = some cs) {d : Option (List Deferred)} (hL : w.heap[L]? = some (.deferred d)) : b ≠ L := by
  intro hh; subst hh; unfold own at h; rw [hL] at h; cases h
theorem Fr.at {w w' : World} {S : Nat → Prop} (h : Fr S w w') {b : Nat} {o : Obj} (ho : w.heap[b]? = some o) (hb : ¬ S b) : w'.heap[b]? = some o := by
  rw [h.keep b (heap_lt ho) hb]; exact ho
/-- A write elsewhere. -/
theorem Pt.at {w w' : World} {b c : Nat} {cs : List Value} {o : Obj} (p : Pt w b cs w') (h : w.heap[c]? = some o) (hne : c ≠ b) : w'.heap[c]? = some o := p.fr.at h hne
theorem Pt.oth {w w' : World} {b c : Nat} {cs ds : List Value} (p : Pt w b cs w') (h : Dm.own w c = some ds) (hne : c ≠ b) : Dm.own w' c = some ds := p.fr.own h hne

/-- All keys, one by one. -/
theorem c353 {w : World} {R : Value → World → Prop} {b : Nat} {ks vs y : Value} {m : Mp (List Value)} (I : Nat → World → Prop) (X : World → Prop)
    (hr : ∀ i W, I i W → blk W b = some [ks, vs] ∧ SlI W (fun _ => True) 1 ks m.length (m.map fun p => .string p.1) ∧ SlI W (fun _ => True) 4 vs m.length (m.flatMap fun p => p.2))
    (hlen : ∀ p ∈ m, p.2.length = 4) (hn : m.length < 2^61) (h0 : I 0 w)
    (hy : ∀ i W p K, I i W → m[i]? = some p → (∀ W', I (i + 1) W' → K (.bool true) W') → (∀ W', X W' → K (.bool false) W') → dyC Tryz.prog y #[.string p.1, .agg p.2.toArray] W K)
    (hend : ∀ W, I m.length W → R (.tuple #[]) W) (hx : ∀ W, X W → R (.tuple #[]) W) : CallsR Tryz.prog 353 #[y, .pointer (some ⟨b, 0, none⟩)] w R := by
  apply sh353; unfold S353
  obtain ⟨hb, hk, hv⟩ := hr 0 w h0
  refine pv_i (v := .pointer (some ⟨b, 0, none⟩)) rfl ?_
  refine ld_b hb rfl ?_
  refine pv_i hk.lenV ?_
  refine lp_c (fun d e u X => ∃ i : Nat, d = m.length - i ∧ i ≤ m.length ∧ I i u ∧ X = no ∧ e 0 = y ∧ e 1 = .pointer (some ⟨b, 0, none⟩) ∧ e 6 = ks ∧ e 7 = .int .i64 m.length ∧ e 8 = .int .i64 (i : Nat)) m.length
    ⟨0, by omega, by omega, h0, rfl, rfl, rfl, rfl, rfl, rfl⟩ ?_
  rintro d e u X' N ⟨i, rfl, hi, hI, rfl, e0', e1, e6, e7, e8⟩ hN
  obtain ⟨hb, hk, hv⟩ := hr i u hI
  simp only [e0', e1, e6, e7, e8, lss_i, pv_some, condC_b, decide_eq_true_eq]
  split
  · rename_i hlt
    have hlt : i < m.length := by omega
    obtain ⟨p, hp⟩ : ∃ p, m[i]? = some p := ⟨_, List.getElem?_eq_getElem hlt⟩
    obtain ⟨a1, ha1, hl1⟩ := hk.ld1' (i := (i : Nat)) (kd := .i64) (by omega) (by omega) (x := .string p.1) (by rw [Int.toNat_natCast]; exact keyAt hp)
    refine pv_i ha1 ?_
    refine hl1 _ ?_
    refine pv_i (v := .pointer (some ⟨b, 1, none⟩)) rfl ?_
    refine ld_b hb rfl ?_
    obtain ⟨a2, ha2, hl2⟩ := hv.ldk' (i := (i : Nat)) (kd := .i64) (by omega) (by omega)
    rw [Int.toNat_natCast, flat_at' hlen hp] at hl2
    refine pv_i ha2 ?_
    refine hl2 _ ?_
    refine hy i u p _ hI hp (fun W' hI' => ?_) (fun W' hX' => ?_)
    · refine pv_i (not_b _) ?_
      rw [Bool.not_true, condC_f]
      refine pv_i (add1 (by omega)) ?_
      exact hN _ _ _ _ (by omega) ⟨i + 1, rfl, by omega, hI', rfl, rfl, rfl, rfl, rfl, rfl⟩
    · refine pv_i (not_b _) ?_
      rw [Bool.not_false, condC_t]
      exact hx W' hX'
  · have : i = m.length := by omega
    subst this
    exact hend u hI
theorem c380 {w : World} {R : Value → World → Prop} {b : Nat} {ks vs y : Value} {m : Mp (List Value)} (I : Nat → World → Prop) (X : World → Prop)
    (hr : ∀ i W, I i W → blk W b = some [ks, vs] ∧ SlI W (fun _ => True) 1 ks m.length (m.map fun p => .string p.1) ∧ SlI W (fun _ => True) 1 vs m.length (m.flatMap fun p => p.2))
    (hlen : ∀ p ∈ m, p.2.length = 1) (hn : m.length < 2^61) (h0 : I 0 w)
    (hy : ∀ i W p x K, I i W → m[i]? = some (p, [x]) → (∀ W', I (i + 1) W' → K (.bool true) W') → (∀ W', X W' → K (.bool false) W') → dyC Tryz.prog y #[.string p, x] W K)
    (hend : ∀ W, I m.length W → R (.tuple #[]) W) (hx : ∀ W, X W → R (.tuple #[]) W) : CallsR Tryz.prog 380 #[y, .pointer (some ⟨b, 0, none⟩)] w R := by
  apply sh380; unfold S380
  obtain ⟨hb, hk, hv⟩ := hr 0 w h0
  refine pv_i (v := .pointer (some ⟨b, 0, none⟩)) rfl ?_
  refine ld_b hb rfl ?_
  refine pv_i hk.lenV ?_
  refine lp_c (fun d e u X => ∃ i : Nat, d = m.length - i ∧ i ≤ m.length ∧ I i u ∧ X = no ∧ e 0 = y ∧ e 1 = .pointer (some ⟨b, 0, none⟩) ∧ e 6 = ks ∧ e 7 = .int .i64 m.length ∧ e 8 = .int .i64 (i : Nat)) m.length
    ⟨0, by omega, by omega, h0, rfl, rfl, rfl, rfl, rfl, rfl⟩ ?_
  rintro d e u X' N ⟨i, rfl, hi, hI, rfl, e0', e1, e6, e7, e8⟩ hN
  obtain ⟨hb, hk, hv⟩ := hr i u hI
  simp only [e0', e1, e6, e7, e8, lss_i, pv_some, condC_b, decide_eq_true_eq]
  split
  · rename_i hlt
    have hlt : i < m.length := by omega
    obtain ⟨p, hp⟩ : ∃ p, m[i]? = some p := ⟨_, List.getElem?_eq_getElem hlt⟩
    obtain ⟨p1, x, rfl⟩ : ∃ p1 x, p = (p1, [x]) := by
      obtain ⟨p1, l⟩ := p
      have := hlen _ (List.mem_of_getElem? hp)
      match l, this with
      | [x], _ => exact ⟨p1, x, rfl⟩
    obtain ⟨a1, ha1, hl1⟩ := hk.ld1' (i := (i : Nat)) (kd := .i64) (by omega) (by omega) (x := .string p1) (by rw [Int.toNat_natCast]; exact keyAt hp)
    refine pv_i ha1 ?_
    refine hl1 _ ?_
    refine pv_i (v := .pointer (some ⟨b, 1, none⟩)) rfl ?_
    refine ld_b hb rfl ?_
    have hfl : (m.flatMap fun p => p.2)[i]? = some x := by
      have := flat_at' hlen hp
      have h2 : (((m.flatMap fun p => p.2).drop (i * 1)).take 1)[0]? = some x := by rw [this]; rfl
      rw [List.getElem?_take_of_lt (by omega), List.getElem?_drop, Nat.mul_one] at h2; exact h2
    obtain ⟨a2, ha2, hl2⟩ := hv.ld1' (i := (i : Nat)) (kd := .i64) (by omega) (by omega) (x := x) (by rw [Int.toNat_natCast]; exact hfl)
    refine pv_i ha2 ?_
    refine hl2 _ ?_
    refine hy i u p1 x _ hI hp (fun W' hI' => ?_) (fun W' hX' => ?_)
    · refine pv_i (not_b _) ?_
      rw [Bool.not_true, condC_f]
      refine pv_i (add1 (by omega)) ?_
      exact hN _ _ _ _ (by omega) ⟨i + 1, rfl, by omega, hI', rfl, rfl, rfl, rfl, rfl, rfl⟩
    · refine pv_i (not_b _) ?_
      rw [Bool.not_false, condC_t]
      exact hx W' hX'
  · have : i = m.length := by omega
    subst this
    exact hend u hI
end Go.Dm
/-! Iterators with boxes of their own. -/
namespace Go.Dm
open Go Go.Proofs
variable {w : World} {R : Value → World → Prop}

theorem kp.trans {X : Nat → Prop} {a b c : World} (h : kp X a b) (k : kp X b c) : kp X a c := fun x hx => (k x hx).trans (h x hx)

/-- Sessions that live, one by one. -/
theorem c408 {bl bn now : Nat} {lv y : Value} {l : List Sess} (I : Nat → (Nat → Prop) → World → Prop) (Z : World → Prop)
    (hr : ∀ i Y W, I i Y W → blk W bl = some [lv] ∧ blk W bn = some [.int .u64 now] ∧ SlI W (fun _ => True) 4 lv l.length (l.flatMap Sess.cells))
    (hn : l.length < 2^61) (hst : ∀ i Y W W' Y', I i Y W → Sy W Y W' Y' → I i Y' W') (h0 : I 0 no w)
    (hy : ∀ i Y W s K, I i Y W → (sPurge l now)[i]? = some s → (∀ b, Y b → b < W.heap.size) → (∀ W', I (i + 1) Y W' → kp Y W W' → K (.bool true) W') → (∀ W', Z W' → kp Y W W' → K (.bool false) W') → dyC Tryz.prog y #[s.v] W K)
    (hend : ∀ Y W, I (sPurge l now).length Y W → R (.tuple #[]) W) (hx : ∀ W, Z W → R (.tuple #[]) W) : CallsR Tryz.prog 408 #[y, .pointer (some ⟨bl, 0, none⟩), .pointer (some ⟨bn, 0, none⟩)] w R := by
  apply sh408; unfold S408
  obtain ⟨hbl, hbn, hl⟩ := hr 0 no w h0
  refine ld_b hbl rfl ?_
  refine pv_i hl.lenV ?_
  refine lp_c (fun d e u X => ∃ i : Nat, d = l.length - i ∧ i ≤ l.length ∧ I (sPurge (l.take i) now).length X u ∧ (∀ b, X b → b < u.heap.size) ∧ e 0 = y ∧ e 2 = .pointer (some ⟨bn, 0, none⟩) ∧ e 6 = lv ∧ e 7 = .int .i64 l.length ∧ e 8 = .int .i64 (i : Nat)) l.length
    ⟨0, by omega, by omega, h0, (fun b hb => hb.elim), rfl, rfl, rfl, rfl, rfl⟩ ?_
  rintro d e u X N ⟨i, rfl, hi, hI, hXl, e0', e2, e6, e7, e8⟩ hN
  obtain ⟨hbl, hbn, hl⟩ := hr _ _ u hI
  simp only [e0', e2, e6, e7, e8, lss_i, pv_some, condC_b, decide_eq_true_eq]
  split
  · rename_i hlt
    have hlt : i < l.length := by omega
    obtain ⟨s, hs⟩ : ∃ s, l[i]? = some s := ⟨_, List.getElem?_eq_getElem hlt⟩
    obtain ⟨p, hp, hld⟩ := hl.at (kd := .i64) sess_len hs
    refine pv_i hp ?_
    refine hld _ ?_
    refine ⟨rfl, ?_⟩
    intro u1 X1 y1
    have hI1 := hst _ _ _ _ _ hI y1
    obtain ⟨hbl1, hbn1, hl1⟩ := hr _ _ u1 hI1
    refine ld_b hbn1 rfl ?_
    refine pv_i (v := .int .u64 s.till) rfl ?_
    refine c360 ?_
    refine ⟨kp_no (Fr.refl _ _) y1.lt, ?_⟩
    refine pv_i (not_b _) ?_
    have hls : l[i] = s := by rw [List.getElem?_eq_getElem hlt] at hs; exact Option.some.inj hs
    have htk : sPurge (l.take (i + 1)) now = sPurge (l.take i) now ++ (if s.till ≤ now then [] else [s]) := by
      unfold sPurge
      rw [List.take_succ_eq_append_getElem hlt, List.filter_append, hls]; congr 1
      by_cases h : s.till ≤ now <;> simp [h]
    by_cases hlate : s.till ≤ now
    · rw [decide_eq_true hlate, Bool.not_true, gdB_b, if_neg (by simp)]
      refine pv_i (v := .bool false) rfl ?_
      rw [condC_f]
      refine pv_i (add1 (by omega)) ?_
      refine hN _ _ _ _ (by omega) ⟨i + 1, rfl, by omega, ?_, y1.lt, rfl, rfl, rfl, rfl, rfl⟩
      rw [htk, if_pos hlate, List.append_nil]; exact hI1
    · rw [decide_eq_false hlate, Bool.not_false, gdB_b, if_pos rfl]
      have hat : (sPurge l now)[(sPurge (l.take i) now).length]? = some s := by
        have : sPurge l now = sPurge (l.take i) now ++ sPurge (l.drop i) now := by unfold sPurge; rw [← List.filter_append, List.take_append_drop]
        rw [this, List.getElem?_append_right (Nat.le_refl _), Nat.sub_self, List.drop_eq_getElem_cons hlt, hls]
        unfold sPurge; rw [List.filter_cons_of_pos (by simp [hlate])]; rfl
      refine hy _ _ _ _ _ hI1 hat y1.lt (fun W' hI' hkp => ?_) (fun W' hZ hkp => ?_)
      · refine ⟨hkp, ?_⟩
        refine pv_i (not_b _) ?_
        refine pv_i (v := .bool false) rfl ?_
        rw [condC_f]
        refine pv_i (add1 (by omega)) ?_
        refine hN _ _ _ _ (by omega) ⟨i + 1, rfl, by omega, ?_, ?_, rfl, rfl, rfl, rfl, rfl⟩
        · rw [htk, if_neg hlate, List.length_append]; exact hI'
        · intro b hb
          have h1 := y1.lt b hb
          have h2 := hkp b hb
          rcases Nat.lt_or_ge b W'.heap.size with h3 | h3
          · exact h3
          · rw [Array.getElem?_eq_none h3, Array.getElem?_eq_getElem h1] at h2; cases h2
      · refine ⟨hkp, ?_⟩
        refine pv_i (not_b _) ?_
        refine pv_i (v := .bool true) rfl ?_
        rw [condC_t]
        exact hx W' hZ
  · have : i = l.length := by omega
    subst this
    rw [List.take_length] at hI
    exact hend X u hI
end Go.Dm
/-! Presences. -/
namespace Go.Dm
open Go Go.Proofs
variable {w : World} {R : Value → World → Prop}

theorem rfQ_n {N T : World → Prop} {X : Nat → World → Prop} {w : World} : rfQ N T X .normal w = N w := rfl
theorem jn_e (A : (Env → World → Prop) → Prop) (K : Env → World → Prop) : jn A K = A K := rfl
theorem gd_u {want : Bool} {A : (Value → World → Prop) → Prop} {K : Value → World → Prop} {w : World} (hk : K undef w) : gd undef want A K w :=
  gd_f (by simp [boolOf, undef]) hk
theorem lt_of_heap {w : World} {b : Nat} {o : Obj} (h : w.heap[b]? = some o) : b < w.heap.size := heap_lt h

theorem c386 {lv : Value} {now : Nat} (h : ∀ b1 b2 w1 w', Nw w b1 lv.cells.toList 294 w1 → Nw w1 b2 [.int .u64 now] 22 w' → R (.func (.func 408) #[] #[.pointer (some ⟨b1, 0, none⟩), .pointer (some ⟨b2, 0, none⟩)]) w') : CallsR Tryz.prog 386 #[lv, .int .u64 now] w R := by
  apply sh386; unfold S386
  exact al_i fun b w1 n1 => al_i fun b2 w2 n2 => h b b2 w1 w2 n1 n2

theorem pfold_snd : ∀ (l : List Sess) (b : Sess × Int), (l.foldl pStep b).2 = b.2 + l.length
  | [], b => by simp
  | a :: l, b => by rw [List.foldl_cons, pfold_snd l]; unfold pStep; simp; omega
theorem pfold_take {l : List Sess} {j : Nat} {s : Sess} (h : l[j]? = some s) : (l.take (j + 1)).foldl pStep (Sess.zero, 0) = pStep ((l.take j).foldl pStep (Sess.zero, 0)) s := by
  have hlt : j < l.length := by
    rcases Nat.lt_or_ge j l.length with hh | hh
    · exact hh
    · rw [List.getElem?_eq_none hh] at h; cases h
  rw [List.take_succ_eq_append_getElem hlt, List.foldl_append]
  rw [List.getElem?_eq_getElem hlt] at h
  rw [Option.some.inj h]; rfl

theorem c352 {lv : Value} {l : List Sess} {now : Nat} {Im : Nat → Prop} (hk : SlI w Im 4 lv l.length (l.flatMap Sess.cells)) (hn : l.length < 2^61) (h : ∀ w', Fr no w w' → R (pOf l now).v w') : CallsR Tryz.prog 352 #[lv, .int .u64 now] w R := by
  apply sh352; unfold S352
  refine al_i fun b4 w1 n1 => al_i fun b5 w2 n2 => al_i fun b6 w3 n3 => ?_
  refine st_i (ds := [.int .i64 0]) n3.own (by simp) rfl rfl rfl fun w4 p4 => ?_
  have e1 := n1.eq; have e2 := n2.eq; have e3 := n3.eq; have z1 := n1.size; have z2 := n2.size; have z3 := n3.size; have z4 := p4.size
  have f4 : Fr no w w4 := ((n1.fr.trans n2.fr).trans n3.fr).own1 p4.fr (by omega)
  refine c386 fun bl bn w5a w5 n5 n6 => ?_
  have e5 := n5.eq; have e6 := n6.eq; have z5 := n5.size; have z6 := n6.size
  have f5 : Fr no w w5 := (f4.trans n5.fr).trans n6.fr
  refine ⟨ent408, fun w6 L r hin hy => ?_⟩
  have eL := hin.eq; have z7 := hin.size
  have f6 := f5.trans hin.fr
  have o4 : own w6 b4 = some [.int .i64 0, .int .i64 0, .int .i64 0] := hin.fr.own (n6.fr.own (n5.fr.own (p4.oth (n3.fr.own (n2.fr.own n1.own id) id) (by omega)) id) id) id
  have o5 : own w6 b5 = some Sess.zero.cells := hin.fr.own (n6.fr.own (n5.fr.own (p4.oth (n3.fr.own n2.own id) (by omega)) id) id) id
  have o6 : own w6 b6 = some [.int .i64 0] := hin.fr.own (n6.fr.own (n5.fr.own p4.own id) id) id
  have hlv1 : lv.cells.toList = [lv] := by rw [cells_one hk.one]
  have ol : own w6 bl = some [lv] := hin.fr.own (n6.fr.own (by rw [← hlv1]; exact n5.own) id) id
  have on : own w6 bn = some [.int .u64 now] := hin.fr.own n6.own id
  show CallsR Tryz.prog 408 #[.func (.yield L) #[] #[], .pointer (some ⟨bl, 0, none⟩), .pointer (some ⟨bn, 0, none⟩)] w6 _
  refine c408 (lv := lv) (l := l) (now := now) (fun j Y W => ∃ best : Sess, (best, (j : Int)) = ((sPurge l now).take j).foldl pStep (Sess.zero, 0) ∧ Fr no w W ∧ own W b4 = some [.int .i64 0, .int .i64 0, .int .i64 0] ∧ own W b5 = some best.cells ∧ own W b6 = some [.int .i64 j] ∧
      own W bl = some [lv] ∧ own W bn = some [.int .u64 now] ∧ W.heap[L]? = some (.loop r) ∧ W.heap[w5.heap.size]? = some (.deferred (some [])) ∧ w6.heap.size ≤ W.heap.size ∧ ∀ b, Y b → w6.heap.size ≤ b) (fun _ => False)
    ?_ hn ?_ ?_ ?_ ?_ (fun W hW => hW.elim)
  · rintro j Y W ⟨best, hb, fW, q4, q5, q6, ql, qn, qL, qD, _, _⟩
    exact ⟨own_blk ql, own_blk qn, (hk.ext fW).im fun _ _ _ => trivial⟩
  · rintro j Y W W' Y' ⟨best, hb, fW, q4, q5, q6, ql, qn, qL, qD, hz, hY⟩ sy
    have nY : ∀ b, b < w6.heap.size → ¬ Y b := fun b hb hh => by have := hY b hh; omega
    refine ⟨best, hb, fW.trans' sy.fr (fun b hb hh => by have := hY b hh; have := f6.size; omega), sy.fr.own q4 (nY _ (by omega)), sy.fr.own q5 (nY _ (by omega)), sy.fr.own q6 (nY _ (by omega)), sy.fr.own ql (nY _ (by omega)), sy.fr.own qn (nY _ (by omega)), sy.fr.at qL (nY _ (by omega)), sy.fr.at qD (nY _ (by omega)), by have := sy.fr.size; omega, fun b hb => ?_⟩
    rcases sy.sub b hb with hh | hh
    · exact hY b hh
    · omega
  · exact ⟨Sess.zero, rfl, f6, o4, o5, o6, ol, on, hin.rec_, hin.mark, Nat.le_refl _, fun b hb => hb.elim⟩
  · rintro j Y W s K ⟨best, hb, fW, q4, q5, q6, ql, qn, qL, qD, hz, hY⟩ hs hYl hK hZ
    have hlen : (sPurge l now).length ≤ l.length := List.length_filter_le _ _
    have hj : j < (sPurge l now).length := by
      rcases Nat.lt_or_ge j (sPurge l now).length with hh | hh
      · exact hh
      · rw [List.getElem?_eq_none hh] at hs; cases hs
    refine hy (fun _ => s.v) W K qL ?_
    have qLt := heap_lt qL; have qDt := heap_lt qD
    refine al_i fun b7 W1 m1 => ?_
    have g1 := m1.eq; have y1 := m1.size
    refine st_i (ds := s.cells) m1.own (by decide) rfl rfl rfl fun W2 m2 => ?_
    have y2 := m2.size
    have qL2 : W2.heap[L]? = some (.loop r) := m2.at (m1.fr.at qL id) (by omega)
    refine ⟨qL2, ?_⟩
    have tr : ∀ {b : Nat} {cs : List Value}, own W b = some cs → b ≠ L → own (W2.putObj L (.loop (lpBusy r))) b = some cs := fun {b cs} ho hne => by
      rw [own_putObj hne]; exact m2.oth (m1.fr.own ho id) (by have := own_lt ho; omega)
    have r5 := tr q5 (by omega); have r6 := tr q6 (by omega); have r4 := tr q4 (by omega); have rl := tr ql (by omega); have rn := tr qn (by omega)
    have r7 : own (W2.putObj L (.loop (lpBusy r))) b7 = some s.cells := by rw [own_putObj (by omega)]; exact m2.own
    have rL : (W2.putObj L (.loop (lpBusy r))).heap[L]? = some (.loop (lpBusy r)) := putObj_at qL2
    have rD : (W2.putObj L (.loop (lpBusy r))).heap[w5.heap.size]? = some (.deferred (some [])) := by rw [World.putObj_heap_other (by omega)]; exact m2.at (m1.fr.at qD id) (by omega)
    have fW3 : Fr no w (W2.putObj L (.loop (lpBusy r))) := ((fW.trans m1.fr).own1 m2.fr (by have := fW.size; omega)).putObj (by omega)
    have kW3 : kp Y W (W2.putObj L (.loop (lpBusy r))) := fun b hb => by
      have h1 := hY b hb; have h2 := hYl b hb
      rw [World.putObj_heap_other (by omega)]
      exact (m2.fr.keep b (by omega) (fun hh => by unfold one at hh; omega)).trans (m1.fr.keep b h2 id)
    have z3' : W.heap.size ≤ (W2.putObj L (.loop (lpBusy r))).heap.size := by rw [World.putObj_size]; omega
    revert r5 r6 r4 rl rn r7 rL rD fW3 kW3 z3'
    generalize W2.putObj L (.loop (lpBusy r)) = W3
    intro r5 r6 r4 rl rn r7 rL rD fW3 kW3 z3'
    show jn _ _
    rw [jn_e]
    refine ld_i r6 rfl ?_
    refine pv_i eql_i ?_
    -- what happens last
    have fin : ∀ (nb : Sess) (u : World) (e : Env), e 6 = .pointer (some ⟨b6, 0, none⟩) → (nb, ((j + 1 : Nat) : Int)) = ((sPurge l now).take (j + 1)).foldl pStep (Sess.zero, 0) → own u b5 = some nb.cells → (∀ b, b < W3.heap.size → b ≠ b5 → u.heap[b]? = W3.heap[b]?) → Fr no w u → W3.heap.size ≤ u.heap.size →
        ldC u false 1 (e 6) fun t20 => pv (binV .add t20 (.int .i64 1)) fun t21 => stC u 1 (e 6) t21 fun w25 => endT L r K w25 := by
      intro nb u e he hnb u5 uo fu zu
      have uown : ∀ {b : Nat} {cs : List Value}, own W3 b = some cs → b ≠ b5 → own u b = some cs := fun {b cs} ho hne => by have := own_lt ho; unfold own at ho ⊢; rw [uo b this hne]; exact ho
      rw [he]
      refine ld_i (uown r6 (by omega)) rfl ?_
      refine pv_i (add1 (by omega)) ?_
      refine st_i (ds := [.int .i64 (j + 1 : Nat)]) (uown r6 (by omega)) (by simp) rfl rfl rfl fun u2 p2 => ?_
      have uL : u.heap[L]? = some (.loop (lpBusy r)) := by rw [uo L (heap_lt rL) (by omega)]; exact rL
      have uD : u.heap[w5.heap.size]? = some (.deferred (some [])) := by rw [uo _ (heap_lt rD) (by omega)]; exact rD
      have uL2 := p2.at uL (by omega)
      refine ⟨uL2, ?_⟩
      have fl : ∀ {b : Nat} {cs : List Value}, own u b = some cs → b ≠ b6 → b ≠ L → own (u2.putObj L (.loop r)) b = some cs := fun {b cs} ho h1 h2 => by rw [own_putObj h2]; exact p2.oth ho h1
      have sz := p2.size
      refine hK _ ⟨nb, hnb, (fu.own1 p2.fr (by omega)).putObj (by omega), fl (uown r4 (by omega)) (by omega) (by omega), fl u5 (by omega) (by omega), ?_, fl (uown rl (by omega)) (by omega) (by omega), fl (uown rn (by omega)) (by omega) (by omega), putObj_at uL2, ?_, ?_, hY⟩ ?_
      · rw [own_putObj (by omega)]; exact p2.own
      · rw [World.putObj_heap_other (by omega)]; exact p2.at uD (by omega)
      · rw [World.putObj_size]; omega
      · intro b hb
        have h1 := hY b hb; have h2 := hYl b hb
        rw [World.putObj_heap_other (by omega), p2.fr.keep b (by omega) (fun hh => by unfold one at hh; omega), uo b (by omega) (by omega)]
        exact kW3 b hb
    have hstep := pfold_take hs
    rw [← hb] at hstep
    -- the new best
    have put : ∀ (u : World) (e : Env), e 6 = .pointer (some ⟨b6, 0, none⟩) → (s, ((j + 1 : Nat) : Int)) = ((sPurge l now).take (j + 1)).foldl pStep (Sess.zero, 0) → (∀ b, b < W3.heap.size → u.heap[b]? = W3.heap[b]?) → Fr no w u → W3.heap.size ≤ u.heap.size → ∀ (F : Value → Env), (∀ v, F v 6 = e 6) →
        ldC u true 4 (.pointer (some ⟨b7, 0, none⟩)) fun t19 => stC u 4 (.pointer (some ⟨b5, 0, none⟩)) t19 fun w24 => ldC w24 false 1 ((F t19) 6) fun t20 => pv (binV .add t20 (.int .i64 1)) fun t21 => stC w24 1 ((F t19) 6) t21 fun w25 => endT L r K w25 := by
      intro u e he hnb uo fu zu F hF
      have uown : ∀ {b : Nat} {cs : List Value}, own W3 b = some cs → own u b = some cs := fun {b cs} ho => by have := own_lt ho; unfold own at ho ⊢; rw [uo b this]; exact ho
      refine la_i (uown r7) (show (4:Nat) ≤ 4 from Nat.le_refl 4) rfl ?_
      refine st_i (ds := s.cells) (uown r5) (show (4:Nat) ≤ 4 from Nat.le_refl 4) rfl rfl rfl fun u2 p2 => ?_
      refine fin s u2 _ (by rw [hF]; exact he) hnb p2.own (fun b hb hne => ?_) (fu.own1 p2.fr (by omega)) (by rw [p2.size]; exact zu)
      rw [p2.fr.keep b (by omega) hne]; exact uo b hb
    by_cases hj0 : j = 0
    · have hd : decide ((j : Int) = 0) = true := by simp [hj0]
      rw [hd]
      refine gd_f (by simp [boolOf]) ?_
      refine gd_f (by simp [boolOf]) ?_
      refine gd_f (by simp [boolOf]) ?_
      refine pv_i (v := .bool true) rfl ?_
      rw [condC_t]
      refine put W3 (fun _ => .pointer (some ⟨b6, 0, none⟩)) rfl ?_ (fun _ _ => rfl) fW3 (Nat.le_refl _) (fun v => _) (fun v => rfl)
      rw [hstep]; unfold pStep; simp [hj0]
    · have hd : decide ((j : Int) = 0) = false := by simp [hj0]
      rw [hd]
      refine gd_t rfl ?_
      refine la_i r7 (show (4:Nat) ≤ 4 from Nat.le_refl 4) rfl ?_
      refine gd_t rfl ?_
      refine la_i r5 (show (4:Nat) ≤ 4 from Nat.le_refl 4) rfl ?_
      refine gd_t rfl ?_
      refine c387 (a := s) (b := best) fun W4 f4' => ?_
      refine pv_i (v := .bool (better s best)) rfl ?_
      have kz := f4'.size
      cases hbt : better s best with
      | true =>
        rw [condC_t]
        refine put W4 (fun _ => .pointer (some ⟨b6, 0, none⟩)) rfl ?_ (fun b hb => f4'.keep b hb id) (fW3.trans f4') kz (fun v => _) (fun v => rfl)
        rw [hstep]; unfold pStep; simp [hbt]
      | false =>
        rw [condC_f]
        refine fin best W4 _ rfl ?_ (f4'.own r5 id) (fun b hb _ => f4'.keep b hb id) (fW3.trans f4') kz
        rw [hstep]; unfold pStep; simp [hbt]; omega
  · rintro Y W ⟨best, hb, fW, q4, q5, q6, ql, qn, qL, qD, hz, hY⟩
    rw [List.take_length] at hb
    have qLt := heap_lt qL; have qDt := heap_lt qD
    refine .inl ⟨qL, ?_⟩
    have fU : Fr no w (W.putObj L (.loop (lpOut r))) := fW.putObj (by omega)
    have u4 : own (W.putObj L (.loop (lpOut r))) b4 = _ := (own_putObj (by omega)).trans q4
    have u5 : own (W.putObj L (.loop (lpOut r))) b5 = _ := (own_putObj (by omega)).trans q5
    have u6 : own (W.putObj L (.loop (lpOut r))) b6 = _ := (own_putObj (by omega)).trans q6
    have uD : (W.putObj L (.loop (lpOut r))).heap[w5.heap.size]? = some (.deferred (some [])) := by rw [World.putObj_heap_other (by omega)]; exact qD
    revert fU u4 u5 u6 uD
    generalize W.putObj L (.loop (lpOut r)) = U
    intro fU u4 u5 u6 uD
    rw [rfQ_n]
    refine pv_i (v := Value.pointer (some ⟨b5, 1, none⟩)) rfl ?_
    refine ld_i u5 rfl ?_
    refine pv_i (v := .pointer (some ⟨b5, 2, none⟩)) rfl ?_
    refine ld_i u5 rfl ?_
    refine ld_i u6 rfl ?_
    refine pv_i (v := (⟨best.st, best.pr, (sPurge l now).length⟩ : Pres).v) rfl ?_
    refine st_i (ds := (⟨best.st, best.pr, (sPurge l now).length⟩ : Pres).cells) u4 (by decide) rfl rfl rfl fun U2 p2 => ?_
    refine ⟨p2.at uD (by omega), ?_⟩
    refine la_i (by rw [own_putObj (by omega)]; exact p2.own) (by exact Nat.le_refl 3) rfl ?_
    have hp : pOf l now = ⟨best.st, best.pr, (sPurge l now).length⟩ := by unfold pOf; rw [← hb]
    rw [hp] at h
    exact h _ ((fU.own1 p2.fr (by omega)).putObj (by have := f5.size; omega))
end Go.Dm
/-! Books. -/
namespace Go.Dm
open Go Go.Proofs
variable {w : World} {R : Value → World → Prop} {Im : Nat → Prop}

/-- An entry: its sessions, what was told last. -/
def EntI (w : World) (Im : Nat → Prop) (x : List Value) (e : Ent) : Prop := ∃ sl, x = sl :: e.told.cells ∧ SlI w Im 4 sl e.ss.length (e.ss.flatMap Sess.cells) ∧ idsUp e.ss ∧ e.ss.length < 2^30
def BkR (w : World) (Im : Nat → Prop) : Mp (List Value) → Book → Prop
  | [], [] => True
  | (a, x) :: r, (b, e) :: m => a = b ∧ EntI w Im x e ∧ BkR w Im r m
  | _, _ => False
def BookI (w : World) (Im : Nat → Prop) (v : Value) (b : Book) : Prop := ∃ raw, MapI w Im 4 v raw ∧ BkR w Im raw b

theorem EntI.keep {S : Nat → Prop} {w w' : World} {x : List Value} {e : Ent} (h : EntI w Im x e) (f : Fr S w w') (hS : ∀ b, Im b → ¬ S b) : EntI w' Im x e := by
  obtain ⟨sl, hx, hs, hu, hl⟩ := h; exact ⟨sl, hx, hs.keep f hS, hu, hl⟩
theorem EntI.im {Im' : Nat → Prop} {x : List Value} {e : Ent} (h : EntI w Im x e) (hS : ∀ b, b < w.heap.size → Im b → Im' b) : EntI w Im' x e := by
  obtain ⟨sl, hx, hs, hu, hl⟩ := h; exact ⟨sl, hx, hs.im hS, hu, hl⟩
theorem BkR.keep {S : Nat → Prop} {w w' : World} : ∀ {r : Mp (List Value)} {b : Book}, BkR w Im r b → Fr S w w' → (∀ b, Im b → ¬ S b) → BkR w' Im r b
  | [], [], _, _, _ => trivial
  | (a, x) :: r, (b, e) :: m, h, f, hS => ⟨h.1, h.2.1.keep f hS, BkR.keep h.2.2 f hS⟩
  | [], _ :: _, h, _, _ => h.elim
  | _ :: _, [], h, _, _ => h.elim
theorem BkR.im {Im' : Nat → Prop} (hS : ∀ b, b < w.heap.size → Im b → Im' b) : ∀ {r : Mp (List Value)} {b : Book}, BkR w Im r b → BkR w Im' r b
  | [], [], _ => trivial
  | (a, x) :: r, (b, e) :: m, h => ⟨h.1, h.2.1.im hS, BkR.im hS h.2.2⟩
  | [], _ :: _, h => h.elim
  | _ :: _, [], h => h.elim
theorem BookI.keep {S : Nat → Prop} {w w' : World} {v : Value} {b : Book} (h : BookI w Im v b) (f : Fr S w w') (hS : ∀ b, Im b → ¬ S b) : BookI w' Im v b := by
  obtain ⟨raw, hm, hr⟩ := h; exact ⟨raw, hm.keep f hS, hr.keep f hS⟩
theorem BookI.ext {w w' : World} {v : Value} {b : Book} (h : BookI w Im v b) (f : Fr no w w') : BookI w' Im v b := h.keep f fun _ _ h => h
theorem BookI.im {Im' : Nat → Prop} {v : Value} {b : Book} (h : BookI w Im v b) (hS : ∀ b, b < w.heap.size → Im b → Im' b) : BookI w Im' v b := by
  obtain ⟨raw, hm, hr⟩ := h; exact ⟨raw, hm.im hS, hr.im hS⟩
theorem BookI.zero (w : World) : BookI w Im (.agg #[.slice none 0 0, .slice none 0 0]) [] := ⟨[], MapI.zero w 4, trivial⟩
theorem BookI.two {v : Value} {b : Book} (h : BookI w Im v b) : ∃ a c, v = .agg #[a, c] ∧ one1 a = true ∧ one1 c = true := by
  obtain ⟨raw, ⟨ks, vs, rfl, hk, hv, _⟩, _⟩ := h; exact ⟨ks, vs, rfl, hk.one, hv.one⟩
theorem BookI.ok {v : Value} {b : Book} (h : BookI w Im v b) : okB true 2 v = true := by
  obtain ⟨a, c, rfl, h1, h2⟩ := h.two; exact okB2 h1 h2

theorem BkR.len : ∀ {r : Mp (List Value)} {b : Book}, BkR w Im r b → r.length = b.length
  | [], [], _ => rfl
  | _ :: _, _ :: _, h => by simp [BkR.len h.2.2]
  | [], _ :: _, h => h.elim
  | _ :: _, [], h => h.elim
theorem BkR.get {u : ByteArray} : ∀ {r : Mp (List Value)} {b : Book}, BkR w Im r b → (mGet r u = none ∧ mGet b u = none) ∨ ∃ x e, mGet r u = some x ∧ mGet b u = some e ∧ EntI w Im x e
  | [], [], _ => .inl ⟨rfl, rfl⟩
  | (a, x) :: r, (b, e) :: m, h => by
    obtain ⟨rfl, h1, h2⟩ := h
    unfold mGet
    by_cases hu : a = u
    · rw [if_pos hu, if_pos hu]; exact .inr ⟨x, e, rfl, rfl, h1⟩
    · rw [if_neg hu, if_neg hu]; exact BkR.get h2
  | [], _ :: _, h => h.elim
  | _ :: _, [], h => h.elim
theorem BkR.with {u : ByteArray} {x : List Value} {e : Ent} (he : EntI w Im x e) : ∀ {r : Mp (List Value)} {b : Book}, BkR w Im r b → BkR w Im (mWith r u x) (mWith b u e)
  | [], [], _ => ⟨rfl, he, trivial⟩
  | (a, y) :: r, (b, f) :: m, h => by
    obtain ⟨rfl, h1, h2⟩ := h
    unfold mWith
    by_cases hu : a = u
    · rw [if_pos hu, if_pos hu]; exact ⟨rfl, he, h2⟩
    · rw [if_neg hu, if_neg hu]
      by_cases hl : strLt u a = true
      · rw [if_pos hl, if_pos hl]; exact ⟨rfl, he, rfl, h1, h2⟩
      · rw [if_neg hl, if_neg hl]; exact ⟨rfl, h1, BkR.with he h2⟩
  | [], _ :: _, h => h.elim
  | _ :: _, [], h => h.elim
theorem BkR.without {u : ByteArray} : ∀ {r : Mp (List Value)} {b : Book}, BkR w Im r b → BkR w Im (mWithout r u) (mWithout b u)
  | [], [], _ => trivial
  | (a, y) :: r, (b, f) :: m, h => by
    obtain ⟨rfl, h1, h2⟩ := h
    unfold mWithout
    by_cases hu : a = u
    · rw [if_pos hu, if_pos hu]; exact h2
    · rw [if_neg hu, if_neg hu]; exact ⟨rfl, h1, BkR.without h2⟩
  | [], _ :: _, h => h.elim
  | _ :: _, [], h => h.elim
theorem BkR.at : ∀ {r : Mp (List Value)} {b : Book}, BkR w Im r b → ∀ {i : Nat} {p : ByteArray × List Value}, r[i]? = some p → ∃ e, b[i]? = some (p.1, e) ∧ EntI w Im p.2 e
  | [], [], _, _, _, h => by simp at h
  | (a, x) :: r, (b, e) :: m, h, i, p, hp => by
    obtain ⟨rfl, h1, h2⟩ := h
    cases i with
    | zero => simp at hp; subst hp; exact ⟨e, rfl, h1⟩
    | succ i => exact BkR.at h2 (by simpa using hp)
  | [], _ :: _, h, _, _, _ => h.elim
  | _ :: _, [], h, _, _, _ => h.elim
theorem BkR.keys : ∀ {r : Mp (List Value)} {b : Book}, BkR w Im r b → r.map (fun p => p.1) = b.map fun p => p.1
  | [], [], _ => rfl
  | (a, x) :: r, (b, e) :: m, h => by
    obtain ⟨rfl, h1, h2⟩ := h
    rw [List.map_cons, List.map_cons, BkR.keys h2]
  | [], _ :: _, h => h.elim
  | _ :: _, [], h => h.elim
theorem keysUp_iff : ∀ {α β : Type} {r : Mp α} {b : Mp β}, r.map (fun p => p.1) = b.map (fun p => p.1) → keysUp r → keysUp b
  | _, _, [], [], _, _ => trivial
  | _, _, (a, x) :: r, (c, e) :: m, h, hu => by
    simp only [List.map_cons, List.cons.injEq] at h
    obtain ⟨rfl, h⟩ := h
    refine ⟨fun p hp => ?_, keysUp_iff h hu.2⟩
    have : p.1 ∈ r.map fun p => p.1 := by rw [h]; exact List.mem_map.2 ⟨p, hp, rfl⟩
    obtain ⟨q, hq, hqp⟩ := List.mem_map.1 this
    rw [← hqp]; exact hu.1 q hq
  | _, _, [], _ :: _, h, _ => by simp at h
  | _, _, _ :: _, [], h, _ => by simp at h
theorem BookI.up {v : Value} {b : Book} (h : BookI w Im v b) : keysUp b := by
  obtain ⟨raw, ⟨ks, vs, rfl, hk, hv, _, _, hu⟩, hr⟩ := h
  exact keysUp_iff hr.keys hu

theorem EntI.zero (w : World) : EntI w Im [.slice none 0 0, .int .i64 0, .int .i64 0, .int .i64 0] Ent.zero := ⟨.slice none 0 0, rfl, SlI.nil .., trivial, by decide⟩
theorem BkR.getZ {u : ByteArray} {r : Mp (List Value)} {b : Book} (h : BkR w Im r b) : EntI w Im (getZ r u) (entOf b u) := by
  rcases h.get (u := u) with ⟨h1, h2⟩ | ⟨x, e, h1, h2, h3⟩
  · unfold Dm.getZ entOf; rw [h1, h2]; exact EntI.zero w
  · unfold Dm.getZ entOf; rw [h1, h2]; exact h3
theorem EntI.len {x : List Value} {e : Ent} (h : EntI w Im x e) : x.length = 4 := by obtain ⟨sl, rfl, _⟩ := h; rfl
theorem EntI.one {x : List Value} {e : Ent} (h : EntI w Im x e) : x.all one1 = true := by obtain ⟨sl, rfl, hs, _⟩ := h; rw [List.all_cons, hs.one]; rfl
theorem EntI.ok {x : List Value} {e : Ent} (h : EntI w Im x e) : okB true 4 (.agg x.toArray) = true := by
  have h1 := h.len; have h2 := h.one
  simp [okB, h1]; simpa using h2

/-- But for some. -/
def Bt (Im X : Nat → Prop) : Nat → Prop := fun b => Im b ∧ ¬ X b
theorem NewI.bt {w : World} {X : Nat → Prop} (h : NewI w Im) (hl : ∀ b, X b → b < w.heap.size) : NewI w (Bt Im X) := fun b hb => ⟨h b hb, fun hx => by have := hl b hx; omega⟩
theorem bt_old {w : World} {X : Nat → Prop} (hX : ∀ b, X b → w.heap.size ≤ b) : ∀ b, b < w.heap.size → Im b → Bt Im X b := fun b hb h => ⟨h, fun hx => by have := hX b hx; omega⟩
theorem bt_no {X : Nat → Prop} : ∀ b, Bt Im X b → ¬ X b := fun _ h => h.2
theorem bt_im {w : World} {X : Nat → Prop} : ∀ b, b < w.heap.size → Bt Im X b → Im b := fun _ _ h => h.1

/-- Changes. -/
def ChgI (w : World) (Im : Nat → Prop) (v : Value) (l : List Chg) : Prop := SlI w Im 7 v l.length (l.flatMap Chg.cells)

theorem pres_ne0 (a b c a' b' c' : Int) : structV Tryz.prog .neq 150 (.agg #[.int .i64 a, .int .i64 b, .int .i64 c]) (.agg #[.int .i64 a', .int .i64 b', .int .i64 c']) = some (.bool (!(decide (a = a') && (decide (b = b') && (decide (c = c') && true))))) :=
  structV_n g150 (eq3i (d := 9998) l150 u3 u3 u3 a3 a3 a3)
theorem pres_bool (p q : Pres) : (!(decide (p.st = q.st) && (decide (p.pr = q.pr) && (decide (p.live = q.live) && true)))) = decide (p ≠ q) := by
  by_cases hh : p = q
  · subst hh; simp
  · have : ¬ (p.st = q.st ∧ p.pr = q.pr ∧ p.live = q.live) := fun ⟨h1, h2, h3⟩ => hh (by cases p; cases q; simp_all)
    simp only [hh, ne_eq, not_false_eq_true, decide_true, Bool.and_true]
    rw [Bool.not_eq_true', ← Bool.decide_and, ← Bool.decide_and, decide_eq_false_iff_not]
    exact this
theorem pres_ne (p q : Pres) : structV Tryz.prog .neq 150 p.v q.v = some (.bool (decide (p ≠ q))) := by
  rw [← pres_bool]; exact pres_ne0 _ _ _ _ _ _

theorem c294 {v sl : Value} {b : Book} {u : ByteArray} {l : List Sess} {now : Nat} (hb : BookI w Im v b) (hl : SlI w Im 4 sl l.length (l.flatMap Sess.cells)) (hu : idsUp l) (hn : l.length < 2^30) (hbn : b.length < 2^38) (hI : NewI w Im)
    (h : ∀ v' cv w', BookI w' Im v' (settle b u l now).1 → ChgI w' Im cv (settle b u l now).2 → Fr no w w' → R (.tuple #[v', cv]) w') : CallsR Tryz.prog 294 #[v, .string u, sl, .int .u64 now] w R := by
  apply sh294; unfold S294
  obtain ⟨raw, hm, hr⟩ := hb
  have hlen := hr.len
  refine ⟨BookI.ok ⟨raw, hm, hr⟩, ?_⟩
  intro w1 X1 y1
  refine c287 (hm.ext y1.frno) (by omega) fun w2 f2 => ?_
  refine ⟨kp_no f2 y1.lt, ?_⟩
  refine pv_i (ext2a _ _) (pv_i (ext2b _ _) ?_)
  have fe := y1.frno.trans f2
  have hez := (hr.getZ (u := u)).keep fe (fun _ _ => no_not _)
  refine ⟨hez.ok, ?_⟩
  obtain ⟨esl, hec, hes, _, _⟩ := hez
  intro w3 X3 y3
  have g3 := y3.step fe y1.ge
  refine c352 (hl.ext g3.1) (by omega) fun w4 f4 => ?_
  refine ⟨kp_no f4 y3.lt, rfl, ?_⟩
  have f04 := g3.1.trans f4
  have l4 : ∀ b, X3 b → b < w4.heap.size := fun b hb => Nat.lt_of_lt_of_le (y3.lt b hb) f4.size
  rw [jnB_e, hec]
  have hfv : fieldV true 1 3 (.agg (esl :: (entOf b u).told.cells).toArray) = some (entOf b u).told.v := rfl
  rw [hfv, pv_some, pres_ne, pv_some]
  unfold settle at h
  dsimp only at h
  -- behind the change
  have fin : ∀ (cv : Value) (u5 : World) (X5 : Nat → Prop) (e : Env), Fr no w u5 → (∀ b, X5 b → w.heap.size ≤ b ∧ b < u5.heap.size) → (∀ S u6, (∀ b, S b → X5 b ∨ u5.heap.size ≤ b) → Fr S u5 u6 → ChgI u6 Im cv (if pOf l now ≠ (entOf b u).told then [⟨u, (entOf b u).told, pOf l now⟩] else [])) →
      e 13 = cv → e 12 = (pOf l now).v → e 4 = v → e 2 = sl → e 1 = .string u →
      pv (lenV (e 2)) fun t34 => pv (binV .eql t34 (.int .i64 0)) fun t35 => condC t35
   (syC u5 X5 fun w14 X15 => CallsR Tryz.prog 355 #[(e 4), (e 1)] w14 fun t38 w16 => kp X15 w14 w16 ∧ okB true 2 t38 = true ∧ syC w16 X15 fun w17 X18 => R (.tuple #[t38, (e 13)]) w17)
   (pv (buildV [(0, 1), (1, 3)] [(.slice none 0 0), (.int .i64 0), (.int .i64 0), (.int .i64 0)] [(0, (e 2)), (1, (e 12))]) fun t44 => syC u5 X5 fun w19 X20 => CallsR Tryz.prog 356 #[(e 4), (e 1), t44] w19 fun t45 w21 => kp X20 w19 w21 ∧ okB true 2 t45 = true ∧ syC w21 X20 fun w22 X23 => R (.tuple #[t45, (e 13)]) w22) := by
    intro cv u5 X5 e fu hX hcv e13 e12 e4 e2 e1
    rw [e13, e12, e4, e2, e1]
    refine pv_i hl.lenV ?_
    refine pv_i eql_i ?_
    have hX' : ∀ b, X5 b → w.heap.size ≤ b := fun b hb => (hX b hb).1
    -- what either map comes to
    have last : ∀ (u6 : World) (X6 : Nat → Prop) (v7 : Value) (u7 : World) (m' : Mp (List Value)) (b' : Book), Sy u5 X5 u6 X6 → MapI u7 (Bt Im X6) 4 v7 m' → (∀ u8, Fr no w u8 → BkR u8 Im m' b') → Fr no u6 u7 → (∀ w', BookI w' Im v7 b' → ChgI w' Im cv (if pOf l now ≠ (entOf b u).told then [⟨u, (entOf b u).told, pOf l now⟩] else []) → Fr no w w' → R (.tuple #[v7, cv]) w') →
        kp X6 u6 u7 ∧ okB true 2 v7 = true ∧ syC u7 X6 fun w17 X18 => R (.tuple #[v7, cv]) w17 := by
      intro u6 X6 v7 u7 m' b' y6 hm7 hbk f7 hR
      have g6 := y6.step fu hX'
      have hok : okB true 2 v7 = true := by obtain ⟨ks7, vs7, rfl, hk7, hv7, r7⟩ := hm7; exact okB2 hk7.one hv7.one
      refine ⟨kp_no f7 y6.lt, hok, ?_⟩
      intro u8 X8 y8
      have g8 := y8.step (g6.1.trans f7) g6.2.1
      refine hR u8 ⟨m', (hm7.keep y8.fr bt_no).im bt_im, hbk u8 g8.1⟩ (hcv (fun b => X5 b ∨ u5.heap.size ≤ b) u8 (fun b hb => hb) ?_) g8.1
      refine ((y6.fr.mono fun b _ hx => .inl hx).trans f7.of_no).trans' y8.fr fun b hb hx => ?_
      rcases y6.sub b hx with h1 | h1
      · exact .inl h1
      · exact .inr h1
    by_cases hl0 : l = []
    · rw [decide_eq_true (by simp [hl0]), condC_t]
      rw [if_pos hl0] at h
      intro u6 X6 y6
      have g6 := y6.step fu hX'
      refine c355 ((hm.im (bt_old g6.2.1)).ext g6.1) ((hI.fr g6.1).bt y6.lt) (by omega) fun v7 u7 hm7 f7 => ?_
      exact last u6 X6 v7 u7 _ _ y6 hm7 (fun u8 f8 => (hr.keep f8 (fun _ _ => no_not _)).without) f7 (fun w' h1 h2 h3 => h v7 cv w' h1 h2 h3)
    · have hlne : ¬ ((l.length : Int) = 0) := by
        have : l.length ≠ 0 := fun hh => hl0 (List.length_eq_zero_iff.1 hh)
        omega
      rw [decide_eq_false hlne, condC_f]
      rw [if_neg hl0] at h
      refine pv_i (v := .agg (sl :: (pOf l now).cells).toArray) ?_ ?_
      · obtain ⟨b1, c1, rfl, _⟩ := hl.row
        rfl
      intro u6 X6 y6
      have g6 := y6.step fu hX'
      have hen : ∀ u8, Fr no w u8 → EntI u8 Im (sl :: (pOf l now).cells) ⟨l, pOf l now⟩ := fun u8 f8 => ⟨sl, rfl, hl.ext f8, hu, hn⟩
      refine c356 ((hm.im (bt_old g6.2.1)).ext g6.1) ((hI.fr g6.1).bt y6.lt) rfl (by rw [List.all_cons, hl.one]; rfl) (by omega) fun v7 u7 hm7 f7 => ?_
      exact last u6 X6 v7 u7 _ _ y6 hm7 (fun u8 f8 => (hr.keep f8 (fun _ _ => no_not _)).with (hen u8 f8)) f7 (fun w' h1 h2 h3 => h v7 cv w' h1 h2 h3)
  have hX3 : ∀ b, X3 b → w.heap.size ≤ b ∧ b < w4.heap.size := fun b hb => ⟨g3.2.1 b hb, l4 b hb⟩
  by_cases hne : pOf l now ≠ (entOf b u).told
  · rw [decide_eq_true hne, condC_t]
    refine pv_i hfv ?_
    refine pv_i (v := .agg (⟨u, (entOf b u).told, pOf l now⟩ : Chg).cells.toArray) rfl ?_
    intro w5 X5 y5
    have g5 := y5.step f04 g3.2.1
    refine ⟨(⟨u, (entOf b u).told, pOf l now⟩ : Chg).cells, rfl, ?_⟩
    have n6 := newB_nw w5 (⟨u, (entOf b u).told, pOf l now⟩ : Chg).cells 364
    revert n6
    generalize newB w5 (⟨u, (entOf b u).told, pOf l now⟩ : Chg).cells 364 = w6
    intro n6
    refine fin (.slice (some ⟨w5.heap.size, 0, none⟩) 1 1) w6 X5 _ (g5.1.trans n6.fr) (fun b hb => ⟨g5.2.1 b hb, by have := y5.lt b hb; have := n6.size; omega⟩) ?_ rfl rfl rfl rfl rfl
    intro S u6 hS f6
    rw [if_pos hne]
    have ho := f6.own n6.own (fun hh => by
      rcases hS _ hh with h1 | h1
      · have := y5.lt _ h1; omega
      · have := n6.size; omega)
    refine ⟨⟨_, 1, rfl, by simp, by simp, fun a ha _ => ?_⟩, rfl⟩
    simp only [Option.some.injEq] at ha; subst ha
    exact ⟨_, 0, _, rfl, own_blk ho, hI _ (by have := g5.1.size; omega), (by exact Nat.le_refl 7), rfl⟩
  · rw [decide_eq_false hne, condC_f]
    refine fin (.slice none 0 0) w4 X3 _ f04 hX3 ?_ rfl rfl rfl rfl rfl
    intro S u6 _ _
    rw [if_neg hne]
    exact SlI.nil ..

/-- An op. -/
def OpI (w : World) (Im : Nat → Prop) (v : Value) (x : OpP) : Prop := ∃ us, v = .agg #[.int .i64 x.kind, .string x.user, .int .i64 x.id, .int .i64 x.st, .int .i64 x.pr, .int .u64 x.ttl, us] ∧ SlI w Im 1 us x.users.length (x.users.map .string) ∧ x.ttl ≤ maxU
theorem OpI.ok {v : Value} {x : OpP} (h : OpI w Im v x) : okB true 7 v = true := by
  obtain ⟨us, rfl, hs, _⟩ := h; have := hs.one; simp [okB, one1] at this ⊢; simpa [one1] using this
theorem OpI.keep {S : Nat → Prop} {w w' : World} {v : Value} {x : OpP} (h : OpI w Im v x) (f : Fr S w w') (hS : ∀ b, Im b → ¬ S b) : OpI w' Im v x := by
  obtain ⟨us, rfl, hs, ht⟩ := h; exact ⟨us, rfl, hs.keep f hS, ht⟩
theorem OpI.ext {w w' : World} {v : Value} {x : OpP} (h : OpI w Im v x) (f : Fr no w w') : OpI w' Im v x := h.keep f fun _ _ h => h
theorem OpI.im {Im' : Nat → Prop} {v : Value} {x : OpP} (h : OpI w Im v x) (hS : ∀ b, b < w.heap.size → Im b → Im' b) : OpI w Im' v x := by
  obtain ⟨us, rfl, hs, ht⟩ := h; exact ⟨us, rfl, hs.im hS, ht⟩

theorem sHas_len {l : List Sess} {id : Int} : sHas l id = true → l ≠ [] := by intro h hh; subst hh; simp [sHas] at h
theorem idsUp_ins {l : List Sess} {s : Sess} (h : idsUp l) : idsUp (sIns l s) := by
  induction l with
  | nil => exact ⟨by simp, trivial⟩
  | cons a l ih =>
    unfold sIns
    have mem : ∀ (l : List Sess) (t : Sess), t ∈ sIns l s → t = s ∨ t ∈ l := by
      intro l
      induction l with
      | nil => intro t ht; simp [sIns] at ht; exact .inl ht
      | cons b l ih =>
        intro t ht
        unfold sIns at ht
        split at ht
        · rcases List.mem_cons.1 ht with h | h
          · exact .inl h
          · exact .inr (by simp [h])
        · split at ht
          · rcases List.mem_cons.1 ht with h | h
            · exact .inl h
            · exact .inr h
          · rcases List.mem_cons.1 ht with h | h
            · exact .inr (by simp [h])
            · rcases ih t h with h | h
              · exact .inl h
              · exact .inr (by simp [h])
    split
    · rename_i he; exact ⟨fun t ht => by rw [← he]; exact h.1 t ht, h.2⟩
    · split
      · rename_i hlt
        refine ⟨fun t ht => ?_, h⟩
        rcases List.mem_cons.1 ht with rfl | ht
        · exact hlt
        · have := h.1 t ht; omega
      · refine ⟨fun t ht => ?_, ih h.2⟩
        rcases mem l t ht with rfl | ht
        · omega
        · exact h.1 t ht
theorem sIns_le (l : List Sess) (s : Sess) : (sIns l s).length ≤ l.length + 1 := by
  induction l with
  | nil => simp [sIns]
  | cons a l ih =>
    unfold sIns
    split
    · simp
    · split
      · simp
      · simp; omega
theorem idsUp_map {l : List Sess} {f : Sess → Sess} (hf : ∀ s, (f s).id = s.id) (h : idsUp l) : idsUp (l.map f) := by
  induction l with
  | nil => trivial
  | cons a l ih =>
    refine ⟨fun t ht => ?_, ih h.2⟩
    obtain ⟨s, hs, rfl⟩ := List.mem_map.1 ht
    rw [hf, hf]; exact h.1 s hs
theorem sPurge_le (l : List Sess) (now : Nat) : (sPurge l now).length ≤ l.length := List.length_filter_le _ _
theorem bSess_up {b : Book} {x : OpP} {now : Nat} {most : Int} (hu : idsUp (entOf b x.user).ss) : idsUp (bSess b x now most).1 := by
  have h := idsUp_purge now hu
  unfold bSess
  dsimp only
  split
  · unfold sSet; split
    · exact idsUp_ins h
    · split
      · exact h
      · exact idsUp_ins h
  · split
    · unfold sBeat; split
      · exact idsUp_map (fun s => by split <;> rfl) h
      · exact h
    · split
      · unfold sClear; split
        · exact idsUp_sub List.filter_sublist h
        · exact h
      · exact h
theorem bSess_le {b : Book} {x : OpP} {now : Nat} {most : Int} : (bSess b x now most).1.length ≤ (entOf b x.user).ss.length + 1 := by
  have h := sPurge_le (entOf b x.user).ss now
  unfold bSess
  dsimp only
  split
  · unfold sSet; split
    · have := sIns_le (sPurge (entOf b x.user).ss now) ⟨x.id, x.st, x.pr, addT now x.ttl⟩; dsimp only; omega
    · split
      · dsimp only; omega
      · have := sIns_le (sPurge (entOf b x.user).ss now) ⟨x.id, x.st, x.pr, addT now x.ttl⟩; dsimp only; omega
  · split
    · unfold sBeat; split
      · simp; omega
      · dsimp only; omega
    · split
      · unfold sClear; split
        · have := List.length_filter_le (fun s => !decide (s.id = x.id)) (sPurge (entOf b x.user).ss now); dsimp only; omega
        · dsimp only; omega
      · dsimp only; omega

theorem c253 {v xv : Value} {b : Book} {x : OpP} {now : Nat} {most : Int} (hb : BookI w Im v b) (hx : OpI w Im xv x) (hnow : now ≤ maxU) (hbn : b.length < 2^38) (hss : (entOf b x.user).ss.length + 1 < 2^30) (hI : NewI w Im)
    (h : ∀ v' cv w', BookI w' Im v' (bWrite b x now most).1 → ChgI w' Im cv (bWrite b x now most).2.1 → Fr no w w' → R (.tuple #[v', cv, .int .i64 (bWrite b x now most).2.2]) w') : CallsR Tryz.prog 253 #[v, xv, .int .u64 now, .int .i64 most] w R := by
  apply sh253; unfold S253
  have hok := hb.ok
  have hxok := hx.ok
  obtain ⟨raw, hm, hr⟩ := id hb
  have hlen := hr.len
  obtain ⟨us, rfl, hus, htt⟩ := id hx
  refine ⟨hok, hxok, ?_⟩
  refine pv_i (v := .string x.user) rfl ?_
  intro w1 X1 y1
  refine c287 (hm.ext y1.frno) (by omega) fun w2 f2 => ?_
  refine ⟨kp_no f2 y1.lt, ?_⟩
  refine pv_i (ext2a _ _) (pv_i (ext2b _ _) ?_)
  have fe := y1.frno.trans f2
  have hez := (hr.getZ (u := x.user)).keep fe (fun _ _ => no_not _)
  refine ⟨hez.ok, ?_⟩
  obtain ⟨esl, hec, hes, heu, hel⟩ := hez
  rw [hec]
  refine pv_i (v := esl) rfl ?_
  intro w3 X3 y3
  have g3 := y3.step fe y1.ge
  have hes3 : SlI w3 (fun _ => True) 4 esl (entOf b x.user).ss.length ((entOf b x.user).ss.flatMap Sess.cells) := by
    obtain ⟨sl', hx', hs', _⟩ := (hr.getZ (u := x.user)).keep g3.1 (fun _ _ => no_not _)
    rw [hec] at hx'
    simp only [List.cons.injEq] at hx'
    rw [hx'.1]; exact hs'.im fun _ _ _ => trivial
  refine c295 hes3 (by omega) fun v4 w4 ob4 s4 f4 hob4 => ?_
  refine ⟨kp_no f4 y3.lt, ?_⟩
  refine pv_i (v := .int .u64 x.ttl) rfl ?_
  refine c276 hnow htt ?_
  refine ⟨kp_no (Fr.refl _ _) (fun b hb => Nat.lt_of_lt_of_le (y3.lt b hb) f4.size), ?_⟩
  rw [jnB_e]
  refine pv_i (v := .int .i64 x.kind) rfl ?_
  have hpl := sPurge_le (entOf b x.user).ss now
  have hpu := idsUp_purge now heu
  have f04 := g3.1.trans f4
  have lX4 : ∀ b, X3 b → b < w4.heap.size := fun b hb => Nat.lt_of_lt_of_le (y3.lt b hb) f4.size
  have hup := bSess_up (now := now) (most := most) heu
  have hle := bSess_le (b := b) (x := x) (now := now) (most := most)
  unfold bWrite at h
  dsimp only at h
  -- behind the writing
  have fin : ∀ (v5 : Value) (w5 : World) (ob5 : Option Nat) (e : Env), SlO w5 4 357 v5 (bSess b x now most).1.length ((bSess b x now most).1.flatMap Sess.cells) ob5 → Fr no w4 w5 → (∀ b, ob5 = some b → w3.heap.size ≤ b) →
      e 5 = .agg #[.int .i64 x.kind, .string x.user, .int .i64 x.id, .int .i64 x.st, .int .i64 x.pr, .int .u64 x.ttl, us] → e 4 = v → e 13 = v5 → e 2 = .int .u64 now → e 14 = .int .i64 (bSess b x now most).2 →
      pv (fieldV false 1 1 (e 5)) fun t73 => CallsR Tryz.prog 294 #[(e 4), t73, (e 13), (e 2)] w5 fun t76 w15 => kp X3 w5 w15 ∧ pv (extV t76 0) fun t77 => pv (extV t76 1) fun t78 => okB true 2 t77 = true ∧ okB true 2 t77 = true ∧ syC w15 X3 fun w16 X17 => R (.tuple #[t77, t78, (e 14)]) w16 := by
    intro v5 w5 ob5 e s5 f5 hob5 e5 e4 e13 e2 e14
    rw [e5, e4, e13, e2, e14]
    refine pv_i (v := .string x.user) rfl ?_
    have f05 := f04.trans f5
    have lX5 : ∀ b, X3 b → b < w5.heap.size := fun b hb => Nat.lt_of_lt_of_le (lX4 b hb) f5.size
    have s3 := g3.1.size
    refine c294 (Im := Bt Im X3) ((hb.im (bt_old g3.2.1)).ext f05) (s5.toI fun b hb => ⟨hI b (by have := hob5 b hb; omega), fun hx => by have := hob5 b hb; have := y3.lt b hx; omega⟩) hup (by omega) hbn ((hI.fr f05).bt lX5) fun v6 cv6 w6 hb6 hc6 f6 => ?_
    refine ⟨kp_no f6 lX5, ?_⟩
    refine pv_i (ext2a _ _) (pv_i (ext2b _ _) ?_)
    refine ⟨hb6.ok, hb6.ok, ?_⟩
    intro w7 X7 y7
    have g7 := y7.step (f05.trans f6) g3.2.1
    exact h v6 cv6 w7 ((hb6.keep y7.fr bt_no).im bt_im) ((hc6.keep y7.fr bt_no).im bt_im) g7.1
  refine pv_i eql_i ?_
  by_cases h1 : x.kind = 1
  · rw [decide_eq_true h1, condC_t]
    refine pv_i (v := .int .i64 x.id) rfl ?_
    refine pv_i (v := .int .i64 x.st) rfl ?_
    refine pv_i (v := .int .i64 x.pr) rfl ?_
    refine pv_i (v := (⟨x.id, x.st, x.pr, addT now x.ttl⟩ : Sess).v) rfl ?_
    have hbs : bSess b x now most = sSet (sPurge (entOf b x.user).ss now) ⟨x.id, x.st, x.pr, addT now x.ttl⟩ most := by unfold bSess; simp [h1]
    refine c328 s4.imm hpu (by omega) fun v5 w5 ob5 s5 f5 hob5 => ?_
    refine ⟨kp_no f5 lX4, ?_⟩
    refine pv_i (ext2a _ _) (pv_i (ext2b _ _) ?_)
    rw [← hbs] at s5 ⊢
    exact fin v5 w5 ob5 _ s5 f5 (fun b hb => by have := hob5 b hb; have := f4.size; omega) rfl rfl rfl rfl rfl
  · rw [decide_eq_false h1, condC_f]
    refine pv_i eql_i ?_
    by_cases h2 : x.kind = 2
    · rw [decide_eq_true h2, condC_t]
      refine pv_i (v := .int .i64 x.id) rfl ?_
      have hbs : bSess b x now most = sBeat (sPurge (entOf b x.user).ss now) x.id (addT now x.ttl) := by unfold bSess; simp [h2]
      refine c329 s4.imm hpu (by omega) fun v5 w5 ob5 s5 f5 hob5 => ?_
      refine ⟨kp_no f5 lX4, ?_⟩
      refine pv_i (ext2a _ _) (pv_i (ext2b _ _) ?_)
      rw [← hbs] at s5 ⊢
      exact fin v5 w5 ob5 _ s5 f5 (fun b hb => by have := hob5 b hb; have := f4.size; omega) rfl rfl rfl rfl rfl
    · rw [decide_eq_false h2, condC_f]
      refine pv_i eql_i ?_
      by_cases h3 : x.kind = 3
      · rw [decide_eq_true h3, condC_t]
        refine pv_i (v := .int .i64 x.id) rfl ?_
        have hbs : bSess b x now most = sClear (sPurge (entOf b x.user).ss now) x.id := by unfold bSess; simp [h3]
        refine c330 s4.imm hpu (by omega) fun v5 w5 ob5 s5 f5 hob5 => ?_
        refine ⟨kp_no f5 lX4, ?_⟩
        refine pv_i (ext2a _ _) (pv_i (ext2b _ _) ?_)
        rw [← hbs] at s5 ⊢
        exact fin v5 w5 ob5 _ s5 f5 (fun b hb => by have := hob5 b hb; have := f4.size; omega) rfl rfl rfl rfl rfl
      · rw [decide_eq_false h3, condC_f]
        have hbs : bSess b x now most = (sPurge (entOf b x.user).ss now, 0) := by unfold bSess; simp [h1, h2, h3]
        refine fin v4 w4 ob4 _ (by rw [hbs]; exact s4) (Fr.refl _ _) (fun b hb => hob4 b hb) rfl rfl rfl rfl (by rw [hbs]; rfl)
end Go.Dm
