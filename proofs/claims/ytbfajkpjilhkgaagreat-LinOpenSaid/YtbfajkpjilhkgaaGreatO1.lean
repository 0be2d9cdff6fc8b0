/- A part of the proof that doormanlaw21.LinOpen returns true for every input, on no condition. -/
import Derived.Test.YtbfajkpjilhkgaaGreatL4
import Derived.Deep.Slices
import Derived.WideShapes
set_option linter.unusedVariables false
set_option linter.unusedSimpArgs false
set_option linter.deprecated false
/-! Arguments opened. -/
namespace Go.Dm
open Go Go.Proofs Go.WideShapes
variable {H : Type} {enc : TypeId × Value → H} {w : World}

abbrev Tr (enc : TypeId × Value → H) (w : World) (n : Nat) (t : TypeId) (cs : List Value) (y : DataW H × List MemPlace) : Prop := DataW.trod enc Tryz.prog w 0 (fun _ => true) true n t cs = some y

theorem cell_at {a : Addr} {v : Value} (h : w.cell? a = some v) : a.spot = none ∧ ∃ full, blk w a.block = some full ∧ full[a.off]? = some v := by
  have hs := World.cell?_spot h
  refine ⟨hs, ?_⟩
  unfold World.cell? at h
  split at h
  · rename_i c t fr hh
    rw [hs] at h
    refine ⟨c.toList, by unfold blk; rw [hh], ?_⟩
    simpa using h
  · cases h
theorem SlI.of_cells {a : Addr} {len cap k : Nat} {cells : List Value} (hk : 0 < k) (hcap : len ≤ cap) (hl : cells.length = len * k) (hc : ∀ i, i < len * k → w.cell? (a.add i) = cells[i]?) : SlI w (fun _ => True) k (.slice (some a) len cap) len cells := by
  rcases Nat.eq_zero_or_pos len with h0 | h0
  · exact ⟨⟨some a, cap, rfl, hcap, (fun h => by cases h), fun _ _ h => by omega⟩, hl⟩
  have hpos : 0 < len * k := Nat.mul_pos h0 hk
  obtain ⟨b, o, spot⟩ := a
  have hz := hc 0 hpos
  rw [List.getElem?_eq_getElem (by omega)] at hz
  obtain ⟨hs, full, hb, _⟩ := cell_at hz
  have hsp : spot = none := by simpa [Addr.add] using hs
  subst hsp
  have each : ∀ i, i < len * k → full[o + i]? = cells[i]? := fun i hi => by
    have h1 := hc i hi
    have hv0 : cells[i]? = some (cells[i]'(by omega)) := List.getElem?_eq_getElem (by omega)
    rw [hv0] at h1 ⊢
    obtain ⟨_, full', hb', hv⟩ := cell_at h1
    rw [add_plain] at hb' hv
    rw [add_plain] at hb
    rw [hb] at hb'; cases hb'
    exact hv
  rw [add_plain] at hb
  have hlen : o + len * k ≤ full.length := by
    have := each (len * k - 1) (by omega)
    have hv0 : cells[len * k - 1]? = some (cells[len * k - 1]'(by omega)) := List.getElem?_eq_getElem (by omega)
    rw [hv0] at this
    rcases Nat.lt_or_ge (o + (len * k - 1)) full.length with hh | hh
    · omega
    · rw [List.getElem?_eq_none hh] at this; cases this
  refine SlI.part hb trivial hcap hlen ?_
  apply List.ext_getElem?; intro i
  rcases Nat.lt_or_ge i (len * k) with hi | hi
  · rw [List.getElem?_take_of_lt hi, List.getElem?_drop, each i hi]
  · rw [List.getElem?_eq_none (by rw [List.length_take]; omega), List.getElem?_eq_none (by omega)]
theorem flat_get {α : Type} {en : α → List Value} {k : Nat} (hk : ∀ x, (en x).length = k) {l : List α} {i r : Nat} {x : α} (h : l[i]? = some x) (hr : r < k) : (l.flatMap en)[i * k + r]? = (en x)[r]? := by
  have := flat_at hk h
  rw [← this, List.getElem?_take_of_lt hr, List.getElem?_drop]
theorem add_add' (a : Addr) (i j : Nat) : (a.add i).add j = a.add (i + j) := Go.Deep.add_add a i j
theorem open_rows {α : Type} [Inhabited α] {en : α → List Value} {Q : α → Prop} {t e : TypeId} {k n : Nat} {v : Value} {y : DataW H × List MemPlace} (ht : Tryz.prog.underlying t = some (.slice e)) (hk : Tryz.prog.cellsOf e = k) (hk0 : 0 < k) (hen : ∀ x, (en x).length = k)
    (he : ∀ (n : Nat) (cs : List Value) (y : DataW H × List MemPlace), Tr enc w n e cs y → ∃ x, cs = en x ∧ Q x) (h : Tr enc w n t [v] y) : ∃ l : List α, SlI w (fun _ => True) k v l.length (l.flatMap en) ∧ ∀ x ∈ l, Q x := by
  rcases Go.Deep.open_slice ht h with ⟨h0, _⟩ | ⟨a, len, cap, m, fu, D, Pl, hcs, hb, hl, hm, hmm, _, hx⟩
  · simp only [List.cons.injEq, and_true] at h0
    subst h0
    exact ⟨[], SlI.nil .., fun x hx => by cases hx⟩
  · simp only [List.cons.injEq, and_true] at hcs
    subst hcs
    have hmc : m = cap := by rw [hmm, if_pos rfl]
    have each : ∀ i, i < len → ∃ x : α, Q x ∧ ∀ r, r < k → w.cell? (a.add (i * k + r)) = (en x)[r]? := fun i hi => by
      obtain ⟨cs', h1, h2⟩ := hx i (by omega)
      obtain ⟨x, rfl, hq⟩ := he _ _ _ h2
      rw [hk] at h1
      obtain ⟨_, _, h3⟩ := World.cells?_some h1
      exact ⟨x, hq, fun r hr => by rw [← add_add']; exact h3 r hr⟩
    obtain ⟨f, hf⟩ := Go.Deep.choose_lt each
    have hlen : ((List.range len).map f).length = len := by simp
    refine ⟨(List.range len).map f, ?_, fun x hx => ?_⟩
    · rw [hlen]
      refine SlI.of_cells hk0 hl (by rw [flat_len hen, hlen]) fun i hi => ?_
      have h1 : i / k < len := Nat.div_lt_of_lt_mul (by rw [Nat.mul_comm]; exact hi)
      have h2 : i % k < k := Nat.mod_lt _ hk0
      have h3 : i / k * k + i % k = i := by rw [Nat.mul_comm]; exact Nat.div_add_mod i k
      have h4 : ((List.range len).map f)[i / k]? = some (f (i / k)) := by rw [List.getElem?_map, List.getElem?_range h1]; rfl
      have h5 := flat_get hen h4 h2
      rw [h3] at h5
      rw [h5, ← (hf _ h1).2 _ h2, h3]
    · obtain ⟨i, hi, rfl⟩ := List.mem_map.1 hx
      exact (hf i (List.mem_range.1 hi)).1

/-! Fields -/
theorem fld_at {t : TypeId} {l : List (Bool × TypeId × Nat)} (hl : fieldsOf Tryz.prog t = some l) {n : Nat} {cs : List Value} {y : DataW H × List MemPlace} (h : Tr enc w n t cs y) :
    cs.length = Tryz.prog.cellsOf t ∧ ∀ (i : Nat) (b : Bool) (ft off : Nat), l[i]? = some (b, ft, off) → ∃ m y', Tr enc w m ft ((cs.drop off).take (Tryz.prog.cellsOf ft)) y' := by
  unfold fieldsOf at hl
  split at hl
  · rename_i fs hu hs
    simp only [Option.some.injEq] at hl
    subst hl
    obtain ⟨xs, m, _, _, h3, h4, h5⟩ := DataW.trod_struct hu h
    refine ⟨h3, fun i b ft off hi => ?_⟩
    rw [List.getElem?_map] at hi
    cases hf : fs[i]? with
    | none => rw [Array.getElem?_toList, hf] at hi; cases hi
    | some f =>
      rw [Array.getElem?_toList, hf] at hi
      simp only [Option.map_some, Option.some.injEq, Prod.mk.injEq] at hi
      obtain ⟨_, rfl, rfl⟩ := hi
      have := h5 i f hf
      have hil : i < xs.length := by
        rw [h4]
        rcases Nat.lt_or_ge i fs.size with hh | hh
        · exact hh
        · rw [Array.getElem?_eq_none hh] at hf; cases hf
      rw [List.getElem?_eq_getElem hil] at this
      exact ⟨m, _, this⟩
  · cases hl
theorem one_of {cs : List Value} {o : Nat} {v : Value} (h : (cs.drop o).take 1 = [v]) : cs[o]? = some v := by
  have : ((cs.drop o).take 1)[0]? = some v := by rw [h]; rfl
  rw [List.getElem?_take_of_lt (by omega), List.getElem?_drop, Nat.add_zero] at this; exact this
theorem f_int {ft : TypeId} {k : IntKind} {n o : Nat} {cs : List Value} {y : DataW H × List MemPlace} (hu : Tryz.prog.underlying ft = some (.int k)) (hc : Tryz.prog.cellsOf ft = 1) (h : Tr enc w n ft ((cs.drop o).take (Tryz.prog.cellsOf ft)) y) : ∃ x, cs[o]? = some (.int k x) ∧ (Lit.int k x).wf = true := by
  rw [hc] at h
  obtain ⟨x, h1, _, h3⟩ := DataW.trod_int hu h
  exact ⟨x, one_of h1, h3⟩
theorem f_u64 {ft : TypeId} {n o : Nat} {cs : List Value} {y : DataW H × List MemPlace} (hu : Tryz.prog.underlying ft = some (.int .u64)) (hc : Tryz.prog.cellsOf ft = 1) (h : Tr enc w n ft ((cs.drop o).take (Tryz.prog.cellsOf ft)) y) : ∃ x : Nat, cs[o]? = some (.int .u64 x) ∧ x ≤ maxU := by
  obtain ⟨x, h1, h2⟩ := f_int hu hc h
  have hx : (0 : Int) ≤ x ∧ x ≤ 18446744073709551615 := by
    unfold Lit.wf at h2
    rw [Bool.and_eq_true, decide_eq_true_eq, decide_eq_true_eq] at h2
    exact h2
  obtain ⟨m, rfl⟩ := Int.eq_ofNat_of_zero_le hx.1
  exact ⟨m, h1, by unfold maxU; omega⟩
theorem f_str {ft : TypeId} {n o : Nat} {cs : List Value} {y : DataW H × List MemPlace} (hu : Tryz.prog.underlying ft = some .string) (hc : Tryz.prog.cellsOf ft = 1) (h : Tr enc w n ft ((cs.drop o).take (Tryz.prog.cellsOf ft)) y) : ∃ s, cs[o]? = some (.string s) := by
  rw [hc] at h
  obtain ⟨s, h1, _, _⟩ := DataW.trod_string hu h
  exact ⟨s, one_of h1⟩
theorem f_bool {ft : TypeId} {n o : Nat} {cs : List Value} {y : DataW H × List MemPlace} (hu : Tryz.prog.underlying ft = some .bool) (hc : Tryz.prog.cellsOf ft = 1) (h : Tr enc w n ft ((cs.drop o).take (Tryz.prog.cellsOf ft)) y) : ∃ b, cs[o]? = some (.bool b) := by
  rw [hc] at h
  obtain ⟨b, h1, _⟩ := DataW.trod_bool hu h
  exact ⟨b, one_of h1⟩
theorem f_one {ft : TypeId} {n o : Nat} {cs : List Value} {y : DataW H × List MemPlace} (hc : Tryz.prog.cellsOf ft = 1) (ho : o < cs.length) (h : Tr enc w n ft ((cs.drop o).take (Tryz.prog.cellsOf ft)) y) : ∃ v, cs[o]? = some v ∧ Tr enc w n ft [v] y := by
  rw [hc] at h
  have : (cs.drop o).take 1 = [cs[o]] := by
    rw [List.drop_eq_getElem_cons ho]; rfl
  rw [this] at h
  exact ⟨cs[o], List.getElem?_eq_getElem ho, h⟩

theorem k3 : Tryz.prog.cellsOf 3 = 1 := by kernel_rfl
theorem k4 : Tryz.prog.cellsOf 4 = 1 := by kernel_rfl
theorem k9 : Tryz.prog.cellsOf 9 = 1 := by kernel_rfl
theorem k22 : Tryz.prog.cellsOf 22 = 1 := by kernel_rfl
theorem k24 : Tryz.prog.cellsOf 24 = 7 := by kernel_rfl
theorem k33 : Tryz.prog.cellsOf 33 = 1 := by kernel_rfl
theorem u33 : Tryz.prog.underlying 33 = some (.int .i64) := by kernel_rfl
theorem k42 : Tryz.prog.cellsOf 42 = 7 := by kernel_rfl
theorem k50 : Tryz.prog.cellsOf 50 = 4 := by kernel_rfl
theorem k120 : Tryz.prog.cellsOf 120 = 18 := by kernel_rfl
theorem k150 : Tryz.prog.cellsOf 150 = 3 := by kernel_rfl
theorem k152 : Tryz.prog.cellsOf 152 = 8 := by kernel_rfl
theorem k47 : Tryz.prog.cellsOf 47 = 1 := by kernel_rfl
theorem k48 : Tryz.prog.cellsOf 48 = 1 := by kernel_rfl
theorem kUs : Tryz.prog.cellsOf 40 = 1 := by kernel_rfl
theorem uUs : Tryz.prog.underlying 40 = some (.slice 9) := by kernel_rfl
theorem u47 : Tryz.prog.underlying 47 = some (.slice 150) := by kernel_rfl
theorem u48 : Tryz.prog.underlying 48 = some (.slice 152) := by kernel_rfl
theorem u110 : Tryz.prog.underlying 110 = some (.slice 120) := by kernel_rfl
theorem l42 : fieldsOf Tryz.prog 42 = some [(true, 3, 0), (true, 9, 1), (true, 3, 2), (true, 3, 3), (true, 3, 4), (true, 22, 5), (true, 40, 6)] := by kernel_rfl
theorem l50 : fieldsOf Tryz.prog 50 = some [(true, 33, 0), (true, 47, 1), (true, 48, 2), (true, 4, 3)] := by kernel_rfl
theorem l120 : fieldsOf Tryz.prog 120 = some [(true, 3, 0), (true, 3, 1), (true, 42, 2), (true, 3, 9), (true, 22, 10), (true, 3, 11), (true, 3, 12), (true, 3, 13), (true, 50, 14)] := by kernel_rfl

theorem o_pres {n : Nat} {cs : List Value} {y : DataW H × List MemPlace} (h : Tr enc w n 150 cs y) : ∃ p : Pres, cs = p.cells ∧ True := by
  obtain ⟨hl, hf⟩ := fld_at l150 h
  rw [k150] at hl
  obtain ⟨_, _, t0⟩ := hf 0 _ _ _ rfl; obtain ⟨a, h0, _⟩ := f_int u3 k3 t0
  obtain ⟨_, _, t1⟩ := hf 1 _ _ _ rfl; obtain ⟨b, h1, _⟩ := f_int u3 k3 t1
  obtain ⟨_, _, t2⟩ := hf 2 _ _ _ rfl; obtain ⟨c, h2, _⟩ := f_int u3 k3 t2
  refine ⟨⟨a, b, c⟩, ?_, trivial⟩
  · show cs = [.int .i64 a, .int .i64 b, .int .i64 c]
    apply List.ext_getElem?; intro i
    match i with
    | 0 => exact h0
    | 1 => exact h1
    | 2 => exact h2
    | j + 3 => rw [List.getElem?_eq_none (by omega)]; rfl
theorem sub_get {cs xs : List Value} {o k r : Nat} (h : (cs.drop o).take k = xs) (hr : r < k) : cs[o + r]? = xs[r]? := by rw [← h, List.getElem?_take_of_lt hr, List.getElem?_drop]
theorem o_evt {n : Nat} {cs : List Value} {y : DataW H × List MemPlace} (h : Tr enc w n 152 cs y) : ∃ e : Evt, cs = e.cells ∧ True := by
  obtain ⟨hl, hf⟩ := fld_at l152 h
  rw [k152] at hl
  obtain ⟨_, _, t0⟩ := hf 0 _ _ _ rfl; obtain ⟨a, h0⟩ := f_str u9 k9 t0
  obtain ⟨_, _, t1⟩ := hf 1 _ _ _ rfl; rw [k150] at t1; obtain ⟨p, h1, _⟩ := o_pres t1
  obtain ⟨_, _, t2⟩ := hf 2 _ _ _ rfl; rw [k150] at t2; obtain ⟨q, h2, _⟩ := o_pres t2
  obtain ⟨_, _, t3⟩ := hf 3 _ _ _ rfl; obtain ⟨s, h3, _⟩ := f_u64 u22 k22 t3
  refine ⟨⟨a, p, q, s⟩, ?_, trivial⟩
  · show cs = [.string a, .int .i64 p.st, .int .i64 p.pr, .int .i64 p.live, .int .i64 q.st, .int .i64 q.pr, .int .i64 q.live, .int .u64 s]
    apply List.ext_getElem?; intro i
    match i with
    | 0 => exact h0
    | 1 => exact (by have := sub_get (k := 3) (r := 0) h1 (by decide); exact this)
    | 2 => exact (by have := sub_get (k := 3) (r := 1) h1 (by decide); exact this)
    | 3 => exact (by have := sub_get (k := 3) (r := 2) h1 (by decide); exact this)
    | 4 => exact (by have := sub_get (k := 3) (r := 0) h2 (by decide); exact this)
    | 5 => exact (by have := sub_get (k := 3) (r := 1) h2 (by decide); exact this)
    | 6 => exact (by have := sub_get (k := 3) (r := 2) h2 (by decide); exact this)
    | 7 => exact h3
    | j + 8 => rw [List.getElem?_eq_none (by omega)]; rfl

theorem o_str {n : Nat} {cs : List Value} {y : DataW H × List MemPlace} (h : Tr enc w n 9 cs y) : ∃ s : ByteArray, cs = [.string s] ∧ True := by
  obtain ⟨s, h1, _, _⟩ := DataW.trod_string u9 h
  exact ⟨s, h1, trivial⟩
theorem str_flat : ∀ l : List ByteArray, l.map Value.string = l.flatMap fun s => [Value.string s]
  | [] => rfl
  | a :: l => by rw [List.map_cons, List.flatMap_cons, str_flat l]; rfl
theorem o_users {n : Nat} {v : Value} {y : DataW H × List MemPlace} (h : Tr enc w n 40 [v] y) : ∃ l : List ByteArray, SlI w (fun _ => True) 1 v l.length (l.map Value.string) := by
  obtain ⟨l, h1, _⟩ := open_rows (en := fun s : ByteArray => [Value.string s]) (Q := fun _ => True) uUs k9 (by decide) (fun _ => rfl) (fun _ _ _ h => o_str h) h
  refine ⟨l, ?_⟩
  rw [str_flat]
  exact h1
theorem o_op {n : Nat} {cs : List Value} {y : DataW H × List MemPlace} (h : Tr enc w n 42 cs y) :
    ∃ (x : OpP) (us : Value), cs = [.int .i64 x.kind, .string x.user, .int .i64 x.id, .int .i64 x.st, .int .i64 x.pr, .int .u64 x.ttl, us] ∧ SlI w (fun _ => True) 1 us x.users.length (x.users.map Value.string) ∧ x.ttl ≤ maxU := by
  obtain ⟨hl, hf⟩ := fld_at l42 h
  rw [k42] at hl
  obtain ⟨_, _, t0⟩ := hf 0 _ _ _ rfl; obtain ⟨a0, h0, _⟩ := f_int u3 k3 t0
  obtain ⟨_, _, t1⟩ := hf 1 _ _ _ rfl; obtain ⟨a1, h1⟩ := f_str u9 k9 t1
  obtain ⟨_, _, t2⟩ := hf 2 _ _ _ rfl; obtain ⟨a2, h2, _⟩ := f_int u3 k3 t2
  obtain ⟨_, _, t3⟩ := hf 3 _ _ _ rfl; obtain ⟨a3, h3, _⟩ := f_int u3 k3 t3
  obtain ⟨_, _, t4⟩ := hf 4 _ _ _ rfl; obtain ⟨a4, h4, _⟩ := f_int u3 k3 t4
  obtain ⟨_, _, t5⟩ := hf 5 _ _ _ rfl; obtain ⟨a5, h5, hw⟩ := f_u64 u22 k22 t5
  obtain ⟨_, _, t6⟩ := hf 6 _ _ _ rfl; obtain ⟨us, h6, q6⟩ := f_one kUs (by omega) t6
  obtain ⟨l, hs⟩ := o_users q6
  refine ⟨⟨a0, a1, a2, a3, a4, a5, l⟩, us, ?_, hs, hw⟩
  · show cs = [.int .i64 a0, .string a1, .int .i64 a2, .int .i64 a3, .int .i64 a4, .int .u64 a5, us]
    apply List.ext_getElem?; intro i
    match i with
    | 0 => exact h0
    | 1 => exact h1
    | 2 => exact h2
    | 3 => exact h3
    | 4 => exact h4
    | 5 => exact h5
    | 6 => exact h6
    | j + 7 => rw [List.getElem?_eq_none (by omega)]; rfl
instance : Inhabited Evt := ⟨⟨⟨#[]⟩, default, default, 0⟩⟩
instance : Inhabited RawC := ⟨awR0⟩
theorem o_rep {n : Nat} {cs : List Value} {y : DataW H × List MemPlace} (h : Tr enc w n 50 cs y) :
    ∃ (r : Rep) (sv se : Value), cs = [.int .i64 r.err, sv, se, .bool r.lost] ∧ SlI w (fun _ => True) 3 sv r.vals.length (r.vals.flatMap Pres.cells) ∧ SlI w (fun _ => True) 8 se r.evs.length (r.evs.flatMap Evt.cells) := by
  obtain ⟨hl, hf⟩ := fld_at l50 h
  rw [k50] at hl
  obtain ⟨_, _, t0⟩ := hf 0 _ _ _ rfl; obtain ⟨a0, h0, _⟩ := f_int u33 k33 t0
  obtain ⟨_, _, t1⟩ := hf 1 _ _ _ rfl; obtain ⟨sv, h1, q1⟩ := f_one k47 (by omega) t1
  obtain ⟨_, _, t2⟩ := hf 2 _ _ _ rfl; obtain ⟨se, h2, q2⟩ := f_one k48 (by omega) t2
  obtain ⟨_, _, t3⟩ := hf 3 _ _ _ rfl; obtain ⟨b, h3⟩ := f_bool u4 k4 t3
  obtain ⟨lv, s1, _⟩ := open_rows (en := Pres.cells) (Q := fun _ => True) u47 k150 (by decide) pres_len (fun _ _ _ h => o_pres h) q1
  obtain ⟨le, s2, _⟩ := open_rows (en := Evt.cells) (Q := fun _ => True) u48 k152 (by decide) evt_len (fun _ _ _ h => o_evt h) q2
  refine ⟨⟨a0, lv, le, b⟩, sv, se, ?_, s1, s2⟩
  · show cs = [.int .i64 a0, sv, se, .bool b]
    apply List.ext_getElem?; intro i
    match i with
    | 0 => exact h0
    | 1 => exact h1
    | 2 => exact h2
    | 3 => exact h3
    | j + 4 => rw [List.getElem?_eq_none (by omega)]; rfl

theorem o_call {n : Nat} {cs : List Value} {y : DataW H × List MemPlace} (h : Tr enc w n 120 cs y) : ∃ r : RawC, cs = r.cells ∧ r.in w (fun _ => True) := by
  obtain ⟨hl, hf⟩ := fld_at l120 h
  rw [k120] at hl
  obtain ⟨_, _, t0⟩ := hf 0 _ _ _ rfl; obtain ⟨a0, h0, _⟩ := f_int u3 k3 t0
  obtain ⟨_, _, t1⟩ := hf 1 _ _ _ rfl; obtain ⟨a1, h1, _⟩ := f_int u3 k3 t1
  obtain ⟨_, _, t2⟩ := hf 2 _ _ _ rfl; rw [k42] at t2; obtain ⟨x, us, h2, hus, htt⟩ := o_op t2
  obtain ⟨_, _, t3⟩ := hf 3 _ _ _ rfl; obtain ⟨a3, h3, _⟩ := f_int u3 k3 t3
  obtain ⟨_, _, t4⟩ := hf 4 _ _ _ rfl; obtain ⟨a4, h4, hby⟩ := f_u64 u22 k22 t4
  obtain ⟨_, _, t5⟩ := hf 5 _ _ _ rfl; obtain ⟨a5, h5, _⟩ := f_int u3 k3 t5
  obtain ⟨_, _, t6⟩ := hf 6 _ _ _ rfl; obtain ⟨a6, h6, _⟩ := f_int u3 k3 t6
  obtain ⟨_, _, t7⟩ := hf 7 _ _ _ rfl; obtain ⟨a7, h7, _⟩ := f_int u3 k3 t7
  obtain ⟨_, _, t8⟩ := hf 8 _ _ _ rfl; rw [k50] at t8; obtain ⟨r, sv, se, h8, hsv, hse⟩ := o_rep t8
  refine ⟨⟨⟨a0, a1, x, a3, a4, a5, a6, a7, r⟩, us, sv, se⟩, ?_, ⟨hus, hsv, hse, htt, hby⟩⟩
  · show cs = [.int .i64 a0, .int .i64 a1, .int .i64 x.kind, .string x.user, .int .i64 x.id, .int .i64 x.st, .int .i64 x.pr, .int .u64 x.ttl, us, .int .i64 a3, .int .u64 a4, .int .i64 a5, .int .i64 a6, .int .i64 a7, .int .i64 r.err, sv, se, .bool r.lost]
    apply List.ext_getElem?; intro i
    match i with
    | 0 => exact h0
    | 1 => exact h1
    | 2 => exact (by have := sub_get (k := 7) (r := 0) h2 (by decide); exact this)
    | 3 => exact (by have := sub_get (k := 7) (r := 1) h2 (by decide); exact this)
    | 4 => exact (by have := sub_get (k := 7) (r := 2) h2 (by decide); exact this)
    | 5 => exact (by have := sub_get (k := 7) (r := 3) h2 (by decide); exact this)
    | 6 => exact (by have := sub_get (k := 7) (r := 4) h2 (by decide); exact this)
    | 7 => exact (by have := sub_get (k := 7) (r := 5) h2 (by decide); exact this)
    | 8 => exact (by have := sub_get (k := 7) (r := 6) h2 (by decide); exact this)
    | 9 => exact h3
    | 10 => exact h4
    | 11 => exact h5
    | 12 => exact h6
    | 13 => exact h7
    | 14 => exact (by have := sub_get (k := 4) (r := 0) h8 (by decide); exact this)
    | 15 => exact (by have := sub_get (k := 4) (r := 1) h8 (by decide); exact this)
    | 16 => exact (by have := sub_get (k := 4) (r := 2) h8 (by decide); exact this)
    | 17 => exact (by have := sub_get (k := 4) (r := 3) h8 (by decide); exact this)
    | j + 18 => rw [List.getElem?_eq_none (by omega)]; rfl
theorem o_calls {n : Nat} {v : Value} {y : DataW H × List MemPlace} (h : Tr enc w n 110 [v] y) : ∃ raws : List RawC, CallsM w (fun _ => True) v raws := by
  obtain ⟨l, h1, h2⟩ := open_rows (en := RawC.cells) (Q := fun r => r.in w (fun _ => True)) u110 k120 (by decide) raw_len (fun _ _ _ h => o_call h) h
  exact ⟨l, h1, h2⟩
theorem o_cfg {n : Nat} {cs : List Value} {y : DataW H × List MemPlace} (h : Tr enc w n 24 cs y) : ∃ c : Cfg, cs = c.cells ∧ c.start ≤ maxU := by
  obtain ⟨hl, hf⟩ := fld_at l24 h
  rw [k24] at hl
  obtain ⟨_, _, t0⟩ := hf 0 _ _ _ rfl; obtain ⟨a0, h0, _⟩ := f_int u3 k3 t0
  obtain ⟨_, _, t1⟩ := hf 1 _ _ _ rfl; obtain ⟨a1, h1, _⟩ := f_int u3 k3 t1
  obtain ⟨_, _, t2⟩ := hf 2 _ _ _ rfl; obtain ⟨a2, h2, _⟩ := f_int u3 k3 t2
  obtain ⟨_, _, t3⟩ := hf 3 _ _ _ rfl; obtain ⟨a3, h3, _⟩ := f_int u3 k3 t3
  obtain ⟨_, _, t4⟩ := hf 4 _ _ _ rfl; obtain ⟨a4, h4, _⟩ := f_int u3 k3 t4
  obtain ⟨_, _, t5⟩ := hf 5 _ _ _ rfl; obtain ⟨a5, h5, _⟩ := f_u64 u22 k22 t5
  obtain ⟨_, _, t6⟩ := hf 6 _ _ _ rfl; obtain ⟨a6, h6, hw⟩ := f_u64 u22 k22 t6
  refine ⟨⟨a0, a1, a2, a3, a4, a5, a6⟩, ?_, hw⟩
  · show cs = [.int .i64 a0, .int .i64 a1, .int .i64 a2, .int .i64 a3, .int .i64 a4, .int .u64 a5, .int .u64 a6]
    apply List.ext_getElem?; intro i
    match i with
    | 0 => exact h0
    | 1 => exact h1
    | 2 => exact h2
    | 3 => exact h3
    | 4 => exact h4
    | 5 => exact h5
    | 6 => exact h6
    | j + 7 => rw [List.getElem?_eq_none (by omega)]; rfl
end Go.Dm
