/- A part of the proof that doormanlaw21.LinOpen returns true for every input, on no condition. -/
import Derived.Test.YtbfajkpjilhkgaaGreatFw4
set_option linter.unusedVariables false
set_option linter.unusedSimpArgs false
/-! Memory: blocks of cells; loading, storing, making. -/
namespace Go.Dm
open Go

/-- Does a value lie in one cell? -/
def one1 : Value → Bool | .agg _ => false | .tuple _ => false | _ => true

/-- A block's cells. -/
def blk (w : World) (b : Nat) : Option (List Value) := match w.heap[b]? with | some (.cells c _ _) => some c.toList | _ => none
/-- A block's cells, if none of it is frozen. -/
def own (w : World) (b : Nat) : Option (List Value) := match w.heap[b]? with | some (.cells c _ (0, 0)) => some c.toList | _ => none

theorem own_blk {w : World} {b : Nat} {cs : List Value} (h : own w b = some cs) : blk w b = some cs := by
  unfold own at h; unfold blk
  split at h
  · rename_i hh; rw [hh]; exact h
  · cases h

def recell (cs : List Value) : Obj → Obj | .cells _ t f => .cells cs.toArray t f | o => o
/-- A block's cells become others. -/
def putB (w : World) (b : Nat) (cs : List Value) : World :=
  { w with heap := w.heap.modify b (recell cs) }
/-- A new block. -/
def newB (w : World) (cs : List Value) (t : TypeId) : World := { w with heap := w.heap.push (.cells cs.toArray t) }


/-- What a load yields. -/
def Ld (w : World) (agg : Bool) (size : Nat) (a v : Value) : Prop :=
  ∃ b o cs, a = .pointer (some ⟨b, o, none⟩) ∧ blk w b = some cs ∧
    match agg with
    | true => o + size ≤ cs.length ∧ v = .agg ((cs.drop o).take size).toArray
    | false => cs[o]? = some v
def ldC (w : World) (agg : Bool) (size : Nat) (a : Value) (K : Value → Prop) : Prop := ∃ v, Ld w agg size a v ∧ K v

def stC (w : World) (size : Nat) (a v : Value) (K : World → Prop) : Prop :=
  ∃ b o cs, a = .pointer (some ⟨b, o, none⟩) ∧ own w b = some cs ∧ o + size ≤ cs.length ∧ v.cells.size = size ∧ v.cells.toList.all one1 = true ∧
    K (putB w b (splice cs o v.cells.toList))

def alC (w : World) (cs : List Value) (t : TypeId) (K : Value → World → Prop) : Prop := K (.pointer (some ⟨w.heap.size, 0, none⟩)) (newB w cs t)

section
variable {P : Program}

theorem cell_blk {w : World} {b : Nat} {cs : List Value} (h : blk w b = some cs) (o : Nat) : w.cell? ⟨b, o, none⟩ = cs[o]? := by
  unfold blk at h
  unfold World.cell?
  split at h
  · rename_i hh
    simp only [Option.some.injEq] at h; subst h
    simp [hh]
  · cases h

theorem add_eq (b o n : Nat) : (⟨b, o, none⟩ : Addr).add n = ⟨b, o + n, none⟩ := by
  unfold Addr.add
  split
  · rename_i h; subst h; rfl
  · rfl

theorem loadFrom_run {w : World} {b : Nat} {cs : List Value} (h : blk w b = some cs) (o : Nat) : ∀ (n i : Nat) (acc : Array Value), o + i + n ≤ cs.length →
    (loadCellsFrom ⟨b, o, none⟩ i n acc).run P w = .ok (acc ++ ((cs.drop (o + i)).take n).toArray) w
  | 0, i, acc, _ => by simp [loadCellsFrom, Sem.run, pure]
  | n + 1, i, acc, hl => by
    unfold loadCellsFrom
    show (Sem.bind (load _) _).run P w = _
    have hc : w.cell? ⟨b, o + i, none⟩ = some (cs[o + i]'(by omega)) := by rw [cell_blk h]; simp
    simp only [load, Sem.bind, Sem.run, add_eq, hc]
    rw [loadFrom_run h o n (i + 1) _ (by omega)]
    congr 1
    have : (cs.drop (o + i)).take (n + 1) = cs[o + i]'(by omega) :: (cs.drop (o + (i + 1))).take n := by
      rw [List.drop_eq_getElem_cons (by omega), List.take_succ_cons]; rfl
    rw [this]
    apply Array.ext'
    simp

theorem run_bind_ok {α β : Type} {s : Sem α} {f : α → Sem β} {w w' : World} {a : α} (h : s.run P w = .ok a w') : (s >>= f).run P w = (f a).run P w' := by
  show (Sem.bind s f).run P w = _
  induction s generalizing w with
  | pure b => simp only [Sem.run, Result.ok.injEq] at h; obtain ⟨rfl, rfl⟩ := h; rfl
  | load m a k ih =>
    simp only [Sem.bind, Sem.run] at h ⊢
    split at h
    · exact ih _ h
    · split at h
      · exact ih _ h
      · cases h
  | store m a v k ih =>
    cases v <;> simp only [Sem.bind, Sem.run] at h ⊢ <;> try (cases h; done)
    all_goals
      split at h
      · split at h
        · cases h
        · rename_i hf; rw [if_neg hf]; exact ih h
      · split at h
        · exact ih h
        · cases h
  | new o k ih => exact ih _ h
  | shape r k ih => exact ih _ h
  | freeze a n k ih => exact ih h
  | frozen a k ih => exact ih _ h
  | getObj r k ih =>
    simp only [Sem.bind, Sem.run] at h ⊢
    split at h
    · cases h
    · exact ih _ h
    · cases h
  | setObj r o k ih =>
    simp only [Sem.bind, Sem.run] at h ⊢
    split at h
    · cases h
    · exact ih h
    · cases h
  | choose q k ih =>
    simp only [Sem.bind, Sem.run] at h ⊢
    split at h
    · rename_i hq; rw [if_pos hq]; exact ih _ h
    · rename_i hq; rw [if_neg hq]; exact ih _ h
  | sys c k ih => exact ih _ h
  | program k ih => exact ih _ h
  | mark m k ih => exact ih h
  | halt h' => cases h

theorem run_bind_val {α β : Type} {s : Sem α} {f : α → Sem β} {w : World} {a : α} (h : valS P s = some a) : (s >>= f).run P w = (f a).run P w :=
  run_bind_ok (valS_run h w)

theorem loadVar_run {w : World} {t : TypeId} {g : Bool} {n : Nat} {a : Addr} {v : Value} (hg : aggP P t = some g) (hn : sizeP P t = some n)
    (h : Ld w g n (.pointer (some a)) v) : (loadVar t a).run P w = .ok v w := by
  obtain ⟨b, o, cs, ha, hb, hv⟩ := h
  simp only [Value.pointer.injEq, Option.some.injEq] at ha; subst ha
  unfold loadVar
  rw [run_bind_val (valS_isAgg hg)]
  cases g with
  | true =>
    obtain ⟨hl, rfl⟩ := hv
    simp only [if_true]
    rw [run_bind_val (valS_sizeOf hn)]
    have := loadFrom_run (P := P) hb o n 0 #[] (by omega)
    rw [run_bind_ok (show (loadCells ⟨b, o, none⟩ n).run P w = _ from this)]
    simp [Sem.run, pure]
  | false =>
    simp only [Bool.false_eq_true, if_false]
    have hc : w.cell? ⟨b, o, none⟩ = some v := by rw [cell_blk hb]; exact hv
    simp [load, Sem.run, hc]

theorem world_ext {v w : World} (h : ∀ i : Nat, v.heap[i]? = w.heap[i]?) (h1 : v.tape = w.tape) (h2 : v.drawn = w.drawn) (h3 : v.os = w.os) (h4 : v.output = w.output) : v = w := by
  cases v; cases w
  simp only at h h1 h2 h3 h4
  simp only [World.mk.injEq]
  exact ⟨Array.ext_getElem? h, h1, h2, h3, h4⟩

theorem recell_recell (cs ds : List Value) (o : Obj) : recell ds (recell cs o) = recell ds o := by cases o <;> rfl

theorem putB_put (w : World) (b : Nat) (cs ds : List Value) : putB (putB w b cs) b ds = putB w b ds := by
  refine world_ext (fun i => ?_) rfl rfl rfl rfl
  simp only [putB, Array.getElem?_modify]
  split
  · cases w.heap[i]? <;> simp [recell_recell]
  · rfl

theorem setCell_put {w : World} {b o : Nat} {cs : List Value} (h : blk w b = some cs) (v : Value) : w.setCell ⟨b, o, none⟩ v = putB w b (cs.set o v) := by
  unfold blk at h
  refine world_ext (fun i => ?_) rfl rfl rfl rfl
  simp only [putB, World.setCell, Array.getElem?_modify]
  split
  · rename_i hb; subst hb
    split at h
    · rename_i hh
      simp only [Option.some.injEq] at h; subst h
      simp only [hh, Option.map_some, recell, Option.isSome_none, Bool.false_eq_true, if_false]
      congr 2
      apply Array.ext'; simp
    · cases h
  · rfl

theorem heap_putB {w : World} {b i : Nat} {cs : List Value} (h : i ≠ b) : (putB w b cs).heap[i]? = w.heap[i]? := by
  unfold putB
  simp only [Array.getElem?_modify]
  rw [if_neg (by omega)]

theorem own_putB {w : World} {b : Nat} {cs ds : List Value} (h : own w b = some cs) : own (putB w b ds) b = some ds := by
  unfold own at h ⊢
  unfold putB
  simp only [Array.getElem?_modify, if_true]
  split at h
  · rename_i hh; rw [hh]; simp [recell]
  · cases h

theorem own_putB_ne {w : World} {b c : Nat} {ds : List Value} (h : c ≠ b) : own (putB w b ds) c = own w c := by
  unfold own; rw [heap_putB h]
theorem blk_putB_ne {w : World} {b c : Nat} {ds : List Value} (h : c ≠ b) : blk (putB w b ds) c = blk w c := by
  unfold blk; rw [heap_putB h]

theorem frozen_own {w : World} {b : Nat} {cs : List Value} (h : own w b = some cs) (o : Nat) : w.frozen? ⟨b, o, none⟩ = false := by
  unfold own at h; unfold World.frozen?
  split at h
  · rename_i hh; simp [hh]
  · cases h

theorem putB_self {w : World} {b : Nat} {cs : List Value} (h : own w b = some cs) : putB w b cs = w := by
  unfold own at h
  refine world_ext (fun i => ?_) rfl rfl rfl rfl
  simp only [putB, Array.getElem?_modify]
  split
  · rename_i hb; subst hb
    split at h
    · rename_i hh
      simp only [Option.some.injEq] at h; subst h
      simp [hh, recell]
    · cases h
  · rfl

theorem storeCells_run {b : Nat} : ∀ (vs : List Value) (w : World) (cs : List Value) (o i : Nat), own w b = some cs → o + i + vs.length ≤ cs.length → vs.all one1 = true →
    (storeCells ⟨b, o, none⟩ vs i).run P w = .ok () (putB w b (splice cs (o + i) vs))
  | [], w, cs, o, i, h, _, _ => by rw [splice_nil, putB_self h]; rfl
  | v :: vs, w, cs, o, i, h, hl, hv => by
    simp only [List.length_cons] at hl
    simp only [List.all_cons, Bool.and_eq_true] at hv
    unfold storeCells
    have hc : w.cell? ⟨b, o + i, none⟩ = some (cs[o + i]'(by omega)) := by rw [cell_blk (own_blk h)]; simp
    have h1 : (store (Addr.add ⟨b, o, none⟩ i) v).run P w = .ok () (putB w b (cs.set (o + i) v)) := by
      rw [add_eq]
      have hone := hv.1
      cases v <;> simp only [one1, Bool.false_eq_true] at hone <;>
        simp [store, Sem.run, hc, frozen_own h, setCell_put (own_blk h), pure]
    rw [run_bind_ok h1]
    have h2 := own_putB (ds := cs.set (o + i) v) h
    rw [storeCells_run vs _ _ o (i + 1) h2 (by simp; omega) hv.2, putB_put, show o + (i + 1) = o + i + 1 by omega, splice_cons _ _ _ _ (by omega)]

theorem storeVar_run {w : World} {t : TypeId} {n b o : Nat} {cs : List Value} {v : Value} (hn : sizeP P t = some n) (h : own w b = some cs) (hl : o + n ≤ cs.length)
    (hs : v.cells.size = n) (hv : v.cells.toList.all one1 = true) : (storeVar t ⟨b, o, none⟩ v).run P w = .ok () (putB w b (splice cs o v.cells.toList)) := by
  unfold storeVar
  rw [run_bind_val (valS_sizeOf hn)]
  simp only [hs, ne_eq, not_true_eq_false, if_false]
  have := storeCells_run (P := P) v.cells.toList w cs o 0 h (by simp [hs]; omega) hv
  simpa using this

theorem newB_run {w : World} {t : TypeId} {cs : Array Value} : (newRow t cs).run P w = .ok ⟨w.heap.size, 0, none⟩ (newB w cs.toList t) := by
  unfold newRow newB
  simp [newObj, bind, Sem.bind, Sem.run, pure]

end
end Go.Dm
