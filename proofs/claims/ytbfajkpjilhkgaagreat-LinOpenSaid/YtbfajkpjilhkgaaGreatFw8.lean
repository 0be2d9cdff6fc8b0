/- A part of the proof that doormanlaw21.LinOpen returns true for every input, on no condition. -/
import Derived.Test.YtbfajkpjilhkgaaGreatFw7
set_option linter.unusedVariables false
set_option linter.unusedSimpArgs false
/-! A region that draws its order: one order serves all. -/
namespace Go.Dm
open Go

section
variable {P : Program} {K : Value → World → Prop}

theorem Gives.mono {K' : Value → World → Prop} {r : Result Next} (h : Gives P K r) (hk : ∀ v w, K v w → K' v w) : Gives P K' r := by
  unfold Gives at h ⊢
  split at h
  · exact hk _ _ h
  · exact hk _ _ h
  · exact h.imp hk
  · exact h.mono fun e w' ⟨v, he, hv⟩ => ⟨v, he, hk _ _ hv⟩
  · exact h.elim

theorem Gives.ex {r : Result Next} (h : Gives P K r) : ∃ v w, K v w := by
  unfold Gives at h
  split at h
  · exact ⟨_, _, h⟩
  · exact ⟨_, _, h⟩
  · exact h.ex
  · obtain ⟨e, w', ⟨v, _, hv⟩, _⟩ := h.2 default [] (room_wide _); exact ⟨v, w', hv⟩
  · exact h.elim

/-- The fence round everything, of a round of a range over a function or of none. -/
def Wd (r : Option Nat) : Fence := { Fence.wide with round := r }

theorem Gives.upon {ro : Option Nat} {o : Oper} {a : Act} {Q : Exit → Act → World → Prop} {N : Act → World → Prop} {r : Result Next} (h : Gives P (fun v w => N (a.put o.dst v) w) r) : o.uponIn (Wd ro) 0 P a N Q r := by
  unfold Gives at h
  unfold Oper.uponIn
  split at h
  · exact h
  · exact h
  · rename_i f args w'
    refine ⟨(by simp [Wd, Fence.wide]), trivial, fun cs _ => ?_⟩
    obtain ⟨e, w'', fr, ⟨v, he, hv⟩, hc, rest⟩ := h cs
    exact ⟨e, w'', fr, by subst he; exact hv, comesIn_wide.2 hc, rest⟩
  · refine ⟨(by simp [Wd, Fence.wide]), ?_⟩
    have := RoundIn.mono h (R' := fun
      | .returned v, w'' => N (a.put o.dst v) w''
      | .panicked chain, w'' => Q (.panic chain) a w''
      | .outgrown, _ => LetsOut Q) (fun e w' ⟨v, he, hv⟩ => by subst he; exact hv)
    exact this
  · exact h.elim
end

def isLoad : Op → Bool | .load .. => true | _ => false

/-- One operation of a region, as far as it returns. -/
def stp (P : Program) (ops : Array Oper) (i : Nat) (K : Act → World → Prop) (a : Act) (w : World) : Prop :=
  match ops[i]? with
  | none => False
  | some o =>
    if Region.wanted o (yielded ops a.tmps) = true then
      (if isPure P o.op = true then ∃ v, valS P (execOp a.eval o) = some (.value v) ∧ K (a.put o.dst v) w
       else if isLoad o.op = true then ∃ v, (execOp a.eval o).run P w = .ok (.value v) w ∧ K (a.put o.dst v) w
       else Gives P (fun v w' => K (a.put o.dst v) w') ((execOp a.eval o).run P w))
    else K (a.put o.dst undef) w

/-- A load that was done still yields what it did. -/
def Still (P : Program) (ops : Array Oper) (r : Nat) (a : Act) (w : World) : Prop :=
  match ops[r]? with
  | some o => Region.wanted o (yielded ops a.tmps) = true → ∀ d, o.dst = some d → (execOp a.eval o).run P w = .ok (.value (a.tmps.getD d undef)) w
  | none => True

section
variable {P : Program} {ops : Array Oper}

theorem stp_mono {i : Nat} {K K' : Act → World → Prop} {a : Act} {w : World} (hk : ∀ a w, K a w → K' a w) (h : stp P ops i K a w) : stp P ops i K' a w := by
  unfold stp at h ⊢
  split at h
  · exact h.elim
  · split at h
    · rename_i hw; rw [if_pos hw]
      split at h
      · rename_i hp; rw [if_pos hp]; obtain ⟨v, h1, h2⟩ := h; exact ⟨v, h1, hk _ _ h2⟩
      · rename_i hp; rw [if_neg hp]
        split at h
        · rename_i hl; rw [if_pos hl]; obtain ⟨v, h1, h2⟩ := h; exact ⟨v, h1, hk _ _ h2⟩
        · rename_i hl; rw [if_neg hl]; exact h.mono fun _ _ => hk _ _
    · rename_i hw; rw [if_neg hw]; exact hk _ _ h

theorem semAt_of {ro : Option Nat} {ρ : Operand → Value} {o : Oper} (h : ∀ c, o.op ≠ .defer c) : o.semAt (Wd ro).round ρ = execOp ρ o := Oper.semAt_eq _ _ _ h
theorem notDefer {ρ : Operand → Value} {o : Oper} {w : World} {K : Value → World → Prop} (h : Gives P K ((execOp ρ o).run P w)) : ∀ c, o.op ≠ .defer c := by
  intro c hc
  unfold execOp at h
  simp only [hc] at h
  generalize hd : (resolve ρ c o.type) = s at h
  cases hs : s.run P w with
  | ok d w' => rw [run_bind_ok hs] at h; exact h
  | halt x w' => rw [Sem.run_bind, hs] at h; exact h
theorem isPure_notDefer {o : Oper} (h : isPure P o.op = true) : ∀ c, o.op ≠ .defer c := by
  intro c hc; rw [hc] at h; cases h
theorem isLoad_notDefer {o : Oper} (h : isLoad o.op = true) : ∀ c, o.op ≠ .defer c := by
  intro c hc; rw [hc] at h; cases h
theorem stp_wpOp {ro : Option Nat} {i : Nat} {K : Act → World → Prop} {Q : Exit → Act → World → Prop} {a : Act} {w : World} (h : stp P ops i K a w) : wpOpIn (Wd ro) 0 P ops Q i K a w := by
  unfold stp at h
  unfold wpOpIn
  split at h
  · exact h.elim
  · rename_i o ho
    rw [ho]
    simp only
    split at h
    · rename_i hw; rw [if_pos hw]
      refine ⟨fun _ _ => trivial, ?_⟩
      split at h
      · rename_i hp; obtain ⟨v, h1, h2⟩ := h; rw [semAt_of (isPure_notDefer hp), valS_run h1 w]; exact h2
      · split at h
        · rename_i hl; obtain ⟨v, h1, h2⟩ := h; rw [semAt_of (isLoad_notDefer hl), h1]; exact h2
        · rw [semAt_of (notDefer h)]; exact h.upon
    · rename_i hw; rw [if_neg hw]; exact ⟨fun _ _ => trivial, h⟩

/-- What a step knows of another one's temporary. -/
theorem stp_put {j : Nat} {oj : Oper} (hj : ops[j]? = some oj) (hsj : ∀ cs b, oj.op ≠ .select cs b) {d : Option Tmp} {v : Value} (h1 : ∀ x, d = some x → x ∉ oj.looksAt ops) (h2 : ∀ x, d = some x → oj.dst ≠ some x)
    {K : Act → World → Prop} {a : Act} {w : World} : stp P ops j K (a.put d v) w ↔ stp P ops j (fun a' w' => K (a'.put d v) w') a w := by
  have hc : ∀ u, (a.put d v).put oj.dst u = (a.put oj.dst u).put d v := fun u => Act.put_comm a v u h2
  unfold stp
  simp only [hj, wanted_put oj a d v h1, execOp_put (ops := ops) oj hsj a d v h1, hc]

theorem getD_put_ne {a : Act} {d : Option Tmp} {v : Value} {t : Tmp} (h : d ≠ some t) : (a.put d v).tmps.getD t undef = a.tmps.getD t undef := by
  cases d with
  | none => rfl
  | some d =>
    have : d ≠ t := fun e => h (by rw [e])
    simp only [Act.put, Array.getD_eq_getD_getElem?, Array.getElem?_setIfInBounds_ne this]

theorem getD_put_self {a : Act} {d : Tmp} {v : Value} (h : d < a.tmps.size) : (a.put (some d) v).tmps.getD d undef = v := by
  simp [Act.put, Array.getD_eq_getD_getElem?, h]

theorem still_put {r : Nat} {o : Oper} (hr : ops[r]? = some o) (hso : ∀ cs b, o.op ≠ .select cs b) {d : Option Tmp} {v : Value} (h1 : ∀ x, d = some x → x ∉ o.looksAt ops) (h2 : ∀ x, d = some x → o.dst ≠ some x)
    {a : Act} {w : World} : Still P ops r (a.put d v) w ↔ Still P ops r a w := by
  unfold Still
  simp only [hr, wanted_put o a d v h1, execOp_put (ops := ops) o hso a d v h1]
  constructor
  · intro h hw t ht
    have := h hw t ht
    rwa [getD_put_ne (fun e => h2 t e ht)] at this
  · intro h hw t ht
    rw [getD_put_ne (fun e => h2 t e ht)]
    exact h hw t ht

theorem stp_mono' {i : Nat} {o : Oper} (hi : ops[i]? = some o) {K K' : Act → World → Prop} {a : Act} {w : World} (hk : ∀ u w', K (a.put o.dst u) w' → K' (a.put o.dst u) w')
    (h : stp P ops i K a w) : stp P ops i K' a w := by
  unfold stp at h ⊢
  simp only [hi] at h ⊢
  split at h
  · rename_i hw; rw [if_pos hw]
    split at h
    · rename_i hp; rw [if_pos hp]; obtain ⟨v, h1, h2⟩ := h; exact ⟨v, h1, hk _ _ h2⟩
    · rename_i hp; rw [if_neg hp]
      split at h
      · rename_i hl; rw [if_pos hl]; obtain ⟨v, h1, h2⟩ := h; exact ⟨v, h1, hk _ _ h2⟩
      · rename_i hl; rw [if_neg hl]; exact h.mono fun _ _ => hk _ _
  · rename_i hw; rw [if_neg hw]; exact hk _ _ h

theorem stp_pure {i : Nat} {o : Oper} (hi : ops[i]? = some o) (hp : isPure P o.op = true) {K : Act → World → Prop} {a : Act} {w : World} (h : stp P ops i K a w) :
    ∃ v, ∀ (K' : Act → World → Prop) (w' : World), stp P ops i K' a w' ↔ K' (a.put o.dst v) w' := by
  unfold stp at h
  simp only [hi, hp, if_true] at h
  split at h
  · rename_i hw
    obtain ⟨v, h1, h2⟩ := h
    refine ⟨v, fun K' w' => ?_⟩
    unfold stp; simp only [hi, hp, if_true, hw]
    constructor
    · rintro ⟨v', h3, h4⟩
      rw [h1] at h3; cases h3; exact h4
    · exact fun hk => ⟨v, h1, hk⟩
  · rename_i hw
    refine ⟨undef, fun K' w' => ?_⟩
    unfold stp; simp only [hi]; rw [if_neg hw]

theorem stp_ex {i : Nat} {o : Oper} (hi : ops[i]? = some o) {K : Act → World → Prop} {a : Act} {w : World} (h : stp P ops i K a w) : ∃ v w', K (a.put o.dst v) w' := by
  unfold stp at h
  simp only [hi] at h
  split at h
  · split at h
    · obtain ⟨v, _, h⟩ := h; exact ⟨v, w, h⟩
    · split at h
      · obtain ⟨v, _, h⟩ := h; exact ⟨v, w, h⟩
      · exact h.ex
  · exact ⟨_, _, h⟩

/-- A load: one value, in this world. -/
theorem stp_load {i : Nat} {o : Oper} (hi : ops[i]? = some o) (hl : isLoad o.op = true) {K : Act → World → Prop} {a : Act} {w : World} (h : stp P ops i K a w) :
    ∃ v, K (a.put o.dst v) w ∧ (∀ (K' : Act → World → Prop), K' (a.put o.dst v) w → stp P ops i K' a w) ∧
      (∀ (K' : Act → World → Prop) (w' : World), (Region.wanted o (yielded ops a.tmps) = true → (execOp a.eval o).run P w' = .ok (.value v) w') → K' (a.put o.dst v) w' → stp P ops i K' a w') := by
  have hp : isPure P o.op = false := by cases ho : o.op <;> simp_all [isLoad, isPure]
  unfold stp at h
  simp only [hi] at h
  split at h
  · rename_i hw
    simp only [hp, Bool.false_eq_true, if_false, hl, if_true] at h
    obtain ⟨v, h1, h2⟩ := h
    refine ⟨v, h2, fun K' hk => ?_, fun K' w' hr hk => ?_⟩
    · unfold stp; simp only [hi]; rw [if_pos hw, if_neg (by simp [hp]), if_pos hl]; exact ⟨v, h1, hk⟩
    · unfold stp; simp only [hi]; rw [if_pos hw, if_neg (by simp [hp]), if_pos hl]; exact ⟨v, hr hw, hk⟩
  · rename_i hw
    refine ⟨undef, h, fun K' hk => ?_, fun K' w' _ hk => ?_⟩
    · unfold stp; simp only [hi]; rw [if_neg hw]; exact hk
    · unfold stp; simp only [hi]; rw [if_neg hw]; exact hk

/-! ### One order serves all -/

def maskAt (masks : List Nat) (i : Nat) : Nat := masks.getD i 0

/-- Must i wait for r (directly or through others)? -/
def waitsB (masks : List Nat) (i r : Nat) : Bool := Nat.testBit (maskAt masks i) r

/-- Whose load must be seen to last when i is done? -/
def pendB (P : Program) (ops : Array Oper) (masks : List Nat) (r i : Nat) : Bool :=
  match ops[r]?, ops[i]? with
  | some x, some y => isLoad x.op && !isLoad y.op && !isPure P y.op && !waitsB masks i r
  | _, _ => false

def SS (P : Program) (ops : Array Oper) (masks : List Nat) : List Nat → List Nat → (Act → World → Prop) → Act → World → Prop
  | [], _, K => K
  | i :: l, E, K => stp P ops i fun a' w' => (∀ r ∈ E, pendB P ops masks r i = true → Still P ops r a' w') ∧ SS P ops masks l (i :: E) K a' w'

theorem SS_mono {masks : List Nat} {K K' : Act → World → Prop} (hk : ∀ a w, K a w → K' a w) : ∀ (l E : List Nat) (a : Act) (w : World), SS P ops masks l E K a w → SS P ops masks l E K' a w
  | [], _, _, _, h => hk _ _ h
  | _ :: l, _, _, _, h => stp_mono (fun a w ⟨h1, h2⟩ => ⟨h1, SS_mono hk l _ a w h2⟩) h

theorem SS_congr {masks : List Nat} {K : Act → World → Prop} : ∀ (l E E' : List Nat) (a : Act) (w : World), (∀ r, r ∈ E' → r ∈ E) → SS P ops masks l E K a w → SS P ops masks l E' K a w
  | [], _, _, _, _, _, h => h
  | i :: l, E, E', _, _, he, h => stp_mono (fun a w ⟨h1, h2⟩ => ⟨fun r hr => h1 r (he r hr), SS_congr l _ _ a w (fun r hr => by
      rcases List.mem_cons.1 hr with rfl | hr
      · exact List.mem_cons_self
      · exact List.mem_cons_of_mem _ (he r hr)) h2⟩) h

/-- Writing x's temporary leaves what r looks at alone. -/
def keepsB (ops : Array Oper) (x r : Nat) : Bool :=
  match ops[x]?, ops[r]? with
  | some ox, some or => (match ox.dst with | some d => !(or.looksAt ops).contains d && or.dst != some d | none => true)
  | _, _ => true

def okPair (P : Program) (ops : Array Oper) (x i : Nat) : Bool :=
  match ops[x]?, ops[i]? with
  | some ox, some oi => ox.apart ops oi && oi.dst != ox.dst.map id && (isPure P ox.op || isPure P oi.op || isLoad ox.op)
  | _, _ => false

theorem keepsB_spec {x r : Nat} {ox or : Oper} (hx : ops[x]? = some ox) (hr : ops[r]? = some or) (h : keepsB ops x r = true) :
    (∀ d, ox.dst = some d → d ∉ or.looksAt ops) ∧ (∀ d, ox.dst = some d → or.dst ≠ some d) := by
  unfold keepsB at h
  simp only [hx, hr] at h
  cases hd : ox.dst with
  | none => simp
  | some d =>
    rw [hd] at h
    simp only [Bool.and_eq_true, Bool.not_eq_true', bne_iff_ne, ne_eq] at h
    refine ⟨fun t ht => ?_, fun t ht => ?_⟩
    · cases ht; intro hm; have := h.1; rw [List.contains_iff_mem.2 hm] at this; cases this
    · cases ht; exact h.2

/-- What stands around a step of moving. -/
structure Around (P : Program) (ops : Array Oper) (masks : List Nat) (n : Nat) : Prop where
  sel : ∀ (j : Nat) (o : Oper) cs b, ops[j]? = some o → o.op ≠ .select cs b
  keeps : ∀ (r x : Nat) (or : Oper), ops[r]? = some or → isLoad or.op = true → x ≠ r → waitsB masks r x = false → keepsB ops x r = true
  self : ∀ (r : Nat) (or : Oper), ops[r]? = some or → isLoad or.op = true → ∃ d, or.dst = some d ∧ d < n ∧ d ∉ or.looksAt ops

theorem put_size (a : Act) (d : Option Tmp) (v : Value) : (a.put d v).tmps.size = a.tmps.size := by cases d <;> simp [Act.put]

theorem isLoad_notPure {op : Op} (h : isLoad op = true) : isPure P op = false := by cases op <;> simp_all [isLoad, isPure]

/-- An operation that may come now may be taken ahead of another one that stood ahead of it. -/
theorem swap {masks : List Nat} {n : Nat} (A : Around P ops masks n) {x i : Nat} {ox oi : Oper} (hx : ops[x]? = some ox) (hi : ops[i]? = some oi)
    (hap : ox.apart ops oi = true) (hk : isPure P ox.op = true ∨ isPure P oi.op = true ∨ isLoad ox.op = true) (hw : waitsB masks i x = false) {E : List Nat}
    (hE : ∀ r ∈ E, waitsB masks r x = false ∧ waitsB masks r i = false) (hxE : x ∉ E) (hiE : i ∉ E)
    {K : Act → World → Prop} {a : Act} {w : World} (hsz : a.tmps.size = n)
    (h : stp P ops x (fun a1 w1 => (∀ r ∈ E, pendB P ops masks r x = true → Still P ops r a1 w1) ∧
      stp P ops i (fun a2 w2 => (∀ r ∈ x :: E, pendB P ops masks r i = true → Still P ops r a2 w2) ∧ K a2 w2) a1 w1) a w) :
    stp P ops i (fun a1 w1 => (∀ r ∈ E, pendB P ops masks r i = true → Still P ops r a1 w1) ∧
      stp P ops x (fun a2 w2 => (∀ r ∈ i :: E, pendB P ops masks r x = true → Still P ops r a2 w2) ∧ K a2 w2) a1 w1) a w := by
  obtain ⟨hap1, hap2, hap3⟩ := Oper.apart_spec hap
  have sx := fun cs b => A.sel x ox cs b hx
  have si := fun cs b => A.sel i oi cs b hi
  have hdn : ∀ d, oi.dst = some d → ox.dst ≠ some d := fun d h1 h2 => hap2 d h2 h1
  have comm : ∀ u v, (a.put ox.dst u).put oi.dst v = (a.put oi.dst v).put ox.dst u := fun u v => Act.put_comm a u v hap2
  have keepx : ∀ r ∈ E, ∀ or, ops[r]? = some or → isLoad or.op = true → ∀ v a w, Still P ops r (a.put ox.dst v) w ↔ Still P ops r a w := by
    intro r hr or hor hl v a w
    have hk := A.keeps r x or hor hl (fun e => hxE (e ▸ hr)) (hE r hr).1
    obtain ⟨k1, k2⟩ := keepsB_spec hx hor hk
    exact still_put hor (fun cs b => A.sel r or cs b hor) k1 k2
  have keepi : ∀ r ∈ E, ∀ or, ops[r]? = some or → isLoad or.op = true → ∀ v a w, Still P ops r (a.put oi.dst v) w ↔ Still P ops r a w := by
    intro r hr or hor hl v a w
    have hk := A.keeps r i or hor hl (fun e => hiE (e ▸ hr)) (hE r hr).2
    obtain ⟨k1, k2⟩ := keepsB_spec hi hor hk
    exact still_put hor (fun cs b => A.sel r or cs b hor) k1 k2
  have pendE : ∀ {r j : Nat}, pendB P ops masks r j = true → ∃ or, ops[r]? = some or ∧ isLoad or.op = true := by
    intro r j hp
    unfold pendB at hp
    split at hp
    · rename_i or oj h1 h2
      simp only [Bool.and_eq_true] at hp
      exact ⟨or, h1, hp.1.1.1⟩
    · cases hp
  have noPend : ∀ {r j : Nat} {oj : Oper}, ops[j]? = some oj → (isPure P oj.op = true ∨ isLoad oj.op = true) → pendB P ops masks r j = false := by
    intro r j oj hj hp
    unfold pendB
    rw [hj]
    cases ops[r]? with
    | none => rfl
    | some or => rcases hp with hp | hp <;> simp [hp]
  by_cases hpx : isPure P ox.op = true
  · obtain ⟨v, hy⟩ := stp_pure hx hpx h
    rw [hy] at h
    obtain ⟨_, h2⟩ := h
    rw [stp_put hi si hap1 hap2] at h2
    refine stp_mono' hi (fun u w' ⟨hs, hK⟩ => ⟨fun r hr hp => ?_, ?_⟩) h2
    · obtain ⟨or, hor, hl⟩ := pendE hp
      exact (keepx r hr or hor hl v _ _).1 (hs r (List.mem_cons_of_mem _ hr) hp)
    · rw [stp_put hx sx hap3 hdn, hy, comm]
      exact ⟨fun r _ hp => (by rw [noPend hx (.inl hpx)] at hp; cases hp), hK⟩
  · by_cases hpi : isPure P oi.op = true
    · have hex := stp_ex hx h
      obtain ⟨u0, w0, _, h0⟩ := hex
      rw [stp_put hi si hap1 hap2] at h0
      obtain ⟨v, hy⟩ := stp_pure hi hpi h0
      rw [hy]
      refine ⟨fun r _ hp => (by rw [noPend hi (.inl hpi)] at hp; cases hp), ?_⟩
      rw [stp_put hx sx hap3 hdn]
      refine stp_mono' hx (fun u w' ⟨hs, h2⟩ => ?_) h
      rw [stp_put hi si hap1 hap2, hy] at h2
      rw [comm]
      refine ⟨fun r hr hp => ?_, h2.2⟩
      rcases List.mem_cons.1 hr with rfl | hr
      · obtain ⟨or, hor, hl⟩ := pendE hp
        rw [hi] at hor; cases hor
        rw [isLoad_notPure hl] at hpi; cases hpi
      · obtain ⟨or, hor, hl⟩ := pendE hp
        rw [← comm]
        exact (keepi r hr or hor hl v _ _).2 (hs r hr hp)
    · have hlx : isLoad ox.op = true := by rcases hk with h | h | h <;> simp_all
      obtain ⟨v, ⟨_, h2⟩, hy1, hy2⟩ := stp_load hx hlx h
      rw [stp_put hi si hap1 hap2] at h2
      by_cases hli : isLoad oi.op = true
      · obtain ⟨v', ⟨_, hK⟩, hz1, _⟩ := stp_load hi hli h2
        refine hz1 _ ⟨fun r _ hp => (by rw [noPend hi (.inr hli)] at hp; cases hp), ?_⟩
        rw [stp_put hx sx hap3 hdn]
        refine hy1 _ ?_
        rw [comm]
        exact ⟨fun r _ hp => (by rw [noPend hx (.inr hlx)] at hp; cases hp), hK⟩
      · refine stp_mono' hi (fun u w' ⟨hs, hK⟩ => ⟨fun r hr hp => ?_, ?_⟩) h2
        · obtain ⟨or, hor, hl⟩ := pendE hp
          exact (keepx r hr or hor hl v _ _).1 (hs r (List.mem_cons_of_mem _ hr) hp)
        · rw [stp_put hx sx hap3 hdn]
          obtain ⟨d, hd, hdn', hds⟩ := A.self x ox hx hlx
          have hpend : pendB P ops masks x i = true := by
            unfold pendB
            simp only [hx, hi, hlx, hw, Bool.not_false, Bool.and_true, Bool.and_eq_true, Bool.not_eq_true', Bool.true_and]
            exact ⟨by simpa using hli, by simpa using hpi⟩
          have hst := hs x List.mem_cons_self hpend
          refine hy2 _ _ (fun hwant => ?_) ?_
          · unfold Still at hst
            simp only [hx] at hst
            have hself : ∀ t, ox.dst = some t → t ∉ ox.looksAt ops := fun t ht => by rw [hd] at ht; cases ht; exact hds
            rw [wanted_put ox _ ox.dst v hself, wanted_put ox _ oi.dst u hap3] at hst
            have := hst hwant d hd
            rw [execOp_put (ops := ops) ox sx _ ox.dst v hself, execOp_put (ops := ops) ox sx _ oi.dst u hap3] at this
            rw [this]
            have hsz' : d < (a.put oi.dst u).tmps.size := by rw [put_size, hsz]; exact hdn'
            rw [hd, getD_put_self hsz']
          · rw [comm]
            exact ⟨fun r _ hp => (by rw [noPend hx (.inr hlx)] at hp; cases hp), hK⟩

end
end Go.Dm
