/- A part of the proof that doormanlaw21.LinOpen returns true for every input, on no condition. -/
import Derived.Test.YtbfajkpjilhkgaaGreatFw6m
import Derived.RangeFuncLeaves
import Derived.RangeFuncRecord
import Derived.OrdersIn
import Derived.CallsIn
set_option linter.unusedVariables false
set_option linter.unusedSimpArgs false
/-! What is asked of an operation, and that it suffices. -/
namespace Go.Dm
open Go

def CallsR (P : Program) (f : FuncId) (args : Array Value) (w : World) (K : Value → World → Prop) : Prop :=
  Calls P f args w fun e w' => ∃ v, e = .returned v ∧ K v w'

theorem CallsR.imp {P : Program} {f : FuncId} {args : Array Value} {w : World} {K K' : Value → World → Prop} (h : CallsR P f args w K)
    (hk : ∀ v w', K v w' → K' v w') : CallsR P f args w K' := by
  intro cs
  obtain ⟨e, w', fr, ⟨v, he, hv⟩, r⟩ := h cs
  exact ⟨e, w', fr, ⟨v, he, hk _ _ hv⟩, r⟩

theorem CallsR.ex {P : Program} {f : FuncId} {args : Array Value} {w : World} {K : Value → World → Prop} (h : CallsR P f args w K) : ∃ v w', K v w' := by
  obtain ⟨e, w', fr, ⟨v, he, hv⟩, r⟩ := h []
  exact ⟨v, w', hv⟩

def entersP (P : Program) (f : FuncId) : Bool := match P.funcs[f]? with | some fn => !(fn.name == "runtime.NumGoroutine") && fn.body.isSome | none => false

/-- A call of a function without a body. -/
def exC (P : Program) (f : FuncId) (args : Array Value) (w : World) (K : Value → World → Prop) : Prop :=
  ∃ v w', (callFunc f args).run P w = .ok (.value v) w' ∧ K v w'

/-- What yield hands back. -/
def YieldR (P : Program) (l : Nat) (args : Array Value) (w : World) (K : Value → World → Prop) : Prop :=
  ∃ f tmps assign body, (Instr.yield l args).run P w = .ok (.round l f tmps assign body) w ∧ RoundIn Fence.wide 0 P l f tmps assign body w fun e w' => ∃ v, e = .returned v ∧ K v w'

/-- A call of a function value. -/
def dyC (P : Program) (f : Value) (args : Array Value) (w : World) (K : Value → World → Prop) : Prop :=
  match f with
  | .func (.func g) first cap => entersP P g = true ∧ CallsR P g (first ++ args ++ cap) w K
  | .func (.yield l) first cap => YieldR P l (first ++ args) w K
  | _ => False

/-- A call of a method of an interface value. -/
def ivC (P : Program) (recv : Value) (name : String) (args : Array Value) (w : World) (K : Value → World → Prop) : Prop :=
  match recv with
  | .iface t v => ∃ g r, valS P (method (P.types.size + Made.depth) t v name) = some (g, r) ∧ entersP P g = true ∧ CallsR P g (#[r] ++ args) w K
  | _ => False

/-- Any other run. -/
def smC (P : Program) (s : Sem Next) (w : World) (K : Value → World → Prop) : Prop := ∃ v w', s.run P w = .ok (.value v) w' ∧ K v w'
def smU (P : Program) (s : Sem Next) (w : World) (K : Value → World → Prop) : Prop := ∃ w', s.run P w = .ok .skip w' ∧ K undef w'

def sizedZero (P : Program) (e : TypeId) : Option (Nat × Nat × List Value) := match sizeP P e, bytesP P e, zeroP P e with
  | some n, some b, some z => match Nat.beq z.length n with | true => some (n, b, z) | false => none
  | _, _, _ => none

def builtinC (P : Program) (ρ : Operand → Value) (b : Builtin) (args : List Operand) (argTypes : List TypeId) (w : World) (K : Value → World → Prop) : Option Prop :=
  match b, argTypes, args with
  | .append, [t, u], [s, x] => match P.underlying t with
    | some (.slice e) => match sizedZero P e, P.underlying u with
      | some (n, b, z), some (.slice _) => some (apC w b n z e (ρ s) (ρ x) K)
      | some (n, b, z), some (.int _) => some (apzC w b n z e (ρ s) (ρ x) K)
      | _, _ => none
    | _ => none
  | .copy, [t, u], [d, s] => match P.underlying t, P.underlying u with
    | some (.slice e), some (.slice _) => match sizeP P e with
      | some n => some (cpC w n (ρ d) (ρ s) K)
      | none => none
    | _, _ => none
  | .clear, [t], [s] => match P.underlying t with
    | some (.slice e) => match zeroP P e with | some z => some (clC w z (ρ s) K) | none => none
    | _ => none
  | .len, [t], [s] => match P.underlying t with
    | some (.map _ _) => some (mlC w (ρ s) fun v => K v w)
    | _ => none
  | .delete, [t, _], [m, k] => match P.underlying t with
    | some (.map kt _) => match keyKind P kt with | some str => some (mdC w str (ρ m) (ρ k) K) | none => none
    | _ => none
  | _, _, _ => none

def effC (P : Program) (ρ : Operand → Value) (o : Oper) (w : World) (K : Value → World → Prop) : Prop :=
  match o.op with
  | .load t a => match aggP P t, sizeP P t with | some g, some n => ldC w g n (ρ a) fun v => K v w | _, _ => False
  | .store t a x => match sizeP P t with | some n => stC w n (ρ a) (ρ x) (K undef) | none => False
  | .alloc t => match zeroP P t with | some z => alC w z t K | none => False
  | .box t x => alC w (ρ x).cells.toList t K
  | .buildSlice t len parts => match P.underlying t with
    | some (.slice e) => match sizedZero P e with
      | some (n, _, z) => (match Nat.ble (len * n) (2 ^ 24), Nat.ble 1 n with | true, true => bsC w n z e len (partsL ρ parts) K | _, _ => False)
      | none => False
    | _ => False
  | .makeSlice t l c => match P.underlying t with
    | some (.slice e) => match sizedZero P e with | some (n, b, z) => (match Nat.ble 1 n, Nat.ble 1 b with | true, true => msC w b z e (ρ l) (ρ c) K | _, _ => False) | none => False
    | _ => False
  | .call { callee := .builtin b, args, argTypes } => match builtinC P ρ b args.toList argTypes.toList w K with
    | some p => p
    | none => smC P (execOp ρ o) w K
  | .call { callee := .value (.func f), args, .. } => match entersP P f with
    | true => CallsR P f (lm ρ args) w K
    | false => exC P f (lm ρ args) w K
  | .call { callee := .value x, args, .. } => dyC P (ρ x) (lm ρ args) w K
  | .call { callee := .invoke r name, args, .. } => ivC P (ρ r) name (lm ρ args) w K
  | .mapUpdate t m k v => match P.underlying t with
    | some (.map kt _) => match keyKind P kt with | some str => muC w str (ρ m) (ρ k) (ρ v) (K undef) | none => False
    | _ => False
  | .lookup t m k ok => match P.underlying t with
    | some (.map kt et) => match keyKind P kt, zeroVP P et with | some str, some z => mgC w str ok z (ρ m) (ρ k) fun v => K v w | _, _ => False
    | _ => False
  | .makeMap _ r => match r with | none => mkC w K | some _ => False
  | _ => False

/-- What is asked of an operation. -/
def vcOp (P : Program) (ρ : Operand → Value) (o : Oper) (w : World) (K : Value → World → Prop) : Prop :=
  match isPure P o.op with
  | true => pv (pureV P ρ o.op) fun v => K v w
  | false => effC P ρ o w K

/-- What a run comes to, as the machine takes it up. -/
def Gives (P : Program) (K : Value → World → Prop) : Result Next → Prop
  | .ok (.value v) w' => K v w'
  | .ok .skip w' => K undef w'
  | .ok (.enter f args) w' => CallsR P f args w' K
  | .ok (.round l f tmps assign body) w' => RoundIn Fence.wide 0 P l f tmps assign body w' fun e w'' => ∃ v, e = .returned v ∧ K v w''
  | _ => False

section
variable {P : Program} {ρ : Operand → Value} {K : Value → World → Prop} {w : World}

theorem callFunc_enter {f : FuncId} {args : Array Value} (h : entersP P f = true) : (callFunc f args).run P w = .ok (.enter f args) w := by
  unfold entersP at h
  split at h
  · rename_i fn hf
    simp only [Bool.and_eq_true, Bool.not_eq_true'] at h
    obtain ⟨h1, h2⟩ := h
    unfold callFunc
    show (Sem.bind program _).run P w = _
    simp only [program, Sem.bind, Sem.run, hf]
    have hn : fn.body.isNone = false := by cases hb : fn.body <;> simp_all
    simp [h1, hn, Sem.run, pure]
  · cases h

theorem run_value {s : Sem Value} {v : Value} {w' : World} (h : s.run P w = .ok v w') : (do pure (Next.value (← s)) : Sem Next).run P w = .ok (.value v) w' := by
  rw [run_bind_ok h]; rfl
theorem run_unit {s : Sem Unit} {w' : World} (h : s.run P w = .ok () w') : (do s; pure Next.skip : Sem Next).run P w = .ok .skip w' := by
  rw [run_bind_ok h]; rfl

theorem gives_value {s : Sem Value} {v : Value} {w' : World} (h : s.run P w = .ok v w') (hk : K v w') : Gives P K ((do pure (Next.value (← s)) : Sem Next).run P w) := by
  rw [run_value h]; exact hk

theorem resolve_run {c : Call} {t : TypeId} {f : FuncId} {first cap : Array Value} {x : Operand} (hc : c.callee = .value x) (hx : ρ x = .func (.func f) first cap) :
    (do let d ← resolve ρ c t; invoke d.target d.args : Sem Next) = callFunc f (first ++ lm ρ c.args ++ cap) := by
  unfold resolve
  simp only [hc, hx, Deferred.ofValue, lm_eq]
  rfl

theorem resolve_runY {c : Call} {t : TypeId} {l : Nat} {first cap : Array Value} {x : Operand} (hc : c.callee = .value x) (hx : ρ x = .func (.yield l) first cap) :
    (do let d ← resolve ρ c t; invoke d.target d.args : Sem Next) = Instr.yield l (first ++ lm ρ c.args) := by
  unfold resolve
  simp only [hc, hx, Deferred.ofValue, lm_eq]
  rfl

theorem append_run {e t u ty : TypeId} {n b : Nat} {z : List Value} {s x : Value} (ht : P.underlying t = some (.slice e)) (hu : ∃ e', P.underlying u = some (.slice e')) (hn : sizeP P e = some n)
    (hb : bytesP P e = some b) (hz : zeroP P e = some z) (hzn : z.length = n) (h : apC w b n z e s x K) : ∃ v w', (Builtin.append_ #[t, u] ty #[s, x]).run P w = .ok v w' ∧ K v w' := by
  obtain ⟨base, sl, sc, xb, m, xc, old, new, rfl, rfl, ho, hw, hb0, hbound, hin, hout⟩ := h
  obtain ⟨e', hu⟩ := hu
  obtain ⟨inf, hinf, hib⟩ := valS_bytes hb
  obtain ⟨zv, hzv, hzc⟩ := valS_zero hz
  have hlen : new.length = m * n := hw.1
  unfold Builtin.append_
  simp only [List.getElem?_toArray, List.getElem?_cons_zero, List.getElem?_cons_succ]
  simp only [run_bind_val (valS_underlying ht), run_bind_val (valS_sizeOf hn)]
  simp only [run_bind_val (valS_underlying hu), run_bind_val (valS_pure _), Bool.false_eq_true, if_false, Builtin.lenOf]
  have hkey := nextcap_le (need := sl + m) (cap := sc)
  by_cases hfit : sl + m ≤ sc
  · rw [if_pos hfit]
    simp only [Bool.not_false, if_true]
    rw [run_bind_ok (first_run (P := P) hw)]
    obtain ⟨w', hK, hr⟩ := putAt_run (P := P) (hin hfit)
    refine ⟨_, w', ?_, hK⟩
    cases base with
    | none => simp only [] at hr ⊢; simp only [Sem.run, pure, Result.ok.injEq, true_and] at hr; subst hr; rfl
    | some a => exact (run_bind_ok (by simpa using hr)).trans rfl
  · rw [if_neg hfit]
    simp only [Bool.false_eq_true, false_or, run_bind_val hinf, hib]
    have hb1 : ¬ (((sl + m : Nat) : Int) > IntKind.i64.max ∧ b = 0) := by omega
    rw [if_neg hb1]
    have hb2 : ¬ Builtin.nextslicecap (sl + m) sc * b > 2 ^ 48 := by
      have := hkey (by omega)
      have : Builtin.nextslicecap (sl + m) sc * b ≤ 2 * (sl + m) * b := Nat.mul_le_mul_right _ this
      have e2 : 2 * (sl + m) * b = 2 * ((sl + m) * b) := by rw [Nat.mul_assoc]
      omega
    simp only [run_bind_val (valS_pure _), run_bind_val hinf, hib]
    rw [if_neg hb2]
    try simp only [run_bind_val (valS_pure _), run_bind_val hinf, hib]
    have hch : (choose (.appendCap (sl + m) sc e)).run P w = .ok ((Question.appendCap (sl + m) sc e).cut (w.tape w.drawn (.appendCap (sl + m) sc e))) (drewW w) := by
      simp [choose, Sem.run, Question.forced, drewW]
    rw [run_bind_ok hch]
    generalize hc : (Question.appendCap (sl + m) sc e).cut (w.tape w.drawn (.appendCap (sl + m) sc e)) = c
    have hcle : sl + m ≤ c := by subst hc; simp [Question.cut]
    have hask : (askRoom (c * b)).run P (drewW w) = .ok () (drewW w) := by unfold askRoom; split <;> simp [mark, Sem.run, pure]
    rw [run_bind_val hinf, hib, run_bind_ok hask]
    have ho' : Row (drewW w) base (sl * n) old := ho
    have hw' : Row (drewW w) xb (m * n) new := hw
    rw [run_bind_ok (first_run (P := P) ho')]
    simp only [Bool.not_false, if_true]
    rw [run_bind_ok (first_run (P := P) hw')]
    rw [run_bind_val hzv]
    rw [run_bind_ok (newB_run (P := P))]
    refine ⟨_, _, rfl, ?_⟩
    have hz' : Builtin.zeroCells zv.cells (c - (sl + m)) = (repL (c - (sl + m)) z).toArray := by
      unfold Builtin.zeroCells
      rw [range_mod _ _ _ rfl, hzc]
    have := hout (by omega) c hcle
    have hsz : (drewW w).heap.size = w.heap.size := rfl
    rw [hz', hsz]
    simpa using this

theorem appendz_run {e t u ty : TypeId} {n b : Nat} {z : List Value} {s x : Value} (ht : P.underlying t = some (.slice e)) (hu : ∃ k, P.underlying u = some (.int k)) (hn : sizeP P e = some n)
    (hb : bytesP P e = some b) (hz : zeroP P e = some z) (hzn : z.length = n) (h : apzC w b n z e s x K) : ∃ v w', (Builtin.append_ #[t, u] ty #[s, x]).run P w = .ok v w' ∧ K v w' := by
  obtain ⟨base, sl, sc, kk, m, old, rfl, rfl, ho, hb0, hbound, hm0, hin, hout⟩ := h
  obtain ⟨e', hu⟩ := hu
  obtain ⟨inf, hinf, hib⟩ := valS_bytes hb
  obtain ⟨zv, hzv, hzc⟩ := valS_zero hz
  obtain ⟨m, rfl⟩ := Int.eq_ofNat_of_zero_le hm0
  simp only [Int.toNat_natCast] at *
  have hmb : m * b ≤ 2 ^ 47 := Nat.le_trans (Nat.mul_le_mul_right b (Nat.le_add_left m sl)) hbound
  have hmm : m ≤ m * b := Nat.le_mul_of_pos_right m hb0
  have hwrap : IntKind.i64.wrap (m : Int) = m := by
    simp [IntKind.wrap, IntKind.signed, IntKind.bits]; omega
  unfold Builtin.append_
  simp only [List.getElem?_toArray, List.getElem?_cons_zero, List.getElem?_cons_succ]
  simp only [run_bind_val (valS_underlying ht), run_bind_val (valS_sizeOf hn)]
  have hasInt : valS P (asInt (.int kk (m : Int))) = some (m : Int) := rfl
  simp only [run_bind_val (valS_underlying hu), run_bind_val (valS_pure _), if_true, run_bind_val hasInt, hwrap]
  rw [if_neg (by omega)]
  simp only [run_bind_val (valS_pure _), run_bind_val hinf, hib]
  have hnb : ¬ ((m : Int) * (b : Int) > 2 ^ 48) := by
    have : ((m * b : Nat) : Int) ≤ ((2 ^ 47 : Nat) : Int) := Int.ofNat_le.2 hmb
    rw [Int.natCast_mul] at this
    omega
  rw [if_neg hnb]
  simp only [run_bind_val (valS_pure _), Int.toNat_natCast]
  have hkey := nextcap_le (need := sl + m) (cap := sc)
  have happ : ∀ w : World, ((if (!true) = true then Builtin.firstCells n m (.int kk (m : Int)) else if m * n = 0 then pure #[] else do pure (Builtin.zeroCells (← zeroValue e).cells m)) : Sem (Array Value)).run P w
      = .ok (repL m z).toArray w := by
    intro w
    simp only [Bool.not_true, Bool.false_eq_true, if_false]
    split
    · rename_i h0
      have : repL m z = [] := List.length_eq_zero_iff.1 (by rw [repL_length, hzn]; exact h0)
      rw [this]; rfl
    · rw [run_bind_val hzv]
      unfold Builtin.zeroCells
      rw [range_mod _ _ _ rfl, hzc]; rfl
  by_cases hfit : sl + m ≤ sc
  · rw [if_pos hfit]
    rw [run_bind_ok (happ w)]
    obtain ⟨w', hK, hr⟩ := putAt_run (P := P) (hin hfit)
    refine ⟨_, w', ?_, hK⟩
    cases base with
    | none => simp only [] at hr ⊢; simp only [Sem.run, pure, Result.ok.injEq, true_and] at hr; subst hr; rfl
    | some a => exact (run_bind_ok (by simpa using hr)).trans rfl
  · rw [if_neg hfit]
    simp only [true_or, and_true, run_bind_val hinf, hib]
    have hb1 : ¬ (((sl + m : Nat) : Int) > IntKind.i64.max) := by
      have h1 : sl + m ≤ (sl + m) * b := Nat.le_mul_of_pos_right _ hb0
      simp [IntKind.max, IntKind.signed, IntKind.bits]; omega
    rw [if_neg hb1]
    have hb2 : ¬ Builtin.nextslicecap (sl + m) sc * b > 2 ^ 48 := by
      have := hkey (by omega)
      have : Builtin.nextslicecap (sl + m) sc * b ≤ 2 * (sl + m) * b := Nat.mul_le_mul_right _ this
      have e2 : 2 * (sl + m) * b = 2 * ((sl + m) * b) := by rw [Nat.mul_assoc]
      omega
    simp only [run_bind_val (valS_pure _), run_bind_val hinf, hib]
    rw [if_neg hb2]
    try simp only [run_bind_val (valS_pure _), run_bind_val hinf, hib]
    have hch : (choose (.appendCap (sl + m) sc e)).run P w = .ok ((Question.appendCap (sl + m) sc e).cut (w.tape w.drawn (.appendCap (sl + m) sc e))) (drewW w) := by
      simp [choose, Sem.run, Question.forced, drewW]
    rw [run_bind_ok hch]
    generalize hc : (Question.appendCap (sl + m) sc e).cut (w.tape w.drawn (.appendCap (sl + m) sc e)) = c
    have hcle : sl + m ≤ c := by subst hc; simp [Question.cut]
    have hask : (askRoom (c * b)).run P (drewW w) = .ok () (drewW w) := by unfold askRoom; split <;> simp [mark, Sem.run, pure]
    rw [run_bind_val hinf, hib, run_bind_ok hask]
    have ho' : Row (drewW w) base (sl * n) old := ho
    rw [run_bind_ok (first_run (P := P) ho')]
    rw [run_bind_ok (happ _)]
    rw [run_bind_val hzv]
    rw [run_bind_ok (newB_run (P := P))]
    refine ⟨_, _, rfl, ?_⟩
    have hz' : Builtin.zeroCells zv.cells (c - (sl + m)) = (repL (c - (sl + m)) z).toArray := by
      unfold Builtin.zeroCells
      rw [range_mod _ _ _ rfl, hzc]
    have := hout (by omega) c hcle
    have hsz : (drewW w).heap.size = w.heap.size := rfl
    rw [hz', hsz]
    simpa using this

theorem copy_run {e t u ty : TypeId} {n : Nat} {d s : Value} (ht : P.underlying t = some (.slice e)) (hn : sizeP P e = some n) (h : cpC w n d s K) :
    ∃ v w', (Builtin.copy_ #[t, u] ty #[d, s]).run P w = .ok v w' ∧ K v w' := by
  obtain ⟨base, dl, dc, sb, sl, sc, new, rfl, rfl, hr, hp⟩ := h
  unfold Builtin.copy_
  simp only [List.getElem?_toArray, List.getElem?_cons_zero, List.getElem?_cons_succ]
  simp only [run_bind_val (valS_underlying ht), run_bind_val (valS_pure _), Builtin.lenOf, run_bind_val (valS_sizeOf hn)]
  rw [run_bind_ok (first_run (P := P) (n := Nat.min sl dl) hr)]
  obtain ⟨w', hK, hr'⟩ := putAt_run (P := P) hp
  refine ⟨_, w', ?_, hK⟩
  cases base with
  | none => simp only [] at hr' ⊢; simp only [Sem.run, pure, Result.ok.injEq, true_and] at hr'; subst hr'; rfl
  | some a =>
    have : a.add 0 = a := by simp [Addr.add]
    simp only [this] at hr'
    exact (run_bind_ok hr').trans rfl

theorem clear_run {e t ty : TypeId} {z : List Value} {s : Value} (ht : P.underlying t = some (.slice e)) (hz : zeroP P e = some z) (h : clC w z s K) :
    ∃ v w', (Builtin.clear_ #[t] ty #[s]).run P w = .ok v w' ∧ K v w' := by
  obtain ⟨base, n, c, rfl, hp⟩ := h
  obtain ⟨zv, hzv, hzc⟩ := valS_zero hz
  obtain ⟨w', hK, hr'⟩ := putAt_run (P := P) hp
  unfold Builtin.clear_
  simp only [List.getElem?_toArray, List.getElem?_cons_zero]
  simp only [run_bind_val (valS_underlying ht)]
  refine ⟨_, w', ?_, hK⟩
  cases base with
  | none => simp only [Sem.run, pure, Result.ok.injEq, true_and] at hr'; subst hr'; cases n <;> rfl
  | some a =>
    have ha : a.add 0 = a := by simp [Addr.add]
    simp only [ha] at hr'
    cases n with
    | zero => simp only [repL, storeCells, Sem.run, pure, Result.ok.injEq, true_and] at hr'; subst hr'; rfl
    | succ n =>
      have hz' : Builtin.zeroCells zv.cells (n + 1) = (repL (n + 1) z).toArray := by
        unfold Builtin.zeroCells
        rw [range_mod _ _ _ rfl, hzc]
      simp only [run_bind_val hzv, hz']
      exact (run_bind_ok hr').trans rfl

theorem sizedZero_e {e : TypeId} {n b : Nat} {z : List Value} (h : sizedZero P e = some (n, b, z)) : sizeP P e = some n ∧ bytesP P e = some b ∧ zeroP P e = some z ∧ z.length = n := by
  unfold sizedZero at h
  split at h
  · rename_i n' b' z' h1 h2 h3
    split at h
    · rename_i hb
      simp only [Option.some.injEq, Prod.mk.injEq] at h
      obtain ⟨rfl, rfl, rfl⟩ := h
      exact ⟨h1, h2, h3, Nat.eq_of_beq_eq_true hb⟩
    · cases h
  · cases h

theorem load_gives {o : Oper} {t : TypeId} {a : Operand} (ho : o.op = .load t a) {g : Bool} {n : Nat} (hg : aggP P t = some g) (hn : sizeP P t = some n)
    (h : ldC w g n (ρ a) fun v => K v w) : Gives P K ((execOp ρ o).run P w) := by
  obtain ⟨v, hv, hK⟩ := h
  unfold execOp
  simp only [ho]
  obtain ⟨b, off, cs, ha, r⟩ := id hv
  refine gives_value (w' := w) ?_ hK
  unfold Instr.loadAt
  rw [ha, run_bind_val sureAddr_val]
  rw [ha] at hv
  exact loadVar_run hg hn hv

theorem store_gives {o : Oper} {t : TypeId} {a x : Operand} (ho : o.op = .store t a x) {n : Nat} (hn : sizeP P t = some n)
    (h : stC w n (ρ a) (ρ x) (K undef)) : Gives P K ((execOp ρ o).run P w) := by
  obtain ⟨b, off, cs, ha, hown, hl, hs, hone, hK⟩ := h
  unfold execOp
  simp only [ho]
  have : (Instr.storeAt t (ρ a) (ρ x)).run P w = .ok () (putB w b (splice cs off (ρ x).cells.toList)) := by
    unfold Instr.storeAt
    rw [ha, run_bind_val sureAddr_val]
    exact storeVar_run hn hown hl hs hone
  rw [run_unit this]
  exact hK

theorem alloc_gives {o : Oper} {t : TypeId} (ho : o.op = .alloc t) {z : List Value} (hz : zeroP P t = some z)
    (h : alC w z t K) : Gives P K ((execOp ρ o).run P w) := by
  obtain ⟨zv, hzv, hzc⟩ := valS_zero hz
  unfold execOp
  simp only [ho]
  refine gives_value (w' := newB w z t) (v := .pointer (some ⟨w.heap.size, 0, none⟩)) ?_ h
  unfold Instr.alloc
  rw [run_bind_val hzv]
  simp only [newVar, hzc]
  rw [run_bind_ok (newB_run (P := P))]
  rfl

theorem box_gives {o : Oper} {t : TypeId} {x : Operand} (ho : o.op = .box t x)
    (h : alC w (ρ x).cells.toList t K) : Gives P K ((execOp ρ o).run P w) := by
  unfold execOp
  simp only [ho]
  refine gives_value (w' := newB w (ρ x).cells.toList t) (v := .pointer (some ⟨w.heap.size, 0, none⟩)) ?_ h
  unfold Instr.box newVar
  rw [run_bind_ok (newB_run (P := P))]
  rfl

theorem bs_gives {o : Oper} {t e : TypeId} {len n b : Nat} {z : List Value} {parts : Array (Nat × Operand)} (ho : o.op = .buildSlice t len parts) (ht : P.underlying t = some (.slice e))
    (hz : sizedZero P e = some (n, b, z)) (hl : len * n ≤ 2 ^ 24) (hl1 : 1 ≤ n) (h : bsC w n z e len (partsL ρ parts) K) : Gives P K ((execOp ρ o).run P w) := by
  obtain ⟨hn, _, hz, hzn⟩ := sizedZero_e hz
  obtain ⟨zv, hzv, hzc⟩ := valS_zero hz
  obtain ⟨cs, hf, hK⟩ := h
  unfold execOp
  simp only [ho]
  refine gives_value (w' := newB w cs e) ?_ hK
  unfold Instr.buildSlice
  simp only [run_bind_val (valS_underlying ht), run_bind_val (valS_sizeOf hn)]
  rw [if_neg (by omega)]
  have hp : (parts.map fun (x : Nat × Operand) => (x.1, ρ x.2)).toList = partsL ρ parts := by simp [partsL]
  have hfe := fill_eq (fun i => some (i * n, n)) (partsL ρ parts) _ cs hf
  split
  · rename_i h0
    have hr : repL len z = [] := List.length_eq_zero_iff.1 (by rw [repL_length, hzn]; exact h0)
    rw [hr] at hfe
    simp only [run_bind_val (valS_pure _), h0, hp]
    have : ((Array.range 0).map fun i => (#[] : Array Value)[i % (#[] : Array Value).size]!) = ([] : List Value).toArray := by simp
    rw [this, hfe]
    simp only []
    rw [run_bind_ok (newB_run (P := P))]
    rfl
  · rw [run_bind_val hzv]
    have hrow : ((Array.range (len * n)).map fun i => zv.cells[i % zv.cells.size]!) = (repL len z).toArray := by
      rw [range_mod len _ _ (by rw [hzc]; simp [hzn]), hzc]
    simp only [run_bind_val (valS_pure _), hp, hrow, hfe]
    rw [run_bind_ok (newB_run (P := P))]
    rfl

theorem ms_gives {o : Oper} {t e : TypeId} {n b : Nat} {z : List Value} {l c : Operand} (ho : o.op = .makeSlice t l c) (ht : P.underlying t = some (.slice e))
    (hz : sizedZero P e = some (n, b, z)) (hn1 : 1 ≤ n) (hb1 : 1 ≤ b) (h : msC w b z e (ρ l) (ρ c) K) : Gives P K ((execOp ρ o).run P w) := by
  obtain ⟨hn, hb, hz, hzn⟩ := sizedZero_e hz
  obtain ⟨zv, hzv, hzc⟩ := valS_zero hz
  obtain ⟨inf, hinf, hib⟩ := valS_bytes hb
  obtain ⟨k, k', i, m, hl, hc, him, hm, hmb, hK⟩ := h
  unfold execOp
  simp only [ho]
  refine gives_value (w' := newB w (repL m z) e) ?_ hK
  unfold Instr.makeSlice
  have h1 : valS P (asInt (ρ l)) = some (i : Int) := by rw [hl]; rfl
  have h2 : valS P (asInt (ρ c)) = some (m : Int) := by rw [hc]; rfl
  simp only [run_bind_val (valS_underlying ht), run_bind_val h1, run_bind_val h2, run_bind_val hinf, hib]
  have w1 : IntKind.i64.wrap (i : Int) = i := by simp [IntKind.wrap, IntKind.signed, IntKind.bits]; omega
  have w2 : IntKind.i64.wrap (m : Int) = m := by simp [IntKind.wrap, IntKind.signed, IntKind.bits]; omega
  rw [w1, w2]
  have hbm : (b : Int) * (m : Int) ≤ 2 ^ 47 := by
    have : ((m * b : Nat) : Int) ≤ ((2 ^ 47 : Nat) : Int) := Int.ofNat_le.2 hmb
    rw [Int.natCast_mul, Int.mul_comm] at this
    simpa using this
  have hcond : ¬ ((((decide ((m : Int) < 0) || decide ((b : Int) * (m : Int) > 2 ^ 48)) || decide ((i : Int) < 0)) || decide ((i : Int) > (m : Int))) = true) := by
    simp only [Bool.or_eq_true, decide_eq_true_eq]
    omega
  rw [if_neg (by simpa using hcond)]
  have hask : (askRoom ((m : Int).toNat * b)).run P w = .ok () w := by unfold askRoom; split <;> simp [mark, Sem.run, pure]
  rw [run_bind_ok hask]
  simp only [run_bind_val (valS_sizeOf hn), Int.toNat_natCast]
  split
  · rename_i h0
    have : repL m z = [] := List.length_eq_zero_iff.1 (by rw [repL_length, hzn]; exact h0)
    simp only [run_bind_val (valS_pure _), h0, this]
    rw [run_bind_ok (newB_run (P := P))]
    simp [Sem.run, pure]
  · rw [run_bind_val hzv]
    simp only [run_bind_val (valS_pure _)]
    rw [range_mod m _ _ (by rw [hzc]; simp [hzn]), hzc]
    exact (run_bind_ok (newB_run (P := P))).trans rfl

theorem builtin_gives {o : Oper} {b : Builtin} {args : Array Operand} {ts : Array TypeId} (ho : o.op = .call { callee := .builtin b, args, argTypes := ts }) {p : Prop}
    (hp : builtinC P ρ b args.toList ts.toList w K = some p) (h : p) : Gives P K ((execOp ρ o).run P w) := by
  obtain ⟨as⟩ := args
  obtain ⟨us⟩ := ts
  simp only at hp
  unfold builtinC at hp
  split at hp
  · rename_i t u s x
    split at hp
    · rename_i e ht
      split at hp
      · rename_i n bb z e' hz hu
        simp only [Option.some.injEq] at hp; subst hp
        obtain ⟨hn, hb, hz, hzn⟩ := sizedZero_e hz
        obtain ⟨v, w', hr, hK⟩ := append_run (ty := o.type) ht ⟨_, hu⟩ hn hb hz hzn h
        unfold execOp; simp only [ho, resolve]
        refine gives_value (s := Builtin.append_ _ _ _) ?_ hK
        simpa using hr
      · rename_i n bb z k hz hu
        simp only [Option.some.injEq] at hp; subst hp
        obtain ⟨hn, hb, hz, hzn⟩ := sizedZero_e hz
        obtain ⟨v, w', hr, hK⟩ := appendz_run (ty := o.type) ht ⟨_, hu⟩ hn hb hz hzn h
        unfold execOp; simp only [ho, resolve]
        refine gives_value (s := Builtin.append_ _ _ _) ?_ hK
        simpa using hr
      · cases hp
    · cases hp
  · rename_i t u d s
    split at hp
    · rename_i e e' ht hu
      split at hp
      · rename_i n hn
        simp only [Option.some.injEq] at hp; subst hp
        obtain ⟨v, w', hr, hK⟩ := copy_run (u := u) (ty := o.type) ht hn h
        unfold execOp; simp only [ho, resolve]
        refine gives_value (s := Builtin.copy_ _ _ _) ?_ hK
        simpa using hr
      · cases hp
    · cases hp
  · rename_i t s
    split at hp
    · rename_i e ht
      split at hp
      · rename_i z hz
        simp only [Option.some.injEq] at hp; subst hp
        obtain ⟨v, w', hr, hK⟩ := clear_run (ty := o.type) ht hz h
        unfold execOp; simp only [ho, resolve]
        refine gives_value (s := Builtin.clear_ _ _ _) ?_ hK
        simpa using hr
      · cases hp
    · cases hp
  · rename_i t s
    split at hp
    · rename_i kt e ht
      simp only [Option.some.injEq] at hp; subst hp
      obtain ⟨v, hr, hK⟩ := lenMap_run (ty := o.type) ht h
      unfold execOp; simp only [ho, resolve]
      refine gives_value (s := Builtin.len_ _ _ _) ?_ hK
      simpa using hr
    · cases hp
  · rename_i t u m k
    split at hp
    · rename_i kt e ht
      split at hp
      · rename_i str hk
        simp only [Option.some.injEq] at hp; subst hp
        obtain ⟨v, w', hr, hK⟩ := delete_run (u := u) (ty := o.type) ht hk h
        unfold execOp; simp only [ho, resolve]
        refine gives_value (s := Builtin.delete_ _ _ _) ?_ hK
        simpa using hr
      · cases hp
    · cases hp
  · cases hp

theorem effC_gives {o : Oper} (hρ : ∀ f, ρ (.func f) = .func (.func f) #[] #[]) (h : effC P ρ o w K) : Gives P K ((execOp ρ o).run P w) := by
  unfold effC at h
  split at h
  · rename_i t a ho
    split at h
    · rename_i g n hg hn; exact load_gives ho hg hn h
    · exact h.elim
  · rename_i t a x ho
    split at h
    · rename_i n hn; exact store_gives ho hn h
    · exact h.elim
  · rename_i t ho
    split at h
    · rename_i z hz; exact alloc_gives ho hz h
    · exact h.elim
  · rename_i t x ho; exact box_gives ho h
  · rename_i t len parts ho
    split at h
    · rename_i e ht
      split at h
      · rename_i n b z hz
        split at h
        · rename_i h1 h2; exact bs_gives ho ht hz (Nat.le_of_ble_eq_true h1) (Nat.le_of_ble_eq_true h2) h
        · exact h.elim
      · exact h.elim
    · exact h.elim
  · rename_i t l c ho
    split at h
    · rename_i e ht
      split at h
      · rename_i n b z hz
        split at h
        · rename_i h1 h2; exact ms_gives ho ht hz (Nat.le_of_ble_eq_true h1) (Nat.le_of_ble_eq_true h2) h
        · exact h.elim
      · exact h.elim
    · exact h.elim
  · rename_i b args ts ho
    split at h
    · rename_i p hp; exact builtin_gives ho hp h
    · obtain ⟨v, w', hr, hK⟩ := h; rw [hr]; exact hK
  · rename_i f args ts ho
    have hres : execOp ρ o = callFunc f (lm ρ args) := by
      unfold execOp; simp only [ho]
      rw [resolve_run (f := f) (first := #[]) (cap := #[]) (x := .func f) rfl]
      · simp
      · exact hρ f
    rw [hres]
    split at h
    · rename_i he; rw [callFunc_enter he]; exact h
    · obtain ⟨v, w', hr, hK⟩ := h; rw [hr]; exact hK
  · rename_i x args ts hx ho
    unfold dyC at h
    split at h
    · rename_i g first cap hv
      have hres : execOp ρ o = callFunc g (first ++ lm ρ args ++ cap) := by
        unfold execOp; simp only [ho]
        exact resolve_run rfl hv
      rw [hres, callFunc_enter h.1]; exact h.2
    · rename_i l first cap hv
      obtain ⟨f, tmps, assign, body, hy, hr⟩ := h
      have hres : execOp ρ o = Instr.yield l (first ++ lm ρ args) := by
        unfold execOp; simp only [ho]
        exact resolve_runY rfl hv
      rw [hres, hy]; exact hr
    · exact h.elim
  · rename_i r name args ts ho
    unfold ivC at h
    split at h
    · rename_i t v hv
      obtain ⟨g, rr, hm, he, hK⟩ := h
      have hres : (execOp ρ o).run P w = (callFunc g (#[rr] ++ lm ρ args)).run P w := by
        unfold execOp; simp only [ho, resolve, lm_eq]
        rw [run_bind_val (valS_pure _)]
        simp only [invoke]
        have h0 : (#[Value.iface t v] ++ Array.map ρ args)[0]? = some (Value.iface t v) := by
          rw [Array.getElem?_append_left (by simp)]; rfl
        rw [hv]
        simp only [h0, callMethod]
        have hprog : valS P program = some P := rfl
        rw [run_bind_val hprog, run_bind_val hm]
        congr 2
        apply Array.ext'
        simp
        exact List.take_of_length_le (by simp)
      rw [hres, callFunc_enter he]; exact hK
    · exact h.elim
  · rename_i t m k v ho
    split at h
    · rename_i kt e ht
      split at h
      · rename_i str hk
        obtain ⟨w', hr, hK⟩ := mapUpdate_run ht hk h
        unfold execOp; simp only [ho]
        rw [run_unit hr]; exact hK
      · exact h.elim
    · exact h.elim
  · rename_i t m k ok ho
    split at h
    · rename_i kt e ht
      split at h
      · rename_i str z hk hz
        obtain ⟨v, hr, hK⟩ := lookup_run ht hk hz h
        unfold execOp; simp only [ho]
        exact gives_value hr hK
      · exact h.elim
    · exact h.elim
  · rename_i t r ho
    split at h
    · obtain ⟨v, w', hr, hK⟩ := makeMap_run (P := P) (t := t) h
      unfold execOp; simp only [ho]
      refine gives_value ?_ hK
      simpa using hr
    · exact h.elim
  · exact h.elim

theorem vcOp_gives {o : Oper} (hρ : ∀ f, ρ (.func f) = .func (.func f) #[] #[]) (h : vcOp P ρ o w K) : Gives P K ((execOp ρ o).run P w) := by
  unfold vcOp at h
  split at h
  · obtain ⟨v, hv, hK⟩ := pv_e h
    rw [valS_run (pureV_val hv) w]
    exact hK
  · exact effC_gives hρ h

end
end Go.Dm
