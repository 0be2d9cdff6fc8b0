/- A part of the proof that doormanlaw21.LinOpen returns true for every input, on no condition. -/
import Derived.Test.YtbfajkpjilhkgaaGreatG2
set_option linter.unusedVariables false
set_option linter.unusedSimpArgs false
set_option linter.deprecated false
/-! Plain: tables. -/
namespace Go.Dm
open Go Go.Proofs

structure Cfg where
  stripes : Int
  sessions : Int
  queue : Int
  watches : Int
  retries : Int
  epochs : Nat
  start : Nat
deriving DecidableEq
def Cfg.cells (c : Cfg) : List Value := [.int .i64 c.stripes, .int .i64 c.sessions, .int .i64 c.queue, .int .i64 c.watches, .int .i64 c.retries, .int .u64 c.epochs, .int .u64 c.start]
def Cfg.v (c : Cfg) : Value := .agg c.cells.toArray
def Cfg.right (c : Cfg) : Bool := decide ((1 ≤ c.stripes ∧ c.stripes ≤ 8) ∧ (1 ≤ c.sessions ∧ c.sessions ≤ 8) ∧ (1 ≤ c.queue ∧ c.queue ≤ 16) ∧ (1 ≤ c.watches ∧ c.watches ≤ 8) ∧ (0 ≤ c.retries ∧ c.retries ≤ 4))
structure Rep where
  err : Int
  vals : List Pres
  evs : List Evt
  lost : Bool
deriving DecidableEq
def Rep.zero : Rep := ⟨0, [], [], false⟩
def keyOk (u : ByteArray) : Bool := decide (u.size ≠ 0 ∧ u.size ≤ 16)
def sessOk (id st pr : Int) : Bool := decide (0 ≤ id ∧ id ≤ 255 ∧ 1 ≤ st ∧ st ≤ 9 ∧ 0 ≤ pr ∧ pr ≤ 9)
def opBad (x : OpP) : Bool :=
  if x.kind = 1 then !keyOk x.user || !sessOk x.id x.st x.pr
  else if x.kind = 2 ∨ x.kind = 3 then !keyOk x.user || !decide (0 ≤ x.id ∧ x.id ≤ 255)
  else if x.kind = 4 ∨ x.kind = 6 ∨ x.kind = 7 then !keyOk x.user
  else if x.kind = 5 then x.users.any (fun u => !keyOk u) || !decide (1 ≤ x.users.length ∧ x.users.length ≤ 8)
  else if x.kind = 8 ∨ x.kind = 9 then false
  else true
def usersOf (x : OpP) : List ByteArray := if x.kind = 4 then [x.user] else if x.kind = 5 then x.users else []

structure Mdl where
  c : Cfg
  t : Tm
  bs : List Book
  fs : List Feed
def newMdl (c : Cfg) : Mdl := ⟨c, ⟨c.start, 0, false⟩, List.replicate c.stripes.toNat [], List.replicate c.stripes.toNat (newFeed c.queue.toNat)⟩
def Mdl.stripe (m : Mdl) (u : ByteArray) : Nat := stripeOf u m.c.stripes.toNat
def Mdl.book (m : Mdl) (s : Nat) : Book := m.bs[s]?.getD []
def Mdl.feed (m : Mdl) (s : Nat) : Feed := m.fs[s]?.getD ⟨[], []⟩
def Mdl.pres (m : Mdl) (u : ByteArray) : Pres := bPres (m.book (m.stripe u)) u m.t.now
def Mdl.tick (m : Mdl) (n : Nat) : Mdl := { m with t := m.t.pass n }
def Mdl.sweep (m : Mdl) (s : Int) : Mdl :=
  if s < 0 ∨ m.bs.length ≤ s then m else
    let r := bSweep (m.book s.toNat) m.t.now
    { m with t := m.t.take, bs := m.bs.set s.toNat r.1, fs := m.fs.set s.toNat ((m.feed s.toNat).tell r.2 m.t.take.seq) }
def Mdl.write (m : Mdl) (x : OpP) : Mdl × Rep :=
  if m.t.shut = true then ({ m with t := m.t.take }, ⟨5, [], [], false⟩) else
    let s := m.stripe x.user
    let r := bWrite (m.book s) x m.t.now m.c.sessions
    ({ m with t := m.t.take, bs := m.bs.set s r.1, fs := m.fs.set s ((m.feed s).tell r.2.1 m.t.take.seq) }, ⟨r.2.2, [], [], false⟩)
def Mdl.count (m : Mdl) (who : Int) : Nat := (m.fs.map fun f => f.count who).sum
def Mdl.watch (m : Mdl) (who : Int) (u : ByteArray) : Mdl × Int :=
  let s := m.stripe u
  if (m.feed s).watching who u = false ∧ m.c.watches ≤ m.count who then (m, 4) else ({ m with fs := m.fs.set s ((m.feed s).watch who u) }, 0)
def Mdl.poll (m : Mdl) (who : Int) : Mdl × Rep :=
  ({ m with fs := m.fs.map fun f => (f.drain who).1 }, ⟨0, [], merge (m.fs.map fun f => (f.drain who).2.1), m.fs.any fun f => (f.drain who).2.2⟩)
def Mdl.do (m : Mdl) (who : Int) (x : OpP) : Mdl × Rep :=
  if opBad x = true ∨ ¬ (0 ≤ who ∧ who ≤ 7) then (m, ⟨1, [], [], false⟩)
  else if x.kind = 1 ∨ x.kind = 2 ∨ x.kind = 3 then m.write x
  else if x.kind = 8 then m.poll who
  else if m.t.shut = true then (m, ⟨5, [], [], false⟩)
  else if x.kind = 6 then ((m.watch who x.user).1, ⟨(m.watch who x.user).2, [], [], false⟩)
  else if x.kind = 7 then ({ m with fs := m.fs.set (m.stripe x.user) ((m.feed (m.stripe x.user)).unwatch who x.user) }, Rep.zero)
  else if x.kind = 9 then ({ m with t := m.t.close }, Rep.zero)
  else (m, ⟨0, (usersOf x).map m.pres, [], false⟩)

/-- So great is it at most. -/
def Mdl.sz (m : Mdl) (n : Nat) : Prop := (∀ k ∈ m.bs, k.length ≤ n ∧ ∀ e ∈ k, e.2.ss.length ≤ n) ∧ ∀ f ∈ m.fs, f.watches.length ≤ n
end Go.Dm
/-! Tables in memory. -/
namespace Go.Dm
open Go Go.Proofs
variable {w : World} {R : Value → World → Prop} {Im : Nat → Prop}

def two (r : Value × Value) : List Value := [r.1, r.2]
def ptr (b : Nat) : Value := .pointer (some ⟨b, 0, none⟩)
structure MdR (w : World) (g : Gh) (p : List Nat) (b : Nat) (m : Mdl) (bsv fsv : Value) (ob of : Option Nat) (raws : List (Value × Value)) (fbs : List Nat) : Prop where
  gb : g b = p
  own : Dm.own w b = some (m.c.cells ++ m.t.cells ++ [bsv, fsv])
  bs : SlO w 2 192 bsv raws.length (raws.flatMap two) ob
  ob : ∀ o, ob = some o → g o = p ++ [1]
  bl : raws.length = m.bs.length
  bk : ∀ (i : Nat) (r : Value × Value) (k : Book), raws[i]? = some r → m.bs[i]? = some k → BookI w (ImG g) (.agg #[r.1, r.2]) k
  fs : SlO w 1 186 fsv fbs.length (fbs.map ptr) of
  of : ∀ o, of = some o → g o = p ++ [2]
  fl : fbs.length = m.fs.length
  fd : ∀ (i : Nat) (c : Nat) (f : Feed), fbs[i]? = some c → m.fs[i]? = some f → FeedR w g (p ++ [3, i]) c f
  n1 : m.bs.length = m.c.stripes.toNat
  n2 : m.fs.length = m.c.stripes.toNat
  cr : m.c.right = true
  tk : m.t.ok
def ModelR (w : World) (g : Gh) (p : List Nat) (b : Nat) (m : Mdl) : Prop := ∃ bsv fsv ob of raws fbs, MdR w g p b m bsv fsv ob of raws fbs

section
variable {g g' : Gh} {p q : List Nat} {b : Nat} {m : Mdl} {bsv fsv : Value} {ob of : Option Nat} {raws : List (Value × Value)} {fbs : List Nat} {w w' : World}
theorem MdR.gx (h : MdR w g p b m bsv fsv ob of raws fbs) (e : Ex q w g w' g') (ha : Apart q p) (hq : q ≠ []) : MdR w' g' p b m bsv fsv ob of raws fbs := by
  obtain ⟨o1, o2⟩ := e.own h.own (by rw [h.gb]; exact ha.self)
  have hs : ∀ (s : Nat) (o : Nat), g o = p ++ [s] → ¬ Un q g o := fun s o ho hu => ha [s] (by unfold Un at hu; rwa [ho] at hu)
  exact ⟨by rw [o2]; exact h.gb, o1, h.bs.keep e.fr (fun o ho => hs 1 o (h.ob o ho)), fun o ho => by rw [e.old o (h.bs.lt o ho)]; exact h.ob o ho, h.bl, fun i r k hr hk => (h.bk i r k hr hk).gx hq e,
    h.fs.keep e.fr (fun o ho => hs 2 o (h.of o ho)), fun o ho => by rw [e.old o (h.fs.lt o ho)]; exact h.of o ho, h.fl, fun i c f hc hf => (h.fd i c f hc hf).gx e (ha.sub _) hq, h.n1, h.n2, h.cr, h.tk⟩
theorem MdR.nx (h : MdR w g p b m bsv fsv ob of raws fbs) (e : Nx w g w' g') : MdR w' g' p b m bsv fsv ob of raws fbs :=
  ⟨by rw [e.old b (own_lt h.own)]; exact h.gb, e.fr.own h.own id, h.bs.keep e.fr (fun _ _ => no_not _), fun o ho => by rw [e.old o (h.bs.lt o ho)]; exact h.ob o ho, h.bl, fun i r k hr hk => (h.bk i r k hr hk).gx (p := [0]) (by simp) e.ex,
    h.fs.keep e.fr (fun _ _ => no_not _), fun o ho => by rw [e.old o (h.fs.lt o ho)]; exact h.of o ho, h.fl, fun i c f hc hf => (h.fd i c f hc hf).nx e, h.n1, h.n2, h.cr, h.tk⟩
theorem MdR.no (h : MdR w g p b m bsv fsv ob of raws fbs) (hok : GhOk w g) (f : Fr Dm.no w w') : MdR w' g p b m bsv fsv ob of raws fbs := h.nx (Nx.of_no hok f)
theorem ModelR.gx (h : ModelR w g p b m) (e : Ex q w g w' g') (ha : Apart q p) (hq : q ≠ []) : ModelR w' g' p b m := by
  obtain ⟨_, _, _, _, _, _, h⟩ := h; exact ⟨_, _, _, _, _, _, h.gx e ha hq⟩
theorem ModelR.nx (h : ModelR w g p b m) (e : Nx w g w' g') : ModelR w' g' p b m := by
  obtain ⟨_, _, _, _, _, _, h⟩ := h; exact ⟨_, _, _, _, _, _, h.nx e⟩
theorem ModelR.no (h : ModelR w g p b m) (hok : GhOk w g) (f : Fr Dm.no w w') : ModelR w' g p b m := h.nx (Nx.of_no hok f)

theorem RingR.ptp {a : List Nat} {c : Nat} {cs : List Value} {r : Rng} (h : RingR w g a b r) (k : Pt w c cs w') (hc : ∀ s, g c ≠ a ++ s) : RingR w' g a b r :=
  h.pt k (by have := hc []; rwa [List.append_nil] at this) (hc [0])
theorem FeedR.ptp {a : List Nat} {c : Nat} {cs : List Value} {f : Feed} (h : FeedR w g a b f) (hok : GhOk w g) (k : Pt w c cs w') (hc : ∀ s, g c ≠ a ++ s) (hn : g c ≠ []) : FeedR w' g a b f := by
  obtain ⟨hb, ks, vs, qbs, ho, hm, h1, h2, h3, h4⟩ := h
  have e : Ex (g c) w g w' g := Ex.pt hok k (List.prefix_refl _)
  refine ⟨hb, ks, vs, qbs, k.oth ho (fun hh => hc [] (by rw [List.append_nil, ← hb, hh])), hm.gx hn e, h1, h2, fun i x r hx hr => (h3 i x r hx hr).ptp k fun s hh => hc ([i] ++ s) (by rw [hh, List.append_assoc]), h4⟩
/-- The table's own block is written. -/
theorem MdR.put {t' : Tm} (h : MdR w g p b m bsv fsv ob of raws fbs) (hok : GhOk w g) (hp : p ≠ []) (k : Pt w b (m.c.cells ++ t'.cells ++ [bsv, fsv]) w') (ht : t'.ok) : MdR w' g p b { m with t := t' } bsv fsv ob of raws fbs ∧ Ex p w g w' g := by
  have e : Ex p w g w' g := Ex.pt hok k (by rw [h.gb]; exact List.prefix_refl _)
  have hne : ∀ (s : Nat) (o : Nat), g o = p ++ [s] → ¬ one b o := fun s o ho hx => by
    unfold one at hx; subst hx; rw [h.gb] at ho; have := congrArg List.length ho; simp at this
  refine ⟨⟨h.gb, k.own, h.bs.keep k.fr (fun o ho => hne 1 o (h.ob o ho)), h.ob, h.bl, fun i r x hr hk => (h.bk i r x hr hk).gx hp e, h.fs.keep k.fr (fun o ho => hne 2 o (h.of o ho)), h.of, h.fl, fun i c f hc hf => ?_, h.n1, h.n2, h.cr, ht⟩, e⟩
  refine (h.fd i c f hc hf).ptp hok k (fun s hh => ?_) (by rw [h.gb]; exact hp)
  rw [h.gb] at hh; have := congrArg List.length hh; simp at this
/-- Beside it, under its path. -/
theorem MdR.side {s : Nat} (h : MdR w g p b m bsv fsv ob of raws fbs) (e : Ex (p ++ [s]) w g w' g') (hs : s ≠ 1 ∧ s ≠ 2 ∧ s ≠ 3) : MdR w' g' p b m bsv fsv ob of raws fbs := by
  obtain ⟨o1, o2⟩ := e.own h.own (by rw [h.gb]; exact not_child p s)
  have hne : ∀ (t : Nat) (o : Nat), t ≠ s → g o = p ++ [t] → ¬ Un (p ++ [s]) g o := fun t o ht ho hu => by
    unfold Un at hu; rw [ho, List.prefix_append_right_inj] at hu; simp at hu; exact ht hu.symm
  refine ⟨by rw [o2]; exact h.gb, o1, h.bs.keep e.fr (fun o ho => hne 1 o (fun hh => hs.1 hh.symm) (h.ob o ho)), fun o ho => by rw [e.old o (h.bs.lt o ho)]; exact h.ob o ho, h.bl, fun j r k hr hk => (h.bk j r k hr hk).gx (by simp) e,
    h.fs.keep e.fr (fun o ho => hne 2 o (fun hh => hs.2.1 hh.symm) (h.of o ho)), fun o ho => by rw [e.old o (h.fs.lt o ho)]; exact h.of o ho, h.fl, fun j c f hc hf => (h.fd j c f hc hf).gx e (fun t hh => ?_) (by simp), h.n1, h.n2, h.cr, h.tk⟩
  rw [List.append_assoc, List.prefix_append_right_inj] at hh; simp at hh; exact hs.2.2 hh
/-- A feed has changed. -/
theorem MdR.feed {i c : Nat} {f' : Feed} (h : MdR w g p b m bsv fsv ob of raws fbs) (hc : fbs[i]? = some c) (hf : FeedR w' g' (p ++ [3, i]) c f') (e : Ex (p ++ [3, i]) w g w' g') : MdR w' g' p b { m with fs := m.fs.set i f' } bsv fsv ob of raws fbs := by
  have ha : Apart (p ++ [3, i]) p → False := fun h => h [3, i] (List.prefix_refl _)
  have hself : ¬ p ++ [3, i] <+: p := fun h => by have := h.length_le; simp at this; omega
  obtain ⟨o1, o2⟩ := e.own h.own (by rw [h.gb]; exact hself)
  have hs : ∀ (s : Nat) (o : Nat), g o = p ++ [s] → ¬ Un (p ++ [3, i]) g o := fun s o ho hu => by
    unfold Un at hu; rw [ho] at hu; have := hu.length_le; simp at this
  refine ⟨by rw [o2]; exact h.gb, o1, h.bs.keep e.fr (fun o ho => hs 1 o (h.ob o ho)), fun o ho => by rw [e.old o (h.bs.lt o ho)]; exact h.ob o ho, h.bl, fun j r k hr hk => (h.bk j r k hr hk).gx (by simp) e,
    h.fs.keep e.fr (fun o ho => hs 2 o (h.of o ho)), fun o ho => by rw [e.old o (h.fs.lt o ho)]; exact h.of o ho, by simpa using h.fl, fun j c' f hc' hj => ?_, h.n1, by simpa using h.n2, h.cr, h.tk⟩
  rw [List.getElem?_set] at hj
  split at hj
  · rename_i hij
    subst hij
    rw [hc] at hc'; cases hc'
    split at hj
    · cases hj; exact hf
    · cases hj
  · rename_i hij
    refine (h.fd j c' f hc' hj).gx e (fun s hh => ?_) (by simp)
    rw [List.append_assoc, List.prefix_append_right_inj] at hh
    simp at hh; exact hij hh
/-- A book has changed. -/
theorem MdR.book {i : Nat} {k' : Book} {ks vs : Value} (h : MdR w g p b m bsv fsv ob of raws fbs) (hok : GhOk w g) (hp : p ≠ []) (hi : i < raws.length) (hb : BookI w (ImG g) (.agg #[ks, vs]) k')
    (hs : SlO w' 2 192 bsv raws.length (splice (raws.flatMap two) (i * 2) [ks, vs]) ob) (f : Fr (fun x => ob = some x) w w') : MdR w' g p b { m with bs := m.bs.set i k' } bsv fsv ob of (raws.set i (ks, vs)) fbs ∧ Ex p w g w' g := by
  have e1 : Ex (p ++ [1]) w g w' g := ⟨f.mono fun x _ hx => by unfold Un; rw [h.ob x hx]; exact List.prefix_refl _, fun _ _ => rfl, hok.mono f.size⟩
  have hself : ¬ p ++ [1] <+: p := not_child p 1
  obtain ⟨o1, _⟩ := e1.own h.own (by rw [h.gb]; exact hself)
  have hfl : splice (raws.flatMap two) (i * 2) [ks, vs] = (raws.set i (ks, vs)).flatMap two := by
    exact flat_set (k := 2) (enc := two) (x := (ks, vs)) (fun _ => rfl) hi
  rw [hfl] at hs
  refine ⟨⟨h.gb, o1, by rw [List.length_set]; exact hs, h.ob, by simpa using h.bl, fun j r k hr hk => ?_, h.fs.keep e1.fr (fun o ho hu => ?_), h.of, h.fl, fun j c f hc hf => (h.fd j c f hc hf).gx e1 (fun s hh => ?_) (by simp), by simpa using h.n1, h.n2, h.cr, h.tk⟩, e1.up (List.prefix_append _ _)⟩
  · rw [List.getElem?_set] at hr hk
    split at hr
    · rename_i hij
      subst hij
      rw [if_pos rfl] at hk
      split at hk
      · cases hk; cases hr; exact hb.gx (by simp) e1
      · cases hk
    · rename_i hij
      rw [if_neg hij] at hk
      exact (h.bk j r k hr hk).gx (by simp) e1
  · unfold Un at hu; rw [h.of o ho, List.prefix_append_right_inj] at hu; simp at hu
  · rw [List.append_assoc, List.prefix_append_right_inj] at hh; simp at hh
end
end Go.Dm
/-! What tables ask. -/
namespace Go.Dm
open Go Go.Proofs
variable {w : World} {R : Value → World → Prop} {Im : Nat → Prop}

/-- Boxes made since. -/
structure Bn (w : World) (X : Nat → Prop) (u : World) : Prop where
  fr : Fr no w u
  ge : ∀ b, X b → w.heap.size ≤ b
  lt : ∀ b, X b → b < u.heap.size
theorem Bn.start (w : World) : Bn w no w := ⟨Fr.refl _ _, fun _ h => h.elim, fun _ h => h.elim⟩
theorem Bn.sy {w u u' : World} {X X' : Nat → Prop} (h : Bn w X u) (y : Sy u X u' X') : Bn w X' u' := by
  have := y.step h.fr h.ge; exact ⟨this.1, this.2.1, this.2.2⟩
theorem Bn.no {w u u' : World} {X : Nat → Prop} (h : Bn w X u) (f : Fr Dm.no u u') : Bn w X u' := ⟨h.fr.trans f, h.ge, fun b hb => Nat.lt_of_lt_of_le (h.lt b hb) f.size⟩
theorem Bn.kp {w u u' : World} {X : Nat → Prop} (h : Bn w X u) (f : Fr Dm.no u u') : Dm.kp X u u' := kp_no f h.lt
theorem Bn.rf {w u : World} {X : Nat → Prop} (h : Bn w X u) : Dm.kp X u u := kp_no (Fr.refl _ _) h.lt

abbrev NT := Env → World → (Nat → Prop) → Prop
theorem and_gB {b : Bool} {k : Nat} {A : NT → Prop} {Q : Value → World → (Nat → Prop) → Prop} {w : World} {X : Nat → Prop} (h0 : b = false → Q (.bool false) w X)
    (h1 : b = true → A (fun e w' X' => pv (pickV (.bool true) (e k) (.bool false)) fun t => Q t w' X')) :
    gdB (.bool b) true A (fun N => N (upd e0 k undef) w X) (fun g w' X' => pv (pickV (.bool b) (g k) (.bool false)) fun t => Q t w' X') := by
  cases b with
  | false => rw [gdB_b, if_neg (by simp)]; exact h0 rfl
  | true => rw [gdB_b, if_pos rfl]; exact h1 rfl
theorem or_gB {b : Bool} {k : Nat} {A : NT → Prop} {Q : Value → World → (Nat → Prop) → Prop} {w : World} {X : Nat → Prop} (h0 : b = true → Q (.bool true) w X)
    (h1 : b = false → A (fun e w' X' => pv (pickV (.bool false) (.bool true) (e k)) fun t => Q t w' X')) :
    gdB (.bool b) false A (fun N => N (upd e0 k undef) w X) (fun g w' X' => pv (pickV (.bool b) (.bool true) (g k)) fun t => Q t w' X') := by
  cases b with
  | true => rw [gdB_b, if_neg (by simp)]; exact h0 rfl
  | false => rw [gdB_b, if_pos rfl]; exact h1 rfl

theorem jn_or {k n1 n2 : Int} {K : NT} {E : Value → Env} {w : World} {X : Nat → Prop} (h : K (E (.bool (decide (k = n1 ∨ k = n2)))) w X) :
    jnB (fun K14 => pv (binV .eql (.int .i64 k) (.int .i64 n1)) fun t24 => condC t24 (K14 (E t24) w X) (pv (binV .eql (.int .i64 k) (.int .i64 n2)) fun t25 => K14 (E t25) w X)) K := by
  rw [jnB_e]
  refine pv_i eql_i ?_
  by_cases h1 : k = n1
  · rw [decide_eq_true h1, condC_t]; rw [decide_eq_true (.inl h1)] at h; exact h
  · rw [decide_eq_false h1, condC_f]; refine pv_i eql_i ?_
    have : decide (k = n1 ∨ k = n2) = decide (k = n2) := by simp [h1]
    rw [this] at h; exact h
theorem jn_or3 {k n1 n2 n3 : Int} {K : NT} {E : Value → Env} {w : World} {X : Nat → Prop} (h : K (E (.bool (decide (k = n1 ∨ k = n2 ∨ k = n3)))) w X) :
    jnB (fun K14 => pv (binV .eql (.int .i64 k) (.int .i64 n1)) fun t24 => condC t24 (K14 (E t24) w X) (pv (binV .eql (.int .i64 k) (.int .i64 n2)) fun t25 => condC t25 (K14 (E t25) w X) (pv (binV .eql (.int .i64 k) (.int .i64 n3)) fun t26 => K14 (E t26) w X))) K := by
  rw [jnB_e]
  refine pv_i eql_i ?_
  by_cases h1 : k = n1
  · rw [decide_eq_true h1, condC_t]; rw [decide_eq_true (.inl h1)] at h; exact h
  · rw [decide_eq_false h1, condC_f]; refine pv_i eql_i ?_
    by_cases h2 : k = n2
    · rw [decide_eq_true h2, condC_t]; rw [decide_eq_true (.inr (.inl h2))] at h; exact h
    · rw [decide_eq_false h2, condC_f]; refine pv_i eql_i ?_
      have : decide (k = n1 ∨ k = n2 ∨ k = n3) = decide (k = n3) := by simp [h1, h2]
      rw [this] at h; exact h

theorem c139 {c : Cfg} (h : ∀ w', Fr no w w' → R (.bool c.right) w') : CallsR Tryz.prog 139 #[c.v] w R := by
  apply sh139; unfold S139
  refine ⟨rfl, ?_⟩
  refine pv_i (v := .int .i64 c.stripes) rfl ?_
  intro w1 X1 y1
  have hB := (Bn.start w).sy y1
  have h := h w1 hB.fr
  unfold Cfg.right at h
  refine c174 ⟨hB.rf, ?_⟩
  refine and_gB (fun h1 => ?_) (fun h1 => ?_)
  · refine and_gB (fun _ => ?_) (fun h => by cases h)
    refine and_gB (fun _ => ?_) (fun h => by cases h)
    refine and_gB (fun _ => ?_) (fun h => by cases h)
    rw [decide_eq_false (by have := of_decide_eq_false h1; omega)] at h; exact h
  have h1 := of_decide_eq_true h1
  refine pv_i (v := .int .i64 c.sessions) rfl ?_
  refine c174 ⟨hB.rf, ?_⟩
  refine pv_i (v := .bool _) rfl ?_
  refine and_gB (fun h2 => ?_) (fun h2 => ?_)
  · refine and_gB (fun _ => ?_) (fun h => by cases h)
    refine and_gB (fun _ => ?_) (fun h => by cases h)
    rw [decide_eq_false (by have := of_decide_eq_false h2; omega)] at h; exact h
  have h2 := of_decide_eq_true h2
  refine pv_i (v := .int .i64 c.queue) rfl ?_
  refine c174 ⟨hB.rf, ?_⟩
  refine pv_i (v := .bool _) rfl ?_
  refine and_gB (fun h3 => ?_) (fun h3 => ?_)
  · refine and_gB (fun _ => ?_) (fun h => by cases h)
    rw [decide_eq_false (by have := of_decide_eq_false h3; omega)] at h; exact h
  have h3 := of_decide_eq_true h3
  refine pv_i (v := .int .i64 c.watches) rfl ?_
  refine c174 ⟨hB.rf, ?_⟩
  refine pv_i (v := .bool _) rfl ?_
  refine and_gB (fun h4 => ?_) (fun h4 => ?_)
  · rw [decide_eq_false (by have := of_decide_eq_false h4; omega)] at h; exact h
  have h4 := of_decide_eq_true h4
  refine pv_i (v := .int .i64 c.retries) rfl ?_
  refine c174 ⟨hB.rf, ?_⟩
  refine pv_i (v := .bool _) rfl ?_
  have : decide (0 ≤ c.retries ∧ c.retries ≤ 4) = decide ((1 ≤ c.stripes ∧ c.stripes ≤ 8) ∧ (1 ≤ c.sessions ∧ c.sessions ≤ 8) ∧ (1 ≤ c.queue ∧ c.queue ≤ 16) ∧ (1 ≤ c.watches ∧ c.watches ≤ 8) ∧ (0 ≤ c.retries ∧ c.retries ≤ 4)) := by
    simp only [h1, h2, h3, h4, true_and, and_self]
  rw [← this] at h; exact h

section
variable {g : Gh} {p : List Nat} {b : Nat} {m : Mdl}
theorem Cfg.right_i {c : Cfg} (h : c.right = true) : (1 ≤ c.stripes ∧ c.stripes ≤ 8) ∧ (1 ≤ c.sessions ∧ c.sessions ≤ 8) ∧ (1 ≤ c.queue ∧ c.queue ≤ 16) ∧ (1 ≤ c.watches ∧ c.watches ≤ 8) ∧ (0 ≤ c.retries ∧ c.retries ≤ 4) := of_decide_eq_true h
theorem ModelR.own {w : World} (h : ModelR w g p b m) : ∃ bsv fsv, Dm.own w b = some (m.c.cells ++ m.t.cells ++ [bsv, fsv]) := by
  obtain ⟨bsv, fsv, _, _, _, _, h⟩ := h; exact ⟨bsv, fsv, h.own⟩
theorem c178 {u : ByteArray} (hm : ∃ bsv fsv, blk w b = some (m.c.cells ++ m.t.cells ++ [bsv, fsv])) (hc : m.c.right = true) (hu : u.size < 2^62) (h : R (.int .i64 (m.stripe u : Nat)) w) : CallsR Tryz.prog 178 #[.pointer (some ⟨b, 0, none⟩), .string u] w R := by
  apply sh178; unfold S178
  obtain ⟨bsv, fsv, ho⟩ := hm
  refine pv_i rfl ?_
  refine pv_i (v := .pointer (some ⟨b, 0, none⟩)) rfl ?_
  refine pv_i (v := .pointer (some ⟨b, 0, none⟩)) rfl ?_
  refine ld_b ho rfl ?_
  have h1 := (Cfg.right_i hc).1
  have : m.c.stripes = (m.c.stripes.toNat : Int) := by omega
  rw [this]
  exact c185 hu (by omega) (by omega) h
theorem stripe_lt (hc : m.c.right = true) (u : ByteArray) : m.stripe u < m.c.stripes.toNat := by
  have h1 := (Cfg.right_i hc).1
  unfold Mdl.stripe stripeOf
  exact Nat.mod_lt _ (by omega)
theorem c194 (hm : ModelR w g p b m) (hok : GhOk w g) (hp : p ≠ []) (h : ∀ w', ModelR w' g p b { m with t := m.t.take } → Ex p w g w' g → R (.int .u64 m.t.take.seq) w') : CallsR Tryz.prog 194 #[.pointer (some ⟨b, 0, none⟩)] w R := by
  apply sh194; unfold S194
  obtain ⟨bsv, fsv, ob, of, raws, fbs, hm⟩ := hm
  refine pv_i rfl ?_
  refine pv_i (v := .pointer (some ⟨b, 7, none⟩)) rfl ?_
  refine la_i (xs := m.t.cells) hm.own (by exact (by decide : 7 + 3 ≤ 12)) rfl ?_
  refine c293 hm.tk fun w1 f1 => ?_
  refine pv_i (ext2a _ _) (pv_i (ext2b _ _) ?_)
  refine pv_i rfl ?_
  refine pv_i (v := .pointer (some ⟨b, 7, none⟩)) rfl ?_
  refine st_i (f1.own hm.own id) (by exact (by decide : 7 + 3 ≤ 12)) rfl rfl rfl fun w2 p2 => ?_
  have := (hm.no hok f1).put (t' := m.t.take) (hok.mono f1.size) hp p2 (Tm.take_ok hm.tk)
  exact h w2 ⟨_, _, _, _, _, _, this.1⟩ ((Ex.of_no hok f1).trans this.2)
theorem c64 {n : Nat} (hm : ModelR w g p b m) (hok : GhOk w g) (hp : p ≠ []) (hn : n ≤ maxU) (h : ∀ w', ModelR w' g p b (m.tick n) → Ex p w g w' g → R (.tuple #[]) w') : CallsR Tryz.prog 64 #[.pointer (some ⟨b, 0, none⟩), .int .u64 n] w R := by
  apply sh64; unfold S64
  obtain ⟨bsv, fsv, ob, of, raws, fbs, hm⟩ := hm
  refine pv_i rfl ?_
  refine pv_i (v := .pointer (some ⟨b, 7, none⟩)) rfl ?_
  refine la_i (xs := m.t.cells) hm.own (by exact (by decide : 7 + 3 ≤ 12)) rfl ?_
  refine c171 hm.tk hn fun w1 f1 => ?_
  refine pv_i rfl ?_
  refine pv_i (v := .pointer (some ⟨b, 7, none⟩)) rfl ?_
  refine st_i (f1.own hm.own id) (by exact (by decide : 7 + 3 ≤ 12)) rfl rfl rfl fun w2 p2 => ?_
  have := (hm.no hok f1).put (t' := m.t.pass n) (hok.mono f1.size) hp p2 (Tm.pass_ok hm.tk)
  exact h w2 ⟨_, _, _, _, _, _, this.1⟩ ((Ex.of_no hok f1).trans this.2)
end

theorem c67 {v : Value} {x : OpP} (hx : OpI w Im v x) (hn : x.users.length < 2^60) (h : ∀ w', Fr no w w' → R (.bool (opBad x)) w') : CallsR Tryz.prog 67 #[v] w R := by
  apply sh67; unfold S67
  have hok := hx.ok
  obtain ⟨us, rfl, hus, htt⟩ := id hx
  refine ⟨hok, ?_⟩
  rw [jnB_e]
  refine pv_i (v := .int .i64 x.kind) rfl ?_
  refine pv_i eql_i ?_
  have h0 := Bn.start w
  by_cases k1 : x.kind = 1
  · rw [decide_eq_true k1, condC_t]
    have hb : opBad x = (!keyOk x.user || !sessOk x.id x.st x.pr) := by unfold opBad; rw [if_pos k1]
    refine pv_i (v := .string x.user) rfl ?_
    intro w1 X1 y1
    have hB := h0.sy y1
    have h := h w1 hB.fr
    rw [hb] at h
    refine c172 ⟨hB.rf, ?_⟩
    refine pv_i (not_b _) ?_
    refine or_gB (fun h1 => ?_) (fun h1 => ?_)
    · unfold keyOk at h; rw [h1] at h; exact h
    · unfold keyOk at h; rw [h1] at h
      refine pv_i (v := .int .i64 x.id) rfl ?_
      refine pv_i (v := .int .i64 x.st) rfl ?_
      refine pv_i (v := .int .i64 x.pr) rfl ?_
      refine c173 ⟨hB.rf, ?_⟩
      refine pv_i (not_b _) ?_
      exact pv_i rfl h
  rw [decide_eq_false k1, condC_f]
  refine jn_or ?_
  dsimp only [upd]
  by_cases k2 : x.kind = 2 ∨ x.kind = 3
  · rw [decide_eq_true k2, condC_t]
    have hb : opBad x = (!keyOk x.user || !decide (0 ≤ x.id ∧ x.id ≤ 255)) := by unfold opBad; rw [if_neg k1, if_pos k2]
    refine pv_i (v := .string x.user) rfl ?_
    intro w1 X1 y1
    have hB := h0.sy y1
    have h := h w1 hB.fr
    rw [hb] at h
    refine c172 ⟨hB.rf, ?_⟩
    refine pv_i (not_b _) ?_
    refine or_gB (fun h1 => ?_) (fun h1 => ?_)
    · unfold keyOk at h; rw [h1] at h; exact h
    · unfold keyOk at h; rw [h1] at h
      refine pv_i (v := .int .i64 x.id) rfl ?_
      refine c174 ⟨hB.rf, ?_⟩
      refine pv_i (not_b _) ?_
      exact pv_i rfl h
  rw [decide_eq_false k2, condC_f]
  refine jn_or3 ?_
  dsimp only [upd]
  by_cases k3 : x.kind = 4 ∨ x.kind = 6 ∨ x.kind = 7
  · rw [decide_eq_true k3, condC_t]
    have hb : opBad x = !keyOk x.user := by unfold opBad; rw [if_neg k1, if_neg k2, if_pos k3]
    refine pv_i (v := .string x.user) rfl ?_
    intro w1 X1 y1
    have hB := h0.sy y1
    have h := h w1 hB.fr
    rw [hb] at h
    refine c172 ⟨hB.rf, ?_⟩
    exact pv_i (not_b _) h
  rw [decide_eq_false k3, condC_f]
  refine pv_i eql_i ?_
  by_cases k4 : x.kind = 5
  · rw [decide_eq_true k4, condC_t, jnB_e]
    have hb : opBad x = (x.users.any (fun u => !keyOk u) || !decide (1 ≤ x.users.length ∧ x.users.length ≤ 8)) := by unfold opBad; rw [if_neg k1, if_neg k2, if_neg k3, if_pos k4]
    refine pv_i (v := us) rfl ?_
    refine pv_i hus.lenV ?_
    refine lp_c (fun d e u X => ∃ i : Nat, d = x.users.length - i ∧ i ≤ x.users.length ∧ Bn w X u ∧ (∀ j s, j < i → x.users[j]? = some s → keyOk s = true) ∧ e 1 = .agg #[.int .i64 x.kind, .string x.user, .int .i64 x.id, .int .i64 x.st, .int .i64 x.pr, .int .u64 x.ttl, us] ∧ e 47 = us ∧ e 48 = .int .i64 x.users.length ∧ e 49 = .int .i64 (i : Nat)) x.users.length
      ⟨0, rfl, by omega, h0, (fun j s hj => by omega), rfl, rfl, rfl, rfl⟩ ?_
    rintro d e u X N ⟨i, rfl, hi, hB, hall, e1, e47, e48, e49⟩ hN
    simp only [e1, e47, e48, e49]
    refine pv_i lss_i ?_
    by_cases hlt : i < x.users.length
    · rw [decide_eq_true (by omega), condC_t]
      obtain ⟨s, hs⟩ : ∃ s, x.users[i]? = some s := ⟨_, List.getElem?_eq_getElem hlt⟩
      obtain ⟨a, ha, hld⟩ := (hus.ext hB.fr).ld1' (i := (i : Nat)) (kd := .i64) (by omega) (by omega) (x := .string s) (by rw [Int.toNat_natCast, List.getElem?_map, hs]; rfl)
      refine pv_i ha (hld _ ?_)
      intro u1 X1 y1
      have hB1 := hB.sy y1
      refine c172 ⟨hB1.rf, ?_⟩
      refine pv_i (not_b _) ?_
      cases hk : keyOk s with
      | false =>
        have hk' : decide (s.size ≠ 0 ∧ s.size ≤ 16) = false := hk
        rw [hk', Bool.not_false, condC_t]
        have h := h u1 hB1.fr
        have : x.users.any (fun u => !keyOk u) = true := List.any_eq_true.2 ⟨s, List.mem_of_getElem? hs, by rw [hk]; rfl⟩
        rw [hb, this] at h; exact h
      | true =>
        have hk' : decide (s.size ≠ 0 ∧ s.size ≤ 16) = true := hk
        rw [hk', Bool.not_true, condC_f]
        refine pv_i (add1 (by omega)) ?_
        refine hN _ _ _ _ (by omega) ⟨i + 1, rfl, by omega, hB1, fun j t hj ht => ?_, rfl, rfl, rfl, rfl⟩
        rcases Nat.lt_or_ge j i with h1 | h1
        · exact hall j t h1 ht
        · have : j = i := by omega
          subst this; rw [hs] at ht; cases ht; exact hk
    · have : i = x.users.length := by omega
      subst this
      rw [decide_eq_false (by omega), condC_f]
      refine pv_i (v := us) rfl ?_
      refine pv_i hus.lenV ?_
      intro u1 X1 y1
      have hB1 := hB.sy y1
      refine c174 ⟨hB1.rf, ?_⟩
      refine pv_i (not_b _) ?_
      have h := h u1 hB1.fr
      have : x.users.any (fun u => !keyOk u) = false := List.any_eq_false.2 fun s hs => by
        obtain ⟨j, hj⟩ := List.getElem?_of_mem hs
        have hjl : j < x.users.length := by
          rcases Nat.lt_or_ge j x.users.length with hh | hh
          · exact hh
          · rw [List.getElem?_eq_none hh] at hj; cases hj
        rw [hall j s hjl hj]; simp
      rw [hb, this, Bool.false_or] at h
      have e : decide ((1 : Int) ≤ (x.users.length : Int) ∧ (x.users.length : Int) ≤ 8) = decide (1 ≤ x.users.length ∧ x.users.length ≤ 8) := by
        congr 1; apply propext; omega
      rw [e]; exact h
  rw [decide_eq_false k4, condC_f]
  refine jn_or ?_
  dsimp only [upd]
  by_cases k5 : x.kind = 8 ∨ x.kind = 9
  · rw [decide_eq_true k5, condC_t]
    have hb : opBad x = false := by unfold opBad; rw [if_neg k1, if_neg k2, if_neg k3, if_neg k4, if_pos k5]
    intro w1 X1 y1
    have hB := h0.sy y1
    have h := h w1 hB.fr
    rw [hb] at h; exact h
  · rw [decide_eq_false k5, condC_f]
    have hb : opBad x = true := by unfold opBad; rw [if_neg k1, if_neg k2, if_neg k3, if_neg k4, if_neg k5]
    intro w1 X1 y1
    have hB := h0.sy y1
    have h := h w1 hB.fr
    rw [hb] at h; exact h
end Go.Dm
/-! What tables answer. -/
namespace Go.Dm
open Go Go.Proofs
variable {w : World} {R : Value → World → Prop} {Im : Nat → Prop}

theorem SlO.new {w : World} {k n : Nat} {t : TypeId} {cs : List Value} (h : cs.length = n * k) : SlO (newB w cs t) k t (.slice (some ⟨w.heap.size, 0, none⟩) n n) n cs (some w.heap.size) := by
  have nw := newB_nw w cs t
  refine ⟨⟨n, rfl, Nat.le_refl _, (fun h => by cases h), fun b hb => ?_⟩, h⟩
  cases hb
  exact ⟨_, nw.own, h, List.take_of_length_le (by omega), nw.typ⟩
theorem bs_i {w : World} {k n : Nat} {zero : List Value} {t : TypeId} {parts : List (Nat × Value)} {cs : List Value} {K : Value → World → Prop} (hf : fillL (fun i => some (i * k, k)) (repL n zero) parts = some cs) (hn : cs.length = n * k)
    (h : ∀ v w', SlO w' k t v n cs (some w.heap.size) → Fr no w w' → w'.heap.size = w.heap.size + 1 → K v w') : bsC w k zero t n parts K := by
  have nw := newB_nw w cs t
  exact ⟨cs, hf, h _ _ (SlO.new hn) nw.fr nw.size⟩

section
variable {g : Gh} {p : List Nat} {b : Nat} {m : Mdl} {bsv fsv : Value} {ob of : Option Nat} {raws : List (Value × Value)} {fbs : List Nat}
theorem MdR.at {s : Nat} (h : MdR w g p b m bsv fsv ob of raws fbs) (hs : s < m.c.stripes.toNat) : ∃ r k c f, raws[s]? = some r ∧ m.bs[s]? = some k ∧ fbs[s]? = some c ∧ m.fs[s]? = some f ∧ m.book s = k ∧ m.feed s = f := by
  have h1 := h.n1; have h2 := h.n2; have h3 := h.bl; have h4 := h.fl
  have e2 : m.bs[s]? = some m.bs[s] := List.getElem?_eq_getElem (by omega)
  have e4 : m.fs[s]? = some m.fs[s] := List.getElem?_eq_getElem (by omega)
  exact ⟨raws[s], m.bs[s], fbs[s], m.fs[s], List.getElem?_eq_getElem (by omega), e2, List.getElem?_eq_getElem (by omega), e4, by unfold Mdl.book; rw [e2]; rfl, by unfold Mdl.feed; rw [e4]; rfl⟩
/-- A book read. -/
theorem MdR.ldb {s : Nat} {r : Value × Value} (h : MdR w g p b m bsv fsv ob of raws fbs) (hr : raws[s]? = some r) : ∃ a, idxSV 2 bsv (.int .i64 (s : Nat)) = some a ∧ ∀ K : Value → Prop, K (.agg #[r.1, r.2]) → ldC w true 2 a K := by
  obtain ⟨a, h1, h2⟩ := h.bs.imm.at (kd := .i64) (enc := two) (fun _ => rfl) hr
  exact ⟨a, h1, h2⟩
/-- A feed's address read. -/
theorem MdR.ldf {s c : Nat} (h : MdR w g p b m bsv fsv ob of raws fbs) (hc : fbs[s]? = some c) : ∃ a, idxSV 1 fsv (.int .i64 (s : Nat)) = some a ∧ ∀ K : Value → Prop, K (.pointer (some ⟨c, 0, none⟩)) → ldC w false 1 a K := by
  have hl : s < fbs.length := by
    rcases Nat.lt_or_ge s fbs.length with hh | hh
    · exact hh
    · rw [List.getElem?_eq_none hh] at hc; cases hc
  exact h.fs.imm.ld1' (i := (s : Nat)) (kd := .i64) (by omega) (by omega) (x := ptr c) (by rw [Int.toNat_natCast, List.getElem?_map, hc]; rfl)

theorem c182 {u : ByteArray} {n : Nat} (hm : ModelR w g p b m) (hok : GhOk w g) (hu : u.size < 2^62) (hz : m.sz n) (hn : n < 2^36) (h : ∀ w', Fr no w w' → R (m.pres u).v w') : CallsR Tryz.prog 182 #[.pointer (some ⟨b, 0, none⟩), .string u] w R := by
  apply sh182; unfold S182
  intro w1 X1 y1
  have hB := (Bn.start w).sy y1
  refine pv_i rfl ?_
  refine pv_i (v := .pointer (some ⟨b, 10, none⟩)) rfl ?_
  refine pv_i rfl ?_
  refine pv_i (v := .pointer (some ⟨b, 7, none⟩)) rfl ?_
  refine pv_i (v := .pointer (some ⟨b, 7, none⟩)) rfl ?_
  have hB2 := hB.no (drewW_fr no w1)
  generalize drewW w1 = w2 at hB2 ⊢
  obtain ⟨bsv, fsv, ob, of, raws, fbs, hm⟩ := hm.no hok hB2.fr
  refine ld_i hm.own rfl ?_
  refine ld_i hm.own rfl ?_
  refine c178 ⟨_, _, own_blk hm.own⟩ hm.cr hu ?_
  obtain ⟨r, k, c, f, h1, h2, h3, h4, h5, h6⟩ := hm.at (stripe_lt hm.cr u)
  refine ⟨hB2.rf, ⟨b, 7, _, rfl, own_blk hm.own, rfl⟩, ⟨b, 10, _, rfl, own_blk hm.own, rfl⟩, ?_⟩
  obtain ⟨a, ha, hl⟩ := hm.ldb h1
  refine pv_i ha (hl _ ?_)
  have hk := hz.1 k (List.mem_of_getElem? h2)
  refine c283 (hm.bk _ _ _ h1 h2) (by omega) fun w3 f3 => ?_
  have hB3 := hB2.no f3
  refine ⟨hB2.kp f3, rfl, ?_⟩
  intro w4 X4 y4
  have := h w4 (hB3.sy y4).fr
  unfold Mdl.pres at this; rw [h5] at this; exact this
end

theorem flat_str : ∀ l : List ByteArray, (l.map Value.string).all one1 = true
  | [] => rfl
  | a :: l => by rw [List.map_cons, List.all_cons, flat_str l]; rfl
theorem c181 {v : Value} {x : OpP} (hx : OpI w Im v x) (hn : x.users.length < 2^40) (h : ∀ v' w' o, SlO w' 1 9 v' (usersOf x).length ((usersOf x).map Value.string) o → (∀ b, o = some b → w.heap.size ≤ b) → Fr no w w' → R v' w') : CallsR Tryz.prog 181 #[v] w R := by
  apply sh181; unfold S181
  have hok := hx.ok
  obtain ⟨us, rfl, hus, htt⟩ := id hx
  refine ⟨hok, ?_⟩
  refine pv_i (v := .int .i64 x.kind) rfl ?_
  refine pv_i eql_i ?_
  by_cases k1 : x.kind = 4
  · rw [decide_eq_true k1, condC_t]
    refine pv_i (v := .string x.user) rfl ?_
    intro w1 X1 y1
    have hB := (Bn.start w).sy y1
    refine bs_i (cs := [.string x.user]) rfl rfl fun v2 w2 s2 f2 z2 => ?_
    have := hB.fr.size
    refine h v2 w2 (some w1.heap.size) ?_ (fun b hb => by cases hb; exact this) (hB.fr.trans f2)
    unfold usersOf; rw [if_pos k1]; exact s2
  rw [decide_eq_false k1, condC_f]
  refine pv_i eql_i ?_
  by_cases k2 : x.kind = 5
  · rw [decide_eq_true k2, condC_t]
    intro w1 X1 y1
    have hB := (Bn.start w).sy y1
    have hz := hB.fr.size
    refine bs_i (cs := []) rfl rfl fun v2 w2 s2 f2 z2 => ?_
    refine pv_i (v := us) rfl ?_
    have hB2 := hB.no f2
    obtain ⟨base, cc, rfl, _, _, hrow⟩ := (hus.ext hB2.fr).row
    refine ap_o s2 hrow rfl (by decide) (by omega) (flat_str x.users) fun v3 w3 o3 s3 f3 ho3 => ?_
    have ho3' : ∀ b, o3 = some b → w1.heap.size ≤ b := fun b hb => by
      rcases ho3 b hb with hh | hh
      · cases hh; exact Nat.le_refl _
      · omega
    refine ⟨kp_fr f3 hB2.lt (fun b hb hh => ?_), ?_⟩
    · cases hh; have := hB.lt _ hb; omega
    refine h v3 w3 o3 ?_ (fun b hb => Nat.le_trans hz (ho3' b hb)) (hB2.fr.trans' f3 (fun b hb hh => by cases hh; omega))
    unfold usersOf; rw [if_neg k1, if_pos k2]; simpa using s3
  · rw [decide_eq_false k2, condC_f]
    intro w1 X1 y1
    have hB := (Bn.start w).sy y1
    refine h _ w1 none ?_ (fun b hb => by cases hb) hB.fr
    unfold usersOf; rw [if_neg k1, if_neg k2]; exact SlO.nil ..

theorem c59 (h : ∀ w', Fr no w w' → R (Cfg.v ⟨3, 2, 16, 4, 1, 100, 0⟩) w') : CallsR Tryz.prog 59 #[] w R := by
  apply sh59; unfold S59
  refine pv_i (v := Cfg.v ⟨3, 2, 16, 4, 1, 100, 0⟩) rfl ?_
  refine ⟨rfl, ?_⟩
  intro w1 X1 y1
  exact h w1 y1.frno

def opShort (x : OpP) : Bool := decide (x.user.size ≤ 40 ∧ x.users.length ≤ 20 ∧ ∀ s ∈ x.users, s.size ≤ 40)
theorem c62 {v : Value} {x : OpP} (hx : OpI w Im v x) (h : ∀ w', Fr no w w' → R (.bool (opShort x)) w') : CallsR Tryz.prog 62 #[v] w R := by
  apply sh62; unfold S62
  have hok := hx.ok
  obtain ⟨us, rfl, hus, htt⟩ := id hx
  refine ⟨hok, ?_⟩
  have h0 := Bn.start w
  have no_ : ¬ (x.user.size ≤ 40 ∧ x.users.length ≤ 20 ∧ ∀ s ∈ x.users, s.size ≤ 40) → ∀ (u : World) (X : Nat → Prop), Bn w X u → syC u X fun w' _ => R (.bool false) w' := fun hh u X hB w' X' y => by
    have := h w' (hB.sy y).fr
    unfold opShort at this; rw [decide_eq_false hh] at this; exact this
  refine pv_i (v := .string x.user) rfl ?_
  refine pv_i (v := .int .i64 x.user.size) rfl ?_
  refine pv_i gtr_i ?_
  refine or_gB (fun h1 => ?_) (fun h1 => ?_)
  · have h1 := of_decide_eq_true h1
    rw [condC_t]
    exact no_ (fun hh => by omega) w no h0
  have h1 := of_decide_eq_false h1
  refine pv_i (v := us) rfl ?_
  refine pv_i hus.lenV ?_
  refine pv_i gtr_i ?_
  refine pv_i (v := .bool _) rfl ?_
  by_cases h2 : 20 < x.users.length
  · rw [decide_eq_true (by omega), condC_t]
    exact no_ (fun hh => by omega) w no h0
  rw [decide_eq_false (by omega), condC_f, jnB_e]
  refine lp_c (fun d e u X => ∃ i : Nat, d = x.users.length - i ∧ i ≤ x.users.length ∧ Bn w X u ∧ (∀ j s, j < i → x.users[j]? = some s → s.size ≤ 40) ∧ e 1 = .agg #[.int .i64 x.kind, .string x.user, .int .i64 x.id, .int .i64 x.st, .int .i64 x.pr, .int .u64 x.ttl, us] ∧ e 3 = .int .i64 (i : Nat)) x.users.length
    ⟨0, rfl, by omega, h0, (fun j s hj => by omega), rfl, rfl⟩ ?_
  rintro d e u X N ⟨i, rfl, hi, hB, hall, e1, e3⟩ hN
  simp only [e1, e3]
  refine pv_i (v := us) rfl ?_
  refine pv_i hus.lenV ?_
  refine pv_i lss_i ?_
  by_cases hlt : i < x.users.length
  · rw [decide_eq_true (by omega), condC_t]
    obtain ⟨s, hs⟩ : ∃ s, x.users[i]? = some s := ⟨_, List.getElem?_eq_getElem hlt⟩
    obtain ⟨a, ha, hld⟩ := (hus.ext hB.fr).ld1' (i := (i : Nat)) (kd := .i64) (by omega) (by omega) (x := .string s) (by rw [Int.toNat_natCast, List.getElem?_map, hs]; rfl)
    refine pv_i (v := us) rfl ?_
    refine pv_i ha (hld _ ?_)
    refine pv_i (v := .int .i64 s.size) rfl ?_
    refine pv_i gtr_i ?_
    by_cases h3 : 40 < s.size
    · rw [decide_eq_true (by omega), condC_t]
      exact no_ (fun hh => by have := hh.2.2 s (List.mem_of_getElem? hs); omega) u X hB
    · rw [decide_eq_false (by omega), condC_f]
      refine pv_i (add1 (by omega)) ?_
      refine hN _ _ _ _ (by omega) ⟨i + 1, rfl, by omega, hB, fun j t hj ht => ?_, rfl, rfl⟩
      rcases Nat.lt_or_ge j i with h1 | h1
      · exact hall j t h1 ht
      · have : j = i := by omega
        subst this; rw [hs] at ht; cases ht; omega
  · have : i = x.users.length := by omega
    subst this
    rw [decide_eq_false (by omega), condC_f]
    intro u1 X1 y1
    have := h u1 (hB.sy y1).fr
    unfold opShort at this
    rw [decide_eq_true] at this
    · exact this
    · refine ⟨by omega, by omega, fun s hs => ?_⟩
      obtain ⟨j, hj⟩ := List.getElem?_of_mem hs
      have hjl : j < x.users.length := by
        rcases Nat.lt_or_ge j x.users.length with hh | hh
        · exact hh
        · rw [List.getElem?_eq_none hh] at hj; cases hj
      exact hall j s hjl hj

theorem c89 {c : Cfg} (h : ∀ w', Fr no w w' → R (.bool c.right) w') : CallsR Tryz.prog 89 #[c.v] w R := by
  apply sh89; unfold S89
  refine ⟨rfl, ?_⟩
  have yes : syC w no fun w' _ => R (.bool c.right) w' := fun w' X' y => h w' y.frno
  have no_ : ¬ ((1 ≤ c.stripes ∧ c.stripes ≤ 8) ∧ (1 ≤ c.sessions ∧ c.sessions ≤ 8) ∧ (1 ≤ c.queue ∧ c.queue ≤ 16) ∧ (1 ≤ c.watches ∧ c.watches ≤ 8) ∧ (0 ≤ c.retries ∧ c.retries ≤ 4)) → syC w no fun w' _ => R (.bool false) w' := fun hh w' X' y => by
    have := h w' y.frno
    unfold Cfg.right at this; rw [decide_eq_false hh] at this; exact this
  refine pv_i (v := .int .i64 c.stripes) rfl ?_
  refine pv_i gtr_i ?_
  refine and_gB (fun h1 => ?_) (fun h1 => ?_)
  · iterate 8 refine and_gB (fun _ => ?_) (fun h => by cases h)
    exact no_ (by have := of_decide_eq_false h1; omega)
  have h1 := of_decide_eq_true h1
  refine pv_i (v := .int .i64 c.stripes) rfl ?_
  refine pv_i lss_i ?_
  refine pv_i (v := .bool _) rfl ?_
  refine and_gB (fun h2 => ?_) (fun h2 => ?_)
  · iterate 7 refine and_gB (fun _ => ?_) (fun h => by cases h)
    exact no_ (by have := of_decide_eq_false h2; omega)
  have h2 := of_decide_eq_true h2
  refine pv_i (v := .int .i64 c.sessions) rfl ?_
  refine pv_i gtr_i ?_
  refine pv_i (v := .bool _) rfl ?_
  refine and_gB (fun h3 => ?_) (fun h3 => ?_)
  · iterate 6 refine and_gB (fun _ => ?_) (fun h => by cases h)
    exact no_ (by have := of_decide_eq_false h3; omega)
  have h3 := of_decide_eq_true h3
  refine pv_i (v := .int .i64 c.sessions) rfl ?_
  refine pv_i lss_i ?_
  refine pv_i (v := .bool _) rfl ?_
  refine and_gB (fun h4 => ?_) (fun h4 => ?_)
  · iterate 5 refine and_gB (fun _ => ?_) (fun h => by cases h)
    exact no_ (by have := of_decide_eq_false h4; omega)
  have h4 := of_decide_eq_true h4
  refine pv_i (v := .int .i64 c.queue) rfl ?_
  refine pv_i gtr_i ?_
  refine pv_i (v := .bool _) rfl ?_
  refine and_gB (fun h5 => ?_) (fun h5 => ?_)
  · iterate 4 refine and_gB (fun _ => ?_) (fun h => by cases h)
    exact no_ (by have := of_decide_eq_false h5; omega)
  have h5 := of_decide_eq_true h5
  refine pv_i (v := .int .i64 c.queue) rfl ?_
  refine pv_i lss_i ?_
  refine pv_i (v := .bool _) rfl ?_
  refine and_gB (fun h6 => ?_) (fun h6 => ?_)
  · iterate 3 refine and_gB (fun _ => ?_) (fun h => by cases h)
    exact no_ (by have := of_decide_eq_false h6; omega)
  have h6 := of_decide_eq_true h6
  refine pv_i (v := .int .i64 c.watches) rfl ?_
  refine pv_i gtr_i ?_
  refine pv_i (v := .bool _) rfl ?_
  refine and_gB (fun h7 => ?_) (fun h7 => ?_)
  · iterate 2 refine and_gB (fun _ => ?_) (fun h => by cases h)
    exact no_ (by have := of_decide_eq_false h7; omega)
  have h7 := of_decide_eq_true h7
  refine pv_i (v := .int .i64 c.watches) rfl ?_
  refine pv_i lss_i ?_
  refine pv_i (v := .bool _) rfl ?_
  refine and_gB (fun h8 => ?_) (fun h8 => ?_)
  · refine and_gB (fun _ => ?_) (fun h => by cases h)
    exact no_ (by have := of_decide_eq_false h8; omega)
  have h8 := of_decide_eq_true h8
  refine pv_i (v := .int .i64 c.retries) rfl ?_
  refine pv_i geq_i ?_
  refine pv_i (v := .bool _) rfl ?_
  refine and_gB (fun h9 => ?_) (fun h9 => ?_)
  · exact no_ (by have := of_decide_eq_false h9; omega)
  have h9 := of_decide_eq_true h9
  refine pv_i (v := .int .i64 c.retries) rfl ?_
  refine pv_i lss_i ?_
  refine pv_i (v := .bool _) rfl ?_
  have : decide (c.retries < 5) = c.right := by
    unfold Cfg.right
    by_cases hh : c.retries < 5
    · rw [decide_eq_true hh, decide_eq_true (by omega)]
    · rw [decide_eq_false hh, decide_eq_false (by omega)]
  rw [this]; exact yes
end Go.Dm
