/- A part of the proof that doormanlaw21.LinOpen returns true for every input, on no condition. -/
import Derived.Test.YtbfajkpjilhkgaaGreatG5
set_option linter.unusedVariables false
set_option linter.unusedSimpArgs false
set_option linter.deprecated false
/-! Plain: calls held against a table. -/
namespace Go.Dm
open Go Go.Proofs

structure CallP where
  who : Int
  nth : Int
  op : OpP
  stripe : Int
  by_ : Nat
  began : Int
  placed : Int
  ended : Int
  reply : Rep
deriving DecidableEq
def fits (c : CallP) (r : Rep) : Bool := decide (c.ended < 0) || decide (c.reply = r)
def befalls (m : Mdl) (c : CallP) : Mdl × Rep := if c.who = 9 then (m.tick c.by_, Rep.zero) else if c.who = 8 then (m.sweep c.stripe, Rep.zero) else m.do c.who c.op
def replayGo (l : List CallP) : Mdl → List Int → Int × Int
  | _, [] => (-1, 0)
  | m, i :: r => if i < 0 ∨ l.length ≤ i then (-1, 1) else match l[i.toNat]? with
    | none => (-1, 1)
    | some c => if fits c (befalls m c).2 = true then replayGo l (befalls m c).1 r else (i, 0)
def replay (c : Cfg) (l : List CallP) (order : List Int) : Int × Int := if c.right = true then replayGo l (newMdl c) order else (-1, 1)
def before (a b : CallP) : Bool := decide (0 ≤ a.ended ∧ a.ended < b.began)
def callAt (l : List CallP) (i : Nat) : CallP := l[i]?.getD ⟨0, 0, ⟨0, ⟨#[]⟩, 0, 0, 0, 0, []⟩, 0, 0, 0, 0, 0, Rep.zero⟩
def inAt (inn : List Bool) (i : Nat) : Bool := inn[i]?.getD false
def readyTo (l : List CallP) (inn : List Bool) (i n : Nat) : Bool := (List.range n).all fun k => !(!inAt inn k && decide (k ≠ i) && before (callAt l k) (callAt l i))
def ready (l : List CallP) (inn : List Bool) (i : Nat) : Bool := readyTo l inn i l.length && !inAt inn i
def leftTo (l : List CallP) (inn : List Bool) (n : Nat) : Bool := (List.range n).any fun i => decide (0 ≤ (callAt l i).ended) && !inAt inn i
def findGo (c : Cfg) (l : List CallP) : Nat → List Bool → List Nat → Option (List Nat)
  | 0, _, _ => none
  | f + 1, inn, ord => if 0 ≤ (replay c l (ord.map fun (i : Nat) => (i : Int))).1 then none else if leftTo l inn l.length = false then some ord else
    (List.range l.length).findSome? fun i => if ready l inn i = true then findGo c l f (inn.set i true) (ord ++ [i]) else none
def findP (c : Cfg) (l : List CallP) : List Nat × Bool × Int :=
  if c.right = false then ([], false, 1) else if 7 < l.length then ([], false, 7) else
  match findGo c l (l.length + 1) (List.replicate l.length false) [] with | none => ([], false, 0) | some o => (o, true, 0)

/-! Sizes -/
theorem mWith_val {α : Type} {P : α → Prop} {m : Mp α} {k : ByteArray} {v : α} (h : ∀ e ∈ m, P e.2) (hv : P v) : ∀ e ∈ mWith m k v, P e.2 := fun e he => by
  rcases mem_mWith m k v e he with rfl | he
  · exact hv
  · exact h e he
theorem mWithout_val {α : Type} {P : α → Prop} {m : Mp α} {k : ByteArray} (h : ∀ e ∈ m, P e.2) : ∀ e ∈ mWithout m k, P e.2 := fun e he => h e (mem_mWithout m k e he)
theorem settle_val {b : Book} {u : ByteArray} {l : List Sess} {now n : Nat} (h : ∀ e ∈ b, e.2.ss.length ≤ n) (hl : l.length ≤ n) : ∀ e ∈ (settle b u l now).1, e.2.ss.length ≤ n := by
  unfold settle; dsimp only; split
  · exact mWithout_val (P := fun e : Ent => e.ss.length ≤ n) h
  · exact mWith_val (P := fun e : Ent => e.ss.length ≤ n) h hl

def keysOf {α : Type} (m : Mp α) : List ByteArray := m.map fun p => p.1
theorem keys_without {α : Type} : ∀ (m : Mp α) (k : ByteArray), List.Sublist (keysOf (mWithout m k)) (keysOf m)
  | [], _ => List.Sublist.refl _
  | (a, x) :: m, k => by
    unfold mWithout; split
    · exact List.sublist_cons_self ..
    · exact (keys_without m k).cons₂ a
theorem without_keeps {α : Type} : ∀ (m : Mp α) (k j : ByteArray), j ≠ k → j ∈ keysOf m → j ∈ keysOf (mWithout m k)
  | [], _, _, _, h => h
  | (a, x) :: m, k, j, hj, h => by
    unfold mWithout; split
    · rename_i hak
      rcases List.mem_cons.1 h with rfl | h
      · exact absurd hak hj
      · exact h
    · rcases List.mem_cons.1 h with rfl | h
      · exact List.mem_cons_self ..
      · exact List.mem_cons_of_mem _ (without_keeps m k j hj h)
theorem keys_with {α : Type} : ∀ (m : Mp α) (k : ByteArray) (v : α), keysUp m → k ∈ keysOf m → keysOf (mWith m k v) = keysOf m
  | [], _, _, _, h => by cases h
  | (a, x) :: m, k, v, hu, h => by
    unfold mWith; split
    · rename_i hak; show k :: keysOf m = a :: keysOf m; rw [hak]
    · rename_i hak
      have hkm : k ∈ keysOf m := by
        rcases List.mem_cons.1 h with hh | hh
        · exact absurd hh.symm hak
        · exact hh
      obtain ⟨p, hp, hpk⟩ := List.mem_map.1 hkm
      have hlt : strLt a k = true := by rw [← hpk]; exact hu.1 p hp
      split
      · rename_i hka
        have := sl_trans hka hlt
        rw [sl_irr] at this; cases this
      · show a :: keysOf (mWith m k v) = a :: keysOf m
        rw [keys_with m k v hu.2 hkm]
theorem up_nodup {α : Type} : ∀ {m : Mp α}, keysUp m → (keysOf m).Nodup
  | [], _ => List.nodup_nil
  | (a, x) :: m, h => by
    refine List.nodup_cons.2 ⟨fun hm => ?_, up_nodup h.2⟩
    obtain ⟨p, hp, hpa⟩ := List.mem_map.1 hm
    have := h.1 p hp
    rw [hpa, sl_irr] at this; cases this
theorem keysUp_settle {b : Book} {u : ByteArray} {l : List Sess} {now : Nat} (h : keysUp b) : keysUp (settle b u l now).1 := by
  unfold settle; dsimp only; split
  · exact keysUp_without _ _ h
  · exact keysUp_with _ _ _ h
theorem swTo_keys {b : Book} (hu : keysUp b) (now : Nat) : ∀ j, j ≤ b.length → keysUp (swTo b now j).1 ∧ (keysOf (swTo b now j).1).length ≤ b.length ∧ ∀ i p, j ≤ i → b[i]? = some p → p.1 ∈ keysOf (swTo b now j).1
  | 0, _ => ⟨hu, by rw [swTo_zero]; unfold keysOf; simp, fun i p _ hp => by rw [swTo_zero]; exact List.mem_map.2 ⟨p, List.mem_of_getElem? hp, rfl⟩⟩
  | j + 1, hj => by
    obtain ⟨h1, h2, h3⟩ := swTo_keys hu now j (by omega)
    have hb : b[j]? = some b[j] := List.getElem?_eq_getElem (by omega)
    have hm := h3 j _ (Nat.le_refl j) hb
    have he : (swTo b now (j + 1)).1 = (settle (swTo b now j).1 b[j].1 (sPurge b[j].2.ss now) now).1 := by rw [swTo_succ hb]; rfl
    rw [he]
    refine ⟨keysUp_settle h1, ?_, fun i p hi hp => ?_⟩
    · unfold settle; dsimp only; split
      · exact Nat.le_trans (keys_without _ _).length_le h2
      · rw [keys_with _ _ _ h1 hm]; exact h2
    · have hmi := h3 i p (by omega) hp
      unfold settle; dsimp only; split
      · refine without_keeps _ _ _ (fun hh => ?_) hmi
        have hnd := up_nodup hu
        have hil : i < b.length := by
          rcases Nat.lt_or_ge i b.length with hh | hh
          · exact hh
          · rw [List.getElem?_eq_none hh] at hp; cases hp
        have a1 : (keysOf b)[i]? = some p.1 := by unfold keysOf; rw [List.getElem?_map, hp]; rfl
        have a2 : (keysOf b)[j]? = some b[j].1 := by unfold keysOf; rw [List.getElem?_map, hb]; rfl
        rw [hh] at a1
        have hkl : (keysOf b).length = b.length := by unfold keysOf; simp
        have := (List.getElem?_inj (by omega : i < (keysOf b).length) hnd).1 (a1.trans a2.symm)
        omega
      · rw [keys_with _ _ _ h1 hm]; exact hmi
theorem swTo_val {b : Book} {n : Nat} (h : ∀ e ∈ b, e.2.ss.length ≤ n) (now : Nat) : ∀ j, ∀ e ∈ (swTo b now j).1, e.2.ss.length ≤ n
  | 0 => by rw [swTo_zero]; exact h
  | j + 1 => by
    rcases Nat.lt_or_ge j b.length with hh | hh
    · have hb : b[j]? = some b[j] := List.getElem?_eq_getElem hh
      have he : (swTo b now (j + 1)).1 = (settle (swTo b now j).1 b[j].1 (sPurge b[j].2.ss now) now).1 := by rw [swTo_succ hb]; rfl
      rw [he]
      exact settle_val (swTo_val h now j) (Nat.le_trans (sPurge_le _ _) (h _ (List.getElem_mem ..)))
    · have : swTo b now (j + 1) = swTo b now j := by unfold swTo; rw [List.take_of_length_le (by omega), List.take_of_length_le hh]
      rw [this]; exact swTo_val h now j

/-- Books by rising users, and so great. -/
def Mdl.sz' (m : Mdl) (n : Nat) : Prop := m.sz n ∧ ∀ k ∈ m.bs, keysUp k
theorem mem_set {α : Type} {l : List α} {i : Nat} {x y : α} (h : y ∈ l.set i x) : y = x ∨ y ∈ l := by
  rcases List.mem_or_eq_of_mem_set h with h | h
  · exact .inr h
  · exact .inl h
theorem Mdl.sz_mono {m : Mdl} {n n' : Nat} (h : m.sz n) (hn : n ≤ n') : m.sz n' :=
  ⟨fun k hk => ⟨Nat.le_trans (h.1 k hk).1 hn, fun e he => Nat.le_trans ((h.1 k hk).2 e he) hn⟩, fun f hf => Nat.le_trans (h.2 f hf) hn⟩
theorem book_ok {m : Mdl} {n s : Nat} (h : m.sz' n) : (m.book s).length ≤ n ∧ (∀ e ∈ m.book s, e.2.ss.length ≤ n) ∧ keysUp (m.book s) := by
  unfold Mdl.book
  cases hs : m.bs[s]? with
  | none => exact ⟨Nat.zero_le _, (fun e he => by simp at he), trivial⟩
  | some k => exact ⟨(h.1.1 k (List.mem_of_getElem? hs)).1, (h.1.1 k (List.mem_of_getElem? hs)).2, h.2 k (List.mem_of_getElem? hs)⟩
theorem feed_ok {m : Mdl} {n s : Nat} (h : m.sz n) : (m.feed s).watches.length ≤ n := by
  unfold Mdl.feed
  cases hs : m.fs[s]? with
  | none => exact Nat.zero_le _
  | some f => exact h.2 f (List.mem_of_getElem? hs)
theorem watch_len (f : Feed) (who : Int) (u : ByteArray) : (f.watch who u).watches.length ≤ f.watches.length + 1 := by
  unfold Feed.watch; split
  · exact mWith_len _ _ _
  · omega
theorem unwatch_len (f : Feed) (who : Int) (u : ByteArray) : (f.unwatch who u).watches.length ≤ f.watches.length + 1 := by
  unfold Feed.unwatch; split
  · split
    · have := mWithout_len f.watches u; simp only; omega
    · exact mWith_len _ _ _
  · omega
theorem drain_watches (f : Feed) (who : Int) : (f.drain who).1.watches = f.watches := by
  unfold Feed.drain; split
  · cases f.qs[who.toNat]? <;> rfl
  · rfl
theorem set_sz {m : Mdl} {n s : Nat} {k : Book} {f : Feed} {t : Tm} (h : m.sz' n) (hk : k.length ≤ n + 1) (hv : ∀ e ∈ k, e.2.ss.length ≤ n + 1) (hu : keysUp k) (hf : f.watches.length ≤ n + 1) :
    Mdl.sz' { m with t := t, bs := m.bs.set s k, fs := m.fs.set s f } (n + 1) := by
  have h1 := Mdl.sz_mono h.1 (Nat.le_succ n)
  refine ⟨⟨fun x hx => ?_, fun x hx => ?_⟩, fun x hx => ?_⟩
  · rcases mem_set hx with rfl | hx
    · exact ⟨hk, hv⟩
    · exact h1.1 x hx
  · rcases mem_set hx with rfl | hx
    · exact hf
    · exact h1.2 x hx
  · rcases mem_set hx with rfl | hx
    · exact hu
    · exact h.2 x hx
theorem fs_sz {m : Mdl} {n s : Nat} {f : Feed} (h : m.sz' n) (hf : f.watches.length ≤ n + 1) : Mdl.sz' { m with fs := m.fs.set s f } (n + 1) := by
  have h1 := Mdl.sz_mono h.1 (Nat.le_succ n)
  refine ⟨⟨h1.1, fun x hx => ?_⟩, h.2⟩
  rcases mem_set hx with rfl | hx
  · exact hf
  · exact h1.2 x hx
theorem sz_up {m : Mdl} {n : Nat} (h : m.sz' n) : m.sz' (n + 1) := ⟨Mdl.sz_mono h.1 (Nat.le_succ n), h.2⟩
theorem new_sz (c : Cfg) : (newMdl c).sz' 0 := by
  refine ⟨⟨fun k hk => ?_, fun f hf => ?_⟩, fun k hk => ?_⟩
  · rw [List.eq_of_mem_replicate hk]; exact ⟨Nat.le_refl _, fun e he => by cases he⟩
  · rw [List.eq_of_mem_replicate hf]; exact Nat.le_refl _
  · rw [List.eq_of_mem_replicate hk]; trivial
theorem write_sz {m : Mdl} {n : Nat} {x : OpP} (h : m.sz' n) : (m.write x).1.sz' (n + 1) := by
  unfold Mdl.write; split
  · exact sz_up h
  · have hb := book_ok (s := m.stripe x.user) h
    refine set_sz h ?_ ?_ ?_ ?_
    · unfold bWrite; have := (settle_len (m.book (m.stripe x.user)) x.user (bSess (m.book (m.stripe x.user)) x m.t.now m.c.sessions).1 m.t.now).1; dsimp only; omega
    · unfold bWrite; dsimp only
      refine settle_val (fun e he => Nat.le_succ_of_le (hb.2.1 e he)) ?_
      have := bSess_le (b := m.book (m.stripe x.user)) (x := x) (now := m.t.now) (most := m.c.sessions)
      have h2 := entOf_le hb.2.1 x.user
      omega
    · exact keysUp_settle hb.2.2
    · rw [tell_watches]; exact Nat.le_succ_of_le (feed_ok h.1)
theorem sweep_sz {m : Mdl} {n : Nat} {s : Int} (h : m.sz' n) : (m.sweep s).sz' (n + 1) := by
  unfold Mdl.sweep; split
  · exact sz_up h
  · have hb := book_ok (s := s.toNat) h
    have hk := swTo_keys hb.2.2 m.t.now _ (Nat.le_refl _)
    refine set_sz h ?_ ?_ ?_ ?_
    · rw [← swTo_all]; have := hk.2.1; unfold keysOf at this; rw [List.length_map] at this; omega
    · rw [← swTo_all]; exact fun e he => Nat.le_succ_of_le (swTo_val hb.2.1 _ _ e he)
    · rw [← swTo_all]; exact hk.1
    · rw [tell_watches]; exact Nat.le_succ_of_le (feed_ok h.1)
theorem do_sz {m : Mdl} {n : Nat} {who : Int} {x : OpP} (h : m.sz' n) : (m.do who x).1.sz' (n + 1) := by
  unfold Mdl.do
  split
  · exact sz_up h
  split
  · exact write_sz h
  split
  · have h1 := sz_up h
    refine ⟨⟨h1.1.1, fun f hf => ?_⟩, h1.2⟩
    obtain ⟨f', hf', rfl⟩ := List.mem_map.1 hf
    rw [drain_watches]; exact h1.1.2 f' hf'
  split
  · exact sz_up h
  split
  · unfold Mdl.watch; dsimp only; split
    · exact sz_up h
    · exact fs_sz h (Nat.le_trans (watch_len _ _ _) (Nat.succ_le_succ (feed_ok h.1)))
  split
  · exact fs_sz h (Nat.le_trans (unwatch_len _ _ _) (Nat.succ_le_succ (feed_ok h.1)))
  split
  · exact sz_up h
  · exact sz_up h
theorem befalls_sz {m : Mdl} {n : Nat} {c : CallP} (h : m.sz' n) : (befalls m c).1.sz' (n + 1) := by
  unfold befalls
  split
  · exact sz_up h
  split
  · exact sweep_sz h
  · exact do_sz h
end Go.Dm
/-! Calls in memory; replies alike. -/
namespace Go.Dm
open Go Go.Proofs
variable {w : World} {R : Value → World → Prop} {Im Im' : Nat → Prop}

theorem evt_ne0 (u u' : ByteArray) (a b c d e f a' b' c' d' e' f' : Int) (s s' : Int) : structV Tryz.prog .neq 152 (.agg #[.string u, .int .i64 a, .int .i64 b, .int .i64 c, .int .i64 d, .int .i64 e, .int .i64 f, .int .u64 s]) (.agg #[.string u', .int .i64 a', .int .i64 b', .int .i64 c', .int .i64 d', .int .i64 e', .int .i64 f', .int .u64 s']) =
    some (.bool (!(decide (u = u') && ((decide (a = a') && (decide (b = b') && (decide (c = c') && true))) && ((decide (d = d') && (decide (e = e') && (decide (f = f') && true))) && (decide (s = s') && true)))))) :=
  structV_n g152 (equal_struct l152 (eqFs_c (part_cell a9 rfl) (part_cell a9 rfl) (eq_str u9 _ _ _) (eqFs_c (a := .agg #[.int .i64 a, .int .i64 b, .int .i64 c]) (b := .agg #[.int .i64 a', .int .i64 b', .int .i64 c']) (part_aggs a150 z150) (part_aggs a150 z150) (eq3i (d := 9997) l150 u3 u3 u3 a3 a3 a3)
    (eqFs_c (a := .agg #[.int .i64 d, .int .i64 e, .int .i64 f]) (b := .agg #[.int .i64 d', .int .i64 e', .int .i64 f']) (part_aggs a150 z150) (part_aggs a150 z150) (eq3i (d := 9997) l150 u3 u3 u3 a3 a3 a3) (eqFs_c (part_cell a22 rfl) (part_cell a22 rfl) (eq_int u22 _ _ _) rfl)))))
theorem evt_bool (p q : Evt) : (!(decide (p.user = q.user) && ((decide (p.old.st = q.old.st) && (decide (p.old.pr = q.old.pr) && (decide (p.old.live = q.old.live) && true))) && ((decide (p.new.st = q.new.st) && (decide (p.new.pr = q.new.pr) && (decide (p.new.live = q.new.live) && true))) && (decide ((p.seq : Int) = q.seq) && true))))) = decide (p ≠ q) := by
  by_cases hh : p = q
  · subst hh; simp
  · have hn : ¬ (p.user = q.user ∧ (p.old.st = q.old.st ∧ p.old.pr = q.old.pr ∧ p.old.live = q.old.live) ∧ (p.new.st = q.new.st ∧ p.new.pr = q.new.pr ∧ p.new.live = q.new.live) ∧ (p.seq : Int) = q.seq) := fun ⟨h1, ⟨h2, h3, h4⟩, ⟨h5, h6, h7⟩, h8⟩ => hh (by
      obtain ⟨pu, ⟨po1, po2, po3⟩, ⟨pn1, pn2, pn3⟩, ps⟩ := p
      obtain ⟨qu, ⟨qo1, qo2, qo3⟩, ⟨qn1, qn2, qn3⟩, qs⟩ := q
      have h8 : ps = qs := by exact_mod_cast h8
      simp_all)
    rw [decide_eq_true hh, Bool.not_eq_true']
    simp only [Bool.and_true]
    rw [← Bool.decide_and, ← Bool.decide_and, ← Bool.decide_and, ← Bool.decide_and, ← Bool.decide_and, ← Bool.decide_and, ← Bool.decide_and, decide_eq_false_iff_not]
    intro h; exact hn ⟨h.1, h.2.1, h.2.2.1, h.2.2.2⟩
theorem evt_ne (p q : Evt) : structV Tryz.prog .neq 152 p.v q.v = some (.bool (decide (p ≠ q))) := by
  rw [← evt_bool]; exact evt_ne0 _ _ _ _ _ _ _ _ _ _ _ _ _ _ _ _

theorem c362 {v1 v2 : Value} {a b : List Pres} (ha : SlI w Im 3 v1 a.length (a.flatMap Pres.cells)) (hb : SlI w Im' 3 v2 b.length (b.flatMap Pres.cells)) (hn : a.length < 2^60) (hn2 : b.length < 2^60) (h : ∀ w', Fr no w w' → R (.bool (decide (a = b))) w') : CallsR Tryz.prog 362 #[v1, v2] w R := by
  apply sh362; unfold S362
  refine pv_i ha.lenV ?_
  refine pv_i hb.lenV ?_
  refine pv_i neq_i ?_
  by_cases hl : a.length = b.length
  · rw [decide_eq_false (by simp [hl]), condC_f, jnB_e]
    refine pv_i ha.lenV ?_
    refine lp_c (fun d e u X => ∃ i : Nat, d = a.length - i ∧ i ≤ a.length ∧ X = no ∧ Fr no w u ∧ a.take i = b.take i ∧ e 0 = v1 ∧ e 1 = v2 ∧ e 12 = .int .i64 a.length ∧ e 13 = .int .i64 (i : Nat)) a.length
      ⟨0, rfl, by omega, rfl, Fr.refl _ _, rfl, rfl, rfl, rfl, rfl⟩ ?_
    rintro d e u X N ⟨i, rfl, hi, rfl, f, hab, e0', e1, e12, e13⟩ hN
    simp only [e0', e1, e12, e13]
    refine pv_i lss_i ?_
    by_cases hlt : i < a.length
    · rw [decide_eq_true (by omega), condC_t]
      have f2 : Fr no w (drewW u) := f.trans (drewW_fr _ _)
      generalize drewW u = u2 at f2 ⊢
      have hxa : a[i]? = some a[i] := List.getElem?_eq_getElem hlt
      have hxb : b[i]? = some (b[i]'(by omega)) := List.getElem?_eq_getElem (by omega)
      obtain ⟨p1, hp1, l1⟩ := (ha.ext f2).at (kd := .i64) pres_len hxa
      obtain ⟨p2, hp2, l2⟩ := (hb.ext f2).at (kd := .i64) pres_len hxb
      refine pv_i hp1 (pv_i hp2 (l1 _ (l2 _ ?_)))
      have hE := pres_ne a[i] (b[i]'(by omega))
      unfold Pres.v at hE
      rw [hE, pv_some]
      by_cases hh : a[i] = b[i]'(by omega)
      · rw [decide_eq_false (by simpa using hh), condC_f]
        refine pv_i (add1 (by omega)) ?_
        refine hN _ _ _ _ (by omega) ⟨i + 1, rfl, by omega, rfl, f2, ?_, rfl, rfl, rfl, rfl⟩
        rw [List.take_succ_eq_append_getElem hlt, List.take_succ_eq_append_getElem (by omega), hab, hh]
      · rw [decide_eq_true hh, condC_t]
        have hne : a ≠ b := fun hab => by subst hab; exact hh rfl
        have := h u2 f2
        rw [decide_eq_false hne] at this; exact this
    · have : i = a.length := by omega
      subst this
      rw [decide_eq_false (by omega), condC_f]
      have := h u f
      rw [List.take_length, hl, List.take_length] at hab
      rw [decide_eq_true hab] at this; exact this
  · rw [decide_eq_true (by simp; omega), condC_t]
    have := h w (Fr.refl _ _)
    rw [decide_eq_false (fun hh => hl (by rw [hh]))] at this; exact this

theorem c363 {v1 v2 : Value} {a b : List Evt} (ha : SlI w Im 8 v1 a.length (a.flatMap Evt.cells)) (hb : SlI w Im' 8 v2 b.length (b.flatMap Evt.cells)) (hn : a.length < 2^60) (hn2 : b.length < 2^60) (h : ∀ w', Fr no w w' → R (.bool (decide (a = b))) w') : CallsR Tryz.prog 363 #[v1, v2] w R := by
  apply sh363; unfold S363
  refine pv_i ha.lenV ?_
  refine pv_i hb.lenV ?_
  refine pv_i neq_i ?_
  by_cases hl : a.length = b.length
  · rw [decide_eq_false (by simp [hl]), condC_f, jnB_e]
    refine pv_i ha.lenV ?_
    refine lp_c (fun d e u X => ∃ i : Nat, d = a.length - i ∧ i ≤ a.length ∧ X = no ∧ Fr no w u ∧ a.take i = b.take i ∧ e 0 = v1 ∧ e 1 = v2 ∧ e 12 = .int .i64 a.length ∧ e 13 = .int .i64 (i : Nat)) a.length
      ⟨0, rfl, by omega, rfl, Fr.refl _ _, rfl, rfl, rfl, rfl, rfl⟩ ?_
    rintro d e u X N ⟨i, rfl, hi, rfl, f, hab, e0', e1, e12, e13⟩ hN
    simp only [e0', e1, e12, e13]
    refine pv_i lss_i ?_
    by_cases hlt : i < a.length
    · rw [decide_eq_true (by omega), condC_t]
      have f2 : Fr no w (drewW u) := f.trans (drewW_fr _ _)
      generalize drewW u = u2 at f2 ⊢
      have hxa : a[i]? = some a[i] := List.getElem?_eq_getElem hlt
      have hxb : b[i]? = some (b[i]'(by omega)) := List.getElem?_eq_getElem (by omega)
      obtain ⟨p1, hp1, l1⟩ := (ha.ext f2).at (kd := .i64) evt_len hxa
      obtain ⟨p2, hp2, l2⟩ := (hb.ext f2).at (kd := .i64) evt_len hxb
      refine pv_i hp1 (pv_i hp2 (l1 _ (l2 _ ?_)))
      have hE := evt_ne a[i] (b[i]'(by omega))
      unfold Evt.v at hE
      rw [hE, pv_some]
      by_cases hh : a[i] = b[i]'(by omega)
      · rw [decide_eq_false (by simpa using hh), condC_f]
        refine pv_i (add1 (by omega)) ?_
        refine hN _ _ _ _ (by omega) ⟨i + 1, rfl, by omega, rfl, f2, ?_, rfl, rfl, rfl, rfl⟩
        rw [List.take_succ_eq_append_getElem hlt, List.take_succ_eq_append_getElem (by omega), hab, hh]
      · rw [decide_eq_true hh, condC_t]
        have hne : a ≠ b := fun hab => by subst hab; exact hh rfl
        have := h u2 f2
        rw [decide_eq_false hne] at this; exact this
    · have : i = a.length := by omega
      subst this
      rw [decide_eq_false (by omega), condC_f]
      have := h u f
      rw [List.take_length, hl, List.take_length] at hab
      rw [decide_eq_true hab] at this; exact this
  · rw [decide_eq_true (by simp; omega), condC_t]
    have := h w (Fr.refl _ _)
    rw [decide_eq_false (fun hh => hl (by rw [hh]))] at this; exact this


structure RawC where
  c : CallP
  us : Value
  sv : Value
  se : Value
def RawC.cells (r : RawC) : List Value := [.int .i64 r.c.who, .int .i64 r.c.nth, .int .i64 r.c.op.kind, .string r.c.op.user, .int .i64 r.c.op.id, .int .i64 r.c.op.st, .int .i64 r.c.op.pr, .int .u64 r.c.op.ttl, r.us, .int .i64 r.c.stripe, .int .u64 r.c.by_, .int .i64 r.c.began, .int .i64 r.c.placed, .int .i64 r.c.ended, .int .i64 r.c.reply.err, r.sv, r.se, .bool r.c.reply.lost]
def RawC.v (r : RawC) : Value := .agg r.cells.toArray
theorem raw_len (r : RawC) : r.cells.length = 18 := rfl
structure RawC.in (w : World) (Im : Nat → Prop) (r : RawC) : Prop where
  us : SlI w Im 1 r.us r.c.op.users.length (r.c.op.users.map Value.string)
  sv : SlI w Im 3 r.sv r.c.reply.vals.length (r.c.reply.vals.flatMap Pres.cells)
  se : SlI w Im 8 r.se r.c.reply.evs.length (r.c.reply.evs.flatMap Evt.cells)
  tt : r.c.op.ttl ≤ maxU
  by_ : r.c.by_ ≤ maxU
def CallsI (w : World) (Im : Nat → Prop) (lv : Value) (l : List CallP) : Prop := ∃ raws : List RawC, raws.map (fun r => r.c) = l ∧ SlI w Im 18 lv raws.length (raws.flatMap RawC.cells) ∧ ∀ r ∈ raws, r.in w Im
section
variable {w' : World} {r : RawC}
theorem RawC.in.keep {S : Nat → Prop} (h : r.in w Im) (f : Fr S w w') (hS : ∀ b, Im b → ¬ S b) : r.in w' Im := ⟨h.us.keep f hS, h.sv.keep f hS, h.se.keep f hS, h.tt, h.by_⟩
theorem RawC.in.ext (h : r.in w Im) (f : Fr no w w') : r.in w' Im := h.keep f fun _ _ => no_not _
theorem RawC.in.im {Im' : Nat → Prop} (h : r.in w Im) (hS : ∀ b, b < w.heap.size → Im b → Im' b) : r.in w Im' := ⟨h.us.im hS, h.sv.im hS, h.se.im hS, h.tt, h.by_⟩
theorem RawC.in.gx {p : List Nat} {g g' : Gh} (h : r.in w (ImG g)) (hp : p ≠ []) (e : Ex p w g w' g') : r.in w' (ImG g') := ⟨h.us.gx hp e, h.sv.gx hp e, h.se.gx hp e, h.tt, h.by_⟩
theorem RawC.in.op (h : r.in w Im) : OpI w Im (.agg #[.int .i64 r.c.op.kind, .string r.c.op.user, .int .i64 r.c.op.id, .int .i64 r.c.op.st, .int .i64 r.c.op.pr, .int .u64 r.c.op.ttl, r.us]) r.c.op := ⟨r.us, rfl, h.us, h.tt⟩
theorem RawC.in.rep (h : r.in w Im) : RepI w Im (.agg #[.int .i64 r.c.reply.err, r.sv, r.se, .bool r.c.reply.lost]) r.c.reply := ⟨r.sv, r.se, rfl, h.sv, h.se⟩
theorem RawC.in.ok (h : r.in w Im) : okB true 18 r.v = true := by
  have a1 := h.us.one; have a2 := h.sv.one; have a3 := h.se.one
  obtain ⟨_, _, e1, _⟩ := h.us.row; obtain ⟨_, _, e2, _⟩ := h.sv.row; obtain ⟨_, _, e3, _⟩ := h.se.row
  unfold RawC.v RawC.cells; rw [e1, e2, e3]; rfl
theorem CallsI.keep {S : Nat → Prop} {lv : Value} {l : List CallP} (h : CallsI w Im lv l) (f : Fr S w w') (hS : ∀ b, Im b → ¬ S b) : CallsI w' Im lv l := by
  obtain ⟨raws, h1, h2, h3⟩ := h; exact ⟨raws, h1, h2.keep f hS, fun r hr => (h3 r hr).keep f hS⟩
theorem CallsI.ext {lv : Value} {l : List CallP} (h : CallsI w Im lv l) (f : Fr no w w') : CallsI w' Im lv l := h.keep f fun _ _ => no_not _
theorem CallsI.im {Im' : Nat → Prop} {lv : Value} {l : List CallP} (h : CallsI w Im lv l) (hS : ∀ b, b < w.heap.size → Im b → Im' b) : CallsI w Im' lv l := by
  obtain ⟨raws, h1, h2, h3⟩ := h; exact ⟨raws, h1, h2.im hS, fun r hr => (h3 r hr).im hS⟩
theorem CallsI.gx {p : List Nat} {g g' : Gh} {lv : Value} {l : List CallP} (h : CallsI w (ImG g) lv l) (hp : p ≠ []) (e : Ex p w g w' g') : CallsI w' (ImG g') lv l := by
  obtain ⟨raws, h1, h2, h3⟩ := h; exact ⟨raws, h1, h2.gx hp e, fun r hr => (h3 r hr).gx hp e⟩
theorem CallsI.lenV {lv : Value} {l : List CallP} (h : CallsI w Im lv l) : Dm.lenV lv = some (.int .i64 l.length) := by
  obtain ⟨raws, h1, h2, h3⟩ := h; rw [← h1, List.length_map]; exact h2.lenV
/-- A call read. -/
theorem CallsI.ld {lv : Value} {l : List CallP} {i : Nat} {c : CallP} (h : CallsI w Im lv l) (hc : l[i]? = some c) : ∃ (r : RawC) (p : Value), r.c = c ∧ r.in w Im ∧ idxSV 18 lv (.int .i64 (i : Nat)) = some p ∧ ∀ K : Value → Prop, K r.v → ldC w true 18 p K := by
  obtain ⟨raws, rfl, h2, h3⟩ := h
  rw [List.getElem?_map] at hc
  cases hr : raws[i]? with
  | none => rw [hr] at hc; cases hc
  | some r =>
    rw [hr] at hc
    obtain ⟨p, hp, hl⟩ := h2.at (kd := .i64) raw_len hr
    exact ⟨r, p, Option.some.inj hc, h3 r (List.mem_of_getElem? hr), hp, hl⟩
end

theorem RepI.ext {w w' : World} {Im : Nat → Prop} {v : Value} {r : Rep} (s : RepI w Im v r) (f : Fr no w w') : RepI w' Im v r := by
  obtain ⟨sv, se, rfl, h1, h2⟩ := s; exact ⟨sv, se, rfl, h1.ext f, h2.ext f⟩
theorem c298 {v1 v2 : Value} {a b : Rep} (ha : RepI w Im v1 a) (hb : RepI w Im' v2 b) (n1 : a.vals.length < 2^60) (n2 : a.evs.length < 2^60) (n3 : b.vals.length < 2^60) (n4 : b.evs.length < 2^60) (h : ∀ w', Fr no w w' → R (.bool (decide (a = b))) w') : CallsR Tryz.prog 298 #[v1, v2] w R := by
  apply sh298; unfold S298
  refine ⟨ha.ok, hb.ok, ?_⟩
  obtain ⟨sa, ea, rfl, a1, a2⟩ := ha
  obtain ⟨sb, eb, rfl, b1, b2⟩ := hb
  have hB := Bn.start w
  have nope : ∀ (u : World) (X : Nat → Prop), Bn w X u → a ≠ b → syC u X fun w22 _ => R (.bool false) w22 := fun u X hB hne w' X' y => by
    have := h w' (hB.sy y).fr
    rw [decide_eq_false hne] at this; exact this
  refine pv_i (v := .int .i64 a.err) rfl ?_
  refine pv_i (v := .int .i64 b.err) rfl ?_
  refine pv_i eql_i ?_
  refine and_gB (fun h1 => ?_) (fun h1 => ?_)
  · refine and_gB (fun _ => ?_) (fun h => by cases h)
    refine and_gB (fun _ => ?_) (fun h => by cases h)
    exact nope _ _ hB (fun hh => by rw [hh] at h1; simp at h1)
  have h1 := of_decide_eq_true h1
  refine pv_i (v := .bool a.lost) rfl ?_
  refine pv_i (v := .bool b.lost) rfl ?_
  refine pv_i (v := .bool (a.lost == b.lost)) rfl ?_
  refine pv_i (v := .bool (a.lost == b.lost)) rfl ?_
  refine and_gB (fun h2 => ?_) (fun h2 => ?_)
  · refine and_gB (fun _ => ?_) (fun h => by cases h)
    exact nope _ _ hB (fun hh => by rw [hh] at h2; simp at h2)
  have h2 := eq_of_beq h2
  refine pv_i (v := sa) rfl ?_
  refine pv_i (v := sb) rfl ?_
  intro w3 X3 y3
  have hB3 := hB.sy y3
  refine c362 (a1.ext hB3.fr) (b1.ext hB3.fr) n1 n3 fun w4 f4 => ?_
  have hB4 := hB3.no f4
  refine ⟨hB3.kp f4, ?_⟩
  refine pv_i (v := .bool (decide (a.vals = b.vals))) rfl ?_
  refine and_gB (fun h3 => ?_) (fun h3 => ?_)
  · exact nope _ _ hB4 (fun hh => by rw [hh] at h3; simp at h3)
  have h3 := of_decide_eq_true h3
  refine pv_i (v := ea) rfl ?_
  refine pv_i (v := eb) rfl ?_
  intro w5 X5 y5
  have hB5 := hB4.sy y5
  refine c363 (a2.ext hB5.fr) (b2.ext hB5.fr) n2 n4 fun w6 f6 => ?_
  have hB6 := hB5.no f6
  refine ⟨hB5.kp f6, ?_⟩
  refine pv_i (v := .bool (decide (a.evs = b.evs))) rfl ?_
  intro w7 X7 y7
  have := h w7 (hB6.sy y7).fr
  have e : decide (a = b) = decide (a.evs = b.evs) := by
    congr 1; apply propext
    constructor
    · intro hh; rw [hh]
    · intro hh; cases a; cases b; simp_all
  rw [e] at this; exact this

theorem c198 {r : RawC} {v2 : Value} {b : Rep} (hr : r.in w Im) (n1 : r.c.reply.vals.length < 2^60) (n2 : r.c.reply.evs.length < 2^60) (hb : RepI w Im' v2 b) (n3 : b.vals.length < 2^60) (n4 : b.evs.length < 2^60) (h : ∀ w', Fr no w w' → R (.bool (fits r.c b)) w') : CallsR Tryz.prog 198 #[r.v, v2] w R := by
  apply sh198; unfold S198
  refine ⟨hr.ok, hb.ok, ?_⟩
  refine pv_i (v := .int .i64 r.c.ended) rfl ?_
  refine pv_i lss_i ?_
  unfold fits at h
  refine or_gB (fun h1 => ?_) (fun h1 => ?_)
  · intro w1 X1 y1
    have := h w1 y1.frno
    rw [h1, Bool.true_or] at this; exact this
  · refine pv_i (v := .agg #[.int .i64 r.c.reply.err, r.sv, r.se, .bool r.c.reply.lost]) rfl ?_
    intro w1 X1 y1
    have hB1 := (Bn.start w).sy y1
    refine c298 (hr.ext hB1.fr).rep (RepI.ext hb hB1.fr) n1 n2 n3 n4 fun w2 f2 => ?_
    refine ⟨hB1.kp f2, ?_⟩
    refine pv_i (v := .bool _) rfl ?_
    intro w3 X3 y3
    have := h w3 ((hB1.no f2).sy y3).fr
    rw [h1, Bool.false_or] at this; exact this

theorem c240 {r s : RawC} (hr : r.in w Im) (hs : s.in w Im') (h : ∀ w', Fr no w w' → R (.bool (before r.c s.c)) w') : CallsR Tryz.prog 240 #[r.v, s.v] w R := by
  apply sh240; unfold S240
  refine ⟨hr.ok, hs.ok, ?_⟩
  refine pv_i (v := .int .i64 r.c.ended) rfl ?_
  refine pv_i geq_i ?_
  unfold before at h
  refine and_gB (fun h1 => ?_) (fun h1 => ?_)
  · intro w1 X1 y1
    have := h w1 y1.frno
    rw [decide_eq_false (fun hh => of_decide_eq_false h1 hh.1)] at this; exact this
  · refine pv_i (v := .int .i64 r.c.ended) rfl ?_
    refine pv_i (v := .int .i64 s.c.began) rfl ?_
    refine pv_i lss_i ?_
    refine pv_i (v := .bool _) rfl ?_
    intro w1 X1 y1
    have := h w1 y1.frno
    have e : decide (0 ≤ r.c.ended ∧ r.c.ended < s.c.began) = decide (r.c.ended < s.c.began) := by
      congr 1; apply propext; have := of_decide_eq_true h1; omega
    rw [e] at this; exact this
end Go.Dm
/-! Calls befall a table. -/
namespace Go.Dm
open Go Go.Proofs
variable {w : World} {R : Value → World → Prop} {Im Im' : Nat → Prop}

def callOk (c : CallP) : Prop := c.op.user.size < 2^62 ∧ (∀ s ∈ c.op.users, s.size < 2^62) ∧ c.op.users.length < 2^40 ∧ c.reply.vals.length < 2^60 ∧ c.reply.evs.length < 2^60
theorem mergeN_len : ∀ (n : Nat) (rs : List (List Evt)), (mergeN n rs).length ≤ n
  | 0, _ => Nat.le_refl _
  | n + 1, rs => by
    unfold mergeN
    split
    · simp
    · rename_i b hb
      split
      · rename_i x r hx
        have := mergeN_len n (rs.set b r)
        simp only [List.length_cons]; omega
      · simp
section
variable {g : Gh} {p : List Nat} {b : Nat} {m : Mdl}
theorem poll_size {who : Int} (hm : ModelR w g p b m) : (m.poll who).2.evs.length < 2^40 := by
  obtain ⟨_, _, _, _, _, fbs, hd⟩ := hm
  have hcr := (Cfg.right_i hd.cr).1
  have hn2 := hd.n2; have hfl := hd.fl
  have htb : total (m.fs.map fun f => (f.drain who).2.1) ≤ 8 * 2^30 := by
    refine Nat.le_trans (total_bound (B := 2^30) fun l hl => ?_) (Nat.mul_le_mul_right _ (by rw [List.length_map]; omega))
    obtain ⟨f, hf, rfl⟩ := List.mem_map.1 hl
    obtain ⟨j, hj⟩ := List.getElem?_of_mem hf
    have hjl : j < m.fs.length := by
      rcases Nat.lt_or_ge j m.fs.length with hh | hh
      · exact hh
      · rw [List.getElem?_eq_none hh] at hj; cases hj
    exact drain_len (hd.fd j _ f (List.getElem?_eq_getElem (by omega)) hj)
  have := mergeN_len (total (m.fs.map fun f => (f.drain who).2.1) + 1) (m.fs.map fun f => (f.drain who).2.1)
  show (merge (m.fs.map fun f => (f.drain who).2.1)).length < 2^40
  unfold merge; omega
theorem do_size {who : Int} {x : OpP} (hm : ModelR w g p b m) (hu : x.users.length < 2^40) : (m.do who x).2.vals.length < 2^60 ∧ (m.do who x).2.evs.length < 2^60 := by
  unfold Mdl.do
  split
  · exact ⟨by simp, by simp⟩
  split
  · unfold Mdl.write; split <;> exact ⟨by simp, by simp⟩
  split
  · exact ⟨by simp [Mdl.poll], Nat.lt_trans (poll_size hm) (by omega)⟩
  split
  · exact ⟨by simp, by simp⟩
  split
  · exact ⟨by simp, by simp⟩
  split
  · exact ⟨by simp [Rep.zero], by simp [Rep.zero]⟩
  split
  · exact ⟨by simp [Rep.zero], by simp [Rep.zero]⟩
  · refine ⟨?_, by simp⟩
    simp only [List.length_map]
    unfold usersOf; split
    · simp
    · split
      · omega
      · simp
theorem befalls_size {c : CallP} (hm : ModelR w g p b m) (hu : c.op.users.length < 2^40) : (befalls m c).2.vals.length < 2^60 ∧ (befalls m c).2.evs.length < 2^60 := by
  unfold befalls
  split
  · exact ⟨by simp [Rep.zero], by simp [Rep.zero]⟩
  split
  · exact ⟨by simp [Rep.zero], by simp [Rep.zero]⟩
  · exact do_size hm hu

theorem c199 {r : RawC} {n : Nat} (hm : ModelR w g p b m) (hok : GhOk w g) (hp : p ≠ []) (hr : r.in w (ImG g)) (hc : callOk r.c) (hz : m.sz n) (hn : n < 2^28)
    (h : ∀ v w' g', ModelR w' g' p b (befalls m r.c).1 → RepI w' (ImG g') v (befalls m r.c).2 → Ex p w g w' g' → R v w') : CallsR Tryz.prog 199 #[.pointer (some ⟨b, 0, none⟩), r.v] w R := by
  apply sh199; unfold S199
  have hq0 := beside_ne p
  have hqa := beside_apart hp
  have hqn := beside_not hp
  generalize beside p = q at hq0 hqa hqn
  refine ⟨hr.ok, ?_⟩
  have hB := Bx.start (p := p) (q := q) hok
  unfold befalls at h
  -- nothing is answered
  have fin : ∀ (u : World) (X : Nat → Prop) (gu : Gh), Bx p q w g X u gu → ModelR u gu p b (befalls m r.c).1 → (befalls m r.c).2 = Rep.zero → pv (buildV [(0, 1), (1, 1), (2, 1), (3, 1)] [(.int .i64 0), (.slice none 0 0), (.slice none 0 0), (.bool false)] []) fun t25 => okB true 4 t25 = true ∧ syC u X fun w16 X17 => R t25 w16 := by
    intro u X gu hBu hmu hz
    refine pv_i (v := errV 0) rfl ?_
    refine ⟨rfl, ?_⟩
    intro w' X' y
    obtain ⟨g', hB', hx'⟩ := hBu.sy y
    refine h _ w' g' (hmu.gx hx' hqa hq0) ?_ hB'.ex
    have : (befalls m r.c).2 = Rep.zero := hz
    unfold befalls at this; rw [this]; exact RepI.err ..
  refine jn_p (fun e u X => ∃ gu, Bx p q w g X u gu ∧ ModelR u gu p b (befalls m r.c).1 ∧ (befalls m r.c).2 = Rep.zero) ?_ ?_
  rotate_left
  · rintro e u X ⟨gu, h1, h2, h3⟩
    exact fin u X gu h1 h2 h3
  intro K hK
  refine pv_i (v := .int .i64 r.c.who) rfl ?_
  refine pv_i eql_i ?_
  by_cases k1 : r.c.who = 9
  · rw [decide_eq_true k1, condC_t]
    have hb : befalls m r.c = (m.tick r.c.by_, Rep.zero) := by unfold befalls; rw [if_pos k1]
    refine pv_i (v := .int .u64 r.c.by_) rfl ?_
    intro w1 X1 y1
    obtain ⟨g1, hB1, hx1⟩ := hB.sy y1
    refine c64 (hm.gx hx1 hqa hq0) hB1.ex.ok hp hr.by_ fun w2 hm2 e2 => ?_
    refine ⟨hB1.kp e2 (List.prefix_refl p) hqn, ?_⟩
    exact hK _ _ _ ⟨g1, hB1.step e2 (List.prefix_refl p), by rw [hb]; exact hm2, by rw [hb]⟩
  rw [decide_eq_false k1, condC_f]
  refine pv_i eql_i ?_
  by_cases k2 : r.c.who = 8
  · rw [decide_eq_true k2, condC_t]
    have hb : befalls m r.c = (m.sweep r.c.stripe, Rep.zero) := by unfold befalls; rw [if_neg k1, if_pos k2]
    refine pv_i (v := .int .i64 r.c.stripe) rfl ?_
    intro w1 X1 y1
    obtain ⟨g1, hB1, hx1⟩ := hB.sy y1
    refine c83 (hm.gx hx1 hqa hq0) hB1.ex.ok hp hz hn fun w2 g2 hm2 e2 => ?_
    refine ⟨hB1.kp e2 (List.prefix_refl p) hqn, ?_⟩
    exact hK _ _ _ ⟨g2, hB1.step e2 (List.prefix_refl p), by rw [hb]; exact hm2, by rw [hb]⟩
  rw [decide_eq_false k2, condC_f]
  have hb : befalls m r.c = m.do r.c.who r.c.op := by unfold befalls; rw [if_neg k1, if_neg k2]
  rw [if_neg k1, if_neg k2] at h
  refine pv_i (v := .int .i64 r.c.who) rfl ?_
  refine pv_i (v := .agg #[.int .i64 r.c.op.kind, .string r.c.op.user, .int .i64 r.c.op.id, .int .i64 r.c.op.st, .int .i64 r.c.op.pr, .int .u64 r.c.op.ttl, r.us]) rfl ?_
  intro w1 X1 y1
  obtain ⟨g1, hB1, hx1⟩ := hB.sy y1
  refine c69 (hm.gx hx1 hqa hq0) hB1.ex.ok hp (hr.gx hq0 hx1).op hc.1 hc.2.1 hc.2.2.1 hz hn fun v w2 g2 hm2 hr2 e2 => ?_
  refine ⟨hB1.kp e2 (List.prefix_refl p) hqn, hr2.ok, ?_⟩
  intro w3 X3 y3
  obtain ⟨g3, hB3, hx3⟩ := (hB1.step e2 (List.prefix_refl p)).sy y3
  exact h v w3 g3 (hm2.gx hx3 hqa hq0) (hr2.gx hq0 hx3) hB3.ex
end

/-- A list of calls, by its rows. -/
structure CallsM (w : World) (Im : Nat → Prop) (lv : Value) (raws : List RawC) : Prop where
  sl : SlI w Im 18 lv raws.length (raws.flatMap RawC.cells)
  in_ : ∀ r ∈ raws, r.in w Im
section
variable {w' : World} {lv : Value} {raws : List RawC}
theorem CallsM.ext (h : CallsM w Im lv raws) (f : Fr no w w') : CallsM w' Im lv raws := ⟨h.sl.ext f, fun r hr => (h.in_ r hr).ext f⟩
theorem CallsM.gx {p : List Nat} {g g' : Gh} (h : CallsM w (ImG g) lv raws) (hp : p ≠ []) (e : Ex p w g w' g') : CallsM w' (ImG g') lv raws := ⟨h.sl.gx hp e, fun r hr => (h.in_ r hr).gx hp e⟩
theorem CallsM.im (h : CallsM w Im lv raws) (hS : ∀ b, b < w.heap.size → Im b → Im' b) : CallsM w Im' lv raws := ⟨h.sl.im hS, fun r hr => (h.in_ r hr).im hS⟩
theorem CallsM.keep {S : Nat → Prop} (h : CallsM w Im lv raws) (f : Fr S w w') (hS : ∀ b, Im b → ¬ S b) : CallsM w' Im lv raws := ⟨h.sl.keep f hS, fun r hr => (h.in_ r hr).keep f hS⟩
theorem CallsM.ld {i : Nat} {r : RawC} (h : CallsM w Im lv raws) (hr : raws[i]? = some r) : ∃ p, idxSV 18 lv (.int .i64 (i : Nat)) = some p ∧ ∀ K : Value → Prop, K r.v → ldC w true 18 p K :=
  h.sl.at (kd := .i64) raw_len hr
end

def all0 : Gh := fun _ => []
theorem all0_ok (w : World) : GhOk w all0 := fun _ _ => rfl
theorem all0_im : ∀ b, ImG all0 b := fun _ => rfl
theorem Ex.fr0 {p : List Nat} {w w' : World} {g' : Gh} (hp : p ≠ []) (h : Ex p w all0 w' g') : Fr no w w' := h.fr.mono fun b _ hu => by
  unfold Un all0 at hu; exact hp (List.prefix_nil.1 hu)

theorem c88 {c : Cfg} {lv ov : Value} {raws : List RawC} {order : List Int} (hst : c.start ≤ maxU) (hl : CallsM w (fun _ => True) lv raws) (hc : ∀ r ∈ raws, callOk r.c) (ho : SlI w (fun _ => True) 1 ov order.length (order.map (.int .i64))) (hol : order.length < 2^27) (hll : raws.length < 2^60)
    (h : ∀ w', Fr no w w' → R (.tuple #[.int .i64 (replay c (raws.map fun r => r.c) order).1, .int .i64 (replay c (raws.map fun r => r.c) order).2]) w') : CallsR Tryz.prog 88 #[c.v, lv, ov] w R := by
  apply sh88; unfold S88
  refine ⟨rfl, ?_⟩
  have hp : ([1] : List Nat) ≠ [] := by simp
  have hq0 := beside_ne [1]
  have hqa := beside_apart hp
  have hqn := beside_not hp
  generalize beside [1] = q at hq0 hqa hqn
  have hl0 : CallsM w (ImG all0) lv raws := hl.im fun b _ _ => all0_im b
  have ho0 : SlI w (ImG all0) 1 ov order.length (order.map (.int .i64)) := ho.im fun b _ _ => all0_im b
  intro w1 X1 y1
  obtain ⟨g1, hB1, hx1⟩ := (Bx.start (p := [1]) (q := q) (all0_ok w)).sy y1
  unfold replay at h
  refine c60 (p := [1]) hB1.ex.ok hp hst (fun hr w2 f2 => ?_) (fun hr b w2 g2 hb hm2 x2 => ?_)
  · obtain ⟨hB2, k2⟩ := hB1.no f2
    refine ⟨k2, ?_⟩
    refine pv_i (ext2a _ _) (pv_i (ext2b _ _) ?_)
    refine pv_i neq_i ?_
    rw [decide_eq_true (by decide), condC_t]
    have := h w2 (hB2.ex.fr0 hp)
    rw [if_neg (by simp [hr])] at this; exact this
  rw [if_pos hr] at h
  generalize hT : replayGo (raws.map fun r => r.c) (newMdl c) order = T at h
  have e2 : Ex [1] w1 g1 w2 g2 := x2.ex
  have hB2 := hB1.step e2 (List.prefix_refl _)
  refine ⟨hB1.kp e2 (List.prefix_refl _) hqn, ?_⟩
  refine pv_i (ext2a _ _) (pv_i (ext2b _ _) ?_)
  refine pv_i neq_i ?_
  rw [decide_eq_false (by simp), condC_f, jnB_e]
  have hl2 := (hl0.gx hq0 hx1).gx hp e2
  have ho2 := (ho0.gx hq0 hx1).gx hp e2
  refine pv_i ho2.lenV ?_
  refine lp_c (fun d e u X => ∃ (k : Nat) (m : Mdl) (g' : Gh), d = order.length - k ∧ k ≤ order.length ∧ Bx [1] q w all0 X u g' ∧ ModelR u g' [1] b m ∧ m.sz' k ∧ CallsM u (ImG g') lv raws ∧ SlI u (ImG g') 1 ov order.length (order.map (.int .i64)) ∧
      replayGo (raws.map fun r => r.c) m (order.drop k) = T ∧ e 1 = lv ∧ e 8 = .pointer (some ⟨b, 0, none⟩) ∧ e 20 = ov ∧ e 21 = .int .i64 order.length ∧ e 22 = .int .i64 (k : Nat)) order.length
    ⟨0, newMdl c, g2, rfl, by omega, hB2, hm2, new_sz c, hl2, ho2, hT, rfl, rfl, rfl, rfl, rfl⟩ ?_
  rintro d e u X N ⟨k, m, g3, rfl, hk, hB, hm, hz, hl3, ho3, hrp, e1, e8, e20, e21, e22⟩ hN
  simp only [e1, e8, e20, e21, e22]
  refine pv_i lss_i ?_
  by_cases hlt : k < order.length
  · rw [decide_eq_true (by omega), condC_t]
    obtain ⟨i, hi⟩ : ∃ i, order[k]? = some i := ⟨_, List.getElem?_eq_getElem hlt⟩
    have hdr : order.drop k = i :: order.drop (k + 1) := by
      rw [List.drop_eq_getElem_cons hlt]
      rw [List.getElem?_eq_getElem hlt] at hi
      rw [Option.some.inj hi]
    rw [hdr] at hrp
    unfold replayGo at hrp
    obtain ⟨a, ha, hla⟩ := ho3.ld1' (i := (k : Nat)) (kd := .i64) (by omega) (by omega) (x := .int .i64 i) (by rw [Int.toNat_natCast, List.getElem?_map, hi]; rfl)
    refine pv_i ha (hla _ ?_)
    refine pv_i lss_i ?_
    have hlen : (raws.map fun r => r.c).length = raws.length := List.length_map ..
    have bad : (i < 0 ∨ (raws.length : Int) ≤ i) → R (.tuple #[.int .i64 (-1), .int .i64 1]) u := fun hh => by
      rw [if_pos (by rw [hlen]; exact hh)] at hrp
      have := h u (hB.ex.fr0 hp)
      rw [← hrp] at this; exact this
    refine or_gB (fun h1 => ?_) (fun h1 => ?_)
    · rw [condC_t]; exact bad (.inl (of_decide_eq_true h1))
    have h1 := of_decide_eq_false h1
    refine pv_i hl3.sl.lenV ?_
    refine pv_i geq_i ?_
    refine pv_i (v := .bool _) rfl ?_
    by_cases h2 : (raws.length : Int) ≤ i
    · rw [decide_eq_true h2, condC_t]; exact bad (.inr h2)
    rw [decide_eq_false h2, condC_f]
    rw [if_neg (by rw [hlen]; omega)] at hrp
    obtain ⟨i, rfl⟩ := Int.eq_ofNat_of_zero_le (by omega : 0 ≤ i)
    have hil : i < raws.length := by omega
    obtain ⟨r, hr⟩ : ∃ r, raws[i]? = some r := ⟨_, List.getElem?_eq_getElem hil⟩
    have hrc : (raws.map fun r => r.c)[((i : Nat) : Int).toNat]? = some r.c := by rw [Int.toNat_natCast, List.getElem?_map, hr]; rfl
    simp only [Int.ofNat_eq_natCast, hrc] at hrp
    have fD := drewW_fr no u
    obtain ⟨hB4, _⟩ := hB.no fD
    have hm4 := hm.no hB.ex.ok fD
    have hl4 := hl3.ext fD
    have ho4 := ho3.ext fD
    generalize drewW u = u4 at fD hB4 hm4 hl4 ho4 ⊢
    obtain ⟨pa, hpa, hlp⟩ := hl4.ld hr
    refine pv_i hpa (pv_i hpa (hlp _ (hlp _ ?_)))
    have hrin := hl4.in_ r (List.mem_of_getElem? hr)
    have hcr := hc r (List.mem_of_getElem? hr)
    refine c199 hm4 hB4.ex.ok hp hrin hcr hz.1 (by omega) fun v w5 g5 hm5 hr5 e5 => ?_
    have hB5 := hB4.step e5 (List.prefix_refl _)
    refine ⟨hB4.kp e5 (List.prefix_refl _) hqn, ?_⟩
    have hl5 := hl4.gx hp e5
    have ho5 := ho4.gx hp e5
    refine ⟨ld_of (hl5.ld hr) hpa, ?_⟩
    have hsz := befalls_size hm4 hcr.2.2.1
    refine c198 (hl5.in_ r (List.mem_of_getElem? hr)) hcr.2.2.2.1 hcr.2.2.2.2 hr5 hsz.1 hsz.2 fun w6 f6 => ?_
    obtain ⟨hB6, k6⟩ := hB5.no f6
    refine ⟨k6, ?_⟩
    refine pv_i (not_b _) ?_
    cases hf : fits r.c (befalls m r.c).2 with
    | false =>
      rw [Bool.not_false, condC_t]
      rw [if_neg (by simp [hf])] at hrp
      have := h w6 (hB6.ex.fr0 hp)
      rw [← hrp] at this; exact this
    | true =>
      rw [Bool.not_true, condC_f]
      rw [if_pos hf] at hrp
      refine pv_i (add1 (by omega)) ?_
      exact hN _ _ _ _ (by omega) ⟨k + 1, (befalls m r.c).1, g5, rfl, by omega, hB6, hm5.no hB5.ex.ok f6, befalls_sz hz, hl5.ext f6, ho5.ext f6, hrp, rfl, rfl, rfl, rfl, rfl⟩
  · have : k = order.length := by omega
    subst this
    rw [decide_eq_false (by omega), condC_f]
    rw [List.drop_length] at hrp
    have := h u (hB.ex.fr0 hp)
    rw [← hrp] at this; exact this
end Go.Dm
