/-
  The shadow interpreter, text 2: how trees and the model's values stand to one another, and that this lasts. No condition.
-/
import Derived.Test.YtbdliphlolajaaaDoorShSa
set_option linter.unusedVariables false
set_option linter.unusedSimpArgs false
namespace Go.Proofs.YtbdliphlolajaaaDoor.Sh

/-- What is known of the model's memory: cells that never turn, blocks that were there when the call began, which block is which, how many cells of a new block are done. -/
structure Gh where
  perm : Nat → Nat → Prop
  base : Nat
  own : Nat → Option Nat
  esz : Nat → Nat
  hw : Nat → Nat
  sent : Nat → Option Value

def Gh.stab (g : Gh) (b o : Nat) : Prop := g.perm b o ∨ o < g.hw b
def Gh.now (g : Gh) (b o : Nat) : Prop := b < g.base ∨ o < g.hw b
def Gh.sees (g : Gh) (st : Bool) (b o : Nat) : Prop := if st then g.stab b o else g.now b o

def Tl.st : Tl → Bool
  | .snap => false
  | _ => true

inductive VR (g : Gh) (w : World) : SV → Value → Prop
  | bool (b : Bool) : VR g w (.bool b) (.bool b)
  | int (k : IntKind) (n : Int) : VR g w (.int k n) (.int k n)
  | str (s : ByteArray) : VR g w (.str s) (.string s)
  | nilp : VR g w .nilp (.pointer none)
  | ptr (id i o b : Nat) (h : g.own id = some b) : VR g w (.ptr id i o) (.pointer (some ⟨b, i * g.esz id + o, none⟩))
  | rptr (items : List SV) (i o : Nat) (st : Bool) (b start esz : Nat) (rv : Nat → Value)
      (hu : ∀ x ∈ items, x.cells.length = esz)
      (hc : ∀ (k : Nat) (c : SV), (flat items)[k]? = some c → c.one = true ∧ g.sees st b (start + k) ∧ w.cell? ⟨b, start + k, none⟩ = some (rv k))
      (hr : ∀ (k : Nat) (c : SV), (flat items)[k]? = some c → VR g w c (rv k)) :
      VR g w (.rptr items i o st) (.pointer (some ⟨b, start + i * esz + o, none⟩))
  | nilsl : VR g w .nilsl (.slice none 0 0)
  | sl (items : List SV) (tl : Tl) (b start cap esz : Nat) (rv : Nat → Value)
      (hu : ∀ x ∈ items, x.cells.length = esz)
      (hc : ∀ (k : Nat) (c : SV), (flat items)[k]? = some c → c.one = true ∧ g.sees tl.st b (start + k) ∧ w.cell? ⟨b, start + k, none⟩ = some (rv k))
      (hr : ∀ (k : Nat) (c : SV), (flat items)[k]? = some c → VR g w c (rv k))
      (hcap : items.length ≤ cap) (hfull : tl = .full → cap = items.length) :
      VR g w (.sl items tl) (.slice (some ⟨b, start, none⟩) items.length cap)
  | sle (tl : Tl) (a : Addr) (cap : Nat) (hfull : tl = .full → cap = 0) : VR g w (.sl [] tl) (.slice (some a) 0 cap)
  | own (id esz i len b cap : Nat) (h : g.own id = some b) (he : g.esz id = esz) (hl : len ≤ cap)
      (hs : ∃ (c : Array Value) (e : TypeId), w.heap[b]? = some (Obj.cells c e (0, 0)) ∧ (i + cap) * esz ≤ c.size) :
      VR g w (.own id esz i len) (.slice (some ⟨b, i * esz, none⟩) len cap)
  | fn (f : Nat) (a c : List SV) (a' c' : Array Value) (ha : a.length = a'.size) (hc : c.length = c'.size)
      (hra : ∀ (k : Nat) (x : SV) (v : Value), a[k]? = some x → a'[k]? = some v → VR g w x v)
      (hrc : ∀ (k : Nat) (x : SV) (v : Value), c[k]? = some x → c'[k]? = some v → VR g w x v) :
      VR g w (.fn f a c) (.func (.func f) a' c')
  | nilf : VR g w .nilf .nilFunc
  | iface (t : Nat) (s : SV) (v : Value) (hx : ∀ u, g.sent t = some u → v = u) (h : VR g w s v) : VR g w (.iface t s) (.iface t v)
  | nili : VR g w .nili .nilIface
  | agg (cs : List SV) (vs : Array Value) (hl : cs.length = vs.size) (ho : ∀ c ∈ cs, c.one = true)
      (hr : ∀ (k : Nat) (x : SV) (v : Value), cs[k]? = some x → vs[k]? = some v → VR g w x v) : VR g w (.agg cs) (.agg vs)
  | tup (cs : List SV) (vs : Array Value) (hl : cs.length = vs.size)
      (hr : ∀ (k : Nat) (x : SV) (v : Value), cs[k]? = some x → vs[k]? = some v → VR g w x v) : VR g w (.tup cs) (.tuple vs)
  | bad (v : Value) : VR g w .bad v

/-- Memory goes on: what is done stays. -/
structure Evo (g : Gh) (w : World) (g' : Gh) (w' : World) : Prop where
  perm : g'.perm = g.perm
  base : g'.base = g.base
  sent : g'.sent = g.sent
  own : ∀ id b, g.own id = some b → g'.own id = some b ∧ g'.esz id = g.esz id
  hw : ∀ b, g.hw b ≤ g'.hw b
  cell : ∀ b o v, g.now b o → w.cell? ⟨b, o, none⟩ = some v → w'.cell? ⟨b, o, none⟩ = some v
  size : ∀ (b : Nat) (c : Array Value) (e : TypeId) (fr : Nat × Nat), w.heap[b]? = some (Obj.cells c e fr) → ∃ c' : Array Value, w'.heap[b]? = some (Obj.cells c' e fr) ∧ c'.size = c.size
  below : RowKit.Below g.base w w'

theorem Evo.refl (g : Gh) (w : World) : Evo g w g w :=
  ⟨rfl, rfl, rfl, fun _ _ h => ⟨h, rfl⟩, fun _ => Nat.le_refl _, fun _ _ _ _ h => h, fun _ c _ _ h => ⟨c, h, rfl⟩, .refl _ _⟩

theorem Gh.now_mono {g g' : Gh} {w w' : World} (e : Evo g w g' w') {b o : Nat} (h : g.now b o) : g'.now b o := by
  rcases h with h | h
  · exact .inl (by rw [e.base]; exact h)
  · exact .inr (Nat.lt_of_lt_of_le h (e.hw b))

theorem Gh.stab_mono {g g' : Gh} {w w' : World} (e : Evo g w g' w') {b o : Nat} (h : g.stab b o) : g'.stab b o := by
  rcases h with h | h
  · exact .inl (by rw [e.perm]; exact h)
  · exact .inr (Nat.lt_of_lt_of_le h (e.hw b))

theorem Gh.sees_mono {g g' : Gh} {w w' : World} (e : Evo g w g' w') {st : Bool} {b o : Nat} (h : g.sees st b o) : g'.sees st b o := by
  cases st
  · exact Gh.now_mono e h
  · exact Gh.stab_mono e h

theorem Evo.trans {g g' g'' : Gh} {w w' w'' : World} (e : Evo g w g' w') (f : Evo g' w' g'' w'') : Evo g w g'' w'' where
  perm := f.perm.trans e.perm
  base := f.base.trans e.base
  sent := f.sent.trans e.sent
  own := fun id b h => ⟨(f.own id b (e.own id b h).1).1, ((f.own id b (e.own id b h).1).2).trans (e.own id b h).2⟩
  hw := fun b => Nat.le_trans (e.hw b) (f.hw b)
  cell := fun b o v hn h => f.cell b o v (Gh.now_mono e hn) (e.cell b o v hn h)
  size := fun b c t fr h => by
    obtain ⟨c1, h1, s1⟩ := e.size b c t fr h
    obtain ⟨c2, h2, s2⟩ := f.size b c1 t fr h1
    exact ⟨c2, h2, s2.trans s1⟩
  below := e.below.trans (e.base ▸ f.below)

/-- What never turns does not turn now. -/
def Gh.Good (g : Gh) : Prop := ∀ b o, g.perm b o → b < g.base

theorem Gh.sees_now {g : Gh} (hg : g.Good) {st : Bool} {b o : Nat} (h : g.sees st b o) : g.now b o := by
  cases st
  · exact h
  · rcases h with h | h
    · exact .inl (hg b o h)
    · exact .inr h

theorem VR.mono {g g' : Gh} {w w' : World} (hg : g.Good) (e : Evo g w g' w') {s : SV} {v : Value} (h : VR g w s v) : VR g' w' s v := by
  induction h with
  | bool b => exact .bool b
  | int k n => exact .int k n
  | str s => exact .str s
  | nilp => exact .nilp
  | ptr id i o b h =>
    rw [← (e.own id b h).2]
    exact .ptr id i o b (e.own id b h).1
  | rptr items i o st b start esz rv hu hc hr ih =>
    exact .rptr items i o st b start esz rv hu (fun k c hk => ⟨(hc k c hk).1, Gh.sees_mono e (hc k c hk).2.1, e.cell _ _ _ (Gh.sees_now hg (hc k c hk).2.1) (hc k c hk).2.2⟩) ih
  | nilsl => exact .nilsl
  | sl items tl b start cap esz rv hu hc hr hcap hfull ih =>
    exact .sl items tl b start cap esz rv hu (fun k c hk => ⟨(hc k c hk).1, Gh.sees_mono e (hc k c hk).2.1, e.cell _ _ _ (Gh.sees_now hg (hc k c hk).2.1) (hc k c hk).2.2⟩) ih hcap hfull
  | sle tl a cap hfull => exact .sle tl a cap hfull
  | own id esz i len b cap h he hl hs =>
    obtain ⟨c, t, hb, hsz⟩ := hs
    obtain ⟨c', hb', hsz'⟩ := e.size b c t _ hb
    exact .own id esz i len b cap (e.own id b h).1 ((e.own id b h).2.trans he) hl ⟨c', t, hb', by rw [hsz']; exact hsz⟩
  | fn f a c a' c' ha hc hra hrc iha ihc => exact .fn f a c a' c' ha hc iha ihc
  | nilf => exact .nilf
  | iface t s v hx h ih => exact .iface t s v (by rw [e.sent]; exact hx) ih
  | nili => exact .nili
  | agg cs vs hl ho hr ih => exact .agg cs vs hl ho ih
  | tup cs vs hl hr ih => exact .tup cs vs hl ih
  | bad v => exact .bad v

/-- Lists, place by place. -/
def VRs (g : Gh) (w : World) (cs : List SV) (vs : Array Value) : Prop :=
  cs.length = vs.size ∧ ∀ (k : Nat) (x : SV) (v : Value), cs[k]? = some x → vs[k]? = some v → VR g w x v

theorem VRs.mono {g g' : Gh} {w w' : World} (hg : g.Good) (e : Evo g w g' w') {cs : List SV} {vs : Array Value} (h : VRs g w cs vs) : VRs g' w' cs vs :=
  ⟨h.1, fun k x v hx hv => (h.2 k x v hx hv).mono hg e⟩

/-- What package variables hold to the sign. -/
def RawG (E : Env) (g : Gh) (w : World) : Prop := ∀ n v, E.raw n = some v → n < g.base ∧ w.cell? ⟨n, 0, none⟩ = some v

theorem RawG.mono {E : Env} {g g' : Gh} {w w' : World} (e : Evo g w g' w') (h : RawG E g w) : RawG E g' w' := fun n v hv =>
  ⟨by rw [e.base]; exact (h n v hv).1, e.cell _ _ _ (.inl (h n v hv).1) (h n v hv).2⟩

/-- Types whose values in an interface are one value alone. -/
def SentG (E : Env) (g : Gh) : Prop := ∀ t, (E.sent t = false → g.sent t = none) ∧ (E.sent t = true → ∃ a : Addr, g.sent t = some (.pointer (some a)))

theorem SentG.mono {E : Env} {g g' : Gh} {w w' : World} (e : Evo g w g' w') (h : SentG E g) : SentG E g' := fun t => by rw [e.sent]; exact h t

/-- The shadow's memory and the model's. 'fr': numbers of blocks that are not taken yet. -/
structure MR (E : Env) (g : Gh) (w : World) (M : Mem) (fr : Nat → Prop) : Prop where
  good : g.Good
  base : g.base ≤ w.heap.size
  blk : ∀ (id : Nat) (items : List SV), M.blk id = some items → ∃ (b : Nat) (c : Array Value) (e : TypeId), g.own id = some b ∧ g.base ≤ b ∧ g.hw b = 0 ∧ (∀ x ∈ items, x.cells.length = g.esz id) ∧
    w.heap[b]? = some (Obj.cells c e (0, 0)) ∧ ∀ (k : Nat) (x : SV), (flat items)[k]? = some x → x.one = true ∧ ∃ v, c[k]? = some v ∧ VR g w x v
  inj : ∀ id id' b, (M.blk id).isSome = true → (M.blk id').isSome = true → g.own id = some b → g.own id' = some b → id = id'
  fresh : ∀ id, fr id → g.own id = none
  hwb : ∀ b, 0 < g.hw b → g.base ≤ b ∧ b < w.heap.size
  lt : ∀ id b, g.own id = some b → b < w.heap.size
  glob : ∀ n items, E.G n = some items → VR g w (.rptr items 0 0 true) (.pointer (some ⟨n, 0, none⟩))
  plain : ∀ n items, E.G n = some items → pvs items = true
  raw : RawG E g w
  sent : SentG E g

theorem cell?_cells {w : World} {b o : Nat} {c : Array Value} {e : TypeId} {fr : Nat × Nat} (h : w.heap[b]? = some (Obj.cells c e fr)) : w.cell? ⟨b, o, none⟩ = c[o]? := by
  simp [World.cell?, h]

theorem cells_of_cell? {w : World} {b o : Nat} {v : Value} (h : w.cell? ⟨b, o, none⟩ = some v) : ∃ (c : Array Value) (e : TypeId) (fr : Nat × Nat), w.heap[b]? = some (Obj.cells c e fr) ∧ c[o]? = some v := by
  unfold World.cell? at h
  split at h
  · rename_i c e fr hb
    exact ⟨c, e, fr, hb, by simpa using h⟩
  · cases h

theorem lt_of_cell? {w : World} {b o : Nat} {v : Value} (h : w.cell? ⟨b, o, none⟩ = some v) : b < w.heap.size := by
  obtain ⟨c, e, fr, hb, _⟩ := cells_of_cell? h
  exact (Array.getElem?_eq_some_iff.1 hb).1

/-- MR with fewer free numbers. -/
theorem MR.weaken {E : Env} {g : Gh} {w : World} {M : Mem} {fr fr' : Nat → Prop} (h : MR E g w M fr) (hf : ∀ id, fr' id → fr id) : MR E g w M fr' :=
  { h with fresh := fun id hid => h.fresh id (hf id hid) }

/-- MR over the same memory, the model's gone on where nothing of it lies. -/
theorem MR.of_next {E : Env} {g : Gh} {w : World} {M : Mem} {fr : Nat → Prop} (n : Nat) (h : MR E g w M fr) : MR E g w ⟨M.blk, n⟩ fr :=
  { h with blk := h.blk, inj := h.inj }

/-! ### Lists laid flat -/

theorem flat_nil : flat [] = [] := rfl
theorem flat_append (xs ys : List SV) : flat (xs ++ ys) = flat xs ++ flat ys := by simp [flat]
theorem flat_cons (x : SV) (xs : List SV) : flat (x :: xs) = x.cells ++ flat xs := by simp [flat]

theorem flat_length {n : Nat} : ∀ {xs : List SV}, (∀ x ∈ xs, x.cells.length = n) → (flat xs).length = xs.length * n
  | [], _ => by simp [flat]
  | x :: xs, h => by
    rw [flat_cons, List.length_append, h x (by simp), flat_length (fun y hy => h y (by simp [hy])), List.length_cons, Nat.add_mul]
    omega

theorem flat_get {n : Nat} : ∀ {xs : List SV} (i o : Nat) (x : SV), (∀ x ∈ xs, x.cells.length = n) → xs[i]? = some x → o < n → (flat xs)[i * n + o]? = x.cells[o]?
  | [], i, o, x, _, h, _ => by simp at h
  | y :: ys, 0, o, x, hu, h, ho => by
    simp at h
    subst h
    rw [flat_cons, Nat.zero_mul, Nat.zero_add, List.getElem?_append_left (by rw [hu y (by simp)]; exact ho)]
  | y :: ys, i + 1, o, x, hu, h, ho => by
    have hl := hu y (by simp)
    rw [flat_cons, List.getElem?_append_right (by rw [hl, Nat.add_mul]; omega), hl]
    have : (i + 1) * n + o - n = i * n + o := by rw [Nat.add_mul]; omega
    rw [this]
    exact flat_get i o x (fun z hz => hu z (by simp [hz])) (by simpa using h) ho

theorem unif_iff {n : Nat} {xs : List SV} : unif n xs = true ↔ ∀ x ∈ xs, x.cells.length = n := by
  simp [unif]

theorem flat_drop {n : Nat} : ∀ {xs : List SV} (l : Nat), (∀ x ∈ xs, x.cells.length = n) → flat (xs.drop l) = (flat xs).drop (l * n)
  | xs, 0, _ => by simp
  | [], l + 1, _ => by simp [flat]
  | y :: ys, l + 1, hu => by
    have hl := hu y (by simp)
    rw [List.drop_succ_cons, flat_cons, flat_drop l (fun z hz => hu z (by simp [hz]))]
    have hd : List.drop (n + l * n) y.cells = [] := List.drop_eq_nil_of_le (by omega)
    have hn : n + l * n - y.cells.length = l * n := by omega
    rw [Nat.add_mul, Nat.one_mul, Nat.add_comm (l * n) n, List.drop_append, hd, hn, List.nil_append]

theorem flat_take {n : Nat} : ∀ {xs : List SV} (l : Nat), (∀ x ∈ xs, x.cells.length = n) → flat (xs.take l) = (flat xs).take (l * n)
  | xs, 0, _ => by simp [flat]
  | [], l + 1, _ => by simp [flat]
  | y :: ys, l + 1, hu => by
    have hl := hu y (by simp)
    rw [List.take_succ_cons, flat_cons, flat_cons, flat_take l (fun z hz => hu z (by simp [hz]))]
    have hd : List.take (n + l * n) y.cells = y.cells := List.take_of_length_le (by omega)
    have hn : n + l * n - y.cells.length = l * n := by omega
    rw [Nat.add_mul, Nat.one_mul, Nat.add_comm (l * n) n, List.take_append, hd, hn]

/-! ### Values -/

/-- The model's cells of a value. -/
theorem VR.cells {g : Gh} {w : World} {s : SV} {v : Value} (h : VR g w s v) (hs : s.sto = true) : VRs g w s.cells v.cells ∧ ∀ c ∈ s.cells, c.one = true := by
  cases h with
  | agg cs vs hl ho hr => exact ⟨⟨hl, hr⟩, ho⟩
  | tup cs vs hl hr => simp [SV.sto] at hs
  | bad v => simp [SV.sto] at hs
  | _ =>
    refine ⟨⟨by simp [SV.cells, Value.cells], fun k x u hx hu => ?_⟩, by simp [SV.cells, SV.one]⟩
    simp only [SV.cells, Value.cells] at hx hu
    cases k with
    | succ k => simp at hx
    | zero =>
      simp at hx hu
      subst hx
      subst hu
      constructor <;> assumption

theorem VR.oneCell {g : Gh} {w : World} {s : SV} {v : Value} (h : VR g w s v) (hs : s.one = true) : v.oneCell' = true := by
  cases h <;> simp_all [SV.one, Value.oneCell']

theorem cells_one {s : SV} (h : s.one = true) : s.cells = [s] := by
  cases s <;> simp_all [SV.one, SV.cells]

theorem VR.cells_one {g : Gh} {w : World} {s : SV} {v : Value} (h : VR g w s v) (hs : s.one = true) : v.cells = #[v] := by
  cases h <;> simp_all [SV.one, Value.cells]

theorem VR.ofVal1 (g : Gh) (w : World) (v : Value) : VR g w (ofVal1 v) v := by
  unfold Sh.ofVal1
  split <;> constructor

theorem ofVal1_one (v : Value) : (ofVal1 v).one = true ∨ ofVal1 v = .bad := by
  unfold Sh.ofVal1
  split <;> simp [SV.one]

end Go.Proofs.YtbdliphlolajaaaDoor.Sh
