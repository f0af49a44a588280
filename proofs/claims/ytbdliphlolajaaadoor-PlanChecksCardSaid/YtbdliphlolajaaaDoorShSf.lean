/-
  The shadow interpreter, text 6: memory that is made and written. No condition.
-/
import Derived.Test.YtbdliphlolajaaaDoorShSe
import Derived.Deep.AppendSrc
import Derived.Deep.Upon
import Derived.Laws.CopyRow
set_option linter.unusedVariables false
set_option linter.unusedSimpArgs false
namespace Go.Proofs.YtbdliphlolajaaaDoor.Sh
variable {E : Env} {P : Program} {g : Gh} {w : World}

def Gh.new (g : Gh) (id b n : Nat) : Gh :=
  { g with own := fun j => if j = id then some b else g.own j, esz := fun j => if j = id then n else g.esz j }

theorem Mem.set_same (M : Mem) (id : Nat) (b : Option (List SV)) : (M.set id b).blk id = b := by simp [Mem.set]
theorem Mem.set_other (M : Mem) {id j : Nat} (b : Option (List SV)) (h : j ≠ id) : (M.set id b).blk j = M.blk j := by simp [Mem.set, h]

theorem own_new_self (g : Gh) (id b n : Nat) : (g.new id b n).own id = some b ∧ (g.new id b n).esz id = n := by simp [Gh.new]

theorem MR.none_of_fresh {M : Mem} {fr : Nat → Prop} (hM : MR E g w M fr) {id : Nat} (h : fr id) : M.blk id = none := by
  cases hb : M.blk id with
  | none => rfl
  | some items =>
    obtain ⟨b, c, e, ho, _⟩ := hM.blk id items hb
    rw [hM.fresh id h] at ho
    cases ho

theorem MR.new {M : Mem} {fr : Nat → Prop} (hM : MR E g w M fr) {id : Nat} (hid : fr id) {items : List SV} {n : Nat} (hu : ∀ x ∈ items, x.cells.length = n)
    {c : Array Value} {e : TypeId} (hc : ∀ (k : Nat) (x : SV), (flat items)[k]? = some x → x.one = true ∧ ∃ v, c[k]? = some v ∧ VR g w x v)
    {w' : World} (hh : w'.heap = w.heap.push (Obj.cells c e (0, 0))) (ho : w'.os = w.os) (ht : w'.tape = w.tape) (hp : w'.output = w.output) :
    Evo g w (g.new id w.heap.size n) w' ∧ MR E (g.new id w.heap.size n) w' (M.set id (some items)) (fun j => fr j ∧ j ≠ id) := by
  have hold : ∀ b, b < w.heap.size → w'.heap[b]? = w.heap[b]? := fun b hb => by rw [hh, Array.getElem?_push, if_neg (by omega)]
  have hnew : w'.heap[w.heap.size]? = some (Obj.cells c e (0, 0)) := by rw [hh]; simp
  have hsz : w'.heap.size = w.heap.size + 1 := by rw [hh]; simp
  have hnone := hM.fresh id hid
  have evo : Evo g w (g.new id w.heap.size n) w' := by
    refine ⟨rfl, rfl, rfl, fun j b hj => ?_, fun _ => Nat.le_refl _, fun b o v _ h => ?_, fun b c0 t fr0 h => ?_, ⟨ho, ht, hp, by omega, fun k hk => hold k (Nat.lt_of_lt_of_le hk hM.base)⟩⟩
    · have hne : j ≠ id := by rintro rfl; rw [hnone] at hj; cases hj
      simp [Gh.new, hne, hj]
    · have hlt := lt_of_cell? h
      rw [World.cell?_of_block (a := ⟨b, o, none⟩) (hold b hlt)]
      exact h
    · exact ⟨c0, by rw [hold b (Array.getElem?_eq_some_iff.1 h).1]; exact h, rfl⟩
  refine ⟨evo, ?_⟩
  have hwz : g.hw w.heap.size = 0 := by
    rcases Nat.eq_zero_or_pos (g.hw w.heap.size) with h | h
    · exact h
    · have := (hM.hwb _ h).2; omega
  refine ⟨hM.good, by rw [hsz]; have := hM.base; exact Nat.le_succ_of_le this, fun j its hj => ?_, fun j j' b h1 h2 h3 h4 => ?_, fun j hj => ?_, fun b hb => ?_, fun j b hj => ?_, fun m its hm => (hM.glob m its hm).mono hM.good evo, hM.plain, hM.raw.mono evo, hM.sent.mono evo⟩
  · by_cases hji : j = id
    · subst hji
      rw [Mem.set_same] at hj
      cases hj
      refine ⟨w.heap.size, c, e, (own_new_self g j _ n).1, hM.base, hwz, by rw [(own_new_self g j _ n).2]; exact hu, hnew, fun k x hk => ?_⟩
      obtain ⟨h1, v, hv, hr⟩ := hc k x hk
      exact ⟨h1, v, hv, hr.mono hM.good evo⟩
    · rw [Mem.set_other _ _ hji] at hj
      obtain ⟨b, c0, t, h1, h2, h3, h4, h5, h6⟩ := hM.blk j its hj
      refine ⟨b, c0, t, (evo.own j b h1).1, h2, h3, by rw [(evo.own j b h1).2]; exact h4, by rw [hold b (hM.lt j b h1)]; exact h5, fun k x hk => ?_⟩
      obtain ⟨a1, v, a2, a3⟩ := h6 k x hk
      exact ⟨a1, v, a2, a3.mono hM.good evo⟩
  · by_cases hji : j = id
    · by_cases hji' : j' = id
      · rw [hji, hji']
      · rw [hji] at h3
        simp [Gh.new] at h3
        simp [Gh.new, hji'] at h4
        have := hM.lt j' b h4
        omega
    · by_cases hji' : j' = id
      · rw [hji'] at h4
        simp [Gh.new] at h4
        simp [Gh.new, hji] at h3
        have := hM.lt j b h3
        omega
      · rw [Mem.set_other _ _ hji] at h1
        rw [Mem.set_other _ _ hji'] at h2
        simp [Gh.new, hji] at h3
        simp [Gh.new, hji'] at h4
        exact hM.inj j j' b h1 h2 h3 h4
  · simp [Gh.new, hj.2, hM.fresh j hj.1]
  · obtain ⟨q1, q2⟩ := hM.hwb b hb
    exact ⟨q1, by omega⟩
  · by_cases hji : j = id
    · subst hji
      simp [Gh.new] at hj
      omega
    · simp [Gh.new, hji] at hj
      have := hM.lt j b hj
      omega

theorem MR.kill {M : Mem} {fr : Nat → Prop} (hM : MR E g w M fr) (id : Nat) : MR E g w (M.set id none) fr := by
  have hsub : ∀ j its, (M.set id none).blk j = some its → M.blk j = some its := by
    intro j its h
    by_cases hj : j = id
    · subst hj; rw [Mem.set_same] at h; cases h
    · rwa [Mem.set_other _ _ hj] at h
  have hsub' : ∀ j, ((M.set id none).blk j).isSome = true → (M.blk j).isSome = true := by
    intro j h
    cases hb : (M.set id none).blk j with
    | none => rw [hb] at h; cases h
    | some its => rw [hsub j its hb]; rfl
  exact ⟨hM.good, hM.base, fun j its h => hM.blk j its (hsub j its h), fun j j' b h1 h2 h3 h4 => hM.inj j j' b (hsub' j h1) (hsub' j' h2) h3 h4, hM.fresh, hM.hwb, hM.lt, hM.glob, hM.plain, hM.raw, hM.sent⟩

/-- One of the call's own blocks is written: nothing else turns. -/
theorem evo_setRow {M : Mem} {fr : Nat → Prop} (hM : MR E g w M fr) {b : Nat} {c c' : Array Value} {e : TypeId} (hb : g.base ≤ b) (hw : g.hw b = 0)
    (hheap : w.heap[b]? = some (Obj.cells c e (0, 0))) (hsz : c'.size = c.size) : Evo g w g (w.setRow b c') := by
  refine ⟨rfl, rfl, rfl, fun _ _ h => ⟨h, rfl⟩, fun _ => Nat.le_refl _, fun b0 o v hn h => ?_, fun b0 c0 t fr0 h => ?_, ⟨rfl, rfl, rfl, by simp, fun k hk => setRow_other w b k c' (by omega)⟩⟩
  · have hne : b0 ≠ b := by
      rintro rfl
      rcases hn with hn | hn
      · omega
      · omega
    rw [World.cell?_of_block (a := ⟨b0, o, none⟩) (setRow_other w b b0 c' hne)]
    exact h
  · by_cases hne : b0 = b
    · subst hne
      rw [hheap] at h
      cases h
      exact ⟨c', setRow_heap w b0 c c' e (0, 0) hheap, hsz⟩
    · exact ⟨c0, by rw [setRow_other w b b0 c' hne]; exact h, rfl⟩

theorem MR.put {M : Mem} {fr : Nat → Prop} (hM : MR E g w M fr) {id b : Nat} {items items' : List SV} {c c' : Array Value} {e : TypeId} (hblk : M.blk id = some items) (hown : g.own id = some b)
    (hheap : w.heap[b]? = some (Obj.cells c e (0, 0))) (hsz : c'.size = c.size) (hu : ∀ x ∈ items', x.cells.length = g.esz id)
    (hc : ∀ (k : Nat) (x : SV), (flat items')[k]? = some x → x.one = true ∧ ∃ v, c'[k]? = some v ∧ VR g w x v) :
    Evo g w g (w.setRow b c') ∧ MR E g (w.setRow b c') (M.set id (some items')) fr := by
  obtain ⟨b', c0, t0, ho, hb, hw, hu0, hheap0, _⟩ := hM.blk id items hblk
  obtain rfl : b' = b := by rw [hown] at ho; simpa using ho.symm
  have evo := evo_setRow hM hb hw hheap hsz
  refine ⟨evo, hM.good, by simpa using hM.base, fun j its hj => ?_, fun j j' q h1 h2 h3 h4 => ?_, hM.fresh, fun q hq => by simpa using hM.hwb q hq, fun j q hj => by simpa using hM.lt j q hj, fun m its hm => (hM.glob m its hm).mono hM.good evo, hM.plain, hM.raw.mono evo, hM.sent.mono evo⟩
  · by_cases hji : j = id
    · subst hji
      rw [Mem.set_same] at hj
      cases hj
      refine ⟨b', c', e, hown, hb, hw, hu, setRow_heap w b' c c' e (0, 0) hheap, fun k x hk => ?_⟩
      obtain ⟨h1, v, hv, hr⟩ := hc k x hk
      exact ⟨h1, v, hv, hr.mono hM.good evo⟩
    · rw [Mem.set_other _ _ hji] at hj
      obtain ⟨q, c1, t1, h1, h2, h3, h4, h5, h6⟩ := hM.blk j its hj
      have hne : q ≠ b' := by
        rintro rfl
        exact hji (hM.inj j id q (by rw [hj]; rfl) (by rw [hblk]; rfl) h1 hown)
      refine ⟨q, c1, t1, h1, h2, h3, h4, by rw [setRow_other w b' q c' hne]; exact h5, fun k x hk => ?_⟩
      obtain ⟨a1, v, a2, a3⟩ := h6 k x hk
      exact ⟨a1, v, a2, a3.mono hM.good evo⟩
  · have conv : ∀ j, ((M.set id (some items')).blk j).isSome = true → (M.blk j).isSome = true := by
      intro j h
      by_cases hji : j = id
      · subst hji; rw [hblk]; rfl
      · rwa [Mem.set_other _ _ hji] at h
    exact hM.inj j j' q (conv j h1) (conv j' h2) h3 h4

/-- A block gets a new number, and more cells: an append in place. -/
theorem MR.move {M : Mem} {fr : Nat → Prop} (hM : MR E g w M fr) {id a b : Nat} (ha : fr a) {items items' : List SV} {c c' : Array Value} {e : TypeId} (hblk : M.blk id = some items) (hown : g.own id = some b)
    (hheap : w.heap[b]? = some (Obj.cells c e (0, 0))) (hsz : c'.size = c.size) (hu : ∀ x ∈ items', x.cells.length = g.esz id)
    (hc : ∀ (k : Nat) (x : SV), (flat items')[k]? = some x → x.one = true ∧ ∃ v, c'[k]? = some v ∧ VR g w x v) :
    Evo g w (g.new a b (g.esz id)) (w.setRow b c') ∧ MR E (g.new a b (g.esz id)) (w.setRow b c') ((M.set id none).set a (some items')) (fun j => fr j ∧ j ≠ a) := by
  obtain ⟨b', c0, t0, ho, hb, hw, hu0, hheap0, _⟩ := hM.blk id items hblk
  obtain rfl : b' = b := by rw [hown] at ho; simpa using ho.symm
  have hnone := hM.fresh a ha
  have hai : a ≠ id := by rintro rfl; rw [hnone] at hown; cases hown
  have e0 := evo_setRow hM hb hw hheap hsz
  have evo : Evo g w (g.new a b' (g.esz id)) (w.setRow b' c') := by
    refine ⟨rfl, rfl, rfl, fun j q hj => ?_, fun _ => Nat.le_refl _, e0.cell, e0.size, e0.below⟩
    have hne : j ≠ a := by rintro rfl; rw [hnone] at hj; cases hj
    simp [Gh.new, hne, hj]
  refine ⟨evo, hM.good, by rw [setRow_size]; exact hM.base, fun j its hj => ?_, fun j j' q h1 h2 h3 h4 => ?_, fun j hj => ?_, fun q hq => by rw [setRow_size]; exact hM.hwb q hq, fun j q hj => ?_, fun m its hm => (hM.glob m its hm).mono hM.good evo, hM.plain, hM.raw.mono evo, hM.sent.mono evo⟩
  · by_cases hja : j = a
    · subst hja
      rw [Mem.set_same] at hj
      cases hj
      refine ⟨b', c', e, (own_new_self g j _ _).1, hb, hw, by rw [(own_new_self g j _ _).2]; exact hu, setRow_heap w b' c c' e (0, 0) hheap, fun k x hk => ?_⟩
      obtain ⟨h1, v, hv, hr⟩ := hc k x hk
      exact ⟨h1, v, hv, hr.mono hM.good evo⟩
    · rw [Mem.set_other _ _ hja] at hj
      by_cases hji : j = id
      · subst hji; rw [Mem.set_same] at hj; cases hj
      rw [Mem.set_other _ _ hji] at hj
      obtain ⟨q, c1, t1, h1, h2, h3, h4, h5, h6⟩ := hM.blk j its hj
      have hne : q ≠ b' := by
        rintro rfl
        exact hji (hM.inj j id q (by rw [hj]; rfl) (by rw [hblk]; rfl) h1 hown)
      refine ⟨q, c1, t1, (evo.own j q h1).1, h2, h3, by rw [(evo.own j q h1).2]; exact h4, by rw [setRow_other w b' q c' hne]; exact h5, fun k x hk => ?_⟩
      obtain ⟨a1, v, a2, a3⟩ := h6 k x hk
      exact ⟨a1, v, a2, a3.mono hM.good evo⟩
  · have conv : ∀ j, (((M.set id none).set a (some items')).blk j).isSome = true → j = a ∨ (j ≠ a ∧ j ≠ id ∧ (M.blk j).isSome = true) := by
      intro j h
      by_cases hja : j = a
      · exact .inl hja
      · rw [Mem.set_other _ _ hja] at h
        by_cases hji : j = id
        · subst hji; rw [Mem.set_same] at h; cases h
        · rw [Mem.set_other _ _ hji] at h
          exact .inr ⟨hja, hji, h⟩
    have hlive : (M.blk id).isSome = true := by rw [hblk]; rfl
    rcases conv j h1 with rfl | ⟨hja, hji, hl⟩ <;> rcases conv j' h2 with rfl | ⟨hja', hji', hl'⟩
    · rfl
    · simp [Gh.new] at h3
      simp [Gh.new, hja'] at h4
      subst h3
      exact absurd (hM.inj j' id _ hl' hlive h4 hown) hji'
    · simp [Gh.new, hja] at h3
      simp [Gh.new] at h4
      subst h4
      exact absurd (hM.inj j id _ hl hlive h3 hown) hji
    · simp [Gh.new, hja] at h3
      simp [Gh.new, hja'] at h4
      exact hM.inj j j' q hl hl' h3 h4
  · simp [Gh.new, hj.2, hM.fresh j hj.1]
  · by_cases hja : j = a
    · subst hja
      simp [Gh.new] at hj
      subst hj
      simpa using hM.lt id b' hown
    · simp [Gh.new, hja] at hj
      simpa using hM.lt j q hj

/-! ### New variables, literals -/

/-- A new block of values that are told. -/
theorem new_block {M : Mem} {fr : Nat → Prop} (hM : MR E g w M fr) {a : Nat} (ha : fr a) {items : List SV} {n : Nat} (hu : ∀ x ∈ items, x.cells.length = n) {c : Array Value} (e : TypeId)
    (hc : ∀ (k : Nat) (x : SV), (flat items)[k]? = some x → x.one = true ∧ ∃ v, c[k]? = some v ∧ VR g w x v) :
    (newRow e c).run P w = .ok ⟨w.heap.size, 0, none⟩ { w with heap := w.heap.push (Obj.cells c e (0, 0)) } ∧
    Evo g w (g.new a w.heap.size n) { w with heap := w.heap.push (Obj.cells c e (0, 0)) } ∧
    MR E (g.new a w.heap.size n) { w with heap := w.heap.push (Obj.cells c e (0, 0)) } (M.set a (some items)) (fun j => fr j ∧ j ≠ a) :=
  ⟨by simp [newRow], hM.new ha hu hc rfl rfl rfl rfl⟩

theorem flat_one (x : SV) : flat [x] = x.cells := by simp [flat]

/-- A value's cells, in a new block. -/
theorem cells_of_rel {s : SV} {v : Value} (h : VR g w s v) (hs : s.sto = true) : ∀ (k : Nat) (x : SV), (flat [s])[k]? = some x → x.one = true ∧ ∃ u, v.cells[k]? = some u ∧ VR g w x u := by
  intro k x hk
  rw [flat_one] at hk
  obtain ⟨⟨hl, hr⟩, hone⟩ := h.cells hs
  have hlt : k < v.cells.size := by rw [← hl]; exact (List.getElem?_eq_some_iff.1 hk).1
  exact ⟨hone x (List.mem_of_getElem? hk), v.cells[k], by simp [hlt], hr k x _ hk (by simp [hlt])⟩

theorem new_var {M : Mem} {fr : Nat → Prop} (hM : MR E g w M fr) {a : Nat} (ha : fr a) {s : SV} {v : Value} (h : VR g w s v) (hs : s.sto = true) (e : TypeId) :
    ∃ w' g', (newVar e v).run P w = .ok ⟨w.heap.size, 0, none⟩ w' ∧ Evo g w g' w' ∧ MR E g' w' (M.set a (some [s])) (fun j => fr j ∧ j ≠ a) ∧ VR g' w' (.ptr a 0 0) (.pointer (some ⟨w.heap.size, 0, none⟩)) ∧ ∀ j, j ≠ a → g'.own j = g.own j := by
  obtain ⟨h1, h2, h3⟩ := new_block (P := P) hM ha (items := [s]) (n := s.cells.length) (by simp) e (cells_of_rel h hs)
  refine ⟨_, _, h1, h2, h3, ?_, fun j hj => by simp [Gh.new, hj]⟩
  have := VR.ptr (g := g.new a w.heap.size s.cells.length) (w := { w with heap := w.heap.push (Obj.cells v.cells e (0, 0)) }) a 0 0 w.heap.size (own_new_self g a _ _).1
  simpa using this

/-- Rows of equal items, as a literal lays them. -/
theorem buildRow_sim {n len : Nat} (hn : 0 < n) : ∀ (ps : List (Nat × SV)) (qs : List (Nat × Value)) (xs : List SV) (cells : Array Value) (r : List SV),
    xs.length = len → cells.size = len * n → (∀ x ∈ xs, x.cells.length = n) → (∀ (k : Nat) (x : SV), (flat xs)[k]? = some x → x.one = true ∧ ∃ v, cells[k]? = some v ∧ VR g w x v) →
    ps.length = qs.length → (∀ (j : Nat) (x : Nat × SV) (y : Nat × Value), ps[j]? = some x → qs[j]? = some y → x.1 = y.1 ∧ VR g w x.2 y.2) →
    buildRow n len xs ps = some r → ∃ r', Instr.fill (fun i => some (i * n, n)) cells qs = some r' ∧ r.length = len ∧ r'.size = len * n ∧ (∀ x ∈ r, x.cells.length = n) ∧
      ∀ (k : Nat) (x : SV), (flat r)[k]? = some x → x.one = true ∧ ∃ v, r'[k]? = some v ∧ VR g w x v
  | [], [], xs, cells, r, hl, hs, hu, hc, _, _, h => by
    simp [buildRow] at h
    subst h
    exact ⟨cells, rfl, hl, hs, hu, hc⟩
  | (i, x) :: ps, (i', v) :: qs, xs, cells, r, hl, hs, hu, hc, hpq, hr, h => by
    simp only [buildRow] at h
    split at h
    case isFalse => cases h
    rename_i hcond
    obtain ⟨hi, hv⟩ := hr 0 (i, x) (i', v) rfl rfl
    simp only at hi hv
    subst hi
    obtain ⟨⟨hvl, hvr⟩, hone⟩ := hv.cells hcond.1
    have hsz : v.cells.size = n := by rw [← hvl]; exact hcond.2.1
    have hin : i * n + n ≤ len * n := by rw [← Nat.succ_mul]; exact Nat.mul_le_mul_right _ hcond.2.2
    have hle : i * n + v.cells.size ≤ cells.size := by rw [hsz, hs]; exact hin
    obtain ⟨f1, f2⟩ := fill_step (i * n) cells v.cells hle
    have hu' : ∀ y ∈ xs.set i x, y.cells.length = n := by
      intro y hy
      rcases List.mem_or_eq_of_mem_set hy with hy | rfl
      · exact hu y hy
      · exact hcond.2.1
    obtain ⟨r', hf, h1, h2, h3, h4⟩ := buildRow_sim hn ps qs (xs.set i x) _ r (by simpa using hl) (by rw [f1]; exact hs) hu' (fun k y hk => by
      have hk0 : k < len * n := by
        have := (List.getElem?_eq_some_iff.1 hk).1
        rw [flat_length hu'] at this
        simpa [hl] using this
      have hdiv : k = (k / n) * n + k % n := by rw [Nat.mul_comm]; exact (Nat.div_add_mod k n).symm
      have hmod : k % n < n := Nat.mod_lt _ hn
      have hdl : k / n < len := Nat.div_lt_of_lt_mul (by rw [Nat.mul_comm]; exact hk0)
      have hyk : (xs.set i x)[k / n]? = some ((xs.set i x)[k / n]'(by simp [hl]; exact hdl)) := by simp [hl, hdl]
      have hfg := flat_get (k / n) (k % n) _ hu' hyk hmod
      rw [← hdiv, hk] at hfg
      by_cases hki : k / n = i
      · subst hki
        have hx' : (xs.set (k / n) x)[k / n]'(by simp [hl]; exact hdl) = x := by simp
        rw [hx'] at hfg
        have hlt : k % n < v.cells.size := by rw [hsz]; exact hmod
        refine ⟨hone y (List.mem_of_getElem? hfg.symm), v.cells[k % n], ?_, hvr _ y _ hfg.symm (by simp [hlt])⟩
        rw [f2, if_pos (by rw [hsz]; omega)]
        have : k - k / n * n = k % n := by omega
        rw [this]
        simp [hlt]
      · have hx' : (xs.set i x)[k / n]'(by simp [hl]; exact hdl) = xs[k / n]'(by rw [hl]; exact hdl) := by
          simp [List.getElem_set, Ne.symm hki]
        rw [hx'] at hfg
        have hfo := flat_get (k / n) (k % n) (xs[k / n]'(by rw [hl]; exact hdl)) hu (by simp [hl, hdl]) hmod
        rw [← hdiv, ← hfg] at hfo
        obtain ⟨a1, u, a2, a3⟩ := hc k y hfo
        refine ⟨a1, u, ?_, a3⟩
        rw [f2, if_neg ?_]
        · exact a2
        · rw [hsz]
          rintro ⟨b1, b2⟩
          apply hki
          have hnn : n ≠ 0 := by omega
          apply Nat.div_eq_of_lt_le
          · exact b1
          · rw [Nat.succ_mul]; exact b2) (by simpa using hpq) (fun j y u hy hu => hr (j + 1) y u (by simpa using hy) (by simpa using hu)) h
    refine ⟨r', ?_, h1, h2, h3, h4⟩
    simp only [Instr.fill]
    rw [if_neg (by simp [hsz]; rw [hs]; omega)]
    exact hf

end Go.Proofs.YtbdliphlolajaaaDoor.Sh
