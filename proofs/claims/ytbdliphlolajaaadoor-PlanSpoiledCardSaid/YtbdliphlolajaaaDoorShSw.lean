/-
  The shadow interpreter, text 22: library functions with contracts of their own: memory that grows, a cell that is set. No condition.
-/
import Derived.Test.YtbdliphlolajaaaDoorShMb
set_option linter.unusedVariables false
set_option linter.unusedSimpArgs false
namespace Go.Proofs.YtbdliphlolajaaaDoor.Sh
variable {E : Env} {P : Program} {g g' : Gh} {w w' : World}

theorem setCell_row {w : World} {b o : Nat} {c : Array Value} {e : TypeId} {fr : Nat × Nat} (h : w.heap[b]? = some (Obj.cells c e fr)) (v : Value) : w.setCell ⟨b, o, none⟩ v = w.setRow b (c.setIfInBounds o v) := by
  unfold World.setCell World.setRow
  congr 1
  apply Array.ext
  · simp
  · intro i h1 h2
    simp only [Array.getElem_modify]
    split
    · rename_i hi
      subst hi
      have hlt : b < w.heap.size := by simpa using h1
      have : w.heap[b] = Obj.cells c e fr := by
        rw [Array.getElem?_eq_getElem hlt] at h
        simpa using h
      rw [this]
      simp
    · rfl

/-- Memory has grown: nothing that was there has turned. -/
theorem MR.grow {M : Mem} {fr : Nat → Prop} (hM : MR E g w M fr) (hb : RowKit.Below w.heap.size w w') : Evo g w g w' ∧ MR E g w' M fr := by
  have hcell : ∀ b o v, w.cell? ⟨b, o, none⟩ = some v → w'.cell? ⟨b, o, none⟩ = some v := fun b o v h => by
    rw [World.cell?_of_block (a := ⟨b, o, none⟩) (hb.block b (lt_of_cell? h))]
    exact h
  have evo : Evo g w g w' := ⟨rfl, rfl, rfl, fun _ _ h => ⟨h, rfl⟩, fun _ => Nat.le_refl _, fun b o v _ h => hcell b o v h,
    fun b c t fr h => ⟨c, by rw [hb.block b (Array.getElem?_eq_some_iff.1 h).1]; exact h, rfl⟩, hb.mono hM.base⟩
  refine ⟨evo, hM.good, Nat.le_trans hM.base hb.size, fun id items hid => ?_, hM.inj, hM.fresh, fun b hbb => ⟨(hM.hwb b hbb).1, Nat.lt_of_lt_of_le (hM.hwb b hbb).2 hb.size⟩, fun id b hid => Nat.lt_of_lt_of_le (hM.lt id b hid) hb.size,
    fun n items hn => (hM.glob n items hn).mono hM.good evo, hM.plain, hM.raw.mono evo, hM.sent.mono evo⟩
  obtain ⟨b, c, e, h1, h2, h3, h4, h5, h6⟩ := hM.blk id items hid
  refine ⟨b, c, e, h1, h2, h3, h4, by rw [hb.block b (Array.getElem?_eq_some_iff.1 h5).1]; exact h5, fun k x hk => ?_⟩
  obtain ⟨a1, v, a2, a3⟩ := h6 k x hk
  exact ⟨a1, v, a2, a3.mono hM.good evo⟩

/-- A block of one cell of the call's own is set, whatever has grown beside it. -/
theorem MR.set1 {M : Mem} {fr : Nat → Prop} (hM : MR E g w M fr) (hb : RowKit.Below w.heap.size w w') {id b : Nat} {y x : SV} {v : Value} (hid : M.blk id = some [y]) (ho : g.own id = some b) (hy : y.cells.length = 1)
    (hx : x.cells = [x]) (h1 : x.one = true) (hv : VR g w x v) : (∃ old, w.cell? ⟨b, 0, none⟩ = some old) ∧ w.frozen? ⟨b, 0, none⟩ = false ∧ Evo g w g (w'.setCell ⟨b, 0, none⟩ v) ∧ MR E g (w'.setCell ⟨b, 0, none⟩ v) (M.set id (some [x])) fr := by
  obtain ⟨evo, hM'⟩ := hM.grow hb
  obtain ⟨b', c, e, q1, q2, q3, q4, q5, q6⟩ := hM.blk id [y] hid
  obtain rfl : b' = b := by rw [ho] at q1; simpa using q1.symm
  obtain ⟨y0, hy0⟩ := List.length_eq_one_iff.1 hy
  obtain ⟨_, old, ho1, _⟩ := q6 0 y0 (by simp [flat, hy0])
  have hsz : 0 < c.size := (Array.getElem?_eq_some_iff.1 ho1).1
  have q5' : w'.heap[b']? = some (Obj.cells c e (0, 0)) := by rw [hb.block b' (Array.getElem?_eq_some_iff.1 q5).1]; exact q5
  have he : g.esz id = 1 := by have := q4 y (by simp); omega
  have put := MR.put (items' := [x]) hM' hid ho q5' (c' := c.setIfInBounds 0 v) (by simp) (fun z hz => by simp at hz; subst hz; rw [he, hx]; rfl) (fun k z hk => by
    have hk' : (flat [x]) = [x] := by simp [flat, hx]
    rw [hk'] at hk
    cases k with
    | zero => simp at hk; subst hk; exact ⟨h1, v, by simp [hsz], hv.mono hM.good evo⟩
    | succ k => simp at hk)
  rw [setCell_row q5']
  refine ⟨⟨old, ?_⟩, ?_, evo.trans put.1, put.2⟩
  · rw [cell?_cells q5]; exact ho1
  · simp [World.frozen?, q5]

theorem VRs.two_inv {x y : SV} {a : Array Value} (h : VRs g w [x, y] a) : ∃ u v, a = #[u, v] ∧ VR g w x u ∧ VR g w y v := by
  obtain ⟨h1, h2⟩ := h
  obtain ⟨l⟩ := a
  match l, h1 with
  | [u, v], _ => exact ⟨u, v, rfl, h2 0 x u rfl rfl, h2 1 y v rfl rfl⟩

theorem CallPost.same {M : Mem} {fr : Nat → Prop} (hM : MR E g w M fr) (hfr : ∀ id, M.next ≤ id → fr id) {r : SV} {v : Value} (hv : VR g w r v) : CallPost E g w M M r (.returned v) w :=
  ⟨v, g, rfl, .refl g w, hM.weaken hfr, hv, fun _ _ => rfl⟩

end Go.Proofs.YtbdliphlolajaaaDoor.Sh
