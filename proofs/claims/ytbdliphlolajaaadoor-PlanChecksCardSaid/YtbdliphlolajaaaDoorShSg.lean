/-
  The shadow interpreter, text 7: new variables, literals, make, stores, append. No condition.
-/
import Derived.Test.YtbdliphlolajaaaDoorShSf
set_option linter.unusedVariables false
set_option linter.unusedSimpArgs false
namespace Go.Proofs.YtbdliphlolajaaaDoor.Sh
variable {E : Env} {P : Program} {g : Gh} {w : World}

/-- What an operation leaves: memory gone on, the number 'a' taken at most. -/
structure Done (E : Env) (g : Gh) (w : World) (g' : Gh) (w' : World) (M' : Mem) (fr : Nat → Prop) (a : Nat) : Prop where
  evo : Evo g w g' w'
  mr : MR E g' w' M' (fun j => fr j ∧ j ≠ a)
  keep : ∀ j, j ≠ a → g'.own j = g.own j

theorem Done.same {M : Mem} {fr : Nat → Prop} (hM : MR E g w M fr) (a : Nat) : Done E g w g w M fr a :=
  ⟨.refl g w, hM.weaken fun _ h => h.1, fun _ _ => rfl⟩

theorem alloc_sim {M : Mem} {fr : Nat → Prop} (hM : MR E g w M fr) {a : Nat} (ha : fr a) {t : Nat} {ti : TI} {z : SV} (hti : tiOf P t = some ti) (hz : ti.zero = some z) (hs : z.sto = true) :
    ∃ w' g' v', (Instr.alloc t true (.tuple #[])).run P w = .ok v' w' ∧ Done E g w g' w' (M.set a (some [z])) fr a ∧ VR g' w' (.ptr a 0 0) v' := by
  obtain ⟨d, i, hd, hi, rfl⟩ := tiOf_some hti
  simp only [Option.map_eq_some_iff] at hz
  obtain ⟨zv, hzv, rfl⟩ := hz
  obtain ⟨w', g', h1, h2, h3, h4, h5⟩ := new_var (P := P) hM ha (VR.ofVal g w zv) hs t
  exact ⟨w', g', _, by simp [Instr.alloc, zeroValue, run_typeInfo hi, hzv, h1], ⟨h2, h3, h5⟩, h4⟩

theorem box_sim {M : Mem} {fr : Nat → Prop} (hM : MR E g w M fr) {a : Nat} (ha : fr a) {t : Nat} {x : SV} {x' : Value} (hx : VR g w x x') (hs : x.sto = true) :
    ∃ w' g' v', (Instr.box t x').run P w = .ok v' w' ∧ Done E g w g' w' (M.set a (some [x])) fr a ∧ VR g' w' (.ptr a 0 0) v' := by
  obtain ⟨w', g', h1, h2, h3, h4, h5⟩ := new_var (P := P) hM ha hx hs t
  exact ⟨w', g', _, by simp [Instr.box, h1], ⟨h2, h3, h5⟩, h4⟩

/-- Rows of zeros. -/
theorem zero_row {z : SV} {zv : Value} {n len : Nat} (hz : VR g w z zv) (hs : z.sto = true) (hn : z.cells.length = n) (h0 : 0 < n) :
    (∀ x ∈ List.replicate len z, x.cells.length = n) ∧
    ∀ (k : Nat) (x : SV), (flat (List.replicate len z))[k]? = some x → x.one = true ∧ ∃ v, ((Array.range (len * n)).map (zv.cells[· % zv.cells.size]!))[k]? = some v ∧ VR g w x v := by
  have hu : ∀ x ∈ List.replicate len z, x.cells.length = n := fun x hx => by rw [(List.mem_replicate.1 hx).2]; exact hn
  refine ⟨hu, fun k x hk => ?_⟩
  obtain ⟨⟨hl, hr⟩, hone⟩ := hz.cells hs
  have hk0 : k < len * n := by
    have := (List.getElem?_eq_some_iff.1 hk).1
    rw [flat_length hu] at this
    simpa using this
  have hdiv : k = (k / n) * n + k % n := by rw [Nat.mul_comm]; exact (Nat.div_add_mod k n).symm
  have hmod : k % n < n := Nat.mod_lt _ h0
  have hdl : k / n < len := Nat.div_lt_of_lt_mul (by rw [Nat.mul_comm]; exact hk0)
  have hg := flat_get (k / n) (k % n) z hu (by simp [hdl]) hmod
  rw [← hdiv, hk] at hg
  have hsz : zv.cells.size = n := by rw [← hl]; exact hn
  have hlt : k % n < zv.cells.size := by rw [hsz]; exact hmod
  refine ⟨hone x (List.mem_of_getElem? hg.symm), zv.cells[k % n], ?_, hr _ x _ hg.symm (by simp [hlt])⟩
  have : k < (Array.range (len * n)).size := by simpa using hk0
  simp [hk0, hsz, hmod]

theorem buildSlice_sim {M : Mem} {fr : Nat → Prop} (hM : MR E g w M fr) {a : Nat} (ha : fr a) {t e len : Nat} {x1 x2 : Nat} {x3 : Option SV} {te : TI} {z : SV} {r : List SV} {ps : List (Nat × SV)} {qs : Array (Nat × Value)}
    (ht : tiOf P t = some ⟨.slice e, x1, x2, x3⟩) (hte : tiOf P e = some te) (hz : te.zero = some z) (hc : z.sto = true ∧ z.cells.length = te.size ∧ 0 < te.size ∧ len * te.size ≤ 16777216)
    (hl : ps.length = qs.size) (hr : ∀ (j : Nat) (x : Nat × SV) (y : Nat × Value), ps[j]? = some x → qs[j]? = some y → x.1 = y.1 ∧ VR g w x.2 y.2)
    (hb : buildRow te.size len (List.replicate len z) ps = some r) :
    ∃ w' g' v', (Instr.buildSlice t len qs).run P w = .ok v' w' ∧ Done E g w g' w' (M.set a (some r)) fr a ∧ VR g' w' (.own a te.size 0 len) v' := by
  obtain ⟨d, i, hd, hi, he⟩ := tiOf_some ht
  simp only [TI.mk.injEq] at he
  obtain rfl := tk_slice he.1.symm
  obtain ⟨d2, i2, hd2, hi2, rfl⟩ := tiOf_some hte
  simp only [Option.map_eq_some_iff] at hz
  obtain ⟨zv, hzv, rfl⟩ := hz
  obtain ⟨hs, hn, h0, hlim⟩ := hc
  simp only at hn h0 hlim hb ⊢
  have hzr := VR.ofVal g w zv
  obtain ⟨hu, hcells⟩ := zero_row (len := len) hzr hs hn h0
  obtain ⟨r', hf, h1, h2, h3, h4⟩ := buildRow_sim h0 ps qs.toList (List.replicate len (Sh.ofVal zv)) _ r (by simp) (by simp) hu hcells (by simpa using hl) (by simpa using hr) hb
  obtain ⟨k1, k2, k3⟩ := new_block (P := P) hM ha h3 e h4
  refine ⟨_, _, .slice (some ⟨w.heap.size, 0, none⟩) len len, ?_, ⟨k2, k3, fun j hj => by simp [Gh.new, hj]⟩, ?_⟩
  · have hlim' : ¬ (16777216 < len * i2.size) := by omega
    by_cases hl0 : len * i2.size = 0
    · rw [hl0] at hf
      have hr0 : Array.range 0 = #[] := rfl
      simp only [hr0, List.map_toArray, List.map_nil] at hf
      simp [Instr.buildSlice, run_underlying hd, run_sizeOf' hi2, hl0, hr0, hf, k1]
    · simp only [Instr.buildSlice, Sem.run_bind, run_underlying hd, Result.andThen_ok, run_sizeOf' hi2, if_neg hlim', if_neg hl0, zeroValue, run_typeInfo hi2, hzv, Sem.run_pure]
      simp [hf, k1]
  · have := VR.own (g := g.new a w.heap.size i2.size) (w := { w with heap := w.heap.push (Obj.cells r' e (0, 0)) }) a i2.size 0 len w.heap.size len (own_new_self g a _ _).1 (own_new_self g a _ _).2 (Nat.le_refl _)
      ⟨r', e, by simp, by rw [h2]; simp⟩
    simpa using this

theorem makeSlice_sim {M : Mem} {fr : Nat → Prop} (hM : MR E g w M fr) {a : Nat} (ha : fr a) {t e : Nat} {n : Int} {x1 x2 : Nat} {x3 : Option SV} {te : TI} {z : SV}
    (ht : tiOf P t = some ⟨.slice e, x1, x2, x3⟩) (hte : tiOf P e = some te) (hz : te.zero = some z) (hc : z.sto = true ∧ z.cells.length = te.size ∧ 0 < te.size ∧ 0 ≤ n ∧ n * te.bytes ≤ 281474976710656 ∧ n ≤ 281474976710656) :
    ∃ w' g' v', (Instr.makeSlice t (.int .i64 n) (.int .i64 n)).run P w = .ok v' w' ∧ Done E g w g' w' (M.set a (some (List.replicate n.toNat z))) fr a ∧ VR g' w' (.own a te.size 0 n.toNat) v' := by
  obtain ⟨d, i, hd, hi, he⟩ := tiOf_some ht
  simp only [TI.mk.injEq] at he
  obtain rfl := tk_slice he.1.symm
  obtain ⟨d2, i2, hd2, hi2, rfl⟩ := tiOf_some hte
  simp only [Option.map_eq_some_iff] at hz
  obtain ⟨zv, hzv, rfl⟩ := hz
  obtain ⟨hs, hn, h0, hge, hby, hlt⟩ := hc
  simp only at hn h0 hby ⊢
  have hzr := VR.ofVal g w zv
  obtain ⟨hu, hcells⟩ := zero_row (len := n.toNat) hzr hs hn h0
  obtain ⟨k1, k2, k3⟩ := new_block (P := P) hM ha hu e hcells
  refine ⟨_, _, .slice (some ⟨w.heap.size, 0, none⟩) n.toNat n.toNat, ?_, ⟨k2, k3, fun j hj => by simp [Gh.new, hj]⟩, ?_⟩
  · have hwrap : IntKind.i64.wrap n = n := by
      simp [IntKind.wrap, IntKind.bits, IntKind.signed]
      omega
    have hby' : ¬ (281474976710656 < (i2.bytes : Int) * n) := by rw [Int.mul_comm]; omega
    have h1 : ¬ n < 0 := by omega
    simp only [Instr.makeSlice, asInt, asIntOf, Sem.run_bind, run_underlying hd, Result.andThen_ok, run_typeInfo hi2, Sem.run_pure, hwrap]
    have hcond : ((decide (n < 0) || decide ((i2.bytes : Int) * n > 2 ^ 48)) || decide (n < 0) || decide (n > n)) = false := by
      simp [h1]
      omega
    by_cases hl0 : n.toNat * i2.size = 0
    · have hn0 : n.toNat = 0 := by
        rcases Nat.mul_eq_zero.1 hl0 with h | h
        · exact h
        · omega
      have hr0 : Array.range 0 = #[] := rfl
      rw [hl0] at k1
      simp only [hr0, List.map_toArray, List.map_nil] at k1
      simp [h1, hby', hl0, run_sizeOf' hi2, hn0, hr0, k1]
    · simp [h1, hby', hl0, run_sizeOf' hi2, zeroValue, run_typeInfo hi2, hzv, k1]
  · have := VR.own (g := g.new a w.heap.size i2.size) (w := { w with heap := w.heap.push (Obj.cells ((Array.range (n.toNat * i2.size)).map (zv.cells[· % zv.cells.size]!)) e (0, 0)) }) a i2.size 0 n.toNat w.heap.size n.toNat (own_new_self g a _ _).1 (own_new_self g a _ _).2 (Nat.le_refl _)
      ⟨(Array.range (n.toNat * i2.size)).map (zv.cells[· % zv.cells.size]!), e, by simp, by simp⟩
    simpa using this


/-! ### Stores -/

theorem setPart_spec {x v x' : SV} {o : Nat} (hv : ∀ c ∈ v.cells, c.one = true) (h : setPart x o v = some x') :
    x'.cells.length = x.cells.length ∧ o + v.cells.length ≤ x.cells.length ∧
      ∀ q, x'.cells[q]? = if o ≤ q ∧ q < o + v.cells.length then v.cells[q - o]? else x.cells[q]? := by
  unfold setPart at h
  split at h
  · rename_i hc
    obtain ⟨rfl, hl⟩ := hc
    have key : ∀ y : SV, y.cells = v.cells → y.cells.length = x.cells.length ∧ 0 + v.cells.length ≤ x.cells.length ∧
        ∀ q, y.cells[q]? = if 0 ≤ q ∧ q < 0 + v.cells.length then v.cells[q - 0]? else x.cells[q]? := by
      intro y hy
      refine ⟨by rw [hy, hl], by omega, fun q => ?_⟩
      rw [hy]
      split
      · rfl
      · rename_i hq
        rw [List.getElem?_eq_none (by omega), List.getElem?_eq_none (by omega)]
    simp only [Option.some.injEq] at h
    subst h
    split
    · rename_i h1
      split
      · exact key _ rfl
      · have hl1 : v.cells.length = 1 := by omega
        obtain ⟨c, hc⟩ := List.length_eq_one_iff.1 hl1
        refine key _ ?_
        rw [hc]
        have hone := hv c (by rw [hc]; simp)
        exact cells_one hone
    · exact key v rfl
  · split at h
    · rename_i cs
      split at h
      case isFalse => cases h
      rename_i hle
      simp only [Option.some.injEq] at h
      subst h
      exact ⟨splice_length hle, hle, fun q => splice_get hle⟩
    · cases h

theorem store_sim {M : Mem} {fr : Nat → Prop} (hM : MR E g w M fr) {get : Nat → Option (List SV)} (hget : ∀ id items, get id = some items → M.blk id = some items) (a : Nat)
    {t : Nat} {p v : SV} {p' v' : Value} {u : List (Nat × Option (List SV))} (hp : VR g w p p') (hv : VR g w v v') (h : storeS P get t p v = some u) :
    ∃ w', (Instr.storeAt t p' v').run P w = .ok () w' ∧ Evo g w g w' ∧ MR E g w' (M.sets u) fr := by
  unfold storeS at h
  split at h
  · cases h
  rename_i ti hti
  obtain ⟨d, i, hd, hi, rfl⟩ := tiOf_some hti
  split at h
  case h_2 => cases h
  rename_i id k o
  split at h
  case h_2 => cases h
  rename_i items hgi
  split at h
  case h_2 => cases h
  rename_i x hx
  split at h
  case isFalse => cases h
  rename_i hcond
  split at h
  case h_2 => cases h
  rename_i x' hx'
  simp only [Option.some.injEq] at h
  subst h
  have hblk := hget id items hgi
  obtain ⟨b, c, e, ho, hb, hw, hu, hheap, hcs⟩ := hM.blk id items hblk
  cases hp with
  | ptr _ _ _ b' hown =>
  obtain rfl : b' = b := by rw [hown] at ho; simpa using ho
  obtain ⟨⟨hvl, hvr⟩, hvone⟩ := hv.cells hcond.1
  obtain ⟨s1, s2, s3⟩ := setPart_spec hvone hx'
  have hmem : x ∈ items := List.mem_of_getElem? hx
  have hxl := hu x hmem
  have hsz : v'.cells.size = i.size := by rw [← hvl]; exact hcond.2
  have hk : k < items.length := (List.getElem?_eq_some_iff.1 hx).1
  have hcsz : items.length * g.esz id ≤ c.size := by
    rcases Nat.eq_zero_or_pos (items.length * g.esz id) with h0 | hpos
    · omega
    · have hlen := flat_length (n := g.esz id) hu
      have hlast : items.length * g.esz id - 1 < (flat items).length := by rw [hlen]; omega
      obtain ⟨_, vv, hvv, _⟩ := hcs (items.length * g.esz id - 1) _ (List.getElem?_eq_getElem hlast)
      have := (Array.getElem?_eq_some_iff.1 hvv).1
      omega
  have hfit : k * g.esz id + o + v'.cells.size ≤ c.size := by
    have h1 : (k + 1) * g.esz id ≤ items.length * g.esz id := Nat.mul_le_mul_right _ hk
    rw [Nat.add_mul] at h1
    rw [← hvl]
    omega
  have hone' : ∀ u ∈ v'.cells.toList, u.oneCell' = true := by
    intro u hu'
    obtain ⟨q, hq⟩ := List.mem_iff_getElem?.1 hu'
    rw [Array.getElem?_toList] at hq
    have hlt : q < v.cells.length := by rw [hvl]; exact (Array.getElem?_eq_some_iff.1 hq).1
    exact (hvr q v.cells[q] u (by simp [hlt]) hq).oneCell (hvone _ (by simp))
  have hrun := run_storeCells_at P b' (k * g.esz id + o) e v'.cells.toList 0 c w hheap (by simpa using hfit) hone'
  simp only [Nat.add_zero, Array.length_toList] at hrun
  have hnew : ∀ q, ((c.toList.take (k * g.esz id + o) ++ v'.cells.toList ++ c.toList.drop (k * g.esz id + o + v'.cells.size)).toArray)[q]? =
      if k * g.esz id + o ≤ q ∧ q < k * g.esz id + o + v'.cells.size then v'.cells[q - (k * g.esz id + o)]? else c[q]? := by
    intro q
    have h1 : (c.toList.take (k * g.esz id + o)).length = k * g.esz id + o := by simp; omega
    simp only [List.getElem?_toArray]
    by_cases hq : q < k * g.esz id + o
    · rw [if_neg (by omega), List.append_assoc, List.getElem?_append_left (by omega), List.getElem?_take, if_pos hq, Array.getElem?_toList]
    · by_cases hq2 : q < k * g.esz id + o + v'.cells.size
      · rw [if_pos ⟨by omega, hq2⟩, List.append_assoc, List.getElem?_append_right (by omega), h1, List.getElem?_append_left (by simpa using by omega), Array.getElem?_toList]
      · rw [if_neg (by omega), List.append_assoc, List.getElem?_append_right (by omega), h1, List.getElem?_append_right (by simpa using by omega), List.getElem?_drop, Array.getElem?_toList]
        congr 1
        simp; omega
  have hu' : ∀ y ∈ items.set k x', y.cells.length = g.esz id := by
    intro y hy
    rcases List.mem_or_eq_of_mem_set hy with hy | rfl
    · exact hu y hy
    · rw [s1, hxl]
  obtain ⟨p1, p2⟩ := hM.put (items' := items.set k x') (c' := (c.toList.take (k * g.esz id + o) ++ v'.cells.toList ++ c.toList.drop (k * g.esz id + o + v'.cells.size)).toArray) hblk hown hheap (by simp; omega) hu' (fun q y hq => by
    rw [hnew]
    have hez : 0 < g.esz id := by
      rcases Nat.eq_zero_or_pos (g.esz id) with h0 | h
      · have hlt := (List.getElem?_eq_some_iff.1 hq).1
        rw [flat_length hu', h0] at hlt
        omega
      · exact h
    have hq0 : q < items.length * g.esz id := by
      have := (List.getElem?_eq_some_iff.1 hq).1
      rw [flat_length hu'] at this
      simpa using this
    have hdiv : q = (q / g.esz id) * g.esz id + q % g.esz id := by rw [Nat.mul_comm]; exact (Nat.div_add_mod q _).symm
    have hmod : q % g.esz id < g.esz id := Nat.mod_lt _ hez
    have hdl : q / g.esz id < items.length := Nat.div_lt_of_lt_mul (by rw [Nat.mul_comm]; exact hq0)
    have hfg := flat_get (q / g.esz id) (q % g.esz id) ((items.set k x')[q / g.esz id]'(by simpa using hdl)) hu' (by simp [hdl]) hmod
    rw [← hdiv, hq] at hfg
    by_cases hki : q / g.esz id = k
    · have hx2 : (items.set k x')[q / g.esz id]'(by simpa using hdl) = x' := by simp [hki]
      rw [hx2, s3] at hfg
      have hqq : q - (k * g.esz id + o) = q % g.esz id - o := by
        have : q = k * g.esz id + q % g.esz id := by rw [← hki]; exact hdiv
        omega
      have hqe : q = k * g.esz id + q % g.esz id := by rw [← hki]; exact hdiv
      by_cases hin : o ≤ q % g.esz id ∧ q % g.esz id < o + v.cells.length
      · rw [if_pos hin] at hfg
        rw [if_pos (by rw [← hvl]; omega), hqq]
        have hlt : q % g.esz id - o < v'.cells.size := by rw [← hvl]; omega
        exact ⟨hvone y (List.mem_of_getElem? hfg.symm), v'.cells[q % g.esz id - o], by simp [hlt], hvr _ y _ hfg.symm (by simp [hlt])⟩
      · rw [if_neg hin] at hfg
        rw [if_neg (by rw [← hvl]; omega)]
        have hfo := flat_get k (q % g.esz id) x hu hx hmod
        rw [← hqe, ← hfg] at hfo
        exact hcs q y hfo
    · have hx2 : (items.set k x')[q / g.esz id]'(by simpa using hdl) = items[q / g.esz id] := by simp [List.getElem_set, Ne.symm hki]
      rw [hx2] at hfg
      have hfo := flat_get (q / g.esz id) (q % g.esz id) items[q / g.esz id] hu (by simp [hdl]) hmod
      rw [← hdiv, ← hfg] at hfo
      rw [if_neg ?_]
      · exact hcs q y hfo
      · rintro ⟨b1, b2⟩
        apply hki
        apply Nat.div_eq_of_lt_le
        · omega
        · rw [Nat.succ_mul]; rw [← hvl] at b2; omega)
  refine ⟨_, ?_, p1, p2⟩
  have hs' : ¬ (v'.cells.size ≠ i.size) := by simp [hsz]
  simp only [Instr.storeAt, Instr.sureAddr, Sem.run_bind, Sem.run_pure, Result.andThen_ok, storeVar, run_sizeOf' hi, if_neg hs', hrun]

end Go.Proofs.YtbdliphlolajaaaDoor.Sh
