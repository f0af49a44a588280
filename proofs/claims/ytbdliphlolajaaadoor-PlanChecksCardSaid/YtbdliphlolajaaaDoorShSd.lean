/-
  The shadow interpreter, text 4: parts of values, places, slices, conversions, loads. No condition.
-/
import Derived.Test.YtbdliphlolajaaaDoorShSc
import Derived.Laws.BytesString
set_option linter.unusedVariables false
set_option linter.unusedSimpArgs false
namespace Go.Proofs.YtbdliphlolajaaaDoor.Sh
variable {E : Env} {P : Program} {g : Gh} {w : World}

theorem add_none (b o n : Nat) : (⟨b, o, none⟩ : Addr).add n = ⟨b, o + n, none⟩ := by
  unfold Addr.add
  split
  · rename_i h; simp [h]
  · rfl

theorem getElem?_extract' (vs : Array Value) (a b k : Nat) : (vs.extract a b)[k]? = if k < min b vs.size - a then vs[a + k]? else none := by
  rw [Array.getElem?_extract]

/-- A part of a struct or an array. -/
theorem partS_sim {t : Nat} {ti : TI} {cs : List SV} {vs : Array Value} {o : Nat} {r : SV} (hti : tiOf P t = some ti) (hx : VR g w (.agg cs) (.agg vs))
    (h : partS ti (.agg cs) o = some r) : ∃ r', (part t vs o).run P w = .ok r' w ∧ VR g w r r' := by
  obtain ⟨d, i, hd, hi, rfl⟩ := tiOf_some hti
  cases hx with
  | agg _ _ hl ho hr =>
  unfold partS at h
  split at h
  · rename_i ha
    have hA : (isAgg t).run P w = .ok true w := by rw [run_isAgg' hd, ha]
    simp only [part, Sem.run_bind, hA, Result.andThen_ok, if_true, run_sizeOf' hi]
    split at h
    · rename_i hc
      simp only [Option.some.injEq] at h
      subst h
      refine ⟨_, rfl, ?_⟩
      have h2 : i.size = cs.length := hc.2
      have : vs.extract o (o + i.size) = vs := by
        rw [hc.1, Nat.zero_add, h2, hl]
        simp
      rw [this]
      exact .agg cs vs hl ho hr
    · split at h
      · rename_i hle0
        have hle : o + i.size ≤ cs.length := hle0
        simp only [Option.some.injEq] at h
        subst h
        show ∃ r', _ ∧ VR g w (.agg ((cs.drop o).take i.size)) r'
        refine ⟨_, rfl, .agg _ _ ?_ ?_ ?_⟩
        · simp; omega
        · intro c hc
          exact ho c (List.mem_of_mem_drop (List.mem_of_mem_take hc))
        · intro k x v hk hv
          rw [getElem?_extract'] at hv
          split at hv
          · rename_i hlt
            refine hr (o + k) x v ?_ hv
            rw [List.getElem?_take] at hk
            split at hk
            · rwa [List.getElem?_drop] at hk
            · simp at hk
          · simp at hv
      · simp at h
  · rename_i ha
    have hA : (isAgg t).run P w = .ok false w := by rw [run_isAgg' hd]; simp at ha; rw [ha]
    have hlt : o < vs.size := by
      have : o < cs.length := (List.getElem?_eq_some_iff.1 h).1
      omega
    have hv : vs[o]? = some vs[o] := by simp [hlt]
    exact ⟨vs[o], by simp [part, hA, hv], hr o r _ h hv⟩

/-- A load of a type's cells at a place within an item. -/
theorem loadVar_sim {t : Nat} {ti : TI} {x : SV} {b A o : Nat} {r : SV} (hti : tiOf P t = some ti)
    (hx : ∀ (k : Nat) (c : SV), x.cells[k]? = some c → c.one = true ∧ ∃ v, w.cell? ⟨b, A + k, none⟩ = some v ∧ VR g w c v)
    (h : partS ti x o = some r) : ∃ r', (loadVar t ⟨b, A + o, none⟩).run P w = .ok r' w ∧ VR g w r r' := by
  obtain ⟨d, i, hd, hi, rfl⟩ := tiOf_some hti
  unfold partS at h
  have key : ∀ (cs : List SV) (q : Nat), (∀ (k : Nat) (c : SV), cs[k]? = some c → c.one = true ∧ ∃ v, w.cell? ⟨b, q + k, none⟩ = some v ∧ VR g w c v) →
      ∃ vs : Array Value, (loadCells ⟨b, q, none⟩ cs.length).run P w = .ok vs w ∧ VR g w (.agg cs) (.agg vs) := by
    intro cs q hcs
    have hrun := run_loadCells (P := P) w ⟨b, q, none⟩ cs.length (fun j => (w.cell? ⟨b, q + j, none⟩).getD undef) (fun j hj => by
      obtain ⟨_, v, hv, _⟩ := hcs j cs[j] (by simp [hj])
      rw [add_none, hv]; rfl)
    refine ⟨_, hrun, .agg _ _ (by simp) (fun c hc => ?_) (fun k c v hk hv => ?_)⟩
    · obtain ⟨k, hk⟩ := List.mem_iff_getElem?.1 hc
      exact (hcs k c hk).1
    · obtain ⟨_, u, hu, hr⟩ := hcs k c hk
      have hlt : k < cs.length := (List.getElem?_eq_some_iff.1 hk).1
      simp [hlt, hu] at hv
      subst hv
      exact hr
  split at h
  · rename_i ha
    have hA : (isAgg t).run P w = .ok true w := by rw [run_isAgg' hd, ha]
    split at h
    · rename_i hc
      simp only [Option.some.injEq] at h
      subst h
      obtain ⟨vs, hrun, hr⟩ := key x.cells A hx
      refine ⟨.agg vs, ?_, hr⟩
      simp only [loadVar, Sem.run_bind, hA, Result.andThen_ok, if_true, run_sizeOf' hi]
      have h1 : i.size = x.cells.length := hc.2
      rw [hc.1, Nat.add_zero, h1, hrun]
      rfl
    · split at h
      · rename_i hle
        simp only [Option.some.injEq] at h
        subst h
        have hlen : ((x.cells.drop o).take i.size).length = i.size := by
          simp only at hle
          simp; omega
        obtain ⟨vs, hrun, hr⟩ := key ((x.cells.drop o).take i.size) (A + o) (fun k c hk => by
          rw [List.getElem?_take] at hk
          split at hk
          · rw [List.getElem?_drop] at hk
            have := hx (o + k) c hk
            rwa [← Nat.add_assoc] at this
          · simp at hk)
        refine ⟨.agg vs, ?_, hr⟩
        simp only [loadVar, Sem.run_bind, hA, Result.andThen_ok, if_true, run_sizeOf' hi]
        rw [hlen] at hrun
        rw [hrun]
        rfl
      · simp at h
  · rename_i ha
    have hA : (isAgg t).run P w = .ok false w := by rw [run_isAgg' hd]; simp at ha; rw [ha]
    obtain ⟨_, v, hv, hr⟩ := hx o r h
    exact ⟨v, by simp [loadVar, hA, hv], hr⟩

/-- What lies at a pointer into what was told: an item's cells. -/
theorem item_cells {items : List SV} {b start esz : Nat} {rv : Nat → Value} {Q : Nat → Prop} (hu : ∀ x ∈ items, x.cells.length = esz)
    (hc : ∀ (k : Nat) (c : SV), (flat items)[k]? = some c → c.one = true ∧ Q (start + k) ∧ w.cell? ⟨b, start + k, none⟩ = some (rv k))
    (hr : ∀ (k : Nat) (c : SV), (flat items)[k]? = some c → VR g w c (rv k)) {i : Nat} {x : SV} (hi : items[i]? = some x) :
    ∀ (k : Nat) (c : SV), x.cells[k]? = some c → c.one = true ∧ ∃ v, w.cell? ⟨b, start + i * esz + k, none⟩ = some v ∧ VR g w c v := by
  intro k c hk
  have hmem : x ∈ items := List.mem_of_getElem? hi
  have hlt : k < esz := by rw [← hu x hmem]; exact (List.getElem?_eq_some_iff.1 hk).1
  have hf := flat_get i k x hu hi hlt
  rw [hk] at hf
  obtain ⟨h1, _, h3⟩ := hc _ c hf
  exact ⟨h1, _, by rw [Nat.add_assoc]; exact h3, hr _ c hf⟩

theorem loadS_sim {M : Mem} {fr : Nat → Prop} (hM : MR E g w M fr) {get : Nat → Option (List SV)} (hget : ∀ id items, get id = some items → M.blk id = some items)
    {t : Nat} {a r : SV} {a' : Value} (ha : VR g w a a') (h : loadS P get t a = some r) : ∃ r', (Instr.loadAt t a').run P w = .ok r' w ∧ VR g w r r' := by
  unfold loadS at h
  split at h
  · simp at h
  rename_i ti hti
  split at h
  · rename_i id i o
    split at h
    · rename_i items hb
      split at h
      · rename_i x hx
        cases ha with
        | ptr _ _ _ b hown =>
        obtain ⟨b', c, e, ho, _, _, hu, hheap, hcs⟩ := hM.blk id items (hget id items hb)
        obtain rfl : b' = b := by rw [hown] at ho; simpa using ho.symm
        have hmem : x ∈ items := List.mem_of_getElem? hx
        obtain ⟨r', hr', hv⟩ := loadVar_sim (P := P) (g := g) (w := w) (b := b') (A := i * g.esz id) (o := o) hti (fun k c' hk => by
          have hlt : k < g.esz id := by rw [← hu x hmem]; exact (List.getElem?_eq_some_iff.1 hk).1
          have hf := flat_get i k x hu hx hlt
          rw [hk] at hf
          obtain ⟨h1, v, hv, hvr⟩ := hcs _ c' hf
          exact ⟨h1, v, by rw [cell?_cells hheap]; exact hv, hvr⟩) h
        exact ⟨r', by simpa [Instr.loadAt, Instr.sureAddr] using hr', hv⟩
      · simp at h
    · simp at h
  · rename_i items i o st
    split at h
    · rename_i x hx
      cases ha with
      | rptr _ _ _ _ b start esz rv hu hc hr =>
      obtain ⟨r', hr', hv⟩ := loadVar_sim (P := P) (g := g) (w := w) (b := b) (A := start + i * esz) (o := o) hti (item_cells hu hc hr hx) h
      exact ⟨r', by simpa [Instr.loadAt, Instr.sureAddr] using hr', hv⟩
    · simp at h
  · simp at h

theorem fields_get {fa : Array Field} {f : Nat} {ft off : Nat} (h : (fa.toList.map fun f => (f.type, f.offset))[f]? = some (ft, off)) :
    ∃ fd, fa[f]? = some fd ∧ fd.type = ft ∧ fd.offset = off := by
  simp only [List.getElem?_map, Array.getElem?_toList, Option.map_eq_some_iff] at h
  obtain ⟨fd, hfd, he⟩ := h
  simp only [Prod.mk.injEq] at he
  exact ⟨fd, hfd, he.1, he.2⟩

theorem fieldAddrS_sim {t f : Nat} {a r : SV} {a' : Value} (ha : VR g w a a') (h : fieldAddrS P t a f = some r) :
    ∃ r', (Instr.fieldAt t a' f).run P w = .ok r' w ∧ VR g w r r' := by
  unfold fieldAddrS at h
  split at h
  case h_2 => simp at h
  rename_i fs _ _ _ hti
  obtain ⟨d, i, hd, hi, he⟩ := tiOf_some hti
  simp only [TI.mk.injEq] at he
  obtain ⟨fa, rfl, hfs⟩ := tk_struct he.1.symm
  subst hfs
  split at h
  case h_2 => simp at h
  rename_i ft off hf
  obtain ⟨fd, hfd, rfl, rfl⟩ := fields_get hf
  split at h
  case h_2 => simp at h
  rename_i fi hfi
  obtain ⟨d2, i2, hd2, hi2, rfl⟩ := tiOf_some hfi
  split at h
  · simp at h
  rename_i hz
  have hfp : ∀ b o, (fieldPlace ⟨b, o, none⟩ fd).run P w = .ok ⟨b, o + fd.offset, none⟩ w := by
    intro b o
    have hz' : ¬ i2.size = 0 := hz
    simp [fieldPlace, run_sizeOf' hi2, hz', add_none]
  split at h
  · rename_i id k o
    simp only [Option.some.injEq] at h
    subst h
    cases ha with
    | ptr _ _ _ b hown =>
    refine ⟨_, ?_, .ptr id k (o + fd.offset) b hown⟩
    simp [Instr.fieldAt, run_underlying hd, hfd, Instr.sureAddr, hfp, Nat.add_assoc]
  · rename_i items k o st
    simp only [Option.some.injEq] at h
    subst h
    cases ha with
    | rptr _ _ _ _ b start esz rv hu hc hr =>
    refine ⟨_, ?_, .rptr items k (o + fd.offset) st b start esz rv hu hc hr⟩
    simp [Instr.fieldAt, run_underlying hd, hfd, Instr.sureAddr, hfp, Nat.add_assoc]
  · simp at h

theorem fieldS_sim {t f : Nat} {x r : SV} {x' : Value} (hx : VR g w x x') (h : fieldS P t x f = some r) :
    ∃ r', (Instr.field t x' f).run P w = .ok r' w ∧ VR g w r r' := by
  unfold fieldS at h
  split at h
  case h_2 => simp at h
  rename_i fs _ _ _ hti
  obtain ⟨d, i, hd, hi, he⟩ := tiOf_some hti
  simp only [TI.mk.injEq] at he
  obtain ⟨fa, rfl, hfs⟩ := tk_struct he.1.symm
  subst hfs
  split at h
  case h_2 => simp at h
  rename_i ft off cs hf
  obtain ⟨fd, hfd, rfl, rfl⟩ := fields_get hf
  split at h
  case h_2 => simp at h
  rename_i fi hfi
  cases hx with
  | agg _ vs hl ho hr =>
  obtain ⟨r', hr', hv⟩ := partS_sim hfi (.agg cs vs hl ho hr) h
  exact ⟨r', by simp [Instr.field, run_underlying hd, hfd, asAgg, hr'], hv⟩

theorem natS_some {x : SV} {n : Nat} {x' : Value} (hx : VR g w x x') (h : natS x = some n) : ∃ k, x' = .int k n := by
  unfold natS at h
  split at h
  · split at h
    · rename_i hn
      simp only [Option.some.injEq] at h
      cases hx
      rename_i k m
      refine ⟨k, ?_⟩
      congr 1
      omega
    · simp at h
  · simp at h

theorem indexAddrS_sim {t : Nat} {x ix r : SV} {x' ix' : Value} (hx : VR g w x x') (hi : VR g w ix ix') (h : indexAddrS P t x ix = some r) :
    ∃ r', (Instr.indexAt t x' ix').run P w = .ok r' w ∧ VR g w r r' := by
  unfold indexAddrS at h
  split at h
  case h_2 => simp at h
  rename_i ti j hti hj
  obtain ⟨k, rfl⟩ := natS_some hi hj
  obtain ⟨d, i, hd, hinfo, rfl⟩ := tiOf_some hti
  split at h
  · rename_i n e hk
    obtain rfl := tk_arr hk
    split at h
    case h_2 => simp at h
    rename_i te hte
    obtain ⟨d2, i2, hd2, hi2, rfl⟩ := tiOf_some hte
    split at h
    case isFalse => simp at h
    rename_i hlt
    have hcond : (0 ≤ (j : Int) ∧ (j : Int) < (n : Int)) := by omega
    split at h
    · rename_i id q o
      simp only [Option.some.injEq] at h
      subst h
      cases hx with
      | ptr _ _ _ b hown =>
      refine ⟨_, ?_, .ptr id q (o + j * i2.size) b hown⟩
      simp [Instr.indexAt, asIntOf, run_underlying hd, Instr.sureAddr, hcond, hlt, run_sizeOf' hi2, add_none, Nat.add_assoc]
    · rename_i items q o st
      simp only [Option.some.injEq] at h
      subst h
      cases hx with
      | rptr _ _ _ _ b start esz rv hu hc hr =>
      refine ⟨_, ?_, .rptr items q (o + j * i2.size) st b start esz rv hu hc hr⟩
      simp [Instr.indexAt, asIntOf, run_underlying hd, Instr.sureAddr, hcond, hlt, run_sizeOf' hi2, add_none, Nat.add_assoc]
    · simp at h
  · rename_i e hk
    obtain rfl := tk_slice hk
    split at h
    case h_2 => simp at h
    rename_i te hte
    obtain ⟨d2, i2, hd2, hi2, rfl⟩ := tiOf_some hte
    split at h
    · rename_i id esz q len
      split at h
      case isFalse => simp at h
      rename_i hc
      simp only [Option.some.injEq] at h
      subst h
      cases hx with
      | own _ _ _ _ b cap hown he hl hs =>
      have hlt := hc.1
      have hcond : (0 ≤ (j : Int) ∧ (j : Int) < (len : Int)) := by omega
      refine ⟨_, ?_, .ptr id (q + j) 0 b hown⟩
      have hsz : i2.size = g.esz id := by rw [he]; exact hc.2.symm
      simp [Instr.indexAt, asIntOf, run_underlying hd, Instr.sureAddr, hcond, hlt, run_sizeOf' hi2, add_none, hsz, he, Nat.add_mul]
    · rename_i items tl
      split at h
      case h_2 => simp at h
      rename_i y hy
      split at h
      case isFalse => simp at h
      rename_i hsz
      simp only [Option.some.injEq] at h
      subst h
      cases hx with
      | sle tl a cap hfull => simp at hy
      | sl _ _ b start cap esz rv hu hc hr hcap hfull =>
      have hlt : j < items.length := (List.getElem?_eq_some_iff.1 hy).1
      have hcond : (0 ≤ (j : Int) ∧ (j : Int) < (items.length : Int)) := by omega
      have he : i2.size = esz := by rw [← hu y (List.mem_of_getElem? hy)]; exact hsz.symm
      have hst : (tl != .snap) = tl.st := by cases tl <;> rfl
      refine ⟨_, ?_, .rptr items j 0 (tl != .snap) b start esz rv hu (by rw [hst]; exact hc) hr⟩
      simp [Instr.indexAt, asIntOf, run_underlying hd, Instr.sureAddr, hcond, hlt, run_sizeOf' hi2, add_none, he]
    · simp at h
  · simp at h

theorem indexS_sim {t : Nat} {x ix r : SV} {x' ix' : Value} (hx : VR g w x x') (hi : VR g w ix ix') (h : indexS P t x ix = some r) :
    ∃ r', (Instr.index t x' ix').run P w = .ok r' w ∧ VR g w r r' := by
  unfold indexS at h
  split at h
  case h_2 => simp at h
  rename_i ti j hti hj
  obtain ⟨k, rfl⟩ := natS_some hi hj
  obtain ⟨d, i, hd, hinfo, rfl⟩ := tiOf_some hti
  split at h
  · rename_i n e cs hk
    obtain rfl := tk_arr hk
    split at h
    case h_2 => simp at h
    rename_i te hte
    obtain ⟨d2, i2, hd2, hi2, he2⟩ := tiOf_some hte
    split at h
    case isFalse => simp at h
    rename_i hlt
    have hcond : (0 ≤ (j : Int) ∧ (j : Int) < (n : Int)) := by omega
    cases hx with
    | agg _ vs hl ho hr =>
    obtain ⟨r', hr', hv⟩ := partS_sim hte (.agg cs vs hl ho hr) h
    refine ⟨r', ?_, hv⟩
    have : te.size = i2.size := by rw [he2]
    rw [this] at hr'
    simp [Instr.index, asIntOf, run_underlying hd, hlt, run_sizeOf' hi2, hr']
  · rename_i s hk
    obtain rfl := tk_str hk
    obtain rfl := hx.str_inv
    split at h
    case h_2 => simp at h
    rename_i c hc
    simp only [Option.some.injEq] at h
    subst h
    refine ⟨.int .u8 c.toNat, ?_, .int _ _⟩
    simp [Instr.index, asIntOf, run_underlying hd, hc]
  · simp at h

theorem lenS_sim {t : Nat} {x r : SV} {x' : Value} {ty : Nat} (hx : VR g w x x') (h : lenS P t x = some r) :
    ∃ r', (Builtin.len_ #[t] ty #[x']).run P w = .ok r' w ∧ VR g w r r' := by
  unfold lenS at h
  split at h
  all_goals first | (simp at h; done) | skip
  all_goals
    split at h
    case h_2 => simp at h
    rename_i hti
    obtain ⟨d, i, hd, hi, he⟩ := tiOf_some hti
    simp only [TI.mk.injEq] at he
    simp only [Option.some.injEq] at h
    subst h
  · obtain rfl := tk_str he.1.symm
    obtain rfl := hx.str_inv
    exact ⟨_, by simp [Builtin.len_, run_underlying hd]; rfl, .int _ _⟩
  · obtain rfl := tk_slice he.1.symm
    cases hx <;> exact ⟨_, by simp [Builtin.len_, run_underlying hd]; rfl, .int _ _⟩
  · obtain rfl := tk_slice he.1.symm
    cases hx <;> exact ⟨_, by simp [Builtin.len_, run_underlying hd]; rfl, .int _ _⟩
  · obtain rfl := tk_slice he.1.symm
    cases hx <;> exact ⟨_, by simp [Builtin.len_, run_underlying hd]; rfl, .int _ _⟩
  · obtain rfl := tk_arr he.1.symm
    exact ⟨_, by simp [Builtin.len_, run_underlying hd]; rfl, .int _ _⟩

theorem bytesOf_some : ∀ {l : List SV} {bs : List UInt8}, bytesOf l = some bs → ∃ ns : List Int, l = ns.map (SV.int .u8) ∧ bs = ns.map fun n => UInt8.ofNat n.toNat
  | [], bs, h => by
    simp [bytesOf] at h
    exact ⟨[], rfl, h ▸ rfl⟩
  | x :: l, bs, h => by
    cases x <;> (try (simp [bytesOf] at h; done))
    rename_i k n
    cases k <;> (try (simp [bytesOf] at h; done))
    simp only [bytesOf] at h
    split at h
    · rename_i l' hl
      obtain ⟨ns, rfl, rfl⟩ := bytesOf_some hl
      simp only [Option.some.injEq] at h
      exact ⟨n :: ns, rfl, h ▸ rfl⟩
    · simp at h

theorem push_bytes (ns : List Int) : ∀ r : ByteArray, ns.foldl (fun (r : ByteArray) n => r.push (UInt8.ofNat n.toNat)) r = ⟨r.data ++ (ns.map fun n => UInt8.ofNat n.toNat).toArray⟩ := by
  induction ns with
  | nil => intro r; simp
  | cons n ns ih =>
    intro r
    rw [List.foldl_cons, ih]
    simp [ByteArray.push]

theorem bytes_run {l : List SV} {bs : List UInt8} {b q cap : Nat} (hbs : bytesOf l = some bs)
    (hcell : ∀ (k : Nat) (c : SV), l[k]? = some c → ∃ v, w.cell? ⟨b, q + k, none⟩ = some v ∧ VR g w c v) :
    (Conv.bytesToString (.slice (some ⟨b, q, none⟩) l.length cap)).run P w = .ok (.string ⟨bs.toArray⟩) w := by
  obtain ⟨ns, rfl, rfl⟩ := bytesOf_some hbs
  rw [run_bytesToString w ⟨b, q, none⟩ _ cap ns]
  · congr 2
    rw [push_bytes]
    simp
  · have := run_loadCells_list (P := P) w ⟨b, q, none⟩ (ns.map (Value.int .u8)) (fun j v hj => by
      simp only [List.getElem?_map, Option.map_eq_some_iff] at hj
      obtain ⟨n, hn, rfl⟩ := hj
      obtain ⟨u, hu, hr⟩ := hcell j (.int .u8 n) (by simp [hn])
      rw [add_none, hu, hr.int_inv])
    simpa using this

theorem flat_ints (k : IntKind) : ∀ ns : List Int, flat (ns.map (SV.int k)) = ns.map (SV.int k)
  | [] => rfl
  | n :: ns => by rw [List.map_cons, flat_cons, flat_ints k ns]; rfl

theorem flat_scalars {l : List SV} {bs : List UInt8} (h : bytesOf l = some bs) : flat l = l := by
  obtain ⟨ns, rfl, _⟩ := bytesOf_some h
  exact flat_ints _ ns

theorem convS_sim {M : Mem} {fr : Nat → Prop} (hM : MR E g w M fr) {get : Nat → Option (List SV)} (hget : ∀ id items, get id = some items → M.blk id = some items)
    {s d : Nat} {x r : SV} {x' : Value} (hx : VR g w x x') (h : convS P get s d x = some r) : ∃ r', (Go.convert s d x').run P w = .ok r' w ∧ VR g w r r' := by
  unfold convS at h
  split at h
  case h_2 => simp at h
  rename_i ti tj hti htj
  obtain ⟨d1, i1, hd1, hi1, rfl⟩ := tiOf_some hti
  obtain ⟨d2, i2, hd2, hi2, rfl⟩ := tiOf_some htj
  split at h
  · rename_i ka k kb n hk1 hk2
    obtain rfl := tk_int hk1
    obtain rfl := tk_int hk2
    obtain rfl := hx.int_inv
    simp only [Option.some.injEq] at h
    subst h
    exact ⟨_, by simp [Go.convert, run_underlying hd1, run_underlying hd2, Conv.intToInt], .int _ _⟩
  · rename_i b hk1 hk2
    obtain rfl := tk_str hk1
    obtain rfl := tk_str hk2
    obtain rfl := hx.str_inv
    simp only [Option.some.injEq] at h
    subst h
    exact ⟨_, by simp [Go.convert, run_underlying hd1, run_underlying hd2], .str _⟩
  · rename_i e hk1 hk2
    obtain rfl := tk_slice hk1
    obtain rfl := tk_str hk2
    split at h
    case h_2 => simp at h
    rename_i hte
    obtain ⟨d3, i3, hd3, hi3, he3⟩ := tiOf_some hte
    simp only [TI.mk.injEq] at he3
    obtain rfl := tk_int he3.1.symm
    cases hx
    simp only [Option.some.injEq] at h
    subst h
    exact ⟨_, by simp [Go.convert, run_underlying hd1, run_underlying hd2, run_underlying hd3, Conv.bytesToString], .str _⟩
  · rename_i e items tl hk1 hk2
    obtain rfl := tk_slice hk1
    obtain rfl := tk_str hk2
    split at h
    case h_2 => simp at h
    rename_i hte
    obtain ⟨d3, i3, hd3, hi3, he3⟩ := tiOf_some hte
    simp only [TI.mk.injEq] at he3
    obtain rfl := tk_int he3.1.symm
    split at h
    case h_2 => simp at h
    rename_i l hl
    simp only [Option.some.injEq] at h
    subst h
    cases hx with
    | sle tl a cap hfull =>
      simp only [bytesOf, Option.some.injEq] at hl
      subst hl
      exact ⟨_, by simp [Go.convert, run_underlying hd1, run_underlying hd2, run_underlying hd3, Conv.bytesToString, loadCells, loadCellsFrom]; rfl, .str _⟩
    | sl _ _ b start cap esz rv hu hc hr hcap hfull =>
    have hf := flat_scalars hl
    have hrun := bytes_run (P := P) (w := w) (g := g) (b := b) (q := start) (cap := cap) hl (fun k c hk => by
      rw [hf] at hc hr
      exact ⟨_, (hc k c hk).2.2, hr k c hk⟩)
    exact ⟨_, by simp [Go.convert, run_underlying hd1, run_underlying hd2, run_underlying hd3, hrun], .str _⟩
  · rename_i e id esz q len hk1 hk2
    obtain rfl := tk_slice hk1
    obtain rfl := tk_str hk2
    split at h
    case h_2 => simp at h
    rename_i items hte hgi
    obtain ⟨d3, i3, hd3, hi3, he3⟩ := tiOf_some hte
    simp only [TI.mk.injEq] at he3
    obtain rfl := tk_int he3.1.symm
    split at h
    case isFalse => simp at h
    rename_i hcond
    split at h
    case h_2 => simp at h
    rename_i l hl
    simp only [Option.some.injEq] at h
    subst h
    cases hx with
    | own _ _ _ _ b cap hown he hle hs =>
    obtain ⟨b', c, t, ho, _, _, hu, hheap, hcs⟩ := hM.blk id items (hget id items hgi)
    obtain rfl : b' = b := by rw [hown] at ho; simpa using ho.symm
    have hf := flat_scalars hl
    have h1 : g.esz id = 1 := by rw [he]; exact hcond.2
    have hu1 : ∀ x ∈ items, x.cells.length = 1 := fun x hx => by rw [hu x hx, h1]
    have hfl : flat ((items.drop q).take len) = ((flat items).drop q).take len := by
      rw [flat_take (n := 1) len (fun x hx => hu1 x (List.mem_of_mem_drop hx)), flat_drop (n := 1) q hu1, Nat.mul_one, Nat.mul_one]
    have hll : ((items.drop q).take len).length = len := by simp; omega
    have hrun := bytes_run (P := P) (w := w) (g := g) (b := b') (q := q * esz) (cap := cap) hl (fun k c' hk => by
      rw [← hf, hfl, List.getElem?_take] at hk
      split at hk
      · rw [List.getElem?_drop] at hk
        obtain ⟨_, v, hv, hr⟩ := hcs _ c' hk
        refine ⟨v, ?_, hr⟩
        rw [cell?_cells hheap]
        have : q * esz + k = q + k := by rw [hcond.2, Nat.mul_one]
        rw [this]
        exact hv
      · simp at hk)
    rw [hll] at hrun
    exact ⟨_, by simp [Go.convert, run_underlying hd1, run_underlying hd2, run_underlying hd3, hrun], .str _⟩
  · simp at h

end Go.Proofs.YtbdliphlolajaaaDoor.Sh
