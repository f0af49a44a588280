/-
  The shadow interpreter, text 8: append. No condition.
-/
import Derived.Test.YtbdliphlolajaaaDoorShSg
set_option linter.unusedVariables false
set_option linter.unusedSimpArgs false
namespace Go.Proofs.YtbdliphlolajaaaDoor.Sh
variable {E : Env} {P : Program} {g : Gh} {w : World}

/-- The cells of a list that is told, in a row. -/
theorem news_of {items : List SV} {b start n : Nat} (hu : ∀ x ∈ items, x.cells.length = n)
    (hc : ∀ (k : Nat) (c : SV), (flat items)[k]? = some c → c.one = true ∧ ∃ v, w.cell? ⟨b, start + k, none⟩ = some v ∧ VR g w c v) :
    ∃ news : List Value, news.length = items.length * n ∧ (∀ j v, news[j]? = some v → w.cell? ((⟨b, start, none⟩ : Addr).add j) = some v) ∧ (∀ u ∈ news, u.oneCell' = true) ∧
      ∀ (k : Nat) (c : SV), (flat items)[k]? = some c → c.one = true ∧ ∃ v, news[k]? = some v ∧ VR g w c v := by
  have hl := flat_length hu
  refine ⟨(List.range (items.length * n)).map fun k => (w.cell? ⟨b, start + k, none⟩).getD undef, by simp, fun j v hj => ?_, fun u hu' => ?_, fun k c hk => ?_⟩
  · have hlt : j < items.length * n := by simpa using (List.getElem?_eq_some_iff.1 hj).1
    obtain ⟨_, u, hu1, _⟩ := hc j _ (List.getElem?_eq_getElem (by rw [hl]; exact hlt))
    simp [hlt, hu1] at hj
    subst hj
    rw [add_none]
    exact hu1
  · simp only [List.mem_map, List.mem_range] at hu'
    obtain ⟨k, hk, rfl⟩ := hu'
    obtain ⟨h1, u, hu1, hr⟩ := hc k _ (List.getElem?_eq_getElem (by rw [hl]; exact hk))
    rw [hu1]
    exact hr.oneCell h1
  · obtain ⟨h1, u, hu1, hr⟩ := hc k c hk
    have hlt : k < items.length * n := by rw [← hl]; exact (List.getElem?_eq_some_iff.1 hk).1
    exact ⟨h1, u, by simp [hlt, hu1], hr⟩

/-- What is appended. -/
theorem src_of {M : Mem} {fr : Nat → Prop} (hM : MR E g w M fr) {get : Nat → Option (List SV)} (hget : ∀ id items, get id = some items → M.blk id = some items)
    {t2 n : Nat} {k2 : TI} {x : SV} {x' : Value} {ys : List SV} (h2 : tiOf P t2 = some k2) (hx : VR g w x x') (hi : itemsS get x = some ys) (hu : unif n ys = true) (hs : srcFits k2.kind n x = true) :
    ∃ news, Src P n t2 x' ys.length news w ∧ ∀ (k : Nat) (c : SV), (flat ys)[k]? = some c → c.one = true ∧ ∃ v, news[k]? = some v ∧ VR g w c v := by
  obtain ⟨d, i, hd, hinfo, rfl⟩ := tiOf_some h2
  have hu' := unif_iff.1 hu
  unfold itemsS at hi
  split at hi
  · simp only [Option.some.injEq] at hi
    subst hi
    cases hx
    simp only [srcFits] at hs
    split at hs
    · rename_i e hk
      obtain rfl := tk_slice hk
      exact ⟨[], Src.ofNil w hd 0, fun k c hk => by simp [flat] at hk⟩
    · cases hs
  · rename_i items tl
    simp only [Option.some.injEq] at hi
    subst hi
    simp only [srcFits] at hs
    split at hs
    · rename_i e hk
      obtain rfl := tk_slice hk
      cases hx with
      | sle _ a cap hfull =>
        exact ⟨[], Src.ofSlice w hd a 0 cap [] (by simp) (fun j u h => by simp at h) (fun u h => by cases h), fun k c hk => by simp [flat] at hk⟩
      | sl _ _ b start cap esz rv hu0 hc hr hcap hfull =>
      obtain ⟨news, n1, n2, n3, n4⟩ := news_of (g := g) (w := w) (b := b) (start := start) hu' (fun k c hk => ⟨(hc k c hk).1, _, (hc k c hk).2.2, hr k c hk⟩)
      exact ⟨news, Src.ofSlice w hd _ _ cap news n1 n2 n3, n4⟩
    · cases hs
  · rename_i id esz q len
    split at hi
    case h_2 => cases hi
    rename_i items hgi
    split at hi
    case isFalse => cases hi
    rename_i hle
    simp only [Option.some.injEq] at hi
    subst hi
    simp only [srcFits, Bool.and_eq_true, beq_iff_eq] at hs
    obtain ⟨he, hs⟩ := hs
    split at hs
    · rename_i e hk
      obtain rfl := tk_slice hk
      cases hx with
      | own _ _ _ _ b cap hown hesz hlc hsz =>
      obtain ⟨b', c, t, ho, _, _, hu0, hheap, hcs⟩ := hM.blk id items (hget id items hgi)
      obtain rfl : b' = b := by rw [hown] at ho; simpa using ho.symm
      have hll : ((items.drop q).take len).length = len := by simp; omega
      have hun : ∀ y ∈ items, y.cells.length = n := fun y hy => by rw [hu0 y hy, hesz, he]
      have hfl : flat ((items.drop q).take len) = ((flat items).drop (q * n)).take (len * n) := by
        rw [flat_take (n := n) len (fun y hy => hun y (List.mem_of_mem_drop hy)), flat_drop (n := n) q hun]
      obtain ⟨news, n1, n2, n3, n4⟩ := news_of (g := g) (w := w) (b := b') (start := q * n) hu' (fun k c' hk => by
        rw [hfl, List.getElem?_take] at hk
        split at hk
        · rw [List.getElem?_drop] at hk
          obtain ⟨h1, v, hv, hr⟩ := hcs _ c' hk
          exact ⟨h1, v, by rw [cell?_cells hheap]; exact hv, hr⟩
        · simp at hk)
      refine ⟨news, ?_, n4⟩
      have := Src.ofSlice w (P := P) (size := n) (tx := t2) hd ⟨b', q * n, none⟩ len cap news (by rw [n1, hll]) n2 n3
      rw [hll, ← he]
      rw [← he] at this
      exact this
    · cases hs
  · rename_i s
    simp only [Option.some.injEq] at hi
    subst hi
    simp only [srcFits, Bool.and_eq_true, beq_iff_eq] at hs
    obtain ⟨he, hs⟩ := hs
    split at hs
    · rename_i hk
      obtain rfl := tk_str hk
      obtain rfl := hx.str_inv
      subst he
      refine ⟨byteCells s, ?_, fun k c hk => ?_⟩
      · have := Src.ofString (P := P) w (tx := t2) hd s
        simpa using this
      · have hf : flat (s.data.toList.map fun b => SV.int .u8 b.toNat) = s.data.toList.map fun b => SV.int .u8 b.toNat := by
          have := flat_ints .u8 (s.data.toList.map fun b => (b.toNat : Int))
          simpa [List.map_map, Function.comp_def] using this
        rw [hf] at hk
        simp only [List.getElem?_map, Option.map_eq_some_iff] at hk
        obtain ⟨b, hb, rfl⟩ := hk
        exact ⟨rfl, .int .u8 b.toNat, by simp [byteCells, hb], .int _ _⟩
    · cases hs
  · cases hi

/-- There is room, in a row of the call's own. -/
theorem run_append_room' {t tx ty e : TypeId} {i : TypeInfo} (ht : P.underlying t = some (.slice e)) (hi : P.info? e = some i) {b sLen sCap : Nat} {x : Value} {n : Nat} {news : List Value} (hs : Src P i.size tx x n news w)
    (hroom : sLen + n ≤ sCap) {cur : Array Value} {e0 : TypeId} (hg : w.heap[b]? = some (Obj.cells cur e0 (0, 0))) (hfit : sLen * i.size + news.length ≤ cur.size) :
    (Builtin.append_ #[t, tx] ty #[.slice (some ⟨b, 0, none⟩) sLen sCap, x]).run P w = .ok (.slice (some ⟨b, 0, none⟩) (sLen + n) sCap)
      (w.setRow b (cur.toList.take (sLen * i.size) ++ news ++ cur.toList.drop (sLen * i.size + news.length)).toArray) := by
  have hst := run_storeCells_at P b (sLen * i.size) e0 news 0 cur w hg (by simpa using hfit) hs.one
  simp only [Nat.add_zero] at hst
  rcases hs.kind with ⟨e', hk⟩ | hk <;> simp [Builtin.append_, run_underlying ht, run_underlying hk, sizeOf, typeInfo, hi, hs.len, hroom, hs.cells, add_none, hst]

theorem grownCap_ge (w : World) (need old : Nat) (e : TypeId) : need ≤ grownCap w need old e := by
  simp only [grownCap, Question.cut]
  omega

theorem zeroCells_size (z : Array Value) (n : Nat) : (Builtin.zeroCells z n).size = n * z.size := by simp [Builtin.zeroCells]

/-- A new row of items that are told, with room behind. -/
theorem grow_sim {M : Mem} {fr : Nat → Prop} (hM : MR E g w M fr) {a : Nat} (ha : fr a) {t tx ty e : TypeId} {i : TypeInfo} {z : Value} (ht : P.underlying t = some (.slice e)) (hi : P.info? e = some i) (hz : i.zero = some z)
    (hzs : z.cells.size = i.size) {base : Option Addr} {sLen sCap : Nat} {olds : List Value} {xs ys : List SV} (hl : xs.length = sLen)
    (hold : (Builtin.firstCells i.size sLen (.slice base sLen sCap)).run P w.drew = .ok olds.toArray w.drew) (holdl : olds.length = sLen * i.size)
    (holdr : ∀ (k : Nat) (c : SV), (flat xs)[k]? = some c → c.one = true ∧ ∃ v, olds[k]? = some v ∧ VR g w c v) (hxu : ∀ x ∈ xs, x.cells.length = i.size)
    {x : Value} {news : List Value} (hs : Src P i.size tx x ys.length news w) (hnr : ∀ (k : Nat) (c : SV), (flat ys)[k]? = some c → c.one = true ∧ ∃ v, news[k]? = some v ∧ VR g w c v) (hyu : ∀ y ∈ ys, y.cells.length = i.size)
    (hg : sCap < sLen + ys.length) (hb : (sLen + ys.length) * i.bytes ≤ 140737488355328) (h63 : sLen + ys.length ≤ 140737488355328) :
    ∃ w' g' v', (Builtin.append_ #[t, tx] ty #[.slice base sLen sCap, x]).run P w = .ok v' w' ∧ Done E g w g' w' (M.set a (some (xs ++ ys))) fr a ∧ VR g' w' (.own a i.size 0 (sLen + ys.length)) v' := by
  have hrun := run_append_grow_src w t tx ty e i z ht hi hz base sLen sCap olds hold x ys.length news hs hg (by omega) (growslice_fits hg hb)
  have hM' : MR E g w.drew M fr := by
    have hc : ∀ a, w.drew.cell? a = w.cell? a := fun _ => rfl
    have evo : Evo g w g w.drew := ⟨rfl, rfl, rfl, fun _ _ h => ⟨h, rfl⟩, fun _ => Nat.le_refl _, fun _ _ _ _ h => h, fun _ c _ _ h => ⟨c, h, rfl⟩, (RowKit.Below.refl _ _).drew⟩
    exact ⟨hM.good, hM.base, fun id its h => by
      obtain ⟨b, c, e, h1, h2, h3, h4, h5, h6⟩ := hM.blk id its h
      exact ⟨b, c, e, h1, h2, h3, h4, h5, fun k x hk => by obtain ⟨a1, v, a2, a3⟩ := h6 k x hk; exact ⟨a1, v, a2, a3.mono hM.good evo⟩⟩, hM.inj, hM.fresh, hM.hwb, hM.lt, fun n its h => (hM.glob n its h).mono hM.good evo, hM.plain, hM.raw.mono evo, hM.sent.mono evo⟩
  have evo0 : Evo g w g w.drew := ⟨rfl, rfl, rfl, fun _ _ h => ⟨h, rfl⟩, fun _ => Nat.le_refl _, fun _ _ _ _ h => h, fun _ c _ _ h => ⟨c, h, rfl⟩, (RowKit.Below.refl _ _).drew⟩
  have hoff : (flat xs).length = sLen * i.size := by rw [flat_length hxu, hl]
  have hcells : ∀ (k : Nat) (c : SV), (flat (xs ++ ys))[k]? = some c → c.one = true ∧
      ∃ v, ((olds ++ news).toArray ++ Builtin.zeroCells z.cells (grownCap w (sLen + ys.length) sCap e - (sLen + ys.length)))[k]? = some v ∧ VR g w.drew c v := by
    intro k c hk
    have hkl : k < olds.length + news.length := by
      have := (List.getElem?_eq_some_iff.1 hk).1
      rw [flat_append, List.length_append, hoff, flat_length hyu] at this
      rw [holdl, hs.newsLen]
      exact this
    have h1 : ((olds ++ news).toArray ++ Builtin.zeroCells z.cells (grownCap w (sLen + ys.length) sCap e - (sLen + ys.length)))[k]? = (olds ++ news)[k]? := by
      rw [Array.getElem?_append_left (by simpa using hkl)]
      simp
    rw [h1]
    rw [flat_append] at hk
    by_cases hlt : k < sLen * i.size
    · rw [List.getElem?_append_left (by rw [hoff]; exact hlt)] at hk
      obtain ⟨a1, v, a2, a3⟩ := holdr k c hk
      exact ⟨a1, v, by rw [List.getElem?_append_left (by rw [holdl]; exact hlt)]; exact a2, a3.mono hM.good evo0⟩
    · rw [List.getElem?_append_right (by rw [hoff]; omega), hoff] at hk
      obtain ⟨a1, v, a2, a3⟩ := hnr _ c hk
      exact ⟨a1, v, by rw [List.getElem?_append_right (by rw [holdl]; omega), holdl]; exact a2, a3.mono hM.good evo0⟩
  have hu : ∀ y ∈ xs ++ ys, y.cells.length = i.size := by
    intro y hy
    rcases List.mem_append.1 hy with hy | hy
    · exact hxu y hy
    · exact hyu y hy
  obtain ⟨p1, p2⟩ := hM'.new ha hu hcells (e := e) (w' := w.drew.alloc (.cells ((olds ++ news).toArray ++ Builtin.zeroCells z.cells (grownCap w (sLen + ys.length) sCap e - (sLen + ys.length))) e)) rfl rfl rfl rfl
  refine ⟨_, _, _, hrun, ⟨evo0.trans p1, p2, fun j hj => by simp [Gh.new, hj]⟩, ?_⟩
  have hcap := grownCap_ge w (sLen + ys.length) sCap e
  have := VR.own (g := g.new a w.heap.size i.size) (w := w.drew.alloc (.cells ((olds ++ news).toArray ++ Builtin.zeroCells z.cells (grownCap w (sLen + ys.length) sCap e - (sLen + ys.length))) e)) a i.size 0 (sLen + ys.length) w.heap.size (grownCap w (sLen + ys.length) sCap e)
    (own_new_self g a _ _).1 (own_new_self g a _ _).2 hcap ⟨_, e, heap_alloc_new _ _, by
      simp only [Nat.zero_add, Array.size_append, List.size_toArray, List.length_append, holdl, hs.newsLen, zeroCells_size, hzs]
      rw [← Nat.add_mul, ← Nat.add_mul]
      apply Nat.mul_le_mul_right
      omega⟩
  simpa using this

theorem append_sim {M : Mem} {fr : Nat → Prop} (hM : MR E g w M fr) {get : Nat → Option (List SV)} (hget : ∀ id items, get id = some items → M.blk id = some items) {a : Nat} (ha : fr a)
    {t t2 ty : Nat} {s x r : SV} {s' x' : Value} {u : List (Nat × Option (List SV))} (hs : VR g w s s') (hx : VR g w x x') (h : appendS P get a t t2 s x = some (r, u)) :
    ∃ w' g' v', (Builtin.append_ #[t, t2] ty #[s', x']).run P w = .ok v' w' ∧ Done E g w g' w' (M.sets u) fr a ∧ VR g' w' r v' := by
  unfold appendS at h
  split at h
  case h_2 => cases h
  rename_i e x1 x2 x3 k2 ht h2
  obtain ⟨d, i0, hd, hi0, he⟩ := tiOf_some ht
  simp only [TI.mk.injEq] at he
  obtain rfl := tk_slice he.1.symm
  split at h
  case h_2 => cases h
  rename_i te hte
  obtain ⟨d2, i, hd2, hi, rfl⟩ := tiOf_some hte
  split at h
  case h_2 => cases h
  rename_i z ys hz hys
  simp only [Option.map_eq_some_iff] at hz
  obtain ⟨zv, hzv, rfl⟩ := hz
  split at h
  case isFalse => cases h
  rename_i hcond
  obtain ⟨h0, hun, hsrc, hzs, hzl⟩ := hcond
  simp only at h0 hun hsrc hzl
  have hyu := unif_iff.1 hun
  obtain ⟨news, hsr, hnr⟩ := src_of hM hget h2 hx hys hun hsrc
  have hzsz : zv.cells.size = i.size := by rw [← ((VR.ofVal g w zv).cells hzs).1.1]; exact hzl
  have hnil : ys.isEmpty = true → Src P i.size t2 x' 0 [] w := by
    intro hemp
    have hy0 : ys = [] := by simpa using hemp
    subst hy0
    have hn0 : news = [] := by
      have := hsr.newsLen
      simp at this
      exact this
    subst hn0
    exact hsr
  have hpos : ¬ ys.isEmpty = true → 0 < ys.length := by
    intro hne
    cases ys with
    | nil => simp at hne
    | cons y ys => simp
  split at h
  · cases hs
    split at h
    · rename_i hemp
      simp only [Option.some.injEq, Prod.mk.injEq] at h
      obtain ⟨rfl, rfl⟩ := h
      exact ⟨w, g, _, run_append_nothing w t t2 ty e i hd hi none 0 0 (Nat.le_refl _) x' (hnil hemp), .same hM a, .nilsl⟩
    · rename_i hemp
      split at h
      case isFalse => cases h
      rename_i hb
      simp only [Option.some.injEq, Prod.mk.injEq] at h
      obtain ⟨rfl, rfl⟩ := h
      have := grow_sim (P := P) hM ha (ty := ty) hd hi hzv hzsz (base := none) (sLen := 0) (sCap := 0) (olds := []) (xs := []) (ys := ys) rfl (run_firstCells_none w.drew i.size 0 0 0) (by simp) (fun k c hk => by simp [flat] at hk) (by simp)
        hsr hnr hyu (by have := hpos hemp; omega) (by simpa using hb.1) (by simpa using hb.2)
      simpa [Mem.sets] using this
  · rename_i xs
    cases hs with
    | sle _ ad cap hfull =>
      obtain rfl := hfull rfl
      split at h
      · rename_i hemp
        simp only [Option.some.injEq, Prod.mk.injEq] at h
        obtain ⟨rfl, rfl⟩ := h
        exact ⟨w, g, _, run_append_nothing w t t2 ty e i hd hi _ _ _ (Nat.le_refl _) x' (hnil hemp), .same hM a, .sle _ ad 0 (fun _ => rfl)⟩
      · rename_i hemp
        split at h
        case isFalse => cases h
        rename_i hb
        simp only [Option.some.injEq, Prod.mk.injEq] at h
        obtain ⟨rfl, rfl⟩ := h
        have := grow_sim (P := P) hM ha (ty := ty) hd hi hzv hzsz (base := some ad) (sLen := 0) (sCap := 0) (olds := []) (xs := []) (ys := ys) rfl
          (run_firstCells_some w.drew i.size 0 ad 0 0 [] (by simp) (fun j u h => by simp at h)) (by simp) (fun k c hk => by simp [flat] at hk) (by simp) hsr hnr hyu (by have := hpos hemp; omega) (by simpa using hb.2.1) (by simpa using hb.2.2)
        simpa [Mem.sets] using this
    | sl _ _ b start cap esz rv hu0 hc hr hcap hfull =>
    obtain rfl := hfull rfl
    split at h
    · rename_i hemp
      simp only [Option.some.injEq, Prod.mk.injEq] at h
      obtain ⟨rfl, rfl⟩ := h
      exact ⟨w, g, _, run_append_nothing w t t2 ty e i hd hi _ _ _ (Nat.le_refl _) x' (hnil hemp), .same hM a, .sl _ _ b start _ esz rv hu0 hc hr (Nat.le_refl _) (fun _ => rfl)⟩
    · rename_i hemp
      split at h
      case isFalse => cases h
      rename_i hb
      simp only [Option.some.injEq, Prod.mk.injEq] at h
      obtain ⟨rfl, rfl⟩ := h
      have hxu := unif_iff.1 hb.1
      obtain ⟨olds, o1, o2, o3, o4⟩ := news_of (g := g) (w := w) (b := b) (start := start) hxu (fun k c hk => ⟨(hc k c hk).1, _, (hc k c hk).2.2, hr k c hk⟩)
      have := grow_sim (P := P) hM ha (ty := ty) hd hi hzv hzsz (base := some ⟨b, start, none⟩) (sLen := xs.length) (sCap := xs.length) (olds := olds) (xs := xs) (ys := ys) rfl
        (run_firstCells_some w.drew i.size xs.length ⟨b, start, none⟩ xs.length xs.length olds o1 o2) o1 o4 hxu hsr hnr hyu (by have := hpos hemp; omega) hb.2.1 hb.2.2
      simpa [Mem.sets] using this
  · rename_i id esz q len
    cases hs with
    | own _ _ _ _ b cap hown hesz hlc hsz =>
    split at h
    · rename_i hemp
      simp only [Option.some.injEq, Prod.mk.injEq] at h
      obtain ⟨rfl, rfl⟩ := h
      exact ⟨w, g, _, run_append_nothing w t t2 ty e i hd hi _ _ _ hlc x' (hnil hemp), .same hM a, .own _ _ _ _ b cap hown hesz hlc hsz⟩
    · rename_i hemp
      split at h
      case h_2 => cases h
      rename_i xs hgi
      split at h
      case isFalse => cases h
      rename_i hb
      simp only [Option.some.injEq, Prod.mk.injEq] at h
      obtain ⟨rfl, rfl⟩ := h
      obtain ⟨hez, rfl, hle, hby, h63⟩ := hb
      simp only at hez hby
      have hblk := hget id xs hgi
      obtain ⟨b', c, t0, ho, hb1, hb2, hu0, hheap, hcs⟩ := hM.blk id xs hblk
      obtain rfl : b' = b := by rw [hown] at ho; simpa using ho.symm
      have hxu : ∀ y ∈ xs, y.cells.length = i.size := fun y hy => by rw [hu0 y hy, hesz, hez]
      have hxu' : ∀ y ∈ xs.take len, y.cells.length = i.size := fun y hy => hxu y (List.mem_of_mem_take hy)
      have hll : (xs.take len).length = len := by simp; omega
      have hfl : flat (xs.take len) = (flat xs).take (len * i.size) := flat_take len hxu
      have hold4 : ∀ (k : Nat) (c' : SV), (flat (xs.take len))[k]? = some c' → c'.one = true ∧ ∃ v, c[k]? = some v ∧ VR g w c' v := by
        intro k c' hk
        rw [hfl, List.getElem?_take] at hk
        split at hk
        · exact hcs k c' hk
        · cases hk
      have hz0 : (⟨b', 0 * esz, none⟩ : Addr) = ⟨b', 0, none⟩ := by simp
      rw [hz0]
      obtain ⟨c1, t1, hc1, hcsz⟩ := hsz
      rw [hheap] at hc1
      cases hc1
      by_cases hroom : len + ys.length ≤ cap
      · have hfit : len * i.size + news.length ≤ c.size := by
          rw [hsr.newsLen, ← Nat.add_mul]
          rw [hez, Nat.zero_add] at hcsz
          exact Nat.le_trans (Nat.mul_le_mul_right _ hroom) hcsz
        have hrun := run_append_room' (P := P) (ty := ty) hd hi hsr hroom hheap hfit
        have hlen : len * i.size ≤ c.size := by omega
        have hnew : ∀ k, ((c.toList.take (len * i.size) ++ news ++ c.toList.drop (len * i.size + news.length)).toArray)[k]? =
            if k < len * i.size then c[k]? else if k < len * i.size + news.length then news[k - len * i.size]? else c[k]? := by
          intro k
          have h1 : (c.toList.take (len * i.size)).length = len * i.size := by simp; omega
          simp only [List.getElem?_toArray]
          by_cases hk : k < len * i.size
          · rw [if_pos hk, List.append_assoc, List.getElem?_append_left (by omega), List.getElem?_take, if_pos hk, Array.getElem?_toList]
          · rw [if_neg hk]
            by_cases hk2 : k < len * i.size + news.length
            · rw [if_pos hk2, List.append_assoc, List.getElem?_append_right (by omega), h1, List.getElem?_append_left (by omega)]
            · rw [if_neg hk2, List.append_assoc, List.getElem?_append_right (by omega), h1, List.getElem?_append_right (by omega), List.getElem?_drop, Array.getElem?_toList]
              congr 1
              omega
        have hu2 : ∀ y ∈ xs.take len ++ ys, y.cells.length = g.esz id := by
          intro y hy
          rw [hesz, hez]
          rcases List.mem_append.1 hy with hy | hy
          · exact hxu' y hy
          · exact hyu y hy
        have hofl : (flat (xs.take len)).length = len * i.size := by rw [flat_length hxu', hll]
        obtain ⟨p1, p2⟩ := hM.move ha (items' := xs.take len ++ ys) (c' := (c.toList.take (len * i.size) ++ news ++ c.toList.drop (len * i.size + news.length)).toArray) hblk hown hheap (by simp; omega) hu2 (fun k c' hk => by
          rw [hnew]
          rw [flat_append] at hk
          by_cases hlt : k < len * i.size
          · rw [List.getElem?_append_left (by rw [hofl]; exact hlt)] at hk
            rw [if_pos hlt]
            exact hold4 k c' hk
          · rw [List.getElem?_append_right (by rw [hofl]; omega), hofl] at hk
            have hk2 : k < len * i.size + news.length := by
              have := (List.getElem?_eq_some_iff.1 hk).1
              rw [flat_length hyu] at this
              rw [hsr.newsLen]
              omega
            rw [if_neg hlt, if_pos hk2]
            exact hnr _ c' hk)
        refine ⟨_, _, _, hrun, ⟨p1, p2, fun j hj => by simp [Gh.new, hj]⟩, ?_⟩
        have := VR.own (g := g.new a b' (g.esz id)) (w := w.setRow b' (c.toList.take (len * i.size) ++ news ++ c.toList.drop (len * i.size + news.length)).toArray) a i.size 0 (len + ys.length) b' cap (own_new_self g a _ _).1 (by rw [(own_new_self g a _ _).2, hesz, hez]) hroom
          ⟨_, _, setRow_heap w b' c _ t0 (0, 0) hheap, by
            rw [hez] at hcsz
            simp at hcsz ⊢
            omega⟩
        simpa using this
      · obtain ⟨olds, o1, o2, o3, o4⟩ := news_of (g := g) (w := w) (b := b') (start := 0) hxu' (fun k c' hk => by
          obtain ⟨a1, v, a2, a3⟩ := hold4 k c' hk
          exact ⟨a1, v, by rw [Nat.zero_add, cell?_cells hheap]; exact a2, a3⟩)
        rw [hll] at o1
        obtain ⟨w', g', v', q1, q2, q3⟩ := grow_sim (P := P) (hM.kill id) ha (ty := ty) hd hi hzv hzsz (base := some ⟨b', 0, none⟩) (sLen := len) (sCap := cap) (olds := olds) (xs := xs.take len) (ys := ys) hll
          (run_firstCells_some w.drew i.size len ⟨b', 0, none⟩ len cap olds o1 o2) o1 o4 hxu' hsr hnr hyu (by omega) hby h63
        exact ⟨w', g', v', q1, by simpa [Mem.sets] using q2, q3⟩
  · cases h

/-- A slice's items, and where they lie. -/
theorem src_addr {M : Mem} {fr : Nat → Prop} (hM : MR E g w M fr) {get : Nat → Option (List SV)} (hget : ∀ id items, get id = some items → M.blk id = some items)
    {x : SV} {x' : Value} {ys : List SV} (hx : VR g w x x') (hi : itemsS get x = some ys) (hu : unif 1 ys = true) (hs : isStr x = false) (hz : ∀ id esz i len, x = .own id esz i len → esz = 1 ∨ ys = []) :
    (x' = .slice none 0 0 ∧ ys = []) ∨ ∃ (a : Addr) (cap : Nat) (news : List Value), x' = .slice (some a) ys.length cap ∧ news.length = ys.length ∧ (∀ j v, news[j]? = some v → w.cell? (a.add j) = some v) ∧ (∀ u ∈ news, u.oneCell' = true) ∧
      ∀ (k : Nat) (c : SV), (flat ys)[k]? = some c → c.one = true ∧ ∃ v, news[k]? = some v ∧ VR g w c v := by
  have hu' := unif_iff.1 hu
  unfold itemsS at hi
  split at hi
  · simp only [Option.some.injEq] at hi
    subst hi
    cases hx
    exact .inl ⟨rfl, rfl⟩
  · rename_i items tl
    simp only [Option.some.injEq] at hi
    subst hi
    cases hx with
    | sle _ a cap hfull => exact .inr ⟨a, cap, [], rfl, rfl, fun j u h => by simp at h, (fun u h => by simp at h), fun k c hk => by simp [flat] at hk⟩
    | sl _ _ b start cap esz rv hu0 hc hr hcap hfull =>
    obtain ⟨news, n1, n2, n3, n4⟩ := news_of (g := g) (w := w) (b := b) (start := start) hu' (fun k c hk => ⟨(hc k c hk).1, _, (hc k c hk).2.2, hr k c hk⟩)
    exact .inr ⟨_, cap, news, rfl, by rw [n1, Nat.mul_one], n2, n3, n4⟩
  · rename_i id esz q len
    split at hi
    case h_2 => cases hi
    rename_i items hgi
    split at hi
    case isFalse => cases hi
    rename_i hle
    simp only [Option.some.injEq] at hi
    subst hi
    cases hx with
    | own _ _ _ _ b cap hown hesz hlc hsz =>
    obtain ⟨b', c, t, ho, _, _, hu0, hheap, hcs⟩ := hM.blk id items (hget id items hgi)
    obtain rfl : b' = b := by rw [hown] at ho; simpa using ho.symm
    have hll : ((items.drop q).take len).length = len := by simp; omega
    rcases hz _ _ _ _ rfl with h1 | h1
    · subst h1
      have hun : ∀ y ∈ items, y.cells.length = 1 := fun y hy => by rw [hu0 y hy, hesz]
      have hfl : flat ((items.drop q).take len) = ((flat items).drop (q * 1)).take (len * 1) := by
        rw [flat_take (n := 1) len (fun y hy => hun y (List.mem_of_mem_drop hy)), flat_drop (n := 1) q hun]
      obtain ⟨news, n1, n2, n3, n4⟩ := news_of (g := g) (w := w) (b := b') (start := q * 1) hu' (fun k c' hk => by
        rw [hfl, List.getElem?_take] at hk
        split at hk
        · rw [List.getElem?_drop] at hk
          obtain ⟨h1, v, hv, hr⟩ := hcs _ c' hk
          exact ⟨h1, v, by rw [cell?_cells hheap]; exact hv, hr⟩
        · simp at hk)
      refine .inr ⟨_, cap, news, by rw [hll], by rw [n1, Nat.mul_one], n2, n3, n4⟩
    · rw [h1]
      rw [h1] at hll
      have : len = 0 := by simpa using hll.symm
      subst this
      exact .inr ⟨_, cap, [], rfl, rfl, fun j u h => by simp at h, (fun u h => by simp at h), fun k c hk => by simp [flat] at hk⟩
  · simp [isStr] at hs
  · cases hi

theorem copy_sim {ty : TypeId} {M : Mem} {fr : Nat → Prop} (hM : MR E g w M fr) {get : Nat → Option (List SV)} (hget : ∀ id items, get id = some items → M.blk id = some items)
    {t t2 : Nat} {d x r : SV} {d' x' : Value} {u : List (Nat × Option (List SV))} (hd : VR g w d d') (hx : VR g w x x') (h : copyS P get t d x = some (r, u)) :
    ∃ w' n, (Builtin.copy_ #[t, t2] ty #[d', x']).run P w = .ok (.int .i64 n) w' ∧ r = .int .i64 n ∧ Evo g w g w' ∧ MR E g w' (M.sets u) fr := by
  unfold copyS at h
  split at h
  case h_2 => cases h
  rename_i e s1 b1 z1 hti
  obtain ⟨dd, i1, hdd, hi1, he1⟩ := tiOf_some hti
  simp only [TI.mk.injEq] at he1
  obtain rfl := tk_slice he1.1.symm
  split at h
  case h_2 => cases h
  rename_i te hte
  obtain ⟨de, ie, hde, hie, rfl⟩ := tiOf_some hte
  split at h
  case h_2 => cases h
  rename_i id esz i len ys hys
  split at h
  case h_2 => cases h
  rename_i xs hgx
  split at h
  case isFalse => cases h
  rename_i hc
  simp only [Option.some.injEq, Prod.mk.injEq] at h
  obtain ⟨rfl, rfl⟩ := h
  obtain ⟨c1, rfl, c3, c4, c5⟩ := hc
  simp only at c1
  cases hd with
  | own _ _ _ _ b cap hown hesz hlc hsz =>
  obtain ⟨b', cur, t0, ho, _, _, hu0, hheap, hcs⟩ := hM.blk id xs (hget id xs hgx)
  obtain rfl : b' = b := by rw [hown] at ho; simpa using ho.symm
  have hun : ∀ y ∈ xs, y.cells.length = 1 := fun y hy => by rw [hu0 y hy, hesz]
  have hflx := flat_length hun
  obtain ⟨c', e', hh', hle'⟩ := hsz
  rw [hheap] at hh'
  obtain ⟨rfl, rfl⟩ : cur = c' ∧ t0 = e' := by simpa using hh'
  have hcur : xs.length ≤ cur.size := by
    rcases Nat.eq_zero_or_pos xs.length with h0 | h0
    · omega
    · obtain ⟨_, v, hv, _⟩ := hcs (xs.length - 1) _ (List.getElem?_eq_getElem (by rw [hflx]; omega))
      have := (Array.getElem?_eq_some_iff.1 hv).1
      omega
  have hsz1 : ((P.info? e).map (·.size)) = some 1 := by rw [hie]; simpa using c1
  have hzz : ∀ id' esz' i' len', x = .own id' esz' i' len' → esz' = 1 ∨ ys = [] := by
    rintro id' esz' i' len' rfl
    cases hx with
    | own _ _ _ _ b2 cap2 hown2 hesz2 hlc2 hsz2 =>
    simp only [itemsS] at hys
    split at hys
    case h_2 => cases hys
    rename_i items2 hg2
    split at hys
    case isFalse => cases hys
    rename_i hle2
    simp only [Option.some.injEq] at hys
    rcases hy : ys with _ | ⟨y, yr⟩
    · exact .inr rfl
    · left
      have hmem : y ∈ ys := by rw [hy]; simp
      have h1 := unif_iff.1 c5 y hmem
      rw [← hys] at hmem
      obtain ⟨_, _, _, _, _, _, hu2, _⟩ := hM.blk id' items2 (hget id' items2 hg2)
      have h2 := hu2 y (List.mem_of_mem_drop (List.mem_of_mem_take hmem))
      omega
  rcases src_addr hM hget hx hys c5 c3 hzz with ⟨rfl, rfl⟩ | ⟨a, scap, news, rfl, n1, n2, n3, n4⟩
  · refine ⟨w, 0, ?_, by simp, .refl g w, ?_⟩
    · have := run_copy_nil P w t t2 ty e ⟨b', i * 1, none⟩ len cap hdd (by rw [hie]; rfl)
      simpa [goInt] using this
    · have : M.sets [(id, some (List.take i xs ++ List.take (min ([] : List SV).length len) [] ++ List.drop (i + min ([] : List SV).length len) xs))] = M := by
        simp only [Mem.sets, List.take_nil, List.append_nil, List.length_nil, Nat.zero_min, Nat.add_zero, List.take_append_drop]
        obtain ⟨mb, mn⟩ := M
        simp only [Mem.set, Mem.mk.injEq, and_true]
        funext j
        by_cases hj : j = id
        · subst hj; rw [if_pos rfl]; exact (hget _ xs hgx).symm
        · rw [if_neg hj]
      rw [this]
      exact hM
  · generalize hn : min ys.length len = n
    have hn1 : n ≤ ys.length := by omega
    have hn2 : n ≤ len := by omega
    have hrun := run_copy_row P w t t2 ty e b' (i * 1) len cap a ys.length scap cur t0 (news.take n) hdd hsz1 hheap (by rw [List.length_take, n1, Nat.min_eq_left hn1]; exact hn.symm) (fun j v hj => by
      rw [List.getElem?_take] at hj
      split at hj
      · exact n2 j v hj
      · cases hj) (by simp [n1]; omega) (fun v hv => n3 v (List.mem_of_mem_take hv))
    have hln : (news.take n).length = n := by simp [n1]; omega
    rw [hln, Nat.mul_one] at hrun
    have hfy : ∀ y ∈ ys, y.cells.length = 1 := unif_iff.1 c5
    have put := MR.put (items' := xs.take i ++ ys.take n ++ xs.drop (i + n)) hM (hget id xs hgx) hown hheap (c' := (cur.toList.take i ++ news.take n ++ cur.toList.drop (i + n)).toArray)
      (by simp [n1]; omega) (fun z hz => by
        rw [hesz]
        rcases List.mem_append.1 hz with hz | hz
        · rcases List.mem_append.1 hz with hz | hz
          · exact hun z (List.mem_of_mem_take hz)
          · exact hfy z (List.mem_of_mem_take hz)
        · exact hun z (List.mem_of_mem_drop hz)) (fun k z hk => by
        rw [flat_append, flat_append, flat_take (n := 1) i hun, flat_take (n := 1) n hfy, flat_drop (n := 1) (i + n) hun, Nat.mul_one, Nat.mul_one, Nat.mul_one] at hk
        have hl1 : ((flat xs).take i).length = i := by simp [hflx]; omega
        have hl2 : ((flat ys).take n).length = n := by simp [flat_length hfy]; omega
        have hl3 : (cur.toList.take i).length = i := by simp; omega
        rw [List.append_assoc, List.getElem?_append, hl1] at hk
        simp only [List.getElem?_toArray, List.append_assoc]
        rw [List.getElem?_append, hl3]
        split at hk
        · rename_i h
          rw [if_pos h]
          rw [List.getElem?_take, if_pos h] at hk ⊢
          obtain ⟨q1, v, q2, q3⟩ := hcs k z hk
          exact ⟨q1, v, by simpa using q2, q3⟩
        · rename_i h
          rw [if_neg h]
          rw [List.getElem?_append, hl2] at hk
          rw [List.getElem?_append, hln]
          split at hk
          · rename_i h2
            rw [if_pos h2]
            rw [List.getElem?_take, if_pos h2] at hk ⊢
            exact n4 _ z hk
          · rename_i h2
            rw [if_neg h2]
            rw [List.getElem?_drop] at hk ⊢
            obtain ⟨q1, v, q2, q3⟩ := hcs _ z hk
            exact ⟨q1, v, by simpa using q2, q3⟩)
    exact ⟨_, (n : Int), by simpa [goInt] using hrun, rfl, put.1, by simpa [Mem.sets] using put.2⟩

end Go.Proofs.YtbdliphlolajaaaDoor.Sh
