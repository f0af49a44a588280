/-
  The shadow interpreter, text 9: pictures of memory. No condition.
-/
import Derived.Test.YtbdliphlolajaaaDoorShSh
set_option linter.unusedVariables false
set_option linter.unusedSimpArgs false
namespace Go.Proofs.YtbdliphlolajaaaDoor.Sh
variable {E : Env} {P : Program} {g g' : Gh} {w : World}

theorem pvs_iff : ∀ {l : List SV}, pvs l = true ↔ ∀ x ∈ l, pv x = true
  | [] => by simp [pvs]
  | x :: l => by simp [pvs, pvs_iff (l := l)]

theorem pv_cells {x : SV} (h : pv x = true) : ∀ c ∈ x.cells, pv c = true := by
  cases x with
  | agg cs => simpa [SV.cells] using pvs_iff.1 (by simpa [pv] using h)
  | _ => intro c hc; simp [SV.cells] at hc; subst hc; exact h

theorem pv_flat {l : List SV} (h : pvs l = true) : ∀ c ∈ flat l, pv c = true := by
  intro c hc
  obtain ⟨x, hx, hcx⟩ := List.mem_flatMap.1 hc
  exact pv_cells (pvs_iff.1 h x hx) c hcx

/-- A plain tree stands under other knowledge, too. -/
theorem VR.pv_rel (H0 : g'.sent = g.sent) (H1 : ∀ b o v, g.stab b o → w.cell? ⟨b, o, none⟩ = some v → g'.stab b o) {s : SV} {v : Value} (h : VR g w s v) : pv s = true → VR g' w s v := by
  induction h with
  | bool b => intro _; exact .bool b
  | int k n => intro _; exact .int k n
  | str s => intro _; exact .str s
  | nilp => intro _; exact .nilp
  | ptr id i o b h => intro hp; simp [pv] at hp
  | rptr items i o st b start esz rv hu hc hr ih =>
    intro hp
    simp only [pv, Bool.and_eq_true] at hp
    obtain ⟨rfl, hp⟩ := hp
    exact .rptr items i o true b start esz rv hu (fun k c hk => ⟨(hc k c hk).1, H1 _ _ _ (hc k c hk).2.1 (hc k c hk).2.2, (hc k c hk).2.2⟩) (fun k c hk => ih k c hk (pv_flat hp c (List.mem_of_getElem? hk)))
  | nilsl => intro _; exact .nilsl
  | sl items tl b start cap esz rv hu hc hr hcap hfull ih =>
    intro hp
    simp only [pv, Bool.and_eq_true, bne_iff_ne, ne_eq] at hp
    obtain ⟨ht, hp⟩ := hp
    have hst : tl.st = true := by cases tl <;> simp_all [Tl.st]
    refine .sl items tl b start cap esz rv hu (fun k c hk => ?_) (fun k c hk => ih k c hk (pv_flat hp c (List.mem_of_getElem? hk))) hcap hfull
    obtain ⟨h1, h2, h3⟩ := hc k c hk
    refine ⟨h1, ?_, h3⟩
    rw [hst] at h2 ⊢
    exact H1 _ _ _ h2 h3
  | sle tl a cap hfull => intro _; exact .sle tl a cap hfull
  | own id esz i len b cap h he hl hs => intro hp; simp [pv] at hp
  | fn f a c a' c' ha hc hra hrc iha ihc =>
    intro hp
    simp only [pv, Bool.and_eq_true] at hp
    exact .fn f a c a' c' ha hc (fun k x v h1 h2 => iha k x v h1 h2 (pvs_iff.1 hp.1 x (List.mem_of_getElem? h1))) (fun k x v h1 h2 => ihc k x v h1 h2 (pvs_iff.1 hp.2 x (List.mem_of_getElem? h1)))
  | nilf => intro _; exact .nilf
  | iface t s v hx h ih => intro hp; exact .iface t s v (by rw [H0]; exact hx) (ih (by simpa [pv] using hp))
  | nili => intro _; exact .nili
  | agg cs vs hl ho hr ih => intro hp; simp only [pv] at hp; exact .agg cs vs hl ho (fun k x v h1 h2 => ih k x v h1 h2 (pvs_iff.1 hp x (List.mem_of_getElem? h1)))
  | tup cs vs hl hr ih => intro hp; simp only [pv] at hp; exact .tup cs vs hl (fun k x v h1 h2 => ih k x v h1 h2 (pvs_iff.1 hp x (List.mem_of_getElem? h1)))
  | bad v => intro _; exact .bad v

theorem mapM_some {α β : Type} {f : α → Option β} : ∀ {l : List α} {l' : List β}, l.mapM f = some l' → l.length = l'.length ∧ ∀ (k : Nat) (x : α) (y : β), l[k]? = some x → l'[k]? = some y → f x = some y
  | [], l', h => by
    simp at h
    subst h
    exact ⟨rfl, fun k x y hx => by simp at hx⟩
  | a :: l, l', h => by
    simp only [List.mapM_cons, Option.bind_eq_bind, Option.bind_eq_some_iff, Option.pure_def, Option.some.injEq] at h
    obtain ⟨b, hb, m, hm, rfl⟩ := h
    obtain ⟨h1, h2⟩ := mapM_some hm
    refine ⟨by simp [h1], fun k x y hx hy => ?_⟩
    cases k with
    | zero => simp at hx hy; subst hx hy; exact hb
    | succ k => exact h2 k x y (by simpa using hx) (by simpa using hy)

theorem flat_rel {R : SV → SV → Prop} : ∀ {xs ys : List SV}, xs.length = ys.length →
    (∀ (j : Nat) (x y : SV), xs[j]? = some x → ys[j]? = some y → x.cells.length = y.cells.length ∧ ∀ (k : Nat) (c d : SV), x.cells[k]? = some c → y.cells[k]? = some d → R c d) →
    (flat xs).length = (flat ys).length ∧ ∀ (k : Nat) (c d : SV), (flat xs)[k]? = some c → (flat ys)[k]? = some d → R c d
  | [], [], _, _ => ⟨rfl, fun k c d hc => by simp [flat] at hc⟩
  | x :: xs, y :: ys, hl, h => by
    obtain ⟨h1, h2⟩ := h 0 x y rfl rfl
    obtain ⟨h3, h4⟩ := flat_rel (R := R) (xs := xs) (ys := ys) (by simpa using hl) (fun j a b ha hb => h (j + 1) a b (by simpa using ha) (by simpa using hb))
    refine ⟨by rw [flat_cons, flat_cons, List.length_append, List.length_append, h1, h3], fun k c d hc hd => ?_⟩
    rw [flat_cons] at hc hd
    by_cases hk : k < x.cells.length
    · rw [List.getElem?_append_left hk] at hc
      rw [List.getElem?_append_left (by rw [← h1]; exact hk)] at hd
      exact h2 k c d hc hd
    · rw [List.getElem?_append_right (by omega)] at hc
      rw [List.getElem?_append_right (by rw [← h1]; omega), ← h1] at hd
      exact h4 _ c d hc hd

theorem pic_pv {get : Nat → Option (List SV)} {st : Bool} {n : Nat} {s : SV} (h : pv s = true) : pic get st n s = some s := by
  cases n <;> simp [pic, h]

theorem pic_cells {get : Nat → Option (List SV)} {st : Bool} {n : Nat} {x x' : SV} (h : pic get st n x = some x') :
    x.cells.length = x'.cells.length ∧ ∀ (k : Nat) (c d : SV), x.cells[k]? = some c → x'.cells[k]? = some d → ∃ m, m ≤ n ∧ pic get st m c = some d := by
  by_cases hp : pv x = true
  · rw [pic_pv hp] at h
    simp only [Option.some.injEq] at h
    subst h
    refine ⟨rfl, fun k c d hc hd => ⟨n, Nat.le_refl _, ?_⟩⟩
    rw [hc] at hd
    simp only [Option.some.injEq] at hd
    subst hd
    exact pic_pv (pv_cells hp c (List.mem_of_getElem? hc))
  · cases n with
    | zero => simp [pic, hp] at h
    | succ n =>
      have whole : ∀ (q q' : SV), q = x → q' = x' → q.cells = [q] → q'.cells = [q'] → x.cells.length = x'.cells.length ∧ ∀ (k : Nat) (c d : SV), x.cells[k]? = some c → x'.cells[k]? = some d → ∃ m, m ≤ n + 1 ∧ pic get st m c = some d := by
        rintro q q' rfl rfl hq hq'
        rw [hq, hq']
        refine ⟨rfl, fun k c d hc hd => ⟨n + 1, Nat.le_refl _, ?_⟩⟩
        cases k with
        | zero => simp at hc hd; subst hc hd; exact h
        | succ k => simp at hc
      have h0 := h
      simp only [pic, if_neg hp] at h
      split at h
      case h_7 cs =>
        split at h
        case h_2 => cases h
        rename_i cs' hcs
        simp only [Option.some.injEq] at h
        subst h
        obtain ⟨a1, a2⟩ := mapM_some hcs
        exact ⟨a1, fun k c d hc hd => ⟨n, Nat.le_succ n, a2 k c d hc hd⟩⟩
      all_goals ((try (repeat' split at h)) <;>
        first
          | (cases h; done)
          | (simp only [Option.some.injEq] at h
             exact whole _ _ rfl h rfl rfl)
          | (simp only [Option.some.injEq] at h
             subst h
             rename_i hx1 hx2 hx3 hx4 hx5 hx6 hx7 hx8
             refine whole _ _ rfl rfl ?_ ?_ <;> (cases x <;> simp_all [SV.cells])))

theorem pic_one {get : Nat → Option (List SV)} {st : Bool} {n : Nat} {c d : SV} (h : pic get st n c = some d) (hc : c.one = true) : d.one = true := by
  by_cases hp : pv c = true
  · rw [pic_pv hp] at h
    simp only [Option.some.injEq] at h
    subst h
    exact hc
  · cases n with
    | zero => simp [pic, hp] at h
    | succ n =>
      simp only [pic, if_neg hp] at h
      split at h
      all_goals ((try (repeat' split at h)) <;>
        first
          | (cases h; done)
          | (simp [SV.one] at hc; done)
          | (simp only [Option.some.injEq] at h; subst h; first | rfl | exact hc))


theorem pvs_get {l : List SV} (h : pvs l = true) {k : Nat} {x : SV} (hx : l[k]? = some x) : pv x = true := pvs_iff.1 h x (List.mem_of_getElem? hx)

/-- A picture of a value stands to the model's value as the value did, under other knowledge. -/
theorem pic_rel {M : Mem} {fr : Nat → Prop} (hM : MR E g w M fr) {get : Nat → Option (List SV)} (hget : ∀ id items, get id = some items → M.blk id = some items) {st : Bool} (H0 : g'.sent = g.sent)
    (H1 : ∀ b o v, g.stab b o → w.cell? ⟨b, o, none⟩ = some v → g'.stab b o)
    (H2 : st = false → ∀ b o v, w.cell? ⟨b, o, none⟩ = some v → g'.now b o)
    (H3 : st = true → ∀ b o v, g.base ≤ b → w.cell? ⟨b, o, none⟩ = some v → g'.stab b o) :
    ∀ (n : Nat) (s s' : SV) (v : Value), pic get st n s = some s' → (st = true → pv s' = true) → VR g w s v → VR g' w s' v := by
  intro n
  induction n using Nat.strongRecOn with
  | _ n IH =>
  intro s s' v hpic hpv hv
  by_cases hp : pv s = true
  · rw [pic_pv hp] at hpic
    simp only [Option.some.injEq] at hpic
    subst hpic
    exact hv.pv_rel H0 H1 hp
  cases n with
  | zero => simp [pic, hp] at hpic
  | succ n =>
  have seesOf : ∀ (b o : Nat) (v : Value), g.base ≤ b → w.cell? ⟨b, o, none⟩ = some v → g'.sees st b o := by
    intro b o v hb hc
    cases hst : st with
    | true => exact H3 hst b o v hb hc
    | false => exact H2 hst b o v hc
  -- a block of the shadow's memory, as a picture
  have block : ∀ (xs xs' : List SV) (b start esz : Nat), xs.mapM (pic get st n) = some xs' → (st = true → pvs xs' = true) → (∀ x ∈ xs, x.cells.length = esz) →
      (∀ (k : Nat) (c : SV), (flat xs)[k]? = some c → c.one = true ∧ ∃ v, w.cell? ⟨b, start + k, none⟩ = some v ∧ VR g w c v) →
      (∀ x ∈ xs', x.cells.length = esz) ∧ ∃ rv : Nat → Value, (∀ (k : Nat) (c : SV), (flat xs')[k]? = some c → c.one = true ∧ w.cell? ⟨b, start + k, none⟩ = some (rv k)) ∧
        ∀ (k : Nat) (c : SV), (flat xs')[k]? = some c → VR g' w c (rv k) := by
    intro xs xs' b start esz hm hpv' hu hc
    obtain ⟨m1, m2⟩ := mapM_some hm
    have hlen : ∀ x ∈ xs', x.cells.length = esz := by
      intro x' hx'
      obtain ⟨k, hk⟩ := List.mem_iff_getElem?.1 hx'
      have hlt : k < xs.length := by rw [m1]; exact (List.getElem?_eq_some_iff.1 hk).1
      have := (pic_cells (m2 k xs[k] x' (by simp [hlt]) hk)).1
      rw [← this]
      exact hu _ (by simp)
    obtain ⟨f1, f2⟩ := flat_rel (R := fun c d => ∃ m, m ≤ n ∧ pic get st m c = some d) m1 (fun j x y hx hy => pic_cells (m2 j x y hx hy))
    have full : ∀ (k : Nat) (d : SV), (flat xs')[k]? = some d → d.one = true ∧ ∃ u, w.cell? ⟨b, start + k, none⟩ = some u ∧ VR g' w d u := by
      intro k d hd
      have hlt : k < (flat xs).length := by rw [f1]; exact (List.getElem?_eq_some_iff.1 hd).1
      obtain ⟨m, hm, hpm⟩ := f2 k _ d (List.getElem?_eq_getElem hlt) hd
      obtain ⟨h1, u, hu1, hr⟩ := hc k _ (List.getElem?_eq_getElem hlt)
      refine ⟨pic_one hpm h1, u, hu1, IH m (by omega) _ d u hpm (fun hs => pv_flat (hpv' hs) d (List.mem_of_getElem? hd)) hr⟩
    refine ⟨hlen, fun k => (w.cell? ⟨b, start + k, none⟩).getD undef, fun k c hk => ?_, fun k c hk => ?_⟩
    · obtain ⟨h1, u, hu1, _⟩ := full k c hk
      exact ⟨h1, by simp [hu1]⟩
    · obtain ⟨_, u, hu1, hr⟩ := full k c hk
      show VR g' w c ((w.cell? ⟨b, start + k, none⟩).getD undef)
      rw [hu1]
      exact hr
  have list : ∀ (xs xs' : List SV) (vs : Array Value), xs.mapM (pic get st n) = some xs' → (st = true → pvs xs' = true) → xs.length = vs.size →
      (∀ (k : Nat) (x : SV) (v : Value), xs[k]? = some x → vs[k]? = some v → VR g w x v) → xs'.length = vs.size ∧ ∀ (k : Nat) (x : SV) (v : Value), xs'[k]? = some x → vs[k]? = some v → VR g' w x v := by
    intro xs xs' vs hm hpv' hl hr
    obtain ⟨m1, m2⟩ := mapM_some hm
    refine ⟨by rw [← m1, hl], fun k x v hx hv => ?_⟩
    have hlt : k < xs.length := by rw [m1]; exact (List.getElem?_eq_some_iff.1 hx).1
    exact IH n (by omega) xs[k] x v (m2 k _ x (by simp [hlt]) hx) (fun hs => pvs_get (hpv' hs) hx) (hr k _ v (by simp [hlt]) hv)
  simp only [pic, if_neg hp] at hpic
  split at hpic
  · rename_i id i o
    split at hpic
    case h_2 => cases hpic
    rename_i items hgi
    split at hpic
    case h_2 => cases hpic
    rename_i items' hm
    simp only [Option.some.injEq] at hpic
    subst hpic
    cases hv with
    | ptr _ _ _ b hown =>
    obtain ⟨b', c, e, ho, hb, _, hu, hheap, hcs⟩ := hM.blk id items (hget id items hgi)
    obtain rfl : b' = b := by rw [hown] at ho; simpa using ho.symm
    obtain ⟨k1, rv, k2, k3⟩ := block items items' b' 0 (g.esz id) hm (fun hs => by have := hpv hs; simp only [pv, Bool.and_eq_true] at this; exact this.2) hu (fun k c' hk => by
      obtain ⟨h1, u, hu1, hr⟩ := hcs k c' hk
      exact ⟨h1, u, by rw [Nat.zero_add, cell?_cells hheap]; exact hu1, hr⟩)
    have := VR.rptr (g := g') (w := w) items' i o st b' 0 (g.esz id) rv k1 (fun k c hk => ⟨(k2 k c hk).1, seesOf _ _ _ hb (k2 k c hk).2, (k2 k c hk).2⟩) k3
    simpa using this
  · rename_i id esz i len
    split at hpic
    case h_2 => cases hpic
    rename_i items hgi
    split at hpic
    case isFalse => cases hpic
    rename_i hle
    split at hpic
    case h_2 => cases hpic
    rename_i items' hm
    simp only [Option.some.injEq] at hpic
    subst hpic
    cases hv with
    | own _ _ _ _ b cap hown hesz hlc hsz =>
    obtain ⟨b', c, e, ho, hb, _, hu, hheap, hcs⟩ := hM.blk id items (hget id items hgi)
    obtain rfl : b' = b := by rw [hown] at ho; simpa using ho.symm
    have hun : ∀ x ∈ items, x.cells.length = esz := fun x hx => by rw [hu x hx, hesz]
    have hfl : flat ((items.drop i).take len) = ((flat items).drop (i * esz)).take (len * esz) := by
      rw [flat_take (n := esz) len (fun y hy => hun y (List.mem_of_mem_drop hy)), flat_drop (n := esz) i hun]
    have hst : (if st then Tl.ro else Tl.snap).st = st := by cases st <;> rfl
    obtain ⟨k1, rv, k2, k3⟩ := block ((items.drop i).take len) items' b' (i * esz) esz hm (fun hs => by
      have := hpv hs
      simp only [pv, Bool.and_eq_true] at this
      exact this.2) (fun x hx => hun x (List.mem_of_mem_drop (List.mem_of_mem_take hx))) (fun k c' hk => by
      rw [hfl, List.getElem?_take] at hk
      split at hk
      · rw [List.getElem?_drop] at hk
        obtain ⟨h1, u, hu1, hr⟩ := hcs _ c' hk
        exact ⟨h1, u, by rw [cell?_cells hheap]; exact hu1, hr⟩
      · cases hk)
    have hl : items'.length = len := by
      have := (mapM_some hm).1
      rw [← this]
      simp; omega
    have := VR.sl (g := g') (w := w) items' (if st then .ro else .snap) b' (i * esz) cap esz rv k1 (fun k c hk => ⟨(k2 k c hk).1, by rw [hst]; exact seesOf _ _ _ hb (k2 k c hk).2, (k2 k c hk).2⟩) k3 (by rw [hl]; exact hlc) (fun hf => by cases st <;> cases hf)
    rw [hl] at this
    exact this
  · rename_i items tl
    split at hpic
    case h_2 => cases hpic
    rename_i items' hm
    simp only [Option.some.injEq] at hpic
    subst hpic
    cases hv with
    | sle _ a cap hfull =>
      simp at hm
      subst hm
      exact .sle tl a cap hfull
    | sl _ _ b start cap esz rv0 hu hc hr hcap hfull =>
    obtain ⟨k1, rv, k2, k3⟩ := block items items' b start esz hm (fun hs => by
      have := hpv hs
      simp only [pv, Bool.and_eq_true] at this
      exact this.2) hu (fun k c hk => ⟨(hc k c hk).1, _, (hc k c hk).2.2, hr k c hk⟩)
    have hl := (mapM_some hm).1
    obtain ⟨f1, _⟩ := flat_rel (R := fun c d => ∃ m, m ≤ n ∧ pic get st m c = some d) hl (fun j x y hx hy => pic_cells ((mapM_some hm).2 j x y hx hy))
    have := VR.sl (g := g') (w := w) items' tl b start cap esz rv k1 (fun k c hk => ⟨(k2 k c hk).1, by
      have hlt : k < (flat items).length := by rw [f1]; exact (List.getElem?_eq_some_iff.1 hk).1
      have hsee := (hc k _ (List.getElem?_eq_getElem hlt)).2.1
      cases ht : tl.st with
      | true => rw [ht] at hsee; exact H1 _ _ _ hsee (k2 k c hk).2
      | false =>
        cases hs : st with
        | false => exact H2 hs _ _ _ (k2 k c hk).2
        | true =>
          have := hpv hs
          simp only [pv, Bool.and_eq_true, bne_iff_ne, ne_eq] at this
          exact absurd (by cases tl <;> simp_all [Tl.st]) this.1, (k2 k c hk).2⟩) k3 (by rw [← hl]; exact hcap) (fun hf => by rw [← hl]; exact hfull hf)
    rw [← hl] at this
    exact this
  · rename_i items i o sp
    split at hpic
    case h_2 => cases hpic
    rename_i items' hm
    simp only [Option.some.injEq] at hpic
    subst hpic
    cases hv with
    | rptr _ _ _ _ b start esz rv0 hu hc hr =>
    obtain ⟨k1, rv, k2, k3⟩ := block items items' b start esz hm (fun hs => by
      have := hpv hs
      simp only [pv, Bool.and_eq_true] at this
      exact this.2) hu (fun k c hk => ⟨(hc k c hk).1, _, (hc k c hk).2.2, hr k c hk⟩)
    have hl := (mapM_some hm).1
    obtain ⟨f1, _⟩ := flat_rel (R := fun c d => ∃ m, m ≤ n ∧ pic get st m c = some d) hl (fun j x y hx hy => pic_cells ((mapM_some hm).2 j x y hx hy))
    exact VR.rptr (g := g') (w := w) items' i o sp b start esz rv k1 (fun k c hk => ⟨(k2 k c hk).1, by
      have hlt : k < (flat items).length := by rw [f1]; exact (List.getElem?_eq_some_iff.1 hk).1
      have hsee := (hc k _ (List.getElem?_eq_getElem hlt)).2.1
      cases sp with
      | true => exact H1 _ _ _ hsee (k2 k c hk).2
      | false =>
        cases hs : st with
        | false => exact H2 hs _ _ _ (k2 k c hk).2
        | true =>
          have := hpv hs
          simp [pv] at this, (k2 k c hk).2⟩) k3
  · rename_i f a b
    split at hpic
    case h_2 => cases hpic
    rename_i a' b' ha hb
    simp only [Option.some.injEq] at hpic
    subst hpic
    cases hv with
    | fn _ _ _ av bv hal hbl har hbr =>
    have hpv' : st = true → pvs a' = true ∧ pvs b' = true := fun hs => by
      have := hpv hs
      simpa [pv] using this
    obtain ⟨p1, p2⟩ := list a a' av ha (fun hs => (hpv' hs).1) hal har
    obtain ⟨q1, q2⟩ := list b b' bv hb (fun hs => (hpv' hs).2) hbl hbr
    exact .fn f a' b' av bv p1 q1 p2 q2
  · rename_i t x
    split at hpic
    case h_2 => cases hpic
    rename_i x' hx
    simp only [Option.some.injEq] at hpic
    subst hpic
    cases hv with
    | iface _ _ v' hx' hv' =>
    exact .iface t x' v' (by rw [H0]; exact hx') (IH n (by omega) x x' v' hx (fun hs => by have := hpv hs; simpa [pv] using this) hv')
  · rename_i cs
    split at hpic
    case h_2 => cases hpic
    rename_i cs' hm
    simp only [Option.some.injEq] at hpic
    subst hpic
    cases hv with
    | agg _ vs hl ho hr =>
    obtain ⟨p1, p2⟩ := list cs cs' vs hm (fun hs => by have := hpv hs; simpa [pv] using this) hl hr
    refine .agg cs' vs p1 (fun c hc => ?_) p2
    obtain ⟨k, hk⟩ := List.mem_iff_getElem?.1 hc
    obtain ⟨m1, m2⟩ := mapM_some hm
    have hlt : k < cs.length := by rw [m1]; exact (List.getElem?_eq_some_iff.1 hk).1
    exact pic_one (m2 k cs[k] c (by simp [hlt]) hk) (ho _ (by simp))
  · rename_i vs
    split at hpic
    case h_2 => cases hpic
    rename_i vs' hm
    simp only [Option.some.injEq] at hpic
    subst hpic
    cases hv with
    | tup _ vv hl hr =>
    obtain ⟨p1, p2⟩ := list vs vs' vv hm (fun hs => by have := hpv hs; simpa [pv] using this) hl hr
    exact .tup vs' vv p1 p2
  · rename_i h1 h2 h3 h4 h5 h6 h7 h8
    simp only [Option.some.injEq] at hpic
    subst hpic
    exfalso
    apply hp
    cases s <;> first
      | rfl
      | exact (h1 _ _ _ rfl).elim
      | exact (h2 _ _ _ _ rfl).elim
      | exact (h3 _ _ rfl).elim
      | exact (h4 _ _ _ _ rfl).elim
      | exact (h5 _ _ _ rfl).elim
      | exact (h6 _ _ rfl).elim
      | exact (h7 _ rfl).elim
      | exact (h8 _ rfl).elim

end Go.Proofs.YtbdliphlolajaaaDoor.Sh
