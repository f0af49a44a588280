/-
  The shadow interpreter, text 9: pictures of memory. No condition.
-/
import Derived.Test.YtbdliphlolajaaaDoorShMa
import Derived.LoopN
set_option linter.unusedVariables false
set_option linter.unusedSimpArgs false
namespace Go.Proofs.YtbdliphlolajaaaDoor.Sh
variable {E : Env} {P : Program} {g g' : Gh} {w : World}

theorem pvs_iff : ∀ {l : List SV}, pvs l = true ↔ ∀ x ∈ l, pv x = true
  | [] => by simp [pvs]
  | x :: l => by simp [pvs, pvs_iff (l := l)]

theorem pv_cells {x : SV} (h : pv x = true) : ∀ c ∈ x.cells, pv c = true := by
  cases x with
  | agg cs => simpa [SV.cells] using pvs_iff.1 (by simpa [pv] using h)
  | _ => intro c hc; simp [SV.cells] at hc; subst hc; exact h

theorem pv_flat {l : List SV} (h : pvs l = true) : ∀ c ∈ flat l, pv c = true := by
  intro c hc
  obtain ⟨x, hx, hcx⟩ := List.mem_flatMap.1 hc
  exact pv_cells (pvs_iff.1 h x hx) c hcx

/-- A plain tree stands under other knowledge, too. -/
theorem VR.pv_rel (H0 : g'.sent = g.sent) (H1 : ∀ b o v, g.stab b o → w.cell? ⟨b, o, none⟩ = some v → g'.stab b o) {s : SV} {v : Value} (h : VR g w s v) : pv s = true → VR g' w s v := by
  induction h with
  | bool b => intro _; exact .bool b
  | int k n => intro _; exact .int k n
  | str s => intro _; exact .str s
  | nilp => intro _; exact .nilp
  | ptr id i o b h => intro hp; simp [pv] at hp
  | rptr items i o st b start esz rv hu hc hr ih =>
    intro hp
    simp only [pv, Bool.and_eq_true] at hp
    obtain ⟨rfl, hp⟩ := hp
    exact .rptr items i o true b start esz rv hu (fun k c hk => ⟨(hc k c hk).1, H1 _ _ _ (hc k c hk).2.1 (hc k c hk).2.2, (hc k c hk).2.2⟩) (fun k c hk => ih k c hk (pv_flat hp c (List.mem_of_getElem? hk)))
  | nilsl => intro _; exact .nilsl
  | sl items tl b start cap esz rv hu hc hr hcap hfull ih =>
    intro hp
    simp only [pv, Bool.and_eq_true, bne_iff_ne, ne_eq] at hp
    obtain ⟨ht, hp⟩ := hp
    have hst : tl.st = true := by cases tl <;> simp_all [Tl.st]
    refine .sl items tl b start cap esz rv hu (fun k c hk => ?_) (fun k c hk => ih k c hk (pv_flat hp c (List.mem_of_getElem? hk))) hcap hfull
    obtain ⟨h1, h2, h3⟩ := hc k c hk
    refine ⟨h1, ?_, h3⟩
    rw [hst] at h2 ⊢
    exact H1 _ _ _ h2 h3
  | sle tl a cap hfull => intro _; exact .sle tl a cap hfull
  | own id esz i len b cap h he hl hs => intro hp; simp [pv] at hp
  | fn f a c a' c' ha hc hra hrc iha ihc =>
    intro hp
    simp only [pv, Bool.and_eq_true] at hp
    exact .fn f a c a' c' ha hc (fun k x v h1 h2 => iha k x v h1 h2 (pvs_iff.1 hp.1 x (List.mem_of_getElem? h1))) (fun k x v h1 h2 => ihc k x v h1 h2 (pvs_iff.1 hp.2 x (List.mem_of_getElem? h1)))
  | nilf => intro _; exact .nilf
  | iface t s v hx h ih => intro hp; exact .iface t s v (by rw [H0]; exact hx) (ih (by simpa [pv] using hp))
  | nili => intro _; exact .nili
  | agg cs vs hl ho hr ih => intro hp; simp only [pv] at hp; exact .agg cs vs hl ho (fun k x v h1 h2 => ih k x v h1 h2 (pvs_iff.1 hp x (List.mem_of_getElem? h1)))
  | tup cs vs hl hr ih => intro hp; simp only [pv] at hp; exact .tup cs vs hl (fun k x v h1 h2 => ih k x v h1 h2 (pvs_iff.1 hp x (List.mem_of_getElem? h1)))
  | bad v => intro _; exact .bad v

theorem mapM_some {α β : Type} {f : α → Option β} : ∀ {l : List α} {l' : List β}, l.mapM f = some l' → l.length = l'.length ∧ ∀ (k : Nat) (x : α) (y : β), l[k]? = some x → l'[k]? = some y → f x = some y
  | [], l', h => by
    simp at h
    subst h
    exact ⟨rfl, fun k x y hx => by simp at hx⟩
  | a :: l, l', h => by
    simp only [List.mapM_cons, Option.bind_eq_bind, Option.bind_eq_some_iff, Option.pure_def, Option.some.injEq] at h
    obtain ⟨b, hb, m, hm, rfl⟩ := h
    obtain ⟨h1, h2⟩ := mapM_some hm
    refine ⟨by simp [h1], fun k x y hx hy => ?_⟩
    cases k with
    | zero => simp at hx hy; subst hx hy; exact hb
    | succ k => exact h2 k x y (by simpa using hx) (by simpa using hy)

theorem flat_rel {R : SV → SV → Prop} : ∀ {xs ys : List SV}, xs.length = ys.length →
    (∀ (j : Nat) (x y : SV), xs[j]? = some x → ys[j]? = some y → x.cells.length = y.cells.length ∧ ∀ (k : Nat) (c d : SV), x.cells[k]? = some c → y.cells[k]? = some d → R c d) →
    (flat xs).length = (flat ys).length ∧ ∀ (k : Nat) (c d : SV), (flat xs)[k]? = some c → (flat ys)[k]? = some d → R c d
  | [], [], _, _ => ⟨rfl, fun k c d hc => by simp [flat] at hc⟩
  | x :: xs, y :: ys, hl, h => by
    obtain ⟨h1, h2⟩ := h 0 x y rfl rfl
    obtain ⟨h3, h4⟩ := flat_rel (R := R) (xs := xs) (ys := ys) (by simpa using hl) (fun j a b ha hb => h (j + 1) a b (by simpa using ha) (by simpa using hb))
    refine ⟨by rw [flat_cons, flat_cons, List.length_append, List.length_append, h1, h3], fun k c d hc hd => ?_⟩
    rw [flat_cons] at hc hd
    by_cases hk : k < x.cells.length
    · rw [List.getElem?_append_left hk] at hc
      rw [List.getElem?_append_left (by rw [← h1]; exact hk)] at hd
      exact h2 k c d hc hd
    · rw [List.getElem?_append_right (by omega)] at hc
      rw [List.getElem?_append_right (by rw [← h1]; omega), ← h1] at hd
      exact h4 _ c d hc hd

theorem pic_pv {get : Nat → Option (List SV)} {st : Bool} {n : Nat} {s : SV} (h : pv s = true) : pic get st n s = some s := by
  cases n <;> simp [pic, h]

theorem pic_cells {get : Nat → Option (List SV)} {st : Bool} {n : Nat} {x x' : SV} (h : pic get st n x = some x') :
    x.cells.length = x'.cells.length ∧ ∀ (k : Nat) (c d : SV), x.cells[k]? = some c → x'.cells[k]? = some d → ∃ m, m ≤ n ∧ pic get st m c = some d := by
  by_cases hp : pv x = true
  · rw [pic_pv hp] at h
    simp only [Option.some.injEq] at h
    subst h
    refine ⟨rfl, fun k c d hc hd => ⟨n, Nat.le_refl _, ?_⟩⟩
    rw [hc] at hd
    simp only [Option.some.injEq] at hd
    subst hd
    exact pic_pv (pv_cells hp c (List.mem_of_getElem? hc))
  · cases n with
    | zero => simp [pic, hp] at h
    | succ n =>
      have whole : ∀ (q q' : SV), q = x → q' = x' → q.cells = [q] → q'.cells = [q'] → x.cells.length = x'.cells.length ∧ ∀ (k : Nat) (c d : SV), x.cells[k]? = some c → x'.cells[k]? = some d → ∃ m, m ≤ n + 1 ∧ pic get st m c = some d := by
        rintro q q' rfl rfl hq hq'
        rw [hq, hq']
        refine ⟨rfl, fun k c d hc hd => ⟨n + 1, Nat.le_refl _, ?_⟩⟩
        cases k with
        | zero => simp at hc hd; subst hc hd; exact h
        | succ k => simp at hc
      have h0 := h
      simp only [pic, if_neg hp] at h
      split at h
      case h_7 cs =>
        split at h
        case h_2 => cases h
        rename_i cs' hcs
        simp only [Option.some.injEq] at h
        subst h
        obtain ⟨a1, a2⟩ := mapM_some hcs
        exact ⟨a1, fun k c d hc hd => ⟨n, Nat.le_succ n, a2 k c d hc hd⟩⟩
      all_goals ((try (repeat' split at h)) <;>
        first
          | (cases h; done)
          | (simp only [Option.some.injEq] at h
             exact whole _ _ rfl h rfl rfl)
          | (simp only [Option.some.injEq] at h
             subst h
             rename_i hx1 hx2 hx3 hx4 hx5 hx6 hx7 hx8
             refine whole _ _ rfl rfl ?_ ?_ <;> (cases x <;> simp_all [SV.cells])))

theorem pic_one {get : Nat → Option (List SV)} {st : Bool} {n : Nat} {c d : SV} (h : pic get st n c = some d) (hc : c.one = true) : d.one = true := by
  by_cases hp : pv c = true
  · rw [pic_pv hp] at h
    simp only [Option.some.injEq] at h
    subst h
    exact hc
  · cases n with
    | zero => simp [pic, hp] at h
    | succ n =>
      simp only [pic, if_neg hp] at h
      split at h
      all_goals ((try (repeat' split at h)) <;>
        first
          | (cases h; done)
          | (simp [SV.one] at hc; done)
          | (simp only [Option.some.injEq] at h; subst h; first | rfl | exact hc))


theorem pvs_get {l : List SV} (h : pvs l = true) {k : Nat} {x : SV} (hx : l[k]? = some x) : pv x = true := pvs_iff.1 h x (List.mem_of_getElem? hx)

/-- A picture of a value stands to the model's value as the value did, under other knowledge. -/
theorem pic_rel {M : Mem} {fr : Nat → Prop} (hM : MR E g w M fr) {get : Nat → Option (List SV)} (hget : ∀ id items, get id = some items → M.blk id = some items) {st : Bool} (H0 : g'.sent = g.sent)
    (H1 : ∀ b o v, g.stab b o → w.cell? ⟨b, o, none⟩ = some v → g'.stab b o)
    (H2 : st = false → ∀ b o v, w.cell? ⟨b, o, none⟩ = some v → g'.now b o)
    (H3 : st = true → ∀ b o v, g.base ≤ b → w.cell? ⟨b, o, none⟩ = some v → g'.stab b o) :
    ∀ (n : Nat) (s s' : SV) (v : Value), pic get st n s = some s' → (st = true → pv s' = true) → VR g w s v → VR g' w s' v := by
  intro n
  induction n using Nat.strongRecOn with
  | _ n IH =>
  intro s s' v hpic hpv hv
  by_cases hp : pv s = true
  · rw [pic_pv hp] at hpic
    simp only [Option.some.injEq] at hpic
    subst hpic
    exact hv.pv_rel H0 H1 hp
  cases n with
  | zero => simp [pic, hp] at hpic
  | succ n =>
  have seesOf : ∀ (b o : Nat) (v : Value), g.base ≤ b → w.cell? ⟨b, o, none⟩ = some v → g'.sees st b o := by
    intro b o v hb hc
    cases hst : st with
    | true => exact H3 hst b o v hb hc
    | false => exact H2 hst b o v hc
  -- a block of the shadow's memory, as a picture
  have block : ∀ (xs xs' : List SV) (b start esz : Nat), xs.mapM (pic get st n) = some xs' → (st = true → pvs xs' = true) → (∀ x ∈ xs, x.cells.length = esz) →
      (∀ (k : Nat) (c : SV), (flat xs)[k]? = some c → c.one = true ∧ ∃ v, w.cell? ⟨b, start + k, none⟩ = some v ∧ VR g w c v) →
      (∀ x ∈ xs', x.cells.length = esz) ∧ ∃ rv : Nat → Value, (∀ (k : Nat) (c : SV), (flat xs')[k]? = some c → c.one = true ∧ w.cell? ⟨b, start + k, none⟩ = some (rv k)) ∧
        ∀ (k : Nat) (c : SV), (flat xs')[k]? = some c → VR g' w c (rv k) := by
    intro xs xs' b start esz hm hpv' hu hc
    obtain ⟨m1, m2⟩ := mapM_some hm
    have hlen : ∀ x ∈ xs', x.cells.length = esz := by
      intro x' hx'
      obtain ⟨k, hk⟩ := List.mem_iff_getElem?.1 hx'
      have hlt : k < xs.length := by rw [m1]; exact (List.getElem?_eq_some_iff.1 hk).1
      have := (pic_cells (m2 k xs[k] x' (by simp [hlt]) hk)).1
      rw [← this]
      exact hu _ (by simp)
    obtain ⟨f1, f2⟩ := flat_rel (R := fun c d => ∃ m, m ≤ n ∧ pic get st m c = some d) m1 (fun j x y hx hy => pic_cells (m2 j x y hx hy))
    have full : ∀ (k : Nat) (d : SV), (flat xs')[k]? = some d → d.one = true ∧ ∃ u, w.cell? ⟨b, start + k, none⟩ = some u ∧ VR g' w d u := by
      intro k d hd
      have hlt : k < (flat xs).length := by rw [f1]; exact (List.getElem?_eq_some_iff.1 hd).1
      obtain ⟨m, hm, hpm⟩ := f2 k _ d (List.getElem?_eq_getElem hlt) hd
      obtain ⟨h1, u, hu1, hr⟩ := hc k _ (List.getElem?_eq_getElem hlt)
      refine ⟨pic_one hpm h1, u, hu1, IH m (by omega) _ d u hpm (fun hs => pv_flat (hpv' hs) d (List.mem_of_getElem? hd)) hr⟩
    refine ⟨hlen, fun k => (w.cell? ⟨b, start + k, none⟩).getD undef, fun k c hk => ?_, fun k c hk => ?_⟩
    · obtain ⟨h1, u, hu1, _⟩ := full k c hk
      exact ⟨h1, by simp [hu1]⟩
    · obtain ⟨_, u, hu1, hr⟩ := full k c hk
      show VR g' w c ((w.cell? ⟨b, start + k, none⟩).getD undef)
      rw [hu1]
      exact hr
  have list : ∀ (xs xs' : List SV) (vs : Array Value), xs.mapM (pic get st n) = some xs' → (st = true → pvs xs' = true) → xs.length = vs.size →
      (∀ (k : Nat) (x : SV) (v : Value), xs[k]? = some x → vs[k]? = some v → VR g w x v) → xs'.length = vs.size ∧ ∀ (k : Nat) (x : SV) (v : Value), xs'[k]? = some x → vs[k]? = some v → VR g' w x v := by
    intro xs xs' vs hm hpv' hl hr
    obtain ⟨m1, m2⟩ := mapM_some hm
    refine ⟨by rw [← m1, hl], fun k x v hx hv => ?_⟩
    have hlt : k < xs.length := by rw [m1]; exact (List.getElem?_eq_some_iff.1 hx).1
    exact IH n (by omega) xs[k] x v (m2 k _ x (by simp [hlt]) hx) (fun hs => pvs_get (hpv' hs) hx) (hr k _ v (by simp [hlt]) hv)
  simp only [pic, if_neg hp] at hpic
  split at hpic
  · rename_i id i o
    split at hpic
    case h_2 => cases hpic
    rename_i items hgi
    split at hpic
    case h_2 => cases hpic
    rename_i items' hm
    simp only [Option.some.injEq] at hpic
    subst hpic
    cases hv with
    | ptr _ _ _ b hown =>
    obtain ⟨b', c, e, ho, hb, _, hu, hheap, hcs⟩ := hM.blk id items (hget id items hgi)
    obtain rfl : b' = b := by rw [hown] at ho; simpa using ho.symm
    obtain ⟨k1, rv, k2, k3⟩ := block items items' b' 0 (g.esz id) hm (fun hs => by have := hpv hs; simp only [pv, Bool.and_eq_true] at this; exact this.2) hu (fun k c' hk => by
      obtain ⟨h1, u, hu1, hr⟩ := hcs k c' hk
      exact ⟨h1, u, by rw [Nat.zero_add, cell?_cells hheap]; exact hu1, hr⟩)
    have := VR.rptr (g := g') (w := w) items' i o st b' 0 (g.esz id) rv k1 (fun k c hk => ⟨(k2 k c hk).1, seesOf _ _ _ hb (k2 k c hk).2, (k2 k c hk).2⟩) k3
    simpa using this
  · rename_i id esz i len
    split at hpic
    case h_2 => cases hpic
    rename_i items hgi
    split at hpic
    case isFalse => cases hpic
    rename_i hle
    split at hpic
    case h_2 => cases hpic
    rename_i items' hm
    simp only [Option.some.injEq] at hpic
    subst hpic
    cases hv with
    | own _ _ _ _ b cap hown hesz hlc hsz =>
    obtain ⟨b', c, e, ho, hb, _, hu, hheap, hcs⟩ := hM.blk id items (hget id items hgi)
    obtain rfl : b' = b := by rw [hown] at ho; simpa using ho.symm
    have hun : ∀ x ∈ items, x.cells.length = esz := fun x hx => by rw [hu x hx, hesz]
    have hfl : flat ((items.drop i).take len) = ((flat items).drop (i * esz)).take (len * esz) := by
      rw [flat_take (n := esz) len (fun y hy => hun y (List.mem_of_mem_drop hy)), flat_drop (n := esz) i hun]
    have hst : (if st then Tl.ro else Tl.snap).st = st := by cases st <;> rfl
    obtain ⟨k1, rv, k2, k3⟩ := block ((items.drop i).take len) items' b' (i * esz) esz hm (fun hs => by
      have := hpv hs
      simp only [pv, Bool.and_eq_true] at this
      exact this.2) (fun x hx => hun x (List.mem_of_mem_drop (List.mem_of_mem_take hx))) (fun k c' hk => by
      rw [hfl, List.getElem?_take] at hk
      split at hk
      · rw [List.getElem?_drop] at hk
        obtain ⟨h1, u, hu1, hr⟩ := hcs _ c' hk
        exact ⟨h1, u, by rw [cell?_cells hheap]; exact hu1, hr⟩
      · cases hk)
    have hl : items'.length = len := by
      have := (mapM_some hm).1
      rw [← this]
      simp; omega
    have := VR.sl (g := g') (w := w) items' (if st then .ro else .snap) b' (i * esz) cap esz rv k1 (fun k c hk => ⟨(k2 k c hk).1, by rw [hst]; exact seesOf _ _ _ hb (k2 k c hk).2, (k2 k c hk).2⟩) k3 (by rw [hl]; exact hlc) (fun hf => by cases st <;> cases hf)
    rw [hl] at this
    exact this
  · rename_i items tl
    split at hpic
    case h_2 => cases hpic
    rename_i items' hm
    simp only [Option.some.injEq] at hpic
    subst hpic
    cases hv with
    | sle _ a cap hfull =>
      simp at hm
      subst hm
      exact .sle tl a cap hfull
    | sl _ _ b start cap esz rv0 hu hc hr hcap hfull =>
    obtain ⟨k1, rv, k2, k3⟩ := block items items' b start esz hm (fun hs => by
      have := hpv hs
      simp only [pv, Bool.and_eq_true] at this
      exact this.2) hu (fun k c hk => ⟨(hc k c hk).1, _, (hc k c hk).2.2, hr k c hk⟩)
    have hl := (mapM_some hm).1
    obtain ⟨f1, _⟩ := flat_rel (R := fun c d => ∃ m, m ≤ n ∧ pic get st m c = some d) hl (fun j x y hx hy => pic_cells ((mapM_some hm).2 j x y hx hy))
    have := VR.sl (g := g') (w := w) items' tl b start cap esz rv k1 (fun k c hk => ⟨(k2 k c hk).1, by
      have hlt : k < (flat items).length := by rw [f1]; exact (List.getElem?_eq_some_iff.1 hk).1
      have hsee := (hc k _ (List.getElem?_eq_getElem hlt)).2.1
      cases ht : tl.st with
      | true => rw [ht] at hsee; exact H1 _ _ _ hsee (k2 k c hk).2
      | false =>
        cases hs : st with
        | false => exact H2 hs _ _ _ (k2 k c hk).2
        | true =>
          have := hpv hs
          simp only [pv, Bool.and_eq_true, bne_iff_ne, ne_eq] at this
          exact absurd (by cases tl <;> simp_all [Tl.st]) this.1, (k2 k c hk).2⟩) k3 (by rw [← hl]; exact hcap) (fun hf => by rw [← hl]; exact hfull hf)
    rw [← hl] at this
    exact this
  · rename_i items i o sp
    split at hpic
    case h_2 => cases hpic
    rename_i items' hm
    simp only [Option.some.injEq] at hpic
    subst hpic
    cases hv with
    | rptr _ _ _ _ b start esz rv0 hu hc hr =>
    obtain ⟨k1, rv, k2, k3⟩ := block items items' b start esz hm (fun hs => by
      have := hpv hs
      simp only [pv, Bool.and_eq_true] at this
      exact this.2) hu (fun k c hk => ⟨(hc k c hk).1, _, (hc k c hk).2.2, hr k c hk⟩)
    have hl := (mapM_some hm).1
    obtain ⟨f1, _⟩ := flat_rel (R := fun c d => ∃ m, m ≤ n ∧ pic get st m c = some d) hl (fun j x y hx hy => pic_cells ((mapM_some hm).2 j x y hx hy))
    exact VR.rptr (g := g') (w := w) items' i o sp b start esz rv k1 (fun k c hk => ⟨(k2 k c hk).1, by
      have hlt : k < (flat items).length := by rw [f1]; exact (List.getElem?_eq_some_iff.1 hk).1
      have hsee := (hc k _ (List.getElem?_eq_getElem hlt)).2.1
      cases sp with
      | true => exact H1 _ _ _ hsee (k2 k c hk).2
      | false =>
        cases hs : st with
        | false => exact H2 hs _ _ _ (k2 k c hk).2
        | true =>
          have := hpv hs
          simp [pv] at this, (k2 k c hk).2⟩) k3
  · rename_i f a b
    split at hpic
    case h_2 => cases hpic
    rename_i a' b' ha hb
    simp only [Option.some.injEq] at hpic
    subst hpic
    cases hv with
    | fn _ _ _ av bv hal hbl har hbr =>
    have hpv' : st = true → pvs a' = true ∧ pvs b' = true := fun hs => by
      have := hpv hs
      simpa [pv] using this
    obtain ⟨p1, p2⟩ := list a a' av ha (fun hs => (hpv' hs).1) hal har
    obtain ⟨q1, q2⟩ := list b b' bv hb (fun hs => (hpv' hs).2) hbl hbr
    exact .fn f a' b' av bv p1 q1 p2 q2
  · rename_i t x
    split at hpic
    case h_2 => cases hpic
    rename_i x' hx
    simp only [Option.some.injEq] at hpic
    subst hpic
    cases hv with
    | iface _ _ v' hx' hv' =>
    exact .iface t x' v' (by rw [H0]; exact hx') (IH n (by omega) x x' v' hx (fun hs => by have := hpv hs; simpa [pv] using this) hv')
  · rename_i cs
    split at hpic
    case h_2 => cases hpic
    rename_i cs' hm
    simp only [Option.some.injEq] at hpic
    subst hpic
    cases hv with
    | agg _ vs hl ho hr =>
    obtain ⟨p1, p2⟩ := list cs cs' vs hm (fun hs => by have := hpv hs; simpa [pv] using this) hl hr
    refine .agg cs' vs p1 (fun c hc => ?_) p2
    obtain ⟨k, hk⟩ := List.mem_iff_getElem?.1 hc
    obtain ⟨m1, m2⟩ := mapM_some hm
    have hlt : k < cs.length := by rw [m1]; exact (List.getElem?_eq_some_iff.1 hk).1
    exact pic_one (m2 k cs[k] c (by simp [hlt]) hk) (ho _ (by simp))
  · rename_i vs
    split at hpic
    case h_2 => cases hpic
    rename_i vs' hm
    simp only [Option.some.injEq] at hpic
    subst hpic
    cases hv with
    | tup _ vv hl hr =>
    obtain ⟨p1, p2⟩ := list vs vs' vv hm (fun hs => by have := hpv hs; simpa [pv] using this) hl hr
    exact .tup vs' vv p1 p2
  · rename_i h1 h2 h3 h4 h5 h6 h7 h8
    simp only [Option.some.injEq] at hpic
    subst hpic
    exfalso
    apply hp
    cases s <;> first
      | rfl
      | exact (h1 _ _ _ rfl).elim
      | exact (h2 _ _ _ _ rfl).elim
      | exact (h3 _ _ rfl).elim
      | exact (h4 _ _ _ _ rfl).elim
      | exact (h5 _ _ _ rfl).elim
      | exact (h6 _ _ rfl).elim
      | exact (h7 _ rfl).elim
      | exact (h8 _ rfl).elim

end Go.Proofs.YtbdliphlolajaaaDoor.Sh

/-
  The shadow interpreter, text 10: one operation. No condition.
-/
set_option linter.unusedVariables false
set_option linter.unusedSimpArgs false
namespace Go.Proofs.YtbdliphlolajaaaDoor.Sh
variable {E : Env} {P : Program} {g g' : Gh} {w : World}

def newOp : Op → Bool
  | .alloc _ | .box .. | .buildSlice .. | .makeSlice .. => true
  | .call { callee := .builtin .append, .. } => true
  | _ => false

def isCall : Op → Bool
  | .call { callee := .value _, .. } => true
  | _ => false

/-- What an operation that is no call does. -/
structure Does (E : Env) (g : Gh) (w : World) (M : Mem) (fr : Nat → Prop) (aid : Nat) (nw : Bool) (R : Result Next) (v : SV) (u : List (Nat × Option (List SV))) : Prop where
  ex : ∃ (w' : World) (g' : Gh) (v' : Value), (R = .ok (.value v') w' ∨ (R = .ok .skip w' ∧ v' = undef)) ∧ Evo g w g' w' ∧ MR E g' w' (M.sets u) (fun j => fr j ∧ (nw = true → j ≠ aid)) ∧ VR g' w' v v' ∧
    ∀ j, j ≠ aid → g'.own j = g.own j

theorem Does.same {M : Mem} {fr : Nat → Prop} (hM : MR E g w M fr) (aid : Nat) (nw : Bool) {R : Result Next} {v : SV} {v' : Value} (hR : R = .ok (.value v') w) (hv : VR g w v v') : Does E g w M fr aid nw R v [] :=
  ⟨w, g, v', .inl hR, .refl g w, hM.weaken fun _ h => h.1, hv, fun _ _ => rfl⟩

theorem Does.made {M : Mem} {fr : Nat → Prop} {aid : Nat} {R : Result Next} {v : SV} {u : List (Nat × Option (List SV))} {w' : World} {g' : Gh} {v' : Value} (hR : R = .ok (.value v') w') (hd : Done E g w g' w' (M.sets u) fr aid) (hv : VR g' w' v v') :
    Does E g w M fr aid true R v u :=
  ⟨w', g', v', .inl hR, hd.evo, hd.mr.weaken fun _ h => ⟨h.1, h.2 rfl⟩, hv, hd.keep⟩

theorem Does.weaken {M : Mem} {fr : Nat → Prop} {aid : Nat} {R : Result Next} {v : SV} {u : List (Nat × Option (List SV))} (h : Does E g w M fr aid true R v u) (nw : Bool) (hn : nw = true) : Does E g w M fr aid nw R v u := by
  subst hn; exact h

theorem some_pair {x : Option SV} {v : SV} {u : List (Nat × Option (List SV))} (h : (match x with | some y => some (y, ([] : List (Nat × Option (List SV)))) | none => none) = some (v, u)) : x = some v ∧ u = [] := by
  cases x with
  | none => cases h
  | some y => simp at h; exact ⟨by rw [h.1], h.2⟩

theorem act_sim {M : Mem} {fr : Nat → Prop} (hM : MR E g w M fr) {pc : PC} {aid : Nat} {ρ : Operand → SV} {ρ' : Operand → Value} (hρ : ∀ x, VR g w (ρ x) (ρ' x)) {get : Nat → Option (List SV)} (hget : ∀ id items, get id = some items → M.blk id = some items)
    {o : Oper} (hnc : isCall o.op = false) (hfr : newOp o.op = true → fr aid) {v : SV} {u : List (Nat × Option (List SV))} (h : act E pc aid ρ get o = some (v, u)) :
    Does E g w M fr aid (newOp o.op) ((execOp ρ' o).run E.P w) v u := by
  obtain ⟨dst, op, type, pos, after, guard⟩ := o
  cases op <;> simp only [act] at h <;> (try (cases h; done))
  case move x =>
    simp only [Option.some.injEq, Prod.mk.injEq] at h
    obtain ⟨rfl, rfl⟩ := h
    exact .same hM aid _ rfl (hρ x)
  case assign x =>
    simp only [Option.some.injEq, Prod.mk.injEq] at h
    obtain ⟨rfl, rfl⟩ := h
    exact .same hM aid _ rfl (hρ x)
  case pick c p q =>
    have hc := hρ c
    split at h
    · rename_i b hb
      rw [hb] at hc
      simp only [Option.some.injEq, Prod.mk.injEq] at h
      obtain ⟨rfl, rfl⟩ := h
      refine .same hM aid _ (v' := if b then ρ' p else ρ' q) ?_ ?_
      · simp [execOp, hc.bool_inv, asBool]
      · cases b
        · exact hρ q
        · exact hρ p
    · cases h
  case alloc t =>
    split at h
    case h_2 => cases h
    rename_i ti hti
    split at h
    case h_2 => cases h
    rename_i z hz
    split at h
    case isFalse => cases h
    rename_i hs
    simp only [Option.some.injEq, Prod.mk.injEq] at h
    obtain ⟨rfl, rfl⟩ := h
    obtain ⟨w', g', v', h1, h2, h3⟩ := alloc_sim hM (hfr rfl) hti hz hs
    exact .made (by simp [execOp, h1]) (by simpa [Mem.sets] using h2) h3
  case box t x =>
    split at h
    case isFalse => cases h
    rename_i hs
    simp only [Option.some.injEq, Prod.mk.injEq] at h
    obtain ⟨rfl, rfl⟩ := h
    obtain ⟨w', g', v', h1, h2, h3⟩ := box_sim (P := E.P) hM (hfr rfl) (t := t) (hρ x) hs
    exact .made (by simp [execOp, h1]) (by simpa [Mem.sets] using h2) h3
  case build t parts =>
    split at h
    case h_2 => cases h
    rename_i ti hti
    split at h
    case h_2 => cases h
    rename_i zs pl hz hpl
    obtain ⟨hx, rfl⟩ := some_pair h
    split at hx
    case h_2 => cases hx
    rename_i cs hcs
    simp only [Option.some.injEq] at hx
    subst hx
    obtain ⟨d, i, hd, hi, rfl⟩ := tiOf_some hti
    simp only [Option.map_eq_some_iff] at hz
    obtain ⟨zv, hzv, hze⟩ := hz
    have hzr := VR.ofVal g w zv
    rw [hze] at hzr
    cases hzr with
    | agg _ za zl zo zr =>
    have hparts : ∀ (j : Nat) (x : Nat × SV) (y : Nat × Value), (parts.toList.map fun p => (p.1, ρ p.2))[j]? = some x → (parts.toList.map fun p => (p.1, ρ' p.2))[j]? = some y → x.1 = y.1 ∧ VR g w x.2 y.2 := by
      intro j x y hx hy
      simp only [List.getElem?_map, Option.map_eq_some_iff] at hx hy
      obtain ⟨p, hp, rfl⟩ := hx
      obtain ⟨q, hq, rfl⟩ := hy
      rw [hp] at hq
      cases hq
      exact ⟨rfl, hρ _⟩
    obtain ⟨r', hf, hvr⟩ := buildS_sim _ (parts.toList.map fun p => (p.1, ρ' p.2)) zs za cs (.agg zs za zl zo zr) (by simp) hparts hcs
    have hpt : (parts.map fun (i, x) => (i, ρ' x)).toList = parts.toList.map fun p => (p.1, ρ' p.2) := by simp
    refine .same hM aid _ (v' := .agg r') ?_ hvr
    cases d <;> (try (simp [tkOf, placesOf] at hpl; done))
    case array n e =>
      simp only [tkOf, placesOf] at hpl
      split at hpl
      case h_2 => cases hpl
      rename_i te hte
      obtain ⟨d2, i2, hd2, hi2, rfl⟩ := tiOf_some hte
      simp only [Option.some.injEq] at hpl
      subst hpl
      simp [execOp, Instr.build, zeroValue, run_typeInfo hi, hzv, run_underlying hd, run_sizeOf' hi2, Value.cells, hpt, hf]
    case struct fa =>
      obtain ⟨ps, hps, hpe⟩ := placesOf_struct (w := w) hpl
      have hfill : Instr.fill (ps[·]?) za (parts.toList.map fun p => (p.1, ρ' p.2)) = some r' := by
        have : pl = (ps[·]?) := funext hpe
        rw [← this]
        exact hf
      simp only [execOp, Instr.build, Sem.run_bind, zeroValue, run_typeInfo hi, hzv, Result.andThen_ok, Sem.run_pure, run_underlying hd, Value.cells, hpt, hps, hfill]
  case buildSlice t len parts =>
    split at h
    case h_2 => cases h
    rename_i e x1 x2 x3 ht
    split at h
    case h_2 => cases h
    rename_i te hte
    split at h
    case h_2 => cases h
    rename_i z hz
    split at h
    case isFalse => cases h
    rename_i hc
    split at h
    case h_2 => cases h
    rename_i xs hxs
    simp only [Option.some.injEq, Prod.mk.injEq] at h
    obtain ⟨rfl, rfl⟩ := h
    obtain ⟨w', g', v', h1, h2, h3⟩ := buildSlice_sim hM (hfr rfl) ht hte hz hc (qs := parts.map fun (i, x) => (i, ρ' x)) (by simp) (fun j x y hx hy => by
      simp only [List.getElem?_map, Array.getElem?_toList, Array.getElem?_map, Option.map_eq_some_iff] at hx hy
      obtain ⟨p, hp, rfl⟩ := hx
      obtain ⟨q, hq, rfl⟩ := hy
      rw [hp] at hq
      cases hq
      exact ⟨rfl, hρ _⟩) hxs
    exact .made (by simp only [execOp, Sem.run_bind, h1, Result.andThen_ok]; rfl) (by simpa [Mem.sets] using h2) h3
  case load t x =>
    obtain ⟨hx, rfl⟩ := some_pair h
    obtain ⟨r', h1, h2⟩ := loadS_sim hM hget (hρ x) hx
    exact .same hM aid _ (by simp [execOp, h1]) h2
  case store t x y =>
    split at h
    case h_2 => cases h
    rename_i u' hu
    simp only [Option.some.injEq, Prod.mk.injEq] at h
    obtain ⟨rfl, rfl⟩ := h
    obtain ⟨w', h1, h2, h3⟩ := store_sim hM hget aid (hρ x) (hρ y) hu
    exact ⟨w', g, undef, .inr ⟨by simp [execOp, h1], rfl⟩, h2, h3.weaken fun _ h => h.1, .tup [] #[] rfl (fun k x v hx _ => by simp at hx), fun _ _ => rfl⟩
  case nilCheck x =>
    have hx := hρ x
    split at h
    all_goals first | (cases h; done) | skip
    all_goals
      rename_i hq
      rw [hq] at hx
      simp only [Option.some.injEq, Prod.mk.injEq] at h
      obtain ⟨rfl, rfl⟩ := h
      refine .same hM aid _ (v' := ρ' x) ?_ hx
      generalize hy : ρ' x = y at hx
      cases hx
      simp [execOp, hy]
  case binOp op t x y yt =>
    obtain ⟨hx, rfl⟩ := some_pair h
    obtain ⟨r', h1, h2, h3⟩ := binS_sim (xo := x) (yo := y) (hρ x) (hρ y) rfl hx
    exact .same hM aid _ (by simp [execOp, h1, h2]) h3
  case unOp op t x =>
    obtain ⟨hx, rfl⟩ := some_pair h
    obtain ⟨r', h1, h2⟩ := unS_sim (P := E.P) (hρ x) hx
    exact .same hM aid _ (by simp [execOp, h1]) h2
  case convert s d x =>
    obtain ⟨hx, rfl⟩ := some_pair h
    obtain ⟨r', h1, h2⟩ := convS_sim hM hget (hρ x) hx
    exact .same hM aid _ (by simp [execOp, h1]) h2
  case makeInterface t x =>
    split at h
    · cases h
    rename_i hsn
    split at h
    · cases h
    · rename_i ti hni hti
      simp only [Option.some.injEq, Prod.mk.injEq] at h
      obtain ⟨rfl, rfl⟩ := h
      obtain ⟨d, i, hd, hi, rfl⟩ := tiOf_some hti
      refine .same hM aid _ (v' := .iface t (ρ' x)) ?_ (.iface t _ _ (fun u hu => by rw [(hM.sent t).1 (by simpa using hsn)] at hu; cases hu) (hρ x))
      cases d <;> first | (simp [execOp, Instr.makeInterface, run_underlying hd]; done) | skip
      exact (hni _ _ _ rfl).elim
    · cases h
  case makeFunc fn first caps =>
    cases fn <;> simp only at h <;> (try (cases h; done))
    rename_i f
    simp only [Option.some.injEq, Prod.mk.injEq] at h
    obtain ⟨rfl, rfl⟩ := h
    refine .same hM aid _ (v' := .func (.func f) (first.map ρ') (caps.map ρ')) (by simp [execOp, Instr.makeFunc]) (.fn f _ _ _ _ (by simp) (by simp) (fun k x v hx hv => ?_) (fun k x v hx hv => ?_))
    · simp only [List.getElem?_map, Array.getElem?_toList, Array.getElem?_map, Option.map_eq_some_iff] at hx hv
      obtain ⟨p, hp, rfl⟩ := hx
      obtain ⟨q, hq, rfl⟩ := hv
      rw [hp] at hq
      cases hq
      exact hρ _
    · simp only [List.getElem?_map, Array.getElem?_toList, Array.getElem?_map, Option.map_eq_some_iff] at hx hv
      obtain ⟨p, hp, rfl⟩ := hx
      obtain ⟨q, hq, rfl⟩ := hv
      rw [hp] at hq
      cases hq
      exact hρ _
  case makeSlice t l c =>
    split at h
    case h_2 => cases h
    rename_i e x1 x2 x3 ht
    split at h
    case h_2 => cases h
    rename_i te n m hte hl hc
    split at h
    case h_2 => cases h
    rename_i z hz
    split at h
    case isFalse => cases h
    rename_i hcond
    simp only [Option.some.injEq, Prod.mk.injEq] at h
    obtain ⟨rfl, rfl⟩ := h
    obtain ⟨q1, q2, q3, rfl, q5, q6, q7⟩ := hcond
    obtain ⟨w', g', v', h1, h2, h3⟩ := makeSlice_sim hM (hfr rfl) ht hte hz ⟨q1, q2, q3, q5, q6, q7⟩
    have e1 := hρ l
    have e2 := hρ c
    rw [hl] at e1
    rw [hc] at e2
    exact .made (by simp [execOp, e1.int_inv, e2.int_inv, h1]) (by simpa [Mem.sets] using h2) h3
  case slice t x lo hi mx =>
    obtain ⟨hx, rfl⟩ := some_pair h
    obtain ⟨r', h1, h2⟩ := sliceS_sim (P := E.P) hM.good (hρ x) (VRO.map hρ lo) (VRO.map hρ hi) (VRO.map hρ mx) hx
    exact .same hM aid _ (by simp [execOp, h1]) h2
  case fieldAddr t x f =>
    obtain ⟨hx, rfl⟩ := some_pair h
    obtain ⟨r', h1, h2⟩ := fieldAddrS_sim (hρ x) hx
    exact .same hM aid _ (by simp [execOp, h1]) h2
  case field t x f =>
    obtain ⟨hx, rfl⟩ := some_pair h
    obtain ⟨r', h1, h2⟩ := fieldS_sim (hρ x) hx
    exact .same hM aid _ (by simp [execOp, h1]) h2
  case indexAddr t x i =>
    obtain ⟨hx, rfl⟩ := some_pair h
    obtain ⟨r', h1, h2⟩ := indexAddrS_sim (hρ x) (hρ i) hx
    exact .same hM aid _ (by simp [execOp, h1]) h2
  case index t x i =>
    obtain ⟨hx, rfl⟩ := some_pair h
    obtain ⟨r', h1, h2⟩ := indexS_sim (hρ x) (hρ i) hx
    exact .same hM aid _ (by simp [execOp, h1]) h2
  case typeAssert x xt t ok =>
    obtain ⟨hx, rfl⟩ := some_pair h
    obtain ⟨r', h1, h2⟩ := assertS_sim (xt := xt) (hρ x) hx
    exact .same hM aid _ (by simp [execOp, h1]) h2
  case extract t i =>
    have ht := hρ t
    split at h
    case h_2 => cases h
    rename_i vs hvs
    rw [hvs] at ht
    obtain ⟨hx, rfl⟩ := some_pair h
    generalize hy : ρ' t = y at ht
    cases ht with
    | tup _ vv hl hr =>
    have hlt : i < vv.size := by rw [← hl]; exact (List.getElem?_eq_some_iff.1 hx).1
    refine .same hM aid _ (v' := vv[i]) ?_ (hr i v _ hx (by simp [hlt]))
    simp [execOp, hy, Instr.extract, hlt]
  case call c =>
    obtain ⟨callee, args, argTypes⟩ := c
    simp only at h
    cases callee with
    | value f => simp [isCall] at hnc
    | invoke r m => simp only at h; cases h
    | builtin b =>
      cases b <;> simp only at h <;> (try (cases h; done))
      case append =>
        split at h
        case h_2 => cases h
        rename_i s x t t2 ha ht
        obtain ⟨w', g', v', h1, h2, h3⟩ := append_sim (P := E.P) (ty := type) hM hget (hfr rfl) (hρ s) (hρ x) h
        have ha' : args = #[s, x] := by rw [← Array.toList_inj]; exact ha
        have ht' : argTypes = #[t, t2] := by rw [← Array.toList_inj]; exact ht
        subst ha' ht'
        refine .made (v' := v') ?_ h2 h3
        simp [execOp, resolve, invoke, Go.builtin, h1]
      case copy =>
        split at h
        case h_2 => cases h
        rename_i s x t t2 ha ht
        obtain ⟨w', n, h1, rfl, h2, h3⟩ := copy_sim (P := E.P) (ty := type) (t2 := t2) hM hget (hρ s) (hρ x) h
        have ha' : args = #[s, x] := by rw [← Array.toList_inj]; exact ha
        have ht' : argTypes = #[t, t2] := by rw [← Array.toList_inj]; exact ht
        subst ha' ht'
        exact ⟨w', g, .int .i64 n, .inl (by simp [execOp, resolve, invoke, Go.builtin, h1]), h2, h3.weaken fun _ h => h.1, .int _ _, fun _ _ => rfl⟩
      case len =>
        split at h
        case h_2 => cases h
        rename_i x t ha ht
        obtain ⟨hx, rfl⟩ := some_pair h
        obtain ⟨r', h1, h2⟩ := lenS_sim (ty := type) (hρ x) hx
        have ha' : args = #[x] := by rw [← Array.toList_inj]; exact ha
        have ht' : argTypes = #[t] := by rw [← Array.toList_inj]; exact ht
        subst ha' ht'
        exact .same hM aid _ (by simp [execOp, resolve, invoke, Go.builtin, h1]) h2
      case max =>
        obtain ⟨hx, rfl⟩ := some_pair h
        have hvs : VRs g w (args.toList.map ρ) (args.map ρ') := ⟨by simp, fun k x v hx hv => by
          simp only [List.getElem?_map, Array.getElem?_toList, Array.getElem?_map, Option.map_eq_some_iff] at hx hv
          obtain ⟨p, hp, rfl⟩ := hx
          obtain ⟨q, hq, rfl⟩ := hv
          rw [hp] at hq
          cases hq
          exact hρ _⟩
        obtain ⟨r', h1, h2⟩ := mmS_sim (P := E.P) (at' := argTypes) (ty := type) hvs hx
        exact .same hM aid _ (by simp only [if_true] at h1; simp [execOp, resolve, invoke, Go.builtin, h1]) h2
      case min =>
        obtain ⟨hx, rfl⟩ := some_pair h
        have hvs : VRs g w (args.toList.map ρ) (args.map ρ') := ⟨by simp, fun k x v hx hv => by
          simp only [List.getElem?_map, Array.getElem?_toList, Array.getElem?_map, Option.map_eq_some_iff] at hx hv
          obtain ⟨p, hp, rfl⟩ := hx
          obtain ⟨q, hq, rfl⟩ := hv
          rw [hp] at hq
          cases hq
          exact hρ _⟩
        obtain ⟨r', h1, h2⟩ := mmS_sim (P := E.P) (at' := argTypes) (ty := type) hvs hx
        exact .same hM aid _ (by simp only [Bool.false_eq_true, if_false] at h1; simp [execOp, resolve, invoke, Go.builtin, h1]) h2

end Go.Proofs.YtbdliphlolajaaaDoor.Sh

/-
  The shadow interpreter, text 11: calls, and one operation whatever it is. No condition.
-/
set_option linter.unusedVariables false
set_option linter.unusedSimpArgs false
namespace Go.Proofs.YtbdliphlolajaaaDoor.Sh
variable {E : Env} {P : Program} {g g' : Gh} {w : World}

def Enters (P : Program) (f : Nat) : Prop := ∃ fn, P.funcs[f]? = some fn ∧ fn.body.isSome = true ∧ fn.name ≠ "runtime.NumGoroutine"

theorem callFunc_enter {f : Nat} (h : Enters P f) (args : Array Value) (w : World) : (callFunc f args).run P w = .ok (.enter f args) w := by
  obtain ⟨fn, hf, hb, hn⟩ := h
  obtain ⟨c, hc⟩ := Option.isSome_iff_exists.1 hb
  simp [callFunc, hf, hn, hc]

theorem Mem.sets_next (M : Mem) : ∀ u, (M.sets u).next = M.next
  | [] => rfl
  | (id, b) :: u => by rw [Mem.sets, Mem.sets_next (M.set id b) u]; rfl

def CallPost (E : Env) (g : Gh) (w : World) (M M' : Mem) (r : SV) : Ending → World → Prop := fun e w' =>
  ∃ v' g', e = .returned v' ∧ Evo g w g' w' ∧ MR E g' w' M' (fun id => M'.next ≤ id) ∧ VR g' w' r v' ∧ ∀ id, id < M.next → g'.own id = g.own id

/-- Calls in the caller's memory do what the shadow says. -/
def ICok (E : Env) (ic : IC) : Prop := ∀ f args M r M', ic f args M = some (r, M') → Enters E.P f ∧ M.next ≤ M'.next ∧
  ∀ g w fr args', MR E g w M fr → (∀ id, M.next ≤ id → fr id) → VRs g w args args' → Calls E.P f args' w (CallPost E g w M M' r)

/-- What a callee that works on pictures knows. -/
def calleeG (g : Gh) (w : World) : Gh := ⟨g.stab, w.heap.size, fun _ => none, fun _ => 0, fun _ => 0, g.sent⟩

def PCok (E : Env) (pc : PC) : Prop := ∀ f args r, pc f args = some r → Enters E.P f ∧
  ∀ g w M fr args', MR E g w M fr → VRs (calleeG g w) w args args' → Calls E.P f args' w fun e w' => ∃ v' g', e = .returned v' ∧ Evo g w g' w' ∧ MR E g' w' M fr ∧ VR g' w' r v' ∧ g'.own = g.own

theorem stab_lt {M : Mem} {fr : Nat → Prop} (hM : MR E g w M fr) {b o : Nat} (h : g.stab b o) : b < w.heap.size := by
  rcases h with h | h
  · exact Nat.lt_of_lt_of_le (hM.good b o h) hM.base
  · exact (hM.hwb b (by omega)).2

theorem calleeM {M : Mem} {fr : Nat → Prop} (hM : MR E g w M fr) : MR E (calleeG g w) w .empty (fun _ => True) where
  good := fun b o h => stab_lt hM h
  base := Nat.le_refl _
  blk := fun id items h => by simp [Mem.empty] at h
  inj := fun id id' b h => by simp [Mem.empty] at h
  fresh := fun _ _ => rfl
  hwb := fun b h => by simp [calleeG] at h
  lt := fun id b h => by simp [calleeG] at h
  glob := fun n items h => VR.pv_rel (g' := calleeG g w) (show (calleeG g w).sent = g.sent from rfl) (h := hM.glob n items h) (fun b o v hs _ => .inl hs) (by simp [pv, hM.plain n items h])
  plain := hM.plain
  raw := fun n v hv => ⟨Nat.lt_of_lt_of_le (hM.raw n v hv).1 hM.base, (hM.raw n v hv).2⟩
  sent := hM.sent

def blockSize (w : World) (b : Nat) : Nat := match w.heap[b]? with
  | some (.cells c _ _) => c.size
  | _ => 0

theorem lt_blockSize {b o : Nat} {v : Value} (h : w.cell? ⟨b, o, none⟩ = some v) : o < blockSize w b := by
  obtain ⟨c, e, fr, hb, hc⟩ := cells_of_cell? h
  simp only [blockSize, hb]
  exact (Array.getElem?_eq_some_iff.1 hc).1

/-- Behind such a call: what was made is done. -/
def afterG (g : Gh) (w w' : World) : Gh := { g with hw := fun b => if b < w.heap.size then g.hw b else blockSize w' b }

theorem pc_of_ic {ic : IC} (h : ICok E ic) : PCok E (pcOf ic) := by
  intro f args r hr
  unfold pcOf at hr
  split at hr
  case h_2 => cases hr
  rename_i v M1 hic
  split at hr
  case h_2 => cases hr
  rename_i v1 hpic
  split at hr
  case isFalse => cases hr
  rename_i hpv
  simp only [Option.some.injEq] at hr
  subst hr
  obtain ⟨hen, _, hcall⟩ := h f args .empty v M1 hic
  refine ⟨hen, fun g w M fr args' hM hargs => ?_⟩
  refine (hcall (calleeG g w) w _ args' (calleeM hM) (fun _ _ => trivial) hargs).mono ?_
  rintro e w' ⟨v', g1, rfl, evo, hM1, hv, _⟩
  have hbelow : ∀ b, b < w.heap.size → w'.heap[b]? = w.heap[b]? := fun b hb => evo.below.block b hb
  have hcellOld : ∀ b o v, w.cell? ⟨b, o, none⟩ = some v → w'.cell? ⟨b, o, none⟩ = some v := fun b o v hc => by
    rw [World.cell?_of_block (a := ⟨b, o, none⟩) (hbelow b (lt_of_cell? hc))]
    exact hc
  have evo' : Evo g w (afterG g w w') w' := by
    refine ⟨rfl, rfl, rfl, fun _ _ h => ⟨h, rfl⟩, fun b => ?_, fun b o v _ h => hcellOld b o v h, evo.size, evo.below.mono hM.base⟩
    simp only [afterG]
    split
    · exact Nat.le_refl _
    · rename_i hb
      rcases Nat.eq_zero_or_pos (g.hw b) with h0 | h0
      · omega
      · exact absurd (hM.hwb b h0).2 hb
  refine ⟨v', afterG g w w', rfl, evo', ?_, ?_, rfl⟩
  · refine ⟨hM.good, Nat.le_trans hM.base evo.below.size, fun id items hid => ?_, hM.inj, hM.fresh, fun b hb => ?_, fun id b hid => Nat.lt_of_lt_of_le (hM.lt id b hid) evo.below.size, fun n items hn => (hM.glob n items hn).mono hM.good evo', hM.plain, hM.raw.mono evo', hM.sent.mono evo'⟩
    · obtain ⟨b, c, e, h1, h2, h3, h4, h5, h6⟩ := hM.blk id items hid
      have hlt := hM.lt id b h1
      refine ⟨b, c, e, h1, h2, by simp [afterG, hlt, h3], h4, by rw [hbelow b hlt]; exact h5, fun k x hk => ?_⟩
      obtain ⟨a1, u, a2, a3⟩ := h6 k x hk
      exact ⟨a1, u, a2, a3.mono hM.good evo'⟩
    · simp only [afterG] at hb
      split at hb
      · rename_i hlt
        exact ⟨(hM.hwb b hb).1, Nat.lt_of_lt_of_le hlt evo.below.size⟩
      · rename_i hge
        refine ⟨Nat.le_trans hM.base (Nat.le_of_not_lt hge), ?_⟩
        simp only [blockSize] at hb
        split at hb
        · rename_i c e fr hb2
          exact (Array.getElem?_eq_some_iff.1 hb2).1
        · omega
  · have hb1 : g1.base = w.heap.size := evo.base
    have hp1 : g1.perm = g.stab := evo.perm
    refine pic_rel (g' := afterG g w w') hM1 (fun _ _ h => h) (show (afterG g w w').sent = g1.sent from evo.sent.symm) (fun b o u hs hc => ?_) (fun h => by cases h) (fun _ b o u hb hc => ?_) picDepth v v1 v' hpic (fun _ => hpv) hv
    · rcases hs with hs | hs
      · rw [hp1] at hs
        rcases hs with hs | hs
        · exact .inl hs
        · refine .inr ?_
          have := (hM.hwb b (by omega)).2
          simp only [afterG, if_pos this]
          exact hs
      · refine .inr ?_
        have hge := (hM1.hwb b (by omega)).1
        rw [hb1] at hge
        simp only [afterG, if_neg (Nat.not_lt.2 hge)]
        exact lt_blockSize hc
    · refine .inr ?_
      rw [hb1] at hb
      simp only [afterG, if_neg (Nat.not_lt.2 hb)]
      exact lt_blockSize hc

theorem VRs.append {xs ys : List SV} {a b : Array Value} (h1 : VRs g w xs a) (h2 : VRs g w ys b) : VRs g w (xs ++ ys) (a ++ b) := by
  refine ⟨by simp [h1.1, h2.1], fun k x v hx hv => ?_⟩
  by_cases hk : k < xs.length
  · rw [List.getElem?_append_left hk] at hx
    rw [Array.getElem?_append_left (by rw [← h1.1]; exact hk)] at hv
    exact h1.2 k x v hx hv
  · rw [List.getElem?_append_right (by omega)] at hx
    rw [Array.getElem?_append_right (by rw [← h1.1]; omega), ← h1.1] at hv
    exact h2.2 _ x v hx hv

theorem VRs.map {ρ : Operand → SV} {ρ' : Operand → Value} (hρ : ∀ x, VR g w (ρ x) (ρ' x)) (args : Array Operand) : VRs g w (args.toList.map ρ) (args.map ρ') :=
  ⟨by simp, fun k x v hx hv => by
    simp only [List.getElem?_map, Array.getElem?_toList, Array.getElem?_map, Option.map_eq_some_iff] at hx hv
    obtain ⟨p, hp, rfl⟩ := hx
    obtain ⟨q, hq, rfl⟩ := hv
    rw [hp] at hq
    cases hq
    exact hρ _⟩

theorem VRs.set {xs : List SV} {a : Act} {dst : Option Nat} {v : SV} {v' : Value} (h : VRs g w xs a.tmps) (hv : VR g w v v') : VRs g w (putS xs dst v) (a.put dst v').tmps := by
  cases dst with
  | none => exact h
  | some d =>
    refine ⟨by simp [putS, Act.put, h.1], fun k x u hx hu => ?_⟩
    simp only [putS, List.getElem?_set] at hx
    simp only [Act.put, Array.getElem?_setIfInBounds] at hu
    by_cases hk : d = k
    · subst hk
      simp only [if_true] at hx hu
      split at hx
      · split at hu
        · simp only [Option.some.injEq] at hx hu
          subst hx hu
          exact hv
        · cases hu
      · cases hx
    · rw [if_neg hk] at hx hu
      exact h.2 k x u hx hu

/-- Is the operation to be done? -/
theorem want_sim {tmps : List SV} {a : Act} (hT : VRs g w tmps a.tmps) {ops : Array Oper} {o : Oper} {b : Bool} (h : wantS ops o tmps = some b) : Region.wanted o (yielded ops a.tmps) = b := by
  unfold wantS at h
  unfold Region.wanted
  split at h
  · rename_i hg
    rw [hg]
    simpa using h
  · rename_i j want hg
    rw [hg]
    simp only
    have key : ∀ (y : Option SV), yieldS ops tmps j = y → (∀ c, y = some (.bool c) → yielded ops a.tmps j = some c) ∧ ((∀ c, y ≠ some (.bool c)) → y ≠ some .bad → yielded ops a.tmps j = none) := by
      intro y hy
      unfold yieldS at hy
      unfold yielded
      cases hd : (ops[j]?).bind (·.dst) with
      | none =>
        rw [hd] at hy
        subst hy
        exact ⟨fun c hc => (by cases hc), fun _ _ => rfl⟩
      | some t =>
        rw [hd] at hy
        simp only at hy
        by_cases hlt : t < tmps.length
        · have hlt' : t < a.tmps.size := by rw [← hT.1]; exact hlt
          have hvr := hT.2 t tmps[t] a.tmps[t] (by simp [hlt]) (by simp [hlt'])
          rw [List.getElem?_eq_getElem hlt] at hy
          subst hy
          simp only [Option.bind_some, Array.getElem?_eq_getElem hlt']
          generalize hx : tmps[t] = x at hvr
          generalize hu : a.tmps[t] = u at hvr
          refine ⟨fun c hc => ?_, fun h1 h2 => ?_⟩
          · simp only [Option.some.injEq] at hc
            subst hc
            rw [hvr.bool_inv]
          · cases hvr <;> first | rfl | (exact absurd rfl (h1 _)) | (exact absurd rfl h2)
        · rw [List.getElem?_eq_none (Nat.le_of_not_lt hlt)] at hy
          subst hy
          refine ⟨fun c hc => (by cases hc), fun _ _ => ?_⟩
          simp [Array.getElem?_eq_none (by rw [← hT.1]; exact Nat.le_of_not_lt hlt)]
    obtain ⟨k1, k2⟩ := key _ rfl
    split at h
    · rename_i c hc
      simp only [Option.some.injEq] at h
      rw [k1 c hc]
      rw [← h]
      cases c <;> cases want <;> rfl
    · cases h
    · rename_i hn1 hn2
      simp only [Option.some.injEq] at h
      rw [k2 (fun c hc => hn1 c hc) (fun hc => hn2 hc), ← h]
      rfl

theorem resolve_value {a : Act} {c : Call} {ty : TypeId} {gop : Operand} {f : Nat} {first caps : Array Value} (hc : c.callee = .value gop) (hg : a.eval gop = .func (.func f) first caps) (hen : Enters P f) :
    ((do let d ← resolve a.eval c ty; invoke d.target d.args) : Sem Next).run P w = .ok (.enter f (first ++ c.args.map a.eval ++ caps)) w := by
  simp only [resolve, hc, hg, Deferred.ofValue, Sem.run_bind, Sem.run_pure, Result.andThen_ok, invoke]
  exact callFunc_enter hen _ w

/-- One operation of a region. -/
theorem exO_sim {pc : PC} {ic : IC} (hpc : PCok E pc) (hic : ICok E ic) {me n0 : Nat} {lim : Nat → Nat → Bool} {ops : Array Oper} {x : Nat} {s s' : St} {a : Act} {fr : Nat → Prop} {Q : Exit → Act → World → Prop} {K : Act → World → Prop}
    (hM : MR E g w s.mem fr) (hnx : ∀ id, s.mem.next ≤ id → fr id) (hn0 : n0 ≤ s.mem.next) (hT : VRs g w s.tmps a.tmps)
    (hfr : ∀ o, ops[x]? = some o → newOp o.op = true → fr (n0 + x) ∧ n0 + x < s.mem.next) (h : exO E me pc ic n0 lim ops x s = some s')
    (hK : ∀ g' w' a', Evo g w g' w' → MR E g' w' s'.mem (fun id => (fr id ∧ id ≠ n0 + x ∧ id < s.mem.next) ∨ s'.mem.next ≤ id) → VRs g' w' s'.tmps a'.tmps → a'.defers = a.defers →
      (∀ id, id < n0 → g'.own id = g.own id) → s.mem.next ≤ s'.mem.next → K a' w') :
    wpOp E.P ops Q x K a w := by
  unfold exO at h
  unfold wpOp
  split at h
  · rename_i hx
    simp only [Option.some.injEq] at h
    subst h
    rw [hx]
    exact hK g w a (.refl g w) (hM.weaken fun id hid => hid.elim (fun h => h.1) (fun h => hnx id h)) hT rfl (fun _ _ => rfl) (Nat.le_refl _)
  rename_i o hx
  rw [hx]
  simp only
  split at h
  · cases h
  · rename_i hw
    simp only [Option.some.injEq] at h
    subst h
    rw [want_sim hT hw]
    simp only [Bool.false_eq_true, if_false]
    refine hK g w _ (.refl g w) (hM.weaken fun id hid => hid.elim (fun h => h.1) (fun h => hnx id h)) (hT.set (.tup [] #[] rfl (fun k x v hx _ => by simp at hx))) ?_ (fun _ _ => rfl) (Nat.le_refl _)
    cases o.dst <;> rfl
  rename_i hw
  rw [want_sim hT hw]
  simp only [if_true]
  refine .inl ?_
  have hρ : ∀ y, VR g w (evO E s.tmps y) (a.eval y) := fun y => evO_rel hM.glob hT y
  have hput : ∀ v : Value, (a.put o.dst v).defers = a.defers := fun v => by cases o.dst <;> rfl
  unfold Oper.wp
  split at h
  · rename_i f args himp
    split at h
    case h_2 => cases h
    rename_i v M hcall
    simp only [Option.some.injEq] at h
    subst h
    unfold impCall at himp
    split at himp
    case h_2 => cases himp
    rename_i gop cargs cat hop
    split at himp
    case h_2 => cases himp
    rename_i f0 first caps hgop
    split at himp
    case isFalse => cases himp
    simp only [Option.some.injEq, Prod.mk.injEq] at himp
    obtain ⟨rfl, rfl⟩ := himp
    have hg := hρ gop
    rw [hgop] at hg
    generalize hgv : a.eval gop = gv at hg
    cases hg with
    | fn _ _ _ fa fc hfal hfcl hfar hfcr =>
    obtain ⟨hen, hle, hsim⟩ := hic _ _ _ _ _ hcall
    have hrun : (execOp a.eval o).run E.P w = .ok (.enter f0 (fa ++ cargs.map a.eval ++ fc)) w := by
      unfold execOp
      rw [hop]
      exact resolve_value (c := { callee := .value gop, args := cargs, argTypes := cat }) rfl hgv hen
    rw [hrun, Oper.upon_enter]
    have hargs : VRs g w (first ++ cargs.toList.map (evO E s.tmps) ++ caps) (fa ++ cargs.map a.eval ++ fc) :=
      (VRs.append ⟨hfal, hfar⟩ (VRs.map hρ cargs)).append ⟨hfcl, hfcr⟩
    refine (hsim g w fr _ hM hnx hargs).mono ?_
    rintro e w' ⟨v', g', rfl, evo, hM', hv, hown⟩
    refine hK g' w' _ evo ?_ ((hT.mono hM.good evo).set hv) (hput v') (fun id hid => hown id (by omega)) hle
    refine { hM' with fresh := fun id hid => ?_ }
    rcases hid with ⟨h1, h2, h3⟩ | h1
    · rw [hown id h3]
      exact hM.fresh id h1
    · exact hM'.fresh id h1
  · rename_i himp
    split at h
    case h_2 => cases h
    rename_i v u hact
    simp only [Option.some.injEq] at h
    subst h
    have hget : ∀ id items, (fun id => if lim x id then s.mem.blk id else none) id = some items → s.mem.blk id = some items := by
      intro id items hid
      simp only at hid
      split at hid
      · exact hid
      · cases hid
    have hnext : (s.mem.sets u).next = s.mem.next := Mem.sets_next _ u
    by_cases hcl : isCall o.op = true
    · -- a call in memory of its own
      obtain ⟨dst, op, type, pos, after, guard⟩ := o
      cases op <;> simp only [isCall] at hcl <;> (try (cases hcl; done))
      rename_i c
      obtain ⟨callee, cargs, cat⟩ := c
      cases callee <;> simp only at hcl <;> (try (cases hcl; done))
      rename_i gop
      simp only [act] at hact
      split at hact
      case h_2 => cases hact
      rename_i f first caps hgop
      split at hact
      case h_2 => cases hact
      rename_i args hpics
      obtain ⟨hpcv, rfl⟩ := some_pair hact
      have hg := hρ gop
      rw [hgop] at hg
      generalize hgv : a.eval gop = gv at hg
      cases hg with
      | fn _ _ _ fa fc hfal hfcl hfar hfcr =>
      obtain ⟨hen, hsim⟩ := hpc f args v hpcv
      have hrun : (execOp a.eval { dst := dst, op := .call { callee := .value gop, args := cargs, argTypes := cat }, type := type, pos := pos, after := after, guard := guard }).run E.P w = .ok (.enter f (fa ++ cargs.map a.eval ++ fc)) w := by
        unfold execOp
        exact resolve_value (c := { callee := .value gop, args := cargs, argTypes := cat }) rfl hgv hen
      rw [hrun, Oper.upon_enter]
      have hargs : VRs g w (first ++ cargs.toList.map (evO E s.tmps) ++ caps) (fa ++ cargs.map a.eval ++ fc) :=
        (VRs.append ⟨hfal, hfar⟩ (VRs.map hρ cargs)).append ⟨hfcl, hfcr⟩
      obtain ⟨m1, m2⟩ := mapM_some hpics
      have hargs' : VRs (calleeG g w) w args (fa ++ cargs.map a.eval ++ fc) := by
        refine ⟨by rw [← m1]; exact hargs.1, fun k y u' hy hu' => ?_⟩
        have hlt : k < (first ++ cargs.toList.map (evO E s.tmps) ++ caps).length := by rw [m1]; exact (List.getElem?_eq_some_iff.1 hy).1
        exact pic_rel (g' := calleeG g w) hM hget (show (calleeG g w).sent = g.sent from rfl) (fun b o _ hs _ => .inl hs) (fun _ b o _ hc => .inl (lt_of_cell? hc)) (fun h => by cases h) picDepth _ y u' (m2 k _ y (List.getElem?_eq_getElem hlt) hy) (fun h => by cases h)
          (hargs.2 k _ u' (List.getElem?_eq_getElem hlt) hu')
      refine (hsim g w s.mem fr _ hM hargs').mono ?_
      rintro e w' ⟨v', g', rfl, evo, hM', hv, hown⟩
      exact hK g' w' _ evo (hM'.weaken fun id hid => hid.elim (fun h => h.1) (fun h => hnx id h)) ((hT.mono hM.good evo).set hv) (hput v') (fun id _ => by rw [hown]) (Nat.le_refl _)
    · have hd := act_sim hM hρ hget (by simpa using hcl) (fun hnw => (hfr o hx hnw).1) hact
      obtain ⟨w', g', v', hR, evo, hM', hv, hkeep⟩ := hd.ex
      have hfin : K (a.put o.dst v') w' := by
        refine hK g' w' _ evo ?_ ((hT.mono hM.good evo).set hv) (hput v') (fun id hid => hkeep id (by omega)) (by rw [hnext]; exact Nat.le_refl _)
        refine { hM' with fresh := fun id hid => hM'.fresh id ?_ }
        rcases hid with ⟨h1, h2, h3⟩ | h1
        · exact ⟨h1, fun _ => h2⟩
        · rw [hnext] at h1
          exact ⟨hnx id h1, fun hnw => by have := (hfr o hx hnw).2; omega⟩
      rcases hR with hR | ⟨hR, rfl⟩
      · rw [hR]
        exact hfin
      · rw [hR]
        exact hfin

end Go.Proofs.YtbdliphlolajaaaDoor.Sh

/-
  The shadow interpreter, text 12: regions, in the text's order and in any other. No condition.
-/
set_option linter.unusedVariables false
set_option linter.unusedSimpArgs false
namespace Go.Proofs.YtbdliphlolajaaaDoor.Sh
variable {E : Env} {P : Program} {g g' : Gh} {w : World}

/-- A region's operations, one behind the other. -/
theorem exOs_sim {pc : PC} {ic : IC} (hpc : PCok E pc) (hic : ICok E ic) {me n0 : Nat} {lim : Nat → Nat → Bool} {ops : Array Oper} {Q : Exit → Act → World → Prop} (new : Bool) :
    ∀ (L : List Nat) (s s' : St) (g : Gh) (w : World) (a : Act), L.Nodup → (∀ y ∈ L, y < ops.size) → (new = true → n0 + ops.size ≤ s.mem.next) →
    (new = false → ∀ y ∈ L, ∀ o, ops[y]? = some o → newOp o.op = false) → n0 ≤ s.mem.next →
    MR E g w s.mem (fun id => (new = true ∧ ∃ y ∈ L, id = n0 + y) ∨ s.mem.next ≤ id) → VRs g w s.tmps a.tmps → exOs E me pc ic n0 lim ops L s = some s' →
    (∀ g' w' a', Evo g w g' w' → MR E g' w' s'.mem (fun id => s'.mem.next ≤ id) → VRs g' w' s'.tmps a'.tmps → a'.defers = a.defers → (∀ id, id < n0 → g'.own id = g.own id) → s.mem.next ≤ s'.mem.next → Q .normal a' w') →
    wpOps E.P ops Q L a w
  | [], s, s', g, w, a, _, _, _, _, _, hM, hT, h, hQ => by
    simp only [exOs, Option.some.injEq] at h
    subst h
    exact hQ g w a (.refl g w) (hM.weaken fun id hid => .inr hid) hT rfl (fun _ _ => rfl) (Nat.le_refl _)
  | x :: L, s, s', g, w, a, hnd, hlt, hnew, hold, hn0, hM, hT, h, hQ => by
    simp only [exOs] at h
    split at h
    case h_2 => cases h
    rename_i s1 hs1
    rw [wpOps_cons]
    have hnd' := List.nodup_cons.1 hnd
    refine exO_sim hpc hic hM (fun id hid => .inr hid) hn0 hT (fun o ho hno => ?_) hs1 (fun g1 w1 a1 evo hM1 hT1 hd hown hle => ?_)
    · cases hn : new with
      | false => rw [hold hn x (by simp) o ho] at hno; cases hno
      | true =>
        have := hnew hn
        have := hlt x (by simp)
        exact ⟨.inl ⟨rfl, x, by simp, rfl⟩, by omega⟩
    · refine exOs_sim hpc hic new L s1 s' g1 w1 a1 hnd'.2 (fun y hy => hlt y (by simp [hy])) (fun hn => Nat.le_trans (hnew hn) hle) (fun hn y hy => hold hn y (by simp [hy])) (Nat.le_trans hn0 hle) (hM1.weaken fun id hid => ?_) hT1 h
        (fun g2 w2 a2 evo2 hM2 hT2 hd2 hown2 hle2 => hQ g2 w2 a2 (evo.trans evo2) hM2 hT2 (hd2.trans hd) (fun id hid => (hown2 id hid).trans (hown id hid)) (Nat.le_trans hle hle2))
      rcases hid with ⟨hn, y, hy, rfl⟩ | hid
      · refine .inl ⟨.inl ⟨hn, y, by simp [hy], rfl⟩, fun he => ?_, ?_⟩
        · have : y = x := by omega
          subst this
          exact hnd'.1 hy
        · have := hnew hn
          have := hlt y (by simp [hy])
          omega
      · exact .inr hid

/-! ### What an operation looks at -/

theorem evO_putS {tmps : List SV} {dst : Option Nat} {v : SV} {x : Operand} (h : ∀ d, dst = some d → x ≠ .tmp d) : evO E (putS tmps dst v) x = evO E tmps x := by
  cases dst with
  | none => rfl
  | some d =>
    cases x with
    | tmp t =>
      have hne : d ≠ t := fun e => h d rfl (e ▸ rfl)
      simp [evO, putS, List.getD, List.getElem?_set, hne]
    | _ => rfl

theorem putS_comm (tmps : List SV) {x y : Option Nat} (v u : SV) (h : ∀ d, x = some d → y ≠ some d) : putS (putS tmps x v) y u = putS (putS tmps y u) x v := by
  cases x with
  | none => rfl
  | some d =>
    cases y with
    | none => rfl
    | some e =>
      have hne : d ≠ e := fun he => h d rfl (he ▸ rfl)
      simp only [putS]
      exact List.set_comm _ _ hne

theorem act_congr {pc : PC} {aid : Nat} {ρ ρ' : Operand → SV} {get : Nat → Option (List SV)} {o : Oper} (h : ∀ x ∈ o.op.operands, ρ x = ρ' x) : act E pc aid ρ get o = act E pc aid ρ' get o := by
  obtain ⟨dst, op, type, pos, after, guard⟩ := o
  have lists : ∀ a : Array Operand, (∀ x ∈ a, ρ x = ρ' x) → a.toList.map ρ = a.toList.map ρ' := fun a ha => List.map_congr_left fun x hx => ha x (by simpa using hx)
  have pairs : ∀ a : Array (Nat × Operand), (∀ x ∈ a.map (·.2), ρ x = ρ' x) → a.toList.map (fun p => (p.1, ρ p.2)) = a.toList.map (fun p => (p.1, ρ' p.2)) := fun a ha =>
    List.map_congr_left fun p hp => by rw [ha p.2 (Array.mem_map.2 ⟨p, by simpa using hp, rfl⟩)]
  cases op <;> simp only [Op.operands] at h <;> simp only [act]
  case build t ps => rw [pairs ps fun x hx => h x (by simpa using hx)]
  case buildSlice t n ps => rw [pairs ps fun x hx => h x (by simpa using hx)]
  case makeFunc fn first caps => cases fn <;> simp only <;> rw [lists first fun x hx => h x (by simp [hx]), lists caps fun x hx => h x (by simp [hx])]
  case slice t x lo hi mx => cases lo <;> cases hi <;> cases mx <;> simp_all
  case call c =>
    obtain ⟨callee, args, cat⟩ := c
    cases callee with
    | value f =>
      have hf : ρ f = ρ' f := h f (by simp [Call.operands])
      have ha := lists args fun x hx => h x (by simp [Call.operands, hx])
      simp only [hf, ha]
    | invoke r m => rfl
    | builtin b =>
      have ha := lists args fun x hx => h x (by simp [Call.operands, hx])
      cases b <;> simp only [ha]
      case copy =>
        split
        · rename_i s x t t2 hs ht
          have hs' : args = #[s, x] := by rw [← Array.toList_inj]; exact hs
          subst hs'
          rw [h s (by simp [Call.operands]), h x (by simp [Call.operands])]
        · rfl
      case append =>
        split
        · rename_i s x t t2 hs ht
          have hs' : args = #[s, x] := by rw [← Array.toList_inj]; exact hs
          subst hs'
          rw [h s (by simp [Call.operands]), h x (by simp [Call.operands])]
        · rfl
      case len =>
        split
        · rename_i x t hs ht
          have hs' : args = #[x] := by rw [← Array.toList_inj]; exact hs
          subst hs'
          rw [h x (by simp [Call.operands])]
        · rfl
  all_goals (first | rfl | (simp_all; done))

theorem impCall_congr {me : Nat} {ρ ρ' : Operand → SV} {o : Oper} (h : ∀ x ∈ o.op.operands, ρ x = ρ' x) : impCall E me ρ o = impCall E me ρ' o := by
  obtain ⟨dst, op, type, pos, after, guard⟩ := o
  cases op <;> simp only [Op.operands] at h <;> simp only [impCall]
  rename_i c
  obtain ⟨callee, args, cat⟩ := c
  cases callee with
  | value f =>
    have hf : ρ f = ρ' f := h f (by simp [Call.operands])
    have ha : args.toList.map ρ = args.toList.map ρ' := List.map_congr_left fun x hx => h x (by simp [Call.operands]; exact .inr (by simpa using hx))
    simp only [hf, ha]
  | invoke r m => rfl
  | builtin b => rfl

/-- Writes that an operation does not look at. -/
theorem looks_ops {ops : Array Oper} {o : Oper} {dst : Option Nat} {tmps : List SV} {v : SV} (h : ∀ d, dst = some d → d ∉ o.looksAt ops) : ∀ x ∈ o.op.operands, evO E (putS tmps dst v) x = evO E tmps x :=
  fun x hx => evO_putS fun d hd hxd => h d hd (by
    subst hxd
    exact List.mem_append_left _ (List.mem_filterMap.2 ⟨.tmp d, by simpa using hx, rfl⟩))

theorem want_putS {ops : Array Oper} {o : Oper} {dst : Option Nat} {tmps : List SV} {v : SV} (h : ∀ d, dst = some d → d ∉ o.looksAt ops) : wantS ops o (putS tmps dst v) = wantS ops o tmps := by
  cases dst with
  | none => rfl
  | some d =>
    unfold wantS
    cases hg : o.guard with
    | none => rfl
    | some gw =>
      obtain ⟨j, want⟩ := gw
      have hy : yieldS ops (putS tmps (some d) v) j = yieldS ops tmps j := by
        unfold yieldS
        cases ht : (ops[j]?).bind (·.dst) with
        | none => rfl
        | some t =>
          have hne : d ≠ t := fun e => h d rfl (by subst e; simp [Oper.looksAt, hg, ht])
          simp [putS, List.getElem?_set, hne]
      simp only [hy]

/-! ### Kinds of operations -/

theorem imp_cls {me : Nat} {tmps : List SV} {o : Oper} {r : Nat × List SV} (h : impCall E me (evO E tmps) o = some r) : cls E me o.op = .c := by
  obtain ⟨dst, op, type, pos, after, guard⟩ := o
  cases op <;> simp only [impCall] at h <;> (try (cases h; done))
  rename_i c
  obtain ⟨callee, args, cat⟩ := c
  cases callee <;> simp only at h <;> (try (cases h; done))
  rename_i f
  cases f <;> simp only [cls]
  rename_i f
  simp only [evO] at h
  split at h
  · rename_i hc
    simp [hc]
  · cases h

theorem act_p {me : Nat} {pc : PC} {aid : Nat} {ρ : Operand → SV} {get get' : Nat → Option (List SV)} {o : Oper} (hc : cls E me o.op = .p) {v : SV} {u : List (Nat × Option (List SV))} (h : act E pc aid ρ get o = some (v, u)) :
    u = [] ∧ act E pc aid ρ get' o = some (v, u) := by
  obtain ⟨dst, op, type, pos, after, guard⟩ := o
  cases op <;> simp only [cls] at hc <;> (try (cases hc; done)) <;> simp only [act] at h ⊢
  case call c =>
    obtain ⟨callee, args, cat⟩ := c
    cases callee with
    | value f => cases f <;> simp only at hc <;> (try (split at hc)) <;> cases hc
    | invoke r m => cases hc
    | builtin b =>
      cases b <;> simp only at hc h ⊢ <;> (try (cases hc; done)) <;> (try (cases h; done)) <;> (try (split at hc <;> cases hc; done))
      all_goals
        refine ⟨?_, h⟩
        (repeat' split at h) <;> simp_all
  case makeFunc fn first caps =>
    cases fn <;> simp only at h ⊢ <;> (try (cases h; done))
    refine ⟨?_, h⟩
    simp_all
  all_goals
    refine ⟨?_, h⟩
    (repeat' split at h) <;> simp_all

theorem act_r {me : Nat} {pc : PC} {aid : Nat} {ρ : Operand → SV} {get : Nat → Option (List SV)} {o : Oper} (hc : cls E me o.op = .r) {v : SV} {u : List (Nat × Option (List SV))} (h : act E pc aid ρ get o = some (v, u)) : u = [] := by
  obtain ⟨dst, op, type, pos, after, guard⟩ := o
  cases op <;> simp only [cls] at hc <;> (try (cases hc; done)) <;> simp only [act] at h
  case call c =>
    obtain ⟨callee, args, cat⟩ := c
    cases callee with
    | value f => (repeat' split at h) <;> simp_all
    | invoke r m => cases hc
    | builtin b => cases b <;> simp only at hc <;> first | (cases hc; done) | (split at hc <;> cases hc)
  all_goals (repeat' split at h) <;> simp_all

theorem act_a {me : Nat} {pc : PC} {aid : Nat} {ρ : Operand → SV} {get get' : Nat → Option (List SV)} {o : Oper} (hc : cls E me o.op = .a) {v : SV} {u : List (Nat × Option (List SV))} (h : act E pc aid ρ get o = some (v, u)) :
    act E pc aid ρ get' o = some (v, u) ∧ ∃ its, u = [(aid, some its)] := by
  obtain ⟨dst, op, type, pos, after, guard⟩ := o
  cases op <;> simp only [cls] at hc <;> (try (cases hc; done)) <;> simp only [act] at h ⊢
  case call c =>
    obtain ⟨callee, args, cat⟩ := c
    cases callee with
    | value f => cases f <;> simp only at hc <;> (try (split at hc)) <;> cases hc
    | invoke r m => cases hc
    | builtin b => cases b <;> simp only at hc <;> first | (cases hc; done) | (split at hc <;> cases hc)
  all_goals
    refine ⟨h, ?_⟩
    (repeat' split at h) <;> (first | (cases h; done) | (simp only [Option.some.injEq, Prod.mk.injEq] at h; exact ⟨_, h.2.symm⟩))

theorem act_w {me : Nat} {pc : PC} {aid : Nat} {ρ : Operand → SV} {get : Nat → Option (List SV)} {o : Oper} (hc : cls E me o.op = .w) {v : SV} {u : List (Nat × Option (List SV))} (h : act E pc aid ρ get o = some (v, u)) :
    ∀ p ∈ u, p.1 = aid ∨ (get p.1).isSome = true := by
  obtain ⟨dst, op, type, pos, after, guard⟩ := o
  cases op <;> simp only [cls] at hc <;> (try (cases hc; done)) <;> simp only [act] at h
  case store t x y =>
    split at h
    case h_2 => cases h
    rename_i u' hu
    simp only [Option.some.injEq, Prod.mk.injEq] at h
    obtain ⟨_, rfl⟩ := h
    unfold storeS at hu
    (repeat' split at hu) <;> (try (cases hu; done))
    simp only [Option.some.injEq] at hu
    subst hu
    intro p hp
    simp only [List.mem_singleton] at hp
    subst hp
    refine .inr ?_
    simp_all
  case call c =>
    obtain ⟨callee, args, cat⟩ := c
    cases callee with
    | value f => cases f <;> simp only at hc <;> (try (split at hc)) <;> cases hc
    | invoke r m => cases hc
    | builtin b =>
      cases b <;> simp only at hc h <;> (try (cases hc; done))
      case copy =>
        split at h
        case h_2 => cases h
        unfold copyS at h
        (repeat' split at h) <;> (try (cases h; done)) <;> simp only [Option.some.injEq, Prod.mk.injEq] at h <;> obtain ⟨_, rfl⟩ := h <;> intro p hp <;> simp at hp
        subst hp
        exact .inr (by simp_all)
      split at hc
      case isTrue => cases hc
      split at h
      case h_2 => cases h
      unfold appendS at h
      (repeat' split at h) <;> (try (cases h; done)) <;> simp only [Option.some.injEq, Prod.mk.injEq] at h <;> obtain ⟨_, rfl⟩ := h <;> intro p hp <;> simp at hp
      · exact .inl (by rw [hp])
      · exact .inl (by rw [hp])
      · rcases hp with rfl | rfl
        · refine .inr ?_
          simp_all
        · exact .inl rfl

theorem act_ra {me : Nat} {pc : PC} {aid : Nat} {T : List SV} {get : Nat → Option (List SV)} {o : Oper} (hc : cls E me o.op = .ra) {v : SV} {u : List (Nat × Option (List SV))} (h : act E pc aid (evO E T) get o = some (v, u)) :
    u = [] ∨ ∃ its, u = [(aid, some its)] := by
  obtain ⟨dst, op, type, pos, after, guard⟩ := o
  cases op <;> simp only [cls] at hc <;> (try (cases hc; done)) <;> simp only [act] at h
  case call c =>
    obtain ⟨callee, args, cat⟩ := c
    cases callee with
    | value f => cases f <;> simp only at hc <;> (try (split at hc)) <;> cases hc
    | invoke r m => cases hc
    | builtin b =>
      cases b <;> simp only at hc h <;> (try (cases hc; done))
      split at hc
      case isFalse => cases hc
      rename_i hn
      split at h
      case h_2 => cases h
      rename_i s x t t2 ha ht
      unfold isNilC at hn
      rw [ha] at hn
      split at hn
      case h_2 => cases hn
      rename_i heq
      simp only [List.cons.injEq] at heq
      have hs : evO E T s = .nilsl := by rw [heq.1]; rfl
      rw [hs] at h
      generalize evO E T x = X at h
      simp only [appendS] at h
      split at h <;> (try (cases h; done))
      split at h <;> (try (cases h; done))
      split at h <;> (try (cases h; done))
      split at h <;> (try (cases h; done))
      split at h
      · simp only [Option.some.injEq, Prod.mk.injEq] at h
        exact .inl h.2.symm
      · split at h <;> (try (cases h; done))
        simp only [Option.some.injEq, Prod.mk.injEq] at h
        exact .inr ⟨_, h.2.symm⟩

end Go.Proofs.YtbdliphlolajaaaDoor.Sh

/-
  The shadow interpreter, text 13: regions that draw their order. No condition.
-/
set_option linter.unusedVariables false
set_option linter.unusedSimpArgs false
namespace Go.Proofs.YtbdliphlolajaaaDoor.Sh
variable {E : Env} {P : Program} {g g' : Gh} {w : World}

theorem sets_blk (M : Mem) : ∀ (u : List (Nat × Option (List SV))) (id : Nat), (∀ p ∈ u, p.1 ≠ id) → (M.sets u).blk id = M.blk id
  | [], _, _ => rfl
  | (j, b) :: u, id, h => by
    rw [Mem.sets, sets_blk (M.set j b) u id (fun p hp => h p (by simp [hp])), Mem.set_other _ _ (fun he => h (j, b) (by simp) he.symm)]

theorem Mem.ext {M N : Mem} (h : ∀ id, M.blk id = N.blk id) (hn : M.next = N.next) : M = N := by
  obtain ⟨a, b⟩ := M
  obtain ⟨c, d⟩ := N
  simp only at h hn
  rw [funext h, hn]

theorem set_comm' (M : Mem) {i j : Nat} (a b : Option (List SV)) (h : i ≠ j) : (M.set i a).set j b = (M.set j b).set i a := by
  refine Mem.ext (fun id => ?_) rfl
  simp only [Mem.set]
  by_cases h1 : id = j
  · subst h1
    simp [Ne.symm h]
  · by_cases h2 : id = i
    · subst h2
      simp [h1]
    · simp [h1, h2]

theorem sets_set (M : Mem) {j : Nat} (b : Option (List SV)) : ∀ (u : List (Nat × Option (List SV))), (∀ p ∈ u, p.1 ≠ j) → (M.set j b).sets u = (M.sets u).set j b
  | [], _ => rfl
  | (i, a) :: u, h => by
    have hij : j ≠ i := fun he => h (i, a) (by simp) he.symm
    rw [Mem.sets, Mem.sets, ← sets_set (M.set i a) b u (fun p hp => h p (by simp [hp])), set_comm' M b a hij]

/-- What an operation does, in one word. -/
inductive Did (E : Env) (me : Nat) (pc : PC) (ic : IC) (n0 : Nat) (lim : Nat → Nat → Bool) (ops : Array Oper) (x : Nat) (o : Oper) (s : St) : St → Prop
  | skip (h : wantS ops o s.tmps = some false) : Did E me pc ic n0 lim ops x o s ⟨putS s.tmps o.dst (.tup []), s.mem⟩
  | imp {f : Nat} {args : List SV} {v : SV} {M : Mem} (h : wantS ops o s.tmps = some true) (hi : impCall E me (evO E s.tmps) o = some (f, args)) (hc : ic f args s.mem = some (v, M)) :
      Did E me pc ic n0 lim ops x o s ⟨putS s.tmps o.dst v, M⟩
  | act {v : SV} {u : List (Nat × Option (List SV))} (h : wantS ops o s.tmps = some true) (hi : impCall E me (evO E s.tmps) o = none)
      (ha : Sh.act E pc (n0 + x) (evO E s.tmps) (fun id => if lim x id then s.mem.blk id else none) o = some (v, u)) : Did E me pc ic n0 lim ops x o s ⟨putS s.tmps o.dst v, s.mem.sets u⟩

theorem exO_did {me n0 : Nat} {pc : PC} {ic : IC} {lim : Nat → Nat → Bool} {ops : Array Oper} {x : Nat} {o : Oper} (hx : ops[x]? = some o) {s s' : St} :
    exO E me pc ic n0 lim ops x s = some s' ↔ Did E me pc ic n0 lim ops x o s s' := by
  constructor
  · intro h
    unfold exO at h
    rw [hx] at h
    simp only at h
    split at h
    · cases h
    · rename_i hw
      simp only [Option.some.injEq] at h
      subst h
      exact .skip hw
    · rename_i hw
      split at h
      · rename_i f args hi
        split at h
        · rename_i v M hc
          simp only [Option.some.injEq] at h
          subst h
          exact .imp hw hi hc
        · cases h
      · rename_i hi
        split at h
        · rename_i v u ha
          simp only [Option.some.injEq] at h
          subst h
          exact .act hw hi ha
        · cases h
  · intro h
    unfold exO
    rw [hx]
    cases h with
    | skip h => simp only [h]
    | imp h hi hc => simp only [h, hi, hc]
    | act h hi ha => simp only [h, hi, ha]

/-- Two operations that lie side by side, in the other order. -/
theorem swap {me n0 : Nat} {pc : PC} {ic : IC} {lim : Nat → Nat → Bool} {ops : Array Oper} {x y : Nat} {ox oy : Oper} (hx : ops[x]? = some ox) (hy : ops[y]? = some oy) (hxy : x ≠ y)
    (hap : ox.apart ops oy = true) (hco : compat (cls E me ox.op) (cls E me oy.op) = true)
    (hl : (cls E me ox.op).mk = true ∨ (cls E me oy.op).mk = true → lim x (n0 + y) = false ∧ lim y (n0 + x) = false)
    {s s1 s2 : St} (h1 : exO E me pc ic n0 lim ops x s = some s1) (h2 : exO E me pc ic n0 lim ops y s1 = some s2) :
    ∃ s1', exO E me pc ic n0 lim ops y s = some s1' ∧ exO E me pc ic n0 lim ops x s1' = some s2 := by
  obtain ⟨a1, a2, a3⟩ := Oper.apart_spec hap
  simp only [exO_did hx, exO_did hy] at *
  have hd : ∀ d, ox.dst = some d → oy.dst ≠ some d := a2
  -- the second one at the first one's beginning
  have wantY : ∀ v, wantS ops oy (putS s.tmps ox.dst v) = wantS ops oy s.tmps := fun v => want_putS a1
  have wantX : ∀ v, wantS ops ox (putS s.tmps oy.dst v) = wantS ops ox s.tmps := fun v => want_putS a3
  have impY : ∀ v, impCall E me (evO E (putS s.tmps ox.dst v)) oy = impCall E me (evO E s.tmps) oy := fun v => impCall_congr (looks_ops a1)
  have impX : ∀ v, impCall E me (evO E (putS s.tmps oy.dst v)) ox = impCall E me (evO E s.tmps) ox := fun v => impCall_congr (looks_ops a3)
  have actY : ∀ v aid get, act E pc aid (evO E (putS s.tmps ox.dst v)) get oy = act E pc aid (evO E s.tmps) get oy := fun v aid get => act_congr (looks_ops a1)
  have actX : ∀ v aid get, act E pc aid (evO E (putS s.tmps oy.dst v)) get ox = act E pc aid (evO E s.tmps) get ox := fun v aid get => act_congr (looks_ops a3)
  have tm : ∀ v u, putS (putS s.tmps ox.dst v) oy.dst u = putS (putS s.tmps oy.dst u) ox.dst v := fun v u => putS_comm _ _ _ hd
  cases h1 with
  | skip hw1 =>
    cases h2 with
    | skip hw2 =>
      rw [wantY] at hw2
      refine ⟨_, .skip hw2, ?_⟩
      simp only [tm]
      exact .skip (by simp only; rw [wantX]; exact hw1)
    | imp hw2 hi hc =>
      rw [wantY] at hw2
      rw [impY] at hi
      refine ⟨_, .imp hw2 hi hc, ?_⟩
      simp only [tm]
      exact .skip (by simp only; rw [wantX]; exact hw1)
    | act hw2 hi ha =>
      rw [wantY] at hw2
      rw [impY] at hi
      rw [actY] at ha
      refine ⟨_, .act hw2 hi ha, ?_⟩
      simp only [tm]
      exact .skip (by simp only; rw [wantX]; exact hw1)
  | imp hw1 hi1 hc1 =>
    have hcx := imp_cls hi1
    cases h2 with
    | skip hw2 =>
      rw [wantY] at hw2
      refine ⟨_, .skip hw2, ?_⟩
      simp only [tm]
      exact .imp (by simp only; rw [wantX]; exact hw1) (by simp only; rw [impX]; exact hi1) hc1
    | imp hw2 hi2 hc2 =>
      have hcy := imp_cls hi2
      rw [hcx, hcy] at hco
      cases hco
    | act hw2 hi2 ha2 =>
      have hcy : cls E me oy.op = .p := by
        rw [hcx] at hco
        cases hh : cls E me oy.op <;> rw [hh] at hco <;> first | rfl | cases hco
      rw [wantY] at hw2
      rw [impY] at hi2
      rw [actY] at ha2
      obtain ⟨rfl, hp⟩ := act_p (get' := fun id => if lim y id then s.mem.blk id else none) hcy ha2
      refine ⟨_, .act hw2 hi2 hp, ?_⟩
      simp only [tm, Mem.sets]
      exact .imp (by simp only; rw [wantX]; exact hw1) (by simp only; rw [impX]; exact hi1) hc1
  | act hw1 hi1 ha1 =>
    rename_i v1 u1
    cases h2 with
    | skip hw2 =>
      rw [wantY] at hw2
      refine ⟨_, .skip hw2, ?_⟩
      simp only [tm]
      exact .act (by simp only; rw [wantX]; exact hw1) (by simp only; rw [impX]; exact hi1) (by simp only; rw [actX]; exact ha1)
    | imp hw2 hi2 hc2 =>
      rename_i f args v2 M2
      have hcy := imp_cls hi2
      have hcx : cls E me ox.op = .p := by
        rw [hcy] at hco
        cases hh : cls E me ox.op <;> rw [hh] at hco <;> first | rfl | cases hco
      obtain ⟨rfl, _⟩ := act_p (get' := fun _ => none) hcx ha1
      rw [wantY] at hw2
      rw [impY] at hi2
      simp only [Mem.sets] at hc2
      obtain ⟨_, hp⟩ := act_p (get' := fun id => if lim x id then M2.blk id else none) hcx ha1
      refine ⟨_, .imp hw2 hi2 hc2, ?_⟩
      simp only [tm]
      have := Did.act (E := E) (me := me) (pc := pc) (ic := ic) (n0 := n0) (lim := lim) (ops := ops) (x := x) (o := ox) (s := ⟨putS s.tmps oy.dst v2, M2⟩) (by simp only; rw [wantX]; exact hw1) (by simp only; rw [impX]; exact hi1) (by simp only; rw [actX]; exact hp)
      exact this
    | act hw2 hi2 ha2 =>
      rename_i v2 u2
      rw [wantY] at hw2
      rw [impY] at hi2
      rw [actY] at ha2
      simp only at ha2
      -- what each sees, with the other's writes or without
      have fin : act E pc (n0 + y) (evO E s.tmps) (fun id => if lim y id then s.mem.blk id else none) oy = some (v2, u2) →
          act E pc (n0 + x) (evO E s.tmps) (fun id => if lim x id then (s.mem.sets u2).blk id else none) ox = some (v1, u1) → (s.mem.sets u2).sets u1 = (s.mem.sets u1).sets u2 →
          ∃ s1', Did E me pc ic n0 lim ops y oy s s1' ∧ Did E me pc ic n0 lim ops x ox s1' ⟨putS (putS s.tmps ox.dst v1) oy.dst v2, (s.mem.sets u1).sets u2⟩ := by
        intro q1 q2 q3
        refine ⟨_, .act hw2 hi2 q1, ?_⟩
        rw [tm, ← q3]
        exact .act (by simp only; rw [wantX]; exact hw1) (by simp only; rw [impX]; exact hi1) (by simp only; rw [actX]; exact q2)
      by_cases hpx : cls E me ox.op = .p
      · obtain ⟨rfl, hp⟩ := act_p (get' := fun id => if lim x id then (s.mem.sets u2).blk id else none) hpx ha1
        exact fin ha2 hp rfl
      by_cases hpy : cls E me oy.op = .p
      · obtain ⟨rfl, hp⟩ := act_p (get' := fun id => if lim y id then s.mem.blk id else none) hpy ha2
        exact fin hp ha1 rfl
      -- reads, and what is made
      have readX : (∀ p ∈ u2, lim x p.1 = false) → act E pc (n0 + x) (evO E s.tmps) (fun id => if lim x id then (s.mem.sets u2).blk id else none) ox = some (v1, u1) := by
        intro hlim
        rw [← ha1]
        congr 1
        funext id
        split
        · rename_i hid
          exact sets_blk _ u2 id (fun p hp he => by rw [← he, hlim p hp] at hid; cases hid)
        · rfl
      have readY : (∀ p ∈ u1, lim y p.1 = false) → act E pc (n0 + y) (evO E s.tmps) (fun id => if lim y id then s.mem.blk id else none) oy = some (v2, u2) := by
        intro hlim
        rw [← ha2]
        congr 1
        funext id
        split
        · rename_i hid
          exact (sets_blk _ u1 id (fun p hp he => by rw [← he, hlim p hp] at hid; cases hid)).symm
        · rfl
      cases hkx : cls E me ox.op <;> (try (exact absurd hkx hpx)) <;> cases hky : cls E me oy.op <;> (try (exact absurd hky hpy)) <;> rw [hkx, hky] at hco <;> (try (cases hco; done))
      · -- r, r
        obtain rfl := act_r hkx ha1
        obtain rfl := act_r hky ha2
        exact fin (readY (by simp)) (readX (by simp)) rfl
      · -- r, a
        obtain rfl := act_r hkx ha1
        obtain ⟨hp, its, rfl⟩ := act_a (get' := fun id => if lim y id then s.mem.blk id else none) hky ha2
        exact fin hp (readX (fun p hp' => by simp at hp'; subst hp'; exact (hl (.inr (by rw [hky]; rfl))).1)) rfl
      · -- r, ra
        obtain rfl := act_r hkx ha1
        rcases act_ra hky ha2 with rfl | ⟨its, rfl⟩
        · exact fin (readY (by simp)) (readX (by simp)) rfl
        · exact fin (readY (by simp)) (readX (fun p hp' => by simp at hp'; subst hp'; exact (hl (.inr (by rw [hky]; rfl))).1)) rfl
      · -- a, r
        obtain rfl := act_r hky ha2
        obtain ⟨hp, its, rfl⟩ := act_a (get' := fun id => if lim x id then (s.mem.sets []).blk id else none) hkx ha1
        exact fin (readY (fun p hp' => by simp at hp'; subst hp'; exact (hl (.inl (by rw [hkx]; rfl))).2)) hp rfl
      · -- a, a
        obtain ⟨hp, its, rfl⟩ := act_a (get' := fun id => if lim y id then s.mem.blk id else none) hky ha2
        obtain ⟨hq, its', rfl⟩ := act_a (get' := fun id => if lim x id then (s.mem.sets [(n0 + y, some its)]).blk id else none) hkx ha1
        exact fin hp hq (by simp only [Mem.sets]; exact set_comm' _ _ _ (by omega))
      · -- a, w
        obtain ⟨hq, its', rfl⟩ := act_a (get' := fun id => if lim x id then (s.mem.sets u2).blk id else none) hkx ha1
        have hy' := readY (fun p hp' => by simp at hp'; subst hp'; exact (hl (.inl (by rw [hkx]; rfl))).2)
        have hw := act_w hky hy'
        refine fin hy' hq ?_
        simp only [Mem.sets]
        refine (sets_set _ _ u2 fun p hp => ?_).symm
        rcases hw p hp with h | h
        · rw [h]; omega
        · intro he
          rw [he, (hl (.inl (by rw [hkx]; rfl))).2] at h
          simp at h
      · -- a, ra
        rcases act_ra hky ha2 with rfl | ⟨its, rfl⟩
        · obtain ⟨hq, its', rfl⟩ := act_a (get' := fun id => if lim x id then (s.mem.sets []).blk id else none) hkx ha1
          exact fin (readY (fun p hp' => by simp at hp'; subst hp'; exact (hl (.inl (by rw [hkx]; rfl))).2)) hq rfl
        · obtain ⟨hq, its', rfl⟩ := act_a (get' := fun id => if lim x id then (s.mem.sets [(n0 + y, some its)]).blk id else none) hkx ha1
          exact fin (readY (fun p hp' => by simp at hp'; subst hp'; exact (hl (.inl (by rw [hkx]; rfl))).2)) hq (by simp only [Mem.sets]; exact set_comm' _ _ _ (by omega))
      · -- w, a
        obtain ⟨hp, its, rfl⟩ := act_a (get' := fun id => if lim y id then s.mem.blk id else none) hky ha2
        have hx' := readX (fun p hp' => by simp at hp'; subst hp'; exact (hl (.inr (by rw [hky]; rfl))).1)
        have hw := act_w hkx ha1
        refine fin hp hx' ?_
        simp only [Mem.sets]
        refine sets_set _ _ u1 fun p hp => ?_
        rcases hw p hp with h | h
        · rw [h]; omega
        · intro he
          rw [he, (hl (.inr (by rw [hky]; rfl))).1] at h
          simp at h
      · -- ra, r
        obtain rfl := act_r hky ha2
        rcases act_ra hkx ha1 with rfl | ⟨its, rfl⟩
        · exact fin (readY (by simp)) (readX (by simp)) rfl
        · exact fin (readY (fun p hp' => by simp at hp'; subst hp'; exact (hl (.inl (by rw [hkx]; rfl))).2)) (readX (by simp)) rfl
      · -- ra, a
        obtain ⟨hp, its, rfl⟩ := act_a (get' := fun id => if lim y id then s.mem.blk id else none) hky ha2
        have hx' := readX (fun p hp' => by simp at hp'; subst hp'; exact (hl (.inr (by rw [hky]; rfl))).1)
        rcases act_ra hkx ha1 with rfl | ⟨its', rfl⟩
        · exact fin hp hx' rfl
        · exact fin hp hx' (by simp only [Mem.sets]; exact set_comm' _ _ _ (by omega))
      · -- ra, ra
        rcases act_ra hkx ha1 with rfl | ⟨its', rfl⟩ <;> rcases act_ra hky ha2 with rfl | ⟨its, rfl⟩
        · exact fin (readY (by simp)) (readX (by simp)) rfl
        · exact fin (readY (by simp)) (readX (fun p hp' => by simp at hp'; subst hp'; exact (hl (.inr (by rw [hky]; rfl))).1)) rfl
        · exact fin (readY (fun p hp' => by simp at hp'; subst hp'; exact (hl (.inl (by rw [hkx]; rfl))).2)) (readX (by simp)) rfl
        · exact fin (readY (fun p hp' => by simp at hp'; subst hp'; exact (hl (.inl (by rw [hkx]; rfl))).2)) (readX (fun p hp' => by simp at hp'; subst hp'; exact (hl (.inr (by rw [hky]; rfl))).1)) (by simp only [Mem.sets]; exact set_comm' _ _ _ (by omega))

/-- One operation of a list, ahead of those that it may go ahead of. -/
theorem bubble {me n0 : Nat} {pc : PC} {ic : IC} {lim : Nat → Nat → Bool} {ops : Array Oper} {i : Nat} {oi : Oper} (hi : ops[i]? = some oi) :
    ∀ (A B : List Nat) (s s' : St), (∀ x ∈ A, x ≠ i ∧ ∃ ox, ops[x]? = some ox ∧ ox.apart ops oi = true ∧ compat (cls E me ox.op) (cls E me oi.op) = true ∧
      ((cls E me ox.op).mk = true ∨ (cls E me oi.op).mk = true → lim x (n0 + i) = false ∧ lim i (n0 + x) = false)) →
    exOs E me pc ic n0 lim ops (A ++ i :: B) s = some s' → exOs E me pc ic n0 lim ops (i :: (A ++ B)) s = some s'
  | [], B, s, s', _, h => h
  | x :: A, B, s, s', hA, h => by
    simp only [List.cons_append, exOs] at h
    split at h
    case h_2 => cases h
    rename_i s1 hs1
    have ih := bubble hi A B s1 s' (fun y hy => hA y (by simp [hy])) h
    simp only [exOs] at ih
    split at ih
    case h_2 => cases ih
    rename_i s2 hs2
    obtain ⟨hne, ox, hx, q1, q2, q3⟩ := hA x (by simp)
    obtain ⟨s1', e1, e2⟩ := swap hx hi hne q1 q2 q3 hs1 hs2
    simp only [List.cons_append, exOs, e1, e2]
    exact ih

end Go.Proofs.YtbdliphlolajaaaDoor.Sh

/-
  The shadow interpreter, text 14: regions, code, functions: what the shadow says, the model does. No condition.
-/
set_option linter.unusedVariables false
set_option linter.unusedSimpArgs false
namespace Go.Proofs.YtbdliphlolajaaaDoor.Sh
variable {E : Env} {P : Program} {g g' : Gh} {w : World}

theorem evo_drew (g : Gh) (w : World) : Evo g w g w.drew :=
  ⟨rfl, rfl, rfl, fun _ _ h => ⟨h, rfl⟩, fun _ => Nat.le_refl _, fun _ _ _ _ h => h, fun _ c _ _ h => ⟨c, h, rfl⟩, (RowKit.Below.refl _ _).drew⟩

theorem MR.drew {M : Mem} {fr : Nat → Prop} (hM : MR E g w M fr) : MR E g w.drew M fr :=
  ⟨hM.good, hM.base, fun id its h => by
      obtain ⟨b, c, e, h1, h2, h3, h4, h5, h6⟩ := hM.blk id its h
      exact ⟨b, c, e, h1, h2, h3, h4, h5, fun k x hk => by obtain ⟨a1, v, a2, a3⟩ := h6 k x hk; exact ⟨a1, v, a2, a3.mono hM.good (evo_drew g w)⟩⟩,
    hM.inj, hM.fresh, hM.hwb, hM.lt, fun n its h => (hM.glob n its h).mono hM.good (evo_drew g w), hM.plain, hM.raw.mono (evo_drew g w), hM.sent.mono (evo_drew g w)⟩

theorem makesNew_of_newOp {me : Nat} {op : Op} (h : newOp op = true) : makesNew E me op = true := by
  cases op with
  | call c =>
    obtain ⟨callee, args, cat⟩ := c
    cases callee with
    | value f => cases h
    | invoke r m => cases h
    | builtin b => cases b <;> first | rfl | (cases h; done) | (simp only [makesNew, cls]; cases isNilC args <;> rfl)
  | _ => first | rfl | cases h

/-- Lists that are left, by what is listed. -/
theorem left_split {n i : Nat} {p : Nat → Bool} (hi : i < n) (hp : p i = true) :
    ∃ A B, (List.range n).filter p = A ++ i :: B ∧ (∀ x ∈ A, x < i ∧ p x = true ∧ x < n) ∧ (∀ x ∈ B, x < n) ∧ (List.range n).filter (fun j => p j && (j != i)) = A ++ B := by
  have hmem : i ∈ (List.range n).filter p := List.mem_filter.2 ⟨List.mem_range.2 hi, hp⟩
  obtain ⟨A, B, hAB⟩ := List.append_of_mem hmem
  have hpw : ((List.range n).filter p).Pairwise (· < ·) := List.Pairwise.filter _ List.pairwise_lt_range
  rw [hAB] at hpw
  have hA : ∀ x ∈ A, x < i := fun x hx => (List.pairwise_append.1 hpw).2.2 x hx i (by simp)
  have hB : ∀ x ∈ B, i < x := fun x hx => (List.pairwise_cons.1 (List.pairwise_append.1 hpw).2.1).1 x hx
  refine ⟨A, B, hAB, fun x hx => ⟨hA x hx, ?_⟩, fun x hx => ?_, ?_⟩
  · have : x ∈ (List.range n).filter p := by rw [hAB]; simp [hx]
    have := List.mem_filter.1 this
    exact ⟨this.2, List.mem_range.1 this.1⟩
  · have : x ∈ (List.range n).filter p := by rw [hAB]; simp [hx]
    exact List.mem_range.1 (List.mem_filter.1 this).1
  · have h2 : (List.range n).filter (fun j => p j && (j != i)) = ((List.range n).filter p).filter (fun j => j != i) := by
      rw [List.filter_filter]
      congr 1
      funext j
      rw [Bool.and_comm]
    rw [h2, hAB, List.filter_append, List.filter_cons]
    have hA' : A.filter (fun j => j != i) = A := List.filter_eq_self.2 fun x hx => by have := hA x hx; simp; omega
    have hB' : B.filter (fun j => j != i) = B := List.filter_eq_self.2 fun x hx => by have := hB x hx; simp; omega
    rw [hA', hB']
    simp

/-! ### A load beside a call -/

theorem svSame_eq {a b : SV} (h : svSame a b = true) : a = b := by
  unfold svSame at h
  split at h
  · rfl
  · simp only [Bool.and_eq_true, beq_iff_eq] at h
    obtain ⟨⟨⟨rfl, rfl⟩, rfl⟩, rfl⟩ := h
    rfl
  · simp only [Bool.and_eq_true, beq_iff_eq, decide_eq_true_eq] at h
    obtain ⟨rfl, rfl⟩ := h
    rfl
  · cases h

structure PairOk (E : Env) (me : Nat) (ops : Array Oper) (j k t a d : Nat) (oj ok : Oper) : Prop where
  lt : j < k
  hj : ops[j]? = some oj
  hk : ops[k]? = some ok
  load : oj.op = .load t (.tmp a)
  dst : oj.dst = some d
  gj : oj.guard = none
  gk : ok.guard = none
  cls : cls E me ok.op = .c
  imp : ∀ T, ∃ r, impCall E me (evO E T) ok = some r
  apart : oj.apart ops ok = true
  ne : a ≠ d
  between : ∀ x, j < x → x < k → x ∈ (befs ops.toList).getD k []
  behind : ∀ x o, k < x → ops[x]? = some o → o.dst ≠ some d ∧ o.dst ≠ some a

theorem pairAt_spec {me : Nat} {ops : Array Oper} {k j t a d : Nat} (h : pairAt E me ops k = some (j, t, a, d)) : ∃ oj ok, PairOk E me ops j k t a d oj ok := by
  unfold pairAt at h
  split at h
  case h_2 => cases h
  rename_i ok hk
  split at h
  case h_2 => cases h
  rename_i f args cat h4 h5
  obtain ⟨j', hj', h⟩ := List.exists_of_findSome?_eq_some h
  split at h
  case h_2 => cases h
  rename_i oj hj
  split at h
  case h_2 => cases h
  rename_i t' a' d' h1 h2 h3
  split at h
  case isFalse => cases h
  rename_i hc
  simp only [Option.some.injEq, Prod.mk.injEq] at h
  obtain ⟨rfl, rfl, rfl, rfl⟩ := h
  obtain ⟨q1, q0, q2, q3, q4⟩ := hc
  have hkl : k < ops.size := (Array.getElem?_eq_some_iff.1 hk).1
  have hjk : j' < k := by simpa using hj'
  refine ⟨oj, ok, hjk, hj, hk, h1, h2, h3, h5, ?_, fun T => ?_, q2, q3, fun x hx hxk => ?_, fun x o hx ho => ?_⟩
  · rw [h4]
    simp only [cls]
    rw [if_pos q1]
  · refine ⟨(f, [] ++ args.toList.map (evO E T) ++ []), ?_⟩
    unfold impCall
    rw [h4]
    simp only [evO]
    rw [if_pos q1]
  · have := List.all_eq_true.1 q4 x (List.mem_range.2 (by omega))
    simpa [show ¬ x ≤ j' by omega, show ¬ x = k by omega, show ¬ k < x by omega, hxk] using this
  · have := List.all_eq_true.1 q4 x (List.mem_range.2 (Array.getElem?_eq_some_iff.1 ho).1)
    rw [ho] at this
    simpa [show ¬ x ≤ j' by omega, show ¬ x = k by omega, show ¬ x < k by omega, hx] using this

def ChkAt (E : Env) (ck : Option (Nat × Nat × Nat × Nat)) (x : Nat) (s : St) : Prop :=
  ∀ k t a d, ck = some (k, t, a, d) → x = k → ∃ v, loadS E.P s.mem.blk t (evO E s.tmps (.tmp a)) = some v ∧ svSame v (s.tmps.getD d .bad) = true

/-- Operations one behind the other; behind the call the load says what it said. -/
def ExsC (E : Env) (me : Nat) (pc : PC) (ic : IC) (n0 : Nat) (lim : Nat → Nat → Bool) (ops : Array Oper) (ck : Option (Nat × Nat × Nat × Nat)) : List Nat → St → St → Prop
  | [], s, s' => s = s'
  | x :: r, s, s' => ∃ s1, exO E me pc ic n0 lim ops x s = some s1 ∧ ChkAt E ck x s1 ∧ ExsC E me pc ic n0 lim ops ck r s1 s'

theorem ExsC_none {me n0 : Nat} {pc : PC} {ic : IC} {lim : Nat → Nat → Bool} {ops : Array Oper} : ∀ {l : List Nat} {s s' : St}, exOs E me pc ic n0 lim ops l s = some s' → ExsC E me pc ic n0 lim ops none l s s'
  | [], s, s', h => by simpa [exOs, ExsC] using h
  | x :: r, s, s', h => by
    simp only [exOs] at h
    split at h
    case h_2 => cases h
    rename_i s1 h1
    exact ⟨s1, h1, (fun k t a d h => by cases h), ExsC_none h⟩

theorem ExsC_some {me n0 : Nat} {pc : PC} {ic : IC} {lim : Nat → Nat → Bool} {ops : Array Oper} {k t a d : Nat} : ∀ {l : List Nat} {A B : List Nat} {s s1 s' : St}, l = A ++ k :: B → k ∉ A → k ∉ B →
    exOs E me pc ic n0 lim ops (A ++ [k]) s = some s1 → (∃ v, loadS E.P s1.mem.blk t (evO E s1.tmps (.tmp a)) = some v ∧ svSame v (s1.tmps.getD d .bad) = true) → exOs E me pc ic n0 lim ops l s = some s' →
    ExsC E me pc ic n0 lim ops (some (k, t, a, d)) l s s'
  | l, [], B, s, s1, s', hl, _, hB, h1, hc, h => by
    subst hl
    simp only [List.nil_append, exOs] at h h1
    split at h
    case h_2 => cases h
    rename_i s2 h2
    rw [h2] at h1
    simp only [Option.some.injEq] at h1
    subst h1
    refine ⟨s2, h2, fun k' t' a' d' he _ => ?_, ?_⟩
    · simp only [Option.some.injEq, Prod.mk.injEq] at he
      obtain ⟨_, rfl, rfl, rfl⟩ := he
      exact hc
    · clear h2 hc
      induction B generalizing s2 with
      | nil => simpa [exOs, ExsC] using h
      | cons x B ih =>
        simp only [exOs] at h
        split at h
        case h_2 => cases h
        rename_i s3 h3
        simp only [List.mem_cons, not_or] at hB
        exact ⟨s3, h3, fun k' t' a' d' he hx => by simp only [Option.some.injEq, Prod.mk.injEq] at he; exact absurd (he.1.trans hx.symm) hB.1, ih hB.2 _ h⟩
  | l, x :: A, B, s, s1, s', hl, hA, hB, h1, hc, h => by
    subst hl
    simp only [List.cons_append, exOs] at h h1
    split at h
    case h_2 => cases h
    rename_i s2 h2
    rw [h2] at h1
    simp only [List.mem_cons, not_or] at hA
    exact ⟨s2, h2, fun k' t' a' d' he hx => by simp only [Option.some.injEq, Prod.mk.injEq] at he; exact absurd (he.1.trans hx.symm) hA.1, ExsC_some rfl hA.2 hB h1 hc h⟩

/-- The call ahead of the load. -/
theorem swapLC {me n0 : Nat} {pc : PC} {ic : IC} {lim : Nat → Nat → Bool} {ops : Array Oper} {j k t a d : Nat} {oj ok : Oper} (hp : PairOk E me ops j k t a d oj ok)
    {s s1 s2 : St} (h1 : exO E me pc ic n0 lim ops j s = some s1) (h2 : exO E me pc ic n0 lim ops k s1 = some s2) (hc : ∃ v, loadS E.P s2.mem.blk t (evO E s2.tmps (.tmp a)) = some v ∧ svSame v (s2.tmps.getD d .bad) = true) :
    ∃ s1', exO E me pc ic n0 lim ops k s = some s1' ∧ exO E me pc ic n0 lim ops j s1' = some s2 := by
  obtain ⟨a1, a2, a3⟩ := Oper.apart_spec hp.apart
  have hj := hp.hj
  have hk := hp.hk
  simp only [exO_did hj, exO_did hk] at *
  have wj : ∀ T, wantS ops oj T = some true := fun T => by unfold wantS; rw [hp.gj]
  have wk : ∀ T, wantS ops ok T = some true := fun T => by unfold wantS; rw [hp.gk]
  have ij : ∀ T, impCall E me (evO E T) oj = none := fun T => by unfold impCall; rw [hp.load]
  have aj : ∀ (pc : PC) aid ρ get, act E pc aid ρ get oj = match loadS E.P get t (ρ (.tmp a)) with | some y => some (y, []) | none => none := fun pc aid ρ get => by unfold act; rw [hp.load]; rfl
  cases h1 with
  | skip hw => rw [wj] at hw; cases hw
  | imp hw hi hcc => rw [ij] at hi; cases hi
  | act hw hi ha =>
    rw [aj] at ha
    split at ha
    case h_2 => cases ha
    rename_i y hy
    simp only [Option.some.injEq, Prod.mk.injEq] at ha
    obtain ⟨rfl, rfl⟩ := ha
    cases h2 with
    | skip hw2 => rw [wk] at hw2; cases hw2
    | act hw2 hi2 ha2 =>
      obtain ⟨r, hr⟩ := hp.imp (putS s.tmps oj.dst y)
      simp only at hi2
      rw [hr] at hi2
      cases hi2
    | imp hw2 hi2 hc2 =>
      rename_i f args v M
      simp only [Mem.sets] at hc2 hi2 hc ⊢
      rw [impCall_congr (looks_ops a1)] at hi2
      refine ⟨⟨putS s.tmps ok.dst v, M⟩, .imp (wk _) hi2 hc2, ?_⟩
      have hld : evO E (putS (putS s.tmps oj.dst y) ok.dst v) (.tmp a) = evO E s.tmps (.tmp a) := by
        rw [evO_putS (fun d' hd' => ?_), evO_putS (fun d' hd' => ?_)]
        · rw [hp.dst] at hd'
          simp only [Option.some.injEq] at hd'
          subst hd'
          intro he
          simp only [Operand.tmp.injEq] at he
          exact hp.ne he
        · intro he
          simp only [Operand.tmp.injEq] at he
          subst he
          have := a3 _ hd'
          refine this ?_
          unfold Oper.looksAt
          rw [hp.load]
          simp [Op.operands]
      have hld2 : evO E (putS s.tmps ok.dst v) (.tmp a) = evO E s.tmps (.tmp a) := by
        rw [evO_putS (fun d' hd' => ?_)]
        intro he
        simp only [Operand.tmp.injEq] at he
        subst he
        have := a3 _ hd'
        refine this ?_
        unfold Oper.looksAt
        rw [hp.load]
        simp [Op.operands]
      obtain ⟨v', hv', hsame⟩ := hc
      rw [hld] at hv'
      have hvy : v' = y := by
        have h3 := svSame_eq hsame
        have h4 : (putS (putS s.tmps oj.dst y) ok.dst v).getD d .bad = y := by
          rw [← h3]
          have hdk : ∀ d', ok.dst = some d' → d' ≠ d := fun d' hd' he => by
            subst he
            exact a2 _ hp.dst hd'
          have h5 : (putS (putS s.tmps oj.dst y) ok.dst v).getD d .bad = (s.tmps.set d y).getD d .bad := by
            rw [hp.dst]
            cases hkd : ok.dst with
            | none => rfl
            | some d' => simp [putS, List.getD, List.getElem?_set, hdk d' hkd]
          rw [h5] at h3
          rw [h3]
          by_cases hlt : d < s.tmps.length
          · simp [List.getD, hlt]
          · exfalso
            have : (s.tmps.set d y).getD d .bad = SV.bad := by simp [List.getD, hlt]
            rw [this] at h3
            subst h3
            rw [h5, this] at hsame
            simp [svSame] at hsame
        rw [h4] at h3
        exact h3
      subst hvy
      rw [putS_comm _ _ _ a2]
      refine .act (u := []) (wj _) (ij _) ?_
      rw [aj]
      simp only
      rw [hld2]
      have : loadS E.P (fun id => if lim j id then M.blk id else none) t (evO E s.tmps (.tmp a)) = some v' := by
        generalize evO E s.tmps (.tmp a) = p at hy hv' ⊢
        unfold loadS at hy hv' ⊢
        cases hti : tiOf E.P t with
        | none => rw [hti] at hy; cases hy
        | some ti =>
          rw [hti] at hy hv'
          simp only at hy hv' ⊢
          cases p <;> simp only at hy hv' ⊢ <;> first | exact hv' | skip
          rename_i id i o
          cases hlim : lim j id with
          | false => simp [hlim] at hy
          | true => simpa using hv'
      rw [this]

theorem cls_p_mem {me n0 : Nat} {pc : PC} {ic : IC} {lim : Nat → Nat → Bool} {ops : Array Oper} {x : Nat} {o : Oper} (hx : ops[x]? = some o) (hc : cls E me o.op = .p) {s s' : St} (h : exO E me pc ic n0 lim ops x s = some s') :
    ∃ v, s' = ⟨putS s.tmps o.dst v, s.mem⟩ := by
  rw [exO_did hx] at h
  cases h with
  | skip hw => exact ⟨_, rfl⟩
  | imp hw hi hcc => rw [imp_cls hi] at hc; cases hc
  | act hw hi ha =>
    obtain ⟨rfl, _⟩ := act_p (get' := fun _ => none) hc ha
    exact ⟨_, rfl⟩

theorem bubbleC {me n0 : Nat} {pc : PC} {ic : IC} {lim : Nat → Nat → Bool} {ops : Array Oper} {ck : Option (Nat × Nat × Nat × Nat)} {pj : Nat} (hck : ∀ k t a d, ck = some (k, t, a, d) → pairAt E me ops k = some (pj, t, a, d)) {i : Nat} {oi : Oper} (hi : ops[i]? = some oi) :
    ∀ (A B : List Nat) (s s' : St), A.Pairwise (· < ·) → (∀ x ∈ A, x < i ∧ ∃ ox, ops[x]? = some ox ∧ x ∉ (befs ops.toList).getD i [] ∧ ((∃ t a d, ck = some (i, t, a, d) ∧ x = pj) ∨ (ox.apart ops oi = true ∧ compat (cls E me ox.op) (cls E me oi.op) = true ∧
      ((cls E me ox.op).mk = true ∨ (cls E me oi.op).mk = true → lim x (n0 + i) = false ∧ lim i (n0 + x) = false)))) →
    ExsC E me pc ic n0 lim ops ck (A ++ i :: B) s s' → ∃ s1, exO E me pc ic n0 lim ops i s = some s1 ∧ (A = [] → ChkAt E ck i s1) ∧ ExsC E me pc ic n0 lim ops ck (A ++ B) s1 s'
  | [], B, s, s', _, _, h => by
    obtain ⟨s1, h1, h2, h3⟩ := h
    exact ⟨s1, h1, fun _ => h2, h3⟩
  | x :: A, B, s, s', hpw, hA, h => by
    obtain ⟨s1, h1, h2, h3⟩ := h
    obtain ⟨hpw1, hpw2⟩ := List.pairwise_cons.1 hpw
    obtain ⟨s2, e1, e2, e3⟩ := bubbleC hck hi A B s1 s' hpw2 (fun y hy => hA y (by simp [hy])) h3
    obtain ⟨hlt, ox, hx, _, hor⟩ := hA x (by simp)
    rcases hor with ⟨t, a, d, hcki, hxi⟩ | ⟨q1, q2, q3⟩
    · obtain ⟨oj, ok, hp⟩ := pairAt_spec (hck _ _ _ _ hcki)
      subst hxi
      have hAn : A = [] := by
        cases A with
        | nil => rfl
        | cons y A =>
          have h1 := hpw1 y (by simp)
          obtain ⟨h2, oy, _, h3, _⟩ := hA y (by simp)
          exact absurd (hp.between y h1 h2) h3
      obtain ⟨s1', f1, f2⟩ := swapLC hp h1 e1 (e2 hAn _ _ _ _ hcki rfl)
      refine ⟨s1', f1, (fun h => by cases h), s2, f2, fun k' t' a' d' he hxx => ?_, e3⟩
      rw [hcki] at he
      simp only [Option.some.injEq, Prod.mk.injEq] at he
      omega
    · obtain ⟨s1', f1, f2⟩ := swap hx hi (by omega) q1 q2 q3 h1 e1
      refine ⟨s1', f1, (fun h => by cases h), s2, f2, fun k' t' a' d' he hxx => ?_, e3⟩
      obtain ⟨v, g1, g2⟩ := h2 _ _ _ _ he hxx
      obtain ⟨oj, ok, hp⟩ := pairAt_spec (hck _ _ _ _ he)
      subst hxx
      have hox : ox = ok := by
        have := hp.hk
        rw [hx] at this
        simpa using this
      subst hox
      have hcp : cls E me oi.op = .p := by
        rw [hp.cls] at q2
        cases hh : cls E me oi.op <;> rw [hh] at q2 <;> first | rfl | cases q2
      obtain ⟨u, rfl⟩ := cls_p_mem hi hcp e1
      obtain ⟨b1, b2⟩ := hp.behind i oi (by omega) hi
      refine ⟨v, ?_, ?_⟩
      · rw [evO_putS (fun d'' hd'' he' => ?_)]
        · exact g1
        · simp only [Operand.tmp.injEq] at he'
          subst he'
          exact b2 hd''
      · cases hid : oi.dst with
        | none => simpa [putS] using g2
        | some d'' =>
          have hne : d'' ≠ d' := fun e => b1 (by rw [hid, e])
          simp only [putS, List.getD, List.getElem?_set, hne, if_false]
          exact g2

theorem draw_sim {pc : PC} {ic : IC} (hpc : PCok E pc) (hic : ICok E ic) {me n0 : Nat} {ops : Array Oper} {Q : Exit → Act → World → Prop} (new : Bool) {lim : Nat → Nat → Bool}
    (hlim : new = true → lim = limOf ops n0) (hnoa : new = false → ∀ o ∈ ops.toList, makesNew E me o.op = false) {ck : Option (Nat × Nat × Nat × Nat)} {pj pk : Nat} (hck : ∀ k t a d, ck = some (k, t, a, d) → pairAt E me ops k = some (pj, t, a, d)) (hex : pj < pk → ∃ t a d, ck = some (pk, t, a, d)) (hok : drawOkX E me ops pj pk = true) :
    ∀ (fuel : Nat) (listed : Array Bool) (s s' : St) (g : Gh) (w : World) (a : Act), ((List.range ops.size).filter fun j => !listed.getD j true).length = fuel → listed.size = ops.size →
    (∀ j, listed.getD j false = true → ∀ p ∈ (befs ops.toList).getD j [], listed.getD p false = true) →
    (new = true → n0 + ops.size ≤ s.mem.next) → n0 ≤ s.mem.next →
    MR E g w s.mem (fun id => (new = true ∧ ∃ y ∈ (List.range ops.size).filter (fun j => !listed.getD j true), id = n0 + y) ∨ s.mem.next ≤ id) → VRs g w s.tmps a.tmps →
    ExsC E me pc ic n0 lim ops ck ((List.range ops.size).filter fun j => !listed.getD j true) s s' →
    (∀ g' w' a', Evo g w g' w' → MR E g' w' s'.mem (fun id => s'.mem.next ≤ id) → VRs g' w' s'.tmps a'.tmps → a'.defers = a.defers → (∀ id, id < n0 → g'.own id = g.own id) → s.mem.next ≤ s'.mem.next → Q .normal a' w') →
    wpAny E.P .any ops Q fuel listed a w := by
  intro fuel
  induction fuel with
  | zero =>
    intro listed s s' g w a hfuel hsz hcl hnew hn0 hM hT h hQ
    have hnil := List.length_eq_zero_iff.1 hfuel
    rw [hnil] at h
    simp only [ExsC] at h
    subst h
    refine ⟨?_, hQ g w a (.refl g w) (hM.weaken fun id hid => .inr hid) hT rfl (fun _ _ => rfl) (Nat.le_refl _)⟩
    cases hr : Region.ready .any ops listed with
    | nil => rfl
    | cons i rest =>
      have hi : i ∈ Region.ready .any ops listed := by rw [hr]; simp
      obtain ⟨h1, o, ho, _⟩ := mem_ready.1 hi
      have : i ∈ (List.range ops.size).filter fun j => !listed.getD j true := List.mem_filter.2 ⟨List.mem_range.2 (Array.getElem?_eq_some_iff.1 ho).1, by simp [h1]⟩
      rw [hnil] at this
      cases this
  | succ fuel ih =>
    intro listed s s' g w a hfuel hsz hcl hnew hn0 hM hT h hQ
    have hall := List.all_eq_true.1 hok
    refine ⟨fun hr => ?_, fun i hi => ?_⟩
    · -- something is left: the first of it is ready
      exfalso
      cases hL : (List.range ops.size).filter fun j => !listed.getD j true with
      | nil => rw [hL] at hfuel; cases hfuel
      | cons m rest =>
        have hm : m ∈ (List.range ops.size).filter fun j => !listed.getD j true := by rw [hL]; simp
        obtain ⟨hm1, hm2⟩ := List.mem_filter.1 hm
        have hmlt := List.mem_range.1 hm1
        have hpw : ((List.range ops.size).filter fun j => !listed.getD j true).Pairwise (· < ·) := List.Pairwise.filter _ List.pairwise_lt_range
        rw [hL] at hpw
        have hfirst : ∀ x, x < m → listed.getD x true = true := by
          intro x hx
          cases hlx : listed.getD x true with
          | true => rfl
          | false =>
            have : x ∈ (List.range ops.size).filter fun j => !listed.getD j true := List.mem_filter.2 ⟨List.mem_range.2 (by omega), by simp only [hlx]; rfl⟩
            rw [hL] at this
            rcases List.mem_cons.1 this with rfl | hin
            · omega
            · have := (List.pairwise_cons.1 hpw).1 x hin
              omega
        have hop : ops[m]? = some ops[m] := by simp [hmlt]
        have hready : m ∈ Region.ready .any ops listed := by
          refine mem_ready.2 ⟨by simpa using hm2, ops[m], hop, fun e he hb => ?_⟩
          have hj := hall m hm1
          rw [hop] at hj
          simp only [Bool.and_eq_true, List.all_eq_true] at hj
          have hlt := hj.1.1 e (by simpa using he)
          simp only [hb, Bool.not_true, Bool.false_or, decide_eq_true_eq] at hlt
          have := hfirst e.on hlt
          have hlt2 : e.on < listed.size := by omega
          simpa [Array.getD, hlt2] using this
        rw [hr] at hready
        cases hready
    · obtain ⟨h1, oi, hoi, hedges⟩ := mem_ready.1 hi
      have hilt : i < ops.size := (Array.getElem?_eq_some_iff.1 hoi).1
      have hbi : ∀ p ∈ (befs ops.toList).getD i [], listed.getD p false = true := by
        intro p hp
        have hj := hall i (List.mem_range.2 hilt)
        rw [hoi] at hj
        simp only [Bool.and_eq_true, List.all_eq_true, List.any_eq_true, Bool.or_eq_true, beq_iff_eq] at hj
        obtain ⟨e, he, hb, hpe⟩ := hj.1.2 p hp
        have hle := hedges e (by simpa using he) hb
        rcases hpe with rfl | hpe
        · exact hle
        · exact hcl e.on hle p (by simpa using hpe)
      obtain ⟨A, B, hAB, hA, hB, hAB'⟩ := left_split (p := fun j => !listed.getD j true) hilt (by simp [h1])
      have hset : ∀ j, (listed.setIfInBounds i true).getD j true = (if j = i then true else listed.getD j true) := by
        intro j
        by_cases hj : j = i
        · subst hj
          simp [Array.getD, hsz, hilt]
        · simp only [Array.getD_eq_getD_getElem?, Array.getElem?_setIfInBounds_ne (Ne.symm hj), if_neg hj]
      have hsetF : ∀ j, (listed.setIfInBounds i true).getD j false = (if j = i then true else listed.getD j false) := by
        intro j
        by_cases hj : j = i
        · subst hj
          simp [Array.getD, hsz, hilt]
        · simp only [Array.getD_eq_getD_getElem?, Array.getElem?_setIfInBounds_ne (Ne.symm hj), if_neg hj]
      have hL' : (List.range ops.size).filter (fun j => !(listed.setIfInBounds i true).getD j true) = A ++ B := by
        rw [← hAB']
        congr 1
        funext j
        rw [hset]
        by_cases hj : j = i <;> simp [hj]
      have hpwA : A.Pairwise (· < ·) := by
        have hpw : ((List.range ops.size).filter fun j => !listed.getD j true).Pairwise (· < ·) := List.Pairwise.filter _ List.pairwise_lt_range
        rw [hAB] at hpw
        exact (List.pairwise_append.1 hpw).1
      obtain ⟨s1, hs1, _, hbub⟩ := bubbleC (E := E) (me := me) (pc := pc) (ic := ic) (n0 := n0) (lim := lim) hck hoi A B s s' hpwA (fun x hx => by
        obtain ⟨hxi, hxl, hxn⟩ := hA x hx
        have hxl' : listed.getD x true = false := by simpa using hxl
        have hxnot : x ∉ (befs ops.toList).getD i [] := by
          intro hin
          have h2 := hbi x hin
          have hlt2 : x < listed.size := by omega
          simp [Array.getD, hlt2] at h2 hxl'
          rw [h2] at hxl'
          cases hxl'
        have hj := hall i (List.mem_range.2 hilt)
        simp only [Bool.and_eq_true, List.all_eq_true] at hj
        have hpair := hj.2 x (List.mem_range.2 hxi)
        have hox : ops[x]? = some ops[x] := by simp [hxn]
        unfold okPair at hpair
        rw [hox, hoi] at hpair
        have hc1 : ((befs ops.toList).getD i []).contains x = false := by simpa using hxnot
        rw [hc1] at hpair
        simp only [Bool.false_or, Bool.and_eq_true, Bool.not_eq_true', Bool.or_eq_true, beq_iff_eq] at hpair
        refine ⟨hxi, ops[x], hox, hxnot, ?_⟩
        rcases hpair with hpair | ⟨hpx, hpi⟩
        case inr =>
          obtain ⟨t, a, d, hckx⟩ := hex (by omega)
          exact .inl ⟨t, a, d, hpi ▸ hckx, hpx⟩
        refine .inr ⟨hpair.2.1, hpair.2.2, fun hcls => ?_⟩
        cases hn : new with
        | false =>
          have hna := hnoa hn
          exfalso
          rcases hcls with hc | hc
          · have := hna ops[x] (by simp)
            cases hk : cls E me ops[x].op <;> rw [hk] at hc <;> first | (cases hc; done) | (simp [makesNew, hk] at this)
          · have := hna oi (Array.mem_toList_iff.2 (Array.mem_of_getElem? hoi))
            cases hk : cls E me oi.op <;> rw [hk] at hc <;> first | (cases hc; done) | (simp [makesNew, hk] at this)
        | true =>
          rw [hlim hn]
          have hc2 : ((befs ops.toList).getD x []).contains i = false := hpair.1
          constructor
          · simp only [limOf, Nat.add_sub_cancel_left, hc2, Bool.or_false]
            simp
            omega
          · simp only [limOf, Nat.add_sub_cancel_left, hc1, Bool.or_false]
            simp
            omega) (by rw [← hAB]; exact h)
      refine exO_sim hpc hic hM (fun id hid => .inr hid) hn0 hT (fun o ho hno => ?_) hs1 (fun g1 w1 a1 evo hM1 hT1 hd hown hle => ?_)
      · cases hn : new with
        | false =>
          have := hnoa hn o (Array.mem_toList_iff.2 (Array.mem_of_getElem? ho))
          rw [makesNew_of_newOp hno] at this
          cases this
        | true =>
          have := hnew hn
          exact ⟨.inl ⟨rfl, i, by rw [hAB]; simp, rfl⟩, by omega⟩
      · have hnd : (A ++ i :: B).Nodup := by
          rw [← hAB]
          exact List.Pairwise.filter _ List.nodup_range
        have hni : i ∉ A ++ B := by
          have := List.nodup_append.1 hnd
          intro hin
          rcases List.mem_append.1 hin with hin | hin
          · exact this.2.2 i hin i (by simp) rfl
          · exact (List.nodup_cons.1 this.2.1).1 hin
        refine ih (listed.setIfInBounds i true) s1 s' g1 w1 a1 ?_ (by simpa using hsz) (fun j hj p hp => ?_) (fun hn => Nat.le_trans (hnew hn) hle) (Nat.le_trans hn0 hle) ?_ hT1 (by rw [hL']; exact hbub)
          (fun g2 w2 a2 evo2 hM2 hT2 hd2 hown2 hle2 => hQ g2 w2 a2 (evo.trans evo2) hM2 hT2 (hd2.trans hd) (fun id hid => (hown2 id hid).trans (hown id hid)) (Nat.le_trans hle hle2))
        · rw [hL']
          have : (A ++ i :: B).length = fuel + 1 := by rw [← hAB]; exact hfuel
          simp at this ⊢
          omega
        · rw [hsetF] at hj ⊢
          by_cases hpi : p = i
          · simp [hpi]
          · rw [if_neg hpi]
            by_cases hji : j = i
            · subst hji
              exact hbi p hp
            · rw [if_neg hji] at hj
              exact hcl j hj p hp
        · rw [hL']
          refine hM1.weaken fun id hid => ?_
          rcases hid with ⟨hn, y, hy, rfl⟩ | hid
          · refine .inl ⟨.inl ⟨hn, y, by rw [hAB]; rcases List.mem_append.1 hy with hy | hy <;> simp [hy], rfl⟩, fun he => ?_, ?_⟩
            · have : y = i := by omega
              subst this
              exact hni hy
            · have := hnew hn
              have hylt : y < ops.size := by
                rcases List.mem_append.1 hy with hy | hy
                · exact (hA y hy).2.2
                · exact hB y hy
              omega
          · exact .inr hid


/-- What an operation of a region may see. -/
def limR (E : Env) (me : Nat) (ops : Array Oper) (draw : Bool) (n0 : Nat) : Nat → Nat → Bool :=
  if (draw && ops.any fun o => makesNew E me o.op) = true then limOf ops n0 else fun _ _ => true

/-- Where a region begins. -/
def begR (E : Env) (me : Nat) (ops : Array Oper) (s : St) : St := if (ops.any fun o => makesNew E me o.op) = true then ⟨s.tmps, ⟨s.mem.blk, s.mem.next + ops.size⟩⟩ else s

theorem regX_sim {pc : PC} {ic : IC} (hmix : E.P.follows .mixedOrders = true) (hpc : PCok E pc) (hic : ICok E ic) {me id : Nat} {ops : Array Oper} {s s' : St} {a : Act} {Q : Exit → Act → World → Prop}
    {ck : Option (Nat × Nat × Nat × Nat)} {pj pk : Nat} (hck : ∀ k t a d, ck = some (k, t, a, d) → pairAt E me ops k = some (pj, t, a, d)) (hex : pj < pk → ∃ t a d, ck = some (pk, t, a, d)) (hok : drawOkX E me ops pj pk = true)
    (hM : MR E g w s.mem (fun id => s.mem.next ≤ id)) (hT : VRs g w s.tmps a.tmps) (h : ExsC E me pc ic s.mem.next (limR E me ops true s.mem.next) ops ck (List.range ops.size) (begR E me ops s) s')
    (hQ : ∀ g' w' a', Evo g w g' w' → MR E g' w' s'.mem (fun id => s'.mem.next ≤ id) → VRs g' w' s'.tmps a'.tmps → a'.defers = a.defers → (∀ id, id < s.mem.next → g'.own id = g.own id) → s.mem.next ≤ s'.mem.next → Q .normal a' w') :
    (Code.region id ops true).wp E.P Q a w := by
  unfold begR at h
  have hM1 : ∀ new : Bool, MR E g w (if new then (⟨s.tmps, ⟨s.mem.blk, s.mem.next + ops.size⟩⟩ : St) else s).mem (fun id => (new = true ∧ ∃ y ∈ List.range ops.size, id = s.mem.next + y) ∨ (if new then (⟨s.tmps, ⟨s.mem.blk, s.mem.next + ops.size⟩⟩ : St) else s).mem.next ≤ id) := by
    intro new
    cases new with
    | false => exact hM.weaken fun id hid => by simpa using hid
    | true =>
      refine (hM.of_next (s.mem.next + ops.size)).weaken fun id hid => ?_
      rcases hid with ⟨_, y, _, rfl⟩ | hid
      · omega
      · simp at hid; omega
  have hnew0 : ops.any (fun o => makesNew E me o.op) = false → ∀ o ∈ ops.toList, makesNew E me o.op = false := by
    intro hf o ho
    have := Array.any_eq_false.1 hf
    obtain ⟨k, hk, rfl⟩ := Array.mem_iff_getElem.1 (by simpa using ho)
    have := this k hk
    simpa using this
  have hnx : ops.any (fun o => makesNew E me o.op) = true → s.mem.next + ops.size ≤ (if ops.any (fun o => makesNew E me o.op) then (⟨s.tmps, ⟨s.mem.blk, s.mem.next + ops.size⟩⟩ : St) else s).mem.next := by
    intro ht
    rw [if_pos ht]
    exact Nat.le_refl _
  have hle : s.mem.next ≤ (if ops.any (fun o => makesNew E me o.op) then (⟨s.tmps, ⟨s.mem.blk, s.mem.next + ops.size⟩⟩ : St) else s).mem.next := by
    split
    · simp
    · exact Nat.le_refl _
  have hT1 : VRs g w (if ops.any (fun o => makesNew E me o.op) then (⟨s.tmps, ⟨s.mem.blk, s.mem.next + ops.size⟩⟩ : St) else s).tmps a.tmps := by
    split <;> exact hT
  have hfin : ∀ g' w' a', Evo g w g' w' → MR E g' w' s'.mem (fun id => s'.mem.next ≤ id) → VRs g' w' s'.tmps a'.tmps → a'.defers = a.defers → (∀ id, id < s.mem.next → g'.own id = g.own id) →
      (if ops.any (fun o => makesNew E me o.op) then (⟨s.tmps, ⟨s.mem.blk, s.mem.next + ops.size⟩⟩ : St) else s).mem.next ≤ s'.mem.next → Q .normal a' w' :=
    fun g' w' a' e1 e2 e3 e4 e5 e6 => hQ g' w' a' e1 e2 e3 e4 e5 (Nat.le_trans hle e6)
  refine wp_region_any hmix ?_
  have hL : (List.range ops.size).filter (fun j => !(Array.replicate ops.size false).getD j true) = List.range ops.size := by
    refine List.filter_eq_self.2 fun j hj => ?_
    have := List.mem_range.1 hj
    simp [Array.getD, this]
  have hd := evo_drew g w
  refine draw_sim hpc hic (me := me) (n0 := s.mem.next) (ops.any fun o => makesNew E me o.op) (lim := limR E me ops true s.mem.next) (fun hn => by simp [limR, hn]) hnew0 hck hex hok ops.size (Array.replicate ops.size false) _ s' g w.drew a
    (by rw [hL]; simp) (by simp) (fun j hj => by
      exfalso
      simp only [Array.getD_eq_getD_getElem?, Array.getElem?_replicate] at hj
      split at hj <;> simp at hj) hnx hle (by rw [hL]; exact (hM1 _).drew) (hT1.mono hM.good hd) (by rw [hL]; exact h)
    (fun g' w' a' e1 e2 e3 e4 e5 e6 => hfin g' w' a' (hd.trans e1) e2 e3 e4 e5 e6)

theorem regS0_sim {pc : PC} {ic : IC} (hmix : E.P.follows .mixedOrders = true) (hpc : PCok E pc) (hic : ICok E ic) {me id : Nat} {ops : Array Oper} {draw : Bool} {s s' : St} {a : Act} {Q : Exit → Act → World → Prop}
    (hM : MR E g w s.mem (fun id => s.mem.next ≤ id)) (hT : VRs g w s.tmps a.tmps) (h : regS0 E me pc ic ops draw s = some s')
    (hQ : ∀ g' w' a', Evo g w g' w' → MR E g' w' s'.mem (fun id => s'.mem.next ≤ id) → VRs g' w' s'.tmps a'.tmps → a'.defers = a.defers → (∀ id, id < s.mem.next → g'.own id = g.own id) → s.mem.next ≤ s'.mem.next → Q .normal a' w') :
    (Code.region id ops draw).wp E.P Q a w := by
  unfold regS0 at h
  simp only at h
  split at h
  · cases h
  rename_i hdr
  have hM1 : ∀ new : Bool, MR E g w (if new then (⟨s.tmps, ⟨s.mem.blk, s.mem.next + ops.size⟩⟩ : St) else s).mem (fun id => (new = true ∧ ∃ y ∈ List.range ops.size, id = s.mem.next + y) ∨ (if new then (⟨s.tmps, ⟨s.mem.blk, s.mem.next + ops.size⟩⟩ : St) else s).mem.next ≤ id) := by
    intro new
    cases new with
    | false => exact hM.weaken fun id hid => by simpa using hid
    | true =>
      refine (hM.of_next (s.mem.next + ops.size)).weaken fun id hid => ?_
      rcases hid with ⟨_, y, _, rfl⟩ | hid
      · omega
      · simp at hid; omega
  have hnew0 : ops.any (fun o => makesNew E me o.op) = false → ∀ o ∈ ops.toList, makesNew E me o.op = false := by
    intro hf o ho
    have := Array.any_eq_false.1 hf
    obtain ⟨k, hk, rfl⟩ := Array.mem_iff_getElem.1 (by simpa using ho)
    have := this k hk
    simpa using this
  have hnx : ops.any (fun o => makesNew E me o.op) = true → s.mem.next + ops.size ≤ (if ops.any (fun o => makesNew E me o.op) then (⟨s.tmps, ⟨s.mem.blk, s.mem.next + ops.size⟩⟩ : St) else s).mem.next := by
    intro ht
    rw [if_pos ht]
    exact Nat.le_refl _
  have hle : s.mem.next ≤ (if ops.any (fun o => makesNew E me o.op) then (⟨s.tmps, ⟨s.mem.blk, s.mem.next + ops.size⟩⟩ : St) else s).mem.next := by
    split
    · simp
    · exact Nat.le_refl _
  have hT1 : VRs g w (if ops.any (fun o => makesNew E me o.op) then (⟨s.tmps, ⟨s.mem.blk, s.mem.next + ops.size⟩⟩ : St) else s).tmps a.tmps := by
    split <;> exact hT
  have hfin : ∀ g' w' a', Evo g w g' w' → MR E g' w' s'.mem (fun id => s'.mem.next ≤ id) → VRs g' w' s'.tmps a'.tmps → a'.defers = a.defers → (∀ id, id < s.mem.next → g'.own id = g.own id) →
      (if ops.any (fun o => makesNew E me o.op) then (⟨s.tmps, ⟨s.mem.blk, s.mem.next + ops.size⟩⟩ : St) else s).mem.next ≤ s'.mem.next → Q .normal a' w' :=
    fun g' w' a' e1 e2 e3 e4 e5 e6 => hQ g' w' a' e1 e2 e3 e4 e5 (Nat.le_trans hle e6)
  cases draw with
  | false =>
    refine wp_region ?_
    exact exOs_sim hpc hic (ops.any fun o => makesNew E me o.op) (List.range ops.size) _ s' g w a List.nodup_range (fun y hy => List.mem_range.1 hy) hnx
      (fun hf y hy o ho => by
        cases hno : newOp o.op with
        | false => rfl
        | true =>
          have := hnew0 hf o (Array.mem_toList_iff.2 (Array.mem_of_getElem? ho))
          rw [makesNew_of_newOp hno] at this
          cases this) hle (hM1 _) hT1 h hfin
  | true =>
    have hok : drawOk E me ops = true := by simpa using hdr
    refine regX_sim hmix hpc hic (ck := none) (pj := 1) (pk := 0) (fun k t a d h => by cases h) (fun hi => by omega) hok hM hT (ExsC_none ?_) hQ
    exact h

def Ex.real : Ex → Exit
  | .normal => .normal
  | .exit id => .exit id
  | .ret => .ret

theorem VRs.forget {T' : Array Value} : ∀ (l : List Nat) {T : List SV}, VRs g w T T' → VRs g w (Go.Proofs.YtbdliphlolajaaaDoor.Sh.forget l T) T'
  | [], T, h => h
  | d :: r, T, h => VRs.forget r ⟨by simp [h.1], fun k x v hx hv => by
      rw [List.getElem?_set] at hx
      split at hx
      · split at hx
        · simp only [Option.some.injEq] at hx
          subst hx
          exact .bad v
        · cases hx
      · exact h.2 k x v hx hv⟩

theorem actOf_eq {pc : PC} {a : Nat} {ρ : Operand → SV} {get : Nat → Option (List SV)} (o : Oper) : actOf E pc a ρ get o.op = act E pc a ρ get o := by
  unfold actOf act
  rfl

theorem impOf_eq {me : Nat} {ρ : Operand → SV} (o : Oper) : impOf E me ρ o.op = impCall E me ρ o := by
  unfold impOf impCall
  rfl

theorem wantI_eq {ops : Array Oper} {o : Oper} {T : List SV} {l : Option (List Nat)} : wantI ⟨o.dst, o.op, guardAt ops o.guard, l⟩ T = wantS ops o T := by
  unfold wantI wantS yieldS guardAt
  cases o.guard with
  | none => rfl
  | some q =>
    obtain ⟨j, w⟩ := q
    simp only
    split <;> rename_i h <;> simp only [h] <;> rfl

theorem exL_eq {me n0 : Nat} {pc : PC} {ic : IC} {ops : Array Oper} {lims : Option (List (List Nat))} {lim : Nat → Nat → Bool}
    (hl : ∀ x M, seenM M n0 ops.size (limAt lims x) = fun id => if lim x id then M.blk id else none) :
    ∀ (l : List Oper) (k : Nat) (s : St), (∀ j o, l[j]? = some o → ops[k + j]? = some o) → exL E me pc ic n0 ops.size k (insFrom ops lims k l) s = exOs E me pc ic n0 lim ops (List.range' k l.length) s
  | [], k, s, h => rfl
  | o :: r, k, s, h => by
    have hk : ops[k]? = some o := h 0 o rfl
    have hr : ∀ j o', r[j]? = some o' → ops[k + 1 + j]? = some o' := fun j o' hj => by
      have := h (j + 1) o' (by simpa using hj)
      rwa [show k + 1 + j = k + (j + 1) by omega]
    have h1 : ∀ i : Ins, i = ⟨o.dst, o.op, guardAt ops o.guard, limAt lims k⟩ → exI E me pc ic n0 ops.size k i s = exO E me pc ic n0 lim ops k s := by
      rintro i rfl
      unfold exI exO
      simp only [hk, wantI_eq, actOf_eq, impOf_eq, hl]
    simp only [insFrom, exL, List.length_cons, List.range'_succ, exOs]
    rw [h1 _ rfl]
    split
    · exact exL_eq hl r (k + 1) _ hr
    · rfl

theorem seen_limR {me : Nat} {ops : Array Oper} {draw : Bool} {n0 : Nat} (x : Nat) (M : Mem) :
    seenM M n0 ops.size (limAt (if (draw && ops.any fun o => makesNew E me o.op) = true then some (befs ops.toList) else none) x) = fun id => if limR E me ops draw n0 x id then M.blk id else none := by
  unfold limR
  cases hn : (draw && ops.any fun o => makesNew E me o.op) with
  | false =>
    funext id
    simp [seenM, limAt]
  | true =>
    funext id
    simp [seenM, limOf, limAt]

theorem begR_eq {me : Nat} {ops : Array Oper} (s : St) : (⟨s.tmps, ⟨s.mem.blk, s.mem.next + if (ops.any fun o => makesNew E me o.op) = true then ops.size else 0⟩⟩ : St) = begR E me ops s := by
  unfold begR
  split
  · rfl
  · obtain ⟨T, b, x⟩ := s; rfl

theorem regL_raw {me id : Nat} {pc : PC} {ic : IC} {ops : Array Oper} {draw : Bool} (s : St) :
    exL E me pc ic s.mem.next (riRaw E me id ops draw).size 0 (riRaw E me id ops draw).ops ⟨s.tmps, ⟨s.mem.blk, s.mem.next + (riRaw E me id ops draw).adv⟩⟩ = exOs E me pc ic s.mem.next (limR E me ops draw s.mem.next) ops (List.range ops.size) (begR E me ops s) := by
  unfold riRaw
  simp only
  rw [exL_eq (lim := limR E me ops draw s.mem.next) (fun x M => seen_limR x M) ops.toList 0 _ (fun j o h => by simpa using h), begR_eq]
  rw [show List.range' 0 ops.toList.length = List.range ops.size by rw [List.range_eq_range']; simp]

theorem regL_pre {me k : Nat} {pc : PC} {ic : IC} {ops : Array Oper} {draw : Bool} (hk : k < ops.size) (s : St) :
    exL E me pc ic s.mem.next (riPre E me ops draw k).size 0 (riPre E me ops draw k).ops ⟨s.tmps, ⟨s.mem.blk, s.mem.next + (riPre E me ops draw k).adv⟩⟩ = exOs E me pc ic s.mem.next (limR E me ops draw s.mem.next) ops (List.range (k + 1)) (begR E me ops s) := by
  unfold riPre
  simp only
  rw [exL_eq (lim := limR E me ops draw s.mem.next) (fun x M => seen_limR x M) (ops.toList.take (k + 1)) 0 _ (fun j o h => by
    have := List.getElem?_take (l := ops.toList) (i := k + 1) (j := j)
    rw [h] at this
    split at this
    · simpa using this.symm
    · cases this), begR_eq]
  rw [show List.range' 0 (ops.toList.take (k + 1)).length = List.range (k + 1) by rw [List.range_eq_range']; simp; omega]

theorem regL_eq {me id : Nat} {pc : PC} {ic : IC} {ops : Array Oper} {draw : Bool} {ri : RI} (h : riOf E me id ops draw = some ri) (s : St) :
    exL E me pc ic s.mem.next ri.size 0 ri.ops ⟨s.tmps, ⟨s.mem.blk, s.mem.next + ri.adv⟩⟩ = regS0 E me pc ic ops draw s := by
  unfold riOf at h
  split at h
  · cases h
  rename_i hd
  simp only [Option.some.injEq] at h
  subst h
  rw [regL_raw]
  unfold regS0
  simp only
  rw [if_neg hd]
  rfl

theorem regS_sim {pc : PC} {ic : IC} (hmix : E.P.follows .mixedOrders = true) (hpc : PCok E pc) (hic : ICok E ic) {me id : Nat} {ops : Array Oper} {draw : Bool} {ri : RI} {s s' : St} {a : Act} {Q : Exit → Act → World → Prop}
    (hri : riOf E me id ops draw = some ri) (hM : MR E g w s.mem (fun id => s.mem.next ≤ id)) (hT : VRs g w s.tmps a.tmps) (h : regS E me pc ic ri s = some s')
    (hQ : ∀ g' w' a', Evo g w g' w' → MR E g' w' s'.mem (fun id => s'.mem.next ≤ id) → VRs g' w' s'.tmps a'.tmps → a'.defers = a.defers → (∀ id, id < s.mem.next → g'.own id = g.own id) → s.mem.next ≤ s'.mem.next → Q .normal a' w') :
    (Code.region id ops draw).wp E.P Q a w := by
  unfold regS at h
  rw [regL_eq hri] at h
  split at h
  case h_2 => cases h
  rename_i s1 hs
  simp only [Option.some.injEq] at h
  subst h
  exact regS0_sim hmix hpc hic hM hT hs fun g' w' a' e1 e2 e3 e4 e5 e6 => hQ g' w' a' e1 e2 (e3.forget _) e4 e5 e6

/-- What a region must keep for code to run. -/
def RegOk (E : Env) (me : Nat) (reg : RI → St → Option St) : Prop := ∀ (id : Nat) (ops : Array Oper) (draw : Bool) (ri : RI) (s s' : St) (g : Gh) (w : World) (a : Act) (Q : Exit → Act → World → Prop),
  riOf E me id ops draw = some ri → MR E g w s.mem (fun id => s.mem.next ≤ id) → VRs g w s.tmps a.tmps → reg ri s = some s' →
  (∀ g' w' a', Evo g w g' w' → MR E g' w' s'.mem (fun id => s'.mem.next ≤ id) → VRs g' w' s'.tmps a'.tmps → a'.defers = a.defers → (∀ id, id < s.mem.next → g'.own id = g.own id) → s.mem.next ≤ s'.mem.next → Q .normal a' w') →
  (Code.region id ops draw).wp E.P Q a w

/-- The same of a region with a load beside a call. -/
def RegOkX (E : Env) (me : Nat) (reg : RI → St → Option St) : Prop := ∀ (id j k t x d : Nat) (ops : Array Oper) (s s1 s' : St) (v : SV) (g : Gh) (w : World) (a : Act) (Q : Exit → Act → World → Prop),
  pairAt E me ops k = some (j, t, x, d) → drawOkX E me ops j k = true → MR E g w s.mem (fun id => s.mem.next ≤ id) → VRs g w s.tmps a.tmps → reg (riPre E me ops true k) s = some s1 →
  loadS E.P s1.mem.blk t (evO E s1.tmps (.tmp x)) = some v → svSame v (s1.tmps.getD d .bad) = true → reg (riRaw E me id ops true) s = some s' →
  (∀ g' w' a', Evo g w g' w' → MR E g' w' s'.mem (fun id => s'.mem.next ≤ id) → VRs g' w' s'.tmps a'.tmps → a'.defers = a.defers → (∀ id, id < s.mem.next → g'.own id = g.own id) → s.mem.next ≤ s'.mem.next → Q .normal a' w') →
  (Code.region id ops true).wp E.P Q a w

theorem regSX_sim {pc : PC} {ic : IC} (hmix : E.P.follows .mixedOrders = true) (hpc : PCok E pc) (hic : ICok E ic) {me : Nat} : RegOkX E me (regS E me pc ic) := by
  intro id j k t x d ops s s1 s' v g w a Q hk hok hM hT h1 hv hs h hQ
  obtain ⟨oj, ok, hp⟩ := pairAt_spec hk
  have hlt : k < ops.size := (Array.getElem?_eq_some_iff.1 hp.hk).1
  unfold regS at h h1
  rw [regL_raw] at h
  rw [regL_pre hlt] at h1
  split at h
  case h_2 => cases h
  rename_i r hr
  simp only [Option.some.injEq] at h
  subst h
  split at h1
  case h_2 => cases h1
  rename_i r1 hr1
  simp only [Option.some.injEq] at h1
  subst h1
  have hsplit : List.range ops.size = List.range k ++ k :: (List.range' (k + 1) (ops.size - (k + 1))) := by
    have h2 : List.range ops.size = List.range' 0 k ++ List.range' k (ops.size - k) := by
      rw [List.range_eq_range']
      rw [show ops.size = k + (ops.size - k) by omega, ← List.range'_append_1]
      simp
    rw [h2, List.range_eq_range']
    congr 1
    rw [show ops.size - k = (ops.size - (k + 1)) + 1 by omega, List.range'_succ]
  refine regX_sim hmix hpc hic (ck := some (k, t, x, d)) (pj := j) (pk := k) (fun k' t' x' d' he => ?_) (fun _ => ⟨t, x, d, rfl⟩) hok hM hT (ExsC_some (A := List.range k) (B := List.range' (k + 1) (ops.size - (k + 1))) hsplit (by simp) (by simp only [List.mem_range'_1]; omega) (by rw [← List.range_succ]; exact hr1) ⟨v, hv, hs⟩ hr) (fun g' w' a' e1 e2 e3 e4 e5 e6 => hQ g' w' a' e1 e2 (e3.forget _) e4 e5 e6)
  simp only [Option.some.injEq, Prod.mk.injEq] at he
  obtain ⟨rfl, rfl, rfl, rfl⟩ := he
  exact hk

theorem evC_sim {me : Nat} {reg : RI → St → Option St} (hreg : RegOk E me reg) (hregX : RegOkX E me reg) : ∀ (n : Nat),
    (∀ (c : Code) (s s' : St) (e : Ex) (g : Gh) (w : World) (a : Act) (Q : Exit → Act → World → Prop), evC E reg n (comp E me c) s = some (e, s') → MR E g w s.mem (fun id => s.mem.next ≤ id) → VRs g w s.tmps a.tmps →
      (∀ g' w' a', Evo g w g' w' → MR E g' w' s'.mem (fun id => s'.mem.next ≤ id) → VRs g' w' s'.tmps a'.tmps → a'.defers = a.defers → (∀ id, id < s.mem.next → g'.own id = g.own id) → s.mem.next ≤ s'.mem.next → Q e.real a' w') →
      c.wp E.P Q a w) ∧
    (∀ (b : Code) (s s' : St) (e : Ex) (g : Gh) (w : World) (a : Act) (Q : Exit → Act → World → Prop), evC E reg n (comp E me (.loop b)) s = some (e, s') → MR E g w s.mem (fun id => s.mem.next ≤ id) → VRs g w s.tmps a.tmps →
      (∀ g' w' a', Evo g w g' w' → MR E g' w' s'.mem (fun id => s'.mem.next ≤ id) → VRs g' w' s'.tmps a'.tmps → a'.defers = a.defers → (∀ id, id < s.mem.next → g'.own id = g.own id) → s.mem.next ≤ s'.mem.next → Q e.real a' w') →
      Code.rounds E.P b Q n a w) := by
  intro n
  induction n with
  | zero => exact ⟨fun c s s' e g w a Q h => by simp [comp, evC] at h, fun b s s' e g w a Q h => by simp [comp, evC] at h⟩
  | succ n ih =>
    obtain ⟨ihP, ihR⟩ := ih
    have hR : ∀ (b : Code) (s s' : St) (e : Ex) (g : Gh) (w : World) (a : Act) (Q : Exit → Act → World → Prop), evC E reg (n + 1) (comp E me (.loop b)) s = some (e, s') → MR E g w s.mem (fun id => s.mem.next ≤ id) → VRs g w s.tmps a.tmps →
        (∀ g' w' a', Evo g w g' w' → MR E g' w' s'.mem (fun id => s'.mem.next ≤ id) → VRs g' w' s'.tmps a'.tmps → a'.defers = a.defers → (∀ id, id < s.mem.next → g'.own id = g.own id) → s.mem.next ≤ s'.mem.next → Q e.real a' w') →
        Code.rounds E.P b Q (n + 1) a w := by
      intro b s s' e g w a Q h hM hT hQ
      rw [rounds_succ]
      simp only [comp, evC] at h
      split at h
      · rename_i s1 hs1
        refine ihP b s s1 .normal g w a _ hs1 hM hT (fun g1 w1 a1 e1 e2 e3 e4 e5 e6 => ?_)
        exact ihR b s1 s' e g1 w1 a1 Q h e2 e3 (fun g2 w2 a2 f1 f2 f3 f4 f5 f6 => hQ g2 w2 a2 (e1.trans f1) f2 f3 (f4.trans e4) (fun id hid => (f5 id (Nat.lt_of_lt_of_le hid e6)).trans (e5 id hid)) (Nat.le_trans e6 f6))
      · rename_i hnn
        refine ihP b s s' e g w a _ h hM hT (fun g1 w1 a1 e1 e2 e3 e4 e5 e6 => ?_)
        have := hQ g1 w1 a1 e1 e2 e3 e4 e5 e6
        cases e with
        | normal => exact (hnn s' h).elim
        | exit id => exact this
        | ret => exact this
    refine ⟨fun c s s' e g w a Q h hM hT hQ => ?_, hR⟩
    cases c with
    | skip =>
      simp only [comp, evC, Option.some.injEq, Prod.mk.injEq] at h
      obtain ⟨rfl, rfl⟩ := h
      exact wp_skip (hQ g w a (.refl g w) hM hT rfl (fun _ _ => rfl) (Nat.le_refl _))
    | label l =>
      simp only [comp, evC, Option.some.injEq, Prod.mk.injEq] at h
      obtain ⟨rfl, rfl⟩ := h
      exact wp_label (hQ g w a (.refl g w) hM hT rfl (fun _ _ => rfl) (Nat.le_refl _))
    | region id ops draw =>
      simp only [comp] at h
      cases hri : riOf E me id ops draw with
      | none =>
        simp only [hri] at h
        cases hexo : exOf E me ops with
        | none => simp [hexo, evC] at h
        | some k =>
        cases hpa : pairAt E me ops k with
        | none => simp [hexo, hpa, evC] at h
        | some q =>
        obtain ⟨j, t, x, d⟩ := q
        have hdraw : draw = true := by
          unfold riOf at hri
          cases draw with
          | false => simp at hri
          | true => rfl
        subst hdraw
        have hokx : drawOkX E me ops j k = true := by
          have := List.find?_some hexo
          simp only [hpa] at this
          exact this
        simp only [hexo, hpa, evC] at h
        cases n with
        | zero => simp [evC] at h
        | succ n =>
        simp only [evC] at h
        cases h1 : reg (riPre E me ops true k) s with
        | none => simp [h1] at h
        | some s1 =>
        simp only [h1] at h
        cases hv : loadS E.P s1.mem.blk t (evO E s1.tmps (.tmp x)) with
        | none => simp [hv] at h
        | some v =>
        simp only [hv] at h
        cases hs : svSame v (s1.tmps.getD d .bad) with
        | false => rw [hs] at h; simp at h
        | true =>
        simp only [hs, if_true] at h
        split at h
        case h_2 => cases h
        rename_i s2 hs2
        simp only [Option.some.injEq, Prod.mk.injEq] at h
        obtain ⟨rfl, rfl⟩ := h
        exact hregX id j k t x d ops s s1 s2 v g w a Q hpa hokx hM hT h1 hv hs hs2 hQ
      | some ri =>
      simp only [hri, evC] at h
      split at h
      case h_2 => cases h
      rename_i s1 hs1
      simp only [Option.some.injEq, Prod.mk.injEq] at h
      obtain ⟨rfl, rfl⟩ := h
      exact hreg id ops draw ri s s1 g w a Q hri hM hT hs1 hQ
    | seq x y =>
      simp only [comp, evC] at h
      refine wp_seq ?_
      split at h
      · rename_i s1 hs1
        refine ihP x s s1 .normal g w a _ hs1 hM hT (fun g1 w1 a1 e1 e2 e3 e4 e5 e6 => ?_)
        exact ihP y s1 s' e g1 w1 a1 Q h e2 e3 (fun g2 w2 a2 f1 f2 f3 f4 f5 f6 => hQ g2 w2 a2 (e1.trans f1) f2 f3 (f4.trans e4) (fun id hid => (f5 id (Nat.lt_of_lt_of_le hid e6)).trans (e5 id hid)) (Nat.le_trans e6 f6))
      · rename_i hnn
        refine ihP x s s' e g w a _ h hM hT (fun g1 w1 a1 e1 e2 e3 e4 e5 e6 => ?_)
        have := hQ g1 w1 a1 e1 e2 e3 e4 e5 e6
        cases e with
        | normal => exact (hnn s' h).elim
        | exit id => exact this
        | ret => exact this
    | cond c x y =>
      simp only [comp, evC] at h
      split at h
      case h_2 => cases h
      rename_i t ht
      have hc := evO_rel hM.glob hT c
      rw [ht] at hc
      exact wp_cond hc.bool_inv (ihP _ s s' e g w a Q (by cases t <;> exact h) hM hT hQ)
    | block id b =>
      simp only [comp, evC] at h
      refine wp_block ?_
      split at h
      · rename_i id' s1 hs1
        refine ihP b s s1 (.exit id') g w a _ hs1 hM hT (fun g1 w1 a1 e1 e2 e3 e4 e5 e6 => ?_)
        show Exit.inBlock id Q (.exit id') a1 w1
        simp only [Exit.inBlock]
        split at h
        · rename_i he
          rw [if_pos he]
          simp only [Option.some.injEq, Prod.mk.injEq] at h
          obtain ⟨rfl, rfl⟩ := h
          exact hQ g1 w1 a1 e1 e2 e3 e4 e5 e6
        · rename_i he
          rw [if_neg he]
          simp only [Option.some.injEq, Prod.mk.injEq] at h
          obtain ⟨rfl, rfl⟩ := h
          exact hQ g1 w1 a1 e1 e2 e3 e4 e5 e6
      · rename_i hnn
        refine ihP b s s' e g w a _ h hM hT (fun g1 w1 a1 e1 e2 e3 e4 e5 e6 => ?_)
        have := hQ g1 w1 a1 e1 e2 e3 e4 e5 e6
        cases e with
        | normal => exact this
        | exit id' => exact (hnn id' s' h).elim
        | ret => exact this
    | loop b => exact wp_loop_rounds (n + 1) (hR b s s' e g w a Q h hM hT hQ)
    | exit id =>
      simp only [comp, evC, Option.some.injEq, Prod.mk.injEq] at h
      obtain ⟨rfl, rfl⟩ := h
      exact wp_exit (hQ g w a (.refl g w) hM hT rfl (fun _ _ => rfl) (Nat.le_refl _))
    | ret =>
      simp only [comp, evC, Option.some.injEq, Prod.mk.injEq] at h
      obtain ⟨rfl, rfl⟩ := h
      exact wp_ret (hQ g w a (.refl g w) hM hT rfl (fun _ _ => rfl) (Nat.le_refl _))
    | rangeFunc f p x y => simp [comp, evC] at h
    | scope b => simp [comp, evC] at h
    | goto l => simp [comp, evC] at h
    | refuse why => simp [comp, evC] at h

/-! ### Functions -/

theorem loadS_ptr {get : Nat → Option (List SV)} {t : Nat} {p r : SV} {p' : Value} (hp : VR g w p p') (h : loadS P get t p = some r) : ∃ ad, p' = .pointer (some ad) := by
  unfold loadS at h
  split at h
  · cases h
  split at h
  · cases hp; exact ⟨_, rfl⟩
  · cases hp; exact ⟨_, rfl⟩
  · cases h

def resF (tmps : Array Value) : ResultVar → Sem Value
  | .tmp t => pure (tmps.getD t undef)
  | .cell a t => do loadVar t (← asAddr (tmps.getD a undef))

theorem results_eq (fn : Func) (tmps : Array Value) : results fn tmps = (do let vs ← fn.results.mapM (resF tmps); pure (if h : vs.size = 1 then vs[0] else .tuple vs)) := by
  unfold results
  congr 1

theorem resS_sim {s : St} {a : Act} (hM : MR E g w s.mem (fun id => s.mem.next ≤ id)) (hT : VRs g w s.tmps a.tmps) :
    ∀ (l : List ResultVar) (r : List SV), resS E s l = some r → ∃ vs : List Value, (l.mapM (resF a.tmps)).run E.P w = .ok vs w ∧ r.length = vs.length ∧
        ∀ (k : Nat) (x : SV) (v : Value), r[k]? = some x → vs[k]? = some v → VR g w x v
  | [], r, h => by
    simp [resS] at h
    subst h
    exact ⟨[], by simp, rfl, fun k x v hx => by simp at hx⟩
  | .tmp t :: l, r, h => by
    simp only [resS] at h
    split at h
    case h_2 => cases h
    rename_i rl hrl
    simp only [Option.some.injEq] at h
    subst h
    obtain ⟨vs, h1, h2, h3⟩ := resS_sim hM hT l rl hrl
    have hv := evO_rel hM.glob hT (.tmp t)
    refine ⟨a.tmps.getD t undef :: vs, by simp only [List.mapM_cons, Sem.run_bind, resF, Sem.run_pure, Result.andThen_ok, h1], by simp [h2], fun k x v hx hv' => ?_⟩
    cases k with
    | zero =>
      simp at hx hv'
      subst hx hv'
      simpa [evO, Act.eval] using hv
    | succ k => exact h3 k x v (by simpa using hx) (by simpa using hv')
  | .cell x t :: l, r, h => by
    simp only [resS] at h
    split at h
    case h_2 => cases h
    rename_i v0 rl hv0 hrl
    simp only [Option.some.injEq] at h
    subst h
    obtain ⟨vs, h1, h2, h3⟩ := resS_sim hM hT l rl hrl
    have hv := evO_rel hM.glob hT (.tmp x)
    simp only [evO, Act.eval] at hv
    obtain ⟨v', hrun, hvr⟩ := loadS_sim hM (fun _ _ h => h) hv hv0
    obtain ⟨ad, had⟩ := loadS_ptr hv hv0
    rw [had] at hrun
    simp only [Instr.loadAt, Instr.sureAddr, Sem.run_bind, Sem.run_pure, Result.andThen_ok] at hrun
    have hone : (resF a.tmps (.cell x t)).run E.P w = .ok v' w := by
      simp only [resF, Sem.run_bind, had, asAddr, Sem.run_pure, Result.andThen_ok, hrun]
    refine ⟨v' :: vs, by simp only [List.mapM_cons, Sem.run_bind, hone, Sem.run_pure, Result.andThen_ok, h1], by simp [h2], fun k y v hx hv' => ?_⟩
    cases k with
    | zero =>
      simp at hx hv'
      subst hx hv'
      exact hvr
    | succ k => exact h3 k y v (by simpa using hx) (by simpa using hv')

def resV : List SV → SV
  | [x] => x
  | xs => .tup xs

theorem results_sim {s : St} {a : Act} {fn : Func} {r : List SV} (hM : MR E g w s.mem (fun id => s.mem.next ≤ id)) (hT : VRs g w s.tmps a.tmps) (h : resS E s fn.results.toList = some r) :
    ∃ v, (results fn a.tmps).run E.P w = .ok v w ∧ VR g w (resV r) v := by
  obtain ⟨vs, h1, h2, h3⟩ := resS_sim hM hT _ r h
  refine ⟨if h : vs.toArray.size = 1 then vs.toArray[0] else .tuple vs.toArray, ?_, ?_⟩
  · rw [results_eq, Array.mapM_eq_mapM_toList]
    simp only [Sem.run_bind, Sem.run_map, h1, Result.andThen_ok, Sem.run_pure]
  · match r, vs, h2, h3 with
    | [x], [v], _, h3 => simpa [resV] using h3 0 x v rfl rfl
    | [], [], _, _ => exact .tup [] #[] rfl (fun k x v hx => by simp at hx)
    | x :: y :: r, v :: u :: vs, h2, h3 =>
      rw [dif_neg (by simp)]
      exact .tup _ _ (by simpa using h2) (fun k z q hz hq => h3 k z q hz (by simpa using hq))

/-! ### Numbers of blocks only grow -/

theorem exI_next {pc : PC} {ic : IC} (hic : ICok E ic) {me n0 sz k : Nat} {i : Ins} {s s' : St} (h : exI E me pc ic n0 sz k i s = some s') : s.mem.next ≤ s'.mem.next := by
  unfold exI at h
  split at h
  · cases h
  · simp only [Option.some.injEq] at h
    subst h
    exact Nat.le_refl _
  split at h
  · split at h
    · rename_i hc
      simp only [Option.some.injEq] at h
      subst h
      exact (hic _ _ _ _ _ hc).2.1
    · cases h
  · split at h
    · rename_i u _
      simp only [Option.some.injEq] at h
      subst h
      simp only [Mem.sets_next]
      exact Nat.le_refl _
    · cases h

theorem exL_next {pc : PC} {ic : IC} (hic : ICok E ic) {me n0 sz : Nat} : ∀ {L : List Ins} {k : Nat} {s s' : St}, exL E me pc ic n0 sz k L s = some s' → s.mem.next ≤ s'.mem.next
  | [], k, s, s', h => by
    simp only [exL, Option.some.injEq] at h
    subst h
    exact Nat.le_refl _
  | x :: L, k, s, s', h => by
    simp only [exL] at h
    split at h
    · rename_i hx
      exact Nat.le_trans (exI_next hic hx) (exL_next hic h)
    · cases h

theorem regS_next {pc : PC} {ic : IC} (hic : ICok E ic) {me : Nat} {ri : RI} {s s' : St} (h : regS E me pc ic ri s = some s') : s.mem.next ≤ s'.mem.next := by
  unfold regS at h
  split at h
  case h_2 => cases h
  rename_i s1 hs
  simp only [Option.some.injEq] at h
  subst h
  exact Nat.le_trans (Nat.le_add_right _ _) (exL_next hic hs)

theorem evC_next {reg : RI → St → Option St} (hreg : ∀ ri s s', reg ri s = some s' → s.mem.next ≤ s'.mem.next) : ∀ {n : Nat} {c : C} {s s' : St} {e : Ex}, evC E reg n c s = some (e, s') → s.mem.next ≤ s'.mem.next
  | 0, c, s, s', e, h => by simp [evC] at h
  | n + 1, c, s, s', e, h => by
    cases c <;> simp only [evC] at h <;> (try (cases h; done))
    case skip => simp only [Option.some.injEq, Prod.mk.injEq] at h; obtain ⟨_, rfl⟩ := h; exact Nat.le_refl _
    case exit => simp only [Option.some.injEq, Prod.mk.injEq] at h; obtain ⟨_, rfl⟩ := h; exact Nat.le_refl _
    case ret => simp only [Option.some.injEq, Prod.mk.injEq] at h; obtain ⟨_, rfl⟩ := h; exact Nat.le_refl _
    case reg ri =>
      split at h
      · rename_i hr
        simp only [Option.some.injEq, Prod.mk.injEq] at h
        obtain ⟨_, rfl⟩ := h
        exact hreg _ _ _ hr
      · cases h
    case chk pre t x d =>
      split at h
      case h_2 => cases h
      split at h
      case h_2 => cases h
      split at h
      case isFalse => cases h
      simp only [Option.some.injEq, Prod.mk.injEq] at h
      obtain ⟨_, rfl⟩ := h
      exact Nat.le_refl _
    case seq a b =>
      split at h
      · rename_i h1
        exact Nat.le_trans (evC_next hreg h1) (evC_next hreg h)
      · exact evC_next hreg h
    case cond c a b =>
      split at h
      · exact evC_next hreg h
      · cases h
    case block id b =>
      split at h
      · rename_i h1
        split at h <;> (simp only [Option.some.injEq, Prod.mk.injEq] at h; obtain ⟨_, rfl⟩ := h; exact evC_next hreg h1)
      · exact evC_next hreg h
    case loop b =>
      split at h
      · rename_i h1
        exact Nat.le_trans (evC_next hreg h1) (evC_next hreg h)
      · exact evC_next hreg h

def PrimOk (E : Env) : Prop := ∀ f p, E.prim f = some p → ICok E (fun f' args M => if f' = f then p args M else none)

/-- What the shadow says of a call, the model does. -/
theorem callN_ok (hmix : E.P.follows .mixedOrders = true) (hprim : PrimOk E) : ∀ n, ICok E (callN E n) := by
  intro n
  induction n with
  | zero => intro f args M r M' h; simp [callN] at h
  | succ n ih =>
    intro f args M r M' h
    simp only [callN] at h
    split at h
    · rename_i p hp
      exact hprim f p hp f args M r M' (by simp [h])
    rename_i hnp
    split at h
    · cases h
    rename_i fn hf
    split at h
    · cases h
    rename_i c hb
    split at h
    · cases h
    rename_i hname
    have hen : Enters E.P f := ⟨fn, hf, by rw [hb]; rfl, hname⟩
    have hreg : RegOk E f (regS E f (pcOf (callN E n)) (callN E n)) := fun id ops draw ri s s' g w a Q hri hM hT hr hQ => regS_sim hmix (pc_of_ic ih) ih hri hM hT hr hQ
    have main : ∀ (e : Ex) (s : St) (rs : List SV), (e = .normal ∨ e = .ret) → evC E (regS E f (pcOf (callN E n)) (callN E n)) (n + 1) (comp E f c) ⟨args ++ List.replicate (fn.ntmps - args.length) .bad, M⟩ = some (e, s) →
        resS E s fn.results.toList = some rs → r = resV rs → M' = s.mem → ∀ g w fr args', MR E g w M fr → (∀ id, M.next ≤ id → fr id) → VRs g w args args' → Calls E.P f args' w (CallPost E g w M M' r) := by
      rintro e s rs he hev hres rfl rfl g w fr args' hM hfr hargs
      refine calls_of_wp hf hb ?_
      have hT : VRs g w (args ++ List.replicate (fn.ntmps - args.length) .bad) (args' ++ Array.replicate (fn.ntmps - args'.size) undef) := by
        refine hargs.append ⟨by simp [hargs.1], fun k x v hx hv => ?_⟩
        simp only [List.getElem?_replicate] at hx
        split at hx
        · simp only [Option.some.injEq] at hx
          subst hx
          exact .bad v
        · cases hx
      refine (evC_sim hreg (regSX_sim hmix (pc_of_ic ih) ih) (n + 1)).1 c ⟨args ++ List.replicate (fn.ntmps - args.length) .bad, M⟩ s e g w { tmps := args' ++ Array.replicate (fn.ntmps - args'.size) undef, defers := [] } _ hev (hM.weaken hfr) hT (fun g' w' a' e1 e2 e3 e4 e5 e6 => ?_)
      obtain ⟨v, hv, hvr⟩ := results_sim e2 e3 hres
      have post : a'.defers = [] ∧ ∃ v, (results fn a'.tmps).run E.P w' = .ok v w' ∧ CallPost E g w M s.mem (resV rs) (.returned v) w' :=
        ⟨e4, v, hv, v, g', rfl, e1, e2, hvr, e5⟩
      rcases he with rfl | rfl <;> exact post
    have next : ∀ (e : Ex) (s : St), evC E (regS E f (pcOf (callN E n)) (callN E n)) (n + 1) (comp E f c) ⟨args ++ List.replicate (fn.ntmps - args.length) .bad, M⟩ = some (e, s) → M.next ≤ s.mem.next := by
      intro e s hev
      exact evC_next (fun ri s s' hr => regS_next ih hr) hev
    split at h
    · rename_i s hev
      split at h
      · rename_i v hv
        simp only [Option.some.injEq, Prod.mk.injEq] at h
        obtain ⟨rfl, rfl⟩ := h
        exact ⟨hen, next _ _ hev, main .normal s [v] (.inl rfl) hev hv rfl rfl⟩
      · rename_i vs hne hvs
        simp only [Option.some.injEq, Prod.mk.injEq] at h
        obtain ⟨rfl, rfl⟩ := h
        refine ⟨hen, next _ _ hev, main .normal s vs (.inl rfl) hev hvs ?_ rfl⟩
        unfold resV
        split
        · exact (hne _ rfl).elim
        · rfl
      · cases h
    · rename_i s hev
      split at h
      · rename_i v hv
        simp only [Option.some.injEq, Prod.mk.injEq] at h
        obtain ⟨rfl, rfl⟩ := h
        exact ⟨hen, next _ _ hev, main .ret s [v] (.inr rfl) hev hv rfl rfl⟩
      · rename_i vs hne hvs
        simp only [Option.some.injEq, Prod.mk.injEq] at h
        obtain ⟨rfl, rfl⟩ := h
        refine ⟨hen, next _ _ hev, main .ret s vs (.inr rfl) hev hvs ?_ rfl⟩
        unfold resV
        split
        · exact (hne _ rfl).elim
        · rfl
      · cases h
    · cases h

end Go.Proofs.YtbdliphlolajaaaDoor.Sh

/-
  The shadow interpreter, text 15: with more fuel it answers the same; its limit, and the limit's equations. No condition.
-/
set_option linter.unusedVariables false
set_option linter.unusedSimpArgs false
namespace Go.Proofs.YtbdliphlolajaaaDoor.Sh
variable {E : Env}

def PCle (p q : PC) : Prop := ∀ f a r, p f a = some r → q f a = some r
def ICle (p q : IC) : Prop := ∀ f a M r, p f a M = some r → q f a M = some r

theorem opt_ext {α : Type _} {a b : Option α} (h : ∀ r, a = some r ↔ b = some r) : a = b := by
  cases a with
  | none => cases b with
    | none => rfl
    | some y => exact ((h y).2 rfl)
  | some x => exact ((h x).1 rfl).symm

theorem pcOf_mono {p q : IC} (h : ICle p q) : PCle (pcOf p) (pcOf q) := by
  intro f a r hr
  unfold pcOf at hr ⊢
  split at hr
  case h_2 => cases hr
  rename_i v M hv
  rw [h _ _ _ _ hv]
  exact hr

theorem act_mono {pc pc' : PC} (hp : PCle pc pc') {a : Nat} {ρ : Operand → SV} {get : Nat → Option (List SV)} {o : Oper} {x : SV × List (Nat × Option (List SV))} (h : act E pc a ρ get o = some x) :
    act E pc' a ρ get o = some x := by
  unfold act at h ⊢
  cases hop : o.op with
  | call c =>
    simp only [hop] at h ⊢
    cases hc : c.callee with
    | value g =>
      simp only [hc] at h ⊢
      split at h
      case h_2 => cases h
      rename_i f first caps hg
      split at h
      case h_2 => cases h
      rename_i args hargs
      split at h
      case h_2 => cases h
      rename_i y hy
      rw [hp _ _ _ hy]
      exact h
    | builtin b => cases b <;> (simp only [hc] at h ⊢; exact h)
    | _ => simp only [hc] at h ⊢; exact h
  | makeFunc f a b => cases f <;> (simp only [hop] at h ⊢; exact h)
  | _ => simp only [hop] at h ⊢; exact h

theorem exI_mono {me : Nat} {pc pc' : PC} {ic ic' : IC} (hp : PCle pc pc') (hi : ICle ic ic') {n0 sz k : Nat} {i : Ins} {s s' : St}
    (h : exI E me pc ic n0 sz k i s = some s') : exI E me pc' ic' n0 sz k i s = some s' := by
  unfold exI at h ⊢
  split at h
  · exact h
  · exact h
  split at h
  · split at h
    case h_2 => cases h
    rename_i hic
    rw [hi _ _ _ _ hic]
    exact h
  · split at h
    case h_2 => cases h
    rename_i hact
    rw [show actOf E pc' _ _ _ _ = _ from act_mono hp hact]
    exact h

theorem exL_mono {me : Nat} {pc pc' : PC} {ic ic' : IC} (hp : PCle pc pc') (hi : ICle ic ic') {n0 sz : Nat} : ∀ {l : List Ins} {k : Nat} {s s' : St},
    exL E me pc ic n0 sz k l s = some s' → exL E me pc' ic' n0 sz k l s = some s'
  | [], k, s, s', h => h
  | x :: r, k, s, s', h => by
    unfold exL at h ⊢
    split at h
    case h_2 => cases h
    rename_i s1 h1
    rw [exI_mono hp hi h1]
    exact exL_mono hp hi h

theorem regS_mono {me : Nat} {pc pc' : PC} {ic ic' : IC} (hp : PCle pc pc') (hi : ICle ic ic') {ri : RI} {s s' : St}
    (h : regS E me pc ic ri s = some s') : regS E me pc' ic' ri s = some s' := by
  unfold regS at h ⊢
  split at h
  case h_2 => cases h
  rename_i s1 h1
  rw [exL_mono hp hi h1]
  exact h

theorem evC_mono {reg reg' : RI → St → Option St} (hr : ∀ ri s s', reg ri s = some s' → reg' ri s = some s') :
    ∀ {n n' : Nat} {c : C} {s : St} {r : Ex × St}, n ≤ n' → evC E reg n c s = some r → evC E reg' n' c s = some r
  | 0, n', c, s, r, _, h => by simp [evC] at h
  | n + 1, 0, c, s, r, hn, h => by omega
  | n + 1, n' + 1, c, s, r, hn, h => by
    have hn' : n ≤ n' := by omega
    have ih : ∀ {c : C} {s : St} {r : Ex × St}, evC E reg n c s = some r → evC E reg' n' c s = some r := fun h => evC_mono hr hn' h
    cases c <;> simp only [evC] at h ⊢ <;> (try (exact h)) <;> (try (cases h; done))
    case reg ri =>
      split at h
      case h_2 => cases h
      rename_i hg
      rw [hr _ _ _ hg]
      exact h
    case chk pre t x d =>
      split at h
      case h_2 => cases h
      rename_i hg
      rw [hr _ _ _ hg]
      exact h
    case seq a b =>
      split at h
      · rename_i h1
        rw [ih h1]
        exact ih h
      · rename_i hne
        cases h1 : evC E reg n a s with
        | none => rw [h1] at h; cases h
        | some q =>
          rw [ih h1]
          rw [h1] at h
          obtain ⟨e, s1⟩ := q
          cases e with
          | normal => exact absurd h1 (hne _)
          | exit => exact h
          | ret => exact h
    case cond x a b =>
      split at h
      case h_2 => cases h
      exact ih h
    case block id b =>
      cases h1 : evC E reg n b s with
      | none => rw [h1] at h; cases h
      | some q =>
        rw [ih h1]
        rw [h1] at h
        exact h
    case loop b =>
      split at h
      · rename_i h1
        rw [ih h1]
        exact ih h
      · rename_i hne
        cases h1 : evC E reg n b s with
        | none => rw [h1] at h; cases h
        | some q =>
          rw [ih h1]
          rw [h1] at h
          obtain ⟨e, s1⟩ := q
          cases e with
          | normal => exact absurd h1 (hne _)
          | exit => exact h
          | ret => exact h

theorem callN_mono : ∀ (n m : Nat), n ≤ m → ICle (callN E n) (callN E m)
  | 0, m, _ => fun f a M r h => by simp [callN] at h
  | n + 1, 0, h => by omega
  | n + 1, m + 1, hnm => fun f a M r h => by
    have ih := callN_mono n m (by omega)
    simp only [callN] at h ⊢
    split at h
    · exact h
    split at h
    · cases h
    split at h
    · cases h
    split at h
    · cases h
    rename_i hname
    rw [if_neg hname]
    generalize hq : evC E _ (n + 1) _ _ = q at h
    cases q with
    | none => simp at h
    | some q =>
      rw [evC_mono (fun ri s s' hs => regS_mono (pcOf_mono ih) ih hs) hnm hq]
      exact h

/-! ### The limit -/

open Classical in
noncomputable def lim {α : Type} (F : Nat → Option α) : Option α := if h : ∃ r n, F n = some r then some h.choose else none

def MonoF {α : Type} (F : Nat → Option α) : Prop := ∀ n m r, n ≤ m → F n = some r → F m = some r

theorem lim_eq {α : Type} {F : Nat → Option α} (hF : MonoF F) {r : α} : lim F = some r ↔ ∃ n, F n = some r := by
  unfold lim
  split
  · rename_i h
    obtain ⟨n, hn⟩ := h.choose_spec
    constructor
    · intro hr
      simp only [Option.some.injEq] at hr
      exact ⟨n, hr ▸ hn⟩
    · rintro ⟨m, hm⟩
      have h1 := hF n (max n m) _ (Nat.le_max_left _ _) hn
      have h2 := hF m (max n m) _ (Nat.le_max_right _ _) hm
      rw [← h1, h2]
  · rename_i h
    constructor
    · intro hr
      cases hr
    · rintro ⟨m, hm⟩
      exact absurd ⟨r, m, hm⟩ h

/-- A call, with fuel enough. -/
noncomputable def ICw (E : Env) : IC := fun f args M => lim fun n => callN E n f args M
noncomputable def PCw (E : Env) : PC := pcOf (ICw E)
def regN (E : Env) (me n : Nat) : RI → St → Option St := regS E me (pcOf (callN E n)) (callN E n)
noncomputable def evW (E : Env) (me : Nat) (c : C) (s : St) : Option (Ex × St) := lim fun n => evC E (regN E me n) n c s
noncomputable def regW (E : Env) (me : Nat) (ri : RI) (s : St) : Option St := regS E me (PCw E) (ICw E) ri s

theorem ICw_eq {f : Nat} {args : List SV} {M : Mem} {r : SV × Mem} : ICw E f args M = some r ↔ ∃ n, callN E n f args M = some r :=
  lim_eq fun n m r h => callN_mono n m h f args M r

theorem callN_le (n : Nat) : ICle (callN E n) (ICw E) := fun f a M r h => ICw_eq.2 ⟨n, h⟩

theorem regN_mono {me : Nat} {n m : Nat} (h : n ≤ m) (ri : RI) (s s' : St) (hs : regN E me n ri s = some s') : regN E me m ri s = some s' :=
  regS_mono (pcOf_mono (callN_mono n m h)) (callN_mono n m h) hs

theorem evW_eq {me : Nat} {c : C} {s : St} {r : Ex × St} : evW E me c s = some r ↔ ∃ n, evC E (regN E me n) n c s = some r :=
  lim_eq fun n m r h hs => evC_mono (fun ri s s' => regN_mono h ri s s') h hs

theorem PCw_cont {f : Nat} {args : List SV} {r : SV} (h : PCw E f args = some r) : ∃ n, pcOf (callN E n) f args = some r := by
  unfold PCw pcOf at h
  split at h
  case h_2 => cases h
  rename_i hv
  obtain ⟨n, hn⟩ := ICw_eq.1 hv
  refine ⟨n, ?_⟩
  unfold pcOf
  rw [hn]
  exact h

theorem act_cont {a : Nat} {ρ : Operand → SV} {get : Nat → Option (List SV)} {o : Oper} {x : SV × List (Nat × Option (List SV))} (h : act E (PCw E) a ρ get o = some x) :
    ∃ n, act E (pcOf (callN E n)) a ρ get o = some x := by
  unfold act at h
  cases hop : o.op with
  | call c =>
    simp only [hop] at h
    cases hc : c.callee with
    | value g =>
      simp only [hc] at h
      split at h
      case h_2 => cases h
      rename_i f first caps hg
      split at h
      case h_2 => cases h
      rename_i args hargs
      split at h
      case h_2 => cases h
      rename_i y hy
      obtain ⟨n, hn⟩ := PCw_cont hy
      refine ⟨n, ?_⟩
      unfold act
      simp only [hop, hc, hg, hargs, hn]
      exact h
    | builtin b => cases b <;> exact ⟨0, by unfold act; simp only [hop, hc] at h ⊢; exact h⟩
    | _ => exact ⟨0, by unfold act; simp only [hop, hc] at h ⊢; exact h⟩
  | makeFunc f a b => cases f <;> exact ⟨0, by unfold act; simp only [hop] at h ⊢; exact h⟩
  | _ => exact ⟨0, by unfold act; simp only [hop] at h ⊢; exact h⟩

theorem exI_cont {me n0 sz k : Nat} {i : Ins} {s s' : St} (h : exI E me (PCw E) (ICw E) n0 sz k i s = some s') :
    ∃ n, exI E me (pcOf (callN E n)) (callN E n) n0 sz k i s = some s' := by
  unfold exI at h
  split at h
  · cases h
  · rename_i hw
    exact ⟨0, by unfold exI; simp only [hw]; exact h⟩
  rename_i hw
  split at h
  · rename_i hic
    split at h
    case h_2 => cases h
    rename_i hv
    obtain ⟨n, hn⟩ := ICw_eq.1 hv
    exact ⟨n, by unfold exI; simp only [hw, hic, hn]; exact h⟩
  · rename_i hic
    split at h
    case h_2 => cases h
    rename_i hv
    obtain ⟨n, hn⟩ := act_cont hv
    refine ⟨n, ?_⟩
    unfold exI
    rw [show actOf E (pcOf (callN E n)) _ _ _ _ = _ from hn]
    simp only [hw, hic]
    exact h

theorem exL_cont {me n0 sz : Nat} : ∀ {l : List Ins} {k : Nat} {s s' : St}, exL E me (PCw E) (ICw E) n0 sz k l s = some s' →
    ∃ n, exL E me (pcOf (callN E n)) (callN E n) n0 sz k l s = some s'
  | [], k, s, s', h => ⟨0, h⟩
  | x :: r, k, s, s', h => by
    unfold exL at h
    split at h
    case h_2 => cases h
    rename_i s1 h1
    obtain ⟨n, hn⟩ := exI_cont h1
    obtain ⟨m, hm⟩ := exL_cont h
    refine ⟨max n m, ?_⟩
    unfold exL
    rw [exI_mono (pcOf_mono (callN_mono n _ (Nat.le_max_left n m))) (callN_mono n _ (Nat.le_max_left n m)) hn]
    exact exL_mono (pcOf_mono (callN_mono m _ (Nat.le_max_right n m))) (callN_mono m _ (Nat.le_max_right n m)) hm

theorem regW_eq {me : Nat} {ri : RI} {s s' : St} : regW E me ri s = some s' ↔ ∃ n, regN E me n ri s = some s' := by
  constructor
  · intro h
    unfold regW regS at h
    split at h
    case h_2 => cases h
    rename_i s1 h1
    obtain ⟨n, hn⟩ := exL_cont h1
    refine ⟨n, ?_⟩
    unfold regN regS
    rw [hn]
    exact h
  · rintro ⟨n, hn⟩
    exact regS_mono (pcOf_mono (callN_le n)) (callN_le n) hn

/-! ### The limit's equations -/

theorem evW_skip (me : Nat) (s : St) : evW E me .skip s = some (.normal, s) := evW_eq.2 ⟨1, rfl⟩
theorem evW_exit (me id : Nat) (s : St) : evW E me (.exit id) s = some (.exit id, s) := evW_eq.2 ⟨1, rfl⟩
theorem evW_ret (me : Nat) (s : St) : evW E me .ret s = some (.ret, s) := evW_eq.2 ⟨1, rfl⟩

theorem evW_region (me : Nat) (ri : RI) (s : St) :
    evW E me (.reg ri) s = match regW E me ri s with | some s' => some (.normal, s') | none => none := by
  apply opt_ext
  intro r
  rw [evW_eq]
  constructor
  · rintro ⟨n, hn⟩
    cases n with
    | zero => simp [evC] at hn
    | succ n =>
      simp only [evC] at hn
      split at hn
      case h_2 => cases hn
      rename_i s' hs
      rw [regW_eq.2 ⟨_, hs⟩]
      exact hn
  · intro h
    split at h
    case h_2 => cases h
    rename_i s' hs
    obtain ⟨n, hn⟩ := regW_eq.1 hs
    refine ⟨n + 1, ?_⟩
    simp only [evC]
    rw [regN_mono (Nat.le_succ n) _ _ _ hn]
    exact h

theorem evW_chk (me : Nat) (pre : RI) (t : Nat) (x : Operand) (d : Nat) (s : St) :
    evW E me (.chk pre t x d) s = match regW E me pre s with
      | some s1 => (match loadS E.P s1.mem.blk t (evO E s1.tmps x) with
        | some v => if svSame v (s1.tmps.getD d .bad) then some (.normal, s) else none
        | none => none)
      | none => none := by
  apply opt_ext
  intro r
  rw [evW_eq]
  constructor
  · rintro ⟨n, hn⟩
    cases n with
    | zero => simp [evC] at hn
    | succ n =>
      simp only [evC] at hn
      split at hn
      case h_2 => cases hn
      rename_i s' hs
      rw [regW_eq.2 ⟨_, hs⟩]
      exact hn
  · intro h
    split at h
    case h_2 => cases h
    rename_i s' hs
    obtain ⟨n, hn⟩ := regW_eq.1 hs
    refine ⟨n + 1, ?_⟩
    simp only [evC]
    rw [regN_mono (Nat.le_succ n) _ _ _ hn]
    exact h

theorem evN_up {me n m : Nat} (h : n ≤ m) {c : C} {s : St} {r : Ex × St} (hs : evC E (regN E me n) n c s = some r) (k : Nat) (hk : m ≤ k) : evC E (regN E me k) m c s = some r :=
  evC_mono (fun ri s s' => regN_mono (Nat.le_trans h hk) ri s s') h hs

theorem evN_dn {me n m : Nat} (h : n ≤ m) {c : C} {s : St} {r : Ex × St} (hs : evC E (regN E me m) n c s = some r) : evW E me c s = some r :=
  evW_eq.2 ⟨m, evC_mono (fun _ _ _ h => h) h hs⟩

theorem evW_seq (me : Nat) (a b : C) (s : St) :
    evW E me (.seq a b) s = match evW E me a s with | some (.normal, s') => evW E me b s' | r => r := by
  apply opt_ext
  intro r
  rw [evW_eq]
  constructor
  · rintro ⟨n, hn⟩
    cases n with
    | zero => simp [evC] at hn
    | succ n =>
      simp only [evC] at hn
      split at hn
      · rename_i s1 h1
        rw [evN_dn (Nat.le_succ n) h1]
        exact evN_dn (Nat.le_succ n) hn
      · rename_i hne
        cases h1 : evC E (regN E me (n + 1)) n a s with
        | none => rw [h1] at hn; cases hn
        | some q =>
          rw [evN_dn (Nat.le_succ n) h1]
          rw [h1] at hn
          obtain ⟨e, s1⟩ := q
          cases e with
          | normal => exact absurd h1 (hne _)
          | exit => exact hn
          | ret => exact hn
  · intro h
    split at h
    · rename_i s1 h1
      obtain ⟨n, hn⟩ := evW_eq.1 h1
      obtain ⟨m, hm⟩ := evW_eq.1 h
      refine ⟨max n m + 1, ?_⟩
      simp only [evC]
      rw [evN_up (Nat.le_max_left n m) hn _ (Nat.le_succ _)]
      exact evN_up (Nat.le_max_right n m) hm _ (Nat.le_succ _)
    · rename_i hne
      cases h1 : evW E me a s with
      | none => rw [h1] at h; cases h
      | some q =>
        obtain ⟨n, hn⟩ := evW_eq.1 h1
        refine ⟨n + 1, ?_⟩
        simp only [evC]
        rw [evN_up (Nat.le_refl n) hn _ (Nat.le_succ _)]
        rw [h1] at h
        obtain ⟨e, s1⟩ := q
        cases e with
        | normal => exact absurd h1 (hne _)
        | exit => exact h
        | ret => exact h

theorem evW_cond (me : Nat) (c : Operand) (a b : C) (s : St) :
    evW E me (.cond c a b) s = match evO E s.tmps c with | .bool t => (if t then evW E me a s else evW E me b s) | _ => none := by
  apply opt_ext
  intro r
  rw [evW_eq]
  constructor
  · rintro ⟨n, hn⟩
    cases n with
    | zero => simp [evC] at hn
    | succ n =>
      simp only [evC] at hn
      split at hn
      case h_2 => cases hn
      rename_i t ht
      rw [ht]
      cases t <;> exact evN_dn (Nat.le_succ n) hn
  · intro h
    split at h
    case h_2 => cases h
    rename_i t ht
    cases t
    all_goals
      obtain ⟨n, hn⟩ := evW_eq.1 h
      refine ⟨n + 1, ?_⟩
      simp only [evC, ht]
      exact evN_up (Nat.le_refl n) hn _ (Nat.le_succ _)

theorem evW_block (me id : Nat) (b : C) (s : St) :
    evW E me (.block id b) s = match evW E me b s with | some (.exit id', s') => (if id' = id then some (.normal, s') else some (.exit id', s')) | r => r := by
  apply opt_ext
  intro r
  rw [evW_eq]
  constructor
  · rintro ⟨n, hn⟩
    cases n with
    | zero => simp [evC] at hn
    | succ n =>
      simp only [evC] at hn
      cases h1 : evC E (regN E me (n + 1)) n b s with
      | none => rw [h1] at hn; cases hn
      | some q =>
        rw [evN_dn (Nat.le_succ n) h1]
        rw [h1] at hn
        exact hn
  · intro h
    cases h1 : evW E me b s with
    | none => rw [h1] at h; cases h
    | some q =>
      obtain ⟨n, hn⟩ := evW_eq.1 h1
      refine ⟨n + 1, ?_⟩
      simp only [evC]
      rw [evN_up (Nat.le_refl n) hn _ (Nat.le_succ _)]
      rw [h1] at h
      exact h

theorem evW_loop (me : Nat) (b : C) (s : St) :
    evW E me (.loop b) s = match evW E me b s with | some (.normal, s') => evW E me (.loop b) s' | r => r := by
  apply opt_ext
  intro r
  constructor
  · intro hr
    obtain ⟨n, hn⟩ := evW_eq.1 hr
    cases n with
    | zero => simp [evC] at hn
    | succ n =>
      simp only [evC] at hn
      split at hn
      · rename_i s1 h1
        rw [evN_dn (Nat.le_succ n) h1]
        exact evN_dn (Nat.le_succ n) hn
      · rename_i hne
        cases h1 : evC E (regN E me (n + 1)) n b s with
        | none => rw [h1] at hn; cases hn
        | some q =>
          rw [evN_dn (Nat.le_succ n) h1]
          rw [h1] at hn
          obtain ⟨e, s1⟩ := q
          cases e with
          | normal => exact absurd h1 (hne _)
          | exit => exact hn
          | ret => exact hn
  · intro h
    rw [evW_eq]
    split at h
    · rename_i s1 h1
      obtain ⟨n, hn⟩ := evW_eq.1 h1
      obtain ⟨m, hm⟩ := evW_eq.1 h
      refine ⟨max n m + 1, ?_⟩
      simp only [evC]
      rw [evN_up (Nat.le_max_left n m) hn _ (Nat.le_succ _)]
      exact evN_up (Nat.le_max_right n m) hm _ (Nat.le_succ _)
    · rename_i hne
      cases h1 : evW E me b s with
      | none => rw [h1] at h; cases h
      | some q =>
        obtain ⟨n, hn⟩ := evW_eq.1 h1
        refine ⟨n + 1, ?_⟩
        simp only [evC]
        rw [evN_up (Nat.le_refl n) hn _ (Nat.le_succ _)]
        rw [h1] at h
        obtain ⟨e, s1⟩ := q
        cases e with
        | normal => exact absurd h1 (hne _)
        | exit => exact h
        | ret => exact h

/-- What a call ends with. -/
def endS (E : Env) (rs : List ResultVar) : Option (Ex × St) → Option (SV × Mem)
  | some (.normal, s) | some (.ret, s) => match resS E s rs with
    | some [v] => some (v, s.mem)
    | some vs => some (.tup vs, s.mem)
    | none => none
  | _ => none

theorem ICw_body {f : Nat} {fn : Func} {c : Code} (hp : E.prim f = none) (hf : E.P.funcs[f]? = some fn) (hb : fn.body = some c) (hn : fn.name ≠ "runtime.NumGoroutine") (args : List SV) (M : Mem) :
    ICw E f args M = endS E fn.results.toList (evW E f (comp E f c) ⟨args ++ List.replicate (fn.ntmps - args.length) .bad, M⟩) := by
  apply opt_ext
  intro r
  rw [ICw_eq]
  constructor
  · rintro ⟨n, h⟩
    cases n with
    | zero => simp [callN] at h
    | succ n =>
      simp only [callN, hp, hf, hb, if_neg hn] at h
      generalize hq : evC E _ (n + 1) _ _ = q at h
      cases q with
      | none => simp at h
      | some q =>
        have : evW E f (comp E f c) ⟨args ++ List.replicate (fn.ntmps - args.length) .bad, M⟩ = some q :=
          evN_dn (Nat.le_refl (n + 1)) (evC_mono (fun ri s s' hs => regS_mono (pcOf_mono (callN_mono n (n + 1) (Nat.le_succ n))) (callN_mono n (n + 1) (Nat.le_succ n)) hs) (Nat.le_refl _) hq)
        rw [this]
        exact h
  · intro h
    cases hq : evW E f (comp E f c) ⟨args ++ List.replicate (fn.ntmps - args.length) .bad, M⟩ with
    | none => rw [hq] at h; simp [endS] at h
    | some q =>
      obtain ⟨n, hn'⟩ := evW_eq.1 hq
      refine ⟨n + 1, ?_⟩
      simp only [callN, hp, hf, hb, if_neg hn]
      rw [show evC E (regS E f (pcOf (callN E n)) (callN E n)) (n + 1) (comp E f c) ⟨args ++ List.replicate (fn.ntmps - args.length) .bad, M⟩ = some q from evC_mono (fun _ _ _ h => h) (Nat.le_succ n) hn']
      rw [hq] at h
      exact h

end Go.Proofs.YtbdliphlolajaaaDoor.Sh
