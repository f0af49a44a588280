/-
  The shadow interpreter, text 13: regions that draw their order. No condition.
-/
import Derived.Test.YtbdliphlolajaaaDoorShSl
set_option linter.unusedVariables false
set_option linter.unusedSimpArgs false
namespace Go.Proofs.YtbdliphlolajaaaDoor.Sh
variable {E : Env} {P : Program} {g g' : Gh} {w : World}

theorem sets_blk (M : Mem) : ∀ (u : List (Nat × Option (List SV))) (id : Nat), (∀ p ∈ u, p.1 ≠ id) → (M.sets u).blk id = M.blk id
  | [], _, _ => rfl
  | (j, b) :: u, id, h => by
    rw [Mem.sets, sets_blk (M.set j b) u id (fun p hp => h p (by simp [hp])), Mem.set_other _ _ (fun he => h (j, b) (by simp) he.symm)]

theorem Mem.ext {M N : Mem} (h : ∀ id, M.blk id = N.blk id) (hn : M.next = N.next) : M = N := by
  obtain ⟨a, b⟩ := M
  obtain ⟨c, d⟩ := N
  simp only at h hn
  rw [funext h, hn]

theorem set_comm' (M : Mem) {i j : Nat} (a b : Option (List SV)) (h : i ≠ j) : (M.set i a).set j b = (M.set j b).set i a := by
  refine Mem.ext (fun id => ?_) rfl
  simp only [Mem.set]
  by_cases h1 : id = j
  · subst h1
    simp [Ne.symm h]
  · by_cases h2 : id = i
    · subst h2
      simp [h1]
    · simp [h1, h2]

theorem sets_set (M : Mem) {j : Nat} (b : Option (List SV)) : ∀ (u : List (Nat × Option (List SV))), (∀ p ∈ u, p.1 ≠ j) → (M.set j b).sets u = (M.sets u).set j b
  | [], _ => rfl
  | (i, a) :: u, h => by
    have hij : j ≠ i := fun he => h (i, a) (by simp) he.symm
    rw [Mem.sets, Mem.sets, ← sets_set (M.set i a) b u (fun p hp => h p (by simp [hp])), set_comm' M b a hij]

/-- What an operation does, in one word. -/
inductive Did (E : Env) (me : Nat) (pc : PC) (ic : IC) (n0 : Nat) (lim : Nat → Nat → Bool) (ops : Array Oper) (x : Nat) (o : Oper) (s : St) : St → Prop
  | skip (h : wantS ops o s.tmps = some false) : Did E me pc ic n0 lim ops x o s ⟨putS s.tmps o.dst (.tup []), s.mem⟩
  | imp {f : Nat} {args : List SV} {v : SV} {M : Mem} (h : wantS ops o s.tmps = some true) (hi : impCall E me (evO E s.tmps) o = some (f, args)) (hc : ic f args s.mem = some (v, M)) :
      Did E me pc ic n0 lim ops x o s ⟨putS s.tmps o.dst v, M⟩
  | act {v : SV} {u : List (Nat × Option (List SV))} (h : wantS ops o s.tmps = some true) (hi : impCall E me (evO E s.tmps) o = none)
      (ha : Sh.act E pc (n0 + x) (evO E s.tmps) (fun id => if lim x id then s.mem.blk id else none) o = some (v, u)) : Did E me pc ic n0 lim ops x o s ⟨putS s.tmps o.dst v, s.mem.sets u⟩

theorem exO_did {me n0 : Nat} {pc : PC} {ic : IC} {lim : Nat → Nat → Bool} {ops : Array Oper} {x : Nat} {o : Oper} (hx : ops[x]? = some o) {s s' : St} :
    exO E me pc ic n0 lim ops x s = some s' ↔ Did E me pc ic n0 lim ops x o s s' := by
  constructor
  · intro h
    unfold exO at h
    rw [hx] at h
    simp only at h
    split at h
    · cases h
    · rename_i hw
      simp only [Option.some.injEq] at h
      subst h
      exact .skip hw
    · rename_i hw
      split at h
      · rename_i f args hi
        split at h
        · rename_i v M hc
          simp only [Option.some.injEq] at h
          subst h
          exact .imp hw hi hc
        · cases h
      · rename_i hi
        split at h
        · rename_i v u ha
          simp only [Option.some.injEq] at h
          subst h
          exact .act hw hi ha
        · cases h
  · intro h
    unfold exO
    rw [hx]
    cases h with
    | skip h => simp only [h]
    | imp h hi hc => simp only [h, hi, hc]
    | act h hi ha => simp only [h, hi, ha]

/-- Two operations that lie side by side, in the other order. -/
theorem swap {me n0 : Nat} {pc : PC} {ic : IC} {lim : Nat → Nat → Bool} {ops : Array Oper} {x y : Nat} {ox oy : Oper} (hx : ops[x]? = some ox) (hy : ops[y]? = some oy) (hxy : x ≠ y)
    (hap : ox.apart ops oy = true) (hco : compat (cls E me ox.op) (cls E me oy.op) = true)
    (hl : (cls E me ox.op).mk = true ∨ (cls E me oy.op).mk = true → lim x (n0 + y) = false ∧ lim y (n0 + x) = false)
    {s s1 s2 : St} (h1 : exO E me pc ic n0 lim ops x s = some s1) (h2 : exO E me pc ic n0 lim ops y s1 = some s2) :
    ∃ s1', exO E me pc ic n0 lim ops y s = some s1' ∧ exO E me pc ic n0 lim ops x s1' = some s2 := by
  obtain ⟨a1, a2, a3⟩ := Oper.apart_spec hap
  simp only [exO_did hx, exO_did hy] at *
  have hd : ∀ d, ox.dst = some d → oy.dst ≠ some d := a2
  -- the second one at the first one's beginning
  have wantY : ∀ v, wantS ops oy (putS s.tmps ox.dst v) = wantS ops oy s.tmps := fun v => want_putS a1
  have wantX : ∀ v, wantS ops ox (putS s.tmps oy.dst v) = wantS ops ox s.tmps := fun v => want_putS a3
  have impY : ∀ v, impCall E me (evO E (putS s.tmps ox.dst v)) oy = impCall E me (evO E s.tmps) oy := fun v => impCall_congr (looks_ops a1)
  have impX : ∀ v, impCall E me (evO E (putS s.tmps oy.dst v)) ox = impCall E me (evO E s.tmps) ox := fun v => impCall_congr (looks_ops a3)
  have actY : ∀ v aid get, act E pc aid (evO E (putS s.tmps ox.dst v)) get oy = act E pc aid (evO E s.tmps) get oy := fun v aid get => act_congr (looks_ops a1)
  have actX : ∀ v aid get, act E pc aid (evO E (putS s.tmps oy.dst v)) get ox = act E pc aid (evO E s.tmps) get ox := fun v aid get => act_congr (looks_ops a3)
  have tm : ∀ v u, putS (putS s.tmps ox.dst v) oy.dst u = putS (putS s.tmps oy.dst u) ox.dst v := fun v u => putS_comm _ _ _ hd
  cases h1 with
  | skip hw1 =>
    cases h2 with
    | skip hw2 =>
      rw [wantY] at hw2
      refine ⟨_, .skip hw2, ?_⟩
      simp only [tm]
      exact .skip (by simp only; rw [wantX]; exact hw1)
    | imp hw2 hi hc =>
      rw [wantY] at hw2
      rw [impY] at hi
      refine ⟨_, .imp hw2 hi hc, ?_⟩
      simp only [tm]
      exact .skip (by simp only; rw [wantX]; exact hw1)
    | act hw2 hi ha =>
      rw [wantY] at hw2
      rw [impY] at hi
      rw [actY] at ha
      refine ⟨_, .act hw2 hi ha, ?_⟩
      simp only [tm]
      exact .skip (by simp only; rw [wantX]; exact hw1)
  | imp hw1 hi1 hc1 =>
    have hcx := imp_cls hi1
    cases h2 with
    | skip hw2 =>
      rw [wantY] at hw2
      refine ⟨_, .skip hw2, ?_⟩
      simp only [tm]
      exact .imp (by simp only; rw [wantX]; exact hw1) (by simp only; rw [impX]; exact hi1) hc1
    | imp hw2 hi2 hc2 =>
      have hcy := imp_cls hi2
      rw [hcx, hcy] at hco
      cases hco
    | act hw2 hi2 ha2 =>
      have hcy : cls E me oy.op = .p := by
        rw [hcx] at hco
        cases hh : cls E me oy.op <;> rw [hh] at hco <;> first | rfl | cases hco
      rw [wantY] at hw2
      rw [impY] at hi2
      rw [actY] at ha2
      obtain ⟨rfl, hp⟩ := act_p (get' := fun id => if lim y id then s.mem.blk id else none) hcy ha2
      refine ⟨_, .act hw2 hi2 hp, ?_⟩
      simp only [tm, Mem.sets]
      exact .imp (by simp only; rw [wantX]; exact hw1) (by simp only; rw [impX]; exact hi1) hc1
  | act hw1 hi1 ha1 =>
    rename_i v1 u1
    cases h2 with
    | skip hw2 =>
      rw [wantY] at hw2
      refine ⟨_, .skip hw2, ?_⟩
      simp only [tm]
      exact .act (by simp only; rw [wantX]; exact hw1) (by simp only; rw [impX]; exact hi1) (by simp only; rw [actX]; exact ha1)
    | imp hw2 hi2 hc2 =>
      rename_i f args v2 M2
      have hcy := imp_cls hi2
      have hcx : cls E me ox.op = .p := by
        rw [hcy] at hco
        cases hh : cls E me ox.op <;> rw [hh] at hco <;> first | rfl | cases hco
      obtain ⟨rfl, _⟩ := act_p (get' := fun _ => none) hcx ha1
      rw [wantY] at hw2
      rw [impY] at hi2
      simp only [Mem.sets] at hc2
      obtain ⟨_, hp⟩ := act_p (get' := fun id => if lim x id then M2.blk id else none) hcx ha1
      refine ⟨_, .imp hw2 hi2 hc2, ?_⟩
      simp only [tm]
      have := Did.act (E := E) (me := me) (pc := pc) (ic := ic) (n0 := n0) (lim := lim) (ops := ops) (x := x) (o := ox) (s := ⟨putS s.tmps oy.dst v2, M2⟩) (by simp only; rw [wantX]; exact hw1) (by simp only; rw [impX]; exact hi1) (by simp only; rw [actX]; exact hp)
      exact this
    | act hw2 hi2 ha2 =>
      rename_i v2 u2
      rw [wantY] at hw2
      rw [impY] at hi2
      rw [actY] at ha2
      simp only at ha2
      -- what each sees, with the other's writes or without
      have fin : act E pc (n0 + y) (evO E s.tmps) (fun id => if lim y id then s.mem.blk id else none) oy = some (v2, u2) →
          act E pc (n0 + x) (evO E s.tmps) (fun id => if lim x id then (s.mem.sets u2).blk id else none) ox = some (v1, u1) → (s.mem.sets u2).sets u1 = (s.mem.sets u1).sets u2 →
          ∃ s1', Did E me pc ic n0 lim ops y oy s s1' ∧ Did E me pc ic n0 lim ops x ox s1' ⟨putS (putS s.tmps ox.dst v1) oy.dst v2, (s.mem.sets u1).sets u2⟩ := by
        intro q1 q2 q3
        refine ⟨_, .act hw2 hi2 q1, ?_⟩
        rw [tm, ← q3]
        exact .act (by simp only; rw [wantX]; exact hw1) (by simp only; rw [impX]; exact hi1) (by simp only; rw [actX]; exact q2)
      by_cases hpx : cls E me ox.op = .p
      · obtain ⟨rfl, hp⟩ := act_p (get' := fun id => if lim x id then (s.mem.sets u2).blk id else none) hpx ha1
        exact fin ha2 hp rfl
      by_cases hpy : cls E me oy.op = .p
      · obtain ⟨rfl, hp⟩ := act_p (get' := fun id => if lim y id then s.mem.blk id else none) hpy ha2
        exact fin hp ha1 rfl
      -- reads, and what is made
      have readX : (∀ p ∈ u2, lim x p.1 = false) → act E pc (n0 + x) (evO E s.tmps) (fun id => if lim x id then (s.mem.sets u2).blk id else none) ox = some (v1, u1) := by
        intro hlim
        rw [← ha1]
        congr 1
        funext id
        split
        · rename_i hid
          exact sets_blk _ u2 id (fun p hp he => by rw [← he, hlim p hp] at hid; cases hid)
        · rfl
      have readY : (∀ p ∈ u1, lim y p.1 = false) → act E pc (n0 + y) (evO E s.tmps) (fun id => if lim y id then s.mem.blk id else none) oy = some (v2, u2) := by
        intro hlim
        rw [← ha2]
        congr 1
        funext id
        split
        · rename_i hid
          exact (sets_blk _ u1 id (fun p hp he => by rw [← he, hlim p hp] at hid; cases hid)).symm
        · rfl
      cases hkx : cls E me ox.op <;> (try (exact absurd hkx hpx)) <;> cases hky : cls E me oy.op <;> (try (exact absurd hky hpy)) <;> rw [hkx, hky] at hco <;> (try (cases hco; done))
      · -- r, r
        obtain rfl := act_r hkx ha1
        obtain rfl := act_r hky ha2
        exact fin (readY (by simp)) (readX (by simp)) rfl
      · -- r, a
        obtain rfl := act_r hkx ha1
        obtain ⟨hp, its, rfl⟩ := act_a (get' := fun id => if lim y id then s.mem.blk id else none) hky ha2
        exact fin hp (readX (fun p hp' => by simp at hp'; subst hp'; exact (hl (.inr (by rw [hky]; rfl))).1)) rfl
      · -- r, ra
        obtain rfl := act_r hkx ha1
        rcases act_ra hky ha2 with rfl | ⟨its, rfl⟩
        · exact fin (readY (by simp)) (readX (by simp)) rfl
        · exact fin (readY (by simp)) (readX (fun p hp' => by simp at hp'; subst hp'; exact (hl (.inr (by rw [hky]; rfl))).1)) rfl
      · -- a, r
        obtain rfl := act_r hky ha2
        obtain ⟨hp, its, rfl⟩ := act_a (get' := fun id => if lim x id then (s.mem.sets []).blk id else none) hkx ha1
        exact fin (readY (fun p hp' => by simp at hp'; subst hp'; exact (hl (.inl (by rw [hkx]; rfl))).2)) hp rfl
      · -- a, a
        obtain ⟨hp, its, rfl⟩ := act_a (get' := fun id => if lim y id then s.mem.blk id else none) hky ha2
        obtain ⟨hq, its', rfl⟩ := act_a (get' := fun id => if lim x id then (s.mem.sets [(n0 + y, some its)]).blk id else none) hkx ha1
        exact fin hp hq (by simp only [Mem.sets]; exact set_comm' _ _ _ (by omega))
      · -- a, w
        obtain ⟨hq, its', rfl⟩ := act_a (get' := fun id => if lim x id then (s.mem.sets u2).blk id else none) hkx ha1
        have hy' := readY (fun p hp' => by simp at hp'; subst hp'; exact (hl (.inl (by rw [hkx]; rfl))).2)
        have hw := act_w hky hy'
        refine fin hy' hq ?_
        simp only [Mem.sets]
        refine (sets_set _ _ u2 fun p hp => ?_).symm
        rcases hw p hp with h | h
        · rw [h]; omega
        · intro he
          rw [he, (hl (.inl (by rw [hkx]; rfl))).2] at h
          simp at h
      · -- a, ra
        rcases act_ra hky ha2 with rfl | ⟨its, rfl⟩
        · obtain ⟨hq, its', rfl⟩ := act_a (get' := fun id => if lim x id then (s.mem.sets []).blk id else none) hkx ha1
          exact fin (readY (fun p hp' => by simp at hp'; subst hp'; exact (hl (.inl (by rw [hkx]; rfl))).2)) hq rfl
        · obtain ⟨hq, its', rfl⟩ := act_a (get' := fun id => if lim x id then (s.mem.sets [(n0 + y, some its)]).blk id else none) hkx ha1
          exact fin (readY (fun p hp' => by simp at hp'; subst hp'; exact (hl (.inl (by rw [hkx]; rfl))).2)) hq (by simp only [Mem.sets]; exact set_comm' _ _ _ (by omega))
      · -- w, a
        obtain ⟨hp, its, rfl⟩ := act_a (get' := fun id => if lim y id then s.mem.blk id else none) hky ha2
        have hx' := readX (fun p hp' => by simp at hp'; subst hp'; exact (hl (.inr (by rw [hky]; rfl))).1)
        have hw := act_w hkx ha1
        refine fin hp hx' ?_
        simp only [Mem.sets]
        refine sets_set _ _ u1 fun p hp => ?_
        rcases hw p hp with h | h
        · rw [h]; omega
        · intro he
          rw [he, (hl (.inr (by rw [hky]; rfl))).1] at h
          simp at h
      · -- ra, r
        obtain rfl := act_r hky ha2
        rcases act_ra hkx ha1 with rfl | ⟨its, rfl⟩
        · exact fin (readY (by simp)) (readX (by simp)) rfl
        · exact fin (readY (fun p hp' => by simp at hp'; subst hp'; exact (hl (.inl (by rw [hkx]; rfl))).2)) (readX (by simp)) rfl
      · -- ra, a
        obtain ⟨hp, its, rfl⟩ := act_a (get' := fun id => if lim y id then s.mem.blk id else none) hky ha2
        have hx' := readX (fun p hp' => by simp at hp'; subst hp'; exact (hl (.inr (by rw [hky]; rfl))).1)
        rcases act_ra hkx ha1 with rfl | ⟨its', rfl⟩
        · exact fin hp hx' rfl
        · exact fin hp hx' (by simp only [Mem.sets]; exact set_comm' _ _ _ (by omega))
      · -- ra, ra
        rcases act_ra hkx ha1 with rfl | ⟨its', rfl⟩ <;> rcases act_ra hky ha2 with rfl | ⟨its, rfl⟩
        · exact fin (readY (by simp)) (readX (by simp)) rfl
        · exact fin (readY (by simp)) (readX (fun p hp' => by simp at hp'; subst hp'; exact (hl (.inr (by rw [hky]; rfl))).1)) rfl
        · exact fin (readY (fun p hp' => by simp at hp'; subst hp'; exact (hl (.inl (by rw [hkx]; rfl))).2)) (readX (by simp)) rfl
        · exact fin (readY (fun p hp' => by simp at hp'; subst hp'; exact (hl (.inl (by rw [hkx]; rfl))).2)) (readX (fun p hp' => by simp at hp'; subst hp'; exact (hl (.inr (by rw [hky]; rfl))).1)) (by simp only [Mem.sets]; exact set_comm' _ _ _ (by omega))

/-- One operation of a list, ahead of those that it may go ahead of. -/
theorem bubble {me n0 : Nat} {pc : PC} {ic : IC} {lim : Nat → Nat → Bool} {ops : Array Oper} {i : Nat} {oi : Oper} (hi : ops[i]? = some oi) :
    ∀ (A B : List Nat) (s s' : St), (∀ x ∈ A, x ≠ i ∧ ∃ ox, ops[x]? = some ox ∧ ox.apart ops oi = true ∧ compat (cls E me ox.op) (cls E me oi.op) = true ∧
      ((cls E me ox.op).mk = true ∨ (cls E me oi.op).mk = true → lim x (n0 + i) = false ∧ lim i (n0 + x) = false)) →
    exOs E me pc ic n0 lim ops (A ++ i :: B) s = some s' → exOs E me pc ic n0 lim ops (i :: (A ++ B)) s = some s'
  | [], B, s, s', _, h => h
  | x :: A, B, s, s', hA, h => by
    simp only [List.cons_append, exOs] at h
    split at h
    case h_2 => cases h
    rename_i s1 hs1
    have ih := bubble hi A B s1 s' (fun y hy => hA y (by simp [hy])) h
    simp only [exOs] at ih
    split at ih
    case h_2 => cases ih
    rename_i s2 hs2
    obtain ⟨hne, ox, hx, q1, q2, q3⟩ := hA x (by simp)
    obtain ⟨s1', e1, e2⟩ := swap hx hi hne q1 q2 q3 hs1 hs2
    simp only [List.cons_append, exOs, e1, e2]
    exact ih

end Go.Proofs.YtbdliphlolajaaaDoor.Sh
