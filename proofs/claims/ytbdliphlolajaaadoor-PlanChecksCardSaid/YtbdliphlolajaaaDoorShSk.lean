/-
  The shadow interpreter, text 11: calls, and one operation whatever it is. No condition.
-/
import Derived.Test.YtbdliphlolajaaaDoorShSj
set_option linter.unusedVariables false
set_option linter.unusedSimpArgs false
namespace Go.Proofs.YtbdliphlolajaaaDoor.Sh
variable {E : Env} {P : Program} {g g' : Gh} {w : World}

def Enters (P : Program) (f : Nat) : Prop := ∃ fn, P.funcs[f]? = some fn ∧ fn.body.isSome = true ∧ fn.name ≠ "runtime.NumGoroutine"

theorem callFunc_enter {f : Nat} (h : Enters P f) (args : Array Value) (w : World) : (callFunc f args).run P w = .ok (.enter f args) w := by
  obtain ⟨fn, hf, hb, hn⟩ := h
  obtain ⟨c, hc⟩ := Option.isSome_iff_exists.1 hb
  simp [callFunc, hf, hn, hc]

theorem Mem.sets_next (M : Mem) : ∀ u, (M.sets u).next = M.next
  | [] => rfl
  | (id, b) :: u => by rw [Mem.sets, Mem.sets_next (M.set id b) u]; rfl

def CallPost (E : Env) (g : Gh) (w : World) (M M' : Mem) (r : SV) : Ending → World → Prop := fun e w' =>
  ∃ v' g', e = .returned v' ∧ Evo g w g' w' ∧ MR E g' w' M' (fun id => M'.next ≤ id) ∧ VR g' w' r v' ∧ ∀ id, id < M.next → g'.own id = g.own id

/-- Calls in the caller's memory do what the shadow says. -/
def ICok (E : Env) (ic : IC) : Prop := ∀ f args M r M', ic f args M = some (r, M') → Enters E.P f ∧ M.next ≤ M'.next ∧
  ∀ g w fr args', MR E g w M fr → (∀ id, M.next ≤ id → fr id) → VRs g w args args' → Calls E.P f args' w (CallPost E g w M M' r)

/-- What a callee that works on pictures knows. -/
def calleeG (g : Gh) (w : World) : Gh := ⟨g.stab, w.heap.size, fun _ => none, fun _ => 0, fun _ => 0, g.sent⟩

def PCok (E : Env) (pc : PC) : Prop := ∀ f args r, pc f args = some r → Enters E.P f ∧
  ∀ g w M fr args', MR E g w M fr → VRs (calleeG g w) w args args' → Calls E.P f args' w fun e w' => ∃ v' g', e = .returned v' ∧ Evo g w g' w' ∧ MR E g' w' M fr ∧ VR g' w' r v' ∧ g'.own = g.own

theorem stab_lt {M : Mem} {fr : Nat → Prop} (hM : MR E g w M fr) {b o : Nat} (h : g.stab b o) : b < w.heap.size := by
  rcases h with h | h
  · exact Nat.lt_of_lt_of_le (hM.good b o h) hM.base
  · exact (hM.hwb b (by omega)).2

theorem calleeM {M : Mem} {fr : Nat → Prop} (hM : MR E g w M fr) : MR E (calleeG g w) w .empty (fun _ => True) where
  good := fun b o h => stab_lt hM h
  base := Nat.le_refl _
  blk := fun id items h => by simp [Mem.empty] at h
  inj := fun id id' b h => by simp [Mem.empty] at h
  fresh := fun _ _ => rfl
  hwb := fun b h => by simp [calleeG] at h
  lt := fun id b h => by simp [calleeG] at h
  glob := fun n items h => VR.pv_rel (g' := calleeG g w) (show (calleeG g w).sent = g.sent from rfl) (h := hM.glob n items h) (fun b o v hs _ => .inl hs) (by simp [pv, hM.plain n items h])
  plain := hM.plain
  raw := fun n v hv => ⟨Nat.lt_of_lt_of_le (hM.raw n v hv).1 hM.base, (hM.raw n v hv).2⟩
  sent := hM.sent

def blockSize (w : World) (b : Nat) : Nat := match w.heap[b]? with
  | some (.cells c _ _) => c.size
  | _ => 0

theorem lt_blockSize {b o : Nat} {v : Value} (h : w.cell? ⟨b, o, none⟩ = some v) : o < blockSize w b := by
  obtain ⟨c, e, fr, hb, hc⟩ := cells_of_cell? h
  simp only [blockSize, hb]
  exact (Array.getElem?_eq_some_iff.1 hc).1

/-- Behind such a call: what was made is done. -/
def afterG (g : Gh) (w w' : World) : Gh := { g with hw := fun b => if b < w.heap.size then g.hw b else blockSize w' b }

theorem pc_of_ic {ic : IC} (h : ICok E ic) : PCok E (pcOf ic) := by
  intro f args r hr
  unfold pcOf at hr
  split at hr
  case h_2 => cases hr
  rename_i v M1 hic
  split at hr
  case h_2 => cases hr
  rename_i v1 hpic
  split at hr
  case isFalse => cases hr
  rename_i hpv
  simp only [Option.some.injEq] at hr
  subst hr
  obtain ⟨hen, _, hcall⟩ := h f args .empty v M1 hic
  refine ⟨hen, fun g w M fr args' hM hargs => ?_⟩
  refine (hcall (calleeG g w) w _ args' (calleeM hM) (fun _ _ => trivial) hargs).mono ?_
  rintro e w' ⟨v', g1, rfl, evo, hM1, hv, _⟩
  have hbelow : ∀ b, b < w.heap.size → w'.heap[b]? = w.heap[b]? := fun b hb => evo.below.block b hb
  have hcellOld : ∀ b o v, w.cell? ⟨b, o, none⟩ = some v → w'.cell? ⟨b, o, none⟩ = some v := fun b o v hc => by
    rw [World.cell?_of_block (a := ⟨b, o, none⟩) (hbelow b (lt_of_cell? hc))]
    exact hc
  have evo' : Evo g w (afterG g w w') w' := by
    refine ⟨rfl, rfl, rfl, fun _ _ h => ⟨h, rfl⟩, fun b => ?_, fun b o v _ h => hcellOld b o v h, evo.size, evo.below.mono hM.base⟩
    simp only [afterG]
    split
    · exact Nat.le_refl _
    · rename_i hb
      rcases Nat.eq_zero_or_pos (g.hw b) with h0 | h0
      · omega
      · exact absurd (hM.hwb b h0).2 hb
  refine ⟨v', afterG g w w', rfl, evo', ?_, ?_, rfl⟩
  · refine ⟨hM.good, Nat.le_trans hM.base evo.below.size, fun id items hid => ?_, hM.inj, hM.fresh, fun b hb => ?_, fun id b hid => Nat.lt_of_lt_of_le (hM.lt id b hid) evo.below.size, fun n items hn => (hM.glob n items hn).mono hM.good evo', hM.plain, hM.raw.mono evo', hM.sent.mono evo'⟩
    · obtain ⟨b, c, e, h1, h2, h3, h4, h5, h6⟩ := hM.blk id items hid
      have hlt := hM.lt id b h1
      refine ⟨b, c, e, h1, h2, by simp [afterG, hlt, h3], h4, by rw [hbelow b hlt]; exact h5, fun k x hk => ?_⟩
      obtain ⟨a1, u, a2, a3⟩ := h6 k x hk
      exact ⟨a1, u, a2, a3.mono hM.good evo'⟩
    · simp only [afterG] at hb
      split at hb
      · rename_i hlt
        exact ⟨(hM.hwb b hb).1, Nat.lt_of_lt_of_le hlt evo.below.size⟩
      · rename_i hge
        refine ⟨Nat.le_trans hM.base (Nat.le_of_not_lt hge), ?_⟩
        simp only [blockSize] at hb
        split at hb
        · rename_i c e fr hb2
          exact (Array.getElem?_eq_some_iff.1 hb2).1
        · omega
  · have hb1 : g1.base = w.heap.size := evo.base
    have hp1 : g1.perm = g.stab := evo.perm
    refine pic_rel (g' := afterG g w w') hM1 (fun _ _ h => h) (show (afterG g w w').sent = g1.sent from evo.sent.symm) (fun b o u hs hc => ?_) (fun h => by cases h) (fun _ b o u hb hc => ?_) picDepth v v1 v' hpic (fun _ => hpv) hv
    · rcases hs with hs | hs
      · rw [hp1] at hs
        rcases hs with hs | hs
        · exact .inl hs
        · refine .inr ?_
          have := (hM.hwb b (by omega)).2
          simp only [afterG, if_pos this]
          exact hs
      · refine .inr ?_
        have hge := (hM1.hwb b (by omega)).1
        rw [hb1] at hge
        simp only [afterG, if_neg (Nat.not_lt.2 hge)]
        exact lt_blockSize hc
    · refine .inr ?_
      rw [hb1] at hb
      simp only [afterG, if_neg (Nat.not_lt.2 hb)]
      exact lt_blockSize hc

theorem VRs.append {xs ys : List SV} {a b : Array Value} (h1 : VRs g w xs a) (h2 : VRs g w ys b) : VRs g w (xs ++ ys) (a ++ b) := by
  refine ⟨by simp [h1.1, h2.1], fun k x v hx hv => ?_⟩
  by_cases hk : k < xs.length
  · rw [List.getElem?_append_left hk] at hx
    rw [Array.getElem?_append_left (by rw [← h1.1]; exact hk)] at hv
    exact h1.2 k x v hx hv
  · rw [List.getElem?_append_right (by omega)] at hx
    rw [Array.getElem?_append_right (by rw [← h1.1]; omega), ← h1.1] at hv
    exact h2.2 _ x v hx hv

theorem VRs.map {ρ : Operand → SV} {ρ' : Operand → Value} (hρ : ∀ x, VR g w (ρ x) (ρ' x)) (args : Array Operand) : VRs g w (args.toList.map ρ) (args.map ρ') :=
  ⟨by simp, fun k x v hx hv => by
    simp only [List.getElem?_map, Array.getElem?_toList, Array.getElem?_map, Option.map_eq_some_iff] at hx hv
    obtain ⟨p, hp, rfl⟩ := hx
    obtain ⟨q, hq, rfl⟩ := hv
    rw [hp] at hq
    cases hq
    exact hρ _⟩

theorem VRs.set {xs : List SV} {a : Act} {dst : Option Nat} {v : SV} {v' : Value} (h : VRs g w xs a.tmps) (hv : VR g w v v') : VRs g w (putS xs dst v) (a.put dst v').tmps := by
  cases dst with
  | none => exact h
  | some d =>
    refine ⟨by simp [putS, Act.put, h.1], fun k x u hx hu => ?_⟩
    simp only [putS, List.getElem?_set] at hx
    simp only [Act.put, Array.getElem?_setIfInBounds] at hu
    by_cases hk : d = k
    · subst hk
      simp only [if_true] at hx hu
      split at hx
      · split at hu
        · simp only [Option.some.injEq] at hx hu
          subst hx hu
          exact hv
        · cases hu
      · cases hx
    · rw [if_neg hk] at hx hu
      exact h.2 k x u hx hu

/-- Is the operation to be done? -/
theorem want_sim {tmps : List SV} {a : Act} (hT : VRs g w tmps a.tmps) {ops : Array Oper} {o : Oper} {b : Bool} (h : wantS ops o tmps = some b) : Region.wanted o (yielded ops a.tmps) = b := by
  unfold wantS at h
  unfold Region.wanted
  split at h
  · rename_i hg
    rw [hg]
    simpa using h
  · rename_i j want hg
    rw [hg]
    simp only
    have key : ∀ (y : Option SV), yieldS ops tmps j = y → (∀ c, y = some (.bool c) → yielded ops a.tmps j = some c) ∧ ((∀ c, y ≠ some (.bool c)) → y ≠ some .bad → yielded ops a.tmps j = none) := by
      intro y hy
      unfold yieldS at hy
      unfold yielded
      cases hd : (ops[j]?).bind (·.dst) with
      | none =>
        rw [hd] at hy
        subst hy
        exact ⟨fun c hc => (by cases hc), fun _ _ => rfl⟩
      | some t =>
        rw [hd] at hy
        simp only at hy
        by_cases hlt : t < tmps.length
        · have hlt' : t < a.tmps.size := by rw [← hT.1]; exact hlt
          have hvr := hT.2 t tmps[t] a.tmps[t] (by simp [hlt]) (by simp [hlt'])
          rw [List.getElem?_eq_getElem hlt] at hy
          subst hy
          simp only [Option.bind_some, Array.getElem?_eq_getElem hlt']
          generalize hx : tmps[t] = x at hvr
          generalize hu : a.tmps[t] = u at hvr
          refine ⟨fun c hc => ?_, fun h1 h2 => ?_⟩
          · simp only [Option.some.injEq] at hc
            subst hc
            rw [hvr.bool_inv]
          · cases hvr <;> first | rfl | (exact absurd rfl (h1 _)) | (exact absurd rfl h2)
        · rw [List.getElem?_eq_none (Nat.le_of_not_lt hlt)] at hy
          subst hy
          refine ⟨fun c hc => (by cases hc), fun _ _ => ?_⟩
          simp [Array.getElem?_eq_none (by rw [← hT.1]; exact Nat.le_of_not_lt hlt)]
    obtain ⟨k1, k2⟩ := key _ rfl
    split at h
    · rename_i c hc
      simp only [Option.some.injEq] at h
      rw [k1 c hc]
      rw [← h]
      cases c <;> cases want <;> rfl
    · cases h
    · rename_i hn1 hn2
      simp only [Option.some.injEq] at h
      rw [k2 (fun c hc => hn1 c hc) (fun hc => hn2 hc), ← h]
      rfl

theorem resolve_value {a : Act} {c : Call} {ty : TypeId} {gop : Operand} {f : Nat} {first caps : Array Value} (hc : c.callee = .value gop) (hg : a.eval gop = .func (.func f) first caps) (hen : Enters P f) :
    ((do let d ← resolve a.eval c ty; invoke d.target d.args) : Sem Next).run P w = .ok (.enter f (first ++ c.args.map a.eval ++ caps)) w := by
  simp only [resolve, hc, hg, Deferred.ofValue, Sem.run_bind, Sem.run_pure, Result.andThen_ok, invoke]
  exact callFunc_enter hen _ w

/-- One operation of a region. -/
theorem exO_sim {pc : PC} {ic : IC} (hpc : PCok E pc) (hic : ICok E ic) {me n0 : Nat} {lim : Nat → Nat → Bool} {ops : Array Oper} {x : Nat} {s s' : St} {a : Act} {fr : Nat → Prop} {Q : Exit → Act → World → Prop} {K : Act → World → Prop}
    (hM : MR E g w s.mem fr) (hnx : ∀ id, s.mem.next ≤ id → fr id) (hn0 : n0 ≤ s.mem.next) (hT : VRs g w s.tmps a.tmps)
    (hfr : ∀ o, ops[x]? = some o → newOp o.op = true → fr (n0 + x) ∧ n0 + x < s.mem.next) (h : exO E me pc ic n0 lim ops x s = some s')
    (hK : ∀ g' w' a', Evo g w g' w' → MR E g' w' s'.mem (fun id => (fr id ∧ id ≠ n0 + x ∧ id < s.mem.next) ∨ s'.mem.next ≤ id) → VRs g' w' s'.tmps a'.tmps → a'.defers = a.defers →
      (∀ id, id < n0 → g'.own id = g.own id) → s.mem.next ≤ s'.mem.next → K a' w') :
    wpOp E.P ops Q x K a w := by
  unfold exO at h
  unfold wpOp
  split at h
  · rename_i hx
    simp only [Option.some.injEq] at h
    subst h
    rw [hx]
    exact hK g w a (.refl g w) (hM.weaken fun id hid => hid.elim (fun h => h.1) (fun h => hnx id h)) hT rfl (fun _ _ => rfl) (Nat.le_refl _)
  rename_i o hx
  rw [hx]
  simp only
  split at h
  · cases h
  · rename_i hw
    simp only [Option.some.injEq] at h
    subst h
    rw [want_sim hT hw]
    simp only [Bool.false_eq_true, if_false]
    refine hK g w _ (.refl g w) (hM.weaken fun id hid => hid.elim (fun h => h.1) (fun h => hnx id h)) (hT.set (.tup [] #[] rfl (fun k x v hx _ => by simp at hx))) ?_ (fun _ _ => rfl) (Nat.le_refl _)
    cases o.dst <;> rfl
  rename_i hw
  rw [want_sim hT hw]
  simp only [if_true]
  refine .inl ?_
  have hρ : ∀ y, VR g w (evO E s.tmps y) (a.eval y) := fun y => evO_rel hM.glob hT y
  have hput : ∀ v : Value, (a.put o.dst v).defers = a.defers := fun v => by cases o.dst <;> rfl
  unfold Oper.wp
  split at h
  · rename_i f args himp
    split at h
    case h_2 => cases h
    rename_i v M hcall
    simp only [Option.some.injEq] at h
    subst h
    unfold impCall at himp
    split at himp
    case h_2 => cases himp
    rename_i gop cargs cat hop
    split at himp
    case h_2 => cases himp
    rename_i f0 first caps hgop
    split at himp
    case isFalse => cases himp
    simp only [Option.some.injEq, Prod.mk.injEq] at himp
    obtain ⟨rfl, rfl⟩ := himp
    have hg := hρ gop
    rw [hgop] at hg
    generalize hgv : a.eval gop = gv at hg
    cases hg with
    | fn _ _ _ fa fc hfal hfcl hfar hfcr =>
    obtain ⟨hen, hle, hsim⟩ := hic _ _ _ _ _ hcall
    have hrun : (execOp a.eval o).run E.P w = .ok (.enter f0 (fa ++ cargs.map a.eval ++ fc)) w := by
      unfold execOp
      rw [hop]
      exact resolve_value (c := { callee := .value gop, args := cargs, argTypes := cat }) rfl hgv hen
    rw [hrun, Oper.upon_enter]
    have hargs : VRs g w (first ++ cargs.toList.map (evO E s.tmps) ++ caps) (fa ++ cargs.map a.eval ++ fc) :=
      (VRs.append ⟨hfal, hfar⟩ (VRs.map hρ cargs)).append ⟨hfcl, hfcr⟩
    refine (hsim g w fr _ hM hnx hargs).mono ?_
    rintro e w' ⟨v', g', rfl, evo, hM', hv, hown⟩
    refine hK g' w' _ evo ?_ ((hT.mono hM.good evo).set hv) (hput v') (fun id hid => hown id (by omega)) hle
    refine { hM' with fresh := fun id hid => ?_ }
    rcases hid with ⟨h1, h2, h3⟩ | h1
    · rw [hown id h3]
      exact hM.fresh id h1
    · exact hM'.fresh id h1
  · rename_i himp
    split at h
    case h_2 => cases h
    rename_i v u hact
    simp only [Option.some.injEq] at h
    subst h
    have hget : ∀ id items, (fun id => if lim x id then s.mem.blk id else none) id = some items → s.mem.blk id = some items := by
      intro id items hid
      simp only at hid
      split at hid
      · exact hid
      · cases hid
    have hnext : (s.mem.sets u).next = s.mem.next := Mem.sets_next _ u
    by_cases hcl : isCall o.op = true
    · -- a call in memory of its own
      obtain ⟨dst, op, type, pos, after, guard⟩ := o
      cases op <;> simp only [isCall] at hcl <;> (try (cases hcl; done))
      rename_i c
      obtain ⟨callee, cargs, cat⟩ := c
      cases callee <;> simp only at hcl <;> (try (cases hcl; done))
      rename_i gop
      simp only [act] at hact
      split at hact
      case h_2 => cases hact
      rename_i f first caps hgop
      split at hact
      case h_2 => cases hact
      rename_i args hpics
      obtain ⟨hpcv, rfl⟩ := some_pair hact
      have hg := hρ gop
      rw [hgop] at hg
      generalize hgv : a.eval gop = gv at hg
      cases hg with
      | fn _ _ _ fa fc hfal hfcl hfar hfcr =>
      obtain ⟨hen, hsim⟩ := hpc f args v hpcv
      have hrun : (execOp a.eval { dst := dst, op := .call { callee := .value gop, args := cargs, argTypes := cat }, type := type, pos := pos, after := after, guard := guard }).run E.P w = .ok (.enter f (fa ++ cargs.map a.eval ++ fc)) w := by
        unfold execOp
        exact resolve_value (c := { callee := .value gop, args := cargs, argTypes := cat }) rfl hgv hen
      rw [hrun, Oper.upon_enter]
      have hargs : VRs g w (first ++ cargs.toList.map (evO E s.tmps) ++ caps) (fa ++ cargs.map a.eval ++ fc) :=
        (VRs.append ⟨hfal, hfar⟩ (VRs.map hρ cargs)).append ⟨hfcl, hfcr⟩
      obtain ⟨m1, m2⟩ := mapM_some hpics
      have hargs' : VRs (calleeG g w) w args (fa ++ cargs.map a.eval ++ fc) := by
        refine ⟨by rw [← m1]; exact hargs.1, fun k y u' hy hu' => ?_⟩
        have hlt : k < (first ++ cargs.toList.map (evO E s.tmps) ++ caps).length := by rw [m1]; exact (List.getElem?_eq_some_iff.1 hy).1
        exact pic_rel (g' := calleeG g w) hM hget (show (calleeG g w).sent = g.sent from rfl) (fun b o _ hs _ => .inl hs) (fun _ b o _ hc => .inl (lt_of_cell? hc)) (fun h => by cases h) picDepth _ y u' (m2 k _ y (List.getElem?_eq_getElem hlt) hy) (fun h => by cases h)
          (hargs.2 k _ u' (List.getElem?_eq_getElem hlt) hu')
      refine (hsim g w s.mem fr _ hM hargs').mono ?_
      rintro e w' ⟨v', g', rfl, evo, hM', hv, hown⟩
      exact hK g' w' _ evo (hM'.weaken fun id hid => hid.elim (fun h => h.1) (fun h => hnx id h)) ((hT.mono hM.good evo).set hv) (hput v') (fun id _ => by rw [hown]) (Nat.le_refl _)
    · have hd := act_sim hM hρ hget (by simpa using hcl) (fun hnw => (hfr o hx hnw).1) hact
      obtain ⟨w', g', v', hR, evo, hM', hv, hkeep⟩ := hd.ex
      have hfin : K (a.put o.dst v') w' := by
        refine hK g' w' _ evo ?_ ((hT.mono hM.good evo).set hv) (hput v') (fun id hid => hkeep id (by omega)) (by rw [hnext]; exact Nat.le_refl _)
        refine { hM' with fresh := fun id hid => hM'.fresh id ?_ }
        rcases hid with ⟨h1, h2, h3⟩ | h1
        · exact ⟨h1, fun _ => h2⟩
        · rw [hnext] at h1
          exact ⟨hnx id h1, fun hnw => by have := (hfr o hx hnw).2; omega⟩
      rcases hR with hR | ⟨hR, rfl⟩
      · rw [hR]
        exact hfin
      · rw [hR]
        exact hfin

end Go.Proofs.YtbdliphlolajaaaDoor.Sh
