/-
  The shadow interpreter, text 12: regions, in the text's order and in any other. No condition.
-/
import Derived.Test.YtbdliphlolajaaaDoorShSk
set_option linter.unusedVariables false
set_option linter.unusedSimpArgs false
namespace Go.Proofs.YtbdliphlolajaaaDoor.Sh
variable {E : Env} {P : Program} {g g' : Gh} {w : World}

/-- A region's operations, one behind the other. -/
theorem exOs_sim {pc : PC} {ic : IC} (hpc : PCok E pc) (hic : ICok E ic) {me n0 : Nat} {lim : Nat → Nat → Bool} {ops : Array Oper} {Q : Exit → Act → World → Prop} (new : Bool) :
    ∀ (L : List Nat) (s s' : St) (g : Gh) (w : World) (a : Act), L.Nodup → (∀ y ∈ L, y < ops.size) → (new = true → n0 + ops.size ≤ s.mem.next) →
    (new = false → ∀ y ∈ L, ∀ o, ops[y]? = some o → newOp o.op = false) → n0 ≤ s.mem.next →
    MR E g w s.mem (fun id => (new = true ∧ ∃ y ∈ L, id = n0 + y) ∨ s.mem.next ≤ id) → VRs g w s.tmps a.tmps → exOs E me pc ic n0 lim ops L s = some s' →
    (∀ g' w' a', Evo g w g' w' → MR E g' w' s'.mem (fun id => s'.mem.next ≤ id) → VRs g' w' s'.tmps a'.tmps → a'.defers = a.defers → (∀ id, id < n0 → g'.own id = g.own id) → s.mem.next ≤ s'.mem.next → Q .normal a' w') →
    wpOps E.P ops Q L a w
  | [], s, s', g, w, a, _, _, _, _, _, hM, hT, h, hQ => by
    simp only [exOs, Option.some.injEq] at h
    subst h
    exact hQ g w a (.refl g w) (hM.weaken fun id hid => .inr hid) hT rfl (fun _ _ => rfl) (Nat.le_refl _)
  | x :: L, s, s', g, w, a, hnd, hlt, hnew, hold, hn0, hM, hT, h, hQ => by
    simp only [exOs] at h
    split at h
    case h_2 => cases h
    rename_i s1 hs1
    rw [wpOps_cons]
    have hnd' := List.nodup_cons.1 hnd
    refine exO_sim hpc hic hM (fun id hid => .inr hid) hn0 hT (fun o ho hno => ?_) hs1 (fun g1 w1 a1 evo hM1 hT1 hd hown hle => ?_)
    · cases hn : new with
      | false => rw [hold hn x (by simp) o ho] at hno; cases hno
      | true =>
        have := hnew hn
        have := hlt x (by simp)
        exact ⟨.inl ⟨rfl, x, by simp, rfl⟩, by omega⟩
    · refine exOs_sim hpc hic new L s1 s' g1 w1 a1 hnd'.2 (fun y hy => hlt y (by simp [hy])) (fun hn => Nat.le_trans (hnew hn) hle) (fun hn y hy => hold hn y (by simp [hy])) (Nat.le_trans hn0 hle) (hM1.weaken fun id hid => ?_) hT1 h
        (fun g2 w2 a2 evo2 hM2 hT2 hd2 hown2 hle2 => hQ g2 w2 a2 (evo.trans evo2) hM2 hT2 (hd2.trans hd) (fun id hid => (hown2 id hid).trans (hown id hid)) (Nat.le_trans hle hle2))
      rcases hid with ⟨hn, y, hy, rfl⟩ | hid
      · refine .inl ⟨.inl ⟨hn, y, by simp [hy], rfl⟩, fun he => ?_, ?_⟩
        · have : y = x := by omega
          subst this
          exact hnd'.1 hy
        · have := hnew hn
          have := hlt y (by simp [hy])
          omega
      · exact .inr hid

/-! ### What an operation looks at -/

theorem evO_putS {tmps : List SV} {dst : Option Nat} {v : SV} {x : Operand} (h : ∀ d, dst = some d → x ≠ .tmp d) : evO E (putS tmps dst v) x = evO E tmps x := by
  cases dst with
  | none => rfl
  | some d =>
    cases x with
    | tmp t =>
      have hne : d ≠ t := fun e => h d rfl (e ▸ rfl)
      simp [evO, putS, List.getD, List.getElem?_set, hne]
    | _ => rfl

theorem putS_comm (tmps : List SV) {x y : Option Nat} (v u : SV) (h : ∀ d, x = some d → y ≠ some d) : putS (putS tmps x v) y u = putS (putS tmps y u) x v := by
  cases x with
  | none => rfl
  | some d =>
    cases y with
    | none => rfl
    | some e =>
      have hne : d ≠ e := fun he => h d rfl (he ▸ rfl)
      simp only [putS]
      exact List.set_comm _ _ hne

theorem act_congr {pc : PC} {aid : Nat} {ρ ρ' : Operand → SV} {get : Nat → Option (List SV)} {o : Oper} (h : ∀ x ∈ o.op.operands, ρ x = ρ' x) : act E pc aid ρ get o = act E pc aid ρ' get o := by
  obtain ⟨dst, op, type, pos, after, guard⟩ := o
  have lists : ∀ a : Array Operand, (∀ x ∈ a, ρ x = ρ' x) → a.toList.map ρ = a.toList.map ρ' := fun a ha => List.map_congr_left fun x hx => ha x (by simpa using hx)
  have pairs : ∀ a : Array (Nat × Operand), (∀ x ∈ a.map (·.2), ρ x = ρ' x) → a.toList.map (fun p => (p.1, ρ p.2)) = a.toList.map (fun p => (p.1, ρ' p.2)) := fun a ha =>
    List.map_congr_left fun p hp => by rw [ha p.2 (Array.mem_map.2 ⟨p, by simpa using hp, rfl⟩)]
  cases op <;> simp only [Op.operands] at h <;> simp only [act]
  case build t ps => rw [pairs ps fun x hx => h x (by simpa using hx)]
  case buildSlice t n ps => rw [pairs ps fun x hx => h x (by simpa using hx)]
  case makeFunc fn first caps => cases fn <;> simp only <;> rw [lists first fun x hx => h x (by simp [hx]), lists caps fun x hx => h x (by simp [hx])]
  case slice t x lo hi mx => cases lo <;> cases hi <;> cases mx <;> simp_all
  case call c =>
    obtain ⟨callee, args, cat⟩ := c
    cases callee with
    | value f =>
      have hf : ρ f = ρ' f := h f (by simp [Call.operands])
      have ha := lists args fun x hx => h x (by simp [Call.operands, hx])
      simp only [hf, ha]
    | invoke r m => rfl
    | builtin b =>
      have ha := lists args fun x hx => h x (by simp [Call.operands, hx])
      cases b <;> simp only [ha]
      case copy =>
        split
        · rename_i s x t t2 hs ht
          have hs' : args = #[s, x] := by rw [← Array.toList_inj]; exact hs
          subst hs'
          rw [h s (by simp [Call.operands]), h x (by simp [Call.operands])]
        · rfl
      case append =>
        split
        · rename_i s x t t2 hs ht
          have hs' : args = #[s, x] := by rw [← Array.toList_inj]; exact hs
          subst hs'
          rw [h s (by simp [Call.operands]), h x (by simp [Call.operands])]
        · rfl
      case len =>
        split
        · rename_i x t hs ht
          have hs' : args = #[x] := by rw [← Array.toList_inj]; exact hs
          subst hs'
          rw [h x (by simp [Call.operands])]
        · rfl
  all_goals (first | rfl | (simp_all; done))

theorem impCall_congr {me : Nat} {ρ ρ' : Operand → SV} {o : Oper} (h : ∀ x ∈ o.op.operands, ρ x = ρ' x) : impCall E me ρ o = impCall E me ρ' o := by
  obtain ⟨dst, op, type, pos, after, guard⟩ := o
  cases op <;> simp only [Op.operands] at h <;> simp only [impCall]
  rename_i c
  obtain ⟨callee, args, cat⟩ := c
  cases callee with
  | value f =>
    have hf : ρ f = ρ' f := h f (by simp [Call.operands])
    have ha : args.toList.map ρ = args.toList.map ρ' := List.map_congr_left fun x hx => h x (by simp [Call.operands]; exact .inr (by simpa using hx))
    simp only [hf, ha]
  | invoke r m => rfl
  | builtin b => rfl

/-- Writes that an operation does not look at. -/
theorem looks_ops {ops : Array Oper} {o : Oper} {dst : Option Nat} {tmps : List SV} {v : SV} (h : ∀ d, dst = some d → d ∉ o.looksAt ops) : ∀ x ∈ o.op.operands, evO E (putS tmps dst v) x = evO E tmps x :=
  fun x hx => evO_putS fun d hd hxd => h d hd (by
    subst hxd
    exact List.mem_append_left _ (List.mem_filterMap.2 ⟨.tmp d, by simpa using hx, rfl⟩))

theorem want_putS {ops : Array Oper} {o : Oper} {dst : Option Nat} {tmps : List SV} {v : SV} (h : ∀ d, dst = some d → d ∉ o.looksAt ops) : wantS ops o (putS tmps dst v) = wantS ops o tmps := by
  cases dst with
  | none => rfl
  | some d =>
    unfold wantS
    cases hg : o.guard with
    | none => rfl
    | some gw =>
      obtain ⟨j, want⟩ := gw
      have hy : yieldS ops (putS tmps (some d) v) j = yieldS ops tmps j := by
        unfold yieldS
        cases ht : (ops[j]?).bind (·.dst) with
        | none => rfl
        | some t =>
          have hne : d ≠ t := fun e => h d rfl (by subst e; simp [Oper.looksAt, hg, ht])
          simp [putS, List.getElem?_set, hne]
      simp only [hy]

/-! ### Kinds of operations -/

theorem imp_cls {me : Nat} {tmps : List SV} {o : Oper} {r : Nat × List SV} (h : impCall E me (evO E tmps) o = some r) : cls E me o.op = .c := by
  obtain ⟨dst, op, type, pos, after, guard⟩ := o
  cases op <;> simp only [impCall] at h <;> (try (cases h; done))
  rename_i c
  obtain ⟨callee, args, cat⟩ := c
  cases callee <;> simp only at h <;> (try (cases h; done))
  rename_i f
  cases f <;> simp only [cls]
  rename_i f
  simp only [evO] at h
  split at h
  · rename_i hc
    simp [hc]
  · cases h

theorem act_p {me : Nat} {pc : PC} {aid : Nat} {ρ : Operand → SV} {get get' : Nat → Option (List SV)} {o : Oper} (hc : cls E me o.op = .p) {v : SV} {u : List (Nat × Option (List SV))} (h : act E pc aid ρ get o = some (v, u)) :
    u = [] ∧ act E pc aid ρ get' o = some (v, u) := by
  obtain ⟨dst, op, type, pos, after, guard⟩ := o
  cases op <;> simp only [cls] at hc <;> (try (cases hc; done)) <;> simp only [act] at h ⊢
  case call c =>
    obtain ⟨callee, args, cat⟩ := c
    cases callee with
    | value f => cases f <;> simp only at hc <;> (try (split at hc)) <;> cases hc
    | invoke r m => cases hc
    | builtin b =>
      cases b <;> simp only at hc h ⊢ <;> (try (cases hc; done)) <;> (try (cases h; done)) <;> (try (split at hc <;> cases hc; done))
      all_goals
        refine ⟨?_, h⟩
        (repeat' split at h) <;> simp_all
  case makeFunc fn first caps =>
    cases fn <;> simp only at h ⊢ <;> (try (cases h; done))
    refine ⟨?_, h⟩
    simp_all
  all_goals
    refine ⟨?_, h⟩
    (repeat' split at h) <;> simp_all

theorem act_r {me : Nat} {pc : PC} {aid : Nat} {ρ : Operand → SV} {get : Nat → Option (List SV)} {o : Oper} (hc : cls E me o.op = .r) {v : SV} {u : List (Nat × Option (List SV))} (h : act E pc aid ρ get o = some (v, u)) : u = [] := by
  obtain ⟨dst, op, type, pos, after, guard⟩ := o
  cases op <;> simp only [cls] at hc <;> (try (cases hc; done)) <;> simp only [act] at h
  case call c =>
    obtain ⟨callee, args, cat⟩ := c
    cases callee with
    | value f => (repeat' split at h) <;> simp_all
    | invoke r m => cases hc
    | builtin b => cases b <;> simp only at hc <;> first | (cases hc; done) | (split at hc <;> cases hc)
  all_goals (repeat' split at h) <;> simp_all

theorem act_a {me : Nat} {pc : PC} {aid : Nat} {ρ : Operand → SV} {get get' : Nat → Option (List SV)} {o : Oper} (hc : cls E me o.op = .a) {v : SV} {u : List (Nat × Option (List SV))} (h : act E pc aid ρ get o = some (v, u)) :
    act E pc aid ρ get' o = some (v, u) ∧ ∃ its, u = [(aid, some its)] := by
  obtain ⟨dst, op, type, pos, after, guard⟩ := o
  cases op <;> simp only [cls] at hc <;> (try (cases hc; done)) <;> simp only [act] at h ⊢
  case call c =>
    obtain ⟨callee, args, cat⟩ := c
    cases callee with
    | value f => cases f <;> simp only at hc <;> (try (split at hc)) <;> cases hc
    | invoke r m => cases hc
    | builtin b => cases b <;> simp only at hc <;> first | (cases hc; done) | (split at hc <;> cases hc)
  all_goals
    refine ⟨h, ?_⟩
    (repeat' split at h) <;> (first | (cases h; done) | (simp only [Option.some.injEq, Prod.mk.injEq] at h; exact ⟨_, h.2.symm⟩))

theorem act_w {me : Nat} {pc : PC} {aid : Nat} {ρ : Operand → SV} {get : Nat → Option (List SV)} {o : Oper} (hc : cls E me o.op = .w) {v : SV} {u : List (Nat × Option (List SV))} (h : act E pc aid ρ get o = some (v, u)) :
    ∀ p ∈ u, p.1 = aid ∨ (get p.1).isSome = true := by
  obtain ⟨dst, op, type, pos, after, guard⟩ := o
  cases op <;> simp only [cls] at hc <;> (try (cases hc; done)) <;> simp only [act] at h
  case store t x y =>
    split at h
    case h_2 => cases h
    rename_i u' hu
    simp only [Option.some.injEq, Prod.mk.injEq] at h
    obtain ⟨_, rfl⟩ := h
    unfold storeS at hu
    (repeat' split at hu) <;> (try (cases hu; done))
    simp only [Option.some.injEq] at hu
    subst hu
    intro p hp
    simp only [List.mem_singleton] at hp
    subst hp
    refine .inr ?_
    simp_all
  case call c =>
    obtain ⟨callee, args, cat⟩ := c
    cases callee with
    | value f => cases f <;> simp only at hc <;> (try (split at hc)) <;> cases hc
    | invoke r m => cases hc
    | builtin b =>
      cases b <;> simp only at hc h <;> (try (cases hc; done))
      case copy =>
        split at h
        case h_2 => cases h
        unfold copyS at h
        (repeat' split at h) <;> (try (cases h; done)) <;> simp only [Option.some.injEq, Prod.mk.injEq] at h <;> obtain ⟨_, rfl⟩ := h <;> intro p hp <;> simp at hp
        subst hp
        exact .inr (by simp_all)
      split at hc
      case isTrue => cases hc
      split at h
      case h_2 => cases h
      unfold appendS at h
      (repeat' split at h) <;> (try (cases h; done)) <;> simp only [Option.some.injEq, Prod.mk.injEq] at h <;> obtain ⟨_, rfl⟩ := h <;> intro p hp <;> simp at hp
      · exact .inl (by rw [hp])
      · exact .inl (by rw [hp])
      · rcases hp with rfl | rfl
        · refine .inr ?_
          simp_all
        · exact .inl rfl

theorem act_ra {me : Nat} {pc : PC} {aid : Nat} {T : List SV} {get : Nat → Option (List SV)} {o : Oper} (hc : cls E me o.op = .ra) {v : SV} {u : List (Nat × Option (List SV))} (h : act E pc aid (evO E T) get o = some (v, u)) :
    u = [] ∨ ∃ its, u = [(aid, some its)] := by
  obtain ⟨dst, op, type, pos, after, guard⟩ := o
  cases op <;> simp only [cls] at hc <;> (try (cases hc; done)) <;> simp only [act] at h
  case call c =>
    obtain ⟨callee, args, cat⟩ := c
    cases callee with
    | value f => cases f <;> simp only at hc <;> (try (split at hc)) <;> cases hc
    | invoke r m => cases hc
    | builtin b =>
      cases b <;> simp only at hc h <;> (try (cases hc; done))
      split at hc
      case isFalse => cases hc
      rename_i hn
      split at h
      case h_2 => cases h
      rename_i s x t t2 ha ht
      unfold isNilC at hn
      rw [ha] at hn
      split at hn
      case h_2 => cases hn
      rename_i heq
      simp only [List.cons.injEq] at heq
      have hs : evO E T s = .nilsl := by rw [heq.1]; rfl
      rw [hs] at h
      generalize evO E T x = X at h
      simp only [appendS] at h
      split at h <;> (try (cases h; done))
      split at h <;> (try (cases h; done))
      split at h <;> (try (cases h; done))
      split at h <;> (try (cases h; done))
      split at h
      · simp only [Option.some.injEq, Prod.mk.injEq] at h
        exact .inl h.2.symm
      · split at h <;> (try (cases h; done))
        simp only [Option.some.injEq, Prod.mk.injEq] at h
        exact .inr ⟨_, h.2.symm⟩

end Go.Proofs.YtbdliphlolajaaaDoor.Sh
