/-
  The shadow interpreter, text 14: regions, code, functions: what the shadow says, the model does. No condition.
-/
import Derived.Test.YtbdliphlolajaaaDoorShSm
import Derived.LoopN
set_option linter.unusedVariables false
set_option linter.unusedSimpArgs false
namespace Go.Proofs.YtbdliphlolajaaaDoor.Sh
variable {E : Env} {P : Program} {g g' : Gh} {w : World}

theorem evo_drew (g : Gh) (w : World) : Evo g w g w.drew :=
  ⟨rfl, rfl, rfl, fun _ _ h => ⟨h, rfl⟩, fun _ => Nat.le_refl _, fun _ _ _ _ h => h, fun _ c _ _ h => ⟨c, h, rfl⟩, (RowKit.Below.refl _ _).drew⟩

theorem MR.drew {M : Mem} {fr : Nat → Prop} (hM : MR E g w M fr) : MR E g w.drew M fr :=
  ⟨hM.good, hM.base, fun id its h => by
      obtain ⟨b, c, e, h1, h2, h3, h4, h5, h6⟩ := hM.blk id its h
      exact ⟨b, c, e, h1, h2, h3, h4, h5, fun k x hk => by obtain ⟨a1, v, a2, a3⟩ := h6 k x hk; exact ⟨a1, v, a2, a3.mono hM.good (evo_drew g w)⟩⟩,
    hM.inj, hM.fresh, hM.hwb, hM.lt, fun n its h => (hM.glob n its h).mono hM.good (evo_drew g w), hM.plain, hM.raw.mono (evo_drew g w), hM.sent.mono (evo_drew g w)⟩

theorem makesNew_of_newOp {me : Nat} {op : Op} (h : newOp op = true) : makesNew E me op = true := by
  cases op with
  | call c =>
    obtain ⟨callee, args, cat⟩ := c
    cases callee with
    | value f => cases h
    | invoke r m => cases h
    | builtin b => cases b <;> first | rfl | (cases h; done) | (simp only [makesNew, cls]; cases isNilC args <;> rfl)
  | _ => first | rfl | cases h

/-- Lists that are left, by what is listed. -/
theorem left_split {n i : Nat} {p : Nat → Bool} (hi : i < n) (hp : p i = true) :
    ∃ A B, (List.range n).filter p = A ++ i :: B ∧ (∀ x ∈ A, x < i ∧ p x = true ∧ x < n) ∧ (∀ x ∈ B, x < n) ∧ (List.range n).filter (fun j => p j && (j != i)) = A ++ B := by
  have hmem : i ∈ (List.range n).filter p := List.mem_filter.2 ⟨List.mem_range.2 hi, hp⟩
  obtain ⟨A, B, hAB⟩ := List.append_of_mem hmem
  have hpw : ((List.range n).filter p).Pairwise (· < ·) := List.Pairwise.filter _ List.pairwise_lt_range
  rw [hAB] at hpw
  have hA : ∀ x ∈ A, x < i := fun x hx => (List.pairwise_append.1 hpw).2.2 x hx i (by simp)
  have hB : ∀ x ∈ B, i < x := fun x hx => (List.pairwise_cons.1 (List.pairwise_append.1 hpw).2.1).1 x hx
  refine ⟨A, B, hAB, fun x hx => ⟨hA x hx, ?_⟩, fun x hx => ?_, ?_⟩
  · have : x ∈ (List.range n).filter p := by rw [hAB]; simp [hx]
    have := List.mem_filter.1 this
    exact ⟨this.2, List.mem_range.1 this.1⟩
  · have : x ∈ (List.range n).filter p := by rw [hAB]; simp [hx]
    exact List.mem_range.1 (List.mem_filter.1 this).1
  · have h2 : (List.range n).filter (fun j => p j && (j != i)) = ((List.range n).filter p).filter (fun j => j != i) := by
      rw [List.filter_filter]
      congr 1
      funext j
      rw [Bool.and_comm]
    rw [h2, hAB, List.filter_append, List.filter_cons]
    have hA' : A.filter (fun j => j != i) = A := List.filter_eq_self.2 fun x hx => by have := hA x hx; simp; omega
    have hB' : B.filter (fun j => j != i) = B := List.filter_eq_self.2 fun x hx => by have := hB x hx; simp; omega
    rw [hA', hB']
    simp

theorem draw_sim {pc : PC} {ic : IC} (hpc : PCok E pc) (hic : ICok E ic) {me n0 : Nat} {ops : Array Oper} {Q : Exit → Act → World → Prop} (new : Bool) {lim : Nat → Nat → Bool}
    (hlim : new = true → lim = limOf ops n0) (hnoa : new = false → ∀ o ∈ ops.toList, makesNew E me o.op = false) (hok : drawOk E me ops = true) :
    ∀ (fuel : Nat) (listed : Array Bool) (s s' : St) (g : Gh) (w : World) (a : Act), ((List.range ops.size).filter fun j => !listed.getD j true).length = fuel → listed.size = ops.size →
    (∀ j, listed.getD j false = true → ∀ p ∈ (befs ops.toList).getD j [], listed.getD p false = true) →
    (new = true → n0 + ops.size ≤ s.mem.next) → n0 ≤ s.mem.next →
    MR E g w s.mem (fun id => (new = true ∧ ∃ y ∈ (List.range ops.size).filter (fun j => !listed.getD j true), id = n0 + y) ∨ s.mem.next ≤ id) → VRs g w s.tmps a.tmps →
    exOs E me pc ic n0 lim ops ((List.range ops.size).filter fun j => !listed.getD j true) s = some s' →
    (∀ g' w' a', Evo g w g' w' → MR E g' w' s'.mem (fun id => s'.mem.next ≤ id) → VRs g' w' s'.tmps a'.tmps → a'.defers = a.defers → (∀ id, id < n0 → g'.own id = g.own id) → s.mem.next ≤ s'.mem.next → Q .normal a' w') →
    wpAny E.P .any ops Q fuel listed a w := by
  intro fuel
  induction fuel with
  | zero =>
    intro listed s s' g w a hfuel hsz hcl hnew hn0 hM hT h hQ
    have hnil := List.length_eq_zero_iff.1 hfuel
    rw [hnil] at h
    simp only [exOs, Option.some.injEq] at h
    subst h
    refine ⟨?_, hQ g w a (.refl g w) (hM.weaken fun id hid => .inr hid) hT rfl (fun _ _ => rfl) (Nat.le_refl _)⟩
    cases hr : Region.ready .any ops listed with
    | nil => rfl
    | cons i rest =>
      have hi : i ∈ Region.ready .any ops listed := by rw [hr]; simp
      obtain ⟨h1, o, ho, _⟩ := mem_ready.1 hi
      have : i ∈ (List.range ops.size).filter fun j => !listed.getD j true := List.mem_filter.2 ⟨List.mem_range.2 (Array.getElem?_eq_some_iff.1 ho).1, by simp [h1]⟩
      rw [hnil] at this
      cases this
  | succ fuel ih =>
    intro listed s s' g w a hfuel hsz hcl hnew hn0 hM hT h hQ
    have hall := List.all_eq_true.1 hok
    refine ⟨fun hr => ?_, fun i hi => ?_⟩
    · -- something is left: the first of it is ready
      exfalso
      cases hL : (List.range ops.size).filter fun j => !listed.getD j true with
      | nil => rw [hL] at hfuel; cases hfuel
      | cons m rest =>
        have hm : m ∈ (List.range ops.size).filter fun j => !listed.getD j true := by rw [hL]; simp
        obtain ⟨hm1, hm2⟩ := List.mem_filter.1 hm
        have hmlt := List.mem_range.1 hm1
        have hpw : ((List.range ops.size).filter fun j => !listed.getD j true).Pairwise (· < ·) := List.Pairwise.filter _ List.pairwise_lt_range
        rw [hL] at hpw
        have hfirst : ∀ x, x < m → listed.getD x true = true := by
          intro x hx
          cases hlx : listed.getD x true with
          | true => rfl
          | false =>
            have : x ∈ (List.range ops.size).filter fun j => !listed.getD j true := List.mem_filter.2 ⟨List.mem_range.2 (by omega), by simp only [hlx]; rfl⟩
            rw [hL] at this
            rcases List.mem_cons.1 this with rfl | hin
            · omega
            · have := (List.pairwise_cons.1 hpw).1 x hin
              omega
        have hop : ops[m]? = some ops[m] := by simp [hmlt]
        have hready : m ∈ Region.ready .any ops listed := by
          refine mem_ready.2 ⟨by simpa using hm2, ops[m], hop, fun e he hb => ?_⟩
          have hj := hall m hm1
          rw [hop] at hj
          simp only [Bool.and_eq_true, List.all_eq_true] at hj
          have hlt := hj.1.1 e (by simpa using he)
          simp only [hb, Bool.not_true, Bool.false_or, decide_eq_true_eq] at hlt
          have := hfirst e.on hlt
          have hlt2 : e.on < listed.size := by omega
          simpa [Array.getD, hlt2] using this
        rw [hr] at hready
        cases hready
    · obtain ⟨h1, oi, hoi, hedges⟩ := mem_ready.1 hi
      have hilt : i < ops.size := (Array.getElem?_eq_some_iff.1 hoi).1
      have hbi : ∀ p ∈ (befs ops.toList).getD i [], listed.getD p false = true := by
        intro p hp
        have hj := hall i (List.mem_range.2 hilt)
        rw [hoi] at hj
        simp only [Bool.and_eq_true, List.all_eq_true, List.any_eq_true, Bool.or_eq_true, beq_iff_eq] at hj
        obtain ⟨e, he, hb, hpe⟩ := hj.1.2 p hp
        have hle := hedges e (by simpa using he) hb
        rcases hpe with rfl | hpe
        · exact hle
        · exact hcl e.on hle p (by simpa using hpe)
      obtain ⟨A, B, hAB, hA, hB, hAB'⟩ := left_split (p := fun j => !listed.getD j true) hilt (by simp [h1])
      have hset : ∀ j, (listed.setIfInBounds i true).getD j true = (if j = i then true else listed.getD j true) := by
        intro j
        by_cases hj : j = i
        · subst hj
          simp [Array.getD, hsz, hilt]
        · simp only [Array.getD_eq_getD_getElem?, Array.getElem?_setIfInBounds_ne (Ne.symm hj), if_neg hj]
      have hsetF : ∀ j, (listed.setIfInBounds i true).getD j false = (if j = i then true else listed.getD j false) := by
        intro j
        by_cases hj : j = i
        · subst hj
          simp [Array.getD, hsz, hilt]
        · simp only [Array.getD_eq_getD_getElem?, Array.getElem?_setIfInBounds_ne (Ne.symm hj), if_neg hj]
      have hL' : (List.range ops.size).filter (fun j => !(listed.setIfInBounds i true).getD j true) = A ++ B := by
        rw [← hAB']
        congr 1
        funext j
        rw [hset]
        by_cases hj : j = i <;> simp [hj]
      have hbub := bubble (E := E) (me := me) (pc := pc) (ic := ic) (n0 := n0) (lim := lim) hoi A B s s' (fun x hx => by
        obtain ⟨hxi, hxl, hxn⟩ := hA x hx
        have hxl' : listed.getD x true = false := by simpa using hxl
        have hxnot : x ∉ (befs ops.toList).getD i [] := by
          intro hin
          have h2 := hbi x hin
          have hlt2 : x < listed.size := by omega
          simp [Array.getD, hlt2] at h2 hxl'
          rw [h2] at hxl'
          cases hxl'
        have hj := hall i (List.mem_range.2 hilt)
        simp only [Bool.and_eq_true, List.all_eq_true] at hj
        have hpair := hj.2 x (List.mem_range.2 hxi)
        have hox : ops[x]? = some ops[x] := by simp [hxn]
        unfold okPair at hpair
        rw [hox, hoi] at hpair
        have hc1 : ((befs ops.toList).getD i []).contains x = false := by simpa using hxnot
        rw [hc1] at hpair
        simp only [Bool.false_or, Bool.and_eq_true, Bool.not_eq_true'] at hpair
        refine ⟨by omega, ops[x], hox, hpair.2.1, hpair.2.2, fun hcls => ?_⟩
        cases hn : new with
        | false =>
          have hna := hnoa hn
          exfalso
          rcases hcls with hc | hc
          · have := hna ops[x] (by simp)
            cases hk : cls E me ops[x].op <;> rw [hk] at hc <;> first | (cases hc; done) | (simp [makesNew, hk] at this)
          · have := hna oi (Array.mem_toList_iff.2 (Array.mem_of_getElem? hoi))
            cases hk : cls E me oi.op <;> rw [hk] at hc <;> first | (cases hc; done) | (simp [makesNew, hk] at this)
        | true =>
          rw [hlim hn]
          have hc2 : ((befs ops.toList).getD x []).contains i = false := hpair.1
          constructor
          · simp only [limOf, Nat.add_sub_cancel_left, hc2, Bool.or_false]
            simp
            omega
          · simp only [limOf, Nat.add_sub_cancel_left, hc1, Bool.or_false]
            simp
            omega) (by rw [← hAB]; exact h)
      simp only [exOs] at hbub
      split at hbub
      case h_2 => cases hbub
      rename_i s1 hs1
      refine exO_sim hpc hic hM (fun id hid => .inr hid) hn0 hT (fun o ho hno => ?_) hs1 (fun g1 w1 a1 evo hM1 hT1 hd hown hle => ?_)
      · cases hn : new with
        | false =>
          have := hnoa hn o (Array.mem_toList_iff.2 (Array.mem_of_getElem? ho))
          rw [makesNew_of_newOp hno] at this
          cases this
        | true =>
          have := hnew hn
          exact ⟨.inl ⟨rfl, i, by rw [hAB]; simp, rfl⟩, by omega⟩
      · have hnd : (A ++ i :: B).Nodup := by
          rw [← hAB]
          exact List.Pairwise.filter _ List.nodup_range
        have hni : i ∉ A ++ B := by
          have := List.nodup_append.1 hnd
          intro hin
          rcases List.mem_append.1 hin with hin | hin
          · exact this.2.2 i hin i (by simp) rfl
          · exact (List.nodup_cons.1 this.2.1).1 hin
        refine ih (listed.setIfInBounds i true) s1 s' g1 w1 a1 ?_ (by simpa using hsz) (fun j hj p hp => ?_) (fun hn => Nat.le_trans (hnew hn) hle) (Nat.le_trans hn0 hle) ?_ hT1 (by rw [hL']; exact hbub)
          (fun g2 w2 a2 evo2 hM2 hT2 hd2 hown2 hle2 => hQ g2 w2 a2 (evo.trans evo2) hM2 hT2 (hd2.trans hd) (fun id hid => (hown2 id hid).trans (hown id hid)) (Nat.le_trans hle hle2))
        · rw [hL']
          have : (A ++ i :: B).length = fuel + 1 := by rw [← hAB]; exact hfuel
          simp at this ⊢
          omega
        · rw [hsetF] at hj ⊢
          by_cases hpi : p = i
          · simp [hpi]
          · rw [if_neg hpi]
            by_cases hji : j = i
            · subst hji
              exact hbi p hp
            · rw [if_neg hji] at hj
              exact hcl j hj p hp
        · rw [hL']
          refine hM1.weaken fun id hid => ?_
          rcases hid with ⟨hn, y, hy, rfl⟩ | hid
          · refine .inl ⟨.inl ⟨hn, y, by rw [hAB]; rcases List.mem_append.1 hy with hy | hy <;> simp [hy], rfl⟩, fun he => ?_, ?_⟩
            · have : y = i := by omega
              subst this
              exact hni hy
            · have := hnew hn
              have hylt : y < ops.size := by
                rcases List.mem_append.1 hy with hy | hy
                · exact (hA y hy).2.2
                · exact hB y hy
              omega
          · exact .inr hid


theorem regS0_sim {pc : PC} {ic : IC} (hmix : E.P.follows .mixedOrders = true) (hpc : PCok E pc) (hic : ICok E ic) {me id : Nat} {ops : Array Oper} {draw : Bool} {s s' : St} {a : Act} {Q : Exit → Act → World → Prop}
    (hM : MR E g w s.mem (fun id => s.mem.next ≤ id)) (hT : VRs g w s.tmps a.tmps) (h : regS0 E me pc ic ops draw s = some s')
    (hQ : ∀ g' w' a', Evo g w g' w' → MR E g' w' s'.mem (fun id => s'.mem.next ≤ id) → VRs g' w' s'.tmps a'.tmps → a'.defers = a.defers → (∀ id, id < s.mem.next → g'.own id = g.own id) → s.mem.next ≤ s'.mem.next → Q .normal a' w') :
    (Code.region id ops draw).wp E.P Q a w := by
  unfold regS0 at h
  simp only at h
  split at h
  · cases h
  rename_i hdr
  have hM1 : ∀ new : Bool, MR E g w (if new then (⟨s.tmps, ⟨s.mem.blk, s.mem.next + ops.size⟩⟩ : St) else s).mem (fun id => (new = true ∧ ∃ y ∈ List.range ops.size, id = s.mem.next + y) ∨ (if new then (⟨s.tmps, ⟨s.mem.blk, s.mem.next + ops.size⟩⟩ : St) else s).mem.next ≤ id) := by
    intro new
    cases new with
    | false => exact hM.weaken fun id hid => by simpa using hid
    | true =>
      refine (hM.of_next (s.mem.next + ops.size)).weaken fun id hid => ?_
      rcases hid with ⟨_, y, _, rfl⟩ | hid
      · omega
      · simp at hid; omega
  have hnew0 : ops.any (fun o => makesNew E me o.op) = false → ∀ o ∈ ops.toList, makesNew E me o.op = false := by
    intro hf o ho
    have := Array.any_eq_false.1 hf
    obtain ⟨k, hk, rfl⟩ := Array.mem_iff_getElem.1 (by simpa using ho)
    have := this k hk
    simpa using this
  have hnx : ops.any (fun o => makesNew E me o.op) = true → s.mem.next + ops.size ≤ (if ops.any (fun o => makesNew E me o.op) then (⟨s.tmps, ⟨s.mem.blk, s.mem.next + ops.size⟩⟩ : St) else s).mem.next := by
    intro ht
    rw [if_pos ht]
    exact Nat.le_refl _
  have hle : s.mem.next ≤ (if ops.any (fun o => makesNew E me o.op) then (⟨s.tmps, ⟨s.mem.blk, s.mem.next + ops.size⟩⟩ : St) else s).mem.next := by
    split
    · simp
    · exact Nat.le_refl _
  have hT1 : VRs g w (if ops.any (fun o => makesNew E me o.op) then (⟨s.tmps, ⟨s.mem.blk, s.mem.next + ops.size⟩⟩ : St) else s).tmps a.tmps := by
    split <;> exact hT
  have hfin : ∀ g' w' a', Evo g w g' w' → MR E g' w' s'.mem (fun id => s'.mem.next ≤ id) → VRs g' w' s'.tmps a'.tmps → a'.defers = a.defers → (∀ id, id < s.mem.next → g'.own id = g.own id) →
      (if ops.any (fun o => makesNew E me o.op) then (⟨s.tmps, ⟨s.mem.blk, s.mem.next + ops.size⟩⟩ : St) else s).mem.next ≤ s'.mem.next → Q .normal a' w' :=
    fun g' w' a' e1 e2 e3 e4 e5 e6 => hQ g' w' a' e1 e2 e3 e4 e5 (Nat.le_trans hle e6)
  cases draw with
  | false =>
    refine wp_region ?_
    exact exOs_sim hpc hic (ops.any fun o => makesNew E me o.op) (List.range ops.size) _ s' g w a List.nodup_range (fun y hy => List.mem_range.1 hy) hnx
      (fun hf y hy o ho => by
        cases hno : newOp o.op with
        | false => rfl
        | true =>
          have := hnew0 hf o (Array.mem_toList_iff.2 (Array.mem_of_getElem? ho))
          rw [makesNew_of_newOp hno] at this
          cases this) hle (hM1 _) hT1 h hfin
  | true =>
    have hok : drawOk E me ops = true := by simpa using hdr
    refine wp_region_any hmix ?_
    have hL : (List.range ops.size).filter (fun j => !(Array.replicate ops.size false).getD j true) = List.range ops.size := by
      refine List.filter_eq_self.2 fun j hj => ?_
      have := List.mem_range.1 hj
      simp [Array.getD, this]
    have hd := evo_drew g w
    refine draw_sim hpc hic (me := me) (n0 := s.mem.next) (ops.any fun o => makesNew E me o.op) (lim := if (true && ops.any fun o => makesNew E me o.op) then limOf ops s.mem.next else fun _ _ => true) (fun hn => by simp [hn]) hnew0 hok ops.size (Array.replicate ops.size false) _ s' g w.drew a
      (by rw [hL]; simp) (by simp) (fun j hj => by
        exfalso
        simp only [Array.getD_eq_getD_getElem?, Array.getElem?_replicate] at hj
        split at hj <;> simp at hj) hnx hle (by rw [hL]; exact (hM1 _).drew) (hT1.mono hM.good hd) (by rw [hL]; exact h)
      (fun g' w' a' e1 e2 e3 e4 e5 e6 => hfin g' w' a' (hd.trans e1) e2 e3 e4 e5 e6)

def Ex.real : Ex → Exit
  | .normal => .normal
  | .exit id => .exit id
  | .ret => .ret

theorem VRs.forget {T' : Array Value} : ∀ (l : List Nat) {T : List SV}, VRs g w T T' → VRs g w (Go.Proofs.YtbdliphlolajaaaDoor.Sh.forget l T) T'
  | [], T, h => h
  | d :: r, T, h => VRs.forget r ⟨by simp [h.1], fun k x v hx hv => by
      rw [List.getElem?_set] at hx
      split at hx
      · split at hx
        · simp only [Option.some.injEq] at hx
          subst hx
          exact .bad v
        · cases hx
      · exact h.2 k x v hx hv⟩

theorem actOf_eq {pc : PC} {a : Nat} {ρ : Operand → SV} {get : Nat → Option (List SV)} (o : Oper) : actOf E pc a ρ get o.op = act E pc a ρ get o := by
  unfold actOf act
  rfl

theorem impOf_eq {me : Nat} {ρ : Operand → SV} (o : Oper) : impOf E me ρ o.op = impCall E me ρ o := by
  unfold impOf impCall
  rfl

theorem wantI_eq {ops : Array Oper} {o : Oper} {T : List SV} {l : Option (List Nat)} : wantI ⟨o.dst, o.op, guardAt ops o.guard, l⟩ T = wantS ops o T := by
  unfold wantI wantS yieldS guardAt
  cases o.guard with
  | none => rfl
  | some q =>
    obtain ⟨j, w⟩ := q
    simp only
    split <;> rename_i h <;> simp only [h] <;> rfl

theorem exL_eq {me n0 : Nat} {pc : PC} {ic : IC} {ops : Array Oper} {lims : Option (List (List Nat))} {lim : Nat → Nat → Bool}
    (hl : ∀ x M, seenM M n0 ops.size (limAt lims x) = fun id => if lim x id then M.blk id else none) :
    ∀ (l : List Oper) (k : Nat) (s : St), ops.toList.drop k = l → exL E me pc ic n0 ops.size k (insFrom ops lims k l) s = exOs E me pc ic n0 lim ops (List.range' k l.length) s
  | [], k, s, h => rfl
  | o :: r, k, s, h => by
    have hk : ops[k]? = some o := by
      have : ops.toList[k]? = some o := by
        have h2 : (ops.toList.drop k)[0]? = some o := by rw [h]; rfl
        simpa [List.getElem?_drop] using h2
      simpa using this
    have hr : ops.toList.drop (k + 1) = r := by
      have : (ops.toList.drop k).drop 1 = r := by rw [h]; rfl
      simpa [List.drop_drop, Nat.add_comm] using this
    have h1 : ∀ i : Ins, i = ⟨o.dst, o.op, guardAt ops o.guard, limAt lims k⟩ → exI E me pc ic n0 ops.size k i s = exO E me pc ic n0 lim ops k s := by
      rintro i rfl
      unfold exI exO
      simp only [hk, wantI_eq, actOf_eq, impOf_eq, hl]
    simp only [insFrom, exL, List.length_cons, List.range'_succ, exOs]
    rw [h1 _ rfl]
    split
    · exact exL_eq hl r (k + 1) _ hr
    · rfl

theorem regL_eq {me id : Nat} {pc : PC} {ic : IC} {ops : Array Oper} {draw : Bool} {ri : RI} (h : riOf E me id ops draw = some ri) (s : St) :
    exL E me pc ic s.mem.next ri.size 0 ri.ops ⟨s.tmps, ⟨s.mem.blk, s.mem.next + ri.adv⟩⟩ = regS0 E me pc ic ops draw s := by
  unfold riOf at h
  unfold regS0
  simp only at h ⊢
  split at h
  · cases h
  rename_i hd
  rw [if_neg hd]
  simp only [Option.some.injEq] at h
  subst h
  simp only
  rw [exL_eq (lim := if (draw && ops.any fun o => makesNew E me o.op) = true then limOf ops s.mem.next else fun _ _ => true) ?_ ops.toList 0 _ (by simp)]
  · rw [show List.range' 0 ops.toList.length = List.range ops.size by rw [List.range_eq_range']; simp]
    congr 1
    cases hn : ops.any fun o => makesNew E me o.op
    · obtain ⟨T, b, x⟩ := s; rfl
    · rfl
  · intro x M
    cases hn : (draw && ops.any fun o => makesNew E me o.op) with
    | false =>
      funext id
      simp [seenM, limAt]
    | true =>
      funext id
      simp [seenM, limOf, limAt]

theorem regS_sim {pc : PC} {ic : IC} (hmix : E.P.follows .mixedOrders = true) (hpc : PCok E pc) (hic : ICok E ic) {me id : Nat} {ops : Array Oper} {draw : Bool} {ri : RI} {s s' : St} {a : Act} {Q : Exit → Act → World → Prop}
    (hri : riOf E me id ops draw = some ri) (hM : MR E g w s.mem (fun id => s.mem.next ≤ id)) (hT : VRs g w s.tmps a.tmps) (h : regS E me pc ic ri s = some s')
    (hQ : ∀ g' w' a', Evo g w g' w' → MR E g' w' s'.mem (fun id => s'.mem.next ≤ id) → VRs g' w' s'.tmps a'.tmps → a'.defers = a.defers → (∀ id, id < s.mem.next → g'.own id = g.own id) → s.mem.next ≤ s'.mem.next → Q .normal a' w') :
    (Code.region id ops draw).wp E.P Q a w := by
  unfold regS at h
  rw [regL_eq hri] at h
  split at h
  case h_2 => cases h
  rename_i s1 hs
  simp only [Option.some.injEq] at h
  subst h
  exact regS0_sim hmix hpc hic hM hT hs fun g' w' a' e1 e2 e3 e4 e5 e6 => hQ g' w' a' e1 e2 (e3.forget _) e4 e5 e6

/-- What a region must keep for code to run. -/
def RegOk (E : Env) (me : Nat) (reg : RI → St → Option St) : Prop := ∀ (id : Nat) (ops : Array Oper) (draw : Bool) (ri : RI) (s s' : St) (g : Gh) (w : World) (a : Act) (Q : Exit → Act → World → Prop),
  riOf E me id ops draw = some ri → MR E g w s.mem (fun id => s.mem.next ≤ id) → VRs g w s.tmps a.tmps → reg ri s = some s' →
  (∀ g' w' a', Evo g w g' w' → MR E g' w' s'.mem (fun id => s'.mem.next ≤ id) → VRs g' w' s'.tmps a'.tmps → a'.defers = a.defers → (∀ id, id < s.mem.next → g'.own id = g.own id) → s.mem.next ≤ s'.mem.next → Q .normal a' w') →
  (Code.region id ops draw).wp E.P Q a w

theorem evC_sim {me : Nat} {reg : RI → St → Option St} (hreg : RegOk E me reg) : ∀ (n : Nat),
    (∀ (c : Code) (s s' : St) (e : Ex) (g : Gh) (w : World) (a : Act) (Q : Exit → Act → World → Prop), evC E reg n (comp E me c) s = some (e, s') → MR E g w s.mem (fun id => s.mem.next ≤ id) → VRs g w s.tmps a.tmps →
      (∀ g' w' a', Evo g w g' w' → MR E g' w' s'.mem (fun id => s'.mem.next ≤ id) → VRs g' w' s'.tmps a'.tmps → a'.defers = a.defers → (∀ id, id < s.mem.next → g'.own id = g.own id) → s.mem.next ≤ s'.mem.next → Q e.real a' w') →
      c.wp E.P Q a w) ∧
    (∀ (b : Code) (s s' : St) (e : Ex) (g : Gh) (w : World) (a : Act) (Q : Exit → Act → World → Prop), evC E reg n (comp E me (.loop b)) s = some (e, s') → MR E g w s.mem (fun id => s.mem.next ≤ id) → VRs g w s.tmps a.tmps →
      (∀ g' w' a', Evo g w g' w' → MR E g' w' s'.mem (fun id => s'.mem.next ≤ id) → VRs g' w' s'.tmps a'.tmps → a'.defers = a.defers → (∀ id, id < s.mem.next → g'.own id = g.own id) → s.mem.next ≤ s'.mem.next → Q e.real a' w') →
      Code.rounds E.P b Q n a w) := by
  intro n
  induction n with
  | zero => exact ⟨fun c s s' e g w a Q h => by simp [comp, evC] at h, fun b s s' e g w a Q h => by simp [comp, evC] at h⟩
  | succ n ih =>
    obtain ⟨ihP, ihR⟩ := ih
    have hR : ∀ (b : Code) (s s' : St) (e : Ex) (g : Gh) (w : World) (a : Act) (Q : Exit → Act → World → Prop), evC E reg (n + 1) (comp E me (.loop b)) s = some (e, s') → MR E g w s.mem (fun id => s.mem.next ≤ id) → VRs g w s.tmps a.tmps →
        (∀ g' w' a', Evo g w g' w' → MR E g' w' s'.mem (fun id => s'.mem.next ≤ id) → VRs g' w' s'.tmps a'.tmps → a'.defers = a.defers → (∀ id, id < s.mem.next → g'.own id = g.own id) → s.mem.next ≤ s'.mem.next → Q e.real a' w') →
        Code.rounds E.P b Q (n + 1) a w := by
      intro b s s' e g w a Q h hM hT hQ
      rw [rounds_succ]
      simp only [comp, evC] at h
      split at h
      · rename_i s1 hs1
        refine ihP b s s1 .normal g w a _ hs1 hM hT (fun g1 w1 a1 e1 e2 e3 e4 e5 e6 => ?_)
        exact ihR b s1 s' e g1 w1 a1 Q h e2 e3 (fun g2 w2 a2 f1 f2 f3 f4 f5 f6 => hQ g2 w2 a2 (e1.trans f1) f2 f3 (f4.trans e4) (fun id hid => (f5 id (Nat.lt_of_lt_of_le hid e6)).trans (e5 id hid)) (Nat.le_trans e6 f6))
      · rename_i hnn
        refine ihP b s s' e g w a _ h hM hT (fun g1 w1 a1 e1 e2 e3 e4 e5 e6 => ?_)
        have := hQ g1 w1 a1 e1 e2 e3 e4 e5 e6
        cases e with
        | normal => exact (hnn s' h).elim
        | exit id => exact this
        | ret => exact this
    refine ⟨fun c s s' e g w a Q h hM hT hQ => ?_, hR⟩
    cases c with
    | skip =>
      simp only [comp, evC, Option.some.injEq, Prod.mk.injEq] at h
      obtain ⟨rfl, rfl⟩ := h
      exact wp_skip (hQ g w a (.refl g w) hM hT rfl (fun _ _ => rfl) (Nat.le_refl _))
    | label l =>
      simp only [comp, evC, Option.some.injEq, Prod.mk.injEq] at h
      obtain ⟨rfl, rfl⟩ := h
      exact wp_label (hQ g w a (.refl g w) hM hT rfl (fun _ _ => rfl) (Nat.le_refl _))
    | region id ops draw =>
      simp only [comp] at h
      cases hri : riOf E me id ops draw with
      | none => simp [hri, evC] at h
      | some ri =>
      simp only [hri, evC] at h
      split at h
      case h_2 => cases h
      rename_i s1 hs1
      simp only [Option.some.injEq, Prod.mk.injEq] at h
      obtain ⟨rfl, rfl⟩ := h
      exact hreg id ops draw ri s s1 g w a Q hri hM hT hs1 hQ
    | seq x y =>
      simp only [comp, evC] at h
      refine wp_seq ?_
      split at h
      · rename_i s1 hs1
        refine ihP x s s1 .normal g w a _ hs1 hM hT (fun g1 w1 a1 e1 e2 e3 e4 e5 e6 => ?_)
        exact ihP y s1 s' e g1 w1 a1 Q h e2 e3 (fun g2 w2 a2 f1 f2 f3 f4 f5 f6 => hQ g2 w2 a2 (e1.trans f1) f2 f3 (f4.trans e4) (fun id hid => (f5 id (Nat.lt_of_lt_of_le hid e6)).trans (e5 id hid)) (Nat.le_trans e6 f6))
      · rename_i hnn
        refine ihP x s s' e g w a _ h hM hT (fun g1 w1 a1 e1 e2 e3 e4 e5 e6 => ?_)
        have := hQ g1 w1 a1 e1 e2 e3 e4 e5 e6
        cases e with
        | normal => exact (hnn s' h).elim
        | exit id => exact this
        | ret => exact this
    | cond c x y =>
      simp only [comp, evC] at h
      split at h
      case h_2 => cases h
      rename_i t ht
      have hc := evO_rel hM.glob hT c
      rw [ht] at hc
      exact wp_cond hc.bool_inv (ihP _ s s' e g w a Q (by cases t <;> exact h) hM hT hQ)
    | block id b =>
      simp only [comp, evC] at h
      refine wp_block ?_
      split at h
      · rename_i id' s1 hs1
        refine ihP b s s1 (.exit id') g w a _ hs1 hM hT (fun g1 w1 a1 e1 e2 e3 e4 e5 e6 => ?_)
        show Exit.inBlock id Q (.exit id') a1 w1
        simp only [Exit.inBlock]
        split at h
        · rename_i he
          rw [if_pos he]
          simp only [Option.some.injEq, Prod.mk.injEq] at h
          obtain ⟨rfl, rfl⟩ := h
          exact hQ g1 w1 a1 e1 e2 e3 e4 e5 e6
        · rename_i he
          rw [if_neg he]
          simp only [Option.some.injEq, Prod.mk.injEq] at h
          obtain ⟨rfl, rfl⟩ := h
          exact hQ g1 w1 a1 e1 e2 e3 e4 e5 e6
      · rename_i hnn
        refine ihP b s s' e g w a _ h hM hT (fun g1 w1 a1 e1 e2 e3 e4 e5 e6 => ?_)
        have := hQ g1 w1 a1 e1 e2 e3 e4 e5 e6
        cases e with
        | normal => exact this
        | exit id' => exact (hnn id' s' h).elim
        | ret => exact this
    | loop b => exact wp_loop_rounds (n + 1) (hR b s s' e g w a Q h hM hT hQ)
    | exit id =>
      simp only [comp, evC, Option.some.injEq, Prod.mk.injEq] at h
      obtain ⟨rfl, rfl⟩ := h
      exact wp_exit (hQ g w a (.refl g w) hM hT rfl (fun _ _ => rfl) (Nat.le_refl _))
    | ret =>
      simp only [comp, evC, Option.some.injEq, Prod.mk.injEq] at h
      obtain ⟨rfl, rfl⟩ := h
      exact wp_ret (hQ g w a (.refl g w) hM hT rfl (fun _ _ => rfl) (Nat.le_refl _))
    | rangeFunc f p x y => simp [comp, evC] at h
    | scope b => simp [comp, evC] at h
    | goto l => simp [comp, evC] at h
    | refuse why => simp [comp, evC] at h

/-! ### Functions -/

theorem loadS_ptr {get : Nat → Option (List SV)} {t : Nat} {p r : SV} {p' : Value} (hp : VR g w p p') (h : loadS P get t p = some r) : ∃ ad, p' = .pointer (some ad) := by
  unfold loadS at h
  split at h
  · cases h
  split at h
  · cases hp; exact ⟨_, rfl⟩
  · cases hp; exact ⟨_, rfl⟩
  · cases h

def resF (tmps : Array Value) : ResultVar → Sem Value
  | .tmp t => pure (tmps.getD t undef)
  | .cell a t => do loadVar t (← asAddr (tmps.getD a undef))

theorem results_eq (fn : Func) (tmps : Array Value) : results fn tmps = (do let vs ← fn.results.mapM (resF tmps); pure (if h : vs.size = 1 then vs[0] else .tuple vs)) := by
  unfold results
  congr 1

theorem resS_sim {s : St} {a : Act} (hM : MR E g w s.mem (fun id => s.mem.next ≤ id)) (hT : VRs g w s.tmps a.tmps) :
    ∀ (l : List ResultVar) (r : List SV), resS E s l = some r → ∃ vs : List Value, (l.mapM (resF a.tmps)).run E.P w = .ok vs w ∧ r.length = vs.length ∧
        ∀ (k : Nat) (x : SV) (v : Value), r[k]? = some x → vs[k]? = some v → VR g w x v
  | [], r, h => by
    simp [resS] at h
    subst h
    exact ⟨[], by simp, rfl, fun k x v hx => by simp at hx⟩
  | .tmp t :: l, r, h => by
    simp only [resS] at h
    split at h
    case h_2 => cases h
    rename_i rl hrl
    simp only [Option.some.injEq] at h
    subst h
    obtain ⟨vs, h1, h2, h3⟩ := resS_sim hM hT l rl hrl
    have hv := evO_rel hM.glob hT (.tmp t)
    refine ⟨a.tmps.getD t undef :: vs, by simp only [List.mapM_cons, Sem.run_bind, resF, Sem.run_pure, Result.andThen_ok, h1], by simp [h2], fun k x v hx hv' => ?_⟩
    cases k with
    | zero =>
      simp at hx hv'
      subst hx hv'
      simpa [evO, Act.eval] using hv
    | succ k => exact h3 k x v (by simpa using hx) (by simpa using hv')
  | .cell x t :: l, r, h => by
    simp only [resS] at h
    split at h
    case h_2 => cases h
    rename_i v0 rl hv0 hrl
    simp only [Option.some.injEq] at h
    subst h
    obtain ⟨vs, h1, h2, h3⟩ := resS_sim hM hT l rl hrl
    have hv := evO_rel hM.glob hT (.tmp x)
    simp only [evO, Act.eval] at hv
    obtain ⟨v', hrun, hvr⟩ := loadS_sim hM (fun _ _ h => h) hv hv0
    obtain ⟨ad, had⟩ := loadS_ptr hv hv0
    rw [had] at hrun
    simp only [Instr.loadAt, Instr.sureAddr, Sem.run_bind, Sem.run_pure, Result.andThen_ok] at hrun
    have hone : (resF a.tmps (.cell x t)).run E.P w = .ok v' w := by
      simp only [resF, Sem.run_bind, had, asAddr, Sem.run_pure, Result.andThen_ok, hrun]
    refine ⟨v' :: vs, by simp only [List.mapM_cons, Sem.run_bind, hone, Sem.run_pure, Result.andThen_ok, h1], by simp [h2], fun k y v hx hv' => ?_⟩
    cases k with
    | zero =>
      simp at hx hv'
      subst hx hv'
      exact hvr
    | succ k => exact h3 k y v (by simpa using hx) (by simpa using hv')

def resV : List SV → SV
  | [x] => x
  | xs => .tup xs

theorem results_sim {s : St} {a : Act} {fn : Func} {r : List SV} (hM : MR E g w s.mem (fun id => s.mem.next ≤ id)) (hT : VRs g w s.tmps a.tmps) (h : resS E s fn.results.toList = some r) :
    ∃ v, (results fn a.tmps).run E.P w = .ok v w ∧ VR g w (resV r) v := by
  obtain ⟨vs, h1, h2, h3⟩ := resS_sim hM hT _ r h
  refine ⟨if h : vs.toArray.size = 1 then vs.toArray[0] else .tuple vs.toArray, ?_, ?_⟩
  · rw [results_eq, Array.mapM_eq_mapM_toList]
    simp only [Sem.run_bind, Sem.run_map, h1, Result.andThen_ok, Sem.run_pure]
  · match r, vs, h2, h3 with
    | [x], [v], _, h3 => simpa [resV] using h3 0 x v rfl rfl
    | [], [], _, _ => exact .tup [] #[] rfl (fun k x v hx => by simp at hx)
    | x :: y :: r, v :: u :: vs, h2, h3 =>
      rw [dif_neg (by simp)]
      exact .tup _ _ (by simpa using h2) (fun k z q hz hq => h3 k z q hz (by simpa using hq))

/-! ### Numbers of blocks only grow -/

theorem exI_next {pc : PC} {ic : IC} (hic : ICok E ic) {me n0 sz k : Nat} {i : Ins} {s s' : St} (h : exI E me pc ic n0 sz k i s = some s') : s.mem.next ≤ s'.mem.next := by
  unfold exI at h
  split at h
  · cases h
  · simp only [Option.some.injEq] at h
    subst h
    exact Nat.le_refl _
  split at h
  · split at h
    · rename_i hc
      simp only [Option.some.injEq] at h
      subst h
      exact (hic _ _ _ _ _ hc).2.1
    · cases h
  · split at h
    · rename_i u _
      simp only [Option.some.injEq] at h
      subst h
      simp only [Mem.sets_next]
      exact Nat.le_refl _
    · cases h

theorem exL_next {pc : PC} {ic : IC} (hic : ICok E ic) {me n0 sz : Nat} : ∀ {L : List Ins} {k : Nat} {s s' : St}, exL E me pc ic n0 sz k L s = some s' → s.mem.next ≤ s'.mem.next
  | [], k, s, s', h => by
    simp only [exL, Option.some.injEq] at h
    subst h
    exact Nat.le_refl _
  | x :: L, k, s, s', h => by
    simp only [exL] at h
    split at h
    · rename_i hx
      exact Nat.le_trans (exI_next hic hx) (exL_next hic h)
    · cases h

theorem regS_next {pc : PC} {ic : IC} (hic : ICok E ic) {me : Nat} {ri : RI} {s s' : St} (h : regS E me pc ic ri s = some s') : s.mem.next ≤ s'.mem.next := by
  unfold regS at h
  split at h
  case h_2 => cases h
  rename_i s1 hs
  simp only [Option.some.injEq] at h
  subst h
  exact Nat.le_trans (Nat.le_add_right _ _) (exL_next hic hs)

theorem evC_next {reg : RI → St → Option St} (hreg : ∀ ri s s', reg ri s = some s' → s.mem.next ≤ s'.mem.next) : ∀ {n : Nat} {c : C} {s s' : St} {e : Ex}, evC E reg n c s = some (e, s') → s.mem.next ≤ s'.mem.next
  | 0, c, s, s', e, h => by simp [evC] at h
  | n + 1, c, s, s', e, h => by
    cases c <;> simp only [evC] at h <;> (try (cases h; done))
    case skip => simp only [Option.some.injEq, Prod.mk.injEq] at h; obtain ⟨_, rfl⟩ := h; exact Nat.le_refl _
    case exit => simp only [Option.some.injEq, Prod.mk.injEq] at h; obtain ⟨_, rfl⟩ := h; exact Nat.le_refl _
    case ret => simp only [Option.some.injEq, Prod.mk.injEq] at h; obtain ⟨_, rfl⟩ := h; exact Nat.le_refl _
    case reg ri =>
      split at h
      · rename_i hr
        simp only [Option.some.injEq, Prod.mk.injEq] at h
        obtain ⟨_, rfl⟩ := h
        exact hreg _ _ _ hr
      · cases h
    case seq a b =>
      split at h
      · rename_i h1
        exact Nat.le_trans (evC_next hreg h1) (evC_next hreg h)
      · exact evC_next hreg h
    case cond c a b =>
      split at h
      · exact evC_next hreg h
      · cases h
    case block id b =>
      split at h
      · rename_i h1
        split at h <;> (simp only [Option.some.injEq, Prod.mk.injEq] at h; obtain ⟨_, rfl⟩ := h; exact evC_next hreg h1)
      · exact evC_next hreg h
    case loop b =>
      split at h
      · rename_i h1
        exact Nat.le_trans (evC_next hreg h1) (evC_next hreg h)
      · exact evC_next hreg h

def PrimOk (E : Env) : Prop := ∀ f p, E.prim f = some p → ICok E (fun f' args M => if f' = f then p args M else none)

/-- What the shadow says of a call, the model does. -/
theorem callN_ok (hmix : E.P.follows .mixedOrders = true) (hprim : PrimOk E) : ∀ n, ICok E (callN E n) := by
  intro n
  induction n with
  | zero => intro f args M r M' h; simp [callN] at h
  | succ n ih =>
    intro f args M r M' h
    simp only [callN] at h
    split at h
    · rename_i p hp
      exact hprim f p hp f args M r M' (by simp [h])
    rename_i hnp
    split at h
    · cases h
    rename_i fn hf
    split at h
    · cases h
    rename_i c hb
    split at h
    · cases h
    rename_i hname
    have hen : Enters E.P f := ⟨fn, hf, by rw [hb]; rfl, hname⟩
    have hreg : RegOk E f (regS E f (pcOf (callN E n)) (callN E n)) := fun id ops draw ri s s' g w a Q hri hM hT hr hQ => regS_sim hmix (pc_of_ic ih) ih hri hM hT hr hQ
    have main : ∀ (e : Ex) (s : St) (rs : List SV), (e = .normal ∨ e = .ret) → evC E (regS E f (pcOf (callN E n)) (callN E n)) (n + 1) (comp E f c) ⟨args ++ List.replicate (fn.ntmps - args.length) .bad, M⟩ = some (e, s) →
        resS E s fn.results.toList = some rs → r = resV rs → M' = s.mem → ∀ g w fr args', MR E g w M fr → (∀ id, M.next ≤ id → fr id) → VRs g w args args' → Calls E.P f args' w (CallPost E g w M M' r) := by
      rintro e s rs he hev hres rfl rfl g w fr args' hM hfr hargs
      refine calls_of_wp hf hb ?_
      have hT : VRs g w (args ++ List.replicate (fn.ntmps - args.length) .bad) (args' ++ Array.replicate (fn.ntmps - args'.size) undef) := by
        refine hargs.append ⟨by simp [hargs.1], fun k x v hx hv => ?_⟩
        simp only [List.getElem?_replicate] at hx
        split at hx
        · simp only [Option.some.injEq] at hx
          subst hx
          exact .bad v
        · cases hx
      refine (evC_sim hreg (n + 1)).1 c ⟨args ++ List.replicate (fn.ntmps - args.length) .bad, M⟩ s e g w { tmps := args' ++ Array.replicate (fn.ntmps - args'.size) undef, defers := [] } _ hev (hM.weaken hfr) hT (fun g' w' a' e1 e2 e3 e4 e5 e6 => ?_)
      obtain ⟨v, hv, hvr⟩ := results_sim e2 e3 hres
      have post : a'.defers = [] ∧ ∃ v, (results fn a'.tmps).run E.P w' = .ok v w' ∧ CallPost E g w M s.mem (resV rs) (.returned v) w' :=
        ⟨e4, v, hv, v, g', rfl, e1, e2, hvr, e5⟩
      rcases he with rfl | rfl <;> exact post
    have next : ∀ (e : Ex) (s : St), evC E (regS E f (pcOf (callN E n)) (callN E n)) (n + 1) (comp E f c) ⟨args ++ List.replicate (fn.ntmps - args.length) .bad, M⟩ = some (e, s) → M.next ≤ s.mem.next := by
      intro e s hev
      exact evC_next (fun ri s s' hr => regS_next ih hr) hev
    split at h
    · rename_i s hev
      split at h
      · rename_i v hv
        simp only [Option.some.injEq, Prod.mk.injEq] at h
        obtain ⟨rfl, rfl⟩ := h
        exact ⟨hen, next _ _ hev, main .normal s [v] (.inl rfl) hev hv rfl rfl⟩
      · rename_i vs hne hvs
        simp only [Option.some.injEq, Prod.mk.injEq] at h
        obtain ⟨rfl, rfl⟩ := h
        refine ⟨hen, next _ _ hev, main .normal s vs (.inl rfl) hev hvs ?_ rfl⟩
        unfold resV
        split
        · exact (hne _ rfl).elim
        · rfl
      · cases h
    · rename_i s hev
      split at h
      · rename_i v hv
        simp only [Option.some.injEq, Prod.mk.injEq] at h
        obtain ⟨rfl, rfl⟩ := h
        exact ⟨hen, next _ _ hev, main .ret s [v] (.inr rfl) hev hv rfl rfl⟩
      · rename_i vs hne hvs
        simp only [Option.some.injEq, Prod.mk.injEq] at h
        obtain ⟨rfl, rfl⟩ := h
        refine ⟨hen, next _ _ hev, main .ret s vs (.inr rfl) hev hvs ?_ rfl⟩
        unfold resV
        split
        · exact (hne _ rfl).elim
        · rfl
      · cases h
    · cases h

end Go.Proofs.YtbdliphlolajaaaDoor.Sh
