/-
  The shadow interpreter, text 14: regions, code, functions: what the shadow says, the model does. No condition.
-/
import Derived.Test.YtfphjfbknphhjaaGreatDoorShMa
import Derived.LoopN
import Derived.Laws.Small
import Derived.WideShapes
import Derived.ChangeArms
import Derived.SizedLaws
import Derived.Carry
set_option linter.unusedVariables false
set_option linter.unusedSimpArgs false
namespace Go.Proofs.YtfphjfbknphhjaaGreatDoor.Sh
variable {E : Env} {P : Program} {g g' : Gh} {w : World}

theorem Ztk (g : Gh) (w : World) : Evo g w g w.drew :=
  ⟨rfl, rfl, rfl, fun _ _ h => ⟨h, rfl⟩, fun _ => Nat.le_refl _, fun _ _ _ _ h => h, fun _ c _ _ h => ⟨c, h, rfl⟩, (RowKit.Below.refl _ _).drew⟩

theorem MR.drew {M : Mem} {fr : Nat → Prop} (hM : MR E g w M fr) : MR E g w.drew M fr :=
  ⟨hM.good, hM.base, fun id its h => by
      obtain ⟨b, c, e, h1, h2, h3, h4, h5, h6⟩ := hM.blk id its h
      exact ⟨b, c, e, h1, h2, h3, h4, h5, fun k x hk => by obtain ⟨a1, v, a2, a3⟩ := h6 k x hk; exact ⟨a1, v, a2, a3.mono hM.good (Ztk g w)⟩⟩,
    hM.inj, hM.fresh, hM.hwb, hM.lt, fun n its h => (hM.glob n its h).mono hM.good (Ztk g w), hM.plain, hM.raw.mono (Ztk g w), hM.sent.mono (Ztk g w)⟩

theorem Znm {me : Nat} {op : Op} (h : Zaiv op = true) : Zbr E me op = true := by
  cases op with
  | call c =>
    obtain ⟨callee, args, cat⟩ := c
    cases callee with
    | value f => cases h
    | invoke r m => cases h
    | builtin b => cases b <;> first | rfl | (cases h; done) | (simp only [Zbr, cls]; cases Zak3 args <;> rfl)
  | _ => first | rfl | cases h

/-- Lists that are left, by what is listed. -/
theorem Z4l {n i : Nat} {p : Nat → Bool} (hi : i < n) (hp : p i = true) :
    ∃ A B, (List.range n).filter p = A ++ i :: B ∧ (∀ x ∈ A, x < i ∧ p x = true ∧ x < n) ∧ (∀ x ∈ B, x < n) ∧ (List.range n).filter (fun j => p j && (j != i)) = A ++ B := by
  have hmem : i ∈ (List.range n).filter p := List.mem_filter.2 ⟨List.mem_range.2 hi, hp⟩
  obtain ⟨A, B, hAB⟩ := List.append_of_mem hmem
  have hpw : ((List.range n).filter p).Pairwise (· < ·) := List.Pairwise.filter _ List.pairwise_lt_range
  rw [hAB] at hpw
  have hA : ∀ x ∈ A, x < i := fun x hx => (List.pairwise_append.1 hpw).2.2 x hx i (by simp)
  have hB : ∀ x ∈ B, i < x := fun x hx => (List.pairwise_cons.1 (List.pairwise_append.1 hpw).2.1).1 x hx
  refine ⟨A, B, hAB, fun x hx => ⟨hA x hx, ?_⟩, fun x hx => ?_, ?_⟩
  · have : x ∈ (List.range n).filter p := by rw [hAB]; simp [hx]
    have := List.mem_filter.1 this
    exact ⟨this.2, List.mem_range.1 this.1⟩
  · have : x ∈ (List.range n).filter p := by rw [hAB]; simp [hx]
    exact List.mem_range.1 (List.mem_filter.1 this).1
  · have h2 : (List.range n).filter (fun j => p j && (j != i)) = ((List.range n).filter p).filter (fun j => j != i) := by
      rw [List.filter_filter]
      congr 1
      funext j
      rw [Bool.and_comm]
    rw [h2, hAB, List.filter_append, List.filter_cons]
    have hA' : A.filter (fun j => j != i) = A := List.filter_eq_self.2 fun x hx => by have := hA x hx; simp; omega
    have hB' : B.filter (fun j => j != i) = B := List.filter_eq_self.2 fun x hx => by have := hB x hx; simp; omega
    rw [hA', hB']
    simp

/-! ### A load beside a call -/

theorem Zanf {a b : SV} (h : Zna a b = true) : a = b := by
  unfold Zna at h
  split at h
  · rfl
  · simp only [Bool.and_eq_true, beq_iff_eq] at h
    obtain ⟨⟨⟨rfl, rfl⟩, rfl⟩, rfl⟩ := h
    rfl
  · simp only [Bool.and_eq_true, beq_iff_eq, decide_eq_true_eq] at h
    obtain ⟨rfl, rfl⟩ := h
    rfl
  · cases h

structure Zard (E : Env) (me : Nat) (ops : Array Oper) (j k t a d : Nat) (oj ok : Oper) : Prop where
  lt : j < k
  hj : ops[j]? = some oj
  hk : ops[k]? = some ok
  load : oj.op = .load t (.tmp a)
  dst : oj.dst = some d
  gj : oj.guard = none
  gk : ok.guard = none
  cls : cls E me ok.op = .c
  imp : ∀ T, ∃ r, Zd8 E me (evO E T) ok = some r
  apart : oj.apart ops ok = true
  ne : a ≠ d
  between : ∀ x, j < x → x < k → x ∈ (Ztv ops.toList).getD k []
  behind : ∀ x o, k < x → ops[x]? = some o → o.dst ≠ some d ∧ o.dst ≠ some a

theorem Zui {me : Nat} {ops : Array Oper} {k j t a d : Nat} (h : Zvm E me ops k = some (j, t, a, d)) : ∃ oj ok, Zard E me ops j k t a d oj ok := by
  unfold Zvm at h
  split at h
  case h_2 => cases h
  rename_i ok hk
  split at h
  case h_2 => cases h
  rename_i f args cat h4 h5
  obtain ⟨j', hj', h⟩ := List.exists_of_findSome?_eq_some h
  split at h
  case h_2 => cases h
  rename_i oj hj
  split at h
  case h_2 => cases h
  rename_i t' a' d' h1 h2 h3
  split at h
  case isFalse => cases h
  rename_i hc
  simp only [Option.some.injEq, Prod.mk.injEq] at h
  obtain ⟨rfl, rfl, rfl, rfl⟩ := h
  obtain ⟨q1, q0, q2, q3, q4⟩ := hc
  have hkl : k < ops.size := (Array.getElem?_eq_some_iff.1 hk).1
  have hjk : j' < k := by simpa using hj'
  refine ⟨oj, ok, hjk, hj, hk, h1, h2, h3, h5, ?_, fun T => ?_, q2, q3, fun x hx hxk => ?_, fun x o hx ho => ?_⟩
  · rw [h4]
    simp only [cls]
    rw [if_pos q1]
  · refine ⟨(f, [] ++ args.toList.map (evO E T) ++ []), ?_⟩
    unfold Zd8
    rw [h4]
    simp only [evO]
    rw [if_pos q1]
  · have := List.all_eq_true.1 q4 x (List.mem_range.2 (by omega))
    simpa [show ¬ x ≤ j' by omega, show ¬ x = k by omega, show ¬ k < x by omega, hxk] using this
  · have := List.all_eq_true.1 q4 x (List.mem_range.2 (Array.getElem?_eq_some_iff.1 ho).1)
    rw [ho] at this
    simpa [show ¬ x ≤ j' by omega, show ¬ x = k by omega, show ¬ x < k by omega, hx] using this

def Zau8 (E : Env) (ck : Option (Nat × Nat × Nat × Nat)) (x : Nat) (s : St) : Prop :=
  ∀ k t a d, ck = some (k, t, a, d) → x = k → ∃ v, Zn E.P s.mem.blk t (evO E s.tmps (.tmp a)) = some v ∧ Zna v (s.tmps.getD d .Z) = true

/-- Operations one behind the other; behind the call the load says what it said. -/
def ExsC (E : Env) (me : Nat) (pc : PC) (ic : IC) (n0 : Nat) (lim : Nat → Nat → Bool) (ops : Array Oper) (ck : Option (Nat × Nat × Nat × Nat)) : List Nat → St → St → Prop
  | [], s, s' => s = s'
  | x :: r, s, s' => ∃ s1, exO E me pc ic n0 lim ops x s = some s1 ∧ Zau8 E ck x s1 ∧ ExsC E me pc ic n0 lim ops ck r s1 s'

theorem Zaaj {me n0 : Nat} {pc : PC} {ic : IC} {lim : Nat → Nat → Bool} {ops : Array Oper} : ∀ {l : List Nat} {s s' : St}, Zun E me pc ic n0 lim ops l s = some s' → ExsC E me pc ic n0 lim ops none l s s'
  | [], s, s', h => by simpa [Zun, ExsC] using h
  | x :: r, s, s', h => by
    simp only [Zun] at h
    split at h
    case h_2 => cases h
    rename_i s1 h1
    exact ⟨s1, h1, (fun k t a d h => by cases h), Zaaj h⟩

theorem Z9c {me n0 : Nat} {pc : PC} {ic : IC} {lim : Nat → Nat → Bool} {ops : Array Oper} {k t a d : Nat} : ∀ {l : List Nat} {A B : List Nat} {s s1 s' : St}, l = A ++ k :: B → k ∉ A → k ∉ B →
    Zun E me pc ic n0 lim ops (A ++ [k]) s = some s1 → (∃ v, Zn E.P s1.mem.blk t (evO E s1.tmps (.tmp a)) = some v ∧ Zna v (s1.tmps.getD d .Z) = true) → Zun E me pc ic n0 lim ops l s = some s' →
    ExsC E me pc ic n0 lim ops (some (k, t, a, d)) l s s'
  | l, [], B, s, s1, s', hl, _, hB, h1, hc, h => by
    subst hl
    simp only [List.nil_append, Zun] at h h1
    split at h
    case h_2 => cases h
    rename_i s2 h2
    rw [h2] at h1
    simp only [Option.some.injEq] at h1
    subst h1
    refine ⟨s2, h2, fun k' t' a' d' he _ => ?_, ?_⟩
    · simp only [Option.some.injEq, Prod.mk.injEq] at he
      obtain ⟨_, rfl, rfl, rfl⟩ := he
      exact hc
    · clear h2 hc
      induction B generalizing s2 with
      | nil => simpa [Zun, ExsC] using h
      | cons x B ih =>
        simp only [Zun] at h
        split at h
        case h_2 => cases h
        rename_i s3 h3
        simp only [List.mem_cons, not_or] at hB
        exact ⟨s3, h3, fun k' t' a' d' he hx => by simp only [Option.some.injEq, Prod.mk.injEq] at he; exact absurd (he.1.trans hx.symm) hB.1, ih hB.2 _ h⟩
  | l, x :: A, B, s, s1, s', hl, hA, hB, h1, hc, h => by
    subst hl
    simp only [List.cons_append, Zun] at h h1
    split at h
    case h_2 => cases h
    rename_i s2 h2
    rw [h2] at h1
    simp only [List.mem_cons, not_or] at hA
    exact ⟨s2, h2, fun k' t' a' d' he hx => by simp only [Option.some.injEq, Prod.mk.injEq] at he; exact absurd (he.1.trans hx.symm) hA.1, Z9c rfl hA.2 hB h1 hc h⟩

/-- The call ahead of the load. -/
theorem Zavn {me n0 : Nat} {pc : PC} {ic : IC} {lim : Nat → Nat → Bool} {ops : Array Oper} {j k t a d : Nat} {oj ok : Oper} (hp : Zard E me ops j k t a d oj ok)
    {s s1 s2 : St} (h1 : exO E me pc ic n0 lim ops j s = some s1) (h2 : exO E me pc ic n0 lim ops k s1 = some s2) (hc : ∃ v, Zn E.P s2.mem.blk t (evO E s2.tmps (.tmp a)) = some v ∧ Zna v (s2.tmps.getD d .Z) = true) :
    ∃ s1', exO E me pc ic n0 lim ops k s = some s1' ∧ exO E me pc ic n0 lim ops j s1' = some s2 := by
  obtain ⟨a1, a2, a3⟩ := Oper.apart_spec hp.apart
  have hj := hp.hj
  have hk := hp.hk
  simp only [Zp7 hj, Zp7 hk] at *
  have wj : ∀ T, Zns ops oj T = some true := fun T => by unfold Zns; rw [hp.gj]
  have wk : ∀ T, Zns ops ok T = some true := fun T => by unfold Zns; rw [hp.gk]
  have ij : ∀ T, Zd8 E me (evO E T) oj = none := fun T => by unfold Zd8; rw [hp.load]
  have aj : ∀ (pc : PC) aid ρ get, act E pc aid ρ get oj = match Zn E.P get t (ρ (.tmp a)) with | some y => some (y, []) | none => none := fun pc aid ρ get => by unfold act; rw [hp.load]; rfl
  cases h1 with
  | skip hw => rw [wj] at hw; cases hw
  | imp hw hi hcc => rw [ij] at hi; cases hi
  | act hw hi ha =>
    rw [aj] at ha
    split at ha
    case h_2 => cases ha
    rename_i y hy
    simp only [Option.some.injEq, Prod.mk.injEq] at ha
    obtain ⟨rfl, rfl⟩ := ha
    cases h2 with
    | skip hw2 => rw [wk] at hw2; cases hw2
    | act hw2 hi2 ha2 =>
      obtain ⟨r, hr⟩ := hp.imp (Zlt s.tmps oj.dst y)
      simp only at hi2
      rw [hr] at hi2
      cases hi2
    | imp hw2 hi2 hc2 =>
      rename_i f args v M
      simp only [Mem.sets] at hc2 hi2 hc ⊢
      rw [Zo9 (Zoh a1)] at hi2
      refine ⟨⟨Zlt s.tmps ok.dst v, M⟩, .imp (wk _) hi2 hc2, ?_⟩
      have hld : evO E (Zlt (Zlt s.tmps oj.dst y) ok.dst v) (.tmp a) = evO E s.tmps (.tmp a) := by
        rw [Zth (fun d' hd' => ?_), Zth (fun d' hd' => ?_)]
        · rw [hp.dst] at hd'
          simp only [Option.some.injEq] at hd'
          subst hd'
          intro he
          simp only [Operand.tmp.injEq] at he
          exact hp.ne he
        · intro he
          simp only [Operand.tmp.injEq] at he
          subst he
          have := a3 _ hd'
          refine this ?_
          unfold Oper.looksAt
          rw [hp.load]
          simp [Op.operands]
      have hld2 : evO E (Zlt s.tmps ok.dst v) (.tmp a) = evO E s.tmps (.tmp a) := by
        rw [Zth (fun d' hd' => ?_)]
        intro he
        simp only [Operand.tmp.injEq] at he
        subst he
        have := a3 _ hd'
        refine this ?_
        unfold Oper.looksAt
        rw [hp.load]
        simp [Op.operands]
      obtain ⟨v', hv', hsame⟩ := hc
      rw [hld] at hv'
      have hvy : v' = y := by
        have h3 := Zanf hsame
        have h4 : (Zlt (Zlt s.tmps oj.dst y) ok.dst v).getD d .Z = y := by
          rw [← h3]
          have hdk : ∀ d', ok.dst = some d' → d' ≠ d := fun d' hd' he => by
            subst he
            exact a2 _ hp.dst hd'
          have h5 : (Zlt (Zlt s.tmps oj.dst y) ok.dst v).getD d .Z = (s.tmps.set d y).getD d .Z := by
            rw [hp.dst]
            cases hkd : ok.dst with
            | none => rfl
            | some d' => simp [Zlt, List.getD, List.getElem?_set, hdk d' hkd]
          rw [h5] at h3
          rw [h3]
          by_cases hlt : d < s.tmps.length
          · simp [List.getD, hlt]
          · exfalso
            have : (s.tmps.set d y).getD d .Z = SV.Z := by simp [List.getD, hlt]
            rw [this] at h3
            subst h3
            rw [h5, this] at hsame
            simp [Zna] at hsame
        rw [h4] at h3
        exact h3
      subst hvy
      rw [Zva _ _ _ a2]
      refine .act (u := []) (wj _) (ij _) ?_
      rw [aj]
      simp only
      rw [hld2]
      have : Zn E.P (fun id => if lim j id then M.blk id else none) t (evO E s.tmps (.tmp a)) = some v' := by
        generalize evO E s.tmps (.tmp a) = p at hy hv' ⊢
        unfold Zn at hy hv' ⊢
        cases hti : Zbz E.P t with
        | none => rw [hti] at hy; cases hy
        | some ti =>
          rw [hti] at hy hv'
          simp only at hy hv' ⊢
          cases p <;> simp only at hy hv' ⊢ <;> first | exact hv' | skip
          rename_i id i o
          cases hlim : lim j id with
          | false => simp [hlim] at hy
          | true => simpa using hv'
      rw [this]

theorem Zamo {me n0 : Nat} {pc : PC} {ic : IC} {lim : Nat → Nat → Bool} {ops : Array Oper} {x : Nat} {o : Oper} (hx : ops[x]? = some o) (hc : cls E me o.op = .p) {s s' : St} (h : exO E me pc ic n0 lim ops x s = some s') :
    ∃ v, s' = ⟨Zlt s.tmps o.dst v, s.mem⟩ := by
  rw [Zp7 hx] at h
  cases h with
  | skip hw => exact ⟨_, rfl⟩
  | imp hw hi hcc => rw [Zzy hi] at hc; cases hc
  | act hw hi ha =>
    obtain ⟨rfl, _⟩ := Zac6 (get' := fun _ => none) hc ha
    exact ⟨_, rfl⟩

theorem Zane {me n0 : Nat} {pc : PC} {ic : IC} {lim : Nat → Nat → Bool} {ops : Array Oper} {ck : Option (Nat × Nat × Nat × Nat)} {pj : Nat} (hck : ∀ k t a d, ck = some (k, t, a, d) → Zvm E me ops k = some (pj, t, a, d)) {i : Nat} {oi : Oper} (hi : ops[i]? = some oi) :
    ∀ (A B : List Nat) (s s' : St), A.Pairwise (· < ·) → (∀ x ∈ A, x < i ∧ ∃ ox, ops[x]? = some ox ∧ x ∉ (Ztv ops.toList).getD i [] ∧ ((∃ t a d, ck = some (i, t, a, d) ∧ x = pj) ∨ (ox.apart ops oi = true ∧ compat (cls E me ox.op) (cls E me oi.op) = true ∧
      ((cls E me ox.op).mk = true ∨ (cls E me oi.op).mk = true → lim x (n0 + i) = false ∧ lim i (n0 + x) = false)))) →
    ExsC E me pc ic n0 lim ops ck (A ++ i :: B) s s' → ∃ s1, exO E me pc ic n0 lim ops i s = some s1 ∧ (A = [] → Zau8 E ck i s1) ∧ ExsC E me pc ic n0 lim ops ck (A ++ B) s1 s'
  | [], B, s, s', _, _, h => by
    obtain ⟨s1, h1, h2, h3⟩ := h
    exact ⟨s1, h1, fun _ => h2, h3⟩
  | x :: A, B, s, s', hpw, hA, h => by
    obtain ⟨s1, h1, h2, h3⟩ := h
    obtain ⟨hpw1, hpw2⟩ := List.pairwise_cons.1 hpw
    obtain ⟨s2, e1, e2, e3⟩ := Zane hck hi A B s1 s' hpw2 (fun y hy => hA y (by simp [hy])) h3
    obtain ⟨hlt, ox, hx, _, hor⟩ := hA x (by simp)
    rcases hor with ⟨t, a, d, hcki, hxi⟩ | ⟨q1, q2, q3⟩
    · obtain ⟨oj, ok, hp⟩ := Zui (hck _ _ _ _ hcki)
      subst hxi
      have hAn : A = [] := by
        cases A with
        | nil => rfl
        | cons y A =>
          have h1 := hpw1 y (by simp)
          obtain ⟨h2, oy, _, h3, _⟩ := hA y (by simp)
          exact absurd (hp.between y h1 h2) h3
      obtain ⟨s1', f1, f2⟩ := Zavn hp h1 e1 (e2 hAn _ _ _ _ hcki rfl)
      refine ⟨s1', f1, (fun h => by cases h), s2, f2, fun k' t' a' d' he hxx => ?_, e3⟩
      rw [hcki] at he
      simp only [Option.some.injEq, Prod.mk.injEq] at he
      omega
    · obtain ⟨s1', f1, f2⟩ := swap hx hi (by omega) q1 q2 q3 h1 e1
      refine ⟨s1', f1, (fun h => by cases h), s2, f2, fun k' t' a' d' he hxx => ?_, e3⟩
      obtain ⟨v, g1, g2⟩ := h2 _ _ _ _ he hxx
      obtain ⟨oj, ok, hp⟩ := Zui (hck _ _ _ _ he)
      subst hxx
      have hox : ox = ok := by
        have := hp.hk
        rw [hx] at this
        simpa using this
      subst hox
      have hcp : cls E me oi.op = .p := by
        rw [hp.cls] at q2
        cases hh : cls E me oi.op <;> rw [hh] at q2 <;> first | rfl | cases q2
      obtain ⟨u, rfl⟩ := Zamo hi hcp e1
      obtain ⟨b1, b2⟩ := hp.behind i oi (by omega) hi
      refine ⟨v, ?_, ?_⟩
      · rw [Zth (fun d'' hd'' he' => ?_)]
        · exact g1
        · simp only [Operand.tmp.injEq] at he'
          subst he'
          exact b2 hd''
      · cases hid : oi.dst with
        | none => simpa [Zlt] using g2
        | some d'' =>
          have hne : d'' ≠ d' := fun e => b1 (by rw [hid, e])
          simp only [Zlt, List.getD, List.getElem?_set, hne, if_false]
          exact g2

theorem Zapg {pc : PC} {ic : IC} (hpc : PCok E pc) (hic : Z8d E ic) {me n0 : Nat} {ops : Array Oper} {Q : Exit → Act → World → Prop} (new : Bool) {lim : Nat → Nat → Bool}
    (hlim : new = true → lim = Z3y ops n0) (hnoa : new = false → ∀ o ∈ ops.toList, Zbr E me o.op = false) {ck : Option (Nat × Nat × Nat × Nat)} {pj pk : Nat} (hck : ∀ k t a d, ck = some (k, t, a, d) → Zvm E me ops k = some (pj, t, a, d)) (hex : pj < pk → ∃ t a d, ck = some (pk, t, a, d)) (hok : Zw3 E me ops pj pk = true) :
    ∀ (fuel : Nat) (listed : Array Bool) (s s' : St) (g : Gh) (w : World) (a : Act), ((List.range ops.size).filter fun j => !listed.getD j true).length = fuel → listed.size = ops.size →
    (∀ j, listed.getD j false = true → ∀ p ∈ (Ztv ops.toList).getD j [], listed.getD p false = true) →
    (new = true → n0 + ops.size ≤ s.mem.next) → n0 ≤ s.mem.next →
    MR E g w s.mem (fun id => (new = true ∧ ∃ y ∈ (List.range ops.size).filter (fun j => !listed.getD j true), id = n0 + y) ∨ s.mem.next ≤ id) → VRs g w s.tmps a.tmps →
    ExsC E me pc ic n0 lim ops ck ((List.range ops.size).filter fun j => !listed.getD j true) s s' →
    (∀ g' w' a', Evo g w g' w' → MR E g' w' s'.mem (fun id => s'.mem.next ≤ id) → VRs g' w' s'.tmps a'.tmps → a'.defers = a.defers → (∀ id, id < n0 → g'.own id = g.own id) → s.mem.next ≤ s'.mem.next → Q .normal a' w') →
    wpAny E.P .any ops Q fuel listed a w := by
  intro fuel
  induction fuel with
  | zero =>
    intro listed s s' g w a hfuel hsz hcl hnew hn0 hM hT h hQ
    have hnil := List.length_eq_zero_iff.1 hfuel
    rw [hnil] at h
    simp only [ExsC] at h
    subst h
    refine ⟨?_, hQ g w a (.refl g w) (hM.weaken fun id hid => .inr hid) hT rfl (fun _ _ => rfl) (Nat.le_refl _)⟩
    cases hr : Region.ready .any ops listed with
    | nil => rfl
    | cons i rest =>
      have hi : i ∈ Region.ready .any ops listed := by rw [hr]; simp
      obtain ⟨h1, o, ho, _⟩ := mem_ready.1 hi
      have : i ∈ (List.range ops.size).filter fun j => !listed.getD j true := List.mem_filter.2 ⟨List.mem_range.2 (Array.getElem?_eq_some_iff.1 ho).1, by simp [h1]⟩
      rw [hnil] at this
      cases this
  | succ fuel ih =>
    intro listed s s' g w a hfuel hsz hcl hnew hn0 hM hT h hQ
    have hall := List.all_eq_true.1 hok
    refine ⟨fun hr => ?_, fun i hi => ?_⟩
    · -- something is left: the first of it is ready
      exfalso
      cases hL : (List.range ops.size).filter fun j => !listed.getD j true with
      | nil => rw [hL] at hfuel; cases hfuel
      | cons m rest =>
        have hm : m ∈ (List.range ops.size).filter fun j => !listed.getD j true := by rw [hL]; simp
        obtain ⟨hm1, hm2⟩ := List.mem_filter.1 hm
        have hmlt := List.mem_range.1 hm1
        have hpw : ((List.range ops.size).filter fun j => !listed.getD j true).Pairwise (· < ·) := List.Pairwise.filter _ List.pairwise_lt_range
        rw [hL] at hpw
        have hfirst : ∀ x, x < m → listed.getD x true = true := by
          intro x hx
          cases hlx : listed.getD x true with
          | true => rfl
          | false =>
            have : x ∈ (List.range ops.size).filter fun j => !listed.getD j true := List.mem_filter.2 ⟨List.mem_range.2 (by omega), by simp only [hlx]; rfl⟩
            rw [hL] at this
            rcases List.mem_cons.1 this with rfl | hin
            · omega
            · have := (List.pairwise_cons.1 hpw).1 x hin
              omega
        have hop : ops[m]? = some ops[m] := by simp [hmlt]
        have hready : m ∈ Region.ready .any ops listed := by
          refine mem_ready.2 ⟨by simpa using hm2, ops[m], hop, fun e he hb => ?_⟩
          have hj := hall m hm1
          rw [hop] at hj
          simp only [Bool.and_eq_true, List.all_eq_true] at hj
          have hlt := hj.1.1 e (by simpa using he)
          simp only [hb, Bool.not_true, Bool.false_or, decide_eq_true_eq] at hlt
          have := hfirst e.on hlt
          have hlt2 : e.on < listed.size := by omega
          simpa [Array.getD, hlt2] using this
        rw [hr] at hready
        cases hready
    · obtain ⟨h1, oi, hoi, hedges⟩ := mem_ready.1 hi
      have hilt : i < ops.size := (Array.getElem?_eq_some_iff.1 hoi).1
      have hbi : ∀ p ∈ (Ztv ops.toList).getD i [], listed.getD p false = true := by
        intro p hp
        have hj := hall i (List.mem_range.2 hilt)
        rw [hoi] at hj
        simp only [Bool.and_eq_true, List.all_eq_true, List.any_eq_true, Bool.or_eq_true, beq_iff_eq] at hj
        obtain ⟨e, he, hb, hpe⟩ := hj.1.2 p hp
        have hle := hedges e (by simpa using he) hb
        rcases hpe with rfl | hpe
        · exact hle
        · exact hcl e.on hle p (by simpa using hpe)
      obtain ⟨A, B, hAB, hA, hB, hAB'⟩ := Z4l (p := fun j => !listed.getD j true) hilt (by simp [h1])
      have hset : ∀ j, (listed.setIfInBounds i true).getD j true = (if j = i then true else listed.getD j true) := by
        intro j
        by_cases hj : j = i
        · subst hj
          simp [Array.getD, hsz, hilt]
        · simp only [Array.getD_eq_getD_getElem?, Array.getElem?_setIfInBounds_ne (Ne.symm hj), if_neg hj]
      have hsetF : ∀ j, (listed.setIfInBounds i true).getD j false = (if j = i then true else listed.getD j false) := by
        intro j
        by_cases hj : j = i
        · subst hj
          simp [Array.getD, hsz, hilt]
        · simp only [Array.getD_eq_getD_getElem?, Array.getElem?_setIfInBounds_ne (Ne.symm hj), if_neg hj]
      have hL' : (List.range ops.size).filter (fun j => !(listed.setIfInBounds i true).getD j true) = A ++ B := by
        rw [← hAB']
        congr 1
        funext j
        rw [hset]
        by_cases hj : j = i <;> simp [hj]
      have hpwA : A.Pairwise (· < ·) := by
        have hpw : ((List.range ops.size).filter fun j => !listed.getD j true).Pairwise (· < ·) := List.Pairwise.filter _ List.pairwise_lt_range
        rw [hAB] at hpw
        exact (List.pairwise_append.1 hpw).1
      obtain ⟨s1, hs1, _, hbub⟩ := Zane (E := E) (me := me) (pc := pc) (ic := ic) (n0 := n0) (lim := lim) hck hoi A B s s' hpwA (fun x hx => by
        obtain ⟨hxi, hxl, hxn⟩ := hA x hx
        have hxl' : listed.getD x true = false := by simpa using hxl
        have hxnot : x ∉ (Ztv ops.toList).getD i [] := by
          intro hin
          have h2 := hbi x hin
          have hlt2 : x < listed.size := by omega
          simp [Array.getD, hlt2] at h2 hxl'
          rw [h2] at hxl'
          cases hxl'
        have hj := hall i (List.mem_range.2 hilt)
        simp only [Bool.and_eq_true, List.all_eq_true] at hj
        have hpair := hj.2 x (List.mem_range.2 hxi)
        have hox : ops[x]? = some ops[x] := by simp [hxn]
        unfold Zzf at hpair
        rw [hox, hoi] at hpair
        have hc1 : ((Ztv ops.toList).getD i []).contains x = false := by simpa using hxnot
        rw [hc1] at hpair
        simp only [Bool.false_or, Bool.and_eq_true, Bool.not_eq_true', Bool.or_eq_true, beq_iff_eq] at hpair
        refine ⟨hxi, ops[x], hox, hxnot, ?_⟩
        rcases hpair with hpair | ⟨hpx, hpi⟩
        case inr =>
          obtain ⟨t, a, d, hckx⟩ := hex (by omega)
          exact .inl ⟨t, a, d, hpi ▸ hckx, hpx⟩
        refine .inr ⟨hpair.2.1, hpair.2.2, fun hcls => ?_⟩
        cases hn : new with
        | false =>
          have hna := hnoa hn
          exfalso
          rcases hcls with hc | hc
          · have := hna ops[x] (by simp)
            cases hk : cls E me ops[x].op <;> rw [hk] at hc <;> first | (cases hc; done) | (simp [Zbr, hk] at this)
          · have := hna oi (Array.mem_toList_iff.2 (Array.mem_of_getElem? hoi))
            cases hk : cls E me oi.op <;> rw [hk] at hc <;> first | (cases hc; done) | (simp [Zbr, hk] at this)
        | true =>
          rw [hlim hn]
          have hc2 : ((Ztv ops.toList).getD x []).contains i = false := hpair.1
          constructor
          · simp only [Z3y, Nat.add_sub_cancel_left, hc2, Bool.or_false]
            simp
            omega
          · simp only [Z3y, Nat.add_sub_cancel_left, hc1, Bool.or_false]
            simp
            omega) (by rw [← hAB]; exact h)
      refine Zaei hpc hic hM (fun id hid => .inr hid) hn0 hT (fun o ho hno => ?_) hs1 (fun g1 w1 a1 evo hM1 hT1 hd hown hle => ?_)
      · cases hn : new with
        | false =>
          have := hnoa hn o (Array.mem_toList_iff.2 (Array.mem_of_getElem? ho))
          rw [Znm hno] at this
          cases this
        | true =>
          have := hnew hn
          exact ⟨.inl ⟨rfl, i, by rw [hAB]; simp, rfl⟩, by omega⟩
      · have hnd : (A ++ i :: B).Nodup := by
          rw [← hAB]
          exact List.Pairwise.filter _ List.nodup_range
        have hni : i ∉ A ++ B := by
          have := List.nodup_append.1 hnd
          intro hin
          rcases List.mem_append.1 hin with hin | hin
          · exact this.2.2 i hin i (by simp) rfl
          · exact (List.nodup_cons.1 this.2.1).1 hin
        refine ih (listed.setIfInBounds i true) s1 s' g1 w1 a1 ?_ (by simpa using hsz) (fun j hj p hp => ?_) (fun hn => Nat.le_trans (hnew hn) hle) (Nat.le_trans hn0 hle) ?_ hT1 (by rw [hL']; exact hbub)
          (fun g2 w2 a2 evo2 hM2 hT2 hd2 hown2 hle2 => hQ g2 w2 a2 (evo.trans evo2) hM2 hT2 (hd2.trans hd) (fun id hid => (hown2 id hid).trans (hown id hid)) (Nat.le_trans hle hle2))
        · rw [hL']
          have : (A ++ i :: B).length = fuel + 1 := by rw [← hAB]; exact hfuel
          simp at this ⊢
          omega
        · rw [hsetF] at hj ⊢
          by_cases hpi : p = i
          · simp [hpi]
          · rw [if_neg hpi]
            by_cases hji : j = i
            · subst hji
              exact hbi p hp
            · rw [if_neg hji] at hj
              exact hcl j hj p hp
        · rw [hL']
          refine hM1.weaken fun id hid => ?_
          rcases hid with ⟨hn, y, hy, rfl⟩ | hid
          · refine .inl ⟨.inl ⟨hn, y, by rw [hAB]; rcases List.mem_append.1 hy with hy | hy <;> simp [hy], rfl⟩, fun he => ?_, ?_⟩
            · have : y = i := by omega
              subst this
              exact hni hy
            · have := hnew hn
              have hylt : y < ops.size := by
                rcases List.mem_append.1 hy with hy | hy
                · exact (hA y hy).2.2
                · exact hB y hy
              omega
          · exact .inr hid


/-! ### A read beside a store -/

structure Zaod (E : Env) (me : Nat) (ops : Array Oper) (x i : Nat) (fp : FP) (ox oi : Oper) : Prop where
  hx : ops[x]? = some ox
  hi : ops[i]? = some oi
  gx : ox.guard = none
  gi : oi.guard = none
  di : oi.dst = none
  apart : ox.apart ops oi = true
  wx : ∀ y o d, ops[y]? = some o → o.dst = some d → d ∈ ox.looksAt ops → y < x
  wi : ∀ y o d, ops[y]? = some o → o.dst = some d → d ∈ oi.looksAt ops → y ∈ (Ztv ops.toList).getD i []
  op : ∃ t2 ai v, oi.op = .store t2 (.tmp ai) v ∧ ((∃ t a, ox.op = .load t (.tmp a) ∧ fp = .ld a ai) ∨ ∃ f args cat, ox.op = .call { callee := .value (.func f), args := args, argTypes := cat } ∧ ((E.prim f).isSome || E.imp me f) = false ∧ fp = .cl args.toList)

/-- A load behind a call in the caller's memory, that may come ahead of it. -/
structure Zary (E : Env) (me : Nat) (ops : Array Oper) (x i t a d : Nat) (ox oi : Oper) : Prop where
  hx : ops[x]? = some ox
  hi : ops[i]? = some oi
  gx : ox.guard = none
  gi : oi.guard = none
  di : oi.dst = some d
  apart : ox.apart ops oi = true
  ne : a ≠ d
  op : oi.op = .load t (.tmp a)
  call : ∃ f args cat, ox.op = .call { callee := .value (.func f), args := args, argTypes := cat } ∧ ((E.prim f).isSome || E.imp me f) = true
  wa : ∀ y o, ops[y]? = some o → o.dst = some a → y ∈ (Ztv ops.toList).getD i []
  wd : ∀ y o, ops[y]? = some o → o.dst = some d → y = i
  wm : ∀ y o, ops[y]? = some o → y ≠ x → (cls E me o.op).quiet = true ∨ (x < y ∧ x ∈ (Ztv ops.toList).getD y [])

theorem Zzq {me : Nat} {ops : Array Oper} {x i : Nat} {fp : FP} (h : fpAt E me ops x i = some fp) : ∃ ox oi, Zaod E me ops x i fp ox oi ∨ ∃ t a d, fp = .ll t a d ∧ Zary E me ops x i t a d ox oi := by
  unfold fpAt at h
  split at h
  case h_2 => cases h
  rename_i ox oi hx hi
  split at h
  case h_3 => cases h
  case h_2 =>
    rename_i t a d h1 h2 h3 h4
    split at h
    case h_2 => cases h
    rename_i f args cat h5
    split at h
    case isFalse => cases h
    rename_i hc
    simp only [Option.some.injEq] at h
    simp only [Zarz, Bool.and_eq_true, bne_iff_ne, ne_eq] at hc
    obtain ⟨⟨⟨q1, q2⟩, q3⟩, q4⟩ := hc
    have hw : ∀ y o, ops[y]? = some o → ((o.dst = some a → y ∈ (Ztv ops.toList).getD i []) ∧ (o.dst = some d → y = i)) ∧ (y ≠ x → (cls E me o.op).quiet = true ∨ (x < y ∧ x ∈ (Ztv ops.toList).getD y [])) := fun y o hy => by
      have := List.all_eq_true.1 q4 y (List.mem_range.2 (Array.getElem?_eq_some_iff.1 hy).1)
      rw [hy] at this
      simp only [Bool.and_eq_true, Bool.or_eq_true, bne_iff_ne, ne_eq, decide_eq_true_eq, beq_iff_eq, List.contains_iff_mem] at this
      obtain ⟨⟨k1, k2⟩, k3⟩ := this
      refine ⟨⟨fun e => ?_, fun e => ?_⟩, fun e => ?_⟩
      · rcases k1 with k1 | k1
        · exact absurd e k1
        · exact k1
      · rcases k2 with k2 | k2
        · exact absurd e k2
        · exact k2
      · rcases k3 with (k3 | k3) | k3
        · exact absurd k3 e
        · exact .inl k3
        · exact .inr k3
    exact ⟨ox, oi, .inr ⟨t, a, d, h.symm, hx, hi, h4, h3, h2, q2, q3, h1, ⟨f, args, cat, h5, by simpa using q1⟩, fun y o hy hd => (hw y o hy).1.1 hd, fun y o hy hd => (hw y o hy).1.2 hd, fun y o hy => (hw y o hy).2⟩⟩
  rename_i t2 ai v h1 h2 h3 h4
  split at h
  case isFalse => cases h
  rename_i hc
  simp only [Zarm, Bool.and_eq_true] at hc
  obtain ⟨q1, q2⟩ := hc
  have hw : ∀ y o d, ops[y]? = some o → o.dst = some d → (d ∈ ox.looksAt ops → y < x) ∧ (d ∈ oi.looksAt ops → y ∈ (Ztv ops.toList).getD i []) := fun y o d hy hd => by
    have := List.all_eq_true.1 q2 y (List.mem_range.2 (Array.getElem?_eq_some_iff.1 hy).1)
    rw [hy] at this
    simp only [Option.bind_some, hd, Bool.and_eq_true, Bool.or_eq_true, Bool.not_eq_true', decide_eq_true_eq] at this
    refine ⟨fun hm => ?_, fun hm => ?_⟩
    · rcases this.1 with h | h
      · simp [hm] at h
      · exact h
    · rcases this.2 with h | h
      · simp [hm] at h
      · simpa using h
  refine ⟨ox, oi, .inl ⟨hx, hi, h4, h3, h2, q1, fun y o d hy hd hm => (hw y o d hy hd).1 hm, fun y o d hy hd hm => (hw y o d hy hd).2 hm, t2, ai, v, h1, ?_⟩⟩
  split at h
  · rename_i t a h5
    simp only [Option.some.injEq] at h
    exact .inl ⟨t, a, h5, h.symm⟩
  · rename_i f args cat h5
    split at h
    case isTrue => cases h
    rename_i hp
    simp only [Option.some.injEq] at h
    exact .inr ⟨f, args, cat, h5, by simpa using hp, h.symm⟩
  · cases h

theorem Zafc {P : Program} {get : Nat → Option (List SV)} {t : Nat} {a v : SV} {u : List (Nat × Option (List SV))} (h : Zi P get t a v = some u) :
    ∃ id i o items x', a = .ptr id i o ∧ get id = some items ∧ u = [(id, some (items.set i x'))] := by
  unfold Zi at h
  split at h
  · cases h
  split at h
  case h_2 => cases h
  rename_i id i o
  split at h
  case h_2 => cases h
  rename_i items hg
  split at h
  case h_2 => cases h
  split at h
  case isFalse => cases h
  split at h
  case h_2 => cases h
  rename_i x' _
  simp only [Option.some.injEq] at h
  exact ⟨id, i, o, items, x', rfl, hg, h.symm⟩

theorem Z4o {P : Program} {get get' : Nat → Option (List SV)} {t : Nat} {p : SV} {y : SV} (h : Zn P get t p = some y)
    (hk : ∀ id i o items, p = .ptr id i o → get id = some items → ∃ items', get' id = some items' ∧ items'[i]? = items[i]?) : Zn P get' t p = some y := by
  unfold Zn at h ⊢
  cases hti : Zbz P t with
  | none => rw [hti] at h; cases h
  | some ti =>
    rw [hti] at h
    simp only at h ⊢
    cases p <;> simp only at h ⊢ <;> first | exact h | skip
    rename_i id i o
    cases hg : get id with
    | none => rw [hg] at h; cases h
    | some items =>
      rw [hg] at h
      obtain ⟨items', h1, h2⟩ := hk id i o items rfl hg
      rw [h1]
      simp only at h ⊢
      rw [h2]
      exact h

/-- The store ahead of the read. -/
theorem swapF {me n0 : Nat} {pc : PC} {ic : IC} {lim : Nat → Nat → Bool} {ops : Array Oper} {x i : Nat} {fp : FP} {ox oi : Oper} (hf : Zaod E me ops x i fp ox oi)
    {M0 : Mem} {s s1 s2 : St} (hok : Z2y E M0 s.tmps fp = true) (h1 : exO E me pc ic n0 lim ops x s = some s1) (h2 : exO E me pc ic n0 lim ops i s1 = some s2) :
    ∃ s1', exO E me pc ic n0 lim ops i s = some s1' ∧ exO E me pc ic n0 lim ops x s1' = some s2 := by
  obtain ⟨a1, a2, a3⟩ := Oper.apart_spec hf.apart
  have hx := hf.hx
  have hi := hf.hi
  simp only [Zp7 hx, Zp7 hi] at *
  obtain ⟨t2, ai, sv, hst, hrd⟩ := hf.op
  have wx : ∀ T, Zns ops ox T = some true := fun T => by unfold Zns; rw [hf.gx]
  have wi : ∀ T, Zns ops oi T = some true := fun T => by unfold Zns; rw [hf.gi]
  have ix : ∀ T, Zd8 E me (evO E T) ox = none := fun T => by
    unfold Zd8
    rcases hrd with ⟨t, a, h, _⟩ | ⟨f, args, cat, h, hp, _⟩
    · rw [h]
    · rw [h]
      simp only [evO]
      rw [if_neg (by simpa using hp)]
  have ii : ∀ T, Zd8 E me (evO E T) oi = none := fun T => by unfold Zd8; rw [hst]
  have hcx : cls E me ox.op = .r := by
    rcases hrd with ⟨t, a, h, _⟩ | ⟨f, args, cat, h, hp, _⟩
    · rw [h]; rfl
    · rw [h]
      simp only [cls]
      rw [if_neg (by simpa using hp)]
  cases h1 with
  | skip hw => rw [wx] at hw; cases hw
  | imp hw hi' hcc => rw [ix] at hi'; cases hi'
  | act hw1 hi1 ha1 =>
    rename_i v1 u1
    obtain rfl : u1 = [] := Zabd hcx ha1
    cases h2 with
    | skip hw2 => rw [wi] at hw2; cases hw2
    | imp hw2 hi2 hc2 => rw [ii] at hi2; cases hi2
    | act hw2 hi2 ha2 =>
      rename_i v2 u2
      simp only [Mem.sets] at ha2 ⊢
      rw [Zu0 (Zoh a1)] at ha2
      refine ⟨⟨Zlt s.tmps oi.dst v2, s.mem.sets u2⟩, .act (wi _) (ii _) ha2, ?_⟩
      rw [Zva _ _ _ a2]
      have key : act E pc (n0 + x) (evO E (Zlt s.tmps oi.dst v2)) (fun id => if lim x id then (s.mem.sets u2).blk id else none) ox = some (v1, []) := by
        rw [Zu0 (Zoh a3)]
        have hs : ∃ id k o items x', evO E s.tmps (.tmp ai) = .ptr id k o ∧ s.mem.blk id = some items ∧ u2 = [(id, some (items.set k x'))] := by
          unfold act at ha2
          rw [hst] at ha2
          simp only at ha2
          split at ha2
          case h_2 => cases ha2
          rename_i u hu
          simp only [Option.some.injEq, Prod.mk.injEq] at ha2
          obtain ⟨_, rfl⟩ := ha2
          obtain ⟨id, k, o, items, x', e1, e2, e3⟩ := Zafc hu
          refine ⟨id, k, o, items, x', e1, ?_, e3⟩
          cases hl : lim i id with
          | true => simpa [hl] using e2
          | false => simp [hl] at e2
        obtain ⟨id, k, o, items, x', e1, e2, rfl⟩ := hs
        rcases hrd with ⟨t, a, hld, rfl⟩ | ⟨f, args, cat, hcl, hp, rfl⟩
        · unfold act at ha1 ⊢
          rw [hld] at ha1 ⊢
          simp only at ha1 ⊢
          split at ha1
          case h_2 => cases ha1
          rename_i y hy
          simp only [Option.some.injEq, Prod.mk.injEq, and_true] at ha1
          subst ha1
          simp only [Z2y, e1] at hok
          rw [Z4o hy fun id2 i2 o2 items2 hp2 hg2 => ?_]
          rw [hp2] at hok
          cases hl : lim x id2 with
          | false => simp [hl] at hg2
          | true =>
            simp only [hl, if_true] at hg2 ⊢
            by_cases hid : id2 = id
            · subst hid
              rw [e2] at hg2
              simp only [Option.some.injEq] at hg2
              subst hg2
              refine ⟨items.set k x', by simp [Mem.sets, Mem.set], ?_⟩
              simp only [Zalc, bne_self_eq_false, Bool.false_or, bne_iff_ne, ne_eq] at hok
              rw [List.getElem?_set_ne (fun h => hok h.symm)]
            · exact ⟨items2, by simpa [Mem.sets, Mem.set, hid] using hg2, rfl⟩
        · unfold act at ha1 ⊢
          rw [hcl] at ha1 ⊢
          simp only [evO] at ha1 ⊢
          simp only [Z2y] at hok
          have hm : ∀ get, ([] ++ args.toList.map (evO E s.tmps) ++ []).mapM (pic get false Zar) = some ([] ++ args.toList.map (evO E s.tmps) ++ []) := fun get => Zmn fun z hz => by
            simp only [List.nil_append, List.append_nil, List.mem_map] at hz
            obtain ⟨w, hw, rfl⟩ := hz
            exact Zd3 (List.all_eq_true.1 hok w hw)
          rw [hm] at ha1 ⊢
          exact ha1
      have hdid := Did.act (E := E) (me := me) (pc := pc) (ic := ic) (n0 := n0) (lim := lim) (ops := ops) (x := x) (o := ox) (s := ⟨Zlt s.tmps oi.dst v2, s.mem.sets u2⟩) (wx _) (ix _) key
      simpa [Mem.sets] using hdid

mutual
theorem Zac7 : ∀ {a b : SV}, Zx8 a b = true → a = b
  | .bool a, b, h => by cases b <;> simp_all [Zx8]
  | .int k n, b, h => by cases b <;> simp_all [Zx8]
  | .str s, b, h => by cases b <;> simp_all [Zx8]
  | .nilp, b, h => by cases b <;> simp_all [Zx8]
  | .ptr _ _ _, b, h => by cases b <;> simp_all [Zx8]
  | .rptr l _ _ _, b, h => by
    cases b <;> simp only [Zx8, Bool.and_eq_true, beq_iff_eq, Bool.false_eq_true] at h
    obtain ⟨⟨⟨h1, h2⟩, h3⟩, h4⟩ := h
    rw [Zyi h1, h2, h3, h4]
  | .nilsl, b, h => by cases b <;> simp_all [Zx8]
  | .sl l t, b, h => by
    cases b <;> simp only [Zx8, Bool.and_eq_true, decide_eq_true_eq, Bool.false_eq_true] at h
    obtain ⟨h1, h2⟩ := h
    rw [Zyi h1, h2]
  | .own _ _ _ _, b, h => by cases b <;> simp_all [Zx8]
  | .fn _ _ _, b, h => by cases b <;> simp [Zx8] at h
  | .nilf, b, h => by cases b <;> simp_all [Zx8]
  | .iface t v, b, h => by
    cases b <;> simp only [Zx8, Bool.and_eq_true, beq_iff_eq, Bool.false_eq_true] at h
    obtain ⟨h1, h2⟩ := h
    rw [h1, Zac7 h2]
  | .nili, b, h => by cases b <;> simp_all [Zx8]
  | .agg l, b, h => by
    cases b <;> simp only [Zx8, Bool.false_eq_true] at h
    rw [Zyi h]
  | .tup _, b, h => by cases b <;> simp [Zx8] at h
  | .Z, b, h => by cases b <;> simp [Zx8] at h
theorem Zyi : ∀ {a b : List SV}, Z10 a b = true → a = b
  | [], b, h => by cases b <;> simp_all [Z10]
  | x :: l, b, h => by
    cases b with
    | nil => simp [Z10] at h
    | cons y m =>
      simp only [Z10, Bool.and_eq_true] at h
      rw [Zac7 h.1, Zyi h.2]
end

/-- What is quiet leaves what was there as it was. -/
theorem Zaac {me n0 : Nat} {pc : PC} {ic : IC} {lim : Nat → Nat → Bool} {ops : Array Oper} {y : Nat} {o : Oper} (hy : ops[y]? = some o) (hq : (cls E me o.op).quiet = true) {s s' : St} (h : exO E me pc ic n0 lim ops y s = some s') : ∀ id, id < n0 → s'.mem.blk id = s.mem.blk id := by
  intro id hid
  rw [Zp7 hy] at h
  cases h with
  | skip => rfl
  | imp hw hi hc =>
    rw [Zzy hi] at hq
    cases hq
  | act hw hi ha =>
    rename_i v u
    have hu : u = [] ∨ ∃ its, u = [(n0 + y, some its)] := by
      cases hk : cls E me o.op <;> rw [hk] at hq <;> first | (cases hq; done) | skip
      · exact .inl (Zac6 (get' := fun _ => none) hk ha).1
      · exact .inl (Zabd hk ha)
      · exact .inr (Z2f (get' := fun _ => none) hk ha).2
    rcases hu with rfl | ⟨its, rfl⟩
    · rfl
    · have e : ¬ id = n0 + y := by omega
      simp [Mem.sets, Mem.set, e]

/-- The load ahead of the call. -/
theorem swapL {me n0 : Nat} {pc : PC} {ic : IC} {lim : Nat → Nat → Bool} {ops : Array Oper} {x i t a d : Nat} {ox oi : Oper} (hf : Zary E me ops x i t a d ox oi) {M0 : Mem} (hn : M0.next = n0) (hlim : ∀ id, id < n0 → lim i id = true)
    {s s1 s2 : St} (hmem : ∀ id, id < n0 → s.mem.blk id = M0.blk id) (hold : oldS M0 (evO E s.tmps (.tmp a)) = true) {v : SV} (hld : Zn E.P M0.blk t (evO E s.tmps (.tmp a)) = some v) (hv : Zx8 v (evO E s2.tmps (.tmp d)) = true)
    (h1 : exO E me pc ic n0 lim ops x s = some s1) (h2 : exO E me pc ic n0 lim ops i s1 = some s2) :
    ∃ s1', exO E me pc ic n0 lim ops i s = some s1' ∧ exO E me pc ic n0 lim ops x s1' = some s2 := by
  obtain ⟨a1, a2, a3⟩ := Oper.apart_spec hf.apart
  have hx := hf.hx
  have hi := hf.hi
  simp only [Zp7 hx, Zp7 hi] at *
  obtain ⟨f, args, cat, hcl, hp⟩ := hf.call
  have wx : ∀ T, Zns ops ox T = some true := fun T => by unfold Zns; rw [hf.gx]
  have wi : ∀ T, Zns ops oi T = some true := fun T => by unfold Zns; rw [hf.gi]
  have ix : ∀ T, Zd8 E me (evO E T) ox = some (f, [] ++ args.toList.map (evO E T) ++ []) := fun T => by
    unfold Zd8
    rw [hcl]
    simp only [evO]
    rw [if_pos hp]
  have ii : ∀ T, Zd8 E me (evO E T) oi = none := fun T => by unfold Zd8; rw [hf.op]
  cases h1 with
  | skip hw => rw [wx] at hw; cases hw
  | act hw hi' hcc => rw [ix] at hi'; cases hi'
  | imp hw1 hi1 hc1 =>
    rename_i f1 args1 v1 M1
    cases h2 with
    | skip hw2 => rw [wi] at hw2; cases hw2
    | imp hw2 hi2 hc2 => rw [ii] at hi2; cases hi2
    | act hw2 hi2 ha2 =>
      rename_i v2 u2
      unfold Sh.act at ha2
      rw [hf.op] at ha2
      simp only at ha2
      split at ha2
      case h_2 => cases ha2
      rename_i y hy
      simp only [Option.some.injEq, Prod.mk.injEq] at ha2
      obtain ⟨rfl, rfl⟩ := ha2
      have hvy : v = y := by
        have e := Zac7 hv
        rw [hf.di] at e
        generalize Zlt s.tmps ox.dst v1 = T at e hv
        simp only [evO, Zlt] at e
        rw [List.getD_eq_getElem?_getD, List.getElem?_set] at e
        simp only [if_true] at e
        by_cases hdl : d < T.length
        · simpa [hdl] using e
        · simp [hdl] at e
          rw [e] at hv
          simp [Zx8] at hv
      subst hvy
      have hld' : Zn E.P (fun id => if lim i id then s.mem.blk id else none) t (evO E s.tmps (.tmp a)) = some v := Z4o hld fun id k o items hp2 hg => by
        rw [hp2] at hold
        simp only [oldS, decide_eq_true_eq, hn] at hold
        exact ⟨items, by rw [hlim id hold, if_pos rfl, hmem id hold]; exact hg, rfl⟩
      have ha : Sh.act E pc (n0 + i) (evO E s.tmps) (fun id => if lim i id then s.mem.blk id else none) oi = some (v, []) := by
        unfold Sh.act
        rw [hf.op]
        simp only [hld']
      refine ⟨⟨Zlt s.tmps oi.dst v, s.mem.sets []⟩, .act (wi _) (ii _) ha, ?_⟩
      rw [Zva _ _ _ a2]
      refine .imp (wx _) ?_ hc1
      rw [Zo9 (Zoh a3)]
      exact hi1

theorem Zsr {me n0 : Nat} {pc : PC} {ic : IC} {lim : Nat → Nat → Bool} {ops : Array Oper} {y : Nat} {o : Oper} (hy : ops[y]? = some o) {d : Nat} (hd : o.dst ≠ some d) {s s' : St} (h : exO E me pc ic n0 lim ops y s = some s') : evO E s'.tmps (.tmp d) = evO E s.tmps (.tmp d) := by
  rw [Zp7 hy] at h
  cases h <;> exact Zth (fun d' hd' he => by simp only [Operand.tmp.injEq] at he; subst he; exact hd hd')

theorem Ztt {me n0 : Nat} {pc : PC} {ic : IC} {lim : Nat → Nat → Bool} {ops : Array Oper} {d : Nat} : ∀ {l : List Nat} {s s' : St}, (∀ y ∈ l, ∀ o, ops[y]? = some o → o.dst ≠ some d) → Zun E me pc ic n0 lim ops l s = some s' → evO E s'.tmps (.tmp d) = evO E s.tmps (.tmp d)
  | [], s, s', _, h => by simp only [Zun, Option.some.injEq] at h; rw [h]
  | y :: r, s, s', hd, h => by
    simp only [Zun] at h
    split at h
    case h_2 => cases h
    rename_i s1 h1
    rw [Ztt (fun z hz => hd z (by simp [hz])) h]
    cases hy : ops[y]? with
    | none =>
      unfold exO at h1
      rw [hy] at h1
      simp only [Option.some.injEq] at h1
      rw [h1]
    | some o => exact Zsr hy (hd y (by simp) o hy) h1

theorem Zaie {me : Nat} {ops : Array Oper} {x i : Nat} {fp : FP} {ox oi : Oper} (hf : Zaod E me ops x i fp ox oi) {T T' : List SV} {M0 : Mem} (h : ∀ d, d ∈ ox.looksAt ops ∨ d ∈ oi.looksAt ops → evO E T' (.tmp d) = evO E T (.tmp d)) : Z2y E M0 T' fp = Z2y E M0 T fp := by
  obtain ⟨t2, ai, sv, hst, hrd⟩ := hf.op
  have hai : ai ∈ oi.looksAt ops := by
    unfold Oper.looksAt
    rw [hst]
    simp [Op.operands]
  rcases hrd with ⟨t, a, hld, rfl⟩ | ⟨f, args, cat, hcl, hp, rfl⟩
  · have ha : a ∈ ox.looksAt ops := by
      unfold Oper.looksAt
      rw [hld]
      simp [Op.operands]
    simp only [Z2y]
    rw [h a (.inl ha), h ai (.inr hai)]
  · simp only [Z2y]
    have : ∀ z ∈ args.toList, evO E T' z = evO E T z := fun z hz => by
      cases z with
      | tmp d =>
        refine h d (.inl ?_)
        unfold Oper.looksAt
        rw [hcl]
        simp only [List.mem_append, List.mem_filterMap]
        refine .inl ⟨.tmp d, ?_, rfl⟩
        simp only [Op.operands]
        simp [Call.operands]
        simpa using hz
      | const v => rfl
      | global g => rfl
      | func f => rfl
    rw [Bool.eq_iff_iff, List.all_eq_true, List.all_eq_true]
    exact ⟨fun q z hz => by rw [← this z hz]; exact q z hz, fun q z hz => by rw [this z hz]; exact q z hz⟩

theorem Zan3 {me n0 : Nat} {pc : PC} {ic : IC} {lim : Nat → Nat → Bool} {ops : Array Oper} {i : Nat} {oi : Oper} (hi : ops[i]? = some oi) (sf : St) {M0 : Mem} (hn : M0.next = n0) (hlim : ∀ id, id < n0 → lim i id = true) :
    ∀ (A B : List Nat) (s : St), (A ++ i :: B).Pairwise (· < ·) → (∀ x ∈ B, x ∉ (Ztv ops.toList).getD i []) → (∀ x ∈ A, x < i ∧ ∃ ox, ops[x]? = some ox ∧ x ∉ (Ztv ops.toList).getD i [] ∧ ((∃ fp, fpAt E me ops x i = some fp ∧ Z2y E M0 sf.tmps fp = true ∧ (∀ t a d, fp = .ll t a d → ∀ id, id < n0 → s.mem.blk id = M0.blk id)) ∨ (ox.apart ops oi = true ∧ compat (cls E me ox.op) (cls E me oi.op) = true ∧
      ((cls E me ox.op).mk = true ∨ (cls E me oi.op).mk = true → lim x (n0 + i) = false ∧ lim i (n0 + x) = false)))) →
    Zun E me pc ic n0 lim ops (A ++ i :: B) s = some sf → ∃ s1, exO E me pc ic n0 lim ops i s = some s1 ∧ Zun E me pc ic n0 lim ops (A ++ B) s1 = some sf
  | [], B, s, _, _, _, h => by
    simp only [List.nil_append, Zun] at h ⊢
    split at h
    case h_2 => cases h
    rename_i s1 h1
    exact ⟨s1, h1, h⟩
  | x :: A, B, s, hpw, hB, hA, h => by
    simp only [List.cons_append, Zun] at h
    split at h
    case h_2 => cases h
    rename_i s1 h1
    have hpw' := List.pairwise_cons.1 (show (x :: (A ++ i :: B)).Pairwise (· < ·) from hpw)
    obtain ⟨hlt, ox, hx, hxb, hor⟩ := hA x (by simp)
    obtain ⟨s2, e1, e2⟩ := Zan3 hi sf hn hlim A B s1 hpw'.2 hB (fun y hy => by
      obtain ⟨r1, oy, r2, r3, r4⟩ := hA y (by simp [hy])
      refine ⟨r1, oy, r2, r3, ?_⟩
      rcases r4 with ⟨fp, k1, k2, k3⟩ | r4
      · refine .inl ⟨fp, k1, k2, fun t a d he id hid => ?_⟩
        obtain ⟨ox', oi', hf | ⟨t', a', d', he', hf⟩⟩ := Zzq k1
        · obtain ⟨_, _, _, _, hh⟩ := hf.op
          rcases hh with ⟨_, _, _, e⟩ | ⟨_, _, _, _, _, e⟩ <;> rw [he] at e <;> cases e
        · have hxy : x < y := hpw'.1 y (by simp [hy])
          rcases hf.wm x ox hx (by omega) with h9 | h9
          · rw [Zaac hx h9 h1 id hid]
            exact k3 t a d he id hid
          · omega
      · exact .inr r4) h
    rcases hor with ⟨fp, hfp, hok, hmem⟩ | ⟨q1, q2, q3⟩
    · obtain ⟨ox', oi', hf | ⟨t, a, d, hfe, hf⟩⟩ := Zzq hfp
      case inr =>
        subst hfe
        obtain rfl : ox' = ox := by have := hf.hx; rw [hx] at this; simpa using this.symm
        obtain rfl : oi' = oi := by have := hf.hi; rw [hi] at this; simpa using this.symm
        simp only [Z2y, Bool.and_eq_true] at hok
        obtain ⟨hold, hl⟩ := hok
        have ka : evO E sf.tmps (.tmp a) = evO E s.tmps (.tmp a) := by
          have na : ∀ y ∈ A ++ B, ∀ o, ops[y]? = some o → o.dst ≠ some a := fun y hy o ho he => by
            have hin := hf.wa y o ho he
            rcases List.mem_append.1 hy with h | h
            · obtain ⟨_, _, _, hn, _⟩ := hA y (by simp [h])
              exact hn hin
            · exact hB y h hin
          rw [Ztt na e2, Zsr hi (fun he => hf.ne (by rw [hf.di] at he; simpa using he.symm)) e1, Zsr hx (fun he => hxb (hf.wa x ox' hx he)) h1]
        have hnd : i ∉ A ++ B := by
          intro hin
          have hpw2 := hpw'.2
          rcases List.mem_append.1 hin with h | h
          · have := (List.pairwise_append.1 hpw2).2.2 i h i (by simp)
            omega
          · have := (List.pairwise_cons.1 (List.pairwise_append.1 hpw2).2.1).1 i h
            omega
        have kd : evO E sf.tmps (.tmp d) = evO E s2.tmps (.tmp d) := Ztt (fun y hy o ho he => by
          have := hf.wd y o ho he
          subst this
          exact hnd hy) e2
        rw [ka] at hold hl
        rw [kd] at hl
        split at hl
        case h_2 => cases hl
        rename_i v hv
        obtain ⟨s1', f1, f2⟩ := swapL hf hn hlim (hmem t a d rfl) hold hv hl h1 e1
        exact ⟨s1', f1, by simp only [List.cons_append, Zun, f2]; exact e2⟩
      obtain rfl : ox' = ox := by have := hf.hx; rw [hx] at this; simpa using this.symm
      obtain rfl : oi' = oi := by have := hf.hi; rw [hi] at this; simpa using this.symm
      have hk : Z2y E M0 s.tmps fp = true := by
        rw [← hok]
        refine (Zaie hf fun d hd => ?_).symm
        have k1 : ox'.dst ≠ some d := fun he => by
          rcases hd with hd | hd
          · exact absurd (hf.wx x ox' d hx he hd) (Nat.lt_irrefl _)
          · exact hxb (hf.wi x ox' d hx he hd)
        have k2 : oi'.dst ≠ some d := fun he => by rw [hf.di] at he; cases he
        have k3 : ∀ y ∈ A ++ B, ∀ o, ops[y]? = some o → o.dst ≠ some d := fun y hy o ho he => by
          have hxy : x < y := hpw'.1 y (by rcases List.mem_append.1 hy with h | h <;> simp [h])
          rcases hd with hd | hd
          · have := hf.wx y o d ho he hd
            omega
          · have hin := hf.wi y o d ho he hd
            rcases List.mem_append.1 hy with h | h
            · obtain ⟨_, _, _, hn, _⟩ := hA y (by simp [h])
              exact hn hin
            · exact hB y h hin
        rw [Ztt k3 e2, Zsr hi k2 e1, Zsr hx k1 h1]
      obtain ⟨s1', f1, f2⟩ := swapF hf hk h1 e1
      exact ⟨s1', f1, by simp only [List.cons_append, Zun, f2]; exact e2⟩
    · obtain ⟨s1', f1, f2⟩ := swap hx hi (by omega) q1 q2 q3 h1 e1
      exact ⟨s1', f1, by simp only [List.cons_append, Zun, f2]; exact e2⟩

theorem Zak5 {pc : PC} {ic : IC} (hpc : PCok E pc) (hic : Z8d E ic) {me n0 : Nat} {ops : Array Oper} {Q : Exit → Act → World → Prop} (new : Bool) {lim : Nat → Nat → Bool}
    (hlim : new = true → lim = Z3y ops n0) (hnoa : new = false → ∀ o ∈ ops.toList, Zbr E me o.op = false) (hok : Z5g E me ops = true) (s' : St) {M0 : Mem} (hn0' : M0.next = n0) (hlo : ∀ i id, id < n0 → lim i id = true) (hfp : (Zag2 E me ops).all (Z2y E M0 s'.tmps) = true) :
    ∀ (fuel : Nat) (listed : Array Bool) (s : St) (g : Gh) (w : World) (a : Act), ((List.range ops.size).filter fun j => !listed.getD j true).length = fuel → listed.size = ops.size →
    (∀ j, listed.getD j false = true → ∀ p ∈ (Ztv ops.toList).getD j [], listed.getD p false = true) →
    (new = true → n0 + ops.size ≤ s.mem.next) → n0 ≤ s.mem.next → (∀ x i t a d, fpAt E me ops x i = some (.ll t a d) → listed.getD x true = false → ∀ id, id < n0 → s.mem.blk id = M0.blk id) →
    MR E g w s.mem (fun id => (new = true ∧ ∃ y ∈ (List.range ops.size).filter (fun j => !listed.getD j true), id = n0 + y) ∨ s.mem.next ≤ id) → VRs g w s.tmps a.tmps →
    Zun E me pc ic n0 lim ops ((List.range ops.size).filter fun j => !listed.getD j true) s = some s' →
    (∀ g' w' a', Evo g w g' w' → MR E g' w' s'.mem (fun id => s'.mem.next ≤ id) → VRs g' w' s'.tmps a'.tmps → a'.defers = a.defers → (∀ id, id < n0 → g'.own id = g.own id) → s.mem.next ≤ s'.mem.next → Q .normal a' w') →
    wpAny E.P .any ops Q fuel listed a w := by
  intro fuel
  induction fuel with
  | zero =>
    intro listed s g w a hfuel hsz hcl hnew hn0 hold hM hT h hQ
    have hnil := List.length_eq_zero_iff.1 hfuel
    rw [hnil] at h
    simp only [Zun, Option.some.injEq] at h
    subst h
    refine ⟨?_, hQ g w a (.refl g w) (hM.weaken fun id hid => .inr hid) hT rfl (fun _ _ => rfl) (Nat.le_refl _)⟩
    cases hr : Region.ready .any ops listed with
    | nil => rfl
    | cons i rest =>
      have hi : i ∈ Region.ready .any ops listed := by rw [hr]; simp
      obtain ⟨h1, o, ho, _⟩ := mem_ready.1 hi
      have : i ∈ (List.range ops.size).filter fun j => !listed.getD j true := List.mem_filter.2 ⟨List.mem_range.2 (Array.getElem?_eq_some_iff.1 ho).1, by simp [h1]⟩
      rw [hnil] at this
      cases this
  | succ fuel ih =>
    intro listed s g w a hfuel hsz hcl hnew hn0 hold hM hT h hQ
    have hall := List.all_eq_true.1 hok
    refine ⟨fun hr => ?_, fun i hi => ?_⟩
    · -- something is left: the first of it is ready
      exfalso
      cases hL : (List.range ops.size).filter fun j => !listed.getD j true with
      | nil => rw [hL] at hfuel; cases hfuel
      | cons m rest =>
        have hm : m ∈ (List.range ops.size).filter fun j => !listed.getD j true := by rw [hL]; simp
        obtain ⟨hm1, hm2⟩ := List.mem_filter.1 hm
        have hmlt := List.mem_range.1 hm1
        have hpw : ((List.range ops.size).filter fun j => !listed.getD j true).Pairwise (· < ·) := List.Pairwise.filter _ List.pairwise_lt_range
        rw [hL] at hpw
        have hfirst : ∀ x, x < m → listed.getD x true = true := by
          intro x hx
          cases hlx : listed.getD x true with
          | true => rfl
          | false =>
            have : x ∈ (List.range ops.size).filter fun j => !listed.getD j true := List.mem_filter.2 ⟨List.mem_range.2 (by omega), by simp only [hlx]; rfl⟩
            rw [hL] at this
            rcases List.mem_cons.1 this with rfl | hin
            · omega
            · have := (List.pairwise_cons.1 hpw).1 x hin
              omega
        have hop : ops[m]? = some ops[m] := by simp [hmlt]
        have hready : m ∈ Region.ready .any ops listed := by
          refine mem_ready.2 ⟨by simpa using hm2, ops[m], hop, fun e he hb => ?_⟩
          have hj := hall m hm1
          rw [hop] at hj
          simp only [Bool.and_eq_true, List.all_eq_true] at hj
          have hlt := hj.1.1 e (by simpa using he)
          simp only [hb, Bool.not_true, Bool.false_or, decide_eq_true_eq] at hlt
          have := hfirst e.on hlt
          have hlt2 : e.on < listed.size := by omega
          simpa [Array.getD, hlt2] using this
        rw [hr] at hready
        cases hready
    · obtain ⟨h1, oi, hoi, hedges⟩ := mem_ready.1 hi
      have hilt : i < ops.size := (Array.getElem?_eq_some_iff.1 hoi).1
      have hbi : ∀ p ∈ (Ztv ops.toList).getD i [], listed.getD p false = true := by
        intro p hp
        have hj := hall i (List.mem_range.2 hilt)
        rw [hoi] at hj
        simp only [Bool.and_eq_true, List.all_eq_true, List.any_eq_true, Bool.or_eq_true, beq_iff_eq] at hj
        obtain ⟨e, he, hb, hpe⟩ := hj.1.2 p hp
        have hle := hedges e (by simpa using he) hb
        rcases hpe with rfl | hpe
        · exact hle
        · exact hcl e.on hle p (by simpa using hpe)
      obtain ⟨A, B, hAB, hA, hB, hAB'⟩ := Z4l (p := fun j => !listed.getD j true) hilt (by simp [h1])
      have hset : ∀ j, (listed.setIfInBounds i true).getD j true = (if j = i then true else listed.getD j true) := by
        intro j
        by_cases hj : j = i
        · subst hj
          simp [Array.getD, hsz, hilt]
        · simp only [Array.getD_eq_getD_getElem?, Array.getElem?_setIfInBounds_ne (Ne.symm hj), if_neg hj]
      have hsetF : ∀ j, (listed.setIfInBounds i true).getD j false = (if j = i then true else listed.getD j false) := by
        intro j
        by_cases hj : j = i
        · subst hj
          simp [Array.getD, hsz, hilt]
        · simp only [Array.getD_eq_getD_getElem?, Array.getElem?_setIfInBounds_ne (Ne.symm hj), if_neg hj]
      have hL' : (List.range ops.size).filter (fun j => !(listed.setIfInBounds i true).getD j true) = A ++ B := by
        rw [← hAB']
        congr 1
        funext j
        rw [hset]
        by_cases hj : j = i <;> simp [hj]
      have hpwA : A.Pairwise (· < ·) := by
        have hpw : ((List.range ops.size).filter fun j => !listed.getD j true).Pairwise (· < ·) := List.Pairwise.filter _ List.pairwise_lt_range
        rw [hAB] at hpw
        exact (List.pairwise_append.1 hpw).1
      obtain ⟨s1, hs1, hbub⟩ := Zan3 (E := E) (me := me) (pc := pc) (ic := ic) (n0 := n0) (lim := lim) hoi s' hn0' (hlo i) A B s (by rw [← hAB]; exact List.Pairwise.filter _ List.pairwise_lt_range) (fun x hx hin => by
        have h2 := hbi x hin
        have hxm : x ∈ (List.range ops.size).filter fun j => !listed.getD j true := by rw [hAB]; simp [hx]
        have hxl := (List.mem_filter.1 hxm).2
        have hlt2 : x < listed.size := by have := List.mem_range.1 (List.mem_filter.1 hxm).1; omega
        simp [Array.getD, hlt2] at h2 hxl
        rw [h2] at hxl
        cases hxl) (fun x hx => by
        obtain ⟨hxi, hxl, hxn⟩ := hA x hx
        have hxl' : listed.getD x true = false := by simpa using hxl
        have hxnot : x ∉ (Ztv ops.toList).getD i [] := by
          intro hin
          have h2 := hbi x hin
          have hlt2 : x < listed.size := by omega
          simp [Array.getD, hlt2] at h2 hxl'
          rw [h2] at hxl'
          cases hxl'
        have hj := hall i (List.mem_range.2 hilt)
        simp only [Bool.and_eq_true, List.all_eq_true] at hj
        have hox : ops[x]? = some ops[x] := by simp [hxn]
        have hc1 : ((Ztv ops.toList).getD i []).contains x = false := by simpa using hxnot
        refine ⟨hxi, ops[x], hox, hxnot, ?_⟩
        by_cases hpp : Zzf E me ops (Ztv ops.toList) x i = true
        case neg =>
          have hpn : Zzf E me ops (Ztv ops.toList) x i = false := by simpa using hpp
          have hpair' := hj.2 x (List.mem_range.2 hxi)
          rw [hpn, Bool.false_or, Option.isSome_iff_exists] at hpair'
          obtain ⟨fp, hfpx⟩ := hpair'
          refine .inl ⟨fp, hfpx, List.all_eq_true.1 hfp fp ?_, fun t a d he id hid => hold x i t a d (he ▸ hfpx) hxl' id hid⟩
          unfold Zag2
          refine List.mem_flatMap.2 ⟨i, List.mem_range.2 hilt, List.mem_filterMap.2 ⟨x, List.mem_range.2 hxi, ?_⟩⟩
          rw [hpn]
          simpa using hfpx
        have hpair := hpp
        unfold Zzf at hpair
        rw [hox, hoi] at hpair
        rw [hc1] at hpair
        simp only [Bool.false_or, Bool.and_eq_true, Bool.not_eq_true', Bool.or_eq_true, beq_iff_eq] at hpair
        refine .inr ⟨hpair.2.1, hpair.2.2, fun hcls => ?_⟩
        cases hn : new with
        | false =>
          have hna := hnoa hn
          exfalso
          rcases hcls with hc | hc
          · have := hna ops[x] (by simp)
            cases hk : cls E me ops[x].op <;> rw [hk] at hc <;> first | (cases hc; done) | (simp [Zbr, hk] at this)
          · have := hna oi (Array.mem_toList_iff.2 (Array.mem_of_getElem? hoi))
            cases hk : cls E me oi.op <;> rw [hk] at hc <;> first | (cases hc; done) | (simp [Zbr, hk] at this)
        | true =>
          rw [hlim hn]
          have hc2 : ((Ztv ops.toList).getD x []).contains i = false := hpair.1
          constructor
          · simp only [Z3y, Nat.add_sub_cancel_left, hc2, Bool.or_false]
            simp
            omega
          · simp only [Z3y, Nat.add_sub_cancel_left, hc1, Bool.or_false]
            simp
            omega) (by rw [← hAB]; exact h)
      refine Zaei hpc hic hM (fun id hid => .inr hid) hn0 hT (fun o ho hno => ?_) hs1 (fun g1 w1 a1 evo hM1 hT1 hd hown hle => ?_)
      · cases hn : new with
        | false =>
          have := hnoa hn o (Array.mem_toList_iff.2 (Array.mem_of_getElem? ho))
          rw [Znm hno] at this
          cases this
        | true =>
          have := hnew hn
          exact ⟨.inl ⟨rfl, i, by rw [hAB]; simp, rfl⟩, by omega⟩
      · have hnd : (A ++ i :: B).Nodup := by
          rw [← hAB]
          exact List.Pairwise.filter _ List.nodup_range
        have hni : i ∉ A ++ B := by
          have := List.nodup_append.1 hnd
          intro hin
          rcases List.mem_append.1 hin with hin | hin
          · exact this.2.2 i hin i (by simp) rfl
          · exact (List.nodup_cons.1 this.2.1).1 hin
        refine ih (listed.setIfInBounds i true) s1 g1 w1 a1 ?_ (by simpa using hsz) (fun j hj p hp => ?_) (fun hn => Nat.le_trans (hnew hn) hle) (Nat.le_trans hn0 hle) (fun x i2 t2 a2 d2 hfx hlx id hid => by
          rw [hset] at hlx
          by_cases hxi : x = i
          · rw [if_pos hxi] at hlx; cases hlx
          rw [if_neg hxi] at hlx
          obtain ⟨ox', oi', hf | ⟨t', a', d', he', hf⟩⟩ := Zzq hfx
          · obtain ⟨_, _, _, _, hh⟩ := hf.op
            rcases hh with ⟨_, _, _, e⟩ | ⟨_, _, _, _, _, e⟩ <;> cases e
          · rcases hf.wm i oi hoi (Ne.symm hxi) with h9 | h9
            · rw [Zaac hoi h9 hs1 id hid]
              exact hold x i2 t2 a2 d2 hfx hlx id hid
            · have h2 := hbi x h9.2
              have hlt2 : x < listed.size := by omega
              simp [Array.getD, hlt2] at h2 hlx
              rw [h2] at hlx
              cases hlx) ?_ hT1 (by rw [hL']; exact hbub)
          (fun g2 w2 a2 evo2 hM2 hT2 hd2 hown2 hle2 => hQ g2 w2 a2 (evo.trans evo2) hM2 hT2 (hd2.trans hd) (fun id hid => (hown2 id hid).trans (hown id hid)) (Nat.le_trans hle hle2))
        · rw [hL']
          have : (A ++ i :: B).length = fuel + 1 := by rw [← hAB]; exact hfuel
          simp at this ⊢
          omega
        · rw [hsetF] at hj ⊢
          by_cases hpi : p = i
          · simp [hpi]
          · rw [if_neg hpi]
            by_cases hji : j = i
            · subst hji
              exact hbi p hp
            · rw [if_neg hji] at hj
              exact hcl j hj p hp
        · rw [hL']
          refine hM1.weaken fun id hid => ?_
          rcases hid with ⟨hn, y, hy, rfl⟩ | hid
          · refine .inl ⟨.inl ⟨hn, y, by rw [hAB]; rcases List.mem_append.1 hy with hy | hy <;> simp [hy], rfl⟩, fun he => ?_, ?_⟩
            · have : y = i := by omega
              subst this
              exact hni hy
            · have := hnew hn
              have hylt : y < ops.size := by
                rcases List.mem_append.1 hy with hy | hy
                · exact (hA y hy).2.2
                · exact hB y hy
              omega
          · exact .inr hid


/-- What an operation of a region may see. -/
def limR (E : Env) (me : Nat) (ops : Array Oper) (draw : Bool) (n0 : Nat) : Nat → Nat → Bool :=
  if (draw && ops.any fun o => Zbr E me o.op) = true then Z3y ops n0 else fun _ _ => true

/-- Where a region begins. -/
def begR (E : Env) (me : Nat) (ops : Array Oper) (s : St) : St := if (ops.any fun o => Zbr E me o.op) = true then ⟨s.tmps, ⟨s.mem.blk, s.mem.next + ops.size⟩⟩ else s

theorem Zafz {pc : PC} {ic : IC} (hmix : E.P.follows .mixedOrders = true) (hpc : PCok E pc) (hic : Z8d E ic) {me id : Nat} {ops : Array Oper} {s s' : St} {a : Act} {Q : Exit → Act → World → Prop}
    {ck : Option (Nat × Nat × Nat × Nat)} {pj pk : Nat} (hck : ∀ k t a d, ck = some (k, t, a, d) → Zvm E me ops k = some (pj, t, a, d)) (hex : pj < pk → ∃ t a d, ck = some (pk, t, a, d)) (hok : Zw3 E me ops pj pk = true)
    (hM : MR E g w s.mem (fun id => s.mem.next ≤ id)) (hT : VRs g w s.tmps a.tmps) (h : ExsC E me pc ic s.mem.next (limR E me ops true s.mem.next) ops ck (List.range ops.size) (begR E me ops s) s')
    (hQ : ∀ g' w' a', Evo g w g' w' → MR E g' w' s'.mem (fun id => s'.mem.next ≤ id) → VRs g' w' s'.tmps a'.tmps → a'.defers = a.defers → (∀ id, id < s.mem.next → g'.own id = g.own id) → s.mem.next ≤ s'.mem.next → Q .normal a' w') :
    (Code.region id ops true).wp E.P Q a w := by
  unfold begR at h
  have hM1 : ∀ new : Bool, MR E g w (if new then (⟨s.tmps, ⟨s.mem.blk, s.mem.next + ops.size⟩⟩ : St) else s).mem (fun id => (new = true ∧ ∃ y ∈ List.range ops.size, id = s.mem.next + y) ∨ (if new then (⟨s.tmps, ⟨s.mem.blk, s.mem.next + ops.size⟩⟩ : St) else s).mem.next ≤ id) := by
    intro new
    cases new with
    | false => exact hM.weaken fun id hid => by simpa using hid
    | true =>
      refine (hM.of_next (s.mem.next + ops.size)).weaken fun id hid => ?_
      rcases hid with ⟨_, y, _, rfl⟩ | hid
      · omega
      · simp at hid; omega
  have hnew0 : ops.any (fun o => Zbr E me o.op) = false → ∀ o ∈ ops.toList, Zbr E me o.op = false := by
    intro hf o ho
    have := Array.any_eq_false.1 hf
    obtain ⟨k, hk, rfl⟩ := Array.mem_iff_getElem.1 (by simpa using ho)
    have := this k hk
    simpa using this
  have hnx : ops.any (fun o => Zbr E me o.op) = true → s.mem.next + ops.size ≤ (if ops.any (fun o => Zbr E me o.op) then (⟨s.tmps, ⟨s.mem.blk, s.mem.next + ops.size⟩⟩ : St) else s).mem.next := by
    intro ht
    rw [if_pos ht]
    exact Nat.le_refl _
  have hle : s.mem.next ≤ (if ops.any (fun o => Zbr E me o.op) then (⟨s.tmps, ⟨s.mem.blk, s.mem.next + ops.size⟩⟩ : St) else s).mem.next := by
    split
    · simp
    · exact Nat.le_refl _
  have hT1 : VRs g w (if ops.any (fun o => Zbr E me o.op) then (⟨s.tmps, ⟨s.mem.blk, s.mem.next + ops.size⟩⟩ : St) else s).tmps a.tmps := by
    split <;> exact hT
  have hfin : ∀ g' w' a', Evo g w g' w' → MR E g' w' s'.mem (fun id => s'.mem.next ≤ id) → VRs g' w' s'.tmps a'.tmps → a'.defers = a.defers → (∀ id, id < s.mem.next → g'.own id = g.own id) →
      (if ops.any (fun o => Zbr E me o.op) then (⟨s.tmps, ⟨s.mem.blk, s.mem.next + ops.size⟩⟩ : St) else s).mem.next ≤ s'.mem.next → Q .normal a' w' :=
    fun g' w' a' e1 e2 e3 e4 e5 e6 => hQ g' w' a' e1 e2 e3 e4 e5 (Nat.le_trans hle e6)
  refine wp_region_any hmix ?_
  have hL : (List.range ops.size).filter (fun j => !(Array.replicate ops.size false).getD j true) = List.range ops.size := by
    refine List.filter_eq_self.2 fun j hj => ?_
    have := List.mem_range.1 hj
    simp [Array.getD, this]
  have hd := Ztk g w
  refine Zapg hpc hic (me := me) (n0 := s.mem.next) (ops.any fun o => Zbr E me o.op) (lim := limR E me ops true s.mem.next) (fun hn => by simp [limR, hn]) hnew0 hck hex hok ops.size (Array.replicate ops.size false) _ s' g w.drew a
    (by rw [hL]; simp) (by simp) (fun j hj => by
      exfalso
      simp only [Array.getD_eq_getD_getElem?, Array.getElem?_replicate] at hj
      split at hj <;> simp at hj) hnx hle (by rw [hL]; exact (hM1 _).drew) (hT1.mono hM.good hd) (by rw [hL]; exact h)
    (fun g' w' a' e1 e2 e3 e4 e5 e6 => hfin g' w' a' (hd.trans e1) e2 e3 e4 e5 e6)

theorem Zamc {pc : PC} {ic : IC} (hmix : E.P.follows .mixedOrders = true) (hpc : PCok E pc) (hic : Z8d E ic) {me id : Nat} {ops : Array Oper} {s s' : St} {a : Act} {Q : Exit → Act → World → Prop}
    (hok : Z5g E me ops = true) (hfp : (Zag2 E me ops).all (Z2y E s.mem s'.tmps) = true)
    (hM : MR E g w s.mem (fun id => s.mem.next ≤ id)) (hT : VRs g w s.tmps a.tmps) (h : Zun E me pc ic s.mem.next (limR E me ops true s.mem.next) ops (List.range ops.size) (begR E me ops s) = some s')
    (hQ : ∀ g' w' a', Evo g w g' w' → MR E g' w' s'.mem (fun id => s'.mem.next ≤ id) → VRs g' w' s'.tmps a'.tmps → a'.defers = a.defers → (∀ id, id < s.mem.next → g'.own id = g.own id) → s.mem.next ≤ s'.mem.next → Q .normal a' w') :
    (Code.region id ops true).wp E.P Q a w := by
  unfold begR at h
  have hM1 : ∀ new : Bool, MR E g w (if new then (⟨s.tmps, ⟨s.mem.blk, s.mem.next + ops.size⟩⟩ : St) else s).mem (fun id => (new = true ∧ ∃ y ∈ List.range ops.size, id = s.mem.next + y) ∨ (if new then (⟨s.tmps, ⟨s.mem.blk, s.mem.next + ops.size⟩⟩ : St) else s).mem.next ≤ id) := by
    intro new
    cases new with
    | false => exact hM.weaken fun id hid => by simpa using hid
    | true =>
      refine (hM.of_next (s.mem.next + ops.size)).weaken fun id hid => ?_
      rcases hid with ⟨_, y, _, rfl⟩ | hid
      · omega
      · simp at hid; omega
  have hnew0 : ops.any (fun o => Zbr E me o.op) = false → ∀ o ∈ ops.toList, Zbr E me o.op = false := by
    intro hf o ho
    have := Array.any_eq_false.1 hf
    obtain ⟨k, hk, rfl⟩ := Array.mem_iff_getElem.1 (by simpa using ho)
    have := this k hk
    simpa using this
  have hnx : ops.any (fun o => Zbr E me o.op) = true → s.mem.next + ops.size ≤ (if ops.any (fun o => Zbr E me o.op) then (⟨s.tmps, ⟨s.mem.blk, s.mem.next + ops.size⟩⟩ : St) else s).mem.next := by
    intro ht
    rw [if_pos ht]
    exact Nat.le_refl _
  have hle : s.mem.next ≤ (if ops.any (fun o => Zbr E me o.op) then (⟨s.tmps, ⟨s.mem.blk, s.mem.next + ops.size⟩⟩ : St) else s).mem.next := by
    split
    · simp
    · exact Nat.le_refl _
  have hT1 : VRs g w (if ops.any (fun o => Zbr E me o.op) then (⟨s.tmps, ⟨s.mem.blk, s.mem.next + ops.size⟩⟩ : St) else s).tmps a.tmps := by
    split <;> exact hT
  have hfin : ∀ g' w' a', Evo g w g' w' → MR E g' w' s'.mem (fun id => s'.mem.next ≤ id) → VRs g' w' s'.tmps a'.tmps → a'.defers = a.defers → (∀ id, id < s.mem.next → g'.own id = g.own id) →
      (if ops.any (fun o => Zbr E me o.op) then (⟨s.tmps, ⟨s.mem.blk, s.mem.next + ops.size⟩⟩ : St) else s).mem.next ≤ s'.mem.next → Q .normal a' w' :=
    fun g' w' a' e1 e2 e3 e4 e5 e6 => hQ g' w' a' e1 e2 e3 e4 e5 (Nat.le_trans hle e6)
  refine wp_region_any hmix ?_
  have hL : (List.range ops.size).filter (fun j => !(Array.replicate ops.size false).getD j true) = List.range ops.size := by
    refine List.filter_eq_self.2 fun j hj => ?_
    have := List.mem_range.1 hj
    simp [Array.getD, this]
  have hd := Ztk g w
  refine Zak5 hpc hic (me := me) (n0 := s.mem.next) (ops.any fun o => Zbr E me o.op) (lim := limR E me ops true s.mem.next) (fun hn => by simp [limR, hn]) hnew0 hok s' (M0 := s.mem) rfl (fun i id hid => by unfold limR; split <;> simp [Z3y, hid]) hfp ops.size (Array.replicate ops.size false) _ g w.drew a
    (by rw [hL]; simp) (by simp) (fun j hj => by
      exfalso
      simp only [Array.getD_eq_getD_getElem?, Array.getElem?_replicate] at hj
      split at hj <;> simp at hj) hnx hle (fun x i t a d _ _ id hid => by split <;> rfl) (by rw [hL]; exact (hM1 _).drew) (hT1.mono hM.good hd) (by rw [hL]; exact h)
    (fun g' w' a' e1 e2 e3 e4 e5 e6 => hfin g' w' a' (hd.trans e1) e2 e3 e4 e5 e6)

theorem Zal2 {pc : PC} {ic : IC} (hmix : E.P.follows .mixedOrders = true) (hpc : PCok E pc) (hic : Z8d E ic) {me id : Nat} {ops : Array Oper} {draw : Bool} {s s' : St} {a : Act} {Q : Exit → Act → World → Prop}
    (hM : MR E g w s.mem (fun id => s.mem.next ≤ id)) (hT : VRs g w s.tmps a.tmps) (h : Zapt E me pc ic ops draw s = some s')
    (hQ : ∀ g' w' a', Evo g w g' w' → MR E g' w' s'.mem (fun id => s'.mem.next ≤ id) → VRs g' w' s'.tmps a'.tmps → a'.defers = a.defers → (∀ id, id < s.mem.next → g'.own id = g.own id) → s.mem.next ≤ s'.mem.next → Q .normal a' w') :
    (Code.region id ops draw).wp E.P Q a w := by
  unfold Zapt at h
  simp only at h
  split at h
  · cases h
  rename_i hdr
  have hM1 : ∀ new : Bool, MR E g w (if new then (⟨s.tmps, ⟨s.mem.blk, s.mem.next + ops.size⟩⟩ : St) else s).mem (fun id => (new = true ∧ ∃ y ∈ List.range ops.size, id = s.mem.next + y) ∨ (if new then (⟨s.tmps, ⟨s.mem.blk, s.mem.next + ops.size⟩⟩ : St) else s).mem.next ≤ id) := by
    intro new
    cases new with
    | false => exact hM.weaken fun id hid => by simpa using hid
    | true =>
      refine (hM.of_next (s.mem.next + ops.size)).weaken fun id hid => ?_
      rcases hid with ⟨_, y, _, rfl⟩ | hid
      · omega
      · simp at hid; omega
  have hnew0 : ops.any (fun o => Zbr E me o.op) = false → ∀ o ∈ ops.toList, Zbr E me o.op = false := by
    intro hf o ho
    have := Array.any_eq_false.1 hf
    obtain ⟨k, hk, rfl⟩ := Array.mem_iff_getElem.1 (by simpa using ho)
    have := this k hk
    simpa using this
  have hnx : ops.any (fun o => Zbr E me o.op) = true → s.mem.next + ops.size ≤ (if ops.any (fun o => Zbr E me o.op) then (⟨s.tmps, ⟨s.mem.blk, s.mem.next + ops.size⟩⟩ : St) else s).mem.next := by
    intro ht
    rw [if_pos ht]
    exact Nat.le_refl _
  have hle : s.mem.next ≤ (if ops.any (fun o => Zbr E me o.op) then (⟨s.tmps, ⟨s.mem.blk, s.mem.next + ops.size⟩⟩ : St) else s).mem.next := by
    split
    · simp
    · exact Nat.le_refl _
  have hT1 : VRs g w (if ops.any (fun o => Zbr E me o.op) then (⟨s.tmps, ⟨s.mem.blk, s.mem.next + ops.size⟩⟩ : St) else s).tmps a.tmps := by
    split <;> exact hT
  have hfin : ∀ g' w' a', Evo g w g' w' → MR E g' w' s'.mem (fun id => s'.mem.next ≤ id) → VRs g' w' s'.tmps a'.tmps → a'.defers = a.defers → (∀ id, id < s.mem.next → g'.own id = g.own id) →
      (if ops.any (fun o => Zbr E me o.op) then (⟨s.tmps, ⟨s.mem.blk, s.mem.next + ops.size⟩⟩ : St) else s).mem.next ≤ s'.mem.next → Q .normal a' w' :=
    fun g' w' a' e1 e2 e3 e4 e5 e6 => hQ g' w' a' e1 e2 e3 e4 e5 (Nat.le_trans hle e6)
  cases draw with
  | false =>
    refine wp_region ?_
    exact Zafm hpc hic (ops.any fun o => Zbr E me o.op) (List.range ops.size) _ s' g w a List.nodup_range (fun y hy => List.mem_range.1 hy) hnx
      (fun hf y hy o ho => by
        cases hno : Zaiv o.op with
        | false => rfl
        | true =>
          have := hnew0 hf o (Array.mem_toList_iff.2 (Array.mem_of_getElem? ho))
          rw [Znm hno] at this
          cases this) hle (hM1 _) hT1 h hfin
  | true =>
    have hok : Zal4 E me ops = true := by simpa using hdr
    refine Zafz hmix hpc hic (ck := none) (pj := 1) (pk := 0) (fun k t a d h => by cases h) (fun hi => by omega) hok hM hT (Zaaj ?_) hQ
    exact h

def Ex.real : Ex → Exit
  | .normal => .normal
  | .exit id => .exit id
  | .ret => .ret

theorem VRs.forget {T' : Array Value} : ∀ (l : List Nat) {T : List SV}, VRs g w T T' → VRs g w (Go.Proofs.YtfphjfbknphhjaaGreatDoor.Sh.forget l T) T'
  | [], T, h => h
  | d :: r, T, h => VRs.forget r ⟨by simp [h.1], fun k x v hx hv => by
      rw [List.getElem?_set] at hx
      split at hx
      · split at hx
        · simp only [Option.some.injEq] at hx
          subst hx
          exact .Z v
        · cases hx
      · exact h.2 k x v hx hv⟩

theorem Zapd {pc : PC} {a : Nat} {ρ : Operand → SV} {get : Nat → Option (List SV)} (o : Oper) : Zqy E pc a ρ get o.op = act E pc a ρ get o := by
  unfold Zqy act
  rfl

theorem Zaow {me : Nat} {ρ : Operand → SV} (o : Oper) : Z14 E me ρ o.op = Zd8 E me ρ o := by
  unfold Z14 Zd8
  rfl

theorem Zaql {ops : Array Oper} {o : Oper} {T : List SV} {l : Option (List Nat)} : Z3n ⟨o.dst, o.op, Z7d ops o.guard, l⟩ T = Zns ops o T := by
  unfold Z3n Zns Zzc Z7d
  cases o.guard with
  | none => rfl
  | some q =>
    obtain ⟨j, w⟩ := q
    simp only
    split <;> rename_i h <;> simp only [h] <;> rfl

theorem Zam6 {me n0 : Nat} {pc : PC} {ic : IC} {ops : Array Oper} {lims : Option (List (List Nat))} {lim : Nat → Nat → Bool}
    (hl : ∀ x M, Zot M n0 ops.size (Zahv lims x) = fun id => if lim x id then M.blk id else none) :
    ∀ (l : List Oper) (k : Nat) (s : St), (∀ j o, l[j]? = some o → ops[k + j]? = some o) → exL E me pc ic n0 ops.size k (Zzs ops lims k l) s = Zun E me pc ic n0 lim ops (List.range' k l.length) s
  | [], k, s, h => rfl
  | o :: r, k, s, h => by
    have hk : ops[k]? = some o := h 0 o rfl
    have hr : ∀ j o', r[j]? = some o' → ops[k + 1 + j]? = some o' := fun j o' hj => by
      have := h (j + 1) o' (by simpa using hj)
      rwa [show k + 1 + j = k + (j + 1) by omega]
    have h1 : ∀ i : Ins, i = ⟨o.dst, o.op, Z7d ops o.guard, Zahv lims k⟩ → exI E me pc ic n0 ops.size k i s = exO E me pc ic n0 lim ops k s := by
      rintro i rfl
      unfold exI exO
      simp only [hk, Zaql, Zapd, Zaow, hl]
    simp only [Zzs, exL, List.length_cons, List.range'_succ, Zun]
    rw [h1 _ rfl]
    split
    · exact Zam6 hl r (k + 1) _ hr
    · rfl

theorem Z9h {me : Nat} {ops : Array Oper} {draw : Bool} {n0 : Nat} (x : Nat) (M : Mem) :
    Zot M n0 ops.size (Zahv (if (draw && ops.any fun o => Zbr E me o.op) = true then some (Ztv ops.toList) else none) x) = fun id => if limR E me ops draw n0 x id then M.blk id else none := by
  unfold limR
  cases hn : (draw && ops.any fun o => Zbr E me o.op) with
  | false =>
    funext id
    simp [Zot, Zahv]
  | true =>
    funext id
    simp [Zot, Z3y, Zahv]

theorem Zame {me : Nat} {ops : Array Oper} (s : St) : (⟨s.tmps, ⟨s.mem.blk, s.mem.next + if (ops.any fun o => Zbr E me o.op) = true then ops.size else 0⟩⟩ : St) = begR E me ops s := by
  unfold begR
  split
  · rfl
  · obtain ⟨T, b, x⟩ := s; rfl

theorem Zyg {me id : Nat} {pc : PC} {ic : IC} {ops : Array Oper} {draw : Bool} (s : St) :
    exL E me pc ic s.mem.next (Zvs E me id ops draw).size 0 (Zvs E me id ops draw).ops ⟨s.tmps, ⟨s.mem.blk, s.mem.next + (Zvs E me id ops draw).adv⟩⟩ = Zun E me pc ic s.mem.next (limR E me ops draw s.mem.next) ops (List.range ops.size) (begR E me ops s) := by
  unfold Zvs
  simp only
  rw [Zam6 (lim := limR E me ops draw s.mem.next) (fun x M => Z9h x M) ops.toList 0 _ (fun j o h => by simpa using h), Zame]
  rw [show List.range' 0 ops.toList.length = List.range ops.size by rw [List.range_eq_range']; simp]

theorem Zagc {me k : Nat} {pc : PC} {ic : IC} {ops : Array Oper} {draw : Bool} (hk : k < ops.size) (s : St) :
    exL E me pc ic s.mem.next (Zwk E me ops draw k).size 0 (Zwk E me ops draw k).ops ⟨s.tmps, ⟨s.mem.blk, s.mem.next + (Zwk E me ops draw k).adv⟩⟩ = Zun E me pc ic s.mem.next (limR E me ops draw s.mem.next) ops (List.range (k + 1)) (begR E me ops s) := by
  unfold Zwk
  simp only
  rw [Zam6 (lim := limR E me ops draw s.mem.next) (fun x M => Z9h x M) (ops.toList.take (k + 1)) 0 _ (fun j o h => by
    have := List.getElem?_take (l := ops.toList) (i := k + 1) (j := j)
    rw [h] at this
    split at this
    · simpa using this.symm
    · cases this), Zame]
  rw [show List.range' 0 (ops.toList.take (k + 1)).length = List.range (k + 1) by rw [List.range_eq_range']; simp; omega]

theorem Zass {me id : Nat} {pc : PC} {ic : IC} {ops : Array Oper} {draw : Bool} {ri : RI} (h : riOf E me id ops draw = some ri) (s : St) :
    exL E me pc ic s.mem.next ri.size 0 ri.ops ⟨s.tmps, ⟨s.mem.blk, s.mem.next + ri.adv⟩⟩ = Zapt E me pc ic ops draw s := by
  unfold riOf at h
  split at h
  · cases h
  rename_i hd
  simp only [Option.some.injEq] at h
  subst h
  rw [Zyg]
  unfold Zapt
  simp only
  rw [if_neg hd]
  rfl

theorem Zaps {pc : PC} {ic : IC} (hmix : E.P.follows .mixedOrders = true) (hpc : PCok E pc) (hic : Z8d E ic) {me id : Nat} {ops : Array Oper} {draw : Bool} {ri : RI} {s s' : St} {a : Act} {Q : Exit → Act → World → Prop}
    (hri : riOf E me id ops draw = some ri) (hM : MR E g w s.mem (fun id => s.mem.next ≤ id)) (hT : VRs g w s.tmps a.tmps) (h : Z1h E me pc ic ri s = some s')
    (hQ : ∀ g' w' a', Evo g w g' w' → MR E g' w' s'.mem (fun id => s'.mem.next ≤ id) → VRs g' w' s'.tmps a'.tmps → a'.defers = a.defers → (∀ id, id < s.mem.next → g'.own id = g.own id) → s.mem.next ≤ s'.mem.next → Q .normal a' w') :
    (Code.region id ops draw).wp E.P Q a w := by
  unfold Z1h at h
  rw [Zass hri] at h
  split at h
  case h_2 => cases h
  rename_i s1 hs
  simp only [Option.some.injEq] at h
  subst h
  exact Zal2 hmix hpc hic hM hT hs fun g' w' a' e1 e2 e3 e4 e5 e6 => hQ g' w' a' e1 e2 (e3.forget _) e4 e5 e6

/-- What a region must keep for code to run. -/
def Zauz (E : Env) (me : Nat) (reg : RI → St → Option St) : Prop := ∀ (id : Nat) (ops : Array Oper) (draw : Bool) (ri : RI) (s s' : St) (g : Gh) (w : World) (a : Act) (Q : Exit → Act → World → Prop),
  riOf E me id ops draw = some ri → MR E g w s.mem (fun id => s.mem.next ≤ id) → VRs g w s.tmps a.tmps → reg ri s = some s' →
  (∀ g' w' a', Evo g w g' w' → MR E g' w' s'.mem (fun id => s'.mem.next ≤ id) → VRs g' w' s'.tmps a'.tmps → a'.defers = a.defers → (∀ id, id < s.mem.next → g'.own id = g.own id) → s.mem.next ≤ s'.mem.next → Q .normal a' w') →
  (Code.region id ops draw).wp E.P Q a w

/-- The same of a region with a load beside a call. -/
def Zarr (E : Env) (me : Nat) (reg : RI → St → Option St) : Prop := ∀ (id j k t x d : Nat) (ops : Array Oper) (s s1 s' : St) (v : SV) (g : Gh) (w : World) (a : Act) (Q : Exit → Act → World → Prop),
  Zvm E me ops k = some (j, t, x, d) → Zw3 E me ops j k = true → MR E g w s.mem (fun id => s.mem.next ≤ id) → VRs g w s.tmps a.tmps → reg (Zwk E me ops true k) s = some s1 →
  Zn E.P s1.mem.blk t (evO E s1.tmps (.tmp x)) = some v → Zna v (s1.tmps.getD d .Z) = true → reg (Zvs E me id ops true) s = some s' →
  (∀ g' w' a', Evo g w g' w' → MR E g' w' s'.mem (fun id => s'.mem.next ≤ id) → VRs g' w' s'.tmps a'.tmps → a'.defers = a.defers → (∀ id, id < s.mem.next → g'.own id = g.own id) → s.mem.next ≤ s'.mem.next → Q .normal a' w') →
  (Code.region id ops true).wp E.P Q a w

theorem Zan0 {pc : PC} {ic : IC} (hmix : E.P.follows .mixedOrders = true) (hpc : PCok E pc) (hic : Z8d E ic) {me : Nat} : Zarr E me (Z1h E me pc ic) := by
  intro id j k t x d ops s s1 s' v g w a Q hk hok hM hT h1 hv hs h hQ
  obtain ⟨oj, ok, hp⟩ := Zui hk
  have hlt : k < ops.size := (Array.getElem?_eq_some_iff.1 hp.hk).1
  unfold Z1h at h h1
  rw [Zyg] at h
  rw [Zagc hlt] at h1
  split at h
  case h_2 => cases h
  rename_i r hr
  simp only [Option.some.injEq] at h
  subst h
  split at h1
  case h_2 => cases h1
  rename_i r1 hr1
  simp only [Option.some.injEq] at h1
  subst h1
  have hsplit : List.range ops.size = List.range k ++ k :: (List.range' (k + 1) (ops.size - (k + 1))) := by
    have h2 : List.range ops.size = List.range' 0 k ++ List.range' k (ops.size - k) := by
      rw [List.range_eq_range']
      rw [show ops.size = k + (ops.size - k) by omega, ← List.range'_append_1]
      simp
    rw [h2, List.range_eq_range']
    congr 1
    rw [show ops.size - k = (ops.size - (k + 1)) + 1 by omega, List.range'_succ]
  refine Zafz hmix hpc hic (ck := some (k, t, x, d)) (pj := j) (pk := k) (fun k' t' x' d' he => ?_) (fun _ => ⟨t, x, d, rfl⟩) hok hM hT (Z9c (A := List.range k) (B := List.range' (k + 1) (ops.size - (k + 1))) hsplit (by simp) (by simp only [List.mem_range'_1]; omega) (by rw [← List.range_succ]; exact hr1) ⟨v, hv, hs⟩ hr) (fun g' w' a' e1 e2 e3 e4 e5 e6 => hQ g' w' a' e1 e2 (e3.forget _) e4 e5 e6)
  simp only [Option.some.injEq, Prod.mk.injEq] at he
  obtain ⟨rfl, rfl, rfl, rfl⟩ := he
  exact hk

/-- The same of a region with reads beside stores. -/
def Zare (E : Env) (me : Nat) (reg : RI → St → Option St) : Prop := ∀ (id : Nat) (ops : Array Oper) (s s1 s' : St) (g : Gh) (w : World) (a : Act) (Q : Exit → Act → World → Prop),
  Z5g E me ops = true → MR E g w s.mem (fun id => s.mem.next ≤ id) → VRs g w s.tmps a.tmps → reg (Zwk E me ops true (ops.size - 1)) s = some s1 →
  (Zag2 E me ops).all (Z2y E s.mem s1.tmps) = true → reg (Zvs E me id ops true) s = some s' →
  (∀ g' w' a', Evo g w g' w' → MR E g' w' s'.mem (fun id => s'.mem.next ≤ id) → VRs g' w' s'.tmps a'.tmps → a'.defers = a.defers → (∀ id, id < s.mem.next → g'.own id = g.own id) → s.mem.next ≤ s'.mem.next → Q .normal a' w') →
  (Code.region id ops true).wp E.P Q a w

theorem Zanb {pc : PC} {ic : IC} (hmix : E.P.follows .mixedOrders = true) (hpc : PCok E pc) (hic : Z8d E ic) {me : Nat} : Zare E me (Z1h E me pc ic) := by
  intro id ops s s1 s' g w a Q hok hM hT h1 hfp h hQ
  unfold Z1h at h h1
  rw [Zyg] at h
  split at h
  case h_2 => cases h
  rename_i r hr
  simp only [Option.some.injEq] at h
  subst h
  have h1' : r = s1 := by
    split at h1
    case h_2 => cases h1
    rename_i r1 hr1
    simp only [Option.some.injEq] at h1
    have hfor : (Zwk E me ops true (ops.size - 1)).dead = [] := rfl
    rw [hfor] at h1
    simp only [forget] at h1
    by_cases h0 : 0 < ops.size
    · rw [Zagc (by omega)] at hr1
      rw [show ops.size - 1 + 1 = ops.size by omega] at hr1
      rw [hr] at hr1
      simp only [Option.some.injEq] at hr1
      rw [hr1]
      exact h1
    · have hz : ops.toList = [] := List.length_eq_zero_iff.1 (by rw [Array.length_toList]; omega)
      have e : (Zwk E me ops true (ops.size - 1)).ops = (Zvs E me id ops true).ops := by
        unfold Zwk Zvs
        simp [hz]
      have e2 := Zyg (E := E) (me := me) (id := id) (ops := ops) (draw := true) (pc := pc) (ic := ic) s
      rw [e] at hr1
      have hr2 : exL E me pc ic s.mem.next (Zvs E me id ops true).size 0 (Zvs E me id ops true).ops ⟨s.tmps, ⟨s.mem.blk, s.mem.next + (Zvs E me id ops true).adv⟩⟩ = some r1 := hr1
      rw [e2, hr] at hr2
      simp only [Option.some.injEq] at hr2
      rw [hr2]
      exact h1
  subst h1'
  exact Zamc hmix hpc hic hok hfp hM hT hr fun g' w' a' e1 e2 e3 e4 e5 e6 => hQ g' w' a' e1 e2 (e3.forget _) e4 e5 e6

theorem Zask {me : Nat} {reg : RI → St → Option St} (hreg : Zauz E me reg) (hregX : Zarr E me reg) (hregF : Zare E me reg) : ∀ (n : Nat),
    (∀ (c : Code) (s s' : St) (e : Ex) (g : Gh) (w : World) (a : Act) (Q : Exit → Act → World → Prop), evC E reg n (comp E me c) s = some (e, s') → MR E g w s.mem (fun id => s.mem.next ≤ id) → VRs g w s.tmps a.tmps →
      (∀ g' w' a', Evo g w g' w' → MR E g' w' s'.mem (fun id => s'.mem.next ≤ id) → VRs g' w' s'.tmps a'.tmps → a'.defers = a.defers → (∀ id, id < s.mem.next → g'.own id = g.own id) → s.mem.next ≤ s'.mem.next → Q e.real a' w') →
      c.wp E.P Q a w) ∧
    (∀ (b : Code) (s s' : St) (e : Ex) (g : Gh) (w : World) (a : Act) (Q : Exit → Act → World → Prop), evC E reg n (comp E me (.loop b)) s = some (e, s') → MR E g w s.mem (fun id => s.mem.next ≤ id) → VRs g w s.tmps a.tmps →
      (∀ g' w' a', Evo g w g' w' → MR E g' w' s'.mem (fun id => s'.mem.next ≤ id) → VRs g' w' s'.tmps a'.tmps → a'.defers = a.defers → (∀ id, id < s.mem.next → g'.own id = g.own id) → s.mem.next ≤ s'.mem.next → Q e.real a' w') →
      Code.rounds E.P b Q n a w) := by
  intro n
  induction n with
  | zero => exact ⟨fun c s s' e g w a Q h => by simp [comp, evC] at h, fun b s s' e g w a Q h => by simp [comp, evC] at h⟩
  | succ n ih =>
    obtain ⟨ihP, ihR⟩ := ih
    have hR : ∀ (b : Code) (s s' : St) (e : Ex) (g : Gh) (w : World) (a : Act) (Q : Exit → Act → World → Prop), evC E reg (n + 1) (comp E me (.loop b)) s = some (e, s') → MR E g w s.mem (fun id => s.mem.next ≤ id) → VRs g w s.tmps a.tmps →
        (∀ g' w' a', Evo g w g' w' → MR E g' w' s'.mem (fun id => s'.mem.next ≤ id) → VRs g' w' s'.tmps a'.tmps → a'.defers = a.defers → (∀ id, id < s.mem.next → g'.own id = g.own id) → s.mem.next ≤ s'.mem.next → Q e.real a' w') →
        Code.rounds E.P b Q (n + 1) a w := by
      intro b s s' e g w a Q h hM hT hQ
      rw [rounds_succ]
      simp only [comp, evC] at h
      split at h
      · rename_i s1 hs1
        refine ihP b s s1 .normal g w a _ hs1 hM hT (fun g1 w1 a1 e1 e2 e3 e4 e5 e6 => ?_)
        exact ihR b s1 s' e g1 w1 a1 Q h e2 e3 (fun g2 w2 a2 f1 f2 f3 f4 f5 f6 => hQ g2 w2 a2 (e1.trans f1) f2 f3 (f4.trans e4) (fun id hid => (f5 id (Nat.lt_of_lt_of_le hid e6)).trans (e5 id hid)) (Nat.le_trans e6 f6))
      · rename_i hnn
        refine ihP b s s' e g w a _ h hM hT (fun g1 w1 a1 e1 e2 e3 e4 e5 e6 => ?_)
        have := hQ g1 w1 a1 e1 e2 e3 e4 e5 e6
        cases e with
        | normal => exact (hnn s' h).elim
        | exit id => exact this
        | ret => exact this
    refine ⟨fun c s s' e g w a Q h hM hT hQ => ?_, hR⟩
    cases c with
    | skip =>
      simp only [comp, evC, Option.some.injEq, Prod.mk.injEq] at h
      obtain ⟨rfl, rfl⟩ := h
      exact wp_skip (hQ g w a (.refl g w) hM hT rfl (fun _ _ => rfl) (Nat.le_refl _))
    | label l =>
      simp only [comp, evC, Option.some.injEq, Prod.mk.injEq] at h
      obtain ⟨rfl, rfl⟩ := h
      exact wp_label (hQ g w a (.refl g w) hM hT rfl (fun _ _ => rfl) (Nat.le_refl _))
    | region id ops draw =>
      simp only [comp] at h
      cases hri : riOf E me id ops draw with
      | none =>
        simp only [hri] at h
        cases hexo : exOf E me ops with
        | none =>
          simp only [hexo] at h
          split at h
          case isFalse => simp [evC] at h
          rename_i hdf
          simp only [Bool.and_eq_true] at hdf
          obtain ⟨rfl, hdf⟩ := hdf
          simp only [evC] at h
          cases n with
          | zero => simp [evC] at h
          | succ n =>
          simp only [evC] at h
          cases h1 : reg (Zwk E me ops true (ops.size - 1)) s with
          | none => simp [h1] at h
          | some s1 =>
          simp only [h1] at h
          cases hfp : (Zag2 E me ops).all (Z2y E s.mem s1.tmps) with
          | false => rw [hfp] at h; simp at h
          | true =>
          simp only [hfp, if_true] at h
          split at h
          case h_2 => cases h
          rename_i s2 hs2
          simp only [Option.some.injEq, Prod.mk.injEq] at h
          obtain ⟨rfl, rfl⟩ := h
          exact hregF id ops s s1 s2 g w a Q hdf hM hT h1 hfp hs2 hQ
        | some k =>
        cases hpa : Zvm E me ops k with
        | none => simp [hexo, hpa, evC] at h
        | some q =>
        obtain ⟨j, t, x, d⟩ := q
        have hdraw : draw = true := by
          unfold riOf at hri
          cases draw with
          | false => simp at hri
          | true => rfl
        subst hdraw
        have hokx : Zw3 E me ops j k = true := by
          have := List.find?_some hexo
          simp only [hpa] at this
          exact this
        simp only [hexo, hpa, evC] at h
        cases n with
        | zero => simp [evC] at h
        | succ n =>
        simp only [evC] at h
        cases h1 : reg (Zwk E me ops true k) s with
        | none => simp [h1] at h
        | some s1 =>
        simp only [h1] at h
        cases hv : Zn E.P s1.mem.blk t (evO E s1.tmps (.tmp x)) with
        | none => simp [hv] at h
        | some v =>
        simp only [hv] at h
        cases hs : Zna v (s1.tmps.getD d .Z) with
        | false => rw [hs] at h; simp at h
        | true =>
        simp only [hs, if_true] at h
        split at h
        case h_2 => cases h
        rename_i s2 hs2
        simp only [Option.some.injEq, Prod.mk.injEq] at h
        obtain ⟨rfl, rfl⟩ := h
        exact hregX id j k t x d ops s s1 s2 v g w a Q hpa hokx hM hT h1 hv hs hs2 hQ
      | some ri =>
      simp only [hri, evC] at h
      split at h
      case h_2 => cases h
      rename_i s1 hs1
      simp only [Option.some.injEq, Prod.mk.injEq] at h
      obtain ⟨rfl, rfl⟩ := h
      exact hreg id ops draw ri s s1 g w a Q hri hM hT hs1 hQ
    | seq x y =>
      simp only [comp, evC] at h
      refine wp_seq ?_
      split at h
      · rename_i s1 hs1
        refine ihP x s s1 .normal g w a _ hs1 hM hT (fun g1 w1 a1 e1 e2 e3 e4 e5 e6 => ?_)
        exact ihP y s1 s' e g1 w1 a1 Q h e2 e3 (fun g2 w2 a2 f1 f2 f3 f4 f5 f6 => hQ g2 w2 a2 (e1.trans f1) f2 f3 (f4.trans e4) (fun id hid => (f5 id (Nat.lt_of_lt_of_le hid e6)).trans (e5 id hid)) (Nat.le_trans e6 f6))
      · rename_i hnn
        refine ihP x s s' e g w a _ h hM hT (fun g1 w1 a1 e1 e2 e3 e4 e5 e6 => ?_)
        have := hQ g1 w1 a1 e1 e2 e3 e4 e5 e6
        cases e with
        | normal => exact (hnn s' h).elim
        | exit id => exact this
        | ret => exact this
    | cond c x y =>
      simp only [comp, evC] at h
      split at h
      case h_2 => cases h
      rename_i t ht
      have hc := Z7e hM.glob hT c
      rw [ht] at hc
      exact wp_cond hc.Zrv (ihP _ s s' e g w a Q (by cases t <;> exact h) hM hT hQ)
    | block id b =>
      simp only [comp, evC] at h
      refine wp_block ?_
      split at h
      · rename_i id' s1 hs1
        refine ihP b s s1 (.exit id') g w a _ hs1 hM hT (fun g1 w1 a1 e1 e2 e3 e4 e5 e6 => ?_)
        show Exit.inBlock id Q (.exit id') a1 w1
        simp only [Exit.inBlock]
        split at h
        · rename_i he
          rw [if_pos he]
          simp only [Option.some.injEq, Prod.mk.injEq] at h
          obtain ⟨rfl, rfl⟩ := h
          exact hQ g1 w1 a1 e1 e2 e3 e4 e5 e6
        · rename_i he
          rw [if_neg he]
          simp only [Option.some.injEq, Prod.mk.injEq] at h
          obtain ⟨rfl, rfl⟩ := h
          exact hQ g1 w1 a1 e1 e2 e3 e4 e5 e6
      · rename_i hnn
        refine ihP b s s' e g w a _ h hM hT (fun g1 w1 a1 e1 e2 e3 e4 e5 e6 => ?_)
        have := hQ g1 w1 a1 e1 e2 e3 e4 e5 e6
        cases e with
        | normal => exact this
        | exit id' => exact (hnn id' s' h).elim
        | ret => exact this
    | loop b => exact wp_loop_rounds (n + 1) (hR b s s' e g w a Q h hM hT hQ)
    | exit id =>
      simp only [comp, evC, Option.some.injEq, Prod.mk.injEq] at h
      obtain ⟨rfl, rfl⟩ := h
      exact wp_exit (hQ g w a (.refl g w) hM hT rfl (fun _ _ => rfl) (Nat.le_refl _))
    | ret =>
      simp only [comp, evC, Option.some.injEq, Prod.mk.injEq] at h
      obtain ⟨rfl, rfl⟩ := h
      exact wp_ret (hQ g w a (.refl g w) hM hT rfl (fun _ _ => rfl) (Nat.le_refl _))
    | rangeFunc f p x y => simp [comp, evC] at h
    | scope b => simp [comp, evC] at h
    | goto l => simp [comp, evC] at h
    | refuse why => simp [comp, evC] at h

/-! ### Functions -/

theorem Zal0 {get : Nat → Option (List SV)} {t : Nat} {p r : SV} {p' : Value} (hp : VR g w p p') (h : Zn P get t p = some r) : ∃ ad, p' = .pointer (some ad) := by
  unfold Zn at h
  split at h
  · cases h
  split at h
  · cases hp; exact ⟨_, rfl⟩
  · cases hp; exact ⟨_, rfl⟩
  · cases h

def resF (tmps : Array Value) : ResultVar → Sem Value
  | .tmp t => pure (tmps.getD t undef)
  | .cell a t => do loadVar t (← asAddr (tmps.getD a undef))

theorem Zahx (fn : Func) (tmps : Array Value) : results fn tmps = (do let vs ← fn.results.mapM (resF tmps); pure (if h : vs.size = 1 then vs[0] else .tuple vs)) := by
  unfold results
  congr 1

theorem Z6d {s : St} {a : Act} (hM : MR E g w s.mem (fun id => s.mem.next ≤ id)) (hT : VRs g w s.tmps a.tmps) :
    ∀ (l : List ResultVar) (r : List SV), Z5 E s l = some r → ∃ vs : List Value, (l.mapM (resF a.tmps)).run E.P w = .ok vs w ∧ r.length = vs.length ∧
        ∀ (k : Nat) (x : SV) (v : Value), r[k]? = some x → vs[k]? = some v → VR g w x v
  | [], r, h => by
    simp [Z5] at h
    subst h
    exact ⟨[], by simp, rfl, fun k x v hx => by simp at hx⟩
  | .tmp t :: l, r, h => by
    simp only [Z5] at h
    split at h
    case h_2 => cases h
    rename_i rl hrl
    simp only [Option.some.injEq] at h
    subst h
    obtain ⟨vs, h1, h2, h3⟩ := Z6d hM hT l rl hrl
    have hv := Z7e hM.glob hT (.tmp t)
    refine ⟨a.tmps.getD t undef :: vs, by simp only [List.mapM_cons, Sem.run_bind, resF, Sem.run_pure, Result.andThen_ok, h1], by simp [h2], fun k x v hx hv' => ?_⟩
    cases k with
    | zero =>
      simp at hx hv'
      subst hx hv'
      simpa [evO, Act.eval] using hv
    | succ k => exact h3 k x v (by simpa using hx) (by simpa using hv')
  | .cell x t :: l, r, h => by
    simp only [Z5] at h
    split at h
    case h_2 => cases h
    rename_i v0 rl hv0 hrl
    simp only [Option.some.injEq] at h
    subst h
    obtain ⟨vs, h1, h2, h3⟩ := Z6d hM hT l rl hrl
    have hv := Z7e hM.glob hT (.tmp x)
    simp only [evO, Act.eval] at hv
    obtain ⟨v', hrun, hvr⟩ := Zaay hM (fun _ _ h => h) hv hv0
    obtain ⟨ad, had⟩ := Zal0 hv hv0
    rw [had] at hrun
    simp only [Instr.loadAt, Instr.sureAddr, Sem.run_bind, Sem.run_pure, Result.andThen_ok] at hrun
    have hone : (resF a.tmps (.cell x t)).run E.P w = .ok v' w := by
      simp only [resF, Sem.run_bind, had, asAddr, Sem.run_pure, Result.andThen_ok, hrun]
    refine ⟨v' :: vs, by simp only [List.mapM_cons, Sem.run_bind, hone, Sem.run_pure, Result.andThen_ok, h1], by simp [h2], fun k y v hx hv' => ?_⟩
    cases k with
    | zero =>
      simp at hx hv'
      subst hx hv'
      exact hvr
    | succ k => exact h3 k y v (by simpa using hx) (by simpa using hv')

def resV : List SV → SV
  | [x] => x
  | xs => .tup xs

theorem Zaem {s : St} {a : Act} {fn : Func} {r : List SV} (hM : MR E g w s.mem (fun id => s.mem.next ≤ id)) (hT : VRs g w s.tmps a.tmps) (h : Z5 E s fn.results.toList = some r) :
    ∃ v, (results fn a.tmps).run E.P w = .ok v w ∧ VR g w (resV r) v := by
  obtain ⟨vs, h1, h2, h3⟩ := Z6d hM hT _ r h
  refine ⟨if h : vs.toArray.size = 1 then vs.toArray[0] else .tuple vs.toArray, ?_, ?_⟩
  · rw [Zahx, Array.mapM_eq_mapM_toList]
    simp only [Sem.run_bind, Sem.run_map, h1, Result.andThen_ok, Sem.run_pure]
  · match r, vs, h2, h3 with
    | [x], [v], _, h3 => simpa [resV] using h3 0 x v rfl rfl
    | [], [], _, _ => exact .tup [] #[] rfl (fun k x v hx => by simp at hx)
    | x :: y :: r, v :: u :: vs, h2, h3 =>
      rw [dif_neg (by simp)]
      exact .tup _ _ (by simpa using h2) (fun k z q hz hq => h3 k z q hz (by simpa using hq))

/-! ### Numbers of blocks only grow -/

theorem Zao4 {pc : PC} {ic : IC} (hic : Z8d E ic) {me n0 sz k : Nat} {i : Ins} {s s' : St} (h : exI E me pc ic n0 sz k i s = some s') : s.mem.next ≤ s'.mem.next := by
  unfold exI at h
  split at h
  · cases h
  · simp only [Option.some.injEq] at h
    subst h
    exact Nat.le_refl _
  split at h
  · split at h
    · rename_i hc
      simp only [Option.some.injEq] at h
      subst h
      exact (hic _ _ _ _ _ hc).2.1
    · cases h
  · split at h
    · rename_i u _
      simp only [Option.some.injEq] at h
      subst h
      simp only [Mem.Zz5]
      exact Nat.le_refl _
    · cases h

theorem Zagl {pc : PC} {ic : IC} (hic : Z8d E ic) {me n0 sz : Nat} : ∀ {L : List Ins} {k : Nat} {s s' : St}, exL E me pc ic n0 sz k L s = some s' → s.mem.next ≤ s'.mem.next
  | [], k, s, s', h => by
    simp only [exL, Option.some.injEq] at h
    subst h
    exact Nat.le_refl _
  | x :: L, k, s, s', h => by
    simp only [exL] at h
    split at h
    · rename_i hx
      exact Nat.le_trans (Zao4 hic hx) (Zagl hic h)
    · cases h

theorem Zaky {pc : PC} {ic : IC} (hic : Z8d E ic) {me : Nat} {ri : RI} {s s' : St} (h : Z1h E me pc ic ri s = some s') : s.mem.next ≤ s'.mem.next := by
  unfold Z1h at h
  split at h
  case h_2 => cases h
  rename_i s1 hs
  simp only [Option.some.injEq] at h
  subst h
  exact Nat.le_trans (Nat.le_add_right _ _) (Zagl hic hs)

theorem Zn4 {reg : RI → St → Option St} (hreg : ∀ ri s s', reg ri s = some s' → s.mem.next ≤ s'.mem.next) : ∀ {n : Nat} {c : C} {s s' : St} {e : Ex}, evC E reg n c s = some (e, s') → s.mem.next ≤ s'.mem.next
  | 0, c, s, s', e, h => by simp [evC] at h
  | n + 1, c, s, s', e, h => by
    cases c <;> simp only [evC] at h <;> (try (cases h; done))
    case skip => simp only [Option.some.injEq, Prod.mk.injEq] at h; obtain ⟨_, rfl⟩ := h; exact Nat.le_refl _
    case exit => simp only [Option.some.injEq, Prod.mk.injEq] at h; obtain ⟨_, rfl⟩ := h; exact Nat.le_refl _
    case ret => simp only [Option.some.injEq, Prod.mk.injEq] at h; obtain ⟨_, rfl⟩ := h; exact Nat.le_refl _
    case reg ri =>
      split at h
      · rename_i hr
        simp only [Option.some.injEq, Prod.mk.injEq] at h
        obtain ⟨_, rfl⟩ := h
        exact hreg _ _ _ hr
      · cases h
    case chf pre ps =>
      split at h
      case h_2 => cases h
      split at h
      case isFalse => cases h
      simp only [Option.some.injEq, Prod.mk.injEq] at h
      obtain ⟨_, rfl⟩ := h
      exact Nat.le_refl _
    case chk pre t x d =>
      split at h
      case h_2 => cases h
      split at h
      case h_2 => cases h
      split at h
      case isFalse => cases h
      simp only [Option.some.injEq, Prod.mk.injEq] at h
      obtain ⟨_, rfl⟩ := h
      exact Nat.le_refl _
    case seq a b =>
      split at h
      · rename_i h1
        exact Nat.le_trans (Zn4 hreg h1) (Zn4 hreg h)
      · exact Zn4 hreg h
    case cond c a b =>
      split at h
      · exact Zn4 hreg h
      · cases h
    case block id b =>
      split at h
      · rename_i h1
        split at h <;> (simp only [Option.some.injEq, Prod.mk.injEq] at h; obtain ⟨_, rfl⟩ := h; exact Zn4 hreg h1)
      · exact Zn4 hreg h
    case loop b =>
      split at h
      · rename_i h1
        exact Nat.le_trans (Zn4 hreg h1) (Zn4 hreg h)
      · exact Zn4 hreg h

def Zamr (E : Env) : Prop := ∀ f p, E.prim f = some p → Z8d E (fun f' args M => if f' = f then p args M else none)

/-- What the shadow says of a call, the model does. -/
theorem Zapx (hmix : E.P.follows .mixedOrders = true) (hprim : Zamr E) : ∀ n, Z8d E (Zju E n) := by
  intro n
  induction n with
  | zero => intro f args M r M' h; simp [Zju] at h
  | succ n ih =>
    intro f args M r M' h
    simp only [Zju] at h
    split at h
    · rename_i p hp
      exact hprim f p hp f args M r M' (by simp [h])
    rename_i hnp
    split at h
    · cases h
    rename_i fn hf
    split at h
    · cases h
    rename_i c hb
    split at h
    · cases h
    rename_i hname
    have hen : Enters E.P f := ⟨fn, hf, by rw [hb]; rfl, hname⟩
    have hreg : Zauz E f (Z1h E f (Zzd (Zju E n)) (Zju E n)) := fun id ops draw ri s s' g w a Q hri hM hT hr hQ => Zaps hmix (Z6h ih) ih hri hM hT hr hQ
    have main : ∀ (e : Ex) (s : St) (rs : List SV), (e = .normal ∨ e = .ret) → evC E (Z1h E f (Zzd (Zju E n)) (Zju E n)) (n + 1) (comp E f c) ⟨args ++ List.replicate (fn.ntmps - args.length) .Z, M⟩ = some (e, s) →
        Z5 E s fn.results.toList = some rs → r = resV rs → M' = s.mem → ∀ g w fr args', MR E g w M fr → (∀ id, M.next ≤ id → fr id) → VRs g w args args' → Calls E.P f args' w (Zo4 E g w M M' r) := by
      rintro e s rs he hev hres rfl rfl g w fr args' hM hfr hargs
      refine calls_of_wp hf hb ?_
      have hT : VRs g w (args ++ List.replicate (fn.ntmps - args.length) .Z) (args' ++ Array.replicate (fn.ntmps - args'.size) undef) := by
        refine hargs.append ⟨by simp [hargs.1], fun k x v hx hv => ?_⟩
        simp only [List.getElem?_replicate] at hx
        split at hx
        · simp only [Option.some.injEq] at hx
          subst hx
          exact .Z v
        · cases hx
      refine (Zask hreg (Zan0 hmix (Z6h ih) ih) (Zanb hmix (Z6h ih) ih) (n + 1)).1 c ⟨args ++ List.replicate (fn.ntmps - args.length) .Z, M⟩ s e g w { tmps := args' ++ Array.replicate (fn.ntmps - args'.size) undef, defers := [] } _ hev (hM.weaken hfr) hT (fun g' w' a' e1 e2 e3 e4 e5 e6 => ?_)
      obtain ⟨v, hv, hvr⟩ := Zaem e2 e3 hres
      have post : a'.defers = [] ∧ ∃ v, (results fn a'.tmps).run E.P w' = .ok v w' ∧ Zo4 E g w M s.mem (resV rs) (.returned v) w' :=
        ⟨e4, v, hv, v, g', rfl, e1, e2, hvr, e5⟩
      rcases he with rfl | rfl <;> exact post
    have next : ∀ (e : Ex) (s : St), evC E (Z1h E f (Zzd (Zju E n)) (Zju E n)) (n + 1) (comp E f c) ⟨args ++ List.replicate (fn.ntmps - args.length) .Z, M⟩ = some (e, s) → M.next ≤ s.mem.next := by
      intro e s hev
      exact Zn4 (fun ri s s' hr => Zaky ih hr) hev
    split at h
    · rename_i s hev
      split at h
      · rename_i v hv
        simp only [Option.some.injEq, Prod.mk.injEq] at h
        obtain ⟨rfl, rfl⟩ := h
        exact ⟨hen, next _ _ hev, main .normal s [v] (.inl rfl) hev hv rfl rfl⟩
      · rename_i vs hne hvs
        simp only [Option.some.injEq, Prod.mk.injEq] at h
        obtain ⟨rfl, rfl⟩ := h
        refine ⟨hen, next _ _ hev, main .normal s vs (.inl rfl) hev hvs ?_ rfl⟩
        unfold resV
        split
        · exact (hne _ rfl).elim
        · rfl
      · cases h
    · rename_i s hev
      split at h
      · rename_i v hv
        simp only [Option.some.injEq, Prod.mk.injEq] at h
        obtain ⟨rfl, rfl⟩ := h
        exact ⟨hen, next _ _ hev, main .ret s [v] (.inr rfl) hev hv rfl rfl⟩
      · rename_i vs hne hvs
        simp only [Option.some.injEq, Prod.mk.injEq] at h
        obtain ⟨rfl, rfl⟩ := h
        refine ⟨hen, next _ _ hev, main .ret s vs (.inr rfl) hev hvs ?_ rfl⟩
        unfold resV
        split
        · exact (hne _ rfl).elim
        · rfl
      · cases h
    · cases h

end Go.Proofs.YtfphjfbknphhjaaGreatDoor.Sh

/-
  The shadow interpreter, text 15: with more fuel it answers the same; its limit, and the limit's equations. No condition.
-/
set_option linter.unusedVariables false
set_option linter.unusedSimpArgs false
namespace Go.Proofs.YtfphjfbknphhjaaGreatDoor.Sh
variable {E : Env}

def PCle (p q : PC) : Prop := ∀ f a r, p f a = some r → q f a = some r
def ICle (p q : IC) : Prop := ∀ f a M r, p f a M = some r → q f a M = some r

theorem Zrt {α : Type _} {a b : Option α} (h : ∀ r, a = some r ↔ b = some r) : a = b := by
  cases a with
  | none => cases b with
    | none => rfl
    | some y => exact ((h y).2 rfl)
  | some x => exact ((h x).1 rfl).symm

theorem Zqf {p q : IC} (h : ICle p q) : PCle (Zzd p) (Zzd q) := by
  intro f a r hr
  unfold Zzd at hr ⊢
  split at hr
  case h_2 => cases hr
  rename_i v M hv
  rw [h _ _ _ _ hv]
  exact hr

theorem Zaqp {pc pc' : PC} (hp : PCle pc pc') {a : Nat} {ρ : Operand → SV} {get : Nat → Option (List SV)} {o : Oper} {x : SV × List (Nat × Option (List SV))} (h : act E pc a ρ get o = some x) :
    act E pc' a ρ get o = some x := by
  unfold act at h ⊢
  cases hop : o.op with
  | call c =>
    simp only [hop] at h ⊢
    cases hc : c.callee with
    | value g =>
      simp only [hc] at h ⊢
      split at h
      case h_2 => cases h
      rename_i f first caps hg
      split at h
      case h_2 => cases h
      rename_i args hargs
      split at h
      case h_2 => cases h
      rename_i y hy
      rw [hp _ _ _ hy]
      exact h
    | builtin b => cases b <;> (simp only [hc] at h ⊢; exact h)
    | _ => simp only [hc] at h ⊢; exact h
  | makeFunc f a b => cases f <;> (simp only [hop] at h ⊢; exact h)
  | _ => simp only [hop] at h ⊢; exact h

theorem Zaf8 {me : Nat} {pc pc' : PC} {ic ic' : IC} (hp : PCle pc pc') (hi : ICle ic ic') {n0 sz k : Nat} {i : Ins} {s s' : St}
    (h : exI E me pc ic n0 sz k i s = some s') : exI E me pc' ic' n0 sz k i s = some s' := by
  unfold exI at h ⊢
  split at h
  · exact h
  · exact h
  split at h
  · split at h
    case h_2 => cases h
    rename_i hic
    rw [hi _ _ _ _ hic]
    exact h
  · split at h
    case h_2 => cases h
    rename_i hact
    rw [show Zqy E pc' _ _ _ _ = _ from Zaqp hp hact]
    exact h

theorem Z5q {me : Nat} {pc pc' : PC} {ic ic' : IC} (hp : PCle pc pc') (hi : ICle ic ic') {n0 sz : Nat} : ∀ {l : List Ins} {k : Nat} {s s' : St},
    exL E me pc ic n0 sz k l s = some s' → exL E me pc' ic' n0 sz k l s = some s'
  | [], k, s, s', h => h
  | x :: r, k, s, s', h => by
    unfold exL at h ⊢
    split at h
    case h_2 => cases h
    rename_i s1 h1
    rw [Zaf8 hp hi h1]
    exact Z5q hp hi h

theorem Zu5 {me : Nat} {pc pc' : PC} {ic ic' : IC} (hp : PCle pc pc') (hi : ICle ic ic') {ri : RI} {s s' : St}
    (h : Z1h E me pc ic ri s = some s') : Z1h E me pc' ic' ri s = some s' := by
  unfold Z1h at h ⊢
  split at h
  case h_2 => cases h
  rename_i s1 h1
  rw [Z5q hp hi h1]
  exact h

theorem Zrr {reg reg' : RI → St → Option St} (hr : ∀ ri s s', reg ri s = some s' → reg' ri s = some s') :
    ∀ {n n' : Nat} {c : C} {s : St} {r : Ex × St}, n ≤ n' → evC E reg n c s = some r → evC E reg' n' c s = some r
  | 0, n', c, s, r, _, h => by simp [evC] at h
  | n + 1, 0, c, s, r, hn, h => by omega
  | n + 1, n' + 1, c, s, r, hn, h => by
    have hn' : n ≤ n' := by omega
    have ih : ∀ {c : C} {s : St} {r : Ex × St}, evC E reg n c s = some r → evC E reg' n' c s = some r := fun h => Zrr hr hn' h
    cases c <;> simp only [evC] at h ⊢ <;> (try (exact h)) <;> (try (cases h; done))
    case reg ri =>
      split at h
      case h_2 => cases h
      rename_i hg
      rw [hr _ _ _ hg]
      exact h
    case chk pre t x d =>
      split at h
      case h_2 => cases h
      rename_i hg
      rw [hr _ _ _ hg]
      exact h
    case chf pre ps =>
      split at h
      case h_2 => cases h
      rename_i hg
      rw [hr _ _ _ hg]
      exact h
    case seq a b =>
      split at h
      · rename_i h1
        rw [ih h1]
        exact ih h
      · rename_i hne
        cases h1 : evC E reg n a s with
        | none => rw [h1] at h; cases h
        | some q =>
          rw [ih h1]
          rw [h1] at h
          obtain ⟨e, s1⟩ := q
          cases e with
          | normal => exact absurd h1 (hne _)
          | exit => exact h
          | ret => exact h
    case cond x a b =>
      split at h
      case h_2 => cases h
      exact ih h
    case block id b =>
      cases h1 : evC E reg n b s with
      | none => rw [h1] at h; cases h
      | some q =>
        rw [ih h1]
        rw [h1] at h
        exact h
    case loop b =>
      split at h
      · rename_i h1
        rw [ih h1]
        exact ih h
      · rename_i hne
        cases h1 : evC E reg n b s with
        | none => rw [h1] at h; cases h
        | some q =>
          rw [ih h1]
          rw [h1] at h
          obtain ⟨e, s1⟩ := q
          cases e with
          | normal => exact absurd h1 (hne _)
          | exit => exact h
          | ret => exact h

theorem Zjd : ∀ (n m : Nat), n ≤ m → ICle (Zju E n) (Zju E m)
  | 0, m, _ => fun f a M r h => by simp [Zju] at h
  | n + 1, 0, h => by omega
  | n + 1, m + 1, hnm => fun f a M r h => by
    have ih := Zjd n m (by omega)
    simp only [Zju] at h ⊢
    split at h
    · exact h
    split at h
    · cases h
    split at h
    · cases h
    split at h
    · cases h
    rename_i hname
    rw [if_neg hname]
    generalize hq : evC E _ (n + 1) _ _ = q at h
    cases q with
    | none => simp at h
    | some q =>
      rw [Zrr (fun ri s s' hs => Zu5 (Zqf ih) ih hs) hnm hq]
      exact h

/-! ### The limit -/

open Classical in
noncomputable def lim {α : Type} (F : Nat → Option α) : Option α := if h : ∃ r n, F n = some r then some h.choose else none

def MonoF {α : Type} (F : Nat → Option α) : Prop := ∀ n m r, n ≤ m → F n = some r → F m = some r

theorem Zarf {α : Type} {F : Nat → Option α} (hF : MonoF F) {r : α} : lim F = some r ↔ ∃ n, F n = some r := by
  unfold lim
  split
  · rename_i h
    obtain ⟨n, hn⟩ := h.choose_spec
    constructor
    · intro hr
      simp only [Option.some.injEq] at hr
      exact ⟨n, hr ▸ hn⟩
    · rintro ⟨m, hm⟩
      have h1 := hF n (max n m) _ (Nat.le_max_left _ _) hn
      have h2 := hF m (max n m) _ (Nat.le_max_right _ _) hm
      rw [← h1, h2]
  · rename_i h
    constructor
    · intro hr
      cases hr
    · rintro ⟨m, hm⟩
      exact absurd ⟨r, m, hm⟩ h

/-- A call, with fuel enough. -/
noncomputable def ICw (E : Env) : IC := fun f args M => lim fun n => Zju E n f args M
noncomputable def PCw (E : Env) : PC := Zzd (ICw E)
def regN (E : Env) (me n : Nat) : RI → St → Option St := Z1h E me (Zzd (Zju E n)) (Zju E n)
noncomputable def evW (E : Env) (me : Nat) (c : C) (s : St) : Option (Ex × St) := lim fun n => evC E (regN E me n) n c s
noncomputable def regW (E : Env) (me : Nat) (ri : RI) (s : St) : Option St := Z1h E me (PCw E) (ICw E) ri s

theorem Z4c {f : Nat} {args : List SV} {M : Mem} {r : SV × Mem} : ICw E f args M = some r ↔ ∃ n, Zju E n f args M = some r :=
  Zarf fun n m r h => Zjd n m h f args M r

theorem Z6x (n : Nat) : ICle (Zju E n) (ICw E) := fun f a M r h => Z4c.2 ⟨n, h⟩

theorem Ztc {me : Nat} {n m : Nat} (h : n ≤ m) (ri : RI) (s s' : St) (hs : regN E me n ri s = some s') : regN E me m ri s = some s' :=
  Zu5 (Zqf (Zjd n m h)) (Zjd n m h) hs

theorem Zlo {me : Nat} {c : C} {s : St} {r : Ex × St} : evW E me c s = some r ↔ ∃ n, evC E (regN E me n) n c s = some r :=
  Zarf fun n m r h hs => Zrr (fun ri s s' => Ztc h ri s s') h hs

theorem Zaqf {f : Nat} {args : List SV} {r : SV} (h : PCw E f args = some r) : ∃ n, Zzd (Zju E n) f args = some r := by
  unfold PCw Zzd at h
  split at h
  case h_2 => cases h
  rename_i hv
  obtain ⟨n, hn⟩ := Z4c.1 hv
  refine ⟨n, ?_⟩
  unfold Zzd
  rw [hn]
  exact h

theorem Zaoy {a : Nat} {ρ : Operand → SV} {get : Nat → Option (List SV)} {o : Oper} {x : SV × List (Nat × Option (List SV))} (h : act E (PCw E) a ρ get o = some x) :
    ∃ n, act E (Zzd (Zju E n)) a ρ get o = some x := by
  unfold act at h
  cases hop : o.op with
  | call c =>
    simp only [hop] at h
    cases hc : c.callee with
    | value g =>
      simp only [hc] at h
      split at h
      case h_2 => cases h
      rename_i f first caps hg
      split at h
      case h_2 => cases h
      rename_i args hargs
      split at h
      case h_2 => cases h
      rename_i y hy
      obtain ⟨n, hn⟩ := Zaqf hy
      refine ⟨n, ?_⟩
      unfold act
      simp only [hop, hc, hg, hargs, hn]
      exact h
    | builtin b => cases b <;> exact ⟨0, by unfold act; simp only [hop, hc] at h ⊢; exact h⟩
    | _ => exact ⟨0, by unfold act; simp only [hop, hc] at h ⊢; exact h⟩
  | makeFunc f a b => cases f <;> exact ⟨0, by unfold act; simp only [hop] at h ⊢; exact h⟩
  | _ => exact ⟨0, by unfold act; simp only [hop] at h ⊢; exact h⟩

theorem Zap8 {me n0 sz k : Nat} {i : Ins} {s s' : St} (h : exI E me (PCw E) (ICw E) n0 sz k i s = some s') :
    ∃ n, exI E me (Zzd (Zju E n)) (Zju E n) n0 sz k i s = some s' := by
  unfold exI at h
  split at h
  · cases h
  · rename_i hw
    exact ⟨0, by unfold exI; simp only [hw]; exact h⟩
  rename_i hw
  split at h
  · rename_i hic
    split at h
    case h_2 => cases h
    rename_i hv
    obtain ⟨n, hn⟩ := Z4c.1 hv
    exact ⟨n, by unfold exI; simp only [hw, hic, hn]; exact h⟩
  · rename_i hic
    split at h
    case h_2 => cases h
    rename_i hv
    obtain ⟨n, hn⟩ := Zaoy hv
    refine ⟨n, ?_⟩
    unfold exI
    rw [show Zqy E (Zzd (Zju E n)) _ _ _ _ = _ from hn]
    simp only [hw, hic]
    exact h

theorem Zaf1 {me n0 sz : Nat} : ∀ {l : List Ins} {k : Nat} {s s' : St}, exL E me (PCw E) (ICw E) n0 sz k l s = some s' →
    ∃ n, exL E me (Zzd (Zju E n)) (Zju E n) n0 sz k l s = some s'
  | [], k, s, s', h => ⟨0, h⟩
  | x :: r, k, s, s', h => by
    unfold exL at h
    split at h
    case h_2 => cases h
    rename_i s1 h1
    obtain ⟨n, hn⟩ := Zap8 h1
    obtain ⟨m, hm⟩ := Zaf1 h
    refine ⟨max n m, ?_⟩
    unfold exL
    rw [Zaf8 (Zqf (Zjd n _ (Nat.le_max_left n m))) (Zjd n _ (Nat.le_max_left n m)) hn]
    exact Z5q (Zqf (Zjd m _ (Nat.le_max_right n m))) (Zjd m _ (Nat.le_max_right n m)) hm

theorem Zww {me : Nat} {ri : RI} {s s' : St} : regW E me ri s = some s' ↔ ∃ n, regN E me n ri s = some s' := by
  constructor
  · intro h
    unfold regW Z1h at h
    split at h
    case h_2 => cases h
    rename_i s1 h1
    obtain ⟨n, hn⟩ := Zaf1 h1
    refine ⟨n, ?_⟩
    unfold regN Z1h
    rw [hn]
    exact h
  · rintro ⟨n, hn⟩
    exact Zu5 (Zqf (Z6x n)) (Z6x n) hn

/-! ### The limit's equations -/

theorem Zape (me : Nat) (s : St) : evW E me .skip s = some (.normal, s) := Zlo.2 ⟨1, rfl⟩
theorem Zao6 (me id : Nat) (s : St) : evW E me (.exit id) s = some (.exit id, s) := Zlo.2 ⟨1, rfl⟩
theorem Zar4 (me : Nat) (s : St) : evW E me .ret s = some (.ret, s) := Zlo.2 ⟨1, rfl⟩

theorem Zajq (me : Nat) (ri : RI) (s : St) :
    evW E me (.reg ri) s = match regW E me ri s with | some s' => some (.normal, s') | none => none := by
  apply Zrt
  intro r
  rw [Zlo]
  constructor
  · rintro ⟨n, hn⟩
    cases n with
    | zero => simp [evC] at hn
    | succ n =>
      simp only [evC] at hn
      split at hn
      case h_2 => cases hn
      rename_i s' hs
      rw [Zww.2 ⟨_, hs⟩]
      exact hn
  · intro h
    split at h
    case h_2 => cases h
    rename_i s' hs
    obtain ⟨n, hn⟩ := Zww.1 hs
    refine ⟨n + 1, ?_⟩
    simp only [evC]
    rw [Ztc (Nat.le_succ n) _ _ _ hn]
    exact h

theorem Zasp (me : Nat) (pre : RI) (ps : List FP) (s : St) :
    evW E me (.chf pre ps) s = match regW E me pre s with
      | some s1 => if ps.all (Z2y E s.mem s1.tmps) then some (.normal, s) else none
      | none => none := by
  apply Zrt
  intro r
  rw [Zlo]
  constructor
  · rintro ⟨n, hn⟩
    cases n with
    | zero => simp [evC] at hn
    | succ n =>
      simp only [evC] at hn
      split at hn
      case h_2 => cases hn
      rename_i s' hs
      rw [Zww.2 ⟨_, hs⟩]
      exact hn
  · intro h
    split at h
    case h_2 => cases h
    rename_i s' hs
    obtain ⟨n, hn⟩ := Zww.1 hs
    refine ⟨n + 1, ?_⟩
    simp only [evC]
    rw [Ztc (Nat.le_succ n) _ _ _ hn]
    exact h

theorem Zas3 (me : Nat) (pre : RI) (t : Nat) (x : Operand) (d : Nat) (s : St) :
    evW E me (.chk pre t x d) s = match regW E me pre s with
      | some s1 => (match Zn E.P s1.mem.blk t (evO E s1.tmps x) with
        | some v => if Zna v (s1.tmps.getD d .Z) then some (.normal, s) else none
        | none => none)
      | none => none := by
  apply Zrt
  intro r
  rw [Zlo]
  constructor
  · rintro ⟨n, hn⟩
    cases n with
    | zero => simp [evC] at hn
    | succ n =>
      simp only [evC] at hn
      split at hn
      case h_2 => cases hn
      rename_i s' hs
      rw [Zww.2 ⟨_, hs⟩]
      exact hn
  · intro h
    split at h
    case h_2 => cases h
    rename_i s' hs
    obtain ⟨n, hn⟩ := Zww.1 hs
    refine ⟨n + 1, ?_⟩
    simp only [evC]
    rw [Ztc (Nat.le_succ n) _ _ _ hn]
    exact h

theorem Zxm {me n m : Nat} (h : n ≤ m) {c : C} {s : St} {r : Ex × St} (hs : evC E (regN E me n) n c s = some r) (k : Nat) (hk : m ≤ k) : evC E (regN E me k) m c s = some r :=
  Zrr (fun ri s s' => Ztc (Nat.le_trans h hk) ri s s') h hs

theorem Zux {me n m : Nat} (h : n ≤ m) {c : C} {s : St} {r : Ex × St} (hs : evC E (regN E me m) n c s = some r) : evW E me c s = some r :=
  Zlo.2 ⟨m, Zrr (fun _ _ _ h => h) h hs⟩

theorem Zatc (me : Nat) (a b : C) (s : St) :
    evW E me (.seq a b) s = match evW E me a s with | some (.normal, s') => evW E me b s' | r => r := by
  apply Zrt
  intro r
  rw [Zlo]
  constructor
  · rintro ⟨n, hn⟩
    cases n with
    | zero => simp [evC] at hn
    | succ n =>
      simp only [evC] at hn
      split at hn
      · rename_i s1 h1
        rw [Zux (Nat.le_succ n) h1]
        exact Zux (Nat.le_succ n) hn
      · rename_i hne
        cases h1 : evC E (regN E me (n + 1)) n a s with
        | none => rw [h1] at hn; cases hn
        | some q =>
          rw [Zux (Nat.le_succ n) h1]
          rw [h1] at hn
          obtain ⟨e, s1⟩ := q
          cases e with
          | normal => exact absurd h1 (hne _)
          | exit => exact hn
          | ret => exact hn
  · intro h
    split at h
    · rename_i s1 h1
      obtain ⟨n, hn⟩ := Zlo.1 h1
      obtain ⟨m, hm⟩ := Zlo.1 h
      refine ⟨max n m + 1, ?_⟩
      simp only [evC]
      rw [Zxm (Nat.le_max_left n m) hn _ (Nat.le_succ _)]
      exact Zxm (Nat.le_max_right n m) hm _ (Nat.le_succ _)
    · rename_i hne
      cases h1 : evW E me a s with
      | none => rw [h1] at h; cases h
      | some q =>
        obtain ⟨n, hn⟩ := Zlo.1 h1
        refine ⟨n + 1, ?_⟩
        simp only [evC]
        rw [Zxm (Nat.le_refl n) hn _ (Nat.le_succ _)]
        rw [h1] at h
        obtain ⟨e, s1⟩ := q
        cases e with
        | normal => exact absurd h1 (hne _)
        | exit => exact h
        | ret => exact h

theorem Zaot (me : Nat) (c : Operand) (a b : C) (s : St) :
    evW E me (.cond c a b) s = match evO E s.tmps c with | .bool t => (if t then evW E me a s else evW E me b s) | _ => none := by
  apply Zrt
  intro r
  rw [Zlo]
  constructor
  · rintro ⟨n, hn⟩
    cases n with
    | zero => simp [evC] at hn
    | succ n =>
      simp only [evC] at hn
      split at hn
      case h_2 => cases hn
      rename_i t ht
      rw [ht]
      cases t <;> exact Zux (Nat.le_succ n) hn
  · intro h
    split at h
    case h_2 => cases h
    rename_i t ht
    cases t
    all_goals
      obtain ⟨n, hn⟩ := Zlo.1 h
      refine ⟨n + 1, ?_⟩
      simp only [evC, ht]
      exact Zxm (Nat.le_refl n) hn _ (Nat.le_succ _)

theorem Zan9 (me id : Nat) (b : C) (s : St) :
    evW E me (.block id b) s = match evW E me b s with | some (.exit id', s') => (if id' = id then some (.normal, s') else some (.exit id', s')) | r => r := by
  apply Zrt
  intro r
  rw [Zlo]
  constructor
  · rintro ⟨n, hn⟩
    cases n with
    | zero => simp [evC] at hn
    | succ n =>
      simp only [evC] at hn
      cases h1 : evC E (regN E me (n + 1)) n b s with
      | none => rw [h1] at hn; cases hn
      | some q =>
        rw [Zux (Nat.le_succ n) h1]
        rw [h1] at hn
        exact hn
  · intro h
    cases h1 : evW E me b s with
    | none => rw [h1] at h; cases h
    | some q =>
      obtain ⟨n, hn⟩ := Zlo.1 h1
      refine ⟨n + 1, ?_⟩
      simp only [evC]
      rw [Zxm (Nat.le_refl n) hn _ (Nat.le_succ _)]
      rw [h1] at h
      exact h

theorem Zbl (me : Nat) (b : C) (s : St) :
    evW E me (.loop b) s = match evW E me b s with | some (.normal, s') => evW E me (.loop b) s' | r => r := by
  apply Zrt
  intro r
  constructor
  · intro hr
    obtain ⟨n, hn⟩ := Zlo.1 hr
    cases n with
    | zero => simp [evC] at hn
    | succ n =>
      simp only [evC] at hn
      split at hn
      · rename_i s1 h1
        rw [Zux (Nat.le_succ n) h1]
        exact Zux (Nat.le_succ n) hn
      · rename_i hne
        cases h1 : evC E (regN E me (n + 1)) n b s with
        | none => rw [h1] at hn; cases hn
        | some q =>
          rw [Zux (Nat.le_succ n) h1]
          rw [h1] at hn
          obtain ⟨e, s1⟩ := q
          cases e with
          | normal => exact absurd h1 (hne _)
          | exit => exact hn
          | ret => exact hn
  · intro h
    rw [Zlo]
    split at h
    · rename_i s1 h1
      obtain ⟨n, hn⟩ := Zlo.1 h1
      obtain ⟨m, hm⟩ := Zlo.1 h
      refine ⟨max n m + 1, ?_⟩
      simp only [evC]
      rw [Zxm (Nat.le_max_left n m) hn _ (Nat.le_succ _)]
      exact Zxm (Nat.le_max_right n m) hm _ (Nat.le_succ _)
    · rename_i hne
      cases h1 : evW E me b s with
      | none => rw [h1] at h; cases h
      | some q =>
        obtain ⟨n, hn⟩ := Zlo.1 h1
        refine ⟨n + 1, ?_⟩
        simp only [evC]
        rw [Zxm (Nat.le_refl n) hn _ (Nat.le_succ _)]
        rw [h1] at h
        obtain ⟨e, s1⟩ := q
        cases e with
        | normal => exact absurd h1 (hne _)
        | exit => exact h
        | ret => exact h

/-- What a call ends with. -/
def Zx (E : Env) (rs : List ResultVar) : Option (Ex × St) → Option (SV × Mem)
  | some (.normal, s) | some (.ret, s) => match Z5 E s rs with
    | some [v] => some (v, s.mem)
    | some vs => some (.tup vs, s.mem)
    | none => none
  | _ => none

theorem Zap2 {f : Nat} {fn : Func} {c : Code} (hp : E.prim f = none) (hf : E.P.funcs[f]? = some fn) (hb : fn.body = some c) (hn : fn.name ≠ "runtime.NumGoroutine") (args : List SV) (M : Mem) :
    ICw E f args M = Zx E fn.results.toList (evW E f (comp E f c) ⟨args ++ List.replicate (fn.ntmps - args.length) .Z, M⟩) := by
  apply Zrt
  intro r
  rw [Z4c]
  constructor
  · rintro ⟨n, h⟩
    cases n with
    | zero => simp [Zju] at h
    | succ n =>
      simp only [Zju, hp, hf, hb, if_neg hn] at h
      generalize hq : evC E _ (n + 1) _ _ = q at h
      cases q with
      | none => simp at h
      | some q =>
        have : evW E f (comp E f c) ⟨args ++ List.replicate (fn.ntmps - args.length) .Z, M⟩ = some q :=
          Zux (Nat.le_refl (n + 1)) (Zrr (fun ri s s' hs => Zu5 (Zqf (Zjd n (n + 1) (Nat.le_succ n))) (Zjd n (n + 1) (Nat.le_succ n)) hs) (Nat.le_refl _) hq)
        rw [this]
        exact h
  · intro h
    cases hq : evW E f (comp E f c) ⟨args ++ List.replicate (fn.ntmps - args.length) .Z, M⟩ with
    | none => rw [hq] at h; simp [Zx] at h
    | some q =>
      obtain ⟨n, hn'⟩ := Zlo.1 hq
      refine ⟨n + 1, ?_⟩
      simp only [Zju, hp, hf, hb, if_neg hn]
      rw [show evC E (Z1h E f (Zzd (Zju E n)) (Zju E n)) (n + 1) (comp E f c) ⟨args ++ List.replicate (fn.ntmps - args.length) .Z, M⟩ = some q from Zrr (fun _ _ _ h => h) (Nat.le_succ n) hn']
      rw [hq] at h
      exact h

end Go.Proofs.YtfphjfbknphhjaaGreatDoor.Sh

/-
  The shadow interpreter, text 16: its equations as rules for 'simp'. No condition.
-/
set_option linter.unusedVariables false
set_option linter.unusedSimpArgs false
namespace Go.Proofs.YtfphjfbknphhjaaGreatDoor.Sh
variable {E : Env}

attribute [simp] Zape Zao6 Zar4 Zaot Zatc Zan9

/-! ### Temps, constants -/

@[simp] theorem Zar7 (T : List SV) (t : Nat) : evO E T (.tmp t) = T.getD t (.tup []) := rfl
@[simp] theorem Zapp (T : List SV) (f : Nat) : evO E T (.func f) = .fn f [] [] := rfl
@[simp] theorem evO_int (T : List SV) (k : IntKind) (n : Int) : evO E T (.const (.int k n)) = .int k n := rfl
@[simp] theorem evO_bool (T : List SV) (b : Bool) : evO E T (.const (.bool b)) = .bool b := rfl
@[simp] theorem evO_str (T : List SV) (s : ByteArray) : evO E T (.const (.string s)) = .str s := rfl
@[simp] theorem Zavq (T : List SV) : evO E T (.const (.slice none 0 0)) = .nilsl := rfl
@[simp] theorem evO_nilp (T : List SV) : evO E T (.const (.pointer none)) = .nilp := rfl
@[simp] theorem evO_nili (T : List SV) : evO E T (.const .nilIface) = .nili := rfl
@[simp] theorem evO_nilf (T : List SV) : evO E T (.const .nilFunc) = .nilf := rfl
@[simp] theorem Zaui (T : List SV) (g : Nat) : evO E T (.global g) = match E.G g with | some items => .rptr items 0 0 true | none => .Z := rfl
@[simp] theorem Zaug (T : List SV) : forget [] T = T := rfl
@[simp] theorem Zasi (d : Nat) (r : List Nat) (T : List SV) : forget (d :: r) T = forget r (T.set d .Z) := rfl

/-! ### Cells -/

@[simp] theorem Zatm (b : Bool) : (SV.bool b).cells = [(SV.bool b)] := rfl
@[simp] theorem Zauy (b : Bool) : (SV.bool b).sto = true := rfl
@[simp] theorem Zat4 (k : IntKind) (n : Int) : (SV.int k n).cells = [(SV.int k n)] := rfl
@[simp] theorem sto_int_ (k : IntKind) (n : Int) : (SV.int k n).sto = true := rfl
@[simp] theorem Zaue (s : ByteArray) : (SV.str s).cells = [(SV.str s)] := rfl
@[simp] theorem sto_str_ (s : ByteArray) : (SV.str s).sto = true := rfl
@[simp] theorem Zasw : SV.nilp.cells = [SV.nilp] := rfl
@[simp] theorem Zav2 : SV.nilp.sto = true := rfl
@[simp] theorem Zat5 (i j o : Nat) : (SV.ptr i j o).cells = [(SV.ptr i j o)] := rfl
@[simp] theorem sto_ptr_ (i j o : Nat) : (SV.ptr i j o).sto = true := rfl
@[simp] theorem Zar9 (l : List SV) (i o : Nat) (st : Bool) : (SV.rptr l i o st).cells = [(SV.rptr l i o st)] := rfl
@[simp] theorem Zavc (l : List SV) (i o : Nat) (st : Bool) : (SV.rptr l i o st).sto = true := rfl
@[simp] theorem Zaq7 : SV.nilsl.cells = [SV.nilsl] := rfl
@[simp] theorem Zatx : SV.nilsl.sto = true := rfl
@[simp] theorem Zave (l : List SV) (tl : Tl) : (SV.sl l tl).cells = [(SV.sl l tl)] := rfl
@[simp] theorem sto_sl_ (l : List SV) (tl : Tl) : (SV.sl l tl).sto = true := rfl
@[simp] theorem Zat9 (i e j n : Nat) : (SV.own i e j n).cells = [(SV.own i e j n)] := rfl
@[simp] theorem sto_own_ (i e j n : Nat) : (SV.own i e j n).sto = true := rfl
@[simp] theorem Zavp (f : Nat) (a c : List SV) : (SV.fn f a c).cells = [(SV.fn f a c)] := rfl
@[simp] theorem sto_fn_ (f : Nat) (a c : List SV) : (SV.fn f a c).sto = true := rfl
@[simp] theorem Zasl : SV.nilf.cells = [SV.nilf] := rfl
@[simp] theorem Zawc : SV.nilf.sto = true := rfl
@[simp] theorem Zarq (t : Nat) (v : SV) : (SV.iface t v).cells = [(SV.iface t v)] := rfl
@[simp] theorem Zaub (t : Nat) (v : SV) : (SV.iface t v).sto = true := rfl
@[simp] theorem Zaso : SV.nili.cells = [SV.nili] := rfl
@[simp] theorem Zaul : SV.nili.sto = true := rfl
@[simp] theorem Zauf (cs : List SV) : (SV.agg cs).cells = cs := rfl
@[simp] theorem sto_agg_ (cs : List SV) : (SV.agg cs).sto = true := rfl

/-! ### Memory -/

@[simp] theorem Mem.Ziy (M : Mem) (i j : Nat) (b : Option (List SV)) : (M.set i b).blk j = if j = i then b else M.blk j := rfl
@[simp] theorem Mem.Z77 (M : Mem) (i : Nat) (b : Option (List SV)) : (M.set i b).next = M.next := rfl
def Mem.bump (M : Mem) (n : Nat) : Mem := ⟨M.blk, M.next + n⟩
@[simp] theorem Mem.Zanp (M : Mem) : M.bump 0 = M := rfl
@[simp] theorem Mem.Zaov (M : Mem) (n j : Nat) : (M.bump n).blk j = M.blk j := rfl
@[simp] theorem Mem.Zawe (M : Mem) (n : Nat) : (M.bump n).next = M.next + n := rfl
@[simp] theorem Mem.Zaf5 (M : Mem) : M.sets [] = M := rfl
@[simp] theorem Mem.Zaak (M : Mem) (p : Nat × Option (List SV)) (r) : M.sets (p :: r) = (M.set p.1 p.2).sets r := rfl
@[simp] theorem Mem.Zatz : Mem.empty.next = 0 := rfl
@[simp] theorem Mem.Zauq (j : Nat) : Mem.empty.blk j = none := rfl
@[simp] theorem Zaua (M : Mem) (n0 sz : Nat) : Zot M n0 sz none = M.blk := rfl
@[simp] theorem Zajp (M : Mem) (n0 sz id : Nat) (l : List Nat) : Zot M n0 sz (some l) id = if decide (id < n0) || decide (n0 + sz ≤ id) || l.contains (id - n0) then M.blk id else none := rfl

/-! ### Regions -/

theorem Zf (me : Nat) (ri : RI) (T : List SV) (M : Mem) :
    evW E me (.reg ri) ⟨T, M⟩ = match exL E me (PCw E) (ICw E) M.next ri.size 0 ri.ops ⟨T, M.bump ri.adv⟩ with
      | some s' => some (.normal, ⟨forget ri.dead s'.tmps, s'.mem⟩)
      | none => none := by
  rw [Zajq]
  unfold regW Z1h
  show (match (match exL E me (PCw E) (ICw E) M.next ri.size 0 ri.ops ⟨T, M.bump ri.adv⟩ with | some s' => some (⟨forget ri.dead s'.tmps, s'.mem⟩ : St) | none => none) with | some s' => some (Ex.normal, s') | none => none) = _
  cases exL E me (PCw E) (ICw E) M.next ri.size 0 ri.ops ⟨T, M.bump ri.adv⟩ <;> rfl

theorem Zd (me : Nat) (ri : RI) (t : Nat) (x : Operand) (d : Nat) (T : List SV) (M : Mem) :
    evW E me (.chk ri t x d) ⟨T, M⟩ = match exL E me (PCw E) (ICw E) M.next ri.size 0 ri.ops ⟨T, M.bump ri.adv⟩ with
      | some s' => (match Zn E.P s'.mem.blk t (evO E (forget ri.dead s'.tmps) x) with
        | some v => if Zna v ((forget ri.dead s'.tmps).getD d .Z) then some (.normal, ⟨T, M⟩) else none
        | none => none)
      | none => none := by
  rw [Zas3]
  unfold regW Z1h
  show (match (match exL E me (PCw E) (ICw E) M.next ri.size 0 ri.ops ⟨T, M.bump ri.adv⟩ with | some s' => some (⟨forget ri.dead s'.tmps, s'.mem⟩ : St) | none => none) with | some s1 => _ | none => none) = _
  cases exL E me (PCw E) (ICw E) M.next ri.size 0 ri.ops ⟨T, M.bump ri.adv⟩ <;> rfl
theorem Ze (me : Nat) (ri : RI) (ps : List FP) (T : List SV) (M : Mem) :
    evW E me (.chf ri ps) ⟨T, M⟩ = match exL E me (PCw E) (ICw E) M.next ri.size 0 ri.ops ⟨T, M.bump ri.adv⟩ with
      | some s' => if ps.all (Z2y E M (forget ri.dead s'.tmps)) then some (.normal, ⟨T, M⟩) else none
      | none => none := by
  rw [Zasp]
  unfold regW Z1h
  show (match (match exL E me (PCw E) (ICw E) M.next ri.size 0 ri.ops ⟨T, M.bump ri.adv⟩ with | some s' => some (⟨forget ri.dead s'.tmps, s'.mem⟩ : St) | none => none) with | some s1 => _ | none => none) = _
  cases exL E me (PCw E) (ICw E) M.next ri.size 0 ri.ops ⟨T, M.bump ri.adv⟩ <;> rfl
@[simp] theorem Zat6 : Zna .nilsl .nilsl = true := rfl
@[simp] theorem Zaty (a b c d : Nat) : Zna (.own a b c d) (.own a b c d) = true := by simp [Zna]
@[simp] theorem Zaud (k : IntKind) (n : Int) : Zna (.int k n) (.int k n) = true := by simp [Zna]

variable {me n0 sz k : Nat} {pc : PC} {ic : IC} {r : List Ins} {lm : Option (List Nat)} {T : List SV} {M : Mem}

@[simp] theorem exL_nil (s : St) : exL E me pc ic n0 sz k [] s = some s := rfl

theorem Zmo {d : Option Nat} {op : Op} (hi : ∀ ρ, Z14 E me ρ op = none) :
    exL E me pc ic n0 sz k (⟨d, op, none, lm⟩ :: r) ⟨T, M⟩ = (Zqy E pc (n0 + k) (evO E T) (Zot M n0 sz lm) op).bind fun q => exL E me pc ic n0 sz (k + 1) r ⟨Zlt T d q.1, M.sets q.2⟩ := by
  simp only [exL, exI, Z3n, hi]
  cases Zqy E pc (n0 + k) (evO E T) (Zot M n0 sz lm) op <;> rfl

theorem Zh2 {d : Nat} {op : Op} (x : (Operand → SV) → (Nat → Option (List SV)) → Option SV) (hi : ∀ ρ, Z14 E me ρ op = none)
    (ha : ∀ a ρ get, Zqy E pc a ρ get op = match x ρ get with | some y => some (y, []) | none => none) :
    exL E me pc ic n0 sz k (⟨some d, op, none, lm⟩ :: r) ⟨T, M⟩ = (x (evO E T) (Zot M n0 sz lm)).bind fun y => exL E me pc ic n0 sz (k + 1) r ⟨T.set d y, M⟩ := by
  rw [Zmo hi, ha]
  cases x (evO E T) (Zot M n0 sz lm) <;> rfl

@[simp] theorem exL_move (d : Nat) (x : Operand) : exL E me pc ic n0 sz k (⟨some d, .move x, none, lm⟩ :: r) ⟨T, M⟩ = exL E me pc ic n0 sz (k + 1) r ⟨T.set d (evO E T x), M⟩ :=
  Zh2 (fun ρ _ => some (ρ x)) (fun _ => rfl) (fun _ _ _ => rfl)
@[simp] theorem Zatw (d : Nat) (x : Operand) : exL E me pc ic n0 sz k (⟨some d, .assign x, none, lm⟩ :: r) ⟨T, M⟩ = exL E me pc ic n0 sz (k + 1) r ⟨T.set d (evO E T x), M⟩ :=
  Zh2 (fun ρ _ => some (ρ x)) (fun _ => rfl) (fun _ _ _ => rfl)
@[simp] theorem exL_load (d t : Nat) (x : Operand) : exL E me pc ic n0 sz k (⟨some d, .load t x, none, lm⟩ :: r) ⟨T, M⟩ = (Zn E.P (Zot M n0 sz lm) t (evO E T x)).bind fun y => exL E me pc ic n0 sz (k + 1) r ⟨T.set d y, M⟩ :=
  Zh2 (fun ρ get => Zn E.P get t (ρ x)) (fun _ => rfl) (fun _ _ _ => rfl)
@[simp] theorem exL_bin (d t t' : Nat) (op : BinOp) (x y : Operand) : exL E me pc ic n0 sz k (⟨some d, .binOp op t x y t', none, lm⟩ :: r) ⟨T, M⟩ = (Zoq E.P op t (Zl x || Zl y) (evO E T x) (evO E T y)).bind fun y => exL E me pc ic n0 sz (k + 1) r ⟨T.set d y, M⟩ :=
  Zh2 (fun ρ get => Zoq E.P op t (Zl x || Zl y) (ρ x) (ρ y)) (fun _ => rfl) (fun _ _ _ => rfl)
@[simp] theorem exL_un (d t : Nat) (op : UnOp) (x : Operand) : exL E me pc ic n0 sz k (⟨some d, .unOp op t x, none, lm⟩ :: r) ⟨T, M⟩ = (unS op (evO E T x)).bind fun y => exL E me pc ic n0 sz (k + 1) r ⟨T.set d y, M⟩ :=
  Zh2 (fun ρ get => unS op (ρ x)) (fun _ => rfl) (fun _ _ _ => rfl)
@[simp] theorem exL_conv (d s t : Nat) (x : Operand) : exL E me pc ic n0 sz k (⟨some d, .convert s t x, none, lm⟩ :: r) ⟨T, M⟩ = (Zz8 E.P (Zot M n0 sz lm) s t (evO E T x)).bind fun y => exL E me pc ic n0 sz (k + 1) r ⟨T.set d y, M⟩ :=
  Zh2 (fun ρ get => Zz8 E.P get s t (ρ x)) (fun _ => rfl) (fun _ _ _ => rfl)
@[simp] theorem Zav5 (d t : Nat) (x : Operand) (a b c : Option Operand) : exL E me pc ic n0 sz k (⟨some d, .slice t x a b c, none, lm⟩ :: r) ⟨T, M⟩ = (Zse E.P t (evO E T x) (a.map (evO E T)) (b.map (evO E T)) (c.map (evO E T))).bind fun y => exL E me pc ic n0 sz (k + 1) r ⟨T.set d y, M⟩ :=
  Zh2 (fun ρ get => Zse E.P t (ρ x) (a.map ρ) (b.map ρ) (c.map ρ)) (fun _ => rfl) (fun _ _ _ => rfl)
@[simp] theorem Zaqs (d t f : Nat) (x : Operand) : exL E me pc ic n0 sz k (⟨some d, .fieldAddr t x f, none, lm⟩ :: r) ⟨T, M⟩ = (Zb E.P t (evO E T x) f).bind fun y => exL E me pc ic n0 sz (k + 1) r ⟨T.set d y, M⟩ :=
  Zh2 (fun ρ get => Zb E.P t (ρ x) f) (fun _ => rfl) (fun _ _ _ => rfl)
@[simp] theorem Zawq (d t f : Nat) (x : Operand) : exL E me pc ic n0 sz k (⟨some d, .field t x f, none, lm⟩ :: r) ⟨T, M⟩ = (Zk E.P t (evO E T x) f).bind fun y => exL E me pc ic n0 sz (k + 1) r ⟨T.set d y, M⟩ :=
  Zh2 (fun ρ get => Zk E.P t (ρ x) f) (fun _ => rfl) (fun _ _ _ => rfl)
@[simp] theorem Zapf (d t : Nat) (x i : Operand) : exL E me pc ic n0 sz k (⟨some d, .indexAddr t x i, none, lm⟩ :: r) ⟨T, M⟩ = (Z9 E.P t (evO E T x) (evO E T i)).bind fun y => exL E me pc ic n0 sz (k + 1) r ⟨T.set d y, M⟩ :=
  Zh2 (fun ρ get => Z9 E.P t (ρ x) (ρ i)) (fun _ => rfl) (fun _ _ _ => rfl)
@[simp] theorem Zav4 (d t : Nat) (x i : Operand) : exL E me pc ic n0 sz k (⟨some d, .index t x i, none, lm⟩ :: r) ⟨T, M⟩ = (Zt5 E.P t (evO E T x) (evO E T i)).bind fun y => exL E me pc ic n0 sz (k + 1) r ⟨T.set d y, M⟩ :=
  Zh2 (fun ρ get => Zt5 E.P t (ρ x) (ρ i)) (fun _ => rfl) (fun _ _ _ => rfl)
@[simp] theorem Zaop (d s t : Nat) (x : Operand) (ok : Bool) : exL E me pc ic n0 sz k (⟨some d, .typeAssert x s t ok, none, lm⟩ :: r) ⟨T, M⟩ = (Z1o E.P (evO E T x) t ok).bind fun y => exL E me pc ic n0 sz (k + 1) r ⟨T.set d y, M⟩ :=
  Zh2 (fun ρ get => Z1o E.P (ρ x) t ok) (fun _ => rfl) (fun _ _ _ => rfl)

def Zyx (i : Nat) : SV → Option SV
  | .tup vs => vs[i]?
  | _ => none
@[simp] theorem Zaqz (i : Nat) (vs : List SV) : Zyx i (.tup vs) = vs[i]? := rfl
@[simp] theorem Zatt (d i : Nat) (x : Operand) : exL E me pc ic n0 sz k (⟨some d, .extract x i, none, lm⟩ :: r) ⟨T, M⟩ = (Zyx i (evO E T x)).bind fun y => exL E me pc ic n0 sz (k + 1) r ⟨T.set d y, M⟩ :=
  Zh2 (fun ρ get => Zyx i (ρ x)) (fun _ => rfl) (fun a ρ get => by
    simp only [Zqy, act, Zyx]
    cases ρ x <;> rfl)

def Zaqe (p q : SV) : SV → Option SV
  | .bool b => some (if b then p else q)
  | _ => none
@[simp] theorem Zatv (p q : SV) (b : Bool) : Zaqe p q (.bool b) = some (if b then p else q) := rfl
@[simp] theorem exL_pick (d : Nat) (c p q : Operand) : exL E me pc ic n0 sz k (⟨some d, .pick c p q, none, lm⟩ :: r) ⟨T, M⟩ = (Zaqe (evO E T p) (evO E T q) (evO E T c)).bind fun y => exL E me pc ic n0 sz (k + 1) r ⟨T.set d y, M⟩ :=
  Zh2 (fun ρ get => Zaqe (ρ p) (ρ q) (ρ c)) (fun _ => rfl) (fun a ρ get => by
    simp only [Zqy, act, Zaqe]
    cases ρ c <;> rfl)

def nilS : SV → Option SV
  | .ptr id i o => some (.ptr id i o)
  | .rptr l i o st => some (.rptr l i o st)
  | .iface t y => some (.iface t y)
  | .fn f p q => some (.fn f p q)
  | _ => none
@[simp] theorem nilS_ptr (id i o : Nat) : nilS (.ptr id i o) = some (.ptr id i o) := rfl
@[simp] theorem Zawf (l i o st) : nilS (.rptr l i o st) = some (.rptr l i o st) := rfl
@[simp] theorem Zat2 (t y) : nilS (.iface t y) = some (.iface t y) := rfl
@[simp] theorem nilS_fn (f p q) : nilS (.fn f p q) = some (.fn f p q) := rfl
@[simp] theorem Zarp (d : Nat) (x : Operand) : exL E me pc ic n0 sz k (⟨some d, .nilCheck x, none, lm⟩ :: r) ⟨T, M⟩ = (nilS (evO E T x)).bind fun y => exL E me pc ic n0 sz (k + 1) r ⟨T.set d y, M⟩ :=
  Zh2 (fun ρ get => nilS (ρ x)) (fun _ => rfl) (fun a ρ get => by
    simp only [Zqy, act, nilS]
    cases ρ x <;> rfl)
@[simp] theorem Zaqd (x : Operand) : exL E me pc ic n0 sz k (⟨none, .nilCheck x, none, lm⟩ :: r) ⟨T, M⟩ = (nilS (evO E T x)).bind fun y => exL E me pc ic n0 sz (k + 1) r ⟨T, M⟩ := by
  rw [Zmo (fun _ => rfl)]
  simp only [Zqy, act, nilS]
  cases evO E T x <;> rfl

def Zsh (P : Program) (t : Nat) (x : SV) : Option SV := match Zbz P t with
  | some ⟨.iface, _, _, _⟩ => none
  | some _ => some (.iface t x)
  | none => none
@[simp] theorem Zaim (d t : Nat) (x : Operand) : exL E me pc ic n0 sz k (⟨some d, .makeInterface t x, none, lm⟩ :: r) ⟨T, M⟩ = (if E.sent t = true then none else Zsh E.P t (evO E T x)).bind fun y => exL E me pc ic n0 sz (k + 1) r ⟨T.set d y, M⟩ :=
  Zh2 (fun ρ get => if E.sent t = true then none else Zsh E.P t (ρ x)) (fun _ => rfl) (fun a ρ get => by
    simp only [Zqy, act, Zsh]
    cases hs : E.sent t with
    | true => rfl
    | false =>
      simp only [Bool.false_eq_true, if_false]
      cases Zbz E.P t with
      | none => rfl
      | some ti =>
        obtain ⟨kd, a1, a2, a3⟩ := ti
        cases kd <;> rfl)

@[simp] theorem Zarw (d f : Nat) (a c : Array Operand) : exL E me pc ic n0 sz k (⟨some d, .makeFunc (.func f) a c, none, lm⟩ :: r) ⟨T, M⟩ = exL E me pc ic n0 sz (k + 1) r ⟨T.set d (.fn f (a.toList.map (evO E T)) (c.toList.map (evO E T))), M⟩ :=
  Zh2 (fun ρ _ => some (.fn f (a.toList.map ρ) (c.toList.map ρ))) (fun _ => rfl) (fun _ _ _ => rfl)

@[simp] theorem exL_len (d t : Nat) (x : Operand) : exL E me pc ic n0 sz k (⟨some d, .call { callee := .builtin .len, args := #[x], argTypes := #[t] }, none, lm⟩ :: r) ⟨T, M⟩ = (Zex E.P t (evO E T x)).bind fun y => exL E me pc ic n0 sz (k + 1) r ⟨T.set d y, M⟩ :=
  Zh2 (fun ρ get => Zex E.P t (ρ x)) (fun _ => rfl) (fun _ _ _ => rfl)
@[simp] theorem exL_min (d : Nat) (xs : Array Operand) (ts : Array Nat) : exL E me pc ic n0 sz k (⟨some d, .call { callee := .builtin .min, args := xs, argTypes := ts }, none, lm⟩ :: r) ⟨T, M⟩ = (mmS false (xs.toList.map (evO E T))).bind fun y => exL E me pc ic n0 sz (k + 1) r ⟨T.set d y, M⟩ :=
  Zh2 (fun ρ get => mmS false (xs.toList.map ρ)) (fun _ => rfl) (fun _ _ _ => rfl)
@[simp] theorem exL_max (d : Nat) (xs : Array Operand) (ts : Array Nat) : exL E me pc ic n0 sz k (⟨some d, .call { callee := .builtin .max, args := xs, argTypes := ts }, none, lm⟩ :: r) ⟨T, M⟩ = (mmS true (xs.toList.map (evO E T))).bind fun y => exL E me pc ic n0 sz (k + 1) r ⟨T.set d y, M⟩ :=
  Zh2 (fun ρ get => mmS true (xs.toList.map ρ)) (fun _ => rfl) (fun _ _ _ => rfl)

@[simp] theorem exL_box (d t : Nat) (x : Operand) : exL E me pc ic n0 sz k (⟨some d, .box t x, none, lm⟩ :: r) ⟨T, M⟩ =
    if (evO E T x).sto then exL E me pc ic n0 sz (k + 1) r ⟨T.set d (.ptr (n0 + k) 0 0), M.set (n0 + k) (some [evO E T x])⟩ else none := by
  rw [Zmo (fun _ => rfl)]
  simp only [Zqy, act]
  split <;> rfl

def zeroS (P : Program) (t : Nat) : Option SV := match Zbz P t with
  | some ti => match ti.zero with
    | some z => if z.sto then some z else none
    | none => none
  | none => none
@[simp] theorem Zavk (d t : Nat) : exL E me pc ic n0 sz k (⟨some d, .alloc t, none, lm⟩ :: r) ⟨T, M⟩ =
    (zeroS E.P t).bind fun z => exL E me pc ic n0 sz (k + 1) r ⟨T.set d (.ptr (n0 + k) 0 0), M.set (n0 + k) (some [z])⟩ := by
  rw [Zmo (fun _ => rfl)]
  simp only [Zqy, act, zeroS]
  cases Zbz E.P t with
  | none => rfl
  | some ti =>
    obtain ⟨kd, a1, a2, a3⟩ := ti
    cases a3 with
    | none => rfl
    | some z =>
      cases hz : z.sto <;> simp [hz, Zlt]

@[simp] theorem Zawn (t : Nat) (x y : Operand) : exL E me pc ic n0 sz k (⟨none, .store t x y, none, lm⟩ :: r) ⟨T, M⟩ =
    (Zi E.P (Zot M n0 sz lm) t (evO E T x) (evO E T y)).bind fun u => exL E me pc ic n0 sz (k + 1) r ⟨T, M.sets u⟩ := by
  rw [Zmo (fun _ => rfl)]
  simp only [Zqy, act]
  cases Zi E.P (Zot M n0 sz lm) t (evO E T x) (evO E T y) <;> rfl

@[simp] theorem Zat7 (d t t2 : Nat) (x y : Operand) : exL E me pc ic n0 sz k (⟨some d, .call { callee := .builtin .append, args := #[x, y], argTypes := #[t, t2] }, none, lm⟩ :: r) ⟨T, M⟩ =
    (Zef E.P (Zot M n0 sz lm) (n0 + k) t t2 (evO E T x) (evO E T y)).bind fun q => exL E me pc ic n0 sz (k + 1) r ⟨T.set d q.1, M.sets q.2⟩ := by
  rw [Zmo (fun _ => rfl)]
  rfl

@[simp] theorem exL_copy (d t t2 : Nat) (x y : Operand) : exL E me pc ic n0 sz k (⟨some d, .call { callee := .builtin .copy, args := #[x, y], argTypes := #[t, t2] }, none, lm⟩ :: r) ⟨T, M⟩ =
    (copyS E.P (Zot M n0 sz lm) t (evO E T x) (evO E T y)).bind fun q => exL E me pc ic n0 sz (k + 1) r ⟨T.set d q.1, M.sets q.2⟩ := by
  rw [Zmo (fun _ => rfl)]
  rfl

def Zny (P : Program) (t : Nat) (l : List (Nat × SV)) : Option SV := match Zbz P t with
  | some ti => match ti.zero, placesOf P ti.kind with
    | some (.agg zs), some pl => match Zeb pl zs l with | some cs => some (.agg cs) | none => none
    | _, _ => none
  | none => none
@[simp] theorem Zavx (d t : Nat) (ps : Array (Nat × Operand)) : exL E me pc ic n0 sz k (⟨some d, .build t ps, none, lm⟩ :: r) ⟨T, M⟩ =
    (Zny E.P t (ps.toList.map fun p => (p.1, evO E T p.2))).bind fun y => exL E me pc ic n0 sz (k + 1) r ⟨T.set d y, M⟩ :=
  Zh2 (fun ρ get => Zny E.P t (ps.toList.map fun p => (p.1, ρ p.2))) (fun _ => rfl) (fun a ρ get => by
    simp only [Zqy, act, Zny]
    cases Zbz E.P t with
    | none => rfl
    | some ti =>
      simp only
      generalize ti.zero = z
      generalize placesOf E.P ti.kind = q
      cases z with
      | none => rfl
      | some z =>
        cases z <;> first | rfl | (cases q <;> rfl))

def Zf7 (P : Program) (t len a : Nat) (l : List (Nat × SV)) : Option (SV × List SV) := match Zbz P t with
  | some ⟨.slice e, _, _, _⟩ => match Zbz P e with
    | some te => match te.zero with
      | some z => if z.sto = true ∧ z.cells.length = te.size ∧ 0 < te.size ∧ len * te.size ≤ 16777216 then
          (match Zb4 te.size len (List.replicate len z) l with
          | some xs => some (.own a te.size 0 len, xs)
          | none => none) else none
      | none => none
    | none => none
  | _ => none
@[simp] theorem Zaon (d t len : Nat) (ps : Array (Nat × Operand)) : exL E me pc ic n0 sz k (⟨some d, .buildSlice t len ps, none, lm⟩ :: r) ⟨T, M⟩ =
    (Zf7 E.P t len (n0 + k) (ps.toList.map fun p => (p.1, evO E T p.2))).bind fun q => exL E me pc ic n0 sz (k + 1) r ⟨T.set d q.1, M.set (n0 + k) (some q.2)⟩ := by
  rw [Zmo (fun _ => rfl)]
  simp only [Zqy, act, Zf7]
  cases Zbz E.P t with
  | none => rfl
  | some ti =>
    obtain ⟨kd, a1, a2, a3⟩ := ti
    cases kd <;> first | rfl | skip
    rename_i e
    simp only
    cases Zbz E.P e with
    | none => rfl
    | some te =>
      simp only
      cases te.zero with
      | none => rfl
      | some z =>
        simp only
        split
        · rename_i hc
          generalize Zb4 te.size len (List.replicate len z) _ = q
          cases q <;> rfl
        · rfl

def mkSl (P : Program) (t a : Nat) (l c : SV) : Option (SV × List SV) := match Zbz P t with
  | some ⟨.slice e, _, _, _⟩ => match Zbz P e, l, c with
    | some te, .int .i64 n, .int .i64 m => match te.zero with
      | some z => if z.sto = true ∧ z.cells.length = te.size ∧ 0 < te.size ∧ n = m ∧ 0 ≤ n ∧ n * te.bytes ≤ 281474976710656 ∧ n ≤ 281474976710656 then
          some (.own a te.size 0 n.toNat, List.replicate n.toNat z) else none
      | none => none
    | _, _, _ => none
  | _ => none
@[simp] theorem Zao1 (d t : Nat) (l c : Operand) : exL E me pc ic n0 sz k (⟨some d, .makeSlice t l c, none, lm⟩ :: r) ⟨T, M⟩ =
    (mkSl E.P t (n0 + k) (evO E T l) (evO E T c)).bind fun q => exL E me pc ic n0 sz (k + 1) r ⟨T.set d q.1, M.set (n0 + k) (some q.2)⟩ := by
  rw [Zmo (fun _ => rfl)]
  simp only [Zqy, act, mkSl]
  cases Zbz E.P t with
  | none => rfl
  | some ti =>
    obtain ⟨kd, a1, a2, a3⟩ := ti
    cases kd <;> first | rfl | skip
    rename_i e
    simp only
    cases Zbz E.P e with
    | none => rfl
    | some te =>
      generalize evO E T l = x
      generalize evO E T c = y
      cases x <;> first | rfl | skip
      rename_i k1 n1
      cases k1 <;> first | rfl | skip
      cases y <;> first | rfl | skip
      rename_i k2 n2
      cases k2 <;> first | rfl | skip
      simp only
      cases te.zero with
      | none => rfl
      | some z =>
        simp only
        split <;> rfl

/-! ### Calls -/

/-- A call by number, in memory of its own. -/
def Za0 (pc : PC) (get : Nat → Option (List SV)) (f : Nat) (xs : List SV) : Option SV :=
  match xs.mapM (pic get false Zar) with
  | some args => pc f args
  | none => none

theorem Zao3 (d f : Nat) (xs : Array Operand) (ts : Array Nat) (h : ((E.prim f).isSome || E.imp me f) = false) :
    exL E me pc ic n0 sz k (⟨some d, .call { callee := .value (.func f), args := xs, argTypes := ts }, none, lm⟩ :: r) ⟨T, M⟩ =
      (Za0 pc (Zot M n0 sz lm) f (xs.toList.map (evO E T))).bind fun y => exL E me pc ic n0 sz (k + 1) r ⟨T.set d y, M⟩ := by
  have hi : Z14 E me (evO E T) (.call { callee := .value (.func f), args := xs, argTypes := ts }) = none := by
    simp [Z14, Zd8, h]
  simp only [exL, exI, Z3n, hi]
  simp only [Zqy, act, Zapp, Za0, List.append_nil, List.nil_append]
  cases List.mapM (pic (Zot M n0 sz lm) false Zar) (xs.toList.map (evO E T)) with
  | none => rfl
  | some args =>
    simp only
    cases pc f args <;> rfl

theorem Zamu (d f : Nat) (xs : Array Operand) (ts : Array Nat) (h : ((E.prim f).isSome || E.imp me f) = true) :
    exL E me pc ic n0 sz k (⟨some d, .call { callee := .value (.func f), args := xs, argTypes := ts }, none, lm⟩ :: r) ⟨T, M⟩ =
      (ic f (xs.toList.map (evO E T)) M).bind fun q => exL E me pc ic n0 sz (k + 1) r ⟨T.set d q.1, q.2⟩ := by
  have hi : Z14 E me (evO E T) (.call { callee := .value (.func f), args := xs, argTypes := ts }) = some (f, xs.toList.map (evO E T)) := by
    simp [Z14, Zd8, h]
  simp only [exL, exI, Z3n, hi]
  cases ic f (xs.toList.map (evO E T)) M <;> rfl

/-- A function's body, by its short code. -/
theorem Zab {f : Nat} {fn : Func} {c' : C} {rs : List ResultVar} {args T' : List SV} (hp : E.prim f = none) (hf : E.P.funcs[f]? = some fn) (hb : fn.body.map (comp E f) = some c')
    (hn : decide (fn.name = "runtime.NumGoroutine") = false) (hr : fn.results.toList = rs) (hT : args ++ List.replicate (fn.ntmps - args.length) .Z = T') (M : Mem) :
    ICw E f args M = Zx E rs (evW E f c' ⟨T', M⟩) := by
  cases hc : fn.body with
  | none => rw [hc] at hb; cases hb
  | some c =>
    rw [hc] at hb
    simp only [Option.map_some, Option.some.injEq] at hb
    subst hb hr hT
    exact Zap2 hp hf hc (of_decide_eq_false hn) args M

/-! ### Guards -/

theorem Zxb {d : Option Nat} {op : Op} {t : Nat} {want b : Bool} (hb : T[t]? = some (.bool b)) (h : (b == want) = false) :
    exL E me pc ic n0 sz k (⟨d, op, some (some t, want), lm⟩ :: r) ⟨T, M⟩ = exL E me pc ic n0 sz (k + 1) r ⟨Zlt T d (.tup []), M⟩ := by
  simp only [exL, exI, Z3n, hb, h]

theorem Z12 {d : Option Nat} {op : Op} {t : Nat} {want : Bool} (hb : T[t]? = some (.tup [])) :
    exL E me pc ic n0 sz k (⟨d, op, some (some t, want), lm⟩ :: r) ⟨T, M⟩ = exL E me pc ic n0 sz (k + 1) r ⟨Zlt T d (.tup []), M⟩ := by
  simp only [exL, exI, Z3n, hb]

theorem Zvi {d : Option Nat} {op : Op} {t : Nat} {want b : Bool} (hb : T[t]? = some (.bool b)) (h : (b == want) = true) :
    exL E me pc ic n0 sz k (⟨d, op, some (some t, want), lm⟩ :: r) ⟨T, M⟩ = exL E me pc ic n0 sz k (⟨d, op, none, lm⟩ :: r) ⟨T, M⟩ := by
  simp only [exL, exI, Z3n, hb, h]

@[simp] theorem Zau1 {d : Option Nat} {op : Op} {t : Nat} (h : T[t]? = some (.bool true)) :
    exL E me pc ic n0 sz k (⟨d, op, some (some t, true), lm⟩ :: r) ⟨T, M⟩ = exL E me pc ic n0 sz k (⟨d, op, none, lm⟩ :: r) ⟨T, M⟩ := Zvi h rfl
@[simp] theorem exL_t_no {d : Option Nat} {op : Op} {t : Nat} (h : T[t]? = some (.bool false)) :
    exL E me pc ic n0 sz k (⟨d, op, some (some t, true), lm⟩ :: r) ⟨T, M⟩ = exL E me pc ic n0 sz (k + 1) r ⟨Zlt T d (.tup []), M⟩ := Zxb h rfl
@[simp] theorem Zau2 {d : Option Nat} {op : Op} {t : Nat} (h : T[t]? = some (.bool false)) :
    exL E me pc ic n0 sz k (⟨d, op, some (some t, false), lm⟩ :: r) ⟨T, M⟩ = exL E me pc ic n0 sz k (⟨d, op, none, lm⟩ :: r) ⟨T, M⟩ := Zvi h rfl
@[simp] theorem exL_f_no {d : Option Nat} {op : Op} {t : Nat} (h : T[t]? = some (.bool true)) :
    exL E me pc ic n0 sz k (⟨d, op, some (some t, false), lm⟩ :: r) ⟨T, M⟩ = exL E me pc ic n0 sz (k + 1) r ⟨Zlt T d (.tup []), M⟩ := Zxb h rfl
@[simp] theorem Zauk {d : Option Nat} {op : Op} {t : Nat} {want : Bool} (h : T[t]? = some (.tup [])) :
    exL E me pc ic n0 sz k (⟨d, op, some (some t, want), lm⟩ :: r) ⟨T, M⟩ = exL E me pc ic n0 sz (k + 1) r ⟨Zlt T d (.tup []), M⟩ := Z12 h

@[simp] theorem Zav0 (T : List SV) (d : Nat) (v : SV) : Zlt T (some d) v = T.set d v := rfl
@[simp] theorem Zavl (T : List SV) (v : SV) : Zlt T none v = T := rfl

/-! ### Pictures -/

theorem Zwn : ∀ {n m : Nat} {x : SV}, n ≤ m → np n x = true → np m x = true
  | 0, m, x, _, h => Zac h m
  | n + 1, 0, x, hl, h => by omega
  | n + 1, m + 1, x, hl, h => by
    have ih : ∀ {x : SV}, np n x = true → np m x = true := fun h => Zwn (by omega) h
    simp only [np, Bool.or_eq_true] at h ⊢
    rcases h with h | h
    · exact .inl h
    · refine .inr ?_
      cases x <;> simp only [Bool.and_eq_true, List.all_eq_true] at h ⊢ <;> first | (cases h; done) | skip
      · exact fun y hy => ih (h y hy)
      · exact fun y hy => ih (h y hy)
      · exact ⟨fun y hy => ih (h.1 y hy), fun y hy => ih (h.2 y hy)⟩
      · exact ih h
      · exact fun y hy => ih (h y hy)
      · exact fun y hy => ih (h y hy)

theorem Zapq {pc : PC} {get : Nat → Option (List SV)} {f : Nat} {xs : List SV} (h : ∀ x ∈ xs, np Zar x = true) : Za0 pc get f xs = pc f xs := by
  unfold Za0
  rw [Zmn fun x hx => Zd3 (h x hx)]

theorem Z4 {pc : PC} {get : Nat → Option (List SV)} {f : Nat} {xs : List SV} {v : SV} (h : pc f xs = some v) (hn : xs.all (np Zar) = true) : Za0 pc get f xs = some v := by
  rw [Zapq fun x hx => List.all_eq_true.1 hn x hx, h]

/-- What a call hands back, where it is plain. -/
theorem Zal9 {f : Nat} {args : List SV} {v : SV} {M : Mem} (h : ICw E f args .empty = some (v, M)) (hv : pv v = true) : PCw E f args = some v := by
  unfold PCw Zzd
  rw [h]
  simp only
  rw [Zd3 (Zac hv _)]
  simp [hv]

theorem Zr8 {f : Nat} {args : List SV} {v v' : SV} {M : Mem} (h : ICw E f args .empty = some (v, M)) (hp : pic M.blk true Zar v = some v') (hv : pv v' = true) : PCw E f args = some v' := by
  unfold PCw Zzd
  rw [h]
  simp only
  rw [hp]
  simp [hv]

theorem Zvo : ∀ {l : List SV}, (∀ x ∈ l, pv x = true) → pvs l = true
  | [], _ => rfl
  | x :: r, h => by simp only [pvs, h x (by simp), Zvo (l := r) fun y hy => h y (by simp [hy]), Bool.and_self]

/-- A slice of a call's own, handed on: a picture. -/
theorem Zaqg {get : Nat → Option (List SV)} {id esz len : Nat} {items : List SV} (hg : get id = some items) (hl : len ≤ items.length) (hp : ∀ x ∈ items, np 11 x = true) :
    pic get false Zar (.own id esz 0 len) = some (.sl (items.take len) .snap) := by
  unfold Zar pic
  simp only [pv, Bool.false_eq_true, if_false, hg, Nat.zero_add, if_pos hl, List.drop_zero]
  rw [Zmn fun x hx => Zd3 (hp x (List.mem_of_mem_take hx))]

theorem Zm7 {pc : PC} {get : Nat → Option (List SV)} {f : Nat} {xs ys : List SV} (h : xs.mapM (pic get false Zar) = some ys) : Za0 pc get f xs = pc f ys := by
  unfold Za0
  rw [h]

/-- A slice of a call's own, handed back: a list. -/
theorem Zank {get : Nat → Option (List SV)} {id esz len : Nat} {items : List SV} (hg : get id = some items) (hl : len ≤ items.length) (hp : ∀ x ∈ items, pv x = true) :
    pic get true Zar (.own id esz 0 len) = some (.sl (items.take len) .ro) := by
  unfold Zar pic
  simp only [pv, Bool.false_eq_true, if_false, hg, Nat.zero_add, if_pos hl, List.drop_zero]
  rw [Zmn fun x hx => Zd3 (Zac (hp x (List.mem_of_mem_take hx)) _)]
  simp

end Go.Proofs.YtfphjfbknphhjaaGreatDoor.Sh

/-
  The shadow interpreter, text 17: slices, numbers, for the walks. No condition.
-/
set_option linter.unusedVariables false
set_option linter.unusedSimpArgs false
namespace Go.Proofs.YtfphjfbknphhjaaGreatDoor.Sh
variable {P : Program} {α : Type}

/-- The items of a slice that came in. -/
def its : SV → List SV
  | .sl l _ => l
  | _ => []
def Ztp : SV → Bool
  | .nilsl => true
  | .sl _ _ => true
  | _ => false
def Zwi : SV → Bool
  | .sl _ tl => tl != .snap
  | _ => true

/-- A slice whose items stand for those of a list. -/
structure RSl (R : SV → α → Prop) (x : SV) (l : List α) : Prop where
  sl : Ztp x = true
  len : (its x).length = l.length
  at' : ∀ (j : Nat) (y : SV) (a : α), (its x)[j]? = some y → l[j]? = some a → R y a

theorem RSl.get {R : SV → α → Prop} {x : SV} {l : List α} (h : RSl R x l) {j : Nat} (hj : j < l.length) : ∃ y, (its x)[j]? = some y ∧ R y l[j] := by
  have hj' : j < (its x).length := by rw [h.len]; exact hj
  exact ⟨(its x)[j], by simp [hj'], h.at' j _ _ (by simp [hj']) (by simp [hj])⟩

theorem RSl.np {R : SV → α → Prop} {x : SV} {l : List α} (h : RSl R x l) {n : Nat} (hR : ∀ y a, R y a → np n y = true) : np (n + 1) x = true := by
  have hs := h.sl
  have ha := h.len
  cases x <;> simp [Ztp] at hs
  · exact Zac rfl _
  · rename_i items tl
    simp only [Sh.np, Bool.or_eq_true]
    refine .inr (List.all_eq_true.2 fun y hy => ?_)
    obtain ⟨j, hj, rfl⟩ := List.mem_iff_getElem.1 hy
    have hj' : j < l.length := by rw [← ha]; exact hj
    exact hR _ l[j] (h.at' j _ _ (by simp [its, hj]) (by simp [hj']))

theorem RSl.pv {R : SV → α → Prop} {items : List SV} {tl : Tl} {l : List α} (h : RSl R (.sl items tl) l) (hR : ∀ y a, R y a → Sh.pv y = true) : ∀ y ∈ items, Sh.pv y = true := by
  intro y hy
  obtain ⟨j, hj, rfl⟩ := List.mem_iff_getElem.1 hy
  have hj' : j < l.length := by rw [← h.len]; exact hj
  exact hR _ l[j] (h.at' j _ _ (by simp [its, hj]) (by simp [hj']))

theorem RSl.nil (R : SV → α → Prop) : RSl R .nilsl [] := ⟨rfl, rfl, fun j y a h => by simp [its] at h⟩

theorem Zasu {x : SV} {t e a b : Nat} {z : Option SV} (h : Ztp x = true) (ht : Zbz P t = some ⟨.slice e, a, b, z⟩) : Zex P t x = some (.int .i64 (its x).length) := by
  cases x <;> simp [Ztp] at h <;> simp [Zex, ht, its]

theorem RSl.Zex {R : SV → α → Prop} {x : SV} {l : List α} (h : RSl R x l) {t e a b : Nat} {z : Option SV} (ht : Zbz P t = some ⟨.slice e, a, b, z⟩) : Sh.Zex P t x = some (.int .i64 l.length) := by
  rw [Zasu h.sl ht, h.len]

theorem Zxn {x y : SV} {t e a b : Nat} {z : Option SV} {te : TI} {k : IntKind} {i : Int} {j : Nat} (h : Ztp x = true) (ht : Zbz P t = some ⟨.slice e, a, b, z⟩) (hte : Zbz P e = some te)
    (hi : i = (j : Int)) (hy : (its x)[j]? = some y) (hc : y.cells.length = te.size) : Z9 P t x (.int k i) = some (.rptr (its x) j 0 (Zwi x)) := by
  subst hi
  cases x <;> simp [Ztp] at h
  · simp [its] at hy
  · rename_i items tl
    have hn : Zs4 (.int k (j : Int)) = some j := by simp [Zs4]
    simp only [its] at hy ⊢
    simp only [Z9, ht, hn, hte, hy, hc, if_true, Zwi]

theorem Zl4 {get : Nat → Option (List SV)} {t i o : Nat} {items : List SV} {st : Bool} {x y : SV} {ti : TI} (ht : Zbz P t = some ti) (hx : items[i]? = some x) (hp : Zo ti x o = some y) :
    Zn P get t (.rptr items i o st) = some y := by
  simp only [Zn, ht, hx, hp]

theorem i64_in {n : Int} (h1 : -9223372036854775808 ≤ n) (h2 : n ≤ 9223372036854775807) : IntKind.i64.wrap n = n := by rw [IntKind.wrap_i64]; omega
/-! ### Numbers -/
variable {t : Nat} {c : Bool} {k : IntKind} {a b : Int}

@[simp] theorem binS_add : Zoq P .add t c (.int k a) (.int k b) = some (.int k (k.wrap (a + b))) := by simp [Zoq, Go.binOp, Op.intArith, Z2o, pure]
@[simp] theorem binS_sub : Zoq P .sub t c (.int k a) (.int k b) = some (.int k (k.wrap (a - b))) := by simp [Zoq, Go.binOp, Op.intArith, Z2o, pure]
@[simp] theorem binS_mul : Zoq P .mul t c (.int k a) (.int k b) = some (.int k (k.wrap (a * b))) := by simp [Zoq, Go.binOp, Op.intArith, Z2o, pure]
@[simp] theorem binS_lss : Zoq P .lss t c (.int k a) (.int k b) = some (.bool (decide (a < b))) := by simp [Zoq, Go.binOp, Op.intCmp, Z2o, pure]
@[simp] theorem binS_leq : Zoq P .leq t c (.int k a) (.int k b) = some (.bool (decide (a ≤ b))) := by simp [Zoq, Go.binOp, Op.intCmp, Z2o, pure]
@[simp] theorem binS_gtr : Zoq P .gtr t c (.int k a) (.int k b) = some (.bool (decide (b < a))) := by simp [Zoq, Go.binOp, Op.intCmp, Z2o, pure]
@[simp] theorem binS_geq : Zoq P .geq t c (.int k a) (.int k b) = some (.bool (decide (b ≤ a))) := by simp [Zoq, Go.binOp, Op.intCmp, Z2o, pure]
@[simp] theorem binS_eql : Zoq P .eql t c (.int k a) (.int k b) = some (.bool (decide (a = b))) := by simp [Zoq, Go.binOp, Op.intCmp, Z2o, pure]; rfl
@[simp] theorem binS_neq : Zoq P .neq t c (.int k a) (.int k b) = some (.bool (decide (a ≠ b))) := by simp [Zoq, Go.binOp, Op.intCmp, Z2o, pure]; rfl
theorem Zaoc {x y : Bool} {s bs : Nat} {z : Option SV} (ht : Zbz P t = some ⟨.bool, s, bs, z⟩) : Zoq P .eql t c (.bool x) (.bool y) = some (.bool (x == y)) := by simp [Zoq, eqS, ht]
def orI (k : IntKind) (x y : Int) : Int := k.wrap (BitVec.ofInt k.bits x ||| BitVec.ofInt k.bits y).toNat
@[simp] theorem binS_or : Zoq P .or t c (.int k a) (.int k b) = some (.int k (orI k a b)) := by simp [Zoq, Go.binOp, Op.intBits, Z2o, pure, orI]
@[simp] theorem unS_not (b : Bool) : unS .not (.bool b) = some (.bool (!b)) := rfl

/-- A loop that counts up: what holds at its head, round by round. -/
theorem Zke {E : Env} {me : Nat} {B : C} {T : Nat → List SV} {I : Nat → Mem → Prop} {len : Nat} {Q : Ex × St → Prop}
    (step : ∀ j M, j < len → I j M → (∃ M', evW E me B ⟨T j, M⟩ = some (.normal, ⟨T (j + 1), M'⟩) ∧ I (j + 1) M') ∨ ∃ r, evW E me B ⟨T j, M⟩ = some r ∧ r.1 ≠ .normal ∧ Q r)
    (fin : ∀ M, I len M → ∃ r, evW E me B ⟨T len, M⟩ = some r ∧ r.1 ≠ .normal ∧ Q r) (j : Nat) (M : Mem) (hj : j ≤ len) (hI : I j M) :
    ∃ r, evW E me (.loop B) ⟨T j, M⟩ = some r ∧ Q r := by
  have out : ∀ s : St, (∃ r, evW E me B s = some r ∧ r.1 ≠ .normal ∧ Q r) → ∃ r, evW E me (.loop B) s = some r ∧ Q r := by
    rintro s ⟨⟨e, s'⟩, h, he, hq⟩
    refine ⟨(e, s'), ?_, hq⟩
    rw [Zbl, h]
    cases e with
    | normal => exact absurd rfl he
    | exit => rfl
    | ret => rfl
  obtain ⟨n, hn⟩ : ∃ n, n = len - j := ⟨_, rfl⟩
  induction n generalizing j M with
  | zero =>
    obtain rfl : j = len := by omega
    exact out _ (fin M hI)
  | succ n ih =>
    rcases step j M (by omega) hI with ⟨M', h, hI'⟩ | h
    · rw [Zbl, h]
      exact ih (j + 1) M' (by omega) hI' (by omega)
    · exact out _ h

/-- The same, where what the temps hold hangs on a state of its own. -/
theorem Zr0 {E : Env} {me : Nat} {B : C} {β : Type} {T : Nat → β → List SV} {I : Nat → β → Mem → Prop} {len : Nat} {Q : Ex × St → Prop}
    (step : ∀ j b M, j < len → I j b M → (∃ b' M', evW E me B ⟨T j b, M⟩ = some (.normal, ⟨T (j + 1) b', M'⟩) ∧ I (j + 1) b' M') ∨ ∃ r, evW E me B ⟨T j b, M⟩ = some r ∧ r.1 ≠ .normal ∧ Q r)
    (fin : ∀ b M, I len b M → ∃ r, evW E me B ⟨T len b, M⟩ = some r ∧ r.1 ≠ .normal ∧ Q r) (j : Nat) (b : β) (M : Mem) (hj : j ≤ len) (hI : I j b M) :
    ∃ r, evW E me (.loop B) ⟨T j b, M⟩ = some r ∧ Q r := by
  have out : ∀ s : St, (∃ r, evW E me B s = some r ∧ r.1 ≠ .normal ∧ Q r) → ∃ r, evW E me (.loop B) s = some r ∧ Q r := by
    rintro s ⟨⟨e, s'⟩, h, he, hq⟩
    refine ⟨(e, s'), ?_, hq⟩
    rw [Zbl, h]
    cases e with
    | normal => exact absurd rfl he
    | exit => rfl
    | ret => rfl
  obtain ⟨n, hn⟩ : ∃ n, n = len - j := ⟨_, rfl⟩
  induction n generalizing j b M with
  | zero =>
    obtain rfl : j = len := by omega
    exact out _ (fin b M hI)
  | succ n ih =>
    rcases step j b M (by omega) hI with ⟨b', M', h, hI'⟩ | h
    · rw [Zbl, h]
      exact ih (j + 1) b' M' (by omega) hI' (by omega)
    · exact out _ h

/-! ### append -/

theorem Zpr {get : Nat → Option (List SV)} {a t t2 e s1 b1 : Nat} {z1 : Option SV} {k2 te : TI} {z x : SV} {ys : List SV} (ht : Zbz P t = some ⟨.slice e, s1, b1, z1⟩) (ht2 : Zbz P t2 = some k2) (hte : Zbz P e = some te)
    (hz : te.zero = some z) (hx : Zkn get x = some ys) (h0 : 0 < te.size) (hu : Zv5 te.size ys = true) (hf : Zj0 k2.kind te.size x = true) (hs : z.sto = true) (hc : z.cells.length = te.size)
    (h1 : ys.length * te.bytes ≤ 140737488355328) (h2 : ys.length ≤ 140737488355328) :
    Zef P get a t t2 .nilsl x = some (if ys.isEmpty then (.nilsl, []) else (.own a te.size 0 ys.length, [(a, some ys)])) := by
  simp only [Zef, ht, ht2, hte, hz, hx]
  rw [if_pos ⟨h0, hu, hf, hs, hc⟩]
  cases hy : ys.isEmpty
  · simp only [Bool.false_eq_true, if_false]
    rw [if_pos ⟨h1, h2⟩]
  · simp

theorem Zlv {get : Nat → Option (List SV)} {a t t2 e s1 b1 id len : Nat} {z1 : Option SV} {k2 te : TI} {z x : SV} {xs ys : List SV} (ht : Zbz P t = some ⟨.slice e, s1, b1, z1⟩) (ht2 : Zbz P t2 = some k2) (hte : Zbz P e = some te)
    (hz : te.zero = some z) (hx : Zkn get x = some ys) (h0 : 0 < te.size) (hu : Zv5 te.size ys = true) (hf : Zj0 k2.kind te.size x = true) (hs : z.sto = true) (hc : z.cells.length = te.size)
    (hg : get id = some xs) (hl : len ≤ xs.length) (h1 : (len + ys.length) * te.bytes ≤ 140737488355328) (h2 : len + ys.length ≤ 140737488355328) :
    Zef P get a t t2 (.own id te.size 0 len) x = some (if ys.isEmpty then (.own id te.size 0 len, []) else (.own a te.size 0 (len + ys.length), [(id, none), (a, some (xs.take len ++ ys))])) := by
  simp only [Zef, ht, ht2, hte, hz, hx]
  rw [if_pos ⟨h0, hu, hf, hs, hc⟩]
  cases hy : ys.isEmpty
  · simp only [Bool.false_eq_true, if_false, hg]
    rw [if_pos ⟨trivial, trivial, hl, h1, h2⟩]
  · simp

theorem Z0m {get : Nat → Option (List SV)} {x : SV} (h : Ztp x = true) : Zkn get x = some (its x) := by
  cases x <;> simp [Ztp] at h <;> rfl

theorem Zw0 {e n : Nat} {x : SV} (h : Ztp x = true) : Zj0 (.slice e) n x = true := by
  cases x <;> simp [Ztp] at h <;> rfl

theorem RSl.Zv5 {R : SV → α → Prop} {x : SV} {l : List α} (h : RSl R x l) {n : Nat} (hR : ∀ y a, R y a → y.cells.length = n) : Sh.Zv5 n (its x) = true := by
  refine Zqq.2 fun y hy => ?_
  obtain ⟨j, hj, rfl⟩ := List.mem_iff_getElem.1 hy
  have hj' : j < l.length := by rw [← h.len]; exact hj
  exact hR _ l[j] (h.at' j _ _ (by simp [hj]) (by simp [hj']))

theorem RSl.pvs {R : SV → α → Prop} {x : SV} {l : List α} (h : RSl R x l) (hR : ∀ y a, R y a → Sh.pv y = true) : ∀ y ∈ its x, Sh.pv y = true := by
  intro y hy
  obtain ⟨j, hj, rfl⟩ := List.mem_iff_getElem.1 hy
  have hj' : j < l.length := by rw [← h.len]; exact hj
  exact hR _ l[j] (h.at' j _ _ (by simp [hj]) (by simp [hj']))

/-- The same items, in another slice. -/
theorem RSl.Zaru {R : SV → α → Prop} {x y : SV} {l : List α} (h : RSl R x l) (hy : Ztp y = true) (he : its y = its x) : RSl R y l :=
  ⟨hy, by rw [he]; exact h.len, fun j u a hu ha => h.at' j u a (by rw [← he]; exact hu) ha⟩

/-- What a function gathers: nothing yet, or a block of its own. -/
def Zg1 (esz : Nat) (o : SV) (M : Mem) (items : List SV) : Prop := (items = [] ∧ o = .nilsl) ∨ ∃ id, o = .own id esz 0 items.length ∧ M.blk id = some items ∧ id < M.next

theorem Zad5 {E : Env} {f esz : Nat} {args : List SV} {Pr : List SV → Prop} (h : ∀ M, ∃ o M' items, ICw E f args M = some (o, M') ∧ Zg1 esz o M' items ∧ Pr items) (hp : ∀ items, Pr items → ∀ y ∈ items, Sh.pv y = true) :
    ∃ y items, PCw E f args = some y ∧ Pr items ∧ Ztp y = true ∧ its y = items ∧ Sh.pv y = true := by
  obtain ⟨o, M', items, h1, h2, h3⟩ := h .empty
  rcases h2 with ⟨rfl, rfl⟩ | ⟨id, rfl, h4, _⟩
  · exact ⟨.nilsl, [], Zal9 h1 rfl, h3, rfl, rfl, rfl⟩
  · have hpl := hp items h3
    have := Zank (esz := esz) h4 (Nat.le_refl _) hpl
    rw [List.take_length] at this
    have hv : Sh.pv (.sl items .ro) = true := by simp [Sh.pv, Zvo hpl]
    exact ⟨.sl items .ro, items, Zr8 h1 this hv, h3, rfl, rfl, hv⟩

/-- One more is gathered. -/
theorem Zah9 {get : Nat → Option (List SV)} {a t e s1 b1 s : Nat} {z1 : Option SV} {te : TI} {z v : SV} (ht : Zbz P t = some ⟨.slice e, s1, b1, z1⟩) (hte : Zbz P e = some te)
    (hz : te.zero = some z) (h0 : 0 < te.size) (hsz : z.sto = true) (hc : z.cells.length = te.size) (hv : v.cells.length = te.size) (hs : get s = some [v]) (hb : te.bytes ≤ 140737488355328) :
    Zef P get a t t .nilsl (.own s te.size 0 1) = some (.own a te.size 0 1, [(a, some [v])]) := by
  rw [Zpr (ys := [v]) ht ht hte hz (by simp [Zkn, hs]) h0 (by simp [Sh.Zv5, hv]) (by simp [Zj0]) hsz hc (by simpa using hb) (by simp)]
  rfl

theorem Zae7 {get : Nat → Option (List SV)} {a t e s1 b1 s id : Nat} {z1 : Option SV} {te : TI} {z v : SV} {items : List SV} (ht : Zbz P t = some ⟨.slice e, s1, b1, z1⟩) (hte : Zbz P e = some te)
    (hz : te.zero = some z) (h0 : 0 < te.size) (hsz : z.sto = true) (hc : z.cells.length = te.size) (hv : v.cells.length = te.size) (hs : get s = some [v]) (hi : get id = some items)
    (h1 : (items.length + 1) * te.bytes ≤ 140737488355328) (h2 : items.length + 1 ≤ 140737488355328) :
    Zef P get a t t (.own id te.size 0 items.length) (.own s te.size 0 1) = some (.own a te.size 0 (items.length + 1), [(id, none), (a, some (items ++ [v]))]) := by
  rw [Zlv (ys := [v]) (xs := items) ht ht hte hz (by simp [Zkn, hs]) h0 (by simp [Sh.Zv5, hv]) (by simp [Zj0]) hsz hc hi (Nat.le_refl _) (by simpa using h1) (by simpa using h2)]
  simp

@[simp] theorem Mem.eta (M : Mem) : (⟨M.blk, M.next⟩ : Mem) = M := rfl

theorem Za4 {E : Env} {f : Nat} {args : List SV} {v : SV} (h : ∀ M, ∃ M', ICw E f args M = some (v, M')) (hv : pv v = true) : PCw E f args = some v := by
  obtain ⟨M', h'⟩ := h .empty
  exact Zal9 h' hv

theorem Z6l {E : Env} {f esz : Nat} {args items : List SV} (h : ∀ M, ∃ M' id, ICw E f args M = some (.own id esz 0 items.length, M') ∧ M'.blk id = some items) (hp : ∀ y ∈ items, Sh.pv y = true) : PCw E f args = some (.sl items .ro) := by
  obtain ⟨M', id, h1, h2⟩ := h .empty
  have := Zank (esz := esz) h2 (Nat.le_refl _) hp
  rw [List.take_length] at this
  exact Zr8 h1 this (by simp [Sh.pv, Zvo hp])

theorem Zeu {E : Env} {f : Nat} {args : List SV} {r : SV} (n : Nat) (h : Zzd (Zju E n) f args = some r) : PCw E f args = some r := Zqf (Z6x n) _ _ _ h

theorem RSl.exists {R : SV → α → Prop} {tl : Tl} : ∀ {items : List SV}, (∀ y ∈ items, ∃ a, R y a) → ∃ l, RSl R (.sl items tl) l
  | [], _ => ⟨[], rfl, rfl, fun j y a h => by simp [its] at h⟩
  | y :: r, h => by
    obtain ⟨a, ha⟩ := h y (by simp)
    obtain ⟨l, hl⟩ := RSl.exists (tl := tl) (items := r) fun z hz => h z (by simp [hz])
    refine ⟨a :: l, rfl, by have := hl.len; simp [its] at this ⊢; exact this, fun j z b hj hb => ?_⟩
    cases j with
    | zero => simp [its] at hj hb; subst hj hb; exact ha
    | succ j => exact hl.at' j z b (by simpa [its] using hj) (by simpa using hb)

end Go.Proofs.YtfphjfbknphhjaaGreatDoor.Sh

/-
  The shadow interpreter, text 20: loops that look for something, memory that is old, what is gathered. No condition.
-/
set_option linter.unusedVariables false
set_option linter.unusedSimpArgs false
namespace Go.Proofs.YtfphjfbknphhjaaGreatDoor.Sh
variable {P : Program} {α : Type}

/-! ### Loops -/

/-- A loop that looks for the first j of a kind. -/
theorem Zdc {E : Env} {me : Nat} {B : C} {T : Nat → List SV} {I : Nat → Mem → Prop} {len : Nat} {p : Nat → Bool} {Q : Option Nat → Ex × St → Prop}
    (step : ∀ j M, j < len → I j M → p j = false → ∃ M', evW E me B ⟨T j, M⟩ = some (.normal, ⟨T (j + 1), M'⟩) ∧ I (j + 1) M')
    (hit : ∀ j M, j < len → I j M → p j = true → ∃ r, evW E me B ⟨T j, M⟩ = some r ∧ r.1 ≠ .normal ∧ Q (some j) r)
    (fin : ∀ M, I len M → ∃ r, evW E me B ⟨T len, M⟩ = some r ∧ r.1 ≠ .normal ∧ Q none r) (M : Mem) (hI : I 0 M) :
    ∃ r, evW E me (.loop B) ⟨T 0, M⟩ = some r ∧ Q ((List.range len).find? p) r := by
  have key := Zke (E := E) (me := me) (B := B) (T := T) (len := len) (I := fun j M => I j M ∧ ∀ i < j, p i = false) (Q := fun r => Q ((List.range len).find? p) r)
    (fun j M hj ⟨hI, hn⟩ => by
      cases hp : p j with
      | false =>
        left
        obtain ⟨M', h1, h2⟩ := step j M hj hI hp
        exact ⟨M', h1, h2, fun i hi => by
          rcases Nat.lt_or_ge i j with h | h
          · exact hn i h
          · obtain rfl : i = j := by omega
            exact hp⟩
      | true =>
        right
        obtain ⟨r, h1, h2, h3⟩ := hit j M hj hI hp
        refine ⟨r, h1, h2, ?_⟩
        have : (List.range len).find? p = some j := by
          rw [List.find?_range_eq_some]
          exact ⟨hp, by simpa using hj, fun i hi => by simp [hn i hi]⟩
        rw [this]
        exact h3)
    (fun M ⟨hI, hn⟩ => by
      obtain ⟨r, h1, h2, h3⟩ := fin M hI
      refine ⟨r, h1, h2, ?_⟩
      have : (List.range len).find? p = none := by
        rw [List.find?_range_eq_none]
        exact fun i hi => by simp [hn i hi]
      rw [this]
      exact h3) 0 M (Nat.zero_le _) ⟨hI, fun i hi => by omega⟩
  exact key

/-! ### Memory -/

/-- What was there is there. -/
def Old (M M' : Mem) : Prop := ∀ id, id < M.next → M'.blk id = M.blk id
@[simp] theorem Old.rfl' (M : Mem) : Old M M = True := by simp [Old]
@[simp] theorem Old.bump (M M' : Mem) (k : Nat) : Old M (M'.bump k) = Old M M' := rfl
@[simp] theorem Old.set (M M' : Mem) (k : Nat) (b : Option (List SV)) : Old M (M'.set (M.next + k) b) = Old M M' := by
  apply propext
  constructor <;> intro h id hid <;> have := h id hid
  · rwa [Mem.Ziy, if_neg (by omega)] at this
  · rwa [Mem.Ziy, if_neg (by omega)]
@[simp] theorem Old.set0 (M M' : Mem) (b : Option (List SV)) : Old M (M'.set M.next b) = Old M M' := Old.set M M' 0 b
@[simp] theorem Old.set2 (M M' : Mem) (k j : Nat) (b : Option (List SV)) : Old M (M'.set (M.next + k + j) b) = Old M M' := by rw [Nat.add_assoc]; exact Old.set M M' (k + j) b
@[simp] theorem Old.set3 (M M' : Mem) (k j i : Nat) (b : Option (List SV)) : Old M (M'.set (M.next + k + j + i) b) = Old M M' := by rw [Nat.add_assoc, Nat.add_assoc]; exact Old.set M M' (k + (j + i)) b
@[simp] theorem Old.set4 (M M' : Mem) (k j i h : Nat) (b : Option (List SV)) : Old M (M'.set (M.next + k + j + i + h) b) = Old M M' := by rw [Nat.add_assoc, Nat.add_assoc, Nat.add_assoc]; exact Old.set M M' (k + (j + (i + h))) b

@[simp] theorem Mem.Zr6 (M : Mem) (u v : List (Nat × Option (List SV))) : M.sets (u ++ v) = (M.sets u).sets v := by
  induction u generalizing M with
  | nil => rfl
  | cons p r ih => exact ih _
@[simp] theorem Mem.Zaur (M : Mem) (u : List (Nat × Option (List SV))) : (M.sets u).next = M.next := by
  induction u generalizing M with
  | nil => rfl
  | cons p r ih => exact ih _

/-! ### Gathering -/

/-- What becomes of the block that is appended to. -/
def Zrd : SV → List (Nat × Option (List SV))
  | .own id _ _ _ => [(id, none)]
  | _ => []

theorem Zg1.app {get : Nat → Option (List SV)} {o : SV} {M : Mem} {items : List SV} {a s t e s1 b1 : Nat} {z1 : Option SV} {te : TI} {z v : SV} (ht : Zbz P t = some ⟨.slice e, s1, b1, z1⟩) (hte : Zbz P e = some te)
    (hz : te.zero = some z) (h0 : 0 < te.size) (hsz : z.sto = true) (hc : z.cells.length = te.size) (hI : Zg1 te.size o M items) (h1 : (items.length + 1) * te.bytes ≤ 140737488355328) (h2 : items.length + 1 ≤ 140737488355328)
    (hg : ∀ id, id < M.next → get id = M.blk id) (hv : v.cells.length = te.size) (hs : get s = some [v]) :
    Zef P get a t t o (.own s te.size 0 1) = some (.own a te.size 0 (items.length + 1), Zrd o ++ [(a, some (items ++ [v]))]) := by
  rcases hI with ⟨rfl, rfl⟩ | ⟨id, rfl, hid, hlt⟩
  · exact Zah9 ht hte hz h0 hsz hc hv hs (by simpa using h1)
  · exact Zae7 ht hte hz h0 hsz hc hv hs ((hg id hlt).trans hid) h1 h2

theorem Zg1.snoc {esz a : Nat} {M : Mem} {items : List SV} {v : SV} (h1 : M.blk a = some (items ++ [v])) (h2 : a < M.next) : Zg1 esz (.own a esz 0 (items.length + 1)) M (items ++ [v]) :=
  .inr ⟨a, by simp, h1, h2⟩

/-- What was gathered stays, where memory goes on. -/
theorem Zg1.old {esz : Nat} {o : SV} {M M' : Mem} {items : List SV} (h : Zg1 esz o M items) (ho : Old M M') (hn : M.next ≤ M'.next) : Zg1 esz o M' items := by
  rcases h with ⟨rfl, rfl⟩ | ⟨id, rfl, hid, hlt⟩
  · exact .inl ⟨rfl, rfl⟩
  · exact .inr ⟨id, rfl, (ho id hlt).trans hid, by omega⟩

/-- What was gathered, handed on: a picture. -/
theorem Zg1.pic {esz : Nat} {o : SV} {M : Mem} {items : List SV} (h : Zg1 esz o M items) (hp : ∀ x ∈ items, np 11 x = true) :
    ∃ y, pic M.blk false Zar o = some y ∧ Ztp y = true ∧ its y = items ∧ Sh.np Zar y = true := by
  rcases h with ⟨rfl, rfl⟩ | ⟨id, rfl, hid, _⟩
  · exact ⟨.nilsl, rfl, rfl, rfl, rfl⟩
  · refine ⟨.sl items .snap, ?_, rfl, rfl, ?_⟩
    · rw [Zaqg hid (Nat.le_refl _) hp]; simp
    · simp only [Zar, np, Bool.or_eq_true]
      exact .inr (List.all_eq_true.2 hp)

theorem RSl.snoc {R : SV → α → Prop} {items : List SV} {tl : Tl} {l : List α} {y : SV} {h : α} (hl : RSl R (.sl items tl) l) (hy : R y h) : RSl R (.sl (items ++ [y]) tl) (l ++ [h]) := by
  refine ⟨rfl, by have := hl.len; simp [its] at this ⊢; exact this, fun j u a hu ha => ?_⟩
  have hlen := hl.len
  simp only [its] at hlen hu
  rw [List.getElem?_append] at hu ha
  rw [← hlen] at ha
  split at hu
  · rename_i hlt
    rw [if_pos hlt] at ha
    exact hl.at' j u a hu ha
  · rename_i hlt
    rw [if_neg hlt] at ha
    have : j - items.length = 0 := by
      have := (List.getElem?_eq_some_iff.1 hu).1
      simp at this
      omega
    rw [this] at hu ha
    simp at hu ha
    subst hu ha
    exact hy

theorem RSl.empty {R : SV → α → Prop} {tl : Tl} : RSl R (.sl [] tl) ([] : List α) := ⟨rfl, rfl, fun j y a h => by simp [its] at h⟩

/-! ### Rows of plain data: a list, each written by a function -/

theorem RSl.map {enc : α → SV} {x : SV} {l : List α} (h : RSl (fun y a => y = enc a) x l) : its x = l.map enc := by
  apply List.ext_getElem
  · rw [h.len, List.length_map]
  · intro j h1 h2
    have h2' : j < l.length := by simpa using h2
    rw [List.getElem_map]
    exact h.at' j _ _ (by simp [h1]) (by simp [h2'])

theorem RSl.of_map {enc : α → SV} {x : SV} {l : List α} (hs : Ztp x = true) (h : its x = l.map enc) : RSl (fun y a => y = enc a) x l :=
  ⟨hs, by rw [h, List.length_map], fun j y a hy ha => by
    rw [h, List.getElem?_map, ha] at hy
    simpa using hy.symm⟩

/-- The address of an item of such a row. -/
theorem RSl.at {enc : α → SV} {x : SV} {l : List α} (h : RSl (fun y a => y = enc a) x l) {t e a b : Nat} {z : Option SV} {te : TI} (ht : Zbz P t = some ⟨.slice e, a, b, z⟩) (hte : Zbz P e = some te)
    (hc : ∀ a, (enc a).cells.length = te.size) {j : Nat} (hj : j < l.length) : Z9 P t x (.int .i64 j) = some (.rptr (l.map enc) j 0 (Zwi x)) := by
  rw [← h.map]
  exact Zxn h.sl ht hte rfl (y := enc l[j]) (by rw [h.map]; simp [hj]) (hc _)

/-! ### Numbers -/
variable {t : Nat} {c : Bool} {k : IntKind} {a b : Int}
@[simp] theorem binS_quo (h : b ≠ 0) : Zoq P .quo t c (.int k a) (.int k b) = some (.int k (k.wrap (a.tdiv b))) := by simp [Zoq, Go.binOp, Op.intDiv, Z2o, pure, h]
@[simp] theorem Zapl (h : b ≠ 0) : Zoq P .rem t c (.int k a) (.int k b) = some (.int k (a.tmod b)) := by simp [Zoq, Go.binOp, Op.intDiv, Z2o, pure, h]
@[simp] theorem binS_shr {yk : IntKind} (h : 0 ≤ b) : Zoq P .shr t c (.int k a) (.int yk b) = some (.int k (a.fdiv (2 ^ (min b.toNat k.bits)))) := by
  have h' : ¬ b < 0 := by omega
  simp [Zoq, Go.binOp, Op.shift, Z2o, pure, h']
def Ztw (k : IntKind) (x y : Int) : Int := k.wrap (BitVec.ofInt k.bits x &&& BitVec.ofInt k.bits y).toNat
@[simp] theorem binS_and : Zoq P .and t c (.int k a) (.int k b) = some (.int k (Ztw k a b)) := by simp [Zoq, Go.binOp, Op.intBits, Z2o, pure, Ztw]
@[simp] theorem unS_neg : unS .neg (.int k a) = some (.int k (k.wrap (0 - a))) := by simp [unS, Op.unary, Op.intArith, Z2o, pure]
@[simp] theorem mm_min2 : mmS false [.int k a, .int k b] = some (.int k (min a b)) := by
  simp only [mmS, mmGo, Bool.false_eq_true, if_false]; congr 2; rw [Int.min_def]; split <;> split <;> omega
@[simp] theorem mm_max2 : mmS true [.int k a, .int k b] = some (.int k (max a b)) := by
  simp only [mmS, mmGo, if_true]; congr 2; rw [Int.max_def]; split <;> split <;> omega
@[simp] theorem mm_min3 {d : Int} : mmS false [.int k a, .int k b, .int k d] = some (.int k (min (min a b) d)) := by
  simp only [mmS, mmGo, Bool.false_eq_true, if_false]; congr 2; simp only [Int.min_def]; repeat' split <;> omega
@[simp] theorem mm_max3 {d : Int} : mmS true [.int k a, .int k b, .int k d] = some (.int k (max (max a b) d)) := by
  simp only [mmS, mmGo, if_true]; congr 2; simp only [Int.max_def]; repeat' split <;> omega

/-- Within what an int64 holds. -/
def I64 (n : Int) : Prop := -9223372036854775808 ≤ n ∧ n ≤ 9223372036854775807
theorem I64.wrap {n : Int} (h : I64 n) : IntKind.i64.wrap n = n := i64_in h.1 h.2
def w64 (n : Int) : Int := IntKind.i64.wrap n

end Go.Proofs.YtfphjfbknphhjaaGreatDoor.Sh

/-
  The shadow interpreter, text 21: items of a type, calls of function values. No condition.
-/
set_option linter.unusedVariables false
set_option linter.unusedSimpArgs false
namespace Go.Proofs.YtfphjfbknphhjaaGreatDoor.Sh
variable {P : Program} {α : Type}

/-! ### Items of a type -/

/-- What is asked of what stands for an item: so many cells, whole, plain to hand on. -/
structure Elm (R : SV → α → Prop) (te : TI) : Prop where
  cells : ∀ {y a}, R y a → y.cells.length = te.size
  part : ∀ {y a}, R y a → Zo te y 0 = some y
  np : ∀ {y a}, R y a → np 10 y = true
  sto : ∀ {y a}, R y a → y.sto = true

theorem RSl.item {R : SV → α → Prop} {x : SV} {l : List α} (h : RSl R x l) {t e a b : Nat} {z : Option SV} {te : TI} (ht : Zbz P t = some ⟨.slice e, a, b, z⟩) (hte : Zbz P e = some te) (hE : Elm R te)
    {j : Nat} (hj : j < l.length) : ∃ y, R y l[j] ∧ (its x)[j]? = some y ∧ Z9 P t x (.int .i64 j) = some (.rptr (its x) j 0 (Zwi x)) ∧ ∀ get, Zn P get e (.rptr (its x) j 0 (Zwi x)) = some y := by
  obtain ⟨y, hy, hr⟩ := h.get hj
  exact ⟨y, hr, hy, Zxn h.sl ht hte rfl hy (hE.cells hr), fun get => Zl4 hte hy (hE.part hr)⟩

theorem RSl.npE {R : SV → α → Prop} {x : SV} {l : List α} {te : TI} (h : RSl R x l) (hE : Elm R te) : Sh.np Zar x = true := Zwn (by decide) (RSl.np h (n := 10) fun _ _ h => hE.np h)
theorem Elm.Z2q {R : SV → α → Prop} {te : TI} (hE : Elm R te) {y : SV} {a : α} (h : R y a) : Sh.np Zar y = true := Zwn (by decide) (hE.np h)

/-- A row of plain data of a scalar kind. -/
theorem Elm.int {k : IntKind} {b : Nat} {z : Option SV} : Elm (fun y (n : Int) => y = .int k n) ⟨.int k, 1, b, z⟩ :=
  ⟨fun h => by rw [h]; rfl, fun h => by rw [h]; rfl, fun h => by rw [h]; rfl, fun h => by rw [h]; rfl⟩

/-! ### Calls of what a temp holds -/

def Zah7 (E : Env) (me : Nat) (pc : PC) (ic : IC) (n0 sz k : Nat) (lm : Option (List Nat)) (r : List Ins) (d : Nat) (T : List SV) (M : Mem) (g : SV) (args : List SV) : Option St :=
  match g with
  | .fn f a c => if ((E.prim f).isSome || E.imp me f) = true then (ic f (a ++ args ++ c) M).bind fun q => exL E me pc ic n0 sz (k + 1) r ⟨T.set d q.1, q.2⟩
      else (Za0 pc (Zot M n0 sz lm) f (a ++ args ++ c)).bind fun y => exL E me pc ic n0 sz (k + 1) r ⟨T.set d y, M⟩
  | _ => none

theorem Zo7 {E : Env} {me n0 sz k : Nat} {pc : PC} {ic : IC} {lm : Option (List Nat)} {r : List Ins} {d : Nat} {T : List SV} {M : Mem} {f : Nat} {a c args : List SV} (h : ((E.prim f).isSome || E.imp me f) = false) :
    Zah7 E me pc ic n0 sz k lm r d T M (.fn f a c) args = (Za0 pc (Zot M n0 sz lm) f (a ++ args ++ c)).bind fun y => exL E me pc ic n0 sz (k + 1) r ⟨T.set d y, M⟩ := by
  simp only [Zah7, h, Bool.false_eq_true, if_false]

@[simp] theorem Zawr {E : Env} {me n0 sz k : Nat} {pc : PC} {ic : IC} {lm : Option (List Nat)} {r : List Ins} (d t : Nat) {T : List SV} {M : Mem} (xs : Array Operand) (ts : Array Nat) :
    exL E me pc ic n0 sz k (⟨some d, .call { callee := .value (.tmp t), args := xs, argTypes := ts }, none, lm⟩ :: r) ⟨T, M⟩ = Zah7 E me pc ic n0 sz k lm r d T M (T.getD t (.tup [])) (xs.toList.map (evO E T)) := by
  simp only [exL, exI, Z3n, Z14, Zd8, Zqy, act, Zar7, Zah7]
  cases hT : T.getD t (.tup []) <;> simp only [hT] <;> first | rfl | skip
  rename_i f a c
  cases h : ((E.prim f).isSome || E.imp me f)
  case true =>
    simp only [h, if_true]
    cases ic f (a ++ xs.toList.map (evO E T) ++ c) M <;> rfl
  case false =>
    simp only [h, Bool.false_eq_true, if_false, Za0]
    cases List.mapM (pic (Zot M n0 sz lm) false Zar) (a ++ xs.toList.map (evO E T) ++ c) with
    | none => rfl
    | some args =>
      simp only
      cases pc f args <;> rfl

theorem Zwe {α β : Type} {f : β → α → β} {b : β} {l : List α} {j : Nat} (h : j < l.length) : (l.take (j + 1)).foldl f b = f ((l.take j).foldl f b) l[j] := by
  rw [List.take_succ_eq_append_getElem h, List.foldl_append]; rfl

theorem Zwo {get : Nat → Option (List SV)} {st : Bool} {n id i o : Nat} {items : List SV} (hg : get id = some items) (hp : ∀ x ∈ items, pv x = true) : pic get st (n + 1) (.ptr id i o) = some (.rptr items i o st) := by
  unfold pic
  simp only [pv, Bool.false_eq_true, if_false, hg]
  rw [Zmn fun x hx => Zd3 (Zac (hp x hx) _)]

/-- A function value that holds variables of the caller's, handed on. -/
theorem Zafv {get : Nat → Option (List SV)} {st : Bool} {n f : Nat} {cs ds : List SV} (h : cs.mapM (pic get st n) = some ds) (hp : pvs cs = false) : pic get st (n + 1) (.fn f [] cs) = some (.fn f [] ds) := by
  unfold pic
  have : pv (.fn f [] cs) = false := by simp [pv, pvs, hp]
  simp only [this, Bool.false_eq_true, if_false]
  rw [h]
  rfl

theorem RSl.take {R : SV → α → Prop} {items : List SV} {tl tl' : Tl} {l : List α} (h : RSl R (.sl items tl) l) (n : Nat) : RSl R (.sl (items.take n) tl') (l.take n) := by
  refine ⟨rfl, ?_, fun j y a hy ha => ?_⟩
  · have := h.len
    simp [its] at this ⊢
    omega
  · simp only [its] at hy
    rw [List.getElem?_take] at hy ha
    split at hy
    · rename_i hj
      rw [if_pos hj] at ha
      exact h.at' j y a hy ha
    · cases hy

/-- The first so many of a slice that came in. -/
theorem RSl.pre {R : SV → α → Prop} {x : SV} {l : List α} (h : RSl R x l) {t e a b : Nat} {z : Option SV} {te : TI} (ht : Zbz P t = some ⟨.slice e, a, b, z⟩) (hte : Zbz P e = some te) (hE : Elm R te) {n : Nat} (hn : n ≤ l.length) :
    ∃ y, Zse P t x none (some (.int .i64 n)) none = some y ∧ RSl R y (l.take n) := by
  have hlen := h.len
  have hs := h.sl
  cases x <;> simp [Ztp] at hs
  · refine ⟨.nilsl, ?_, ?_⟩
    · have : n = 0 := by simp [its] at hlen; omega
      subst this
      simp [Zse, ht, hte, Zpq, Zs4]
    · have : l = [] := by
        simp [its] at hlen
        exact List.length_eq_zero_iff.1 hlen.symm
      subst this
      simpa using RSl.nil R
  · rename_i items tl
    have hu : Sh.Zv5 te.size items = true := RSl.Zv5 h (fun y a hy => hE.cells hy)
    have hle : n ≤ items.length := by simp only [its] at hlen; omega
    have ht' := fun tl' => RSl.take (tl' := tl') h n
    clear h hlen
    cases tl <;> exact ⟨.sl (items.take n) _, by simp only [Zse, ht, hte, Zpq, Zs4]; simp [hle, hu]; rfl, ht' _⟩

end Go.Proofs.YtfphjfbknphhjaaGreatDoor.Sh

/-
  The shadow interpreter, text 22: library functions with contracts of their own: memory that grows, a cell that is set. No condition.
-/
set_option linter.unusedVariables false
set_option linter.unusedSimpArgs false
namespace Go.Proofs.YtfphjfbknphhjaaGreatDoor.Sh
variable {E : Env} {P : Program} {g g' : Gh} {w w' : World}

theorem Zaeo {w : World} {b o : Nat} {c : Array Value} {e : TypeId} {fr : Nat × Nat} (h : w.heap[b]? = some (Obj.cells c e fr)) (v : Value) : w.setCell ⟨b, o, none⟩ v = w.setRow b (c.setIfInBounds o v) := by
  unfold World.setCell World.setRow
  congr 1
  apply Array.ext
  · simp
  · intro i h1 h2
    simp only [Array.getElem_modify]
    split
    · rename_i hi
      subst hi
      have hlt : b < w.heap.size := by simpa using h1
      have : w.heap[b] = Obj.cells c e fr := by
        rw [Array.getElem?_eq_getElem hlt] at h
        simpa using h
      rw [this]
      simp
    · rfl

/-- Memory has grown: nothing that was there has turned. -/
theorem MR.grow {M : Mem} {fr : Nat → Prop} (hM : MR E g w M fr) (hb : RowKit.Below w.heap.size w w') : Evo g w g w' ∧ MR E g w' M fr := by
  have hcell : ∀ b o v, w.cell? ⟨b, o, none⟩ = some v → w'.cell? ⟨b, o, none⟩ = some v := fun b o v h => by
    rw [World.cell?_of_block (a := ⟨b, o, none⟩) (hb.block b (lt_of_cell? h))]
    exact h
  have evo : Evo g w g w' := ⟨rfl, rfl, rfl, fun _ _ h => ⟨h, rfl⟩, fun _ => Nat.le_refl _, fun b o v _ h => hcell b o v h,
    fun b c t fr h => ⟨c, by rw [hb.block b (Array.getElem?_eq_some_iff.1 h).1]; exact h, rfl⟩, hb.mono hM.base⟩
  refine ⟨evo, hM.good, Nat.le_trans hM.base hb.size, fun id items hid => ?_, hM.inj, hM.fresh, fun b hbb => ⟨(hM.hwb b hbb).1, Nat.lt_of_lt_of_le (hM.hwb b hbb).2 hb.size⟩, fun id b hid => Nat.lt_of_lt_of_le (hM.lt id b hid) hb.size,
    fun n items hn => (hM.glob n items hn).mono hM.good evo, hM.plain, hM.raw.mono evo, hM.sent.mono evo⟩
  obtain ⟨b, c, e, h1, h2, h3, h4, h5, h6⟩ := hM.blk id items hid
  refine ⟨b, c, e, h1, h2, h3, h4, by rw [hb.block b (Array.getElem?_eq_some_iff.1 h5).1]; exact h5, fun k x hk => ?_⟩
  obtain ⟨a1, v, a2, a3⟩ := h6 k x hk
  exact ⟨a1, v, a2, a3.mono hM.good evo⟩

/-- A block of one cell of the call's own is set, whatever has grown beside it. -/
theorem MR.set1 {M : Mem} {fr : Nat → Prop} (hM : MR E g w M fr) (hb : RowKit.Below w.heap.size w w') {id b : Nat} {y x : SV} {v : Value} (hid : M.blk id = some [y]) (ho : g.own id = some b) (hy : y.cells.length = 1)
    (hx : x.cells = [x]) (h1 : x.one = true) (hv : VR g w x v) : (∃ old, w.cell? ⟨b, 0, none⟩ = some old) ∧ w.frozen? ⟨b, 0, none⟩ = false ∧ Evo g w g (w'.setCell ⟨b, 0, none⟩ v) ∧ MR E g (w'.setCell ⟨b, 0, none⟩ v) (M.set id (some [x])) fr := by
  obtain ⟨evo, hM'⟩ := hM.grow hb
  obtain ⟨b', c, e, q1, q2, q3, q4, q5, q6⟩ := hM.blk id [y] hid
  obtain rfl : b' = b := by rw [ho] at q1; simpa using q1.symm
  obtain ⟨y0, hy0⟩ := List.length_eq_one_iff.1 hy
  obtain ⟨_, old, ho1, _⟩ := q6 0 y0 (by simp [flat, hy0])
  have hsz : 0 < c.size := (Array.getElem?_eq_some_iff.1 ho1).1
  have q5' : w'.heap[b']? = some (Obj.cells c e (0, 0)) := by rw [hb.block b' (Array.getElem?_eq_some_iff.1 q5).1]; exact q5
  have he : g.esz id = 1 := by have := q4 y (by simp); omega
  have put := MR.put (items' := [x]) hM' hid ho q5' (c' := c.setIfInBounds 0 v) (by simp) (fun z hz => by simp at hz; subst hz; rw [he, hx]; rfl) (fun k z hk => by
    have hk' : (flat [x]) = [x] := by simp [flat, hx]
    rw [hk'] at hk
    cases k with
    | zero => simp at hk; subst hk; exact ⟨h1, v, by simp [hsz], hv.mono hM.good evo⟩
    | succ k => simp at hk)
  rw [Zaeo q5']
  refine ⟨⟨old, ?_⟩, ?_, evo.trans put.1, put.2⟩
  · rw [cell?_cells q5]; exact ho1
  · simp [World.frozen?, q5]

theorem VRs.Z69 {x y : SV} {a : Array Value} (h : VRs g w [x, y] a) : ∃ u v, a = #[u, v] ∧ VR g w x u ∧ VR g w y v := by
  obtain ⟨h1, h2⟩ := h
  obtain ⟨l⟩ := a
  match l, h1 with
  | [u, v], _ => exact ⟨u, v, rfl, h2 0 x u rfl rfl, h2 1 y v rfl rfl⟩

theorem Zo4.same {M : Mem} {fr : Nat → Prop} (hM : MR E g w M fr) (hfr : ∀ id, M.next ≤ id → fr id) {r : SV} {v : Value} (hv : VR g w r v) : Zo4 E g w M M r (.returned v) w :=
  ⟨v, g, rfl, .refl g w, hM.weaken hfr, hv, fun _ _ => rfl⟩

end Go.Proofs.YtfphjfbknphhjaaGreatDoor.Sh

/-
  The shadow interpreter, text 23: short names of what code is made of. No condition.
-/
set_option linter.unusedVariables false
namespace Go.Proofs.YtfphjfbknphhjaaGreatDoor.Sh

@[simp] def q (t : Nat) : Operand := .tmp t
@[simp] def ki (n : Int) : Operand := .const (.int .i64 n)
@[simp] def kb (b : Bool) : Operand := .const (.bool b)
@[simp] def i' (d : Nat) (o : Op) : Ins := ⟨some d, o, none, none⟩
@[simp] def mv (d t : Nat) : Ins := ⟨some d, .move (.tmp t), none, none⟩
@[simp] def as' (d t : Nat) : Ins := ⟨some d, .assign (.tmp t), none, none⟩
@[simp] def ld (d T t : Nat) : Ins := ⟨some d, .load T (.tmp t), none, none⟩
@[simp] def fa (d T t f : Nat) : Ins := ⟨some d, .fieldAddr T (.tmp t) f, none, none⟩
@[simp] def xt (d t j : Nat) : Ins := ⟨some d, .extract (.tmp t) j, none, none⟩
@[simp] def bi (d : Nat) (o : BinOp) (T : Nat) (x y : Operand) (T' : Nat) : Ins := ⟨some d, .binOp o T x y T', none, none⟩
@[simp] def ca (d f : Nat) (xs : Array Operand) (ts : Array Nat) : Ins := ⟨some d, .call { callee := .value (.func f), args := xs, argTypes := ts }, none, none⟩
@[simp] def le' (d t T : Nat) : Ins := ⟨some d, .call { callee := .builtin .len, args := #[.tmp t], argTypes := #[T] }, none, none⟩
@[simp] def gd (n : Nat) (b : Bool) (i : Ins) : Ins := ⟨i.dst, i.op, some (some n, b), i.lim⟩
@[simp] def li (l : List Nat) (i : Ins) : Ins := ⟨i.dst, i.op, i.guard, some l⟩
@[simp] def rg (a b : Nat) (d : List Nat) (l : List Ins) : C := .reg ⟨a, b, d, l⟩

/-- A call of a function in memory of its own. -/
abbrev CX (E : Env) (me f : Nat) : Prop := ∀ {n0 sz k : Nat} {pc : PC} {ic : IC} {r : List Ins} {lm : Option (List Nat)} {T : List SV} {M : Mem} (d : Nat) (xs : Array Operand) (ts : Array Nat),
  exL E me pc ic n0 sz k (⟨some d, .call { callee := .value (.func f), args := xs, argTypes := ts }, none, lm⟩ :: r) ⟨T, M⟩ = (Za0 pc (Zot M n0 sz lm) f (xs.toList.map (evO E T))).bind fun y => exL E me pc ic n0 sz (k + 1) r ⟨T.set d y, M⟩
/-- A call in the caller's memory. -/
abbrev CI (E : Env) (me f : Nat) : Prop := ∀ {n0 sz k : Nat} {pc : PC} {ic : IC} {r : List Ins} {lm : Option (List Nat)} {T : List SV} {M : Mem} (d : Nat) (xs : Array Operand) (ts : Array Nat),
  exL E me pc ic n0 sz k (⟨some d, .call { callee := .value (.func f), args := xs, argTypes := ts }, none, lm⟩ :: r) ⟨T, M⟩ = (ic f (xs.toList.map (evO E T)) M).bind fun q => exL E me pc ic n0 sz (k + 1) r ⟨T.set d q.1, q.2⟩
theorem cx {E : Env} {me f : Nat} (h : ((E.prim f).isSome || E.imp me f) = false) : CX E me f := fun d xs ts => Zao3 d f xs ts h
theorem ci {E : Env} {me f : Nat} (h : ((E.prim f).isSome || E.imp me f) = true) : CI E me f := fun d xs ts => Zamu d f xs ts h

end Go.Proofs.YtfphjfbknphhjaaGreatDoor.Sh

/-
  The shadow interpreter, text 18: what a law's arguments are as trees. No condition.
-/
set_option linter.unusedVariables false
set_option linter.unusedSimpArgs false
namespace Go.Proofs.YtfphjfbknphhjaaGreatDoor.Sh
variable {P : Program} {W : World} {ss : Nat → Option Value} {H : Type} {enc : TypeId × Value → H}

def Zuo (W : World) (ss : Nat → Option Value) : Gh := ⟨fun b _ => b < W.heap.size, W.heap.size, fun _ => none, fun _ => 0, fun _ => 0, ss⟩

def aggT (P : Program) (t : Nat) : Bool := match P.underlying t with
  | some (.struct _) | some (.array _ _) => true
  | _ => false

def mkV (P : Program) (t : Nat) (xs : List SV) : SV := if aggT P t then .agg xs else xs.headD .Z

/-- Cells of a type. -/
def WT (P : Program) : Nat → Nat → List SV → Prop
  | 0, _, _ => False
  | n + 1, t, xs => match P.underlying t with
    | some .bool => ∃ b, xs = [.bool b]
    | some (.int k) => ∃ i, xs = [.int k i] ∧ (Lit.int k i).wf = true
    | some .string => ∃ s, xs = [.str s] ∧ s.size ≤ reachBytes
    | some (.slice e) => xs = [.nilsl] ∨ ∃ items : List SV, xs = [.sl items .ro] ∧ items.length * P.bytesOf e ≤ reachBytes ∧ ∀ y ∈ items, ∃ ys, y = mkV P e ys ∧ WT P n e ys
    | some (.struct fs) => ∃ parts : List (List SV), xs = parts.flatten ∧ parts.length = fs.size ∧ ∀ (i : Nat) (f : Field) (p : List SV), fs[i]? = some f → parts[i]? = some p → WT P n f.type p
    | some (.array k e) => ∃ parts : List (List SV), xs = parts.flatten ∧ parts.length = k ∧ ∀ p ∈ parts, WT P n e p
    | _ => False

def Zabk (P : Program) : Nat → List Field → Option Nat
  | o, [] => some o
  | o, f :: r => if f.offset = o then Zabk P (o + P.cellsOf f.type) r else none

/-- A type whose values are plain trees, so deep. -/
def Zvj (P : Program) : Nat → Nat → Bool
  | 0, _ => false
  | n + 1, t => match P.underlying t with
    | some .bool | some (.int _) | some .string => P.cellsOf t == 1
    | some (.slice e) => P.cellsOf t == 1 && P.cellsOf e != 0 && Zvj P n e
    | some (.struct fs) => Zabk P 0 fs.toList == some (P.cellsOf t) && fs.toList.all fun f => Zvj P n f.type
    | some (.array k e) => P.cellsOf t == k * P.cellsOf e && Zvj P n e
    | _ => false

structure IsV (P : Program) (W : World) (ss : Nat → Option Value) (n t : Nat) (cs : List Value) (xs : List SV) : Prop where
  len : xs.length = cs.length
  wt : WT P n t xs
  one : ∀ x ∈ xs, x.one = true
  rel : ∀ (k : Nat) (x : SV) (v : Value), xs[k]? = some x → cs[k]? = some v → VR (Zuo W ss) W x v

theorem Zam5 {n t : Nat} {xs : List SV} (h : WT P n t xs) (ho : ∀ x ∈ xs, x.one = true) : (mkV P t xs).cells = xs := by
  cases n with
  | zero => exact h.elim
  | succ n =>
    unfold mkV aggT
    unfold WT at h
    split at h <;> rename_i hu <;> simp only [hu]
    · obtain ⟨b, rfl⟩ := h; rfl
    · obtain ⟨b, rfl, _⟩ := h; rfl
    · obtain ⟨b, rfl, _⟩ := h; rfl
    · rcases h with rfl | ⟨items, rfl, _⟩ <;> rfl
    · rfl
    · rfl
    · exact h.elim

theorem weightsAll_mem {e : Nat} {d : DataW H} {m : Nat} : ∀ {l : List (DataW H)}, d ∈ l → m ∈ DataW.weights P e d → m ∈ DataW.weightsAll P e l
  | x :: r, hd, hm => by
    simp only [DataW.weightsAll, List.mem_append]
    rcases List.mem_cons.1 hd with rfl | hd
    · exact .inl hm
    · exact .inr (weightsAll_mem hd hm)

theorem Zab2 {n i : Nat} (h : i < n) : (List.range n)[i]? = some i := by simp [h]

theorem cells?_get {W : World} {a : Addr} {n k : Nat} {cs : List Value} (h : W.cells? 0 a n = some cs) : cs.length = n ∧ ∀ (k : Nat) (v : Value), cs[k]? = some v → W.cell? (a.add k) = some v := by
  unfold World.cells? at h
  rw [if_pos (Nat.zero_le _)] at h
  obtain ⟨h1, h2⟩ := mapM_some h
  have hn : cs.length = n := by rw [← h1]; simp
  refine ⟨hn, fun k v hv => ?_⟩
  have hk : k < n := by rw [← hn]; exact (List.getElem?_eq_some_iff.1 hv).1
  exact h2 k k v (Zab2 hk) hv

theorem cell?_spot {W : World} {a : Addr} {v : Value} (h : W.cell? a = some v) : a.spot = none := by
  unfold World.cell? at h
  split at h
  · split at h
    · cases h
    · rename_i hs
      cases hsp : a.spot with
      | none => rfl
      | some x => rw [hsp] at hs; simp at hs
  · cases h

theorem add_eq {a : Addr} (h : a.spot = none) (n : Nat) : a.add n = ⟨a.block, a.off + n, none⟩ := by
  obtain ⟨b, o, s⟩ := a
  simp only at h
  subst h
  unfold Addr.add
  split
  · rename_i hn; subst hn; rfl
  · rfl

/-- Parts of a row: from the parts to the row. -/
theorem Zwa {α : Type} (Q : Nat → List SV → Prop) (cs : List Value) : ∀ (ls : List (Nat × Nat)) (o : Nat), (∀ (i : Nat) (p : Nat × Nat), ls[i]? = some p → ∃ xs : List SV, xs.length = p.2 ∧ Q i xs ∧ (∀ x ∈ xs, x.one = true) ∧
      ∀ (k : Nat) (x : SV) (v : Value), xs[k]? = some x → cs[p.1 + k]? = some v → VR (Zuo W ss) W x v) →
    (∀ (i : Nat) (p : Nat × Nat), ls[i]? = some p → p.1 = o + ((ls.take i).map (·.2)).sum) →
    ∃ parts : List (List SV), parts.length = ls.length ∧ parts.flatten.length = (ls.map (·.2)).sum ∧ (∀ (i : Nat) (p : List SV), parts[i]? = some p → Q i p) ∧ (∀ x ∈ parts.flatten, x.one = true) ∧
      ∀ (k : Nat) (x : SV) (v : Value), parts.flatten[k]? = some x → cs[o + k]? = some v → VR (Zuo W ss) W x v
  | [], o, _, _ => ⟨[], rfl, rfl, fun i p h => by simp at h, fun x h => by simp at h, fun k x v h => by simp at h⟩
  | p :: r, o, h, ho => by
    obtain ⟨xs, h1, h2, h3, h4⟩ := h 0 p rfl
    have hp : p.1 = o := by have := ho 0 p rfl; simpa using this
    obtain ⟨parts, g1, g2, g3, g4, g5⟩ := Zwa (α := α) (fun i => Q (i + 1)) cs r (o + p.2) (fun i q hi => h (i + 1) q (by simpa using hi)) (fun i q hi => by
      have := ho (i + 1) q (by simpa using hi)
      simp only [List.take_succ_cons, List.map_cons, List.sum_cons] at this
      omega)
    refine ⟨xs :: parts, by simp [g1], by simp [g2, h1], fun i q hi => ?_, fun x hx => ?_, fun k x v hk hv => ?_⟩
    · cases i with
      | zero => simp at hi; subst hi; exact h2
      | succ i => exact g3 i q (by simpa using hi)
    · simp only [List.flatten_cons, List.mem_append] at hx
      rcases hx with hx | hx
      · exact h3 x hx
      · exact g4 x hx
    · simp only [List.flatten_cons] at hk
      rw [List.getElem?_append] at hk
      split at hk
      · exact h4 k x v hk (by rw [hp]; exact hv)
      · rename_i hlt
        refine g5 (k - xs.length) x v hk ?_
        rw [show o + p.2 + (k - xs.length) = o + k by omega]
        exact hv

theorem Z45 : ∀ (fs : List Field) (o z : Nat), Zabk P o fs = some z → z = o + (fs.map fun f => P.cellsOf f.type).sum ∧ ∀ (i : Nat) (f : Field), fs[i]? = some f → f.offset = o + ((fs.take i).map fun f => P.cellsOf f.type).sum
  | [], o, z, h => by
    simp [Zabk] at h
    exact ⟨by simp [h], fun i f hi => by simp at hi⟩
  | f :: r, o, z, h => by
    simp only [Zabk] at h
    split at h
    · rename_i hf
      obtain ⟨h1, h2⟩ := Z45 r _ z h
      refine ⟨by simp; omega, fun i g hi => ?_⟩
      cases i with
      | zero => simp at hi; subst hi; simpa using hf
      | succ i =>
        have := h2 i g (by simpa using hi)
        simp only [List.take_succ_cons, List.map_cons, List.sum_cons]
        omega
    · cases h

theorem trod_array {base fuel t k e : Nat} {sp : Nat → Bool} {held : Bool} {cs : List Value} {x : DataW H × List MemPlace} (hu : P.underlying t = some (.array k e)) (h : DataW.trod enc P W base sp held fuel t cs = some x) :
    ∃ (xs : List (DataW H × List MemPlace)) (n : Nat), fuel = n + 1 ∧ x = (.agg (xs.map (·.1)), xs.flatMap (·.2)) ∧ cs.length = P.cellsOf t ∧ xs.length = k ∧
      ∀ i, i < k → DataW.trod enc P W base sp held n e ((cs.drop (i * P.cellsOf e)).take (P.cellsOf e)) = xs[i]? := by
  cases fuel with
  | zero => simp [DataW.trod] at h
  | succ n =>
    unfold DataW.trod at h
    rw [hu] at h
    have key : ∀ {k e : Nat}, (if cs.length = P.cellsOf t then ((List.range k).mapM fun i => DataW.trod enc P W base sp held n e ((cs.drop (i * P.cellsOf e)).take (P.cellsOf e))).map fun xs => (DataW.agg (xs.map (·.1)), xs.flatMap (·.2)) else none) = some x →
        ∃ (xs : List (DataW H × List MemPlace)) (m : Nat), n + 1 = m + 1 ∧ x = (.agg (xs.map (·.1)), xs.flatMap (·.2)) ∧ cs.length = P.cellsOf t ∧ xs.length = k ∧
          ∀ i, i < k → DataW.trod enc P W base sp held m e ((cs.drop (i * P.cellsOf e)).take (P.cellsOf e)) = xs[i]? := by
      intro k e h
      split at h
      · rename_i hc
        simp only [Option.map_eq_some_iff] at h
        obtain ⟨xs, hm, rfl⟩ := h
        obtain ⟨m1, m2⟩ := mapM_some hm
        refine ⟨xs, n, rfl, rfl, hc, by rw [← m1]; simp, fun i hi => ?_⟩
        have hi' : i < xs.length := by rw [← m1]; simpa using hi
        have := m2 i i xs[i] (Zab2 hi) (by simp [hi'])
        rw [this]
        simp [hi']
      · cases h
    split at h
    all_goals first
      | exact key h
      | (rename_i hx; simp only [Option.some.injEq, TypeDesc.array.injEq] at hx; obtain ⟨rfl, rfl⟩ := hx; exact key h)
      | (rename_i hx; simp at hx; done)
      | (rename_i hx _; simp at hx; done)
      | (simp_all; done)
      | (cases h; done)

theorem Zaf0 {sp : Nat → Bool} {held : Bool} : ∀ (n fuel t : Nat) (cs : List Value) (d : DataW H) (ps : List MemPlace), Zvj P n t = true → DataW.trod enc P W 0 sp held fuel t cs = some (d, ps) →
    (DataW.weights P t d).all (· ≤ reachBytes) = true → cs.length = P.cellsOf t ∧ ∃ xs, IsV P W ss n t cs xs
  | 0, fuel, t, cs, d, ps, hp, _, _ => by simp [Zvj] at hp
  | n + 1, fuel, t, cs, d, ps, hp, h, hw => by
    have ih := fun fuel t cs d ps => Zaf0 (sp := sp) (held := held) n fuel t cs d ps
    unfold Zvj at hp
    split at hp
    · rename_i hu
      obtain ⟨b, rfl, hx⟩ := DataW.trod_bool hu h
      refine ⟨by simpa using (beq_iff_eq.1 hp).symm, [.bool b], rfl, ?_, by simp [SV.one], fun k x v hx hv => ?_⟩
      · unfold WT; rw [hu]; exact ⟨b, rfl⟩
      · cases k <;> simp at hx hv
        subst hx hv
        exact .bool b
    · rename_i kd hu
      obtain ⟨b, rfl, hx, hwf⟩ := DataW.trod_int hu h
      refine ⟨by simpa using (beq_iff_eq.1 hp).symm, [.int kd b], rfl, ?_, by simp [SV.one], fun k x v hx hv => ?_⟩
      · unfold WT; rw [hu]; exact ⟨b, rfl, hwf⟩
      · cases k <;> simp at hx hv
        subst hx hv
        exact .int kd b
    · rename_i hu
      obtain ⟨b, rfl, hx, _⟩ := DataW.trod_string hu h
      simp only [Prod.mk.injEq] at hx
      obtain ⟨rfl, rfl⟩ := hx
      refine ⟨by simpa using (beq_iff_eq.1 hp).symm, [.str b], rfl, ?_, by simp [SV.one], fun k x v hx hv => ?_⟩
      · unfold WT; rw [hu]
        refine ⟨b, rfl, ?_⟩
        simp [DataW.weights] at hw
        exact hw
      · cases k <;> simp at hx hv
        subst hx hv
        exact .str b
    · rename_i e hu
      simp only [Bool.and_eq_true, beq_iff_eq, bne_iff_ne, ne_eq] at hp
      obtain ⟨⟨hp1, hp2⟩, hp3⟩ := hp
      rcases DataW.trod_slice hu h with ⟨rfl, hx⟩ | ⟨a, len, cap, elems, rest, m, rfl, rfl, hx, _, hlc, _, hel, hat, _⟩
      · refine ⟨by simpa using hp1.symm, [.nilsl], rfl, ?_, by simp [SV.one], fun k x v hx hv => ?_⟩
        · unfold WT; rw [hu]; exact .inl rfl
        · cases k <;> simp at hx hv
          subst hx hv
          exact .nilsl
      · simp only [Prod.mk.injEq] at hx
        obtain ⟨rfl, rfl⟩ := hx
        have hwl : (elems.length + rest.length) * P.bytesOf e ≤ reachBytes ∧ ∀ d ∈ elems.map (·.1), ∀ m ∈ DataW.weights P e d, m ≤ reachBytes := by
          unfold DataW.weights at hw
          simp only [hu, List.all_cons, Bool.and_eq_true, decide_eq_true_eq, List.length_map, List.all_eq_true, List.mem_append] at hw
          exact ⟨hw.1, fun d hd m hm => hw.2 m (.inl (weightsAll_mem hd hm))⟩
        have hcell : ∀ i, i < len → ∃ xs : List SV, ∃ cs' : List Value, W.cells? 0 (a.add (i * P.cellsOf e)) (P.cellsOf e) = some cs' ∧ IsV P W ss n e cs' xs := by
          intro i hi
          have h1 := hat i hi
          have h2 : elems[i]? = some elems[i] := by simp [hel, hi]
          rw [h2] at h1
          cases hc : W.cells? 0 (a.add (i * P.cellsOf e)) (P.cellsOf e) with
          | none => rw [hc] at h1; cases h1
          | some cs' =>
            rw [hc] at h1
            obtain ⟨_, xs, hxs⟩ := ih m e cs' elems[i].1 elems[i].2 hp3 h1 (List.all_eq_true.2 fun m hm => decide_eq_true (hwl.2 _ (List.mem_map.2 ⟨elems[i], List.getElem_mem _, rfl⟩) m hm))
            exact ⟨xs, cs', rfl, hxs⟩
        have hch : ∃ F : Nat → List SV, ∀ i, i < len → ∃ cs' : List Value, W.cells? 0 (a.add (i * P.cellsOf e)) (P.cellsOf e) = some cs' ∧ IsV P W ss n e cs' (F i) := by
          refine ⟨fun i => if hi : i < len then Classical.choose (hcell i hi) else [], fun i hi => ?_⟩
          simp only [dif_pos hi]
          exact Classical.choose_spec (hcell i hi)
        obtain ⟨F, hF⟩ := hch
        have hcells : ∀ i, i < len → (mkV P e (F i)).cells = F i ∧ (F i).length = P.cellsOf e := fun i hi => by
          obtain ⟨cs', h1, h2⟩ := hF i hi
          exact ⟨Zam5 h2.wt h2.one, h2.len.trans (cells?_get (k := 0) h1).1⟩
        have hmem : ∀ y ∈ (List.range len).map fun i => mkV P e (F i), ∃ i, i < len ∧ y = mkV P e (F i) := fun y hy => by
          obtain ⟨i, hi, rfl⟩ := List.mem_map.1 hy
          exact ⟨i, List.mem_range.1 hi, rfl⟩
        have hun : ∀ y ∈ (List.range len).map fun i => mkV P e (F i), y.cells.length = P.cellsOf e := fun y hy => by
          obtain ⟨i, hi, rfl⟩ := hmem y hy
          rw [(hcells i hi).1, (hcells i hi).2]
        refine ⟨by simpa using hp1.symm, [.sl ((List.range len).map fun i => mkV P e (F i)) .ro], rfl, ?_, by simp [SV.one], fun k x v hx hv => ?_⟩
        · unfold WT; rw [hu]
          refine .inr ⟨_, rfl, ?_, fun y hy => ?_⟩
          · simp only [List.length_map, List.length_range]
            exact Nat.le_trans (Nat.mul_le_mul_right _ (by omega)) hwl.1
          · obtain ⟨i, hi, rfl⟩ := hmem y hy
            obtain ⟨cs', _, h2⟩ := hF i hi
            exact ⟨F i, rfl, h2.wt⟩
        · cases k <;> simp at hx hv
          subst hx hv
          rcases Nat.eq_zero_or_pos len with h0 | h0
          · subst h0
            exact .sle .ro a cap (by simp)
          · have hspot : a.spot = none := by
              obtain ⟨cs', h1, h2⟩ := hF 0 h0
              obtain ⟨g1, g2⟩ := cells?_get (k := 0) h1
              have hc0 : 0 < cs'.length := by rw [g1]; omega
              have := g2 0 cs'[0] (by simp [hc0])
              exact cell?_spot (by simpa [Addr.add] using this)
            obtain ⟨b, o, s⟩ := a
            simp only at hspot
            subst hspot
            have hget : ∀ (q : Nat) (c : SV), (flat ((List.range len).map fun i => mkV P e (F i)))[q]? = some c → c.one = true ∧ ∃ v, W.cell? ⟨b, o + q, none⟩ = some v ∧ VR (Zuo W ss) W c v := by
              intro q c hq
              have hlt : q < len * P.cellsOf e := by
                have := (List.getElem?_eq_some_iff.1 hq).1
                rw [flat_length hun] at this
                simpa using this
              have hi : q / P.cellsOf e < len := (Nat.div_lt_iff_lt_mul (by omega)).2 hlt
              have ho : q % P.cellsOf e < P.cellsOf e := Nat.mod_lt _ (by omega)
              have hq' := flat_get (q / P.cellsOf e) (q % P.cellsOf e) (mkV P e (F (q / P.cellsOf e))) hun (by simp [hi]) ho
              rw [show q / P.cellsOf e * P.cellsOf e + q % P.cellsOf e = q by rw [Nat.mul_comm]; exact Nat.div_add_mod _ _] at hq'
              rw [hq', (hcells _ hi).1] at hq
              obtain ⟨cs', h1, h2⟩ := hF _ hi
              obtain ⟨g1, g2⟩ := cells?_get (k := 0) h1
              have hlen : q % P.cellsOf e < cs'.length := by rw [g1]; exact ho
              have hv := g2 (q % P.cellsOf e) cs'[q % P.cellsOf e] (by simp [hlen])
              refine ⟨h2.one c (List.mem_of_getElem? hq), cs'[q % P.cellsOf e], ?_, h2.rel _ _ _ hq (by simp [hlen])⟩
              rw [add_eq (a := ⟨b, o, none⟩) rfl, add_eq rfl] at hv
              rw [show o + q = o + q / P.cellsOf e * P.cellsOf e + q % P.cellsOf e by
                have := Nat.div_add_mod q (P.cellsOf e)
                rw [Nat.mul_comm] at this
                omega]
              exact hv
            have := VR.sl (g := Zuo W ss) (w := W) ((List.range len).map fun i => mkV P e (F i)) .ro b o cap (P.cellsOf e) (fun q => (W.cell? ⟨b, o + q, none⟩).getD undef) hun
              (fun q c hq => by
                obtain ⟨h1, v, h2, h3⟩ := hget q c hq
                refine ⟨h1, .inl ?_, by simp [h2]⟩
                exact lt_of_cell? h2)
              (fun q c hq => by
                obtain ⟨h1, v, h2, h3⟩ := hget q c hq
                simpa [h2] using h3)
              (by simpa using hlc) (by simp)
            simpa using this
    · rename_i fs hu
      simp only [Bool.and_eq_true, beq_iff_eq, List.all_eq_true] at hp
      obtain ⟨hp1, hp2⟩ := hp
      obtain ⟨xs, m, rfl, hx, hcl, hxl, hat⟩ := DataW.trod_struct hu h
      simp only [Prod.mk.injEq] at hx
      obtain ⟨rfl, rfl⟩ := hx
      obtain ⟨hs1, hs2⟩ := Z45 _ _ _ hp1
      have hwl : ∀ (i : Nat) (f : Field) (x : DataW H × List MemPlace), fs[i]? = some f → xs[i]? = some x → ∀ m ∈ DataW.weights P f.type x.1, m ≤ reachBytes := by
        intro i f x hf hx m hm
        unfold DataW.weights at hw
        simp only [hu, List.all_eq_true, decide_eq_true_eq] at hw
        refine hw m (DataW.weights_mem_each (j := i) (t := f.type) (d := x.1) ?_ ?_ m hm)
        · simp [hf]
        · simp [hx]
      obtain ⟨parts, q1, q2, q3, q4, q5⟩ := Zwa (W := W) (α := Unit) (fun i p => ∀ f, fs[i]? = some f → WT P n f.type p) cs (fs.toList.map fun f => (f.offset, P.cellsOf f.type)) 0
        (fun i p hi => by
          simp only [List.getElem?_map, Option.map_eq_some_iff] at hi
          obtain ⟨f, hf, rfl⟩ := hi
          have hf' : fs[i]? = some f := by simpa using hf
          have hlt : i < xs.length := by
            have := (Array.getElem?_eq_some_iff.1 hf').1
            omega
          have h1 := hat i f hf'
          have h2 : xs[i]? = some xs[i] := by simp [hlt]
          rw [h2] at h1
          obtain ⟨g1, ys, hys⟩ := ih m f.type _ xs[i].1 xs[i].2 (hp2 f (List.mem_of_getElem? hf)) h1 (List.all_eq_true.2 fun m hm => decide_eq_true (hwl i f _ hf' h2 m hm))
          refine ⟨ys, hys.len.trans g1, fun f' hf'' => ?_, hys.one, fun k x v hk hv => hys.rel k x v hk ?_⟩
          · rw [hf'] at hf''
            simp only [Option.some.injEq] at hf''
            subst hf''
            exact hys.wt
          · have hk' : k < P.cellsOf f.type := by rw [← g1, ← hys.len]; exact (List.getElem?_eq_some_iff.1 hk).1
            rw [List.getElem?_take, if_pos hk', List.getElem?_drop]
            exact hv)
        (fun i p hi => by
          simp only [List.getElem?_map, Option.map_eq_some_iff] at hi
          obtain ⟨f, hf, rfl⟩ := hi
          have := hs2 i f hf
          simp only [this, ← List.map_take, List.map_map]
          rfl)
      refine ⟨hcl, parts.flatten, ?_, ?_, q4, fun k x v hk hv => q5 k x v hk (by simpa using hv)⟩
      · rw [q2, hcl, hs1, List.map_map]
        simp only [Nat.zero_add]
        rfl
      · unfold WT; rw [hu]
        exact ⟨parts, rfl, by simpa using q1, fun i f p hf hpp => q3 i p hpp f hf⟩
    · rename_i k e hu
      simp only [Bool.and_eq_true, beq_iff_eq] at hp
      obtain ⟨hp1, hp2⟩ := hp
      obtain ⟨xs, m, rfl, hx, hcl, hxl, hat⟩ := trod_array hu h
      simp only [Prod.mk.injEq] at hx
      obtain ⟨rfl, rfl⟩ := hx
      have hwl : ∀ d ∈ xs.map (·.1), ∀ m ∈ DataW.weights P e d, m ≤ reachBytes := by
        unfold DataW.weights at hw
        simp only [hu, List.all_eq_true, decide_eq_true_eq] at hw
        exact fun d hd m hm => hw m (weightsAll_mem hd hm)
      obtain ⟨parts, q1, q2, q3, q4, q5⟩ := Zwa (W := W) (α := Unit) (fun i p => WT P n e p) cs ((List.range k).map fun i => (i * P.cellsOf e, P.cellsOf e)) 0
        (fun i p hi => by
          simp only [List.getElem?_map, Option.map_eq_some_iff] at hi
          obtain ⟨i', hi', rfl⟩ := hi
          obtain ⟨hik, hii⟩ := List.getElem?_eq_some_iff.1 hi'
          simp only [List.length_range] at hik
          simp only [List.getElem_range] at hii
          subst hii
          have h1 := hat i hik
          have h2 : xs[i]? = some xs[i] := by simp [hxl, hik]
          rw [h2] at h1
          obtain ⟨g1, ys, hys⟩ := ih m e _ xs[i].1 xs[i].2 hp2 h1 (List.all_eq_true.2 fun m hm => decide_eq_true (hwl _ (List.mem_map.2 ⟨xs[i], List.getElem_mem _, rfl⟩) m hm))
          refine ⟨ys, hys.len.trans g1, hys.wt, hys.one, fun k x v hk hv => hys.rel k x v hk ?_⟩
          have hk' : k < P.cellsOf e := by rw [← g1, ← hys.len]; exact (List.getElem?_eq_some_iff.1 hk).1
          rw [List.getElem?_take, if_pos hk', List.getElem?_drop]
          exact hv)
        (fun i p hi => by
          simp only [List.getElem?_map, Option.map_eq_some_iff] at hi
          obtain ⟨i', hi', rfl⟩ := hi
          obtain ⟨hik, hii⟩ := List.getElem?_eq_some_iff.1 hi'
          simp only [List.length_range] at hik
          simp only [List.getElem_range] at hii
          subst hii
          have e1 : (List.map (fun x : Nat × Nat => x.2) (List.take i (List.map (fun i => (i * P.cellsOf e, P.cellsOf e)) (List.range k)))) = List.replicate i (P.cellsOf e) := by
            rw [← List.map_take, List.map_map, List.take_range]
            apply List.ext_getElem
            · simp; omega
            · intro j h1 h2
              simp
          rw [e1]
          simp)
      refine ⟨hcl, parts.flatten, ?_, ?_, q4, fun k x v hk hv => q5 k x v hk (by simpa using hv)⟩
      · rw [q2, hcl, hp1, List.map_map]
        have e1 : List.map ((fun x : Nat × Nat => x.2) ∘ fun i => (i * P.cellsOf e, P.cellsOf e)) (List.range k) = List.replicate k (P.cellsOf e) := by
          apply List.ext_getElem
          · simp
          · intro j h1 h2
            simp
        rw [e1]
        simp
      · unfold WT; rw [hu]
        refine ⟨parts, rfl, by simpa using q1, fun p hpp => ?_⟩
        obtain ⟨i, hi, rfl⟩ := List.mem_iff_getElem.1 hpp
        exact q3 i _ (by simp [hi])
    · cases hp

end Go.Proofs.YtfphjfbknphhjaaGreatDoor.Sh

/-
  The shadow interpreter, text 19: a law's walk, from the shadow's. No condition.
-/
set_option linter.unusedVariables false
set_option linter.unusedSimpArgs false
namespace Go.Proofs.YtfphjfbknphhjaaGreatDoor.Sh
variable {P : Program} {W : World} {ss : Nat → Option Value} {H : Type} {enc : TypeId × Value → H}

theorem Zpp {ts : List TypeId} {ds : List (DataW H)} (hs : (DataW.weightsEach P ts ds).all (· ≤ reachBytes) = true) {j n t base : Nat} {r : Reach} {d : DataW H} {v : Value} {ps : List MemPlace} {sp : Nat → Bool} {held : Bool}
    (ht : ts[j]? = some t) (hd : ds[j]? = some d) (hp : Zvj P n t = true) (h : DataW.Trod enc P W 0 sp held t v d ps) (hv : Value.okWide P W r base t v) :
    ∃ xs, WT P n t xs ∧ (∀ x ∈ xs, x.one = true) ∧ VR (Zuo W ss) W (mkV P t xs) v := by
  obtain ⟨fuel, hf⟩ := h
  obtain ⟨hl, xs, hx⟩ := Zaf0 (ss := ss) n fuel t v.cells.toList d ps hp hf (List.all_eq_true.2 fun m hm => List.all_eq_true.1 hs m (DataW.weights_mem_each ht hd m hm))
  refine ⟨xs, hx.wt, hx.one, ?_⟩
  have scalar : aggT P t = false → (∀ cs, v ≠ .agg cs) → VR (Zuo W ss) W (mkV P t xs) v := by
    intro ha hna
    have hc : v.cells.toList = [v] := by cases v <;> first | rfl | exact absurd rfl (hna _)
    have hlen := hx.len
    rw [hc] at hlen
    match xs, hlen with
    | [x], _ =>
      have := hx.rel 0 x v rfl (by rw [hc]; rfl)
      simpa [mkV, ha] using this
  cases n with
  | zero => simp [Zvj] at hp
  | succ n =>
    unfold Zvj at hp
    split at hp
    · rename_i hu
      obtain ⟨b, rfl⟩ := WideShapes.okWide_bool hu hv
      exact scalar (by simp [aggT, hu]) (by simp)
    · rename_i k hu
      obtain ⟨b, rfl⟩ := WideShapes.okWide_int hu hv
      exact scalar (by simp [aggT, hu]) (by simp)
    · rename_i hu
      obtain ⟨b, rfl⟩ := WideShapes.okWide_string hu hv
      exact scalar (by simp [aggT, hu]) (by simp)
    · rename_i e hu
      obtain ⟨a, b, c, rfl⟩ := WideShapes.okWide_slice hu hv
      exact scalar (by simp [aggT, hu]) (by simp)
    · rename_i fs hu
      unfold Value.okWide at hv
      rw [hu] at hv
      obtain ⟨cs, rfl, _⟩ := hv
      simp only [mkV, aggT, hu, if_true]
      refine .agg xs cs (by simpa [Value.cells] using hx.len) hx.one (fun k x u hk hu' => hx.rel k x u hk (by simpa [Value.cells] using hu'))
    · rename_i k e hu
      unfold Value.okWide at hv
      rw [hu] at hv
      obtain ⟨cs, rfl, _⟩ := hv
      simp only [mkV, aggT, hu, if_true]
      refine .agg xs cs (by simpa [Value.cells] using hx.len) hx.one (fun k x u hk hu' => hx.rel k x u hk (by simpa [Value.cells] using hu'))
    · cases hp

/-- At a law's own call: what is laid in the program's variables. -/
theorem Zas0 {E : Env} (W : World) (hG : ∀ n items, E.G n = some items → pvs items = true ∧ VR (Zuo W ss) W (.rptr items 0 0 true) (.pointer (some ⟨n, 0, none⟩))) (hR : RawG E (Zuo W ss) W) (hS : Zam0 E (Zuo W ss)) : MR E (Zuo W ss) W .empty (fun _ => True) where
  good := fun b o h => h
  base := Nat.le_refl _
  blk := fun id items h => by simp [Mem.empty] at h
  inj := fun id id' b h => by simp [Mem.empty] at h
  fresh := fun _ _ => rfl
  hwb := fun b h => by simp [Zuo] at h
  lt := fun id b h => by simp [Zuo] at h
  glob := fun n items h => (hG n items h).2
  plain := fun n items h => (hG n items h).1
  raw := hR
  sent := hS

theorem Zws {E : Env} (hmix : E.P.follows .mixedOrders = true) (hprim : Zamr E) (hM : MR E (Zuo W ss) W .empty (fun _ => True)) {f : Nat} {svs : List SV} {args : Array Value} {M' : Mem}
    (h : ICw E f svs .empty = some (.bool true, M')) (hargs : VRs (Zuo W ss) W svs args) :
    Calls E.P f args W fun e W' => e = .returned (.bool true) ∧ RowKit.Below W.heap.size W W' := by
  obtain ⟨n, hn⟩ := Z4c.1 h
  obtain ⟨_, _, hcall⟩ := Zapx hmix hprim n f svs .empty _ _ hn
  refine (hcall (Zuo W ss) W _ args hM (fun _ _ => trivial) hargs).mono ?_
  rintro e W' ⟨v', g', rfl, evo, _, hv, _⟩
  refine ⟨by rw [hv.Zrv], evo.below⟩

theorem VRs.nil' : VRs (Zuo W ss) W [] #[] := ⟨rfl, fun k x v h => by simp at h⟩
theorem VRs.one1 {x : SV} {v : Value} (h : VR (Zuo W ss) W x v) : VRs (Zuo W ss) W [x] #[v] :=
  ⟨rfl, fun k x' v' hx hv => by
    cases k with
    | zero => simp at hx hv; subst hx hv; exact h
    | succ k => simp at hx⟩
theorem VRs.two {x y : SV} {v u : Value} (h : VR (Zuo W ss) W x v) (h2 : VR (Zuo W ss) W y u) : VRs (Zuo W ss) W [x, y] #[v, u] :=
  (VRs.one1 h).append (VRs.one1 h2)

/-! ### Types, by what the shadow knows of them -/

theorem Zabq {t : Nat} {k : TK} {a b : Nat} {z : Option SV} (ht : Zbz P t = some ⟨k, a, b, z⟩) : ∃ d, P.underlying t = some d ∧ k = Zxi d ∧ P.cellsOf t = a ∧ P.bytesOf t = b := by
  obtain ⟨d, i, hd, hi, he⟩ := Zba ht
  simp only [TI.mk.injEq] at he
  exact ⟨d, hd, he.1, by simp [Program.cellsOf, hi, he.2.1], by simp [Program.bytesOf, hi, he.2.2.1]⟩

theorem Zatg {n t a b : Nat} {z : Option SV} {xs : List SV} (ht : Zbz P t = some ⟨.bool, a, b, z⟩) (h : WT P (n + 1) t xs) : ∃ v, xs = [.bool v] ∧ mkV P t xs = .bool v := by
  obtain ⟨d, hd, hk, _⟩ := Zabq ht
  obtain rfl := Zaku hk.symm
  unfold WT at h
  rw [hd] at h
  obtain ⟨v, rfl⟩ := h
  exact ⟨v, rfl, by simp [mkV, aggT, hd]⟩

theorem Zl9 {n t a b : Nat} {z : Option SV} {k : IntKind} {xs : List SV} (ht : Zbz P t = some ⟨.int k, a, b, z⟩) (h : WT P (n + 1) t xs) : ∃ v, xs = [.int k v] ∧ mkV P t xs = .int k v ∧ (Lit.int k v).wf = true := by
  obtain ⟨d, hd, hk, _⟩ := Zabq ht
  obtain rfl := Z1i hk.symm
  unfold WT at h
  rw [hd] at h
  obtain ⟨v, rfl, hw⟩ := h
  exact ⟨v, rfl, by simp [mkV, aggT, hd], hw⟩

theorem Zv2 {n t e a b : Nat} {z : Option SV} {xs : List SV} {te : TI} (ht : Zbz P t = some ⟨.slice e, a, b, z⟩) (hte : Zbz P e = some te) (h : WT P (n + 1) t xs) :
    xs = [.nilsl] ∧ mkV P t xs = .nilsl ∨ ∃ items : List SV, xs = [.sl items .ro] ∧ mkV P t xs = .sl items .ro ∧ items.length * te.bytes ≤ 140737488351232 ∧ ∀ y ∈ items, ∃ ys, y = mkV P e ys ∧ WT P n e ys := by
  obtain ⟨d, hd, hk, _⟩ := Zabq ht
  obtain rfl := Zgg hk.symm
  obtain ⟨_, _, _, _, hb⟩ := Zabq (k := te.kind) (a := te.size) (b := te.bytes) (z := te.zero) hte
  unfold WT at h
  rw [hd] at h
  rcases h with rfl | ⟨items, rfl, h1, h2⟩
  · exact .inl ⟨rfl, by simp [mkV, aggT, hd]⟩
  · rw [hb] at h1
    exact .inr ⟨items, rfl, by simp [mkV, aggT, hd], h1, h2⟩

theorem Zvp {n t a b : Nat} {z : Option SV} {fs : List (Nat × Nat)} {xs : List SV} (ht : Zbz P t = some ⟨.struct fs, a, b, z⟩) (h : WT P (n + 1) t xs) :
    mkV P t xs = .agg xs ∧ ∃ parts : List (List SV), xs = parts.flatten ∧ parts.length = fs.length ∧ ∀ (i : Nat) (f : Nat × Nat) (p : List SV), fs[i]? = some f → parts[i]? = some p → WT P n f.1 p := by
  obtain ⟨d, hd, hk, _⟩ := Zabq ht
  obtain ⟨fa, rfl, rfl⟩ := Zve hk.symm
  unfold WT at h
  rw [hd] at h
  obtain ⟨parts, rfl, h1, h2⟩ := h
  refine ⟨by simp [mkV, aggT, hd], parts, rfl, by simpa using h1, fun i f p hf hp => ?_⟩
  simp only [List.getElem?_map, Option.map_eq_some_iff] at hf
  obtain ⟨f', hf', rfl⟩ := hf
  exact h2 i f' p (by simpa using hf') hp

end Go.Proofs.YtfphjfbknphhjaaGreatDoor.Sh
