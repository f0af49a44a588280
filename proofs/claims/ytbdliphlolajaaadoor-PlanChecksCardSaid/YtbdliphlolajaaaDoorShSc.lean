/-
  The shadow interpreter, text 3: operations that make a value out of values. No condition.
-/
import Derived.Test.YtbdliphlolajaaaDoorShSb
import Derived.Laws.StructEq
import Derived.Laws.Small
import Derived.Laws.Cells
import Derived.WalkKit
set_option linter.unusedVariables false
set_option linter.unusedSimpArgs false
namespace Go.Proofs.YtbdliphlolajaaaDoor.Sh
variable {E : Env} {P : Program} {g : Gh} {w : World}

theorem VR.ofVal (g : Gh) (w : World) (v : Value) : VR g w (Sh.ofVal v) v := by
  unfold Sh.ofVal
  split
  · rename_i cs
    split
    · rename_i h
      refine .agg _ _ (by simp) (fun c hc => List.all_eq_true.1 h c hc) (fun k x v hx hv => ?_)
      simp only [List.getElem?_map, Array.getElem?_toList, hv, Option.map_some, Option.some.injEq] at hx
      subst hx
      exact VR.ofVal1 g w v
    · exact .bad _
  · rename_i vs
    split
    · rename_i h
      exact .tup _ _ (by simp [h]) (fun k x v hx _ => by simp at hx)
    · exact .bad _
  · exact VR.ofVal1 g w _

theorem ofVal_one {v : Value} (h : (Sh.ofVal v).sto = true) : True := trivial

/-- What an operand holds. -/
theorem evO_rel {a : Act} {tmps : List SV} (hg : ∀ n items, E.G n = some items → VR g w (.rptr items 0 0 true) (.pointer (some ⟨n, 0, none⟩)))
    (ht : VRs g w tmps a.tmps) (x : Operand) : VR g w (evO E tmps x) (a.eval x) := by
  cases x with
  | tmp t =>
    simp only [evO, Act.eval]
    by_cases hlt : t < tmps.length
    · have hlt' : t < a.tmps.size := ht.1 ▸ hlt
      refine ht.2 t _ _ ?_ ?_
      · simp [List.getD, List.getElem?_eq_getElem hlt]
      · simp [Array.getD, hlt']
    · have hge : a.tmps.size ≤ t := ht.1 ▸ Nat.le_of_not_lt hlt
      simp only [List.getD, List.getElem?_eq_none (Nat.le_of_not_lt hlt), Option.getD_none, Array.getD, Nat.not_lt.2 hge, dif_neg, not_false_eq_true, undef]
      exact .tup _ _ rfl (fun k x v hx _ => by simp at hx)
  | const v => exact VR.ofVal g w v
  | global n =>
    simp only [evO, Act.eval]
    split
    · rename_i items h
      exact hg n items h
    · exact .bad _
  | func f => exact .fn f [] [] #[] #[] rfl rfl (fun k x v hx _ => by simp at hx) (fun k x v hx _ => by simp at hx)

theorem semV_some {s : Sem Value} {r : SV} (h : semV s = some r) : ∃ v, s = .pure v ∧ ∀ g w, VR g w r v := by
  unfold semV at h
  split at h <;> simp at h <;> subst h <;> exact ⟨_, rfl, fun _ _ => by constructor⟩

theorem tiOf_some {t : Nat} {ti : TI} (h : tiOf P t = some ti) : ∃ d i, P.underlying t = some d ∧ P.info? t = some i ∧ ti = ⟨tkOf d, i.size, i.bytes, i.zero.map Sh.ofVal⟩ := by
  unfold tiOf at h
  split at h
  · rename_i d i hd hi
    exact ⟨d, i, hd, hi, by simpa using h.symm⟩
  · simp at h

theorem tk_bool {d : TypeDesc} (h : tkOf d = .bool) : d = .bool := by cases d <;> simp_all [tkOf]
theorem tk_int {d : TypeDesc} {k : IntKind} (h : tkOf d = .int k) : d = .int k := by cases d <;> simp_all [tkOf]
theorem tk_str {d : TypeDesc} (h : tkOf d = .str) : d = .string := by cases d <;> simp_all [tkOf]
theorem tk_ptr {d : TypeDesc} (h : tkOf d = .ptr) : ∃ e, d = .pointer e := by cases d <;> simp_all [tkOf]
theorem tk_slice {d : TypeDesc} {e : Nat} (h : tkOf d = .slice e) : d = .slice e := by cases d <;> simp_all [tkOf]
theorem tk_arr {d : TypeDesc} {n e : Nat} (h : tkOf d = .arr n e) : d = .array n e := by cases d <;> simp_all [tkOf]
theorem tk_struct {d : TypeDesc} {fs : List (Nat × Nat)} (h : tkOf d = .struct fs) : ∃ fa : Array Field, d = .struct fa ∧ fs = fa.toList.map fun f => (f.type, f.offset) := by
  cases d <;> simp_all [tkOf]
theorem tk_iface {d : TypeDesc} (h : tkOf d = .iface) : ∃ ms, d = .interface ms := by cases d <;> simp_all [tkOf]
theorem tk_func {d : TypeDesc} (h : tkOf d = .func) : ∃ a b c, d = .func a b c := by cases d <;> simp_all [tkOf]

theorem run_typeInfo {t : TypeId} {i : TypeInfo} (h : P.info? t = some i) (w : World) : (typeInfo t).run P w = .ok i w := by
  simp [typeInfo, h]
theorem run_sizeOf' {t : TypeId} {i : TypeInfo} (h : P.info? t = some i) (w : World) : (sizeOf t).run P w = .ok i.size w := by
  simp [sizeOf, run_typeInfo h]
theorem run_isAgg' {t : TypeId} {d : TypeDesc} (h : P.underlying t = some d) (w : World) : (isAgg t).run P w = .ok (tkOf d).agg w := by
  cases d <;> simp [isAgg, run_underlying h, tkOf, TK.agg]

/-- The model's value of an SV that is a whole number, a bool .. -/
theorem VR.int_inv {k : IntKind} {n : Int} {v : Value} (h : VR g w (.int k n) v) : v = .int k n := by cases h; rfl
theorem VR.bool_inv {b : Bool} {v : Value} (h : VR g w (.bool b) v) : v = .bool b := by cases h; rfl
theorem VR.str_inv {b : ByteArray} {v : Value} (h : VR g w (.str b) v) : v = .string b := by cases h; rfl

theorem eqGuard_plain {op : BinOp} {t : TypeId} {x y : Operand} {a b : Value} (h1 : ∀ cs, a ≠ .agg cs) (h2 : a ≠ .nilIface ∨ b ≠ .nilIface) :
    (eqGuard op t x y a b).run P w = .ok () w := by
  cases op
  all_goals first
    | rfl
    | (unfold eqGuard
       dsimp only
       simp only [Bool.not_true, Bool.false_eq_true, if_false]
       split
       · simp at h2
       · rename_i cs _; exact absurd rfl (h1 cs)
       · rfl)

theorem eqGuard_agg {op : BinOp} {t : TypeId} {x y : Operand} {a b : Array Value} (h : P.eqGuardType P.depth t = false) :
    (eqGuard op t x y (.agg a) (.agg b)).run P w = .ok () w := by
  cases op
  all_goals first
    | rfl
    | (unfold eqGuard
       dsimp only
       simp only [Bool.not_true, Bool.false_eq_true, if_false]
       simp [h])

theorem eqGuard_nil {op : BinOp} {t : TypeId} {x y : Operand} (h : (isCst x || isCst y) = true) :
    (eqGuard op t x y .nilIface .nilIface).run P w = .ok () w := by
  cases op
  all_goals first
    | rfl
    | (unfold eqGuard
       dsimp only
       simp only [Bool.not_true, Bool.false_eq_true, if_false]
       cases x <;> cases y <;> simp [isCst] at h <;> rfl)

theorem eqInts_sim {d : Nat} : ∀ (fs : List Field) (j : Nat) (xs ys : List SV) (xa ya : Array Value) (r : Bool),
    (∀ f ∈ fs, f.name ≠ "_") → ((fs.map fun f => (f.type, f.offset)).all fun f => match tiOf P f.1 with | some ⟨.int _, 1, _, _⟩ => true | _ => false) = true →
    inRow j (fs.map fun f => (f.type, f.offset)) = true → xs.length = fs.length → ys.length = fs.length →
    (∀ (k : Nat) (x : SV), xs[k]? = some x → ∃ v, xa[j + k]? = some v ∧ VR g w x v) → (∀ (k : Nat) (x : SV), ys[k]? = some x → ∃ v, ya[j + k]? = some v ∧ VR g w x v) →
    eqInts xs ys = some r → (Op.eqFields (d + 1) xa ya fs).run P w = .ok r w
  | [], j, xs, ys, xa, ya, r, _, _, _, hx, hy, _, _, h => by
    obtain rfl := List.length_eq_zero_iff.1 hx
    obtain rfl := List.length_eq_zero_iff.1 hy
    simp [eqInts] at h
    subst h
    simp [Op.eqFields]
  | f :: fs, j, xs, ys, xa, ya, r, hn, hi, hr, hx, hy, h1, h2, h => by
    cases xs with
    | nil => simp at hx
    | cons x xs =>
    cases ys with
    | nil => simp at hy
    | cons y ys =>
    cases x <;> (try (simp [eqInts] at h; done))
    rename_i k a
    cases y <;> (try (simp [eqInts] at h; done))
    rename_i k' b
    simp only [eqInts] at h
    split at h
    · rename_i hk
      subst hk
      split at h
      · rename_i c hc
        simp only [Option.some.injEq] at h
        simp only [List.map_cons, List.all_cons, Bool.and_eq_true] at hi
        simp only [List.map_cons, inRow, Bool.and_eq_true, beq_iff_eq] at hr
        obtain ⟨v, hv, hvr⟩ := h1 0 _ (by simp; rfl)
        obtain ⟨u, hu, hur⟩ := h2 0 _ (by simp; rfl)
        obtain rfl := hvr.int_inv
        obtain rfl := hur.int_inv
        have ih := eqInts_sim (d := d) fs (j + 1) xs ys xa ya c (fun f hf => hn f (by simp [hf])) hi.2 hr.2 (by simpa using hx) (by simpa using hy)
          (fun k x hk => by have := h1 (k + 1) x (by simpa using hk); rwa [show j + (k + 1) = j + 1 + k by omega] at this)
          (fun k x hk => by have := h2 (k + 1) x (by simpa using hk); rwa [show j + (k + 1) = j + 1 + k by omega] at this) hc
        have hname : f.name ≠ "_" := hn f (by simp)
        have hti := hi.1
        split at hti
        · rename_i q bt z hq
          obtain ⟨d0, i0, hd0, hi0, he0⟩ := tiOf_some hq
          simp only [TI.mk.injEq] at he0
          have hd1 := tk_int he0.1.symm
          subst hd1
          have hagg : (isAgg f.type).run P w = .ok false w := by rw [run_isAgg' hd0]; rfl
          have hp1 : (part f.type xa f.offset).run P w = .ok (.int k a) w := by
            rw [hr.1]
            simp only [Nat.add_zero] at hv
            simp [part, hagg, hv]
          have hp2 : (part f.type ya f.offset).run P w = .ok (.int k b) w := by
            rw [hr.1]
            simp only [Nat.add_zero] at hu
            simp [part, hagg, hu]
          have he : (Op.equalIn (d + 1) f.type (.int k a) (.int k b)).run P w = .ok (a == b) w := run_equalIn_int w d _ k q a b hd0
          rw [Op.eqFields]
          simp only [if_pos hname, Sem.run_bind, hp1, hp2, he, Result.andThen_ok]
          subst h
          cases hab : (a == b)
          · simp
          · simpa using ih
        · simp at hti
      · simp at h
    · simp at h

theorem eqS_sim {op : BinOp} {t : Nat} {cst : Bool} {xo yo : Operand} {x y : SV} {x' y' : Value} {b : Bool} (hx : VR g w x x') (hy : VR g w y y')
    (hc : cst = (isCst xo || isCst yo)) (h : eqS P t cst x y = some b) :
    (eqGuard op t xo yo x' y').run P w = .ok () w ∧ (Op.equal t x' y').run P w = .ok b w := by
  unfold eqS at h
  split at h
  · simp at h
  rename_i ti hti
  obtain ⟨d, i, hd, hi, rfl⟩ := tiOf_some hti
  split at h
  all_goals first | (simp at h; done) | skip
  case h_1 a c hk =>
    obtain rfl := tk_bool hk
    obtain rfl := hx.bool_inv
    obtain rfl := hy.bool_inv
    simp only [Option.some.injEq] at h
    subst h
    exact ⟨eqGuard_plain (by simp) (by simp), run_equal_bool w t a c hd⟩
  case h_12 hk =>
    obtain ⟨ms, rfl⟩ := tk_iface hk
    cases hx
    cases hy
    split at h
    · simp only [Option.some.injEq] at h
      subst h
      rename_i hcst
      constructor
      · exact eqGuard_nil (by rw [← hc]; exact hcst)
      · show (Op.equalIn (9999 + 1) t _ _).run P w = _
        generalize 9999 = dd
        simp [Op.equalIn, run_underlying hd]
    · simp at h
  case h_18 fs xs ys hk =>
    obtain ⟨fa, rfl, rfl⟩ := tk_struct hk
    split at h
    · rename_i hcond
      obtain ⟨h1, h2, h3, h4, h5, h6, h7⟩ := hcond
      cases hx with
      | agg _ xa hxl _ hxr =>
      cases hy with
      | agg _ ya hyl _ hyr =>
      have hf : P.fieldsOf t = fa := by simp [Program.fieldsOf, hd]
      constructor
      · exact eqGuard_agg h2
      · show (Op.equalIn (9998 + 1 + 1) t _ _).run P w = _
        rw [run_equalIn_struct (P := P) w _ t xa ya (by rw [hf]; exact hd) h1, hf]
        refine eqInts_sim (g := g) (d := 9998) fa.toList 0 xs ys xa ya b ?_ h3 h4 (by simpa using h5) (by simpa using h6) ?_ ?_ h
        · unfold plainNames at h7
          rw [hd] at h7
          simp only [Array.all_eq_true_iff_forall_mem, bne_iff_ne, ne_eq] at h7
          intro f hf'
          exact h7 f (by simpa using hf')
        · intro k x hk'
          have hlt : k < xa.size := by
            have := (List.getElem?_eq_some_iff.1 hk').1
            omega
          exact ⟨xa[k], by simp [hlt], hxr k x _ hk' (by simp [hlt])⟩
        · intro k x hk'
          have hlt : k < ya.size := by
            have := (List.getElem?_eq_some_iff.1 hk').1
            omega
          exact ⟨ya[k], by simp [hlt], hyr k x _ hk' (by simp [hlt])⟩
    · simp at h
  all_goals
    rename_i hk
    first
      | (obtain rfl := tk_slice hk)
      | (obtain ⟨e, rfl⟩ := tk_ptr hk)
      | (obtain ⟨ms, rfl⟩ := tk_iface hk)
      | (obtain ⟨q1, q2, q3, rfl⟩ := tk_func hk)
    cases hx <;> cases hy <;>
      (simp only [Option.some.injEq] at h
       subst h
       refine ⟨eqGuard_plain (by simp) (by simp), ?_⟩
       show (Op.equalIn (9999 + 1) t _ _).run P w = _
       generalize 9999 = dd
       simp [Op.equalIn, run_underlying hd])

theorem binS_sim {op : BinOp} {t : Nat} {cst : Bool} {xo yo : Operand} {x y : SV} {x' y' : Value} {r : SV} (hx : VR g w x x') (hy : VR g w y y')
    (hc : cst = (isCst xo || isCst yo)) (h : binS P op t cst x y = some r) :
    ∃ r', (eqGuard op t xo yo x' y').run P w = .ok () w ∧ (Go.binOp op t x' y').run P w = .ok r' w ∧ VR g w r r' := by
  unfold binS at h
  split at h
  · obtain rfl := hx.int_inv
    obtain rfl := hy.int_inv
    obtain ⟨v, hv, hr⟩ := semV_some h
    exact ⟨v, eqGuard_plain (by simp) (by simp), by rw [hv]; rfl, hr g w⟩
  · obtain rfl := hx.str_inv
    obtain rfl := hy.str_inv
    obtain ⟨v, hv, hr⟩ := semV_some h
    exact ⟨v, eqGuard_plain (by simp) (by simp), by rw [hv]; rfl, hr g w⟩
  · rename_i h1 h2
    split at h
    · split at h
      · rename_i b hb
        simp only [Option.some.injEq] at h
        subst h
        obtain ⟨hg, he⟩ := eqS_sim (op := .eql) (xo := xo) (yo := yo) hx hy hc hb
        refine ⟨.bool b, hg, ?_, .bool b⟩
        have : (Go.binOp .eql t x' y') = (do pure (.bool (← Op.equal t x' y'))) := by
          unfold Go.binOp
          cases hx <;> cases hy <;> first | rfl | (exact absurd rfl (h1 _ _ _ _ rfl)) | (exact absurd rfl (h2 _ _ rfl)) | skip
          all_goals first | (exact (h1 _ _ _ _ rfl rfl).elim) | (exact (h2 _ _ rfl rfl).elim) | skip
          all_goals (simp [eqS] at hb; (repeat' split at hb) <;> simp_all)
        rw [this]
        simp [he]
      · simp at h
    · split at h
      · rename_i b hb
        simp only [Option.some.injEq] at h
        subst h
        obtain ⟨hg, he⟩ := eqS_sim (op := .neq) (xo := xo) (yo := yo) hx hy hc hb
        refine ⟨.bool (!b), hg, ?_, .bool (!b)⟩
        have : (Go.binOp .neq t x' y') = (do pure (.bool (!(← Op.equal t x' y')))) := by
          unfold Go.binOp
          cases hx <;> cases hy <;> first | rfl | skip
          all_goals first | (exact (h1 _ _ _ _ rfl rfl).elim) | (exact (h2 _ _ rfl rfl).elim) | skip
          all_goals (simp [eqS] at hb; (repeat' split at hb) <;> simp_all)
        rw [this]
        simp [he]
      · simp at h
    · simp at h

theorem unS_sim {op : UnOp} {x r : SV} {x' : Value} (hx : VR g w x x') (h : unS op x = some r) : ∃ r', (Op.unary op x').run P w = .ok r' w ∧ VR g w r r' := by
  unfold unS at h
  split at h
  · obtain rfl := hx.int_inv
    obtain ⟨v, hv, hr⟩ := semV_some h
    exact ⟨v, by rw [hv]; rfl, hr g w⟩
  · obtain rfl := hx.bool_inv
    obtain ⟨v, hv, hr⟩ := semV_some h
    exact ⟨v, by rw [hv]; rfl, hr g w⟩
  · simp at h

end Go.Proofs.YtbdliphlolajaaaDoor.Sh
