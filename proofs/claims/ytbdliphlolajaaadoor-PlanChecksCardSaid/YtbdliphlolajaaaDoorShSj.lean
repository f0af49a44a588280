/-
  The shadow interpreter, text 10: one operation. No condition.
-/
import Derived.Test.YtbdliphlolajaaaDoorShSi
set_option linter.unusedVariables false
set_option linter.unusedSimpArgs false
namespace Go.Proofs.YtbdliphlolajaaaDoor.Sh
variable {E : Env} {P : Program} {g g' : Gh} {w : World}

def newOp : Op → Bool
  | .alloc _ | .box .. | .buildSlice .. | .makeSlice .. => true
  | .call { callee := .builtin .append, .. } => true
  | _ => false

def isCall : Op → Bool
  | .call { callee := .value _, .. } => true
  | _ => false

/-- What an operation that is no call does. -/
structure Does (E : Env) (g : Gh) (w : World) (M : Mem) (fr : Nat → Prop) (aid : Nat) (nw : Bool) (R : Result Next) (v : SV) (u : List (Nat × Option (List SV))) : Prop where
  ex : ∃ (w' : World) (g' : Gh) (v' : Value), (R = .ok (.value v') w' ∨ (R = .ok .skip w' ∧ v' = undef)) ∧ Evo g w g' w' ∧ MR E g' w' (M.sets u) (fun j => fr j ∧ (nw = true → j ≠ aid)) ∧ VR g' w' v v' ∧
    ∀ j, j ≠ aid → g'.own j = g.own j

theorem Does.same {M : Mem} {fr : Nat → Prop} (hM : MR E g w M fr) (aid : Nat) (nw : Bool) {R : Result Next} {v : SV} {v' : Value} (hR : R = .ok (.value v') w) (hv : VR g w v v') : Does E g w M fr aid nw R v [] :=
  ⟨w, g, v', .inl hR, .refl g w, hM.weaken fun _ h => h.1, hv, fun _ _ => rfl⟩

theorem Does.made {M : Mem} {fr : Nat → Prop} {aid : Nat} {R : Result Next} {v : SV} {u : List (Nat × Option (List SV))} {w' : World} {g' : Gh} {v' : Value} (hR : R = .ok (.value v') w') (hd : Done E g w g' w' (M.sets u) fr aid) (hv : VR g' w' v v') :
    Does E g w M fr aid true R v u :=
  ⟨w', g', v', .inl hR, hd.evo, hd.mr.weaken fun _ h => ⟨h.1, h.2 rfl⟩, hv, hd.keep⟩

theorem Does.weaken {M : Mem} {fr : Nat → Prop} {aid : Nat} {R : Result Next} {v : SV} {u : List (Nat × Option (List SV))} (h : Does E g w M fr aid true R v u) (nw : Bool) (hn : nw = true) : Does E g w M fr aid nw R v u := by
  subst hn; exact h

theorem some_pair {x : Option SV} {v : SV} {u : List (Nat × Option (List SV))} (h : (match x with | some y => some (y, ([] : List (Nat × Option (List SV)))) | none => none) = some (v, u)) : x = some v ∧ u = [] := by
  cases x with
  | none => cases h
  | some y => simp at h; exact ⟨by rw [h.1], h.2⟩

theorem act_sim {M : Mem} {fr : Nat → Prop} (hM : MR E g w M fr) {pc : PC} {aid : Nat} {ρ : Operand → SV} {ρ' : Operand → Value} (hρ : ∀ x, VR g w (ρ x) (ρ' x)) {get : Nat → Option (List SV)} (hget : ∀ id items, get id = some items → M.blk id = some items)
    {o : Oper} (hnc : isCall o.op = false) (hfr : newOp o.op = true → fr aid) {v : SV} {u : List (Nat × Option (List SV))} (h : act E pc aid ρ get o = some (v, u)) :
    Does E g w M fr aid (newOp o.op) ((execOp ρ' o).run E.P w) v u := by
  obtain ⟨dst, op, type, pos, after, guard⟩ := o
  cases op <;> simp only [act] at h <;> (try (cases h; done))
  case move x =>
    simp only [Option.some.injEq, Prod.mk.injEq] at h
    obtain ⟨rfl, rfl⟩ := h
    exact .same hM aid _ rfl (hρ x)
  case assign x =>
    simp only [Option.some.injEq, Prod.mk.injEq] at h
    obtain ⟨rfl, rfl⟩ := h
    exact .same hM aid _ rfl (hρ x)
  case pick c p q =>
    have hc := hρ c
    split at h
    · rename_i b hb
      rw [hb] at hc
      simp only [Option.some.injEq, Prod.mk.injEq] at h
      obtain ⟨rfl, rfl⟩ := h
      refine .same hM aid _ (v' := if b then ρ' p else ρ' q) ?_ ?_
      · simp [execOp, hc.bool_inv, asBool]
      · cases b
        · exact hρ q
        · exact hρ p
    · cases h
  case alloc t =>
    split at h
    case h_2 => cases h
    rename_i ti hti
    split at h
    case h_2 => cases h
    rename_i z hz
    split at h
    case isFalse => cases h
    rename_i hs
    simp only [Option.some.injEq, Prod.mk.injEq] at h
    obtain ⟨rfl, rfl⟩ := h
    obtain ⟨w', g', v', h1, h2, h3⟩ := alloc_sim hM (hfr rfl) hti hz hs
    exact .made (by simp [execOp, h1]) (by simpa [Mem.sets] using h2) h3
  case box t x =>
    split at h
    case isFalse => cases h
    rename_i hs
    simp only [Option.some.injEq, Prod.mk.injEq] at h
    obtain ⟨rfl, rfl⟩ := h
    obtain ⟨w', g', v', h1, h2, h3⟩ := box_sim (P := E.P) hM (hfr rfl) (t := t) (hρ x) hs
    exact .made (by simp [execOp, h1]) (by simpa [Mem.sets] using h2) h3
  case build t parts =>
    split at h
    case h_2 => cases h
    rename_i ti hti
    split at h
    case h_2 => cases h
    rename_i zs pl hz hpl
    obtain ⟨hx, rfl⟩ := some_pair h
    split at hx
    case h_2 => cases hx
    rename_i cs hcs
    simp only [Option.some.injEq] at hx
    subst hx
    obtain ⟨d, i, hd, hi, rfl⟩ := tiOf_some hti
    simp only [Option.map_eq_some_iff] at hz
    obtain ⟨zv, hzv, hze⟩ := hz
    have hzr := VR.ofVal g w zv
    rw [hze] at hzr
    cases hzr with
    | agg _ za zl zo zr =>
    have hparts : ∀ (j : Nat) (x : Nat × SV) (y : Nat × Value), (parts.toList.map fun p => (p.1, ρ p.2))[j]? = some x → (parts.toList.map fun p => (p.1, ρ' p.2))[j]? = some y → x.1 = y.1 ∧ VR g w x.2 y.2 := by
      intro j x y hx hy
      simp only [List.getElem?_map, Option.map_eq_some_iff] at hx hy
      obtain ⟨p, hp, rfl⟩ := hx
      obtain ⟨q, hq, rfl⟩ := hy
      rw [hp] at hq
      cases hq
      exact ⟨rfl, hρ _⟩
    obtain ⟨r', hf, hvr⟩ := buildS_sim _ (parts.toList.map fun p => (p.1, ρ' p.2)) zs za cs (.agg zs za zl zo zr) (by simp) hparts hcs
    have hpt : (parts.map fun (i, x) => (i, ρ' x)).toList = parts.toList.map fun p => (p.1, ρ' p.2) := by simp
    refine .same hM aid _ (v' := .agg r') ?_ hvr
    cases d <;> (try (simp [tkOf, placesOf] at hpl; done))
    case array n e =>
      simp only [tkOf, placesOf] at hpl
      split at hpl
      case h_2 => cases hpl
      rename_i te hte
      obtain ⟨d2, i2, hd2, hi2, rfl⟩ := tiOf_some hte
      simp only [Option.some.injEq] at hpl
      subst hpl
      simp [execOp, Instr.build, zeroValue, run_typeInfo hi, hzv, run_underlying hd, run_sizeOf' hi2, Value.cells, hpt, hf]
    case struct fa =>
      obtain ⟨ps, hps, hpe⟩ := placesOf_struct (w := w) hpl
      have hfill : Instr.fill (ps[·]?) za (parts.toList.map fun p => (p.1, ρ' p.2)) = some r' := by
        have : pl = (ps[·]?) := funext hpe
        rw [← this]
        exact hf
      simp only [execOp, Instr.build, Sem.run_bind, zeroValue, run_typeInfo hi, hzv, Result.andThen_ok, Sem.run_pure, run_underlying hd, Value.cells, hpt, hps, hfill]
  case buildSlice t len parts =>
    split at h
    case h_2 => cases h
    rename_i e x1 x2 x3 ht
    split at h
    case h_2 => cases h
    rename_i te hte
    split at h
    case h_2 => cases h
    rename_i z hz
    split at h
    case isFalse => cases h
    rename_i hc
    split at h
    case h_2 => cases h
    rename_i xs hxs
    simp only [Option.some.injEq, Prod.mk.injEq] at h
    obtain ⟨rfl, rfl⟩ := h
    obtain ⟨w', g', v', h1, h2, h3⟩ := buildSlice_sim hM (hfr rfl) ht hte hz hc (qs := parts.map fun (i, x) => (i, ρ' x)) (by simp) (fun j x y hx hy => by
      simp only [List.getElem?_map, Array.getElem?_toList, Array.getElem?_map, Option.map_eq_some_iff] at hx hy
      obtain ⟨p, hp, rfl⟩ := hx
      obtain ⟨q, hq, rfl⟩ := hy
      rw [hp] at hq
      cases hq
      exact ⟨rfl, hρ _⟩) hxs
    exact .made (by simp only [execOp, Sem.run_bind, h1, Result.andThen_ok]; rfl) (by simpa [Mem.sets] using h2) h3
  case load t x =>
    obtain ⟨hx, rfl⟩ := some_pair h
    obtain ⟨r', h1, h2⟩ := loadS_sim hM hget (hρ x) hx
    exact .same hM aid _ (by simp [execOp, h1]) h2
  case store t x y =>
    split at h
    case h_2 => cases h
    rename_i u' hu
    simp only [Option.some.injEq, Prod.mk.injEq] at h
    obtain ⟨rfl, rfl⟩ := h
    obtain ⟨w', h1, h2, h3⟩ := store_sim hM hget aid (hρ x) (hρ y) hu
    exact ⟨w', g, undef, .inr ⟨by simp [execOp, h1], rfl⟩, h2, h3.weaken fun _ h => h.1, .tup [] #[] rfl (fun k x v hx _ => by simp at hx), fun _ _ => rfl⟩
  case nilCheck x =>
    have hx := hρ x
    split at h
    all_goals first | (cases h; done) | skip
    all_goals
      rename_i hq
      rw [hq] at hx
      simp only [Option.some.injEq, Prod.mk.injEq] at h
      obtain ⟨rfl, rfl⟩ := h
      refine .same hM aid _ (v' := ρ' x) ?_ hx
      generalize hy : ρ' x = y at hx
      cases hx
      simp [execOp, hy]
  case binOp op t x y yt =>
    obtain ⟨hx, rfl⟩ := some_pair h
    obtain ⟨r', h1, h2, h3⟩ := binS_sim (xo := x) (yo := y) (hρ x) (hρ y) rfl hx
    exact .same hM aid _ (by simp [execOp, h1, h2]) h3
  case unOp op t x =>
    obtain ⟨hx, rfl⟩ := some_pair h
    obtain ⟨r', h1, h2⟩ := unS_sim (P := E.P) (hρ x) hx
    exact .same hM aid _ (by simp [execOp, h1]) h2
  case convert s d x =>
    obtain ⟨hx, rfl⟩ := some_pair h
    obtain ⟨r', h1, h2⟩ := convS_sim hM hget (hρ x) hx
    exact .same hM aid _ (by simp [execOp, h1]) h2
  case makeInterface t x =>
    split at h
    · cases h
    rename_i hsn
    split at h
    · cases h
    · rename_i ti hni hti
      simp only [Option.some.injEq, Prod.mk.injEq] at h
      obtain ⟨rfl, rfl⟩ := h
      obtain ⟨d, i, hd, hi, rfl⟩ := tiOf_some hti
      refine .same hM aid _ (v' := .iface t (ρ' x)) ?_ (.iface t _ _ (fun u hu => by rw [(hM.sent t).1 (by simpa using hsn)] at hu; cases hu) (hρ x))
      cases d <;> first | (simp [execOp, Instr.makeInterface, run_underlying hd]; done) | skip
      exact (hni _ _ _ rfl).elim
    · cases h
  case makeFunc fn first caps =>
    cases fn <;> simp only at h <;> (try (cases h; done))
    rename_i f
    simp only [Option.some.injEq, Prod.mk.injEq] at h
    obtain ⟨rfl, rfl⟩ := h
    refine .same hM aid _ (v' := .func (.func f) (first.map ρ') (caps.map ρ')) (by simp [execOp, Instr.makeFunc]) (.fn f _ _ _ _ (by simp) (by simp) (fun k x v hx hv => ?_) (fun k x v hx hv => ?_))
    · simp only [List.getElem?_map, Array.getElem?_toList, Array.getElem?_map, Option.map_eq_some_iff] at hx hv
      obtain ⟨p, hp, rfl⟩ := hx
      obtain ⟨q, hq, rfl⟩ := hv
      rw [hp] at hq
      cases hq
      exact hρ _
    · simp only [List.getElem?_map, Array.getElem?_toList, Array.getElem?_map, Option.map_eq_some_iff] at hx hv
      obtain ⟨p, hp, rfl⟩ := hx
      obtain ⟨q, hq, rfl⟩ := hv
      rw [hp] at hq
      cases hq
      exact hρ _
  case makeSlice t l c =>
    split at h
    case h_2 => cases h
    rename_i e x1 x2 x3 ht
    split at h
    case h_2 => cases h
    rename_i te n m hte hl hc
    split at h
    case h_2 => cases h
    rename_i z hz
    split at h
    case isFalse => cases h
    rename_i hcond
    simp only [Option.some.injEq, Prod.mk.injEq] at h
    obtain ⟨rfl, rfl⟩ := h
    obtain ⟨q1, q2, q3, rfl, q5, q6, q7⟩ := hcond
    obtain ⟨w', g', v', h1, h2, h3⟩ := makeSlice_sim hM (hfr rfl) ht hte hz ⟨q1, q2, q3, q5, q6, q7⟩
    have e1 := hρ l
    have e2 := hρ c
    rw [hl] at e1
    rw [hc] at e2
    exact .made (by simp [execOp, e1.int_inv, e2.int_inv, h1]) (by simpa [Mem.sets] using h2) h3
  case slice t x lo hi mx =>
    obtain ⟨hx, rfl⟩ := some_pair h
    obtain ⟨r', h1, h2⟩ := sliceS_sim (P := E.P) hM.good (hρ x) (VRO.map hρ lo) (VRO.map hρ hi) (VRO.map hρ mx) hx
    exact .same hM aid _ (by simp [execOp, h1]) h2
  case fieldAddr t x f =>
    obtain ⟨hx, rfl⟩ := some_pair h
    obtain ⟨r', h1, h2⟩ := fieldAddrS_sim (hρ x) hx
    exact .same hM aid _ (by simp [execOp, h1]) h2
  case field t x f =>
    obtain ⟨hx, rfl⟩ := some_pair h
    obtain ⟨r', h1, h2⟩ := fieldS_sim (hρ x) hx
    exact .same hM aid _ (by simp [execOp, h1]) h2
  case indexAddr t x i =>
    obtain ⟨hx, rfl⟩ := some_pair h
    obtain ⟨r', h1, h2⟩ := indexAddrS_sim (hρ x) (hρ i) hx
    exact .same hM aid _ (by simp [execOp, h1]) h2
  case index t x i =>
    obtain ⟨hx, rfl⟩ := some_pair h
    obtain ⟨r', h1, h2⟩ := indexS_sim (hρ x) (hρ i) hx
    exact .same hM aid _ (by simp [execOp, h1]) h2
  case typeAssert x xt t ok =>
    obtain ⟨hx, rfl⟩ := some_pair h
    obtain ⟨r', h1, h2⟩ := assertS_sim (xt := xt) (hρ x) hx
    exact .same hM aid _ (by simp [execOp, h1]) h2
  case extract t i =>
    have ht := hρ t
    split at h
    case h_2 => cases h
    rename_i vs hvs
    rw [hvs] at ht
    obtain ⟨hx, rfl⟩ := some_pair h
    generalize hy : ρ' t = y at ht
    cases ht with
    | tup _ vv hl hr =>
    have hlt : i < vv.size := by rw [← hl]; exact (List.getElem?_eq_some_iff.1 hx).1
    refine .same hM aid _ (v' := vv[i]) ?_ (hr i v _ hx (by simp [hlt]))
    simp [execOp, hy, Instr.extract, hlt]
  case call c =>
    obtain ⟨callee, args, argTypes⟩ := c
    simp only at h
    cases callee with
    | value f => simp [isCall] at hnc
    | invoke r m => simp only at h; cases h
    | builtin b =>
      cases b <;> simp only at h <;> (try (cases h; done))
      case append =>
        split at h
        case h_2 => cases h
        rename_i s x t t2 ha ht
        obtain ⟨w', g', v', h1, h2, h3⟩ := append_sim (P := E.P) (ty := type) hM hget (hfr rfl) (hρ s) (hρ x) h
        have ha' : args = #[s, x] := by rw [← Array.toList_inj]; exact ha
        have ht' : argTypes = #[t, t2] := by rw [← Array.toList_inj]; exact ht
        subst ha' ht'
        refine .made (v' := v') ?_ h2 h3
        simp [execOp, resolve, invoke, Go.builtin, h1]
      case copy =>
        split at h
        case h_2 => cases h
        rename_i s x t t2 ha ht
        obtain ⟨w', n, h1, rfl, h2, h3⟩ := copy_sim (P := E.P) (ty := type) (t2 := t2) hM hget (hρ s) (hρ x) h
        have ha' : args = #[s, x] := by rw [← Array.toList_inj]; exact ha
        have ht' : argTypes = #[t, t2] := by rw [← Array.toList_inj]; exact ht
        subst ha' ht'
        exact ⟨w', g, .int .i64 n, .inl (by simp [execOp, resolve, invoke, Go.builtin, h1]), h2, h3.weaken fun _ h => h.1, .int _ _, fun _ _ => rfl⟩
      case len =>
        split at h
        case h_2 => cases h
        rename_i x t ha ht
        obtain ⟨hx, rfl⟩ := some_pair h
        obtain ⟨r', h1, h2⟩ := lenS_sim (ty := type) (hρ x) hx
        have ha' : args = #[x] := by rw [← Array.toList_inj]; exact ha
        have ht' : argTypes = #[t] := by rw [← Array.toList_inj]; exact ht
        subst ha' ht'
        exact .same hM aid _ (by simp [execOp, resolve, invoke, Go.builtin, h1]) h2
      case max =>
        obtain ⟨hx, rfl⟩ := some_pair h
        have hvs : VRs g w (args.toList.map ρ) (args.map ρ') := ⟨by simp, fun k x v hx hv => by
          simp only [List.getElem?_map, Array.getElem?_toList, Array.getElem?_map, Option.map_eq_some_iff] at hx hv
          obtain ⟨p, hp, rfl⟩ := hx
          obtain ⟨q, hq, rfl⟩ := hv
          rw [hp] at hq
          cases hq
          exact hρ _⟩
        obtain ⟨r', h1, h2⟩ := mmS_sim (P := E.P) (at' := argTypes) (ty := type) hvs hx
        exact .same hM aid _ (by simp only [if_true] at h1; simp [execOp, resolve, invoke, Go.builtin, h1]) h2
      case min =>
        obtain ⟨hx, rfl⟩ := some_pair h
        have hvs : VRs g w (args.toList.map ρ) (args.map ρ') := ⟨by simp, fun k x v hx hv => by
          simp only [List.getElem?_map, Array.getElem?_toList, Array.getElem?_map, Option.map_eq_some_iff] at hx hv
          obtain ⟨p, hp, rfl⟩ := hx
          obtain ⟨q, hq, rfl⟩ := hv
          rw [hp] at hq
          cases hq
          exact hρ _⟩
        obtain ⟨r', h1, h2⟩ := mmS_sim (P := E.P) (at' := argTypes) (ty := type) hvs hx
        exact .same hM aid _ (by simp only [Bool.false_eq_true, if_false] at h1; simp [execOp, resolve, invoke, Go.builtin, h1]) h2

end Go.Proofs.YtbdliphlolajaaaDoor.Sh
