/-
  The shadow interpreter, text 5: slices, least and greatest, assertions, structs put together. No condition.
-/
import Derived.Test.YtbdliphlolajaaaDoorShSd
set_option linter.unusedVariables false
set_option linter.unusedSimpArgs false
namespace Go.Proofs.YtbdliphlolajaaaDoor.Sh
variable {E : Env} {P : Program} {g : Gh} {w : World}

/-- An operand that may lack. -/
def VRO (g : Gh) (w : World) : Option SV → Option Value → Prop
  | none, none => True
  | some x, some v => VR g w x v
  | _, _ => False

theorem VRO.map {f : Operand → SV} {f' : Operand → Value} (h : ∀ x, VR g w (f x) (f' x)) (o : Option Operand) : VRO g w (o.map f) (o.map f') := by
  cases o
  · trivial
  · exact h _

theorem natS_run {x : SV} {n : Nat} {x' : Value} (hx : VR g w x x') (h : natS x = some n) {y : Nat} {code : BoundsCode} (hy : n ≤ y) :
    (Instr.sliceBound x' y code).run P w = .ok n w := by
  obtain ⟨k, rfl⟩ := natS_some hx h
  have : (0 ≤ (n : Int) ∧ (n : Int) ≤ (y : Int)) := by omega
  simp [Instr.sliceBound, asIntOf, this, hy]

theorem boundsS_sim {isS : Bool} {len cap l h : Nat} {m : Option Nat} {lo hi mx : Option SV} {lo' hi' mx' : Option Value} (h1 : VRO g w lo lo') (h2 : VRO g w hi hi') (h3 : VRO g w mx mx')
    (hcap : len ≤ cap) (hb : boundsS len lo hi mx = some (l, h, m)) :
    (Instr.sliceBounds isS len cap lo' hi' mx').run P w = .ok (l, h, m.getD cap) w ∧ l ≤ h ∧ h ≤ len ∧ ∀ q, m = some q → h ≤ q ∧ q ≤ len := by
  unfold boundsS at hb
  cases mx with
  | none =>
    cases mx' with
    | some v => exact h3.elim
    | none =>
    simp only at hb
    cases hi with
    | none =>
      cases hi' with
      | some v => exact h2.elim
      | none =>
      simp only at hb
      cases lo with
      | none =>
        cases lo' with
        | some v => exact h1.elim
        | none =>
        simp only at hb
        split at hb
        · rename_i hc
          simp only [Option.some.injEq, Prod.mk.injEq] at hb
          obtain ⟨rfl, rfl, rfl⟩ := hb
          exact ⟨by simp [Instr.sliceBounds], by omega, by omega, by simp⟩
        · simp at hb
      | some x =>
        cases lo' with
        | none => exact h1.elim
        | some v =>
        simp only at hb
        split at hb
        · simp at hb
        rename_i l0 hl0
        split at hb
        · rename_i hc
          simp only [Option.some.injEq, Prod.mk.injEq] at hb
          obtain ⟨rfl, rfl, rfl⟩ := hb
          have hr := fun code => natS_run (P := P) (code := code) h1 hl0 hc.1
          exact ⟨by simp [Instr.sliceBounds, hr], by omega, by omega, by simp⟩
        · simp at hb
    | some xh =>
      cases hi' with
      | none => exact h2.elim
      | some vh =>
      simp only at hb
      split at hb
      · simp at hb
      rename_i h0 hh0
      cases lo with
      | none =>
        cases lo' with
        | some v => exact h1.elim
        | none =>
        simp only at hb
        split at hb
        · rename_i hc
          simp only [Option.some.injEq, Prod.mk.injEq] at hb
          obtain ⟨rfl, rfl, rfl⟩ := hb
          have hr := fun code => natS_run (P := P) (code := code) h2 hh0 (y := cap) (by omega)
          exact ⟨by simp [Instr.sliceBounds, hr], by omega, by omega, by simp⟩
        · simp at hb
      | some x =>
        cases lo' with
        | none => exact h1.elim
        | some v =>
        simp only at hb
        split at hb
        · simp at hb
        rename_i l0 hl0
        split at hb
        · rename_i hc
          simp only [Option.some.injEq, Prod.mk.injEq] at hb
          obtain ⟨rfl, rfl, rfl⟩ := hb
          have hr := fun code => natS_run (P := P) (code := code) h1 hl0 hc.1
          have hr2 := fun code => natS_run (P := P) (code := code) h2 hh0 (y := cap) (by omega)
          exact ⟨by simp [Instr.sliceBounds, hr, hr2], by omega, by omega, by simp⟩
        · simp at hb
  | some xm =>
    cases mx' with
    | none => exact h3.elim
    | some vm =>
    simp only at hb
    cases hm : natS xm with
    | none => simp [hm] at hb
    | some m0 =>
    simp only [hm, Option.map_some] at hb
    cases hi with
    | none => simp only at hb; cases lo <;> simp only at hb <;> (try split at hb) <;> simp_all
    | some xh =>
      cases hi' with
      | none => exact h2.elim
      | some vh =>
      simp only at hb
      split at hb
      · simp at hb
      rename_i h0 hh0
      cases lo with
      | none =>
        cases lo' with
        | some v => exact h1.elim
        | none =>
        simp only at hb
        split at hb
        · rename_i hc
          simp only [Option.some.injEq, Prod.mk.injEq] at hb
          obtain ⟨rfl, rfl, rfl⟩ := hb
          have hr := fun code => natS_run (P := P) (code := code) h2 hh0 (y := m0) (by omega)
          have hr3 := fun code => natS_run (P := P) (code := code) h3 hm (y := cap) (by omega)
          exact ⟨by simp [Instr.sliceBounds, hr, hr3], by omega, by omega, fun q hq => by simp at hq; omega⟩
        · simp at hb
      | some x =>
        cases lo' with
        | none => exact h1.elim
        | some v =>
        simp only at hb
        split at hb
        · simp at hb
        rename_i l0 hl0
        split at hb
        · rename_i hc
          simp only [Option.some.injEq, Prod.mk.injEq] at hb
          obtain ⟨rfl, rfl, rfl⟩ := hb
          have hr := fun code => natS_run (P := P) (code := code) h1 hl0 hc.1
          have hr2 := fun code => natS_run (P := P) (code := code) h2 hh0 (y := m0) (by omega)
          have hr3 := fun code => natS_run (P := P) (code := code) h3 hm (y := cap) (by omega)
          exact ⟨by simp [Instr.sliceBounds, hr, hr2, hr3], by omega, by omega, fun q hq => by simp at hq; omega⟩
        · simp at hb

theorem sliceS_sim (hgood : g.Good) {t : Nat} {x r : SV} {x' : Value} {lo hi mx : Option SV} {lo' hi' mx' : Option Value} (hx : VR g w x x') (h1 : VRO g w lo lo') (h2 : VRO g w hi hi') (h3 : VRO g w mx mx')
    (h : sliceS P t x lo hi mx = some r) : ∃ r', (Instr.sliceAt t x' lo' hi' mx').run P w = .ok r' w ∧ VR g w r r' := by
  unfold sliceS at h
  split at h
  · simp at h
  rename_i ti hti
  obtain ⟨d, i, hd, hinfo, rfl⟩ := tiOf_some hti
  split at h
  · rename_i s hk
    obtain rfl := tk_str hk
    obtain rfl := hx.str_inv
    split at h
    case h_2 => simp at h
    rename_i l q hb
    simp only [Option.some.injEq] at h
    subst h
    obtain ⟨hrun, _, _, _⟩ := boundsS_sim (P := P) (isS := false) h1 h2 h3 (Nat.le_refl _) hb
    have hmx : mx' = none := by
      cases mx with
      | none => cases mx' <;> simp_all [VRO]
      | some xm => unfold boundsS at hb; (repeat' split at hb) <;> simp_all
    subst hmx
    exact ⟨_, by simp [Instr.sliceAt, run_underlying hd, Instr.slice, hrun], .str _⟩
  · rename_i e hk
    obtain rfl := tk_slice hk
    split at h
    case h_2 => simp at h
    rename_i te r0 hte hb
    obtain ⟨l, q, m⟩ := r0
    obtain ⟨d2, i2, hd2, hi2, rfl⟩ := tiOf_some hte
    simp only [Option.some.injEq] at h
    subst h
    cases hx
    obtain ⟨hrun, hlq, hq, hm⟩ := boundsS_sim (P := P) (isS := true) h1 h2 h3 (Nat.le_refl _) hb
    have hl0 : l = 0 := by omega
    have hq0 : q = 0 := by omega
    have hm0 : m.getD 0 = 0 := by
      cases m with
      | none => rfl
      | some mm => have := hm mm rfl; simp; omega
    subst hl0 hq0
    rw [hm0] at hrun
    exact ⟨_, by simp [Instr.sliceAt, run_underlying hd, Instr.slice, hrun, run_sizeOf' hi2], .nilsl⟩
  · rename_i e items tl hk
    obtain rfl := tk_slice hk
    split at h
    case h_2 => simp at h
    rename_i te l q m hte hb
    obtain ⟨d2, i2, hd2, hi2, rfl⟩ := tiOf_some hte
    split at h
    case isFalse => simp at h
    rename_i hun
    have hu2 := unif_iff.1 hun
    simp only [Option.some.injEq] at h
    subst h
    cases hx with
    | sle tl a cap hfull =>
      obtain ⟨hrun, hlq, hq, hm⟩ := boundsS_sim (P := P) (isS := true) h1 h2 h3 (Nat.zero_le cap) hb
      have hq1 : q ≤ 0 := hq
      have hl0 : l = 0 := by omega
      have hq0 : q = 0 := by omega
      subst hl0 hq0
      refine ⟨.slice (some a) 0 (m.getD cap), ?_, ?_⟩
      · simp only [Instr.sliceAt, Instr.slice, Sem.run_bind, run_underlying hd, Result.andThen_ok, hrun, run_sizeOf' hi2, Sem.run_pure]
        congr 2
        split
        · rfl
        · simp [Addr.add]
      · refine .sle _ a _ (fun hf => ?_)
        cases m with
        | none =>
          cases tl <;> simp at hf
          simp [hfull rfl]
        | some mm =>
          have := hm mm rfl
          simp at this
          simp [this]
    | sl _ _ b start cap esz rv hu hc hr hcap hfull =>
    obtain ⟨hrun, hlq, hq, hm⟩ := boundsS_sim (P := P) (isS := true) h1 h2 h3 hcap hb
    have hsz : items ≠ [] → esz = i2.size := by
      intro hne
      cases items with
      | nil => exact absurd rfl hne
      | cons y ys => rw [← hu y (by simp)]; exact hu2 y (by simp)
    have hlen : ((items.drop l).take (q - l)).length = q - l := by simp; omega
    have hlm : l ≤ m.getD cap := by
      cases m with
      | none => simp; omega
      | some mm => have := hm mm rfl; simp; omega
    refine ⟨.slice (some ⟨b, if m.getD cap = l then start else start + l * i2.size, none⟩) (q - l) (m.getD cap - l), ?_, ?_⟩
    · simp only [Instr.sliceAt, Instr.slice, Sem.run_bind, run_underlying hd, Result.andThen_ok, hrun, run_sizeOf' hi2, Sem.run_pure]
      congr 2
      split
      · rfl
      · simp [add_none]
    · have key : ∀ tl' : Tl, (tl'.st = true → tl.st = true) → (tl' = .full → m.getD cap - l = q - l) →
          VR g w (.sl ((items.drop l).take (q - l)) tl') (.slice (some ⟨b, if m.getD cap = l then start else start + l * i2.size, none⟩) (q - l) (m.getD cap - l)) := by
        intro tl' hst hf
        by_cases hemp : (items.drop l).take (q - l) = []
        · have hlq0 : q - l = 0 := by rw [← hlen, hemp]; rfl
          have h0 := VR.sl (g := g) (w := w) [] tl' b (if m.getD cap = l then start else start + l * i2.size) (m.getD cap - l) 0 (fun _ => undef) (by simp) (by simp [flat]) (by simp [flat]) (by simp) (fun hf' => by rw [hf hf', hlq0]; rfl)
          rw [hemp, hlq0]
          exact h0
        · have hne : items ≠ [] := fun he => hemp (by simp [he])
          have hltl : l < items.length := by
            rcases Nat.lt_or_ge l items.length with hh | hh
            · exact hh
            · exact absurd (by rw [List.drop_eq_nil_of_le hh, List.take_nil]) hemp
          have hlt : ¬ m.getD cap = l := by
            intro he
            apply hemp
            have : q - l = 0 := by
              cases m with
              | none => simp at he; omega
              | some mm => have := hm mm rfl; simp at he; omega
            rw [this]; rfl
          rw [if_neg hlt, ← hsz hne]
          have hfl : flat ((items.drop l).take (q - l)) = ((flat items).drop (l * esz)).take ((q - l) * esz) := by
            rw [flat_take (n := esz) _ (fun x hx => hu x (List.mem_of_mem_drop hx)), flat_drop (n := esz) l hu]
          have hget : ∀ (k : Nat) (c : SV), (flat ((items.drop l).take (q - l)))[k]? = some c → (flat items)[l * esz + k]? = some c := by
            intro k c hk
            rw [hfl, List.getElem?_take] at hk
            split at hk
            · rwa [List.getElem?_drop] at hk
            · simp at hk
          have h0 := VR.sl (g := g) (w := w) ((items.drop l).take (q - l)) tl' b (start + l * esz) (m.getD cap - l) esz (fun k => rv (l * esz + k))
            (fun x hx => hu x (List.mem_of_mem_drop (List.mem_of_mem_take hx)))
            (fun k c hk => by
              obtain ⟨a1, a2, a3⟩ := hc _ c (hget k c hk)
              rw [Nat.add_assoc]
              refine ⟨a1, ?_, a3⟩
              cases hs : tl'.st with
              | true => rw [hst hs] at a2; exact a2
              | false =>
                cases hs2 : tl.st with
                | true => rw [hs2] at a2; exact (Gh.sees_now hgood (st := true) a2)
                | false => rw [hs2] at a2; exact a2)
            (fun k c hk => hr _ c (hget k c hk))
            (by rw [hlen]; cases m with
              | none => simp; omega
              | some mm => have := hm mm rfl; simp; omega)
            (fun hf' => by rw [hlen]; exact hf hf')
          rw [hlen] at h0
          exact h0
      apply key
      · cases m <;> cases tl <;> simp [Tl.st] <;> (repeat' split) <;> simp_all [Tl.st]
      · cases m with
        | none =>
          intro hf
          cases tl <;> simp at hf
          simp [hfull rfl, hf]
        | some mm =>
          intro hf
          have := hm mm rfl
          by_cases hmq : mm = q
          · simp [hmq]
          · simp [hmq] at hf
            cases tl <;> simp at hf
  · rename_i e id esz p len hk
    obtain rfl := tk_slice hk
    split at h
    case h_2 => simp at h
    rename_i te l q m hte hb
    obtain ⟨d2, i2, hd2, hi2, rfl⟩ := tiOf_some hte
    split at h
    case isFalse => simp at h
    rename_i hsz0
    have hsz : i2.size = esz := hsz0
    cases hx with
    | own _ _ _ _ b cap hown he hle hs =>
    obtain ⟨hrun, hlq, hq, hm⟩ := boundsS_sim (P := P) (isS := true) h1 h2 h3 hle hb
    have hlm : l ≤ m.getD cap := by
      cases m with
      | none => simp; omega
      | some mm => have := hm mm rfl; simp; omega
    have hrun2 : (Instr.sliceAt t (.slice (some ⟨b, p * esz, none⟩) len cap) lo' hi' mx').run P w =
        .ok (.slice (some ⟨b, if m.getD cap = l then p * esz else p * esz + l * esz, none⟩) (q - l) (m.getD cap - l)) w := by
      simp only [Instr.sliceAt, Instr.slice, Sem.run_bind, run_underlying hd, Result.andThen_ok, hrun, run_sizeOf' hi2, Sem.run_pure, hsz]
      congr 2
      split
      · rfl
      · simp [add_none]
    split at h
    · rename_i hlq2
      simp only [Option.some.injEq] at h
      subst h
      refine ⟨_, hrun2, ?_⟩
      have hq0 : q - l = 0 := by omega
      rw [hq0]
      refine VR.sl (g := g) (w := w) [] _ b _ (m.getD cap - l) 0 (fun _ => undef) (by simp) (by simp [flat]) (by simp [flat]) (by simp) (fun hf => ?_)
      split at hf
      · rename_i hmq
        simp [hmq, hlq2]
      · simp at hf
    · rename_i hlq2
      simp only [Option.some.injEq] at h
      subst h
      refine ⟨_, hrun2, ?_⟩
      have hne : ¬ m.getD cap = l := by
        cases m with
        | none => simp; omega
        | some mm => have := hm mm rfl; simp; omega
      rw [if_neg hne, ← Nat.add_mul]
      obtain ⟨c, ty, hb1, hb2⟩ := hs
      have hmc : m.getD cap ≤ cap := by
        cases m with
        | none => simp
        | some mm => have := hm mm rfl; simp; omega
      refine .own id esz (p + l) (q - l) b _ hown he (by
        cases m with
        | none => simp; omega
        | some mm => have := hm mm rfl; simp; omega) ⟨c, ty, hb1, Nat.le_trans (Nat.mul_le_mul_right _ (by omega)) hb2⟩
  · simp at h


theorem mmGo_sim {mx : Bool} {k : IntKind} : ∀ (xs : List SV) (vs : List Value) (a : Int) (r : SV), xs.length = vs.length →
    (∀ (j : Nat) (x : SV) (v : Value), xs[j]? = some x → vs[j]? = some v → VR g w x v) → mmGo mx k a xs = some r →
    ∃ r', (vs.foldlM (if mx then Builtin.max2 else Builtin.min2) (.int k a)).run P w = .ok r' w ∧ VR g w r r'
  | [], [], a, r, _, _, h => by
    simp [mmGo] at h
    subst h
    exact ⟨_, rfl, .int k a⟩
  | x :: xs, v :: vs, a, r, hl, hr, h => by
    cases x <;> (try (simp [mmGo] at h; done))
    rename_i k' b
    simp only [mmGo] at h
    obtain rfl := (hr 0 (.int k' b) v rfl rfl).int_inv
    obtain ⟨r', hrun, hv⟩ := mmGo_sim xs vs _ r (by simpa using hl) (fun j y u hy hu => hr (j + 1) y u (by simpa using hy) (by simpa using hu)) h
    refine ⟨r', ?_, hv⟩
    rw [← hrun]
    cases mx <;> simp [List.foldlM_cons, Builtin.max2, Builtin.min2]

theorem mmS_sim {mx : Bool} {xs : List SV} {vs : Array Value} {at' : Array TypeId} {ty : TypeId} {r : SV} (hx : VRs g w xs vs) (h : mmS mx xs = some r) :
    ∃ r', ((if mx then Builtin.max_ at' ty vs else Builtin.min_ at' ty vs)).run P w = .ok r' w ∧ VR g w r r' := by
  unfold mmS at h
  split at h
  · rename_i k a rest
    obtain ⟨hl, hr⟩ := hx
    cases hv : vs.toList with
    | nil =>
      have h0 : vs.size = 0 := by rw [← Array.length_toList, hv]; rfl
      rw [h0] at hl
      simp at hl
    | cons v vl =>
      have hget : ∀ j : Nat, vs[j]? = (v :: vl)[j]? := fun j => by rw [← hv, Array.getElem?_toList]
      have hlen : vs.size = vl.length + 1 := by rw [← Array.length_toList, hv]; rfl
      obtain rfl := (hr 0 (.int k a) v rfl (by rw [hget]; rfl)).int_inv
      obtain ⟨r', hrun, hvr⟩ := mmGo_sim (P := P) rest vl a r (by simp at hl; omega) (fun j y u hy hu => hr (j + 1) y u (by simpa using hy) (by rw [hget]; simpa using hu)) h
      refine ⟨r', ?_, hvr⟩
      rw [← hrun]
      cases mx <;> simp [Builtin.max_, Builtin.min_, hv]
  · simp at h

theorem assertS_sim {t xt : Nat} {ok : Bool} {x r : SV} {x' : Value} (hx : VR g w x x') (h : assertS P x t ok = some r) :
    ∃ r', (Instr.typeAssert x' xt t ok).run P w = .ok r' w ∧ VR g w r r' := by
  unfold assertS at h
  split at h
  · simp at h
  rename_i ti hti
  obtain ⟨d, i, hd, hi, rfl⟩ := tiOf_some hti
  have hni : ∀ ms, d ≠ .interface ms := by
    rintro ms rfl
    simp [tkOf] at h
  split at h
  · simp at h
  have pair : ∀ (s : SV) (v : Value) (b : Bool), VR g w s v → VR g w (.tup [s, .bool b]) (.tuple #[v, .bool b]) := by
    intro s v b hv
    refine .tup _ _ rfl (fun k y u hy hu => ?_)
    match k with
    | 0 => simp at hy hu; subst hy hu; exact hv
    | 1 => simp at hy hu; subst hy hu; exact .bool b
    | k + 2 => simp at hy
  have zero : ∀ z, i.zero.map Sh.ofVal = some z → ∃ z', (zeroValue t).run P w = .ok z' w ∧ VR g w z z' := by
    intro z hz
    simp only [Option.map_eq_some_iff] at hz
    obtain ⟨z', hz', rfl⟩ := hz
    exact ⟨z', by simp [zeroValue, run_typeInfo hi, hz'], VR.ofVal g w z'⟩
  split at h
  · cases hx
    split at h
    · rename_i hok
      subst hok
      split at h
      case h_2 => simp at h
      rename_i z hz
      simp only [Option.some.injEq] at h
      subst h
      obtain ⟨z', hz', hvr⟩ := zero z hz
      refine ⟨_, ?_, pair z z' false hvr⟩
      cases d <;> first | (exact absurd rfl (hni _)) | simp [Instr.typeAssert, run_underlying hd, hz']
    · simp at h
  · rename_i u v
    cases hx with
    | iface _ _ v' hx' hv =>
    split at h
    · rename_i hut
      subst hut
      simp only [Option.some.injEq] at h
      subst h
      cases ok with
      | true =>
        refine ⟨_, ?_, pair v v' true hv⟩
        cases d <;> first | (exact absurd rfl (hni _)) | simp [Instr.typeAssert, run_underlying hd]
      | false =>
        refine ⟨_, ?_, hv⟩
        cases d <;> first | (exact absurd rfl (hni _)) | simp [Instr.typeAssert, run_underlying hd]
    · rename_i hut
      split at h
      case isFalse => simp at h
      rename_i hok
      subst hok
      split at h
      case h_2 => simp at h
      rename_i z hz
      simp only [Option.some.injEq] at h
      subst h
      obtain ⟨z', hz', hvr⟩ := zero z hz
      refine ⟨_, ?_, pair z z' false hvr⟩
      cases d <;> first | (exact absurd rfl (hni _)) | simp [Instr.typeAssert, run_underlying hd, hz', hut]
  · simp at h

/-! ### Structs put together -/

theorem splice_get {cs ds : List SV} {o k : Nat} (h : o + ds.length ≤ cs.length) :
    (splice cs o ds)[k]? = if o ≤ k ∧ k < o + ds.length then ds[k - o]? else cs[k]? := by
  unfold splice
  have h1 : (cs.take o).length = o := by simp; omega
  by_cases hk : k < o
  · rw [if_neg (by omega), List.append_assoc, List.getElem?_append_left (by omega), List.getElem?_take, if_pos hk]
  · by_cases hk2 : k < o + ds.length
    · rw [if_pos ⟨by omega, hk2⟩, List.append_assoc, List.getElem?_append_right (by omega), h1, List.getElem?_append_left (by omega)]
    · rw [if_neg (by omega), List.append_assoc, List.getElem?_append_right (by omega), h1, List.getElem?_append_right (by omega), List.getElem?_drop]
      congr 1; omega

theorem splice_length {cs ds : List SV} {o : Nat} (h : o + ds.length ≤ cs.length) : (splice cs o ds).length = cs.length := by
  unfold splice
  simp; omega

theorem fold_set (off : Nat) : ∀ (l : List Value) (i : Nat) (cells : Array Value), off + i + l.length ≤ cells.size →
    ((l.zipIdx i).foldl (fun (cs : Array Value) (p : Value × Nat) => cs.setIfInBounds (off + p.2) p.1) cells).size = cells.size ∧
    ∀ k : Nat, ((l.zipIdx i).foldl (fun (cs : Array Value) (p : Value × Nat) => cs.setIfInBounds (off + p.2) p.1) cells)[k]? =
      if off + i ≤ k ∧ k < off + i + l.length then l[k - (off + i)]? else cells[k]?
  | [], i, cells, h => by
    refine ⟨rfl, fun k => ?_⟩
    rw [if_neg (by simp)]
    rfl
  | v :: l, i, cells, h => by
    simp only [List.zipIdx_cons, List.foldl_cons]
    obtain ⟨h1, h2⟩ := fold_set off l (i + 1) (cells.setIfInBounds (off + i) v) (by simp at h ⊢; omega)
    refine ⟨by simpa using h1, fun k => ?_⟩
    rw [h2 k]
    simp only [List.length_cons] at h ⊢
    by_cases hk : k = off + i
    · subst hk
      rw [if_neg (by omega), if_pos (by omega), Array.getElem?_setIfInBounds_self_of_lt (by omega)]
      simp
    · by_cases hk2 : off + (i + 1) ≤ k ∧ k < off + (i + 1) + l.length
      · rw [if_pos hk2, if_pos (by omega)]
        have : k - (off + i) = (k - (off + (i + 1))) + 1 := by omega
        rw [this, List.getElem?_cons_succ]
      · rw [if_neg hk2, if_neg (by omega), Array.getElem?_setIfInBounds_ne (by omega)]

theorem fill_step (off : Nat) (cells : Array Value) (vs : Array Value) (h : off + vs.size ≤ cells.size) :
    (vs.zipIdx.foldl (fun cs (c, j) => cs.setIfInBounds (off + j) c) cells).size = cells.size ∧
    ∀ k : Nat, (vs.zipIdx.foldl (fun cs (c, j) => cs.setIfInBounds (off + j) c) cells)[k]? = if off ≤ k ∧ k < off + vs.size then vs[k - off]? else cells[k]? := by
  have := fold_set off vs.toList 0 cells (by simpa using h)
  rw [← Array.foldl_toList, Array.toList_zipIdx]
  simpa using this

theorem buildS_sim {pl : Nat → Option (Nat × Nat)} : ∀ (ps : List (Nat × SV)) (qs : List (Nat × Value)) (cs : List SV) (cells : Array Value) (r : List SV),
    VR g w (.agg cs) (.agg cells) → ps.length = qs.length → (∀ (j : Nat) (x : Nat × SV) (y : Nat × Value), ps[j]? = some x → qs[j]? = some y → x.1 = y.1 ∧ VR g w x.2 y.2) →
    buildS pl cs ps = some r → ∃ r', Instr.fill pl cells qs = some r' ∧ VR g w (.agg r) (.agg r')
  | [], [], cs, cells, r, hc, _, _, h => by
    simp [buildS] at h
    subst h
    exact ⟨cells, rfl, hc⟩
  | (i, x) :: ps, (i', v) :: qs, cs, cells, r, hc, hl, hr, h => by
    simp only [buildS] at h
    split at h
    case h_2 => simp at h
    rename_i o n hpl
    split at h
    case isFalse => simp at h
    rename_i hcond
    obtain ⟨hi, hv⟩ := hr 0 (i, x) (i', v) rfl rfl
    simp only at hi hv
    subst hi
    obtain ⟨⟨hvl, hvr⟩, hone⟩ := hv.cells hcond.1
    cases hc with
    | agg _ _ hcl hco hcr =>
    have hsz : v.cells.size = n := by rw [← hvl]; exact hcond.2.1
    have hle : o + v.cells.size ≤ cells.size := by rw [hsz, ← hcl]; exact hcond.2.2
    obtain ⟨f1, f2⟩ := fill_step o cells v.cells hle
    have hlen : o + x.cells.length ≤ cs.length := by rw [hcond.2.1]; exact hcond.2.2
    have hnew : VR g w (.agg (splice cs o x.cells)) (.agg (v.cells.zipIdx.foldl (fun cs (c, j) => cs.setIfInBounds (o + j) c) cells)) := by
      refine .agg _ _ ?_ ?_ ?_
      · rw [splice_length hlen, f1, hcl]
      · intro c hc
        unfold splice at hc
        simp only [List.mem_append] at hc
        rcases hc with (hc | hc) | hc
        · exact hco c (List.mem_of_mem_take hc)
        · exact hone c hc
        · exact hco c (List.mem_of_mem_drop hc)
      · intro k y u hy hu
        rw [splice_get hlen] at hy
        rw [f2] at hu
        have he : v.cells.size = x.cells.length := hvl.symm
        rw [he] at hu
        split at hy
        · rename_i hk
          rw [if_pos hk] at hu
          exact hvr _ y u hy hu
        · rename_i hk
          rw [if_neg hk] at hu
          exact hcr k y u hy hu
    obtain ⟨r', hf, hvr'⟩ := buildS_sim ps qs _ _ r hnew (by simpa using hl) (fun j y u hy hu => hr (j + 1) y u (by simpa using hy) (by simpa using hu)) h
    refine ⟨r', ?_, hvr'⟩
    simp only [Instr.fill, hpl]
    rw [if_neg (by simp [hsz]; omega)]
    exact hf

theorem placesOf_struct {fa : Array Field} {pl : Nat → Option (Nat × Nat)} (h : placesOf P (.struct (fa.toList.map fun f => (f.type, f.offset))) = some pl) :
    ∃ ps : Array (Nat × Nat), (fa.mapM fun f => do pure (f.offset, ← sizeOf f.type) : Sem (Array (Nat × Nat))).run P w = .ok ps w ∧ ∀ i, pl i = ps[i]? := by
  simp only [placesOf] at h
  split at h
  case h_2 => cases h
  rename_i ps hps
  simp only [Option.some.injEq] at h
  subst h
  refine ⟨ps.toArray, ?_, by simp⟩
  rw [Array.mapM_eq_mapM_toList]
  generalize fa.toList = l at hps
  have key : ∀ (F : Field → Sem (Nat × Nat)), (∀ f i, P.info? f.type = some i → (F f).run P w = .ok (f.offset, i.size) w) →
      ∀ (l : List Field) (ps : List (Nat × Nat)), (l.map fun f => (f.type, f.offset)).mapM (fun f => match tiOf P f.1 with | some x => some (f.2, x.size) | none => none) = some ps →
      (l.mapM F).run P w = .ok ps w := by
    intro F hF l
    induction l with
    | nil => intro ps h; simp at h; subst h; simp
    | cons f l ih =>
      intro ps h
      simp only [List.map_cons, List.mapM_cons, Option.bind_eq_bind, Option.bind_eq_some_iff] at h
      obtain ⟨p, hp, qs, hqs, he⟩ := h
      split at hp
      case h_2 => simp at hp
      rename_i ti hti
      obtain ⟨d, i, hd, hi, rfl⟩ := tiOf_some hti
      simp only [Option.some.injEq] at hp
      simp only [Option.pure_def, Option.some.injEq] at he
      subst hp he
      simp [hF f i hi, ih qs hqs]
  have hk := key (fun f => do pure (f.offset, ← sizeOf f.type)) (fun f i hi => by simp [run_sizeOf' hi]) l ps hps
  simp only [Sem.run_map, hk, Result.andThen_ok]

end Go.Proofs.YtbdliphlolajaaaDoor.Sh
