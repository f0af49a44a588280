/-
  The shadow interpreter, text 15: with more fuel it answers the same; its limit, and the limit's equations. No condition.
-/
import Derived.Test.YtbdliphlolajaaaDoorShSn
set_option linter.unusedVariables false
set_option linter.unusedSimpArgs false
namespace Go.Proofs.YtbdliphlolajaaaDoor.Sh
variable {E : Env}

def PCle (p q : PC) : Prop := ∀ f a r, p f a = some r → q f a = some r
def ICle (p q : IC) : Prop := ∀ f a M r, p f a M = some r → q f a M = some r

theorem opt_ext {α : Type _} {a b : Option α} (h : ∀ r, a = some r ↔ b = some r) : a = b := by
  cases a with
  | none => cases b with
    | none => rfl
    | some y => exact ((h y).2 rfl)
  | some x => exact ((h x).1 rfl).symm

theorem pcOf_mono {p q : IC} (h : ICle p q) : PCle (pcOf p) (pcOf q) := by
  intro f a r hr
  unfold pcOf at hr ⊢
  split at hr
  case h_2 => cases hr
  rename_i v M hv
  rw [h _ _ _ _ hv]
  exact hr

theorem act_mono {pc pc' : PC} (hp : PCle pc pc') {a : Nat} {ρ : Operand → SV} {get : Nat → Option (List SV)} {o : Oper} {x : SV × List (Nat × Option (List SV))} (h : act E pc a ρ get o = some x) :
    act E pc' a ρ get o = some x := by
  unfold act at h ⊢
  cases hop : o.op with
  | call c =>
    simp only [hop] at h ⊢
    cases hc : c.callee with
    | value g =>
      simp only [hc] at h ⊢
      split at h
      case h_2 => cases h
      rename_i f first caps hg
      split at h
      case h_2 => cases h
      rename_i args hargs
      split at h
      case h_2 => cases h
      rename_i y hy
      rw [hp _ _ _ hy]
      exact h
    | builtin b => cases b <;> (simp only [hc] at h ⊢; exact h)
    | _ => simp only [hc] at h ⊢; exact h
  | makeFunc f a b => cases f <;> (simp only [hop] at h ⊢; exact h)
  | _ => simp only [hop] at h ⊢; exact h

theorem exI_mono {me : Nat} {pc pc' : PC} {ic ic' : IC} (hp : PCle pc pc') (hi : ICle ic ic') {n0 sz k : Nat} {i : Ins} {s s' : St}
    (h : exI E me pc ic n0 sz k i s = some s') : exI E me pc' ic' n0 sz k i s = some s' := by
  unfold exI at h ⊢
  split at h
  · exact h
  · exact h
  split at h
  · split at h
    case h_2 => cases h
    rename_i hic
    rw [hi _ _ _ _ hic]
    exact h
  · split at h
    case h_2 => cases h
    rename_i hact
    rw [show actOf E pc' _ _ _ _ = _ from act_mono hp hact]
    exact h

theorem exL_mono {me : Nat} {pc pc' : PC} {ic ic' : IC} (hp : PCle pc pc') (hi : ICle ic ic') {n0 sz : Nat} : ∀ {l : List Ins} {k : Nat} {s s' : St},
    exL E me pc ic n0 sz k l s = some s' → exL E me pc' ic' n0 sz k l s = some s'
  | [], k, s, s', h => h
  | x :: r, k, s, s', h => by
    unfold exL at h ⊢
    split at h
    case h_2 => cases h
    rename_i s1 h1
    rw [exI_mono hp hi h1]
    exact exL_mono hp hi h

theorem regS_mono {me : Nat} {pc pc' : PC} {ic ic' : IC} (hp : PCle pc pc') (hi : ICle ic ic') {ri : RI} {s s' : St}
    (h : regS E me pc ic ri s = some s') : regS E me pc' ic' ri s = some s' := by
  unfold regS at h ⊢
  split at h
  case h_2 => cases h
  rename_i s1 h1
  rw [exL_mono hp hi h1]
  exact h

theorem evC_mono {reg reg' : RI → St → Option St} (hr : ∀ ri s s', reg ri s = some s' → reg' ri s = some s') :
    ∀ {n n' : Nat} {c : C} {s : St} {r : Ex × St}, n ≤ n' → evC E reg n c s = some r → evC E reg' n' c s = some r
  | 0, n', c, s, r, _, h => by simp [evC] at h
  | n + 1, 0, c, s, r, hn, h => by omega
  | n + 1, n' + 1, c, s, r, hn, h => by
    have hn' : n ≤ n' := by omega
    have ih : ∀ {c : C} {s : St} {r : Ex × St}, evC E reg n c s = some r → evC E reg' n' c s = some r := fun h => evC_mono hr hn' h
    cases c <;> simp only [evC] at h ⊢ <;> (try (exact h)) <;> (try (cases h; done))
    case reg ri =>
      split at h
      case h_2 => cases h
      rename_i hg
      rw [hr _ _ _ hg]
      exact h
    case seq a b =>
      split at h
      · rename_i h1
        rw [ih h1]
        exact ih h
      · rename_i hne
        cases h1 : evC E reg n a s with
        | none => rw [h1] at h; cases h
        | some q =>
          rw [ih h1]
          rw [h1] at h
          obtain ⟨e, s1⟩ := q
          cases e with
          | normal => exact absurd h1 (hne _)
          | exit => exact h
          | ret => exact h
    case cond x a b =>
      split at h
      case h_2 => cases h
      exact ih h
    case block id b =>
      cases h1 : evC E reg n b s with
      | none => rw [h1] at h; cases h
      | some q =>
        rw [ih h1]
        rw [h1] at h
        exact h
    case loop b =>
      split at h
      · rename_i h1
        rw [ih h1]
        exact ih h
      · rename_i hne
        cases h1 : evC E reg n b s with
        | none => rw [h1] at h; cases h
        | some q =>
          rw [ih h1]
          rw [h1] at h
          obtain ⟨e, s1⟩ := q
          cases e with
          | normal => exact absurd h1 (hne _)
          | exit => exact h
          | ret => exact h

theorem callN_mono : ∀ (n m : Nat), n ≤ m → ICle (callN E n) (callN E m)
  | 0, m, _ => fun f a M r h => by simp [callN] at h
  | n + 1, 0, h => by omega
  | n + 1, m + 1, hnm => fun f a M r h => by
    have ih := callN_mono n m (by omega)
    simp only [callN] at h ⊢
    split at h
    · exact h
    split at h
    · cases h
    split at h
    · cases h
    split at h
    · cases h
    rename_i hname
    rw [if_neg hname]
    generalize hq : evC E _ (n + 1) _ _ = q at h
    cases q with
    | none => simp at h
    | some q =>
      rw [evC_mono (fun ri s s' hs => regS_mono (pcOf_mono ih) ih hs) hnm hq]
      exact h

/-! ### The limit -/

open Classical in
noncomputable def lim {α : Type} (F : Nat → Option α) : Option α := if h : ∃ r n, F n = some r then some h.choose else none

def MonoF {α : Type} (F : Nat → Option α) : Prop := ∀ n m r, n ≤ m → F n = some r → F m = some r

theorem lim_eq {α : Type} {F : Nat → Option α} (hF : MonoF F) {r : α} : lim F = some r ↔ ∃ n, F n = some r := by
  unfold lim
  split
  · rename_i h
    obtain ⟨n, hn⟩ := h.choose_spec
    constructor
    · intro hr
      simp only [Option.some.injEq] at hr
      exact ⟨n, hr ▸ hn⟩
    · rintro ⟨m, hm⟩
      have h1 := hF n (max n m) _ (Nat.le_max_left _ _) hn
      have h2 := hF m (max n m) _ (Nat.le_max_right _ _) hm
      rw [← h1, h2]
  · rename_i h
    constructor
    · intro hr
      cases hr
    · rintro ⟨m, hm⟩
      exact absurd ⟨r, m, hm⟩ h

/-- A call, with fuel enough. -/
noncomputable def ICw (E : Env) : IC := fun f args M => lim fun n => callN E n f args M
noncomputable def PCw (E : Env) : PC := pcOf (ICw E)
def regN (E : Env) (me n : Nat) : RI → St → Option St := regS E me (pcOf (callN E n)) (callN E n)
noncomputable def evW (E : Env) (me : Nat) (c : C) (s : St) : Option (Ex × St) := lim fun n => evC E (regN E me n) n c s
noncomputable def regW (E : Env) (me : Nat) (ri : RI) (s : St) : Option St := regS E me (PCw E) (ICw E) ri s

theorem ICw_eq {f : Nat} {args : List SV} {M : Mem} {r : SV × Mem} : ICw E f args M = some r ↔ ∃ n, callN E n f args M = some r :=
  lim_eq fun n m r h => callN_mono n m h f args M r

theorem callN_le (n : Nat) : ICle (callN E n) (ICw E) := fun f a M r h => ICw_eq.2 ⟨n, h⟩

theorem regN_mono {me : Nat} {n m : Nat} (h : n ≤ m) (ri : RI) (s s' : St) (hs : regN E me n ri s = some s') : regN E me m ri s = some s' :=
  regS_mono (pcOf_mono (callN_mono n m h)) (callN_mono n m h) hs

theorem evW_eq {me : Nat} {c : C} {s : St} {r : Ex × St} : evW E me c s = some r ↔ ∃ n, evC E (regN E me n) n c s = some r :=
  lim_eq fun n m r h hs => evC_mono (fun ri s s' => regN_mono h ri s s') h hs

theorem PCw_cont {f : Nat} {args : List SV} {r : SV} (h : PCw E f args = some r) : ∃ n, pcOf (callN E n) f args = some r := by
  unfold PCw pcOf at h
  split at h
  case h_2 => cases h
  rename_i hv
  obtain ⟨n, hn⟩ := ICw_eq.1 hv
  refine ⟨n, ?_⟩
  unfold pcOf
  rw [hn]
  exact h

theorem act_cont {a : Nat} {ρ : Operand → SV} {get : Nat → Option (List SV)} {o : Oper} {x : SV × List (Nat × Option (List SV))} (h : act E (PCw E) a ρ get o = some x) :
    ∃ n, act E (pcOf (callN E n)) a ρ get o = some x := by
  unfold act at h
  cases hop : o.op with
  | call c =>
    simp only [hop] at h
    cases hc : c.callee with
    | value g =>
      simp only [hc] at h
      split at h
      case h_2 => cases h
      rename_i f first caps hg
      split at h
      case h_2 => cases h
      rename_i args hargs
      split at h
      case h_2 => cases h
      rename_i y hy
      obtain ⟨n, hn⟩ := PCw_cont hy
      refine ⟨n, ?_⟩
      unfold act
      simp only [hop, hc, hg, hargs, hn]
      exact h
    | builtin b => cases b <;> exact ⟨0, by unfold act; simp only [hop, hc] at h ⊢; exact h⟩
    | _ => exact ⟨0, by unfold act; simp only [hop, hc] at h ⊢; exact h⟩
  | makeFunc f a b => cases f <;> exact ⟨0, by unfold act; simp only [hop] at h ⊢; exact h⟩
  | _ => exact ⟨0, by unfold act; simp only [hop] at h ⊢; exact h⟩

theorem exI_cont {me n0 sz k : Nat} {i : Ins} {s s' : St} (h : exI E me (PCw E) (ICw E) n0 sz k i s = some s') :
    ∃ n, exI E me (pcOf (callN E n)) (callN E n) n0 sz k i s = some s' := by
  unfold exI at h
  split at h
  · cases h
  · rename_i hw
    exact ⟨0, by unfold exI; simp only [hw]; exact h⟩
  rename_i hw
  split at h
  · rename_i hic
    split at h
    case h_2 => cases h
    rename_i hv
    obtain ⟨n, hn⟩ := ICw_eq.1 hv
    exact ⟨n, by unfold exI; simp only [hw, hic, hn]; exact h⟩
  · rename_i hic
    split at h
    case h_2 => cases h
    rename_i hv
    obtain ⟨n, hn⟩ := act_cont hv
    refine ⟨n, ?_⟩
    unfold exI
    rw [show actOf E (pcOf (callN E n)) _ _ _ _ = _ from hn]
    simp only [hw, hic]
    exact h

theorem exL_cont {me n0 sz : Nat} : ∀ {l : List Ins} {k : Nat} {s s' : St}, exL E me (PCw E) (ICw E) n0 sz k l s = some s' →
    ∃ n, exL E me (pcOf (callN E n)) (callN E n) n0 sz k l s = some s'
  | [], k, s, s', h => ⟨0, h⟩
  | x :: r, k, s, s', h => by
    unfold exL at h
    split at h
    case h_2 => cases h
    rename_i s1 h1
    obtain ⟨n, hn⟩ := exI_cont h1
    obtain ⟨m, hm⟩ := exL_cont h
    refine ⟨max n m, ?_⟩
    unfold exL
    rw [exI_mono (pcOf_mono (callN_mono n _ (Nat.le_max_left n m))) (callN_mono n _ (Nat.le_max_left n m)) hn]
    exact exL_mono (pcOf_mono (callN_mono m _ (Nat.le_max_right n m))) (callN_mono m _ (Nat.le_max_right n m)) hm

theorem regW_eq {me : Nat} {ri : RI} {s s' : St} : regW E me ri s = some s' ↔ ∃ n, regN E me n ri s = some s' := by
  constructor
  · intro h
    unfold regW regS at h
    split at h
    case h_2 => cases h
    rename_i s1 h1
    obtain ⟨n, hn⟩ := exL_cont h1
    refine ⟨n, ?_⟩
    unfold regN regS
    rw [hn]
    exact h
  · rintro ⟨n, hn⟩
    exact regS_mono (pcOf_mono (callN_le n)) (callN_le n) hn

/-! ### The limit's equations -/

theorem evW_skip (me : Nat) (s : St) : evW E me .skip s = some (.normal, s) := evW_eq.2 ⟨1, rfl⟩
theorem evW_exit (me id : Nat) (s : St) : evW E me (.exit id) s = some (.exit id, s) := evW_eq.2 ⟨1, rfl⟩
theorem evW_ret (me : Nat) (s : St) : evW E me .ret s = some (.ret, s) := evW_eq.2 ⟨1, rfl⟩

theorem evW_region (me : Nat) (ri : RI) (s : St) :
    evW E me (.reg ri) s = match regW E me ri s with | some s' => some (.normal, s') | none => none := by
  apply opt_ext
  intro r
  rw [evW_eq]
  constructor
  · rintro ⟨n, hn⟩
    cases n with
    | zero => simp [evC] at hn
    | succ n =>
      simp only [evC] at hn
      split at hn
      case h_2 => cases hn
      rename_i s' hs
      rw [regW_eq.2 ⟨_, hs⟩]
      exact hn
  · intro h
    split at h
    case h_2 => cases h
    rename_i s' hs
    obtain ⟨n, hn⟩ := regW_eq.1 hs
    refine ⟨n + 1, ?_⟩
    simp only [evC]
    rw [regN_mono (Nat.le_succ n) _ _ _ hn]
    exact h

theorem evN_up {me n m : Nat} (h : n ≤ m) {c : C} {s : St} {r : Ex × St} (hs : evC E (regN E me n) n c s = some r) (k : Nat) (hk : m ≤ k) : evC E (regN E me k) m c s = some r :=
  evC_mono (fun ri s s' => regN_mono (Nat.le_trans h hk) ri s s') h hs

theorem evN_dn {me n m : Nat} (h : n ≤ m) {c : C} {s : St} {r : Ex × St} (hs : evC E (regN E me m) n c s = some r) : evW E me c s = some r :=
  evW_eq.2 ⟨m, evC_mono (fun _ _ _ h => h) h hs⟩

theorem evW_seq (me : Nat) (a b : C) (s : St) :
    evW E me (.seq a b) s = match evW E me a s with | some (.normal, s') => evW E me b s' | r => r := by
  apply opt_ext
  intro r
  rw [evW_eq]
  constructor
  · rintro ⟨n, hn⟩
    cases n with
    | zero => simp [evC] at hn
    | succ n =>
      simp only [evC] at hn
      split at hn
      · rename_i s1 h1
        rw [evN_dn (Nat.le_succ n) h1]
        exact evN_dn (Nat.le_succ n) hn
      · rename_i hne
        cases h1 : evC E (regN E me (n + 1)) n a s with
        | none => rw [h1] at hn; cases hn
        | some q =>
          rw [evN_dn (Nat.le_succ n) h1]
          rw [h1] at hn
          obtain ⟨e, s1⟩ := q
          cases e with
          | normal => exact absurd h1 (hne _)
          | exit => exact hn
          | ret => exact hn
  · intro h
    split at h
    · rename_i s1 h1
      obtain ⟨n, hn⟩ := evW_eq.1 h1
      obtain ⟨m, hm⟩ := evW_eq.1 h
      refine ⟨max n m + 1, ?_⟩
      simp only [evC]
      rw [evN_up (Nat.le_max_left n m) hn _ (Nat.le_succ _)]
      exact evN_up (Nat.le_max_right n m) hm _ (Nat.le_succ _)
    · rename_i hne
      cases h1 : evW E me a s with
      | none => rw [h1] at h; cases h
      | some q =>
        obtain ⟨n, hn⟩ := evW_eq.1 h1
        refine ⟨n + 1, ?_⟩
        simp only [evC]
        rw [evN_up (Nat.le_refl n) hn _ (Nat.le_succ _)]
        rw [h1] at h
        obtain ⟨e, s1⟩ := q
        cases e with
        | normal => exact absurd h1 (hne _)
        | exit => exact h
        | ret => exact h

theorem evW_cond (me : Nat) (c : Operand) (a b : C) (s : St) :
    evW E me (.cond c a b) s = match evO E s.tmps c with | .bool t => (if t then evW E me a s else evW E me b s) | _ => none := by
  apply opt_ext
  intro r
  rw [evW_eq]
  constructor
  · rintro ⟨n, hn⟩
    cases n with
    | zero => simp [evC] at hn
    | succ n =>
      simp only [evC] at hn
      split at hn
      case h_2 => cases hn
      rename_i t ht
      rw [ht]
      cases t <;> exact evN_dn (Nat.le_succ n) hn
  · intro h
    split at h
    case h_2 => cases h
    rename_i t ht
    cases t
    all_goals
      obtain ⟨n, hn⟩ := evW_eq.1 h
      refine ⟨n + 1, ?_⟩
      simp only [evC, ht]
      exact evN_up (Nat.le_refl n) hn _ (Nat.le_succ _)

theorem evW_block (me id : Nat) (b : C) (s : St) :
    evW E me (.block id b) s = match evW E me b s with | some (.exit id', s') => (if id' = id then some (.normal, s') else some (.exit id', s')) | r => r := by
  apply opt_ext
  intro r
  rw [evW_eq]
  constructor
  · rintro ⟨n, hn⟩
    cases n with
    | zero => simp [evC] at hn
    | succ n =>
      simp only [evC] at hn
      cases h1 : evC E (regN E me (n + 1)) n b s with
      | none => rw [h1] at hn; cases hn
      | some q =>
        rw [evN_dn (Nat.le_succ n) h1]
        rw [h1] at hn
        exact hn
  · intro h
    cases h1 : evW E me b s with
    | none => rw [h1] at h; cases h
    | some q =>
      obtain ⟨n, hn⟩ := evW_eq.1 h1
      refine ⟨n + 1, ?_⟩
      simp only [evC]
      rw [evN_up (Nat.le_refl n) hn _ (Nat.le_succ _)]
      rw [h1] at h
      exact h

theorem evW_loop (me : Nat) (b : C) (s : St) :
    evW E me (.loop b) s = match evW E me b s with | some (.normal, s') => evW E me (.loop b) s' | r => r := by
  apply opt_ext
  intro r
  constructor
  · intro hr
    obtain ⟨n, hn⟩ := evW_eq.1 hr
    cases n with
    | zero => simp [evC] at hn
    | succ n =>
      simp only [evC] at hn
      split at hn
      · rename_i s1 h1
        rw [evN_dn (Nat.le_succ n) h1]
        exact evN_dn (Nat.le_succ n) hn
      · rename_i hne
        cases h1 : evC E (regN E me (n + 1)) n b s with
        | none => rw [h1] at hn; cases hn
        | some q =>
          rw [evN_dn (Nat.le_succ n) h1]
          rw [h1] at hn
          obtain ⟨e, s1⟩ := q
          cases e with
          | normal => exact absurd h1 (hne _)
          | exit => exact hn
          | ret => exact hn
  · intro h
    rw [evW_eq]
    split at h
    · rename_i s1 h1
      obtain ⟨n, hn⟩ := evW_eq.1 h1
      obtain ⟨m, hm⟩ := evW_eq.1 h
      refine ⟨max n m + 1, ?_⟩
      simp only [evC]
      rw [evN_up (Nat.le_max_left n m) hn _ (Nat.le_succ _)]
      exact evN_up (Nat.le_max_right n m) hm _ (Nat.le_succ _)
    · rename_i hne
      cases h1 : evW E me b s with
      | none => rw [h1] at h; cases h
      | some q =>
        obtain ⟨n, hn⟩ := evW_eq.1 h1
        refine ⟨n + 1, ?_⟩
        simp only [evC]
        rw [evN_up (Nat.le_refl n) hn _ (Nat.le_succ _)]
        rw [h1] at h
        obtain ⟨e, s1⟩ := q
        cases e with
        | normal => exact absurd h1 (hne _)
        | exit => exact h
        | ret => exact h

/-- What a call ends with. -/
def endS (E : Env) (rs : List ResultVar) : Option (Ex × St) → Option (SV × Mem)
  | some (.normal, s) | some (.ret, s) => match resS E s rs with
    | some [v] => some (v, s.mem)
    | some vs => some (.tup vs, s.mem)
    | none => none
  | _ => none

theorem ICw_body {f : Nat} {fn : Func} {c : Code} (hp : E.prim f = none) (hf : E.P.funcs[f]? = some fn) (hb : fn.body = some c) (hn : fn.name ≠ "runtime.NumGoroutine") (args : List SV) (M : Mem) :
    ICw E f args M = endS E fn.results.toList (evW E f (comp E f c) ⟨args ++ List.replicate (fn.ntmps - args.length) .bad, M⟩) := by
  apply opt_ext
  intro r
  rw [ICw_eq]
  constructor
  · rintro ⟨n, h⟩
    cases n with
    | zero => simp [callN] at h
    | succ n =>
      simp only [callN, hp, hf, hb, if_neg hn] at h
      generalize hq : evC E _ (n + 1) _ _ = q at h
      cases q with
      | none => simp at h
      | some q =>
        have : evW E f (comp E f c) ⟨args ++ List.replicate (fn.ntmps - args.length) .bad, M⟩ = some q :=
          evN_dn (Nat.le_refl (n + 1)) (evC_mono (fun ri s s' hs => regS_mono (pcOf_mono (callN_mono n (n + 1) (Nat.le_succ n))) (callN_mono n (n + 1) (Nat.le_succ n)) hs) (Nat.le_refl _) hq)
        rw [this]
        exact h
  · intro h
    cases hq : evW E f (comp E f c) ⟨args ++ List.replicate (fn.ntmps - args.length) .bad, M⟩ with
    | none => rw [hq] at h; simp [endS] at h
    | some q =>
      obtain ⟨n, hn'⟩ := evW_eq.1 hq
      refine ⟨n + 1, ?_⟩
      simp only [callN, hp, hf, hb, if_neg hn]
      rw [show evC E (regS E f (pcOf (callN E n)) (callN E n)) (n + 1) (comp E f c) ⟨args ++ List.replicate (fn.ntmps - args.length) .bad, M⟩ = some q from evC_mono (fun _ _ _ h => h) (Nat.le_succ n) hn']
      rw [hq] at h
      exact h

end Go.Proofs.YtbdliphlolajaaaDoor.Sh
