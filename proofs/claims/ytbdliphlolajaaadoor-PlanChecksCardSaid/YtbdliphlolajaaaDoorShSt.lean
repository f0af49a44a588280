/-
  The shadow interpreter, text 19: a law's walk, from the shadow's. No condition.
-/
import Derived.Test.YtbdliphlolajaaaDoorShSo
import Derived.Carry
set_option linter.unusedVariables false
set_option linter.unusedSimpArgs false
namespace Go.Proofs.YtbdliphlolajaaaDoor.Sh
variable {P : Program} {W : World} {ss : Nat → Option Value} {H : Type} {enc : TypeId × Value → H}

theorem arg_rel {ts : List TypeId} {ds : List (DataW H)} (hs : (DataW.weightsEach P ts ds).all (· ≤ reachBytes) = true) {j n t base : Nat} {r : Reach} {d : DataW H} {v : Value} {ps : List MemPlace} {sp : Nat → Bool} {held : Bool}
    (ht : ts[j]? = some t) (hd : ds[j]? = some d) (hp : plainT P n t = true) (h : DataW.Trod enc P W 0 sp held t v d ps) (hv : Value.okWide P W r base t v) :
    ∃ xs, WT P n t xs ∧ (∀ x ∈ xs, x.one = true) ∧ VR (topG W ss) W (mkV P t xs) v := by
  obtain ⟨fuel, hf⟩ := h
  obtain ⟨hl, xs, hx⟩ := trod_rel (ss := ss) n fuel t v.cells.toList d ps hp hf (List.all_eq_true.2 fun m hm => List.all_eq_true.1 hs m (DataW.weights_mem_each ht hd m hm))
  refine ⟨xs, hx.wt, hx.one, ?_⟩
  have scalar : aggT P t = false → (∀ cs, v ≠ .agg cs) → VR (topG W ss) W (mkV P t xs) v := by
    intro ha hna
    have hc : v.cells.toList = [v] := by cases v <;> first | rfl | exact absurd rfl (hna _)
    have hlen := hx.len
    rw [hc] at hlen
    match xs, hlen with
    | [x], _ =>
      have := hx.rel 0 x v rfl (by rw [hc]; rfl)
      simpa [mkV, ha] using this
  cases n with
  | zero => simp [plainT] at hp
  | succ n =>
    unfold plainT at hp
    split at hp
    · rename_i hu
      obtain ⟨b, rfl⟩ := WideShapes.okWide_bool hu hv
      exact scalar (by simp [aggT, hu]) (by simp)
    · rename_i k hu
      obtain ⟨b, rfl⟩ := WideShapes.okWide_int hu hv
      exact scalar (by simp [aggT, hu]) (by simp)
    · rename_i hu
      obtain ⟨b, rfl⟩ := WideShapes.okWide_string hu hv
      exact scalar (by simp [aggT, hu]) (by simp)
    · rename_i e hu
      obtain ⟨a, b, c, rfl⟩ := WideShapes.okWide_slice hu hv
      exact scalar (by simp [aggT, hu]) (by simp)
    · rename_i fs hu
      unfold Value.okWide at hv
      rw [hu] at hv
      obtain ⟨cs, rfl, _⟩ := hv
      simp only [mkV, aggT, hu, if_true]
      refine .agg xs cs (by simpa [Value.cells] using hx.len) hx.one (fun k x u hk hu' => hx.rel k x u hk (by simpa [Value.cells] using hu'))
    · rename_i k e hu
      unfold Value.okWide at hv
      rw [hu] at hv
      obtain ⟨cs, rfl, _⟩ := hv
      simp only [mkV, aggT, hu, if_true]
      refine .agg xs cs (by simpa [Value.cells] using hx.len) hx.one (fun k x u hk hu' => hx.rel k x u hk (by simpa [Value.cells] using hu'))
    · cases hp

/-- At a law's own call: what is laid in the program's variables. -/
theorem topMG {E : Env} (W : World) (hG : ∀ n items, E.G n = some items → pvs items = true ∧ VR (topG W ss) W (.rptr items 0 0 true) (.pointer (some ⟨n, 0, none⟩))) (hR : RawG E (topG W ss) W) (hS : SentG E (topG W ss)) : MR E (topG W ss) W .empty (fun _ => True) where
  good := fun b o h => h
  base := Nat.le_refl _
  blk := fun id items h => by simp [Mem.empty] at h
  inj := fun id id' b h => by simp [Mem.empty] at h
  fresh := fun _ _ => rfl
  hwb := fun b h => by simp [topG] at h
  lt := fun id b h => by simp [topG] at h
  glob := fun n items h => (hG n items h).2
  plain := fun n items h => (hG n items h).1
  raw := hR
  sent := hS

/-- What is laid in the program's variables: none is read. -/
theorem topM {E : Env} (hG : ∀ n, E.G n = none) (hR : ∀ n, E.raw n = none) (hS : ∀ t, E.sent t = false) (W : World) : MR E (topG W fun _ => none) W .empty (fun _ => True) :=
  topMG W (fun n items h => by rw [hG n] at h; cases h) (fun n v h => by rw [hR n] at h; cases h) (fun t => ⟨fun _ => rfl, fun h => by rw [hS t] at h; cases h⟩)

theorem law_callsG {E : Env} (hmix : E.P.follows .mixedOrders = true) (hprim : PrimOk E) (hM : MR E (topG W ss) W .empty (fun _ => True)) {f : Nat} {svs : List SV} {args : Array Value} {M' : Mem}
    (h : ICw E f svs .empty = some (.bool true, M')) (hargs : VRs (topG W ss) W svs args) :
    Calls E.P f args W fun e W' => e = .returned (.bool true) ∧ RowKit.Below W.heap.size W W' := by
  obtain ⟨n, hn⟩ := ICw_eq.1 h
  obtain ⟨_, _, hcall⟩ := callN_ok hmix hprim n f svs .empty _ _ hn
  refine (hcall (topG W ss) W _ args hM (fun _ _ => trivial) hargs).mono ?_
  rintro e W' ⟨v', g', rfl, evo, _, hv, _⟩
  refine ⟨by rw [hv.bool_inv], evo.below⟩

theorem law_calls {E : Env} (hmix : E.P.follows .mixedOrders = true) (hprim : PrimOk E) (hG : ∀ n, E.G n = none) (hR : ∀ n, E.raw n = none) (hS : ∀ t, E.sent t = false) {f : Nat} {svs : List SV} {args : Array Value} {M' : Mem}
    (h : ICw E f svs .empty = some (.bool true, M')) (hargs : VRs (topG W fun _ => none) W svs args) :
    Calls E.P f args W fun e W' => e = .returned (.bool true) ∧ RowKit.Below W.heap.size W W' :=
  law_callsG hmix hprim (topM hG hR hS W) h hargs

theorem VRs.nil' : VRs (topG W ss) W [] #[] := ⟨rfl, fun k x v h => by simp at h⟩
theorem VRs.one1 {x : SV} {v : Value} (h : VR (topG W ss) W x v) : VRs (topG W ss) W [x] #[v] :=
  ⟨rfl, fun k x' v' hx hv => by
    cases k with
    | zero => simp at hx hv; subst hx hv; exact h
    | succ k => simp at hx⟩
theorem VRs.two {x y : SV} {v u : Value} (h : VR (topG W ss) W x v) (h2 : VR (topG W ss) W y u) : VRs (topG W ss) W [x, y] #[v, u] :=
  (VRs.one1 h).append (VRs.one1 h2)

/-! ### Types, by what the shadow knows of them -/

theorem und_of {t : Nat} {k : TK} {a b : Nat} {z : Option SV} (ht : tiOf P t = some ⟨k, a, b, z⟩) : ∃ d, P.underlying t = some d ∧ k = tkOf d ∧ P.cellsOf t = a ∧ P.bytesOf t = b := by
  obtain ⟨d, i, hd, hi, he⟩ := tiOf_some ht
  simp only [TI.mk.injEq] at he
  exact ⟨d, hd, he.1, by simp [Program.cellsOf, hi, he.2.1], by simp [Program.bytesOf, hi, he.2.2.1]⟩

theorem WT_bool {n t a b : Nat} {z : Option SV} {xs : List SV} (ht : tiOf P t = some ⟨.bool, a, b, z⟩) (h : WT P (n + 1) t xs) : ∃ v, xs = [.bool v] ∧ mkV P t xs = .bool v := by
  obtain ⟨d, hd, hk, _⟩ := und_of ht
  obtain rfl := tk_bool hk.symm
  unfold WT at h
  rw [hd] at h
  obtain ⟨v, rfl⟩ := h
  exact ⟨v, rfl, by simp [mkV, aggT, hd]⟩

theorem WT_int {n t a b : Nat} {z : Option SV} {k : IntKind} {xs : List SV} (ht : tiOf P t = some ⟨.int k, a, b, z⟩) (h : WT P (n + 1) t xs) : ∃ v, xs = [.int k v] ∧ mkV P t xs = .int k v ∧ (Lit.int k v).wf = true := by
  obtain ⟨d, hd, hk, _⟩ := und_of ht
  obtain rfl := tk_int hk.symm
  unfold WT at h
  rw [hd] at h
  obtain ⟨v, rfl, hw⟩ := h
  exact ⟨v, rfl, by simp [mkV, aggT, hd], hw⟩

theorem WT_str {n t a b : Nat} {z : Option SV} {xs : List SV} (ht : tiOf P t = some ⟨.str, a, b, z⟩) (h : WT P (n + 1) t xs) : ∃ v, xs = [.str v] ∧ mkV P t xs = .str v ∧ v.size ≤ reachBytes := by
  obtain ⟨d, hd, hk, _⟩ := und_of ht
  obtain rfl := tk_str hk.symm
  unfold WT at h
  rw [hd] at h
  obtain ⟨v, rfl, hw⟩ := h
  exact ⟨v, rfl, by simp [mkV, aggT, hd], hw⟩

theorem WT_slice {n t e a b : Nat} {z : Option SV} {xs : List SV} {te : TI} (ht : tiOf P t = some ⟨.slice e, a, b, z⟩) (hte : tiOf P e = some te) (h : WT P (n + 1) t xs) :
    xs = [.nilsl] ∧ mkV P t xs = .nilsl ∨ ∃ items : List SV, xs = [.sl items .ro] ∧ mkV P t xs = .sl items .ro ∧ items.length * te.bytes ≤ 140737488351232 ∧ ∀ y ∈ items, ∃ ys, y = mkV P e ys ∧ WT P n e ys := by
  obtain ⟨d, hd, hk, _⟩ := und_of ht
  obtain rfl := tk_slice hk.symm
  obtain ⟨_, _, _, _, hb⟩ := und_of (k := te.kind) (a := te.size) (b := te.bytes) (z := te.zero) hte
  unfold WT at h
  rw [hd] at h
  rcases h with rfl | ⟨items, rfl, h1, h2⟩
  · exact .inl ⟨rfl, by simp [mkV, aggT, hd]⟩
  · rw [hb] at h1
    exact .inr ⟨items, rfl, by simp [mkV, aggT, hd], h1, h2⟩

theorem WT_struct {n t a b : Nat} {z : Option SV} {fs : List (Nat × Nat)} {xs : List SV} (ht : tiOf P t = some ⟨.struct fs, a, b, z⟩) (h : WT P (n + 1) t xs) :
    mkV P t xs = .agg xs ∧ ∃ parts : List (List SV), xs = parts.flatten ∧ parts.length = fs.length ∧ ∀ (i : Nat) (f : Nat × Nat) (p : List SV), fs[i]? = some f → parts[i]? = some p → WT P n f.1 p := by
  obtain ⟨d, hd, hk, _⟩ := und_of ht
  obtain ⟨fa, rfl, rfl⟩ := tk_struct hk.symm
  unfold WT at h
  rw [hd] at h
  obtain ⟨parts, rfl, h1, h2⟩ := h
  refine ⟨by simp [mkV, aggT, hd], parts, rfl, by simpa using h1, fun i f p hf hp => ?_⟩
  simp only [List.getElem?_map, Option.map_eq_some_iff] at hf
  obtain ⟨f', hf', rfl⟩ := hf
  exact h2 i f' p (by simpa using hf') hp

theorem WT_arr {n t k e a b : Nat} {z : Option SV} {xs : List SV} (ht : tiOf P t = some ⟨.arr k e, a, b, z⟩) (h : WT P (n + 1) t xs) :
    mkV P t xs = .agg xs ∧ ∃ parts : List (List SV), xs = parts.flatten ∧ parts.length = k ∧ ∀ p ∈ parts, WT P n e p := by
  obtain ⟨d, hd, hk, _⟩ := und_of ht
  obtain rfl := tk_arr hk.symm
  unfold WT at h
  rw [hd] at h
  obtain ⟨parts, rfl, h1, h2⟩ := h
  exact ⟨by simp [mkV, aggT, hd], parts, rfl, h1, h2⟩

theorem wf64 {v : Int} (h : (Lit.int .i64 v).wf = true) : -9223372036854775808 ≤ v ∧ v ≤ 9223372036854775807 := by
  simp [Lit.wf, IntKind.min, IntKind.max, IntKind.bits, IntKind.signed] at h
  omega

end Go.Proofs.YtbdliphlolajaaaDoor.Sh
