/-
  The shadow interpreter, text 18: what a law's arguments are as trees. No condition.
-/
import Derived.Test.YtbdliphlolajaaaDoorShMc
import Derived.WideShapes
import Derived.ChangeArms
import Derived.SizedLaws
import Derived.Carry
set_option linter.unusedVariables false
set_option linter.unusedSimpArgs false
namespace Go.Proofs.YtbdliphlolajaaaDoor.Sh
variable {P : Program} {W : World} {ss : Nat → Option Value} {H : Type} {enc : TypeId × Value → H}

def topG (W : World) (ss : Nat → Option Value) : Gh := ⟨fun b _ => b < W.heap.size, W.heap.size, fun _ => none, fun _ => 0, fun _ => 0, ss⟩

def aggT (P : Program) (t : Nat) : Bool := match P.underlying t with
  | some (.struct _) | some (.array _ _) => true
  | _ => false

def mkV (P : Program) (t : Nat) (xs : List SV) : SV := if aggT P t then .agg xs else xs.headD .bad

/-- Cells of a type. -/
def WT (P : Program) : Nat → Nat → List SV → Prop
  | 0, _, _ => False
  | n + 1, t, xs => match P.underlying t with
    | some .bool => ∃ b, xs = [.bool b]
    | some (.int k) => ∃ i, xs = [.int k i] ∧ (Lit.int k i).wf = true
    | some .string => ∃ s, xs = [.str s] ∧ s.size ≤ reachBytes
    | some (.slice e) => xs = [.nilsl] ∨ ∃ items : List SV, xs = [.sl items .ro] ∧ items.length * P.bytesOf e ≤ reachBytes ∧ ∀ y ∈ items, ∃ ys, y = mkV P e ys ∧ WT P n e ys
    | some (.struct fs) => ∃ parts : List (List SV), xs = parts.flatten ∧ parts.length = fs.size ∧ ∀ (i : Nat) (f : Field) (p : List SV), fs[i]? = some f → parts[i]? = some p → WT P n f.type p
    | some (.array k e) => ∃ parts : List (List SV), xs = parts.flatten ∧ parts.length = k ∧ ∀ p ∈ parts, WT P n e p
    | _ => False

def inLine (P : Program) : Nat → List Field → Option Nat
  | o, [] => some o
  | o, f :: r => if f.offset = o then inLine P (o + P.cellsOf f.type) r else none

/-- A type whose values are plain trees, so deep. -/
def plainT (P : Program) : Nat → Nat → Bool
  | 0, _ => false
  | n + 1, t => match P.underlying t with
    | some .bool | some (.int _) | some .string => P.cellsOf t == 1
    | some (.slice e) => P.cellsOf t == 1 && P.cellsOf e != 0 && plainT P n e
    | some (.struct fs) => inLine P 0 fs.toList == some (P.cellsOf t) && fs.toList.all fun f => plainT P n f.type
    | some (.array k e) => P.cellsOf t == k * P.cellsOf e && plainT P n e
    | _ => false

structure IsV (P : Program) (W : World) (ss : Nat → Option Value) (n t : Nat) (cs : List Value) (xs : List SV) : Prop where
  len : xs.length = cs.length
  wt : WT P n t xs
  one : ∀ x ∈ xs, x.one = true
  rel : ∀ (k : Nat) (x : SV) (v : Value), xs[k]? = some x → cs[k]? = some v → VR (topG W ss) W x v

theorem mkV_cells {n t : Nat} {xs : List SV} (h : WT P n t xs) (ho : ∀ x ∈ xs, x.one = true) : (mkV P t xs).cells = xs := by
  cases n with
  | zero => exact h.elim
  | succ n =>
    unfold mkV aggT
    unfold WT at h
    split at h <;> rename_i hu <;> simp only [hu]
    · obtain ⟨b, rfl⟩ := h; rfl
    · obtain ⟨b, rfl, _⟩ := h; rfl
    · obtain ⟨b, rfl, _⟩ := h; rfl
    · rcases h with rfl | ⟨items, rfl, _⟩ <;> rfl
    · rfl
    · rfl
    · exact h.elim

theorem weightsAll_mem {e : Nat} {d : DataW H} {m : Nat} : ∀ {l : List (DataW H)}, d ∈ l → m ∈ DataW.weights P e d → m ∈ DataW.weightsAll P e l
  | x :: r, hd, hm => by
    simp only [DataW.weightsAll, List.mem_append]
    rcases List.mem_cons.1 hd with rfl | hd
    · exact .inl hm
    · exact .inr (weightsAll_mem hd hm)

theorem range_get {n i : Nat} (h : i < n) : (List.range n)[i]? = some i := by simp [h]

theorem cells?_get {W : World} {a : Addr} {n k : Nat} {cs : List Value} (h : W.cells? 0 a n = some cs) : cs.length = n ∧ ∀ (k : Nat) (v : Value), cs[k]? = some v → W.cell? (a.add k) = some v := by
  unfold World.cells? at h
  rw [if_pos (Nat.zero_le _)] at h
  obtain ⟨h1, h2⟩ := mapM_some h
  have hn : cs.length = n := by rw [← h1]; simp
  refine ⟨hn, fun k v hv => ?_⟩
  have hk : k < n := by rw [← hn]; exact (List.getElem?_eq_some_iff.1 hv).1
  exact h2 k k v (range_get hk) hv

theorem cell?_spot {W : World} {a : Addr} {v : Value} (h : W.cell? a = some v) : a.spot = none := by
  unfold World.cell? at h
  split at h
  · split at h
    · cases h
    · rename_i hs
      cases hsp : a.spot with
      | none => rfl
      | some x => rw [hsp] at hs; simp at hs
  · cases h

theorem add_eq {a : Addr} (h : a.spot = none) (n : Nat) : a.add n = ⟨a.block, a.off + n, none⟩ := by
  obtain ⟨b, o, s⟩ := a
  simp only at h
  subst h
  unfold Addr.add
  split
  · rename_i hn; subst hn; rfl
  · rfl

/-- Parts of a row: from the parts to the row. -/
theorem parts_join {α : Type} (Q : Nat → List SV → Prop) (cs : List Value) : ∀ (ls : List (Nat × Nat)) (o : Nat), (∀ (i : Nat) (p : Nat × Nat), ls[i]? = some p → ∃ xs : List SV, xs.length = p.2 ∧ Q i xs ∧ (∀ x ∈ xs, x.one = true) ∧
      ∀ (k : Nat) (x : SV) (v : Value), xs[k]? = some x → cs[p.1 + k]? = some v → VR (topG W ss) W x v) →
    (∀ (i : Nat) (p : Nat × Nat), ls[i]? = some p → p.1 = o + ((ls.take i).map (·.2)).sum) →
    ∃ parts : List (List SV), parts.length = ls.length ∧ parts.flatten.length = (ls.map (·.2)).sum ∧ (∀ (i : Nat) (p : List SV), parts[i]? = some p → Q i p) ∧ (∀ x ∈ parts.flatten, x.one = true) ∧
      ∀ (k : Nat) (x : SV) (v : Value), parts.flatten[k]? = some x → cs[o + k]? = some v → VR (topG W ss) W x v
  | [], o, _, _ => ⟨[], rfl, rfl, fun i p h => by simp at h, fun x h => by simp at h, fun k x v h => by simp at h⟩
  | p :: r, o, h, ho => by
    obtain ⟨xs, h1, h2, h3, h4⟩ := h 0 p rfl
    have hp : p.1 = o := by have := ho 0 p rfl; simpa using this
    obtain ⟨parts, g1, g2, g3, g4, g5⟩ := parts_join (α := α) (fun i => Q (i + 1)) cs r (o + p.2) (fun i q hi => h (i + 1) q (by simpa using hi)) (fun i q hi => by
      have := ho (i + 1) q (by simpa using hi)
      simp only [List.take_succ_cons, List.map_cons, List.sum_cons] at this
      omega)
    refine ⟨xs :: parts, by simp [g1], by simp [g2, h1], fun i q hi => ?_, fun x hx => ?_, fun k x v hk hv => ?_⟩
    · cases i with
      | zero => simp at hi; subst hi; exact h2
      | succ i => exact g3 i q (by simpa using hi)
    · simp only [List.flatten_cons, List.mem_append] at hx
      rcases hx with hx | hx
      · exact h3 x hx
      · exact g4 x hx
    · simp only [List.flatten_cons] at hk
      rw [List.getElem?_append] at hk
      split at hk
      · exact h4 k x v hk (by rw [hp]; exact hv)
      · rename_i hlt
        refine g5 (k - xs.length) x v hk ?_
        rw [show o + p.2 + (k - xs.length) = o + k by omega]
        exact hv

theorem inLine_sum : ∀ (fs : List Field) (o z : Nat), inLine P o fs = some z → z = o + (fs.map fun f => P.cellsOf f.type).sum ∧ ∀ (i : Nat) (f : Field), fs[i]? = some f → f.offset = o + ((fs.take i).map fun f => P.cellsOf f.type).sum
  | [], o, z, h => by
    simp [inLine] at h
    exact ⟨by simp [h], fun i f hi => by simp at hi⟩
  | f :: r, o, z, h => by
    simp only [inLine] at h
    split at h
    · rename_i hf
      obtain ⟨h1, h2⟩ := inLine_sum r _ z h
      refine ⟨by simp; omega, fun i g hi => ?_⟩
      cases i with
      | zero => simp at hi; subst hi; simpa using hf
      | succ i =>
        have := h2 i g (by simpa using hi)
        simp only [List.take_succ_cons, List.map_cons, List.sum_cons]
        omega
    · cases h

theorem trod_array {base fuel t k e : Nat} {sp : Nat → Bool} {held : Bool} {cs : List Value} {x : DataW H × List MemPlace} (hu : P.underlying t = some (.array k e)) (h : DataW.trod enc P W base sp held fuel t cs = some x) :
    ∃ (xs : List (DataW H × List MemPlace)) (n : Nat), fuel = n + 1 ∧ x = (.agg (xs.map (·.1)), xs.flatMap (·.2)) ∧ cs.length = P.cellsOf t ∧ xs.length = k ∧
      ∀ i, i < k → DataW.trod enc P W base sp held n e ((cs.drop (i * P.cellsOf e)).take (P.cellsOf e)) = xs[i]? := by
  cases fuel with
  | zero => simp [DataW.trod] at h
  | succ n =>
    unfold DataW.trod at h
    rw [hu] at h
    have key : ∀ {k e : Nat}, (if cs.length = P.cellsOf t then ((List.range k).mapM fun i => DataW.trod enc P W base sp held n e ((cs.drop (i * P.cellsOf e)).take (P.cellsOf e))).map fun xs => (DataW.agg (xs.map (·.1)), xs.flatMap (·.2)) else none) = some x →
        ∃ (xs : List (DataW H × List MemPlace)) (m : Nat), n + 1 = m + 1 ∧ x = (.agg (xs.map (·.1)), xs.flatMap (·.2)) ∧ cs.length = P.cellsOf t ∧ xs.length = k ∧
          ∀ i, i < k → DataW.trod enc P W base sp held m e ((cs.drop (i * P.cellsOf e)).take (P.cellsOf e)) = xs[i]? := by
      intro k e h
      split at h
      · rename_i hc
        simp only [Option.map_eq_some_iff] at h
        obtain ⟨xs, hm, rfl⟩ := h
        obtain ⟨m1, m2⟩ := mapM_some hm
        refine ⟨xs, n, rfl, rfl, hc, by rw [← m1]; simp, fun i hi => ?_⟩
        have hi' : i < xs.length := by rw [← m1]; simpa using hi
        have := m2 i i xs[i] (range_get hi) (by simp [hi'])
        rw [this]
        simp [hi']
      · cases h
    split at h
    all_goals first
      | exact key h
      | (rename_i hx; simp only [Option.some.injEq, TypeDesc.array.injEq] at hx; obtain ⟨rfl, rfl⟩ := hx; exact key h)
      | (rename_i hx; simp at hx; done)
      | (rename_i hx _; simp at hx; done)
      | (simp_all; done)
      | (cases h; done)

theorem trod_rel {sp : Nat → Bool} {held : Bool} : ∀ (n fuel t : Nat) (cs : List Value) (d : DataW H) (ps : List MemPlace), plainT P n t = true → DataW.trod enc P W 0 sp held fuel t cs = some (d, ps) →
    (DataW.weights P t d).all (· ≤ reachBytes) = true → cs.length = P.cellsOf t ∧ ∃ xs, IsV P W ss n t cs xs
  | 0, fuel, t, cs, d, ps, hp, _, _ => by simp [plainT] at hp
  | n + 1, fuel, t, cs, d, ps, hp, h, hw => by
    have ih := fun fuel t cs d ps => trod_rel (sp := sp) (held := held) n fuel t cs d ps
    unfold plainT at hp
    split at hp
    · rename_i hu
      obtain ⟨b, rfl, hx⟩ := DataW.trod_bool hu h
      refine ⟨by simpa using (beq_iff_eq.1 hp).symm, [.bool b], rfl, ?_, by simp [SV.one], fun k x v hx hv => ?_⟩
      · unfold WT; rw [hu]; exact ⟨b, rfl⟩
      · cases k <;> simp at hx hv
        subst hx hv
        exact .bool b
    · rename_i kd hu
      obtain ⟨b, rfl, hx, hwf⟩ := DataW.trod_int hu h
      refine ⟨by simpa using (beq_iff_eq.1 hp).symm, [.int kd b], rfl, ?_, by simp [SV.one], fun k x v hx hv => ?_⟩
      · unfold WT; rw [hu]; exact ⟨b, rfl, hwf⟩
      · cases k <;> simp at hx hv
        subst hx hv
        exact .int kd b
    · rename_i hu
      obtain ⟨b, rfl, hx, _⟩ := DataW.trod_string hu h
      simp only [Prod.mk.injEq] at hx
      obtain ⟨rfl, rfl⟩ := hx
      refine ⟨by simpa using (beq_iff_eq.1 hp).symm, [.str b], rfl, ?_, by simp [SV.one], fun k x v hx hv => ?_⟩
      · unfold WT; rw [hu]
        refine ⟨b, rfl, ?_⟩
        simp [DataW.weights] at hw
        exact hw
      · cases k <;> simp at hx hv
        subst hx hv
        exact .str b
    · rename_i e hu
      simp only [Bool.and_eq_true, beq_iff_eq, bne_iff_ne, ne_eq] at hp
      obtain ⟨⟨hp1, hp2⟩, hp3⟩ := hp
      rcases DataW.trod_slice hu h with ⟨rfl, hx⟩ | ⟨a, len, cap, elems, rest, m, rfl, rfl, hx, _, hlc, _, hel, hat, _⟩
      · refine ⟨by simpa using hp1.symm, [.nilsl], rfl, ?_, by simp [SV.one], fun k x v hx hv => ?_⟩
        · unfold WT; rw [hu]; exact .inl rfl
        · cases k <;> simp at hx hv
          subst hx hv
          exact .nilsl
      · simp only [Prod.mk.injEq] at hx
        obtain ⟨rfl, rfl⟩ := hx
        have hwl : (elems.length + rest.length) * P.bytesOf e ≤ reachBytes ∧ ∀ d ∈ elems.map (·.1), ∀ m ∈ DataW.weights P e d, m ≤ reachBytes := by
          unfold DataW.weights at hw
          simp only [hu, List.all_cons, Bool.and_eq_true, decide_eq_true_eq, List.length_map, List.all_eq_true, List.mem_append] at hw
          exact ⟨hw.1, fun d hd m hm => hw.2 m (.inl (weightsAll_mem hd hm))⟩
        have hcell : ∀ i, i < len → ∃ xs : List SV, ∃ cs' : List Value, W.cells? 0 (a.add (i * P.cellsOf e)) (P.cellsOf e) = some cs' ∧ IsV P W ss n e cs' xs := by
          intro i hi
          have h1 := hat i hi
          have h2 : elems[i]? = some elems[i] := by simp [hel, hi]
          rw [h2] at h1
          cases hc : W.cells? 0 (a.add (i * P.cellsOf e)) (P.cellsOf e) with
          | none => rw [hc] at h1; cases h1
          | some cs' =>
            rw [hc] at h1
            obtain ⟨_, xs, hxs⟩ := ih m e cs' elems[i].1 elems[i].2 hp3 h1 (List.all_eq_true.2 fun m hm => decide_eq_true (hwl.2 _ (List.mem_map.2 ⟨elems[i], List.getElem_mem _, rfl⟩) m hm))
            exact ⟨xs, cs', rfl, hxs⟩
        have hch : ∃ F : Nat → List SV, ∀ i, i < len → ∃ cs' : List Value, W.cells? 0 (a.add (i * P.cellsOf e)) (P.cellsOf e) = some cs' ∧ IsV P W ss n e cs' (F i) := by
          refine ⟨fun i => if hi : i < len then Classical.choose (hcell i hi) else [], fun i hi => ?_⟩
          simp only [dif_pos hi]
          exact Classical.choose_spec (hcell i hi)
        obtain ⟨F, hF⟩ := hch
        have hcells : ∀ i, i < len → (mkV P e (F i)).cells = F i ∧ (F i).length = P.cellsOf e := fun i hi => by
          obtain ⟨cs', h1, h2⟩ := hF i hi
          exact ⟨mkV_cells h2.wt h2.one, h2.len.trans (cells?_get (k := 0) h1).1⟩
        have hmem : ∀ y ∈ (List.range len).map fun i => mkV P e (F i), ∃ i, i < len ∧ y = mkV P e (F i) := fun y hy => by
          obtain ⟨i, hi, rfl⟩ := List.mem_map.1 hy
          exact ⟨i, List.mem_range.1 hi, rfl⟩
        have hun : ∀ y ∈ (List.range len).map fun i => mkV P e (F i), y.cells.length = P.cellsOf e := fun y hy => by
          obtain ⟨i, hi, rfl⟩ := hmem y hy
          rw [(hcells i hi).1, (hcells i hi).2]
        refine ⟨by simpa using hp1.symm, [.sl ((List.range len).map fun i => mkV P e (F i)) .ro], rfl, ?_, by simp [SV.one], fun k x v hx hv => ?_⟩
        · unfold WT; rw [hu]
          refine .inr ⟨_, rfl, ?_, fun y hy => ?_⟩
          · simp only [List.length_map, List.length_range]
            exact Nat.le_trans (Nat.mul_le_mul_right _ (by omega)) hwl.1
          · obtain ⟨i, hi, rfl⟩ := hmem y hy
            obtain ⟨cs', _, h2⟩ := hF i hi
            exact ⟨F i, rfl, h2.wt⟩
        · cases k <;> simp at hx hv
          subst hx hv
          rcases Nat.eq_zero_or_pos len with h0 | h0
          · subst h0
            exact .sle .ro a cap (by simp)
          · have hspot : a.spot = none := by
              obtain ⟨cs', h1, h2⟩ := hF 0 h0
              obtain ⟨g1, g2⟩ := cells?_get (k := 0) h1
              have hc0 : 0 < cs'.length := by rw [g1]; omega
              have := g2 0 cs'[0] (by simp [hc0])
              exact cell?_spot (by simpa [Addr.add] using this)
            obtain ⟨b, o, s⟩ := a
            simp only at hspot
            subst hspot
            have hget : ∀ (q : Nat) (c : SV), (flat ((List.range len).map fun i => mkV P e (F i)))[q]? = some c → c.one = true ∧ ∃ v, W.cell? ⟨b, o + q, none⟩ = some v ∧ VR (topG W ss) W c v := by
              intro q c hq
              have hlt : q < len * P.cellsOf e := by
                have := (List.getElem?_eq_some_iff.1 hq).1
                rw [flat_length hun] at this
                simpa using this
              have hi : q / P.cellsOf e < len := (Nat.div_lt_iff_lt_mul (by omega)).2 hlt
              have ho : q % P.cellsOf e < P.cellsOf e := Nat.mod_lt _ (by omega)
              have hq' := flat_get (q / P.cellsOf e) (q % P.cellsOf e) (mkV P e (F (q / P.cellsOf e))) hun (by simp [hi]) ho
              rw [show q / P.cellsOf e * P.cellsOf e + q % P.cellsOf e = q by rw [Nat.mul_comm]; exact Nat.div_add_mod _ _] at hq'
              rw [hq', (hcells _ hi).1] at hq
              obtain ⟨cs', h1, h2⟩ := hF _ hi
              obtain ⟨g1, g2⟩ := cells?_get (k := 0) h1
              have hlen : q % P.cellsOf e < cs'.length := by rw [g1]; exact ho
              have hv := g2 (q % P.cellsOf e) cs'[q % P.cellsOf e] (by simp [hlen])
              refine ⟨h2.one c (List.mem_of_getElem? hq), cs'[q % P.cellsOf e], ?_, h2.rel _ _ _ hq (by simp [hlen])⟩
              rw [add_eq (a := ⟨b, o, none⟩) rfl, add_eq rfl] at hv
              rw [show o + q = o + q / P.cellsOf e * P.cellsOf e + q % P.cellsOf e by
                have := Nat.div_add_mod q (P.cellsOf e)
                rw [Nat.mul_comm] at this
                omega]
              exact hv
            have := VR.sl (g := topG W ss) (w := W) ((List.range len).map fun i => mkV P e (F i)) .ro b o cap (P.cellsOf e) (fun q => (W.cell? ⟨b, o + q, none⟩).getD undef) hun
              (fun q c hq => by
                obtain ⟨h1, v, h2, h3⟩ := hget q c hq
                refine ⟨h1, .inl ?_, by simp [h2]⟩
                exact lt_of_cell? h2)
              (fun q c hq => by
                obtain ⟨h1, v, h2, h3⟩ := hget q c hq
                simpa [h2] using h3)
              (by simpa using hlc) (by simp)
            simpa using this
    · rename_i fs hu
      simp only [Bool.and_eq_true, beq_iff_eq, List.all_eq_true] at hp
      obtain ⟨hp1, hp2⟩ := hp
      obtain ⟨xs, m, rfl, hx, hcl, hxl, hat⟩ := DataW.trod_struct hu h
      simp only [Prod.mk.injEq] at hx
      obtain ⟨rfl, rfl⟩ := hx
      obtain ⟨hs1, hs2⟩ := inLine_sum _ _ _ hp1
      have hwl : ∀ (i : Nat) (f : Field) (x : DataW H × List MemPlace), fs[i]? = some f → xs[i]? = some x → ∀ m ∈ DataW.weights P f.type x.1, m ≤ reachBytes := by
        intro i f x hf hx m hm
        unfold DataW.weights at hw
        simp only [hu, List.all_eq_true, decide_eq_true_eq] at hw
        refine hw m (DataW.weights_mem_each (j := i) (t := f.type) (d := x.1) ?_ ?_ m hm)
        · simp [hf]
        · simp [hx]
      obtain ⟨parts, q1, q2, q3, q4, q5⟩ := parts_join (W := W) (α := Unit) (fun i p => ∀ f, fs[i]? = some f → WT P n f.type p) cs (fs.toList.map fun f => (f.offset, P.cellsOf f.type)) 0
        (fun i p hi => by
          simp only [List.getElem?_map, Option.map_eq_some_iff] at hi
          obtain ⟨f, hf, rfl⟩ := hi
          have hf' : fs[i]? = some f := by simpa using hf
          have hlt : i < xs.length := by
            have := (Array.getElem?_eq_some_iff.1 hf').1
            omega
          have h1 := hat i f hf'
          have h2 : xs[i]? = some xs[i] := by simp [hlt]
          rw [h2] at h1
          obtain ⟨g1, ys, hys⟩ := ih m f.type _ xs[i].1 xs[i].2 (hp2 f (List.mem_of_getElem? hf)) h1 (List.all_eq_true.2 fun m hm => decide_eq_true (hwl i f _ hf' h2 m hm))
          refine ⟨ys, hys.len.trans g1, fun f' hf'' => ?_, hys.one, fun k x v hk hv => hys.rel k x v hk ?_⟩
          · rw [hf'] at hf''
            simp only [Option.some.injEq] at hf''
            subst hf''
            exact hys.wt
          · have hk' : k < P.cellsOf f.type := by rw [← g1, ← hys.len]; exact (List.getElem?_eq_some_iff.1 hk).1
            rw [List.getElem?_take, if_pos hk', List.getElem?_drop]
            exact hv)
        (fun i p hi => by
          simp only [List.getElem?_map, Option.map_eq_some_iff] at hi
          obtain ⟨f, hf, rfl⟩ := hi
          have := hs2 i f hf
          simp only [this, ← List.map_take, List.map_map]
          rfl)
      refine ⟨hcl, parts.flatten, ?_, ?_, q4, fun k x v hk hv => q5 k x v hk (by simpa using hv)⟩
      · rw [q2, hcl, hs1, List.map_map]
        simp only [Nat.zero_add]
        rfl
      · unfold WT; rw [hu]
        exact ⟨parts, rfl, by simpa using q1, fun i f p hf hpp => q3 i p hpp f hf⟩
    · rename_i k e hu
      simp only [Bool.and_eq_true, beq_iff_eq] at hp
      obtain ⟨hp1, hp2⟩ := hp
      obtain ⟨xs, m, rfl, hx, hcl, hxl, hat⟩ := trod_array hu h
      simp only [Prod.mk.injEq] at hx
      obtain ⟨rfl, rfl⟩ := hx
      have hwl : ∀ d ∈ xs.map (·.1), ∀ m ∈ DataW.weights P e d, m ≤ reachBytes := by
        unfold DataW.weights at hw
        simp only [hu, List.all_eq_true, decide_eq_true_eq] at hw
        exact fun d hd m hm => hw m (weightsAll_mem hd hm)
      obtain ⟨parts, q1, q2, q3, q4, q5⟩ := parts_join (W := W) (α := Unit) (fun i p => WT P n e p) cs ((List.range k).map fun i => (i * P.cellsOf e, P.cellsOf e)) 0
        (fun i p hi => by
          simp only [List.getElem?_map, Option.map_eq_some_iff] at hi
          obtain ⟨i', hi', rfl⟩ := hi
          obtain ⟨hik, hii⟩ := List.getElem?_eq_some_iff.1 hi'
          simp only [List.length_range] at hik
          simp only [List.getElem_range] at hii
          subst hii
          have h1 := hat i hik
          have h2 : xs[i]? = some xs[i] := by simp [hxl, hik]
          rw [h2] at h1
          obtain ⟨g1, ys, hys⟩ := ih m e _ xs[i].1 xs[i].2 hp2 h1 (List.all_eq_true.2 fun m hm => decide_eq_true (hwl _ (List.mem_map.2 ⟨xs[i], List.getElem_mem _, rfl⟩) m hm))
          refine ⟨ys, hys.len.trans g1, hys.wt, hys.one, fun k x v hk hv => hys.rel k x v hk ?_⟩
          have hk' : k < P.cellsOf e := by rw [← g1, ← hys.len]; exact (List.getElem?_eq_some_iff.1 hk).1
          rw [List.getElem?_take, if_pos hk', List.getElem?_drop]
          exact hv)
        (fun i p hi => by
          simp only [List.getElem?_map, Option.map_eq_some_iff] at hi
          obtain ⟨i', hi', rfl⟩ := hi
          obtain ⟨hik, hii⟩ := List.getElem?_eq_some_iff.1 hi'
          simp only [List.length_range] at hik
          simp only [List.getElem_range] at hii
          subst hii
          have e1 : (List.map (fun x : Nat × Nat => x.2) (List.take i (List.map (fun i => (i * P.cellsOf e, P.cellsOf e)) (List.range k)))) = List.replicate i (P.cellsOf e) := by
            rw [← List.map_take, List.map_map, List.take_range]
            apply List.ext_getElem
            · simp; omega
            · intro j h1 h2
              simp
          rw [e1]
          simp)
      refine ⟨hcl, parts.flatten, ?_, ?_, q4, fun k x v hk hv => q5 k x v hk (by simpa using hv)⟩
      · rw [q2, hcl, hp1, List.map_map]
        have e1 : List.map ((fun x : Nat × Nat => x.2) ∘ fun i => (i * P.cellsOf e, P.cellsOf e)) (List.range k) = List.replicate k (P.cellsOf e) := by
          apply List.ext_getElem
          · simp
          · intro j h1 h2
            simp
        rw [e1]
        simp
      · unfold WT; rw [hu]
        refine ⟨parts, rfl, by simpa using q1, fun p hpp => ?_⟩
        obtain ⟨i, hi, rfl⟩ := List.mem_iff_getElem.1 hpp
        exact q3 i _ (by simp [hi])
    · cases hp

end Go.Proofs.YtbdliphlolajaaaDoor.Sh

/-
  The shadow interpreter, text 19: a law's walk, from the shadow's. No condition.
-/
set_option linter.unusedVariables false
set_option linter.unusedSimpArgs false
namespace Go.Proofs.YtbdliphlolajaaaDoor.Sh
variable {P : Program} {W : World} {ss : Nat → Option Value} {H : Type} {enc : TypeId × Value → H}

theorem arg_rel {ts : List TypeId} {ds : List (DataW H)} (hs : (DataW.weightsEach P ts ds).all (· ≤ reachBytes) = true) {j n t base : Nat} {r : Reach} {d : DataW H} {v : Value} {ps : List MemPlace} {sp : Nat → Bool} {held : Bool}
    (ht : ts[j]? = some t) (hd : ds[j]? = some d) (hp : plainT P n t = true) (h : DataW.Trod enc P W 0 sp held t v d ps) (hv : Value.okWide P W r base t v) :
    ∃ xs, WT P n t xs ∧ (∀ x ∈ xs, x.one = true) ∧ VR (topG W ss) W (mkV P t xs) v := by
  obtain ⟨fuel, hf⟩ := h
  obtain ⟨hl, xs, hx⟩ := trod_rel (ss := ss) n fuel t v.cells.toList d ps hp hf (List.all_eq_true.2 fun m hm => List.all_eq_true.1 hs m (DataW.weights_mem_each ht hd m hm))
  refine ⟨xs, hx.wt, hx.one, ?_⟩
  have scalar : aggT P t = false → (∀ cs, v ≠ .agg cs) → VR (topG W ss) W (mkV P t xs) v := by
    intro ha hna
    have hc : v.cells.toList = [v] := by cases v <;> first | rfl | exact absurd rfl (hna _)
    have hlen := hx.len
    rw [hc] at hlen
    match xs, hlen with
    | [x], _ =>
      have := hx.rel 0 x v rfl (by rw [hc]; rfl)
      simpa [mkV, ha] using this
  cases n with
  | zero => simp [plainT] at hp
  | succ n =>
    unfold plainT at hp
    split at hp
    · rename_i hu
      obtain ⟨b, rfl⟩ := WideShapes.okWide_bool hu hv
      exact scalar (by simp [aggT, hu]) (by simp)
    · rename_i k hu
      obtain ⟨b, rfl⟩ := WideShapes.okWide_int hu hv
      exact scalar (by simp [aggT, hu]) (by simp)
    · rename_i hu
      obtain ⟨b, rfl⟩ := WideShapes.okWide_string hu hv
      exact scalar (by simp [aggT, hu]) (by simp)
    · rename_i e hu
      obtain ⟨a, b, c, rfl⟩ := WideShapes.okWide_slice hu hv
      exact scalar (by simp [aggT, hu]) (by simp)
    · rename_i fs hu
      unfold Value.okWide at hv
      rw [hu] at hv
      obtain ⟨cs, rfl, _⟩ := hv
      simp only [mkV, aggT, hu, if_true]
      refine .agg xs cs (by simpa [Value.cells] using hx.len) hx.one (fun k x u hk hu' => hx.rel k x u hk (by simpa [Value.cells] using hu'))
    · rename_i k e hu
      unfold Value.okWide at hv
      rw [hu] at hv
      obtain ⟨cs, rfl, _⟩ := hv
      simp only [mkV, aggT, hu, if_true]
      refine .agg xs cs (by simpa [Value.cells] using hx.len) hx.one (fun k x u hk hu' => hx.rel k x u hk (by simpa [Value.cells] using hu'))
    · cases hp

/-- At a law's own call: what is laid in the program's variables. -/
theorem topMG {E : Env} (W : World) (hG : ∀ n items, E.G n = some items → pvs items = true ∧ VR (topG W ss) W (.rptr items 0 0 true) (.pointer (some ⟨n, 0, none⟩))) (hR : RawG E (topG W ss) W) (hS : SentG E (topG W ss)) : MR E (topG W ss) W .empty (fun _ => True) where
  good := fun b o h => h
  base := Nat.le_refl _
  blk := fun id items h => by simp [Mem.empty] at h
  inj := fun id id' b h => by simp [Mem.empty] at h
  fresh := fun _ _ => rfl
  hwb := fun b h => by simp [topG] at h
  lt := fun id b h => by simp [topG] at h
  glob := fun n items h => (hG n items h).2
  plain := fun n items h => (hG n items h).1
  raw := hR
  sent := hS

/-- What is laid in the program's variables: none is read. -/
theorem topM {E : Env} (hG : ∀ n, E.G n = none) (hR : ∀ n, E.raw n = none) (hS : ∀ t, E.sent t = false) (W : World) : MR E (topG W fun _ => none) W .empty (fun _ => True) :=
  topMG W (fun n items h => by rw [hG n] at h; cases h) (fun n v h => by rw [hR n] at h; cases h) (fun t => ⟨fun _ => rfl, fun h => by rw [hS t] at h; cases h⟩)

theorem law_callsG {E : Env} (hmix : E.P.follows .mixedOrders = true) (hprim : PrimOk E) (hM : MR E (topG W ss) W .empty (fun _ => True)) {f : Nat} {svs : List SV} {args : Array Value} {M' : Mem}
    (h : ICw E f svs .empty = some (.bool true, M')) (hargs : VRs (topG W ss) W svs args) :
    Calls E.P f args W fun e W' => e = .returned (.bool true) ∧ RowKit.Below W.heap.size W W' := by
  obtain ⟨n, hn⟩ := ICw_eq.1 h
  obtain ⟨_, _, hcall⟩ := callN_ok hmix hprim n f svs .empty _ _ hn
  refine (hcall (topG W ss) W _ args hM (fun _ _ => trivial) hargs).mono ?_
  rintro e W' ⟨v', g', rfl, evo, _, hv, _⟩
  refine ⟨by rw [hv.bool_inv], evo.below⟩

theorem law_calls {E : Env} (hmix : E.P.follows .mixedOrders = true) (hprim : PrimOk E) (hG : ∀ n, E.G n = none) (hR : ∀ n, E.raw n = none) (hS : ∀ t, E.sent t = false) {f : Nat} {svs : List SV} {args : Array Value} {M' : Mem}
    (h : ICw E f svs .empty = some (.bool true, M')) (hargs : VRs (topG W fun _ => none) W svs args) :
    Calls E.P f args W fun e W' => e = .returned (.bool true) ∧ RowKit.Below W.heap.size W W' :=
  law_callsG hmix hprim (topM hG hR hS W) h hargs

theorem VRs.nil' : VRs (topG W ss) W [] #[] := ⟨rfl, fun k x v h => by simp at h⟩
theorem VRs.one1 {x : SV} {v : Value} (h : VR (topG W ss) W x v) : VRs (topG W ss) W [x] #[v] :=
  ⟨rfl, fun k x' v' hx hv => by
    cases k with
    | zero => simp at hx hv; subst hx hv; exact h
    | succ k => simp at hx⟩
theorem VRs.two {x y : SV} {v u : Value} (h : VR (topG W ss) W x v) (h2 : VR (topG W ss) W y u) : VRs (topG W ss) W [x, y] #[v, u] :=
  (VRs.one1 h).append (VRs.one1 h2)

/-! ### Types, by what the shadow knows of them -/

theorem und_of {t : Nat} {k : TK} {a b : Nat} {z : Option SV} (ht : tiOf P t = some ⟨k, a, b, z⟩) : ∃ d, P.underlying t = some d ∧ k = tkOf d ∧ P.cellsOf t = a ∧ P.bytesOf t = b := by
  obtain ⟨d, i, hd, hi, he⟩ := tiOf_some ht
  simp only [TI.mk.injEq] at he
  exact ⟨d, hd, he.1, by simp [Program.cellsOf, hi, he.2.1], by simp [Program.bytesOf, hi, he.2.2.1]⟩

theorem WT_bool {n t a b : Nat} {z : Option SV} {xs : List SV} (ht : tiOf P t = some ⟨.bool, a, b, z⟩) (h : WT P (n + 1) t xs) : ∃ v, xs = [.bool v] ∧ mkV P t xs = .bool v := by
  obtain ⟨d, hd, hk, _⟩ := und_of ht
  obtain rfl := tk_bool hk.symm
  unfold WT at h
  rw [hd] at h
  obtain ⟨v, rfl⟩ := h
  exact ⟨v, rfl, by simp [mkV, aggT, hd]⟩

theorem WT_int {n t a b : Nat} {z : Option SV} {k : IntKind} {xs : List SV} (ht : tiOf P t = some ⟨.int k, a, b, z⟩) (h : WT P (n + 1) t xs) : ∃ v, xs = [.int k v] ∧ mkV P t xs = .int k v ∧ (Lit.int k v).wf = true := by
  obtain ⟨d, hd, hk, _⟩ := und_of ht
  obtain rfl := tk_int hk.symm
  unfold WT at h
  rw [hd] at h
  obtain ⟨v, rfl, hw⟩ := h
  exact ⟨v, rfl, by simp [mkV, aggT, hd], hw⟩

theorem WT_str {n t a b : Nat} {z : Option SV} {xs : List SV} (ht : tiOf P t = some ⟨.str, a, b, z⟩) (h : WT P (n + 1) t xs) : ∃ v, xs = [.str v] ∧ mkV P t xs = .str v ∧ v.size ≤ reachBytes := by
  obtain ⟨d, hd, hk, _⟩ := und_of ht
  obtain rfl := tk_str hk.symm
  unfold WT at h
  rw [hd] at h
  obtain ⟨v, rfl, hw⟩ := h
  exact ⟨v, rfl, by simp [mkV, aggT, hd], hw⟩

theorem WT_slice {n t e a b : Nat} {z : Option SV} {xs : List SV} {te : TI} (ht : tiOf P t = some ⟨.slice e, a, b, z⟩) (hte : tiOf P e = some te) (h : WT P (n + 1) t xs) :
    xs = [.nilsl] ∧ mkV P t xs = .nilsl ∨ ∃ items : List SV, xs = [.sl items .ro] ∧ mkV P t xs = .sl items .ro ∧ items.length * te.bytes ≤ 140737488351232 ∧ ∀ y ∈ items, ∃ ys, y = mkV P e ys ∧ WT P n e ys := by
  obtain ⟨d, hd, hk, _⟩ := und_of ht
  obtain rfl := tk_slice hk.symm
  obtain ⟨_, _, _, _, hb⟩ := und_of (k := te.kind) (a := te.size) (b := te.bytes) (z := te.zero) hte
  unfold WT at h
  rw [hd] at h
  rcases h with rfl | ⟨items, rfl, h1, h2⟩
  · exact .inl ⟨rfl, by simp [mkV, aggT, hd]⟩
  · rw [hb] at h1
    exact .inr ⟨items, rfl, by simp [mkV, aggT, hd], h1, h2⟩

theorem WT_struct {n t a b : Nat} {z : Option SV} {fs : List (Nat × Nat)} {xs : List SV} (ht : tiOf P t = some ⟨.struct fs, a, b, z⟩) (h : WT P (n + 1) t xs) :
    mkV P t xs = .agg xs ∧ ∃ parts : List (List SV), xs = parts.flatten ∧ parts.length = fs.length ∧ ∀ (i : Nat) (f : Nat × Nat) (p : List SV), fs[i]? = some f → parts[i]? = some p → WT P n f.1 p := by
  obtain ⟨d, hd, hk, _⟩ := und_of ht
  obtain ⟨fa, rfl, rfl⟩ := tk_struct hk.symm
  unfold WT at h
  rw [hd] at h
  obtain ⟨parts, rfl, h1, h2⟩ := h
  refine ⟨by simp [mkV, aggT, hd], parts, rfl, by simpa using h1, fun i f p hf hp => ?_⟩
  simp only [List.getElem?_map, Option.map_eq_some_iff] at hf
  obtain ⟨f', hf', rfl⟩ := hf
  exact h2 i f' p (by simpa using hf') hp

theorem WT_arr {n t k e a b : Nat} {z : Option SV} {xs : List SV} (ht : tiOf P t = some ⟨.arr k e, a, b, z⟩) (h : WT P (n + 1) t xs) :
    mkV P t xs = .agg xs ∧ ∃ parts : List (List SV), xs = parts.flatten ∧ parts.length = k ∧ ∀ p ∈ parts, WT P n e p := by
  obtain ⟨d, hd, hk, _⟩ := und_of ht
  obtain rfl := tk_arr hk.symm
  unfold WT at h
  rw [hd] at h
  obtain ⟨parts, rfl, h1, h2⟩ := h
  exact ⟨by simp [mkV, aggT, hd], parts, rfl, h1, h2⟩

theorem wf64 {v : Int} (h : (Lit.int .i64 v).wf = true) : -9223372036854775808 ≤ v ∧ v ≤ 9223372036854775807 := by
  simp [Lit.wf, IntKind.min, IntKind.max, IntKind.bits, IntKind.signed] at h
  omega

end Go.Proofs.YtbdliphlolajaaaDoor.Sh
