/-
  The shadow interpreter, text 20: loops that look for something, memory that is old, what is gathered. No condition.
-/
import Derived.Test.YtbdliphlolajaaaDoorShSr
set_option linter.unusedVariables false
set_option linter.unusedSimpArgs false
namespace Go.Proofs.YtbdliphlolajaaaDoor.Sh
variable {P : Program} {α : Type}

/-! ### Loops -/

/-- A loop that looks for the first j of a kind. -/
theorem loop_find {E : Env} {me : Nat} {B : C} {T : Nat → List SV} {I : Nat → Mem → Prop} {len : Nat} {p : Nat → Bool} {Q : Option Nat → Ex × St → Prop}
    (step : ∀ j M, j < len → I j M → p j = false → ∃ M', evW E me B ⟨T j, M⟩ = some (.normal, ⟨T (j + 1), M'⟩) ∧ I (j + 1) M')
    (hit : ∀ j M, j < len → I j M → p j = true → ∃ r, evW E me B ⟨T j, M⟩ = some r ∧ r.1 ≠ .normal ∧ Q (some j) r)
    (fin : ∀ M, I len M → ∃ r, evW E me B ⟨T len, M⟩ = some r ∧ r.1 ≠ .normal ∧ Q none r) (M : Mem) (hI : I 0 M) :
    ∃ r, evW E me (.loop B) ⟨T 0, M⟩ = some r ∧ Q ((List.range len).find? p) r := by
  have key := loop_up (E := E) (me := me) (B := B) (T := T) (len := len) (I := fun j M => I j M ∧ ∀ i < j, p i = false) (Q := fun r => Q ((List.range len).find? p) r)
    (fun j M hj ⟨hI, hn⟩ => by
      cases hp : p j with
      | false =>
        left
        obtain ⟨M', h1, h2⟩ := step j M hj hI hp
        exact ⟨M', h1, h2, fun i hi => by
          rcases Nat.lt_or_ge i j with h | h
          · exact hn i h
          · obtain rfl : i = j := by omega
            exact hp⟩
      | true =>
        right
        obtain ⟨r, h1, h2, h3⟩ := hit j M hj hI hp
        refine ⟨r, h1, h2, ?_⟩
        have : (List.range len).find? p = some j := by
          rw [List.find?_range_eq_some]
          exact ⟨hp, by simpa using hj, fun i hi => by simp [hn i hi]⟩
        rw [this]
        exact h3)
    (fun M ⟨hI, hn⟩ => by
      obtain ⟨r, h1, h2, h3⟩ := fin M hI
      refine ⟨r, h1, h2, ?_⟩
      have : (List.range len).find? p = none := by
        rw [List.find?_range_eq_none]
        exact fun i hi => by simp [hn i hi]
      rw [this]
      exact h3) 0 M (Nat.zero_le _) ⟨hI, fun i hi => by omega⟩
  exact key

/-! ### Memory -/

/-- What was there is there. -/
def Old (M M' : Mem) : Prop := ∀ id, id < M.next → M'.blk id = M.blk id
@[simp] theorem Old.rfl' (M : Mem) : Old M M = True := by simp [Old]
@[simp] theorem Old.bump (M M' : Mem) (k : Nat) : Old M (M'.bump k) = Old M M' := rfl
@[simp] theorem Old.set (M M' : Mem) (k : Nat) (b : Option (List SV)) : Old M (M'.set (M.next + k) b) = Old M M' := by
  apply propext
  constructor <;> intro h id hid <;> have := h id hid
  · rwa [Mem.blk_set, if_neg (by omega)] at this
  · rwa [Mem.blk_set, if_neg (by omega)]
@[simp] theorem Old.set0 (M M' : Mem) (b : Option (List SV)) : Old M (M'.set M.next b) = Old M M' := Old.set M M' 0 b
@[simp] theorem Old.set2 (M M' : Mem) (k j : Nat) (b : Option (List SV)) : Old M (M'.set (M.next + k + j) b) = Old M M' := by rw [Nat.add_assoc]; exact Old.set M M' (k + j) b
@[simp] theorem Old.set3 (M M' : Mem) (k j i : Nat) (b : Option (List SV)) : Old M (M'.set (M.next + k + j + i) b) = Old M M' := by rw [Nat.add_assoc, Nat.add_assoc]; exact Old.set M M' (k + (j + i)) b
@[simp] theorem Old.set4 (M M' : Mem) (k j i h : Nat) (b : Option (List SV)) : Old M (M'.set (M.next + k + j + i + h) b) = Old M M' := by rw [Nat.add_assoc, Nat.add_assoc, Nat.add_assoc]; exact Old.set M M' (k + (j + (i + h))) b

@[simp] theorem Mem.sets_append (M : Mem) (u v : List (Nat × Option (List SV))) : M.sets (u ++ v) = (M.sets u).sets v := by
  induction u generalizing M with
  | nil => rfl
  | cons p r ih => exact ih _
@[simp] theorem Mem.next_sets (M : Mem) (u : List (Nat × Option (List SV))) : (M.sets u).next = M.next := by
  induction u generalizing M with
  | nil => rfl
  | cons p r ih => exact ih _

/-! ### Gathering -/

/-- What becomes of the block that is appended to. -/
def killO : SV → List (Nat × Option (List SV))
  | .own id _ _ _ => [(id, none)]
  | _ => []

theorem OutR.app {get : Nat → Option (List SV)} {o : SV} {M : Mem} {items : List SV} {a s t e s1 b1 : Nat} {z1 : Option SV} {te : TI} {z v : SV} (ht : tiOf P t = some ⟨.slice e, s1, b1, z1⟩) (hte : tiOf P e = some te)
    (hz : te.zero = some z) (h0 : 0 < te.size) (hsz : z.sto = true) (hc : z.cells.length = te.size) (hI : OutR te.size o M items) (h1 : (items.length + 1) * te.bytes ≤ 140737488355328) (h2 : items.length + 1 ≤ 140737488355328)
    (hg : ∀ id, id < M.next → get id = M.blk id) (hv : v.cells.length = te.size) (hs : get s = some [v]) :
    appendS P get a t t o (.own s te.size 0 1) = some (.own a te.size 0 (items.length + 1), killO o ++ [(a, some (items ++ [v]))]) := by
  rcases hI with ⟨rfl, rfl⟩ | ⟨id, rfl, hid, hlt⟩
  · exact append_one ht hte hz h0 hsz hc hv hs (by simpa using h1)
  · exact append_more ht hte hz h0 hsz hc hv hs ((hg id hlt).trans hid) h1 h2

theorem OutR.snoc {esz a : Nat} {M : Mem} {items : List SV} {v : SV} (h1 : M.blk a = some (items ++ [v])) (h2 : a < M.next) : OutR esz (.own a esz 0 (items.length + 1)) M (items ++ [v]) :=
  .inr ⟨a, by simp, h1, h2⟩

/-- What was gathered stays, where memory goes on. -/
theorem OutR.old {esz : Nat} {o : SV} {M M' : Mem} {items : List SV} (h : OutR esz o M items) (ho : Old M M') (hn : M.next ≤ M'.next) : OutR esz o M' items := by
  rcases h with ⟨rfl, rfl⟩ | ⟨id, rfl, hid, hlt⟩
  · exact .inl ⟨rfl, rfl⟩
  · exact .inr ⟨id, rfl, (ho id hlt).trans hid, by omega⟩

/-- What was gathered, handed on: a picture. -/
theorem OutR.pic {esz : Nat} {o : SV} {M : Mem} {items : List SV} (h : OutR esz o M items) (hp : ∀ x ∈ items, np 11 x = true) :
    ∃ y, pic M.blk false picDepth o = some y ∧ isSl y = true ∧ its y = items ∧ Sh.np picDepth y = true := by
  rcases h with ⟨rfl, rfl⟩ | ⟨id, rfl, hid, _⟩
  · exact ⟨.nilsl, rfl, rfl, rfl, rfl⟩
  · refine ⟨.sl items .snap, ?_, rfl, rfl, ?_⟩
    · rw [pic_snap hid (Nat.le_refl _) hp]; simp
    · simp only [picDepth, np, Bool.or_eq_true]
      exact .inr (List.all_eq_true.2 hp)

theorem RSl.snoc {R : SV → α → Prop} {items : List SV} {tl : Tl} {l : List α} {y : SV} {h : α} (hl : RSl R (.sl items tl) l) (hy : R y h) : RSl R (.sl (items ++ [y]) tl) (l ++ [h]) := by
  refine ⟨rfl, by have := hl.len; simp [its] at this ⊢; exact this, fun j u a hu ha => ?_⟩
  have hlen := hl.len
  simp only [its] at hlen hu
  rw [List.getElem?_append] at hu ha
  rw [← hlen] at ha
  split at hu
  · rename_i hlt
    rw [if_pos hlt] at ha
    exact hl.at' j u a hu ha
  · rename_i hlt
    rw [if_neg hlt] at ha
    have : j - items.length = 0 := by
      have := (List.getElem?_eq_some_iff.1 hu).1
      simp at this
      omega
    rw [this] at hu ha
    simp at hu ha
    subst hu ha
    exact hy

theorem RSl.empty {R : SV → α → Prop} {tl : Tl} : RSl R (.sl [] tl) ([] : List α) := ⟨rfl, rfl, fun j y a h => by simp [its] at h⟩

/-! ### Rows of plain data: a list, each written by a function -/

theorem RSl.map {enc : α → SV} {x : SV} {l : List α} (h : RSl (fun y a => y = enc a) x l) : its x = l.map enc := by
  apply List.ext_getElem
  · rw [h.len, List.length_map]
  · intro j h1 h2
    have h2' : j < l.length := by simpa using h2
    rw [List.getElem_map]
    exact h.at' j _ _ (by simp [h1]) (by simp [h2'])

theorem RSl.of_map {enc : α → SV} {x : SV} {l : List α} (hs : isSl x = true) (h : its x = l.map enc) : RSl (fun y a => y = enc a) x l :=
  ⟨hs, by rw [h, List.length_map], fun j y a hy ha => by
    rw [h, List.getElem?_map, ha] at hy
    simpa using hy.symm⟩

/-- The address of an item of such a row. -/
theorem RSl.at {enc : α → SV} {x : SV} {l : List α} (h : RSl (fun y a => y = enc a) x l) {t e a b : Nat} {z : Option SV} {te : TI} (ht : tiOf P t = some ⟨.slice e, a, b, z⟩) (hte : tiOf P e = some te)
    (hc : ∀ a, (enc a).cells.length = te.size) {j : Nat} (hj : j < l.length) : indexAddrS P t x (.int .i64 j) = some (.rptr (l.map enc) j 0 (stOf x)) := by
  rw [← h.map]
  exact indexAddr_sl h.sl ht hte rfl (y := enc l[j]) (by rw [h.map]; simp [hj]) (hc _)

/-! ### Numbers -/
variable {t : Nat} {c : Bool} {k : IntKind} {a b : Int}
@[simp] theorem binS_quo (h : b ≠ 0) : binS P .quo t c (.int k a) (.int k b) = some (.int k (k.wrap (a.tdiv b))) := by simp [binS, Go.binOp, Op.intDiv, semV, pure, h]
@[simp] theorem binS_rem (h : b ≠ 0) : binS P .rem t c (.int k a) (.int k b) = some (.int k (a.tmod b)) := by simp [binS, Go.binOp, Op.intDiv, semV, pure, h]
@[simp] theorem binS_shr {yk : IntKind} (h : 0 ≤ b) : binS P .shr t c (.int k a) (.int yk b) = some (.int k (a.fdiv (2 ^ (min b.toNat k.bits)))) := by
  have h' : ¬ b < 0 := by omega
  simp [binS, Go.binOp, Op.shift, semV, pure, h']
def andI (k : IntKind) (x y : Int) : Int := k.wrap (BitVec.ofInt k.bits x &&& BitVec.ofInt k.bits y).toNat
@[simp] theorem binS_and : binS P .and t c (.int k a) (.int k b) = some (.int k (andI k a b)) := by simp [binS, Go.binOp, Op.intBits, semV, pure, andI]
@[simp] theorem unS_neg : unS .neg (.int k a) = some (.int k (k.wrap (0 - a))) := by simp [unS, Op.unary, Op.intArith, semV, pure]
@[simp] theorem mm_min2 : mmS false [.int k a, .int k b] = some (.int k (min a b)) := by
  simp only [mmS, mmGo, Bool.false_eq_true, if_false]; congr 2; rw [Int.min_def]; split <;> split <;> omega
@[simp] theorem mm_max2 : mmS true [.int k a, .int k b] = some (.int k (max a b)) := by
  simp only [mmS, mmGo, if_true]; congr 2; rw [Int.max_def]; split <;> split <;> omega
@[simp] theorem mm_min3 {d : Int} : mmS false [.int k a, .int k b, .int k d] = some (.int k (min (min a b) d)) := by
  simp only [mmS, mmGo, Bool.false_eq_true, if_false]; congr 2; simp only [Int.min_def]; repeat' split <;> omega
@[simp] theorem mm_max3 {d : Int} : mmS true [.int k a, .int k b, .int k d] = some (.int k (max (max a b) d)) := by
  simp only [mmS, mmGo, if_true]; congr 2; simp only [Int.max_def]; repeat' split <;> omega

/-- Within what an int64 holds. -/
def I64 (n : Int) : Prop := -9223372036854775808 ≤ n ∧ n ≤ 9223372036854775807
theorem I64.wrap {n : Int} (h : I64 n) : IntKind.i64.wrap n = n := i64_in h.1 h.2
theorem I64.of_wrap (n : Int) : I64 (IntKind.i64.wrap n) := by unfold I64; rw [IntKind.wrap_i64]; omega
def w64 (n : Int) : Int := IntKind.i64.wrap n

end Go.Proofs.YtbdliphlolajaaaDoor.Sh
