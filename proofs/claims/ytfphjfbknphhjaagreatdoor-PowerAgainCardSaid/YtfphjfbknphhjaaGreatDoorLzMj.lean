/-
  Walks of the seat's functions: Wd.
-/
import Derived.Test.YtfphjfbknphhjaaGreatDoorEb2
import Derived.Test.YtfphjfbknphhjaaGreatDoorShMb
import Derived.Test.YtfphjfbknphhjaaGreatDoorLzMi
import Derived.Test.YtfphjfbknphhjaaGreatDoorLzMb
import Derived.Test.YtfphjfbknphhjaaGreatDoorLRe
set_option linter.unusedVariables false
set_option linter.unusedSimpArgs false
set_option maxRecDepth 100000
namespace Go.Proofs.YtfphjfbknphhjaaGreatDoor
open Go.Proofs.YtfphjfbknphhjaaGreatDoor.Sh
/-! The law PlanTells: the document's ports; two equal lists. -/
/-- Blocks but for the one that a list was in are as they were. -/
def Kept (o : SV) (M M' : Mem) : Prop := ∀ id, id < M.next → (∀ e a b, o ≠ .own id e a b) → M'.blk id = M.blk id
theorem Zaev {o : SV} {X : Mem} {s : Nat} (hne : ∀ e a b, o ≠ .own s e a b) : (X.sets (Zrd o)).blk s = X.blk s := by
  cases o <;> simp [Zrd, Mem.sets]
  rename_i id e a b
  intro hh
  subst hh
  exact absurd rfl (hne e a b)
/-- An item more at the end of a list in own memory. -/
theorem Zg1.next {P : Program} {get : Nat → Option (List SV)} {o : SV} {M X : Mem} {items : List SV} {a s t e s1 b1 : Nat} {z1 : Option SV} {te : TI} {z v : SV} (ht : Zbz P t = some ⟨.slice e, s1, b1, z1⟩) (hte : Zbz P e = some te)
    (hz : te.zero = some z) (h0 : 0 < te.size) (hsz : z.sto = true) (hc : z.cells.length = te.size) (hI : Zg1 te.size o M items) (h1 : (items.length + 1) * te.bytes ≤ 140737488355328) (h2 : items.length + 1 ≤ 140737488355328)
    (hg : ∀ id, id < M.next → get id = M.blk id) (hv : v.cells.length = te.size) (hs : get s = some [v]) (hX : Old M X) (hXn : a < X.next) (hMa : M.next ≤ a) :
    ∃ o' X', Zef P get a t t o (.own s te.size 0 1) = some (o', Zrd o ++ [(a, some (items ++ [v]))]) ∧ (X.sets (Zrd o)).set a (some (items ++ [v])) = X' ∧ Zg1 te.size o' X' (items ++ [v]) ∧ Kept o M X' ∧ X'.next = X.next ∧ (∀ id e a b, o' = .own id e a b → M.next ≤ id) := by
  refine ⟨_, _, Zg1.app ht hte hz h0 hsz hc hI h1 h2 hg hv hs, rfl, ?_, ?_, by simp, ?_⟩
  · exact Zg1.snoc (by simp) (by simpa using hXn)
  · intro id hid hne
    rw [Mem.Ziy, if_neg (by omega), Zaev hne]
    exact hX id hid
  · intro id e a' b h
    cases h
    exact hMa
theorem Zar0 (c : Bool) (a b : Port) : eqS ES.P Zad c (Zap a) (Zap b) = some (decide (a = b)) := by
  have h1 : ES.P.stoodInHeld Zad = false := by kernel_rfl
  have h2 : ES.P.eqGuardType ES.P.depth Zad = false := by kernel_rfl
  have h3 : Zafx ES.P (.struct [(Zc, 0), (Zc, 1), (Zc, 2), (Zc, 3)]) = true := by kernel_rfl
  have h4 : Zwf ES.P Zad = true := by kernel_rfl
  unfold eqS
  rw [Znr]
  obtain ⟨a1, a2, a3, a4⟩ := a
  obtain ⟨b1, b2, b3, b4⟩ := b
  simp only [Zap, h1, h2, h3, h4]
  simp only [Zalr, List.length, Zxh, beq_self_eq_true, Bool.and_true, and_self, if_true, Option.some.injEq]
  by_cases e1 : a1 = b1 <;> by_cases e2 : a2 = b2 <;> by_cases e3 : a3 = b3 <;> by_cases e4 : a4 = b4 <;> simp [e1, e2, e3, e4]
@[simp] theorem Zatd (c : Bool) (a b : Port) : Zoq ES.P .eql Zad c (Zap a) (Zap b) = some (.bool (decide (a = b))) := by
  show (match eqS ES.P Zad c (Zap a) (Zap b) with | some b => some (SV.bool b) | none => none) = _
  rw [Zar0]
@[simp] theorem neqPort (c : Bool) (a b : Port) : Zoq ES.P .neq Zad c (Zap a) (Zap b) = some (.bool (!decide (a = b))) := by
  show (match eqS ES.P Zad c (Zap a) (Zap b) with | some b => some (SV.bool (!b)) | none => none) = _
  rw [Zar0]
@[simp] theorem eqlAgg (c : Bool) (a b d e a' b' d' e' : Int) : Zoq ES.P .eql Zad c (.agg [.int .i64 a, .int .i64 b, .int .i64 d, .int .i64 e]) (.agg [.int .i64 a', .int .i64 b', .int .i64 d', .int .i64 e']) = some (.bool (decide (a = a' ∧ b = b' ∧ d = d' ∧ e = e'))) := by
  have := Zatd c ⟨a, b, d, e⟩ ⟨a', b', d', e'⟩
  simpa [Zap] using this
@[simp] theorem eqlBool (c a b : Bool) : Zoq ES.P .eql Zbm c (.bool a) (.bool b) = some (.bool (a == b)) := Zaoc Zafa

end Go.Proofs.YtfphjfbknphhjaaGreatDoor

/-
  Walks of the seat's functions: Md.
-/
set_option linter.unusedVariables false
set_option linter.unusedSimpArgs false
set_option maxRecDepth 100000
namespace Go.Proofs.YtfphjfbknphhjaaGreatDoor
open Go.Proofs.YtfphjfbknphhjaaGreatDoor.Sh
/-! A network by a small number: how its links are made. -/
theorem Zadh {get : Nat → Option (List SV)} {st : Bool} {c : Cfg} {P L P' L' : SV} (hP : pic get st 11 P = some P') (hL : pic get st 11 L = some L') : pic get st Zar (.agg (Z7 c P L)) = some (.agg (Z7 c P' L')) := by
  have hpv : ∀ {v v' : SV}, Sh.pv v = true → pic get st 11 v = some v' → v' = v := fun {v v'} h1 h2 => by
    unfold pic at h2
    rw [if_pos h1] at h2
    simpa using h2.symm
  have hi : ∀ n : Int, pic get st 11 (.int .i64 n) = some (.int .i64 n) := fun n => Zd3 (by simp)
  unfold Zar
  rw [pic]
  by_cases h : Sh.pv (.agg (Z7 c P L)) = true
  · rw [if_pos h]
    simp only [Sh.pv, Z7, pvs, Bool.and_eq_true] at h
    rw [hpv h.1 hP, hpv h.2.1 hL]
  · rw [if_neg h]
    simp only [Z7, List.mapM_cons, List.mapM_nil, hP, hL, hi]
    rfl
/-- A list in own memory, as a call sees it. -/
theorem Zg1.Zajc {get : Nat → Option (List SV)} {esz : Nat} {o : SV} {M : Mem} {items : List SV} (h : Zg1 esz o M items) (hg : ∀ id e a b, o = .own id e a b → get id = M.blk id) (hp : ∀ x ∈ items, Sh.pv x = true) (st : Bool := false) :
    ∃ y, pic get st 11 o = some y ∧ Ztp y = true ∧ its y = items ∧ (st = true → Sh.pv y = true) := by
  rcases h with ⟨rfl, rfl⟩ | ⟨id, rfl, hid, _⟩
  · exact ⟨.nilsl, Zd3 rfl, rfl, rfl, fun _ => rfl⟩
  · have hgid : get id = some items := (hg id _ _ _ rfl).trans hid
    refine ⟨.sl items (if st then .ro else .snap), ?_, rfl, rfl, fun h => ?_⟩
    · unfold pic
      simp only [Sh.pv, Bool.false_eq_true, if_false, hgid, Nat.zero_add, Nat.le_refl, if_true, List.drop_zero, List.take_length]
      rw [Zmn fun x hx => Zd3 (Zac (hp x hx) _)]
    · subst h
      have : pvs items = true := by
        clear hgid hid hg
        induction items with
        | nil => rfl
        | cons x r ih => simp only [pvs, hp x (by simp), ih (fun y hy => hp y (by simp [hy])), Bool.and_self]
      simp [Sh.pv, this]
def Zfm (l : List Part) : List SV := l.map Zc9
def Zmj (l : List Link) : List SV := l.map Za2
theorem Zzw {l : List Part} : ∀ x ∈ Zfm l, Sh.pv x = true := fun x hx => by
  simp only [Zfm, List.mem_map] at hx
  obtain ⟨y, _, rfl⟩ := hx
  rfl
theorem Zy9 {l : List Link} : ∀ x ∈ Zmj l, Sh.pv x = true := fun x hx => by
  simp only [Zmj, List.mem_map] at hx
  obtain ⟨y, _, rfl⟩ := hx
  rfl
/-- How many ports a part has. -/
def Zbj (ls : List Link) (part : Int) : Nat := 2 * (ls.filter fun l => decide (l.a = part ∨ l.b = part)).length
theorem Zn8 (ls : List Link) (part : Int) : Zbj ls part ≤ 2 * ls.length := by
  have := List.length_filter_le (fun l : Link => decide (l.a = part ∨ l.b = part)) ls
  unfold Zbj
  omega
theorem Zur {ls : List Link} {part : Int} {j : Nat} (h : j < ls.length) : Zbj (ls.take (j + 1)) part = Zbj (ls.take j) part + (if ls[j].a = part ∨ ls[j].b = part then 2 else 0) := by
  unfold Zbj
  rw [List.take_succ_eq_append_getElem h, List.filter_append, List.length_append]
  by_cases hp : ls[j].a = part ∨ ls[j].b = part
  · simp [hp, Nat.mul_add]
  · simp [hp]
set_option maxHeartbeats 4000000 in
theorem Z8t {P L : SV} {c : Cfg} (hP : Zi2 c P L) (hl : c.links.length ≤ 1000000) (part : Int) : PCw ES Zhq [.agg (Z7 c P L), .int .i64 part] = some (.int .i64 (Zbj c.links part)) := by
  refine Za4 (fun M0 => ?_) rfl
  rw [Zaeq]
  have hlen := hP.l.Zex Zbi
  obtain ⟨r, g1, M', g2⟩ := Zke (E := ES) (me := Zhq) (B := Zjh) (len := c.links.length) (T := fun j => Zit (.int .i64 part) (.ptr M0.next 0 0) (.int .i64 (Zbj (c.links.take j) part)) (.int .i64 j))
    (I := fun _ M => M.blk M0.next = some [.agg (Z7 c P L)] ∧ M0.next < M.next)
    (Q := fun r => ∃ M', r = (.exit 0, ⟨(Zit (.int .i64 part) (.ptr M0.next 0 0) (.int .i64 (Zbj (c.links.take c.links.length) part)) (.int .i64 c.links.length)).set 11 (.bool false), M'⟩))
    (fun j M hj ⟨hb, hlt⟩ => by
      left
      have ha := Links.at hP.l hj
      have hw : IntKind.i64.wrap ((j : Int) + 1) = (j : Int) + 1 := i64_in (by omega) (by omega)
      have hb0 := hb
      simp only [Z7] at hb0
      have hpn := Zn8 (c.links.take j) part
      have hpn2 : (c.links.take j).length ≤ 1000000 := by simp; omega
      have hw2 : IntKind.i64.wrap ((Zbj (c.links.take j) part : Int) + 2) = (Zbj (c.links.take j) part : Int) + 2 := i64_in (by omega) (by omega)
      refine ⟨M, ?_, hb, hlt⟩
      rw [Zur hj]
      generalize Zbj (c.links.take j) part = q at hw2 ⊢
      by_cases h1 : c.links[j].a = part
      · simp [Zjh, Zf, Zd, Ze, Zl, Zn, Zo, TK.agg, Zb, zeroS, Zi, Zg, splice, Zx, Z5, Zk, Zit, hlen, hj, ha, hb0, h1, hw, hw2]
      · by_cases h2 : c.links[j].b = part
        · simp [Zjh, Zf, Zd, Ze, Zl, Zn, Zo, TK.agg, Zb, zeroS, Zi, Zg, splice, Zx, Z5, Zk, Zit, hlen, hj, ha, hb0, h1, h2, hw, hw2]
        · simp [Zjh, Zf, Zd, Ze, Zl, Zn, Zo, TK.agg, Zb, zeroS, Zi, Zg, splice, Zx, Z5, Zk, Zit, hlen, hj, ha, hb0, h1, h2, hw])
    (fun M ⟨hb, hlt⟩ => by
      have hb0 := hb
      simp only [Z7] at hb0
      exact ⟨_, by simp [Zjh, Zf, Zd, Ze, Zl, Zn, Zo, TK.agg, Zb, zeroS, Zi, Zg, splice, Zx, Z5, Zk, Zit, hlen, hb0], by simp, M, rfl⟩) 0 ((M0.bump 2).set M0.next (some [.agg (Z7 c P L)])) (by omega) (by simp)
  subst g2
  rw [List.take_length] at g1
  have z0 : Zbj (c.links.take 0) part = 0 := rfl
  rw [z0] at g1
  simp [Zit, Z7] at g1
  simp [Zuq, Zf, Zd, Ze, Zl, Zn, Zo, TK.agg, Zb, zeroS, Zi, Zg, splice, Zx, Z5, Zk, Z7, Zt2, g1]
/-- A link more: its ports are the next ones; each end keeps four nodes that are no ports. -/
def joinL (ls : List Link) (a b : Int) : Link := ⟨a, b, Zbj ls a, Zbj ls a + 1, Zbj ls b, Zbj ls b + 1⟩
def grow (x : Nat) (p : Part) : Part := { p with nodes := max p.nodes ((x : Int) + 6) }
def Zaed (ps : List Part) (ls : List Link) (a b : Nat) : List Part := (ps.modify a (grow (Zbj ls a))).modify b (grow (Zbj ls b))
theorem Z4q {P : Program} {get : Nat → Option (List SV)} {t id i o : Nat} {v x x' : SV} {items : List SV} {ti : TI} (ht : Zbz P t = some ti) (hg : get id = some items) (hi : items[i]? = some x) (hv : v.sto = true) (hc : v.cells.length = ti.size) (hs : Zg x o v = some x') :
    Zi P get t (.ptr id i o) v = some [(id, some (items.set i x'))] := by
  simp [Zi, ht, hg, hi, hv, hc, hs]
theorem Zij {P : Program} {get : Nat → Option (List SV)} {t id i o : Nat} {x y : SV} {items : List SV} {ti : TI} (ht : Zbz P t = some ti) (hg : get id = some items) (hi : items[i]? = some x) (hp : Zo ti x o = some y) :
    Zn P get t (.ptr id i o) = some y := by
  simp [Zn, ht, hg, hi, hp]
theorem Zak4 {q len j : Nat} (h : j < len) : Z9 ES.P Zm (.own q 2 0 len) (.int .i64 j) = some (.ptr q j 0) := by simp [Z9, Zs4, h]
theorem Z31 (l : List Part) (i : Nat) (f : Part → Part) (h : i < l.length) : (Zfm l).set i (Zc9 (f l[i])) = Zfm (l.modify i f) := by
  unfold Zfm
  rw [← List.map_set, List.modify_eq_set]
  simp [h]
set_option maxHeartbeats 8000000 in
theorem Zalh {c : Cfg} {L : SV} {cid pid a b : Nat} {M : Mem} (hc : M.blk cid = some [.agg (Z7 c (.own pid 2 0 c.parts.length) L)]) (hpid : M.blk pid = some (Zfm c.parts)) (hL : Zg1 6 L M (Zmj c.links))
    (h1 : cid < M.next) (h2 : pid < M.next) (hne : cid ≠ pid) (hLp : ∀ e a b, L ≠ .own pid e a b) (ha : a < c.parts.length) (hb : b < c.parts.length) (hab : a ≠ b) (hl : c.links.length ≤ 1000) (hpl : c.parts.length ≤ 1000) :
    ∃ M', ICw ES Zfs [.ptr cid 0 0, .int .i64 a, .int .i64 b] M = some (Za2 (joinL c.links a b), M') ∧ M'.blk pid = some (Zfm (Zaed c.parts c.links a b)) ∧ (∀ id, id < M.next → id ≠ pid → M'.blk id = M.blk id) ∧ M.next ≤ M'.next := by
  rw [Z8s]
  have hP2 : Zg1 2 (.own pid 2 0 c.parts.length) M (Zfm c.parts) := .inr ⟨pid, by simp [Zfm], hpid, h2⟩
  have hcall : ∀ (get : Nat → Option (List SV)) (part : Int), get pid = M.blk pid → (∀ id e a b, L = .own id e a b → get id = M.blk id) →
      Za0 (PCw ES) get Zhq [.agg (Z7 c (.own pid 2 0 c.parts.length) L), .int .i64 part] = some (.int .i64 (Zbj c.links part)) := by
    intro get part hg1 hg2
    obtain ⟨P', p1, p2, p3, _⟩ := Zg1.Zajc hP2 (get := get) (fun id e a b h => by cases h; exact hg1) Zzw
    obtain ⟨L', l1, l2, l3, _⟩ := Zg1.Zajc hL (get := get) hg2 Zy9
    rw [Zm7 (ys := [.agg (Z7 c P' L'), .int .i64 part])]
    · exact Z8t ⟨RSl.of_map p2 p3, RSl.of_map l2 l3, by omega, by omega⟩ (by omega) part
    · have hi : pic get false Zar (.int .i64 part) = some (.int .i64 part) := Zd3 rfl
      simp [Zadh p1 l1, hi]
  have hLlt : ∀ id e a b, L = .own id e a b → id < M.next := fun id e a b h => by
    rcases hL with ⟨_, h'⟩ | ⟨id', h', _, h3⟩
    · rw [h] at h'; cases h'
    · rw [h] at h'; cases h'; exact h3
  have hxa := Zn8 c.links a
  have hxb := Zn8 c.links b
  have hw1 : IntKind.i64.wrap ((Zbj c.links a : Int) + 1) = (Zbj c.links a : Int) + 1 := i64_in (by omega) (by omega)
  have hw2 : IntKind.i64.wrap ((Zbj c.links b : Int) + 1) = (Zbj c.links b : Int) + 1 := i64_in (by omega) (by omega)
  have hw3 : IntKind.i64.wrap ((Zbj c.links a : Int) + 6) = (Zbj c.links a : Int) + 6 := i64_in (by omega) (by omega)
  have hw4 : IntKind.i64.wrap ((Zbj c.links b : Int) + 6) = (Zbj c.links b : Int) + 6 := i64_in (by omega) (by omega)
  have hc0 := hc
  have e1 : ∀ k, (cid = M.next + k) = False := fun k => by simp; omega
  have e2 : ∀ k, (pid = M.next + k) = False := fun k => by simp; omega
  have e3 : (cid = pid) = False := by simp [hne]
  have e5 : (cid = M.next) = False := by simp; omega
  have e6 : (pid = M.next) = False := by simp; omega
  have e7 : ∀ k, (M.next + k = pid) = False := fun k => by simp; omega
  have e8 : (M.next = pid) = False := by simp; omega
  have e4 : (pid = cid) = False := by simp; omega
  have hcall3 : ∀ (X : Mem) (part : Int), Old M X → Za0 (PCw ES) X.blk Zhq [.agg (Z7 c (.own pid 2 0 c.parts.length) L), .int .i64 part] = some (.int .i64 (Zbj c.links part)) :=
    fun X part hg => hcall X.blk part (hg pid h2) (fun id e a b h => hg id (hLlt id e a b h))
  simp only [Z7] at hc0 hcall3
  have fa : (Zfm c.parts)[a]? = some (.agg [.int .i64 c.parts[a].nodes, .int .i64 c.parts[a].faults]) := by simp [Zfm, ha, Zc9, -Zzv]
  have sa : (Zfm c.parts).set a (.agg [.int .i64 (max c.parts[a].nodes ((Zbj c.links a : Int) + 6)), .int .i64 c.parts[a].faults]) = Zfm (c.parts.modify a (grow (Zbj c.links a))) := Z31 c.parts a (grow (Zbj c.links a)) ha
  have fb : (Zfm (c.parts.modify a (grow (Zbj c.links a))))[b]? = some (.agg [.int .i64 c.parts[b].nodes, .int .i64 c.parts[b].faults]) := by
    simp [Zfm, hb, Zc9, -Zzv, List.getElem?_modify, hab]
  have sb : (Zfm (c.parts.modify a (grow (Zbj c.links a)))).set b (.agg [.int .i64 (max c.parts[b].nodes ((Zbj c.links b : Int) + 6)), .int .i64 c.parts[b].faults]) = Zfm (Zaed c.parts c.links a b) := by
    have hb2 : b < (c.parts.modify a (grow (Zbj c.links a))).length := by simpa using hb
    have := Z31 (c.parts.modify a (grow (Zbj c.links a))) b (grow (Zbj c.links b)) hb2
    rw [List.getElem_modify, if_neg hab] at this
    exact this
  have ia := Zak4 (q := pid) ha
  have ib := Zak4 (q := pid) hb
  generalize Zaed c.parts c.links a b = jp at sb ⊢
  generalize c.parts.modify a (grow (Zbj c.links a)) = ps1 at sa fb sb
  generalize hr : Zx ES _ _ = r
  simp [Zsy, Zf, Zd, Ze, Zl, Zn, Zo, TK.agg, Zb, zeroS, Zi, Zg, splice, Zx, Z5, Zk, hc0, hcall3, e1, e2, e3, e4, e5, e6, e7, e8, fa, sa, fb, sb, ia, ib, hpid, hw1, hw2, hw3, hw4, -Zzv, -Zaof, Zny, placesOf, Zeb, Nat.add_assoc] at hr
  subst hr
  refine ⟨_, rfl, ?_, fun id hid hne2 => ?_, ?_⟩
  · simp [e6, e7, e8]
  · have q1 : ∀ k, (id = M.next + k) = False := fun k => by simp; omega
    have q2 : (id = M.next) = False := by simp; omega
    simp [q1, q2, hne2]
  · simp; omega

end Go.Proofs.YtfphjfbknphhjaaGreatDoor
