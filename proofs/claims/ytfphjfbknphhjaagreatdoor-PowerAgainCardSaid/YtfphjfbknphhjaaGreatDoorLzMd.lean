/-
  Walks of the seat's functions: En.
-/
import Derived.Test.YtfphjfbknphhjaaGreatDoorEb2
import Derived.Test.YtfphjfbknphhjaaGreatDoorShMb
import Derived.Test.YtfphjfbknphhjaaGreatDoorLIs
import Derived.Test.YtfphjfbknphhjaaGreatDoorLRa
set_option linter.unusedVariables false
set_option linter.unusedSimpArgs false
set_option maxRecDepth 100000
namespace Go.Proofs.YtfphjfbknphhjaaGreatDoor
open Go.Proofs.YtfphjfbknphhjaaGreatDoor.Sh
/-! plan.Ends. -/
def Zfx (i : Nat) (l : Link) (side : Nat) (part : Int) : List Port := if (endOf l side).1 = part then [⟨(endOf l side).2.1, i, 0, side⟩, ⟨(endOf l side).2.2, i, 1, side⟩] else []
def Zco (part : Int) (i : Nat) (l : Link) : List Port := Zfx i l 0 part ++ Zfx i l 1 part
def Zvu (ls : List Link) (part : Int) (k : Nat) : List Port := (List.range k).flatMap fun i => (ls[i]?.map (Zco part i)).getD []
def Zq3 (ls : List Link) (part : Int) : List Port := Zvu ls part ls.length
theorem Ztj {ls : List Link} {part : Int} {k : Nat} (h : k < ls.length) : Zvu ls part (k + 1) = Zvu ls part k ++ Zco part k ls[k] := by
  simp [Zvu, List.range_succ, h]
theorem Z00 (part : Int) (i : Nat) (l : Link) : (Zco part i l).length ≤ 4 := by
  unfold Zco Zfx
  split <;> split <;> simp
theorem Z94 {ls : List Link} {part : Int} : ∀ {k : Nat}, k ≤ ls.length → (Zvu ls part k).length ≤ 4 * k
  | 0, _ => by simp [Zvu]
  | k + 1, h => by
    rw [Ztj (by omega), List.length_append]
    have := Z94 (ls := ls) (part := part) (k := k) (by omega)
    have := Z00 part k ls[k]
    omega
theorem Z5e (a b : List Port) : Zcj (a ++ b) = Zcj a ++ Zcj b := by simp [Zcj]
theorem Zg1.app2 {get : Nat → Option (List SV)} {o : SV} {M : Mem} {items : List SV} {a s : Nat} {v u : SV} (hI : Zg1 4 o M items) (h1 : items.length ≤ 1000)
    (hg : ∀ id, id < M.next → get id = M.blk id) (hv : v.cells.length = 4) (hu : u.cells.length = 4) (hs : get s = some [v, u]) :
    Zef ES.P get a Zaf Zaf o (.own s 4 0 2) = some (.own a 4 0 (items.length + 2), Zrd o ++ [(a, some (items ++ [v, u]))]) := by
  have hun : Sh.Zv5 4 [v, u] = true := by simp [Sh.Zv5, hv, hu]
  rcases hI with ⟨rfl, rfl⟩ | ⟨id, rfl, hid, hlt⟩
  · rw [Zpr (ys := [v, u]) Zh1 Zh1 Znr rfl (by simp [Zkn, hs]) (by decide) hun (by simp [Zj0]) rfl rfl (by simp) (by simp)]
    rfl
  · rw [Zlv (ys := [v, u]) (xs := items) Zh1 Zh1 Znr rfl (by simp [Zkn, hs]) (by decide) hun (by simp [Zj0]) rfl rfl ((hg id hlt).trans hid) (Nat.le_refl _) (by simp; omega) (by simp; omega)]
    simp [Zrd]
set_option maxHeartbeats 4000000 in
theorem Zaa1 {part : Int} {i : Nat} {l : Link} {L ln t14 : SV} {s : Nat} {o : SV} {items : List Port} {k : Nat} (hk : k < 2) (M : Mem) (hs : M.blk s = some [Za2 l]) (hls : s < M.next) (hO : Zg1 4 o M (Zcj items)) (hlen : items.length ≤ 1000)
    (hne : ∀ id e a b, o = .own id e a b → id ≠ s) :
    ∃ M' o', evW ES Zch Zjc ⟨Zfi (.int .i64 part) o (.int .i64 i) (.ptr s 0 0) L ln t14 (.int .i64 k), M⟩ =
        some (.normal, ⟨Zfi (.int .i64 part) o' (.int .i64 i) (.ptr s 0 0) L ln t14 (.int .i64 ((k + 1 : Nat) : Int)), M'⟩) ∧
      Zg1 4 o' M' (Zcj (items ++ Zfx i l k part)) ∧ M'.blk s = some [Za2 l] ∧ M.next ≤ M'.next ∧ (∀ id e a b, o' = .own id e a b → id ≠ s) := by
  have hk' : (k : Int) < 2 := by omega
  have hw : IntKind.i64.wrap ((k : Int) + 1) = (k : Int) + 1 := i64_in (by omega) (by omega)
  have hns : ∀ k, (s = M.next + k) = False := fun k => by simp; omega
  have hc := fun get => Ztq get l k
  unfold Zfx
  generalize endOf l k = e at hc ⊢
  obtain ⟨e1, e2, e3⟩ := e
  simp only at hc ⊢
  by_cases h : e1 = part
  · have hO1 : Zg1 4 o ((M.bump 9).set (M.next + 6) (some [.agg [.int .i64 e2, .int .i64 e3]])) (Zcj items) := hO.old (fun id hid => by
      have : ¬ (id = M.next + 6) := by omega
      simp [this]) (by simp)
    have b0 : Zny ES.P Zad [(0, .int .i64 e2), (1, .int .i64 i), (3, .int .i64 k)] = some (Zap ⟨e2, i, 0, k⟩) := by simp [Zny, placesOf, Zeb, splice, Zap]
    have b1 : Zny ES.P Zad [(0, .int .i64 e3), (1, .int .i64 i), (2, .int .i64 1), (3, .int .i64 k)] = some (Zap ⟨e3, i, 1, k⟩) := by simp [Zny, placesOf, Zeb, splice, Zap]
    have bs : ∀ q, Zf7 ES.P Zaf 2 q [(0, Zap ⟨e2, i, 0, k⟩), (1, Zap ⟨e3, i, 1, k⟩)] = some (.own q 4 0 2, [Zap ⟨e2, i, 0, k⟩, Zap ⟨e3, i, 1, k⟩]) := fun q => by simp [Zf7, Zb4]
    have hap := fun (get : Nat → Option (List SV)) hg hs2 => Zg1.app2 (get := get) (a := M.next + 9 + 12) (s := M.next + 9 + 11) (v := Zap ⟨e2, i, 0, k⟩) (u := Zap ⟨e3, i, 1, k⟩) hO1 (by simpa [Zcj] using hlen) hg rfl rfl hs2
    rw [if_pos h]
    have hlen2 : (Zcj items).length = items.length := by simp [Zcj]
    have hap2 := hap ((((M.bump 9).set (M.next + 6) (some [.agg [.int .i64 e2, .int .i64 e3]])).bump 14).set (M.next + 9 + 11) (some [Zap ⟨e2, i, 0, k⟩, Zap ⟨e3, i, 1, k⟩])).blk
      (fun id hid => by
        simp at hid
        have : ¬ (id = M.next + 9 + 11) := by omega
        simp [this]) (by simp)
    have hkill : ∀ (X : Mem), (X.sets (Zrd o)).blk s = X.blk s := by
      intro X
      cases o <;> simp [Zrd, Mem.sets]
      rename_i id e a b
      intro hh
      exact absurd hh.symm (hne id e a b rfl)
    refine ⟨(((((M.bump 9).set (M.next + 6) (some [.agg [.int .i64 e2, .int .i64 e3]])).bump 14).set (M.next + 9 + 11) (some [Zap ⟨e2, i, 0, k⟩, Zap ⟨e3, i, 1, k⟩])).sets (Zrd o)).set (M.next + 9 + 12) (some (Zcj items ++ [Zap ⟨e2, i, 0, k⟩, Zap ⟨e3, i, 1, k⟩])),
      .own (M.next + 9 + 12) 4 0 ((Zcj items).length + 2), ?_, ?_, ?_, ?_, ?_⟩
    · simp [Zjc, Zf, Zd, Ze, Zl, Zn, Zo, TK.agg, Zb, zeroS, Zi, Zg, splice, Zx, Z5, Zk, Zfi, hk, hk', hs, hls, hc, h, hw, b0, b1, bs, hap2]
    · rw [Z5e]
      exact .inr ⟨M.next + 9 + 12, by simp [Zcj], by simp [Zcj], by simp⟩
    · have h1 : ¬ (s = M.next + 9 + 12) := by omega
      have h2 : ¬ (s = M.next + 9 + 11) := by omega
      simp only [Mem.Ziy, h1, if_false]
      rw [hkill]
      simp [h2, hns, hs]
    · simp; omega
    · intro id e a b hh
      cases hh
      omega
  · rw [if_neg h]
    refine ⟨(M.bump 9).set (M.next + 6) (some [.agg [.int .i64 e2, .int .i64 e3]]), o, ?_, ?_, by simp [hns, hs], by simp, hne⟩
    · simp [Zjc, Zf, Zd, Ze, Zl, Zn, Zo, TK.agg, Zb, zeroS, Zi, Zg, splice, Zx, Z5, Zk, Zfi, hk, hk', hs, hls, hc, h, hw]
    · rw [List.append_nil]
      exact hO.old (fun id hid => by
        have : ¬ (id = M.next + 6) := by omega
        simp [this]) (by simp)
set_option maxHeartbeats 4000000 in
theorem Zali {part : Int} {P L : SV} {c : Cfg} (hP : Zi2 c P L) {j : Nat} (hj : j < c.links.length) {o : SV} {items : List Port} (M : Mem) (hO : Zg1 4 o M (Zcj items)) (hlen : items.length ≤ 900) :
    ∃ M' o', evW ES Zch Zlj ⟨Ziv (.int .i64 part) o L (.int .i64 c.links.length) (.int .i64 j), M⟩ =
        some (.normal, ⟨Ziv (.int .i64 part) o' L (.int .i64 c.links.length) (.int .i64 ((j + 1 : Nat) : Int)), M'⟩) ∧
      Zg1 4 o' M' (Zcj (items ++ Zco part j c.links[j])) ∧ M.next ≤ M'.next := by
  have ha := Links.at hP.l hj
  have hw : IntKind.i64.wrap ((j : Int) + 1) = (j : Int) + 1 := i64_in (by omega) (by have := hP.ll; omega)
  generalize hl : c.links[j] = l
  have hO1 : Zg1 4 o ((M.bump 6).set (M.next + 3) (some [Za2 l])) (Zcj items) := hO.old (fun id hid => by
    have : ¬ (id = M.next + 3) := by omega
    simp [this]) (by simp)
  obtain ⟨M1, o1, a1, a2, a3, a4, a5⟩ := Zaa1 (part := part) (i := j) (l := l) (L := L) (ln := .int .i64 c.links.length) (t14 := .int .i64 j) (s := M.next + 3) (k := 0) (by omega) ((M.bump 6).set (M.next + 3) (some [Za2 l])) (by simp) (by simp) hO1 (by omega)
    (fun id e a b ho => by
      rcases hO with ⟨_, h⟩ | ⟨id', h, _, h2⟩
      · rw [ho] at h; cases h
      · rw [ho] at h; cases h; omega)
  have hk0 : (Zfx j l 0 part).length ≤ 2 := by unfold Zfx; split <;> simp
  obtain ⟨M2, o2, b1, b2, b3, b4, b5⟩ := Zaa1 (part := part) (i := j) (l := l) (L := L) (ln := .int .i64 c.links.length) (t14 := .int .i64 j) (s := M.next + 3) (k := 1) (by omega) M1 a3 (by simp at a4; omega) a2 (by simp; omega) a5
  have e : Zcj (items ++ Zco part j l) = Zcj (items ++ Zfx j l 0 part ++ Zfx j l 1 part) := by simp [Zco]
  have hb5 : evW ES Zch Zjc ⟨Zfi (.int .i64 part) o2 (.int .i64 j) (.ptr (M.next + 3) 0 0) L (.int .i64 c.links.length) (.int .i64 j) (.int .i64 ((1 + 1 : Nat) : Int)), M2⟩ =
      some (.exit 2, ⟨(Zfi (.int .i64 part) o2 (.int .i64 j) (.ptr (M.next + 3) 0 0) L (.int .i64 c.links.length) (.int .i64 j) (.int .i64 2)).set 20 (.bool false), M2⟩) := by
    simp [Zjc, Zf, Zd, Ze, Zl, Zn, Zo, TK.agg, Zb, zeroS, Zi, Zg, splice, Zx, Z5, Zk, Zfi]
  have hloop : evW ES Zch Zq0 ⟨Zfi (.int .i64 part) o (.int .i64 j) (.ptr (M.next + 3) 0 0) L (.int .i64 c.links.length) (.int .i64 j) (.int .i64 ((0 : Nat) : Int)), (M.bump 6).set (M.next + 3) (some [Za2 l])⟩ =
      some (.exit 2, ⟨(Zfi (.int .i64 part) o2 (.int .i64 j) (.ptr (M.next + 3) 0 0) L (.int .i64 c.links.length) (.int .i64 j) (.int .i64 2)).set 20 (.bool false), M2⟩) := by
    unfold Zq0
    rw [Zbl, a1]
    simp only
    rw [Zbl, b1]
    simp only
    rw [Zbl, hb5]
  refine ⟨M2, o2, ?_, by rw [e]; exact b2, by simp at a4; omega⟩
  simp [Zfi] at hloop
  simp [Zlj, Zf, Zd, Ze, Zl, Zn, Zo, TK.agg, Zb, zeroS, Zi, Zg, splice, Zx, Z5, Zk, Ziv, hj, ha, hl, hloop, hw]
set_option maxHeartbeats 4000000 in
theorem Zate {P L : SV} {c : Cfg} (hP : Zi2 c P L) (part : Int) (h10 : c.links.length ≤ 10) (h12 : (Zq3 c.links part).length ≤ 12) (hsm : Z95 (Zq3 c.links part)) :
    ∃ y l', PCw ES Zch [.agg (Z7 c P L), .int .i64 part] = some y ∧ Zsl y l' ∧ l'.Perm (Zq3 c.links part) ∧ Zk9 l' ∧ Sh.pv y = true := by
  have key := Zad5 (E := ES) (f := Zch) (esz := 4) (args := [.agg (Z7 c P L), .int .i64 part]) (Pr := fun items => ∃ l', items = Zcj l' ∧ l'.Perm (Zq3 c.links part) ∧ Zk9 l') (fun M0 => by
    rw [Zaex]
    have hlen := hP.l.Zex Zbi
    obtain ⟨r, g1, o, M1, rfl, g2⟩ := Zr0 (E := ES) (me := Zch) (B := Zlj) (β := SV) (len := c.links.length)
      (T := fun j o => Ziv (.int .i64 part) o L (.int .i64 c.links.length) (.int .i64 j))
      (I := fun j o M => Zg1 4 o M (Zcj (Zvu c.links part j)))
      (Q := fun r => ∃ o M', r = (.exit 0, ⟨(Ziv (.int .i64 part) o L (.int .i64 c.links.length) (.int .i64 c.links.length)).set 15 (.bool false), M'⟩) ∧ Zg1 4 o M' (Zcj (Zq3 c.links part)))
      (fun j o M hj hI => by
        left
        obtain ⟨M', o', a1, a2, a3⟩ := Zali (part := part) hP hj M hI (by have := Z94 (ls := c.links) (part := part) (k := j) (by omega); omega)
        exact ⟨o', M', a1, by rw [Ztj hj]; exact a2⟩)
      (fun o M hI => ⟨_, by simp [Zlj, Zf, Zd, Ze, Zl, Zn, Zo, TK.agg, Zb, zeroS, Zi, Zg, splice, Zx, Z5, Zk, Ziv], by simp, o, M, rfl, hI⟩) 0 .nilsl ((M0.bump 2).set M0.next (some [.agg (Z7 c P L)])) (by omega) (.inl ⟨rfl, rfl⟩)
    simp [Ziv, Z7] at g1
    rcases g2 with ⟨e1, rfl⟩ | ⟨q, rfl, hq, hlt⟩
    · obtain ⟨M2, s1, _⟩ := Zabu (M1.bump 2)
      have e2 : Zq3 c.links part = [] := by simpa [Zcj] using e1
      refine ⟨.nilsl, M2, [], ?_, .inl ⟨rfl, rfl⟩, [], rfl, by rw [e2], by simp [Zk9]⟩
      simp [Zr5, Zf, Zd, Ze, Zl, Zn, Zo, TK.agg, Zb, zeroS, Zi, Zg, splice, Zx, Z5, Zk, Z7, hlen, Zqw, g1, s1]
    · have hpl : (Zcj (Zq3 c.links part)).length = (Zq3 c.links part).length := by simp [Zcj]
      rw [hpl] at g1
      obtain ⟨M2, l', s1, s2, s3, s4, s5⟩ := Zadq (q := q) (len := (Zq3 c.links part).length) h12 rfl hsm (M1.bump 2) (by simpa using hq) (by simp; omega)
      refine ⟨.own q 4 0 (Zq3 c.links part).length, M2, Zcj l', ?_, .inr ⟨q, ?_, s2, by simp at s5; omega⟩, l', rfl, s3, s4⟩
      · simp [Zr5, Zf, Zd, Ze, Zl, Zn, Zo, TK.agg, Zb, zeroS, Zi, Zg, splice, Zx, Z5, Zk, Z7, hlen, Zqw, g1, s1]
      · simp [Zcj, s3.length_eq]) (fun items ⟨l', h, _, _⟩ y hy => by
        subst h
        simp only [Zcj, List.mem_map] at hy
        obtain ⟨x, _, rfl⟩ := hy
        rfl)
  obtain ⟨y, items, k1, ⟨l', k2, k3, k4⟩, k5, k6, k7⟩ := key
  subst k2
  exact ⟨y, l', k1, RSl.of_map k5 k6, k3, k4, k7⟩
theorem Zarl {P L : SV} {c : Cfg} (hP : Zi2 c P L) (part : Int) (h10 : c.links.length ≤ 10) (h12 : (Zq3 c.links part).length ≤ 12) (hsm : Z95 (Zq3 c.links part)) :
    ∃ y l', (∀ get, Za0 (PCw ES) get Zch [.agg (Z7 c P L), .int .i64 part] = some y) ∧ Zsl y l' ∧ l'.Perm (Zq3 c.links part) ∧ Zk9 l' ∧ Sh.pv y = true := by
  obtain ⟨y, l', h1, h2, h3, h4, h5⟩ := Zate hP part h10 h12 hsm
  exact ⟨y, l', fun get => Z4 h1 (by simp [hP.npA]), h2, h3, h4, h5⟩

end Go.Proofs.YtfphjfbknphhjaaGreatDoor

/-
  Walks of the seat's functions: Ep.
-/
set_option linter.unusedVariables false
set_option linter.unusedSimpArgs false
set_option maxRecDepth 100000
namespace Go.Proofs.YtfphjfbknphhjaaGreatDoor
open Go.Proofs.YtfphjfbknphhjaaGreatDoor.Sh
/-! A part's ports: the plain law. -/
theorem Zsg (part : Int) (i : Nat) (l : Link) (n : Int) : Zgu l part n = true ↔ ∃ p ∈ Zco part i l, p.node = n := by
  unfold Zgu Zco Zfx endOf
  by_cases h1 : l.a = part <;> by_cases h2 : l.b = part <;> simp [h1, h2, or_assoc]
theorem Zs6 {ls : List Link} {part : Int} {k : Nat} {p : Port} : p ∈ Zvu ls part k ↔ ∃ i, ∃ h : i < ls.length, i < k ∧ p ∈ Zco part i ls[i] := by
  simp only [Zvu, List.mem_flatMap, List.mem_range]
  constructor
  · rintro ⟨i, hi, hp⟩
    by_cases h : i < ls.length
    · simp [h] at hp
      exact ⟨i, h, hi, hp⟩
    · simp [h] at hp
  · rintro ⟨i, h, hi, hp⟩
    exact ⟨i, hi, by simpa [h] using hp⟩
theorem Z0h {ls : List Link} {part n : Int} {k : Nat} (hk : k ≤ ls.length) : Zn7 (ls.take k) part n = true ↔ ∃ p ∈ Zvu ls part k, p.node = n := by
  unfold Zn7
  rw [List.any_eq_true]
  constructor
  · rintro ⟨l, hl, ht⟩
    obtain ⟨i, hi, rfl⟩ := List.mem_iff_getElem.1 hl
    simp at hi
    rw [List.getElem_take] at ht
    obtain ⟨p, hp, hn⟩ := (Zsg part i _ n).1 ht
    exact ⟨p, Zs6.2 ⟨i, by omega, by omega, hp⟩, hn⟩
  · rintro ⟨p, hp, hn⟩
    obtain ⟨i, h, hi, hp⟩ := Zs6.1 hp
    refine ⟨ls[i], ?_, (Zsg part i _ n).2 ⟨p, hp, hn⟩⟩
    rw [List.mem_iff_getElem]
    exact ⟨i, by simp; omega, by simp⟩
/-- A right network's links: no port twice, all of them nodes. -/
structure Zov (ls : List Link) (part : Int) (nodes : Int) : Prop where
  ab : ∀ l ∈ ls, l.a < l.b
  a : ∀ (j : Nat) (h : j < ls.length), ls[j].a = part → ls[j].pa0 ≠ ls[j].pa1 ∧ Zam ls[j].pa0 nodes ∧ Zam ls[j].pa1 nodes ∧ Zn7 (ls.take j) part ls[j].pa0 = false ∧ Zn7 (ls.take j) part ls[j].pa1 = false
  b : ∀ (j : Nat) (h : j < ls.length), ls[j].b = part → ls[j].pb0 ≠ ls[j].pb1 ∧ Zam ls[j].pb0 nodes ∧ Zam ls[j].pb1 nodes ∧ Zn7 (ls.take j) part ls[j].pb0 = false ∧ Zn7 (ls.take j) part ls[j].pb1 = false
theorem Zov.link {ls : List Link} {part nodes : Int} (h : Zov ls part nodes) {j : Nat} (hj : j < ls.length) :
    (Zco part j ls[j]).Pairwise (fun p q => p.node ≠ q.node) ∧ (∀ p ∈ Zco part j ls[j], Zam p.node nodes ∧ Zn7 (ls.take j) part p.node = false) := by
  have hab := h.ab ls[j] (List.getElem_mem hj)
  have ha := h.a j hj
  have hb := h.b j hj
  unfold Zco Zfx endOf
  by_cases h1 : ls[j].a = part
  · have h2 : ¬ (ls[j].b = part) := by omega
    obtain ⟨a1, a2, a3, a4, a5⟩ := ha h1
    simp [h1, h2, a1, a2, a3, a4, a5]
  · by_cases h2 : ls[j].b = part
    · obtain ⟨a1, a2, a3, a4, a5⟩ := hb h2
      simp [h1, h2, a1, a2, a3, a4, a5]
    · simp [h1, h2]
theorem Zov.ends {ls : List Link} {part nodes : Int} (h : Zov ls part nodes) : ∀ {k : Nat}, k ≤ ls.length → (Zvu ls part k).Pairwise (fun p q => p.node ≠ q.node) ∧ ∀ p ∈ Zvu ls part k, Zam p.node nodes
  | 0, _ => by simp [Zvu]
  | k + 1, hk => by
    obtain ⟨i1, i2⟩ := h.ends (k := k) (by omega)
    obtain ⟨l1, l2⟩ := h.link (j := k) (by omega)
    rw [Ztj (by omega)]
    refine ⟨List.pairwise_append.2 ⟨i1, l1, fun p hp q hq e => ?_⟩, fun p hp => ?_⟩
    · have := (l2 q hq).2
      rw [← e] at this
      have h2 := (Z0h (ls := ls) (part := part) (k := k) (n := p.node) (by omega)).2 ⟨p, hp, rfl⟩
      rw [h2] at this
      cases this
    · rcases List.mem_append.1 hp with hp | hp
      · exact i2 p hp
      · exact (l2 p hp).1
theorem Z2r {i : Nat} {l : Link} {part n : Int} {p : Port} (h : Zg4 i l part n = some p) : p ∈ Zco part i l ∧ p.node = n := by
  unfold Zg4 at h
  unfold Zco Zfx endOf
  split at h
  · rename_i h1; cases h; simp [h1]
  split at h
  · rename_i h1; cases h; simp [h1]
  split at h
  · rename_i h1; cases h; simp [h1]
  split at h
  · rename_i h1; cases h; simp [h1]
  · cases h
theorem Zoa {ls : List Link} {part n : Int} {p : Port} (h : Zkz ls part n = some p) : p ∈ Zq3 ls part ∧ p.node = n := by
  unfold Zkz at h
  split at h
  · rename_i j hj
    rw [List.find?_range_eq_some] at hj
    obtain ⟨_, h2, _⟩ := hj
    have hlt : j < ls.length := by simpa using h2
    simp [hlt] at h
    obtain ⟨h3, h4⟩ := Z2r h
    exact ⟨Zs6.2 ⟨j, hlt, hlt, h3⟩, h4⟩
  · cases h
theorem Zov.uniq {ls : List Link} {part nodes : Int} (h : Zov ls part nodes) {p q : Port} (hp : p ∈ Zq3 ls part) (hq : q ∈ Zq3 ls part) (e : p.node = q.node) : p = q := by
  have hw := (h.ends (Nat.le_refl _)).1
  rw [List.pairwise_iff_getElem] at hw
  obtain ⟨i, hi, rfl⟩ := List.mem_iff_getElem.1 hp
  obtain ⟨j, hj, rfl⟩ := List.mem_iff_getElem.1 hq
  rcases Nat.lt_trichotomy i j with hl | rfl | hl
  · exact absurd e (hw i j hi hj hl)
  · rfl
  · exact absurd e.symm (hw j i hj hi hl)
theorem Zov.find {ls : List Link} {part nodes : Int} (h : Zov ls part nodes) {n : Int} {p : Port} : Zkz ls part n = some p ↔ p ∈ Zq3 ls part ∧ p.node = n := by
  refine ⟨Zoa, fun ⟨h1, h2⟩ => ?_⟩
  have ht := (Z0h (ls := ls) (part := part) (n := n) (Nat.le_refl _)).2 ⟨p, h1, h2⟩
  rw [List.take_length, ← Zv1] at ht
  obtain ⟨q, hq⟩ := Option.isSome_iff_exists.1 ht
  obtain ⟨h3, h4⟩ := Zoa hq
  rw [hq, h.uniq h3 h1 (by omega)]
theorem Zw9 : ∀ {a b : List Port}, a.Pairwise (fun x y => x.node < y.node) → b.Pairwise (fun x y => x.node < y.node) → (∀ p, p ∈ a ↔ p ∈ b) → a = b
  | [], [], _, _, _ => rfl
  | [], y :: b, _, _, h => by have := (h y).2 (by simp); simp at this
  | x :: a, [], _, _, h => by have := (h x).1 (by simp); simp at this
  | x :: a, y :: b, ha, hb, h => by
    rw [List.pairwise_cons] at ha hb
    have e : x = y := by
      have h1 := (h x).1 (by simp)
      have h2 := (h y).2 (by simp)
      rcases List.mem_cons.1 h1 with h3 | h3
      · exact h3
      rcases List.mem_cons.1 h2 with h4 | h4
      · exact h4.symm
      have := ha.1 y h4
      have := hb.1 x h3
      omega
    subst e
    rw [Zw9 ha.2 hb.2 fun p => ⟨fun hp => ?_, fun hp => ?_⟩]
    · rcases List.mem_cons.1 ((h p).1 (by simp [hp])) with h3 | h3
      · subst h3; have := ha.1 p hp; omega
      · exact h3
    · rcases List.mem_cons.1 ((h p).2 (by simp [hp])) with h3 | h3
      · subst h3; have := hb.1 p hp; omega
      · exact h3
def Zvh (ls : List Link) (part nodes : Int) : List Port := (List.range nodes.toNat).filterMap fun i : Nat => Zkz ls part (i : Int)
theorem Zov.sorted {ls : List Link} {part nodes : Int} (h : Zov ls part nodes) {l' : List Port} (hp : l'.Perm (Zq3 ls part)) (hs : Zk9 l') : l' = Zvh ls part nodes := by
  obtain ⟨w1, w2⟩ := h.ends (Nat.le_refl _)
  have hne : l'.Pairwise (fun p q => p.node ≠ q.node) := (hp.pairwise_iff (fun hh => Ne.symm hh)).2 w1
  refine Zw9 (hs.imp₂ (fun p q h1 h2 => by omega) hne) ?_ fun p => ?_
  · unfold Zvh
    rw [List.pairwise_filterMap]
    refine List.pairwise_lt_range.imp fun {i j} hij p hp q hq => ?_
    have h1 := (Zoa hp).2
    have h2 := (Zoa hq).2
    omega
  · rw [hp.mem_iff]
    unfold Zvh
    simp only [List.mem_filterMap, List.mem_range]
    constructor
    · intro hm
      have hin := w2 p hm
      refine ⟨p.node.toNat, by unfold Zam at hin; omega, ?_⟩
      rw [h.find]
      exact ⟨hm, by unfold Zam at hin; omega⟩
    · rintro ⟨i, _, hi⟩
      exact (Zoa hi).1

end Go.Proofs.YtfphjfbknphhjaaGreatDoor
