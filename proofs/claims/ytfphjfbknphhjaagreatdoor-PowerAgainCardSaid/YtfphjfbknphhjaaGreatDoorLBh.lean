/-
  Walks of the seat's functions: Bh.
-/
import Derived.Test.YtfphjfbknphhjaaGreatDoorEb2
import Derived.Test.YtfphjfbknphhjaaGreatDoorShMb
import Derived.Test.YtfphjfbknphhjaaGreatDoorLzMl
set_option linter.unusedVariables false
set_option linter.unusedSimpArgs false
set_option maxRecDepth 100000
namespace Go.Proofs.YtfphjfbknphhjaaGreatDoor
open Go.Proofs.YtfphjfbknphhjaaGreatDoor.Sh
/-! bounds.Fits, bounds.First. -/
def Zoj (c : Cfg) : Int := if Z1s c ≠ 0 then Z1s c else Zng c
def errB (at' : Int) : SV := .iface Zbo (.rptr [.agg [.int .i64 at', .iface Ze6 (.rptr [] 0 0 true)]] 0 0 true)
def Zabv (v : Int) : SV := if v = 0 then .nili else errB v
set_option maxHeartbeats 4000000 in
theorem Z0p {P L : SV} {c : Cfg} (j f : Nat) (v : Int) (M : Mem) (s q : Nat) {fns : List SV} (hj : j < 3) (hf : fns[j]? = some (.fn f [] [])) (hc : ∀ get, Za0 (PCw ES) get f [.agg (Z7 c P L)] = some (.int .i64 v))
    (hn : ((ES.prim f).isSome || ES.imp Zbn f) = false) (h1 : M.blk s = some [.agg (Z7 c P L)]) (h2 : M.blk q = some fns) (hs : s < M.next) (hq : q < M.next) :
    evW ES Zbn Zev ⟨Zcx (.ptr s 0 0) (.own q 1 0 3) (.int .i64 3) (.int .i64 j), M⟩ =
      some (if v = 0 then (.normal, ⟨Zcx (.ptr s 0 0) (.own q 1 0 3) (.int .i64 3) (.int .i64 ((j + 1 : Nat) : Int)), M.bump 4⟩)
        else (.ret, ⟨(Zcx .Z .Z .Z .Z).set 2 (.iface Zbo (.ptr (M.next + 7) 0 0)), ((M.bump 4).bump 6).set (M.next + 7) (some [.agg [.int .i64 v, .iface Ze6 (.rptr [] 0 0 true)]])⟩)) := by
  have hw : IntKind.i64.wrap ((j : Int) + 1) = (j : Int) + 1 := i64_in (by omega) (by omega)
  have hj' : (j : Int) < 3 := by omega
  have hix : Z9 ES.P Zcf (.own q 1 0 3) (.int .i64 j) = some (.ptr q j 0) := by simp [Z9, Zs4, hj]
  have b0 : Zny ES.P Zjk [(0, .int .i64 v), (1, .iface Ze6 (.rptr [] 0 0 true))] = some (.agg [.int .i64 v, .iface Ze6 (.rptr [] 0 0 true)]) := by simp [Zny, placesOf, Zeb, splice]
  have e1 : ∀ k, (s = M.next + k) = False := fun k => by simp; omega
  simp only [Z7] at h1 hc
  have hT := fun (n0 sz k : Nat) lm r d T M args => Zo7 (E := ES) (me := Zbn) (pc := PCw ES) (ic := ICw ES) (n0 := n0) (sz := sz) (k := k) (lm := lm) (r := r) (d := d) (T := T) (M := M) (a := []) (c := []) (args := args) hn
  by_cases hv : v = 0
  · simp [Zev, Zf, Zd, Ze, Zl, Zn, Zo, TK.agg, Zb, zeroS, Zi, Zg, splice, Zx, Z5, Zk, Zcx, hj, hj', hix, h1, h2, hf, hT, hc, hv, hw, Nat.add_assoc]
  · simp [Zev, Zf, Zd, Ze, Zl, Zn, Zo, TK.agg, Zb, zeroS, Zi, Zg, splice, Zx, Z5, Zk, Zcx, hj, hj', hix, h1, h2, hf, hT, hc, hv, b0, e1, Zsh, Nat.add_assoc]
set_option maxHeartbeats 4000000 in
theorem Z3s {P L : SV} {c : Cfg} (hP : Zi2 c P L) (hr : Zcq c = true) : PCw ES Zbn [.agg (Z7 c P L)] = some (Zabv (Zoj c)) := by
  have key : ∃ v M, ICw ES Zbn [.agg (Z7 c P L)] .empty = some (v, M) ∧ pic M.blk true Zar v = some (Zabv (Zoj c)) := by
    rw [Z52]
    have fn : (((((Mem.empty.bump 2).set 0 (some [.agg (Z7 c P L)])).bump 3).set 2 (some [SV.fn Za8 [] [], .fn Zau [] [], .fn Zbe [] []]))).next = 5 := rfl
    have hpic : ∀ (v : Int) (M : Mem) (id : Nat), pic (M.set id (some [.agg [.int .i64 v, .iface Ze6 (.rptr [] 0 0 true)]])).blk true Zar (.iface Zbo (.ptr id 0 0)) = some (errB v) := by
      intro v M id
      have h1 : pic (M.set id (some [.agg [.int .i64 v, .iface Ze6 (.rptr [] 0 0 true)]])).blk true 11 (.ptr id 0 0) = some (.rptr [.agg [.int .i64 v, .iface Ze6 (.rptr [] 0 0 true)]] 0 0 true) := Zwo (by simp) (by simp; rfl)
      unfold Zar pic
      rw [if_neg (by simp [Sh.pv])]
      simp only [h1]
      rfl
    have hsl : ∀ a, Zf7 ES.P Zcf 3 a [(0, .fn Za8 [] []), (1, .fn Zau [] []), (2, .fn Zbe [] [])] = some (.own a 1 0 3, [SV.fn Za8 [] [], .fn Zau [] [], .fn Zbe [] []]) := fun a => by simp [Zf7, Zb4]
    have k0 := Z0p (P := P) (L := L) (c := c) 0 Za8 (Z1s c) ((((Mem.empty.bump 2).set 0 (some [.agg (Z7 c P L)])).bump 3).set 2 (some [SV.fn Za8 [] [], .fn Zau [] [], .fn Zbe [] []])) 0 2 (fns := [SV.fn Za8 [] [], .fn Zau [] [], .fn Zbe [] []]) (by decide) rfl (fun get => Zy4 get hP) (npF (by rfl) _) (by simp) (by simp) (by simp) (by simp)
    have stop : ∀ {s s' : St} {e : Ex}, evW ES Zbn Zev s = some (e, s') → e ≠ .normal → evW ES Zbn Zi3 s = some (e, s') := fun {s s' e} h he => Zacz h he
    have next : ∀ {s s' : St} {r}, evW ES Zbn Zev s = some (.normal, s') → evW ES Zbn Zi3 s' = r → evW ES Zbn Zi3 s = r := fun {s s' r} h hr => by
      unfold Zi3 at hr ⊢
      rw [Zbl, h]
      exact hr
    by_cases h0 : Z1s c = 0
    · rw [if_pos h0] at k0
      have hin := Zg7 h0
      have k1 := Z0p (P := P) (L := L) (c := c) 1 Zau (Zfe c) (((((Mem.empty.bump 2).set 0 (some [.agg (Z7 c P L)])).bump 3).set 2 (some [SV.fn Za8 [] [], .fn Zau [] [], .fn Zbe [] []])).bump 4) 0 2 (fns := [SV.fn Za8 [] [], .fn Zau [] [], .fn Zbe [] []]) (by decide) rfl (fun get => Zx2 get hP hr hin) (npF (by rfl) _) (by simp) (by simp) (by simp) (by simp)
      by_cases h1 : Zfe c = 0
      · rw [if_pos h1] at k1
        have k2 := Z0p (P := P) (L := L) (c := c) 2 Zbe (Zte c) ((((((Mem.empty.bump 2).set 0 (some [.agg (Z7 c P L)])).bump 3).set 2 (some [SV.fn Za8 [] [], .fn Zau [] [], .fn Zbe [] []])).bump 4).bump 4) 0 2 (fns := [SV.fn Za8 [] [], .fn Zau [] [], .fn Zbe [] []]) (by decide) rfl (fun get => Z3p get hP hr hin) (npF (by rfl) _) (by simp) (by simp) (by simp) (by simp)
        by_cases h2 : Zte c = 0
        · rw [if_pos h2] at k2
          have e : Zoj c = 0 := by simp [Zoj, Zng, h0, h1, h2]
          have kend : evW ES Zbn Zev ⟨Zcx (.ptr 0 0 0) (.own 2 1 0 3) (.int .i64 3) (.int .i64 ((2 + 1 : Nat) : Int)), (((((((Mem.empty.bump 2).set 0 (some [.agg (Z7 c P L)])).bump 3).set 2 (some [SV.fn Za8 [] [], .fn Zau [] [], .fn Zbe [] []])).bump 4).bump 4).bump 4)⟩ =
              some (.exit 0, ⟨(Zcx (.ptr 0 0 0) (.own 2 1 0 3) (.int .i64 3) (.int .i64 3)).set 9 (.bool false), (((((((Mem.empty.bump 2).set 0 (some [.agg (Z7 c P L)])).bump 3).set 2 (some [SV.fn Za8 [] [], .fn Zau [] [], .fn Zbe [] []])).bump 4).bump 4).bump 4)⟩) := by
            simp [Zev, Zf, Zd, Ze, Zl, Zn, Zo, TK.agg, Zb, zeroS, Zi, Zg, splice, Zx, Z5, Zk, Zcx]
          have g := next k0 (next k1 (next k2 (stop kend (by simp))))
          simp [Zcx, Z7] at g
          generalize hr : Zx ES _ _ = r
          simp [Zkt, Zf, Zd, Ze, Zl, Zn, Zo, TK.agg, Zb, zeroS, Zi, Zg, splice, Zx, Z5, Zk, Z7, hsl, Zex, g] at hr
          subst hr
          exact ⟨_, _, rfl, by rw [e]; rfl⟩
        · rw [if_neg h2] at k2
          have e : Zoj c = Zte c := by simp [Zoj, Zng, h0, h1]
          have g := next k0 (next k1 (stop k2 (by simp)))
          simp [Zcx, Z7] at g
          generalize hr : Zx ES _ _ = r
          simp [Zkt, Zf, Zd, Ze, Zl, Zn, Zo, TK.agg, Zb, zeroS, Zi, Zg, splice, Zx, Z5, Zk, Z7, hsl, Zex, g] at hr
          subst hr
          refine ⟨_, _, rfl, ?_⟩
          rw [e, Zabv, if_neg h2]
          exact hpic _ _ _
      · rw [if_neg h1] at k1
        have e : Zoj c = Zfe c := by simp [Zoj, Zng, h0, h1]
        have g := next k0 (stop k1 (by simp))
        simp [Zcx, Z7] at g
        generalize hr : Zx ES _ _ = r
        simp [Zkt, Zf, Zd, Ze, Zl, Zn, Zo, TK.agg, Zb, zeroS, Zi, Zg, splice, Zx, Z5, Zk, Z7, hsl, Zex, g] at hr
        subst hr
        refine ⟨_, _, rfl, ?_⟩
        rw [e, Zabv, if_neg h1]
        exact hpic _ _ _
    · rw [if_neg h0] at k0
      have e : Zoj c = Z1s c := by simp [Zoj, h0]
      have g := stop k0 (by simp)
      simp [Zcx, Z7] at g
      generalize hr : Zx ES _ _ = r
      simp [Zkt, Zf, Zd, Ze, Zl, Zn, Zo, TK.agg, Zb, zeroS, Zi, Zg, splice, Zx, Z5, Zk, Z7, hsl, Zex, g] at hr
      subst hr
      refine ⟨_, _, rfl, ?_⟩
      rw [e, Zabv, if_neg h0]
      exact hpic _ _ _
  obtain ⟨v, M, h1, h2⟩ := key
  exact Zr8 h1 h2 (by unfold Zabv; split <;> rfl)
theorem As_B {items : List SV} {i o id : Nat} {st : Bool} {y : SV} {M : Mem} (hb : M.blk id = some [y]) (hy : y.cells.length = 1) :
    ICw ES Zgt [.iface Zbo (.rptr items i o st), .iface Zeq (.ptr id 0 0)] M = some (.bool true, M.set id (some [.rptr items i o st])) := by
  rw [Zvg (p := Zgh) rfl]
  have : Zzl.contains (Zbo, Zeq) = true := by rfl
  simp only [Zgh, this, if_true, hb, hy]
theorem Is_B (a : Int) (x y : SV) (st : Bool) (M : Mem) : ICw ES Zi0 [.iface Zbo (.rptr [.agg [.int .i64 a, .iface Ze6 x]] 0 0 st), .iface Ze6 y] M = some (.bool true, M) := by
  rw [Zvg (p := Zho) rfl]
  have h1 : ¬ (Zbo = Zcz ∧ Ze6 = Zd6 ∧ Ze6 = Zd6) := by decide
  have h2 : Zbo = bfT ∧ Ze6 = Ze6 ∧ Ze6 = Ze6 := by decide
  simp only [Zho]
  rw [if_neg h1, if_pos (show Zbo = bfT ∧ True ∧ True from ⟨by decide, trivial, trivial⟩)]
theorem Z7o (get) {P L : SV} {c : Cfg} (hP : Zi2 c P L) (hr : Zcq c = true) : Za0 (PCw ES) get Zbn [.agg (Z7 c P L)] = some (Zabv (Zoj c)) := Z4 (Z3s hP hr) (by simp [hP.npA])
theorem Zaqb (c : Cfg) : Zsj c = if (Zem c).1 ≠ 0 then Zem c else if Zoj c ≠ 0 then (14, Zoj c) else (0, 0) := by
  unfold Zsj Zoj
  by_cases h1 : (Zem c).1 = 0
  · by_cases h2 : Z1s c = 0
    · simp [h1, h2]
    · simp [h1, h2]
  · simp [h1]
set_option maxHeartbeats 4000000 in
theorem Zv4 (get) {P L : SV} {c : Cfg} (hP : Zi2 c P L) : Za0 (PCw ES) get Zdz [.agg (Z7 c P L)] = some (.tup [.int .i64 (Zsj c).1, .int .i64 (Zsj c).2]) := by
  refine Z4 (Za4 (fun M0 => ?_) rfl) (by simp [hP.npA])
  rw [Z7y, Zaqb]
  have h1 := fun get => Zabh get (y := .agg (Z7 c P L)) ⟨P, L, rfl, hP⟩
  simp only [Z7] at h1
  by_cases h : (Zem c).1 = 0
  · have hr : Zcq c = true := by simpa [Zcq] using h
    have h2 := fun get => Z7o get hP hr
    simp only [Z7] at h2
    unfold Zabv at h2
    by_cases hv : Zoj c = 0
    · simp only [hv, if_true] at h2
      have hA := fun v M => Zarg Zeq v M
      simp [Zmw, Zf, Zd, Ze, Zl, Zn, Zo, TK.agg, Zb, zeroS, Zi, Zg, splice, Zx, Z5, Zk, Z7, h1, h2, hA, h, hv, Zsh, Nat.add_assoc]
    · simp only [hv, if_false, errB] at h2
      have hA := fun id (M : Mem) (hb : M.blk id = some [.nilp]) => As_B (items := [.agg [.int .i64 (Zoj c), .iface Ze6 (.rptr [] 0 0 true)]]) (i := 0) (o := 0) (st := true) (y := .nilp) (id := id) (M := M) hb rfl
      have hI := fun M => Is_B (Zoj c) (.rptr [] 0 0 true) (.rptr [] 0 0 true) true M
      simp [Zmw, Zf, Zd, Ze, Zl, Zn, Zo, TK.agg, Zb, zeroS, Zi, Zg, splice, Zx, Z5, Zk, Z7, h1, h2, hA, hI, h, hv, Zsh, Nat.add_assoc]
  · simp [Zmw, Zf, Zd, Ze, Zl, Zn, Zo, TK.agg, Zb, zeroS, Zi, Zg, splice, Zx, Z5, Zk, Z7, h1, h]
end Go.Proofs.YtfphjfbknphhjaaGreatDoor
