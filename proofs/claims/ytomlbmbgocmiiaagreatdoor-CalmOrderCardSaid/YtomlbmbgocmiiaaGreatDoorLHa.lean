/-
  Walks of the seat's functions: Ha.
-/
import Derived.Test.YtomlbmbgocmiiaaGreatDoorEbMa
import Derived.Test.YtomlbmbgocmiiaaGreatDoorShMb
import Derived.Test.YtomlbmbgocmiiaaGreatDoorLzMb
import Derived.Test.YtomlbmbgocmiiaaGreatDoorLzMc
import Derived.Test.YtomlbmbgocmiiaaGreatDoorLSy
import Derived.Test.YtomlbmbgocmiiaaGreatDoorLBh
import Derived.Test.YtomlbmbgocmiiaaGreatDoorLzMh
set_option linter.unusedVariables false
set_option linter.unusedSimpArgs false
set_option maxRecDepth 100000
namespace Go.Proofs.YtomlbmbgocmiiaaGreatDoor
open Go.Proofs.YtomlbmbgocmiiaaGreatDoor.Sh
/-! How far parts are: hops.Dist, hops.Width, and the document's own. -/
def mostK (c : Cfg) : Nat → Int
  | 0 => 0
  | k + 1 => max (mostK c k) (maxL (distL c.links c.parts.length k))
def widthG (c : Cfg) : Int := if rightC c then mostK c c.parts.length else -1
def distG (c : Cfg) (a b : Int) : Int := if rightC c && decide (inMany a c.parts.length) && decide (inMany b c.parts.length) then dget (distL c.links c.parts.length b) a else -1
theorem foldl_max_max : ∀ (d : List Int) (m a : Int), d.foldl max (max m a) = max m (d.foldl max a)
  | [], _, _ => rfl
  | x :: d, m, a => by
    simp only [List.foldl_cons]
    rw [show max (max m a) x = max m (max a x) by omega]
    exact foldl_max_max d m (max a x)
theorem foldl_maxL {d : List Int} (h : 0 < d.length) (m : Int) : d.foldl max m = max m (maxL d) := by
  cases d with
  | nil => simp at h
  | cons x d =>
    unfold maxL
    simp only [List.foldl_cons, List.headD_cons]
    rw [show max x x = x by omega, foldl_max_max]
theorem distL_len (ls : List Link) (len : Nat) (fr : Int) : (distL ls len fr).length = len := by simp [distL]
theorem right_ok {c : Cfg} (h : rightC c = true) : 1 ≤ c.parts.length ∧ c.parts.length ≤ 6 ∧ ∀ l ∈ c.links, okL c.parts.length l := by
  have hf := right_facts h
  refine ⟨hf.1, hf.2.1, fun l hl => ?_⟩
  obtain ⟨j, hj, rfl⟩ := List.mem_iff_getElem.1 hl
  obtain ⟨h1, h2, _⟩ := right_link h hj
  exact ⟨h1.1, h1.2, h2.1, h2.2⟩
theorem distL_below (ls : List Link) (len : Nat) (fr : Int) : ∀ x ∈ distL ls len fr, x ≤ len := fun x hx => distK_below ls len fr len x hx
theorem maxL_le {d : List Int} {n : Int} (h : ∀ x ∈ d, x ≤ n) (h0 : 0 < d.length) : maxL d ≤ n := by
  have key : ∀ (r : List Int) (m : Int), m ≤ n → (∀ x ∈ r, x ≤ n) → r.foldl max m ≤ n := by
    intro r
    induction r with
    | nil => intro m hm _; exact hm
    | cons x r ih =>
      intro m hm hr
      simp only [List.foldl_cons]
      have := hr x (by simp)
      exact ih _ (by omega) (fun y hy => hr y (by simp [hy]))
  cases d with
  | nil => simp at h0
  | cons x d =>
    unfold maxL
    exact key _ _ (h x (by simp)) h
theorem mostK_le (c : Cfg) (h1 : 1 ≤ c.parts.length) : ∀ k, 0 ≤ mostK c k ∧ mostK c k ≤ c.parts.length
  | 0 => by simp [mostK]
  | k + 1 => by
    have ih := mostK_le c h1 k
    have := maxL_le (distL_below c.links c.parts.length k) (by rw [distL_len]; omega)
    simp only [mostK]
    omega
theorem ints_at {x : SV} {l : List Int} (h : Ints x l) {j : Nat} (hj : j < l.length) : indexAddrS ES.P T_sl_int x (.int .i64 j) = some (.rptr (l.map (SV.int .i64)) j 0 (stOf x)) := RSl.at h ti_sl_int ti_int (fun _ => rfl) hj
theorem ints_ld {l : List Int} {j : Nat} (hj : j < l.length) (get : Nat → Option (List SV)) (z : Bool) : loadS ES.P get T_int (.rptr (l.map (SV.int .i64)) j 0 z) = some (.int .i64 l[j]) := loadS_rptr ti_int (x := .int .i64 l[j]) (by simp [hj]) rfl
theorem mx2 (a b : Int) : mmS true [.int .i64 a, .int .i64 b] = some (.int .i64 (max a b)) := by
  simp only [mmS, mmGo, if_true]
  congr 2
  split <;> omega
theorem hops_right_c (get) {P L : SV} {c : Cfg} (hP : CfgP c P L) (a b : Int) : callP (PCw ES) get n_hops_right [.agg (cfgC c P L), .int .i64 a, .int .i64 b] = some (.bool (rightC c && decide (inMany a c.parts.length) && decide (inMany b c.parts.length))) := by
  refine callP_of (PCw_ex (fun M0 => ?_) rfl) (by simp [hP.npA])
  rw [b_hops_right]
  have h1 := fun get => plan_Right_c get hP
  have hlenp := hP.p.lenS ti_sl_api_Part
  simp only [cfgC] at h1
  unfold inMany
  cases hr : rightC c with
  | false =>
    rw [hr] at h1
    simp [c_hops_right, evW_reg, evW_chkr, isCst, loadS, partS, TK.agg, fieldAddrS, zeroS, storeS, setPart, splice, endS, resS, fieldS, cfgC, h1, hlenp]
  | true =>
    rw [hr] at h1
    by_cases a1 : 0 ≤ a
    · by_cases a2 : a < c.parts.length
      · by_cases b1 : 0 ≤ b
        · by_cases b2 : b < c.parts.length <;> simp [c_hops_right, evW_reg, evW_chkr, isCst, loadS, partS, TK.agg, fieldAddrS, zeroS, storeS, setPart, splice, endS, resS, fieldS, cfgC, h1, hlenp, a1, a2, b1, b2]
        · simp [c_hops_right, evW_reg, evW_chkr, isCst, loadS, partS, TK.agg, fieldAddrS, zeroS, storeS, setPart, splice, endS, resS, fieldS, cfgC, h1, hlenp, a1, a2, b1]
      · simp [c_hops_right, evW_reg, evW_chkr, isCst, loadS, partS, TK.agg, fieldAddrS, zeroS, storeS, setPart, splice, endS, resS, fieldS, cfgC, h1, hlenp, a1, a2]
    · simp [c_hops_right, evW_reg, evW_chkr, isCst, loadS, partS, TK.agg, fieldAddrS, zeroS, storeS, setPart, splice, endS, resS, fieldS, cfgC, h1, hlenp, a1]
theorem dist_at {c : Cfg} {a b : Int} (ha : inMany a c.parts.length) : ∃ z, indexAddrS ES.P T_sl_int (.sl (iL (distL c.links c.parts.length b)) .ro) (.int .i64 a) = some (.rptr (iL (distL c.links c.parts.length b)) a.toNat 0 z) ∧ (iL (distL c.links c.parts.length b))[a.toNat]? = some (.int .i64 (dget (distL c.links c.parts.length b) a)) := by
  unfold inMany at ha
  have hl := distL_len c.links c.parts.length b
  have hlt : a.toNat < (distL c.links c.parts.length b).length := by omega
  have h1 := ints_at (iL_ints (distL c.links c.parts.length b) .ro) hlt
  rw [show ((a.toNat : Nat) : Int) = a by omega] at h1
  exact ⟨_, h1, iL_get ha.1 (by omega)⟩
theorem hops_Dist_c (get) {P L : SV} {c : Cfg} (hP : CfgP c P L) (a b : Int) : callP (PCw ES) get n_hops_Dist [.agg (cfgC c P L), .int .i64 a, .int .i64 b] = some (.int .i64 (distG c a b)) := by
  refine callP_of (PCw_ex (fun M0 => ?_) rfl) (by simp [hP.npA])
  rw [b_hops_Dist]
  have h1 := fun get => hops_right_c get hP a b
  simp only [cfgC] at h1
  unfold distG
  cases hr : (rightC c && decide (inMany a c.parts.length) && decide (inMany b c.parts.length)) with
  | false =>
    rw [hr] at h1
    simp [c_hops_Dist, evW_reg, evW_chkr, isCst, loadS, partS, TK.agg, fieldAddrS, zeroS, storeS, setPart, splice, endS, resS, fieldS, cfgC, h1]
  | true =>
    rw [hr] at h1
    simp only [Bool.and_eq_true, decide_eq_true_eq] at hr
    obtain ⟨⟨r1, r2⟩, r3⟩ := hr
    obtain ⟨k1, k6, kl⟩ := right_ok r1
    have h2 := fun get => Dists_c get (y := .agg (cfgC c P L)) ⟨P, L, rfl, hP⟩ (fr := b) k1 k6 r3 kl
    simp only [cfgC] at h2
    obtain ⟨z, p1, p2⟩ := dist_at (b := b) r2
    simp [c_hops_Dist, evW_reg, evW_chkr, isCst, loadS, partS, TK.agg, fieldAddrS, zeroS, storeS, setPart, splice, endS, resS, fieldS, cfgC, h1, h2, p1, p2]
theorem r5_Dist_c (get) {P L : SV} {c : Cfg} (hP : CfgP c P L) (a b : Int) : callP (PCw ES) get n_r5_Dist [.agg (cfgC c P L), .int .i64 a, .int .i64 b] = some (.int .i64 (distG c a b)) := by
  refine callP_of (PCw_ex (fun M0 => ?_) rfl) (by simp [hP.npA])
  rw [b_r5_Dist]
  have h1 := fun get part => r5_Good_c get hP part
  simp only [cfgC] at h1
  unfold distG
  cases hr : rightC c with
  | false =>
    simp only [hr] at h1
    simp [c_r5_Dist, evW_reg, evW_chkr, isCst, loadS, partS, TK.agg, fieldAddrS, zeroS, storeS, setPart, splice, endS, resS, fieldS, cfgC, h1]
  | true =>
    simp only [hr] at h1
    by_cases ha : inMany a c.parts.length
    · by_cases hb : inMany b c.parts.length
      · obtain ⟨k1, k6, kl⟩ := right_ok hr
        have h2 := fun get => r5_dists_c get hP (fr := a) (by omega) ha kl
        simp only [cfgC] at h2
        obtain ⟨z, p1, p2⟩ := dist_at (b := a) hb
        rw [distL_symm kl ha hb] at p2
        simp [c_r5_Dist, evW_reg, evW_chkr, isCst, loadS, partS, TK.agg, fieldAddrS, zeroS, storeS, setPart, splice, endS, resS, fieldS, cfgC, h1, h2, ha, hb, p1, p2]
      · simp [c_r5_Dist, evW_reg, evW_chkr, isCst, loadS, partS, TK.agg, fieldAddrS, zeroS, storeS, setPart, splice, endS, resS, fieldS, cfgC, h1, ha, hb]
    · simp [c_r5_Dist, evW_reg, evW_chkr, isCst, loadS, partS, TK.agg, fieldAddrS, zeroS, storeS, setPart, splice, endS, resS, fieldS, cfgC, h1, ha]
set_option maxHeartbeats 4000000 in
theorem hops_Width_c (get) {P L : SV} {c : Cfg} (hP : CfgP c P L) : callP (PCw ES) get n_hops_Width [.agg (cfgC c P L)] = some (.int .i64 (widthG c)) := by
  refine callP_of (PCw_ex (fun M0 => ?_) rfl) (by simp [hP.npA])
  rw [b_hops_Width]
  have h1 := fun get => plan_Right_c get hP
  have hlenp := hP.p.lenS ti_sl_api_Part
  simp only [cfgC] at h1
  unfold widthG
  cases hr : rightC c with
  | false =>
    rw [hr] at h1
    simp [c_hops_Width, evW_reg, evW_chkr, isCst, loadS, partS, TK.agg, fieldAddrS, zeroS, storeS, setPart, splice, endS, resS, fieldS, cfgC, h1]
  | true =>
    rw [hr] at h1
    obtain ⟨k1, k6, kl⟩ := right_ok hr
    obtain ⟨r, g1, M', g2⟩ := loop_up (E := ES) (me := n_hops_Width) (B := c_hops_Width_B0) (len := c.parts.length) (T := fun j => h_hops_Width_0 (.ptr M0.next 0 0) (.int .i64 (mostK c j)) (.int .i64 c.parts.length) (.int .i64 j)) (I := fun _ M => M.blk M0.next = some [.agg (cfgC c P L)])
      (Q := fun r => ∃ M', r = (.exit 0, ⟨(h_hops_Width_0 (.ptr M0.next 0 0) (.int .i64 (mostK c c.parts.length)) (.int .i64 c.parts.length) (.int .i64 c.parts.length)).set 12 (.bool false), M'⟩))
      (fun j M hj hI => by
        left
        have hw : IntKind.i64.wrap ((j : Int) + 1) = (j : Int) + 1 := i64_in (by omega) (by omega)
        have h2 := fun get => Dists_c get (y := .agg (cfgC c P L)) ⟨P, L, rfl, hP⟩ (fr := j) k1 k6 (by omega) kl
        have h3 := fun get => slices_Max_sl_int_int_c get (iL_ints (distL c.links c.parts.length j) .ro) (by rw [distL_len]; omega) (by rw [distL_len]; omega)
        simp only [cfgC] at h2 hI
        refine ⟨M, ?_, hI⟩
        simp [c_hops_Width_B0, evW_reg, evW_chkr, isCst, loadS, partS, TK.agg, fieldAddrS, zeroS, storeS, setPart, splice, endS, resS, fieldS, h_hops_Width_0, hj, hI, h2, h3, mx2, hw, mostK, cfgC])
      (fun M hI => ⟨_, by simp [c_hops_Width_B0, evW_reg, evW_chkr, isCst, loadS, partS, TK.agg, fieldAddrS, zeroS, storeS, setPart, splice, endS, resS, fieldS, h_hops_Width_0], by simp, M, rfl⟩) 0 ((M0.bump 2).set M0.next (some [.agg (cfgC c P L)])) (by omega) (by simp)
    subst g2
    simp [h_hops_Width_0, cfgC, mostK] at g1
    simp [c_hops_Width, evW_reg, evW_chkr, isCst, loadS, partS, TK.agg, fieldAddrS, zeroS, storeS, setPart, splice, endS, resS, fieldS, cfgC, h1, hlenp, c_hops_Width_L0, g1]

end Go.Proofs.YtomlbmbgocmiiaaGreatDoor
