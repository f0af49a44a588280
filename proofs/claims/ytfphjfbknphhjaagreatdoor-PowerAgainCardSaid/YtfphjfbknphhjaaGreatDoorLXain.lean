/-
  PowerAgain: what its walk needs, and the walk.
-/
import Derived.Test.YtfphjfbknphhjaaGreatDoorLBh
import Derived.Test.YtfphjfbknphhjaaGreatDoorLCk
import Derived.Test.YtfphjfbknphhjaaGreatDoorLIs
import Derived.Test.YtfphjfbknphhjaaGreatDoorLMe
import Derived.Test.YtfphjfbknphhjaaGreatDoorLQc
import Derived.Test.YtfphjfbknphhjaaGreatDoorLQe
import Derived.Test.YtfphjfbknphhjaaGreatDoorLQf
import Derived.Test.YtfphjfbknphhjaaGreatDoorLRa
import Derived.Test.YtfphjfbknphhjaaGreatDoorLRb
import Derived.Test.YtfphjfbknphhjaaGreatDoorLRe
import Derived.Test.YtfphjfbknphhjaaGreatDoorLTk
import Derived.Test.YtfphjfbknphhjaaGreatDoorLWg
import Derived.Test.YtfphjfbknphhjaaGreatDoorLzMa
import Derived.Test.YtfphjfbknphhjaaGreatDoorLzMb
import Derived.Test.YtfphjfbknphhjaaGreatDoorLzMc
import Derived.Test.YtfphjfbknphhjaaGreatDoorLzMd
import Derived.Test.YtfphjfbknphhjaaGreatDoorLzMe
import Derived.Test.YtfphjfbknphhjaaGreatDoorLzMf
import Derived.Test.YtfphjfbknphhjaaGreatDoorLzMg
import Derived.Test.YtfphjfbknphhjaaGreatDoorLzMh
import Derived.Test.YtfphjfbknphhjaaGreatDoorLzMi
import Derived.Test.YtfphjfbknphhjaaGreatDoorLzMj
import Derived.Test.YtfphjfbknphhjaaGreatDoorLzMk
import Derived.Test.YtfphjfbknphhjaaGreatDoorLzMl
import Derived.Test.YtfphjfbknphhjaaGreatDoorLzMm
import Derived.Test.YtfphjfbknphhjaaGreatDoorLzMn
import Derived.Test.YtfphjfbknphhjaaGreatDoorLzMo
import Derived.Test.YtfphjfbknphhjaaGreatDoorLzMp
import Derived.Test.YtfphjfbknphhjaaGreatDoorLzMq
import Derived.Test.YtfphjfbknphhjaaGreatDoorLzMr
import Derived.Test.YtfphjfbknphhjaaGreatDoorLzMs
import Derived.Test.YtfphjfbknphhjaaGreatDoorLzMt
import Derived.Test.YtfphjfbknphhjaaGreatDoorLzMu
import Derived.Test.YtfphjfbknphhjaaGreatDoorLzMv
import Derived.Test.YtfphjfbknphhjaaGreatDoorLzMw
set_option linter.unusedVariables false
set_option linter.unusedSimpArgs false
set_option maxRecDepth 100000
namespace Go.Proofs.YtfphjfbknphhjaaGreatDoor
open Go.Proofs.YtfphjfbknphhjaaGreatDoor.Sh
/-! drumline/drumlinelaw24.PowerAgain -/
def Zx11 : C :=
  (.seq (.seq (rg 8 0 [117, 118, 119, 120, 121, 122, 123] [mv 117 20, mv 118 19, mv 119 10, i' 120 (.indexAddr Zt (q 118) (q 119)), fa 121 Zq 120 0, ld 122 Zj 121, le' 123 122 Zj, bi 124 .lss Zc (q 117) (q 123) Zc]) (.cond (q 124) .skip (.exit 0))) (.seq (.block 1 (.seq (rg 81 0 [124, 127, 128, 129, 130, 131, 132, 133, 134, 135, 136, 137, 138, 139, 140, 141, 142, 143, 144, 145, 146, 147, 148, 149, 150, 151, 152, 153, 154, 155, 156, 157, 158, 159, 160, 161, 162, 163, 164, 165, 166, 167, 168, 169, 170, 171, 172, 173, 174, 175, 176, 177, 178, 179, 180, 181, 182, 183, 184, 185, 186, 187, 188, 189, 190, 191, 192, 193, 194, 195, 196, 197, 198, 199, 200, 201, 202, 203, 204, 205, 206] [mv 127 11, mv 128 10, i' 129 (.indexAddr Zt (q 127) (q 128)), fa 130 Zq 129 0, ld 131 Zj 130, mv 132 20, i' 133 (.indexAddr Zj (q 131) (q 132)), fa 134 Zh 133 0, ld 135 Zc 134, bi 136 .neq Zc (q 135) (ki 0) Zc, mv 137 136, gd 137 false (mv 138 15), gd 137 false (mv 139 10), gd 137 false (i' 140 (.indexAddr Zt (q 138) (q 139))), gd 137 false (fa 141 Zq 140 0), gd 137 false (ld 142 Zj 141), gd 137 false (mv 143 20), gd 137 false (i' 144 (.indexAddr Zj (q 142) (q 143))), gd 137 false (fa 145 Zh 144 0), gd 137 false (ld 146 Zc 145), gd 137 false (bi 147 .neq Zc (q 146) (ki 1) Zc), i' 148 (.pick (q 137) (kb true) (q 147)), mv 149 148, gd 149 false (mv 150 15), gd 149 false (mv 151 10), gd 149 false (i' 152 (.indexAddr Zt (q 150) (q 151))), gd 149 false (fa 153 Zq 152 0), gd 149 false (ld 154 Zj 153), gd 149 false (mv 155 20), gd 149 false (i' 156 (.indexAddr Zj (q 154) (q 155))), gd 149 false (fa 157 Zh 156 2), gd 149 false (ld 158 Zc 157), gd 149 false (mv 159 19), gd 149 false (mv 160 10), gd 149 false (i' 161 (.indexAddr Zt (q 159) (q 160))), gd 149 false (fa 162 Zq 161 0), gd 149 false (ld 163 Zj 162), gd 149 false (mv 164 20), gd 149 false (i' 165 (.indexAddr Zj (q 163) (q 164))), gd 149 false (fa 166 Zh 165 2), gd 149 false (ld 167 Zc 166), gd 149 false (bi 168 .neq Zc (q 158) (q 167) Zc), i' 169 (.pick (q 149) (kb true) (q 168)), mv 170 169, gd 170 false (mv 171 15), gd 170 false (mv 172 10), gd 170 false (i' 173 (.indexAddr Zt (q 171) (q 172))), gd 170 false (fa 174 Zq 173 0), gd 170 false (ld 175 Zj 174), gd 170 false (mv 176 20), gd 170 false (i' 177 (.indexAddr Zj (q 175) (q 176))), gd 170 false (fa 178 Zh 177 7), gd 170 false (ld 179 Zc 178), gd 170 false (mv 180 19), gd 170 false (mv 181 10), gd 170 false (i' 182 (.indexAddr Zt (q 180) (q 181))), gd 170 false (fa 183 Zq 182 0), gd 170 false (ld 184 Zj 183), gd 170 false (mv 185 20), gd 170 false (i' 186 (.indexAddr Zj (q 184) (q 185))), gd 170 false (fa 187 Zh 186 7), gd 170 false (ld 188 Zc 187), gd 170 false (bi 189 .neq Zc (q 179) (q 188) Zc), i' 190 (.pick (q 170) (kb true) (q 189)), mv 191 190, gd 191 false (mv 192 15), gd 191 false (mv 193 10), gd 191 false (i' 194 (.indexAddr Zt (q 192) (q 193))), gd 191 false (fa 195 Zq 194 0), gd 191 false (ld 196 Zj 195), gd 191 false (mv 197 20), gd 191 false (i' 198 (.indexAddr Zj (q 196) (q 197))), gd 191 false (fa 199 Zh 198 3), gd 191 false (ld 200 Zp 199), gd 191 false (mv 201 3), gd 191 false (i' 202 (.convert Zud Zp (q 201))), gd 191 false (fa 203 Za 9 2), gd 191 false (ld 204 Zc 203), gd 191 false (bi 205 .mul Zp (q 202) (q 204) Zp), gd 191 false (bi 206 .neq Zp (q 200) (q 205) Zp), i' 207 (.pick (q 191) (kb true) (q 206))]) (.cond (q 207) (.seq (rg 1 0 [3, 9, 10, 11, 15, 19, 20, 207] [i' 8 (.assign (kb false))]) .ret) .skip))) (rg 3 0 [125, 126, 207] [mv 125 20, bi 126 .add Zc (q 125) (ki 1) Zc, as' 20 126])))
def Zx13 : C := .loop Zx11
/-- What is live at the loop's head: t3 now, t9 c, t10 p, t11 a, t15 d, t19 was, t20 k -/
abbrev Zx10 (t3 t9 t10 t11 t15 t19 t20 : SV) : List SV := [.Z, .Z, .Z, t3, .Z, .Z, .Z, .Z, .Z, t9, t10, t11, .Z, .Z, .Z, t15, .Z, .Z, .Z, t19, t20, .Z, .Z, .Z, .Z, .Z, .Z, .Z, .Z, .Z, .Z, .Z, .Z, .Z, .Z, .Z, .Z, .Z, .Z, .Z, .Z, .Z, .Z, .Z, .Z, .Z, .Z, .Z, .Z, .Z, .Z, .Z, .Z, .Z, .Z, .Z, .Z, .Z, .Z, .Z, .Z, .Z, .Z, .Z, .Z, .Z, .Z, .Z, .Z, .Z, .Z, .Z, .Z, .Z, .Z, .Z, .Z, .Z, .Z, .Z, .Z, .Z, .Z, .Z, .Z, .Z, .Z, .Z, .Z, .Z, .Z, .Z, .Z, .Z, .Z, .Z, .Z, .Z, .Z, .Z, .Z, .Z, .Z, .Z, .Z, .Z, .Z, .Z, .Z, .Z, .Z, .Z, .Z, .Z, .Z, .Z, .Z, .Z, .Z, .Z, .Z, .Z, .Z, .Z, .Z, .Z, .Z, .Z, .Z, .Z, .Z, .Z, .Z, .Z, .Z, .Z, .Z, .Z, .Z, .Z, .Z, .Z, .Z, .Z, .Z, .Z, .Z, .Z, .Z, .Z, .Z, .Z, .Z, .Z, .Z, .Z, .Z, .Z, .Z, .Z, .Z, .Z, .Z, .Z, .Z, .Z, .Z, .Z, .Z, .Z, .Z, .Z, .Z, .Z, .Z, .Z, .Z, .Z, .Z, .Z, .Z, .Z, .Z, .Z, .Z, .Z, .Z, .Z, .Z, .Z, .Z, .Z, .Z, .Z, .Z, .Z, .Z, .Z, .Z, .Z, .Z, .Z, .Z, .Z, .Z, .Z, .Z, .Z]
def Zx12 : C :=
  (.seq (rg 1 0 [8] [i' 8 (.assign (kb false))]) (.seq (.seq (rg 7 0 [21, 22, 23, 24, 25, 26] [ca 21 Zdd #[] #[], i' 22 (.unOp .not Zbm (q 21)), mv 23 22, gd 23 false (mv 24 1), gd 23 false (ca 25 Zf5 #[q 24] #[Zt]), gd 23 false (i' 26 (.unOp .not Zbm (q 25))), i' 27 (.pick (q 23) (kb true) (q 26))]) (.cond (q 27) (.seq (rg 2 0 [0, 1, 2, 3, 27, 28] [ca 28 Zdd #[] #[], as' 8 28]) .ret) .skip)) (.seq (rg 4 4 [0, 27, 29, 30] [mv 29 0, ca 30 Zb9 #[q 29] #[Zc], i' 9 (.alloc Za), ⟨none, .store Za (q 9) (q 30), none, none⟩]) (.seq (rg 7 0 [2, 31, 32, 33, 34, 35, 36] [mv 31 2, i' 32 (.convert Zud Zc (q 31)), fa 33 Za 9 0, ld 34 Zm 33, le' 35 34 Zm, bi 36 .rem Zc (q 32) (q 35) Zc, as' 10 36]) (.seq (rg 14 0 [37, 38, 39, 40, 41, 42, 43, 44, 45, 46, 47, 48] [ld 38 Za 9, ld 39 Za 9, mv 40 1, ca 41 Ze7 #[q 39, q 40] #[Za, Zt], mv 42 3, i' 43 (.convert Zud Zc (q 42)), mv 44 10, i' 45 (.build Zu #[(0, (ki 4)), (1, q 44)]), ca 46 Zcm #[q 38, q 41, q 43, q 45] #[Za, Zt, Zc, Zu], mv 37 46, xt 47 37 0, xt 48 37 1, as' 11 47, as' 12 48]) (.seq (rg 12 0 [49, 50, 51, 52, 53, 54, 55, 56, 57, 58] [ld 50 Za 9, mv 51 11, mv 52 3, i' 53 (.convert Zud Zc (q 52)), mv 54 10, i' 55 (.build Zu #[(0, (ki 4)), (1, q 54)]), ca 56 Zcm #[q 50, q 51, q 53, q 55] #[Za, Zt, Zc, Zu], mv 49 56, xt 57 49 0, xt 58 49 1, as' 13 57, as' 14 58]) (.seq (rg 12 0 [59, 60, 61, 62, 63, 64, 65, 66, 67, 68] [ld 60 Za 9, mv 61 13, mv 62 3, i' 63 (.convert Zud Zc (q 62)), mv 64 10, i' 65 (.build Zu #[(0, (ki 5)), (1, q 64)]), ca 66 Zcm #[q 60, q 61, q 63, q 65] #[Za, Zt, Zc, Zu], mv 59 66, xt 67 59 0, xt 68 59 1, as' 15 67, as' 16 68]) (.seq (rg 13 0 [69, 70, 71, 72, 73, 74, 75, 76, 77, 78, 79] [ld 70 Za 9, mv 71 15, mv 72 3, i' 73 (.convert Zud Zc (q 72)), bi 74 .add Zc (q 73) (ki 1) Zc, mv 75 10, i' 76 (.build Zu #[(0, (ki 5)), (1, q 75)]), ca 77 Zcm #[q 70, q 71, q 74, q 76] #[Za, Zt, Zc, Zu], mv 69 77, xt 78 69 0, xt 79 69 1, as' 17 78, as' 18 79]) (.seq (.seq (rg 34 0 [12, 13, 14, 16, 17, 18, 80, 81, 82, 83, 84, 85, 86, 87, 88, 89, 90, 91, 92, 93, 94, 95, 96, 97, 98, 99, 100, 101, 102, 103, 104, 105, 106, 107, 108, 109, 110, 111, 112] [mv 80 12, bi 81 .neq Zby (q 80) (ki 0) Zby, mv 82 81, gd 82 false (mv 83 14), gd 82 false (bi 84 .neq Zby (q 83) (ki 0) Zby), i' 85 (.pick (q 82) (kb true) (q 84)), mv 86 85, gd 86 false (mv 87 16), gd 86 false (bi 88 .neq Zby (q 87) (ki 0) Zby), i' 89 (.pick (q 86) (kb true) (q 88)), mv 90 89, gd 90 false (mv 91 18), gd 90 false (bi 92 .neq Zby (q 91) (ki 0) Zby), i' 93 (.pick (q 90) (kb true) (q 92)), mv 94 93, gd 94 false (mv 95 11), gd 94 false (mv 96 13), gd 94 false (ca 97 Zdw #[q 95, q 96] #[Zt, Zt]), gd 94 false (i' 98 (.unOp .not Zbm (q 97))), i' 99 (.pick (q 94) (kb true) (q 98)), mv 100 99, gd 100 false (mv 101 15), gd 100 false (mv 102 17), gd 100 false (ca 103 Zdw #[q 101, q 102] #[Zt, Zt]), gd 100 false (i' 104 (.unOp .not Zbm (q 103))), i' 105 (.pick (q 100) (kb true) (q 104)), mv 106 105, gd 106 false (mv 107 15), gd 106 false (le' 108 107 Zt), gd 106 false (fa 109 Za 9 0), gd 106 false (ld 110 Zm 109), gd 106 false (le' 111 110 Zm), gd 106 false (bi 112 .neq Zc (q 108) (q 111) Zc), i' 113 (.pick (q 106) (kb true) (q 112))]) (.cond (q 113) (.seq (rg 1 0 [1, 3, 9, 10, 11, 15, 113] [i' 8 (.assign (kb false))]) .ret) .skip)) (.seq (rg 4 0 [1, 113, 114, 115, 116] [ld 114 Za 9, mv 115 1, ca 116 Ze7 #[q 114, q 115] #[Za, Zt], as' 19 116]) (.seq (.seq (rg 1 0 [] [i' 20 (.assign (ki 0))]) (.block 0 Zx13)) (.seq (rg 1 0 [3, 9, 10, 11, 15, 19, 20, 124] [i' 8 (.assign (kb true))]) .ret))))))))))))
theorem Zx15 : Tryz.f5.body.map (comp ES Zakg) = some Zx12 := by kernel_rfl
theorem Zx16 (t0 t1 t2 t3 : SV) (M : Mem) : ICw ES Zakg [t0, t1, t2, t3] M = Zx ES [.tmp 8] (evW ES Zakg Zx12 ⟨[t0, t1, t2, t3, .Z, .Z, .Z, .Z, .Z, .Z, .Z, .Z, .Z, .Z, .Z, .Z, .Z, .Z, .Z, .Z, .Z, .Z, .Z, .Z, .Z, .Z, .Z, .Z, .Z, .Z, .Z, .Z, .Z, .Z, .Z, .Z, .Z, .Z, .Z, .Z, .Z, .Z, .Z, .Z, .Z, .Z, .Z, .Z, .Z, .Z, .Z, .Z, .Z, .Z, .Z, .Z, .Z, .Z, .Z, .Z, .Z, .Z, .Z, .Z, .Z, .Z, .Z, .Z, .Z, .Z, .Z, .Z, .Z, .Z, .Z, .Z, .Z, .Z, .Z, .Z, .Z, .Z, .Z, .Z, .Z, .Z, .Z, .Z, .Z, .Z, .Z, .Z, .Z, .Z, .Z, .Z, .Z, .Z, .Z, .Z, .Z, .Z, .Z, .Z, .Z, .Z, .Z, .Z, .Z, .Z, .Z, .Z, .Z, .Z, .Z, .Z, .Z, .Z, .Z, .Z, .Z, .Z, .Z, .Z, .Z, .Z, .Z, .Z, .Z, .Z, .Z, .Z, .Z, .Z, .Z, .Z, .Z, .Z, .Z, .Z, .Z, .Z, .Z, .Z, .Z, .Z, .Z, .Z, .Z, .Z, .Z, .Z, .Z, .Z, .Z, .Z, .Z, .Z, .Z, .Z, .Z, .Z, .Z, .Z, .Z, .Z, .Z, .Z, .Z, .Z, .Z, .Z, .Z, .Z, .Z, .Z, .Z, .Z, .Z, .Z, .Z, .Z, .Z, .Z, .Z, .Z, .Z, .Z, .Z, .Z, .Z, .Z, .Z, .Z, .Z, .Z, .Z, .Z, .Z, .Z, .Z, .Z, .Z, .Z, .Z, .Z, .Z, .Z], M⟩) :=
  Zab rfl Tryz.func5 Zx15 (by kernel_rfl) (by kernel_rfl) (by kernel_rfl) M
@[simp] theorem Zx21 : CX ES Zakg Zdd := cx rfl
@[simp] theorem Zx23 : CX ES Zakg Zf5 := cx rfl
@[simp] theorem Zx25 : CX ES Zakg Zb9 := cx rfl
@[simp] theorem Zx24 : CX ES Zakg Zcm := cx rfl
@[simp] theorem Zx18 : CX ES Zakg Zdw := cx rfl
@[simp] theorem Zx22 : CX ES Zakg Ze7 := cx rfl


/-- Off twice is off once; on twice is on once. -/
theorem Zx19 {c : Cfg} {l : List Cel} {n1 n2 : Int} {e : Evt} (hb : ∀ n, Zjm c (Zjm c n n1 e) n2 e = Zjm c n n1 e) : doL c (doL c l n1 e) n2 e = doL c l n1 e := by
  unfold doL Zma
  rw [List.mapIdx_mapIdx]
  refine List.ext_getElem? fun p => ?_
  rw [List.getElem?_mapIdx, List.getElem?_mapIdx]
  cases l[p]? with
  | none => rfl
  | some x =>
    simp only [Option.map_some, Function.comp, Option.some.injEq]
    congr 1
    rw [List.mapIdx_mapIdx]
    refine List.ext_getElem? fun k => ?_
    rw [List.getElem?_mapIdx, List.getElem?_mapIdx]
    cases x.nodes[k]? with
    | none => rfl
    | some n =>
      simp only [Option.map_some, Function.comp, Option.some.injEq]
      cases h : Zxl c e p k <;> simp [hb]
theorem Zx26 (c : Cfg) (n : Node) (n1 n2 : Int) {e : Evt} (he : e.kind = 4) : Zjm c (Zjm c n n1 e) n2 e = Zjm c n n1 e := by
  have h1 : ¬ e.kind = 1 := by omega
  have h2 : Z1v e = false := by simp [Z1v, he]
  simp [Zjm, h1, h2, Z2p]
theorem Zx28 (c : Cfg) (n : Node) (n1 n2 : Int) {e : Evt} (he : e.kind = 5) : Zjm c (Zjm c n n1 e) n2 e = Zjm c n n1 e := by
  have h1 : ¬ e.kind = 1 := by omega
  have h2 : Z1v e = true := by simp [Z1v, he]
  simp only [Zjm, h1, h2, if_false, if_true]
  unfold onN
  by_cases h : n.state = 0 <;> simp [h]
theorem NdR.cells {y : SV} {n : Node} (h : NdR y n) : y.cells.length = 8 ∧ y.sto = true ∧ ∃ cs, y = .agg cs ∧ cs.length = 8 := by
  obtain ⟨A, rfl, _, _⟩ := h
  exact ⟨rfl, rfl, _, rfl, rfl⟩
set_option maxHeartbeats 8000000 in
theorem Z16 (get) {n : Node} {A A' : SV} (hA : Ints A n.ages) (hA' : Ints A' n.ages) (hpA : Sh.pv A = true) (hpA' : Sh.pv A' = true) (hb : n.ages.length ≤ 1000000) : Za0 (PCw ES) get Zdy [.agg (ndC n A), .agg (ndC n A')] = some (.bool true) := by
  refine Z4 (Za4 (fun M0 => ?_) rfl) (by simp [Zac (Zt3 (n := n) hpA), Zac (Zt3 (n := n) hpA')])
  rw [Z3a]
  have k := fun get => Zuu get hA hA' hb
  simp (maxSteps := 4000000) [Zq4, Zf, Zd, Ze, Zl, Zn, Zo, TK.agg, Zb, zeroS, Zi, Zg, splice, Zx, Z5, Zk, ndC, k, Zz hA.sl, Zax hA.sl, Zz hA'.sl, Zax hA'.sl]
theorem Zwq (get) {y z : SV} {n : Node} (hy : NdR y n) (hz : NdR z n) (hb : n.ages.length ≤ 1000000) : Za0 (PCw ES) get Zdy [y, z] = some (.bool true) := by
  obtain ⟨A, rfl, h1, h2⟩ := hy
  obtain ⟨A', rfl, h3, h4⟩ := hz
  exact Z16 get h1 h3 h2 h4 hb
set_option maxHeartbeats 8000000 in
theorem Z0o (get) {b : Bool} {st : Int} {l : List Int} {A A' : SV} (hA : Ints A l) (hA' : Ints A' l) (hpA : Sh.pv A = true) (hpA' : Sh.pv A' = true) (hb : l.length ≤ 1000000) : Za0 (PCw ES) get Zgr [.agg [.bool b, .int .i64 st, A], .agg [.bool b, .int .i64 st, A']] = some (.bool true) := by
  have q1 : Sh.pv (.agg [.bool b, .int .i64 st, A]) = true := by simp [Sh.pv, pvs, hpA]
  have q2 : Sh.pv (.agg [.bool b, .int .i64 st, A']) = true := by simp [Sh.pv, pvs, hpA']
  refine Z4 (Za4 (fun M0 => ?_) rfl) (by simp [Zac q1, Zac q2])
  rw [Z0y]
  have k := fun get => Zuu get hA hA' hb
  have be : ∀ q : Bool, Zoq ES.P .eql Zbm q (.bool b) (.bool b) = some (.bool true) := fun q => by cases b <;> rfl
  simp (maxSteps := 4000000) [Zpy, Zf, Zd, Ze, Zl, Zn, Zo, TK.agg, Zb, zeroS, Zi, Zg, splice, Zx, Z5, Zk, k, be, Zz hA.sl, Zax hA.sl, Zz hA'.sl, Zax hA'.sl]
set_option maxHeartbeats 8000000 in
theorem Z3g (get) {x : Cel} {y z : SV} (hy : ClR y x) (hz : ClR z x) (hb : x.nodes.length ≤ 1000000) (ha : ∀ n ∈ x.nodes, n.ages.length ≤ 1000000) (hb2 : x.ages.length ≤ 1000000) : Za0 (PCw ES) get Zfb [y, z] = some (.bool true) := by
  obtain ⟨N, A, rfl, hN, hA, p1, p2⟩ := hy
  obtain ⟨N', A', rfl, hN', hA', p3, p4⟩ := hz
  refine Z4 (Za4 (fun M0 => ?_) rfl) (by simp [Zac (clPv (x := x) p1 p2), Zac (clPv (x := x) p3 p4)])
  rw [Z2c]
  have hln := hN.Zex Zae
  have hln' := hN'.Zex Zae
  have kg := fun get => Z0o get (b := x.on) (st := x.start) hA hA' p2 p4 hb2
  obtain ⟨r, g1, M', rfl⟩ := Zke (E := ES) (me := Zfb) (B := Zk4) (len := x.nodes.length) (T := fun j => Zja (.ptr M0.next 0 0) (.ptr (M0.next + 1) 0 0) (.int .i64 j)) (I := fun _ M => M = ((M0.bump 3).set M0.next (some [.agg (clC x N A)])).set (M0.next + 1) (some [.agg (clC x N' A')]))
    (Q := fun r => ∃ M', r = (.exit 0, ⟨(Zja (.ptr M0.next 0 0) (.ptr (M0.next + 1) 0 0) (.int .i64 x.nodes.length)).set 25 (.bool false), M'⟩))
    (fun j M hj hI => by
      left
      subst hI
      have hw : IntKind.i64.wrap ((j : Int) + 1) = (j : Int) + 1 := i64_in (by omega) (by omega)
      obtain ⟨u, u1, u2, u3, _⟩ := hN.item Zae Zb8 Zty hj
      obtain ⟨v, v1, v2, v3, _⟩ := hN'.item Zae Zb8 Zty hj
      have k := fun get => Zwq get u1 v1 (ha _ (List.getElem_mem hj))
      obtain ⟨_, _, cu, rfl, cl⟩ := u1.cells
      obtain ⟨_, _, cv, rfl, cl'⟩ := v1.cells
      refine ⟨_, ?_, rfl⟩
      simp (maxSteps := 4000000) [Zk4, Zf, Zd, Ze, Zl, Zn, Zo, TK.agg, Zb, zeroS, Zi, Zg, splice, Zx, Z5, Zk, Zja, clC, hln, hln', hj, u2, u3, v2, v3, cl, cl', k, hw])
    (fun M hI => by
      have m0 : M.blk M0.next = some [.agg (clC x N A)] := by rw [hI]; simp
      simp only [clC] at m0
      exact ⟨_, by simp (maxSteps := 4000000) [Zk4, Zf, Zd, Ze, Zl, Zn, Zo, TK.agg, Zb, zeroS, Zi, Zg, splice, Zx, Z5, Zk, Zja, m0, hln], by simp, M, rfl⟩) 0 _ (by omega) rfl
  simp [Zja] at g1
  simp only [clC] at g1 ⊢
  simp (maxSteps := 4000000) [Zq7, Zf, Zd, Ze, Zl, Zn, Zo, TK.agg, Zb, zeroS, Zi, Zg, splice, Zx, Z5, Zk, hln, hln', kg, Zrq, g1, Zz hN.sl, Zax hN.sl, Zz hA.sl, Zax hA.sl, Zz hN'.sl, Zax hN'.sl, Zz hA'.sl, Zax hA'.sl]
set_option maxHeartbeats 8000000 in
theorem Zsv (get) {y z : SV} {l : List Cel} (hy : Zv7 y l) (hz : Zv7 z l) (py : Sh.pv y = true) (pz : Sh.pv z = true) (hs : Short l) : Za0 (PCw ES) get Zdw [y, z] = some (.bool true) := by
  refine Z4 (Za4 (fun M0 => ?_) rfl) (by simp [Zac py, Zac pz])
  rw [Zze]
  have hly := hy.Zex Zav
  have hlz := hz.Zex Zav
  have hl1 := hs.1
  obtain ⟨r, g1, M', rfl⟩ := Zke (E := ES) (me := Zdw) (B := Zjp) (len := l.length) (T := fun j => Zia y z (.int .i64 j)) (I := fun _ _ => True)
    (Q := fun r => ∃ M', r = (.exit 0, ⟨(Zia y z (.int .i64 l.length)).set 14 (.bool false), M'⟩))
    (fun j M hj _ => by
      left
      have hw : IntKind.i64.wrap ((j : Int) + 1) = (j : Int) + 1 := i64_in (by omega) (by omega)
      obtain ⟨u, u1, u2, u3, _⟩ := hy.item Zav Zde Zwy hj
      obtain ⟨v, v1, v2, v3, _⟩ := hz.item Zav Zde Zwy hj
      obtain ⟨s1, s2, s3⟩ := hs.2 l[j] (List.getElem_mem hj)
      have k := fun get => Z3g get u1 v1 s1 s3 s2
      obtain ⟨N, A, rfl, _, _, _, _⟩ := u1
      obtain ⟨N', A', rfl, _, _, _, _⟩ := v1
      simp only [clC] at u2 v2 k
      refine ⟨M, ?_, trivial⟩
      simp (maxSteps := 4000000) [Zjp, Zf, Zd, Ze, Zl, Zn, Zo, TK.agg, Zb, zeroS, Zi, Zg, splice, Zx, Z5, Zk, Zia, hly, hj, u2, u3, v2, v3, k, hw])
    (fun M _ => ⟨_, by simp [Zjp, Zf, Zd, Ze, Zl, TK.agg, zeroS, Zx, Z5, Zia, hly], by simp, M, rfl⟩) 0 M0 (by omega) trivial
  simp [Zia] at g1
  simp [Zqh, Zf, Zd, Ze, Zl, TK.agg, zeroS, Zx, Z5, hly, hlz, Zqs, g1]

theorem Zae1 {c : Cfg} (hr : Zcq c = true) {l : List Cel} (h : Zjn c l = true) : Short l := by
  have hrf := Zgp hr
  obtain ⟨h1, h2⟩ := Zrc.1 h
  refine ⟨by omega, fun x hx => ?_⟩
  obtain ⟨p, hp, rfl⟩ := List.mem_iff_getElem.1 hx
  obtain ⟨f1, f2, f3, f4⟩ := Zsx.1 (h2 p hp (by omega))
  have hnb := Zks (Ze5 (by simpa [Zcq] using hr)) p
  have hna := Zk2 (c := c) (p := p) (by omega)
  have := Zagp f4
  refine ⟨by omega, by omega, fun n hn => ?_⟩
  have := Zag3 (f2 n hn)
  omega
structure C24I (K : List SV) (c : Cfg) (m : Nat) (o : SV) (items : List SV) (cs : List Cel) (M : Mem) : Prop where
  hc : M.blk m = some [.agg K]
  lt : m + 2 ≤ M.next
  ow : OwC (m + 2) M o items cs
  fine : ∀ (j : Nat) (hj : j < cs.length) (hp : j < c.parts.length), Zvc c c.parts[j].nodes cs[j] = true
set_option maxHeartbeats 16000000 in
theorem Zai5 {P L : SV} {c : Cfg} (hP : Zi2 c P L) (hfit : Zsf c = true) {xl : SV} {l : List Cel} (hx : Zv7 xl l) (hsm : ∀ x ∈ l, x.nodes.length ≤ 1000) {m : Nat} {o : SV} {items : List SV} {cs : List Cel} {M : Mem} {i : Nat} (hi : i < c.parts.length) (h : C24I (Z7 c P L) c m o items cs M) (hl : cs.length = i) :
    ∃ M' o' items' cs', evW ES Ze7 Zjb ⟨Zhd xl (.ptr m 0 0) o (.int .i64 i), M⟩ = some (.normal, ⟨Zhd xl (.ptr m 0 0) o' (.int .i64 ((i + 1 : Nat) : Int)), M'⟩) ∧ C24I (Z7 c P L) c m o' items' cs' M' ∧ cs'.length = i + 1 := by
  have hfr := Zgp (Zec.1 hfit).1
  have hw : IntKind.i64.wrap ((i : Int) + 1) = (i : Int) + 1 := i64_in (by omega) (by omega)
  have hlx := hx.Zex Zav
  have hlp := hP.p.Zex Za1
  have hlk : (Z7 c P L).length = 13 := rfl
  have hK0 : (Z7 c P L)[0]? = some P := rfl
  have hMade := fun {xc : Cel} {NX AX : SV} (h1 : Nds NX xc.nodes) (h2 : Ints AX xc.ages) (h3 : xc.nodes.length ≤ 1000) (h4 : Sh.pv NX = true) (h5 : Sh.pv AX = true) M => Zag6 false hP hfit hi h1 h2 h3 h4 h5 M
  have hcb := h.hc
  have hlt := h.lt
  generalize Z7 c P L = K at *
  have hK0' : K[0]'(by omega) = P := by simpa [hlk] using hK0
  obtain ⟨xc, NX, AX, hN, hA, hpN, hpA, hsz, hcell⟩ : ∃ (xc : Cel) (NX AX : SV), Nds NX xc.nodes ∧ Ints AX xc.ages ∧ Sh.pv NX = true ∧ Sh.pv AX = true ∧ xc.nodes.length ≤ 1000 ∧
      ((¬ i < l.length ∧ clC xc NX AX = [.nilsl, .bool false, .int .i64 0, .nilsl]) ∨ (i < l.length ∧ Z9 ES.P Zt xl (.int .i64 i) = some (.rptr (its xl) i 0 (Zwi xl)) ∧ (its xl)[i]? = some (.agg (clC xc NX AX)))) := by
    by_cases hil : i < l.length
    · obtain ⟨y, ⟨N, A, rfl, q1, q2, q3, q4⟩, hy, ha, _⟩ := hx.item Zav Zde Zwy hil
      exact ⟨l[i], N, A, q1, q2, q3, q4, hsm _ (List.getElem_mem hil), .inr ⟨hil, ha, hy⟩⟩
    · exact ⟨⟨[], false, 0, []⟩, .nilsl, .nilsl, RSl.nil _, RSl.nil _, rfl, rfl, by simp, .inl ⟨hil, rfl⟩⟩
  obtain ⟨M2, on, st, Ag, w, ns, m1, m2, m3, m4, m5, m6, m6b, m7, m8, m9⟩ := hMade hN hA hsz hpN hpA (((M.bump 3).set (M.next + 1) (some [.agg (clC xc NX AX)])).bump 8)
  have e11 : (((M.bump 3).set (M.next + 1) (some [.agg (clC xc NX AX)])).bump 8).next = M.next + 11 := rfl
  rw [e11] at m1 m2 m9
  rw [show M.next + 11 + 16 = M.next + 27 by omega] at m1 m2
  obtain ⟨nl, k1, k2, k3⟩ := Zapy m4
  have hOld : Old M M2 := fun id hid => by
    have q2 : ¬ id = M.next + 1 := by omega
    rw [m8 id (by rw [e11]; omega)]
    simp [q2]
  have hit : items.length ≤ 1000000 := by have := h.ow.ln; have := hfr.2; omega
  obtain ⟨o', k, M4, p1, p2, p3, p4, p5⟩ := h.ow.app (M2 := M2) hOld (by omega) (s := M.next + 3 + 5) (a := M.next + 3 + 6) (by omega) (by omega) (by omega) (by omega) (x := ⟨nl, on, st, w⟩) (N := .own (M.next + 27) 8 0 ns.length) (Ag := Ag) ⟨ns, .inr ⟨_, rfl, m2, by omega⟩, k1⟩ (fun id e u q hh => by cases hh; omega) m5 m7 hit
  have bs : ∀ (q : Nat) (u1 : SV) (u2 : Bool) (u3 : Int) (u4 : SV), Zf7 ES.P Zt 1 q [(0, .agg [u1, .bool u2, .int .i64 u3, u4])] = some (.own q 4 0 1, [.agg [u1, .bool u2, .int .i64 u3, u4]]) := fun q u1 u2 u3 u4 => by simp [Zf7, Zb4]
  have bz : Zny ES.P Zq [] = some (.agg [.nilsl, .bool false, .int .i64 0, .nilsl]) := by simp [Zny, placesOf, Zeb]
  have d1 : ¬ m = M.next + 1 := by omega
  have d2 : ¬ m = M.next := by omega
  refine ⟨M4, o', items ++ [.agg (clC ⟨nl, on, st, w⟩ (.own (M.next + 27) 8 0 ns.length) Ag)], cs ++ [⟨nl, on, st, w⟩], ?_, ⟨(p5 m (by omega)).trans hcb, by rw [p4]; omega, p3, fun j hj hp => ?_⟩, by simp [hl]⟩
  · by_cases hil2 : i < l.length
    · obtain ⟨_, e1, e2⟩ : i < l.length ∧ Z9 ES.P Zt xl (.int .i64 i) = some (.rptr (its xl) i 0 (Zwi xl)) ∧ (its xl)[i]? = some (.agg (clC xc NX AX)) := by
        rcases hcell with ⟨h1, _⟩ | h1
        · exact absurd hil2 h1
        · exact h1
      simp only [clC] at e2 m1 p1 p2
      simp (maxSteps := 4000000) [Zjb, Zf, Zd, Ze, Zl, Zn, Zo, TK.agg, Zb, zeroS, Zi, Zg, splice, Zx, Z5, Zk, Zhd, Mem.set2, hcb, hlk, hK0', hlp, hi, hlx, hil2, e1, e2, m1, bz, bs, p1, p2, hw, d1, d2, Zz hN.sl, Zax hN.sl, Zz hA.sl, Zax hA.sl, Zz m5.sl, Zax m5.sl]
    · have e1 : clC xc NX AX = [.nilsl, .bool false, .int .i64 0, .nilsl] := by
        rcases hcell with ⟨_, h2⟩ | ⟨h1, _⟩
        · exact h2
        · exact absurd h1 hil2
      rw [e1] at m1
      simp only [clC] at m1 p1 p2
      simp (maxSteps := 4000000) [Zjb, Zf, Zd, Ze, Zl, Zn, Zo, TK.agg, Zb, zeroS, Zi, Zg, splice, Zx, Z5, Zk, Zhd, Mem.set2, hcb, hlk, hK0', hlp, hi, hlx, hil2, m1, bz, bs, p1, p2, hw, d1, d2, Zz m5.sl, Zax m5.sl]
  · by_cases hjc : j < cs.length
    · rw [List.getElem_append_left hjc]
      exact h.fine j hjc hp
    · have hj2 : j = cs.length := by simp at hj; omega
      subst hj2
      rw [List.getElem_append_right (Nat.le_refl _)]
      simp only [Nat.sub_self, List.getElem_cons_zero]
      refine Zsx.2 ⟨?_, k2, m6b, m6⟩
      rw [show (Cel.nodes ⟨nl, on, st, w⟩) = nl from rfl, k3]
      have : c.parts[cs.length]'hp = c.parts[i] := by congr 1
      rw [this]
      exact m3
set_option maxHeartbeats 4000000 in
theorem Zac1 {P L : SV} {c : Cfg} (hP : Zi2 c P L) (hfit : Zsf c = true) {xl : SV} {l : List Cel} (hx : Zv7 xl l) (hpx : Sh.pv xl = true) (hsm : ∀ x ∈ l, x.nodes.length ≤ 1000) :
    ∃ z cs, (∀ get, Za0 (PCw ES) get Ze7 [.agg (Z7 c P L), xl] = some z) ∧ Zv7 z cs ∧ Sh.pv z = true ∧ Zjn c cs = true := by
  have hlk : (Z7 c P L).length = 13 := rfl
  have hlp := hP.p.Zex Za1
  have hK0 : (Z7 c P L)[0]? = some P := rfl
  have step := fun {m : Nat} {o : SV} {items : List SV} {cs : List Cel} {M : Mem} {i : Nat} (hi : i < c.parts.length) => @Zai5 P L c hP hfit xl l hx hsm m o items cs M i hi
  have hnK := hP.npA
  generalize Z7 c P L = K at *
  have hK0' : K[0]'(by omega) = P := by simpa [hlk] using hK0
  have all : ∀ M0 : Mem, ∃ o M' items cs, ICw ES Ze7 [.agg K, xl] M0 = some (o, M') ∧ C24I K c M0.next o items cs M' ∧ cs.length = c.parts.length := fun M0 => by
    rw [Zac9]
    obtain ⟨r, g1, Ma, o, items, cs, rfl, hI, hcs⟩ := Zr0 (E := ES) (me := Ze7) (B := Zjb) (β := SV × List SV × List Cel) (len := c.parts.length) (T := fun j o => Zhd xl (.ptr M0.next 0 0) o.1 (.int .i64 j))
      (I := fun j o M => C24I K c M0.next o.1 o.2.1 o.2.2 M ∧ o.2.2.length = j)
      (Q := fun r => ∃ M' o items cs, r = (.exit 0, ⟨(Zhd xl (.ptr M0.next 0 0) o (.int .i64 c.parts.length)).set 12 (.bool false), M'⟩) ∧ C24I K c M0.next o items cs M' ∧ cs.length = c.parts.length)
      (fun j o M hj ⟨i1, i2⟩ => by
        left
        obtain ⟨M', o', items', cs', a1, a2, a3⟩ := step hj i1 i2
        exact ⟨(o', items', cs'), M', a1, a2, a3⟩)
      (fun o M ⟨i1, i2⟩ => by
        have hcb := i1.hc
        exact ⟨_, by simp [Zjb, Zf, Zd, Ze, Zl, Zn, Zo, TK.agg, Zb, zeroS, Zi, Zg, splice, Zx, Z5, Zk, Zhd, hcb, hlk, hK0', hlp], by simp, M, o.1, o.2.1, o.2.2, rfl, i1, i2⟩) 0 (.nilsl, [], []) ((M0.bump 2).set M0.next (some [.agg K])) (by omega)
      ⟨⟨by simp, by show M0.next + 2 ≤ M0.next + 2; omega, OwC.nil _ _, fun j hj => by simp at hj⟩, rfl⟩
    simp [Zhd] at g1
    refine ⟨o, Ma, items, cs, ?_, hI, hcs⟩
    simp [Zuc, Zf, Zd, Ze, Zl, TK.agg, zeroS, Zx, Z5, Zt9, g1]
  obtain ⟨o, M', items, cs, h1, h2, h3⟩ := all .empty
  obtain ⟨z, z1, z2, z3⟩ := Zajr h1 h2.ow
  exact ⟨z, cs, fun get => Z4 z1 (by simp [hnK, Zac hpx]), z2, z3, Zrc.2 ⟨h3, h2.fine⟩⟩
theorem Zamt : PCw ES Ze7 [.agg (Z7 xC xP xL), .nilsl] = some (Zaab 0) := Zeu 200 (by kernel_rfl)
theorem x24 : doG xC [xCel 0, xCel 0] 3 ⟨5, 1, 0, 0, []⟩ = ([xCel 0, ⟨List.replicate 6 ⟨1, 0, 0, 60000, 0, [], 0, 0⟩, false, 0, []⟩], 0) := by kernel_rfl
theorem Zauw (s : Int) : Short [xCel s, xCel s] := ⟨by simp, fun x hx => by
  have : x = xCel s := by simpa using hx
  subst this
  refine ⟨by simp [xCel], by simp [xCel], fun n hn => ?_⟩
  have : n = xN s := by simpa [xCel] using hn
  subst this
  simp [xN]⟩
set_option maxHeartbeats 8000000 in
theorem Zaaf : PCw ES Zdd [] = some (.bool true) := by
  refine Za4 (fun M => ?_) rfl
  rw [Zads]
  have h0 := fun get => Z4 (get := get) Zaut rfl
  have h1 := fun get => Z4 (get := get) Zamt rfl
  obtain ⟨z, z1, z2, _⟩ := Zv9 xCfg rfl (Zavv 0) (Zakz 0) (Zauw 0) 3 (e := ⟨5, 1, 0, 0, []⟩) (ey := .agg [.int .i64 5, .int .i64 1, .int .i64 0, .int .i64 0, .nilsl]) ⟨.nilsl, rfl, RSl.nil _, rfl⟩
  rw [x24] at z1 z2
  have hlz := z2.Zex Zav
  simp only [List.length_cons, List.length_nil] at hlz
  obtain ⟨y, ⟨N, A, rfl, hN, hA, _, _⟩, y2, y3, _⟩ := z2.item Zav Zde Zwy (j := 1) (by simp)
  obtain ⟨w, ⟨N', A', rfl, hN', hA', _, _⟩, w2, w3, _⟩ := z2.item Zav Zde Zwy (j := 0) (by simp)
  simp only [List.getElem_cons_zero, List.getElem_cons_succ] at hN hN' y2 w2
  have hln := hN.Zex Zae
  rw [List.length_replicate] at hln
  obtain ⟨u, ⟨B, rfl, hB, _⟩, u2, u3, _⟩ := hN.item Zae Zb8 Zty (j := 5) (by simp)
  obtain ⟨v, ⟨B', rfl, hB', _⟩, v2, v3, _⟩ := hN'.item Zae Zb8 Zty (j := 0) (by simp [xCel])
  simp only [List.getElem_replicate, ndC, xCel, xN, clC] at u2 v2 y2 w2
  have y3' : Z9 ES.P Zt z (.int .i64 1) = some (.rptr (its z) 1 0 (Zwi z)) := y3
  have w3' : Z9 ES.P Zt z (.int .i64 0) = some (.rptr (its z) 0 0 (Zwi z)) := w3
  have u3' : Z9 ES.P Zj N (.int .i64 5) = some (.rptr (its N) 5 0 (Zwi N)) := u3
  have v3' : Z9 ES.P Zj N' (.int .i64 0) = some (.rptr (its N') 0 0 (Zwi N')) := v3
  have hlk : (Z7 xC xP xL).length = 13 := rfl
  have hcy : (Z7 xC xP xL)[2]? = some (.int .i64 20000) := rfl
  generalize Z7 xC xP xL = K at *
  have hcy' : K[2]'(by omega) = .int .i64 20000 := by simpa [hlk] using hcy
  generalize Zaab 0 = u0 at *
  have be : Zny ES.P Zu [(0, .int .i64 5), (1, .int .i64 1)] = some (.agg [.int .i64 5, .int .i64 1, .int .i64 0, .int .i64 0, .nilsl]) := by simp [Zny, placesOf, Zeb, splice]
  have hw : IntKind.i64.wrap 60000 = 60000 := i64_in (by omega) (by omega)
  simp (maxSteps := 4000000) [Zup, Zf, Zd, Ze, Zl, Zn, Zo, TK.agg, Zb, zeroS, Zi, Zg, splice, Zx, Z5, Zk, h0, h1, hlk, hcy', be, z1, hlz, y2, y3', w2, w3', hln, u2, u3', v2, v3', hw]
@[simp] theorem Zasx (get) : Za0 (PCw ES) get Zdd [] = some (.bool true) := Z4 Zaaf rfl
theorem Zafk {n now : Int} (h : Znu now = true) : I64 (now * (Zck n).cycle) := by
  have hcy := (Zg7 (Zec.1 (Zaff n)).2.1).cy
  simp only [Znu, decide_eq_true_eq] at h
  have h1 : 0 ≤ now * (Zck n).cycle := Int.mul_nonneg h.1 (by omega)
  have h2 : now * (Zck n).cycle ≤ 1000 * 1000000 := Int.mul_le_mul h.2 hcy.2 (by omega) (by decide)
  unfold I64
  omega
theorem Zamn {n : Int} {P L : SV} (hm : ∀ get, Za0 (PCw ES) get Zb9 [.int .i64 n] = some (.agg (Z7 (Zck n) P L))) : Sh.pv (.agg (Z7 (Zck n) P L)) = true := Zavt (hm fun _ => none)
theorem Zx29 {v : Int} (h : (Lit.int .u8 v).wf = true) : (0 ≤ v ∧ v ≤ 255) ∧ IntKind.i64.wrap v = v := by
  have : 0 ≤ v ∧ v ≤ 255 := by
    simp [Lit.wf, IntKind.min, IntKind.max, IntKind.bits, IntKind.signed] at h
    omega
  exact ⟨this, i64_in (by omega) (by omega)⟩
end Go.Proofs.YtfphjfbknphhjaaGreatDoor
