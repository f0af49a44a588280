/-
  errors.As and errors.Is, by their contracts, at what this program hands them (written by a program of the claim's own after the guide's worked examples).
-/
import Derived.Test.YtomlbmbgocmiiaaGreatDoorRows
import Derived.Test.YtomlbmbgocmiiaaGreatDoorShMb
import Derived.WalkKit
import Derived.LaidEql
import Derived.Stop.Asserts
import Derived.RowKitTokens
set_option linter.unusedVariables false
set_option linter.unusedSimpArgs false
set_option maxRecDepth 100000
namespace Go.Proofs.YtomlbmbgocmiiaaGreatDoor
open Go.RowKit Go.Extern.Stop Go.Stop Go.Extern

/-! errors.Is at *plan.fault, the target a plan.code -/
theorem isP_typeOf (v : Value) (w : World) : (Extern.ReflectliteType.typeOf #[.iface 155 v]).run Tryz.prog w = .ok (.iface 195 (.agg #[.pointer (some ⟨2, 155, none⟩)])) w := by kernel_rfl
theorem isP_comparable' (w : World) : ((Extern.ReflectliteType.method fun t => do Extern.Rtype.noPackHeld "Comparable" t; pure (.bool (← typeInfo t).comparable)) #[.agg #[.pointer (some ⟨2, 155, none⟩)]]).run Tryz.prog w = .ok (.bool true) w := by kernel_rfl
theorem isP_comparable (w : World) : ((Extern.ReflectliteType.method fun t => do Extern.Rtype.noPackHeld "Comparable" t; (fun a => Value.bool a.comparable) <$> typeInfo t) #[.agg #[.pointer (some ⟨2, 155, none⟩)]]).run Tryz.prog w = .ok (.bool true) w := by kernel_rfl
theorem is_methodComparable (v : Value) (w : World) : (Go.method 360 195 v "Comparable").run Tryz.prog w = .ok (210, v) w := by kernel_rfl
theorem isP_noIsE (v : Value) (xT : TypeId) (w : World) : (Instr.typeAssert (.iface 155 v) xT 207 true).run Tryz.prog w = .ok (.tuple #[.nilIface, .bool false]) w := run_typeAssert_lacksB Tryz.underlying207 (by kernel_rfl) (by kernel_rfl) v xT w
theorem isP_noUnwrapE (v : Value) (xT : TypeId) (w : World) : (Instr.typeAssert (.iface 155 v) xT 202 true).run Tryz.prog w = .ok (.tuple #[.nilIface, .bool false]) w := run_typeAssert_lacksB Tryz.underlying202 (by kernel_rfl) (by kernel_rfl) v xT w
theorem isP_noUnwrapsE (v : Value) (xT : TypeId) (w : World) : (Instr.typeAssert (.iface 155 v) xT 204 true).run Tryz.prog w = .ok (.tuple #[.nilIface, .bool false]) w := run_typeAssert_lacksB Tryz.underlying204 (by kernel_rfl) (by kernel_rfl) v xT w
theorem isP_noIsW (v : Value) (xT : TypeId) (w : World) : (Instr.typeAssert (.iface 152 v) xT 207 true).run Tryz.prog w = .ok (.tuple #[.nilIface, .bool false]) w := run_typeAssert_lacksB Tryz.underlying207 (by kernel_rfl) (by kernel_rfl) v xT w
theorem isP_hasUnwrapW (v : Value) (xT : TypeId) (w : World) : (Instr.typeAssert (.iface 152 v) xT 202 true).run Tryz.prog w = .ok (.tuple #[.iface 152 v, .bool true]) w := run_typeAssert_hasB Tryz.underlying202 (by kernel_rfl) v xT w
theorem isP_methodUnwrap (v : Value) (w : World) : (Go.method 360 152 v "Unwrap").run Tryz.prog w = .ok (203, v) w := by kernel_rfl
theorem isP_eql (m n : Int) (w : World) : (binOp .eql 137 (.iface 155 (.int .i64 m)) (.iface 155 (.int .i64 n))).run Tryz.prog w = .ok (.bool (m == n)) w := by kernel_rfl

theorem isP_hit (pb po : Nat) (m n : Int) (w : World) (h1 : w.cell? ⟨pb, po + 1, none⟩ = some (.iface 155 (.int .i64 m))) :
    Calls Tryz.prog 121 #[.iface 152 (.pointer (some ⟨pb, po, none⟩)), .iface 155 (.int .i64 n)] w fun e w' => e = .returned (.bool (m == n)) ∧ w' = w := by
  have h8 := @run_callFunc_extern Tryz.prog 143 _ Extern.ReflectliteType.typeOf Tryz.func143 (by kernel_rfl) (by kernel_rfl) (by kernel_rfl) (by kernel_rfl)
  have h32 := @run_callFunc_extern Tryz.prog 210 _ (Extern.ReflectliteType.method fun t => do Extern.Rtype.noPackHeld "Comparable" t; pure (.bool (← typeInfo t).comparable)) Tryz.func210 (by kernel_rfl) (by kernel_rfl) (by kernel_rfl) (by kernel_rfl)
  have tT := isP_typeOf
  have cT := isP_comparable
  have cT' := isP_comparable'
  have mR := is_methodComparable
  have nE := isP_noIsE
  have uE := isP_noUnwrapE
  have vE := isP_noUnwrapsE
  have nW := isP_noIsW
  have uW := isP_hasUnwrapW
  have mU := isP_methodUnwrap
  have heq := isP_eql m n w
  have hty := run_eql_iface_types (P := Tryz.prog) 152 155 (.pointer (some ⟨pb, po, none⟩)) (.int .i64 n) Tryz.underlying137 (by decide) w
  by_cases hmn : m = n
  · subst hmn
    have hb : (m == m) = true := by simp
    rw [hb] at heq ⊢
    go_enter Tryz.func121, Tryz.ntmps121
    go_wp2
    refine wp_loop_rounds 2 ?_
    rw [rounds_succ]
    go_wp2
    rw [rounds_succ]
    go_wp2
    refine ⟨rfl, .bool true, ?_, rfl, rfl⟩
    rw [results_tmp rfl]
    rfl
  · have hb : (m == n) = false := by simp [hmn]
    rw [hb] at heq ⊢
    go_enter Tryz.func121, Tryz.ntmps121
    go_wp2
    refine wp_loop_rounds 2 ?_
    rw [rounds_succ]
    go_wp2
    rw [rounds_succ]
    go_wp2
    refine ⟨rfl, .bool false, ?_, rfl, rfl⟩
    rw [results_tmp rfl]
    rfl

/-! errors.Is at *bounds.fault, the target what it wraps -/
theorem isB_typeOf (v : Value) (w : World) : (Extern.ReflectliteType.typeOf #[.iface 226 v]).run Tryz.prog w = .ok (.iface 195 (.agg #[.pointer (some ⟨2, 226, none⟩)])) w := by kernel_rfl
theorem isB_comparable' (w : World) : ((Extern.ReflectliteType.method fun t => do Extern.Rtype.noPackHeld "Comparable" t; pure (.bool (← typeInfo t).comparable)) #[.agg #[.pointer (some ⟨2, 226, none⟩)]]).run Tryz.prog w = .ok (.bool true) w := by kernel_rfl
theorem isB_comparable (w : World) : ((Extern.ReflectliteType.method fun t => do Extern.Rtype.noPackHeld "Comparable" t; (fun a => Value.bool a.comparable) <$> typeInfo t) #[.agg #[.pointer (some ⟨2, 226, none⟩)]]).run Tryz.prog w = .ok (.bool true) w := by kernel_rfl
theorem isB_comp : (Tryz.prog.info? 226).map (·.comparable) = some true := by kernel_rfl
theorem isB_size : (Tryz.prog.info? 248).map (·.size) = some 1 := by kernel_rfl
theorem isB_noIsE (v : Value) (xT : TypeId) (w : World) : (Instr.typeAssert (.iface 226 v) xT 207 true).run Tryz.prog w = .ok (.tuple #[.nilIface, .bool false]) w := run_typeAssert_lacksB Tryz.underlying207 (by kernel_rfl) (by kernel_rfl) v xT w
theorem isB_noIsW (v : Value) (xT : TypeId) (w : World) : (Instr.typeAssert (.iface 139 v) xT 207 true).run Tryz.prog w = .ok (.tuple #[.nilIface, .bool false]) w := run_typeAssert_lacksB Tryz.underlying207 (by kernel_rfl) (by kernel_rfl) v xT w
theorem isB_hasUnwrapW (v : Value) (xT : TypeId) (w : World) : (Instr.typeAssert (.iface 139 v) xT 202 true).run Tryz.prog w = .ok (.tuple #[.iface 139 v, .bool true]) w := run_typeAssert_hasB Tryz.underlying202 (by kernel_rfl) v xT w
theorem isB_methodUnwrap (v : Value) (w : World) : (Go.method 360 139 v "Unwrap").run Tryz.prog w = .ok (201, v) w := by kernel_rfl

theorem isB_hit (pb po : Nat) (b : Addr) (w : World) (h1 : w.cell? ⟨pb, po + 1, none⟩ = some (.iface 226 (.pointer (some b)))) :
    Calls Tryz.prog 121 #[.iface 139 (.pointer (some ⟨pb, po, none⟩)), .iface 226 (.pointer (some b))] w fun e w' => e = .returned (.bool true) ∧ w' = w := by
  obtain ⟨i, hi, hcmp⟩ := Option.map_eq_some_iff.1 isB_comp
  obtain ⟨j, hj, hjs⟩ := Option.map_eq_some_iff.1 isB_size
  have h8 := @run_callFunc_extern Tryz.prog 143 _ Extern.ReflectliteType.typeOf Tryz.func143 (by kernel_rfl) (by kernel_rfl) (by kernel_rfl) (by kernel_rfl)
  have h32 := @run_callFunc_extern Tryz.prog 210 _ (Extern.ReflectliteType.method fun t => do Extern.Rtype.noPackHeld "Comparable" t; pure (.bool (← typeInfo t).comparable)) Tryz.func210 (by kernel_rfl) (by kernel_rfl) (by kernel_rfl) (by kernel_rfl)
  have tT := isB_typeOf
  have cT := isB_comparable
  have cT' := isB_comparable'
  have mR := is_methodComparable
  have nE := isB_noIsE
  have nW := isB_noIsW
  have uW := isB_hasUnwrapW
  have mU := isB_methodUnwrap
  have heq := run_eql_iface_ptr_same (P := Tryz.prog) w b Tryz.underlying137 Tryz.underlying226 hi hcmp hj
  have hty := run_eql_iface_types (P := Tryz.prog) 139 226 (.pointer (some ⟨pb, po, none⟩)) (.pointer (some b)) Tryz.underlying137 (by decide) w
  go_enter Tryz.func121, Tryz.ntmps121
  go_wp2
  refine wp_loop_rounds 2 ?_
  rw [rounds_succ]
  go_wp2
  rw [rounds_succ]
  go_wp2
  refine ⟨rfl, .bool true, ?_, rfl, rfl⟩
  rw [results_tmp rfl]
  rfl
end Go.Proofs.YtomlbmbgocmiiaaGreatDoor
