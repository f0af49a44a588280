/-
  errors.As and errors.Is, by their contracts, at what this program hands them (written by a program of the claim's own after the guide's worked examples).
-/
import Derived.Test.YtjhlibdiojepaaaGreatDoorRows
import Derived.Test.YtjhlibdiojepaaaGreatDoorShMb
import Derived.WalkKit
import Derived.LaidEql
import Derived.Stop.Asserts
import Derived.RowKitTokens
set_option linter.unusedVariables false
set_option linter.unusedSimpArgs false
set_option maxRecDepth 100000
namespace Go.Proofs.YtjhlibdiojepaaaGreatDoor
open Go.RowKit Go.Extern.Stop Go.Stop Go.Extern

/-! errors.Is at *plan.fault, the target a plan.code -/
theorem isP_typeOf (v : Value) (w : World) : (Extern.ReflectliteType.typeOf #[.iface 133 v]).run Tryz.prog w = .ok (.iface 158 (.agg #[.pointer (some ⟨2, 133, none⟩)])) w := by kernel_rfl
theorem isP_comparable' (w : World) : ((Extern.ReflectliteType.method fun t => do Extern.Rtype.noPackHeld "Comparable" t; pure (.bool (← typeInfo t).comparable)) #[.agg #[.pointer (some ⟨2, 133, none⟩)]]).run Tryz.prog w = .ok (.bool true) w := by kernel_rfl
theorem isP_comparable (w : World) : ((Extern.ReflectliteType.method fun t => do Extern.Rtype.noPackHeld "Comparable" t; (fun a => Value.bool a.comparable) <$> typeInfo t) #[.agg #[.pointer (some ⟨2, 133, none⟩)]]).run Tryz.prog w = .ok (.bool true) w := by kernel_rfl
theorem is_methodComparable (v : Value) (w : World) : (Go.method 337 158 v "Comparable").run Tryz.prog w = .ok (180, v) w := by kernel_rfl
theorem isP_noIsE (v : Value) (xT : TypeId) (w : World) : (Instr.typeAssert (.iface 133 v) xT 170 true).run Tryz.prog w = .ok (.tuple #[.nilIface, .bool false]) w := run_typeAssert_lacksB Tryz.underlying170 (by kernel_rfl) (by kernel_rfl) v xT w
theorem isP_noUnwrapE (v : Value) (xT : TypeId) (w : World) : (Instr.typeAssert (.iface 133 v) xT 165 true).run Tryz.prog w = .ok (.tuple #[.nilIface, .bool false]) w := run_typeAssert_lacksB Tryz.underlying165 (by kernel_rfl) (by kernel_rfl) v xT w
theorem isP_noUnwrapsE (v : Value) (xT : TypeId) (w : World) : (Instr.typeAssert (.iface 133 v) xT 167 true).run Tryz.prog w = .ok (.tuple #[.nilIface, .bool false]) w := run_typeAssert_lacksB Tryz.underlying167 (by kernel_rfl) (by kernel_rfl) v xT w
theorem isP_noIsW (v : Value) (xT : TypeId) (w : World) : (Instr.typeAssert (.iface 130 v) xT 170 true).run Tryz.prog w = .ok (.tuple #[.nilIface, .bool false]) w := run_typeAssert_lacksB Tryz.underlying170 (by kernel_rfl) (by kernel_rfl) v xT w
theorem isP_hasUnwrapW (v : Value) (xT : TypeId) (w : World) : (Instr.typeAssert (.iface 130 v) xT 165 true).run Tryz.prog w = .ok (.tuple #[.iface 130 v, .bool true]) w := run_typeAssert_hasB Tryz.underlying165 (by kernel_rfl) v xT w
theorem isP_methodUnwrap (v : Value) (w : World) : (Go.method 337 130 v "Unwrap").run Tryz.prog w = .ok (173, v) w := by kernel_rfl
theorem isP_eql (m n : Int) (w : World) : (binOp .eql 113 (.iface 133 (.int .i64 m)) (.iface 133 (.int .i64 n))).run Tryz.prog w = .ok (.bool (m == n)) w := by kernel_rfl

theorem isP_hit (pb po : Nat) (m n : Int) (w : World) (h1 : w.cell? ⟨pb, po + 1, none⟩ = some (.iface 133 (.int .i64 m))) :
    Calls Tryz.prog 81 #[.iface 130 (.pointer (some ⟨pb, po, none⟩)), .iface 133 (.int .i64 n)] w fun e w' => e = .returned (.bool (m == n)) ∧ w' = w := by
  have h8 := @run_callFunc_extern Tryz.prog 106 _ Extern.ReflectliteType.typeOf Tryz.func106 (by kernel_rfl) (by kernel_rfl) (by kernel_rfl) (by kernel_rfl)
  have h32 := @run_callFunc_extern Tryz.prog 180 _ (Extern.ReflectliteType.method fun t => do Extern.Rtype.noPackHeld "Comparable" t; pure (.bool (← typeInfo t).comparable)) Tryz.func180 (by kernel_rfl) (by kernel_rfl) (by kernel_rfl) (by kernel_rfl)
  have tT := isP_typeOf
  have cT := isP_comparable
  have cT' := isP_comparable'
  have mR := is_methodComparable
  have nE := isP_noIsE
  have uE := isP_noUnwrapE
  have vE := isP_noUnwrapsE
  have nW := isP_noIsW
  have uW := isP_hasUnwrapW
  have mU := isP_methodUnwrap
  have heq := isP_eql m n w
  have hty := run_eql_iface_types (P := Tryz.prog) 130 133 (.pointer (some ⟨pb, po, none⟩)) (.int .i64 n) Tryz.underlying113 (by decide) w
  by_cases hmn : m = n
  · subst hmn
    have hb : (m == m) = true := by simp
    rw [hb] at heq ⊢
    go_enter Tryz.func81, Tryz.ntmps81
    go_wp2
    refine wp_loop_rounds 2 ?_
    rw [rounds_succ]
    go_wp2
    rw [rounds_succ]
    go_wp2
    refine ⟨rfl, .bool true, ?_, rfl, rfl⟩
    rw [results_tmp rfl]
    rfl
  · have hb : (m == n) = false := by simp [hmn]
    rw [hb] at heq ⊢
    go_enter Tryz.func81, Tryz.ntmps81
    go_wp2
    refine wp_loop_rounds 2 ?_
    rw [rounds_succ]
    go_wp2
    rw [rounds_succ]
    go_wp2
    refine ⟨rfl, .bool false, ?_, rfl, rfl⟩
    rw [results_tmp rfl]
    rfl

/-! errors.Is at *bounds.fault, the target what it wraps -/
theorem isB_typeOf (v : Value) (w : World) : (Extern.ReflectliteType.typeOf #[.iface 205 v]).run Tryz.prog w = .ok (.iface 158 (.agg #[.pointer (some ⟨2, 205, none⟩)])) w := by kernel_rfl
theorem isB_comparable' (w : World) : ((Extern.ReflectliteType.method fun t => do Extern.Rtype.noPackHeld "Comparable" t; pure (.bool (← typeInfo t).comparable)) #[.agg #[.pointer (some ⟨2, 205, none⟩)]]).run Tryz.prog w = .ok (.bool true) w := by kernel_rfl
theorem isB_comparable (w : World) : ((Extern.ReflectliteType.method fun t => do Extern.Rtype.noPackHeld "Comparable" t; (fun a => Value.bool a.comparable) <$> typeInfo t) #[.agg #[.pointer (some ⟨2, 205, none⟩)]]).run Tryz.prog w = .ok (.bool true) w := by kernel_rfl
theorem isB_comp : (Tryz.prog.info? 205).map (·.comparable) = some true := by kernel_rfl
theorem isB_size : (Tryz.prog.info? 226).map (·.size) = some 1 := by kernel_rfl
theorem isB_noIsE (v : Value) (xT : TypeId) (w : World) : (Instr.typeAssert (.iface 205 v) xT 170 true).run Tryz.prog w = .ok (.tuple #[.nilIface, .bool false]) w := run_typeAssert_lacksB Tryz.underlying170 (by kernel_rfl) (by kernel_rfl) v xT w
theorem isB_noIsW (v : Value) (xT : TypeId) (w : World) : (Instr.typeAssert (.iface 115 v) xT 170 true).run Tryz.prog w = .ok (.tuple #[.nilIface, .bool false]) w := run_typeAssert_lacksB Tryz.underlying170 (by kernel_rfl) (by kernel_rfl) v xT w
theorem isB_hasUnwrapW (v : Value) (xT : TypeId) (w : World) : (Instr.typeAssert (.iface 115 v) xT 165 true).run Tryz.prog w = .ok (.tuple #[.iface 115 v, .bool true]) w := run_typeAssert_hasB Tryz.underlying165 (by kernel_rfl) v xT w
theorem isB_methodUnwrap (v : Value) (w : World) : (Go.method 337 115 v "Unwrap").run Tryz.prog w = .ok (171, v) w := by kernel_rfl

theorem isB_hit (pb po : Nat) (b : Addr) (w : World) (h1 : w.cell? ⟨pb, po + 1, none⟩ = some (.iface 205 (.pointer (some b)))) :
    Calls Tryz.prog 81 #[.iface 115 (.pointer (some ⟨pb, po, none⟩)), .iface 205 (.pointer (some b))] w fun e w' => e = .returned (.bool true) ∧ w' = w := by
  obtain ⟨i, hi, hcmp⟩ := Option.map_eq_some_iff.1 isB_comp
  obtain ⟨j, hj, hjs⟩ := Option.map_eq_some_iff.1 isB_size
  have h8 := @run_callFunc_extern Tryz.prog 106 _ Extern.ReflectliteType.typeOf Tryz.func106 (by kernel_rfl) (by kernel_rfl) (by kernel_rfl) (by kernel_rfl)
  have h32 := @run_callFunc_extern Tryz.prog 180 _ (Extern.ReflectliteType.method fun t => do Extern.Rtype.noPackHeld "Comparable" t; pure (.bool (← typeInfo t).comparable)) Tryz.func180 (by kernel_rfl) (by kernel_rfl) (by kernel_rfl) (by kernel_rfl)
  have tT := isB_typeOf
  have cT := isB_comparable
  have cT' := isB_comparable'
  have mR := is_methodComparable
  have nE := isB_noIsE
  have nW := isB_noIsW
  have uW := isB_hasUnwrapW
  have mU := isB_methodUnwrap
  have heq := run_eql_iface_ptr_same (P := Tryz.prog) w b Tryz.underlying113 Tryz.underlying205 hi hcmp hj
  have hty := run_eql_iface_types (P := Tryz.prog) 115 205 (.pointer (some ⟨pb, po, none⟩)) (.pointer (some b)) Tryz.underlying113 (by decide) w
  go_enter Tryz.func81, Tryz.ntmps81
  go_wp2
  refine wp_loop_rounds 2 ?_
  rw [rounds_succ]
  go_wp2
  rw [rounds_succ]
  go_wp2
  refine ⟨rfl, .bool true, ?_, rfl, rfl⟩
  rw [results_tmp rfl]
  rfl
end Go.Proofs.YtjhlibdiojepaaaGreatDoor
