/-
  errors.As and errors.Is, by their contracts, at what this program hands them (written by a program of the claim's own after the guide's worked examples).
-/
import Derived.Test.YtljjmdcdlcefmaaGreatDoorRows
import Derived.Test.YtljjmdcdlcefmaaGreatDoorShMb
import Derived.WalkKit
import Derived.LaidEql
import Derived.Stop.Asserts
import Derived.RowKitTokens
set_option linter.unusedVariables false
set_option linter.unusedSimpArgs false
set_option maxRecDepth 100000
namespace Go.Proofs.YtljjmdcdlcefmaaGreatDoor
open Go.RowKit Go.Extern.Stop Go.Stop Go.Extern

/-! errors.Is at *plan.fault, the target a plan.code -/
theorem isP_typeOf (v : Value) (w : World) : (Extern.ReflectliteType.typeOf #[.iface 101 v]).run Tryz.prog w = .ok (.iface 142 (.agg #[.pointer (some ⟨1, 101, none⟩)])) w := by kernel_rfl
theorem isP_comparable' (w : World) : ((Extern.ReflectliteType.method fun t => do Extern.Rtype.noPackHeld "Comparable" t; pure (.bool (← typeInfo t).comparable)) #[.agg #[.pointer (some ⟨1, 101, none⟩)]]).run Tryz.prog w = .ok (.bool true) w := by kernel_rfl
theorem isP_comparable (w : World) : ((Extern.ReflectliteType.method fun t => do Extern.Rtype.noPackHeld "Comparable" t; (fun a => Value.bool a.comparable) <$> typeInfo t) #[.agg #[.pointer (some ⟨1, 101, none⟩)]]).run Tryz.prog w = .ok (.bool true) w := by kernel_rfl
theorem is_methodComparable (v : Value) (w : World) : (Go.method 302 142 v "Comparable").run Tryz.prog w = .ok (132, v) w := by kernel_rfl
theorem isP_noIsE (v : Value) (xT : TypeId) (w : World) : (Instr.typeAssert (.iface 101 v) xT 154 true).run Tryz.prog w = .ok (.tuple #[.nilIface, .bool false]) w := run_typeAssert_lacksB Tryz.underlying154 (by kernel_rfl) (by kernel_rfl) v xT w
theorem isP_noUnwrapE (v : Value) (xT : TypeId) (w : World) : (Instr.typeAssert (.iface 101 v) xT 149 true).run Tryz.prog w = .ok (.tuple #[.nilIface, .bool false]) w := run_typeAssert_lacksB Tryz.underlying149 (by kernel_rfl) (by kernel_rfl) v xT w
theorem isP_noUnwrapsE (v : Value) (xT : TypeId) (w : World) : (Instr.typeAssert (.iface 101 v) xT 151 true).run Tryz.prog w = .ok (.tuple #[.nilIface, .bool false]) w := run_typeAssert_lacksB Tryz.underlying151 (by kernel_rfl) (by kernel_rfl) v xT w
theorem isP_noIsW (v : Value) (xT : TypeId) (w : World) : (Instr.typeAssert (.iface 96 v) xT 154 true).run Tryz.prog w = .ok (.tuple #[.nilIface, .bool false]) w := run_typeAssert_lacksB Tryz.underlying154 (by kernel_rfl) (by kernel_rfl) v xT w
theorem isP_hasUnwrapW (v : Value) (xT : TypeId) (w : World) : (Instr.typeAssert (.iface 96 v) xT 149 true).run Tryz.prog w = .ok (.tuple #[.iface 96 v, .bool true]) w := run_typeAssert_hasB Tryz.underlying149 (by kernel_rfl) v xT w
theorem isP_methodUnwrap (v : Value) (w : World) : (Go.method 302 96 v "Unwrap").run Tryz.prog w = .ok (125, v) w := by kernel_rfl
theorem isP_eql (m n : Int) (w : World) : (binOp .eql 94 (.iface 101 (.int .i64 m)) (.iface 101 (.int .i64 n))).run Tryz.prog w = .ok (.bool (m == n)) w := by kernel_rfl

theorem isP_hit (pb po : Nat) (m n : Int) (w : World) (h1 : w.cell? ⟨pb, po + 1, none⟩ = some (.iface 101 (.int .i64 m))) :
    Calls Tryz.prog 57 #[.iface 96 (.pointer (some ⟨pb, po, none⟩)), .iface 101 (.int .i64 n)] w fun e w' => e = .returned (.bool (m == n)) ∧ w' = w := by
  have h8 := @run_callFunc_extern Tryz.prog 72 _ Extern.ReflectliteType.typeOf Tryz.func72 (by kernel_rfl) (by kernel_rfl) (by kernel_rfl) (by kernel_rfl)
  have h32 := @run_callFunc_extern Tryz.prog 132 _ (Extern.ReflectliteType.method fun t => do Extern.Rtype.noPackHeld "Comparable" t; pure (.bool (← typeInfo t).comparable)) Tryz.func132 (by kernel_rfl) (by kernel_rfl) (by kernel_rfl) (by kernel_rfl)
  have tT := isP_typeOf
  have cT := isP_comparable
  have cT' := isP_comparable'
  have mR := is_methodComparable
  have nE := isP_noIsE
  have uE := isP_noUnwrapE
  have vE := isP_noUnwrapsE
  have nW := isP_noIsW
  have uW := isP_hasUnwrapW
  have mU := isP_methodUnwrap
  have heq := isP_eql m n w
  have hty := run_eql_iface_types (P := Tryz.prog) 96 101 (.pointer (some ⟨pb, po, none⟩)) (.int .i64 n) Tryz.underlying94 (by decide) w
  by_cases hmn : m = n
  · subst hmn
    have hb : (m == m) = true := by simp
    rw [hb] at heq ⊢
    go_enter Tryz.func57, Tryz.ntmps57
    go_wp2
    refine wp_loop_rounds 2 ?_
    rw [rounds_succ]
    go_wp2
    rw [rounds_succ]
    go_wp2
    refine ⟨rfl, .bool true, ?_, rfl, rfl⟩
    rw [results_tmp rfl]
    rfl
  · have hb : (m == n) = false := by simp [hmn]
    rw [hb] at heq ⊢
    go_enter Tryz.func57, Tryz.ntmps57
    go_wp2
    refine wp_loop_rounds 2 ?_
    rw [rounds_succ]
    go_wp2
    rw [rounds_succ]
    go_wp2
    refine ⟨rfl, .bool false, ?_, rfl, rfl⟩
    rw [results_tmp rfl]
    rfl
end Go.Proofs.YtljjmdcdlcefmaaGreatDoor
