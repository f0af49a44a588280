/-
  errors.As and errors.Is, by their contracts, at what this program hands them (written by a program of the claim's own after the guide's worked examples).
-/
import Derived.Test.YtomlbmbgocmiiaaDoorRows
import Derived.Test.YtomlbmbgocmiiaaDoorShMb
import Derived.WalkKit
import Derived.LaidEql
import Derived.Stop.Asserts
import Derived.RowKitTokens
set_option linter.unusedVariables false
set_option linter.unusedSimpArgs false
set_option maxRecDepth 100000
namespace Go.Proofs.YtomlbmbgocmiiaaDoor
open Go.RowKit Go.Extern.Stop Go.Stop Go.Extern

/-! errors.Is at *plan.fault, the target a plan.code -/
theorem isP_typeOf (v : Value) (w : World) : (Extern.ReflectliteType.typeOf #[.iface 75 v]).run Tryd.prog w = .ok (.iface 104 (.agg #[.pointer (some ⟨1, 75, none⟩)])) w := by kernel_rfl
theorem isP_comparable' (w : World) : ((Extern.ReflectliteType.method fun t => do Extern.Rtype.noPackHeld "Comparable" t; pure (.bool (← typeInfo t).comparable)) #[.agg #[.pointer (some ⟨1, 75, none⟩)]]).run Tryd.prog w = .ok (.bool true) w := by kernel_rfl
theorem isP_comparable (w : World) : ((Extern.ReflectliteType.method fun t => do Extern.Rtype.noPackHeld "Comparable" t; (fun a => Value.bool a.comparable) <$> typeInfo t) #[.agg #[.pointer (some ⟨1, 75, none⟩)]]).run Tryd.prog w = .ok (.bool true) w := by kernel_rfl
theorem is_methodComparable (v : Value) (w : World) : (Go.method 263 104 v "Comparable").run Tryd.prog w = .ok (96, v) w := by kernel_rfl
theorem isP_noIsE (v : Value) (xT : TypeId) (w : World) : (Instr.typeAssert (.iface 75 v) xT 116 true).run Tryd.prog w = .ok (.tuple #[.nilIface, .bool false]) w := run_typeAssert_lacksB Tryd.underlying116 (by kernel_rfl) (by kernel_rfl) v xT w
theorem isP_noUnwrapE (v : Value) (xT : TypeId) (w : World) : (Instr.typeAssert (.iface 75 v) xT 111 true).run Tryd.prog w = .ok (.tuple #[.nilIface, .bool false]) w := run_typeAssert_lacksB Tryd.underlying111 (by kernel_rfl) (by kernel_rfl) v xT w
theorem isP_noUnwrapsE (v : Value) (xT : TypeId) (w : World) : (Instr.typeAssert (.iface 75 v) xT 113 true).run Tryd.prog w = .ok (.tuple #[.nilIface, .bool false]) w := run_typeAssert_lacksB Tryd.underlying113 (by kernel_rfl) (by kernel_rfl) v xT w
theorem isP_noIsW (v : Value) (xT : TypeId) (w : World) : (Instr.typeAssert (.iface 70 v) xT 116 true).run Tryd.prog w = .ok (.tuple #[.nilIface, .bool false]) w := run_typeAssert_lacksB Tryd.underlying116 (by kernel_rfl) (by kernel_rfl) v xT w
theorem isP_hasUnwrapW (v : Value) (xT : TypeId) (w : World) : (Instr.typeAssert (.iface 70 v) xT 111 true).run Tryd.prog w = .ok (.tuple #[.iface 70 v, .bool true]) w := run_typeAssert_hasB Tryd.underlying111 (by kernel_rfl) v xT w
theorem isP_methodUnwrap (v : Value) (w : World) : (Go.method 263 70 v "Unwrap").run Tryd.prog w = .ok (89, v) w := by kernel_rfl
theorem isP_eql (m n : Int) (w : World) : (binOp .eql 68 (.iface 75 (.int .i64 m)) (.iface 75 (.int .i64 n))).run Tryd.prog w = .ok (.bool (m == n)) w := by kernel_rfl

theorem isP_hit (pb po : Nat) (m n : Int) (w : World) (h1 : w.cell? ⟨pb, po + 1, none⟩ = some (.iface 75 (.int .i64 m))) :
    Calls Tryd.prog 40 #[.iface 70 (.pointer (some ⟨pb, po, none⟩)), .iface 75 (.int .i64 n)] w fun e w' => e = .returned (.bool (m == n)) ∧ w' = w := by
  have h8 := @run_callFunc_extern Tryd.prog 53 _ Extern.ReflectliteType.typeOf Tryd.func53 (by kernel_rfl) (by kernel_rfl) (by kernel_rfl) (by kernel_rfl)
  have h32 := @run_callFunc_extern Tryd.prog 96 _ (Extern.ReflectliteType.method fun t => do Extern.Rtype.noPackHeld "Comparable" t; pure (.bool (← typeInfo t).comparable)) Tryd.func96 (by kernel_rfl) (by kernel_rfl) (by kernel_rfl) (by kernel_rfl)
  have tT := isP_typeOf
  have cT := isP_comparable
  have cT' := isP_comparable'
  have mR := is_methodComparable
  have nE := isP_noIsE
  have uE := isP_noUnwrapE
  have vE := isP_noUnwrapsE
  have nW := isP_noIsW
  have uW := isP_hasUnwrapW
  have mU := isP_methodUnwrap
  have heq := isP_eql m n w
  have hty := run_eql_iface_types (P := Tryd.prog) 70 75 (.pointer (some ⟨pb, po, none⟩)) (.int .i64 n) Tryd.underlying68 (by decide) w
  by_cases hmn : m = n
  · subst hmn
    have hb : (m == m) = true := by simp
    rw [hb] at heq ⊢
    go_enter Tryd.func40, Tryd.ntmps40
    go_wp2
    refine wp_loop_rounds 2 ?_
    rw [rounds_succ]
    go_wp2
    rw [rounds_succ]
    go_wp2
    refine ⟨rfl, .bool true, ?_, rfl, rfl⟩
    rw [results_tmp rfl]
    rfl
  · have hb : (m == n) = false := by simp [hmn]
    rw [hb] at heq ⊢
    go_enter Tryd.func40, Tryd.ntmps40
    go_wp2
    refine wp_loop_rounds 2 ?_
    rw [rounds_succ]
    go_wp2
    rw [rounds_succ]
    go_wp2
    refine ⟨rfl, .bool false, ?_, rfl, rfl⟩
    rw [results_tmp rfl]
    rfl
end Go.Proofs.YtomlbmbgocmiiaaDoor
