/-
  errors.As and errors.Is, by their contracts, at what this program hands them (written by a program of the claim's own after the guide's worked examples).
-/
import Derived.Test.YtfphjfbknphhjaaGreatDoorRows
import Derived.Test.YtfphjfbknphhjaaGreatDoorShMb
import Derived.WalkKit
import Derived.LaidEql
import Derived.Stop.Asserts
import Derived.RowKitTokens
set_option linter.unusedVariables false
set_option linter.unusedSimpArgs false
set_option maxRecDepth 100000
namespace Go.Proofs.YtfphjfbknphhjaaGreatDoor
open Go.RowKit Go.Extern.Stop Go.Stop Go.Extern

/-! errors.Is at *plan.fault, the target a plan.code -/
theorem Zaiy (v : Value) (w : World) : (Extern.ReflectliteType.typeOf #[.iface 148 v]).run Tryz.prog w = .ok (.iface 175 (.agg #[.pointer (some ⟨2, 148, none⟩)])) w := by kernel_rfl
theorem Z0x (w : World) : ((Extern.ReflectliteType.method fun t => do Extern.Rtype.noPackHeld "Comparable" t; pure (.bool (← typeInfo t).comparable)) #[.agg #[.pointer (some ⟨2, 148, none⟩)]]).run Tryz.prog w = .ok (.bool true) w := by kernel_rfl
theorem Z3h (w : World) : ((Extern.ReflectliteType.method fun t => do Extern.Rtype.noPackHeld "Comparable" t; (fun a => Value.bool a.comparable) <$> typeInfo t) #[.agg #[.pointer (some ⟨2, 148, none⟩)]]).run Tryz.prog w = .ok (.bool true) w := by kernel_rfl
theorem Zqd (v : Value) (w : World) : (Go.method 359 175 v "Comparable").run Tryz.prog w = .ok (173, v) w := by kernel_rfl
theorem Zany (v : Value) (xT : TypeId) (w : World) : (Instr.typeAssert (.iface 148 v) xT 187 true).run Tryz.prog w = .ok (.tuple #[.nilIface, .bool false]) w := run_typeAssert_lacksB Tryz.underlying187 (by kernel_rfl) (by kernel_rfl) v xT w
theorem Z6k (v : Value) (xT : TypeId) (w : World) : (Instr.typeAssert (.iface 148 v) xT 182 true).run Tryz.prog w = .ok (.tuple #[.nilIface, .bool false]) w := run_typeAssert_lacksB Tryz.underlying182 (by kernel_rfl) (by kernel_rfl) v xT w
theorem Z2n (v : Value) (xT : TypeId) (w : World) : (Instr.typeAssert (.iface 148 v) xT 184 true).run Tryz.prog w = .ok (.tuple #[.nilIface, .bool false]) w := run_typeAssert_lacksB Tryz.underlying184 (by kernel_rfl) (by kernel_rfl) v xT w
theorem Zalk (v : Value) (xT : TypeId) (w : World) : (Instr.typeAssert (.iface 145 v) xT 187 true).run Tryz.prog w = .ok (.tuple #[.nilIface, .bool false]) w := run_typeAssert_lacksB Tryz.underlying187 (by kernel_rfl) (by kernel_rfl) v xT w
theorem Z22 (v : Value) (xT : TypeId) (w : World) : (Instr.typeAssert (.iface 145 v) xT 182 true).run Tryz.prog w = .ok (.tuple #[.iface 145 v, .bool true]) w := run_typeAssert_hasB Tryz.underlying182 (by kernel_rfl) v xT w
theorem Zxu (v : Value) (w : World) : (Go.method 359 145 v "Unwrap").run Tryz.prog w = .ok (166, v) w := by kernel_rfl
theorem Zar2 (m n : Int) (w : World) : (binOp .eql 120 (.iface 148 (.int .i64 m)) (.iface 148 (.int .i64 n))).run Tryz.prog w = .ok (.bool (m == n)) w := by kernel_rfl

theorem Zar6 (pb po : Nat) (m n : Int) (w : World) (h1 : w.cell? ⟨pb, po + 1, none⟩ = some (.iface 148 (.int .i64 m))) :
    Calls Tryz.prog 75 #[.iface 145 (.pointer (some ⟨pb, po, none⟩)), .iface 148 (.int .i64 n)] w fun e w' => e = .returned (.bool (m == n)) ∧ w' = w := by
  have h8 := @run_callFunc_extern Tryz.prog 98 _ Extern.ReflectliteType.typeOf Tryz.func98 (by kernel_rfl) (by kernel_rfl) (by kernel_rfl) (by kernel_rfl)
  have h32 := @run_callFunc_extern Tryz.prog 173 _ (Extern.ReflectliteType.method fun t => do Extern.Rtype.noPackHeld "Comparable" t; pure (.bool (← typeInfo t).comparable)) Tryz.func173 (by kernel_rfl) (by kernel_rfl) (by kernel_rfl) (by kernel_rfl)
  have tT := Zaiy
  have cT := Z3h
  have cT' := Z0x
  have mR := Zqd
  have nE := Zany
  have uE := Z6k
  have vE := Z2n
  have nW := Zalk
  have uW := Z22
  have mU := Zxu
  have heq := Zar2 m n w
  have hty := run_eql_iface_types (P := Tryz.prog) 145 148 (.pointer (some ⟨pb, po, none⟩)) (.int .i64 n) Tryz.underlying120 (by decide) w
  by_cases hmn : m = n
  · subst hmn
    have hb : (m == m) = true := by simp
    rw [hb] at heq ⊢
    go_enter Tryz.func75, Tryz.ntmps75
    go_wp2
    refine wp_loop_rounds 2 ?_
    rw [rounds_succ]
    go_wp2
    rw [rounds_succ]
    go_wp2
    refine ⟨rfl, .bool true, ?_, rfl, rfl⟩
    rw [results_tmp rfl]
    rfl
  · have hb : (m == n) = false := by simp [hmn]
    rw [hb] at heq ⊢
    go_enter Tryz.func75, Tryz.ntmps75
    go_wp2
    refine wp_loop_rounds 2 ?_
    rw [rounds_succ]
    go_wp2
    rw [rounds_succ]
    go_wp2
    refine ⟨rfl, .bool false, ?_, rfl, rfl⟩
    rw [results_tmp rfl]
    rfl

/-! errors.Is at *bounds.fault, the target what it wraps -/
theorem Zail (v : Value) (w : World) : (Extern.ReflectliteType.typeOf #[.iface 225 v]).run Tryz.prog w = .ok (.iface 175 (.agg #[.pointer (some ⟨2, 225, none⟩)])) w := by kernel_rfl
theorem Zzp (w : World) : ((Extern.ReflectliteType.method fun t => do Extern.Rtype.noPackHeld "Comparable" t; pure (.bool (← typeInfo t).comparable)) #[.agg #[.pointer (some ⟨2, 225, none⟩)]]).run Tryz.prog w = .ok (.bool true) w := by kernel_rfl
theorem Z23 (w : World) : ((Extern.ReflectliteType.method fun t => do Extern.Rtype.noPackHeld "Comparable" t; (fun a => Value.bool a.comparable) <$> typeInfo t) #[.agg #[.pointer (some ⟨2, 225, none⟩)]]).run Tryz.prog w = .ok (.bool true) w := by kernel_rfl
theorem Zaqq : (Tryz.prog.info? 225).map (·.comparable) = some true := by kernel_rfl
theorem Zapc : (Tryz.prog.info? 247).map (·.size) = some 1 := by kernel_rfl
theorem Zamz (v : Value) (xT : TypeId) (w : World) : (Instr.typeAssert (.iface 225 v) xT 187 true).run Tryz.prog w = .ok (.tuple #[.nilIface, .bool false]) w := run_typeAssert_lacksB Tryz.underlying187 (by kernel_rfl) (by kernel_rfl) v xT w
theorem Zami (v : Value) (xT : TypeId) (w : World) : (Instr.typeAssert (.iface 122 v) xT 187 true).run Tryz.prog w = .ok (.tuple #[.nilIface, .bool false]) w := run_typeAssert_lacksB Tryz.underlying187 (by kernel_rfl) (by kernel_rfl) v xT w
theorem Z2u (v : Value) (xT : TypeId) (w : World) : (Instr.typeAssert (.iface 122 v) xT 182 true).run Tryz.prog w = .ok (.tuple #[.iface 122 v, .bool true]) w := run_typeAssert_hasB Tryz.underlying182 (by kernel_rfl) v xT w
theorem Zx6 (v : Value) (w : World) : (Go.method 359 122 v "Unwrap").run Tryz.prog w = .ok (164, v) w := by kernel_rfl

theorem Zatb (pb po : Nat) (b : Addr) (w : World) (h1 : w.cell? ⟨pb, po + 1, none⟩ = some (.iface 225 (.pointer (some b)))) :
    Calls Tryz.prog 75 #[.iface 122 (.pointer (some ⟨pb, po, none⟩)), .iface 225 (.pointer (some b))] w fun e w' => e = .returned (.bool true) ∧ w' = w := by
  obtain ⟨i, hi, hcmp⟩ := Option.map_eq_some_iff.1 Zaqq
  obtain ⟨j, hj, hjs⟩ := Option.map_eq_some_iff.1 Zapc
  have h8 := @run_callFunc_extern Tryz.prog 98 _ Extern.ReflectliteType.typeOf Tryz.func98 (by kernel_rfl) (by kernel_rfl) (by kernel_rfl) (by kernel_rfl)
  have h32 := @run_callFunc_extern Tryz.prog 173 _ (Extern.ReflectliteType.method fun t => do Extern.Rtype.noPackHeld "Comparable" t; pure (.bool (← typeInfo t).comparable)) Tryz.func173 (by kernel_rfl) (by kernel_rfl) (by kernel_rfl) (by kernel_rfl)
  have tT := Zail
  have cT := Z23
  have cT' := Zzp
  have mR := Zqd
  have nE := Zamz
  have nW := Zami
  have uW := Z2u
  have mU := Zx6
  have heq := run_eql_iface_ptr_same (P := Tryz.prog) w b Tryz.underlying120 Tryz.underlying225 hi hcmp hj
  have hty := run_eql_iface_types (P := Tryz.prog) 122 225 (.pointer (some ⟨pb, po, none⟩)) (.pointer (some b)) Tryz.underlying120 (by decide) w
  go_enter Tryz.func75, Tryz.ntmps75
  go_wp2
  refine wp_loop_rounds 2 ?_
  rw [rounds_succ]
  go_wp2
  rw [rounds_succ]
  go_wp2
  refine ⟨rfl, .bool true, ?_, rfl, rfl⟩
  rw [results_tmp rfl]
  rfl
end Go.Proofs.YtfphjfbknphhjaaGreatDoor
