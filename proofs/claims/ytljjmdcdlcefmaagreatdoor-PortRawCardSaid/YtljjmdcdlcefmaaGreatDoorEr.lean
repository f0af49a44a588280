/-
  errors.As and errors.Is, by their contracts, at what this program hands them (written by a program of the claim's own after the guide's worked examples).
-/
import Derived.Test.YtljjmdcdlcefmaaGreatDoorRows
import Derived.Test.YtljjmdcdlcefmaaGreatDoorShMb
import Derived.WalkKit
import Derived.LaidEql
import Derived.Stop.Asserts
import Derived.RowKitTokens
set_option linter.unusedVariables false
set_option linter.unusedSimpArgs false
set_option maxRecDepth 100000
namespace Go.Proofs.YtljjmdcdlcefmaaGreatDoor
open Go.RowKit Go.Extern.Stop Go.Stop Go.Extern
theorem as_nil (t : Value) (w : World) : Calls Tryz.prog 56 #[.nilIface, t] w fun e w' => e = .returned (.bool false) ∧ w' = w := by
  go_enter Tryz.func56, Tryz.ntmps56
  go_wp2
  go_ret
  exact ⟨rfl, rfl⟩

theorem asP_valueOf27 (t : Addr) (w : World) : (ReflectliteValue.unpack (.iface 98 (.pointer (some t)))).run Tryz.prog w
    = .ok (.agg #[.pointer (some ⟨1, 98, none⟩), .pointer (some ⟨w.heap.size, 0, none⟩), .int .u64 150]) (w.alloc (.cells #[.pointer (some t)] 98)) := by kernel_rfl
theorem asP_type27 (a : Addr) (w : World) : (ReflectliteValue.methodAny (ReflectliteValue.valueError "reflectlite.Value.Type" 0) (fun t _ _ _ => ReflectliteType.toType t) #[.agg #[.pointer (some ⟨1, 98, none⟩), .pointer (some a), .int .u64 150]]).run Tryz.prog w
    = .ok (.iface 142 (.agg #[.pointer (some ⟨1, 98, none⟩)])) w := by kernel_rfl
theorem asP_methodKind (h : Value) (w : World) : (Go.method 302 142 (.agg #[h]) "Kind").run Tryz.prog w = .ok (121, h) w := by kernel_rfl
theorem asP_kind27 (w : World) : ((ReflectliteType.abiMethod fun t => (fun a : Nat => Value.int IntKind.u8 (a : Int)) <$> Rtype.kind t) #[.pointer (some ⟨1, 98, none⟩)]).run Tryz.prog w = .ok (.int .u8 22) w := by kernel_rfl
theorem asP_kind25 (w : World) : ((ReflectliteType.abiMethod fun t => (fun a : Nat => Value.int IntKind.u8 (a : Int)) <$> Rtype.kind t) #[.pointer (some ⟨1, 96, none⟩)]).run Tryz.prog w = .ok (.int .u8 22) w := by kernel_rfl


theorem asP_rlm (z : Sem Value) (f : TypeId → Addr → Nat → Nat → Sem Value) (v : Value) :
    ReflectliteValue.method z f #[v] = (do match ← ReflectliteValue.parts v with | none => z | some (t, a, fl) => f t a fl (fl % 32)) := rfl
theorem asP_parts27 (a : Addr) (w : World) : (ReflectliteValue.parts (.agg #[.pointer (some ⟨1, 98, none⟩), .pointer (some a), .int .u64 150])).run Tryz.prog w = .ok (some (98, a, 150)) w := by kernel_rfl

theorem asP_isNil27 (a p : Addr) (W : World) (ha : W.cell? a = some (.pointer (some p))) :
    (ReflectliteValue.method (ReflectliteValue.valueError "reflectlite.Value.IsNil" 0) ReflectliteValue.isNil #[.agg #[.pointer (some ⟨1, 98, none⟩), .pointer (some a), .int .u64 150]]).run Tryz.prog W = .ok (.bool false) W := by
  rw [asP_rlm]
  simp only [Sem.run_bind, asP_parts27, Result.andThen]
  simp [ReflectliteValue.isNil, loadVar, isAgg, underlying, Tryz.underlying98, ha, Result.andThen]

theorem asP_methodElem (h : Value) (w : World) : (Go.method 302 142 (.agg #[h]) "Elem").run Tryz.prog w = .ok (133, .agg #[h]) w := by kernel_rfl
theorem asP_methodImplements (h : Value) (w : World) : (Go.method 302 142 (.agg #[h]) "Implements").run Tryz.prog w = .ok (134, .agg #[h]) w := by kernel_rfl
theorem asP_methodAssignableTo (h : Value) (w : World) : (Go.method 302 142 (.agg #[h]) "AssignableTo").run Tryz.prog w = .ok (131, .agg #[h]) w := by kernel_rfl
theorem asP_elem27 (w : World) : (ReflectliteType.method ReflectliteType.elem #[.agg #[.pointer (some ⟨1, 98, none⟩)]]).run Tryz.prog w = .ok (.iface 142 (.agg #[.pointer (some ⟨1, 96, none⟩)])) w := by kernel_rfl
theorem asP_implements25 (w : World) : (ReflectliteType.relation "Implements" ReflectliteType.implements_ #[.agg #[.pointer (some ⟨1, 96, none⟩)], .iface 142 (.agg #[.pointer (some ⟨1, 94, none⟩)])]).run Tryz.prog w = .ok (.bool true) w := by kernel_rfl
theorem asP_typeOf25 (v : Value) (w : World) : (ReflectliteType.typeOf #[.iface 96 v]).run Tryz.prog w = .ok (.iface 142 (.agg #[.pointer (some ⟨1, 96, none⟩)])) w := by kernel_rfl
theorem asP_assignable25 (w : World) : (ReflectliteType.relation "AssignableTo" ReflectliteType.assignableTo #[.agg #[.pointer (some ⟨1, 96, none⟩)], .iface 142 (.agg #[.pointer (some ⟨1, 96, none⟩)])]).run Tryz.prog w = .ok (.bool true) w := by kernel_rfl
theorem asP_valueOf25 (e : Addr) (w : World) : (ReflectliteValue.unpack (.iface 96 (.pointer (some e)))).run Tryz.prog w
    = .ok (.agg #[.pointer (some ⟨1, 96, none⟩), .pointer (some ⟨w.heap.size, 0, none⟩), .int .u64 150]) (w.alloc (.cells #[.pointer (some e)] 96)) := by kernel_rfl

theorem asP_elemOf27 (w : World) : (Rtype.elem? 98).run Tryz.prog w = .ok (some 96) w := by kernel_rfl
theorem asP_mk25 (p : Addr) (w : World) : (ReflectliteValue.mk 96 p ReflectliteValue.flagAddr).run Tryz.prog w = .ok (.agg #[.pointer (some ⟨1, 96, none⟩), .pointer (some p), .int .u64 406]) w := by kernel_rfl

theorem asP_elemV27 (a p : Addr) (W : World) (ha : W.cell? a = some (.pointer (some p))) :
    (ReflectliteValue.method (ReflectliteValue.valueError "reflectlite.Value.Elem" 0) ReflectliteValue.elem #[.agg #[.pointer (some ⟨1, 98, none⟩), .pointer (some a), .int .u64 150]]).run Tryz.prog W
      = .ok (.agg #[.pointer (some ⟨1, 96, none⟩), .pointer (some p), .int .u64 406]) W := by
  rw [asP_rlm]
  simp only [Sem.run_bind, asP_parts27, Result.andThen]
  simp [ReflectliteValue.elem, loadVar, isAgg, underlying, Tryz.underlying98, ha, Result.andThen, asP_elemOf27, asP_mk25]
theorem asP_rls (v x : Value) : ReflectliteValue.set #[v, x] = (do
    let (some (dst, a, fl), some (src, b, _)) := (← ReflectliteValue.parts v, ← ReflectliteValue.parts x)
      | unsupported (.noEntry "extern/(internal/reflectlite.Value).Set.zeroValue")
    if fl / ReflectliteValue.flagAddr % 2 == 0 then unsupported (.noEntry "extern/(internal/reflectlite.Value).Set.unaddressable")
    let val ← loadVar src b
    if ← Rtype.directlyAssignable dst src then storeVar dst a val
    else if ← Rtype.implements dst src then
      if (← Rtype.kind src) == 20 then
        match val with
        | .nilIface => unsupported (.noEntry "extern/reflectlite: a nil value of one interface type handed on as a value of another")
        | _ => storeVar dst a val
      else storeVar dst a (.iface src val)
    else panicString ("reflectlite.Set: value of type " ++ (← Rtype.spelt src) ++ " is not assignable to type " ++ (← Rtype.spelt dst))
    pure (.tuple #[])) := rfl
theorem asP_parts25a (a : Addr) (w : World) : (ReflectliteValue.parts (.agg #[.pointer (some ⟨1, 96, none⟩), .pointer (some a), .int .u64 406])).run Tryz.prog w = .ok (some (96, a, 406)) w := by kernel_rfl
theorem asP_parts25 (a : Addr) (w : World) : (ReflectliteValue.parts (.agg #[.pointer (some ⟨1, 96, none⟩), .pointer (some a), .int .u64 150])).run Tryz.prog w = .ok (some (96, a, 150)) w := by kernel_rfl
theorem asP_direct25 (w : World) : (Rtype.directlyAssignable 96 96).run Tryz.prog w = .ok true w := by kernel_rfl
theorem asP_size25 (w : World) : (sizeOf 96).run Tryz.prog w = .ok 1 w := by kernel_rfl

theorem asP_set25 (ta b e : Addr) (old : Value) (W : World) (hb : W.cell? b = some (.pointer (some e))) (ht : W.cell? ta = some old) (hf : W.frozen? ta = false) :
    (ReflectliteValue.set #[.agg #[.pointer (some ⟨1, 96, none⟩), .pointer (some ta), .int .u64 406], .agg #[.pointer (some ⟨1, 96, none⟩), .pointer (some b), .int .u64 150]]).run Tryz.prog W
      = .ok (.tuple #[]) (W.setCell ta (.pointer (some e))) := by
  rw [asP_rls]
  simp only [Sem.run_bind, asP_parts25a, asP_parts25, Result.andThen]
  simp [ReflectliteValue.flagAddr, loadVar, isAgg, underlying, Tryz.underlying96, hb, Result.andThen, asP_direct25, storeVar, Value.cells, storeCells, Addr.add]
  rw [run_store Tryz.prog W ta _ _ (by rfl)]
  simp [ht, hf]

set_option maxHeartbeats 4000000 in
theorem asP_as_hit (e t : Addr) (old : Value) (w : World) (hg : w.cell? ⟨0, 0, none⟩ = some (.iface 142 (.agg #[.pointer (some ⟨1, 94, none⟩)]))) (ht0 : w.cell? t = some old) (hf0 : w.frozen? t = false) :
    Calls Tryz.prog 56 #[.iface 96 (.pointer (some e)), .iface 98 (.pointer (some t))] w fun ev w' => ev = .returned (.bool true) ∧ w' = ((((w.alloc (.cells #[.pointer (some t)] 98)).alloc (.cells #[.pointer (some ⟨1, 98, none⟩), .pointer (some ⟨w.heap.size, 0, none⟩), .int .u64 150] 114)).alloc (.cells #[.pointer (some ⟨1, 98, none⟩), .pointer (some ⟨w.heap.size, 0, none⟩), .int .u64 150] 114)).alloc (.cells #[.pointer (some e)] 96)).setCell t (.pointer (some e)) := by
  have h6 := @run_callFunc_extern Tryz.prog 68 _ (fun args => ReflectliteValue.unpack (args.getD 0 (.tuple #[]))) Tryz.func68 (by kernel_rfl) (by kernel_rfl) (by kernel_rfl) (by kernel_rfl)
  have h7 := @run_callFunc_extern Tryz.prog 69 _ (ReflectliteValue.methodAny (ReflectliteValue.valueError "reflectlite.Value.Type" 0) (fun t _ _ _ => ReflectliteType.toType t)) Tryz.func69 (by kernel_rfl) (by kernel_rfl) (by kernel_rfl) (by kernel_rfl)
  have h8 := @run_callFunc_extern Tryz.prog 70 _ (ReflectliteValue.method (ReflectliteValue.valueError "reflectlite.Value.IsNil" 0) ReflectliteValue.isNil) Tryz.func70 (by kernel_rfl) (by kernel_rfl) (by kernel_rfl) (by kernel_rfl)
  have h27 := @run_callFunc_extern Tryz.prog 121 _ (ReflectliteType.abiMethod fun t => do pure (.int .u8 (← Rtype.kind t))) Tryz.func121 (by kernel_rfl) (by kernel_rfl) (by kernel_rfl) (by kernel_rfl)
  have h37 := @run_callFunc_extern Tryz.prog 133 _ (ReflectliteType.method ReflectliteType.elem) Tryz.func133 (by kernel_rfl) (by kernel_rfl) (by kernel_rfl) (by kernel_rfl)
  have h38 := @run_callFunc_extern Tryz.prog 134 _ (ReflectliteType.relation "Implements" ReflectliteType.implements_) Tryz.func134 (by kernel_rfl) (by kernel_rfl) (by kernel_rfl) (by kernel_rfl)
  have h10 := @run_callFunc_extern Tryz.prog 72 _ ReflectliteType.typeOf Tryz.func72 (by kernel_rfl) (by kernel_rfl) (by kernel_rfl) (by kernel_rfl)
  have h35 := @run_callFunc_extern Tryz.prog 131 _ (ReflectliteType.relation "AssignableTo" ReflectliteType.assignableTo) Tryz.func131 (by kernel_rfl) (by kernel_rfl) (by kernel_rfl) (by kernel_rfl)
  have h11 := @run_callFunc_extern Tryz.prog 89 _ (ReflectliteValue.method (ReflectliteValue.valueError "reflectlite.Value.Elem" 0) ReflectliteValue.elem) Tryz.func89 (by kernel_rfl) (by kernel_rfl) (by kernel_rfl) (by kernel_rfl)
  have h12 := @run_callFunc_extern Tryz.prog 90 _ ReflectliteValue.set Tryz.func90 (by kernel_rfl) (by kernel_rfl) (by kernel_rfl) (by kernel_rfl)
  have tO := asP_typeOf25
  have mA := asP_methodAssignableTo
  have a25 := asP_assignable25
  have v25 := asP_valueOf25
  have f6 := asP_valueOf27
  have f7 := asP_type27
  have mK := asP_methodKind
  have mE := asP_methodElem
  have mI := asP_methodImplements
  have k27 := asP_kind27
  have k25 := asP_kind25
  have e27 := asP_elem27
  have i25 := asP_implements25
  have n8 := asP_isNil27 ⟨w.heap.size, 0, none⟩ t ((w.alloc (.cells #[.pointer (some t)] 98)).alloc (.cells #[.pointer (some ⟨1, 98, none⟩), .pointer (some ⟨w.heap.size, 0, none⟩), .int .u64 150] 114)) (by simp)
  have hlt : 0 < w.heap.size := Go.Proofs.YtljjmdcdlcefmaaGreatDoor.Sh.lt_of_cell? hg
  have hg2 : ((w.alloc (.cells #[.pointer (some t)] 98)).alloc (.cells #[.pointer (some ⟨1, 98, none⟩), .pointer (some ⟨w.heap.size, 0, none⟩), .int .u64 150] 114)).cell? ⟨0, 0, none⟩ = some (.iface 142 (.agg #[.pointer (some ⟨1, 94, none⟩)])) := by
    rw [World.cell?_alloc_lt _ _ ⟨0, 0, none⟩ (by simp <;> omega), World.cell?_alloc_lt _ _ ⟨0, 0, none⟩ hlt]; exact hg
  have htl : t.block < w.heap.size := by
    rcases Nat.lt_or_ge t.block w.heap.size with h | h
    · exact h
    · simp [World.cell?, Array.getElem?_eq_none h] at ht0
  have el := asP_elemV27 ⟨w.heap.size, 0, none⟩ t (((w.alloc (.cells #[.pointer (some t)] 98)).alloc (.cells #[.pointer (some ⟨1, 98, none⟩), .pointer (some ⟨w.heap.size, 0, none⟩), .int .u64 150] 114)).alloc (.cells #[.pointer (some ⟨1, 98, none⟩), .pointer (some ⟨w.heap.size, 0, none⟩), .int .u64 150] 114)) (by rw [World.cell?_alloc_lt _ _ ⟨w.heap.size, 0, none⟩ (by simp; omega)]; simp)
  have st := asP_set25 t ⟨w.heap.size + 1 + 1 + 1, 0, none⟩ e old ((((w.alloc (.cells #[.pointer (some t)] 98)).alloc (.cells #[.pointer (some ⟨1, 98, none⟩), .pointer (some ⟨w.heap.size, 0, none⟩), .int .u64 150] 114)).alloc (.cells #[.pointer (some ⟨1, 98, none⟩), .pointer (some ⟨w.heap.size, 0, none⟩), .int .u64 150] 114)).alloc (.cells #[.pointer (some e)] 96))
    (by rw [World.cell?_alloc_at _ _ _ _ (by simp)]; rfl)
    (by rw [World.cell?_alloc_lt _ _ t (by simp; omega), World.cell?_alloc_lt _ _ t (by simp; omega), World.cell?_alloc_lt _ _ t (by simp; omega), World.cell?_alloc_lt _ _ t htl]; exact ht0)
    (by rw [World.frozen?_alloc_old _ _ t (by simp; omega), World.frozen?_alloc_old _ _ t (by simp; omega), World.frozen?_alloc_old _ _ t (by simp; omega), World.frozen?_alloc_old _ _ t (Nat.ne_of_lt htl)]; exact hf0)
  go_enter Tryz.func56, Tryz.ntmps56
  go_wp2
  refine wp_loop_rounds 1 ?_
  rw [rounds_succ]
  go_wp2
  go_ret
  exact ⟨rfl, rfl⟩

end Go.Proofs.YtljjmdcdlcefmaaGreatDoor
