/-
  errors.As and errors.Is, by their contracts, at what this program hands them (written by a program of the claim's own after the guide's worked examples).
-/
import Derived.Test.YtfphjfbknphhjaaGreatDoorRows
import Derived.Test.YtfphjfbknphhjaaGreatDoorShMb
import Derived.WalkKit
import Derived.LaidEql
import Derived.Stop.Asserts
import Derived.RowKitTokens
set_option linter.unusedVariables false
set_option linter.unusedSimpArgs false
set_option maxRecDepth 100000
namespace Go.Proofs.YtfphjfbknphhjaaGreatDoor
open Go.RowKit Go.Extern.Stop Go.Stop Go.Extern
theorem as_nil (t : Value) (w : World) : Calls Tryz.prog 74 #[.nilIface, t] w fun e w' => e = .returned (.bool false) ∧ w' = w := by
  go_enter Tryz.func74, Tryz.ntmps74
  go_wp2
  go_ret
  exact ⟨rfl, rfl⟩

theorem Z6t (t : Addr) (w : World) : (ReflectliteValue.unpack (.iface 146 (.pointer (some t)))).run Tryz.prog w
    = .ok (.agg #[.pointer (some ⟨2, 146, none⟩), .pointer (some ⟨w.heap.size, 0, none⟩), .int .u64 150]) (w.alloc (.cells #[.pointer (some t)] 146)) := by kernel_rfl
theorem Zahe (a : Addr) (w : World) : (ReflectliteValue.methodAny (ReflectliteValue.valueError "reflectlite.Value.Type" 0) (fun t _ _ _ => ReflectliteType.toType t) #[.agg #[.pointer (some ⟨2, 146, none⟩), .pointer (some a), .int .u64 150]]).run Tryz.prog w
    = .ok (.iface 175 (.agg #[.pointer (some ⟨2, 146, none⟩)])) w := by kernel_rfl
theorem Z2b (h : Value) (w : World) : (Go.method 359 175 (.agg #[h]) "Kind").run Tryz.prog w = .ok (159, h) w := by kernel_rfl
theorem Zaha (w : World) : ((ReflectliteType.abiMethod fun t => (fun a : Nat => Value.int IntKind.u8 (a : Int)) <$> Rtype.kind t) #[.pointer (some ⟨2, 146, none⟩)]).run Tryz.prog w = .ok (.int .u8 22) w := by kernel_rfl
theorem Zajk (w : World) : ((ReflectliteType.abiMethod fun t => (fun a : Nat => Value.int IntKind.u8 (a : Int)) <$> Rtype.kind t) #[.pointer (some ⟨2, 145, none⟩)]).run Tryz.prog w = .ok (.int .u8 22) w := by kernel_rfl


theorem Zalv (z : Sem Value) (f : TypeId → Addr → Nat → Nat → Sem Value) (v : Value) :
    ReflectliteValue.method z f #[v] = (do match ← ReflectliteValue.parts v with | none => z | some (t, a, fl) => f t a fl (fl % 32)) := rfl
theorem Zzt (a : Addr) (w : World) : (ReflectliteValue.parts (.agg #[.pointer (some ⟨2, 146, none⟩), .pointer (some a), .int .u64 150])).run Tryz.prog w = .ok (some (146, a, 150)) w := by kernel_rfl

theorem Zact (a p : Addr) (W : World) (ha : W.cell? a = some (.pointer (some p))) :
    (ReflectliteValue.method (ReflectliteValue.valueError "reflectlite.Value.IsNil" 0) ReflectliteValue.isNil #[.agg #[.pointer (some ⟨2, 146, none⟩), .pointer (some a), .int .u64 150]]).run Tryz.prog W = .ok (.bool false) W := by
  rw [Zalv]
  simp only [Sem.run_bind, Zzt, Result.andThen]
  simp [ReflectliteValue.isNil, loadVar, isAgg, underlying, Tryz.underlying146, ha, Result.andThen]

theorem Z3f (h : Value) (w : World) : (Go.method 359 175 (.agg #[h]) "Elem").run Tryz.prog w = .ok (174, .agg #[h]) w := by kernel_rfl
theorem Ztz (h : Value) (w : World) : (Go.method 359 175 (.agg #[h]) "Implements").run Tryz.prog w = .ok (175, .agg #[h]) w := by kernel_rfl
theorem Zsk (h : Value) (w : World) : (Go.method 359 175 (.agg #[h]) "AssignableTo").run Tryz.prog w = .ok (172, .agg #[h]) w := by kernel_rfl
theorem Zajx (w : World) : (ReflectliteType.method ReflectliteType.elem #[.agg #[.pointer (some ⟨2, 146, none⟩)]]).run Tryz.prog w = .ok (.iface 175 (.agg #[.pointer (some ⟨2, 145, none⟩)])) w := by kernel_rfl
theorem Zxw (w : World) : (ReflectliteType.relation "Implements" ReflectliteType.implements_ #[.agg #[.pointer (some ⟨2, 145, none⟩)], .iface 175 (.agg #[.pointer (some ⟨2, 120, none⟩)])]).run Tryz.prog w = .ok (.bool true) w := by kernel_rfl
theorem Zab3 (v : Value) (w : World) : (ReflectliteType.typeOf #[.iface 145 v]).run Tryz.prog w = .ok (.iface 175 (.agg #[.pointer (some ⟨2, 145, none⟩)])) w := by kernel_rfl
theorem Zx4 (w : World) : (ReflectliteType.relation "AssignableTo" ReflectliteType.assignableTo #[.agg #[.pointer (some ⟨2, 145, none⟩)], .iface 175 (.agg #[.pointer (some ⟨2, 145, none⟩)])]).run Tryz.prog w = .ok (.bool true) w := by kernel_rfl
theorem Z74 (e : Addr) (w : World) : (ReflectliteValue.unpack (.iface 145 (.pointer (some e)))).run Tryz.prog w
    = .ok (.agg #[.pointer (some ⟨2, 145, none⟩), .pointer (some ⟨w.heap.size, 0, none⟩), .int .u64 150]) (w.alloc (.cells #[.pointer (some e)] 145)) := by kernel_rfl

theorem Zaax (w : World) : (Rtype.elem? 146).run Tryz.prog w = .ok (some 145) w := by kernel_rfl
theorem Zao0 (p : Addr) (w : World) : (ReflectliteValue.mk 145 p ReflectliteValue.flagAddr).run Tryz.prog w = .ok (.agg #[.pointer (some ⟨2, 145, none⟩), .pointer (some p), .int .u64 406]) w := by kernel_rfl

theorem Zae6 (a p : Addr) (W : World) (ha : W.cell? a = some (.pointer (some p))) :
    (ReflectliteValue.method (ReflectliteValue.valueError "reflectlite.Value.Elem" 0) ReflectliteValue.elem #[.agg #[.pointer (some ⟨2, 146, none⟩), .pointer (some a), .int .u64 150]]).run Tryz.prog W
      = .ok (.agg #[.pointer (some ⟨2, 145, none⟩), .pointer (some p), .int .u64 406]) W := by
  rw [Zalv]
  simp only [Sem.run_bind, Zzt, Result.andThen]
  simp [ReflectliteValue.elem, loadVar, isAgg, underlying, Tryz.underlying146, ha, Result.andThen, Zaax, Zao0]
theorem Zar8 (v x : Value) : ReflectliteValue.set #[v, x] = (do
    let (some (dst, a, fl), some (src, b, _)) := (← ReflectliteValue.parts v, ← ReflectliteValue.parts x)
      | unsupported (.noEntry "extern/(internal/reflectlite.Value).Set.zeroValue")
    if fl / ReflectliteValue.flagAddr % 2 == 0 then unsupported (.noEntry "extern/(internal/reflectlite.Value).Set.unaddressable")
    let val ← loadVar src b
    if ← Rtype.directlyAssignable dst src then storeVar dst a val
    else if ← Rtype.implements dst src then
      if (← Rtype.kind src) == 20 then
        match val with
        | .nilIface => unsupported (.noEntry "extern/reflectlite: a nil value of one interface type handed on as a value of another")
        | _ => storeVar dst a val
      else storeVar dst a (.iface src val)
    else panicString ("reflectlite.Set: value of type " ++ (← Rtype.spelt src) ++ " is not assignable to type " ++ (← Rtype.spelt dst))
    pure (.tuple #[])) := rfl
theorem Zaa8 (a : Addr) (w : World) : (ReflectliteValue.parts (.agg #[.pointer (some ⟨2, 145, none⟩), .pointer (some a), .int .u64 406])).run Tryz.prog w = .ok (some (145, a, 406)) w := by kernel_rfl
theorem Zacq (a : Addr) (w : World) : (ReflectliteValue.parts (.agg #[.pointer (some ⟨2, 145, none⟩), .pointer (some a), .int .u64 150])).run Tryz.prog w = .ok (some (145, a, 150)) w := by kernel_rfl
theorem Z93 (w : World) : (Rtype.directlyAssignable 145 145).run Tryz.prog w = .ok true w := by kernel_rfl
theorem Zat0 (w : World) : (sizeOf 145).run Tryz.prog w = .ok 1 w := by kernel_rfl

theorem Zanh (ta b e : Addr) (old : Value) (W : World) (hb : W.cell? b = some (.pointer (some e))) (ht : W.cell? ta = some old) (hf : W.frozen? ta = false) :
    (ReflectliteValue.set #[.agg #[.pointer (some ⟨2, 145, none⟩), .pointer (some ta), .int .u64 406], .agg #[.pointer (some ⟨2, 145, none⟩), .pointer (some b), .int .u64 150]]).run Tryz.prog W
      = .ok (.tuple #[]) (W.setCell ta (.pointer (some e))) := by
  rw [Zar8]
  simp only [Sem.run_bind, Zaa8, Zacq, Result.andThen]
  simp [ReflectliteValue.flagAddr, loadVar, isAgg, underlying, Tryz.underlying145, hb, Result.andThen, Z93, storeVar, Value.cells, storeCells, Addr.add]
  rw [run_store Tryz.prog W ta _ _ (by rfl)]
  simp [ht, hf]

set_option maxHeartbeats 4000000 in
theorem Zahn (e t : Addr) (old : Value) (w : World) (hg : w.cell? ⟨1, 0, none⟩ = some (.iface 175 (.agg #[.pointer (some ⟨2, 120, none⟩)]))) (ht0 : w.cell? t = some old) (hf0 : w.frozen? t = false) :
    Calls Tryz.prog 74 #[.iface 145 (.pointer (some e)), .iface 146 (.pointer (some t))] w fun ev w' => ev = .returned (.bool true) ∧ w' = ((((w.alloc (.cells #[.pointer (some t)] 146)).alloc (.cells #[.pointer (some ⟨2, 146, none⟩), .pointer (some ⟨w.heap.size, 0, none⟩), .int .u64 150] 155)).alloc (.cells #[.pointer (some ⟨2, 146, none⟩), .pointer (some ⟨w.heap.size, 0, none⟩), .int .u64 150] 155)).alloc (.cells #[.pointer (some e)] 145)).setCell t (.pointer (some e)) := by
  have h6 := @run_callFunc_extern Tryz.prog 94 _ (fun args => ReflectliteValue.unpack (args.getD 0 (.tuple #[]))) Tryz.func94 (by kernel_rfl) (by kernel_rfl) (by kernel_rfl) (by kernel_rfl)
  have h7 := @run_callFunc_extern Tryz.prog 95 _ (ReflectliteValue.methodAny (ReflectliteValue.valueError "reflectlite.Value.Type" 0) (fun t _ _ _ => ReflectliteType.toType t)) Tryz.func95 (by kernel_rfl) (by kernel_rfl) (by kernel_rfl) (by kernel_rfl)
  have h8 := @run_callFunc_extern Tryz.prog 96 _ (ReflectliteValue.method (ReflectliteValue.valueError "reflectlite.Value.IsNil" 0) ReflectliteValue.isNil) Tryz.func96 (by kernel_rfl) (by kernel_rfl) (by kernel_rfl) (by kernel_rfl)
  have h27 := @run_callFunc_extern Tryz.prog 159 _ (ReflectliteType.abiMethod fun t => do pure (.int .u8 (← Rtype.kind t))) Tryz.func159 (by kernel_rfl) (by kernel_rfl) (by kernel_rfl) (by kernel_rfl)
  have h37 := @run_callFunc_extern Tryz.prog 174 _ (ReflectliteType.method ReflectliteType.elem) Tryz.func174 (by kernel_rfl) (by kernel_rfl) (by kernel_rfl) (by kernel_rfl)
  have h38 := @run_callFunc_extern Tryz.prog 175 _ (ReflectliteType.relation "Implements" ReflectliteType.implements_) Tryz.func175 (by kernel_rfl) (by kernel_rfl) (by kernel_rfl) (by kernel_rfl)
  have h10 := @run_callFunc_extern Tryz.prog 98 _ ReflectliteType.typeOf Tryz.func98 (by kernel_rfl) (by kernel_rfl) (by kernel_rfl) (by kernel_rfl)
  have h35 := @run_callFunc_extern Tryz.prog 172 _ (ReflectliteType.relation "AssignableTo" ReflectliteType.assignableTo) Tryz.func172 (by kernel_rfl) (by kernel_rfl) (by kernel_rfl) (by kernel_rfl)
  have h11 := @run_callFunc_extern Tryz.prog 114 _ (ReflectliteValue.method (ReflectliteValue.valueError "reflectlite.Value.Elem" 0) ReflectliteValue.elem) Tryz.func114 (by kernel_rfl) (by kernel_rfl) (by kernel_rfl) (by kernel_rfl)
  have h12 := @run_callFunc_extern Tryz.prog 115 _ ReflectliteValue.set Tryz.func115 (by kernel_rfl) (by kernel_rfl) (by kernel_rfl) (by kernel_rfl)
  have tO := Zab3
  have mA := Zsk
  have a25 := Zx4
  have v25 := Z74
  have f6 := Z6t
  have f7 := Zahe
  have mK := Z2b
  have mE := Z3f
  have mI := Ztz
  have k27 := Zaha
  have k25 := Zajk
  have e27 := Zajx
  have i25 := Zxw
  have n8 := Zact ⟨w.heap.size, 0, none⟩ t ((w.alloc (.cells #[.pointer (some t)] 146)).alloc (.cells #[.pointer (some ⟨2, 146, none⟩), .pointer (some ⟨w.heap.size, 0, none⟩), .int .u64 150] 155)) (by simp)
  have hlt : 1 < w.heap.size := Go.Proofs.YtfphjfbknphhjaaGreatDoor.Sh.lt_of_cell? hg
  have hg2 : ((w.alloc (.cells #[.pointer (some t)] 146)).alloc (.cells #[.pointer (some ⟨2, 146, none⟩), .pointer (some ⟨w.heap.size, 0, none⟩), .int .u64 150] 155)).cell? ⟨1, 0, none⟩ = some (.iface 175 (.agg #[.pointer (some ⟨2, 120, none⟩)])) := by
    rw [World.cell?_alloc_lt _ _ ⟨1, 0, none⟩ (by simp <;> omega), World.cell?_alloc_lt _ _ ⟨1, 0, none⟩ hlt]; exact hg
  have htl : t.block < w.heap.size := by
    rcases Nat.lt_or_ge t.block w.heap.size with h | h
    · exact h
    · simp [World.cell?, Array.getElem?_eq_none h] at ht0
  have el := Zae6 ⟨w.heap.size, 0, none⟩ t (((w.alloc (.cells #[.pointer (some t)] 146)).alloc (.cells #[.pointer (some ⟨2, 146, none⟩), .pointer (some ⟨w.heap.size, 0, none⟩), .int .u64 150] 155)).alloc (.cells #[.pointer (some ⟨2, 146, none⟩), .pointer (some ⟨w.heap.size, 0, none⟩), .int .u64 150] 155)) (by rw [World.cell?_alloc_lt _ _ ⟨w.heap.size, 0, none⟩ (by simp; omega)]; simp)
  have st := Zanh t ⟨w.heap.size + 1 + 1 + 1, 0, none⟩ e old ((((w.alloc (.cells #[.pointer (some t)] 146)).alloc (.cells #[.pointer (some ⟨2, 146, none⟩), .pointer (some ⟨w.heap.size, 0, none⟩), .int .u64 150] 155)).alloc (.cells #[.pointer (some ⟨2, 146, none⟩), .pointer (some ⟨w.heap.size, 0, none⟩), .int .u64 150] 155)).alloc (.cells #[.pointer (some e)] 145))
    (by rw [World.cell?_alloc_at _ _ _ _ (by simp)]; rfl)
    (by rw [World.cell?_alloc_lt _ _ t (by simp; omega), World.cell?_alloc_lt _ _ t (by simp; omega), World.cell?_alloc_lt _ _ t (by simp; omega), World.cell?_alloc_lt _ _ t htl]; exact ht0)
    (by rw [World.frozen?_alloc_old _ _ t (by simp; omega), World.frozen?_alloc_old _ _ t (by simp; omega), World.frozen?_alloc_old _ _ t (by simp; omega), World.frozen?_alloc_old _ _ t (Nat.ne_of_lt htl)]; exact hf0)
  go_enter Tryz.func74, Tryz.ntmps74
  go_wp2
  refine wp_loop_rounds 1 ?_
  rw [rounds_succ]
  go_wp2
  go_ret
  exact ⟨rfl, rfl⟩


theorem Z7l (t : Addr) (w : World) : (ReflectliteValue.unpack (.iface 124 (.pointer (some t)))).run Tryz.prog w
    = .ok (.agg #[.pointer (some ⟨2, 124, none⟩), .pointer (some ⟨w.heap.size, 0, none⟩), .int .u64 150]) (w.alloc (.cells #[.pointer (some t)] 124)) := by kernel_rfl
theorem Zahg (a : Addr) (w : World) : (ReflectliteValue.methodAny (ReflectliteValue.valueError "reflectlite.Value.Type" 0) (fun t _ _ _ => ReflectliteType.toType t) #[.agg #[.pointer (some ⟨2, 124, none⟩), .pointer (some a), .int .u64 150]]).run Tryz.prog w
    = .ok (.iface 175 (.agg #[.pointer (some ⟨2, 124, none⟩)])) w := by kernel_rfl
theorem Z3x (h : Value) (w : World) : (Go.method 359 175 (.agg #[h]) "Kind").run Tryz.prog w = .ok (159, h) w := by kernel_rfl
theorem Zag4 (w : World) : ((ReflectliteType.abiMethod fun t => (fun a : Nat => Value.int IntKind.u8 (a : Int)) <$> Rtype.kind t) #[.pointer (some ⟨2, 124, none⟩)]).run Tryz.prog w = .ok (.int .u8 22) w := by kernel_rfl
theorem Zaj2 (w : World) : ((ReflectliteType.abiMethod fun t => (fun a : Nat => Value.int IntKind.u8 (a : Int)) <$> Rtype.kind t) #[.pointer (some ⟨2, 122, none⟩)]).run Tryz.prog w = .ok (.int .u8 22) w := by kernel_rfl


theorem Zanj (z : Sem Value) (f : TypeId → Addr → Nat → Nat → Sem Value) (v : Value) :
    ReflectliteValue.method z f #[v] = (do match ← ReflectliteValue.parts v with | none => z | some (t, a, fl) => f t a fl (fl % 32)) := rfl
theorem Zzk (a : Addr) (w : World) : (ReflectliteValue.parts (.agg #[.pointer (some ⟨2, 124, none⟩), .pointer (some a), .int .u64 150])).run Tryz.prog w = .ok (some (124, a, 150)) w := by kernel_rfl

theorem Zad6 (a p : Addr) (W : World) (ha : W.cell? a = some (.pointer (some p))) :
    (ReflectliteValue.method (ReflectliteValue.valueError "reflectlite.Value.IsNil" 0) ReflectliteValue.isNil #[.agg #[.pointer (some ⟨2, 124, none⟩), .pointer (some a), .int .u64 150]]).run Tryz.prog W = .ok (.bool false) W := by
  rw [Zanj]
  simp only [Sem.run_bind, Zzk, Result.andThen]
  simp [ReflectliteValue.isNil, loadVar, isAgg, underlying, Tryz.underlying124, ha, Result.andThen]

theorem Z15 (h : Value) (w : World) : (Go.method 359 175 (.agg #[h]) "Elem").run Tryz.prog w = .ok (174, .agg #[h]) w := by kernel_rfl
theorem Zt0 (h : Value) (w : World) : (Go.method 359 175 (.agg #[h]) "Implements").run Tryz.prog w = .ok (175, .agg #[h]) w := by kernel_rfl
theorem Zsn (h : Value) (w : World) : (Go.method 359 175 (.agg #[h]) "AssignableTo").run Tryz.prog w = .ok (172, .agg #[h]) w := by kernel_rfl
theorem Zaib (w : World) : (ReflectliteType.method ReflectliteType.elem #[.agg #[.pointer (some ⟨2, 124, none⟩)]]).run Tryz.prog w = .ok (.iface 175 (.agg #[.pointer (some ⟨2, 122, none⟩)])) w := by kernel_rfl
theorem Zya (w : World) : (ReflectliteType.relation "Implements" ReflectliteType.implements_ #[.agg #[.pointer (some ⟨2, 122, none⟩)], .iface 175 (.agg #[.pointer (some ⟨2, 120, none⟩)])]).run Tryz.prog w = .ok (.bool true) w := by kernel_rfl
theorem Zab0 (v : Value) (w : World) : (ReflectliteType.typeOf #[.iface 122 v]).run Tryz.prog w = .ok (.iface 175 (.agg #[.pointer (some ⟨2, 122, none⟩)])) w := by kernel_rfl
theorem Zxv (w : World) : (ReflectliteType.relation "AssignableTo" ReflectliteType.assignableTo #[.agg #[.pointer (some ⟨2, 122, none⟩)], .iface 175 (.agg #[.pointer (some ⟨2, 122, none⟩)])]).run Tryz.prog w = .ok (.bool true) w := by kernel_rfl
theorem Z6s (e : Addr) (w : World) : (ReflectliteValue.unpack (.iface 122 (.pointer (some e)))).run Tryz.prog w
    = .ok (.agg #[.pointer (some ⟨2, 122, none⟩), .pointer (some ⟨w.heap.size, 0, none⟩), .int .u64 150]) (w.alloc (.cells #[.pointer (some e)] 122)) := by kernel_rfl

theorem Zabi (w : World) : (Rtype.elem? 124).run Tryz.prog w = .ok (some 122) w := by kernel_rfl
theorem Zao8 (p : Addr) (w : World) : (ReflectliteValue.mk 122 p ReflectliteValue.flagAddr).run Tryz.prog w = .ok (.agg #[.pointer (some ⟨2, 122, none⟩), .pointer (some p), .int .u64 406]) w := by kernel_rfl

theorem Zadg (a p : Addr) (W : World) (ha : W.cell? a = some (.pointer (some p))) :
    (ReflectliteValue.method (ReflectliteValue.valueError "reflectlite.Value.Elem" 0) ReflectliteValue.elem #[.agg #[.pointer (some ⟨2, 124, none⟩), .pointer (some a), .int .u64 150]]).run Tryz.prog W
      = .ok (.agg #[.pointer (some ⟨2, 122, none⟩), .pointer (some p), .int .u64 406]) W := by
  rw [Zanj]
  simp only [Sem.run_bind, Zzk, Result.andThen]
  simp [ReflectliteValue.elem, loadVar, isAgg, underlying, Tryz.underlying124, ha, Result.andThen, Zabi, Zao8]
theorem Zas7 (v x : Value) : ReflectliteValue.set #[v, x] = (do
    let (some (dst, a, fl), some (src, b, _)) := (← ReflectliteValue.parts v, ← ReflectliteValue.parts x)
      | unsupported (.noEntry "extern/(internal/reflectlite.Value).Set.zeroValue")
    if fl / ReflectliteValue.flagAddr % 2 == 0 then unsupported (.noEntry "extern/(internal/reflectlite.Value).Set.unaddressable")
    let val ← loadVar src b
    if ← Rtype.directlyAssignable dst src then storeVar dst a val
    else if ← Rtype.implements dst src then
      if (← Rtype.kind src) == 20 then
        match val with
        | .nilIface => unsupported (.noEntry "extern/reflectlite: a nil value of one interface type handed on as a value of another")
        | _ => storeVar dst a val
      else storeVar dst a (.iface src val)
    else panicString ("reflectlite.Set: value of type " ++ (← Rtype.spelt src) ++ " is not assignable to type " ++ (← Rtype.spelt dst))
    pure (.tuple #[])) := rfl
theorem Zaa0 (a : Addr) (w : World) : (ReflectliteValue.parts (.agg #[.pointer (some ⟨2, 122, none⟩), .pointer (some a), .int .u64 406])).run Tryz.prog w = .ok (some (122, a, 406)) w := by kernel_rfl
theorem Zadp (a : Addr) (w : World) : (ReflectliteValue.parts (.agg #[.pointer (some ⟨2, 122, none⟩), .pointer (some a), .int .u64 150])).run Tryz.prog w = .ok (some (122, a, 150)) w := by kernel_rfl
theorem Z9g (w : World) : (Rtype.directlyAssignable 122 122).run Tryz.prog w = .ok true w := by kernel_rfl
theorem Zat8 (w : World) : (sizeOf 122).run Tryz.prog w = .ok 1 w := by kernel_rfl

theorem Zams (ta b e : Addr) (old : Value) (W : World) (hb : W.cell? b = some (.pointer (some e))) (ht : W.cell? ta = some old) (hf : W.frozen? ta = false) :
    (ReflectliteValue.set #[.agg #[.pointer (some ⟨2, 122, none⟩), .pointer (some ta), .int .u64 406], .agg #[.pointer (some ⟨2, 122, none⟩), .pointer (some b), .int .u64 150]]).run Tryz.prog W
      = .ok (.tuple #[]) (W.setCell ta (.pointer (some e))) := by
  rw [Zas7]
  simp only [Sem.run_bind, Zaa0, Zadp, Result.andThen]
  simp [ReflectliteValue.flagAddr, loadVar, isAgg, underlying, Tryz.underlying122, hb, Result.andThen, Z9g, storeVar, Value.cells, storeCells, Addr.add]
  rw [run_store Tryz.prog W ta _ _ (by rfl)]
  simp [ht, hf]

set_option maxHeartbeats 4000000 in
theorem Zai9 (e t : Addr) (old : Value) (w : World) (hg : w.cell? ⟨1, 0, none⟩ = some (.iface 175 (.agg #[.pointer (some ⟨2, 120, none⟩)]))) (ht0 : w.cell? t = some old) (hf0 : w.frozen? t = false) :
    Calls Tryz.prog 74 #[.iface 122 (.pointer (some e)), .iface 124 (.pointer (some t))] w fun ev w' => ev = .returned (.bool true) ∧ w' = ((((w.alloc (.cells #[.pointer (some t)] 124)).alloc (.cells #[.pointer (some ⟨2, 124, none⟩), .pointer (some ⟨w.heap.size, 0, none⟩), .int .u64 150] 155)).alloc (.cells #[.pointer (some ⟨2, 124, none⟩), .pointer (some ⟨w.heap.size, 0, none⟩), .int .u64 150] 155)).alloc (.cells #[.pointer (some e)] 122)).setCell t (.pointer (some e)) := by
  have h6 := @run_callFunc_extern Tryz.prog 94 _ (fun args => ReflectliteValue.unpack (args.getD 0 (.tuple #[]))) Tryz.func94 (by kernel_rfl) (by kernel_rfl) (by kernel_rfl) (by kernel_rfl)
  have h7 := @run_callFunc_extern Tryz.prog 95 _ (ReflectliteValue.methodAny (ReflectliteValue.valueError "reflectlite.Value.Type" 0) (fun t _ _ _ => ReflectliteType.toType t)) Tryz.func95 (by kernel_rfl) (by kernel_rfl) (by kernel_rfl) (by kernel_rfl)
  have h8 := @run_callFunc_extern Tryz.prog 96 _ (ReflectliteValue.method (ReflectliteValue.valueError "reflectlite.Value.IsNil" 0) ReflectliteValue.isNil) Tryz.func96 (by kernel_rfl) (by kernel_rfl) (by kernel_rfl) (by kernel_rfl)
  have h27 := @run_callFunc_extern Tryz.prog 159 _ (ReflectliteType.abiMethod fun t => do pure (.int .u8 (← Rtype.kind t))) Tryz.func159 (by kernel_rfl) (by kernel_rfl) (by kernel_rfl) (by kernel_rfl)
  have h37 := @run_callFunc_extern Tryz.prog 174 _ (ReflectliteType.method ReflectliteType.elem) Tryz.func174 (by kernel_rfl) (by kernel_rfl) (by kernel_rfl) (by kernel_rfl)
  have h38 := @run_callFunc_extern Tryz.prog 175 _ (ReflectliteType.relation "Implements" ReflectliteType.implements_) Tryz.func175 (by kernel_rfl) (by kernel_rfl) (by kernel_rfl) (by kernel_rfl)
  have h10 := @run_callFunc_extern Tryz.prog 98 _ ReflectliteType.typeOf Tryz.func98 (by kernel_rfl) (by kernel_rfl) (by kernel_rfl) (by kernel_rfl)
  have h35 := @run_callFunc_extern Tryz.prog 172 _ (ReflectliteType.relation "AssignableTo" ReflectliteType.assignableTo) Tryz.func172 (by kernel_rfl) (by kernel_rfl) (by kernel_rfl) (by kernel_rfl)
  have h11 := @run_callFunc_extern Tryz.prog 114 _ (ReflectliteValue.method (ReflectliteValue.valueError "reflectlite.Value.Elem" 0) ReflectliteValue.elem) Tryz.func114 (by kernel_rfl) (by kernel_rfl) (by kernel_rfl) (by kernel_rfl)
  have h12 := @run_callFunc_extern Tryz.prog 115 _ ReflectliteValue.set Tryz.func115 (by kernel_rfl) (by kernel_rfl) (by kernel_rfl) (by kernel_rfl)
  have tO := Zab0
  have mA := Zsn
  have a25 := Zxv
  have v25 := Z6s
  have f6 := Z7l
  have f7 := Zahg
  have mK := Z3x
  have mE := Z15
  have mI := Zt0
  have k27 := Zag4
  have k25 := Zaj2
  have e27 := Zaib
  have i25 := Zya
  have n8 := Zad6 ⟨w.heap.size, 0, none⟩ t ((w.alloc (.cells #[.pointer (some t)] 124)).alloc (.cells #[.pointer (some ⟨2, 124, none⟩), .pointer (some ⟨w.heap.size, 0, none⟩), .int .u64 150] 155)) (by simp)
  have hlt : 1 < w.heap.size := Go.Proofs.YtfphjfbknphhjaaGreatDoor.Sh.lt_of_cell? hg
  have hg2 : ((w.alloc (.cells #[.pointer (some t)] 124)).alloc (.cells #[.pointer (some ⟨2, 124, none⟩), .pointer (some ⟨w.heap.size, 0, none⟩), .int .u64 150] 155)).cell? ⟨1, 0, none⟩ = some (.iface 175 (.agg #[.pointer (some ⟨2, 120, none⟩)])) := by
    rw [World.cell?_alloc_lt _ _ ⟨1, 0, none⟩ (by simp <;> omega), World.cell?_alloc_lt _ _ ⟨1, 0, none⟩ hlt]; exact hg
  have htl : t.block < w.heap.size := by
    rcases Nat.lt_or_ge t.block w.heap.size with h | h
    · exact h
    · simp [World.cell?, Array.getElem?_eq_none h] at ht0
  have el := Zadg ⟨w.heap.size, 0, none⟩ t (((w.alloc (.cells #[.pointer (some t)] 124)).alloc (.cells #[.pointer (some ⟨2, 124, none⟩), .pointer (some ⟨w.heap.size, 0, none⟩), .int .u64 150] 155)).alloc (.cells #[.pointer (some ⟨2, 124, none⟩), .pointer (some ⟨w.heap.size, 0, none⟩), .int .u64 150] 155)) (by rw [World.cell?_alloc_lt _ _ ⟨w.heap.size, 0, none⟩ (by simp; omega)]; simp)
  have st := Zams t ⟨w.heap.size + 1 + 1 + 1, 0, none⟩ e old ((((w.alloc (.cells #[.pointer (some t)] 124)).alloc (.cells #[.pointer (some ⟨2, 124, none⟩), .pointer (some ⟨w.heap.size, 0, none⟩), .int .u64 150] 155)).alloc (.cells #[.pointer (some ⟨2, 124, none⟩), .pointer (some ⟨w.heap.size, 0, none⟩), .int .u64 150] 155)).alloc (.cells #[.pointer (some e)] 122))
    (by rw [World.cell?_alloc_at _ _ _ _ (by simp)]; rfl)
    (by rw [World.cell?_alloc_lt _ _ t (by simp; omega), World.cell?_alloc_lt _ _ t (by simp; omega), World.cell?_alloc_lt _ _ t (by simp; omega), World.cell?_alloc_lt _ _ t htl]; exact ht0)
    (by rw [World.frozen?_alloc_old _ _ t (by simp; omega), World.frozen?_alloc_old _ _ t (by simp; omega), World.frozen?_alloc_old _ _ t (by simp; omega), World.frozen?_alloc_old _ _ t (Nat.ne_of_lt htl)]; exact hf0)
  go_enter Tryz.func74, Tryz.ntmps74
  go_wp2
  refine wp_loop_rounds 1 ?_
  rw [rounds_succ]
  go_wp2
  go_ret
  exact ⟨rfl, rfl⟩

end Go.Proofs.YtfphjfbknphhjaaGreatDoor
