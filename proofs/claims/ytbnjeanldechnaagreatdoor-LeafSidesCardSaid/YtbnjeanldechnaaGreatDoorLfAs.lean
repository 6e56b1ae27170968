/- Leaf: errors.As at a nil error and at a wrong (the target: *wrong). -/
import Derived.Test.YtbnjeanldechnaaGreatDoorExt
import Derived.LaidEql
import Derived.Stop.Asserts
import Derived.RowKitTokens
namespace Go.Proofs.YtbnjeanldechnaaGreatDoor
open Go.RowKit Go.Extern.Stop Go.Stop Go.Extern Go.Qe
def errV : Option Int → Value
  | none => .nilIface
  | some n => .iface 106 (.agg #[.int .u16 n])
theorem as_nil (t : Value) (w : World) :
    Calls Tryz.prog 67 #[.nilIface, t] w fun e w' => e = .returned (.bool false) ∧ w' = w := by
  go_enter Tryz.func67, Tryz.ntmps67
  go_wp2
  go_ret
  exact ⟨rfl, rfl⟩
theorem rf_valueP (t : Addr) (w : World) : (ReflectliteValue.unpack (.iface 108 (.pointer (some t)))).run Tryz.prog w
    = .ok (.agg #[.pointer (some ⟨1, 108, none⟩), .pointer (some ⟨w.heap.size, 0, none⟩), .int .u64 150]) (w.alloc (.cells #[.pointer (some t)] 108)) := by kernel_rfl
theorem rf_typeP (a : Addr) (w : World) : (ReflectliteValue.methodAny (ReflectliteValue.valueError "reflectlite.Value.Type" 0) (fun t _ _ _ => ReflectliteType.toType t) #[.agg #[.pointer (some ⟨1, 108, none⟩), .pointer (some a), .int .u64 150]]).run Tryz.prog w
    = .ok (.iface 163 (.agg #[.pointer (some ⟨1, 108, none⟩)])) w := by kernel_rfl
theorem rf_kindP (w : World) : ((ReflectliteType.abiMethod fun t => (fun a : Nat => Value.int IntKind.u8 (a : Int)) <$> Rtype.kind t) #[.pointer (some ⟨1, 108, none⟩)]).run Tryz.prog w = .ok (.int .u8 22) w := by kernel_rfl
theorem rf_kindW (w : World) : ((ReflectliteType.abiMethod fun t => (fun a : Nat => Value.int IntKind.u8 (a : Int)) <$> Rtype.kind t) #[.pointer (some ⟨1, 106, none⟩)]).run Tryz.prog w = .ok (.int .u8 25) w := by kernel_rfl
theorem rf_rlm (z : Sem Value) (f : TypeId → Addr → Nat → Nat → Sem Value) (v : Value) :
    ReflectliteValue.method z f #[v] = (do match ← ReflectliteValue.parts v with | none => z | some (t, a, fl) => f t a fl (fl % 32)) := rfl
theorem rf_partsP (a : Addr) (w : World) : (ReflectliteValue.parts (.agg #[.pointer (some ⟨1, 108, none⟩), .pointer (some a), .int .u64 150])).run Tryz.prog w = .ok (some (108, a, 150)) w := by kernel_rfl
theorem rf_isNil (a p : Addr) (W : World) (ha : W.cell? a = some (.pointer (some p))) :
    (ReflectliteValue.method (ReflectliteValue.valueError "reflectlite.Value.IsNil" 0) ReflectliteValue.isNil #[.agg #[.pointer (some ⟨1, 108, none⟩), .pointer (some a), .int .u64 150]]).run Tryz.prog W = .ok (.bool false) W := by
  rw [rf_rlm]
  simp only [Sem.run_bind, rf_partsP, Result.andThen]
  simp [ReflectliteValue.isNil, loadVar, isAgg, underlying, Tryz.underlying108, ha, Result.andThen]
theorem rf_elemT (w : World) : (ReflectliteType.method ReflectliteType.elem #[.agg #[.pointer (some ⟨1, 108, none⟩)]]).run Tryz.prog w = .ok (.iface 163 (.agg #[.pointer (some ⟨1, 106, none⟩)])) w := by kernel_rfl
theorem rf_impl (w : World) : (ReflectliteType.relation "Implements" ReflectliteType.implements_ #[.agg #[.pointer (some ⟨1, 106, none⟩)], .iface 163 (.agg #[.pointer (some ⟨1, 103, none⟩)])]).run Tryz.prog w = .ok (.bool true) w := by kernel_rfl
theorem rf_typeOf (v : Value) (w : World) : (ReflectliteType.typeOf #[.iface 106 v]).run Tryz.prog w = .ok (.iface 163 (.agg #[.pointer (some ⟨1, 106, none⟩)])) w := by kernel_rfl
theorem rf_assign (w : World) : (ReflectliteType.relation "AssignableTo" ReflectliteType.assignableTo #[.agg #[.pointer (some ⟨1, 106, none⟩)], .iface 163 (.agg #[.pointer (some ⟨1, 106, none⟩)])]).run Tryz.prog w = .ok (.bool true) w := by kernel_rfl
theorem rf_valueW (n : Int) (w : World) : (ReflectliteValue.unpack (.iface 106 (.agg #[.int .u16 n]))).run Tryz.prog w
    = .ok (.agg #[.pointer (some ⟨1, 106, none⟩), .pointer (some ⟨w.heap.size, 0, none⟩), .int .u64 153]) (w.alloc (.cells #[.int .u16 n] 106)) := by kernel_rfl
theorem rf_elemOf (w : World) : (Rtype.elem? 108).run Tryz.prog w = .ok (some 106) w := by kernel_rfl
theorem rf_mkW (p : Addr) (w : World) : (ReflectliteValue.mk 106 p ReflectliteValue.flagAddr).run Tryz.prog w = .ok (.agg #[.pointer (some ⟨1, 106, none⟩), .pointer (some p), .int .u64 409]) w := by kernel_rfl
theorem rf_elemV (a p : Addr) (W : World) (ha : W.cell? a = some (.pointer (some p))) :
    (ReflectliteValue.method (ReflectliteValue.valueError "reflectlite.Value.Elem" 0) ReflectliteValue.elem #[.agg #[.pointer (some ⟨1, 108, none⟩), .pointer (some a), .int .u64 150]]).run Tryz.prog W
      = .ok (.agg #[.pointer (some ⟨1, 106, none⟩), .pointer (some p), .int .u64 409]) W := by
  rw [rf_rlm]
  simp only [Sem.run_bind, rf_partsP, Result.andThen]
  simp [ReflectliteValue.elem, loadVar, isAgg, underlying, Tryz.underlying108, ha, Result.andThen, rf_elemOf, rf_mkW]
theorem rf_partsA (a : Addr) (w : World) : (ReflectliteValue.parts (.agg #[.pointer (some ⟨1, 106, none⟩), .pointer (some a), .int .u64 409])).run Tryz.prog w = .ok (some (106, a, 409)) w := by kernel_rfl
theorem rf_partsW (a : Addr) (w : World) : (ReflectliteValue.parts (.agg #[.pointer (some ⟨1, 106, none⟩), .pointer (some a), .int .u64 153])).run Tryz.prog w = .ok (some (106, a, 153)) w := by kernel_rfl
theorem rf_direct (w : World) : (Rtype.directlyAssignable 106 106).run Tryz.prog w = .ok true w := by kernel_rfl
end Go.Proofs.YtbnjeanldechnaaGreatDoor
