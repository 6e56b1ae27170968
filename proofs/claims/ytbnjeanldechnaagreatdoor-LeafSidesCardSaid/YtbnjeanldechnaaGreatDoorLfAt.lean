/- Leaf: errors.As at a nil error and at a wrong: the call. -/
import Derived.Test.YtbnjeanldechnaaGreatDoorLfAs
namespace Go.Proofs.YtbnjeanldechnaaGreatDoor
open Go.RowKit Go.Extern.Stop Go.Stop Go.Extern Go.Qe
theorem rf_rls (v x : Value) : ReflectliteValue.set #[v, x] = (do
    let (some (dst, a, fl), some (src, b, _)) := (← ReflectliteValue.parts v, ← ReflectliteValue.parts x)
      | unsupported (.noEntry "extern/(internal/reflectlite.Value).Set.zeroValue")
    if fl / ReflectliteValue.flagAddr % 2 == 0 then unsupported (.noEntry "extern/(internal/reflectlite.Value).Set.unaddressable")
    let val ← loadVar src b
    if ← Rtype.directlyAssignable dst src then storeVar dst a val
    else if ← Rtype.implements dst src then
      if (← Rtype.kind src) == 20 then
        match val with
        | .nilIface => unsupported (.noEntry "extern/reflectlite: a nil value of one interface type handed on as a value of another")
        | _ => storeVar dst a val
      else storeVar dst a (.iface src val)
    else panicString ("reflectlite.Set: value of type " ++ (← Rtype.spelt src) ++ " is not assignable to type " ++ (← Rtype.spelt dst))
    pure (.tuple #[])) := rfl
theorem rf_isAgg (w : World) : (isAgg 106).run Tryz.prog w = .ok true w := by kernel_rfl
theorem rf_size (w : World) : (sizeOf 106).run Tryz.prog w = .ok 1 w := by kernel_rfl
theorem rf_load1 (b : Addr) (v : Value) (W : World) (hb : W.cell? b = some v) : (loadCells b 1).run Tryz.prog W = .ok #[v] W := by
  simp [loadCells, loadCellsFrom, hb, Addr.add, Result.andThen]
theorem rf_set (ta b : Addr) (n : Int) (old : Value) (W : World) (hb : W.cell? b = some (.int .u16 n)) (ht : W.cell? ta = some old) (hf : W.frozen? ta = false) :
    (ReflectliteValue.set #[.agg #[.pointer (some ⟨1, 106, none⟩), .pointer (some ta), .int .u64 409], .agg #[.pointer (some ⟨1, 106, none⟩), .pointer (some b), .int .u64 153]]).run Tryz.prog W
      = .ok (.tuple #[]) (W.setCell ta (.int .u16 n)) := by
  rw [rf_rls]
  simp only [Sem.run_bind, rf_partsA, rf_partsW, Result.andThen]
  simp [ReflectliteValue.flagAddr, loadVar, rf_isAgg, rf_size, rf_load1 b _ W hb, Result.andThen, rf_direct, storeVar, Value.cells, storeCells, Addr.add]
  rw [run_store Tryz.prog W ta _ _ (by rfl)]
  simp [ht, hf]
end Go.Proofs.YtbnjeanldechnaaGreatDoor
