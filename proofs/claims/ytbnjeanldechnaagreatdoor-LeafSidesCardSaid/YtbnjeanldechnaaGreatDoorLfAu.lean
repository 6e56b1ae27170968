/- Leaf: errors.As at a wrong. -/
import Derived.Test.YtbnjeanldechnaaGreatDoorLfAt
namespace Go.Proofs.YtbnjeanldechnaaGreatDoor
open Go.RowKit Go.Extern.Stop Go.Stop Go.Extern Go.Qe
theorem rf_mKind (h : Value) (w : World) : (Go.method 330 163 (.agg #[h]) "Kind").run Tryz.prog w = .ok (158, h) w := by kernel_rfl
theorem rf_mElem (h : Value) (w : World) : (Go.method 330 163 (.agg #[h]) "Elem").run Tryz.prog w = .ok (169, .agg #[h]) w := by kernel_rfl
theorem rf_mImpl (h : Value) (w : World) : (Go.method 330 163 (.agg #[h]) "Implements").run Tryz.prog w = .ok (170, .agg #[h]) w := by kernel_rfl
theorem rf_mAssign (h : Value) (w : World) : (Go.method 330 163 (.agg #[h]) "AssignableTo").run Tryz.prog w = .ok (167, .agg #[h]) w := by kernel_rfl
def gErr : Value := .iface 163 (.agg #[.pointer (some ⟨1, 103, none⟩)])
def asW (w : World) (t : Addr) (n : Int) : World := ((((w.alloc (.cells #[.pointer (some t)] 108)).alloc (.cells #[.pointer (some ⟨1, 108, none⟩), .pointer (some ⟨w.heap.size, 0, none⟩), .int .u64 150] 139)).alloc (.cells #[.pointer (some ⟨1, 108, none⟩), .pointer (some ⟨w.heap.size, 0, none⟩), .int .u64 150] 139)).alloc (.cells #[.int .u16 n] 106)).setCell t (.int .u16 n)
set_option maxRecDepth 20000 in
set_option maxHeartbeats 4000000 in
theorem as_hit (n : Int) (t : Addr) (old : Value) (w : World) (hg : w.cell? ⟨0, 0, none⟩ = some (.iface 163 (.agg #[.pointer (some ⟨1, 103, none⟩)]))) (ht0 : w.cell? t = some old) (hf0 : w.frozen? t = false) :
    Calls Tryz.prog 67 #[.iface 106 (.agg #[.int .u16 n]), .iface 108 (.pointer (some t))] w fun ev w' => ev = .returned (.bool true) ∧ w' = asW w t n := by
  have h6 := @run_callFunc_extern Tryz.prog 94 _ (fun args => ReflectliteValue.unpack (args.getD 0 (.tuple #[]))) Tryz.func94 (by kernel_rfl) (by kernel_rfl) (by kernel_rfl) (by kernel_rfl)
  have h7 := @run_callFunc_extern Tryz.prog 95 _ (ReflectliteValue.methodAny (ReflectliteValue.valueError "reflectlite.Value.Type" 0) (fun t _ _ _ => ReflectliteType.toType t)) Tryz.func95 (by kernel_rfl) (by kernel_rfl) (by kernel_rfl) (by kernel_rfl)
  have h8 := @run_callFunc_extern Tryz.prog 96 _ (ReflectliteValue.method (ReflectliteValue.valueError "reflectlite.Value.IsNil" 0) ReflectliteValue.isNil) Tryz.func96 (by kernel_rfl) (by kernel_rfl) (by kernel_rfl) (by kernel_rfl)
  have h27 := @run_callFunc_extern Tryz.prog 158 _ (ReflectliteType.abiMethod fun t => do pure (.int .u8 (← Rtype.kind t))) Tryz.func158 (by kernel_rfl) (by kernel_rfl) (by kernel_rfl) (by kernel_rfl)
  have h37 := @run_callFunc_extern Tryz.prog 169 _ (ReflectliteType.method ReflectliteType.elem) Tryz.func169 (by kernel_rfl) (by kernel_rfl) (by kernel_rfl) (by kernel_rfl)
  have h38 := @run_callFunc_extern Tryz.prog 170 _ (ReflectliteType.relation "Implements" ReflectliteType.implements_) Tryz.func170 (by kernel_rfl) (by kernel_rfl) (by kernel_rfl) (by kernel_rfl)
  have h10 := @run_callFunc_extern Tryz.prog 114 _ ReflectliteType.typeOf Tryz.func114 (by kernel_rfl) (by kernel_rfl) (by kernel_rfl) (by kernel_rfl)
  have h35 := @run_callFunc_extern Tryz.prog 167 _ (ReflectliteType.relation "AssignableTo" ReflectliteType.assignableTo) Tryz.func167 (by kernel_rfl) (by kernel_rfl) (by kernel_rfl) (by kernel_rfl)
  have h11 := @run_callFunc_extern Tryz.prog 115 _ (ReflectliteValue.method (ReflectliteValue.valueError "reflectlite.Value.Elem" 0) ReflectliteValue.elem) Tryz.func115 (by kernel_rfl) (by kernel_rfl) (by kernel_rfl) (by kernel_rfl)
  have h12 := @run_callFunc_extern Tryz.prog 116 _ ReflectliteValue.set Tryz.func116 (by kernel_rfl) (by kernel_rfl) (by kernel_rfl) (by kernel_rfl)
  have tO := rf_typeOf
  have mA := rf_mAssign
  have a25 := rf_assign
  have v25 := rf_valueW
  have f6 := rf_valueP
  have f7 := rf_typeP
  have mK := rf_mKind
  have mE := rf_mElem
  have mI := rf_mImpl
  have k27 := rf_kindP
  have k25 := rf_kindW
  have e27 := rf_elemT
  have i25 := rf_impl
  have n8 := rf_isNil ⟨w.heap.size, 0, none⟩ t ((w.alloc (.cells #[.pointer (some t)] 108)).alloc (.cells #[.pointer (some ⟨1, 108, none⟩), .pointer (some ⟨w.heap.size, 0, none⟩), .int .u64 150] 139)) (by simp)
  have hlt : 0 < w.heap.size := by
    rcases Nat.eq_zero_or_pos w.heap.size with h0 | h
    · simp [World.cell?, h0] at hg
    · exact h
  have hg2 : ((w.alloc (.cells #[.pointer (some t)] 108)).alloc (.cells #[.pointer (some ⟨1, 108, none⟩), .pointer (some ⟨w.heap.size, 0, none⟩), .int .u64 150] 139)).cell? ⟨0, 0, none⟩ = some (.iface 163 (.agg #[.pointer (some ⟨1, 103, none⟩)])) := by
    rw [World.cell?_alloc_lt _ _ ⟨0, 0, none⟩ (by simp), World.cell?_alloc_lt _ _ ⟨0, 0, none⟩ hlt]; exact hg
  have htl : t.block < w.heap.size := by
    rcases Nat.lt_or_ge t.block w.heap.size with h | h
    · exact h
    · simp [World.cell?, Array.getElem?_eq_none h] at ht0
  have el := rf_elemV ⟨w.heap.size, 0, none⟩ t (((w.alloc (.cells #[.pointer (some t)] 108)).alloc (.cells #[.pointer (some ⟨1, 108, none⟩), .pointer (some ⟨w.heap.size, 0, none⟩), .int .u64 150] 139)).alloc (.cells #[.pointer (some ⟨1, 108, none⟩), .pointer (some ⟨w.heap.size, 0, none⟩), .int .u64 150] 139)) (by rw [World.cell?_alloc_lt _ _ ⟨w.heap.size, 0, none⟩ (by simp; omega)]; simp)
  have st := rf_set t ⟨w.heap.size + 1 + 1 + 1, 0, none⟩ n old ((((w.alloc (.cells #[.pointer (some t)] 108)).alloc (.cells #[.pointer (some ⟨1, 108, none⟩), .pointer (some ⟨w.heap.size, 0, none⟩), .int .u64 150] 139)).alloc (.cells #[.pointer (some ⟨1, 108, none⟩), .pointer (some ⟨w.heap.size, 0, none⟩), .int .u64 150] 139)).alloc (.cells #[.int .u16 n] 106))
    (by rw [World.cell?_alloc_at _ _ _ _ (by simp)]; rfl)
    (by rw [World.cell?_alloc_lt _ _ t (by simp; omega), World.cell?_alloc_lt _ _ t (by simp; omega), World.cell?_alloc_lt _ _ t (by simp; omega), World.cell?_alloc_lt _ _ t htl]; exact ht0)
    (by rw [World.frozen?_alloc_old _ _ t (by simp; omega), World.frozen?_alloc_old _ _ t (by simp; omega), World.frozen?_alloc_old _ _ t (by simp; omega), World.frozen?_alloc_old _ _ t (Nat.ne_of_lt htl)]; exact hf0)
  go_enter Tryz.func67, Tryz.ntmps67
  go_wp2
  refine wp_loop_rounds 1 ?_
  rw [rounds_succ]
  go_wp2
  go_ret
  exact ⟨rfl, rfl⟩
end Go.Proofs.YtbnjeanldechnaaGreatDoor
