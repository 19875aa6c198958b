/- errors.As at a target of type *serve.silent. -/
import Derived.Test.YtmoebgkfmkdkpaaDoorAs
namespace Go.Proofs.YtmoebgkfmkdkpaaDoor
open Go.RowKit Go.Proofs Go.Extern.Stop Go.Stop Go.Extern
set_option linter.unusedSimpArgs false
set_option linter.unusedVariables false

/-- A node's silence as an error. -/
abbrev silV (e : Int) : Value := .iface 109 (.agg #[errV e])
theorem isTypeOfS (v : Value) (w : World) : (callFunc 36 #[.iface 109 v]).run Tryd.prog w = .ok (.value (.iface 114 (.agg #[.pointer (some ⟨1, 109, none⟩)]))) w := by kernel_rfl
theorem sas_valueOfP (t : Addr) (w : World) : (callFunc 53 #[.iface 110 (.pointer (some t))]).run Tryd.prog w
    = .ok (.value (asV 110 ⟨w.heap.size, 0, none⟩ 150)) (w.alloc (.cells #[.pointer (some t)] 110)) := by kernel_rfl
theorem sas_type (a : Addr) (w : World) : (callFunc 54 #[asV 110 a 150]).run Tryd.prog w = .ok (.value (asI 110)) w := by kernel_rfl
theorem sas_kindP (w : World) : (callFunc 100 #[.pointer (some ⟨1, 110, none⟩)]).run Tryd.prog w = .ok (.value (.int .u8 22)) w := by kernel_rfl
theorem sas_kindT (w : World) : (callFunc 100 #[.pointer (some ⟨1, 109, none⟩)]).run Tryd.prog w = .ok (.value (.int .u8 25)) w := by kernel_rfl
theorem sas_elem (w : World) : (callFunc 111 #[asH 110]).run Tryd.prog w = .ok (.value (asI 109)) w := by kernel_rfl
theorem sas_implements (w : World) : (callFunc 112 #[asH 109, asI 54]).run Tryd.prog w = .ok (.value (.bool true)) w := by kernel_rfl
theorem sas_assignable (w : World) : (callFunc 109 #[asH 109, asI 109]).run Tryd.prog w = .ok (.value (.bool true)) w := by kernel_rfl
theorem sas_valueOfT (e : Int) (w : World) : (callFunc 53 #[silV e]).run Tryd.prog w
    = .ok (.value (asV 109 ⟨w.heap.size, 0, none⟩ 153)) (w.alloc (.cells #[errV e] 109)) := by kernel_rfl

theorem sas_partsP (a : Addr) (w : World) : (ReflectliteValue.parts (asV 110 a 150)).run Tryd.prog w = .ok (some (110, a, 150)) w := by kernel_rfl
theorem sas_isNil (a p : Addr) (W : World) (ha : W.cell? a = some (.pointer (some p))) :
    (callFunc 55 #[asV 110 a 150]).run Tryd.prog W = .ok (.value (.bool false)) W := by
  rw [@run_callFunc_extern Tryd.prog 55 _ (ReflectliteValue.method (ReflectliteValue.valueError "reflectlite.Value.IsNil" 0) ReflectliteValue.isNil) Tryd.func55 (by kernel_rfl) (by kernel_rfl) (by kernel_rfl) (by kernel_rfl), as_rlm]
  simp only [Sem.run_bind, sas_partsP, Result.andThen]
  simp [ReflectliteValue.isNil, loadVar, isAgg, underlying, Tryd.underlying110, ha, Result.andThen]
theorem sas_elemOf (w : World) : (Rtype.elem? 110).run Tryd.prog w = .ok (some 109) w := by kernel_rfl
theorem sas_mk (p : Addr) (w : World) : (ReflectliteValue.mk 109 p ReflectliteValue.flagAddr).run Tryd.prog w = .ok (asV 109 p 409) w := by kernel_rfl
theorem sas_elemV (a p : Addr) (W : World) (ha : W.cell? a = some (.pointer (some p))) :
    (callFunc 65 #[asV 110 a 150]).run Tryd.prog W = .ok (.value (asV 109 p 409)) W := by
  rw [@run_callFunc_extern Tryd.prog 65 _ (ReflectliteValue.method (ReflectliteValue.valueError "reflectlite.Value.Elem" 0) ReflectliteValue.elem) Tryd.func65 (by kernel_rfl) (by kernel_rfl) (by kernel_rfl) (by kernel_rfl), as_rlm]
  simp only [Sem.run_bind, sas_partsP, Result.andThen]
  simp [ReflectliteValue.elem, loadVar, isAgg, underlying, Tryd.underlying110, ha, Result.andThen, sas_elemOf, sas_mk]
theorem sas_partsA (a : Addr) (w : World) : (ReflectliteValue.parts (asV 109 a 409)).run Tryd.prog w = .ok (some (109, a, 409)) w := by kernel_rfl
theorem sas_partsT (a : Addr) (w : World) : (ReflectliteValue.parts (asV 109 a 153)).run Tryd.prog w = .ok (some (109, a, 153)) w := by kernel_rfl
theorem sas_direct (w : World) : (Rtype.directlyAssignable 109 109).run Tryd.prog w = .ok true w := by kernel_rfl
theorem sas_load (b : Addr) (e : Int) (W : World) (hb : W.cell? b = some (errV e)) : (loadVar 109 b).run Tryd.prog W = .ok (.agg #[errV e]) W := by
  have hl : (loadCells b 1).run Tryd.prog W = .ok #[errV e] W := by
    have := run_loadCells_list (P := Tryd.prog) (w := W) b [errV e] (fun j v h => by
      match j, h with
      | 0, h => simp at h; subst h; simpa [Addr.add] using hb)
    simpa using this
  have hs : (isAgg 109).run Tryd.prog W = .ok true W := by kernel_rfl
  have hz : (sizeOf 109).run Tryd.prog W = .ok 1 W := by kernel_rfl
  simp [loadVar, hs, hz, hl, Result.andThen]
theorem sas_set (ta b : Addr) (e : Int) (old : Value) (W : World) (hb : W.cell? b = some (errV e)) (ht : W.cell? ta = some old) (hf : W.frozen? ta = false) :
    (callFunc 66 #[asV 109 ta 409, asV 109 b 153]).run Tryd.prog W
      = .ok (.value (.tuple #[])) (W.setCell ta (errV e)) := by
  rw [@run_callFunc_extern Tryd.prog 66 _ ReflectliteValue.set Tryd.func66 (by kernel_rfl) (by kernel_rfl) (by kernel_rfl) (by kernel_rfl), as_rls]
  simp only [Sem.run_bind, sas_partsA, sas_partsT, Result.andThen]
  simp [ReflectliteValue.flagAddr, sas_load b e W hb, isAgg, underlying, Tryd.underlying109, Result.andThen, sas_direct, storeVar, Value.cells, storeCells, Addr.add]
  rw [run_store Tryd.prog W ta _ _ (by rfl)]
  simp [ht, hf]

/-- The world behind errors.As. -/
def sasTo (w : World) (t : Nat) (e : Int) : World := ((((w.setCell ⟨t, 0, none⟩ (errV e)).alloc (.cells #[.pointer (some ⟨t, 0, none⟩)] 110)).alloc (.cells #[.pointer (some ⟨1, 110, none⟩), .pointer (some ⟨w.heap.size, 0, none⟩), .int .u64 150] 127)).alloc (.cells #[.pointer (some ⟨1, 110, none⟩), .pointer (some ⟨w.heap.size, 0, none⟩), .int .u64 150] 127)).alloc (.cells #[errV e] 109)

set_option maxHeartbeats 4000000 in
theorem sas_no (e : Int) (t : Nat) (old : Value) (w : World) (hg : w.cell? ⟨0, 0, none⟩ = some errType) (hgl : 0 < w.heap.size) (ht0 : w.cell? ⟨t, 0, none⟩ = some old) (htl : t < w.heap.size) (hf0 : w.frozen? ⟨t, 0, none⟩ = false) :
    Calls Tryd.prog 38 #[silV e, .iface 110 (.pointer (some ⟨t, 0, none⟩))] w fun ev w' => ev = .returned (.bool true) ∧ w' = sasTo w t e := by
  have f0 := sas_valueOfP; have f1 := sas_type; have f2 := as_mKind; have f3 := as_mElem; have f4 := as_mImplements; have f5 := as_mAssignableTo
  have f6 := sas_kindP; have f7 := sas_kindT; have f8 := sas_elem; have f9 := sas_implements; have f10 := sas_assignable; have f11 := isTypeOfS; have f12 := sas_valueOfT
  have n8 := sas_isNil ⟨w.heap.size, 0, none⟩ ⟨t, 0, none⟩ ((w.alloc (.cells #[.pointer (some ⟨t, 0, none⟩)] 110)).alloc (.cells #[.pointer (some ⟨1, 110, none⟩), .pointer (some ⟨w.heap.size, 0, none⟩), .int .u64 150] 127)) (by simp [go_sem])
  have el := sas_elemV ⟨w.heap.size, 0, none⟩ ⟨t, 0, none⟩ (((w.alloc (.cells #[.pointer (some ⟨t, 0, none⟩)] 110)).alloc (.cells #[.pointer (some ⟨1, 110, none⟩), .pointer (some ⟨w.heap.size, 0, none⟩), .int .u64 150] 127)).alloc (.cells #[.pointer (some ⟨1, 110, none⟩), .pointer (some ⟨w.heap.size, 0, none⟩), .int .u64 150] 127)) (by simp [go_sem])
  have st := sas_set ⟨t, 0, none⟩ ⟨w.heap.size + 1 + 1 + 1, 0, none⟩ e old ((((w.alloc (.cells #[.pointer (some ⟨t, 0, none⟩)] 110)).alloc (.cells #[.pointer (some ⟨1, 110, none⟩), .pointer (some ⟨w.heap.size, 0, none⟩), .int .u64 150] 127)).alloc (.cells #[.pointer (some ⟨1, 110, none⟩), .pointer (some ⟨w.heap.size, 0, none⟩), .int .u64 150] 127)).alloc (.cells #[errV e] 109))
    (by simp [go_sem]) (by simp [go_sem, ht0, htl, Nat.ne_of_lt htl]) (by simp [go_sem, hf0, htl, Nat.ne_of_lt htl])
  go_enter Tryd.func38, Tryd.ntmps38
  go_wp2
  refine wp_loop_rounds 1 ?_
  rw [rounds_succ]
  go_wp2
  go_ret
  exact ⟨rfl, rfl⟩

end Go.Proofs.YtmoebgkfmkdkpaaDoor
