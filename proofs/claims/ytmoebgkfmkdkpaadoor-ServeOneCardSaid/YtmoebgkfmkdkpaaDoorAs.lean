/- errors.As at a target of type *api.Errno. -/
import Derived.Test.YtmoebgkfmkdkpaaDoorErrs
namespace Go.Proofs.YtmoebgkfmkdkpaaDoor
open Go.RowKit Go.Proofs Go.Extern.Stop Go.Stop Go.Extern
set_option linter.unusedSimpArgs false
set_option linter.unusedVariables false

abbrev asH (t : TypeId) : Value := .agg #[.pointer (some ⟨1, t, none⟩)]
abbrev asI (t : TypeId) : Value := .iface 114 (asH t)
abbrev asV (t : TypeId) (a : Addr) (fl : Int) : Value := .agg #[.pointer (some ⟨1, t, none⟩), .pointer (some a), .int .u64 fl]

theorem as_nil (t : Value) (w : World) : Calls Tryd.prog 38 #[.nilIface, t] w fun e w' => e = .returned (.bool false) ∧ w = w' := by
  go_enter Tryd.func38, Tryd.ntmps38
  go_wp2
  go_ret
  exact ⟨rfl, rfl⟩

theorem as_valueOfP (t : Addr) (w : World) : (callFunc 53 #[.iface 96 (.pointer (some t))]).run Tryd.prog w
    = .ok (.value (asV 96 ⟨w.heap.size, 0, none⟩ 150)) (w.alloc (.cells #[.pointer (some t)] 96)) := by kernel_rfl
theorem as_type (a : Addr) (w : World) : (callFunc 54 #[asV 96 a 150]).run Tryd.prog w = .ok (.value (asI 96)) w := by kernel_rfl
theorem as_mKind (h : Value) (w : World) : (Go.method 301 114 (.agg #[h]) "Kind").run Tryd.prog w = .ok (100, h) w := by kernel_rfl
theorem as_mElem (h : Value) (w : World) : (Go.method 301 114 (.agg #[h]) "Elem").run Tryd.prog w = .ok (111, .agg #[h]) w := by kernel_rfl
theorem as_mImplements (h : Value) (w : World) : (Go.method 301 114 (.agg #[h]) "Implements").run Tryd.prog w = .ok (112, .agg #[h]) w := by kernel_rfl
theorem as_mAssignableTo (h : Value) (w : World) : (Go.method 301 114 (.agg #[h]) "AssignableTo").run Tryd.prog w = .ok (109, .agg #[h]) w := by kernel_rfl
theorem as_kindP (w : World) : (callFunc 100 #[.pointer (some ⟨1, 96, none⟩)]).run Tryd.prog w = .ok (.value (.int .u8 22)) w := by kernel_rfl
theorem as_kindT (w : World) : (callFunc 100 #[.pointer (some ⟨1, 32, none⟩)]).run Tryd.prog w = .ok (.value (.int .u8 2)) w := by kernel_rfl
theorem as_elem (w : World) : (callFunc 111 #[asH 96]).run Tryd.prog w = .ok (.value (asI 32)) w := by kernel_rfl
theorem as_implements (w : World) : (callFunc 112 #[asH 32, asI 54]).run Tryd.prog w = .ok (.value (.bool true)) w := by kernel_rfl
theorem as_assignable (w : World) : (callFunc 109 #[asH 32, asI 32]).run Tryd.prog w = .ok (.value (.bool true)) w := by kernel_rfl
theorem as_assignableF (w : World) : (callFunc 109 #[asH 86, asI 32]).run Tryd.prog w = .ok (.value (.bool false)) w := by kernel_rfl
theorem as_typeOfF (v : Value) (w : World) : (callFunc 36 #[.iface 86 v]).run Tryd.prog w = .ok (.value (asI 86)) w := by kernel_rfl
theorem as_valueOfT (e : Int) (w : World) : (callFunc 53 #[errV e]).run Tryd.prog w
    = .ok (.value (asV 32 ⟨w.heap.size, 0, none⟩ 130)) (w.alloc (.cells #[.int .i64 e] 32)) := by kernel_rfl
theorem noAsF (v : Value) (xT : TypeId) (w : World) : (Instr.typeAssert (.iface 86 v) xT 147 true).run Tryd.prog w = .ok (.tuple #[.nilIface, .bool false]) w := run_typeAssert_lacksB Tryd.underlying147 (by kernel_rfl) (by kernel_rfl) v xT w

theorem as_rlm (z : Sem Value) (f : TypeId → Addr → Nat → Nat → Sem Value) (v : Value) :
    ReflectliteValue.method z f #[v] = (do match ← ReflectliteValue.parts v with | none => z | some (t, a, fl) => f t a fl (fl % 32)) := rfl
theorem as_partsP (a : Addr) (w : World) : (ReflectliteValue.parts (asV 96 a 150)).run Tryd.prog w = .ok (some (96, a, 150)) w := by kernel_rfl
theorem as_isNil (a p : Addr) (W : World) (ha : W.cell? a = some (.pointer (some p))) :
    (callFunc 55 #[asV 96 a 150]).run Tryd.prog W = .ok (.value (.bool false)) W := by
  rw [@run_callFunc_extern Tryd.prog 55 _ (ReflectliteValue.method (ReflectliteValue.valueError "reflectlite.Value.IsNil" 0) ReflectliteValue.isNil) Tryd.func55 (by kernel_rfl) (by kernel_rfl) (by kernel_rfl) (by kernel_rfl), as_rlm]
  simp only [Sem.run_bind, as_partsP, Result.andThen]
  simp [ReflectliteValue.isNil, loadVar, isAgg, underlying, Tryd.underlying96, ha, Result.andThen]
theorem as_elemOf (w : World) : (Rtype.elem? 96).run Tryd.prog w = .ok (some 32) w := by kernel_rfl
theorem as_mk (p : Addr) (w : World) : (ReflectliteValue.mk 32 p ReflectliteValue.flagAddr).run Tryd.prog w = .ok (asV 32 p 386) w := by kernel_rfl
theorem as_elemV (a p : Addr) (W : World) (ha : W.cell? a = some (.pointer (some p))) :
    (callFunc 65 #[asV 96 a 150]).run Tryd.prog W = .ok (.value (asV 32 p 386)) W := by
  rw [@run_callFunc_extern Tryd.prog 65 _ (ReflectliteValue.method (ReflectliteValue.valueError "reflectlite.Value.Elem" 0) ReflectliteValue.elem) Tryd.func65 (by kernel_rfl) (by kernel_rfl) (by kernel_rfl) (by kernel_rfl), as_rlm]
  simp only [Sem.run_bind, as_partsP, Result.andThen]
  simp [ReflectliteValue.elem, loadVar, isAgg, underlying, Tryd.underlying96, ha, Result.andThen, as_elemOf, as_mk]
theorem as_rls (v x : Value) : ReflectliteValue.set #[v, x] = (do
    let (some (dst, a, fl), some (src, b, _)) := (← ReflectliteValue.parts v, ← ReflectliteValue.parts x)
      | unsupported (.noEntry "extern/(internal/reflectlite.Value).Set.zeroValue")
    if fl / ReflectliteValue.flagAddr % 2 == 0 then unsupported (.noEntry "extern/(internal/reflectlite.Value).Set.unaddressable")
    let val ← loadVar src b
    if ← Rtype.directlyAssignable dst src then storeVar dst a val
    else if ← Rtype.implements dst src then
      if (← Rtype.kind src) == 20 then
        match val with
        | .nilIface => unsupported (.noEntry "extern/reflectlite: a nil value of one interface type handed on as a value of another")
        | _ => storeVar dst a val
      else storeVar dst a (.iface src val)
    else panicString ("reflectlite.Set: value of type " ++ (← Rtype.spelt src) ++ " is not assignable to type " ++ (← Rtype.spelt dst))
    pure (.tuple #[])) := rfl
theorem as_partsA (a : Addr) (w : World) : (ReflectliteValue.parts (asV 32 a 386)).run Tryd.prog w = .ok (some (32, a, 386)) w := by kernel_rfl
theorem as_partsT (a : Addr) (w : World) : (ReflectliteValue.parts (asV 32 a 130)).run Tryd.prog w = .ok (some (32, a, 130)) w := by kernel_rfl
theorem as_direct (w : World) : (Rtype.directlyAssignable 32 32).run Tryd.prog w = .ok true w := by kernel_rfl
theorem as_set (ta b : Addr) (e : Int) (old : Value) (W : World) (hb : W.cell? b = some (.int .i64 e)) (ht : W.cell? ta = some old) (hf : W.frozen? ta = false) :
    (callFunc 66 #[asV 32 ta 386, asV 32 b 130]).run Tryd.prog W
      = .ok (.value (.tuple #[])) (W.setCell ta (.int .i64 e)) := by
  rw [@run_callFunc_extern Tryd.prog 66 _ ReflectliteValue.set Tryd.func66 (by kernel_rfl) (by kernel_rfl) (by kernel_rfl) (by kernel_rfl), as_rls]
  simp only [Sem.run_bind, as_partsA, as_partsT, Result.andThen]
  simp [ReflectliteValue.flagAddr, loadVar, isAgg, underlying, Tryd.underlying32, hb, Result.andThen, as_direct, storeVar, Value.cells, storeCells, Addr.add]
  rw [run_store Tryd.prog W ta _ _ (by rfl)]
  simp [ht, hf]

/-- The world behind errors.As. -/
def asTo (w : World) (t : Nat) (e : Int) : World := ((((w.setCell ⟨t, 0, none⟩ (.int .i64 e)).alloc (.cells #[.pointer (some ⟨t, 0, none⟩)] 96)).alloc (.cells #[.pointer (some ⟨1, 96, none⟩), .pointer (some ⟨w.heap.size, 0, none⟩), .int .u64 150] 127)).alloc (.cells #[.pointer (some ⟨1, 96, none⟩), .pointer (some ⟨w.heap.size, 0, none⟩), .int .u64 150] 127)).alloc (.cells #[.int .i64 e] 32)

/-- The variable of the library's that errors.As reads. -/
abbrev errType : Value := asI 54

set_option maxHeartbeats 4000000 in
theorem as_no (e : Int) (t : Nat) (old : Value) (w : World) (hg : w.cell? ⟨0, 0, none⟩ = some errType) (hgl : 0 < w.heap.size) (ht0 : w.cell? ⟨t, 0, none⟩ = some old) (htl : t < w.heap.size) (hf0 : w.frozen? ⟨t, 0, none⟩ = false) :
    Calls Tryd.prog 38 #[errV e, .iface 96 (.pointer (some ⟨t, 0, none⟩))] w fun ev w' => ev = .returned (.bool true) ∧ w' = asTo w t e := by
  have f0 := as_valueOfP; have f1 := as_type; have f2 := as_mKind; have f3 := as_mElem; have f4 := as_mImplements; have f5 := as_mAssignableTo
  have f6 := as_kindP; have f7 := as_kindT; have f8 := as_elem; have f9 := as_implements; have f10 := as_assignable; have f11 := isTypeOf; have f12 := as_valueOfT
  have n8 := as_isNil ⟨w.heap.size, 0, none⟩ ⟨t, 0, none⟩ ((w.alloc (.cells #[.pointer (some ⟨t, 0, none⟩)] 96)).alloc (.cells #[.pointer (some ⟨1, 96, none⟩), .pointer (some ⟨w.heap.size, 0, none⟩), .int .u64 150] 127)) (by simp [go_sem])
  have el := as_elemV ⟨w.heap.size, 0, none⟩ ⟨t, 0, none⟩ (((w.alloc (.cells #[.pointer (some ⟨t, 0, none⟩)] 96)).alloc (.cells #[.pointer (some ⟨1, 96, none⟩), .pointer (some ⟨w.heap.size, 0, none⟩), .int .u64 150] 127)).alloc (.cells #[.pointer (some ⟨1, 96, none⟩), .pointer (some ⟨w.heap.size, 0, none⟩), .int .u64 150] 127)) (by simp [go_sem])
  have st := as_set ⟨t, 0, none⟩ ⟨w.heap.size + 1 + 1 + 1, 0, none⟩ e old ((((w.alloc (.cells #[.pointer (some ⟨t, 0, none⟩)] 96)).alloc (.cells #[.pointer (some ⟨1, 96, none⟩), .pointer (some ⟨w.heap.size, 0, none⟩), .int .u64 150] 127)).alloc (.cells #[.pointer (some ⟨1, 96, none⟩), .pointer (some ⟨w.heap.size, 0, none⟩), .int .u64 150] 127)).alloc (.cells #[.int .i64 e] 32))
    (by simp [go_sem]) (by simp [go_sem, ht0, htl, Nat.ne_of_lt htl]) (by simp [go_sem, hf0, htl, Nat.ne_of_lt htl])
  go_enter Tryd.func38, Tryd.ntmps38
  go_wp2
  refine wp_loop_rounds 1 ?_
  rw [rounds_succ]
  go_wp2
  go_ret
  exact ⟨rfl, rfl⟩

set_option maxHeartbeats 4000000 in
theorem as_fault (b : Nat) (e : Int) (t : Nat) (old : Value) (w : World) (hc : w.cell? ⟨b, 1, none⟩ = some (errV e)) (hbl : b < w.heap.size) (hg : w.cell? ⟨0, 0, none⟩ = some errType) (hgl : 0 < w.heap.size) (ht0 : w.cell? ⟨t, 0, none⟩ = some old) (htl : t < w.heap.size) (hf0 : w.frozen? ⟨t, 0, none⟩ = false) :
    Calls Tryd.prog 38 #[.iface 86 (.pointer (some ⟨b, 0, none⟩)), .iface 96 (.pointer (some ⟨t, 0, none⟩))] w fun ev w' => ev = .returned (.bool true) ∧ w' = asTo w t e := by
  have f0 := as_valueOfP; have f1 := as_type; have f2 := as_mKind; have f3 := as_mElem; have f4 := as_mImplements; have f5 := as_mAssignableTo
  have f6 := as_kindP; have f7 := as_kindT; have f8 := as_elem; have f9 := as_implements; have f10 := as_assignable; have f11 := isTypeOf; have f12 := as_valueOfT
  have f13 := as_assignableF; have f14 := as_typeOfF; have f15 := noAsF; have f16 := hasUnwrapF; have f17 := methodUnwrapF
  have n8 := as_isNil ⟨w.heap.size, 0, none⟩ ⟨t, 0, none⟩ ((w.alloc (.cells #[.pointer (some ⟨t, 0, none⟩)] 96)).alloc (.cells #[.pointer (some ⟨1, 96, none⟩), .pointer (some ⟨w.heap.size, 0, none⟩), .int .u64 150] 127)) (by simp [go_sem])
  have el := as_elemV ⟨w.heap.size, 0, none⟩ ⟨t, 0, none⟩ (((w.alloc (.cells #[.pointer (some ⟨t, 0, none⟩)] 96)).alloc (.cells #[.pointer (some ⟨1, 96, none⟩), .pointer (some ⟨w.heap.size, 0, none⟩), .int .u64 150] 127)).alloc (.cells #[.pointer (some ⟨1, 96, none⟩), .pointer (some ⟨w.heap.size, 0, none⟩), .int .u64 150] 127)) (by simp [go_sem])
  have st := as_set ⟨t, 0, none⟩ ⟨w.heap.size + 1 + 1 + 1, 0, none⟩ e old ((((w.alloc (.cells #[.pointer (some ⟨t, 0, none⟩)] 96)).alloc (.cells #[.pointer (some ⟨1, 96, none⟩), .pointer (some ⟨w.heap.size, 0, none⟩), .int .u64 150] 127)).alloc (.cells #[.pointer (some ⟨1, 96, none⟩), .pointer (some ⟨w.heap.size, 0, none⟩), .int .u64 150] 127)).alloc (.cells #[.int .i64 e] 32))
    (by simp [go_sem]) (by simp [go_sem, ht0, htl, Nat.ne_of_lt htl]) (by simp [go_sem, hf0, htl, Nat.ne_of_lt htl])
  go_enter Tryd.func38, Tryd.ntmps38
  go_wp2
  refine wp_loop_rounds 2 ?_
  rw [rounds_succ]
  go_wp2_with (go_at_call 105; refine (fault_Unwrap _ (errV e) _ (by simp [go_sem, hbl, hc])).mono ?_; rintro e w' ⟨rfl, rfl⟩)
  rw [rounds_succ]
  go_wp2
  go_ret
  exact ⟨rfl, rfl⟩
end Go.Proofs.YtmoebgkfmkdkpaaDoor
