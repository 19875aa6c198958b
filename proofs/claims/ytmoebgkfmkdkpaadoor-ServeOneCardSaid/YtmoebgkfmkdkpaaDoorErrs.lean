/- errors.Is, errors.As at the errors of this program. -/
import Derived.Test.YtmoebgkfmkdkpaaDoorFacts
import Derived.LaidEql
import Derived.Stop.Asserts
import Derived.RowKitTokens
import Derived.Lib.IfaceEq
namespace Go.Proofs.YtmoebgkfmkdkpaaDoor
open Go.RowKit Go.Proofs Go.Extern.Stop Go.Stop Go.Extern
set_option linter.unusedSimpArgs false
set_option linter.unusedVariables false

/-- The value of an error number as an error. -/
abbrev errV (e : Int) : Value := .iface 32 (.int .i64 e)

/-! ### Is -/
theorem isTypeOf (v : Value) (w : World) : (callFunc 36 #[.iface 32 v]).run Tryd.prog w = .ok (.value (.iface 114 (.agg #[.pointer (some ⟨1, 32, none⟩)]))) w := by kernel_rfl
theorem isComparable (w : World) : (callFunc 110 #[.agg #[.pointer (some ⟨1, 32, none⟩)]]).run Tryd.prog w = .ok (.value (.bool true)) w := by kernel_rfl
theorem isMethodComparable (v : Value) (w : World) : (Go.method 301 114 v "Comparable").run Tryd.prog w = .ok (110, v) w := by kernel_rfl
theorem isComp : (Tryd.prog.info? 32).map (·.comparable) = some true := by kernel_rfl
theorem noIsE (v : Value) (xT : TypeId) (w : World) : (Instr.typeAssert (.iface 32 v) xT 116 true).run Tryd.prog w = .ok (.tuple #[.nilIface, .bool false]) w := run_typeAssert_lacksB Tryd.underlying116 (by kernel_rfl) (by kernel_rfl) v xT w
theorem noIsF (v : Value) (xT : TypeId) (w : World) : (Instr.typeAssert (.iface 86 v) xT 116 true).run Tryd.prog w = .ok (.tuple #[.nilIface, .bool false]) w := run_typeAssert_lacksB Tryd.underlying116 (by kernel_rfl) (by kernel_rfl) v xT w
theorem noUnwrapE (v : Value) (xT : TypeId) (w : World) : (Instr.typeAssert (.iface 32 v) xT 119 true).run Tryd.prog w = .ok (.tuple #[.nilIface, .bool false]) w := run_typeAssert_lacksB Tryd.underlying119 (by kernel_rfl) (by kernel_rfl) v xT w
theorem noUnwrapsE (v : Value) (xT : TypeId) (w : World) : (Instr.typeAssert (.iface 32 v) xT 121 true).run Tryd.prog w = .ok (.tuple #[.nilIface, .bool false]) w := run_typeAssert_lacksB Tryd.underlying121 (by kernel_rfl) (by kernel_rfl) v xT w
theorem hasUnwrapF (v : Value) (xT : TypeId) (w : World) : (Instr.typeAssert (.iface 86 v) xT 119 true).run Tryd.prog w = .ok (.tuple #[.iface 86 v, .bool true]) w := run_typeAssert_hasB Tryd.underlying119 (by kernel_rfl) v xT w
theorem methodUnwrapF (v : Value) (w : World) : (Go.method 301 86 v "Unwrap").run Tryd.prog w = .ok (105, v) w := by kernel_rfl

theorem is_nil (t : Int) (w : World) : Calls Tryd.prog 19 #[.nilIface, errV t] w fun e w' => e = .returned (.bool false) ∧ w = w' := by
  have hn := run_eql_iface_nil_left (P := Tryd.prog) w 32 (.int .i64 t) Tryd.underlying54
  go_enter Tryd.func19, Tryd.ntmps19
  go_wp2
  go_ret
  exact ⟨rfl, rfl⟩

theorem fault_Unwrap (b : Nat) (v : Value) (w : World) (hc : w.cell? ⟨b, 1, none⟩ = some v) : Calls Tryd.prog 105 #[.pointer (some ⟨b, 0, none⟩)] w fun e w' => e = .returned v ∧ w = w' := by
  go_enter Tryd.func105, Tryd.ntmps105
  go_wp2
  go_ret
  exact ⟨rfl, rfl⟩

set_option maxHeartbeats 4000000 in
theorem is_no (e t : Int) (w : World) : Calls Tryd.prog 19 #[errV e, errV t] w fun ev w' => ev = .returned (.bool (e == t)) ∧ w = w' := by
  have tT := isTypeOf
  have cT := isComparable
  have mR := isMethodComparable
  have nE := noIsE
  have uE := noUnwrapE
  have vE := noUnwrapsE
  have heq := Lib.run_eql_iface_int (P := Tryd.prog) (k := .i64) w e t Tryd.underlying54 isComp Tryd.underlying32
  go_enter Tryd.func19, Tryd.ntmps19
  go_wp2
  refine wp_loop_rounds 1 ?_
  rw [rounds_succ]
  cases he : (e == t)
  all_goals
    rw [he] at heq
    go_wp2
    go_ret
    simp [he]

set_option maxHeartbeats 4000000 in
theorem is_fault (b : Nat) (e t : Int) (w : World) (hc : w.cell? ⟨b, 1, none⟩ = some (errV e)) : Calls Tryd.prog 19 #[.iface 86 (.pointer (some ⟨b, 0, none⟩)), errV t] w fun ev w' => ev = .returned (.bool (e == t)) ∧ w = w' := by
  have tT := isTypeOf
  have cT := isComparable
  have mR := isMethodComparable
  have nE := noIsE
  have uE := noUnwrapE
  have vE := noUnwrapsE
  have nF := noIsF
  have uF := hasUnwrapF
  have mU := methodUnwrapF
  have heq := Lib.run_eql_iface_int (P := Tryd.prog) (k := .i64) w e t Tryd.underlying54 isComp Tryd.underlying32
  have hty := run_eql_iface_types (P := Tryd.prog) 86 32 (.pointer (some ⟨b, 0, none⟩)) (.int .i64 t) Tryd.underlying54 (by decide) w
  go_enter Tryd.func19, Tryd.ntmps19
  go_wp2
  refine wp_loop_rounds 2 ?_
  rw [rounds_succ]
  go_wp2_with (go_at_call 105; refine (fault_Unwrap _ _ _ hc).mono ?_; rintro e w' ⟨rfl, rfl⟩)
  rw [rounds_succ]
  cases he : (e == t)
  all_goals
    rw [he] at heq
    go_wp2
    go_ret
    simp [he]
end Go.Proofs.YtmoebgkfmkdkpaaDoor
