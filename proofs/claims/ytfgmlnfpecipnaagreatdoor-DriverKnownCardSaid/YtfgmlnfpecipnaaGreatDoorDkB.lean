/- errors.Is of kinds, bare or in one or two wraps. -/
import Derived.Test.YtfgmlnfpecipnaaGreatDoorChecked
import Derived.WalkKit
import Derived.LaidEql
import Derived.Lib.IfaceEq
import Derived.Stop.Asserts
import Derived.RowKitTokens
import Derived.KernelRfl
set_option linter.unusedVariables false
set_option linter.unusedSimpArgs false
set_option linter.unusedSectionVars false
namespace Go.Proofs.Dk
open Go.RowKit Go.Extern.Stop Go.Stop Go.Extern
set_option maxRecDepth 4000

def cmpM : Array Value → Sem Value := Extern.ReflectliteType.method fun t => do Extern.Rtype.noPackHeld "Comparable" t; pure (.bool (← typeInfo t).comparable)
theorem isTypeOf (v : Value) (w : World) : (Extern.ReflectliteType.typeOf #[.iface 25 v]).run Tryz.prog w = .ok (.iface 80 (.agg #[.pointer (some ⟨4, 25, none⟩)])) w := by kernel_rfl
theorem isComparable (w : World) : (cmpM #[.agg #[.pointer (some ⟨4, 25, none⟩)]]).run Tryz.prog w = .ok (.bool true) w := by kernel_rfl
theorem isMethodComparable (v : Value) (w : World) : (Go.method 617 80 v "Comparable").run Tryz.prog w = .ok (368, v) w := by kernel_rfl
theorem isComp : (Tryz.prog.info? 25).map (·.comparable) = some true := by kernel_rfl
theorem noIsK (v : Value) (xT : TypeId) (w : World) : (Instr.typeAssert (.iface 25 v) xT 82 true).run Tryz.prog w = .ok (.tuple #[.nilIface, .bool false]) w := run_typeAssert_lacksB Tryz.underlying82 (by kernel_rfl) (by kernel_rfl) v xT w
theorem noUnwrapK (v : Value) (xT : TypeId) (w : World) : (Instr.typeAssert (.iface 25 v) xT 84 true).run Tryz.prog w = .ok (.tuple #[.nilIface, .bool false]) w := run_typeAssert_lacksB Tryz.underlying84 (by kernel_rfl) (by kernel_rfl) v xT w
theorem noUnwrapsK (v : Value) (xT : TypeId) (w : World) : (Instr.typeAssert (.iface 25 v) xT 86 true).run Tryz.prog w = .ok (.tuple #[.nilIface, .bool false]) w := run_typeAssert_lacksB Tryz.underlying86 (by kernel_rfl) (by kernel_rfl) v xT w
theorem noIsA (v : Value) (xT : TypeId) (w : World) : (Instr.typeAssert (.iface 53 v) xT 82 true).run Tryz.prog w = .ok (.tuple #[.nilIface, .bool false]) w := run_typeAssert_lacksB Tryz.underlying82 (by kernel_rfl) (by kernel_rfl) v xT w
theorem hasUnwrapA (v : Value) (xT : TypeId) (w : World) : (Instr.typeAssert (.iface 53 v) xT 84 true).run Tryz.prog w = .ok (.tuple #[.iface 53 v, .bool true]) w := run_typeAssert_hasB Tryz.underlying84 (by kernel_rfl) v xT w
theorem methodUnwrap (v : Value) (w : World) : (Go.method 617 53 v "Unwrap").run Tryz.prog w = .ok (364, v) w := by kernel_rfl

set_option maxHeartbeats 2000000 in
theorem is_kind (x k : Int) (w : World) :
    Calls Tryz.prog 10 #[.iface 25 (.int .i64 x), .iface 25 (.int .i64 k)] w fun e w' => e = .returned (.bool (x == k)) ∧ w' = w := by
  have h14 := @run_callFunc_extern Tryz.prog 14 _ Extern.ReflectliteType.typeOf Tryz.func14 (by kernel_rfl) (by kernel_rfl) (by kernel_rfl) (by kernel_rfl)
  have h368 := @run_callFunc_extern Tryz.prog 368 _ cmpM Tryz.func368 (by kernel_rfl) (by kernel_rfl) (by kernel_rfl) (by kernel_rfl)
  have tT := isTypeOf
  have cT := isComparable
  have mR := isMethodComparable
  have nI := noIsK
  have nU := noUnwrapK
  have nV := noUnwrapsK
  have heq := Lib.run_eql_iface_int (P := Tryz.prog) (k := .i64) w x k Tryz.underlying27 isComp Tryz.underlying25
  cases hx : (x == k) with
  | true =>
    rw [hx] at heq
    go_enter Tryz.func10, Tryz.ntmps10
    go_wp2
    refine wp_loop_rounds 1 ?_
    rw [rounds_succ]
    go_wp2
    go_ret
    exact ⟨rfl, rfl⟩
  | false =>
    rw [hx] at heq
    go_enter Tryz.func10, Tryz.ntmps10
    go_wp2
    refine wp_loop_rounds 1 ?_
    rw [rounds_succ]
    go_wp2
    go_ret
    exact ⟨rfl, rfl⟩
set_option maxHeartbeats 2000000 in
theorem is_at1 (pb po : Nat) (x k : Int) (w : World) (h1 : w.cell? ⟨pb, po + 4, none⟩ = some (.iface 25 (.int .i64 x))) :
    Calls Tryz.prog 10 #[.iface 53 (.pointer (some ⟨pb, po, none⟩)), .iface 25 (.int .i64 k)] w fun e w' => e = .returned (.bool (x == k)) ∧ w' = w := by
  have h14 := @run_callFunc_extern Tryz.prog 14 _ Extern.ReflectliteType.typeOf Tryz.func14 (by kernel_rfl) (by kernel_rfl) (by kernel_rfl) (by kernel_rfl)
  have h368 := @run_callFunc_extern Tryz.prog 368 _ cmpM Tryz.func368 (by kernel_rfl) (by kernel_rfl) (by kernel_rfl) (by kernel_rfl)
  have tT := isTypeOf
  have cT := isComparable
  have mR := isMethodComparable
  have nI := noIsK
  have nU := noUnwrapK
  have nV := noUnwrapsK
  have aI := noIsA
  have aU := hasUnwrapA
  have mU := methodUnwrap
  have heq := Lib.run_eql_iface_int (P := Tryz.prog) (k := .i64) w x k Tryz.underlying27 isComp Tryz.underlying25
  have hty := run_eql_iface_types (P := Tryz.prog) 53 25 (.pointer (some ⟨pb, po, none⟩)) (.int .i64 k) Tryz.underlying27 (by decide) w
  cases hx : (x == k) with
  | true =>
    rw [hx] at heq
    go_enter Tryz.func10, Tryz.ntmps10
    go_wp2
    refine wp_loop_rounds 2 ?_
    rw [rounds_succ]
    go_wp2
    rw [rounds_succ]
    go_wp2
    go_ret
    exact ⟨rfl, rfl⟩
  | false =>
    rw [hx] at heq
    go_enter Tryz.func10, Tryz.ntmps10
    go_wp2
    refine wp_loop_rounds 2 ?_
    rw [rounds_succ]
    go_wp2
    rw [rounds_succ]
    go_wp2
    go_ret
    exact ⟨rfl, rfl⟩
set_option maxHeartbeats 2000000 in
theorem is_at2 (pb po qb qo : Nat) (x k : Int) (w : World) (h1 : w.cell? ⟨pb, po + 4, none⟩ = some (.iface 53 (.pointer (some ⟨qb, qo, none⟩)))) (h2 : w.cell? ⟨qb, qo + 4, none⟩ = some (.iface 25 (.int .i64 x))) :
    Calls Tryz.prog 10 #[.iface 53 (.pointer (some ⟨pb, po, none⟩)), .iface 25 (.int .i64 k)] w fun e w' => e = .returned (.bool (x == k)) ∧ w' = w := by
  have h14 := @run_callFunc_extern Tryz.prog 14 _ Extern.ReflectliteType.typeOf Tryz.func14 (by kernel_rfl) (by kernel_rfl) (by kernel_rfl) (by kernel_rfl)
  have h368 := @run_callFunc_extern Tryz.prog 368 _ cmpM Tryz.func368 (by kernel_rfl) (by kernel_rfl) (by kernel_rfl) (by kernel_rfl)
  have tT := isTypeOf
  have cT := isComparable
  have mR := isMethodComparable
  have nI := noIsK
  have nU := noUnwrapK
  have nV := noUnwrapsK
  have aI := noIsA
  have aU := hasUnwrapA
  have mU := methodUnwrap
  have heq := Lib.run_eql_iface_int (P := Tryz.prog) (k := .i64) w x k Tryz.underlying27 isComp Tryz.underlying25
  have hty := run_eql_iface_types (P := Tryz.prog) 53 25 (.pointer (some ⟨pb, po, none⟩)) (.int .i64 k) Tryz.underlying27 (by decide) w
  have hty2 := run_eql_iface_types (P := Tryz.prog) 53 25 (.pointer (some ⟨qb, qo, none⟩)) (.int .i64 k) Tryz.underlying27 (by decide) w
  cases hx : (x == k) with
  | true =>
    rw [hx] at heq
    go_enter Tryz.func10, Tryz.ntmps10
    go_wp2
    refine wp_loop_rounds 3 ?_
    rw [rounds_succ]
    go_wp2
    rw [rounds_succ]
    go_wp2
    rw [rounds_succ]
    go_wp2
    go_ret
    exact ⟨rfl, rfl⟩
  | false =>
    rw [hx] at heq
    go_enter Tryz.func10, Tryz.ntmps10
    go_wp2
    refine wp_loop_rounds 3 ?_
    rw [rounds_succ]
    go_wp2
    rw [rounds_succ]
    go_wp2
    rw [rounds_succ]
    go_wp2
    go_ret
    exact ⟨rfl, rfl⟩
end Go.Proofs.Dk
