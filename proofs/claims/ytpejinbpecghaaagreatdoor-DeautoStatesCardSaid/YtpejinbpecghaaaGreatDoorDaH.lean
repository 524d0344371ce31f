/- Steps of the machines: each by a run of the reckoner in the kernel. -/
import Derived.Test.YtpejinbpecghaaaGreatDoorDaB
import Derived.KernelRfl
namespace Go.Proofs
open Go.Mt
set_option maxRecDepth 4000
set_option linter.unusedVariables false
theorem stepATT0F0 (a0 a1 sb rb b0 b1 : Int) : CT Tryz.prog 9 [.ref 5 0, .d (.sl [[.int .i32 0]])] (KTT 0 a0 a1 false sb rb b0 b1) fun a b => a = .tup [.d (.sl [[.int .i32 a0]]), .d (.int .i64 0)] ∧ b = KTT 0 (IntKind.i32.wrap (a0 + 1)) a1 false sb rb b0 b1 :=
  CT.of_chk dzSums_ok (heapF := dzHF) (hint := dzHint) (rounds := 1000) (k := 100) 12 rfl (by kernel_rfl) rfl rfl
theorem stepBTT0F0 (sa a0 a1 b0 b1 : Int) (pd : Bool) : CT Tryz.prog 9 [.ref 11 0, .d (.sl [[.int .i32 0]])] (KTT sa a0 a1 pd 0 0 b0 b1) fun a b => a = .tup [.d (.sl [[.int .i32 b0]]), .d (.int .i64 0)] ∧ b = KTT sa a0 a1 pd 0 0 (IntKind.i32.wrap (b0 + 1)) b1 :=
  CT.of_chk dzSums_ok (heapF := dzHF) (hint := dzHint) (rounds := 1000) (k := 100) 12 rfl (by kernel_rfl) rfl rfl
theorem stepATT0F1 (a0 a1 sb rb b0 b1 : Int) : CT Tryz.prog 9 [.ref 5 0, .d (.sl [[.int .i32 1]])] (KTT 0 a0 a1 false sb rb b0 b1) fun a b => a = .tup [.d (.sl [[.int .i32 a1]]), .d (.int .i64 0)] ∧ b = KTT 1 a0 (IntKind.i32.wrap (a1 + 1)) false sb rb b0 b1 :=
  CT.of_chk dzSums_ok (heapF := dzHF) (hint := dzHint) (rounds := 1000) (k := 100) 12 rfl (by kernel_rfl) rfl rfl
theorem stepBTT0F1 (sa a0 a1 b0 b1 : Int) (pd : Bool) : CT Tryz.prog 9 [.ref 11 0, .d (.sl [[.int .i32 1]])] (KTT sa a0 a1 pd 0 0 b0 b1) fun a b => a = .tup [.d (.sl [[.int .i32 b1]]), .d (.int .i64 0)] ∧ b = KTT sa a0 a1 pd 1 0 b0 (IntKind.i32.wrap (b1 + 1)) :=
  CT.of_chk dzSums_ok (heapF := dzHF) (hint := dzHint) (rounds := 1000) (k := 100) 12 rfl (by kernel_rfl) rfl rfl
theorem stepATT1F0 (a0 a1 sb rb b0 b1 : Int) : CT Tryz.prog 9 [.ref 5 0, .d (.sl [[.int .i32 0]])] (KTT 1 a0 a1 false sb rb b0 b1) fun a b => a = .tup [.d (.sl [[.int .i32 a1]]), .d (.int .i64 0)] ∧ b = KTT 1 a0 (IntKind.i32.wrap (a1 + 1)) false sb rb b0 b1 :=
  CT.of_chk dzSums_ok (heapF := dzHF) (hint := dzHint) (rounds := 1000) (k := 100) 12 rfl (by kernel_rfl) rfl rfl
theorem stepBTT1F0 (sa a0 a1 b0 b1 : Int) (pd : Bool) : CT Tryz.prog 9 [.ref 11 0, .d (.sl [[.int .i32 0]])] (KTT sa a0 a1 pd 1 0 b0 b1) fun a b => a = .tup [.d (.sl [[.int .i32 b1]]), .d (.int .i64 0)] ∧ b = KTT sa a0 a1 pd 1 0 b0 (IntKind.i32.wrap (b1 + 1)) :=
  CT.of_chk dzSums_ok (heapF := dzHF) (hint := dzHint) (rounds := 1000) (k := 100) 12 rfl (by kernel_rfl) rfl rfl
theorem stepATT1F1 (a0 a1 sb rb b0 b1 : Int) : CT Tryz.prog 9 [.ref 5 0, .d (.sl [[.int .i32 1]])] (KTT 1 a0 a1 false sb rb b0 b1) fun a b => a = .tup [.d (.sl [[.int .i32 a0]]), .d (.int .i64 0)] ∧ b = KTT 0 (IntKind.i32.wrap (a0 + 1)) a1 false sb rb b0 b1 :=
  CT.of_chk dzSums_ok (heapF := dzHF) (hint := dzHint) (rounds := 1000) (k := 100) 12 rfl (by kernel_rfl) rfl rfl
theorem stepBTT1F1 (sa a0 a1 b0 b1 : Int) (pd : Bool) : CT Tryz.prog 9 [.ref 11 0, .d (.sl [[.int .i32 1]])] (KTT sa a0 a1 pd 1 0 b0 b1) fun a b => a = .tup [.d (.sl [[.int .i32 b0]]), .d (.int .i64 0)] ∧ b = KTT sa a0 a1 pd 0 0 (IntKind.i32.wrap (b0 + 1)) b1 :=
  CT.of_chk dzSums_ok (heapF := dzHF) (hint := dzHint) (rounds := 1000) (k := 100) 12 rfl (by kernel_rfl) rfl rfl
end Go.Proofs
