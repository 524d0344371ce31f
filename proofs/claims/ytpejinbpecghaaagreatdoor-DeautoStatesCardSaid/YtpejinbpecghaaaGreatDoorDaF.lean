/- Steps of the machines: each by a run of the reckoner in the kernel. -/
import Derived.Test.YtpejinbpecghaaaGreatDoorDaB
import Derived.KernelRfl
namespace Go.Proofs
open Go.Mt
set_option maxRecDepth 4000
set_option linter.unusedVariables false
theorem stepAFT0F0 (a0 a1 sb rb b0 b1 : Int) : CT Tryz.prog 9 [.ref 5 0, .d (.sl [[.int .i32 0]])] (KFT 0 a0 a1 false sb rb b0 b1) fun a b => a = .tup [.d (.sl [[.int .i32 a0]]), .d (.int .i64 0)] ∧ b = KFT 0 (IntKind.i32.wrap (a0 + 1)) a1 false sb rb b0 b1 :=
  CT.of_chk dzSums_ok (heapF := dzHF) (hint := dzHint) (rounds := 1000) (k := 100) 12 rfl (by kernel_rfl) rfl rfl
theorem stepBFT0F0 (sa a0 a1 b0 b1 : Int) (pd : Bool) : CT Tryz.prog 9 [.ref 11 0, .d (.sl [[.int .i32 0]])] (KFT sa a0 a1 pd 0 0 b0 b1) fun a b => a = .tup [.d (.sl [[.int .i32 b0]]), .d (.int .i64 0)] ∧ b = KFT sa a0 a1 pd 0 0 (IntKind.i32.wrap (b0 + 1)) b1 :=
  CT.of_chk dzSums_ok (heapF := dzHF) (hint := dzHint) (rounds := 1000) (k := 100) 12 rfl (by kernel_rfl) rfl rfl
theorem stepAFT0F1 (a0 a1 sb rb b0 b1 : Int) : CT Tryz.prog 9 [.ref 5 0, .d (.sl [[.int .i32 1]])] (KFT 0 a0 a1 false sb rb b0 b1) fun a b => a = .tup [.d (.sl [[.int .i32 a0]]), .d (.int .i64 0)] ∧ b = KFT 1 (IntKind.i32.wrap (a0 + 1)) a1 false sb rb b0 b1 :=
  CT.of_chk dzSums_ok (heapF := dzHF) (hint := dzHint) (rounds := 1000) (k := 100) 12 rfl (by kernel_rfl) rfl rfl
theorem stepBFT0F1 (sa a0 a1 b0 b1 : Int) (pd : Bool) : CT Tryz.prog 9 [.ref 11 0, .d (.sl [[.int .i32 1]])] (KFT sa a0 a1 pd 0 0 b0 b1) fun a b => a = .tup [.d (.sl [[.int .i32 b0]]), .d (.int .i64 0)] ∧ b = KFT sa a0 a1 pd 1 0 (IntKind.i32.wrap (b0 + 1)) b1 :=
  CT.of_chk dzSums_ok (heapF := dzHF) (hint := dzHint) (rounds := 1000) (k := 100) 12 rfl (by kernel_rfl) rfl rfl
theorem stepAFT1F0 (a0 a1 sb rb b0 b1 : Int) : CT Tryz.prog 9 [.ref 5 0, .d (.sl [[.int .i32 0]])] (KFT 1 a0 a1 false sb rb b0 b1) fun a b => a = .tup [.d (.sl [[.int .i32 a1]]), .d (.int .i64 0)] ∧ b = KFT 1 a0 (IntKind.i32.wrap (a1 + 1)) false sb rb b0 b1 :=
  CT.of_chk dzSums_ok (heapF := dzHF) (hint := dzHint) (rounds := 1000) (k := 100) 12 rfl (by kernel_rfl) rfl rfl
theorem stepBFT1F0 (sa a0 a1 b0 b1 : Int) (pd : Bool) : CT Tryz.prog 9 [.ref 11 0, .d (.sl [[.int .i32 0]])] (KFT sa a0 a1 pd 1 0 b0 b1) fun a b => a = .tup [.d (.sl [[.int .i32 b1]]), .d (.int .i64 0)] ∧ b = KFT sa a0 a1 pd 1 0 b0 (IntKind.i32.wrap (b1 + 1)) :=
  CT.of_chk dzSums_ok (heapF := dzHF) (hint := dzHint) (rounds := 1000) (k := 100) 12 rfl (by kernel_rfl) rfl rfl
theorem stepAFT1F1 (a0 a1 sb rb b0 b1 : Int) : CT Tryz.prog 9 [.ref 5 0, .d (.sl [[.int .i32 1]])] (KFT 1 a0 a1 false sb rb b0 b1) fun a b => a = .tup [.d (.sl [[.int .i32 a1]]), .d (.int .i64 0)] ∧ b = KFT 0 a0 (IntKind.i32.wrap (a1 + 1)) false sb rb b0 b1 :=
  CT.of_chk dzSums_ok (heapF := dzHF) (hint := dzHint) (rounds := 1000) (k := 100) 12 rfl (by kernel_rfl) rfl rfl
theorem stepBFT1F1 (sa a0 a1 b0 b1 : Int) (pd : Bool) : CT Tryz.prog 9 [.ref 11 0, .d (.sl [[.int .i32 1]])] (KFT sa a0 a1 pd 1 0 b0 b1) fun a b => a = .tup [.d (.sl [[.int .i32 b1]]), .d (.int .i64 0)] ∧ b = KFT sa a0 a1 pd 0 0 b0 (IntKind.i32.wrap (b1 + 1)) :=
  CT.of_chk dzSums_ok (heapF := dzHF) (hint := dzHint) (rounds := 1000) (k := 100) 12 rfl (by kernel_rfl) rfl rfl
end Go.Proofs
