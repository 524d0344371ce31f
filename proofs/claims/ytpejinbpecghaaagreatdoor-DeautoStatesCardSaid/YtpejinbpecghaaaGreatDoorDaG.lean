/- Steps of the machines: each by a run of the reckoner in the kernel. -/
import Derived.Test.YtpejinbpecghaaaGreatDoorDaB
import Derived.KernelRfl
namespace Go.Proofs
open Go.Mt
set_option maxRecDepth 4000
set_option linter.unusedVariables false
theorem stepATF0F0 (a0 a1 sb rb b0 b1 : Int) : CT Tryz.prog 9 [.ref 5 0, .d (.sl [[.int .i32 0]])] (KTF 0 a0 a1 false sb rb b0 b1) fun a b => a = .tup [.d (.sl [[.int .i32 a0]]), .d (.int .i64 0)] ∧ b = KTF 0 (IntKind.i32.wrap (a0 + 1)) a1 false sb rb b0 b1 :=
  CT.of_chk dzSums_ok (heapF := dzHF) (hint := dzHint) (rounds := 1000) (k := 100) 12 rfl (by kernel_rfl) rfl rfl
theorem stepBTF0F0 (sa a0 a1 b0 b1 : Int) (pd : Bool) : CT Tryz.prog 9 [.ref 11 0, .d (.sl [[.int .i32 0]])] (KTF sa a0 a1 pd 0 0 b0 b1) fun a b => a = .tup [.d (.sl [[.int .i32 b0]]), .d (.int .i64 0)] ∧ b = KTF sa a0 a1 pd 0 0 (IntKind.i32.wrap (b0 + 1)) b1 :=
  CT.of_chk dzSums_ok (heapF := dzHF) (hint := dzHint) (rounds := 1000) (k := 100) 12 rfl (by kernel_rfl) rfl rfl
theorem stepATF0F1 (a0 a1 sb rb b0 b1 : Int) : CT Tryz.prog 9 [.ref 5 0, .d (.sl [[.int .i32 1]])] (KTF 0 a0 a1 false sb rb b0 b1) fun a b => a = .tup [.d (.sl [[.int .i32 100]]), .d (.int .i64 0)] ∧ b = KTF 1 a0 101 false sb rb b0 b1 :=
  CT.of_chk dzSums_ok (heapF := dzHF) (hint := dzHint) (rounds := 1000) (k := 100) 12 rfl (by kernel_rfl) rfl rfl
theorem stepBTF0F1 (sa a0 a1 b0 b1 : Int) (pd : Bool) : CT Tryz.prog 9 [.ref 11 0, .d (.sl [[.int .i32 1]])] (KTF sa a0 a1 pd 0 0 b0 b1) fun a b => a = .tup [.d (.sl [[.int .i32 100]]), .d (.int .i64 0)] ∧ b = KTF sa a0 a1 pd 1 0 b0 101 :=
  CT.of_chk dzSums_ok (heapF := dzHF) (hint := dzHint) (rounds := 1000) (k := 100) 12 rfl (by kernel_rfl) rfl rfl
theorem stepATF1F0 (a0 a1 sb rb b0 b1 : Int) : CT Tryz.prog 9 [.ref 5 0, .d (.sl [[.int .i32 0]])] (KTF 1 a0 a1 false sb rb b0 b1) fun a b => a = .tup [.d (.sl [[.int .i32 a1]]), .d (.int .i64 0)] ∧ b = KTF 1 a0 (IntKind.i32.wrap (a1 + 1)) false sb rb b0 b1 :=
  CT.of_chk dzSums_ok (heapF := dzHF) (hint := dzHint) (rounds := 1000) (k := 100) 12 rfl (by kernel_rfl) rfl rfl
theorem stepBTF1F0 (sa a0 a1 b0 b1 : Int) (pd : Bool) : CT Tryz.prog 9 [.ref 11 0, .d (.sl [[.int .i32 0]])] (KTF sa a0 a1 pd 1 0 b0 b1) fun a b => a = .tup [.d (.sl [[.int .i32 b1]]), .d (.int .i64 0)] ∧ b = KTF sa a0 a1 pd 1 0 b0 (IntKind.i32.wrap (b1 + 1)) :=
  CT.of_chk dzSums_ok (heapF := dzHF) (hint := dzHint) (rounds := 1000) (k := 100) 12 rfl (by kernel_rfl) rfl rfl
theorem stepATF1F1 (a0 a1 sb rb b0 b1 : Int) : CT Tryz.prog 9 [.ref 5 0, .d (.sl [[.int .i32 1]])] (KTF 1 a0 a1 false sb rb b0 b1) fun a b => a = .tup [.d (.sl [[.int .i32 0]]), .d (.int .i64 0)] ∧ b = KTF 0 1 a1 false sb rb b0 b1 :=
  CT.of_chk dzSums_ok (heapF := dzHF) (hint := dzHint) (rounds := 1000) (k := 100) 12 rfl (by kernel_rfl) rfl rfl
theorem stepBTF1F1 (sa a0 a1 b0 b1 : Int) (pd : Bool) : CT Tryz.prog 9 [.ref 11 0, .d (.sl [[.int .i32 1]])] (KTF sa a0 a1 pd 1 0 b0 b1) fun a b => a = .tup [.d (.sl [[.int .i32 0]]), .d (.int .i64 0)] ∧ b = KTF sa a0 a1 pd 0 0 1 b1 :=
  CT.of_chk dzSums_ok (heapF := dzHF) (hint := dzHint) (rounds := 1000) (k := 100) 12 rfl (by kernel_rfl) rfl rfl
end Go.Proofs
