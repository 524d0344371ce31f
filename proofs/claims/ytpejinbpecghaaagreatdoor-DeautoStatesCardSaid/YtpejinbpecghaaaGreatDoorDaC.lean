/- The programs and their machines: each by a run of the reckoner in the kernel. -/
import Derived.Test.YtpejinbpecghaaaGreatDoorDaB
import Derived.KernelRfl
namespace Go.Proofs
open Go.Mt
set_option maxRecDepth 4000
set_option linter.unusedVariables false
theorem autoFF_ok : PT Tryz.prog 6 [.bool false, .bool false] (· = [autoFF]) := PT.of_chkD dzSums_ok (heapF := dzHF) (hint := dzHint) (rounds := 1000) (k := 100) (by kernel_rfl)
theorem deautoFF_ok : PT Tryz.prog 8 [autoFF] (· = [deautoFF]) := PT.of_chkD dzSums_ok (heapF := dzHF) (hint := dzHint) (rounds := 1000) (k := 100) (by kernel_rfl)
theorem newAFF_ok : CT Tryz.prog 7 [.d autoFF, .d (.str ⟨#[102]⟩)] [] fun a b => a = .tup [.ref 5 0, .d (.int .i64 0)] ∧ b = AFF :=
  CT.of_chk dzSums_ok (heapF := dzHF) (hint := dzHint) (rounds := 1000) (k := 100) 6 rfl (by kernel_rfl) rfl rfl
theorem newBFF_ok : CT Tryz.prog 7 [.d deautoFF, .d (.str ⟨#[102]⟩)] AFF fun a b => a = .tup [.ref 11 0, .d (.int .i64 0)] ∧ b = KFF 0 0 100 false 0 0 0 100 :=
  CT.of_chk dzSums_ok (heapF := dzHF) (hint := dzHint) (rounds := 1000) (k := 100) 12 rfl (by kernel_rfl) rfl rfl
theorem autoFT_ok : PT Tryz.prog 6 [.bool false, .bool true] (· = [autoFT]) := PT.of_chkD dzSums_ok (heapF := dzHF) (hint := dzHint) (rounds := 1000) (k := 100) (by kernel_rfl)
theorem deautoFT_ok : PT Tryz.prog 8 [autoFT] (· = [deautoFT]) := PT.of_chkD dzSums_ok (heapF := dzHF) (hint := dzHint) (rounds := 1000) (k := 100) (by kernel_rfl)
theorem newAFT_ok : CT Tryz.prog 7 [.d autoFT, .d (.str ⟨#[102]⟩)] [] fun a b => a = .tup [.ref 5 0, .d (.int .i64 0)] ∧ b = AFT :=
  CT.of_chk dzSums_ok (heapF := dzHF) (hint := dzHint) (rounds := 1000) (k := 100) 6 rfl (by kernel_rfl) rfl rfl
theorem newBFT_ok : CT Tryz.prog 7 [.d deautoFT, .d (.str ⟨#[102]⟩)] AFT fun a b => a = .tup [.ref 11 0, .d (.int .i64 0)] ∧ b = KFT 0 0 100 false 0 0 0 100 :=
  CT.of_chk dzSums_ok (heapF := dzHF) (hint := dzHint) (rounds := 1000) (k := 100) 12 rfl (by kernel_rfl) rfl rfl
theorem autoTF_ok : PT Tryz.prog 6 [.bool true, .bool false] (· = [autoTF]) := PT.of_chkD dzSums_ok (heapF := dzHF) (hint := dzHint) (rounds := 1000) (k := 100) (by kernel_rfl)
theorem deautoTF_ok : PT Tryz.prog 8 [autoTF] (· = [deautoTF]) := PT.of_chkD dzSums_ok (heapF := dzHF) (hint := dzHint) (rounds := 1000) (k := 100) (by kernel_rfl)
theorem newATF_ok : CT Tryz.prog 7 [.d autoTF, .d (.str ⟨#[102]⟩)] [] fun a b => a = .tup [.ref 5 0, .d (.int .i64 0)] ∧ b = ATF :=
  CT.of_chk dzSums_ok (heapF := dzHF) (hint := dzHint) (rounds := 1000) (k := 100) 6 rfl (by kernel_rfl) rfl rfl
theorem newBTF_ok : CT Tryz.prog 7 [.d deautoTF, .d (.str ⟨#[102]⟩)] ATF fun a b => a = .tup [.ref 11 0, .d (.int .i64 0)] ∧ b = KTF 0 0 100 false 0 0 0 100 :=
  CT.of_chk dzSums_ok (heapF := dzHF) (hint := dzHint) (rounds := 1000) (k := 100) 12 rfl (by kernel_rfl) rfl rfl
theorem autoTT_ok : PT Tryz.prog 6 [.bool true, .bool true] (· = [autoTT]) := PT.of_chkD dzSums_ok (heapF := dzHF) (hint := dzHint) (rounds := 1000) (k := 100) (by kernel_rfl)
theorem deautoTT_ok : PT Tryz.prog 8 [autoTT] (· = [deautoTT]) := PT.of_chkD dzSums_ok (heapF := dzHF) (hint := dzHint) (rounds := 1000) (k := 100) (by kernel_rfl)
theorem newATT_ok : CT Tryz.prog 7 [.d autoTT, .d (.str ⟨#[102]⟩)] [] fun a b => a = .tup [.ref 5 0, .d (.int .i64 0)] ∧ b = ATT :=
  CT.of_chk dzSums_ok (heapF := dzHF) (hint := dzHint) (rounds := 1000) (k := 100) 6 rfl (by kernel_rfl) rfl rfl
theorem newBTT_ok : CT Tryz.prog 7 [.d deautoTT, .d (.str ⟨#[102]⟩)] ATT fun a b => a = .tup [.ref 11 0, .d (.int .i64 0)] ∧ b = KTT 0 0 100 false 0 0 0 100 :=
  CT.of_chk dzSums_ok (heapF := dzHF) (hint := dzHint) (rounds := 1000) (k := 100) 12 rfl (by kernel_rfl) rfl rfl
end Go.Proofs
