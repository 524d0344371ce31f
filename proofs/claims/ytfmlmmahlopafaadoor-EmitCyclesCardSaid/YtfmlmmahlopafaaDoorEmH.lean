/- A node whose equations need themselves has no class: for every number. -/
import Derived.Test.YtfmlmmahlopafaaDoorEmD
import Derived.Test.YtfmlmmahlopafaaDoorEmE
import Derived.Test.YtfmlmmahlopafaaDoorEmF
import Derived.Test.YtfmlmmahlopafaaDoorEmG
import Derived.IntWalk
set_option linter.unusedVariables false
set_option linter.unusedSimpArgs false
set_option linter.unusedSectionVars false
namespace Go.Proofs
open Go.Mt
theorem ec_all : ∀ k, 1 ≤ k → k ≤ 20 → ecRun k = true
  | 0, h, _ => by omega
  | 1, _, _ => ec1
  | 2, _, _ => ec2
  | 3, _, _ => ec3
  | 4, _, _ => ec4
  | 5, _, _ => ec5
  | 6, _, _ => ec6
  | 7, _, _ => ec7
  | 8, _, _ => ec8
  | 9, _, _ => ec9
  | 10, _, _ => ec10
  | 11, _, _ => ec11
  | 12, _, _ => ec12
  | 13, _, _ => ec13
  | 14, _, _ => ec14
  | 15, _, _ => ec15
  | 16, _, _ => ec16
  | 17, _, _ => ec17
  | 18, _, _ => ec18
  | 19, _, _ => ec19
  | 20, _, _ => ec20
  | _ + 21, _, h => by omega
theorem EmitCycles_true (n : Int) (h : (Lit.int .u8 n).wf = true) : PT Tryd.prog 3 [.int .u8 n] (· = [.bool true]) := by
  have hb : 0 ≤ n ∧ n ≤ 255 := by
    simp only [Lit.wf, Bool.and_eq_true, decide_eq_true_eq] at h
    exact ⟨h.1, h.2⟩
  have hm : n.tmod 20 = n % 20 := Int.tmod_eq_emod_of_nonneg hb.1
  have hk : 1 + n.tmod 20 = (((1 + n % 20).toNat : Nat) : Int) := by rw [hm]; omega
  have h20 : (1 + n % 20).toNat ≤ 20 := by omega
  exact cycles_of n _ (IntWalk.i64_in n (by omega)) hk h20 (ec_all _ (by omega) h20)
end Go.Proofs
