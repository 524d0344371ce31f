/- Are two lists one? -/
import Derived.Test.YtcmjcdiaidalgaaGrU
namespace Go.Proofs
open Go.Mt Go.Gr
set_option maxRecDepth 4000
set_option linter.unusedSimpArgs false
set_option linter.unusedVariables false

instance : IsFn Try.prog 28 := isFn_of (by kernel_rfl)
theorem same_ok (l : List Nat) (hl : l.length ≤ 1000) : PT Try.prog 28 [.sl (natsR l), .sl (natsR l)] (· = [.bool true]) := by
  refine PT.of_CT (CT.of_body Try.func28 rfl Try.ntmps28 rfl fun s0 Oo => ?_)
  repeat refine TC.seq ?_
  refine TC.region ?_
  refine t_assign rfl rfl ?_
  refine TL.nil ?_
  repeat refine TC.seq ?_
  refine TC.region ?_
  refine t_move rfl rfl ?_
  (refine t_lenS rfl rfl rfl ?_; rw [natsR_len])
  refine t_move rfl rfl ?_
  (refine t_lenS rfl rfl rfl ?_; rw [natsR_len])
  (refine t_int rfl rfl rfl (r := .bool false) (by show some (D.bool ((l.length : Int) != (l.length : Int))) = _; simp) ?_)
  refine TL.nil ?_
  repeat refine TC.seq ?_
  refine TC.cond rfl (fun hc => by cases hc) (fun hc => ?_)
  refine TC.skip ?_
  repeat refine TC.seq ?_
  refine TC.region ?_
  refine t_assign rfl rfl ?_
  refine TL.nil ?_
  refine TC.rename [(5, .m (.d (.int .i64 ((0 : Nat) : Int)))), (1, .m (.d (.sl (natsR l)))), (0, .m (.d (.sl (natsR l))))] [] ⟨rfl, rfl, rfl, trivial⟩ rfl ?_
  repeat refine TC.seq ?_
  refine TC.block ?_
  refine TC.loopB (fun m s => ∃ (i : Nat), s = ⟨[(5, .m (.d (.int .i64 (i : Int)))), (1, .m (.d (.sl (natsR l)))), (0, .m (.d (.sl (natsR l))))], [], []⟩ ∧ i ≤ l.length ∧ m = l.length - i) l.length _
    ⟨0, rfl, by omega, rfl⟩ ⟨rfl, rfl, rfl, trivial⟩ ?_
  rintro m s ⟨i, rfl, hi, rfl⟩
  repeat refine TC.seq ?_
  refine TC.region ?_
  refine t_move rfl rfl ?_
  refine t_move rfl rfl ?_
  (refine t_lenS rfl rfl rfl ?_; rw [natsR_len])
  refine t_int rfl rfl rfl rfl ?_
  refine TL.nil ?_
  repeat refine TC.seq ?_
  refine TC.cond rfl (fun hc => ?_) (fun hc => ?_)
  · have hc' : i < l.length := by have := of_decide_eq_true hc; omega
    clear hc
    have hg := natsR_get hc'
    generalize l[i] = x at hg
    refine TC.skip ?_
    repeat refine TC.seq ?_
    refine TC.block ?_
    repeat refine TC.seq ?_
    refine TC.draw mixed ?_
    refine f_move rfl rfl ?_
    refine f_move rfl rfl ?_
    refine f_indexD rfl rfl rfl (Int.natCast_nonneg i) hg rfl ?_
    first | refine f_loadDc rfl rfl rfl ?_ | refine f_loadLc rfl rfl rfl rfl ?_ | refine f_loadRc rfl rfl rfl rfl ?_
    refine f_move rfl rfl ?_
    refine f_move rfl rfl ?_
    refine f_indexD rfl rfl rfl (Int.natCast_nonneg i) hg rfl ?_
    first | refine f_loadDc rfl rfl rfl ?_ | refine f_loadLc rfl rfl rfl rfl ?_ | refine f_loadRc rfl rfl rfl rfl ?_
    (refine f_int rfl rfl rfl (r := .bool false) (by show some (D.bool ((x : Int) != (x : Int))) = _; simp) ?_)
    refine TF.nil ⟨by kernel_rfl, ?_⟩
    repeat refine TC.seq ?_
    refine TC.cond rfl (fun hc => by cases hc) (fun hc => ?_)
    refine TC.skip ?_
    repeat refine TC.seq ?_
    refine TC.region ?_
    refine t_move rfl rfl ?_
    refine t_add64 rfl rfl rfl (by omega) ?_
    refine t_assign rfl rfl ?_
    refine TL.nil ?_
    exact again (k' := l.length - (i + 1)) (by omega) ⟨i + 1, rfl, by omega, rfl⟩ rfl ⟨by simp; rfl, rfl, rfl, trivial⟩
  · refine TC.exit ?_
    repeat refine TC.seq ?_
    refine TC.region ?_
    refine t_assign rfl rfl ?_
    refine TL.nil ?_
    exact TC.ret ⟨_, rfl, [_], rfl, rfl⟩
end Go.Proofs
