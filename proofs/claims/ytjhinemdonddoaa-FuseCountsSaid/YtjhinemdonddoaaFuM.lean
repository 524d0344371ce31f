import Derived.Test.YtjhinemdonddoaaFuL
namespace Go.Proofs
open Go.Mt
set_option maxRecDepth 4000
set_option linter.unusedSimpArgs false
set_option linter.unusedVariables false

def cN : ByteArray := ⟨#[99]⟩
def aN : ByteArray := ⟨#[97]⟩
def bN : ByteArray := ⟨#[98]⟩
def aw1 : List S := [.ite false cN [.asg aN 1] [], .ite false cN [.asg bN 2] []]
def aw2 : List S := [.ite false cN [.asg cN 0] [], .ite false cN [.asg bN 2] []]
theorem aw1_ok : PT Try.prog 13 [.sl (S.encs aw1)] (· = [.sl (S.encs [.ite false cN [.asg aN 1, .asg bN 2] []])]) := by
  have h := stmts_ok 5 aw1 (by decide) (by decide)
  have e : fuseN 5 aw1 = [.ite false cN [.asg aN 1, .asg bN 2] []] := by rfl
  rw [e] at h; exact h
theorem aw2_ok : PT Try.prog 13 [.sl (S.encs aw2)] (· = [.sl (S.encs aw2)]) := by
  have h := stmts_ok 5 aw2 (by decide) (by decide)
  have e : fuseN 5 aw2 = aw2 := by rfl
  rw [e] at h; exact h
theorem awake_ok : PT Try.prog 11 [] (· = [.bool true]) := by
  refine PT.of_CT (CT.of_body Try.func11 rfl Try.ntmps11 rfl fun s0 Oo => ?_)
  repeat refine TC.seq ?_
  refine TC.region ?_
  refine t_assign rfl rfl ?_
  refine TL.nil ?_
  repeat refine TC.seq ?_
  refine TC.region ?_
  refine t_call1 (let_ok aN 1) rfl rfl ?_
  refine t_buildSlice rfl rfl rfl rfl rfl rfl rfl rfl ?_
  refine t_call1 (when_ok cN (S.encs [.asg aN 1])) rfl rfl ?_
  refine t_call1 (let_ok bN 2) rfl rfl ?_
  refine t_buildSlice rfl rfl rfl rfl rfl rfl rfl rfl ?_
  refine t_call1 (when_ok cN (S.encs [.asg bN 2])) rfl rfl ?_
  refine t_buildSlice rfl rfl rfl rfl rfl rfl rfl rfl ?_
  refine t_call1 aw1_ok rfl rfl ?_
  refine t_assign rfl rfl ?_
  refine TL.nil ?_
  repeat refine TC.seq ?_
  refine TC.region ?_
  refine t_call1 (let_ok cN 0) rfl rfl ?_
  refine t_buildSlice rfl rfl rfl rfl rfl rfl rfl rfl ?_
  refine t_call1 (when_ok cN (S.encs [.asg cN 0])) rfl rfl ?_
  refine t_call1 (let_ok bN 2) rfl rfl ?_
  refine t_buildSlice rfl rfl rfl rfl rfl rfl rfl rfl ?_
  refine t_call1 (when_ok cN (S.encs [.asg bN 2])) rfl rfl ?_
  refine t_buildSlice rfl rfl rfl rfl rfl rfl rfl rfl ?_
  refine t_call1 aw2_ok rfl rfl ?_
  refine t_assign rfl rfl ?_
  refine TL.nil ?_
  repeat refine TC.seq ?_
  refine TC.region ?_
  refine t_move rfl rfl ?_
  refine t_lenS rfl rfl rfl ?_
  refine t_int rfl rfl rfl rfl ?_
  refine t_move rfl rfl ?_
  first | refine t_guard_no rfl rfl ?_ | (refine t_guard_yes rfl ?_; (refine t_move rfl rfl ?_))
  first | refine t_guard_no rfl rfl ?_ | (refine t_guard_yes rfl ?_; (refine t_indexD rfl rfl rfl (by decide) (r := (S.ite false cN [.asg aN 1, .asg bN 2] []).enc) rfl rfl ?_))
  first | refine t_guard_no rfl rfl ?_ | (refine t_guard_yes rfl ?_; (first | refine t_fieldD rfl rfl ?_ | refine t_fieldL rfl rfl ?_ | refine t_fieldR rfl rfl ?_ | refine t_fieldW rfl rfl ?_))
  first | refine t_guard_no rfl rfl ?_ | (refine t_guard_yes rfl ?_; (first | refine t_loadDc rfl rfl rfl ?_ | refine t_loadLc rfl rfl rfl rfl ?_ | refine t_loadRc rfl rfl rfl rfl ?_))
  first | refine t_guard_no rfl rfl ?_ | (refine t_guard_yes rfl ?_; (refine t_lenS rfl rfl rfl ?_))
  first | refine t_guard_no rfl rfl ?_ | (refine t_guard_yes rfl ?_; (refine t_int rfl rfl rfl rfl ?_))
  refine t_pick rfl rfl rfl ?_
  refine t_move rfl rfl ?_
  first | refine t_guard_no rfl rfl ?_ | (refine t_guard_yes rfl ?_; (refine t_move rfl rfl ?_))
  first | refine t_guard_no rfl rfl ?_ | (refine t_guard_yes rfl ?_; (refine t_lenS rfl rfl rfl ?_))
  first | refine t_guard_no rfl rfl ?_ | (refine t_guard_yes rfl ?_; (refine t_int rfl rfl rfl rfl ?_))
  refine t_pick rfl rfl rfl ?_
  refine t_assign rfl rfl ?_
  refine TL.nil ?_
  exact TC.ret ⟨_, rfl, [_], rfl, rfl⟩
end Go.Proofs
