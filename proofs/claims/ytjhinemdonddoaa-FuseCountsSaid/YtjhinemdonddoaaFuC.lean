import Derived.Test.YtjhinemdonddoaaFuB
namespace Go.Proofs
open Go.Mt
set_option maxRecDepth 4000
set_option linter.unusedSimpArgs false
set_option linter.unusedVariables false

def sameLeaf (k n : Int) (s : ByteArray) (k' n' : Int) (s' : ByteArray) : Bool := (k == k') && ((n == n') && decide (s = s'))
theorem sameE_ok (k n : Int) (s : ByteArray) (k' n' : Int) (s' : ByteArray) : PT Try.prog 45 [.agg (leafC k n s), .agg (leafC k' n' s')] (· = [.bool (sameLeaf k n s k' n' s')]) := by
  refine PT.of_CT (CT.of_body Try.func45 rfl Try.ntmps45 rfl fun s0 Oo => ?_)
  rw [sameLeaf]
  repeat refine TC.seq ?_
  refine TC.region ?_
  refine t_box rfl rfl ?_
  refine t_box rfl rfl ?_
  refine t_assign rfl rfl ?_
  refine TL.nil ?_
  cases hk : (k == k') with
  | false =>
    repeat refine TC.seq ?_
    refine TC.region ?_
    first | refine t_fieldD rfl rfl ?_ | refine t_fieldL rfl rfl ?_ | refine t_fieldR rfl rfl ?_ | refine t_fieldW rfl rfl ?_
    first | refine t_loadDc rfl rfl rfl ?_ | refine t_loadLc rfl rfl rfl rfl ?_ | refine t_loadRc rfl rfl rfl rfl ?_
    first | refine t_fieldD rfl rfl ?_ | refine t_fieldL rfl rfl ?_ | refine t_fieldR rfl rfl ?_ | refine t_fieldW rfl rfl ?_
    first | refine t_loadDc rfl rfl rfl ?_ | refine t_loadLc rfl rfl rfl rfl ?_ | refine t_loadRc rfl rfl rfl rfl ?_
    (refine t_int rfl rfl rfl rfl ?_; rw [hk])
    refine t_move rfl rfl ?_
    first | refine t_guard_no rfl rfl ?_ | (refine t_guard_yes rfl ?_; (first | refine t_fieldD rfl rfl ?_ | refine t_fieldL rfl rfl ?_ | refine t_fieldR rfl rfl ?_ | refine t_fieldW rfl rfl ?_))
    first | refine t_guard_no rfl rfl ?_ | (refine t_guard_yes rfl ?_; (first | refine t_loadDc rfl rfl rfl ?_ | refine t_loadLc rfl rfl rfl rfl ?_ | refine t_loadRc rfl rfl rfl rfl ?_))
    first | refine t_guard_no rfl rfl ?_ | (refine t_guard_yes rfl ?_; (first | refine t_fieldD rfl rfl ?_ | refine t_fieldL rfl rfl ?_ | refine t_fieldR rfl rfl ?_ | refine t_fieldW rfl rfl ?_))
    first | refine t_guard_no rfl rfl ?_ | (refine t_guard_yes rfl ?_; (first | refine t_loadDc rfl rfl rfl ?_ | refine t_loadLc rfl rfl rfl rfl ?_ | refine t_loadRc rfl rfl rfl rfl ?_))
    first | refine t_guard_no rfl rfl ?_ | (refine t_guard_yes rfl ?_; (refine t_int rfl rfl rfl rfl ?_))
    refine t_pick rfl rfl rfl ?_
    refine t_move rfl rfl ?_
    first | refine t_guard_no rfl rfl ?_ | (refine t_guard_yes rfl ?_; (first | refine t_fieldD rfl rfl ?_ | refine t_fieldL rfl rfl ?_ | refine t_fieldR rfl rfl ?_ | refine t_fieldW rfl rfl ?_))
    first | refine t_guard_no rfl rfl ?_ | (refine t_guard_yes rfl ?_; (first | refine t_loadDc rfl rfl rfl ?_ | refine t_loadLc rfl rfl rfl rfl ?_ | refine t_loadRc rfl rfl rfl rfl ?_))
    first | refine t_guard_no rfl rfl ?_ | (refine t_guard_yes rfl ?_; (first | refine t_fieldD rfl rfl ?_ | refine t_fieldL rfl rfl ?_ | refine t_fieldR rfl rfl ?_ | refine t_fieldW rfl rfl ?_))
    first | refine t_guard_no rfl rfl ?_ | (refine t_guard_yes rfl ?_; (first | refine t_loadDc rfl rfl rfl ?_ | refine t_loadLc rfl rfl rfl rfl ?_ | refine t_loadRc rfl rfl rfl rfl ?_))
    first | refine t_guard_no rfl rfl ?_ | (refine t_guard_yes rfl ?_; (refine t_int rfl rfl rfl rfl ?_))
    refine t_pick rfl rfl rfl ?_
    refine t_move rfl rfl ?_
    first | refine t_guard_no rfl rfl ?_ | (refine t_guard_yes rfl ?_; (first | refine t_fieldD rfl rfl ?_ | refine t_fieldL rfl rfl ?_ | refine t_fieldR rfl rfl ?_ | refine t_fieldW rfl rfl ?_))
    first | refine t_guard_no rfl rfl ?_ | (refine t_guard_yes rfl ?_; (first | refine t_loadDc rfl rfl rfl ?_ | refine t_loadLc rfl rfl rfl rfl ?_ | refine t_loadRc rfl rfl rfl rfl ?_))
    first | refine t_guard_no rfl rfl ?_ | (refine t_guard_yes rfl ?_; (first | refine t_fieldD rfl rfl ?_ | refine t_fieldL rfl rfl ?_ | refine t_fieldR rfl rfl ?_ | refine t_fieldW rfl rfl ?_))
    first | refine t_guard_no rfl rfl ?_ | (refine t_guard_yes rfl ?_; (first | refine t_loadDc rfl rfl rfl ?_ | refine t_loadLc rfl rfl rfl rfl ?_ | refine t_loadRc rfl rfl rfl rfl ?_))
    first | refine t_guard_no rfl rfl ?_ | (refine t_guard_yes rfl ?_; (refine t_streq rfl rfl rfl ?_))
    refine t_pick rfl rfl rfl ?_
    refine t_move rfl rfl ?_
    first | refine t_guard_no rfl rfl ?_ | (refine t_guard_yes rfl ?_; (first | refine t_fieldD rfl rfl ?_ | refine t_fieldL rfl rfl ?_ | refine t_fieldR rfl rfl ?_ | refine t_fieldW rfl rfl ?_))
    first | refine t_guard_no rfl rfl ?_ | (refine t_guard_yes rfl ?_; (first | refine t_loadDc rfl rfl rfl ?_ | refine t_loadLc rfl rfl rfl rfl ?_ | refine t_loadRc rfl rfl rfl rfl ?_))
    first | refine t_guard_no rfl rfl ?_ | (refine t_guard_yes rfl ?_; (first | refine t_fieldD rfl rfl ?_ | refine t_fieldL rfl rfl ?_ | refine t_fieldR rfl rfl ?_ | refine t_fieldW rfl rfl ?_))
    first | refine t_guard_no rfl rfl ?_ | (refine t_guard_yes rfl ?_; (first | refine t_loadDc rfl rfl rfl ?_ | refine t_loadLc rfl rfl rfl rfl ?_ | refine t_loadRc rfl rfl rfl rfl ?_))
    first | refine t_guard_no rfl rfl ?_ | (refine t_guard_yes rfl ?_; (fail))
    refine t_pick rfl rfl rfl ?_
    refine t_move rfl rfl ?_
    first | refine t_guard_no rfl rfl ?_ | (refine t_guard_yes rfl ?_; (first | refine t_fieldD rfl rfl ?_ | refine t_fieldL rfl rfl ?_ | refine t_fieldR rfl rfl ?_ | refine t_fieldW rfl rfl ?_))
    first | refine t_guard_no rfl rfl ?_ | (refine t_guard_yes rfl ?_; (first | refine t_loadDc rfl rfl rfl ?_ | refine t_loadLc rfl rfl rfl rfl ?_ | refine t_loadRc rfl rfl rfl rfl ?_))
    first | refine t_guard_no rfl rfl ?_ | (refine t_guard_yes rfl ?_; (first | refine t_fieldD rfl rfl ?_ | refine t_fieldL rfl rfl ?_ | refine t_fieldR rfl rfl ?_ | refine t_fieldW rfl rfl ?_))
    first | refine t_guard_no rfl rfl ?_ | (refine t_guard_yes rfl ?_; (first | refine t_loadDc rfl rfl rfl ?_ | refine t_loadLc rfl rfl rfl rfl ?_ | refine t_loadRc rfl rfl rfl rfl ?_))
    first | refine t_guard_no rfl rfl ?_ | (refine t_guard_yes rfl ?_; (fail))
    refine t_pick rfl rfl rfl ?_
    refine t_assign rfl rfl ?_
    refine TL.nil ?_
    exact TC.ret ⟨_, rfl, [_], rfl, rfl⟩
  | true =>
    cases hn : (n == n') with
    | false =>
      repeat refine TC.seq ?_
      refine TC.region ?_
      first | refine t_fieldD rfl rfl ?_ | refine t_fieldL rfl rfl ?_ | refine t_fieldR rfl rfl ?_ | refine t_fieldW rfl rfl ?_
      first | refine t_loadDc rfl rfl rfl ?_ | refine t_loadLc rfl rfl rfl rfl ?_ | refine t_loadRc rfl rfl rfl rfl ?_
      first | refine t_fieldD rfl rfl ?_ | refine t_fieldL rfl rfl ?_ | refine t_fieldR rfl rfl ?_ | refine t_fieldW rfl rfl ?_
      first | refine t_loadDc rfl rfl rfl ?_ | refine t_loadLc rfl rfl rfl rfl ?_ | refine t_loadRc rfl rfl rfl rfl ?_
      (refine t_int rfl rfl rfl rfl ?_; rw [hk])
      refine t_move rfl rfl ?_
      first | refine t_guard_no rfl rfl ?_ | (refine t_guard_yes rfl ?_; (first | refine t_fieldD rfl rfl ?_ | refine t_fieldL rfl rfl ?_ | refine t_fieldR rfl rfl ?_ | refine t_fieldW rfl rfl ?_))
      first | refine t_guard_no rfl rfl ?_ | (refine t_guard_yes rfl ?_; (first | refine t_loadDc rfl rfl rfl ?_ | refine t_loadLc rfl rfl rfl rfl ?_ | refine t_loadRc rfl rfl rfl rfl ?_))
      first | refine t_guard_no rfl rfl ?_ | (refine t_guard_yes rfl ?_; (first | refine t_fieldD rfl rfl ?_ | refine t_fieldL rfl rfl ?_ | refine t_fieldR rfl rfl ?_ | refine t_fieldW rfl rfl ?_))
      first | refine t_guard_no rfl rfl ?_ | (refine t_guard_yes rfl ?_; (first | refine t_loadDc rfl rfl rfl ?_ | refine t_loadLc rfl rfl rfl rfl ?_ | refine t_loadRc rfl rfl rfl rfl ?_))
      first | refine t_guard_no rfl rfl ?_ | (refine t_guard_yes rfl ?_; (refine t_int rfl rfl rfl rfl ?_))
      refine t_pick rfl rfl rfl ?_
      refine t_move rfl rfl ?_
      first | refine t_guard_no rfl rfl ?_ | (refine t_guard_yes rfl ?_; (first | refine t_fieldD rfl rfl ?_ | refine t_fieldL rfl rfl ?_ | refine t_fieldR rfl rfl ?_ | refine t_fieldW rfl rfl ?_))
      first | refine t_guard_no rfl rfl ?_ | (refine t_guard_yes rfl ?_; (first | refine t_loadDc rfl rfl rfl ?_ | refine t_loadLc rfl rfl rfl rfl ?_ | refine t_loadRc rfl rfl rfl rfl ?_))
      first | refine t_guard_no rfl rfl ?_ | (refine t_guard_yes rfl ?_; (first | refine t_fieldD rfl rfl ?_ | refine t_fieldL rfl rfl ?_ | refine t_fieldR rfl rfl ?_ | refine t_fieldW rfl rfl ?_))
      first | refine t_guard_no rfl rfl ?_ | (refine t_guard_yes rfl ?_; (first | refine t_loadDc rfl rfl rfl ?_ | refine t_loadLc rfl rfl rfl rfl ?_ | refine t_loadRc rfl rfl rfl rfl ?_))
      first | refine t_guard_no rfl rfl ?_ | (refine t_guard_yes rfl ?_; ((refine t_int rfl rfl rfl rfl ?_; rw [hn])))
      refine t_pick rfl rfl rfl ?_
      refine t_move rfl rfl ?_
      first | refine t_guard_no rfl rfl ?_ | (refine t_guard_yes rfl ?_; (first | refine t_fieldD rfl rfl ?_ | refine t_fieldL rfl rfl ?_ | refine t_fieldR rfl rfl ?_ | refine t_fieldW rfl rfl ?_))
      first | refine t_guard_no rfl rfl ?_ | (refine t_guard_yes rfl ?_; (first | refine t_loadDc rfl rfl rfl ?_ | refine t_loadLc rfl rfl rfl rfl ?_ | refine t_loadRc rfl rfl rfl rfl ?_))
      first | refine t_guard_no rfl rfl ?_ | (refine t_guard_yes rfl ?_; (first | refine t_fieldD rfl rfl ?_ | refine t_fieldL rfl rfl ?_ | refine t_fieldR rfl rfl ?_ | refine t_fieldW rfl rfl ?_))
      first | refine t_guard_no rfl rfl ?_ | (refine t_guard_yes rfl ?_; (first | refine t_loadDc rfl rfl rfl ?_ | refine t_loadLc rfl rfl rfl rfl ?_ | refine t_loadRc rfl rfl rfl rfl ?_))
      first | refine t_guard_no rfl rfl ?_ | (refine t_guard_yes rfl ?_; (refine t_streq rfl rfl rfl ?_))
      refine t_pick rfl rfl rfl ?_
      refine t_move rfl rfl ?_
      first | refine t_guard_no rfl rfl ?_ | (refine t_guard_yes rfl ?_; (first | refine t_fieldD rfl rfl ?_ | refine t_fieldL rfl rfl ?_ | refine t_fieldR rfl rfl ?_ | refine t_fieldW rfl rfl ?_))
      first | refine t_guard_no rfl rfl ?_ | (refine t_guard_yes rfl ?_; (first | refine t_loadDc rfl rfl rfl ?_ | refine t_loadLc rfl rfl rfl rfl ?_ | refine t_loadRc rfl rfl rfl rfl ?_))
      first | refine t_guard_no rfl rfl ?_ | (refine t_guard_yes rfl ?_; (first | refine t_fieldD rfl rfl ?_ | refine t_fieldL rfl rfl ?_ | refine t_fieldR rfl rfl ?_ | refine t_fieldW rfl rfl ?_))
      first | refine t_guard_no rfl rfl ?_ | (refine t_guard_yes rfl ?_; (first | refine t_loadDc rfl rfl rfl ?_ | refine t_loadLc rfl rfl rfl rfl ?_ | refine t_loadRc rfl rfl rfl rfl ?_))
      first | refine t_guard_no rfl rfl ?_ | (refine t_guard_yes rfl ?_; (fail))
      refine t_pick rfl rfl rfl ?_
      refine t_move rfl rfl ?_
      first | refine t_guard_no rfl rfl ?_ | (refine t_guard_yes rfl ?_; (first | refine t_fieldD rfl rfl ?_ | refine t_fieldL rfl rfl ?_ | refine t_fieldR rfl rfl ?_ | refine t_fieldW rfl rfl ?_))
      first | refine t_guard_no rfl rfl ?_ | (refine t_guard_yes rfl ?_; (first | refine t_loadDc rfl rfl rfl ?_ | refine t_loadLc rfl rfl rfl rfl ?_ | refine t_loadRc rfl rfl rfl rfl ?_))
      first | refine t_guard_no rfl rfl ?_ | (refine t_guard_yes rfl ?_; (first | refine t_fieldD rfl rfl ?_ | refine t_fieldL rfl rfl ?_ | refine t_fieldR rfl rfl ?_ | refine t_fieldW rfl rfl ?_))
      first | refine t_guard_no rfl rfl ?_ | (refine t_guard_yes rfl ?_; (first | refine t_loadDc rfl rfl rfl ?_ | refine t_loadLc rfl rfl rfl rfl ?_ | refine t_loadRc rfl rfl rfl rfl ?_))
      first | refine t_guard_no rfl rfl ?_ | (refine t_guard_yes rfl ?_; (fail))
      refine t_pick rfl rfl rfl ?_
      refine t_assign rfl rfl ?_
      refine TL.nil ?_
      exact TC.ret ⟨_, rfl, [_], rfl, rfl⟩
    | true =>
      cases hs : decide (s = s') with
      | false =>
        repeat refine TC.seq ?_
        refine TC.region ?_
        first | refine t_fieldD rfl rfl ?_ | refine t_fieldL rfl rfl ?_ | refine t_fieldR rfl rfl ?_ | refine t_fieldW rfl rfl ?_
        first | refine t_loadDc rfl rfl rfl ?_ | refine t_loadLc rfl rfl rfl rfl ?_ | refine t_loadRc rfl rfl rfl rfl ?_
        first | refine t_fieldD rfl rfl ?_ | refine t_fieldL rfl rfl ?_ | refine t_fieldR rfl rfl ?_ | refine t_fieldW rfl rfl ?_
        first | refine t_loadDc rfl rfl rfl ?_ | refine t_loadLc rfl rfl rfl rfl ?_ | refine t_loadRc rfl rfl rfl rfl ?_
        (refine t_int rfl rfl rfl rfl ?_; rw [hk])
        refine t_move rfl rfl ?_
        first | refine t_guard_no rfl rfl ?_ | (refine t_guard_yes rfl ?_; (first | refine t_fieldD rfl rfl ?_ | refine t_fieldL rfl rfl ?_ | refine t_fieldR rfl rfl ?_ | refine t_fieldW rfl rfl ?_))
        first | refine t_guard_no rfl rfl ?_ | (refine t_guard_yes rfl ?_; (first | refine t_loadDc rfl rfl rfl ?_ | refine t_loadLc rfl rfl rfl rfl ?_ | refine t_loadRc rfl rfl rfl rfl ?_))
        first | refine t_guard_no rfl rfl ?_ | (refine t_guard_yes rfl ?_; (first | refine t_fieldD rfl rfl ?_ | refine t_fieldL rfl rfl ?_ | refine t_fieldR rfl rfl ?_ | refine t_fieldW rfl rfl ?_))
        first | refine t_guard_no rfl rfl ?_ | (refine t_guard_yes rfl ?_; (first | refine t_loadDc rfl rfl rfl ?_ | refine t_loadLc rfl rfl rfl rfl ?_ | refine t_loadRc rfl rfl rfl rfl ?_))
        first | refine t_guard_no rfl rfl ?_ | (refine t_guard_yes rfl ?_; (refine t_int rfl rfl rfl rfl ?_))
        refine t_pick rfl rfl rfl ?_
        refine t_move rfl rfl ?_
        first | refine t_guard_no rfl rfl ?_ | (refine t_guard_yes rfl ?_; (first | refine t_fieldD rfl rfl ?_ | refine t_fieldL rfl rfl ?_ | refine t_fieldR rfl rfl ?_ | refine t_fieldW rfl rfl ?_))
        first | refine t_guard_no rfl rfl ?_ | (refine t_guard_yes rfl ?_; (first | refine t_loadDc rfl rfl rfl ?_ | refine t_loadLc rfl rfl rfl rfl ?_ | refine t_loadRc rfl rfl rfl rfl ?_))
        first | refine t_guard_no rfl rfl ?_ | (refine t_guard_yes rfl ?_; (first | refine t_fieldD rfl rfl ?_ | refine t_fieldL rfl rfl ?_ | refine t_fieldR rfl rfl ?_ | refine t_fieldW rfl rfl ?_))
        first | refine t_guard_no rfl rfl ?_ | (refine t_guard_yes rfl ?_; (first | refine t_loadDc rfl rfl rfl ?_ | refine t_loadLc rfl rfl rfl rfl ?_ | refine t_loadRc rfl rfl rfl rfl ?_))
        first | refine t_guard_no rfl rfl ?_ | (refine t_guard_yes rfl ?_; ((refine t_int rfl rfl rfl rfl ?_; rw [hn])))
        refine t_pick rfl rfl rfl ?_
        refine t_move rfl rfl ?_
        first | refine t_guard_no rfl rfl ?_ | (refine t_guard_yes rfl ?_; (first | refine t_fieldD rfl rfl ?_ | refine t_fieldL rfl rfl ?_ | refine t_fieldR rfl rfl ?_ | refine t_fieldW rfl rfl ?_))
        first | refine t_guard_no rfl rfl ?_ | (refine t_guard_yes rfl ?_; (first | refine t_loadDc rfl rfl rfl ?_ | refine t_loadLc rfl rfl rfl rfl ?_ | refine t_loadRc rfl rfl rfl rfl ?_))
        first | refine t_guard_no rfl rfl ?_ | (refine t_guard_yes rfl ?_; (first | refine t_fieldD rfl rfl ?_ | refine t_fieldL rfl rfl ?_ | refine t_fieldR rfl rfl ?_ | refine t_fieldW rfl rfl ?_))
        first | refine t_guard_no rfl rfl ?_ | (refine t_guard_yes rfl ?_; (first | refine t_loadDc rfl rfl rfl ?_ | refine t_loadLc rfl rfl rfl rfl ?_ | refine t_loadRc rfl rfl rfl rfl ?_))
        first | refine t_guard_no rfl rfl ?_ | (refine t_guard_yes rfl ?_; ((refine t_streq rfl rfl rfl ?_; rw [hs])))
        refine t_pick rfl rfl rfl ?_
        refine t_move rfl rfl ?_
        first | refine t_guard_no rfl rfl ?_ | (refine t_guard_yes rfl ?_; (first | refine t_fieldD rfl rfl ?_ | refine t_fieldL rfl rfl ?_ | refine t_fieldR rfl rfl ?_ | refine t_fieldW rfl rfl ?_))
        first | refine t_guard_no rfl rfl ?_ | (refine t_guard_yes rfl ?_; (first | refine t_loadDc rfl rfl rfl ?_ | refine t_loadLc rfl rfl rfl rfl ?_ | refine t_loadRc rfl rfl rfl rfl ?_))
        first | refine t_guard_no rfl rfl ?_ | (refine t_guard_yes rfl ?_; (first | refine t_fieldD rfl rfl ?_ | refine t_fieldL rfl rfl ?_ | refine t_fieldR rfl rfl ?_ | refine t_fieldW rfl rfl ?_))
        first | refine t_guard_no rfl rfl ?_ | (refine t_guard_yes rfl ?_; (first | refine t_loadDc rfl rfl rfl ?_ | refine t_loadLc rfl rfl rfl rfl ?_ | refine t_loadRc rfl rfl rfl rfl ?_))
        first | refine t_guard_no rfl rfl ?_ | (refine t_guard_yes rfl ?_; (fail))
        refine t_pick rfl rfl rfl ?_
        refine t_move rfl rfl ?_
        first | refine t_guard_no rfl rfl ?_ | (refine t_guard_yes rfl ?_; (first | refine t_fieldD rfl rfl ?_ | refine t_fieldL rfl rfl ?_ | refine t_fieldR rfl rfl ?_ | refine t_fieldW rfl rfl ?_))
        first | refine t_guard_no rfl rfl ?_ | (refine t_guard_yes rfl ?_; (first | refine t_loadDc rfl rfl rfl ?_ | refine t_loadLc rfl rfl rfl rfl ?_ | refine t_loadRc rfl rfl rfl rfl ?_))
        first | refine t_guard_no rfl rfl ?_ | (refine t_guard_yes rfl ?_; (first | refine t_fieldD rfl rfl ?_ | refine t_fieldL rfl rfl ?_ | refine t_fieldR rfl rfl ?_ | refine t_fieldW rfl rfl ?_))
        first | refine t_guard_no rfl rfl ?_ | (refine t_guard_yes rfl ?_; (first | refine t_loadDc rfl rfl rfl ?_ | refine t_loadLc rfl rfl rfl rfl ?_ | refine t_loadRc rfl rfl rfl rfl ?_))
        first | refine t_guard_no rfl rfl ?_ | (refine t_guard_yes rfl ?_; (fail))
        refine t_pick rfl rfl rfl ?_
        refine t_assign rfl rfl ?_
        refine TL.nil ?_
        exact TC.ret ⟨_, rfl, [_], rfl, rfl⟩
      | true =>
        repeat refine TC.seq ?_
        refine TC.region ?_
        first | refine t_fieldD rfl rfl ?_ | refine t_fieldL rfl rfl ?_ | refine t_fieldR rfl rfl ?_ | refine t_fieldW rfl rfl ?_
        first | refine t_loadDc rfl rfl rfl ?_ | refine t_loadLc rfl rfl rfl rfl ?_ | refine t_loadRc rfl rfl rfl rfl ?_
        first | refine t_fieldD rfl rfl ?_ | refine t_fieldL rfl rfl ?_ | refine t_fieldR rfl rfl ?_ | refine t_fieldW rfl rfl ?_
        first | refine t_loadDc rfl rfl rfl ?_ | refine t_loadLc rfl rfl rfl rfl ?_ | refine t_loadRc rfl rfl rfl rfl ?_
        (refine t_int rfl rfl rfl rfl ?_; rw [hk])
        refine t_move rfl rfl ?_
        first | refine t_guard_no rfl rfl ?_ | (refine t_guard_yes rfl ?_; (first | refine t_fieldD rfl rfl ?_ | refine t_fieldL rfl rfl ?_ | refine t_fieldR rfl rfl ?_ | refine t_fieldW rfl rfl ?_))
        first | refine t_guard_no rfl rfl ?_ | (refine t_guard_yes rfl ?_; (first | refine t_loadDc rfl rfl rfl ?_ | refine t_loadLc rfl rfl rfl rfl ?_ | refine t_loadRc rfl rfl rfl rfl ?_))
        first | refine t_guard_no rfl rfl ?_ | (refine t_guard_yes rfl ?_; (first | refine t_fieldD rfl rfl ?_ | refine t_fieldL rfl rfl ?_ | refine t_fieldR rfl rfl ?_ | refine t_fieldW rfl rfl ?_))
        first | refine t_guard_no rfl rfl ?_ | (refine t_guard_yes rfl ?_; (first | refine t_loadDc rfl rfl rfl ?_ | refine t_loadLc rfl rfl rfl rfl ?_ | refine t_loadRc rfl rfl rfl rfl ?_))
        first | refine t_guard_no rfl rfl ?_ | (refine t_guard_yes rfl ?_; (refine t_int rfl rfl rfl rfl ?_))
        refine t_pick rfl rfl rfl ?_
        refine t_move rfl rfl ?_
        first | refine t_guard_no rfl rfl ?_ | (refine t_guard_yes rfl ?_; (first | refine t_fieldD rfl rfl ?_ | refine t_fieldL rfl rfl ?_ | refine t_fieldR rfl rfl ?_ | refine t_fieldW rfl rfl ?_))
        first | refine t_guard_no rfl rfl ?_ | (refine t_guard_yes rfl ?_; (first | refine t_loadDc rfl rfl rfl ?_ | refine t_loadLc rfl rfl rfl rfl ?_ | refine t_loadRc rfl rfl rfl rfl ?_))
        first | refine t_guard_no rfl rfl ?_ | (refine t_guard_yes rfl ?_; (first | refine t_fieldD rfl rfl ?_ | refine t_fieldL rfl rfl ?_ | refine t_fieldR rfl rfl ?_ | refine t_fieldW rfl rfl ?_))
        first | refine t_guard_no rfl rfl ?_ | (refine t_guard_yes rfl ?_; (first | refine t_loadDc rfl rfl rfl ?_ | refine t_loadLc rfl rfl rfl rfl ?_ | refine t_loadRc rfl rfl rfl rfl ?_))
        first | refine t_guard_no rfl rfl ?_ | (refine t_guard_yes rfl ?_; ((refine t_int rfl rfl rfl rfl ?_; rw [hn])))
        refine t_pick rfl rfl rfl ?_
        refine t_move rfl rfl ?_
        first | refine t_guard_no rfl rfl ?_ | (refine t_guard_yes rfl ?_; (first | refine t_fieldD rfl rfl ?_ | refine t_fieldL rfl rfl ?_ | refine t_fieldR rfl rfl ?_ | refine t_fieldW rfl rfl ?_))
        first | refine t_guard_no rfl rfl ?_ | (refine t_guard_yes rfl ?_; (first | refine t_loadDc rfl rfl rfl ?_ | refine t_loadLc rfl rfl rfl rfl ?_ | refine t_loadRc rfl rfl rfl rfl ?_))
        first | refine t_guard_no rfl rfl ?_ | (refine t_guard_yes rfl ?_; (first | refine t_fieldD rfl rfl ?_ | refine t_fieldL rfl rfl ?_ | refine t_fieldR rfl rfl ?_ | refine t_fieldW rfl rfl ?_))
        first | refine t_guard_no rfl rfl ?_ | (refine t_guard_yes rfl ?_; (first | refine t_loadDc rfl rfl rfl ?_ | refine t_loadLc rfl rfl rfl rfl ?_ | refine t_loadRc rfl rfl rfl rfl ?_))
        first | refine t_guard_no rfl rfl ?_ | (refine t_guard_yes rfl ?_; ((refine t_streq rfl rfl rfl ?_; rw [hs])))
        refine t_pick rfl rfl rfl ?_
        refine t_move rfl rfl ?_
        first | refine t_guard_no rfl rfl ?_ | (refine t_guard_yes rfl ?_; (first | refine t_fieldD rfl rfl ?_ | refine t_fieldL rfl rfl ?_ | refine t_fieldR rfl rfl ?_ | refine t_fieldW rfl rfl ?_))
        first | refine t_guard_no rfl rfl ?_ | (refine t_guard_yes rfl ?_; (first | refine t_loadDc rfl rfl rfl ?_ | refine t_loadLc rfl rfl rfl rfl ?_ | refine t_loadRc rfl rfl rfl rfl ?_))
        first | refine t_guard_no rfl rfl ?_ | (refine t_guard_yes rfl ?_; (first | refine t_fieldD rfl rfl ?_ | refine t_fieldL rfl rfl ?_ | refine t_fieldR rfl rfl ?_ | refine t_fieldW rfl rfl ?_))
        first | refine t_guard_no rfl rfl ?_ | (refine t_guard_yes rfl ?_; (first | refine t_loadDc rfl rfl rfl ?_ | refine t_loadLc rfl rfl rfl rfl ?_ | refine t_loadRc rfl rfl rfl rfl ?_))
        first | refine t_guard_no rfl rfl ?_ | (refine t_guard_yes rfl ?_; (refine t_call1 equalT_ok rfl rfl ?_))
        refine t_pick rfl rfl rfl ?_
        refine t_move rfl rfl ?_
        first | refine t_guard_no rfl rfl ?_ | (refine t_guard_yes rfl ?_; (first | refine t_fieldD rfl rfl ?_ | refine t_fieldL rfl rfl ?_ | refine t_fieldR rfl rfl ?_ | refine t_fieldW rfl rfl ?_))
        first | refine t_guard_no rfl rfl ?_ | (refine t_guard_yes rfl ?_; (first | refine t_loadDc rfl rfl rfl ?_ | refine t_loadLc rfl rfl rfl rfl ?_ | refine t_loadRc rfl rfl rfl rfl ?_))
        first | refine t_guard_no rfl rfl ?_ | (refine t_guard_yes rfl ?_; (first | refine t_fieldD rfl rfl ?_ | refine t_fieldL rfl rfl ?_ | refine t_fieldR rfl rfl ?_ | refine t_fieldW rfl rfl ?_))
        first | refine t_guard_no rfl rfl ?_ | (refine t_guard_yes rfl ?_; (first | refine t_loadDc rfl rfl rfl ?_ | refine t_loadLc rfl rfl rfl rfl ?_ | refine t_loadRc rfl rfl rfl rfl ?_))
        first | refine t_guard_no rfl rfl ?_ | (refine t_guard_yes rfl ?_; (refine t_call1 eqfE_ok rfl rfl ?_))
        refine t_pick rfl rfl rfl ?_
        refine t_assign rfl rfl ?_
        refine TL.nil ?_
        exact TC.ret ⟨_, rfl, [_], rfl, rfl⟩
theorem rSameE_ok (k n : Int) (s : ByteArray) (k' n' : Int) (s' : ByteArray) : PT Try.prog 69 [.agg (leafC k n s), .agg (leafC k' n' s')] (· = [.bool (sameLeaf k n s k' n' s')]) := by
  refine PT.of_CT (CT.of_body Try.func69 rfl Try.ntmps69 rfl fun s0 Oo => ?_)
  rw [sameLeaf]
  repeat refine TC.seq ?_
  refine TC.region ?_
  refine t_box rfl rfl ?_
  refine t_box rfl rfl ?_
  refine t_assign rfl rfl ?_
  refine TL.nil ?_
  cases hk : (k == k') with
  | false =>
    repeat refine TC.seq ?_
    refine TC.region ?_
    first | refine t_fieldD rfl rfl ?_ | refine t_fieldL rfl rfl ?_ | refine t_fieldR rfl rfl ?_ | refine t_fieldW rfl rfl ?_
    first | refine t_loadDc rfl rfl rfl ?_ | refine t_loadLc rfl rfl rfl rfl ?_ | refine t_loadRc rfl rfl rfl rfl ?_
    first | refine t_fieldD rfl rfl ?_ | refine t_fieldL rfl rfl ?_ | refine t_fieldR rfl rfl ?_ | refine t_fieldW rfl rfl ?_
    first | refine t_loadDc rfl rfl rfl ?_ | refine t_loadLc rfl rfl rfl rfl ?_ | refine t_loadRc rfl rfl rfl rfl ?_
    (refine t_int rfl rfl rfl rfl ?_; rw [bne, hk])
    refine t_move rfl rfl ?_
    first | refine t_guard_no rfl rfl ?_ | (refine t_guard_yes rfl ?_; (first | refine t_fieldD rfl rfl ?_ | refine t_fieldL rfl rfl ?_ | refine t_fieldR rfl rfl ?_ | refine t_fieldW rfl rfl ?_))
    first | refine t_guard_no rfl rfl ?_ | (refine t_guard_yes rfl ?_; (first | refine t_loadDc rfl rfl rfl ?_ | refine t_loadLc rfl rfl rfl rfl ?_ | refine t_loadRc rfl rfl rfl rfl ?_))
    first | refine t_guard_no rfl rfl ?_ | (refine t_guard_yes rfl ?_; (first | refine t_fieldD rfl rfl ?_ | refine t_fieldL rfl rfl ?_ | refine t_fieldR rfl rfl ?_ | refine t_fieldW rfl rfl ?_))
    first | refine t_guard_no rfl rfl ?_ | (refine t_guard_yes rfl ?_; (first | refine t_loadDc rfl rfl rfl ?_ | refine t_loadLc rfl rfl rfl rfl ?_ | refine t_loadRc rfl rfl rfl rfl ?_))
    first | refine t_guard_no rfl rfl ?_ | (refine t_guard_yes rfl ?_; (refine t_int rfl rfl rfl rfl ?_))
    refine t_pick rfl rfl rfl ?_
    refine t_move rfl rfl ?_
    first | refine t_guard_no rfl rfl ?_ | (refine t_guard_yes rfl ?_; (first | refine t_fieldD rfl rfl ?_ | refine t_fieldL rfl rfl ?_ | refine t_fieldR rfl rfl ?_ | refine t_fieldW rfl rfl ?_))
    first | refine t_guard_no rfl rfl ?_ | (refine t_guard_yes rfl ?_; (first | refine t_loadDc rfl rfl rfl ?_ | refine t_loadLc rfl rfl rfl rfl ?_ | refine t_loadRc rfl rfl rfl rfl ?_))
    first | refine t_guard_no rfl rfl ?_ | (refine t_guard_yes rfl ?_; (first | refine t_fieldD rfl rfl ?_ | refine t_fieldL rfl rfl ?_ | refine t_fieldR rfl rfl ?_ | refine t_fieldW rfl rfl ?_))
    first | refine t_guard_no rfl rfl ?_ | (refine t_guard_yes rfl ?_; (first | refine t_loadDc rfl rfl rfl ?_ | refine t_loadLc rfl rfl rfl rfl ?_ | refine t_loadRc rfl rfl rfl rfl ?_))
    first | refine t_guard_no rfl rfl ?_ | (refine t_guard_yes rfl ?_; (refine t_int rfl rfl rfl rfl ?_))
    refine t_pick rfl rfl rfl ?_
    refine t_move rfl rfl ?_
    first | refine t_guard_no rfl rfl ?_ | (refine t_guard_yes rfl ?_; (first | refine t_fieldD rfl rfl ?_ | refine t_fieldL rfl rfl ?_ | refine t_fieldR rfl rfl ?_ | refine t_fieldW rfl rfl ?_))
    first | refine t_guard_no rfl rfl ?_ | (refine t_guard_yes rfl ?_; (first | refine t_loadDc rfl rfl rfl ?_ | refine t_loadLc rfl rfl rfl rfl ?_ | refine t_loadRc rfl rfl rfl rfl ?_))
    first | refine t_guard_no rfl rfl ?_ | (refine t_guard_yes rfl ?_; (first | refine t_fieldD rfl rfl ?_ | refine t_fieldL rfl rfl ?_ | refine t_fieldR rfl rfl ?_ | refine t_fieldW rfl rfl ?_))
    first | refine t_guard_no rfl rfl ?_ | (refine t_guard_yes rfl ?_; (first | refine t_loadDc rfl rfl rfl ?_ | refine t_loadLc rfl rfl rfl rfl ?_ | refine t_loadRc rfl rfl rfl rfl ?_))
    first | refine t_guard_no rfl rfl ?_ | (refine t_guard_yes rfl ?_; (refine t_strne rfl rfl rfl ?_))
    refine t_pick rfl rfl rfl ?_
    refine t_move rfl rfl ?_
    first | refine t_guard_no rfl rfl ?_ | (refine t_guard_yes rfl ?_; (first | refine t_fieldD rfl rfl ?_ | refine t_fieldL rfl rfl ?_ | refine t_fieldR rfl rfl ?_ | refine t_fieldW rfl rfl ?_))
    first | refine t_guard_no rfl rfl ?_ | (refine t_guard_yes rfl ?_; (first | refine t_loadDc rfl rfl rfl ?_ | refine t_loadLc rfl rfl rfl rfl ?_ | refine t_loadRc rfl rfl rfl rfl ?_))
    first | refine t_guard_no rfl rfl ?_ | (refine t_guard_yes rfl ?_; (first | refine t_fieldD rfl rfl ?_ | refine t_fieldL rfl rfl ?_ | refine t_fieldR rfl rfl ?_ | refine t_fieldW rfl rfl ?_))
    first | refine t_guard_no rfl rfl ?_ | (refine t_guard_yes rfl ?_; (first | refine t_loadDc rfl rfl rfl ?_ | refine t_loadLc rfl rfl rfl rfl ?_ | refine t_loadRc rfl rfl rfl rfl ?_))
    first | refine t_guard_no rfl rfl ?_ | (refine t_guard_yes rfl ?_; (fail))
    first | refine t_guard_no rfl rfl ?_ | (refine t_guard_yes rfl ?_; (refine t_not rfl rfl ?_))
    refine t_pick rfl rfl rfl ?_
    refine t_move rfl rfl ?_
    first | refine t_guard_no rfl rfl ?_ | (refine t_guard_yes rfl ?_; (first | refine t_fieldD rfl rfl ?_ | refine t_fieldL rfl rfl ?_ | refine t_fieldR rfl rfl ?_ | refine t_fieldW rfl rfl ?_))
    first | refine t_guard_no rfl rfl ?_ | (refine t_guard_yes rfl ?_; (first | refine t_loadDc rfl rfl rfl ?_ | refine t_loadLc rfl rfl rfl rfl ?_ | refine t_loadRc rfl rfl rfl rfl ?_))
    first | refine t_guard_no rfl rfl ?_ | (refine t_guard_yes rfl ?_; (refine t_lenS rfl rfl rfl ?_))
    first | refine t_guard_no rfl rfl ?_ | (refine t_guard_yes rfl ?_; (first | refine t_fieldD rfl rfl ?_ | refine t_fieldL rfl rfl ?_ | refine t_fieldR rfl rfl ?_ | refine t_fieldW rfl rfl ?_))
    first | refine t_guard_no rfl rfl ?_ | (refine t_guard_yes rfl ?_; (first | refine t_loadDc rfl rfl rfl ?_ | refine t_loadLc rfl rfl rfl rfl ?_ | refine t_loadRc rfl rfl rfl rfl ?_))
    first | refine t_guard_no rfl rfl ?_ | (refine t_guard_yes rfl ?_; (refine t_lenS rfl rfl rfl ?_))
    first | refine t_guard_no rfl rfl ?_ | (refine t_guard_yes rfl ?_; (refine t_int rfl rfl rfl rfl ?_))
    refine t_pick rfl rfl rfl ?_
    refine TL.nil ?_
    repeat refine TC.seq ?_
    refine TC.cond rfl (fun hc => ?_) (fun hc => by cases hc)
    repeat refine TC.seq ?_
    refine TC.region ?_
    refine t_assign rfl rfl ?_
    refine TL.nil ?_
    exact TC.ret ⟨_, rfl, [_], rfl, rfl⟩
  | true =>
    cases hn : (n == n') with
    | false =>
      repeat refine TC.seq ?_
      refine TC.region ?_
      first | refine t_fieldD rfl rfl ?_ | refine t_fieldL rfl rfl ?_ | refine t_fieldR rfl rfl ?_ | refine t_fieldW rfl rfl ?_
      first | refine t_loadDc rfl rfl rfl ?_ | refine t_loadLc rfl rfl rfl rfl ?_ | refine t_loadRc rfl rfl rfl rfl ?_
      first | refine t_fieldD rfl rfl ?_ | refine t_fieldL rfl rfl ?_ | refine t_fieldR rfl rfl ?_ | refine t_fieldW rfl rfl ?_
      first | refine t_loadDc rfl rfl rfl ?_ | refine t_loadLc rfl rfl rfl rfl ?_ | refine t_loadRc rfl rfl rfl rfl ?_
      (refine t_int rfl rfl rfl rfl ?_; rw [bne, hk])
      refine t_move rfl rfl ?_
      first | refine t_guard_no rfl rfl ?_ | (refine t_guard_yes rfl ?_; (first | refine t_fieldD rfl rfl ?_ | refine t_fieldL rfl rfl ?_ | refine t_fieldR rfl rfl ?_ | refine t_fieldW rfl rfl ?_))
      first | refine t_guard_no rfl rfl ?_ | (refine t_guard_yes rfl ?_; (first | refine t_loadDc rfl rfl rfl ?_ | refine t_loadLc rfl rfl rfl rfl ?_ | refine t_loadRc rfl rfl rfl rfl ?_))
      first | refine t_guard_no rfl rfl ?_ | (refine t_guard_yes rfl ?_; (first | refine t_fieldD rfl rfl ?_ | refine t_fieldL rfl rfl ?_ | refine t_fieldR rfl rfl ?_ | refine t_fieldW rfl rfl ?_))
      first | refine t_guard_no rfl rfl ?_ | (refine t_guard_yes rfl ?_; (first | refine t_loadDc rfl rfl rfl ?_ | refine t_loadLc rfl rfl rfl rfl ?_ | refine t_loadRc rfl rfl rfl rfl ?_))
      first | refine t_guard_no rfl rfl ?_ | (refine t_guard_yes rfl ?_; (refine t_int rfl rfl rfl rfl ?_))
      refine t_pick rfl rfl rfl ?_
      refine t_move rfl rfl ?_
      first | refine t_guard_no rfl rfl ?_ | (refine t_guard_yes rfl ?_; (first | refine t_fieldD rfl rfl ?_ | refine t_fieldL rfl rfl ?_ | refine t_fieldR rfl rfl ?_ | refine t_fieldW rfl rfl ?_))
      first | refine t_guard_no rfl rfl ?_ | (refine t_guard_yes rfl ?_; (first | refine t_loadDc rfl rfl rfl ?_ | refine t_loadLc rfl rfl rfl rfl ?_ | refine t_loadRc rfl rfl rfl rfl ?_))
      first | refine t_guard_no rfl rfl ?_ | (refine t_guard_yes rfl ?_; (first | refine t_fieldD rfl rfl ?_ | refine t_fieldL rfl rfl ?_ | refine t_fieldR rfl rfl ?_ | refine t_fieldW rfl rfl ?_))
      first | refine t_guard_no rfl rfl ?_ | (refine t_guard_yes rfl ?_; (first | refine t_loadDc rfl rfl rfl ?_ | refine t_loadLc rfl rfl rfl rfl ?_ | refine t_loadRc rfl rfl rfl rfl ?_))
      first | refine t_guard_no rfl rfl ?_ | (refine t_guard_yes rfl ?_; ((refine t_int rfl rfl rfl rfl ?_; rw [bne, hn])))
      refine t_pick rfl rfl rfl ?_
      refine t_move rfl rfl ?_
      first | refine t_guard_no rfl rfl ?_ | (refine t_guard_yes rfl ?_; (first | refine t_fieldD rfl rfl ?_ | refine t_fieldL rfl rfl ?_ | refine t_fieldR rfl rfl ?_ | refine t_fieldW rfl rfl ?_))
      first | refine t_guard_no rfl rfl ?_ | (refine t_guard_yes rfl ?_; (first | refine t_loadDc rfl rfl rfl ?_ | refine t_loadLc rfl rfl rfl rfl ?_ | refine t_loadRc rfl rfl rfl rfl ?_))
      first | refine t_guard_no rfl rfl ?_ | (refine t_guard_yes rfl ?_; (first | refine t_fieldD rfl rfl ?_ | refine t_fieldL rfl rfl ?_ | refine t_fieldR rfl rfl ?_ | refine t_fieldW rfl rfl ?_))
      first | refine t_guard_no rfl rfl ?_ | (refine t_guard_yes rfl ?_; (first | refine t_loadDc rfl rfl rfl ?_ | refine t_loadLc rfl rfl rfl rfl ?_ | refine t_loadRc rfl rfl rfl rfl ?_))
      first | refine t_guard_no rfl rfl ?_ | (refine t_guard_yes rfl ?_; (refine t_strne rfl rfl rfl ?_))
      refine t_pick rfl rfl rfl ?_
      refine t_move rfl rfl ?_
      first | refine t_guard_no rfl rfl ?_ | (refine t_guard_yes rfl ?_; (first | refine t_fieldD rfl rfl ?_ | refine t_fieldL rfl rfl ?_ | refine t_fieldR rfl rfl ?_ | refine t_fieldW rfl rfl ?_))
      first | refine t_guard_no rfl rfl ?_ | (refine t_guard_yes rfl ?_; (first | refine t_loadDc rfl rfl rfl ?_ | refine t_loadLc rfl rfl rfl rfl ?_ | refine t_loadRc rfl rfl rfl rfl ?_))
      first | refine t_guard_no rfl rfl ?_ | (refine t_guard_yes rfl ?_; (first | refine t_fieldD rfl rfl ?_ | refine t_fieldL rfl rfl ?_ | refine t_fieldR rfl rfl ?_ | refine t_fieldW rfl rfl ?_))
      first | refine t_guard_no rfl rfl ?_ | (refine t_guard_yes rfl ?_; (first | refine t_loadDc rfl rfl rfl ?_ | refine t_loadLc rfl rfl rfl rfl ?_ | refine t_loadRc rfl rfl rfl rfl ?_))
      first | refine t_guard_no rfl rfl ?_ | (refine t_guard_yes rfl ?_; (fail))
      first | refine t_guard_no rfl rfl ?_ | (refine t_guard_yes rfl ?_; (refine t_not rfl rfl ?_))
      refine t_pick rfl rfl rfl ?_
      refine t_move rfl rfl ?_
      first | refine t_guard_no rfl rfl ?_ | (refine t_guard_yes rfl ?_; (first | refine t_fieldD rfl rfl ?_ | refine t_fieldL rfl rfl ?_ | refine t_fieldR rfl rfl ?_ | refine t_fieldW rfl rfl ?_))
      first | refine t_guard_no rfl rfl ?_ | (refine t_guard_yes rfl ?_; (first | refine t_loadDc rfl rfl rfl ?_ | refine t_loadLc rfl rfl rfl rfl ?_ | refine t_loadRc rfl rfl rfl rfl ?_))
      first | refine t_guard_no rfl rfl ?_ | (refine t_guard_yes rfl ?_; (refine t_lenS rfl rfl rfl ?_))
      first | refine t_guard_no rfl rfl ?_ | (refine t_guard_yes rfl ?_; (first | refine t_fieldD rfl rfl ?_ | refine t_fieldL rfl rfl ?_ | refine t_fieldR rfl rfl ?_ | refine t_fieldW rfl rfl ?_))
      first | refine t_guard_no rfl rfl ?_ | (refine t_guard_yes rfl ?_; (first | refine t_loadDc rfl rfl rfl ?_ | refine t_loadLc rfl rfl rfl rfl ?_ | refine t_loadRc rfl rfl rfl rfl ?_))
      first | refine t_guard_no rfl rfl ?_ | (refine t_guard_yes rfl ?_; (refine t_lenS rfl rfl rfl ?_))
      first | refine t_guard_no rfl rfl ?_ | (refine t_guard_yes rfl ?_; (refine t_int rfl rfl rfl rfl ?_))
      refine t_pick rfl rfl rfl ?_
      refine TL.nil ?_
      repeat refine TC.seq ?_
      refine TC.cond rfl (fun hc => ?_) (fun hc => by cases hc)
      repeat refine TC.seq ?_
      refine TC.region ?_
      refine t_assign rfl rfl ?_
      refine TL.nil ?_
      exact TC.ret ⟨_, rfl, [_], rfl, rfl⟩
    | true =>
      cases hs : decide (s = s') with
      | false =>
        repeat refine TC.seq ?_
        refine TC.region ?_
        first | refine t_fieldD rfl rfl ?_ | refine t_fieldL rfl rfl ?_ | refine t_fieldR rfl rfl ?_ | refine t_fieldW rfl rfl ?_
        first | refine t_loadDc rfl rfl rfl ?_ | refine t_loadLc rfl rfl rfl rfl ?_ | refine t_loadRc rfl rfl rfl rfl ?_
        first | refine t_fieldD rfl rfl ?_ | refine t_fieldL rfl rfl ?_ | refine t_fieldR rfl rfl ?_ | refine t_fieldW rfl rfl ?_
        first | refine t_loadDc rfl rfl rfl ?_ | refine t_loadLc rfl rfl rfl rfl ?_ | refine t_loadRc rfl rfl rfl rfl ?_
        (refine t_int rfl rfl rfl rfl ?_; rw [bne, hk])
        refine t_move rfl rfl ?_
        first | refine t_guard_no rfl rfl ?_ | (refine t_guard_yes rfl ?_; (first | refine t_fieldD rfl rfl ?_ | refine t_fieldL rfl rfl ?_ | refine t_fieldR rfl rfl ?_ | refine t_fieldW rfl rfl ?_))
        first | refine t_guard_no rfl rfl ?_ | (refine t_guard_yes rfl ?_; (first | refine t_loadDc rfl rfl rfl ?_ | refine t_loadLc rfl rfl rfl rfl ?_ | refine t_loadRc rfl rfl rfl rfl ?_))
        first | refine t_guard_no rfl rfl ?_ | (refine t_guard_yes rfl ?_; (first | refine t_fieldD rfl rfl ?_ | refine t_fieldL rfl rfl ?_ | refine t_fieldR rfl rfl ?_ | refine t_fieldW rfl rfl ?_))
        first | refine t_guard_no rfl rfl ?_ | (refine t_guard_yes rfl ?_; (first | refine t_loadDc rfl rfl rfl ?_ | refine t_loadLc rfl rfl rfl rfl ?_ | refine t_loadRc rfl rfl rfl rfl ?_))
        first | refine t_guard_no rfl rfl ?_ | (refine t_guard_yes rfl ?_; (refine t_int rfl rfl rfl rfl ?_))
        refine t_pick rfl rfl rfl ?_
        refine t_move rfl rfl ?_
        first | refine t_guard_no rfl rfl ?_ | (refine t_guard_yes rfl ?_; (first | refine t_fieldD rfl rfl ?_ | refine t_fieldL rfl rfl ?_ | refine t_fieldR rfl rfl ?_ | refine t_fieldW rfl rfl ?_))
        first | refine t_guard_no rfl rfl ?_ | (refine t_guard_yes rfl ?_; (first | refine t_loadDc rfl rfl rfl ?_ | refine t_loadLc rfl rfl rfl rfl ?_ | refine t_loadRc rfl rfl rfl rfl ?_))
        first | refine t_guard_no rfl rfl ?_ | (refine t_guard_yes rfl ?_; (first | refine t_fieldD rfl rfl ?_ | refine t_fieldL rfl rfl ?_ | refine t_fieldR rfl rfl ?_ | refine t_fieldW rfl rfl ?_))
        first | refine t_guard_no rfl rfl ?_ | (refine t_guard_yes rfl ?_; (first | refine t_loadDc rfl rfl rfl ?_ | refine t_loadLc rfl rfl rfl rfl ?_ | refine t_loadRc rfl rfl rfl rfl ?_))
        first | refine t_guard_no rfl rfl ?_ | (refine t_guard_yes rfl ?_; ((refine t_int rfl rfl rfl rfl ?_; rw [bne, hn])))
        refine t_pick rfl rfl rfl ?_
        refine t_move rfl rfl ?_
        first | refine t_guard_no rfl rfl ?_ | (refine t_guard_yes rfl ?_; (first | refine t_fieldD rfl rfl ?_ | refine t_fieldL rfl rfl ?_ | refine t_fieldR rfl rfl ?_ | refine t_fieldW rfl rfl ?_))
        first | refine t_guard_no rfl rfl ?_ | (refine t_guard_yes rfl ?_; (first | refine t_loadDc rfl rfl rfl ?_ | refine t_loadLc rfl rfl rfl rfl ?_ | refine t_loadRc rfl rfl rfl rfl ?_))
        first | refine t_guard_no rfl rfl ?_ | (refine t_guard_yes rfl ?_; (first | refine t_fieldD rfl rfl ?_ | refine t_fieldL rfl rfl ?_ | refine t_fieldR rfl rfl ?_ | refine t_fieldW rfl rfl ?_))
        first | refine t_guard_no rfl rfl ?_ | (refine t_guard_yes rfl ?_; (first | refine t_loadDc rfl rfl rfl ?_ | refine t_loadLc rfl rfl rfl rfl ?_ | refine t_loadRc rfl rfl rfl rfl ?_))
        first | refine t_guard_no rfl rfl ?_ | (refine t_guard_yes rfl ?_; ((refine t_strne rfl rfl rfl ?_; rw [hs])))
        refine t_pick rfl rfl rfl ?_
        refine t_move rfl rfl ?_
        first | refine t_guard_no rfl rfl ?_ | (refine t_guard_yes rfl ?_; (first | refine t_fieldD rfl rfl ?_ | refine t_fieldL rfl rfl ?_ | refine t_fieldR rfl rfl ?_ | refine t_fieldW rfl rfl ?_))
        first | refine t_guard_no rfl rfl ?_ | (refine t_guard_yes rfl ?_; (first | refine t_loadDc rfl rfl rfl ?_ | refine t_loadLc rfl rfl rfl rfl ?_ | refine t_loadRc rfl rfl rfl rfl ?_))
        first | refine t_guard_no rfl rfl ?_ | (refine t_guard_yes rfl ?_; (first | refine t_fieldD rfl rfl ?_ | refine t_fieldL rfl rfl ?_ | refine t_fieldR rfl rfl ?_ | refine t_fieldW rfl rfl ?_))
        first | refine t_guard_no rfl rfl ?_ | (refine t_guard_yes rfl ?_; (first | refine t_loadDc rfl rfl rfl ?_ | refine t_loadLc rfl rfl rfl rfl ?_ | refine t_loadRc rfl rfl rfl rfl ?_))
        first | refine t_guard_no rfl rfl ?_ | (refine t_guard_yes rfl ?_; (fail))
        first | refine t_guard_no rfl rfl ?_ | (refine t_guard_yes rfl ?_; (refine t_not rfl rfl ?_))
        refine t_pick rfl rfl rfl ?_
        refine t_move rfl rfl ?_
        first | refine t_guard_no rfl rfl ?_ | (refine t_guard_yes rfl ?_; (first | refine t_fieldD rfl rfl ?_ | refine t_fieldL rfl rfl ?_ | refine t_fieldR rfl rfl ?_ | refine t_fieldW rfl rfl ?_))
        first | refine t_guard_no rfl rfl ?_ | (refine t_guard_yes rfl ?_; (first | refine t_loadDc rfl rfl rfl ?_ | refine t_loadLc rfl rfl rfl rfl ?_ | refine t_loadRc rfl rfl rfl rfl ?_))
        first | refine t_guard_no rfl rfl ?_ | (refine t_guard_yes rfl ?_; (refine t_lenS rfl rfl rfl ?_))
        first | refine t_guard_no rfl rfl ?_ | (refine t_guard_yes rfl ?_; (first | refine t_fieldD rfl rfl ?_ | refine t_fieldL rfl rfl ?_ | refine t_fieldR rfl rfl ?_ | refine t_fieldW rfl rfl ?_))
        first | refine t_guard_no rfl rfl ?_ | (refine t_guard_yes rfl ?_; (first | refine t_loadDc rfl rfl rfl ?_ | refine t_loadLc rfl rfl rfl rfl ?_ | refine t_loadRc rfl rfl rfl rfl ?_))
        first | refine t_guard_no rfl rfl ?_ | (refine t_guard_yes rfl ?_; (refine t_lenS rfl rfl rfl ?_))
        first | refine t_guard_no rfl rfl ?_ | (refine t_guard_yes rfl ?_; (refine t_int rfl rfl rfl rfl ?_))
        refine t_pick rfl rfl rfl ?_
        refine TL.nil ?_
        repeat refine TC.seq ?_
        refine TC.cond rfl (fun hc => ?_) (fun hc => by cases hc)
        repeat refine TC.seq ?_
        refine TC.region ?_
        refine t_assign rfl rfl ?_
        refine TL.nil ?_
        exact TC.ret ⟨_, rfl, [_], rfl, rfl⟩
      | true =>
        repeat refine TC.seq ?_
        refine TC.region ?_
        first | refine t_fieldD rfl rfl ?_ | refine t_fieldL rfl rfl ?_ | refine t_fieldR rfl rfl ?_ | refine t_fieldW rfl rfl ?_
        first | refine t_loadDc rfl rfl rfl ?_ | refine t_loadLc rfl rfl rfl rfl ?_ | refine t_loadRc rfl rfl rfl rfl ?_
        first | refine t_fieldD rfl rfl ?_ | refine t_fieldL rfl rfl ?_ | refine t_fieldR rfl rfl ?_ | refine t_fieldW rfl rfl ?_
        first | refine t_loadDc rfl rfl rfl ?_ | refine t_loadLc rfl rfl rfl rfl ?_ | refine t_loadRc rfl rfl rfl rfl ?_
        (refine t_int rfl rfl rfl rfl ?_; rw [bne, hk])
        refine t_move rfl rfl ?_
        first | refine t_guard_no rfl rfl ?_ | (refine t_guard_yes rfl ?_; (first | refine t_fieldD rfl rfl ?_ | refine t_fieldL rfl rfl ?_ | refine t_fieldR rfl rfl ?_ | refine t_fieldW rfl rfl ?_))
        first | refine t_guard_no rfl rfl ?_ | (refine t_guard_yes rfl ?_; (first | refine t_loadDc rfl rfl rfl ?_ | refine t_loadLc rfl rfl rfl rfl ?_ | refine t_loadRc rfl rfl rfl rfl ?_))
        first | refine t_guard_no rfl rfl ?_ | (refine t_guard_yes rfl ?_; (first | refine t_fieldD rfl rfl ?_ | refine t_fieldL rfl rfl ?_ | refine t_fieldR rfl rfl ?_ | refine t_fieldW rfl rfl ?_))
        first | refine t_guard_no rfl rfl ?_ | (refine t_guard_yes rfl ?_; (first | refine t_loadDc rfl rfl rfl ?_ | refine t_loadLc rfl rfl rfl rfl ?_ | refine t_loadRc rfl rfl rfl rfl ?_))
        first | refine t_guard_no rfl rfl ?_ | (refine t_guard_yes rfl ?_; (refine t_int rfl rfl rfl rfl ?_))
        refine t_pick rfl rfl rfl ?_
        refine t_move rfl rfl ?_
        first | refine t_guard_no rfl rfl ?_ | (refine t_guard_yes rfl ?_; (first | refine t_fieldD rfl rfl ?_ | refine t_fieldL rfl rfl ?_ | refine t_fieldR rfl rfl ?_ | refine t_fieldW rfl rfl ?_))
        first | refine t_guard_no rfl rfl ?_ | (refine t_guard_yes rfl ?_; (first | refine t_loadDc rfl rfl rfl ?_ | refine t_loadLc rfl rfl rfl rfl ?_ | refine t_loadRc rfl rfl rfl rfl ?_))
        first | refine t_guard_no rfl rfl ?_ | (refine t_guard_yes rfl ?_; (first | refine t_fieldD rfl rfl ?_ | refine t_fieldL rfl rfl ?_ | refine t_fieldR rfl rfl ?_ | refine t_fieldW rfl rfl ?_))
        first | refine t_guard_no rfl rfl ?_ | (refine t_guard_yes rfl ?_; (first | refine t_loadDc rfl rfl rfl ?_ | refine t_loadLc rfl rfl rfl rfl ?_ | refine t_loadRc rfl rfl rfl rfl ?_))
        first | refine t_guard_no rfl rfl ?_ | (refine t_guard_yes rfl ?_; ((refine t_int rfl rfl rfl rfl ?_; rw [bne, hn])))
        refine t_pick rfl rfl rfl ?_
        refine t_move rfl rfl ?_
        first | refine t_guard_no rfl rfl ?_ | (refine t_guard_yes rfl ?_; (first | refine t_fieldD rfl rfl ?_ | refine t_fieldL rfl rfl ?_ | refine t_fieldR rfl rfl ?_ | refine t_fieldW rfl rfl ?_))
        first | refine t_guard_no rfl rfl ?_ | (refine t_guard_yes rfl ?_; (first | refine t_loadDc rfl rfl rfl ?_ | refine t_loadLc rfl rfl rfl rfl ?_ | refine t_loadRc rfl rfl rfl rfl ?_))
        first | refine t_guard_no rfl rfl ?_ | (refine t_guard_yes rfl ?_; (first | refine t_fieldD rfl rfl ?_ | refine t_fieldL rfl rfl ?_ | refine t_fieldR rfl rfl ?_ | refine t_fieldW rfl rfl ?_))
        first | refine t_guard_no rfl rfl ?_ | (refine t_guard_yes rfl ?_; (first | refine t_loadDc rfl rfl rfl ?_ | refine t_loadLc rfl rfl rfl rfl ?_ | refine t_loadRc rfl rfl rfl rfl ?_))
        first | refine t_guard_no rfl rfl ?_ | (refine t_guard_yes rfl ?_; ((refine t_strne rfl rfl rfl ?_; rw [hs])))
        refine t_pick rfl rfl rfl ?_
        refine t_move rfl rfl ?_
        first | refine t_guard_no rfl rfl ?_ | (refine t_guard_yes rfl ?_; (first | refine t_fieldD rfl rfl ?_ | refine t_fieldL rfl rfl ?_ | refine t_fieldR rfl rfl ?_ | refine t_fieldW rfl rfl ?_))
        first | refine t_guard_no rfl rfl ?_ | (refine t_guard_yes rfl ?_; (first | refine t_loadDc rfl rfl rfl ?_ | refine t_loadLc rfl rfl rfl rfl ?_ | refine t_loadRc rfl rfl rfl rfl ?_))
        first | refine t_guard_no rfl rfl ?_ | (refine t_guard_yes rfl ?_; (first | refine t_fieldD rfl rfl ?_ | refine t_fieldL rfl rfl ?_ | refine t_fieldR rfl rfl ?_ | refine t_fieldW rfl rfl ?_))
        first | refine t_guard_no rfl rfl ?_ | (refine t_guard_yes rfl ?_; (first | refine t_loadDc rfl rfl rfl ?_ | refine t_loadLc rfl rfl rfl rfl ?_ | refine t_loadRc rfl rfl rfl rfl ?_))
        first | refine t_guard_no rfl rfl ?_ | (refine t_guard_yes rfl ?_; (refine t_call1 rSameN_ok rfl rfl ?_))
        first | refine t_guard_no rfl rfl ?_ | (refine t_guard_yes rfl ?_; (refine t_not rfl rfl ?_))
        refine t_pick rfl rfl rfl ?_
        refine t_move rfl rfl ?_
        first | refine t_guard_no rfl rfl ?_ | (refine t_guard_yes rfl ?_; (first | refine t_fieldD rfl rfl ?_ | refine t_fieldL rfl rfl ?_ | refine t_fieldR rfl rfl ?_ | refine t_fieldW rfl rfl ?_))
        first | refine t_guard_no rfl rfl ?_ | (refine t_guard_yes rfl ?_; (first | refine t_loadDc rfl rfl rfl ?_ | refine t_loadLc rfl rfl rfl rfl ?_ | refine t_loadRc rfl rfl rfl rfl ?_))
        first | refine t_guard_no rfl rfl ?_ | (refine t_guard_yes rfl ?_; (refine t_lenS rfl rfl rfl ?_))
        first | refine t_guard_no rfl rfl ?_ | (refine t_guard_yes rfl ?_; (first | refine t_fieldD rfl rfl ?_ | refine t_fieldL rfl rfl ?_ | refine t_fieldR rfl rfl ?_ | refine t_fieldW rfl rfl ?_))
        first | refine t_guard_no rfl rfl ?_ | (refine t_guard_yes rfl ?_; (first | refine t_loadDc rfl rfl rfl ?_ | refine t_loadLc rfl rfl rfl rfl ?_ | refine t_loadRc rfl rfl rfl rfl ?_))
        first | refine t_guard_no rfl rfl ?_ | (refine t_guard_yes rfl ?_; (refine t_lenS rfl rfl rfl ?_))
        first | refine t_guard_no rfl rfl ?_ | (refine t_guard_yes rfl ?_; (refine t_int rfl rfl rfl rfl ?_))
        refine t_pick rfl rfl rfl ?_
        refine TL.nil ?_
        repeat refine TC.seq ?_
        refine TC.cond rfl (fun hc => by cases hc) (fun hc => ?_)
        refine TC.skip ?_
        repeat refine TC.seq ?_
        refine TC.region ?_
        refine t_assign rfl rfl ?_
        refine TL.nil ?_
        repeat refine TC.seq ?_
        refine TC.block ?_
        refine TC.loopB (fun k0 s1 => s1 = ⟨[(5, .m (.d (.int .i64 0))), (2, .m (.d (.pim (leafC k n s) 0)))], [], []⟩ ∧ k0 = 0) 0 _ ⟨rfl, rfl⟩ ⟨rfl, rfl, trivial⟩ ?_
        rintro k0 s1 ⟨rfl, rfl⟩
        repeat refine TC.seq ?_
        refine TC.region ?_
        refine t_move rfl rfl ?_
        first | refine t_fieldD rfl rfl ?_ | refine t_fieldL rfl rfl ?_ | refine t_fieldR rfl rfl ?_ | refine t_fieldW rfl rfl ?_
        first | refine t_loadDc rfl rfl rfl ?_ | refine t_loadLc rfl rfl rfl rfl ?_ | refine t_loadRc rfl rfl rfl rfl ?_
        refine t_lenS rfl rfl rfl ?_
        refine t_int rfl rfl rfl rfl ?_
        refine TL.nil ?_
        repeat refine TC.seq ?_
        refine TC.cond rfl (fun hc => by cases hc) (fun hc => ?_)
        refine TC.exit ?_
        repeat refine TC.seq ?_
        refine TC.region ?_
        refine t_assign rfl rfl ?_
        refine TL.nil ?_
        exact TC.ret ⟨_, rfl, [_], rfl, rfl⟩

theorem hasL_nil (nm : ByteArray) : has [] nm = false := rfl
theorem add_ok (nm : ByteArray) : PT Try.prog 142 [.sl [], .str nm] (· = [.sl [[.str nm]]]) := by
  refine PT.of_CT (CT.of_body Try.func142 rfl Try.ntmps142 rfl fun s0 Oo => ?_)
  repeat refine TC.seq ?_
  refine TC.region ?_
  refine t_assign rfl rfl ?_
  refine TL.nil ?_
  repeat refine TC.seq ?_
  refine TC.region ?_
  refine t_move rfl rfl ?_
  refine t_move rfl rfl ?_
  refine t_call1 (contains_ok [] nm) rfl rfl ?_
  refine TL.nil ?_
  repeat refine TC.seq ?_
  refine TC.cond rfl (fun hc => by cases hc) (fun hc => ?_)
  refine TC.skip ?_
  repeat refine TC.seq ?_
  refine TC.region ?_
  refine t_move rfl rfl ?_
  refine t_move rfl rfl ?_
  refine t_buildSlice rfl rfl rfl rfl rfl rfl rfl rfl ?_
  refine t_append0 true rfl rfl rfl rfl (by rfl) (by simp) (by exact one_len rfl) (by exact nat_le rfl) ?_
  refine t_assign rfl rfl ?_
  refine TL.nil ?_
  refine TC.viewSlot 4 rfl (Acc.view (n := 1) (i := 0) (rs := [[.str nm]]) (.inr ⟨by simp, _, rfl, rfl⟩) (by exact one_len rfl)) ?_
  exact TC.ret ⟨_, rfl, [_], rfl, rfl⟩

/-- the kind of what is asked -/
abbrev kd (l : Bool) : Int := bif l then 5 else 4
abbrev condC (l : Bool) (s : ByteArray) : List D := leafC (kd l) 0 s
def lastsOf (l : Bool) (s : ByteArray) : List ByteArray := bif l then [s] else []
def readsOf (l : Bool) (s : ByteArray) : List ByteArray := bif l then [] else [s]
theorem lasts_ok (l : Bool) (s : ByteArray) : PT Try.prog 116 [.sl [], .agg (condC l s)] (· = [.sl (strs (lastsOf l s))]) := by
  refine PT.of_CT (CT.of_body Try.func116 rfl Try.ntmps116 rfl fun s0 Oo => ?_)
  cases l with
  | true =>
    repeat refine TC.seq ?_
    refine TC.region ?_
    refine t_box rfl rfl ?_
    refine t_assign rfl rfl ?_
    refine TL.nil ?_
    repeat refine TC.seq ?_
    refine TC.region ?_
    first | refine t_fieldD rfl rfl ?_ | refine t_fieldL rfl rfl ?_ | refine t_fieldR rfl rfl ?_ | refine t_fieldW rfl rfl ?_
    first | refine t_loadDc rfl rfl rfl ?_ | refine t_loadLc rfl rfl rfl rfl ?_ | refine t_loadRc rfl rfl rfl rfl ?_
    refine t_int rfl rfl rfl rfl ?_
    refine TL.nil ?_
    repeat refine TC.seq ?_
    refine TC.cond rfl (fun hc => ?_) (fun hc => by cases hc)
    repeat refine TC.seq ?_
    refine TC.region ?_
    refine t_move rfl rfl ?_
    first | refine t_fieldD rfl rfl ?_ | refine t_fieldL rfl rfl ?_ | refine t_fieldR rfl rfl ?_ | refine t_fieldW rfl rfl ?_
    first | refine t_loadDc rfl rfl rfl ?_ | refine t_loadLc rfl rfl rfl rfl ?_ | refine t_loadRc rfl rfl rfl rfl ?_
    refine t_call1 (add_ok s) rfl rfl ?_
    refine t_assign rfl rfl ?_
    refine TL.nil ?_
    repeat refine TC.seq ?_
    refine TC.region ?_
    first | refine t_fieldD rfl rfl ?_ | refine t_fieldL rfl rfl ?_ | refine t_fieldR rfl rfl ?_ | refine t_fieldW rfl rfl ?_
    first | refine t_loadDc rfl rfl rfl ?_ | refine t_loadLc rfl rfl rfl rfl ?_ | refine t_loadRc rfl rfl rfl rfl ?_
    refine t_lenS rfl rfl rfl ?_
    refine t_move rfl rfl ?_
    refine TL.nil ?_
    repeat refine TC.seq ?_
    refine TC.block ?_
    refine TC.loopB (fun k0 s1 => s1 = ⟨[(17, .m (.d (.int .i64 0))), (16, .m (.d (.int .i64 0))), (0, .m (.d (.sl [[.str s]])))], [], []⟩ ∧ k0 = 0) 0 _ ⟨rfl, rfl⟩ ⟨rfl, rfl, rfl, trivial⟩ ?_
    rintro k0 s1 ⟨rfl, rfl⟩
    repeat refine TC.seq ?_
    refine TC.region ?_
    refine t_int rfl rfl rfl rfl ?_
    refine TL.nil ?_
    repeat refine TC.seq ?_
    refine TC.cond rfl (fun hc => by cases hc) (fun hc => ?_)
    refine TC.exit ?_
    repeat refine TC.seq ?_
    refine TC.region ?_
    refine t_move rfl rfl ?_
    refine t_assign rfl rfl ?_
    refine TL.nil ?_
    exact TC.ret ⟨_, rfl, [_], rfl, rfl⟩
  | false =>
    repeat refine TC.seq ?_
    refine TC.region ?_
    refine t_box rfl rfl ?_
    refine t_assign rfl rfl ?_
    refine TL.nil ?_
    repeat refine TC.seq ?_
    refine TC.region ?_
    first | refine t_fieldD rfl rfl ?_ | refine t_fieldL rfl rfl ?_ | refine t_fieldR rfl rfl ?_ | refine t_fieldW rfl rfl ?_
    first | refine t_loadDc rfl rfl rfl ?_ | refine t_loadLc rfl rfl rfl rfl ?_ | refine t_loadRc rfl rfl rfl rfl ?_
    refine t_int rfl rfl rfl rfl ?_
    refine TL.nil ?_
    repeat refine TC.seq ?_
    refine TC.cond rfl (fun hc => by cases hc) (fun hc => ?_)
    refine TC.skip ?_
    repeat refine TC.seq ?_
    refine TC.region ?_
    first | refine t_fieldD rfl rfl ?_ | refine t_fieldL rfl rfl ?_ | refine t_fieldR rfl rfl ?_ | refine t_fieldW rfl rfl ?_
    first | refine t_loadDc rfl rfl rfl ?_ | refine t_loadLc rfl rfl rfl rfl ?_ | refine t_loadRc rfl rfl rfl rfl ?_
    refine t_lenS rfl rfl rfl ?_
    refine t_move rfl rfl ?_
    refine TL.nil ?_
    repeat refine TC.seq ?_
    refine TC.block ?_
    refine TC.loopB (fun k0 s1 => s1 = ⟨[(17, .m (.d (.int .i64 0))), (16, .m (.d (.int .i64 0))), (0, .m (.d (.sl [])))], [], []⟩ ∧ k0 = 0) 0 _ ⟨rfl, rfl⟩ ⟨rfl, rfl, rfl, trivial⟩ ?_
    rintro k0 s1 ⟨rfl, rfl⟩
    repeat refine TC.seq ?_
    refine TC.region ?_
    refine t_int rfl rfl rfl rfl ?_
    refine TL.nil ?_
    repeat refine TC.seq ?_
    refine TC.cond rfl (fun hc => by cases hc) (fun hc => ?_)
    refine TC.exit ?_
    repeat refine TC.seq ?_
    refine TC.region ?_
    refine t_move rfl rfl ?_
    refine t_assign rfl rfl ?_
    refine TL.nil ?_
    exact TC.ret ⟨_, rfl, [_], rfl, rfl⟩
theorem lastsP_ok (l : Bool) (s : ByteArray) : PT Try.prog 91 [.agg (condC l s)] (· = [.sl (strs (lastsOf l s))]) := by
  refine PT.of_CT (CT.of_body Try.func91 rfl Try.ntmps91 rfl fun s0 Oo => ?_)
  repeat refine TC.seq ?_
  refine TC.region ?_
  refine t_box rfl rfl ?_
  refine t_assign rfl rfl ?_
  refine TL.nil ?_
  repeat refine TC.seq ?_
  refine TC.region ?_
  first | refine t_loadDw rfl rfl rfl ?_ | refine t_loadDa rfl rfl rfl ?_ | refine t_loadLa rfl rfl rfl rfl rfl ?_ | refine t_loadRa rfl rfl rfl rfl rfl ?_
  refine t_call1 (lasts_ok l s) rfl rfl ?_
  refine t_assign rfl rfl ?_
  refine TL.nil ?_
  exact TC.ret ⟨_, rfl, [_], rfl, rfl⟩
theorem reads_ok (s : ByteArray) : PT Try.prog 118 [.sl [], .agg (condC false s), .bool false] (· = [.sl (strs [s])]) := by
  refine PT.of_CT (CT.of_body Try.func118 rfl Try.ntmps118 rfl fun s0 Oo => ?_)
  repeat refine TC.seq ?_
  refine TC.region ?_
  refine t_box rfl rfl ?_
  refine t_assign rfl rfl ?_
  refine TL.nil ?_
  repeat refine TC.seq ?_
  refine TC.region ?_
  first | refine t_fieldD rfl rfl ?_ | refine t_fieldL rfl rfl ?_ | refine t_fieldR rfl rfl ?_ | refine t_fieldW rfl rfl ?_
  first | refine t_loadDc rfl rfl rfl ?_ | refine t_loadLc rfl rfl rfl rfl ?_ | refine t_loadRc rfl rfl rfl rfl ?_
  refine TL.nil ?_
  repeat refine TC.seq ?_
  refine TC.block ?_
  repeat refine TC.seq ?_
  refine TC.region ?_
  refine t_int rfl rfl rfl rfl ?_
  refine t_assign rfl rfl ?_
  refine TL.nil ?_
  repeat refine TC.seq ?_
  refine TC.cond rfl (fun hc => ?_) (fun hc => by cases hc)
  refine TC.skip ?_
  repeat refine TC.seq ?_
  refine TC.cond rfl (fun hc => ?_) (fun hc => by cases hc)
  repeat refine TC.seq ?_
  refine TC.region ?_
  refine t_move rfl rfl ?_
  first | refine t_fieldD rfl rfl ?_ | refine t_fieldL rfl rfl ?_ | refine t_fieldR rfl rfl ?_ | refine t_fieldW rfl rfl ?_
  first | refine t_loadDc rfl rfl rfl ?_ | refine t_loadLc rfl rfl rfl rfl ?_ | refine t_loadRc rfl rfl rfl rfl ?_
  refine t_call1 (add_ok s) rfl rfl ?_
  refine t_assign rfl rfl ?_
  refine TL.nil ?_
  repeat refine TC.seq ?_
  refine TC.region ?_
  first | refine t_fieldD rfl rfl ?_ | refine t_fieldL rfl rfl ?_ | refine t_fieldR rfl rfl ?_ | refine t_fieldW rfl rfl ?_
  first | refine t_loadDc rfl rfl rfl ?_ | refine t_loadLc rfl rfl rfl rfl ?_ | refine t_loadRc rfl rfl rfl rfl ?_
  refine t_lenS rfl rfl rfl ?_
  refine t_move rfl rfl ?_
  refine TL.nil ?_
  repeat refine TC.seq ?_
  refine TC.block ?_
  refine TC.loopB (fun k0 s1 => s1 = ⟨[(48, .m (.d (.int .i64 0))), (47, .m (.d (.int .i64 0))), (0, .m (.d (.sl [[.str s]])))], [], []⟩ ∧ k0 = 0) 0 _ ⟨rfl, rfl⟩ ⟨rfl, rfl, rfl, trivial⟩ ?_
  rintro k0 s1 ⟨rfl, rfl⟩
  repeat refine TC.seq ?_
  refine TC.region ?_
  refine t_int rfl rfl rfl rfl ?_
  refine TL.nil ?_
  repeat refine TC.seq ?_
  refine TC.cond rfl (fun hc => by cases hc) (fun hc => ?_)
  refine TC.exit ?_
  repeat refine TC.seq ?_
  refine TC.region ?_
  refine t_move rfl rfl ?_
  refine t_assign rfl rfl ?_
  refine TL.nil ?_
  exact TC.ret ⟨_, rfl, [_], rfl, rfl⟩
theorem allP_ok (s : ByteArray) : PT Try.prog 93 [.agg (condC false s)] (· = [.sl (strs [s])]) := by
  refine PT.of_CT (CT.of_body Try.func93 rfl Try.ntmps93 rfl fun s0 Oo => ?_)
  repeat refine TC.seq ?_
  refine TC.region ?_
  refine t_box rfl rfl ?_
  refine t_assign rfl rfl ?_
  refine TL.nil ?_
  repeat refine TC.seq ?_
  refine TC.region ?_
  first | refine t_loadDw rfl rfl rfl ?_ | refine t_loadDa rfl rfl rfl ?_ | refine t_loadLa rfl rfl rfl rfl rfl ?_ | refine t_loadRa rfl rfl rfl rfl rfl ?_
  refine t_call1 (reads_ok s) rfl rfl ?_
  refine t_assign rfl rfl ?_
  refine TL.nil ?_
  exact TC.ret ⟨_, rfl, [_], rfl, rfl⟩

/-- a name in a list, by the reference -/
def hasR (l : List ByteArray) (nm : ByteArray) : Bool := l.any fun s => decide (s = nm)
theorem hasR_eq (l : List ByteArray) (nm : ByteArray) : hasR l nm = has l nm := by
  simp only [hasR, has]; congr; funext s; exact decide_eq_decide.2 eq_comm
theorem rHas_ok (l : List ByteArray) (nm : ByteArray) : PT Try.prog 61 [.sl (strs l), .str nm] (· = [.bool (has l nm)]) := by
  refine PT.of_CT (CT.of_body Try.func61 rfl Try.ntmps61 rfl fun s0 Oo => ?_)
  refine TC.short (x := .tmp 0) rfl fun hmax => ?_
  rw [strs_len] at hmax
  rw [← hasR_eq]
  repeat refine TC.seq ?_
  refine TC.region ?_
  refine t_assign rfl rfl ?_
  refine TL.nil ?_
  repeat refine TC.seq ?_
  refine TC.region ?_
  refine t_assign rfl rfl ?_
  refine TL.nil ?_
  repeat refine TC.seq ?_
  refine TC.block ?_
  refine TC.loopB (fun k s => ∃ i : Nat, s = ⟨[(5, .m (.d (.int .i64 i))), (0, .m (.d (.sl (strs l)))), (1, .m (.d (.str nm)))], [], []⟩ ∧ i ≤ l.length ∧ k = l.length - i ∧ (∀ j, j < i → ∀ h : j < l.length, decide (l[j] = nm) = false)) l.length _
    ⟨0, rfl, by omega, rfl, by intro j h; omega⟩ ⟨rfl, rfl, rfl, trivial⟩ ?_
  rintro k s ⟨i, rfl, hi, rfl, hno⟩
  repeat refine TC.seq ?_
  refine TC.region ?_
  refine t_move rfl rfl ?_
  refine t_move rfl rfl ?_
  refine t_lenS rfl rfl rfl ?_
  refine t_int rfl rfl rfl rfl ?_
  refine TL.nil ?_
  repeat refine TC.seq ?_
  refine TC.cond rfl (fun hc => ?_) (fun hc => ?_)
  · have hc' : i < l.length := by have := of_decide_eq_true hc; rw [strs_len] at this; omega
    clear hc
    refine TC.skip ?_
    repeat refine TC.seq ?_
    refine TC.block ?_
    repeat refine TC.seq ?_
    refine TC.region ?_
    refine t_move rfl rfl ?_
    refine t_move rfl rfl ?_
    refine t_indexD rfl rfl rfl (Int.natCast_nonneg i) (r := [.str l[i]]) (strs_get hc') rfl ?_
    first | refine t_loadDc rfl rfl rfl ?_ | refine t_loadLc rfl rfl rfl rfl ?_ | refine t_loadRc rfl rfl rfl rfl ?_
    refine t_move rfl rfl ?_
    refine t_streq rfl rfl rfl ?_
    refine TL.nil ?_
    repeat refine TC.seq ?_
    refine TC.cond rfl (fun hc2 => ?_) (fun hc2 => ?_)
    · repeat refine TC.seq ?_
      refine TC.region ?_
      refine t_assign rfl rfl ?_
      refine TL.nil ?_
      refine TC.ret ⟨_, rfl, [_], rfl, ?_⟩
      have : hasR l nm = true := List.any_eq_true.2 ⟨l[i], List.getElem_mem hc', hc2⟩
      rw [this]
    · refine TC.skip ?_
      repeat refine TC.seq ?_
      refine TC.region ?_
      refine t_move rfl rfl ?_
      refine t_add64 rfl rfl rfl (by omega) ?_
      refine t_assign rfl rfl ?_
      refine TL.nil ?_
      refine again (k' := l.length - (i + 1)) (by omega) ⟨i + 1, rfl, by omega, rfl, ?_⟩ rfl ⟨by simp; rfl, rfl, rfl, trivial⟩
      intro j hj h
      rcases Nat.lt_succ_iff_lt_or_eq.1 hj with h1 | rfl
      · exact hno j h1 h
      · exact hc2
  · refine TC.exit ?_
    have hc' : i = l.length := by have := of_decide_eq_false hc; rw [strs_len] at this; omega
    repeat refine TC.seq ?_
    refine TC.region ?_
    refine t_assign rfl rfl ?_
    refine TL.nil ?_
    refine TC.ret ⟨_, rfl, [_], rfl, ?_⟩
    have : hasR l nm = false := by
      rw [hasR, List.any_eq_false]
      intro x hx
      obtain ⟨j, hj, rfl⟩ := List.getElem_of_mem hx
      simp [hno j (by omega) hj]
    rw [this]

def addS (acc : List ByteArray) (nm : ByteArray) : List ByteArray := bif has acc nm then acc else acc ++ [nm]
theorem rAdd_ok (l : List ByteArray) (nm : ByteArray) (hl : l.length ≤ 1000000) : PT Try.prog 59 [.sl (strs l), .str nm] (· = [.sl (strs (addS l nm))]) := by
  refine PT.of_CT (CT.of_body Try.func59 rfl Try.ntmps59 rfl fun s0 Oo => ?_)
  repeat refine TC.seq ?_
  refine TC.region ?_
  refine t_assign rfl rfl ?_
  refine TL.nil ?_
  repeat refine TC.seq ?_
  refine TC.region ?_
  refine t_move rfl rfl ?_
  refine t_move rfl rfl ?_
  refine t_call1 (rHas_ok l nm) rfl rfl ?_
  refine TL.nil ?_
  repeat refine TC.seq ?_
  refine TC.cond rfl (fun hc => ?_) (fun hc => ?_)
  · repeat refine TC.seq ?_
    refine TC.region ?_
    refine t_move rfl rfl ?_
    refine t_assign rfl rfl ?_
    refine TL.nil ?_
    exact TC.ret ⟨_, rfl, [_], rfl, by rw [addS, hc]; rfl⟩
  refine TC.skip ?_
  have ha : addS l nm = l ++ [nm] := by rw [addS, hc]; rfl
  rw [ha]
  repeat refine TC.seq ?_
  refine TC.region ?_
  refine t_assign rfl rfl ?_
  refine TL.nil ?_
  cases l with
  | nil =>
    repeat refine TC.seq ?_
    refine TC.region ?_
    refine t_move rfl rfl ?_
    refine t_move rfl rfl ?_
    refine t_append00 rfl rfl rfl ?_
    refine t_assign rfl rfl ?_
    refine TL.nil ?_
    repeat refine TC.seq ?_
    refine TC.region ?_
    refine t_move rfl rfl ?_
    refine t_move rfl rfl ?_
    refine t_buildSlice rfl rfl rfl rfl rfl rfl rfl rfl ?_
    refine t_append0 true rfl rfl rfl rfl (by rfl) (by simp) (by exact one_len rfl) (by exact nat_le rfl) ?_
    refine t_assign rfl rfl ?_
    refine TL.nil ?_
    refine TC.viewSlot 4 rfl (Acc.view (n := 1) (i := 0) (rs := [[.str nm]]) (.inr ⟨by simp, _, rfl, rfl⟩) (by exact one_len rfl)) ?_
    exact TC.ret ⟨_, rfl, [_], rfl, rfl⟩
  | cons q r =>
    simp only [List.length_cons] at hl
    repeat refine TC.seq ?_
    refine TC.region ?_
    refine t_move rfl rfl ?_
    refine t_move rfl rfl ?_
    refine t_append0 true rfl rfl rfl rfl (by rfl) (by simp [strs]) (by exact strs_lens _) (by rw [strs_len]; simp only [List.length_cons]; omega) ?_
    refine t_assign rfl rfl ?_
    refine TL.nil ?_
    repeat refine TC.seq ?_
    refine TC.region ?_
    refine t_move rfl rfl ?_
    refine t_move rfl rfl ?_
    refine t_buildSlice rfl rfl rfl rfl rfl rfl rfl rfl ?_
    refine t_appendR rfl rfl rfl (by exact rfl) (by rfl) (by exact one_len rfl) (by rw [strs_len]; simp; omega) (by rw [strs_len]; simp; omega) ?_
    refine t_assign rfl rfl ?_
    refine TL.nil ?_
    refine TC.viewSlot 4 rfl (Acc.view (n := 1) (i := 0) (rs := strs (q :: r ++ [nm])) (.inr ⟨by simp [strs], _, by rw [strs_append, List.length_append]; rfl, by rw [strs_append]; simp [flatM]; rfl⟩) (strs_lens _)) ?_
    exact TC.ret ⟨_, rfl, [_], rfl, rfl⟩
theorem rLasts_ok (l : Bool) (s : ByteArray) : PT Try.prog 70 [.sl [], .agg (condC l s)] (· = [.sl (strs (lastsOf l s))]) := by
  refine PT.of_CT (CT.of_body Try.func70 rfl Try.ntmps70 rfl fun s0 Oo => ?_)
  cases l with
  | true =>
    repeat refine TC.seq ?_
    refine TC.region ?_
    refine t_box rfl rfl ?_
    refine t_assign rfl rfl ?_
    refine TL.nil ?_
    repeat refine TC.seq ?_
    refine TC.region ?_
    first | refine t_fieldD rfl rfl ?_ | refine t_fieldL rfl rfl ?_ | refine t_fieldR rfl rfl ?_ | refine t_fieldW rfl rfl ?_
    first | refine t_loadDc rfl rfl rfl ?_ | refine t_loadLc rfl rfl rfl rfl ?_ | refine t_loadRc rfl rfl rfl rfl ?_
    refine t_int rfl rfl rfl rfl ?_
    refine TL.nil ?_
    repeat refine TC.seq ?_
    refine TC.cond rfl (fun hc => ?_) (fun hc => by cases hc)
    repeat refine TC.seq ?_
    refine TC.region ?_
    refine t_move rfl rfl ?_
    first | refine t_fieldD rfl rfl ?_ | refine t_fieldL rfl rfl ?_ | refine t_fieldR rfl rfl ?_ | refine t_fieldW rfl rfl ?_
    first | refine t_loadDc rfl rfl rfl ?_ | refine t_loadLc rfl rfl rfl rfl ?_ | refine t_loadRc rfl rfl rfl rfl ?_
    refine t_call1 (rAdd_ok [] s (by simp)) rfl rfl ?_
    refine t_assign rfl rfl ?_
    refine TL.nil ?_
    repeat refine TC.seq ?_
    refine TC.region ?_
    refine t_assign rfl rfl ?_
    refine TL.nil ?_
    repeat refine TC.seq ?_
    refine TC.block ?_
    refine TC.loopB (fun k0 s1 => s1 = ⟨[(5, .m (.d (.int .i64 0))), (3, .m (.d (.pim (condC true s) 0))), (0, .m (.d (.sl [[.str s]])))], [], []⟩ ∧ k0 = 0) 0 _ ⟨rfl, rfl⟩ ⟨rfl, rfl, rfl, trivial⟩ ?_
    rintro k0 s1 ⟨rfl, rfl⟩
    repeat refine TC.seq ?_
    refine TC.region ?_
    refine t_move rfl rfl ?_
    first | refine t_fieldD rfl rfl ?_ | refine t_fieldL rfl rfl ?_ | refine t_fieldR rfl rfl ?_ | refine t_fieldW rfl rfl ?_
    first | refine t_loadDc rfl rfl rfl ?_ | refine t_loadLc rfl rfl rfl rfl ?_ | refine t_loadRc rfl rfl rfl rfl ?_
    refine t_lenS rfl rfl rfl ?_
    refine t_int rfl rfl rfl rfl ?_
    refine TL.nil ?_
    repeat refine TC.seq ?_
    refine TC.cond rfl (fun hc => by cases hc) (fun hc => ?_)
    refine TC.exit ?_
    repeat refine TC.seq ?_
    refine TC.region ?_
    refine t_move rfl rfl ?_
    refine t_assign rfl rfl ?_
    refine TL.nil ?_
    exact TC.ret ⟨_, rfl, [_], rfl, rfl⟩
  | false =>
    repeat refine TC.seq ?_
    refine TC.region ?_
    refine t_box rfl rfl ?_
    refine t_assign rfl rfl ?_
    refine TL.nil ?_
    repeat refine TC.seq ?_
    refine TC.region ?_
    first | refine t_fieldD rfl rfl ?_ | refine t_fieldL rfl rfl ?_ | refine t_fieldR rfl rfl ?_ | refine t_fieldW rfl rfl ?_
    first | refine t_loadDc rfl rfl rfl ?_ | refine t_loadLc rfl rfl rfl rfl ?_ | refine t_loadRc rfl rfl rfl rfl ?_
    refine t_int rfl rfl rfl rfl ?_
    refine TL.nil ?_
    repeat refine TC.seq ?_
    refine TC.cond rfl (fun hc => by cases hc) (fun hc => ?_)
    refine TC.skip ?_
    repeat refine TC.seq ?_
    refine TC.region ?_
    refine t_assign rfl rfl ?_
    refine TL.nil ?_
    repeat refine TC.seq ?_
    refine TC.block ?_
    refine TC.loopB (fun k0 s1 => s1 = ⟨[(5, .m (.d (.int .i64 0))), (3, .m (.d (.pim (condC false s) 0))), (0, .m (.d (.sl [])))], [], []⟩ ∧ k0 = 0) 0 _ ⟨rfl, rfl⟩ ⟨rfl, rfl, rfl, trivial⟩ ?_
    rintro k0 s1 ⟨rfl, rfl⟩
    repeat refine TC.seq ?_
    refine TC.region ?_
    refine t_move rfl rfl ?_
    first | refine t_fieldD rfl rfl ?_ | refine t_fieldL rfl rfl ?_ | refine t_fieldR rfl rfl ?_ | refine t_fieldW rfl rfl ?_
    first | refine t_loadDc rfl rfl rfl ?_ | refine t_loadLc rfl rfl rfl rfl ?_ | refine t_loadRc rfl rfl rfl rfl ?_
    refine t_lenS rfl rfl rfl ?_
    refine t_int rfl rfl rfl rfl ?_
    refine TL.nil ?_
    repeat refine TC.seq ?_
    refine TC.cond rfl (fun hc => by cases hc) (fun hc => ?_)
    refine TC.exit ?_
    repeat refine TC.seq ?_
    refine TC.region ?_
    refine t_move rfl rfl ?_
    refine t_assign rfl rfl ?_
    refine TL.nil ?_
    exact TC.ret ⟨_, rfl, [_], rfl, rfl⟩
theorem rReads_ok (s : ByteArray) : PT Try.prog 58 [.sl [], .agg (condC false s), .bool false] (· = [.sl (strs [s])]) := by
  refine PT.of_CT (CT.of_body Try.func58 rfl Try.ntmps58 rfl fun s0 Oo => ?_)
  repeat refine TC.seq ?_
  refine TC.region ?_
  refine t_box rfl rfl ?_
  refine t_assign rfl rfl ?_
  refine TL.nil ?_
  repeat refine TC.seq ?_
  refine TC.region ?_
  first | refine t_fieldD rfl rfl ?_ | refine t_fieldL rfl rfl ?_ | refine t_fieldR rfl rfl ?_ | refine t_fieldW rfl rfl ?_
  first | refine t_loadDc rfl rfl rfl ?_ | refine t_loadLc rfl rfl rfl rfl ?_ | refine t_loadRc rfl rfl rfl rfl ?_
  refine t_int rfl rfl rfl rfl ?_
  refine t_move rfl rfl ?_
  first | refine t_guard_no rfl rfl ?_ | (refine t_guard_yes rfl ?_; (first | refine t_fieldD rfl rfl ?_ | refine t_fieldL rfl rfl ?_ | refine t_fieldR rfl rfl ?_ | refine t_fieldW rfl rfl ?_))
  first | refine t_guard_no rfl rfl ?_ | (refine t_guard_yes rfl ?_; (first | refine t_loadDc rfl rfl rfl ?_ | refine t_loadLc rfl rfl rfl rfl ?_ | refine t_loadRc rfl rfl rfl rfl ?_))
  first | refine t_guard_no rfl rfl ?_ | (refine t_guard_yes rfl ?_; (refine t_int rfl rfl rfl rfl ?_))
  refine t_pick rfl rfl rfl ?_
  refine TL.nil ?_
  repeat refine TC.seq ?_
  refine TC.cond rfl (fun hc => ?_) (fun hc => by cases hc)
  repeat refine TC.seq ?_
  refine TC.region ?_
  refine t_move rfl rfl ?_
  first | refine t_fieldD rfl rfl ?_ | refine t_fieldL rfl rfl ?_ | refine t_fieldR rfl rfl ?_ | refine t_fieldW rfl rfl ?_
  first | refine t_loadDc rfl rfl rfl ?_ | refine t_loadLc rfl rfl rfl rfl ?_ | refine t_loadRc rfl rfl rfl rfl ?_
  refine t_call1 (rAdd_ok [] s (by simp)) rfl rfl ?_
  refine t_assign rfl rfl ?_
  refine TL.nil ?_
  repeat refine TC.seq ?_
  refine TC.region ?_
  refine t_assign rfl rfl ?_
  refine TL.nil ?_
  repeat refine TC.seq ?_
  refine TC.block ?_
  refine TC.loopB (fun k0 s1 => s1 = ⟨[(7, .m (.d (.int .i64 0))), (4, .m (.d (.pim (condC false s) 0))), (0, .m (.d (.sl [[.str s]])))], [], []⟩ ∧ k0 = 0) 0 _ ⟨rfl, rfl⟩ ⟨rfl, rfl, rfl, trivial⟩ ?_
  rintro k0 s1 ⟨rfl, rfl⟩
  repeat refine TC.seq ?_
  refine TC.region ?_
  refine t_move rfl rfl ?_
  first | refine t_fieldD rfl rfl ?_ | refine t_fieldL rfl rfl ?_ | refine t_fieldR rfl rfl ?_ | refine t_fieldW rfl rfl ?_
  first | refine t_loadDc rfl rfl rfl ?_ | refine t_loadLc rfl rfl rfl rfl ?_ | refine t_loadRc rfl rfl rfl rfl ?_
  refine t_lenS rfl rfl rfl ?_
  refine t_int rfl rfl rfl rfl ?_
  refine TL.nil ?_
  repeat refine TC.seq ?_
  refine TC.cond rfl (fun hc => by cases hc) (fun hc => ?_)
  refine TC.exit ?_
  repeat refine TC.seq ?_
  refine TC.region ?_
  first | refine t_fieldD rfl rfl ?_ | refine t_fieldL rfl rfl ?_ | refine t_fieldR rfl rfl ?_ | refine t_fieldW rfl rfl ?_
  first | refine t_loadDc rfl rfl rfl ?_ | refine t_loadLc rfl rfl rfl rfl ?_ | refine t_loadRc rfl rfl rfl rfl ?_
  refine t_int rfl rfl rfl rfl ?_
  refine TL.nil ?_
  repeat refine TC.seq ?_
  refine TC.cond rfl (fun hc => by cases hc) (fun hc => ?_)
  refine TC.skip ?_
  repeat refine TC.seq ?_
  refine TC.region ?_
  refine t_move rfl rfl ?_
  refine t_assign rfl rfl ?_
  refine TL.nil ?_
  exact TC.ret ⟨_, rfl, [_], rfl, rfl⟩
end Go.Proofs
