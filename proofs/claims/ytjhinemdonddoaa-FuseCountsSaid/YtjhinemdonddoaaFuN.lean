import Derived.Test.YtjhinemdonddoaaFuM
import Derived.Test.YtjhinemdonddoaaMtXg
namespace Go.Proofs
open Go.Mt
set_option maxRecDepth 4000
set_option linter.unusedSimpArgs false
set_option linter.unusedVariables false

/-- the input, of any length -/
def InE (bs : List Nat) (v : D) : Prop := slLen v = some bs.length ∧ (bs = [] ∨ v = .sl (bytesD bs)) ∧ (∀ b ∈ bs, b < 256)
theorem bld3 (bs : List Nat) (at_ : Nat) : S.szs (bld bs 3 at_).1 ≤ 2340 := bld_sz bs 3 at_
theorem FuseStmts_true (bs : List Nat) (v : D) (hin : InE bs v) : PT Try.prog 3 [v] (· = [.bool true]) := by
  obtain ⟨hlen, hv, hb⟩ := hin
  refine PT.of_CT (CT.of_body Try.func3 rfl Try.ntmps3 rfl fun s0 Oo => ?_)
  repeat refine TC.seq ?_
  refine TC.region ?_
  refine t_assign rfl rfl ?_
  refine TL.nil ?_
  repeat refine TC.seq ?_
  refine TC.region ?_
  refine t_call1 awake_ok rfl rfl ?_
  refine t_not rfl rfl ?_
  refine t_move rfl rfl ?_
  first | refine t_guard_no rfl rfl ?_ | (refine t_guard_yes rfl ?_; (refine t_move rfl rfl ?_))
  first | refine t_guard_no rfl rfl ?_ | (refine t_guard_yes rfl ?_; (refine t_lenS rfl rfl hlen ?_))
  first | refine t_guard_no rfl rfl ?_ | (refine t_guard_yes rfl ?_; (refine t_int rfl rfl rfl rfl ?_))
  refine t_pick rfl rfl rfl ?_
  refine TL.nil ?_
  repeat refine TC.seq ?_
  refine TC.cond rfl (fun hc => ?_) (fun hc => ?_)
  · repeat refine TC.seq ?_
    refine TC.region ?_
    refine t_call1 awake_ok rfl rfl ?_
    refine t_assign rfl rfl ?_
    refine TL.nil ?_
    exact TC.ret ⟨_, rfl, [_], rfl, rfl⟩
  · have hle : bs.length ≤ 300 := by have := of_decide_eq_false hc; omega
    have hI : InD bs v := ⟨hlen, hv, hb, hle⟩
    refine TC.skip ?_
    have hB := build_ok bs v hI 3 (Nat.le_refl 3) 0 (Nat.zero_le _)
    have hz := bld3 bs 0
    generalize (bld bs 3 0).1 = s at hz hB
    generalize (bld bs 3 0).2 = a1 at hB
    repeat refine TC.seq ?_
    refine TC.region ?_
    refine t_allocH rfl ?_
    refine t_storeR rfl rfl rfl rfl rfl rfl ?_
    refine TL.nil ?_
    repeat refine TC.seq ?_
    refine TC.region ?_
    refine t_move rfl rfl ?_
    (refine t_callR hB rfl rfl ?_; rintro _ _ ⟨rfl, rfl⟩)
    refine t_assign rfl rfl ?_
    refine TL.nil ?_
    repeat refine TC.seq ?_
    refine TC.region ?_
    refine t_storeR rfl rfl rfl rfl rfl rfl ?_
    refine TL.nil ?_
    repeat refine TC.seq ?_
    refine TC.region ?_
    refine t_move rfl rfl ?_
    (refine t_callR hB rfl rfl ?_; rintro _ _ ⟨rfl, rfl⟩)
    refine t_assign rfl rfl ?_
    refine TL.nil ?_
    have hf := stmts_ok 2341 s (by omega) (by omega)
    have hg := fused_ok 2341 s (by omega) (by omega)
    have hz2 := szs_fuse 2341 s
    generalize fuseN 2341 s = f at hf hg hz2
    have hf2 := stmts_ok 2341 f (by omega) (by omega)
    have hg2 := fused_ok 2341 f (by omega) (by omega)
    have hz3 := szs_fuse 2341 f
    generalize fuseN 2341 f = ff at hf2 hg2 hz3
    have hs1 := same_ok 2341 f f (by omega)
    have hs2 := same_ok 2341 s s (by omega)
    have hs3 := same_ok 2341 ff f (by omega)
    rw [sameSs_refl] at hs1 hs2
    generalize sameSs ff f = q at hs3
    repeat refine TC.seq ?_
    refine TC.region ?_
    refine t_move rfl rfl ?_
    refine t_call1 hf rfl rfl ?_
    refine t_assign rfl rfl ?_
    refine TL.nil ?_
    repeat refine TC.seq ?_
    refine TC.region ?_
    refine t_move rfl rfl ?_
    refine t_move rfl rfl ?_
    refine t_call1 hg rfl rfl ?_
    refine t_call1 hs1 rfl rfl ?_
    refine t_move rfl rfl ?_
    first | refine t_guard_no rfl rfl ?_ | (refine t_guard_yes rfl ?_; (refine t_move rfl rfl ?_))
    first | refine t_guard_no rfl rfl ?_ | (refine t_guard_yes rfl ?_; (refine t_move rfl rfl ?_))
    first | refine t_guard_no rfl rfl ?_ | (refine t_guard_yes rfl ?_; (refine t_call1 hs2 rfl rfl ?_))
    refine t_pick rfl rfl rfl ?_
    refine t_move rfl rfl ?_
    first | refine t_guard_no rfl rfl ?_ | (refine t_guard_yes rfl ?_; (refine t_move rfl rfl ?_))
    first | refine t_guard_no rfl rfl ?_ | (refine t_guard_yes rfl ?_; (refine t_call1 hf2 rfl rfl ?_))
    first | refine t_guard_no rfl rfl ?_ | (refine t_guard_yes rfl ?_; (refine t_move rfl rfl ?_))
    first | refine t_guard_no rfl rfl ?_ | (refine t_guard_yes rfl ?_; (refine t_call1 hs3 rfl rfl ?_))
    first | refine t_guard_no rfl rfl ?_ | (refine t_guard_yes rfl ?_; (refine t_move rfl rfl ?_))
    first | refine t_guard_no rfl rfl ?_ | (refine t_guard_yes rfl ?_; (refine t_call1 hg2 rfl rfl ?_))
    first | refine t_guard_no rfl rfl ?_ | (refine t_guard_yes rfl ?_; (refine t_move rfl rfl ?_))
    first | refine t_guard_no rfl rfl ?_ | (refine t_guard_yes rfl ?_; (refine t_call1 hs3 rfl rfl ?_))
    first | refine t_guard_no rfl rfl ?_ | (refine t_guard_yes rfl ?_; (refine t_beq rfl rfl rfl ?_))
    refine t_pick rfl rfl rfl ?_
    refine t_assign rfl rfl ?_
    refine TL.nil ?_
    refine TC.ret ⟨_, rfl, [_], rfl, ?_⟩
    cases q <;> rfl
theorem FuseCounts_true (bs : List Nat) (v : D) (hin : InE bs v) : PT Try.prog 4 [v] (· = [.bool true]) := by
  obtain ⟨hlen, hv, hb⟩ := hin
  refine PT.of_CT (CT.of_body Try.func4 rfl Try.ntmps4 rfl fun s0 Oo => ?_)
  repeat refine TC.seq ?_
  refine TC.region ?_
  refine t_assign rfl rfl ?_
  refine TL.nil ?_
  repeat refine TC.seq ?_
  refine TC.region ?_
  refine t_call1 awake_ok rfl rfl ?_
  refine t_not rfl rfl ?_
  refine t_move rfl rfl ?_
  first | refine t_guard_no rfl rfl ?_ | (refine t_guard_yes rfl ?_; (refine t_move rfl rfl ?_))
  first | refine t_guard_no rfl rfl ?_ | (refine t_guard_yes rfl ?_; (refine t_lenS rfl rfl hlen ?_))
  first | refine t_guard_no rfl rfl ?_ | (refine t_guard_yes rfl ?_; (refine t_int rfl rfl rfl rfl ?_))
  refine t_pick rfl rfl rfl ?_
  refine TL.nil ?_
  repeat refine TC.seq ?_
  refine TC.cond rfl (fun hc => ?_) (fun hc => ?_)
  · repeat refine TC.seq ?_
    refine TC.region ?_
    refine t_call1 awake_ok rfl rfl ?_
    refine t_assign rfl rfl ?_
    refine TL.nil ?_
    exact TC.ret ⟨_, rfl, [_], rfl, rfl⟩
  · have hle : bs.length ≤ 300 := by have := of_decide_eq_false hc; omega
    have hI : InD bs v := ⟨hlen, hv, hb, hle⟩
    refine TC.skip ?_
    have hB := build_ok bs v hI 3 (Nat.le_refl 3) 0 (Nat.zero_le _)
    have hz := bld3 bs 0
    generalize (bld bs 3 0).1 = s at hz hB
    generalize (bld bs 3 0).2 = a1 at hB
    repeat refine TC.seq ?_
    refine TC.region ?_
    refine t_allocH rfl ?_
    refine t_storeR rfl rfl rfl rfl rfl rfl ?_
    refine TL.nil ?_
    repeat refine TC.seq ?_
    refine TC.region ?_
    refine t_move rfl rfl ?_
    (refine t_callR hB rfl rfl ?_; rintro _ _ ⟨rfl, rfl⟩)
    refine t_assign rfl rfl ?_
    refine TL.nil ?_
    have hf := stmts_ok 2341 s (by omega) (by omega)
    have hz2 := szs_fuse 2341 s
    have hi2 := ifSs_fuse 2341 s
    have hd2 := fuse_done 2341 s (by omega)
    generalize fuseN 2341 s = f at hf hz2 hi2 hd2
    have c1 := ifsF_ok 2341 s (by omega) (by omega)
    have c2 := ifsL_ok 2341 s (by omega) (by omega)
    have c3 := ifsF_ok 2341 f (by omega) (by omega)
    have c4 := ifsL_ok 2341 f (by omega) (by omega)
    have c5 := size_ok 2341 s (by omega) (by omega)
    have c6 := size_ok 2341 f (by omega) (by omega)
    have c7 := fusedF_ok 2341 s (by omega) (by omega)
    have c8 := done_ok 2341 s (by omega) (by omega)
    have c9 := fusedF_ok 2341 f (by omega) (by omega)
    have c10 := done_ok 2341 f (by omega) (by omega)
    rw [hd2] at c9 c10
    generalize doneL none s = q at c7 c8
    have e1 : ((ifSs s : Int) == (ifSs s : Int)) = true := by simp
    have e2 : ((ifSs f : Int) == (ifSs f : Int)) = true := by simp
    have e3 : decide ((ifSs f : Int) ≤ (ifSs s : Int)) = true := decide_eq_true (by omega)
    have e4 : decide ((S.szs f : Int) ≤ (S.szs s : Int)) = true := decide_eq_true (by omega)
    have e5 : (q == q) = true := by simp
    repeat refine TC.seq ?_
    refine TC.region ?_
    refine t_move rfl rfl ?_
    refine t_call1 hf rfl rfl ?_
    refine t_assign rfl rfl ?_
    refine TL.nil ?_
    repeat refine TC.seq ?_
    refine TC.region ?_
    refine t_move rfl rfl ?_
    refine t_call1 c1 rfl rfl ?_
    refine t_move rfl rfl ?_
    refine t_call1 c2 rfl rfl ?_
    (refine t_int rfl rfl rfl rfl ?_; rw [e1])
    refine t_move rfl rfl ?_
    first | refine t_guard_no rfl rfl ?_ | (refine t_guard_yes rfl ?_; (refine t_move rfl rfl ?_))
    first | refine t_guard_no rfl rfl ?_ | (refine t_guard_yes rfl ?_; (refine t_call1 c3 rfl rfl ?_))
    first | refine t_guard_no rfl rfl ?_ | (refine t_guard_yes rfl ?_; (refine t_move rfl rfl ?_))
    first | refine t_guard_no rfl rfl ?_ | (refine t_guard_yes rfl ?_; (refine t_call1 c4 rfl rfl ?_))
    first | refine t_guard_no rfl rfl ?_ | (refine t_guard_yes rfl ?_; ((refine t_int rfl rfl rfl rfl ?_; rw [e2])))
    refine t_pick rfl rfl rfl ?_
    refine t_move rfl rfl ?_
    first | refine t_guard_no rfl rfl ?_ | (refine t_guard_yes rfl ?_; (refine t_move rfl rfl ?_))
    first | refine t_guard_no rfl rfl ?_ | (refine t_guard_yes rfl ?_; (refine t_call1 c4 rfl rfl ?_))
    first | refine t_guard_no rfl rfl ?_ | (refine t_guard_yes rfl ?_; (refine t_move rfl rfl ?_))
    first | refine t_guard_no rfl rfl ?_ | (refine t_guard_yes rfl ?_; (refine t_call1 c2 rfl rfl ?_))
    first | refine t_guard_no rfl rfl ?_ | (refine t_guard_yes rfl ?_; ((refine t_int rfl rfl rfl rfl ?_; rw [e3])))
    refine t_pick rfl rfl rfl ?_
    refine t_move rfl rfl ?_
    first | refine t_guard_no rfl rfl ?_ | (refine t_guard_yes rfl ?_; (refine t_move rfl rfl ?_))
    first | refine t_guard_no rfl rfl ?_ | (refine t_guard_yes rfl ?_; (refine t_call1 c6 rfl rfl ?_))
    first | refine t_guard_no rfl rfl ?_ | (refine t_guard_yes rfl ?_; (refine t_move rfl rfl ?_))
    first | refine t_guard_no rfl rfl ?_ | (refine t_guard_yes rfl ?_; (refine t_call1 c5 rfl rfl ?_))
    first | refine t_guard_no rfl rfl ?_ | (refine t_guard_yes rfl ?_; ((refine t_int rfl rfl rfl rfl ?_; rw [e4])))
    refine t_pick rfl rfl rfl ?_
    refine t_move rfl rfl ?_
    first | refine t_guard_no rfl rfl ?_ | (refine t_guard_yes rfl ?_; (refine t_move rfl rfl ?_))
    first | refine t_guard_no rfl rfl ?_ | (refine t_guard_yes rfl ?_; (refine t_call1 c7 rfl rfl ?_))
    first | refine t_guard_no rfl rfl ?_ | (refine t_guard_yes rfl ?_; (refine t_move rfl rfl ?_))
    first | refine t_guard_no rfl rfl ?_ | (refine t_guard_yes rfl ?_; (refine t_call1 c8 rfl rfl ?_))
    first | refine t_guard_no rfl rfl ?_ | (refine t_guard_yes rfl ?_; ((refine t_beq rfl rfl rfl ?_; rw [e5])))
    refine t_pick rfl rfl rfl ?_
    refine t_move rfl rfl ?_
    first | refine t_guard_no rfl rfl ?_ | (refine t_guard_yes rfl ?_; (refine t_move rfl rfl ?_))
    first | refine t_guard_no rfl rfl ?_ | (refine t_guard_yes rfl ?_; (refine t_call1 c9 rfl rfl ?_))
    refine t_pick rfl rfl rfl ?_
    refine t_move rfl rfl ?_
    first | refine t_guard_no rfl rfl ?_ | (refine t_guard_yes rfl ?_; (refine t_move rfl rfl ?_))
    first | refine t_guard_no rfl rfl ?_ | (refine t_guard_yes rfl ?_; (refine t_call1 c10 rfl rfl ?_))
    refine t_pick rfl rfl rfl ?_
    refine t_assign rfl rfl ?_
    refine TL.nil ?_
    exact TC.ret ⟨_, rfl, [_], rfl, rfl⟩
end Go.Proofs
