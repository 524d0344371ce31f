/- The example of DeautoStates; two lists that are one. -/
import Derived.Test.YtpejinbpecghaaaGreatDoorLibI
import Derived.Test.YtpejinbpecghaaaGreatDoorDaC
import Derived.Test.YtpejinbpecghaaaGreatDoorDaT
namespace Go.Proofs
open Go.Mt
set_option maxRecDepth 4000
set_option linter.unusedSimpArgs false
set_option linter.unusedVariables false

theorem mixed : Tryz.prog.follows .mixedOrders = true := by kernel_rfl
theorem hA : Tryz.prog.underlying 34 = some (.array 2 21) := by kernel_rfl
theorem hZ : tyZero Tryz.prog 34 = some (.agg [.int .i32 0, .int .i32 0]) := by kernel_rfl
theorem neqS {w w' : Int} (h : w = w') : intBin .neq .i32 w w' = some (.bool false) := by subst h; simp [intBin]
theorem sameA_ok (ws : List Int) : PT Tryz.prog 10 [.sl (intsD .i32 ws), .sl (intsD .i32 ws)] (· = [.bool true]) := by
  refine PT.of_CT (CT.of_body Tryz.func10 rfl Tryz.ntmps10 rfl fun s0 Oo => ?_)
  have hlen : slLen (.sl (intsD .i32 ws)) = some ws.length := by simp [slLen, intsD]
  have e1 : ((ws.length : Int) != (ws.length : Int)) = false := by simp
  refine TC.short (x := .tmp 0) rfl fun hmax => ?_
  have hmax' : ws.length ≤ 140737488355328 := by simpa [intsD] using hmax
  repeat refine TC.seq ?_
  refine TC.region ?_
  refine t_assign rfl rfl ?_
  refine TL.nil ?_
  repeat refine TC.seq ?_
  refine TC.region ?_
  refine t_move rfl rfl ?_
  refine t_lenS rfl rfl hlen ?_
  refine t_move rfl rfl ?_
  refine t_lenS rfl rfl hlen ?_
  (refine t_int rfl rfl rfl rfl ?_; rw [e1])
  refine TL.nil ?_
  repeat refine TC.seq ?_
  refine TC.cond rfl (fun hc => by cases hc) (fun _ => ?_)
  refine TC.skip ?_
  repeat refine TC.seq ?_
  refine TC.region ?_
  refine t_assign rfl rfl ?_
  refine TL.nil ?_
  repeat refine TC.seq ?_
  refine TC.block ?_
  refine TC.loopB (fun k s => ∃ i : Nat, s = ⟨[(5, .m (.d (.int .i64 i))), (1, .m (.d (.sl (intsD .i32 ws)))), (0, .m (.d (.sl (intsD .i32 ws))))], [], []⟩ ∧ i ≤ ws.length ∧ k = ws.length - i) ws.length _
    ⟨0, rfl, by omega, rfl⟩ ⟨rfl, rfl, rfl, trivial⟩ ?_
  rintro k s ⟨i, rfl, hi, rfl⟩
  repeat refine TC.seq ?_
  refine TC.region ?_
  refine t_move rfl rfl ?_
  refine t_move rfl rfl ?_
  refine t_lenS rfl rfl hlen ?_
  refine t_int rfl rfl rfl rfl ?_
  refine TL.nil ?_
  repeat refine TC.seq ?_
  refine TC.cond rfl (fun hc => ?_) (fun hc => ?_)
  · have hc' : i < ws.length := by have := of_decide_eq_true hc; omega
    clear hc
    have hget : ws[i]? = some ws[i] := by simp [hc']
    generalize ws[i] = w at hget
    have e2 : (w != w) = false := by simp
    refine TC.skip ?_
    repeat refine TC.seq ?_
    refine TC.block ?_
    repeat refine TC.seq ?_
    refine TC.draw mixed ?_
    refine f_move rfl rfl ?_
    refine f_move rfl rfl ?_
    refine f_indexD rfl rfl rfl (Int.natCast_nonneg i) (r := [.int .i32 w]) (intsD_get hget) rfl ?_
    first | refine f_loadDc rfl rfl rfl ?_ | refine f_loadLc rfl rfl rfl rfl ?_ | refine f_loadRc rfl rfl rfl rfl ?_
    refine f_move rfl rfl ?_
    refine f_move rfl rfl ?_
    refine f_indexD rfl rfl rfl (Int.natCast_nonneg i) (r := [.int .i32 w]) (intsD_get hget) rfl ?_
    first | refine f_loadDc rfl rfl rfl ?_ | refine f_loadLc rfl rfl rfl rfl ?_ | refine f_loadRc rfl rfl rfl rfl ?_
    refine f_int rfl rfl rfl rfl ?_
    refine TF.nil ⟨by kernel_rfl, ?_⟩
    repeat refine TC.seq ?_
    refine TC.cond (b := false) (by simp only [St.ev, evs]; show some (V.m (.d (.bool (w != w)))) = _; rw [e2]) (fun hc => by cases hc) (fun _ => ?_)
    refine TC.skip ?_
    repeat refine TC.seq ?_
    refine TC.region ?_
    refine t_move rfl rfl ?_
    refine t_add64 rfl rfl rfl (by omega) ?_
    refine t_assign rfl rfl ?_
    refine TL.nil ?_
    exact again (k' := ws.length - (i + 1)) (by omega) ⟨i + 1, rfl, by omega, rfl⟩ rfl ⟨by simp; rfl, rfl, rfl, trivial⟩
  · refine TC.exit ?_
    repeat refine TC.seq ?_
    refine TC.region ?_
    refine t_assign rfl rfl ?_
    refine TL.nil ?_
    exact TC.ret ⟨_, rfl, [_], rfl, rfl⟩

def blkOf : D → List D
  | .agg [_, .sl (r :: _)] => (r.drop 3).take 2
  | _ => []
theorem freeP_ok : PT Tryz.prog 14 [.agg (blkOf autoFF)] (· = [.bool false]) := PT.of_chkD dzSums_ok (heapF := dzHF) (hint := dzHint) (rounds := 1000) (k := 100) (by kernel_rfl)
theorem freeQ_ok : PT Tryz.prog 14 [.agg (blkOf deautoFF)] (· = [.bool true]) := PT.of_chkD dzSums_ok (heapF := dzHF) (hint := dzHint) (rounds := 1000) (k := 100) (by kernel_rfl)

theorem daAwake : PT Tryz.prog 5 [] (· = [.bool true]) := by
  refine PT.of_CT (CT.of_body Tryz.func5 rfl Tryz.ntmps5 rfl fun s0 Oo => ?_)
  repeat refine TC.seq ?_
  refine TC.region ?_
  refine t_assign rfl rfl ?_
  refine TL.nil ?_
  repeat refine TC.seq ?_
  refine TC.region ?_
  refine t_call1 autoFF_ok rfl rfl ?_
  refine t_alloc rfl rfl ?_
  refine t_storeL rfl rfl rfl rfl rfl rfl ?_
  refine TL.nil ?_
  repeat refine TC.seq ?_
  refine TC.region ?_
  first | refine t_loadDw rfl rfl rfl ?_ | refine t_loadDa rfl rfl rfl ?_ | refine t_loadLa rfl rfl rfl rfl rfl ?_ | refine t_loadRa rfl rfl rfl rfl rfl ?_
  refine t_call1 deautoFF_ok rfl rfl ?_
  refine t_alloc rfl rfl ?_
  refine t_storeL rfl rfl rfl rfl rfl rfl ?_
  refine TL.nil ?_
  repeat refine TC.seq ?_
  refine TC.region ?_
  first | refine t_loadDw rfl rfl rfl ?_ | refine t_loadDa rfl rfl rfl ?_ | refine t_loadLa rfl rfl rfl rfl rfl ?_ | refine t_loadRa rfl rfl rfl rfl rfl ?_
  (refine t_callR newW_ok rfl rfl ?_; rintro _ _ ⟨rfl, rfl⟩)
  refine t_move rfl rfl ?_
  refine t_extract rfl rfl rfl ?_
  refine t_extract rfl rfl rfl ?_
  refine t_assign rfl rfl ?_
  refine t_assign rfl rfl ?_
  refine TL.nil ?_
  repeat refine TC.seq ?_
  refine TC.region ?_
  refine t_move rfl rfl ?_
  refine t_int rfl rfl rfl rfl ?_
  refine t_move rfl rfl ?_
  first | refine t_guard_no rfl rfl ?_ | (refine t_guard_yes rfl ?_; (first | refine t_fieldD rfl rfl ?_ | refine t_fieldL rfl rfl ?_ | refine t_fieldR rfl rfl ?_ | refine t_fieldW rfl rfl ?_))
  first | refine t_guard_no rfl rfl ?_ | (refine t_guard_yes rfl ?_; (first | refine t_loadDc rfl rfl rfl ?_ | refine t_loadLc rfl rfl rfl rfl ?_ | refine t_loadRc rfl rfl rfl rfl ?_))
  first | refine t_guard_no rfl rfl ?_ | (refine t_guard_yes rfl ?_; (refine t_lenS rfl rfl rfl ?_))
  first | refine t_guard_no rfl rfl ?_ | (refine t_guard_yes rfl ?_; (refine t_int rfl rfl rfl rfl ?_))
  refine t_pick rfl rfl rfl ?_
  refine t_move rfl rfl ?_
  first | refine t_guard_no rfl rfl ?_ | (refine t_guard_yes rfl ?_; (first | refine t_fieldD rfl rfl ?_ | refine t_fieldL rfl rfl ?_ | refine t_fieldR rfl rfl ?_ | refine t_fieldW rfl rfl ?_))
  first | refine t_guard_no rfl rfl ?_ | (refine t_guard_yes rfl ?_; (first | refine t_loadDc rfl rfl rfl ?_ | refine t_loadLc rfl rfl rfl rfl ?_ | refine t_loadRc rfl rfl rfl rfl ?_))
  first | refine t_guard_no rfl rfl ?_ | (refine t_guard_yes rfl ?_; (refine t_indexD rfl rfl rfl (by decide) rfl rfl ?_))
  first | refine t_guard_no rfl rfl ?_ | (refine t_guard_yes rfl ?_; (first | refine t_fieldD rfl rfl ?_ | refine t_fieldL rfl rfl ?_ | refine t_fieldR rfl rfl ?_ | refine t_fieldW rfl rfl ?_))
  first | refine t_guard_no rfl rfl ?_ | (refine t_guard_yes rfl ?_; (first | refine t_loadDw rfl rfl rfl ?_ | refine t_loadDa rfl rfl rfl ?_ | refine t_loadLa rfl rfl rfl rfl rfl ?_ | refine t_loadRa rfl rfl rfl rfl rfl ?_))
  first | refine t_guard_no rfl rfl ?_ | (refine t_guard_yes rfl ?_; (refine t_call1 freeP_ok rfl rfl ?_))
  refine t_pick rfl rfl rfl ?_
  refine t_move rfl rfl ?_
  first | refine t_guard_no rfl rfl ?_ | (refine t_guard_yes rfl ?_; (first | refine t_fieldD rfl rfl ?_ | refine t_fieldL rfl rfl ?_ | refine t_fieldR rfl rfl ?_ | refine t_fieldW rfl rfl ?_))
  first | refine t_guard_no rfl rfl ?_ | (refine t_guard_yes rfl ?_; (first | refine t_loadDc rfl rfl rfl ?_ | refine t_loadLc rfl rfl rfl rfl ?_ | refine t_loadRc rfl rfl rfl rfl ?_))
  first | refine t_guard_no rfl rfl ?_ | (refine t_guard_yes rfl ?_; (refine t_indexD rfl rfl rfl (by decide) rfl rfl ?_))
  first | refine t_guard_no rfl rfl ?_ | (refine t_guard_yes rfl ?_; (first | refine t_fieldD rfl rfl ?_ | refine t_fieldL rfl rfl ?_ | refine t_fieldR rfl rfl ?_ | refine t_fieldW rfl rfl ?_))
  first | refine t_guard_no rfl rfl ?_ | (refine t_guard_yes rfl ?_; (first | refine t_loadDw rfl rfl rfl ?_ | refine t_loadDa rfl rfl rfl ?_ | refine t_loadLa rfl rfl rfl rfl rfl ?_ | refine t_loadRa rfl rfl rfl rfl rfl ?_))
  first | refine t_guard_no rfl rfl ?_ | (refine t_guard_yes rfl ?_; (refine t_call1 freeQ_ok rfl rfl ?_))
  first | refine t_guard_no rfl rfl ?_ | (refine t_guard_yes rfl ?_; (refine t_not rfl rfl ?_))
  refine t_pick rfl rfl rfl ?_
  refine TL.nil ?_
  repeat refine TC.seq ?_
  refine TC.cond rfl (fun hc => by cases hc) (fun _ => ?_)
  refine TC.skip ?_
  repeat refine TC.seq ?_
  refine TC.region ?_
  refine t_buildSlice rfl rfl rfl rfl rfl rfl rfl rfl ?_
  refine t_assign rfl rfl ?_
  refine TL.nil ?_
  repeat refine TC.seq ?_
  refine TC.region ?_
  refine t_assign rfl rfl ?_
  refine TL.nil ?_
  repeat refine TC.seq ?_
  refine TC.block ?_
  refine TC.loopB (fun k s => ∃ (i : Nat) (bx : List (Nat × List M)), s = ⟨[(6, .m (.d (.int .i64 i))), (5, .m (.d (.sl [[.int .i32 0], [.int .i32 1], [.int .i32 100], [.int .i32 101]]))), (3, .m (.ref 5 0))], bx, match i with | 0 => KW 0 0 0 100 | 1 => KW 0 0 1 100 | 2 => KW 1 1 2 100 | 3 => KW 1 0 2 101 | _ => KW 1 0 2 102⟩ ∧ i ≤ 4 ∧ k = 4 - i) 4 _
    ⟨0, _, rfl, by omega, rfl⟩ ⟨rfl, rfl, rfl, trivial⟩ ?_
  rintro k s ⟨i, bx, rfl, hi, rfl⟩
  repeat refine TC.seq ?_
  refine TC.region ?_
  refine t_move rfl rfl ?_
  refine t_int rfl rfl rfl rfl ?_
  refine TL.nil ?_
  repeat refine TC.seq ?_
  have hcase : i = 0 ∨ i = 1 ∨ i = 2 ∨ i = 3 ∨ i = 4 := by omega
  rcases hcase with rfl | rfl | rfl | rfl | rfl
  · refine TC.cond rfl (fun _ => ?_) (fun hc => by cases hc)
    refine TC.skip ?_
    repeat refine TC.seq ?_
    refine TC.block ?_
    repeat refine TC.seq ?_
    refine TC.region ?_
    refine t_assign rfl rfl ?_
    refine TL.nil ?_
    repeat refine TC.seq ?_
    refine TC.region ?_
    refine t_move rfl rfl ?_
    refine t_int rfl rfl rfl rfl ?_
    refine TL.nil ?_
    repeat refine TC.seq ?_
    refine TC.cond rfl (fun hc => by cases hc) (fun _ => ?_)
    refine TC.skip ?_
    repeat refine TC.seq ?_
    refine TC.region ?_
    refine t_move rfl rfl ?_
    refine t_move rfl rfl ?_
    refine t_buildSlice rfl rfl rfl rfl rfl rfl rfl rfl ?_
    (refine t_callR (stepW0 0 100) rfl rfl ?_; rintro _ _ ⟨rfl, rfl⟩)
    refine t_move rfl rfl ?_
    refine t_extract rfl rfl rfl ?_
    refine t_extract rfl rfl rfl ?_
    refine t_assign rfl rfl ?_
    refine t_assign rfl rfl ?_
    refine TL.nil ?_
    repeat refine TC.seq ?_
    refine TC.draw mixed ?_
    refine f_move rfl rfl ?_
    refine f_int rfl rfl rfl rfl ?_
    refine f_move rfl rfl ?_
    first | refine f_guard_no rfl rfl rfl rfl ?_ | refine f_guard_un rfl rfl rfl ?_ | (refine f_guard_yes rfl rfl ?_; (refine f_move rfl rfl ?_))
    first | refine f_guard_no rfl rfl rfl rfl ?_ | refine f_guard_un rfl rfl rfl ?_ | (refine f_guard_yes rfl rfl ?_; (refine f_lenS rfl rfl rfl ?_))
    first | refine f_guard_no rfl rfl rfl rfl ?_ | refine f_guard_un rfl rfl rfl ?_ | (refine f_guard_yes rfl rfl ?_; (refine f_int rfl rfl rfl rfl ?_))
    refine f_pick rfl rfl rfl ?_
    refine f_move rfl rfl ?_
    first | refine f_guard_no rfl rfl rfl rfl ?_ | refine f_guard_un rfl rfl rfl ?_ | (refine f_guard_yes rfl rfl ?_; (refine f_move rfl rfl ?_))
    first | refine f_guard_no rfl rfl rfl rfl ?_ | refine f_guard_un rfl rfl rfl ?_ | (refine f_guard_yes rfl rfl ?_; (refine f_indexD rfl rfl rfl (by decide) (r := [.int .i32 0]) rfl rfl ?_))
    first | refine f_guard_no rfl rfl rfl rfl ?_ | refine f_guard_un rfl rfl rfl ?_ | (refine f_guard_yes rfl rfl ?_; (first | refine f_loadDc rfl rfl rfl ?_ | refine f_loadLc rfl rfl rfl rfl ?_ | refine f_loadRc rfl rfl rfl rfl ?_))
    first | refine f_guard_no rfl rfl rfl rfl ?_ | refine f_guard_un rfl rfl rfl ?_ | (refine f_guard_yes rfl rfl ?_; (refine f_move rfl rfl ?_))
    first | refine f_guard_no rfl rfl rfl rfl ?_ | refine f_guard_un rfl rfl rfl ?_ | (refine f_guard_yes rfl rfl ?_; (refine f_move rfl rfl ?_))
    first | refine f_guard_no rfl rfl rfl rfl ?_ | refine f_guard_un rfl rfl rfl ?_ | (refine f_guard_yes rfl rfl ?_; (refine f_indexD rfl rfl rfl (by decide) (r := [.int .i32 0]) rfl rfl ?_))
    first | refine f_guard_no rfl rfl rfl rfl ?_ | refine f_guard_un rfl rfl rfl ?_ | (refine f_guard_yes rfl rfl ?_; (first | refine f_loadDc rfl rfl rfl ?_ | refine f_loadLc rfl rfl rfl rfl ?_ | refine f_loadRc rfl rfl rfl rfl ?_))
    first | refine f_guard_no rfl rfl rfl rfl ?_ | refine f_guard_un rfl rfl rfl ?_ | (refine f_guard_yes rfl rfl ?_; (refine f_int rfl rfl rfl rfl ?_))
    refine f_pick rfl rfl rfl ?_
    refine TF.nil ⟨by kernel_rfl, ?_⟩
    repeat refine TC.seq ?_
    refine TC.cond rfl (fun hc => by cases hc) (fun _ => ?_)
    refine TC.skip ?_
    repeat refine TC.seq ?_
    refine TC.region ?_
    refine t_move rfl rfl ?_
    refine t_add64 rfl rfl rfl (by omega) ?_
    refine t_assign rfl rfl ?_
    refine TL.nil ?_
    exact again (k' := 3) (by omega) ⟨1, _, rfl, by omega, rfl⟩ rfl ⟨rfl, rfl, rfl, trivial⟩
  · refine TC.cond rfl (fun _ => ?_) (fun hc => by cases hc)
    refine TC.skip ?_
    repeat refine TC.seq ?_
    refine TC.block ?_
    repeat refine TC.seq ?_
    refine TC.region ?_
    refine t_assign rfl rfl ?_
    refine TL.nil ?_
    repeat refine TC.seq ?_
    refine TC.region ?_
    refine t_move rfl rfl ?_
    refine t_int rfl rfl rfl rfl ?_
    refine TL.nil ?_
    repeat refine TC.seq ?_
    refine TC.cond rfl (fun _ => ?_) (fun hc => by cases hc)
    repeat refine TC.seq ?_
    refine TC.region ?_
    refine t_assign rfl rfl ?_
    refine TL.nil ?_
    repeat refine TC.seq ?_
    refine TC.region ?_
    refine t_move rfl rfl ?_
    refine t_move rfl rfl ?_
    refine t_buildSlice rfl rfl rfl rfl rfl rfl rfl rfl ?_
    (refine t_callR (stepW1 1 100) rfl rfl ?_; rintro _ _ ⟨rfl, rfl⟩)
    refine t_move rfl rfl ?_
    refine t_extract rfl rfl rfl ?_
    refine t_extract rfl rfl rfl ?_
    refine t_assign rfl rfl ?_
    refine t_assign rfl rfl ?_
    refine TL.nil ?_
    repeat refine TC.seq ?_
    refine TC.draw mixed ?_
    refine f_move rfl rfl ?_
    refine f_int rfl rfl rfl rfl ?_
    refine f_move rfl rfl ?_
    first | refine f_guard_no rfl rfl rfl rfl ?_ | refine f_guard_un rfl rfl rfl ?_ | (refine f_guard_yes rfl rfl ?_; (refine f_move rfl rfl ?_))
    first | refine f_guard_no rfl rfl rfl rfl ?_ | refine f_guard_un rfl rfl rfl ?_ | (refine f_guard_yes rfl rfl ?_; (refine f_lenS rfl rfl rfl ?_))
    first | refine f_guard_no rfl rfl rfl rfl ?_ | refine f_guard_un rfl rfl rfl ?_ | (refine f_guard_yes rfl rfl ?_; (refine f_int rfl rfl rfl rfl ?_))
    refine f_pick rfl rfl rfl ?_
    refine f_move rfl rfl ?_
    first | refine f_guard_no rfl rfl rfl rfl ?_ | refine f_guard_un rfl rfl rfl ?_ | (refine f_guard_yes rfl rfl ?_; (refine f_move rfl rfl ?_))
    first | refine f_guard_no rfl rfl rfl rfl ?_ | refine f_guard_un rfl rfl rfl ?_ | (refine f_guard_yes rfl rfl ?_; (refine f_indexD rfl rfl rfl (by decide) (r := [.int .i32 1]) rfl rfl ?_))
    first | refine f_guard_no rfl rfl rfl rfl ?_ | refine f_guard_un rfl rfl rfl ?_ | (refine f_guard_yes rfl rfl ?_; (first | refine f_loadDc rfl rfl rfl ?_ | refine f_loadLc rfl rfl rfl rfl ?_ | refine f_loadRc rfl rfl rfl rfl ?_))
    first | refine f_guard_no rfl rfl rfl rfl ?_ | refine f_guard_un rfl rfl rfl ?_ | (refine f_guard_yes rfl rfl ?_; (refine f_move rfl rfl ?_))
    first | refine f_guard_no rfl rfl rfl rfl ?_ | refine f_guard_un rfl rfl rfl ?_ | (refine f_guard_yes rfl rfl ?_; (refine f_move rfl rfl ?_))
    first | refine f_guard_no rfl rfl rfl rfl ?_ | refine f_guard_un rfl rfl rfl ?_ | (refine f_guard_yes rfl rfl ?_; (refine f_indexD rfl rfl rfl (by decide) (r := [.int .i32 1]) rfl rfl ?_))
    first | refine f_guard_no rfl rfl rfl rfl ?_ | refine f_guard_un rfl rfl rfl ?_ | (refine f_guard_yes rfl rfl ?_; (first | refine f_loadDc rfl rfl rfl ?_ | refine f_loadLc rfl rfl rfl rfl ?_ | refine f_loadRc rfl rfl rfl rfl ?_))
    first | refine f_guard_no rfl rfl rfl rfl ?_ | refine f_guard_un rfl rfl rfl ?_ | (refine f_guard_yes rfl rfl ?_; (refine f_int rfl rfl rfl rfl ?_))
    refine f_pick rfl rfl rfl ?_
    refine TF.nil ⟨by kernel_rfl, ?_⟩
    repeat refine TC.seq ?_
    refine TC.cond rfl (fun hc => by cases hc) (fun _ => ?_)
    refine TC.skip ?_
    repeat refine TC.seq ?_
    refine TC.region ?_
    refine t_move rfl rfl ?_
    refine t_add64 rfl rfl rfl (by omega) ?_
    refine t_assign rfl rfl ?_
    refine TL.nil ?_
    exact again (k' := 2) (by omega) ⟨2, _, rfl, by omega, rfl⟩ rfl ⟨rfl, rfl, rfl, trivial⟩
  · refine TC.cond rfl (fun _ => ?_) (fun hc => by cases hc)
    refine TC.skip ?_
    repeat refine TC.seq ?_
    refine TC.block ?_
    repeat refine TC.seq ?_
    refine TC.region ?_
    refine t_assign rfl rfl ?_
    refine TL.nil ?_
    repeat refine TC.seq ?_
    refine TC.region ?_
    refine t_move rfl rfl ?_
    refine t_int rfl rfl rfl rfl ?_
    refine TL.nil ?_
    repeat refine TC.seq ?_
    refine TC.cond rfl (fun hc => by cases hc) (fun _ => ?_)
    refine TC.skip ?_
    repeat refine TC.seq ?_
    refine TC.region ?_
    refine t_move rfl rfl ?_
    refine t_move rfl rfl ?_
    refine t_buildSlice rfl rfl rfl rfl rfl rfl rfl rfl ?_
    (refine t_callR (stepW2 2 100) rfl rfl ?_; rintro _ _ ⟨rfl, rfl⟩)
    refine t_move rfl rfl ?_
    refine t_extract rfl rfl rfl ?_
    refine t_extract rfl rfl rfl ?_
    refine t_assign rfl rfl ?_
    refine t_assign rfl rfl ?_
    refine TL.nil ?_
    repeat refine TC.seq ?_
    refine TC.draw mixed ?_
    refine f_move rfl rfl ?_
    refine f_int rfl rfl rfl rfl ?_
    refine f_move rfl rfl ?_
    first | refine f_guard_no rfl rfl rfl rfl ?_ | refine f_guard_un rfl rfl rfl ?_ | (refine f_guard_yes rfl rfl ?_; (refine f_move rfl rfl ?_))
    first | refine f_guard_no rfl rfl rfl rfl ?_ | refine f_guard_un rfl rfl rfl ?_ | (refine f_guard_yes rfl rfl ?_; (refine f_lenS rfl rfl rfl ?_))
    first | refine f_guard_no rfl rfl rfl rfl ?_ | refine f_guard_un rfl rfl rfl ?_ | (refine f_guard_yes rfl rfl ?_; (refine f_int rfl rfl rfl rfl ?_))
    refine f_pick rfl rfl rfl ?_
    refine f_move rfl rfl ?_
    first | refine f_guard_no rfl rfl rfl rfl ?_ | refine f_guard_un rfl rfl rfl ?_ | (refine f_guard_yes rfl rfl ?_; (refine f_move rfl rfl ?_))
    first | refine f_guard_no rfl rfl rfl rfl ?_ | refine f_guard_un rfl rfl rfl ?_ | (refine f_guard_yes rfl rfl ?_; (refine f_indexD rfl rfl rfl (by decide) (r := [.int .i32 100]) rfl rfl ?_))
    first | refine f_guard_no rfl rfl rfl rfl ?_ | refine f_guard_un rfl rfl rfl ?_ | (refine f_guard_yes rfl rfl ?_; (first | refine f_loadDc rfl rfl rfl ?_ | refine f_loadLc rfl rfl rfl rfl ?_ | refine f_loadRc rfl rfl rfl rfl ?_))
    first | refine f_guard_no rfl rfl rfl rfl ?_ | refine f_guard_un rfl rfl rfl ?_ | (refine f_guard_yes rfl rfl ?_; (refine f_move rfl rfl ?_))
    first | refine f_guard_no rfl rfl rfl rfl ?_ | refine f_guard_un rfl rfl rfl ?_ | (refine f_guard_yes rfl rfl ?_; (refine f_move rfl rfl ?_))
    first | refine f_guard_no rfl rfl rfl rfl ?_ | refine f_guard_un rfl rfl rfl ?_ | (refine f_guard_yes rfl rfl ?_; (refine f_indexD rfl rfl rfl (by decide) (r := [.int .i32 100]) rfl rfl ?_))
    first | refine f_guard_no rfl rfl rfl rfl ?_ | refine f_guard_un rfl rfl rfl ?_ | (refine f_guard_yes rfl rfl ?_; (first | refine f_loadDc rfl rfl rfl ?_ | refine f_loadLc rfl rfl rfl rfl ?_ | refine f_loadRc rfl rfl rfl rfl ?_))
    first | refine f_guard_no rfl rfl rfl rfl ?_ | refine f_guard_un rfl rfl rfl ?_ | (refine f_guard_yes rfl rfl ?_; (refine f_int rfl rfl rfl rfl ?_))
    refine f_pick rfl rfl rfl ?_
    refine TF.nil ⟨by kernel_rfl, ?_⟩
    repeat refine TC.seq ?_
    refine TC.cond rfl (fun hc => by cases hc) (fun _ => ?_)
    refine TC.skip ?_
    repeat refine TC.seq ?_
    refine TC.region ?_
    refine t_move rfl rfl ?_
    refine t_add64 rfl rfl rfl (by omega) ?_
    refine t_assign rfl rfl ?_
    refine TL.nil ?_
    exact again (k' := 1) (by omega) ⟨3, _, rfl, by omega, rfl⟩ rfl ⟨rfl, rfl, rfl, trivial⟩
  · refine TC.cond rfl (fun _ => ?_) (fun hc => by cases hc)
    refine TC.skip ?_
    repeat refine TC.seq ?_
    refine TC.block ?_
    repeat refine TC.seq ?_
    refine TC.region ?_
    refine t_assign rfl rfl ?_
    refine TL.nil ?_
    repeat refine TC.seq ?_
    refine TC.region ?_
    refine t_move rfl rfl ?_
    refine t_int rfl rfl rfl rfl ?_
    refine TL.nil ?_
    repeat refine TC.seq ?_
    refine TC.cond rfl (fun hc => by cases hc) (fun _ => ?_)
    refine TC.skip ?_
    repeat refine TC.seq ?_
    refine TC.region ?_
    refine t_move rfl rfl ?_
    refine t_move rfl rfl ?_
    refine t_buildSlice rfl rfl rfl rfl rfl rfl rfl rfl ?_
    (refine t_callR (stepW3 2 101) rfl rfl ?_; rintro _ _ ⟨rfl, rfl⟩)
    refine t_move rfl rfl ?_
    refine t_extract rfl rfl rfl ?_
    refine t_extract rfl rfl rfl ?_
    refine t_assign rfl rfl ?_
    refine t_assign rfl rfl ?_
    refine TL.nil ?_
    repeat refine TC.seq ?_
    refine TC.draw mixed ?_
    refine f_move rfl rfl ?_
    refine f_int rfl rfl rfl rfl ?_
    refine f_move rfl rfl ?_
    first | refine f_guard_no rfl rfl rfl rfl ?_ | refine f_guard_un rfl rfl rfl ?_ | (refine f_guard_yes rfl rfl ?_; (refine f_move rfl rfl ?_))
    first | refine f_guard_no rfl rfl rfl rfl ?_ | refine f_guard_un rfl rfl rfl ?_ | (refine f_guard_yes rfl rfl ?_; (refine f_lenS rfl rfl rfl ?_))
    first | refine f_guard_no rfl rfl rfl rfl ?_ | refine f_guard_un rfl rfl rfl ?_ | (refine f_guard_yes rfl rfl ?_; (refine f_int rfl rfl rfl rfl ?_))
    refine f_pick rfl rfl rfl ?_
    refine f_move rfl rfl ?_
    first | refine f_guard_no rfl rfl rfl rfl ?_ | refine f_guard_un rfl rfl rfl ?_ | (refine f_guard_yes rfl rfl ?_; (refine f_move rfl rfl ?_))
    first | refine f_guard_no rfl rfl rfl rfl ?_ | refine f_guard_un rfl rfl rfl ?_ | (refine f_guard_yes rfl rfl ?_; (refine f_indexD rfl rfl rfl (by decide) (r := [.int .i32 101]) rfl rfl ?_))
    first | refine f_guard_no rfl rfl rfl rfl ?_ | refine f_guard_un rfl rfl rfl ?_ | (refine f_guard_yes rfl rfl ?_; (first | refine f_loadDc rfl rfl rfl ?_ | refine f_loadLc rfl rfl rfl rfl ?_ | refine f_loadRc rfl rfl rfl rfl ?_))
    first | refine f_guard_no rfl rfl rfl rfl ?_ | refine f_guard_un rfl rfl rfl ?_ | (refine f_guard_yes rfl rfl ?_; (refine f_move rfl rfl ?_))
    first | refine f_guard_no rfl rfl rfl rfl ?_ | refine f_guard_un rfl rfl rfl ?_ | (refine f_guard_yes rfl rfl ?_; (refine f_move rfl rfl ?_))
    first | refine f_guard_no rfl rfl rfl rfl ?_ | refine f_guard_un rfl rfl rfl ?_ | (refine f_guard_yes rfl rfl ?_; (refine f_indexD rfl rfl rfl (by decide) (r := [.int .i32 101]) rfl rfl ?_))
    first | refine f_guard_no rfl rfl rfl rfl ?_ | refine f_guard_un rfl rfl rfl ?_ | (refine f_guard_yes rfl rfl ?_; (first | refine f_loadDc rfl rfl rfl ?_ | refine f_loadLc rfl rfl rfl rfl ?_ | refine f_loadRc rfl rfl rfl rfl ?_))
    first | refine f_guard_no rfl rfl rfl rfl ?_ | refine f_guard_un rfl rfl rfl ?_ | (refine f_guard_yes rfl rfl ?_; (refine f_int rfl rfl rfl rfl ?_))
    refine f_pick rfl rfl rfl ?_
    refine TF.nil ⟨by kernel_rfl, ?_⟩
    repeat refine TC.seq ?_
    refine TC.cond rfl (fun hc => by cases hc) (fun _ => ?_)
    refine TC.skip ?_
    repeat refine TC.seq ?_
    refine TC.region ?_
    refine t_move rfl rfl ?_
    refine t_add64 rfl rfl rfl (by omega) ?_
    refine t_assign rfl rfl ?_
    refine TL.nil ?_
    exact again (k' := 0) (by omega) ⟨4, _, rfl, by omega, rfl⟩ rfl ⟨rfl, rfl, rfl, trivial⟩
  · refine TC.cond rfl (fun hc => by cases hc) (fun _ => ?_)
    refine TC.exit ?_
    repeat refine TC.seq ?_
    refine TC.region ?_
    refine t_assign rfl rfl ?_
    refine TL.nil ?_
    exact TC.ret ⟨_, rfl, [_], rfl, rfl⟩
end Go.Proofs
