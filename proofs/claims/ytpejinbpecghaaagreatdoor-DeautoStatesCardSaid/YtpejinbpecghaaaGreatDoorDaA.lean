/- A text of this claim. -/
import Derived.Test.YtpejinbpecghaaaGreatDoorLibI
import Derived.Test.YtpejinbpecghaaaGreatDoorMtInstZ
import Derived.KernelRfl
namespace Go.Proofs
open Go.Mt
set_option maxRecDepth 4000
set_option linter.unusedSimpArgs false
set_option linter.unusedVariables false
theorem cloneClV_ok : PT Tryz.prog 32 [.sl []] (· = [.sl []]) := by
  refine PT.of_CT (CT.of_body Tryz.func32 rfl Tryz.ntmps32 rfl fun s0 Oo => ?_)
  repeat refine TC.seq ?_
  refine TC.region ?_
  refine t_assign rfl rfl ?_
  refine TL.nil ?_
  repeat refine TC.seq ?_
  refine TC.region ?_
  refine t_move rfl rfl ?_
  (refine t_nilq rfl rfl (fun b => ?_))
  refine TL.nil ?_
  cases b with
  | true =>
    repeat refine TC.seq ?_
    refine TC.cond rfl (fun hc => ?_) (fun hc => by cases hc)
    repeat refine TC.seq ?_
    refine TC.region ?_
    refine t_assign rfl rfl ?_
    refine TL.nil ?_
    exact TC.ret ⟨_, rfl, [_], rfl, rfl⟩
  | false =>
    repeat refine TC.seq ?_
    refine TC.cond rfl (fun hc => by cases hc) (fun hc => ?_)
    refine TC.skip ?_
    repeat refine TC.seq ?_
    refine TC.region ?_
    refine t_buildSlice rfl rfl rfl rfl rfl rfl rfl rfl ?_
    refine t_move rfl rfl ?_
    refine t_append00 rfl rfl rfl ?_
    refine t_assign rfl rfl ?_
    refine TL.nil ?_
    exact TC.ret ⟨_, rfl, [_], rfl, rfl⟩
theorem cloneClE_ok : PT Tryz.prog 60 [.sl []] (· = [.sl []]) := by
  refine PT.of_CT (CT.of_body Tryz.func60 rfl Tryz.ntmps60 rfl fun s0 Oo => ?_)
  repeat refine TC.seq ?_
  refine TC.region ?_
  refine t_assign rfl rfl ?_
  refine TL.nil ?_
  repeat refine TC.seq ?_
  refine TC.region ?_
  refine t_move rfl rfl ?_
  (refine t_nilq rfl rfl (fun b => ?_))
  refine TL.nil ?_
  cases b with
  | true =>
    repeat refine TC.seq ?_
    refine TC.cond rfl (fun hc => ?_) (fun hc => by cases hc)
    repeat refine TC.seq ?_
    refine TC.region ?_
    refine t_assign rfl rfl ?_
    refine TL.nil ?_
    exact TC.ret ⟨_, rfl, [_], rfl, rfl⟩
  | false =>
    repeat refine TC.seq ?_
    refine TC.cond rfl (fun hc => by cases hc) (fun hc => ?_)
    refine TC.skip ?_
    repeat refine TC.seq ?_
    refine TC.region ?_
    refine t_buildSlice rfl rfl rfl rfl rfl rfl rfl rfl ?_
    refine t_move rfl rfl ?_
    refine t_append00 rfl rfl rfl ?_
    refine t_assign rfl rfl ?_
    refine TL.nil ?_
    exact TC.ret ⟨_, rfl, [_], rfl, rfl⟩
theorem cloneClS_ok : PT Tryz.prog 84 [.sl []] (· = [.sl []]) := by
  refine PT.of_CT (CT.of_body Tryz.func84 rfl Tryz.ntmps84 rfl fun s0 Oo => ?_)
  repeat refine TC.seq ?_
  refine TC.region ?_
  refine t_assign rfl rfl ?_
  refine TL.nil ?_
  repeat refine TC.seq ?_
  refine TC.region ?_
  refine t_move rfl rfl ?_
  (refine t_nilq rfl rfl (fun b => ?_))
  refine TL.nil ?_
  cases b with
  | true =>
    repeat refine TC.seq ?_
    refine TC.cond rfl (fun hc => ?_) (fun hc => by cases hc)
    repeat refine TC.seq ?_
    refine TC.region ?_
    refine t_assign rfl rfl ?_
    refine TL.nil ?_
    exact TC.ret ⟨_, rfl, [_], rfl, rfl⟩
  | false =>
    repeat refine TC.seq ?_
    refine TC.cond rfl (fun hc => by cases hc) (fun hc => ?_)
    refine TC.skip ?_
    repeat refine TC.seq ?_
    refine TC.region ?_
    refine t_buildSlice rfl rfl rfl rfl rfl rfl rfl rfl ?_
    refine t_move rfl rfl ?_
    refine t_append00 rfl rfl rfl ?_
    refine t_assign rfl rfl ?_
    refine TL.nil ?_
    exact TC.ret ⟨_, rfl, [_], rfl, rfl⟩
theorem cloneClO_ok : PT Tryz.prog 117 [.sl []] (· = [.sl []]) := by
  refine PT.of_CT (CT.of_body Tryz.func117 rfl Tryz.ntmps117 rfl fun s0 Oo => ?_)
  repeat refine TC.seq ?_
  refine TC.region ?_
  refine t_assign rfl rfl ?_
  refine TL.nil ?_
  repeat refine TC.seq ?_
  refine TC.region ?_
  refine t_move rfl rfl ?_
  (refine t_nilq rfl rfl (fun b => ?_))
  refine TL.nil ?_
  cases b with
  | true =>
    repeat refine TC.seq ?_
    refine TC.cond rfl (fun hc => ?_) (fun hc => by cases hc)
    repeat refine TC.seq ?_
    refine TC.region ?_
    refine t_assign rfl rfl ?_
    refine TL.nil ?_
    exact TC.ret ⟨_, rfl, [_], rfl, rfl⟩
  | false =>
    repeat refine TC.seq ?_
    refine TC.cond rfl (fun hc => by cases hc) (fun hc => ?_)
    refine TC.skip ?_
    repeat refine TC.seq ?_
    refine TC.region ?_
    refine t_buildSlice rfl rfl rfl rfl rfl rfl rfl rfl ?_
    refine t_move rfl rfl ?_
    refine t_append00 rfl rfl rfl ?_
    refine t_assign rfl rfl ?_
    refine TL.nil ?_
    exact TC.ret ⟨_, rfl, [_], rfl, rfl⟩
def dzSums (f : Nat) (ds : List D) : Option (List D) := match ds with
  | [.sl []] => bif has [32, 60, 84, 117] f then some [.sl []] else none
  | _ => none
theorem dzSums_ok : ∀ f ds rs, dzSums f ds = some rs → PT Tryz.prog f ds (· = rs) := by
  intro f ds rs h
  unfold dzSums at h
  split at h
  · cases hc : has [32, 60, 84, 117] f with
    | false => rw [hc] at h; cases h
    | true =>
      rw [hc] at h
      simp only [cond_true] at h
      injection h with h; subst h
      have := has_iff.1 hc
      simp only [List.mem_cons, List.not_mem_nil, or_false] at this
      rcases this with rfl | rfl | rfl | rfl
      · exact cloneClV_ok
      · exact cloneClE_ok
      · exact cloneClS_ok
      · exact cloneClO_ok
  · cases h
def dzHF (f : Nat) : Bool := has [7, 16, 32, 34, 51, 60, 63, 84, 85, 86, 116, 117] f
def dzHint (f t : Nat) : Nat := match get [(3, [(12, 1)]), (7, [(14, 1)]), (8, [(8, 1)]), (15, [(3, 1)]), (16, [(18, 1), (76, 1)]), (20, [(24, 1), (28, 1), (52, 1), (77, 1)]), (37, [(29, 1), (59, 1)]), (39, [(3, 1), (8, 1)]), (47, [(15, 1)]), (62, [(3, 1)]), (67, [(26, 1)]), (68, [(4, 1), (6, 1), (9, 1), (10, 1)]), (79, [(61, 1)]), (87, [(4, 1), (5, 1), (6, 1), (7, 1), (9, 1), (10, 1), (20, 1)]), (88, [(2, 1), (3, 1)]), (90, [(3, 1)]), (101, [(3, 1)]), (104, [(5, 1)]), (105, [(3, 1)]), (109, [(3, 1), (4, 1), (5, 1)]), (129, [(12, 1)]), (134, [(3, 1)]), (147, [(7, 1), (11, 1)]), (157, [(11, 1)])] f with
  | some l => (match get l t with | some k => k | none => 0)
  | none => 0
end Go.Proofs
