/- A machine is made; machines that are none. -/
import Derived.Test.YtcmjcdiaidalgaaSnH
import Derived.Test.YtcmjcdiaidalgaaSnI
set_option linter.unusedVariables false
set_option linter.unusedSimpArgs false
set_option linter.unusedSectionVars false
namespace Go.Proofs
open Go.Mt Go.Mk
set_option maxRecDepth 4000
set_option linter.unusedSimpArgs false
set_option linter.unusedVariables false

instance : IsFn Try.prog 17 := isFn_of (by kernel_rfl)
instance : IsFn Try.prog 19 := isFn_of (by kernel_rfl)
instance : IsFn Try.prog 20 := isFn_of (by kernel_rfl)
instance : IsFn Try.prog 15 := isFn_of (by kernel_rfl)
instance : IsFn Try.prog 16 := isFn_of (by kernel_rfl)
theorem new_no (l : List Nd) (hl : l.length ≤ 1000) (x : Nm) (hix : nodeIx l x = -1) (H : Hp) : DT Try.prog 17 [.d (.agg (progC l)), .d (.str x)] H fun r K => r = .tup [.d .nilp, .d (.int .i64 11)] := by
  have hf := findNode_pt [colE] l x hl
  rw [hix] at hf
  refine DT.of_body Try.func17 rfl Try.ntmps17 rfl ?_
  repeat refine DC.seq ?_
  apply DC.regionX
  · intro s0 Oo
    refine t_box rfl rfl ?_
    refine t_assign rfl rfl ?_
    refine t_assign rfl rfl ?_
    exact TL.nil rfl
  repeat refine DC.seq ?_
  apply DC.regionX
  · intro s0 Oo
    refine t_loadDw rfl rfl rfl ?_
    refine t_move rfl rfl ?_
    refine t_call1 hf rfl rfl ?_
    refine t_int rfl rfl rfl rfl ?_
    exact TL.nil rfl
  repeat refine DC.seq ?_
  refine DC.cond rfl (fun hc => ?_) (fun hc => by cases hc)
  repeat refine DC.seq ?_
  apply DC.regionX
  · intro s0 Oo
    refine t_assign rfl rfl ?_
    refine t_assign rfl rfl ?_
    exact TL.nil rfl
  exact DC.ret ⟨_, rfl, rfl⟩
theorem new_yes (l : List Nd) (hl : l.length ≤ 1000) (x : Nm) (i : Nat) (hi : i < l.length) (hix : nodeIx l x = i) (hb : WB l[i].b) (ho : l[i].outs.length ≤ 1000) (hv : ∀ v ∈ l[i].outs, v.last = true → ∃ t, GC t v.first) (hsz : bPl l[i].b ≤ 100000000) (H : Hp) :
    DT Try.prog 17 [.d (.agg (progC l)), .d (.str x)] H fun r K => ∃ c j, r = .tup [.ref j 0, .d (.int .i64 0)] ∧ K[j]? = some (.box [.ref c.iu 0]) ∧ MM c K ∧ MOf l l[i] c := by
  have hf := findNode_pt [colE] l x hl
  obtain ⟨r2, K2, ⟨c, rfl, hm, ho2⟩, hc2⟩ := start_dt l hl x i hi hix hb ho hv hsz H
  rw [hix] at hf
  refine DT.of_body Try.func17 rfl Try.ntmps17 rfl ?_
  repeat refine DC.seq ?_
  apply DC.regionX
  · intro s0 Oo
    refine t_box rfl rfl ?_
    refine t_assign rfl rfl ?_
    refine t_assign rfl rfl ?_
    exact TL.nil rfl
  repeat refine DC.seq ?_
  apply DC.regionX
  · intro s0 Oo
    refine t_loadDw rfl rfl rfl ?_
    refine t_move rfl rfl ?_
    refine t_call1 hf rfl rfl ?_
    (refine t_int rfl rfl rfl (r := .bool false) (by show some (D.bool (decide _)) = _; rw [decide_eq_false (by omega)]) ?_)
    exact TL.nil rfl
  repeat refine DC.seq ?_
  refine DC.cond rfl (fun hc => by cases hc) (fun hc => ?_)
  refine DC.skip ?_
  repeat refine DC.seq ?_
  apply DC.regionX
  · intro s0 Oo
    refine t_loadDw rfl rfl rfl ?_
    refine t_move rfl rfl ?_
    refine t_callD hc2 rfl rfl ?_
    refine t_buildM rfl rfl rfl rfl rfl ?_
    refine t_boxH rfl rfl rfl ?_
    refine t_assign rfl rfl ?_
    refine t_assign rfl rfl ?_
    exact TL.nil rfl
  exact DC.ret ⟨_, rfl, c, K2.length, rfl, by simp, hm.mono (fun j ob hj => by rw [List.getElem?_append_left (hlt' hj)]; exact hj), ho2⟩
theorem reset_nil : PT Try.prog 19 [.nilp] (· = []) := by
  refine PT.of_CT (CT.of_body Try.func19 rfl Try.ntmps19 rfl fun s0 Oo => ?_)
  repeat refine TC.seq ?_
  refine TC.region ?_
  refine t_move rfl rfl ?_
  refine t_neqNil (by kernel_rfl) rfl rfl rfl rfl rfl ?_
  refine t_move rfl rfl ?_
  refine t_guard_no rfl rfl ?_
  refine t_guard_no rfl rfl ?_
  refine t_guard_no rfl rfl ?_
  refine t_guard_no rfl rfl ?_
  refine t_guard_no rfl rfl ?_
  refine t_pick rfl rfl rfl ?_
  refine TL.nil ?_
  refine TC.cond rfl (fun hc => by cases hc) (fun hc => ?_)
  refine TC.skip ?_
  exact ⟨_, rfl, [], rfl, rfl⟩
theorem step_nil (d : D) : PT Try.prog 20 [.nilp, d] (· = [.sl [], .int .i64 12]) := by
  refine PT.of_CT (CT.of_body Try.func20 rfl Try.ntmps20 rfl fun s0 Oo => ?_)
  repeat refine TC.seq ?_
  refine TC.region ?_
  refine t_assign rfl rfl ?_
  refine t_assign rfl rfl ?_
  refine TL.nil ?_
  repeat refine TC.seq ?_
  refine TC.region ?_
  refine t_move rfl rfl ?_
  refine t_eqNil (by kernel_rfl) rfl rfl rfl rfl rfl ?_
  refine t_move rfl rfl ?_
  refine t_guard_no rfl rfl ?_
  refine t_guard_no rfl rfl ?_
  refine t_guard_no rfl rfl ?_
  refine t_guard_no rfl rfl ?_
  refine t_guard_no rfl rfl ?_
  refine t_pick rfl rfl rfl ?_
  refine TL.nil ?_
  repeat refine TC.seq ?_
  refine TC.cond rfl (fun hc => ?_) (fun hc => by cases hc)
  repeat refine TC.seq ?_
  refine TC.region ?_
  refine t_assign rfl rfl ?_
  refine t_assign rfl rfl ?_
  refine TL.nil ?_
  exact TC.ret ⟨_, rfl, _, rfl, rfl⟩
end Go.Proofs
