/- What machines that are none answer. -/
import Derived.Test.YtcmjcdiaidalgaaSnJ
set_option linter.unusedVariables false
set_option linter.unusedSimpArgs false
set_option linter.unusedSectionVars false
namespace Go.Proofs
open Go.Mt Go.Mk
set_option maxRecDepth 4000
set_option linter.unusedSimpArgs false
set_option linter.unusedVariables false

theorem reset_ct (H : Hp) : CT Try.prog 19 [.d .nilp] H fun r' K' => r' = tupM [] ∧ K' = H := (CT.of_PT reset_nil).mono (by rintro _ _ ⟨⟨_, rfl, rfl⟩, rfl⟩; exact ⟨rfl, rfl⟩)
theorem step_ct (d : D) (H : Hp) : CT Try.prog 20 [.d .nilp, .d d] H fun r' K' => r' = .tup [.d (.sl []), .d (.int .i64 12)] ∧ K' = H := (CT.of_PT (step_nil d)).mono (by rintro _ _ ⟨⟨_, rfl, rfl⟩, rfl⟩; exact ⟨rfl, rfl⟩)
theorem SemErrs_true (zs : List Int) (v : D) (hv : InI .u8 zs v) (s : ByteArray) (hs : s.size ≤ maxLen) (ys : List Int) (y : D) (hy : InI .i32 ys y) : PT Try.prog 6 [v, .str s, y] (· = [.bool true]) := by
  refine PT.of_CT (CT.of_body Try.func6 rfl Try.ntmps6 rfl fun s0 Oo => ?_)
  repeat refine TC.seq ?_
  refine TC.region ?_
  refine t_assign rfl rfl ?_
  refine TL.nil ?_
  rcases Nat.lt_or_ge 300 zs.length with h1 | h1
  · repeat refine TC.seq ?_
    refine TC.region ?_
    refine t_call1 semAwake rfl rfl ?_
    refine t_not rfl rfl ?_
    refine t_move rfl rfl ?_
    refine t_guard_yes rfl ?_; refine t_move rfl rfl ?_
    refine t_guard_yes rfl ?_; refine t_lenS rfl rfl hv.1 ?_
    refine t_guard_yes rfl ?_; refine t_int rfl rfl rfl (r := .bool true) (by show some (D.bool (decide _)) = _; rw [decide_eq_true (by omega)]) ?_
    refine t_pick rfl rfl rfl ?_
    refine t_move rfl rfl ?_
    refine t_guard_no rfl rfl ?_
    refine t_guard_no rfl rfl ?_
    refine t_guard_no rfl rfl ?_
    refine t_pick rfl rfl rfl ?_
    refine TL.nil ?_
    repeat refine TC.seq ?_
    refine TC.cond rfl (fun hc => ?_) (fun hc => by cases hc)
    repeat refine TC.seq ?_
    refine TC.region ?_
    refine t_call1 semAwake rfl rfl ?_
    refine t_assign rfl rfl ?_
    refine TL.nil ?_
    exact TC.ret ⟨_, rfl, _, rfl, rfl⟩
  rcases Nat.lt_or_ge 100 ys.length with h2 | h2
  · repeat refine TC.seq ?_
    refine TC.region ?_
    refine t_call1 semAwake rfl rfl ?_
    refine t_not rfl rfl ?_
    refine t_move rfl rfl ?_
    refine t_guard_yes rfl ?_; refine t_move rfl rfl ?_
    refine t_guard_yes rfl ?_; refine t_lenS rfl rfl hv.1 ?_
    refine t_guard_yes rfl ?_; refine t_int rfl rfl rfl (r := .bool false) (by show some (D.bool (decide _)) = _; rw [decide_eq_false (by omega)]) ?_
    refine t_pick rfl rfl rfl ?_
    refine t_move rfl rfl ?_
    refine t_guard_yes rfl ?_; refine t_move rfl rfl ?_
    refine t_guard_yes rfl ?_; refine t_lenS rfl rfl hy.1 ?_
    refine t_guard_yes rfl ?_; refine t_int rfl rfl rfl (r := .bool true) (by show some (D.bool (decide _)) = _; rw [decide_eq_true (by omega)]) ?_
    refine t_pick rfl rfl rfl ?_
    refine TL.nil ?_
    repeat refine TC.seq ?_
    refine TC.cond rfl (fun hc => ?_) (fun hc => by cases hc)
    repeat refine TC.seq ?_
    refine TC.region ?_
    refine t_call1 semAwake rfl rfl ?_
    refine t_assign rfl rfl ?_
    refine TL.nil ?_
    exact TC.ret ⟨_, rfl, _, rfl, rfl⟩
  repeat refine TC.seq ?_
  refine TC.region ?_
  refine t_call1 semAwake rfl rfl ?_
  refine t_not rfl rfl ?_
  refine t_move rfl rfl ?_
  refine t_guard_yes rfl ?_; refine t_move rfl rfl ?_
  refine t_guard_yes rfl ?_; refine t_lenS rfl rfl hv.1 ?_
  refine t_guard_yes rfl ?_; refine t_int rfl rfl rfl (r := .bool false) (by show some (D.bool (decide _)) = _; rw [decide_eq_false (by omega)]) ?_
  refine t_pick rfl rfl rfl ?_
  refine t_move rfl rfl ?_
  refine t_guard_yes rfl ?_; refine t_move rfl rfl ?_
  refine t_guard_yes rfl ?_; refine t_lenS rfl rfl hy.1 ?_
  refine t_guard_yes rfl ?_; refine t_int rfl rfl rfl (r := .bool false) (by show some (D.bool (decide _)) = _; rw [decide_eq_false (by omega)]) ?_
  refine t_pick rfl rfl rfl ?_
  refine TL.nil ?_
  repeat refine TC.seq ?_
  refine TC.cond rfl (fun hc => by cases hc) (fun hc => ?_)
  refine TC.skip ?_
  repeat refine TC.seq ?_
  refine TC.region ?_
  refine t_move rfl rfl ?_
  (refine t_callR (CT.of_PT (Make_pt zs v ⟨hv, by omega⟩)) rfl rfl ?_; rintro _ _ ⟨⟨_, rfl, l, rfl, hgp⟩, rfl⟩)
  refine t_alloc rfl rfl ?_
  refine t_storeL rfl rfl rfl rfl rfl rfl ?_
  refine TL.nil ?_
  obtain ⟨hl1, hl2, hgn⟩ := hgp
  rcases nodeIx_cases l s with hix | ⟨i, hi, hix, _⟩
  · have hn := nodeR_pt [colE] l s (by omega)
    rw [hix] at hn
    repeat refine TC.seq ?_
    refine TC.region ?_
    refine t_loadLa rfl rfl rfl rfl rfl ?_
    refine t_move rfl rfl ?_
    (refine t_callR (new_no l (by omega) s hix _).ct rfl rfl ?_; rintro _ K rfl)
    refine t_move rfl rfl ?_
    refine t_extract rfl rfl rfl ?_
    refine t_extract rfl rfl rfl ?_
    refine t_assign rfl rfl ?_
    refine t_assign rfl rfl ?_
    refine TL.nil ?_
    repeat refine TC.seq ?_
    refine TC.region ?_
    refine t_loadLa rfl rfl rfl rfl rfl ?_
    refine t_move rfl rfl ?_
    refine t_call1 hn rfl rfl ?_
    refine t_int rfl rfl rfl rfl ?_
    refine t_assign rfl rfl ?_
    refine TL.nil ?_
    repeat refine TC.seq ?_
    refine TC.region ?_
    refine t_assign rfl rfl ?_
    refine TL.nil ?_
    repeat refine TC.seq ?_
    refine TC.region ?_
    refine t_move rfl rfl ?_
    refine t_callD (reset_ct _) rfl rfl ?_
    refine TL.nil ?_
    repeat refine TC.seq ?_
    refine TC.region ?_
    refine t_move rfl rfl ?_
    refine t_move rfl rfl ?_
    refine t_callD (step_ct y _) rfl rfl ?_
    refine t_move rfl rfl ?_
    refine t_extract rfl rfl rfl ?_
    refine t_extract rfl rfl rfl ?_
    refine t_assign rfl rfl ?_
    refine t_assign rfl rfl ?_
    refine TL.nil ?_
    repeat refine TC.seq ?_
    refine TC.region ?_
    refine t_move rfl rfl ?_
    refine t_move rfl rfl ?_
    refine t_int rfl rfl rfl rfl ?_
    refine t_beq rfl rfl rfl ?_
    refine t_move rfl rfl ?_
    refine t_guard_yes rfl ?_; refine t_move rfl rfl ?_
    refine t_guard_yes rfl ?_; refine t_move rfl rfl ?_
    refine t_guard_yes rfl ?_; refine t_move rfl rfl ?_
    refine t_guard_yes rfl ?_; refine t_int rfl rfl rfl rfl ?_
    refine t_guard_yes rfl ?_; refine t_move rfl rfl ?_
    refine t_guard_yes rfl ?_; refine t_move rfl rfl ?_
    refine t_guard_yes rfl ?_; refine t_eqNil (by kernel_rfl) rfl rfl rfl rfl rfl ?_
    refine t_guard_yes rfl ?_; refine t_pick rfl rfl rfl ?_
    refine t_guard_yes rfl ?_; refine t_pick rfl rfl rfl ?_
    refine t_pick rfl rfl rfl ?_
    refine t_move rfl rfl ?_
    refine t_guard_yes rfl ?_; refine t_move rfl rfl ?_
    refine t_guard_yes rfl ?_; refine t_int rfl rfl rfl rfl ?_
    refine t_pick rfl rfl rfl ?_
    refine t_move rfl rfl ?_
    refine t_guard_yes rfl ?_; refine t_move rfl rfl ?_
    refine t_guard_yes rfl ?_; refine t_lenS rfl rfl rfl ?_
    refine t_guard_yes rfl ?_; refine t_int rfl rfl rfl rfl ?_
    refine t_pick rfl rfl rfl ?_
    refine t_assign rfl rfl ?_
    refine TL.nil ?_
    exact TC.ret ⟨_, rfl, _, rfl, rfl⟩
  · obtain ⟨q1, q2, q3, q4⟩ := gn_ok (hgn i l[i] (by simp [hi]))
    have hn := nodeR_pt [colE] l s (by omega)
    rw [hix] at hn
    repeat refine TC.seq ?_
    refine TC.region ?_
    refine t_loadLa rfl rfl rfl rfl rfl ?_
    refine t_move rfl rfl ?_
    (refine t_callR (new_yes l (by omega) s i hi hix q1 q2 q3 q4 _).ct rfl rfl ?_; rintro _ K ⟨c, j, rfl, hj, hm, hmo⟩)
    refine t_move rfl rfl ?_
    refine t_extract rfl rfl rfl ?_
    refine t_extract rfl rfl rfl ?_
    refine t_assign rfl rfl ?_
    refine t_assign rfl rfl ?_
    refine TL.nil ?_
    repeat refine TC.seq ?_
    refine TC.region ?_
    refine t_loadLa rfl rfl rfl rfl rfl ?_
    refine t_move rfl rfl ?_
    refine t_call1 hn rfl rfl ?_
    (refine t_int rfl rfl rfl (r := .bool true) (by show some (D.bool (decide _)) = _; rw [decide_eq_true (by omega)]) ?_)
    refine t_assign rfl rfl ?_
    refine TL.nil ?_
    repeat refine TC.seq ?_
    refine TC.region ?_
    refine t_assign rfl rfl ?_
    refine TL.nil ?_
    repeat refine TC.seq ?_
    refine TC.region ?_
    refine t_move rfl rfl ?_
    refine t_callD (reset_ct _) rfl rfl ?_
    refine TL.nil ?_
    repeat refine TC.seq ?_
    refine TC.region ?_
    refine t_move rfl rfl ?_
    refine t_move rfl rfl ?_
    refine t_callD (step_ct y _) rfl rfl ?_
    refine t_move rfl rfl ?_
    refine t_extract rfl rfl rfl ?_
    refine t_extract rfl rfl rfl ?_
    refine t_assign rfl rfl ?_
    refine t_assign rfl rfl ?_
    refine TL.nil ?_
    repeat refine TC.seq ?_
    refine TC.region ?_
    refine t_move rfl rfl ?_
    refine t_move rfl rfl ?_
    refine t_int rfl rfl rfl rfl ?_
    refine t_beq rfl rfl rfl ?_
    refine t_move rfl rfl ?_
    refine t_guard_yes rfl ?_; refine t_move rfl rfl ?_
    refine t_guard_yes rfl ?_; refine t_move rfl rfl ?_
    refine t_guard_no rfl rfl ?_
    refine t_guard_no rfl rfl ?_
    refine t_guard_no rfl rfl ?_
    refine t_guard_no rfl rfl ?_
    refine t_guard_no rfl rfl ?_
    refine t_guard_no rfl rfl ?_
    refine t_guard_yes rfl ?_; refine t_pick rfl rfl rfl ?_
    refine t_pick rfl rfl rfl ?_
    refine t_move rfl rfl ?_
    refine t_guard_yes rfl ?_; refine t_move rfl rfl ?_
    refine t_guard_yes rfl ?_; refine t_int rfl rfl rfl rfl ?_
    refine t_pick rfl rfl rfl ?_
    refine t_move rfl rfl ?_
    refine t_guard_yes rfl ?_; refine t_move rfl rfl ?_
    refine t_guard_yes rfl ?_; refine t_lenS rfl rfl rfl ?_
    refine t_guard_yes rfl ?_; refine t_int rfl rfl rfl rfl ?_
    refine t_pick rfl rfl rfl ?_
    refine t_assign rfl rfl ?_
    refine TL.nil ?_
    exact TC.ret ⟨_, rfl, _, rfl, rfl⟩
end Go.Proofs
