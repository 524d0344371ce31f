/- Small lists that are sorted already are left as they are; the edges of the node. -/
import Derived.Test.YtcmjcdiaidalgaaGrG
import Derived.Test.YtcmjcdiaidalgaaLibI
namespace Go.Proofs
open Go.Mt
set_option maxRecDepth 4000
set_option linter.unusedSimpArgs false
set_option linter.unusedVariables false

theorem nan_ok (x : Int) : PT Try.prog 124 [.int .i64 x] (· = [.bool false]) := by
  refine PT.of_CT (CT.of_body Try.func124 rfl Try.ntmps124 rfl fun s0 Oo => ?_)
  have e : (x != x) = false := by simp
  repeat refine TC.seq ?_
  refine TC.region ?_
  refine t_assign rfl rfl ?_
  refine TL.nil ?_
  repeat refine TC.seq ?_
  refine TC.region ?_
  refine t_move rfl rfl ?_
  refine t_move rfl rfl ?_
  (refine t_int rfl rfl rfl rfl ?_; rw [e])
  refine t_assign rfl rfl ?_
  refine TL.nil ?_
  exact TC.ret ⟨_, rfl, [_], rfl, rfl⟩
theorem less_ok (x y : Int) : PT Try.prog 95 [.int .i64 x, .int .i64 y] (· = [.bool (decide (x < y))]) := by
  refine PT.of_CT (CT.of_body Try.func95 rfl Try.ntmps95 rfl fun s0 Oo => ?_)
  repeat refine TC.seq ?_
  refine TC.region ?_
  refine t_assign rfl rfl ?_
  refine TL.nil ?_
  repeat refine TC.seq ?_
  refine TC.region ?_
  refine t_move rfl rfl ?_
  refine t_call1 (nan_ok x) rfl rfl ?_
  refine t_move rfl rfl ?_
  first | refine t_guard_no rfl rfl ?_ | (refine t_guard_yes rfl ?_; (refine t_move rfl rfl ?_))
  first | refine t_guard_no rfl rfl ?_ | (refine t_guard_yes rfl ?_; (refine t_call1 (nan_ok y) rfl rfl ?_))
  first | refine t_guard_no rfl rfl ?_ | (refine t_guard_yes rfl ?_; (refine t_not rfl rfl ?_))
  refine t_pick rfl rfl rfl ?_
  refine t_move rfl rfl ?_
  first | refine t_guard_no rfl rfl ?_ | (refine t_guard_yes rfl ?_; (refine t_move rfl rfl ?_))
  first | refine t_guard_no rfl rfl ?_ | (refine t_guard_yes rfl ?_; (refine t_move rfl rfl ?_))
  first | refine t_guard_no rfl rfl ?_ | (refine t_guard_yes rfl ?_; (refine t_int rfl rfl rfl rfl ?_))
  refine t_pick rfl rfl rfl ?_
  refine t_assign rfl rfl ?_
  refine TL.nil ?_
  exact TC.ret ⟨_, rfl, [_], rfl, rfl⟩
theorem ins_ok (ns : List Nat) (hs : ns.Pairwise (· < ·)) (hl : ns.length ≤ 12) : PT Try.prog 89 [.sl (natsR ns), .int .i64 0, .int .i64 (ns.length : Nat)] (· = []) := by
  refine PT.of_CT (CT.of_body Try.func89 rfl Try.ntmps89 rfl fun s0 Oo => ?_)
  repeat refine TC.seq ?_
  refine TC.region ?_
  refine t_move rfl rfl ?_
  refine t_add64 rfl rfl rfl (by omega) ?_
  refine t_assign rfl rfl ?_
  refine TL.nil ?_
  repeat refine TC.seq ?_
  refine TC.block ?_
  refine TC.loopB (fun k s => ∃ i : Nat, s = ⟨[(6, .m (.d (.int .i64 i))), (0, .m (.d (.sl (natsR ns)))), (1, .m (.d (.int .i64 0))), (2, .m (.d (.int .i64 (ns.length : Nat))))], [], []⟩ ∧ 1 ≤ i ∧ k = 13 - i ∧ i ≤ 13) 12 _
    ⟨1, rfl, by omega, by omega, by omega⟩ ⟨rfl, rfl, rfl, rfl, trivial⟩ ?_
  rintro k s ⟨i, rfl, hi, rfl, hi2⟩
  repeat refine TC.seq ?_
  refine TC.region ?_
  refine t_move rfl rfl ?_
  refine t_move rfl rfl ?_
  refine t_int rfl rfl rfl rfl ?_
  refine TL.nil ?_
  repeat refine TC.seq ?_
  refine TC.cond rfl (fun hc => ?_) (fun hc => ?_)
  · have hc' : i < ns.length := by have := of_decide_eq_true hc; omega
    clear hc
    refine TC.skip ?_
    repeat refine TC.seq ?_
    refine TC.block ?_
    repeat refine TC.seq ?_
    refine TC.region ?_
    refine t_move rfl rfl ?_
    refine t_assign rfl rfl ?_
    refine TL.nil ?_
    repeat refine TC.seq ?_
    refine TC.block ?_
    refine TC.loopB (fun k0 s1 => s1 = ⟨[(7, .m (.d (.int .i64 i))), (6, .m (.d (.int .i64 i))), (0, .m (.d (.sl (natsR ns)))), (1, .m (.d (.int .i64 0))), (2, .m (.d (.int .i64 (ns.length : Nat))))], [], []⟩ ∧ k0 = 0) 0 _ ⟨rfl, rfl⟩ ⟨rfl, rfl, rfl, rfl, rfl, trivial⟩ ?_
    rintro k0 s1 ⟨rfl, rfl⟩
    have h1 : decide ((i : Int) > 0) = true := decide_eq_true (by omega)
    have h2 : (i : Int) - 1 = ((i - 1 : Nat) : Int) := by omega
    have h3 : decide ((ns[i] : Int) < (ns[i - 1] : Int)) = false := by
      rw [List.pairwise_iff_getElem] at hs
      have := hs (i - 1) i (by omega) hc' (by omega)
      exact decide_eq_false (by omega)
    repeat refine TC.seq ?_
    refine TC.draw mixed ?_
    refine f_move rfl rfl ?_
    refine f_move rfl rfl ?_
    (refine f_int rfl rfl rfl (r := .bool true) (by show some (D.bool (decide _)) = _; rw [h1]) ?_)
    refine f_move rfl rfl ?_
    first | refine f_guard_no rfl rfl rfl rfl ?_ | refine f_guard_un rfl rfl rfl ?_ | (refine f_guard_yes rfl rfl ?_; (refine f_move rfl rfl ?_))
    first | refine f_guard_no rfl rfl rfl rfl ?_ | refine f_guard_un rfl rfl rfl ?_ | (refine f_guard_yes rfl rfl ?_; (refine f_move rfl rfl ?_))
    first | refine f_guard_no rfl rfl rfl rfl ?_ | refine f_guard_un rfl rfl rfl ?_ | (refine f_guard_yes rfl rfl ?_; (refine f_indexD rfl rfl rfl (Int.natCast_nonneg i) (natsR_get hc') rfl ?_))
    first | refine f_guard_no rfl rfl rfl rfl ?_ | refine f_guard_un rfl rfl rfl ?_ | (refine f_guard_yes rfl rfl ?_; (first | refine f_loadDc rfl rfl rfl ?_ | refine f_loadLc rfl rfl rfl rfl ?_ | refine f_loadRc rfl rfl rfl rfl ?_))
    first | refine f_guard_no rfl rfl rfl rfl ?_ | refine f_guard_un rfl rfl rfl ?_ | (refine f_guard_yes rfl rfl ?_; (refine f_move rfl rfl ?_))
    first | refine f_guard_no rfl rfl rfl rfl ?_ | refine f_guard_un rfl rfl rfl ?_ | (refine f_guard_yes rfl rfl ?_; (refine f_move rfl rfl ?_))
    first | refine f_guard_no rfl rfl rfl rfl ?_ | refine f_guard_un rfl rfl rfl ?_ | (refine f_guard_yes rfl rfl ?_; ((refine f_sub64 rfl rfl rfl (by omega) ?_; rw [h2])))
    first | refine f_guard_no rfl rfl rfl rfl ?_ | refine f_guard_un rfl rfl rfl ?_ | (refine f_guard_yes rfl rfl ?_; (refine f_indexD rfl rfl rfl (Int.natCast_nonneg (i - 1)) (natsR_get (by omega : i - 1 < ns.length)) rfl ?_))
    first | refine f_guard_no rfl rfl rfl rfl ?_ | refine f_guard_un rfl rfl rfl ?_ | (refine f_guard_yes rfl rfl ?_; (first | refine f_loadDc rfl rfl rfl ?_ | refine f_loadLc rfl rfl rfl rfl ?_ | refine f_loadRc rfl rfl rfl rfl ?_))
    first | refine f_guard_no rfl rfl rfl rfl ?_ | refine f_guard_un rfl rfl rfl ?_ | (refine f_guard_yes rfl rfl ?_; ((refine f_call1 (less_ok _ _) rfl rfl ?_; rw [h3])))
    refine f_pick rfl rfl rfl ?_
    refine TF.nil ⟨by kernel_rfl, ?_⟩
    repeat refine TC.seq ?_
    refine TC.cond rfl (fun hc => by cases hc) (fun hc => ?_)
    refine TC.exit ?_
    repeat refine TC.seq ?_
    refine TC.region ?_
    refine t_move rfl rfl ?_
    refine t_add64 rfl rfl rfl (by omega) ?_
    refine t_assign rfl rfl ?_
    refine TL.nil ?_
    exact again (k' := 13 - (i + 1)) (by omega) ⟨i + 1, rfl, by omega, rfl, by omega⟩ rfl ⟨by simp; rfl, rfl, rfl, rfl, trivial⟩
  · refine TC.exit ?_
    exact ⟨_, rfl, [], rfl, rfl⟩
theorem bits_ok (n : Nat) (hn : n ≤ 12) : ∃ r : Int, PT Try.prog 67 [.int .u64 (IntKind.u64.wrap (n : Int))] (· = [.int .i64 r]) := by
  have key : ∀ (m : Nat) (r : Int), chkD (evFn Try.prog noSums (fun _ => false) (fun _ _ => 0) 100 100 67 [.d (.int .u64 (IntKind.u64.wrap (m : Int)))] []) = some [.int .i64 r] → ∃ r : Int, PT Try.prog 67 [.int .u64 (IntKind.u64.wrap (m : Int))] (· = [.int .i64 r]) :=
    fun m r h => ⟨r, PT.of_chkD noSums_ok (heapF := fun _ => false) (hint := fun _ _ => 0) (rounds := 100) (k := 100) (ds := [.int .u64 (IntKind.u64.wrap (m : Int))]) h⟩
  have hc : n = 0 ∨ n = 1 ∨ n = 2 ∨ n = 3 ∨ n = 4 ∨ n = 5 ∨ n = 6 ∨ n = 7 ∨ n = 8 ∨ n = 9 ∨ n = 10 ∨ n = 11 ∨ n = 12 := by omega
  rcases hc with rfl | rfl | rfl | rfl | rfl | rfl | rfl | rfl | rfl | rfl | rfl | rfl | rfl
  · exact key 0 0 (by kernel_rfl)
  · exact key 1 1 (by kernel_rfl)
  · exact key 2 2 (by kernel_rfl)
  · exact key 3 2 (by kernel_rfl)
  · exact key 4 3 (by kernel_rfl)
  · exact key 5 3 (by kernel_rfl)
  · exact key 6 3 (by kernel_rfl)
  · exact key 7 3 (by kernel_rfl)
  · exact key 8 4 (by kernel_rfl)
  · exact key 9 4 (by kernel_rfl)
  · exact key 10 4 (by kernel_rfl)
  · exact key 11 4 (by kernel_rfl)
  · exact key 12 4 (by kernel_rfl)
instance : IsFn Try.prog 67 := isFn_of (by kernel_rfl)
theorem pdq_ok (ns : List Nat) (hs : ns.Pairwise (· < ·)) (hl : ns.length ≤ 12) (r : Int) : PT Try.prog 66 [.sl (natsR ns), .int .i64 0, .int .i64 (ns.length : Nat), .int .i64 r] (· = []) := by
  refine PT.of_CT (CT.of_body Try.func66 rfl Try.ntmps66 rfl fun s0 Oo => ?_)
  have h1 : decide ((ns.length : Int) - 0 ≤ 12) = true := decide_eq_true (by omega)
  repeat refine TC.seq ?_
  refine TC.region ?_
  refine t_assign rfl rfl ?_
  refine TL.nil ?_
  repeat refine TC.seq ?_
  refine TC.region ?_
  refine t_assign rfl rfl ?_
  refine TL.nil ?_
  repeat refine TC.seq ?_
  refine TC.block ?_
  refine TC.loopB (fun k0 s1 => s1 = ⟨[(0, .m (.d (.sl (natsR ns)))), (1, .m (.d (.int .i64 0))), (2, .m (.d (.int .i64 (ns.length : Nat)))), (3, .m (.d (.int .i64 r)))], [], []⟩ ∧ k0 = 0) 0 _ ⟨rfl, rfl⟩ ⟨rfl, rfl, rfl, rfl, trivial⟩ ?_
  rintro k0 s1 ⟨rfl, rfl⟩
  refine TC.block ?_
  repeat refine TC.seq ?_
  refine TC.region ?_
  refine t_move rfl rfl ?_
  refine t_move rfl rfl ?_
  refine t_sub64 rfl rfl rfl (by omega) ?_
  refine t_assign rfl rfl ?_
  refine TL.nil ?_
  repeat refine TC.seq ?_
  refine TC.region ?_
  refine t_move rfl rfl ?_
  (refine t_int rfl rfl rfl (r := .bool true) (by show some (D.bool (decide _)) = _; rw [h1]) ?_)
  refine TL.nil ?_
  repeat refine TC.seq ?_
  refine TC.cond rfl (fun hc => ?_) (fun hc => by cases hc)
  repeat refine TC.seq ?_
  refine TC.region ?_
  refine t_move rfl rfl ?_
  refine t_move rfl rfl ?_
  refine t_move rfl rfl ?_
  (refine t_callR (CT.of_PT (ins_ok ns hs hl)) rfl rfl ?_; rintro _ _ ⟨⟨_, rfl, rfl⟩, rfl⟩)
  refine TL.nil ?_
  exact TC.ret ⟨_, rfl, [], rfl, rfl⟩
theorem sort_ok (ns : List Nat) (hs : ns.Pairwise (· < ·)) (hl : ns.length ≤ 12) : PT Try.prog 44 [.sl (natsR ns)] (· = []) := by
  obtain ⟨r, hb⟩ := bits_ok ns.length hl
  refine PT.of_CT (CT.of_body Try.func44 rfl Try.ntmps44 rfl fun s0 Oo => ?_)
  repeat refine TC.seq ?_
  refine TC.region ?_
  refine t_move rfl rfl ?_
  (refine t_lenS rfl rfl rfl ?_; rw [natsR_len])
  refine t_assign rfl rfl ?_
  refine TL.nil ?_
  repeat refine TC.seq ?_
  refine TC.region ?_
  refine t_move rfl rfl ?_
  refine t_move rfl rfl ?_
  refine t_move rfl rfl ?_
  refine t_convI rfl rfl ?_
  refine t_call1 hb rfl rfl ?_
  (refine t_callR (CT.of_PT (pdq_ok ns hs hl r)) rfl rfl ?_; rintro _ _ ⟨⟨_, rfl, rfl⟩, rfl⟩)
  refine TL.nil ?_
  exact ⟨_, rfl, [], rfl, rfl⟩
end Go.Proofs
