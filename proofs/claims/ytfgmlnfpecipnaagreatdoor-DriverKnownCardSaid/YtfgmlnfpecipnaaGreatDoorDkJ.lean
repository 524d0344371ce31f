/- DriverKnown: the law. -/
import Derived.Test.YtfgmlnfpecipnaaGreatDoorDkG
import Derived.Test.YtfgmlnfpecipnaaGreatDoorDkI
import Derived.Test.YtfgmlnfpecipnaaGreatDoorLibI
set_option linter.unusedVariables false
set_option linter.unusedSimpArgs false
set_option linter.unusedSectionVars false
namespace Go.Proofs
open Go.Mt Go.Proofs.Dk
set_option maxRecDepth 4000
set_option linter.unusedVariables false
set_option linter.unusedSimpArgs false
theorem dkHt_ok : ∀ f ms H r H' us, dkHt f ms H = some (r, H', us) → CT Tryz.prog f ms H (fun a b => a = r ∧ b = H') ∧ Frm H H' us := by
  intro f ms H r H' us h
  unfold dkHt at h
  cases h1 : Nat.beq f 11 with
  | false => rw [h1] at h; exact dkHs_ok _ _ _ _ _ _ h
  | true =>
    rw [h1] at h
    simp only [cond_true] at h
    have e := Nat.eq_of_beq_eq_true h1
    subst e
    split at h
    · rename_i t m
      cases h2 : strEqB t tx1 with
      | true =>
        rw [h2] at h
        simp only [cond_true] at h
        have e : t = tx1 := of_decide_eq_true ((strEqB_eq _ _).symm.trans h2)
        subst e
        injection h with h
        exact evFnH_ok dkSums_ok dkHs_ok ((run_t1 m).trans (congrArg _ h))
      | false =>
        rw [h2] at h
        simp only [cond_false] at h
        cases h3 : strEqB t tx2 with
        | true =>
          rw [h3] at h
          simp only [cond_true] at h
          have e : t = tx2 := of_decide_eq_true ((strEqB_eq _ _).symm.trans h3)
          subst e
          injection h with h
          exact evFnH_ok dkSums_ok dkHs_ok ((run_t2 m).trans (congrArg _ h))
        | false => rw [h3] at h; cases h
    · cases h
theorem awake_ct (m : Int) : CT Tryz.prog 4 [] [.iter (globM 1 .i64 m 3)] fun r H => r = .d (.bool true) ∧ H = [.iter (globM 1 .i64 m 3)] :=
  (evFnH_ok dkSums_ok dkHt_ok (run_awake m)).1
theorem kn1 (n : Int) (K : Bool) (hK : ((List.range 11).any fun i => (n == ((i + 1 : Nat) : Int))) = K) : PT Tryz.prog 7 [.ifc 25 (.int .i64 n)] (· = [.bool K]) := by
  subst hK
  exact known_ok _ (fun k => n == (k : Int)) fun k => is_pt rfl rfl
theorem kn2 (n a b : Int) (s : ByteArray) (K : Bool) (hK : ((List.range 11).any fun i => (n == ((i + 1 : Nat) : Int))) = K) :
    PT Tryz.prog 7 [.ifc 53 (.pim [.int .i64 0, .int .i64 0, .str s, .bool true, .ifc 53 (.pim [.int .i64 a, .int .i64 b, .str ⟨⟨[]⟩⟩, .bool false, .ifc 25 (.int .i64 n)] 0)] 0)] (· = [.bool K]) := by
  subst hK
  exact known_ok _ (fun k => n == (k : Int)) fun k => is_pt rfl rfl
theorem kn_nil : PT Tryz.prog 7 [.nili] (· = [.bool false]) :=
  (known_ok _ (fun _ => false) fun k => is_nil_pt rfl).mono fun r h => h
theorem any_t {n : Int} (h1 : 1 ≤ n) (h2 : n ≤ 11) : ((List.range 11).any fun i => (n == ((i + 1 : Nat) : Int))) = true :=
  List.any_eq_true.2 ⟨(n - 1).toNat, List.mem_range.2 (by omega), beq_iff_eq.2 (by omega)⟩
theorem any_f {n : Int} (h : n < 1 ∨ 11 < n) : ((List.range 11).any fun i => (n == ((i + 1 : Nat) : Int))) = false := by
  rw [List.any_eq_false]
  intro k hk
  have := List.mem_range.1 hk
  rw [beq_iff_eq]
  omega
theorem law_in (m n a b : Int) (s : ByteArray) (h1 : 1 ≤ n) (hn : n ≤ 11) : CT Tryz.prog 3 [.d (.int .i64 n), .d (.agg [.int .i64 a, .int .i64 b]), .d (.str s)] [.iter (globM 1 .i64 m 3)] fun r H => r = .d (.bool true) ∧ H = [.iter (globM 1 .i64 m 3)] := by
  have k1 : PT Tryz.prog 7 [.ifc 25 (.int .i64 n)] (· = [.bool true]) := kn1 n true (any_t h1 hn)
  have k2 : n ≠ 0 → PT Tryz.prog 7 [.ifc 53 (.pim [.int .i64 0, .int .i64 0, .str s, .bool true, .ifc 53 (.pim [.int .i64 a, .int .i64 b, .str ⟨⟨[]⟩⟩, .bool false, .ifc 25 (.int .i64 n)] 0)] 0)] (· = [.bool true]) := fun _ => kn2 n a b s true (any_t h1 hn)
  refine CT.of_body Tryz.func3 rfl Tryz.ntmps3 rfl fun s0 Oo => ?_
  repeat refine TC.seq ?_
  refine TC.region ?_
  refine t_box rfl rfl ?_
  refine t_assign rfl rfl ?_
  refine TL.nil ?_
  repeat refine TC.seq ?_
  refine TC.region ?_
  refine t_callD (awake_ct m) rfl rfl ?_
  refine t_not rfl rfl ?_
  refine t_move rfl rfl ?_
  first | refine t_guard_no rfl rfl ?_ | (refine t_guard_yes rfl ?_; (refine t_move rfl rfl ?_))
  first | refine t_guard_no rfl rfl ?_ | (refine t_guard_yes rfl ?_; (refine t_lenT rfl rfl ?_))
  first | refine t_guard_no rfl rfl ?_ | (refine t_guard_yes rfl ?_; (refine t_int rfl rfl rfl rfl ?_))
  refine t_pick rfl rfl rfl ?_
  refine TL.nil ?_
  repeat refine TC.seq ?_
  refine TC.cond rfl (fun hc => ?_) (fun hc => ?_)
  · repeat refine TC.seq ?_
    refine TC.region ?_
    refine t_callD (awake_ct m) rfl rfl ?_
    refine t_assign rfl rfl ?_
    refine TL.nil ?_
    exact TC.ret ⟨_, rfl, rfl, rfl⟩
  refine TC.skip ?_
  repeat refine TC.seq ?_
  refine TC.region ?_
  refine t_move rfl rfl ?_
  refine t_assign rfl rfl ?_
  refine TL.nil ?_
  repeat refine TC.seq ?_
  refine TC.region ?_
  refine t_move rfl rfl ?_
  (refine t_int rfl rfl rfl (r := .bool true) (by show some (D.bool (decide (n ≥ 1))) = _; rw [decide_eq_true (by omega)]) ?_)
  refine t_move rfl rfl ?_
  first | refine t_guard_no rfl rfl ?_ | (refine t_guard_yes rfl ?_; (refine t_move rfl rfl ?_))
  first | refine t_guard_no rfl rfl ?_ | (refine t_guard_yes rfl ?_; ((refine t_int rfl rfl rfl (r := .bool true) (by show some (D.bool (decide (n ≤ 11))) = _; rw [decide_eq_true (by omega)]) ?_)))
  refine t_pick rfl rfl rfl ?_
  refine t_assign rfl rfl ?_
  refine TL.nil ?_
  repeat refine TC.seq ?_
  refine TC.region ?_
  refine t_move rfl rfl ?_
  first | refine t_loadDw rfl rfl rfl ?_ | refine t_loadDa rfl rfl rfl ?_ | refine t_loadLa rfl rfl rfl rfl rfl ?_ | refine t_loadRa rfl rfl rfl rfl rfl ?_
  refine t_call1 (new_ok n a b (by omega)) rfl rfl ?_
  refine t_move rfl rfl ?_
  refine t_call1 (in_ok _ _ s) rfl rfl ?_
  refine t_assign rfl rfl ?_
  refine TL.nil ?_
  repeat refine TC.seq ?_
  refine TC.region ?_
  refine t_move rfl rfl ?_
  refine t_iface rfl (by kernel_rfl) rfl ?_
  refine t_call1 k1 rfl rfl ?_
  refine t_move rfl rfl ?_
  refine t_beq rfl rfl rfl ?_
  refine t_move rfl rfl ?_
  first | refine t_guard_no rfl rfl ?_ | (refine t_guard_yes rfl ?_; (refine t_move rfl rfl ?_))
  first | refine t_guard_no rfl rfl ?_ | (refine t_guard_yes rfl ?_; ((refine t_int rfl rfl rfl (r := .bool false) (by show some (D.bool (decide (n = 0))) = _; rw [decide_eq_false (by omega)]) ?_)))
  first | refine t_guard_no rfl rfl ?_ | (refine t_guard_yes rfl ?_; (refine t_move rfl rfl ?_))
  first | refine t_guard_no rfl rfl ?_ | (refine t_guard_yes rfl ?_; (refine t_move rfl rfl ?_))
  first | refine t_guard_no rfl rfl ?_ | (refine t_guard_yes rfl ?_; (refine t_call1 (k2 (by omega)) rfl rfl ?_))
  first | refine t_guard_no rfl rfl ?_ | (refine t_guard_yes rfl ?_; (refine t_move rfl rfl ?_))
  first | refine t_guard_no rfl rfl ?_ | (refine t_guard_yes rfl ?_; (refine t_beq rfl rfl rfl ?_))
  first | refine t_guard_no rfl rfl ?_ | (refine t_guard_yes rfl ?_; (refine t_pick rfl rfl rfl ?_))
  refine t_pick rfl rfl rfl ?_
  refine t_move rfl rfl ?_
  first | refine t_guard_no rfl rfl ?_ | (refine t_guard_yes rfl ?_; (refine t_call1 kn_nil rfl rfl ?_))
  first | refine t_guard_no rfl rfl ?_ | (refine t_guard_yes rfl ?_; (refine t_not rfl rfl ?_))
  refine t_pick rfl rfl rfl ?_
  refine t_assign rfl rfl ?_
  refine TL.nil ?_
  exact TC.ret ⟨_, rfl, rfl, rfl⟩
theorem law_zero (m n a b : Int) (s : ByteArray)  (hn : n = 0) : CT Tryz.prog 3 [.d (.int .i64 n), .d (.agg [.int .i64 a, .int .i64 b]), .d (.str s)] [.iter (globM 1 .i64 m 3)] fun r H => r = .d (.bool true) ∧ H = [.iter (globM 1 .i64 m 3)] := by
  have k1 : PT Tryz.prog 7 [.ifc 25 (.int .i64 n)] (· = [.bool false]) := kn1 n false (any_f (by omega))
  have k2 : n ≠ 0 → PT Tryz.prog 7 [.ifc 53 (.pim [.int .i64 0, .int .i64 0, .str s, .bool true, .ifc 53 (.pim [.int .i64 a, .int .i64 b, .str ⟨⟨[]⟩⟩, .bool false, .ifc 25 (.int .i64 n)] 0)] 0)] (· = [.bool false]) := fun _ => kn2 n a b s false (any_f (by omega))
  refine CT.of_body Tryz.func3 rfl Tryz.ntmps3 rfl fun s0 Oo => ?_
  repeat refine TC.seq ?_
  refine TC.region ?_
  refine t_box rfl rfl ?_
  refine t_assign rfl rfl ?_
  refine TL.nil ?_
  repeat refine TC.seq ?_
  refine TC.region ?_
  refine t_callD (awake_ct m) rfl rfl ?_
  refine t_not rfl rfl ?_
  refine t_move rfl rfl ?_
  first | refine t_guard_no rfl rfl ?_ | (refine t_guard_yes rfl ?_; (refine t_move rfl rfl ?_))
  first | refine t_guard_no rfl rfl ?_ | (refine t_guard_yes rfl ?_; (refine t_lenT rfl rfl ?_))
  first | refine t_guard_no rfl rfl ?_ | (refine t_guard_yes rfl ?_; (refine t_int rfl rfl rfl rfl ?_))
  refine t_pick rfl rfl rfl ?_
  refine TL.nil ?_
  repeat refine TC.seq ?_
  refine TC.cond rfl (fun hc => ?_) (fun hc => ?_)
  · repeat refine TC.seq ?_
    refine TC.region ?_
    refine t_callD (awake_ct m) rfl rfl ?_
    refine t_assign rfl rfl ?_
    refine TL.nil ?_
    exact TC.ret ⟨_, rfl, rfl, rfl⟩
  refine TC.skip ?_
  repeat refine TC.seq ?_
  refine TC.region ?_
  refine t_move rfl rfl ?_
  refine t_assign rfl rfl ?_
  refine TL.nil ?_
  repeat refine TC.seq ?_
  refine TC.region ?_
  refine t_move rfl rfl ?_
  (refine t_int rfl rfl rfl (r := .bool false) (by show some (D.bool (decide (n ≥ 1))) = _; rw [decide_eq_false (by omega)]) ?_)
  refine t_move rfl rfl ?_
  first | refine t_guard_no rfl rfl ?_ | (refine t_guard_yes rfl ?_; (refine t_move rfl rfl ?_))
  first | refine t_guard_no rfl rfl ?_ | (refine t_guard_yes rfl ?_; ((refine t_int rfl rfl rfl (r := .bool false) (by show some (D.bool (decide (n ≤ 11))) = _; rw [decide_eq_false (by omega)]) ?_)))
  refine t_pick rfl rfl rfl ?_
  refine t_assign rfl rfl ?_
  refine TL.nil ?_
  repeat refine TC.seq ?_
  refine TC.region ?_
  refine t_move rfl rfl ?_
  first | refine t_loadDw rfl rfl rfl ?_ | refine t_loadDa rfl rfl rfl ?_ | refine t_loadLa rfl rfl rfl rfl rfl ?_ | refine t_loadRa rfl rfl rfl rfl rfl ?_
  refine t_call1 (hn ▸ new_nil a b) rfl rfl ?_
  refine t_move rfl rfl ?_
  refine t_call1 (in_nil s) rfl rfl ?_
  refine t_assign rfl rfl ?_
  refine TL.nil ?_
  repeat refine TC.seq ?_
  refine TC.region ?_
  refine t_move rfl rfl ?_
  refine t_iface rfl (by kernel_rfl) rfl ?_
  refine t_call1 k1 rfl rfl ?_
  refine t_move rfl rfl ?_
  refine t_beq rfl rfl rfl ?_
  refine t_move rfl rfl ?_
  first | refine t_guard_no rfl rfl ?_ | (refine t_guard_yes rfl ?_; (refine t_move rfl rfl ?_))
  first | refine t_guard_no rfl rfl ?_ | (refine t_guard_yes rfl ?_; ((refine t_int rfl rfl rfl (r := .bool true) (by show some (D.bool (decide (n = 0))) = _; rw [decide_eq_true (by omega)]) ?_)))
  first | refine t_guard_no rfl rfl ?_ | (refine t_guard_yes rfl ?_; (refine t_move rfl rfl ?_))
  first | refine t_guard_no rfl rfl ?_ | (refine t_guard_yes rfl ?_; (refine t_move rfl rfl ?_))
  first | refine t_guard_no rfl rfl ?_ | (refine t_guard_yes rfl ?_; (refine t_call1 (k2 (by omega)) rfl rfl ?_))
  first | refine t_guard_no rfl rfl ?_ | (refine t_guard_yes rfl ?_; (refine t_move rfl rfl ?_))
  first | refine t_guard_no rfl rfl ?_ | (refine t_guard_yes rfl ?_; (refine t_beq rfl rfl rfl ?_))
  first | refine t_guard_no rfl rfl ?_ | (refine t_guard_yes rfl ?_; (refine t_pick rfl rfl rfl ?_))
  refine t_pick rfl rfl rfl ?_
  refine t_move rfl rfl ?_
  first | refine t_guard_no rfl rfl ?_ | (refine t_guard_yes rfl ?_; (refine t_call1 kn_nil rfl rfl ?_))
  first | refine t_guard_no rfl rfl ?_ | (refine t_guard_yes rfl ?_; (refine t_not rfl rfl ?_))
  refine t_pick rfl rfl rfl ?_
  refine t_assign rfl rfl ?_
  refine TL.nil ?_
  exact TC.ret ⟨_, rfl, rfl, rfl⟩
theorem law_low (m n a b : Int) (s : ByteArray) (h1 : n ≠ 0) (hn : n < 1) : CT Tryz.prog 3 [.d (.int .i64 n), .d (.agg [.int .i64 a, .int .i64 b]), .d (.str s)] [.iter (globM 1 .i64 m 3)] fun r H => r = .d (.bool true) ∧ H = [.iter (globM 1 .i64 m 3)] := by
  have k1 : PT Tryz.prog 7 [.ifc 25 (.int .i64 n)] (· = [.bool false]) := kn1 n false (any_f (by omega))
  have k2 : n ≠ 0 → PT Tryz.prog 7 [.ifc 53 (.pim [.int .i64 0, .int .i64 0, .str s, .bool true, .ifc 53 (.pim [.int .i64 a, .int .i64 b, .str ⟨⟨[]⟩⟩, .bool false, .ifc 25 (.int .i64 n)] 0)] 0)] (· = [.bool false]) := fun _ => kn2 n a b s false (any_f (by omega))
  refine CT.of_body Tryz.func3 rfl Tryz.ntmps3 rfl fun s0 Oo => ?_
  repeat refine TC.seq ?_
  refine TC.region ?_
  refine t_box rfl rfl ?_
  refine t_assign rfl rfl ?_
  refine TL.nil ?_
  repeat refine TC.seq ?_
  refine TC.region ?_
  refine t_callD (awake_ct m) rfl rfl ?_
  refine t_not rfl rfl ?_
  refine t_move rfl rfl ?_
  first | refine t_guard_no rfl rfl ?_ | (refine t_guard_yes rfl ?_; (refine t_move rfl rfl ?_))
  first | refine t_guard_no rfl rfl ?_ | (refine t_guard_yes rfl ?_; (refine t_lenT rfl rfl ?_))
  first | refine t_guard_no rfl rfl ?_ | (refine t_guard_yes rfl ?_; (refine t_int rfl rfl rfl rfl ?_))
  refine t_pick rfl rfl rfl ?_
  refine TL.nil ?_
  repeat refine TC.seq ?_
  refine TC.cond rfl (fun hc => ?_) (fun hc => ?_)
  · repeat refine TC.seq ?_
    refine TC.region ?_
    refine t_callD (awake_ct m) rfl rfl ?_
    refine t_assign rfl rfl ?_
    refine TL.nil ?_
    exact TC.ret ⟨_, rfl, rfl, rfl⟩
  refine TC.skip ?_
  repeat refine TC.seq ?_
  refine TC.region ?_
  refine t_move rfl rfl ?_
  refine t_assign rfl rfl ?_
  refine TL.nil ?_
  repeat refine TC.seq ?_
  refine TC.region ?_
  refine t_move rfl rfl ?_
  (refine t_int rfl rfl rfl (r := .bool false) (by show some (D.bool (decide (n ≥ 1))) = _; rw [decide_eq_false (by omega)]) ?_)
  refine t_move rfl rfl ?_
  first | refine t_guard_no rfl rfl ?_ | (refine t_guard_yes rfl ?_; (refine t_move rfl rfl ?_))
  first | refine t_guard_no rfl rfl ?_ | (refine t_guard_yes rfl ?_; ((refine t_int rfl rfl rfl (r := .bool false) (by show some (D.bool (decide (n ≤ 11))) = _; rw [decide_eq_false (by omega)]) ?_)))
  refine t_pick rfl rfl rfl ?_
  refine t_assign rfl rfl ?_
  refine TL.nil ?_
  repeat refine TC.seq ?_
  refine TC.region ?_
  refine t_move rfl rfl ?_
  first | refine t_loadDw rfl rfl rfl ?_ | refine t_loadDa rfl rfl rfl ?_ | refine t_loadLa rfl rfl rfl rfl rfl ?_ | refine t_loadRa rfl rfl rfl rfl rfl ?_
  refine t_call1 (new_ok n a b (by omega)) rfl rfl ?_
  refine t_move rfl rfl ?_
  refine t_call1 (in_ok _ _ s) rfl rfl ?_
  refine t_assign rfl rfl ?_
  refine TL.nil ?_
  repeat refine TC.seq ?_
  refine TC.region ?_
  refine t_move rfl rfl ?_
  refine t_iface rfl (by kernel_rfl) rfl ?_
  refine t_call1 k1 rfl rfl ?_
  refine t_move rfl rfl ?_
  refine t_beq rfl rfl rfl ?_
  refine t_move rfl rfl ?_
  first | refine t_guard_no rfl rfl ?_ | (refine t_guard_yes rfl ?_; (refine t_move rfl rfl ?_))
  first | refine t_guard_no rfl rfl ?_ | (refine t_guard_yes rfl ?_; ((refine t_int rfl rfl rfl (r := .bool false) (by show some (D.bool (decide (n = 0))) = _; rw [decide_eq_false (by omega)]) ?_)))
  first | refine t_guard_no rfl rfl ?_ | (refine t_guard_yes rfl ?_; (refine t_move rfl rfl ?_))
  first | refine t_guard_no rfl rfl ?_ | (refine t_guard_yes rfl ?_; (refine t_move rfl rfl ?_))
  first | refine t_guard_no rfl rfl ?_ | (refine t_guard_yes rfl ?_; (refine t_call1 (k2 (by omega)) rfl rfl ?_))
  first | refine t_guard_no rfl rfl ?_ | (refine t_guard_yes rfl ?_; (refine t_move rfl rfl ?_))
  first | refine t_guard_no rfl rfl ?_ | (refine t_guard_yes rfl ?_; (refine t_beq rfl rfl rfl ?_))
  first | refine t_guard_no rfl rfl ?_ | (refine t_guard_yes rfl ?_; (refine t_pick rfl rfl rfl ?_))
  refine t_pick rfl rfl rfl ?_
  refine t_move rfl rfl ?_
  first | refine t_guard_no rfl rfl ?_ | (refine t_guard_yes rfl ?_; (refine t_call1 kn_nil rfl rfl ?_))
  first | refine t_guard_no rfl rfl ?_ | (refine t_guard_yes rfl ?_; (refine t_not rfl rfl ?_))
  refine t_pick rfl rfl rfl ?_
  refine t_assign rfl rfl ?_
  refine TL.nil ?_
  exact TC.ret ⟨_, rfl, rfl, rfl⟩
theorem law_high (m n a b : Int) (s : ByteArray)  (hn : 11 < n) : CT Tryz.prog 3 [.d (.int .i64 n), .d (.agg [.int .i64 a, .int .i64 b]), .d (.str s)] [.iter (globM 1 .i64 m 3)] fun r H => r = .d (.bool true) ∧ H = [.iter (globM 1 .i64 m 3)] := by
  have k1 : PT Tryz.prog 7 [.ifc 25 (.int .i64 n)] (· = [.bool false]) := kn1 n false (any_f (by omega))
  have k2 : n ≠ 0 → PT Tryz.prog 7 [.ifc 53 (.pim [.int .i64 0, .int .i64 0, .str s, .bool true, .ifc 53 (.pim [.int .i64 a, .int .i64 b, .str ⟨⟨[]⟩⟩, .bool false, .ifc 25 (.int .i64 n)] 0)] 0)] (· = [.bool false]) := fun _ => kn2 n a b s false (any_f (by omega))
  refine CT.of_body Tryz.func3 rfl Tryz.ntmps3 rfl fun s0 Oo => ?_
  repeat refine TC.seq ?_
  refine TC.region ?_
  refine t_box rfl rfl ?_
  refine t_assign rfl rfl ?_
  refine TL.nil ?_
  repeat refine TC.seq ?_
  refine TC.region ?_
  refine t_callD (awake_ct m) rfl rfl ?_
  refine t_not rfl rfl ?_
  refine t_move rfl rfl ?_
  first | refine t_guard_no rfl rfl ?_ | (refine t_guard_yes rfl ?_; (refine t_move rfl rfl ?_))
  first | refine t_guard_no rfl rfl ?_ | (refine t_guard_yes rfl ?_; (refine t_lenT rfl rfl ?_))
  first | refine t_guard_no rfl rfl ?_ | (refine t_guard_yes rfl ?_; (refine t_int rfl rfl rfl rfl ?_))
  refine t_pick rfl rfl rfl ?_
  refine TL.nil ?_
  repeat refine TC.seq ?_
  refine TC.cond rfl (fun hc => ?_) (fun hc => ?_)
  · repeat refine TC.seq ?_
    refine TC.region ?_
    refine t_callD (awake_ct m) rfl rfl ?_
    refine t_assign rfl rfl ?_
    refine TL.nil ?_
    exact TC.ret ⟨_, rfl, rfl, rfl⟩
  refine TC.skip ?_
  repeat refine TC.seq ?_
  refine TC.region ?_
  refine t_move rfl rfl ?_
  refine t_assign rfl rfl ?_
  refine TL.nil ?_
  repeat refine TC.seq ?_
  refine TC.region ?_
  refine t_move rfl rfl ?_
  (refine t_int rfl rfl rfl (r := .bool true) (by show some (D.bool (decide (n ≥ 1))) = _; rw [decide_eq_true (by omega)]) ?_)
  refine t_move rfl rfl ?_
  first | refine t_guard_no rfl rfl ?_ | (refine t_guard_yes rfl ?_; (refine t_move rfl rfl ?_))
  first | refine t_guard_no rfl rfl ?_ | (refine t_guard_yes rfl ?_; ((refine t_int rfl rfl rfl (r := .bool false) (by show some (D.bool (decide (n ≤ 11))) = _; rw [decide_eq_false (by omega)]) ?_)))
  refine t_pick rfl rfl rfl ?_
  refine t_assign rfl rfl ?_
  refine TL.nil ?_
  repeat refine TC.seq ?_
  refine TC.region ?_
  refine t_move rfl rfl ?_
  first | refine t_loadDw rfl rfl rfl ?_ | refine t_loadDa rfl rfl rfl ?_ | refine t_loadLa rfl rfl rfl rfl rfl ?_ | refine t_loadRa rfl rfl rfl rfl rfl ?_
  refine t_call1 (new_ok n a b (by omega)) rfl rfl ?_
  refine t_move rfl rfl ?_
  refine t_call1 (in_ok _ _ s) rfl rfl ?_
  refine t_assign rfl rfl ?_
  refine TL.nil ?_
  repeat refine TC.seq ?_
  refine TC.region ?_
  refine t_move rfl rfl ?_
  refine t_iface rfl (by kernel_rfl) rfl ?_
  refine t_call1 k1 rfl rfl ?_
  refine t_move rfl rfl ?_
  refine t_beq rfl rfl rfl ?_
  refine t_move rfl rfl ?_
  first | refine t_guard_no rfl rfl ?_ | (refine t_guard_yes rfl ?_; (refine t_move rfl rfl ?_))
  first | refine t_guard_no rfl rfl ?_ | (refine t_guard_yes rfl ?_; ((refine t_int rfl rfl rfl (r := .bool false) (by show some (D.bool (decide (n = 0))) = _; rw [decide_eq_false (by omega)]) ?_)))
  first | refine t_guard_no rfl rfl ?_ | (refine t_guard_yes rfl ?_; (refine t_move rfl rfl ?_))
  first | refine t_guard_no rfl rfl ?_ | (refine t_guard_yes rfl ?_; (refine t_move rfl rfl ?_))
  first | refine t_guard_no rfl rfl ?_ | (refine t_guard_yes rfl ?_; (refine t_call1 (k2 (by omega)) rfl rfl ?_))
  first | refine t_guard_no rfl rfl ?_ | (refine t_guard_yes rfl ?_; (refine t_move rfl rfl ?_))
  first | refine t_guard_no rfl rfl ?_ | (refine t_guard_yes rfl ?_; (refine t_beq rfl rfl rfl ?_))
  first | refine t_guard_no rfl rfl ?_ | (refine t_guard_yes rfl ?_; (refine t_pick rfl rfl rfl ?_))
  refine t_pick rfl rfl rfl ?_
  refine t_move rfl rfl ?_
  first | refine t_guard_no rfl rfl ?_ | (refine t_guard_yes rfl ?_; (refine t_call1 kn_nil rfl rfl ?_))
  first | refine t_guard_no rfl rfl ?_ | (refine t_guard_yes rfl ?_; (refine t_not rfl rfl ?_))
  refine t_pick rfl rfl rfl ?_
  refine t_assign rfl rfl ?_
  refine TL.nil ?_
  exact TC.ret ⟨_, rfl, rfl, rfl⟩
theorem law_ct (m n a b : Int) (s : ByteArray) : CT Tryz.prog 3 [.d (.int .i64 n), .d (.agg [.int .i64 a, .int .i64 b]), .d (.str s)] [.iter (globM 1 .i64 m 3)] fun r H => r = .d (.bool true) ∧ H = [.iter (globM 1 .i64 m 3)] := by
  rcases Int.lt_trichotomy n 0 with h | h | h
  · exact law_low m n a b s (by omega) (by omega)
  · exact law_zero m n a b s h
  · by_cases h2 : n ≤ 11
    · exact law_in m n a b s (by omega) h2
    · exact law_high m n a b s (by omega)
end Go.Proofs
