/- What the run is told of the library's functions: errors.Is, IndexByte, Clone of nothing, maps.Clone, Contains. -/
import Derived.Test.YtfgmlnfpecipnaaGreatDoorDkA
import Derived.Test.YtfgmlnfpecipnaaGreatDoorDkC
import Derived.Test.YtfgmlnfpecipnaaGreatDoorDkD
import Derived.Test.YtfgmlnfpecipnaaGreatDoorMtInst7
import Derived.Test.YtfgmlnfpecipnaaGreatDoorLibI
import Derived.KernelRfl
set_option linter.unusedVariables false
set_option linter.unusedSimpArgs false
set_option linter.unusedSectionVars false
namespace Go.Proofs
open Go.Mt Go.Proofs.Dk
set_option maxRecDepth 4000
set_option linter.unusedVariables false
set_option linter.unusedSimpArgs false
theorem clonesl_Clone_seen_ok : PT Tryz.prog 104 [.sl []] (· = [.sl []]) := by
  refine PT.of_CT (CT.of_body Tryz.func104 rfl Tryz.ntmps104 rfl fun s0 Oo => ?_)
  repeat refine TC.seq ?_
  refine TC.region ?_
  refine t_assign rfl rfl ?_
  refine TL.nil ?_
  repeat refine TC.seq ?_
  refine TC.region ?_
  refine t_move rfl rfl ?_
  (refine t_nilq rfl rfl (fun b => ?_))
  refine TL.nil ?_
  cases b with
  | true =>
    repeat refine TC.seq ?_
    refine TC.cond rfl (fun hc => ?_) (fun hc => by cases hc)
    repeat refine TC.seq ?_
    refine TC.region ?_
    refine t_assign rfl rfl ?_
    refine TL.nil ?_
    exact TC.ret ⟨_, rfl, [_], rfl, rfl⟩
  | false =>
    repeat refine TC.seq ?_
    refine TC.cond rfl (fun hc => by cases hc) (fun hc => ?_)
    refine TC.skip ?_
    repeat refine TC.seq ?_
    refine TC.region ?_
    refine t_buildSlice rfl rfl rfl rfl rfl rfl rfl rfl ?_
    refine t_move rfl rfl ?_
    refine t_append00 rfl rfl rfl ?_
    refine t_assign rfl rfl ?_
    refine TL.nil ?_
    exact TC.ret ⟨_, rfl, [_], rfl, rfl⟩
theorem clonesl_Clone_int_ok : PT Tryz.prog 113 [.sl []] (· = [.sl []]) := by
  refine PT.of_CT (CT.of_body Tryz.func113 rfl Tryz.ntmps113 rfl fun s0 Oo => ?_)
  repeat refine TC.seq ?_
  refine TC.region ?_
  refine t_assign rfl rfl ?_
  refine TL.nil ?_
  repeat refine TC.seq ?_
  refine TC.region ?_
  refine t_move rfl rfl ?_
  (refine t_nilq rfl rfl (fun b => ?_))
  refine TL.nil ?_
  cases b with
  | true =>
    repeat refine TC.seq ?_
    refine TC.cond rfl (fun hc => ?_) (fun hc => by cases hc)
    repeat refine TC.seq ?_
    refine TC.region ?_
    refine t_assign rfl rfl ?_
    refine TL.nil ?_
    exact TC.ret ⟨_, rfl, [_], rfl, rfl⟩
  | false =>
    repeat refine TC.seq ?_
    refine TC.cond rfl (fun hc => by cases hc) (fun hc => ?_)
    refine TC.skip ?_
    repeat refine TC.seq ?_
    refine TC.region ?_
    refine t_buildSlice rfl rfl rfl rfl rfl rfl rfl rfl ?_
    refine t_move rfl rfl ?_
    refine t_append00 rfl rfl rfl ?_
    refine t_assign rfl rfl ?_
    refine TL.nil ?_
    exact TC.ret ⟨_, rfl, [_], rfl, rfl⟩
theorem clonesl_Clone_Var_ok : PT Tryz.prog 118 [.sl []] (· = [.sl []]) := by
  refine PT.of_CT (CT.of_body Tryz.func118 rfl Tryz.ntmps118 rfl fun s0 Oo => ?_)
  repeat refine TC.seq ?_
  refine TC.region ?_
  refine t_assign rfl rfl ?_
  refine TL.nil ?_
  repeat refine TC.seq ?_
  refine TC.region ?_
  refine t_move rfl rfl ?_
  (refine t_nilq rfl rfl (fun b => ?_))
  refine TL.nil ?_
  cases b with
  | true =>
    repeat refine TC.seq ?_
    refine TC.cond rfl (fun hc => ?_) (fun hc => by cases hc)
    repeat refine TC.seq ?_
    refine TC.region ?_
    refine t_assign rfl rfl ?_
    refine TL.nil ?_
    exact TC.ret ⟨_, rfl, [_], rfl, rfl⟩
  | false =>
    repeat refine TC.seq ?_
    refine TC.cond rfl (fun hc => by cases hc) (fun hc => ?_)
    refine TC.skip ?_
    repeat refine TC.seq ?_
    refine TC.region ?_
    refine t_buildSlice rfl rfl rfl rfl rfl rfl rfl rfl ?_
    refine t_move rfl rfl ?_
    refine t_append00 rfl rfl rfl ?_
    refine t_assign rfl rfl ?_
    refine TL.nil ?_
    exact TC.ret ⟨_, rfl, [_], rfl, rfl⟩
theorem clonesl_Clone_string_ok : PT Tryz.prog 157 [.sl []] (· = [.sl []]) := by
  refine PT.of_CT (CT.of_body Tryz.func157 rfl Tryz.ntmps157 rfl fun s0 Oo => ?_)
  repeat refine TC.seq ?_
  refine TC.region ?_
  refine t_assign rfl rfl ?_
  refine TL.nil ?_
  repeat refine TC.seq ?_
  refine TC.region ?_
  refine t_move rfl rfl ?_
  (refine t_nilq rfl rfl (fun b => ?_))
  refine TL.nil ?_
  cases b with
  | true =>
    repeat refine TC.seq ?_
    refine TC.cond rfl (fun hc => ?_) (fun hc => by cases hc)
    repeat refine TC.seq ?_
    refine TC.region ?_
    refine t_assign rfl rfl ?_
    refine TL.nil ?_
    exact TC.ret ⟨_, rfl, [_], rfl, rfl⟩
  | false =>
    repeat refine TC.seq ?_
    refine TC.cond rfl (fun hc => by cases hc) (fun hc => ?_)
    refine TC.skip ?_
    repeat refine TC.seq ?_
    refine TC.region ?_
    refine t_buildSlice rfl rfl rfl rfl rfl rfl rfl rfl ?_
    refine t_move rfl rfl ?_
    refine t_append00 rfl rfl rfl ?_
    refine t_assign rfl rfl ?_
    refine TL.nil ?_
    exact TC.ret ⟨_, rfl, [_], rfl, rfl⟩
theorem clonesl_Clone_int2_ok : PT Tryz.prog 186 [.sl []] (· = [.sl []]) := by
  refine PT.of_CT (CT.of_body Tryz.func186 rfl Tryz.ntmps186 rfl fun s0 Oo => ?_)
  repeat refine TC.seq ?_
  refine TC.region ?_
  refine t_assign rfl rfl ?_
  refine TL.nil ?_
  repeat refine TC.seq ?_
  refine TC.region ?_
  refine t_move rfl rfl ?_
  (refine t_nilq rfl rfl (fun b => ?_))
  refine TL.nil ?_
  cases b with
  | true =>
    repeat refine TC.seq ?_
    refine TC.cond rfl (fun hc => ?_) (fun hc => by cases hc)
    repeat refine TC.seq ?_
    refine TC.region ?_
    refine t_assign rfl rfl ?_
    refine TL.nil ?_
    exact TC.ret ⟨_, rfl, [_], rfl, rfl⟩
  | false =>
    repeat refine TC.seq ?_
    refine TC.cond rfl (fun hc => by cases hc) (fun hc => ?_)
    refine TC.skip ?_
    repeat refine TC.seq ?_
    refine TC.region ?_
    refine t_buildSlice rfl rfl rfl rfl rfl rfl rfl rfl ?_
    refine t_move rfl rfl ?_
    refine t_append00 rfl rfl rfl ?_
    refine t_assign rfl rfl ?_
    refine TL.nil ?_
    exact TC.ret ⟨_, rfl, [_], rfl, rfl⟩
theorem clonesl_Clone_Equation_ok : PT Tryz.prog 210 [.sl []] (· = [.sl []]) := by
  refine PT.of_CT (CT.of_body Tryz.func210 rfl Tryz.ntmps210 rfl fun s0 Oo => ?_)
  repeat refine TC.seq ?_
  refine TC.region ?_
  refine t_assign rfl rfl ?_
  refine TL.nil ?_
  repeat refine TC.seq ?_
  refine TC.region ?_
  refine t_move rfl rfl ?_
  (refine t_nilq rfl rfl (fun b => ?_))
  refine TL.nil ?_
  cases b with
  | true =>
    repeat refine TC.seq ?_
    refine TC.cond rfl (fun hc => ?_) (fun hc => by cases hc)
    repeat refine TC.seq ?_
    refine TC.region ?_
    refine t_assign rfl rfl ?_
    refine TL.nil ?_
    exact TC.ret ⟨_, rfl, [_], rfl, rfl⟩
  | false =>
    repeat refine TC.seq ?_
    refine TC.cond rfl (fun hc => by cases hc) (fun hc => ?_)
    refine TC.skip ?_
    repeat refine TC.seq ?_
    refine TC.region ?_
    refine t_buildSlice rfl rfl rfl rfl rfl rfl rfl rfl ?_
    refine t_move rfl rfl ?_
    refine t_append00 rfl rfl rfl ?_
    refine t_assign rfl rfl ?_
    refine TL.nil ?_
    exact TC.ret ⟨_, rfl, [_], rfl, rfl⟩
theorem clonesl_Clone_On_ok : PT Tryz.prog 253 [.sl []] (· = [.sl []]) := by
  refine PT.of_CT (CT.of_body Tryz.func253 rfl Tryz.ntmps253 rfl fun s0 Oo => ?_)
  repeat refine TC.seq ?_
  refine TC.region ?_
  refine t_assign rfl rfl ?_
  refine TL.nil ?_
  repeat refine TC.seq ?_
  refine TC.region ?_
  refine t_move rfl rfl ?_
  (refine t_nilq rfl rfl (fun b => ?_))
  refine TL.nil ?_
  cases b with
  | true =>
    repeat refine TC.seq ?_
    refine TC.cond rfl (fun hc => ?_) (fun hc => by cases hc)
    repeat refine TC.seq ?_
    refine TC.region ?_
    refine t_assign rfl rfl ?_
    refine TL.nil ?_
    exact TC.ret ⟨_, rfl, [_], rfl, rfl⟩
  | false =>
    repeat refine TC.seq ?_
    refine TC.cond rfl (fun hc => by cases hc) (fun hc => ?_)
    refine TC.skip ?_
    repeat refine TC.seq ?_
    refine TC.region ?_
    refine t_buildSlice rfl rfl rfl rfl rfl rfl rfl rfl ?_
    refine t_move rfl rfl ?_
    refine t_append00 rfl rfl rfl ?_
    refine t_assign rfl rfl ?_
    refine TL.nil ?_
    exact TC.ret ⟨_, rfl, [_], rfl, rfl⟩
def dkIs (a b : D) : Option (List D) := match kind1 b with
  | none => none
  | some k => match a with
    | .nili => some [.bool false]
    | a => match kindOf a with
      | some x => some [.bool (x == k)]
      | none => none
def dkSums (f : Nat) (ds : List D) : Option (List D) :=
  bif Nat.beq f 10 then (match ds with | [a, b] => dkIs a b | _ => none)
  else bif Nat.beq f 236 then (match ds with | [.str s, .int .u8 (.ofNat c)] => bif Nat.blt c 256 then some [.int .i64 (idxB c 0 s.data.toList)] else none | _ => none)
  else match ds with
    | [.sl []] => bif has [104, 113, 118, 157, 186, 210, 253] f then some [.sl []] else none
    | _ => none
theorem dkSums_ok : ∀ f ds rs, dkSums f ds = some rs → PT Tryz.prog f ds (· = rs) := by
  intro f ds rs h
  unfold dkSums at h
  cases h1 : Nat.beq f 10 with
  | true =>
    rw [h1] at h
    simp only [cond_true] at h
    have e := Nat.eq_of_beq_eq_true h1
    subst e
    split at h
    · rename_i a b
      unfold dkIs at h
      split at h
      · cases h
      · rename_i k hk
        split at h
        · injection h with h; subst h
          exact is_nil_pt hk
        · split at h
          · rename_i x hx
            injection h with h; subst h
            exact is_pt hx hk
          · cases h
    · cases h
  | false =>
    rw [h1] at h
    simp only [cond_false] at h
    cases h2 : Nat.beq f 236 with
    | true =>
      rw [h2] at h
      simp only [cond_true] at h
      have e := Nat.eq_of_beq_eq_true h2
      subst e
      split at h
      · rename_i s c
        cases hc : Nat.blt c 256 with
        | false => rw [hc] at h; cases h
        | true =>
          rw [hc] at h
          simp only [cond_true] at h
          injection h with h; subst h
          exact indexByte_pt s c (Nat.le_of_ble_eq_true hc)
      · cases h
    | false =>
      rw [h2] at h
      simp only [cond_false] at h
      split at h
      · cases hc : has [104, 113, 118, 157, 186, 210, 253] f with
        | false => rw [hc] at h; cases h
        | true =>
          rw [hc] at h
          simp only [cond_true] at h
          injection h with h; subst h
          have := has_iff.1 hc
          simp only [List.mem_cons, List.not_mem_nil, or_false] at this
          rcases this with rfl | rfl | rfl | rfl | rfl | rfl | rfl
          · exact clonesl_Clone_seen_ok
          · exact clonesl_Clone_int_ok
          · exact clonesl_Clone_Var_ok
          · exact clonesl_Clone_string_ok
          · exact clonesl_Clone_int2_ok
          · exact clonesl_Clone_Equation_ok
          · exact clonesl_Clone_On_ok
      · cases h
def dkHs (f : Nat) (ms : List M) (H : Hp) : Option (M × Hp × List Nat) :=
  bif Nat.beq f 107 then (match ms with
    | [.mp i] => (match H[i]? with | some (.map es) => some (.mp H.length, H ++ [.map es], []) | _ => none)
    | _ => none)
  else bif Nat.beq f 280 then (match ms, H with
    | [.d (.str s), .d (.str u)], .iter (.tup [.d (.int .i64 (.ofNat 1)), .d (.int .i64 _), .d (.int .i64 (.ofNat _))]) :: _ => bif Nat.blt s.data.toList.length 4294967281 then some (.d (.bool (hasB u.data.toList s.data.toList)), H, []) else none
    | _, _ => none)
  else none
theorem dkHs_ok : ∀ f ms H r H' us, dkHs f ms H = some (r, H', us) → CT Tryz.prog f ms H (fun a b => a = r ∧ b = H') ∧ Frm H H' us := by
  intro f ms H r H' us h
  unfold dkHs at h
  cases h1 : Nat.beq f 107 with
  | true =>
    rw [h1] at h
    simp only [cond_true] at h
    have e := Nat.eq_of_beq_eq_true h1
    subst e
    split at h
    · rename_i i
      split at h
      · rename_i es he
        injection h with h; injection h with e1 e2; injection e2 with e2 e3; subst e1; subst e2; subst e3
        exact ⟨clone_ct he, frm_app _ _⟩
      · cases h
    · cases h
  | false =>
    rw [h1] at h
    simp only [cond_false] at h
    cases h2 : Nat.beq f 280 with
    | false => rw [h2] at h; cases h
    | true =>
      rw [h2] at h
      simp only [cond_true] at h
      have e := Nat.eq_of_beq_eq_true h2
      subst e
      split at h
      · rename_i s u m tt H0
        cases hc : Nat.blt s.data.toList.length 4294967281 with
        | false => rw [hc] at h; cases h
        | true =>
          rw [hc] at h
          simp only [cond_true] at h
          injection h with h; injection h with e1 e2; injection e2 with e2 e3; subst e1; subst e2; subst e3
          have hs : s.size < 4294967281 := Nat.le_of_ble_eq_true hc
          exact ⟨contains_ct s u (m := m) rfl hs, ⟨Nat.le_refl _, fun i hi _ => rfl⟩⟩
      · cases h
end Go.Proofs
