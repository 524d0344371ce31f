import Derived.Test.YtjhinemdonddoaaFlB
namespace Go.Proofs
open Go.Mt
set_option maxRecDepth 4000
set_option linter.unusedSimpArgs false
set_option linter.unusedVariables false

theorem FlowClocks_true (cs rs : List Bool) (v u : D) (hin : InB cs v) (hin2 : InB rs u) : PT Try.prog 7 [v, u] (· = [.bool true]) := by
  obtain ⟨hlen, hv⟩ := hin
  obtain ⟨hlen2, hu⟩ := hin2
  refine PT.of_CT (CT.of_body Try.func7 rfl Try.ntmps7 rfl fun s0 Oo => ?_)
  repeat refine TC.seq ?_
  refine TC.region ?_
  refine t_assign rfl rfl ?_
  refine TL.nil ?_
  repeat refine TC.seq ?_
  refine TC.region ?_
  refine t_call1 flowAwake rfl rfl ?_
  refine t_not rfl rfl ?_
  refine t_move rfl rfl ?_
  first | refine t_guard_no rfl rfl ?_ | (refine t_guard_yes rfl ?_; (refine t_move rfl rfl ?_))
  first | refine t_guard_no rfl rfl ?_ | (refine t_guard_yes rfl ?_; (refine t_lenS rfl rfl hlen ?_))
  first | refine t_guard_no rfl rfl ?_ | (refine t_guard_yes rfl ?_; (refine t_int rfl rfl rfl rfl ?_))
  refine t_pick rfl rfl rfl ?_
  refine TL.nil ?_
  repeat refine TC.seq ?_
  refine TC.cond rfl (fun hc => ?_) (fun hc => ?_)
  · repeat refine TC.seq ?_
    refine TC.region ?_
    refine t_call1 flowAwake rfl rfl ?_
    refine t_assign rfl rfl ?_
    refine TL.nil ?_
    exact TC.ret ⟨_, rfl, [_], rfl, rfl⟩
  · have hle : cs.length ≤ 60 := by have := of_decide_eq_false hc; omega
    refine TC.skip ?_
    repeat refine TC.seq ?_
    refine TC.region ?_
    refine t_build rfl rfl rfl rfl rfl ?_
    refine t_alloc rfl rfl ?_
    refine t_storeL rfl rfl rfl rfl rfl rfl ?_
    refine TL.nil ?_
    repeat refine TC.seq ?_
    refine TC.region ?_
    refine t_build rfl rfl rfl rfl rfl ?_
    refine t_alloc rfl rfl ?_
    refine t_storeL rfl rfl rfl rfl rfl rfl ?_
    refine TL.nil ?_
    repeat refine TC.seq ?_
    refine TC.region ?_
    refine t_build rfl rfl rfl rfl rfl ?_
    refine t_buildSlice rfl rfl rfl rfl rfl rfl rfl rfl ?_
    refine t_assign rfl rfl ?_
    refine TL.nil ?_
    repeat refine TC.seq ?_
    refine TC.region ?_
    refine t_build rfl rfl rfl rfl rfl ?_
    refine t_build rfl rfl rfl rfl rfl ?_
    refine t_buildSlice rfl rfl rfl rfl rfl rfl rfl rfl ?_
    refine t_build rfl rfl rfl rfl rfl ?_
    refine t_alloc rfl rfl ?_
    refine t_storeL rfl rfl rfl rfl rfl rfl ?_
    refine TL.nil ?_
    repeat refine TC.seq ?_
    refine TC.region ?_
    refine t_buildSlice rfl rfl rfl rfl rfl rfl rfl rfl ?_
    refine t_build rfl rfl rfl rfl rfl ?_
    refine t_build rfl rfl rfl rfl rfl ?_
    refine t_buildSlice rfl rfl rfl rfl rfl rfl rfl rfl ?_
    refine t_build rfl rfl rfl rfl rfl ?_
    refine t_alloc rfl rfl ?_
    refine t_storeL rfl rfl rfl rfl rfl rfl ?_
    refine TL.nil ?_
    repeat refine TC.seq ?_
    refine TC.region ?_
    first | refine t_loadDw rfl rfl rfl ?_ | refine t_loadDa rfl rfl rfl ?_ | refine t_loadLa rfl rfl rfl rfl rfl ?_ | refine t_loadRa rfl rfl rfl rfl rfl ?_
    refine t_build rfl rfl rfl rfl rfl ?_
    first | refine t_loadDw rfl rfl rfl ?_ | refine t_loadDa rfl rfl rfl ?_ | refine t_loadLa rfl rfl rfl rfl rfl ?_ | refine t_loadRa rfl rfl rfl rfl rfl ?_
    refine t_build rfl rfl rfl rfl rfl ?_
    refine t_buildSlice rfl rfl rfl rfl rfl rfl rfl rfl ?_
    first | refine t_loadDw rfl rfl rfl ?_ | refine t_loadDa rfl rfl rfl ?_ | refine t_loadLa rfl rfl rfl rfl rfl ?_ | refine t_loadRa rfl rfl rfl rfl rfl ?_
    refine t_build rfl rfl rfl rfl rfl ?_
    refine t_buildSlice rfl rfl rfl rfl rfl rfl rfl rfl ?_
    first | refine t_loadDw rfl rfl rfl ?_ | refine t_loadDa rfl rfl rfl ?_ | refine t_loadLa rfl rfl rfl rfl rfl ?_ | refine t_loadRa rfl rfl rfl rfl rfl ?_
    refine t_move rfl rfl ?_
    refine t_build rfl rfl rfl rfl rfl ?_
    refine t_buildSlice rfl rfl rfl rfl rfl rfl rfl rfl ?_
    refine t_build rfl rfl rfl rfl rfl ?_
    refine t_alloc rfl rfl ?_
    refine t_storeL rfl rfl rfl rfl rfl rfl ?_
    refine TL.nil ?_
    repeat refine TC.seq ?_
    refine TC.region ?_
    refine t_buildSlice rfl rfl rfl rfl rfl rfl rfl rfl ?_
    refine t_build rfl rfl rfl rfl rfl ?_
    first | refine t_loadDw rfl rfl rfl ?_ | refine t_loadDa rfl rfl rfl ?_ | refine t_loadLa rfl rfl rfl rfl rfl ?_ | refine t_loadRa rfl rfl rfl rfl rfl ?_
    refine t_move rfl rfl ?_
    refine t_buildSlice rfl rfl rfl rfl rfl rfl rfl rfl ?_
    refine t_build rfl rfl rfl rfl rfl ?_
    refine t_buildSlice rfl rfl rfl rfl rfl rfl rfl rfl ?_
    first | refine t_loadDw rfl rfl rfl ?_ | refine t_loadDa rfl rfl rfl ?_ | refine t_loadLa rfl rfl rfl rfl rfl ?_ | refine t_loadRa rfl rfl rfl rfl rfl ?_
    refine t_build rfl rfl rfl rfl rfl ?_
    refine t_buildSlice rfl rfl rfl rfl rfl rfl rfl rfl ?_
    first | refine t_fieldD rfl rfl ?_ | refine t_fieldL rfl rfl ?_ | refine t_fieldR rfl rfl ?_ | refine t_fieldW rfl rfl ?_
    refine t_storeL rfl rfl rfl rfl rfl rfl ?_
    refine TL.nil ?_
    repeat refine TC.seq ?_
    refine TC.region ?_
    first | refine t_loadDw rfl rfl rfl ?_ | refine t_loadDa rfl rfl rfl ?_ | refine t_loadLa rfl rfl rfl rfl rfl ?_ | refine t_loadRa rfl rfl rfl rfl rfl ?_
    refine t_buildSlice rfl rfl rfl rfl rfl rfl rfl rfl ?_
    refine t_build rfl rfl rfl rfl rfl ?_
    (refine t_callR newC_ok rfl rfl ?_; rintro _ _ ⟨rfl, rfl⟩)
    refine t_move rfl rfl ?_
    refine t_extract rfl rfl rfl ?_
    refine t_extract rfl rfl rfl ?_
    refine t_assign rfl rfl ?_
    refine t_assign rfl rfl ?_
    refine TL.nil ?_
    repeat refine TC.seq ?_
    refine TC.region ?_
    refine t_move rfl rfl ?_
    refine t_int rfl rfl rfl rfl ?_
    refine TL.nil ?_
    repeat refine TC.seq ?_
    refine TC.cond rfl (fun hc => by cases hc) (fun _ => ?_)
    refine TC.skip ?_
    repeat refine TC.seq ?_
    refine TC.region ?_
    refine t_assign rfl rfl ?_
    refine TL.nil ?_
    repeat refine TC.seq ?_
    refine TC.region ?_
    refine t_assign rfl rfl ?_
    refine TL.nil ?_
    repeat refine TC.seq ?_
    refine TC.block ?_
    refine TC.loopB (fun k s => ∃ (i : Nat) (n : Int) (bx : List (Nat × List M)), s = ⟨[(14, .m (.d (.int .i64 i))), (13, .m (.d (.int .i32 n))), (11, .m (.ref 6 0)), (1, .m (.d u)), (0, .m (.d v))], bx, Hc n⟩ ∧ i ≤ cs.length ∧ 0 ≤ n ∧ n ≤ i ∧ k = cs.length - i) cs.length _
      ⟨0, 0, _, rfl, by omega, by omega, by omega, rfl⟩ ⟨rfl, rfl, rfl, rfl, rfl, trivial⟩ ?_
    rintro k s ⟨i, n, bx, rfl, hi, hn0, hni, rfl⟩
    repeat refine TC.seq ?_
    refine TC.region ?_
    refine t_move rfl rfl ?_
    refine t_move rfl rfl ?_
    refine t_lenS rfl rfl hlen ?_
    refine t_int rfl rfl rfl rfl ?_
    refine TL.nil ?_
    repeat refine TC.seq ?_
    refine TC.cond rfl (fun hc => ?_) (fun hc => ?_)
    · have hc' : i < cs.length := by have := of_decide_eq_true hc; omega
      clear hc
      have hv' : v = .sl (boolsD cs) := by
        rcases hv with h | h
        · subst h; simp at hc'
        · exact h
      subst hv'
      have hget : cs[i]? = some cs[i] := by simp [hc']
      generalize cs[i] = c at hget
      have hw := wrap32 (n := n) hn0 (by omega)
      refine TC.skip ?_
      repeat refine TC.seq ?_
      refine TC.block ?_
      repeat refine TC.seq ?_
      refine TC.region ?_
      refine t_assign rfl rfl ?_
      refine TL.nil ?_
      repeat refine TC.seq ?_
      refine TC.region ?_
      refine t_assign rfl rfl ?_
      refine TL.nil ?_
      -- the second input: is it there, and true?
      by_cases hr : ∃ hlt : i < rs.length, rs[i] = true
      · obtain ⟨hlt, hrt⟩ := hr
        have hu' : u = .sl (boolsD rs) := by
          rcases hu with h | h
          · subst h; simp at hlt
          · exact h
        subst hu'
        have hget2 : rs[i]? = some true := by simp [hlt, hrt]
        have e1 : decide ((i : Int) < (rs.length : Int)) = true := decide_eq_true (by omega)
        repeat refine TC.seq ?_
        refine TC.region ?_
        refine t_move rfl rfl ?_
        refine t_move rfl rfl ?_
        refine t_lenS rfl rfl hlen2 ?_
        (refine t_int rfl rfl rfl rfl ?_; rw [e1])
        refine t_move rfl rfl ?_
        first | refine t_guard_no rfl rfl ?_ | (refine t_guard_yes rfl ?_; (refine t_move rfl rfl ?_))
        first | refine t_guard_no rfl rfl ?_ | (refine t_guard_yes rfl ?_; (refine t_move rfl rfl ?_))
        first | refine t_guard_no rfl rfl ?_ | (refine t_guard_yes rfl ?_; (refine t_indexD rfl rfl rfl (Int.natCast_nonneg i) (r := [.bool true]) (boolsD_get hget2) rfl ?_))
        first | refine t_guard_no rfl rfl ?_ | (refine t_guard_yes rfl ?_; (first | refine t_loadDc rfl rfl rfl ?_ | refine t_loadLc rfl rfl rfl rfl ?_ | refine t_loadRc rfl rfl rfl rfl ?_))
        refine t_pick rfl rfl rfl ?_
        refine TL.nil ?_
        repeat refine TC.seq ?_
        refine TC.cond rfl (fun _ => ?_) (fun hc => by cases hc)
        repeat refine TC.seq ?_
        refine TC.region ?_
        refine t_assign rfl rfl ?_
        refine TL.nil ?_
        repeat refine TC.seq ?_
        refine TC.region ?_
        refine t_assign rfl rfl ?_
        refine TL.nil ?_
        repeat refine TC.seq ?_
        refine TC.region ?_
        refine t_assign rfl rfl ?_
        refine TL.nil ?_
        repeat refine TC.seq ?_
        refine TC.region ?_
        refine t_move rfl rfl ?_
        refine t_move rfl rfl ?_
        refine t_indexD rfl rfl rfl (Int.natCast_nonneg i) (r := [.bool c]) (boolsD_get hget) rfl ?_
        first | refine t_loadDc rfl rfl rfl ?_ | refine t_loadLc rfl rfl rfl rfl ?_ | refine t_loadRc rfl rfl rfl rfl ?_
        refine TL.nil ?_
        repeat refine TC.seq ?_
        cases c with
        | true =>
          refine TC.cond rfl (fun _ => ?_) (fun hc => by cases hc)
          repeat refine TC.seq ?_
          refine TC.region ?_
          refine t_assign rfl rfl ?_
          refine TL.nil ?_
          repeat refine TC.seq ?_
          refine TC.region ?_
          refine t_move rfl rfl ?_
          refine t_assign rfl rfl ?_
          refine TL.nil ?_
          repeat refine TC.seq ?_
          refine TC.region ?_
          refine t_move rfl rfl ?_
          refine t_int rfl rfl rfl rfl ?_
          refine t_assign rfl rfl ?_
          refine TL.nil ?_
          repeat refine TC.seq ?_
          refine TC.region ?_
          refine t_move rfl rfl ?_
          refine t_move rfl rfl ?_
          refine t_move rfl rfl ?_
          refine t_buildSlice rfl rfl rfl rfl rfl rfl rfl rfl ?_
          (refine t_callR (step11_ok n) rfl rfl ?_; rintro _ _ ⟨rfl, rfl⟩)
          refine t_move rfl rfl ?_
          refine t_extract rfl rfl rfl ?_
          refine t_extract rfl rfl rfl ?_
          refine t_assign rfl rfl ?_
          refine t_assign rfl rfl ?_
          refine TL.nil ?_
          repeat refine TC.seq ?_
          refine TC.region ?_
          refine t_move rfl rfl ?_
          refine t_int rfl rfl rfl rfl ?_
          refine t_move rfl rfl ?_
          first | refine t_guard_no rfl rfl ?_ | (refine t_guard_yes rfl ?_; (refine t_move rfl rfl ?_))
          first | refine t_guard_no rfl rfl ?_ | (refine t_guard_yes rfl ?_; (refine t_lenS rfl rfl rfl ?_))
          first | refine t_guard_no rfl rfl ?_ | (refine t_guard_yes rfl ?_; (refine t_int rfl rfl rfl rfl ?_))
          refine t_pick rfl rfl rfl ?_
          refine t_move rfl rfl ?_
          first | refine t_guard_no rfl rfl ?_ | (refine t_guard_yes rfl ?_; (refine t_move rfl rfl ?_))
          first | refine t_guard_no rfl rfl ?_ | (refine t_guard_yes rfl ?_; (refine t_indexD rfl rfl rfl (by decide) (r := [.int .i32 0]) rfl rfl ?_))
          first | refine t_guard_no rfl rfl ?_ | (refine t_guard_yes rfl ?_; (first | refine t_loadDc rfl rfl rfl ?_ | refine t_loadLc rfl rfl rfl rfl ?_ | refine t_loadRc rfl rfl rfl rfl ?_))
          first | refine t_guard_no rfl rfl ?_ | (refine t_guard_yes rfl ?_; (refine t_move rfl rfl ?_))
          first | refine t_guard_no rfl rfl ?_ | (refine t_guard_yes rfl ?_; (refine t_int rfl rfl rfl rfl ?_))
          refine t_pick rfl rfl rfl ?_
          refine TL.nil ?_
          repeat refine TC.seq ?_
          refine TC.cond rfl (fun hc => by cases hc) (fun _ => ?_)
          refine TC.skip ?_
          repeat refine TC.seq ?_
          refine TC.region ?_
          refine t_move rfl rfl ?_
          refine t_add64 rfl rfl rfl (by omega) ?_
          refine t_assign rfl rfl ?_
          refine TL.nil ?_
          exact again (k' := cs.length - (i + 1)) (by omega) ⟨i + 1, 1, _, rfl, by omega, by omega, by omega, rfl⟩ rfl ⟨by simp; rfl, rfl, rfl, rfl, rfl, trivial⟩
        | false =>
          refine TC.cond rfl (fun hc => by cases hc) (fun _ => ?_)
          refine TC.skip ?_
          repeat refine TC.seq ?_
          refine TC.region ?_
          refine t_move rfl rfl ?_
          refine t_move rfl rfl ?_
          refine t_move rfl rfl ?_
          refine t_buildSlice rfl rfl rfl rfl rfl rfl rfl rfl ?_
          (refine t_callR (step01_ok n) rfl rfl ?_; rintro _ _ ⟨rfl, rfl⟩)
          refine t_move rfl rfl ?_
          refine t_extract rfl rfl rfl ?_
          refine t_extract rfl rfl rfl ?_
          refine t_assign rfl rfl ?_
          refine t_assign rfl rfl ?_
          refine TL.nil ?_
          repeat refine TC.seq ?_
          refine TC.region ?_
          refine t_move rfl rfl ?_
          refine t_int rfl rfl rfl rfl ?_
          refine t_move rfl rfl ?_
          first | refine t_guard_no rfl rfl ?_ | (refine t_guard_yes rfl ?_; (refine t_move rfl rfl ?_))
          first | refine t_guard_no rfl rfl ?_ | (refine t_guard_yes rfl ?_; (refine t_lenS rfl rfl rfl ?_))
          first | refine t_guard_no rfl rfl ?_ | (refine t_guard_yes rfl ?_; (refine t_int rfl rfl rfl rfl ?_))
          refine t_pick rfl rfl rfl ?_
          refine t_move rfl rfl ?_
          first | refine t_guard_no rfl rfl ?_ | (refine t_guard_yes rfl ?_; (refine t_move rfl rfl ?_))
          first | refine t_guard_no rfl rfl ?_ | (refine t_guard_yes rfl ?_; (refine t_indexD rfl rfl rfl (by decide) (r := [.int .i32 (-1)]) rfl rfl ?_))
          first | refine t_guard_no rfl rfl ?_ | (refine t_guard_yes rfl ?_; (first | refine t_loadDc rfl rfl rfl ?_ | refine t_loadLc rfl rfl rfl rfl ?_ | refine t_loadRc rfl rfl rfl rfl ?_))
          first | refine t_guard_no rfl rfl ?_ | (refine t_guard_yes rfl ?_; (refine t_move rfl rfl ?_))
          first | refine t_guard_no rfl rfl ?_ | (refine t_guard_yes rfl ?_; (refine t_int rfl rfl rfl rfl ?_))
          refine t_pick rfl rfl rfl ?_
          refine TL.nil ?_
          repeat refine TC.seq ?_
          refine TC.cond rfl (fun hc => by cases hc) (fun _ => ?_)
          refine TC.skip ?_
          repeat refine TC.seq ?_
          refine TC.region ?_
          refine t_move rfl rfl ?_
          refine t_add64 rfl rfl rfl (by omega) ?_
          refine t_assign rfl rfl ?_
          refine TL.nil ?_
          exact again (k' := cs.length - (i + 1)) (by omega) ⟨i + 1, 0, _, rfl, by omega, by omega, by omega, rfl⟩ rfl ⟨by simp; rfl, rfl, rfl, rfl, rfl, trivial⟩
      · -- none, or false
        by_cases hlt : i < rs.length
        · have hu' : u = .sl (boolsD rs) := by
            rcases hu with h | h
            · subst h; simp at hlt
            · exact h
          subst hu'
          have hrf : rs[i] = false := by
            cases hq : rs[i] with
            | false => rfl
            | true => exact absurd ⟨hlt, hq⟩ hr
          have hget2 : rs[i]? = some false := by simp [hlt, hrf]
          have e1 : decide ((i : Int) < (rs.length : Int)) = true := decide_eq_true (by omega)
          repeat refine TC.seq ?_
          refine TC.region ?_
          refine t_move rfl rfl ?_
          refine t_move rfl rfl ?_
          refine t_lenS rfl rfl hlen2 ?_
          (refine t_int rfl rfl rfl rfl ?_; rw [e1])
          refine t_move rfl rfl ?_
          first | refine t_guard_no rfl rfl ?_ | (refine t_guard_yes rfl ?_; (refine t_move rfl rfl ?_))
          first | refine t_guard_no rfl rfl ?_ | (refine t_guard_yes rfl ?_; (refine t_move rfl rfl ?_))
          first | refine t_guard_no rfl rfl ?_ | (refine t_guard_yes rfl ?_; (refine t_indexD rfl rfl rfl (Int.natCast_nonneg i) (r := [.bool false]) (boolsD_get hget2) rfl ?_))
          first | refine t_guard_no rfl rfl ?_ | (refine t_guard_yes rfl ?_; (first | refine t_loadDc rfl rfl rfl ?_ | refine t_loadLc rfl rfl rfl rfl ?_ | refine t_loadRc rfl rfl rfl rfl ?_))
          refine t_pick rfl rfl rfl ?_
          refine TL.nil ?_
          repeat refine TC.seq ?_
          refine TC.cond rfl (fun hc => by cases hc) (fun _ => ?_)
          refine TC.skip ?_
          repeat refine TC.seq ?_
          refine TC.region ?_
          refine t_assign rfl rfl ?_
          refine TL.nil ?_
          repeat refine TC.seq ?_
          refine TC.region ?_
          refine t_move rfl rfl ?_
          refine t_move rfl rfl ?_
          refine t_indexD rfl rfl rfl (Int.natCast_nonneg i) (r := [.bool c]) (boolsD_get hget) rfl ?_
          first | refine t_loadDc rfl rfl rfl ?_ | refine t_loadLc rfl rfl rfl rfl ?_ | refine t_loadRc rfl rfl rfl rfl ?_
          refine TL.nil ?_
          repeat refine TC.seq ?_
          cases c with
          | true =>
            refine TC.cond rfl (fun _ => ?_) (fun hc => by cases hc)
            repeat refine TC.seq ?_
            refine TC.region ?_
            refine t_assign rfl rfl ?_
            refine TL.nil ?_
            repeat refine TC.seq ?_
            refine TC.region ?_
            refine t_move rfl rfl ?_
            refine t_assign rfl rfl ?_
            refine TL.nil ?_
            repeat refine TC.seq ?_
            refine TC.region ?_
            refine t_move rfl rfl ?_
            refine t_int rfl rfl rfl rfl ?_
            refine t_assign rfl rfl ?_
            refine TL.nil ?_
            repeat refine TC.seq ?_
            refine TC.region ?_
            refine t_move rfl rfl ?_
            refine t_move rfl rfl ?_
            refine t_move rfl rfl ?_
            refine t_buildSlice rfl rfl rfl rfl rfl rfl rfl rfl ?_
            (refine t_callR (step10_ok n) rfl rfl ?_; rintro _ _ ⟨rfl, rfl⟩)
            refine t_move rfl rfl ?_
            refine t_extract rfl rfl rfl ?_
            refine t_extract rfl rfl rfl ?_
            refine t_assign rfl rfl ?_
            refine t_assign rfl rfl ?_
            refine TL.nil ?_
            rw [hw]
            repeat refine TC.seq ?_
            refine TC.region ?_
            refine t_move rfl rfl ?_
            refine t_int rfl rfl rfl rfl ?_
            refine t_move rfl rfl ?_
            first | refine t_guard_no rfl rfl ?_ | (refine t_guard_yes rfl ?_; (refine t_move rfl rfl ?_))
            first | refine t_guard_no rfl rfl ?_ | (refine t_guard_yes rfl ?_; (refine t_lenS rfl rfl rfl ?_))
            first | refine t_guard_no rfl rfl ?_ | (refine t_guard_yes rfl ?_; (refine t_int rfl rfl rfl rfl ?_))
            refine t_pick rfl rfl rfl ?_
            refine t_move rfl rfl ?_
            first | refine t_guard_no rfl rfl ?_ | (refine t_guard_yes rfl ?_; (refine t_move rfl rfl ?_))
            first | refine t_guard_no rfl rfl ?_ | (refine t_guard_yes rfl ?_; (refine t_indexD rfl rfl rfl (by decide) (r := [.int .i32 n]) rfl rfl ?_))
            first | refine t_guard_no rfl rfl ?_ | (refine t_guard_yes rfl ?_; (first | refine t_loadDc rfl rfl rfl ?_ | refine t_loadLc rfl rfl rfl rfl ?_ | refine t_loadRc rfl rfl rfl rfl ?_))
            first | refine t_guard_no rfl rfl ?_ | (refine t_guard_yes rfl ?_; (refine t_move rfl rfl ?_))
            first | refine t_guard_no rfl rfl ?_ | (refine t_guard_yes rfl ?_; (refine t_int rfl rfl rfl rfl ?_))
            refine t_pick rfl rfl rfl ?_
            refine TL.nil ?_
            repeat refine TC.seq ?_
            have e2 : (n != n) = false := by simp
            refine TC.cond (b := false) (by simp only [St.ev, evs]; show some (V.m (.d (.bool (n != n)))) = _; rw [e2]) (fun hc => by cases hc) (fun _ => ?_)
            refine TC.skip ?_
            repeat refine TC.seq ?_
            refine TC.region ?_
            refine t_move rfl rfl ?_
            refine t_add64 rfl rfl rfl (by omega) ?_
            refine t_assign rfl rfl ?_
            refine TL.nil ?_
            exact again (k' := cs.length - (i + 1)) (by omega) ⟨i + 1, n + 1, _, rfl, by omega, by omega, by omega, rfl⟩ rfl ⟨by simp; rfl, rfl, rfl, rfl, rfl, trivial⟩
          | false =>
            refine TC.cond rfl (fun hc => by cases hc) (fun _ => ?_)
            refine TC.skip ?_
            repeat refine TC.seq ?_
            refine TC.region ?_
            refine t_move rfl rfl ?_
            refine t_move rfl rfl ?_
            refine t_move rfl rfl ?_
            refine t_buildSlice rfl rfl rfl rfl rfl rfl rfl rfl ?_
            (refine t_callR (step00_ok n) rfl rfl ?_; rintro _ _ ⟨rfl, rfl⟩)
            refine t_move rfl rfl ?_
            refine t_extract rfl rfl rfl ?_
            refine t_extract rfl rfl rfl ?_
            refine t_assign rfl rfl ?_
            refine t_assign rfl rfl ?_
            refine TL.nil ?_
            repeat refine TC.seq ?_
            refine TC.region ?_
            refine t_move rfl rfl ?_
            refine t_int rfl rfl rfl rfl ?_
            refine t_move rfl rfl ?_
            first | refine t_guard_no rfl rfl ?_ | (refine t_guard_yes rfl ?_; (refine t_move rfl rfl ?_))
            first | refine t_guard_no rfl rfl ?_ | (refine t_guard_yes rfl ?_; (refine t_lenS rfl rfl rfl ?_))
            first | refine t_guard_no rfl rfl ?_ | (refine t_guard_yes rfl ?_; (refine t_int rfl rfl rfl rfl ?_))
            refine t_pick rfl rfl rfl ?_
            refine t_move rfl rfl ?_
            first | refine t_guard_no rfl rfl ?_ | (refine t_guard_yes rfl ?_; (refine t_move rfl rfl ?_))
            first | refine t_guard_no rfl rfl ?_ | (refine t_guard_yes rfl ?_; (refine t_indexD rfl rfl rfl (by decide) (r := [.int .i32 (-1)]) rfl rfl ?_))
            first | refine t_guard_no rfl rfl ?_ | (refine t_guard_yes rfl ?_; (first | refine t_loadDc rfl rfl rfl ?_ | refine t_loadLc rfl rfl rfl rfl ?_ | refine t_loadRc rfl rfl rfl rfl ?_))
            first | refine t_guard_no rfl rfl ?_ | (refine t_guard_yes rfl ?_; (refine t_move rfl rfl ?_))
            first | refine t_guard_no rfl rfl ?_ | (refine t_guard_yes rfl ?_; (refine t_int rfl rfl rfl rfl ?_))
            refine t_pick rfl rfl rfl ?_
            refine TL.nil ?_
            repeat refine TC.seq ?_
            refine TC.cond rfl (fun hc => by cases hc) (fun _ => ?_)
            refine TC.skip ?_
            repeat refine TC.seq ?_
            refine TC.region ?_
            refine t_move rfl rfl ?_
            refine t_add64 rfl rfl rfl (by omega) ?_
            refine t_assign rfl rfl ?_
            refine TL.nil ?_
            exact again (k' := cs.length - (i + 1)) (by omega) ⟨i + 1, n, _, rfl, by omega, by omega, by omega, rfl⟩ rfl ⟨by simp; rfl, rfl, rfl, rfl, rfl, trivial⟩
        · have e1 : decide ((i : Int) < (rs.length : Int)) = false := decide_eq_false (by omega)
          repeat refine TC.seq ?_
          refine TC.region ?_
          refine t_move rfl rfl ?_
          refine t_move rfl rfl ?_
          refine t_lenS rfl rfl hlen2 ?_
          (refine t_int rfl rfl rfl rfl ?_; rw [e1])
          refine t_move rfl rfl ?_
          first | refine t_guard_no rfl rfl ?_ | (refine t_guard_yes rfl ?_; (refine t_move rfl rfl ?_))
          first | refine t_guard_no rfl rfl ?_ | (refine t_guard_yes rfl ?_; (refine t_move rfl rfl ?_))
          first | refine t_guard_no rfl rfl ?_ | (refine t_guard_yes rfl ?_; (fail))
          first | refine t_guard_no rfl rfl ?_ | (refine t_guard_yes rfl ?_; (first | refine t_loadDc rfl rfl rfl ?_ | refine t_loadLc rfl rfl rfl rfl ?_ | refine t_loadRc rfl rfl rfl rfl ?_))
          refine t_pick rfl rfl rfl ?_
          refine TL.nil ?_
          repeat refine TC.seq ?_
          refine TC.cond rfl (fun hc => by cases hc) (fun _ => ?_)
          refine TC.skip ?_
          repeat refine TC.seq ?_
          refine TC.region ?_
          refine t_assign rfl rfl ?_
          refine TL.nil ?_
          repeat refine TC.seq ?_
          refine TC.region ?_
          refine t_move rfl rfl ?_
          refine t_move rfl rfl ?_
          refine t_indexD rfl rfl rfl (Int.natCast_nonneg i) (r := [.bool c]) (boolsD_get hget) rfl ?_
          first | refine t_loadDc rfl rfl rfl ?_ | refine t_loadLc rfl rfl rfl rfl ?_ | refine t_loadRc rfl rfl rfl rfl ?_
          refine TL.nil ?_
          repeat refine TC.seq ?_
          cases c with
          | true =>
            refine TC.cond rfl (fun _ => ?_) (fun hc => by cases hc)
            repeat refine TC.seq ?_
            refine TC.region ?_
            refine t_assign rfl rfl ?_
            refine TL.nil ?_
            repeat refine TC.seq ?_
            refine TC.region ?_
            refine t_move rfl rfl ?_
            refine t_assign rfl rfl ?_
            refine TL.nil ?_
            repeat refine TC.seq ?_
            refine TC.region ?_
            refine t_move rfl rfl ?_
            refine t_int rfl rfl rfl rfl ?_
            refine t_assign rfl rfl ?_
            refine TL.nil ?_
            repeat refine TC.seq ?_
            refine TC.region ?_
            refine t_move rfl rfl ?_
            refine t_move rfl rfl ?_
            refine t_move rfl rfl ?_
            refine t_buildSlice rfl rfl rfl rfl rfl rfl rfl rfl ?_
            (refine t_callR (step10_ok n) rfl rfl ?_; rintro _ _ ⟨rfl, rfl⟩)
            refine t_move rfl rfl ?_
            refine t_extract rfl rfl rfl ?_
            refine t_extract rfl rfl rfl ?_
            refine t_assign rfl rfl ?_
            refine t_assign rfl rfl ?_
            refine TL.nil ?_
            rw [hw]
            repeat refine TC.seq ?_
            refine TC.region ?_
            refine t_move rfl rfl ?_
            refine t_int rfl rfl rfl rfl ?_
            refine t_move rfl rfl ?_
            first | refine t_guard_no rfl rfl ?_ | (refine t_guard_yes rfl ?_; (refine t_move rfl rfl ?_))
            first | refine t_guard_no rfl rfl ?_ | (refine t_guard_yes rfl ?_; (refine t_lenS rfl rfl rfl ?_))
            first | refine t_guard_no rfl rfl ?_ | (refine t_guard_yes rfl ?_; (refine t_int rfl rfl rfl rfl ?_))
            refine t_pick rfl rfl rfl ?_
            refine t_move rfl rfl ?_
            first | refine t_guard_no rfl rfl ?_ | (refine t_guard_yes rfl ?_; (refine t_move rfl rfl ?_))
            first | refine t_guard_no rfl rfl ?_ | (refine t_guard_yes rfl ?_; (refine t_indexD rfl rfl rfl (by decide) (r := [.int .i32 n]) rfl rfl ?_))
            first | refine t_guard_no rfl rfl ?_ | (refine t_guard_yes rfl ?_; (first | refine t_loadDc rfl rfl rfl ?_ | refine t_loadLc rfl rfl rfl rfl ?_ | refine t_loadRc rfl rfl rfl rfl ?_))
            first | refine t_guard_no rfl rfl ?_ | (refine t_guard_yes rfl ?_; (refine t_move rfl rfl ?_))
            first | refine t_guard_no rfl rfl ?_ | (refine t_guard_yes rfl ?_; (refine t_int rfl rfl rfl rfl ?_))
            refine t_pick rfl rfl rfl ?_
            refine TL.nil ?_
            repeat refine TC.seq ?_
            have e2 : (n != n) = false := by simp
            refine TC.cond (b := false) (by simp only [St.ev, evs]; show some (V.m (.d (.bool (n != n)))) = _; rw [e2]) (fun hc => by cases hc) (fun _ => ?_)
            refine TC.skip ?_
            repeat refine TC.seq ?_
            refine TC.region ?_
            refine t_move rfl rfl ?_
            refine t_add64 rfl rfl rfl (by omega) ?_
            refine t_assign rfl rfl ?_
            refine TL.nil ?_
            exact again (k' := cs.length - (i + 1)) (by omega) ⟨i + 1, n + 1, _, rfl, by omega, by omega, by omega, rfl⟩ rfl ⟨by simp; rfl, rfl, rfl, rfl, rfl, trivial⟩
          | false =>
            refine TC.cond rfl (fun hc => by cases hc) (fun _ => ?_)
            refine TC.skip ?_
            repeat refine TC.seq ?_
            refine TC.region ?_
            refine t_move rfl rfl ?_
            refine t_move rfl rfl ?_
            refine t_move rfl rfl ?_
            refine t_buildSlice rfl rfl rfl rfl rfl rfl rfl rfl ?_
            (refine t_callR (step00_ok n) rfl rfl ?_; rintro _ _ ⟨rfl, rfl⟩)
            refine t_move rfl rfl ?_
            refine t_extract rfl rfl rfl ?_
            refine t_extract rfl rfl rfl ?_
            refine t_assign rfl rfl ?_
            refine t_assign rfl rfl ?_
            refine TL.nil ?_
            repeat refine TC.seq ?_
            refine TC.region ?_
            refine t_move rfl rfl ?_
            refine t_int rfl rfl rfl rfl ?_
            refine t_move rfl rfl ?_
            first | refine t_guard_no rfl rfl ?_ | (refine t_guard_yes rfl ?_; (refine t_move rfl rfl ?_))
            first | refine t_guard_no rfl rfl ?_ | (refine t_guard_yes rfl ?_; (refine t_lenS rfl rfl rfl ?_))
            first | refine t_guard_no rfl rfl ?_ | (refine t_guard_yes rfl ?_; (refine t_int rfl rfl rfl rfl ?_))
            refine t_pick rfl rfl rfl ?_
            refine t_move rfl rfl ?_
            first | refine t_guard_no rfl rfl ?_ | (refine t_guard_yes rfl ?_; (refine t_move rfl rfl ?_))
            first | refine t_guard_no rfl rfl ?_ | (refine t_guard_yes rfl ?_; (refine t_indexD rfl rfl rfl (by decide) (r := [.int .i32 (-1)]) rfl rfl ?_))
            first | refine t_guard_no rfl rfl ?_ | (refine t_guard_yes rfl ?_; (first | refine t_loadDc rfl rfl rfl ?_ | refine t_loadLc rfl rfl rfl rfl ?_ | refine t_loadRc rfl rfl rfl rfl ?_))
            first | refine t_guard_no rfl rfl ?_ | (refine t_guard_yes rfl ?_; (refine t_move rfl rfl ?_))
            first | refine t_guard_no rfl rfl ?_ | (refine t_guard_yes rfl ?_; (refine t_int rfl rfl rfl rfl ?_))
            refine t_pick rfl rfl rfl ?_
            refine TL.nil ?_
            repeat refine TC.seq ?_
            refine TC.cond rfl (fun hc => by cases hc) (fun _ => ?_)
            refine TC.skip ?_
            repeat refine TC.seq ?_
            refine TC.region ?_
            refine t_move rfl rfl ?_
            refine t_add64 rfl rfl rfl (by omega) ?_
            refine t_assign rfl rfl ?_
            refine TL.nil ?_
            exact again (k' := cs.length - (i + 1)) (by omega) ⟨i + 1, n, _, rfl, by omega, by omega, by omega, rfl⟩ rfl ⟨by simp; rfl, rfl, rfl, rfl, rfl, trivial⟩
    · refine TC.exit ?_
      repeat refine TC.seq ?_
      refine TC.region ?_
      refine t_assign rfl rfl ?_
      refine TL.nil ?_
      exact TC.ret ⟨_, rfl, [_], rfl, rfl⟩
end Go.Proofs
