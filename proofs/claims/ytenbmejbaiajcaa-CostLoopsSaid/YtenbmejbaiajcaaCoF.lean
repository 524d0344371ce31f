import Derived.Test.YtenbmejbaiajcaaCoE
namespace Go.Proofs
open Go.Mt
set_option maxRecDepth 4000
set_option linter.unusedSimpArgs false
set_option linter.unusedVariables false

theorem memH_upd (p : List Fn) (m : Memo) (nm : ByteArray) (v : Int) : (memH p m).set 0 (.map (updM nm (.d (.int .i64 v)) (memE m))) = memH p (upd nm v m) := by rw [updM_memE]; rfl

/-- the parts that are alike -/
theorem fn_known (p : List Fn) (nm : ByteArray) (m : Memo) (v : Int) (hl : look nm m = some v) : CT Try.prog 14 [.ref 1 0, .d (.str nm)] (memH p m) fun x h => x = .d (.int .i64 v) ∧ h = memH p m := by
  refine CT.of_body Try.func14 rfl Try.ntmps14 rfl fun s0 Oo => ?_
  repeat refine TC.seq ?_
  refine TC.region ?_
  refine t_assign rfl rfl ?_
  refine TL.nil ?_
  repeat refine TC.seq ?_
  refine TC.region ?_
  refine t_move rfl rfl ?_
  refine t_nilCheck rfl rfl rfl ?_
  first | refine t_fieldD rfl rfl ?_ | refine t_fieldL rfl rfl ?_ | refine t_fieldR rfl rfl ?_
  first | refine t_loadDc rfl rfl rfl ?_ | refine t_loadLc rfl rfl rfl rfl ?_ | refine t_loadRc rfl rfl rfl rfl ?_
  refine t_move rfl rfl ?_
  (refine t_lookup2 rfl rfl rfl rfl (strKeys_memE m) ?_; rw [lookM_memE, hl])
  refine t_move rfl rfl ?_
  refine t_extract rfl rfl rfl ?_
  refine t_extract rfl rfl rfl ?_
  refine t_assign rfl rfl ?_
  refine t_assign rfl rfl ?_
  refine TL.nil ?_
  repeat refine TC.seq ?_
  refine TC.region ?_
  refine t_move rfl rfl ?_
  refine TL.nil ?_
  repeat refine TC.seq ?_
  refine TC.cond rfl (fun hc => ?_) (fun hc => by cases hc)
  repeat refine TC.seq ?_
  refine TC.region ?_
  refine t_move rfl rfl ?_
  refine t_assign rfl rfl ?_
  refine TL.nil ?_
  exact TC.ret ⟨_, rfl, rfl, rfl⟩
theorem fn_miss (p : List Fn) (nm : ByteArray) (m : Memo) (hl : look nm m = none) (hf : find p nm = none) : CT Try.prog 14 [.ref 1 0, .d (.str nm)] (memH p m) fun x h => x = .d (.int .i64 (-1)) ∧ h = memH p m := by
  refine CT.of_body Try.func14 rfl Try.ntmps14 rfl fun s0 Oo => ?_
  repeat refine TC.seq ?_
  refine TC.region ?_
  refine t_assign rfl rfl ?_
  refine TL.nil ?_
  repeat refine TC.seq ?_
  refine TC.region ?_
  refine t_move rfl rfl ?_
  refine t_nilCheck rfl rfl rfl ?_
  first | refine t_fieldD rfl rfl ?_ | refine t_fieldL rfl rfl ?_ | refine t_fieldR rfl rfl ?_
  first | refine t_loadDc rfl rfl rfl ?_ | refine t_loadLc rfl rfl rfl rfl ?_ | refine t_loadRc rfl rfl rfl rfl ?_
  refine t_move rfl rfl ?_
  (refine t_lookup2 rfl rfl rfl rfl (strKeys_memE m) ?_; rw [lookM_memE, hl])
  refine t_move rfl rfl ?_
  refine t_extract rfl rfl rfl ?_
  refine t_extract rfl rfl rfl ?_
  refine t_assign rfl rfl ?_
  refine t_assign rfl rfl ?_
  refine TL.nil ?_
  repeat refine TC.seq ?_
  refine TC.region ?_
  refine t_move rfl rfl ?_
  refine TL.nil ?_
  repeat refine TC.seq ?_
  refine TC.cond rfl (fun hc => by cases hc) (fun hc => ?_)
  refine TC.skip ?_
  repeat refine TC.seq ?_
  refine TC.region ?_
  refine t_move rfl rfl ?_
  refine t_nilCheck rfl rfl rfl ?_
  first | refine t_fieldD rfl rfl ?_ | refine t_fieldL rfl rfl ?_ | refine t_fieldR rfl rfl ?_
  first | refine t_loadDw rfl rfl rfl ?_ | refine t_loadDa rfl rfl rfl ?_ | refine t_loadLa rfl rfl rfl rfl rfl ?_ | refine t_loadRa rfl rfl rfl rfl rfl ?_
  refine t_move rfl rfl ?_
  (refine t_call1 (find_ok p nm) rfl rfl ?_; rw [hf])
  refine t_assign rfl rfl ?_
  refine TL.nil ?_
  repeat refine TC.seq ?_
  refine TC.region ?_
  refine t_move rfl rfl ?_
  refine t_int rfl rfl rfl rfl ?_
  refine TL.nil ?_
  repeat refine TC.seq ?_
  refine TC.cond rfl (fun hc => ?_) (fun hc => by cases hc)
  repeat refine TC.seq ?_
  refine TC.region ?_
  refine t_assign rfl rfl ?_
  refine TL.nil ?_
  exact TC.ret ⟨_, rfl, rfl, rfl⟩
theorem fn_run (p : List Fn) (F : Nat) (nm : ByteArray) (m m1 : Memo) (i : Nat) (r : Int) (hl : look nm m = none) (hf : find p nm = some i) (hm : MemoOk m) (hr : stmtsS (fnS p F) (bodyAt p i) 0 (upd nm (-1) m) = some (r, m1))
    (hS : ∀ l, StmtsC p F l) : CT Try.prog 14 [.ref 1 0, .d (.str nm)] (memH p m) fun x h => x = .d (.int .i64 r) ∧ h = memH p (upd nm r m1) := by
  have hi := find_lt hf
  have hb : bodyAt p i = p[i].body := by simp [bodyAt, hi]
  rw [hb] at hr
  have hcon := hS p[i].body _ r m1 (hm.upd (by omega)) hr
  refine CT.of_body Try.func14 rfl Try.ntmps14 rfl fun s0 Oo => ?_
  repeat refine TC.seq ?_
  refine TC.region ?_
  refine t_assign rfl rfl ?_
  refine TL.nil ?_
  repeat refine TC.seq ?_
  refine TC.region ?_
  refine t_move rfl rfl ?_
  refine t_nilCheck rfl rfl rfl ?_
  first | refine t_fieldD rfl rfl ?_ | refine t_fieldL rfl rfl ?_ | refine t_fieldR rfl rfl ?_
  first | refine t_loadDc rfl rfl rfl ?_ | refine t_loadLc rfl rfl rfl rfl ?_ | refine t_loadRc rfl rfl rfl rfl ?_
  refine t_move rfl rfl ?_
  (refine t_lookup2 rfl rfl rfl rfl (strKeys_memE m) ?_; rw [lookM_memE, hl])
  refine t_move rfl rfl ?_
  refine t_extract rfl rfl rfl ?_
  refine t_extract rfl rfl rfl ?_
  refine t_assign rfl rfl ?_
  refine t_assign rfl rfl ?_
  refine TL.nil ?_
  repeat refine TC.seq ?_
  refine TC.region ?_
  refine t_move rfl rfl ?_
  refine TL.nil ?_
  repeat refine TC.seq ?_
  refine TC.cond rfl (fun hc => by cases hc) (fun hc => ?_)
  refine TC.skip ?_
  repeat refine TC.seq ?_
  refine TC.region ?_
  refine t_move rfl rfl ?_
  refine t_nilCheck rfl rfl rfl ?_
  first | refine t_fieldD rfl rfl ?_ | refine t_fieldL rfl rfl ?_ | refine t_fieldR rfl rfl ?_
  first | refine t_loadDw rfl rfl rfl ?_ | refine t_loadDa rfl rfl rfl ?_ | refine t_loadLa rfl rfl rfl rfl rfl ?_ | refine t_loadRa rfl rfl rfl rfl rfl ?_
  refine t_move rfl rfl ?_
  (refine t_call1 (find_ok p nm) rfl rfl ?_; rw [hf])
  refine t_assign rfl rfl ?_
  refine TL.nil ?_
  repeat refine TC.seq ?_
  refine TC.region ?_
  refine t_move rfl rfl ?_
  refine t_int rfl rfl rfl rfl ?_
  refine TL.nil ?_
  repeat refine TC.seq ?_
  refine TC.cond rfl (fun hc => absurd (of_decide_eq_true hc) (idx_nonneg i)) (fun hc => ?_)
  refine TC.skip ?_
  repeat refine TC.seq ?_
  refine TC.region ?_
  refine t_move rfl rfl ?_
  refine t_nilCheck rfl rfl rfl ?_
  first | refine t_fieldD rfl rfl ?_ | refine t_fieldL rfl rfl ?_ | refine t_fieldR rfl rfl ?_
  first | refine t_loadDc rfl rfl rfl ?_ | refine t_loadLc rfl rfl rfl rfl ?_ | refine t_loadRc rfl rfl rfl rfl ?_
  refine t_move rfl rfl ?_
  (refine t_mapUpdate rfl rfl rfl rfl (strKeys_memE m) ?_; rw [memH_upd])
  refine TL.nil ?_
  repeat refine TC.seq ?_
  refine TC.region ?_
  refine t_move rfl rfl ?_
  refine t_move rfl rfl ?_
  refine t_nilCheck rfl rfl rfl ?_
  first | refine t_fieldD rfl rfl ?_ | refine t_fieldL rfl rfl ?_ | refine t_fieldR rfl rfl ?_
  first | refine t_fieldD rfl rfl ?_ | refine t_fieldL rfl rfl ?_ | refine t_fieldR rfl rfl ?_
  first | refine t_loadDc rfl rfl rfl ?_ | refine t_loadLc rfl rfl rfl rfl ?_ | refine t_loadRc rfl rfl rfl rfl ?_
  refine t_move rfl rfl ?_
  refine t_indexD rfl rfl rfl (Int.natCast_nonneg i) (r := p[i].enc) (enc_get hi) rfl ?_
  first | refine t_fieldD rfl rfl ?_ | refine t_fieldL rfl rfl ?_ | refine t_fieldR rfl rfl ?_
  first | refine t_loadDc rfl rfl rfl ?_ | refine t_loadLc rfl rfl rfl rfl ?_ | refine t_loadRc rfl rfl rfl rfl ?_
  (refine t_callR hcon rfl rfl ?_; rintro _ _ ⟨rfl, rfl⟩)
  refine t_assign rfl rfl ?_
  refine TL.nil ?_
  repeat refine TC.seq ?_
  refine TC.region ?_
  refine t_move rfl rfl ?_
  refine t_nilCheck rfl rfl rfl ?_
  first | refine t_fieldD rfl rfl ?_ | refine t_fieldL rfl rfl ?_ | refine t_fieldR rfl rfl ?_
  first | refine t_loadDc rfl rfl rfl ?_ | refine t_loadLc rfl rfl rfl rfl ?_ | refine t_loadRc rfl rfl rfl rfl ?_
  refine t_move rfl rfl ?_
  refine t_move rfl rfl ?_
  (refine t_mapUpdate rfl rfl rfl rfl (strKeys_memE m1) ?_; rw [memH_upd])
  refine TL.nil ?_
  repeat refine TC.seq ?_
  refine TC.region ?_
  refine t_move rfl rfl ?_
  refine t_assign rfl rfl ?_
  refine TL.nil ?_
  exact TC.ret ⟨_, rfl, rfl, rfl⟩

theorem fn_all (p : List Fn) : ∀ F, FnC p F
  | 0 => by
    intro nm m r m' hm hr
    simp only [fnS] at hr
    split at hr
    · rename_i v hv; simp at hr; obtain ⟨rfl, rfl⟩ := hr; exact fn_known p nm m v hv
    · rename_i hv
      split at hr
      · rename_i hf; simp at hr; obtain ⟨rfl, rfl⟩ := hr; exact fn_miss p nm m hv hf
      · cases hr
  | F + 1 => by
    intro nm m r m' hm hr
    simp only [fnS] at hr
    split at hr
    · rename_i v hv; simp at hr; obtain ⟨rfl, rfl⟩ := hr; exact fn_known p nm m v hv
    · rename_i hv
      split at hr
      · rename_i hf; simp at hr; obtain ⟨rfl, rfl⟩ := hr; exact fn_miss p nm m hv hf
      · rename_i i hf
        split at hr
        · cases hr
        · rename_i r0 m0 h0
          simp at hr; obtain ⟨rfl, rfl⟩ := hr
          exact fn_run p F nm m m0 i r0 hv hf hm h0 fun l => stmts_all p F (fn_all p F) (S.szs l + 1) l (by omega)

/-- Steps, where the answer is known with the fuel F -/
theorem steps_ok (p : List Fn) (nm : ByteArray) (F : Nat) (r : Int) (m : Memo) (h : fnS p F nm [] = some (r, m)) : PT Try.prog 7 [.agg (progC p), .str nm] (· = [.int .i64 r]) := by
  have hcon := fn_all p F nm [] r m (by intro e he; cases he) h
  refine PT.of_CT (CT.of_body Try.func7 rfl Try.ntmps7 rfl fun s0 Oo => ?_)
  repeat refine TC.seq ?_
  refine TC.region ?_
  refine t_box rfl rfl ?_
  refine t_assign rfl rfl ?_
  refine TL.nil ?_
  repeat refine TC.seq ?_
  refine TC.region ?_
  first | refine t_loadDw rfl rfl rfl ?_ | refine t_loadDa rfl rfl rfl ?_ | refine t_loadLa rfl rfl rfl rfl rfl ?_ | refine t_loadRa rfl rfl rfl rfl rfl ?_
  refine t_makeMap rfl ?_
  refine t_buildM rfl rfl rfl rfl rfl ?_
  refine t_boxH rfl rfl rfl ?_
  refine t_assign rfl rfl ?_
  refine TL.nil ?_
  repeat refine TC.seq ?_
  refine TC.region ?_
  refine t_move rfl rfl ?_
  refine t_move rfl rfl ?_
  (refine t_callR hcon rfl rfl ?_; rintro _ _ ⟨rfl, rfl⟩)
  refine t_assign rfl rfl ?_
  refine TL.nil ?_
  exact TC.ret ⟨_, rfl, [_], rfl, rfl⟩

/-- the document's example -/
def exF : Fn := ⟨⟨#[102]⟩, [.ite [.set ⟨#[97]⟩] []]⟩
theorem awake_ok : PT Try.prog 4 [] (· = [.bool true]) := by
  have h : fnS [exF] 1 ⟨#[102]⟩ [] = some (4, [(⟨#[102]⟩, 4)]) := by decide
  refine PT.of_CT (CT.of_body Try.func4 rfl Try.ntmps4 rfl fun s0 Oo => ?_)
  repeat refine TC.seq ?_
  refine TC.region ?_
  refine t_assign rfl rfl ?_
  refine TL.nil ?_
  repeat refine TC.seq ?_
  refine TC.region ?_
  refine t_call1 (num_ok 1) rfl rfl ?_
  refine t_call1 (num_ok 1) rfl rfl ?_
  refine t_build rfl rfl rfl rfl rfl ?_
  refine t_buildSlice rfl rfl rfl rfl rfl rfl rfl rfl ?_
  refine t_build rfl rfl rfl rfl rfl ?_
  refine t_buildSlice rfl rfl rfl rfl rfl rfl rfl rfl ?_
  refine t_build rfl rfl rfl rfl rfl ?_
  refine t_alloc rfl rfl ?_
  refine t_storeL rfl rfl rfl rfl rfl rfl ?_
  refine TL.nil ?_
  repeat refine TC.seq ?_
  refine TC.region ?_
  first | refine t_loadDw rfl rfl rfl ?_ | refine t_loadDa rfl rfl rfl ?_ | refine t_loadLa rfl rfl rfl rfl rfl ?_ | refine t_loadRa rfl rfl rfl rfl rfl ?_
  refine t_buildSlice rfl rfl rfl rfl rfl rfl rfl rfl ?_
  refine t_build rfl rfl rfl rfl rfl ?_
  refine t_call1 (steps_ok [exF] ⟨#[102]⟩ 1 4 _ h) rfl rfl ?_
  refine t_int rfl rfl rfl rfl ?_
  refine t_move rfl rfl ?_
  first | refine t_guard_no rfl rfl ?_ | (refine t_guard_yes rfl ?_; (refine t_call1 (num_ok 3) rfl rfl ?_))
  first | refine t_guard_no rfl rfl ?_ | (refine t_guard_yes rfl ?_; (refine t_call1 (expr_ok 3) rfl rfl ?_))
  first | refine t_guard_no rfl rfl ?_ | (refine t_guard_yes rfl ?_; (refine t_int rfl rfl rfl rfl ?_))
  refine t_pick rfl rfl rfl ?_
  refine t_assign rfl rfl ?_
  refine TL.nil ?_
  exact TC.ret ⟨_, rfl, [_], rfl, rfl⟩
end Go.Proofs
