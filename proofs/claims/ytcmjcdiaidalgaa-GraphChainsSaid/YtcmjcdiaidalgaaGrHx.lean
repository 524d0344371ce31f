/- GraphChains: those that must stand ahead, the order, if it can be. -/
import Derived.Test.YtcmjcdiaidalgaaGrHw
namespace Go.Proofs
open Go.Mt Go.Gr
set_option maxRecDepth 4000
set_option linter.unusedSimpArgs false
set_option linter.unusedVariables false

instance : IsFn Try.prog 21 := isFn_of (by kernel_rfl)
instance : IsFn Try.prog 29 := isFn_of (by kernel_rfl)
instance : IsFn Try.prog 14 := isFn_of (by kernel_rfl)
theorem told_ok (xs : List Int) (hw : ∀ x ∈ xs, 0 ≤ x ∧ x < 65536) (hxn : xs.length ≤ 14) : PT Try.prog 14 [.agg (chainC xs)] (· = [.bool true]) := by
  have hed := edges_ok xs hw hxn
  have hEd := Edges_ok xs hw hxn
  have hes := esL_lt xs
  have hsm := esL_small hw hxn
  have hn : (esL xs).length ≤ 14 := by rw [esL_len]; exact hxn
  have hord := order_ok (esL xs) hes hn hsm
  have hOrd := Order_ok xs hw hxn
  have hSor := Sorted_ok xs hw hxn
  have hCyc := Cycle_ok xs hw hxn
  have hoc := order_cycle hes
  have ho : InI .i64 (toI (ordL (esL xs))) (.sl (natsR (ordL (esL xs)))) := ⟨by simp [slLen, natsR, toI], .inr (by rw [toI_rows]), by
    intro z hz
    obtain ⟨y, hy, rfl⟩ := List.mem_map.1 hz
    apply wfI64
    rcases ordL_spec (esL xs) with ⟨h1, _⟩ | ⟨h1, _⟩
    · have := h1.lt y hy; omega
    · rw [h1] at hy; cases hy⟩
  have hR := Right_ok xs _ _ hw hxn ho
  have hlaw := ordL_law (esL xs)
  have hsame := fun (l : List Nat) (h : l.length ≤ 1000) => same_ok l h
  have hlt : ∀ q ∈ ordL (esL xs), q < xs.length := by
    intro q hq
    rcases ordL_spec (esL xs) with ⟨h1, _⟩ | ⟨h1, _⟩
    · have := h1.lt q hq; rw [esL_len] at this; exact this
    · rw [h1] at hq; cases hq
  have hll : (ordL (esL xs)).length ≤ 14 := by
    rcases ordL_spec (esL xs) with ⟨_, h1⟩ | ⟨h1, _⟩
    · rw [h1, esL_len]; exact hxn
    · rw [h1]; simp
  unfold sortedC at hSor
  generalize hE : esL xs = es at hed hEd hes hsm hn hord hOrd hSor hCyc hoc hR hlaw hlt hll
  generalize isOrd es (toI (ordL es)) = C at hR hlaw
  generalize ordL es = l at hord hOrd hSor hoc hR hlaw hlt hll
  have hcan : ((l.length : Int) == (es.length : Int)) = decide (l.length = es.length) := by
    rw [Bool.eq_iff_iff]; simp only [beq_iff_eq, decide_eq_true_eq]; omega
  have hl0 : ¬ l.length = es.length → True := fun _ => trivial
  have hA : (l.length = es.length) ↔ decide (l.length = es.length) = true := by simp
  have hCc : C = decide (l.length = es.length) := by rw [hlaw, Bool.eq_iff_iff]; simp
  have hcy : ∀ w, CycOk es w → ((w.length : Int) == 0) = decide (l.length = es.length) := by
    intro w h
    rw [Bool.eq_iff_iff]; simp only [beq_iff_eq, decide_eq_true_eq]
    rw [hoc]
    rcases h with ⟨rfl, h⟩ | ⟨h0, i, hi, _, hw⟩
    · exact ⟨fun _ => h, fun _ => rfl⟩
    · constructor
      · intro h; omega
      · intro h
        rcases hw with ⟨rfl, _⟩ | ⟨_, _, _, h5, _⟩
        · simp at h0
        · exact absurd h5 (h i hi _ h0)
  rw [hCc] at hR
  clear hlaw hCc hoc hA hl0
  generalize decide (l.length = es.length) = A at hOrd hSor hcan hR hcy
  refine PT.of_CT (CT.of_body Try.func14 rfl Try.ntmps14 rfl fun s0 Oo => ?_)
  refine TC.base fun hbase => ?_
  repeat refine TC.seq ?_
  refine TC.region ?_
  refine t_box rfl rfl ?_
  refine t_assign rfl rfl ?_
  refine TL.nil ?_
  repeat refine TC.seq ?_
  refine TC.region ?_
  first | refine t_loadDw rfl rfl rfl ?_ | refine t_loadDa rfl rfl rfl ?_ | refine t_loadLa rfl rfl rfl rfl rfl ?_ | refine t_loadRa rfl rfl rfl rfl rfl ?_
  refine t_call1 hed rfl rfl ?_
  refine t_assign rfl rfl ?_
  refine TL.nil ?_
  repeat refine TC.seq ?_
  refine TC.region ?_
  first | refine t_loadDw rfl rfl rfl ?_ | refine t_loadDa rfl rfl rfl ?_ | refine t_loadLa rfl rfl rfl rfl rfl ?_ | refine t_loadRa rfl rfl rfl rfl rfl ?_
  refine t_call1 hEd rfl rfl ?_
  refine t_assign rfl rfl ?_
  refine TL.nil ?_
  repeat refine TC.seq ?_
  refine TC.region ?_
  refine t_move rfl rfl ?_
  (refine t_lenS rfl rfl rfl ?_; rw [rowsL_len])
  refine t_move rfl rfl ?_
  (refine t_lenS rfl rfl rfl ?_; rw [rowsL_len])
  (refine t_int rfl rfl rfl (r := .bool false) (by show some (D.bool ((es.length : Int) != (es.length : Int))) = _; simp) ?_)
  refine TL.nil ?_
  repeat refine TC.seq ?_
  refine TC.cond rfl (fun hc => by cases hc) (fun hc => ?_)
  refine TC.skip ?_
  repeat refine TC.seq ?_
  refine TC.region ?_
  refine t_assign rfl rfl ?_
  refine TL.nil ?_
  refine TC.rename [(5, .m (.d (.int .i64 ((0 : Nat) : Int)))), (4, .m (.d (.sl (rowsL es)))), (3, .m (.d (.sl (rowsL es)))), (1, .m (.d (.pim (chainC xs) 0)))] [] ⟨rfl, rfl, rfl, rfl, trivial⟩ rfl ?_
  repeat refine TC.seq ?_
  refine TC.block ?_
  refine TC.loopB (fun k s => ∃ (i : Nat), s = ⟨[(5, .m (.d (.int .i64 (i : Int)))), (4, .m (.d (.sl (rowsL es)))), (3, .m (.d (.sl (rowsL es)))), (1, .m (.d (.pim (chainC xs) 0)))], [], []⟩ ∧ i ≤ es.length ∧ k = es.length - i) es.length _
    ⟨0, rfl, by omega, rfl⟩ ⟨rfl, rfl, rfl, rfl, trivial⟩ ?_
  rintro k s ⟨i, rfl, hi, rfl⟩
  repeat refine TC.seq ?_
  refine TC.region ?_
  refine t_move rfl rfl ?_
  refine t_move rfl rfl ?_
  (refine t_lenS rfl rfl rfl ?_; rw [rowsL_len])
  refine t_int rfl rfl rfl rfl ?_
  refine TL.nil ?_
  repeat refine TC.seq ?_
  refine TC.cond rfl (fun hc => ?_) (fun hc => ?_)
  · have hc' : i < es.length := by have := of_decide_eq_true hc; omega
    clear hc
    have hrow := rowsL_get hc'
    have hksl : (es.getD i []).length ≤ 14 := by
      rw [List.getD_eq_getElem?_getD, List.getElem?_eq_getElem hc']
      exact hsm _ (List.getElem_mem hc')
    generalize es.getD i [] = ks at hrow hksl
    refine TC.skip ?_
    repeat refine TC.seq ?_
    refine TC.block ?_
    repeat refine TC.seq ?_
    refine TC.draw mixed ?_
    refine f_move rfl rfl ?_
    refine f_move rfl rfl ?_
    refine f_indexD rfl rfl rfl (Int.natCast_nonneg i) hrow rfl ?_
    first | refine f_loadDc rfl rfl rfl ?_ | refine f_loadLc rfl rfl rfl rfl ?_ | refine f_loadRc rfl rfl rfl rfl ?_
    refine f_move rfl rfl ?_
    refine f_move rfl rfl ?_
    refine f_indexD rfl rfl rfl (Int.natCast_nonneg i) hrow rfl ?_
    first | refine f_loadDc rfl rfl rfl ?_ | refine f_loadLc rfl rfl rfl rfl ?_ | refine f_loadRc rfl rfl rfl rfl ?_
    refine f_call1 (hsame ks (by omega)) rfl rfl ?_
    refine f_not rfl rfl ?_
    refine TF.nil ⟨by kernel_rfl, ?_⟩
    repeat refine TC.seq ?_
    refine TC.cond rfl (fun hc => by cases hc) (fun hc => ?_)
    refine TC.skip ?_
    repeat refine TC.seq ?_
    refine TC.region ?_
    refine t_move rfl rfl ?_
    refine t_add64 rfl rfl rfl (by omega) ?_
    refine t_assign rfl rfl ?_
    refine TL.nil ?_
    exact again (k' := es.length - (i + 1)) (by omega) ⟨i + 1, rfl, by omega, rfl⟩ rfl ⟨by simp; rfl, rfl, rfl, rfl, trivial⟩
  refine TC.exit ?_
  clear hc hi
  repeat refine TC.seq ?_
  refine TC.region ?_
  refine t_move rfl rfl ?_
  refine t_call1 hord rfl rfl ?_
  refine t_assign rfl rfl ?_
  refine TL.nil ?_
  repeat refine TC.seq ?_
  refine TC.region ?_
  first | refine t_loadDw rfl rfl rfl ?_ | refine t_loadDa rfl rfl rfl ?_ | refine t_loadLa rfl rfl rfl rfl rfl ?_ | refine t_loadRa rfl rfl rfl rfl rfl ?_
  (refine t_callR (CT.of_PT hOrd) rfl rfl ?_; rintro _ _ ⟨⟨_, rfl, rfl⟩, rfl⟩)
  refine t_move rfl rfl ?_
  refine t_extract rfl rfl rfl ?_
  refine t_extract rfl rfl rfl ?_
  refine t_assign rfl rfl ?_
  refine t_assign rfl rfl ?_
  refine TL.nil ?_
  repeat refine TC.seq ?_
  refine TC.region ?_
  refine t_move rfl rfl ?_
  (refine t_lenS rfl rfl rfl ?_; rw [natsR_len])
  refine t_move rfl rfl ?_
  (refine t_lenS rfl rfl rfl ?_; rw [rowsL_len])
  (refine t_int rfl rfl rfl rfl ?_; rw [hcan])
  refine t_assign rfl rfl ?_
  refine TL.nil ?_
  cases A with
  | true =>
    repeat refine TC.seq ?_
    refine TC.region ?_
    first | refine t_loadDw rfl rfl rfl ?_ | refine t_loadDa rfl rfl rfl ?_ | refine t_loadLa rfl rfl rfl rfl rfl ?_ | refine t_loadRa rfl rfl rfl rfl rfl ?_
    (refine t_callR (CT.of_PT hSor) rfl rfl ?_; rintro _ _ ⟨⟨_, rfl, rfl⟩, rfl⟩)
    refine t_move rfl rfl ?_
    refine t_extract rfl rfl rfl ?_
    refine t_extract rfl rfl rfl ?_
    refine t_alloc rfl rfl ?_
    refine t_storeL rfl rfl rfl rfl rfl rfl ?_
    refine t_assign rfl rfl ?_
    refine TL.nil ?_
    repeat refine TC.seq ?_
    refine TC.region ?_
    refine t_move rfl rfl ?_
    refine t_move rfl rfl ?_
    refine t_bne rfl rfl rfl ?_
    refine t_move rfl rfl ?_
    first | refine t_guard_no rfl rfl ?_ | (refine t_guard_yes rfl ?_; (refine t_move rfl rfl ?_))
    first | refine t_guard_no rfl rfl ?_ | (refine t_guard_yes rfl ?_; (refine t_move rfl rfl ?_))
    first | refine t_guard_no rfl rfl ?_ | (refine t_guard_yes rfl ?_; (refine t_bne rfl rfl rfl ?_))
    refine t_pick rfl rfl rfl ?_
    refine t_move rfl rfl ?_
    first | refine t_guard_no rfl rfl ?_ | (refine t_guard_yes rfl ?_; (refine t_move rfl rfl ?_))
    first | refine t_guard_no rfl rfl ?_ | (refine t_guard_yes rfl ?_; (refine t_move rfl rfl ?_))
    first | refine t_guard_no rfl rfl ?_ | (refine t_guard_yes rfl ?_; (refine t_call1 (hsame l (by omega)) rfl rfl ?_))
    first | refine t_guard_no rfl rfl ?_ | (refine t_guard_yes rfl ?_; (refine t_not rfl rfl ?_))
    refine t_pick rfl rfl rfl ?_
    refine t_move rfl rfl ?_
    first | refine t_guard_no rfl rfl ?_ | (refine t_guard_yes rfl ?_; (refine t_move rfl rfl ?_))
    first | refine t_guard_no rfl rfl ?_ | (refine t_guard_yes rfl ?_; (refine t_move rfl rfl ?_))
    first | refine t_guard_no rfl rfl ?_ | (refine t_guard_yes rfl ?_; (first | refine t_loadDw rfl rfl rfl ?_ | refine t_loadDa rfl rfl rfl ?_ | refine t_loadLa rfl rfl rfl rfl rfl ?_ | refine t_loadRa rfl rfl rfl rfl rfl ?_))
    first | refine t_guard_no rfl rfl ?_ | (refine t_guard_yes rfl ?_; (refine t_move rfl rfl ?_))
    first | refine t_guard_no rfl rfl ?_ | (refine t_guard_yes rfl ?_; (refine t_call1 hR rfl rfl ?_))
    first | refine t_guard_no rfl rfl ?_ | (refine t_guard_yes rfl ?_; (refine t_not rfl rfl ?_))
    first | refine t_guard_no rfl rfl ?_ | (refine t_guard_yes rfl ?_; (refine t_pick rfl rfl rfl ?_))
    refine t_pick rfl rfl rfl ?_
    refine t_move rfl rfl ?_
    first | refine t_guard_no rfl rfl ?_ | (refine t_guard_yes rfl ?_; (first | refine t_loadDw rfl rfl rfl ?_ | refine t_loadDa rfl rfl rfl ?_ | refine t_loadLa rfl rfl rfl rfl rfl ?_ | refine t_loadRa rfl rfl rfl rfl rfl ?_))
    first | refine t_guard_no rfl rfl ?_ | (refine t_guard_yes rfl ?_; ((refine t_callR (CT.of_PT hCyc) rfl rfl ?_; rintro _ _ ⟨⟨_, rfl, w, rfl, hc2⟩, rfl⟩)))
    first | refine t_guard_no rfl rfl ?_ | (refine t_guard_yes rfl ?_; ((refine t_lenS rfl rfl rfl ?_; rw [natsR_len])))
    first | refine t_guard_no rfl rfl ?_ | (refine t_guard_yes rfl ?_; ((refine t_int rfl rfl rfl rfl ?_; rw [hcy w hc2])))
    first | refine t_guard_no rfl rfl ?_ | (refine t_guard_yes rfl ?_; (refine t_move rfl rfl ?_))
    first | refine t_guard_no rfl rfl ?_ | (refine t_guard_yes rfl ?_; (refine t_bne rfl rfl rfl ?_))
    refine t_pick rfl rfl rfl ?_
    refine TL.nil ?_
    repeat refine TC.seq ?_
    refine TC.cond rfl (fun hc => by cases hc) (fun hc => ?_)
    refine TC.skip ?_
    repeat refine TC.seq ?_
    refine TC.region ?_
    refine t_assign rfl rfl ?_
    refine TL.nil ?_
    refine TC.rename [(12, .m (.d (.int .i64 ((0 : Nat) : Int)))), (11, .m (.d (.bool true))), (10, .loc 10 0), (7, .m (.d (.sl (natsR l)))), (1, .m (.d (.pim (chainC xs) 0)))] [] ⟨rfl, rfl, rfl, rfl, rfl, trivial⟩ rfl ?_
    repeat refine TC.seq ?_
    refine TC.block ?_
    refine TC.loopB (fun k s => ∃ (i : Nat) (bx : List (Nat × List M)), s = ⟨[(12, .m (.d (.int .i64 (i : Int)))), (11, .m (.d (.bool true))), (10, .loc 10 0), (7, .m (.d (.sl (natsR l)))), (1, .m (.d (.pim (chainC xs) 0)))], bx, []⟩ ∧ Go.Mt.get bx 10 = some ([.str nameF, .sl [], .sl [], .sl (varsD xs.length), .sl (ordRows xs l)].map .d) ∧ i ≤ l.length ∧ k = l.length - i) l.length _
      ⟨0, _, rfl, rfl, by omega, rfl⟩ ⟨rfl, rfl, rfl, rfl, rfl, trivial⟩ ?_
    rintro k s ⟨i, bx, rfl, hbx, hi, rfl⟩
    repeat refine TC.seq ?_
    refine TC.region ?_
    refine t_move rfl rfl ?_
    refine t_move rfl rfl ?_
    first | refine t_guard_no rfl rfl ?_ | (refine t_guard_yes rfl ?_; (refine t_move rfl rfl ?_))
    first | refine t_guard_no rfl rfl ?_ | (refine t_guard_yes rfl ?_; (refine t_move rfl rfl ?_))
    first | refine t_guard_no rfl rfl ?_ | (refine t_guard_yes rfl ?_; ((refine t_lenS rfl rfl rfl ?_; rw [natsR_len])))
    first | refine t_guard_no rfl rfl ?_ | (refine t_guard_yes rfl ?_; (refine t_int rfl rfl rfl rfl ?_))
    refine t_pick rfl rfl rfl ?_
    refine TL.nil ?_
    repeat refine TC.seq ?_
    refine TC.cond rfl (fun hc => ?_) (fun hc => ?_)
    · have hc' : i < l.length := by have := of_decide_eq_true hc; omega
      clear hc
      have hq := hlt _ (List.getElem_mem hc')
      have hgj := natsR_get hc'
      have hgr := ordRows_get (xs := xs) hc'
      generalize l[i] = q at hq hgj hgr
      have hget := eqsD_get (xs := xs) hq
      obtain ⟨f0, f1, f2, f3, f4, f5, f6, f7, e0, e1, e2, e3, e4, e5, he, _⟩ := eqOf_shape xs q
      rw [he] at hget hgr
      refine TC.skip ?_
      repeat refine TC.seq ?_
      refine TC.block ?_
      repeat refine TC.seq ?_
      refine TC.draw mixed ?_
      first | refine f_fieldD rfl rfl ?_ | refine f_fieldL rfl rfl ?_ | refine f_fieldR rfl rfl ?_ | refine f_fieldW rfl rfl ?_
      refine f_loadLc rfl rfl hbx rfl ?_
      refine f_move rfl rfl ?_
      refine f_indexD rfl rfl rfl (Int.natCast_nonneg i) hgr rfl ?_
      first | refine f_fieldD rfl rfl ?_ | refine f_fieldL rfl rfl ?_ | refine f_fieldR rfl rfl ?_ | refine f_fieldW rfl rfl ?_
      first | refine f_loadDc rfl rfl rfl ?_ | refine f_loadLc rfl rfl rfl rfl ?_ | refine f_loadRc rfl rfl rfl rfl ?_
      first | refine f_fieldD rfl rfl ?_ | refine f_fieldL rfl rfl ?_ | refine f_fieldR rfl rfl ?_ | refine f_fieldW rfl rfl ?_
      first | refine f_loadDc rfl rfl rfl ?_ | refine f_loadLc rfl rfl rfl rfl ?_ | refine f_loadRc rfl rfl rfl rfl ?_
      refine f_move rfl rfl ?_
      refine f_move rfl rfl ?_
      refine f_indexD rfl rfl rfl (Int.natCast_nonneg i) hgj rfl ?_
      first | refine f_loadDc rfl rfl rfl ?_ | refine f_loadLc rfl rfl rfl rfl ?_ | refine f_loadRc rfl rfl rfl rfl ?_
      refine f_indexD rfl rfl rfl (Int.natCast_nonneg q) hget rfl ?_
      first | refine f_fieldD rfl rfl ?_ | refine f_fieldL rfl rfl ?_ | refine f_fieldR rfl rfl ?_ | refine f_fieldW rfl rfl ?_
      first | refine f_loadDc rfl rfl rfl ?_ | refine f_loadLc rfl rfl rfl rfl ?_ | refine f_loadRc rfl rfl rfl rfl ?_
      refine f_call1 (sameN_ok [vn q] (by simp)) rfl rfl ?_
      refine f_not rfl rfl ?_
      refine TF.nil ⟨by kernel_rfl, ?_⟩
      repeat refine TC.seq ?_
      refine TC.cond rfl (fun hc => by cases hc) (fun hc => ?_)
      refine TC.skip ?_
      repeat refine TC.seq ?_
      refine TC.region ?_
      refine t_move rfl rfl ?_
      refine t_add64 rfl rfl rfl (by omega) ?_
      refine t_assign rfl rfl ?_
      refine TL.nil ?_
      exact again (k' := l.length - (i + 1)) (by omega) ⟨i + 1, bx, rfl, hbx, by omega, rfl⟩ rfl ⟨by simp; rfl, rfl, rfl, rfl, rfl, trivial⟩
    · refine TC.exit ?_
      repeat refine TC.seq ?_
      refine TC.region ?_
      refine t_assign rfl rfl ?_
      refine TL.nil ?_
      exact TC.ret ⟨_, rfl, [_], rfl, rfl⟩
  | false =>
    repeat refine TC.seq ?_
    refine TC.region ?_
    first | refine t_loadDw rfl rfl rfl ?_ | refine t_loadDa rfl rfl rfl ?_ | refine t_loadLa rfl rfl rfl rfl rfl ?_ | refine t_loadRa rfl rfl rfl rfl rfl ?_
    (refine t_callR (CT.of_PT hSor) rfl rfl ?_; rintro _ _ ⟨⟨_, rfl, rfl⟩, rfl⟩)
    refine t_move rfl rfl ?_
    refine t_extract rfl rfl rfl ?_
    refine t_extract rfl rfl rfl ?_
    refine t_alloc rfl rfl ?_
    refine t_storeL rfl rfl rfl rfl rfl rfl ?_
    refine t_assign rfl rfl ?_
    refine TL.nil ?_
    repeat refine TC.seq ?_
    refine TC.region ?_
    refine t_move rfl rfl ?_
    refine t_move rfl rfl ?_
    refine t_bne rfl rfl rfl ?_
    refine t_move rfl rfl ?_
    first | refine t_guard_no rfl rfl ?_ | (refine t_guard_yes rfl ?_; (refine t_move rfl rfl ?_))
    first | refine t_guard_no rfl rfl ?_ | (refine t_guard_yes rfl ?_; (refine t_move rfl rfl ?_))
    first | refine t_guard_no rfl rfl ?_ | (refine t_guard_yes rfl ?_; (refine t_bne rfl rfl rfl ?_))
    refine t_pick rfl rfl rfl ?_
    refine t_move rfl rfl ?_
    first | refine t_guard_no rfl rfl ?_ | (refine t_guard_yes rfl ?_; (refine t_move rfl rfl ?_))
    first | refine t_guard_no rfl rfl ?_ | (refine t_guard_yes rfl ?_; (refine t_move rfl rfl ?_))
    first | refine t_guard_no rfl rfl ?_ | (refine t_guard_yes rfl ?_; (refine t_call1 (hsame l (by omega)) rfl rfl ?_))
    first | refine t_guard_no rfl rfl ?_ | (refine t_guard_yes rfl ?_; (refine t_not rfl rfl ?_))
    refine t_pick rfl rfl rfl ?_
    refine t_move rfl rfl ?_
    first | refine t_guard_no rfl rfl ?_ | (refine t_guard_yes rfl ?_; (refine t_move rfl rfl ?_))
    first | refine t_guard_no rfl rfl ?_ | (refine t_guard_yes rfl ?_; (refine t_move rfl rfl ?_))
    first | refine t_guard_no rfl rfl ?_ | (refine t_guard_yes rfl ?_; (first | refine t_loadDw rfl rfl rfl ?_ | refine t_loadDa rfl rfl rfl ?_ | refine t_loadLa rfl rfl rfl rfl rfl ?_ | refine t_loadRa rfl rfl rfl rfl rfl ?_))
    first | refine t_guard_no rfl rfl ?_ | (refine t_guard_yes rfl ?_; (refine t_move rfl rfl ?_))
    first | refine t_guard_no rfl rfl ?_ | (refine t_guard_yes rfl ?_; (refine t_call1 hR rfl rfl ?_))
    first | refine t_guard_no rfl rfl ?_ | (refine t_guard_yes rfl ?_; (refine t_not rfl rfl ?_))
    first | refine t_guard_no rfl rfl ?_ | (refine t_guard_yes rfl ?_; (refine t_pick rfl rfl rfl ?_))
    refine t_pick rfl rfl rfl ?_
    refine t_move rfl rfl ?_
    first | refine t_guard_no rfl rfl ?_ | (refine t_guard_yes rfl ?_; (first | refine t_loadDw rfl rfl rfl ?_ | refine t_loadDa rfl rfl rfl ?_ | refine t_loadLa rfl rfl rfl rfl rfl ?_ | refine t_loadRa rfl rfl rfl rfl rfl ?_))
    first | refine t_guard_no rfl rfl ?_ | (refine t_guard_yes rfl ?_; ((refine t_callR (CT.of_PT hCyc) rfl rfl ?_; rintro _ _ ⟨⟨_, rfl, w, rfl, hc2⟩, rfl⟩)))
    first | refine t_guard_no rfl rfl ?_ | (refine t_guard_yes rfl ?_; ((refine t_lenS rfl rfl rfl ?_; rw [natsR_len])))
    first | refine t_guard_no rfl rfl ?_ | (refine t_guard_yes rfl ?_; ((refine t_int rfl rfl rfl rfl ?_; rw [hcy w hc2])))
    first | refine t_guard_no rfl rfl ?_ | (refine t_guard_yes rfl ?_; (refine t_move rfl rfl ?_))
    first | refine t_guard_no rfl rfl ?_ | (refine t_guard_yes rfl ?_; (refine t_bne rfl rfl rfl ?_))
    refine t_pick rfl rfl rfl ?_
    refine TL.nil ?_
    repeat refine TC.seq ?_
    refine TC.cond rfl (fun hc => by cases hc) (fun hc => ?_)
    refine TC.skip ?_
    repeat refine TC.seq ?_
    refine TC.region ?_
    refine t_assign rfl rfl ?_
    refine TL.nil ?_
    repeat refine TC.seq ?_
    refine TC.block ?_
    refine TC.loopB (fun k s => ∃ (bx : List (Nat × List M)), s = ⟨[(12, .m (.d (.int .i64 0))), (11, .m (.d (.bool false))), (7, .m (.d (.sl (natsR l))))], bx, []⟩ ∧ k = 0) 0 _
      ⟨_, rfl, rfl⟩ ⟨rfl, rfl, rfl, trivial⟩ ?_
    rintro k s ⟨bx, rfl, rfl⟩
    repeat refine TC.seq ?_
    refine TC.region ?_
    refine t_move rfl rfl ?_
    refine t_move rfl rfl ?_
    first | refine t_guard_no rfl rfl ?_ | (refine t_guard_yes rfl ?_; (refine t_move rfl rfl ?_))
    first | refine t_guard_no rfl rfl ?_ | (refine t_guard_yes rfl ?_; (refine t_move rfl rfl ?_))
    first | refine t_guard_no rfl rfl ?_ | (refine t_guard_yes rfl ?_; (refine t_lenS rfl rfl rfl ?_))
    first | refine t_guard_no rfl rfl ?_ | (refine t_guard_yes rfl ?_; (refine t_int rfl rfl rfl rfl ?_))
    refine t_pick rfl rfl rfl ?_
    refine TL.nil ?_
    repeat refine TC.seq ?_
    refine TC.cond rfl (fun hc => by cases hc) (fun hc => ?_)
    refine TC.exit ?_
    repeat refine TC.seq ?_
    refine TC.region ?_
    refine t_assign rfl rfl ?_
    refine TL.nil ?_
    exact TC.ret ⟨_, rfl, [_], rfl, rfl⟩
theorem GraphChains_true (zs0 : List Int) (v0 : D) (hin0 : InI .u16 zs0 v0) : PT Try.prog 5 [v0] (· = [.bool true]) := by
  have hch := chain_ok zs0 v0 hin0
  have hw : ∀ x ∈ zs0.take 14, 0 ≤ x ∧ x < 65536 := fun x hx => wfU16 (hin0.2.2 x (List.mem_of_mem_take hx))
  have hxn : (zs0.take 14).length ≤ 14 := by rw [List.length_take]; omega
  generalize zs0.take 14 = xs at hch hw hxn
  have ht := told_ok xs hw hxn
  refine PT.of_CT (CT.of_body Try.func5 rfl Try.ntmps5 rfl fun s0 Oo => ?_)
  repeat refine TC.seq ?_
  refine TC.region ?_
  refine t_assign rfl rfl ?_
  refine TL.nil ?_
  repeat refine TC.seq ?_
  refine TC.region ?_
  refine t_call1 graphAwake rfl rfl ?_
  refine t_not rfl rfl ?_
  refine TL.nil ?_
  repeat refine TC.seq ?_
  refine TC.cond rfl (fun hc => by cases hc) (fun hc => ?_)
  refine TC.skip ?_
  repeat refine TC.seq ?_
  refine TC.region ?_
  refine t_move rfl rfl ?_
  refine t_call1 hch rfl rfl ?_
  refine t_call1 ht rfl rfl ?_
  refine t_assign rfl rfl ?_
  refine TL.nil ?_
  exact TC.ret ⟨_, rfl, [_], rfl, rfl⟩
end Go.Proofs
