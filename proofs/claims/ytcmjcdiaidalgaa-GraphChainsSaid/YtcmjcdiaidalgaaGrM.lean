/- The order, as the law reckons it: each time the first that may come. -/
import Derived.Test.YtcmjcdiaidalgaaGrL
namespace Go.Proofs
open Go.Mt
set_option maxRecDepth 4000
set_option linter.unusedSimpArgs false
set_option linter.unusedVariables false

def doneN (o : List Nat) (k : Nat) : D := .bool (o.contains k)
def mayN (es : List (List Nat)) (o : List Nat) (i : Nat) : Bool := !o.contains i && (es.getD i []).all o.contains
def nxt (es : List (List Nat)) (o : List Nat) (m : Nat) : Option Nat := ((List.range es.length).drop m).find? (mayN es o)
def nxtV : Option Nat → Int
  | none => -1
  | some k => k
theorem nxt_zero (es : List (List Nat)) (o : List Nat) : nxt es o 0 = Go.Gr.nextL es o := rfl
theorem nxt_end (es : List (List Nat)) (o : List Nat) : nxt es o es.length = none := by unfold nxt; rw [List.drop_of_length_le (by simp)]; rfl
theorem nxt_step {es : List (List Nat)} {o : List Nat} {m : Nat} (h : m < es.length) : nxt es o m = bif mayN es o m then some m else nxt es o (m + 1) := by
  unfold nxt
  have e : (List.range es.length).drop m = m :: (List.range es.length).drop (m + 1) := by
    rw [List.drop_eq_getElem_cons (by simpa using h)]; simp
  rw [e, List.find?_cons]
  cases mayN es o m <;> rfl
theorem ordGo_step {es : List (List Nat)} {o : List Nat} (h : o.length < es.length) : Go.Gr.ordGo es (es.length - o.length) o = match Go.Gr.nextL es o with
    | none => []
    | some i => Go.Gr.ordGo es (es.length - (o ++ [i]).length) (o ++ [i]) := by
  obtain ⟨f, hf⟩ : ∃ f, es.length - o.length = f + 1 := ⟨es.length - o.length - 1, by omega⟩
  rw [hf, Go.Gr.ordGo]
  cases Go.Gr.nextL es o with
  | none => rfl
  | some i =>
    have e : es.length - (o ++ [i]).length = f := by simp; omega
    simp only [e]
theorem order_ok (es : List (List Nat)) (hes : ∀ e ∈ es, ∀ k ∈ e, k < es.length) (hn : es.length ≤ 14) (hsm : ∀ e ∈ es, e.length ≤ 14) : PT Try.prog 12 [.sl (rowsL es)] (· = [.sl (natsR (Go.Gr.ordL es))]) := by
  refine PT.of_CT (CT.of_body Try.func12 rfl Try.ntmps12 rfl fun s0 Oo => ?_)
  refine TC.base fun hbase => ?_
  repeat refine TC.seq ?_
  refine TC.region ?_
  refine t_assign rfl rfl ?_
  refine TL.nil ?_
  repeat refine TC.seq ?_
  refine TC.region ?_
  refine t_assign rfl rfl ?_
  refine TL.nil ?_
  repeat refine TC.seq ?_
  refine TC.region ?_
  refine t_move rfl rfl ?_
  (refine t_lenS rfl rfl rfl ?_; rw [rowsL_len])
  refine t_makeSlice (len := es.length) rfl rfl rfl rfl (by rfl) (by omega) (by omega) ?_
  refine t_assign rfl rfl ?_
  refine TL.nil ?_
  refine TC.rename [(4, .m (.rsl 0 0 es.length)), (3, .m (genM 1 (natsR []))), (0, .m (.d (.sl (rowsL es))))] (genH [Ob.row false 1 0 (cellsF es.length (doneN []))] 1 (natsR [])) ⟨rfl, rfl, rfl, trivial⟩ (by rw [show dcells (D.bool false) = [D.bool false] from rfl, zlist1]; rfl) ?_
  repeat refine TC.seq ?_
  refine TC.block ?_
  refine TC.loopB (fun k s => ∃ (o : List Nat), s = ⟨[(4, .m (.rsl 0 0 es.length)), (3, .m (genM 1 (natsR o))), (0, .m (.d (.sl (rowsL es))))], [], genH [Ob.row false 1 0 (cellsF es.length (doneN o))] 1 (natsR o)⟩ ∧ o.length ≤ es.length ∧ Go.Gr.ordGo es (es.length - o.length) o = Go.Gr.ordL es ∧ k = es.length - o.length) es.length _
    ⟨[], rfl, by simp, rfl, rfl⟩ ⟨rfl, rfl, rfl, trivial⟩ ?_
  rintro k s ⟨o, rfl, hol, hgo, rfl⟩
  repeat refine TC.seq ?_
  refine TC.region ?_
  (refine t_move rfl rfl ?_; refine TL.viewSlot 12 rfl (gen_view [Ob.row false 1 0 (cellsF es.length (doneN o))] 1 (natsR o) (natsR_lens _)) ?_)
  (refine t_lenS rfl rfl rfl ?_; rw [natsR_len])
  refine t_move rfl rfl ?_
  (refine t_lenS rfl rfl rfl ?_; rw [rowsL_len])
  refine t_int rfl rfl rfl rfl ?_
  refine TL.nil ?_
  repeat refine TC.seq ?_
  refine TC.cond rfl (fun hc => ?_) (fun hc => ?_)
  · have hc' : o.length < es.length := by have := of_decide_eq_true hc; omega
    clear hc
    rw [ordGo_step hc', ← nxt_zero] at hgo
    generalize hHH : genH [Ob.row false 1 0 (cellsF es.length (doneN o))] 1 (natsR o) = HH
    have h0 : HH[0]? = some (Ob.row false 1 0 (cellsF es.length (doneN o))) := by rw [← hHH, genH_get _ _ _ 0 (by simp)]; rfl
    refine TC.skip ?_
    repeat refine TC.seq ?_
    refine TC.block ?_
    repeat refine TC.seq ?_
    refine TC.region ?_
    refine t_assign rfl rfl ?_
    refine TL.nil ?_
    repeat refine TC.seq ?_
    refine TC.region ?_
    refine t_move rfl rfl ?_
    (refine t_lenS rfl rfl rfl ?_; rw [rowsL_len])
    refine t_sub64 rfl rfl rfl (by omega) ?_
    refine t_assign rfl rfl ?_
    refine TL.nil ?_
    refine TC.rename [(6, .m (.d (.int .i64 ((es.length : Int) - 1)))), (5, .m (.d (.int .i64 (nxtV (nxt es o es.length))))), (4, .m (.rsl 0 0 es.length)), (3, .m (genM 1 (natsR o))), (0, .m (.d (.sl (rowsL es))))] HH ⟨rfl, by rw [nxt_end]; rfl, rfl, rfl, rfl, trivial⟩ rfl ?_
    repeat refine TC.seq ?_
    refine TC.mid ⟨[(5, .m (.d (.int .i64 (nxtV (nxt es o 0))))), (4, .m (.rsl 0 0 es.length)), (3, .m (genM 1 (natsR o))), (0, .m (.d (.sl (rowsL es))))], [], HH⟩ ?_ ?_
    · refine TC.block ?_
      refine TC.loopB (fun k s => ∃ (m : Nat), s = ⟨[(6, .m (.d (.int .i64 ((m : Int) - 1)))), (5, .m (.d (.int .i64 (nxtV (nxt es o m))))), (4, .m (.rsl 0 0 es.length)), (3, .m (genM 1 (natsR o))), (0, .m (.d (.sl (rowsL es))))], [], HH⟩ ∧ m ≤ es.length ∧ k = m) es.length _
        ⟨es.length, rfl, by omega, rfl⟩ ⟨rfl, rfl, rfl, rfl, rfl, trivial⟩ ?_
      rintro k s ⟨m, rfl, hm, rfl⟩
      repeat refine TC.seq ?_
      refine TC.region ?_
      refine t_move rfl rfl ?_
      refine t_int rfl rfl rfl rfl ?_
      refine TL.nil ?_
      repeat refine TC.seq ?_
      refine TC.cond rfl (fun hc => ?_) (fun hc => ?_)
      · have hm0 : 0 < k := by have := of_decide_eq_true hc; omega
        clear hc
        obtain ⟨i, rfl⟩ : ∃ i, k = i + 1 := ⟨k - 1, by omega⟩
        have hi : i < es.length := by omega
        have hrow := rowsL_get hi
        have hstep := nxt_step (o := o) hi
        unfold mayN at hstep
        have hks : ∀ k ∈ es.getD i [], k < es.length := by
          rw [List.getD_eq_getElem?_getD, List.getElem?_eq_getElem hi]
          exact hes _ (List.getElem_mem hi)
        have hksl : (es.getD i []).length ≤ 14 := by
          rw [List.getD_eq_getElem?_getD, List.getElem?_eq_getElem hi]
          exact hsm _ (List.getElem_mem hi)
        generalize es.getD i [] = ks at hrow hks hksl hstep
        rw [show ((i + 1 : Nat) : Int) - 1 = (i : Int) by omega]
        refine TC.skip ?_
        repeat refine TC.seq ?_
        refine TC.block ?_
        repeat refine TC.seq ?_
        refine TC.region ?_
        refine t_move rfl rfl ?_
        refine t_move rfl rfl ?_
        refine t_indexR rfl rfl rfl h0 (by omega) (by omega) ?_
        refine t_loadWc rfl rfl h0 (cellsF_get hi) ?_
        refine t_not rfl rfl ?_
        refine t_assign rfl rfl ?_
        refine TL.nil ?_
        repeat refine TC.seq ?_
        refine TC.region ?_
        refine t_assign rfl rfl ?_
        refine TL.nil ?_
        refine TC.rename [(8, .m (.d (.int .i64 ((0 : Nat) : Int)))), (7, .m (.d (.bool (!o.contains i && (ks.take 0).all o.contains)))), (6, .m (.d (.int .i64 (i : Int)))), (5, .m (.d (.int .i64 (nxtV (nxt es o (i + 1)))))), (4, .m (.rsl 0 0 es.length)), (3, .m (genM 1 (natsR o))), (0, .m (.d (.sl (rowsL es))))] HH ⟨rfl, by simp; rfl, rfl, rfl, rfl, rfl, rfl, trivial⟩ rfl ?_
        repeat refine TC.seq ?_
        refine TC.mid ⟨[(7, .m (.d (.bool (!o.contains i && ks.all o.contains)))), (6, .m (.d (.int .i64 (i : Int)))), (5, .m (.d (.int .i64 (nxtV (nxt es o (i + 1)))))), (4, .m (.rsl 0 0 es.length)), (3, .m (genM 1 (natsR o))), (0, .m (.d (.sl (rowsL es))))], [], HH⟩ ?_ ?_
        · refine TC.block ?_
          refine TC.loopB (fun k s => ∃ (j : Nat), s = ⟨[(8, .m (.d (.int .i64 j))), (7, .m (.d (.bool (!o.contains i && (ks.take j).all o.contains)))), (6, .m (.d (.int .i64 (i : Int)))), (5, .m (.d (.int .i64 (nxtV (nxt es o (i + 1)))))), (4, .m (.rsl 0 0 es.length)), (3, .m (genM 1 (natsR o))), (0, .m (.d (.sl (rowsL es))))], [], HH⟩ ∧ j ≤ ks.length ∧ k = ks.length - j) ks.length _
            ⟨0, rfl, by omega, rfl⟩ ⟨rfl, rfl, rfl, rfl, rfl, rfl, rfl, trivial⟩ ?_
          rintro k s ⟨j, rfl, hj, rfl⟩
          repeat refine TC.seq ?_
          refine TC.region ?_
          refine t_move rfl rfl ?_
          refine t_move rfl rfl ?_
          refine t_move rfl rfl ?_
          refine t_indexD rfl rfl rfl (Int.natCast_nonneg i) hrow rfl ?_
          first | refine t_loadDc rfl rfl rfl ?_ | refine t_loadLc rfl rfl rfl rfl ?_ | refine t_loadRc rfl rfl rfl rfl ?_
          (refine t_lenS rfl rfl rfl ?_; rw [natsR_len])
          refine t_int rfl rfl rfl rfl ?_
          refine TL.nil ?_
          repeat refine TC.seq ?_
          refine TC.cond rfl (fun hc => ?_) (fun hc => ?_)
          · have hcj : j < ks.length := by have := of_decide_eq_true hc; omega
            clear hc
            have hq := hks _ (List.getElem_mem hcj)
            have hgj := natsR_get hcj
            have hall : (!o.contains i && (ks.take (j + 1)).all o.contains) = ((!o.contains i && (ks.take j).all o.contains) && o.contains ks[j]) := by
              rw [List.take_succ_eq_append_getElem hcj, List.all_append, Bool.and_assoc]; simp
            generalize ks[j] = q at hq hgj hall
            generalize hfl : (!o.contains i && (ks.take j).all o.contains) = fl at hall
            refine TC.skip ?_
            repeat refine TC.seq ?_
            refine TC.block ?_
            cases fl with
            | true =>
              repeat refine TC.seq ?_
              refine TC.region ?_
              refine t_move rfl rfl ?_
              refine t_move rfl rfl ?_
              first | refine t_guard_no rfl rfl ?_ | (refine t_guard_yes rfl ?_; (refine t_move rfl rfl ?_))
              first | refine t_guard_no rfl rfl ?_ | (refine t_guard_yes rfl ?_; (refine t_move rfl rfl ?_))
              first | refine t_guard_no rfl rfl ?_ | (refine t_guard_yes rfl ?_; (refine t_move rfl rfl ?_))
              first | refine t_guard_no rfl rfl ?_ | (refine t_guard_yes rfl ?_; (refine t_indexD rfl rfl rfl (Int.natCast_nonneg i) hrow rfl ?_))
              first | refine t_guard_no rfl rfl ?_ | (refine t_guard_yes rfl ?_; (first | refine t_loadDc rfl rfl rfl ?_ | refine t_loadLc rfl rfl rfl rfl ?_ | refine t_loadRc rfl rfl rfl rfl ?_))
              first | refine t_guard_no rfl rfl ?_ | (refine t_guard_yes rfl ?_; (refine t_move rfl rfl ?_))
              first | refine t_guard_no rfl rfl ?_ | (refine t_guard_yes rfl ?_; (refine t_indexD rfl rfl rfl (Int.natCast_nonneg j) hgj rfl ?_))
              first | refine t_guard_no rfl rfl ?_ | (refine t_guard_yes rfl ?_; (first | refine t_loadDc rfl rfl rfl ?_ | refine t_loadLc rfl rfl rfl rfl ?_ | refine t_loadRc rfl rfl rfl rfl ?_))
              first | refine t_guard_no rfl rfl ?_ | (refine t_guard_yes rfl ?_; (refine t_indexR rfl rfl rfl h0 (by omega) (by omega) ?_))
              first | refine t_guard_no rfl rfl ?_ | (refine t_guard_yes rfl ?_; (refine t_loadWc rfl rfl h0 (cellsF_get hq) ?_))
              refine t_pick rfl rfl rfl ?_
              refine t_assign rfl rfl ?_
              refine TL.nil ?_
              repeat refine TC.seq ?_
              refine TC.region ?_
              refine t_move rfl rfl ?_
              refine t_add64 rfl rfl rfl (by omega) ?_
              refine t_assign rfl rfl ?_
              refine TL.nil ?_
              exact again (k' := ks.length - (j + 1)) (by omega) ⟨j + 1, rfl, by omega, rfl⟩ rfl ⟨by simp; rfl, by rw [hall]; rfl, rfl, rfl, rfl, rfl, rfl, trivial⟩
            | false =>
              repeat refine TC.seq ?_
              refine TC.region ?_
              refine t_move rfl rfl ?_
              refine t_move rfl rfl ?_
              first | refine t_guard_no rfl rfl ?_ | (refine t_guard_yes rfl ?_; (refine t_move rfl rfl ?_))
              first | refine t_guard_no rfl rfl ?_ | (refine t_guard_yes rfl ?_; (refine t_move rfl rfl ?_))
              first | refine t_guard_no rfl rfl ?_ | (refine t_guard_yes rfl ?_; (refine t_move rfl rfl ?_))
              first | refine t_guard_no rfl rfl ?_ | (refine t_guard_yes rfl ?_; (refine t_indexD rfl rfl rfl (Int.natCast_nonneg i) hrow rfl ?_))
              first | refine t_guard_no rfl rfl ?_ | (refine t_guard_yes rfl ?_; (first | refine t_loadDc rfl rfl rfl ?_ | refine t_loadLc rfl rfl rfl rfl ?_ | refine t_loadRc rfl rfl rfl rfl ?_))
              first | refine t_guard_no rfl rfl ?_ | (refine t_guard_yes rfl ?_; (refine t_move rfl rfl ?_))
              first | refine t_guard_no rfl rfl ?_ | (refine t_guard_yes rfl ?_; (refine t_indexD rfl rfl rfl (Int.natCast_nonneg j) hgj rfl ?_))
              first | refine t_guard_no rfl rfl ?_ | (refine t_guard_yes rfl ?_; (first | refine t_loadDc rfl rfl rfl ?_ | refine t_loadLc rfl rfl rfl rfl ?_ | refine t_loadRc rfl rfl rfl rfl ?_))
              first | refine t_guard_no rfl rfl ?_ | (refine t_guard_yes rfl ?_; (refine t_indexR rfl rfl rfl h0 (by omega) (by omega) ?_))
              first | refine t_guard_no rfl rfl ?_ | (refine t_guard_yes rfl ?_; (refine t_loadWc rfl rfl h0 (cellsF_get hq) ?_))
              refine t_pick rfl rfl rfl ?_
              refine t_assign rfl rfl ?_
              refine TL.nil ?_
              repeat refine TC.seq ?_
              refine TC.region ?_
              refine t_move rfl rfl ?_
              refine t_add64 rfl rfl rfl (by omega) ?_
              refine t_assign rfl rfl ?_
              refine TL.nil ?_
              exact again (k' := ks.length - (j + 1)) (by omega) ⟨j + 1, rfl, by omega, rfl⟩ rfl ⟨by simp; rfl, by rw [hall]; rfl, rfl, rfl, rfl, rfl, rfl, trivial⟩
          · refine TC.exit ?_
            have hcj : j = ks.length := by have := of_decide_eq_false hc; omega
            subst hcj
            rw [List.take_length]
            exact down rfl ⟨rfl, rfl, rfl, rfl, rfl, rfl, trivial⟩
        · generalize hfl : (!o.contains i && ks.all o.contains) = fl at hstep
          cases fl with
          | true =>
            simp only [cond_true] at hstep
            repeat refine TC.seq ?_
            refine TC.region ?_
            refine t_move rfl rfl ?_
            refine TL.nil ?_
            repeat refine TC.seq ?_
            refine TC.cond rfl (fun hc => ?_) (fun hc => by cases hc)
            repeat refine TC.seq ?_
            refine TC.region ?_
            refine t_move rfl rfl ?_
            refine t_assign rfl rfl ?_
            refine TL.nil ?_
            repeat refine TC.seq ?_
            refine TC.region ?_
            refine t_move rfl rfl ?_
            refine t_sub64 rfl rfl rfl (by omega) ?_
            refine t_assign rfl rfl ?_
            refine TL.nil ?_
            exact again (k' := i) (by omega) ⟨i, rfl, by omega, rfl⟩ rfl ⟨rfl, by rw [hstep]; rfl, rfl, rfl, rfl, trivial⟩
          | false =>
            simp only [cond_false] at hstep
            repeat refine TC.seq ?_
            refine TC.region ?_
            refine t_move rfl rfl ?_
            refine TL.nil ?_
            repeat refine TC.seq ?_
            refine TC.cond rfl (fun hc => by cases hc) (fun hc => ?_)
            refine TC.skip ?_
            repeat refine TC.seq ?_
            refine TC.region ?_
            refine t_move rfl rfl ?_
            refine t_sub64 rfl rfl rfl (by omega) ?_
            refine t_assign rfl rfl ?_
            refine TL.nil ?_
            exact again (k' := i) (by omega) ⟨i, rfl, by omega, rfl⟩ rfl ⟨rfl, by rw [hstep]; rfl, rfl, rfl, rfl, trivial⟩
      · refine TC.exit ?_
        have hm0 : k = 0 := by have := of_decide_eq_false hc; omega
        subst hm0
        exact down rfl ⟨rfl, rfl, rfl, rfl, trivial⟩
    · cases hnx : nxt es o 0 with
      | none =>
        rw [hnx] at hgo
        repeat refine TC.seq ?_
        refine TC.region ?_
        refine t_move rfl rfl ?_
        refine t_int rfl rfl rfl rfl ?_
        refine TL.nil ?_
        repeat refine TC.seq ?_
        refine TC.cond rfl (fun hc => ?_) (fun hc => by cases hc)
        repeat refine TC.seq ?_
        refine TC.region ?_
        refine t_assign rfl rfl ?_
        refine TL.nil ?_
        exact TC.ret ⟨_, rfl, [_], rfl, by rw [← hgo]; rfl⟩
      | some p =>
        rw [hnx] at hgo
        have hp : p < es.length := (Go.Gr.next_some (hnx : Go.Gr.nextL es o = some p)).1
        simp only [nxtV]
        repeat refine TC.seq ?_
        refine TC.region ?_
        refine t_move rfl rfl ?_
        (refine t_int rfl rfl rfl rfl ?_; rw [show decide ((p : Int) < 0) = false from decide_eq_false (by omega)])
        refine TL.nil ?_
        repeat refine TC.seq ?_
        refine TC.cond rfl (fun hc => by cases hc) (fun hc => ?_)
        refine TC.skip ?_
        have hwr : writeAt (cellsF es.length (doneN o)) (((p : Nat) : Int).toNat * 1) [.d (.bool true)] = some (cellsF es.length (doneN (o ++ [p]))) := cellsF_write hp (by simp [doneN]) (fun j _ hj => by simp [doneN, hj])
        repeat refine TC.seq ?_
        refine TC.region ?_
        refine t_move rfl rfl ?_
        refine t_move rfl rfl ?_
        refine t_indexR rfl rfl rfl h0 (by omega) (by omega) ?_
        refine t_storeW rfl rfl h0 rfl rfl hwr ?_
        refine TL.nil ?_
        rw [← hHH, genH_set _ _ _ 0 _ (by simp)]
        simp only [List.set_cons_zero]
        repeat refine TC.seq ?_
        refine TC.region ?_
        refine t_move rfl rfl ?_
        refine t_move rfl rfl ?_
        refine t_buildSlice rfl rfl rfl rfl rfl rfl rfl rfl ?_
        refine t_snoc (H0 := [Ob.row false 1 0 (cellsF es.length (doneN (o ++ [p])))]) rfl rfl rfl rfl (by rfl) rfl (by rw [natsR_len]; omega) (by rw [natsR_len]; omega) ?_
        refine t_assign rfl rfl ?_
        refine TL.nil ?_
        exact again (k' := es.length - (o ++ [p]).length) (by simp; omega) ⟨o ++ [p], rfl, by simp; omega, hgo, rfl⟩ (by rw [natsR_append]; rfl) ⟨rfl, by rw [natsR_append]; rfl, rfl, trivial⟩
  · refine TC.exit ?_
    have hc' : es.length - o.length = 0 := by have := of_decide_eq_false hc; omega
    rw [hc'] at hgo
    have hgo' : o = Go.Gr.ordL es := hgo
    subst hgo'
    repeat refine TC.seq ?_
    refine TC.region ?_
    refine t_move rfl rfl ?_
    refine t_assign rfl rfl ?_
    refine TL.nil ?_
    refine TC.viewSlot 2 rfl (gen_view [Ob.row false 1 0 (cellsF es.length (doneN (Go.Gr.ordL es)))] 1 (natsR (Go.Gr.ordL es)) (natsR_lens _)) ?_
    exact TC.ret ⟨_, rfl, [_], rfl, rfl⟩
end Go.Proofs
