/- The first equation that needs itself, and a shortest way. -/
import Derived.Test.YtcmjcdiaidalgaaGrT
namespace Go.Proofs
open Go.Mt Go.Gr
set_option maxRecDepth 4000
set_option linter.unusedSimpArgs false
set_option linter.unusedVariables false

def CycOk (es : List (List Nat)) (l : List Nat) : Prop :=
  (l = [] ∧ ∀ i, i < es.length → ∀ L, 0 < L → ¬ Wk es L i i) ∨ (0 < l.length ∧ ∃ i, i < es.length ∧ (∀ j, j < i → ∀ L, 0 < L → ¬ Wk es L j j) ∧ WayOk es i l)
instance : IsFn Try.prog 27 := isFn_of (by kernel_rfl)
theorem Cycle_ok (xs : List Int) (hw : ∀ x ∈ xs, 0 ≤ x ∧ x < 65536) (hxn : xs.length ≤ 14) : PT Try.prog 13 [.agg (chainC xs)] (fun r => ∃ l, r = [.sl (natsR l)] ∧ CycOk (esL xs) l) := by
  have hEd := Edges_ok xs hw hxn
  have hes := esL_lt xs
  have hsm := esL_small hw hxn
  have hn : (esL xs).length ≤ 14 := by rw [esL_len]; exact hxn
  generalize hE : esL xs = es at hEd hes hsm hn ⊢
  refine PT.of_CT (CT.of_body Try.func13 rfl Try.ntmps13 rfl fun s0 Oo => ?_)
  refine TC.base fun hbase => ?_
  repeat refine TC.seq ?_
  refine TC.region ?_
  refine t_box rfl rfl ?_
  refine t_assign rfl rfl ?_
  refine TL.nil ?_
  repeat refine TC.seq ?_
  refine TC.region ?_
  first | refine t_loadDw rfl rfl rfl ?_ | refine t_loadDa rfl rfl rfl ?_ | refine t_loadLa rfl rfl rfl rfl rfl ?_ | refine t_loadRa rfl rfl rfl rfl rfl ?_
  refine t_call1 hEd rfl rfl ?_
  refine t_assign rfl rfl ?_
  refine TL.nil ?_
  repeat refine TC.seq ?_
  refine TC.region ?_
  refine t_move rfl rfl ?_
  (refine t_lenS rfl rfl rfl ?_; rw [rowsL_len])
  refine t_move rfl rfl ?_
  refine TL.nil ?_
  refine TC.rename [(10, .m (.d (.int .i64 ((0 : Nat) : Int)))), (9, .m (.d (.int .i64 (es.length : Nat)))), (3, .m (.d (.sl (rowsL es))))] [] ⟨rfl, rfl, rfl, trivial⟩ rfl ?_
  repeat refine TC.seq ?_
  refine TC.block ?_
  refine TC.loopB (fun k s => ∃ (i : Nat) (bx : List (Nat × List M)), s = ⟨[(10, .m (.d (.int .i64 i))), (9, .m (.d (.int .i64 (es.length : Nat)))), (3, .m (.d (.sl (rowsL es))))], bx, []⟩ ∧ i ≤ es.length ∧ (∀ j, j < i → ∀ L, 0 < L → ¬ Wk es L j j) ∧ k = es.length - i) es.length _
    ⟨0, _, rfl, by omega, fun j h => by omega, rfl⟩ ⟨rfl, rfl, rfl, trivial⟩ ?_
  rintro k s ⟨i, bx, rfl, hi, hno, rfl⟩
  repeat refine TC.seq ?_
  refine TC.region ?_
  refine t_int rfl rfl rfl rfl ?_
  refine TL.nil ?_
  repeat refine TC.seq ?_
  refine TC.cond rfl (fun hc => ?_) (fun hc => ?_)
  · have hc' : i < es.length := by have := of_decide_eq_true hc; omega
    clear hc
    have hway := way_ok es hes hn hsm i hc'
    refine TC.skip ?_
    repeat refine TC.seq ?_
    refine TC.block ?_
    repeat refine TC.seq ?_
    refine TC.region ?_
    refine t_move rfl rfl ?_
    refine t_assign rfl rfl ?_
    refine TL.nil ?_
    repeat refine TC.seq ?_
    refine TC.region ?_
    refine t_move rfl rfl ?_
    refine t_move rfl rfl ?_
    (refine t_callR (CT.of_PT hway) rfl rfl ?_; rintro _ _ ⟨⟨_, rfl, l, rfl, hw⟩, rfl⟩)
    refine t_assign rfl rfl ?_
    refine TL.nil ?_
    repeat refine TC.seq ?_
    refine TC.region ?_
    refine t_move rfl rfl ?_
    (refine t_lenS rfl rfl rfl ?_; rw [natsR_len])
    refine t_int rfl rfl rfl rfl ?_
    refine TL.nil ?_
    repeat refine TC.seq ?_
    rcases Nat.eq_zero_or_pos l.length with h0 | h0
    · refine TC.cond rfl (fun hc => by have := of_decide_eq_true hc; omega) (fun hc => ?_)
      refine TC.skip ?_
      have hno2 : ∀ L, 0 < L → ¬ Wk es L i i := by
        rcases hw with ⟨_, h⟩ | ⟨h, _⟩
        · exact h
        · omega
      repeat refine TC.seq ?_
      refine TC.region ?_
      refine t_add64 rfl rfl rfl (by omega) ?_
      refine t_move rfl rfl ?_
      refine TL.nil ?_
      have hno3 : ∀ j, j < i + 1 → ∀ L, 0 < L → ¬ Wk es L j j := by
        intro j hj
        rcases Nat.lt_or_ge j i with h | h
        · exact hno j h
        · obtain rfl : j = i := by omega
          exact hno2
      exact again (k' := es.length - (i + 1)) (by omega) ⟨i + 1, _, rfl, by omega, hno3, rfl⟩ rfl ⟨by simp; rfl, rfl, rfl, trivial⟩
    · refine TC.cond rfl (fun hc => ?_) (fun hc => by have := of_decide_eq_false hc; omega)
      repeat refine TC.seq ?_
      refine TC.region ?_
      refine t_move rfl rfl ?_
      refine t_assign rfl rfl ?_
      refine TL.nil ?_
      exact TC.ret ⟨_, rfl, [_], rfl, _, rfl, .inr ⟨h0, i, hc', hno, hw⟩⟩
  · refine TC.exit ?_
    have hc' : i = es.length := by have := of_decide_eq_false hc; omega
    subst hc'
    repeat refine TC.seq ?_
    refine TC.region ?_
    refine t_assign rfl rfl ?_
    refine TL.nil ?_
    exact TC.ret ⟨_, rfl, [_], rfl, [], rfl, .inl ⟨rfl, hno⟩⟩
end Go.Proofs
