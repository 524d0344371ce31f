/- Equations for some variables. (Printed by gen_MkL.py.) -/
import Derived.Test.YtcmjcdiaidalgaaMkK
set_option linter.unusedVariables false
set_option linter.unusedSimpArgs false
set_option linter.unusedSectionVars false
namespace Go.Proofs
open Go.Mt Go.Mk
set_option maxRecDepth 4000
set_option linter.unusedSimpArgs false
set_option linter.unusedVariables false

theorem qP_le : ∀ d, d ≤ 3 → 0 ≤ qP d ∧ qP d ≤ 4000
  | 0, _ => by decide
  | d + 1, h => qB_le2 d (by omega)
theorem bm_mv {zs : List Int} {w : Int} {gi gn : Nat} {gq : Int} {g : GS} (hw : 0 ≤ w) (hn : gn ≤ 3 * gi) (h : Mv zs ⟨gi, gn, gq - 1⟩ g) : Bm zs (1 + w) ⟨gi, gn, gq⟩ g := by
  have h1 := h.n
  have h2 := h.q
  have h3 := h.i
  simp only at h1 h2 h3
  exact ⟨h3, h.le, by simp only; omega, by omega, by simp only; omega, by simp only; omega⟩
theorem bm_bm {zs : List Int} {w : Int} {gi gn : Nat} {gq : Int} {g0 g : GS} (hq : 0 < gq - 1) (hw : 0 ≤ w) (h0 : Mv zs ⟨gi, gn, gq - 1⟩ g0) (h : Bm zs w g0 g) : Bm zs (1 + w) ⟨gi, gn, gq⟩ g := by
  have h1 := h0.n
  have h2 := h0.q
  have h3 := h0.i
  simp only at h1 h2 h3
  have h4 := h.i
  have h5 := h.n
  have h6 := h.q0
  have h7 := h.q1
  exact ⟨by simp only; omega, h.le, by simp only; omega, h.pay, by simp only; omega, by simp only; omega⟩
section
variable {zs : List Int} {v : D} (ht : Tape zs v) (subs : Nat) (main : Bool)
include ht
theorem eqs_step (dp c : Nat) (hD : dp ≤ 3) (hc14 : c ≤ 14) (hsub2 : subs ≤ 10) (ihB : ∀ d, dp = d + 1 → BlockOk zs v subs main d) (ihE : ∀ c', c = c' + 1 → EqsOk zs v subs main dp c') : EqsOk zs v subs main dp c := by
  intro s hr ha hla outs ho g hg hn hqc hq0 hq14
  have hL := ht.hl
  obtain ⟨gi, gn, gq⟩ := g
  simp only at hg hn hqc hq0 hq14
  have hsb : ScB s := ⟨by omega, by omega, by omega⟩
  have hW := qP_le dp hD
  have hW3 : 0 ≤ 3 * qP dp := by omega
  cases dp with
  | zero =>
    refine DT.drop 2 (Nat.le_refl _) ?_
    refine DT.of_body Try.func71 rfl Try.ntmps71 rfl ?_
    show DC _ _ _ _ ⟨_, _, [.box (tapeC v gi), .box (genC gn gq subs main)]⟩ _
    repeat refine DC.seq ?_
    apply DC.regionX
    · intro s0 Oo
      refine t_box rfl rfl ?_
      refine t_assign rfl rfl ?_
      refine t_assign rfl rfl ?_
      exact TL.nil rfl
    repeat refine DC.seq ?_
    apply DC.regionX
    · intro s0 Oo
      refine t_move rfl rfl ?_
      refine t_nilCheck rfl rfl rfl ?_
      refine t_fieldR rfl rfl ?_
      refine t_loadRc rfl rfl rfl rfl ?_
      refine t_sub64 rfl rfl rfl (by omega) ?_
      refine t_nilCheck rfl rfl rfl ?_
      refine t_fieldR rfl rfl ?_
      refine t_storeR rfl rfl rfl rfl rfl rfl ?_
      exact TL.nil rfl
    repeat refine DC.seq ?_
    apply DC.regionX
    · intro s0 Oo
      refine t_move rfl rfl ?_
      refine t_int rfl rfl rfl rfl ?_
      refine t_move rfl rfl ?_
      refine t_guard_no rfl rfl ?_
      refine t_guard_no rfl rfl ?_
      refine t_guard_no rfl rfl ?_
      refine t_guard_no rfl rfl ?_
      refine t_guard_no rfl rfl ?_
      refine t_pick rfl rfl rfl ?_
      exact TL.nil rfl
    repeat refine DC.seq ?_
    refine DC.cond rfl (fun hc => by cases hc) (fun hc => ?_)
    refine DC.skip ?_
    refine DC.rename [(5, .m (.d (.pim s.cells 0))), (2, .m (.d (.sl (vasC outs)))), (0, .m (.ref 1 0))] (GH v subs main ⟨gi, gn, gq - 1⟩) ⟨rfl, rfl, rfl, trivial⟩ rfl ?_
    repeat refine DC.seq ?_
    apply DC.regionX
    · intro s0 Oo
      refine t_assign rfl rfl ?_
      exact TL.nil rfl
    repeat refine DC.seq ?_
    apply DC.regionX
    · intro s0 Oo
      refine t_assign rfl rfl ?_
      exact TL.nil rfl
    refine DC.rename [(12, .m (.d (.int .i64 ((0 : Nat) : Int)))), (11, .m (genM 2 (eqsC []))), (5, .m (.d (.pim s.cells 0))), (2, .m (.d (.sl (vasC outs)))), (0, .m (.ref 1 0))] (genH (GH v subs main ⟨gi, gn, gq - 1⟩) 16 (eqsC [])) ⟨rfl, rfl, rfl, rfl, rfl, trivial⟩ rfl ?_
    repeat refine DC.seq ?_
    refine DC.block ?_
    refine DC.loop (fun k s1 => ∃ (i : Nat) (q : List Eqn) (g' : GS), s1 = ⟨[(12, .m (.d (.int .i64 (i : Int)))), (11, .m (genM 2 (eqsC q))), (5, .m (.d (.pim s.cells 0))), (2, .m (.d (.sl (vasC outs)))), (0, .m (.ref 1 0))], [], genH (GH v subs main g') 16 (eqsC q)⟩ ∧ i ≤ outs.length ∧ q.length = i ∧ Defs s (outs.take i) q ∧ Mv zs ⟨gi, gn, gq - 1⟩ g' ∧ k = outs.length - i) outs.length _
      ⟨0, [], ⟨gi, gn, gq - 1⟩, rfl, by omega, rfl, .nil, ⟨rfl, rfl, Nat.le_refl _, hg⟩, rfl⟩ ⟨rfl, rfl, rfl, rfl, rfl, trivial⟩ ?_
    rintro k s1 ⟨i, q, g1, rfl, hi, hqi, hdf, hm1, rfl⟩
    repeat refine DC.seq ?_
    apply DC.regionX
    · intro s0 Oo
      refine t_move rfl rfl ?_
      refine t_move rfl rfl ?_
      (refine t_lenS rfl rfl rfl ?_; rw [vasC_len])
      refine t_int rfl rfl rfl rfl ?_
      exact TL.nil rfl
    repeat refine DC.seq ?_
    refine DC.cond rfl (fun hc => ?_) (fun hc => ?_)
    · have hc' : i < outs.length := by have := of_decide_eq_true hc; omega
      clear hc
      have hget := vasC_get hc'
      have htk : outs.take (i + 1) = outs.take i ++ [outs[i]] := List.take_succ_eq_append_getElem hc'
      generalize outs[i] = w at hget htk
      obtain ⟨x0, x1, x2, x3, x4, x5, x6, x7, hw, _⟩ := va_shape w
      rw [hw] at hget
      obtain ⟨r1, K1, ⟨e, g2, rfl, rfl, hge, hm2⟩, hc1⟩ := expr_dt ht subs main 3 (by omega) s hsb w.ty true g1 hm1.le
      obtain ⟨ke, ope, ne, se, ae, be, he⟩ := e.shape
      rw [he] at hc1
      have hcg := genCall (by rfl) hc1 16 (eqsC q)
      have hv1 : eqsC (q ++ [.df w.name e]) = eqsC q ++ [[.int .u8 1, .sl [[.str w.name]], .str ⟨#[]⟩, .sl [], .bool false, .int .u8 ke, .int .u8 ope, .int .i32 ne, .str se, .sl ae, .sl be, .int .i64 0, .int .i64 0, .sl [], .int .i64 0, .int .i64 0]] := by rw [eqsC_append, eqsC, eqsC, Eqn.cells, he]; rfl
      refine DC.skip ?_
      repeat refine DC.seq ?_
      refine DC.block ?_
      repeat refine DC.seq ?_
      apply DC.drawX mixed
      · intro s0 Oo
        refine f_move rfl rfl ?_
        refine f_move rfl rfl ?_
        refine f_move rfl rfl ?_
        refine f_indexD rfl rfl rfl (Int.natCast_nonneg i) hget rfl ?_
        refine f_fieldD rfl rfl ?_
        refine f_loadDc rfl rfl rfl ?_
        refine f_buildSlice rfl rfl rfl rfl rfl rfl rfl rfl ?_
        refine f_move rfl rfl ?_
        refine f_loadDw rfl rfl rfl ?_
        refine f_move rfl rfl ?_
        refine f_move rfl rfl ?_
        refine f_indexD rfl rfl rfl (Int.natCast_nonneg i) hget rfl ?_
        refine f_fieldD rfl rfl ?_
        refine f_loadDa rfl rfl rfl ?_
        refine f_callR hcg rfl rfl ?_
        refine f_build rfl rfl rfl rfl rfl ?_
        refine f_buildSlice rfl rfl rfl rfl rfl rfl rfl rfl ?_
        refine f_snoc (H0 := GH v subs main g2) rfl rfl rfl rfl (by rfl) rfl (by rw [eqsC_len]; omega) (by rw [eqsC_len]; omega) ?_
        refine f_assign rfl rfl ?_
        exact TF.nil ⟨by kernel_rfl, rfl⟩
      repeat refine DC.seq ?_
      apply DC.regionX
      · intro s0 Oo
        refine t_move rfl rfl ?_
        refine t_add64 rfl rfl rfl (by omega) ?_
        refine t_assign rfl rfl ?_
        exact TL.nil rfl
      exact againD (k' := outs.length - (i + 1)) (by omega) ⟨i + 1, q ++ [.df w.name e], g2, rfl, by omega, by simp [hqi], by rw [htk]; exact .snoc hdf w e hge, hm1.trans hm2, rfl⟩ (by rw [hv1]; rfl) ⟨by simp; rfl, by rw [hv1]; rfl, rfl, rfl, rfl, trivial⟩
    · refine DC.exit ?_
      have hc' : i = outs.length := by have := of_decide_eq_false hc; omega
      subst hc'
      rw [List.take_length] at hdf
      obtain ⟨e1, e2, e3⟩ := gh_end v subs main g1 16 (eqsC q)
      repeat refine DC.seq ?_
      apply DC.regionX
      · intro s0 Oo
        refine t_move rfl rfl ?_
        refine t_assign rfl rfl ?_
        refine t_assign rfl rfl ?_
        exact TL.nil rfl
      refine DC.viewSlot 8 rfl (gen_view (GH v subs main g1) 16 (eqsC q) (eqsC_lens q)) ?_
      have hnn := hm1.n
      simp only at hnn
      exact DC.ret ⟨_, rfl, e1, mbb_ok rfl, e2, q, [], g1, rfl, e3, by simp only; rw [hnn]; exact .defs hdf, by omega, by simp, bm_mv hW3 hn hm1⟩
  | succ d =>
    have hdl : decide (((d + 1 : Nat) : Int) > 0) = true := decide_eq_true (by omega)
    rcases Int.lt_or_le 0 (gq - 1) with hqp | hqp
    rotate_left
    · skip
      have hql : decide (gq - 1 > 0) = false := decide_eq_false (by omega)
      refine DT.drop 2 (Nat.le_refl _) ?_
      refine DT.of_body Try.func71 rfl Try.ntmps71 rfl ?_
      show DC _ _ _ _ ⟨_, _, [.box (tapeC v gi), .box (genC gn gq subs main)]⟩ _
      repeat refine DC.seq ?_
      apply DC.regionX
      · intro s0 Oo
        refine t_box rfl rfl ?_
        refine t_assign rfl rfl ?_
        refine t_assign rfl rfl ?_
        exact TL.nil rfl
      repeat refine DC.seq ?_
      apply DC.regionX
      · intro s0 Oo
        refine t_move rfl rfl ?_
        refine t_nilCheck rfl rfl rfl ?_
        refine t_fieldR rfl rfl ?_
        refine t_loadRc rfl rfl rfl rfl ?_
        refine t_sub64 rfl rfl rfl (by omega) ?_
        refine t_nilCheck rfl rfl rfl ?_
        refine t_fieldR rfl rfl ?_
        refine t_storeR rfl rfl rfl rfl rfl rfl ?_
        exact TL.nil rfl
      repeat refine DC.seq ?_
      apply DC.regionX
      · intro s0 Oo
        refine t_move rfl rfl ?_
        (refine t_int rfl rfl rfl (r := .bool true) (by show some (D.bool (decide _)) = _; rw [hdl]) ?_)
        refine t_move rfl rfl ?_
        refine t_guard_yes rfl ?_; refine t_move rfl rfl ?_
        refine t_guard_yes rfl ?_; refine t_nilCheck rfl rfl rfl ?_
        refine t_guard_yes rfl ?_; refine t_fieldR rfl rfl ?_
        refine t_guard_yes rfl ?_; refine t_loadRc rfl rfl rfl rfl ?_
        refine t_guard_yes rfl ?_; refine t_int rfl rfl rfl (r := .bool false) (by show some (D.bool (decide _)) = _; rw [hql]) ?_
        refine t_pick rfl rfl rfl ?_
        exact TL.nil rfl
      repeat refine DC.seq ?_
      refine DC.cond rfl (fun hc => by cases hc) (fun hc => ?_)
      refine DC.skip ?_
      refine DC.rename [(5, .m (.d (.pim s.cells 0))), (2, .m (.d (.sl (vasC outs)))), (0, .m (.ref 1 0))] (GH v subs main ⟨gi, gn, gq - 1⟩) ⟨rfl, rfl, rfl, trivial⟩ rfl ?_
      repeat refine DC.seq ?_
      apply DC.regionX
      · intro s0 Oo
        refine t_assign rfl rfl ?_
        exact TL.nil rfl
      repeat refine DC.seq ?_
      apply DC.regionX
      · intro s0 Oo
        refine t_assign rfl rfl ?_
        exact TL.nil rfl
      refine DC.rename [(12, .m (.d (.int .i64 ((0 : Nat) : Int)))), (11, .m (genM 2 (eqsC []))), (5, .m (.d (.pim s.cells 0))), (2, .m (.d (.sl (vasC outs)))), (0, .m (.ref 1 0))] (genH (GH v subs main ⟨gi, gn, gq - 1⟩) 16 (eqsC [])) ⟨rfl, rfl, rfl, rfl, rfl, trivial⟩ rfl ?_
      repeat refine DC.seq ?_
      refine DC.block ?_
      refine DC.loop (fun k s1 => ∃ (i : Nat) (q : List Eqn) (g' : GS), s1 = ⟨[(12, .m (.d (.int .i64 (i : Int)))), (11, .m (genM 2 (eqsC q))), (5, .m (.d (.pim s.cells 0))), (2, .m (.d (.sl (vasC outs)))), (0, .m (.ref 1 0))], [], genH (GH v subs main g') 16 (eqsC q)⟩ ∧ i ≤ outs.length ∧ q.length = i ∧ Defs s (outs.take i) q ∧ Mv zs ⟨gi, gn, gq - 1⟩ g' ∧ k = outs.length - i) outs.length _
        ⟨0, [], ⟨gi, gn, gq - 1⟩, rfl, by omega, rfl, .nil, ⟨rfl, rfl, Nat.le_refl _, hg⟩, rfl⟩ ⟨rfl, rfl, rfl, rfl, rfl, trivial⟩ ?_
      rintro k s1 ⟨i, q, g1, rfl, hi, hqi, hdf, hm1, rfl⟩
      repeat refine DC.seq ?_
      apply DC.regionX
      · intro s0 Oo
        refine t_move rfl rfl ?_
        refine t_move rfl rfl ?_
        (refine t_lenS rfl rfl rfl ?_; rw [vasC_len])
        refine t_int rfl rfl rfl rfl ?_
        exact TL.nil rfl
      repeat refine DC.seq ?_
      refine DC.cond rfl (fun hc => ?_) (fun hc => ?_)
      · have hc' : i < outs.length := by have := of_decide_eq_true hc; omega
        clear hc
        have hget := vasC_get hc'
        have htk : outs.take (i + 1) = outs.take i ++ [outs[i]] := List.take_succ_eq_append_getElem hc'
        generalize outs[i] = w at hget htk
        obtain ⟨x0, x1, x2, x3, x4, x5, x6, x7, hw, _⟩ := va_shape w
        rw [hw] at hget
        obtain ⟨r1, K1, ⟨e, g2, rfl, rfl, hge, hm2⟩, hc1⟩ := expr_dt ht subs main 3 (by omega) s hsb w.ty true g1 hm1.le
        obtain ⟨ke, ope, ne, se, ae, be, he⟩ := e.shape
        rw [he] at hc1
        have hcg := genCall (by rfl) hc1 16 (eqsC q)
        have hv1 : eqsC (q ++ [.df w.name e]) = eqsC q ++ [[.int .u8 1, .sl [[.str w.name]], .str ⟨#[]⟩, .sl [], .bool false, .int .u8 ke, .int .u8 ope, .int .i32 ne, .str se, .sl ae, .sl be, .int .i64 0, .int .i64 0, .sl [], .int .i64 0, .int .i64 0]] := by rw [eqsC_append, eqsC, eqsC, Eqn.cells, he]; rfl
        refine DC.skip ?_
        repeat refine DC.seq ?_
        refine DC.block ?_
        repeat refine DC.seq ?_
        apply DC.drawX mixed
        · intro s0 Oo
          refine f_move rfl rfl ?_
          refine f_move rfl rfl ?_
          refine f_move rfl rfl ?_
          refine f_indexD rfl rfl rfl (Int.natCast_nonneg i) hget rfl ?_
          refine f_fieldD rfl rfl ?_
          refine f_loadDc rfl rfl rfl ?_
          refine f_buildSlice rfl rfl rfl rfl rfl rfl rfl rfl ?_
          refine f_move rfl rfl ?_
          refine f_loadDw rfl rfl rfl ?_
          refine f_move rfl rfl ?_
          refine f_move rfl rfl ?_
          refine f_indexD rfl rfl rfl (Int.natCast_nonneg i) hget rfl ?_
          refine f_fieldD rfl rfl ?_
          refine f_loadDa rfl rfl rfl ?_
          refine f_callR hcg rfl rfl ?_
          refine f_build rfl rfl rfl rfl rfl ?_
          refine f_buildSlice rfl rfl rfl rfl rfl rfl rfl rfl ?_
          refine f_snoc (H0 := GH v subs main g2) rfl rfl rfl rfl (by rfl) rfl (by rw [eqsC_len]; omega) (by rw [eqsC_len]; omega) ?_
          refine f_assign rfl rfl ?_
          exact TF.nil ⟨by kernel_rfl, rfl⟩
        repeat refine DC.seq ?_
        apply DC.regionX
        · intro s0 Oo
          refine t_move rfl rfl ?_
          refine t_add64 rfl rfl rfl (by omega) ?_
          refine t_assign rfl rfl ?_
          exact TL.nil rfl
        exact againD (k' := outs.length - (i + 1)) (by omega) ⟨i + 1, q ++ [.df w.name e], g2, rfl, by omega, by simp [hqi], by rw [htk]; exact .snoc hdf w e hge, hm1.trans hm2, rfl⟩ (by rw [hv1]; rfl) ⟨by simp; rfl, by rw [hv1]; rfl, rfl, rfl, rfl, trivial⟩
      · refine DC.exit ?_
        have hc' : i = outs.length := by have := of_decide_eq_false hc; omega
        subst hc'
        rw [List.take_length] at hdf
        obtain ⟨e1, e2, e3⟩ := gh_end v subs main g1 16 (eqsC q)
        repeat refine DC.seq ?_
        apply DC.regionX
        · intro s0 Oo
          refine t_move rfl rfl ?_
          refine t_assign rfl rfl ?_
          refine t_assign rfl rfl ?_
          exact TL.nil rfl
        refine DC.viewSlot 8 rfl (gen_view (GH v subs main g1) 16 (eqsC q) (eqsC_lens q)) ?_
        have hnn := hm1.n
        simp only at hnn
        exact DC.ret ⟨_, rfl, e1, mbb_ok rfl, e2, q, [], g1, rfl, e3, by simp only; rw [hnn]; exact .defs hdf, by omega, by simp, bm_mv hW3 hn hm1⟩
    have hql : decide (gq - 1 > 0) = true := decide_eq_true (by omega)
    obtain ⟨c, rfl⟩ : ∃ c', c = c' + 1 := ⟨c - 1, by omega⟩
    have ihE := ihE c rfl
    have ihB := ihB d rfl
    have hs : ScC (800 - 200 * d) s := ⟨by omega, ha, by omega⟩
    have hdd : ((d + 1 : Nat) : Int) - 1 = (d : Int) := by omega
    have hdb : (d : Int) ≤ 2 := by omega
    obtain ⟨r0, K0, ⟨j, g0, rfl, rfl, hr0⟩, hc0⟩ := next_dt ht subs main 9 (by omega) (by omega) ⟨gi, gn, gq - 1⟩ hg
    have hj := hr0.lt
    have hm0 := hr0.mv
    have e0n := hm0.n
    have e0q := hm0.q
    have e0i := hm0.i
    have hpay := hr0.pay
    simp only at e0n e0q e0i hpay
    have hcases : j = 0 ∨ j = 1 ∨ j = 2 ∨ j = 3 ∨ j = 4 ∨ j = 5 ∨ j = 6 ∨ j = 7 ∨ j = 8 := by omega
    rcases hcases with rfl | rfl | rfl | rfl | rfl | rfl | rfl | rfl | rfl
    · skip
      obtain ⟨r1, K1, ⟨qq, g1, rfl, rfl, hgq, hbm⟩, hc1⟩ := choice_dt ht subs main d (by omega) ihB s hs outs ho g0 hm0.le (by omega) (by omega) (by omega)
      obtain ⟨a0, a1, a2, a3, a4, a5, a6, a7, a8, a9, b0, b1, b2, b3, b4, b5, hcs⟩ := list16 qq.len
      rw [hcs] at hc1
      refine DT.of_body Try.func71 rfl Try.ntmps71 rfl ?_
      show DC _ _ _ _ ⟨_, _, [.box (tapeC v gi), .box (genC gn gq subs main)]⟩ _
      repeat refine DC.seq ?_
      apply DC.regionX
      · intro s0 Oo
        refine t_box rfl rfl ?_
        refine t_assign rfl rfl ?_
        refine t_assign rfl rfl ?_
        exact TL.nil rfl
      repeat refine DC.seq ?_
      apply DC.regionX
      · intro s0 Oo
        refine t_move rfl rfl ?_
        refine t_nilCheck rfl rfl rfl ?_
        refine t_fieldR rfl rfl ?_
        refine t_loadRc rfl rfl rfl rfl ?_
        refine t_sub64 rfl rfl rfl (by omega) ?_
        refine t_nilCheck rfl rfl rfl ?_
        refine t_fieldR rfl rfl ?_
        refine t_storeR rfl rfl rfl rfl rfl rfl ?_
        exact TL.nil rfl
      repeat refine DC.seq ?_
      apply DC.regionX
      · intro s0 Oo
        refine t_move rfl rfl ?_
        (refine t_int rfl rfl rfl (r := .bool true) (by show some (D.bool (decide _)) = _; rw [hdl]) ?_)
        refine t_move rfl rfl ?_
        refine t_guard_yes rfl ?_; refine t_move rfl rfl ?_
        refine t_guard_yes rfl ?_; refine t_nilCheck rfl rfl rfl ?_
        refine t_guard_yes rfl ?_; refine t_fieldR rfl rfl ?_
        refine t_guard_yes rfl ?_; refine t_loadRc rfl rfl rfl rfl ?_
        refine t_guard_yes rfl ?_; refine t_int rfl rfl rfl (r := .bool true) (by show some (D.bool (decide _)) = _; rw [hql]) ?_
        refine t_pick rfl rfl rfl ?_
        exact TL.nil rfl
      repeat refine DC.seq ?_
      refine DC.cond rfl (fun hc => ?_) (fun hc => by cases hc)
      repeat refine DC.seq ?_
      apply DC.regionX
      · intro s0 Oo
        refine t_move rfl rfl ?_
        refine t_nilCheck rfl rfl rfl ?_
        refine t_fieldR rfl rfl ?_
        refine t_loadRc rfl rfl rfl rfl ?_
        refine t_callD hc0 rfl rfl ?_
        exact TL.nil rfl
      repeat refine DC.seq ?_
      refine DC.block ?_
      repeat refine DC.seq ?_
      apply DC.regionX
      · intro s0 Oo
        refine t_int rfl rfl rfl rfl ?_
        refine t_assign rfl rfl ?_
        exact TL.nil rfl
      repeat refine DC.seq ?_
      refine DC.cond rfl (fun hc => ?_) (fun hc => by cases hc)
      refine DC.skip ?_
      repeat refine DC.seq ?_
      refine DC.cond rfl (fun hc => ?_) (fun hc => by cases hc)
      repeat refine DC.seq ?_
      apply DC.regionX
      · intro s0 Oo
        refine t_move rfl rfl ?_
        refine t_loadDw rfl rfl rfl ?_
        refine t_move rfl rfl ?_
        refine t_move rfl rfl ?_
        refine t_callD hc1 rfl rfl ?_
        refine t_buildSlice rfl rfl rfl rfl rfl rfl rfl rfl ?_
        refine t_assign rfl rfl ?_
        refine t_assign rfl rfl ?_
        exact TL.nil rfl
      exact DC.ret ⟨_, rfl, [qq], [], g1, by rw [eqsC, eqsC, hcs]; rfl, rfl, by rw [← e0n]; exact hgq, by simp, by simp, bm_bm hqp (by have := hW.1; simp only [qP] at this; omega) hm0 hbm⟩
    · skip
      obtain ⟨r1, K1, ⟨qq, g1, rfl, rfl, hgq, hbm⟩, hc1⟩ := choice_dt ht subs main d (by omega) ihB s hs outs ho g0 hm0.le (by omega) (by omega) (by omega)
      obtain ⟨a0, a1, a2, a3, a4, a5, a6, a7, a8, a9, b0, b1, b2, b3, b4, b5, hcs⟩ := list16 qq.len
      rw [hcs] at hc1
      refine DT.of_body Try.func71 rfl Try.ntmps71 rfl ?_
      show DC _ _ _ _ ⟨_, _, [.box (tapeC v gi), .box (genC gn gq subs main)]⟩ _
      repeat refine DC.seq ?_
      apply DC.regionX
      · intro s0 Oo
        refine t_box rfl rfl ?_
        refine t_assign rfl rfl ?_
        refine t_assign rfl rfl ?_
        exact TL.nil rfl
      repeat refine DC.seq ?_
      apply DC.regionX
      · intro s0 Oo
        refine t_move rfl rfl ?_
        refine t_nilCheck rfl rfl rfl ?_
        refine t_fieldR rfl rfl ?_
        refine t_loadRc rfl rfl rfl rfl ?_
        refine t_sub64 rfl rfl rfl (by omega) ?_
        refine t_nilCheck rfl rfl rfl ?_
        refine t_fieldR rfl rfl ?_
        refine t_storeR rfl rfl rfl rfl rfl rfl ?_
        exact TL.nil rfl
      repeat refine DC.seq ?_
      apply DC.regionX
      · intro s0 Oo
        refine t_move rfl rfl ?_
        (refine t_int rfl rfl rfl (r := .bool true) (by show some (D.bool (decide _)) = _; rw [hdl]) ?_)
        refine t_move rfl rfl ?_
        refine t_guard_yes rfl ?_; refine t_move rfl rfl ?_
        refine t_guard_yes rfl ?_; refine t_nilCheck rfl rfl rfl ?_
        refine t_guard_yes rfl ?_; refine t_fieldR rfl rfl ?_
        refine t_guard_yes rfl ?_; refine t_loadRc rfl rfl rfl rfl ?_
        refine t_guard_yes rfl ?_; refine t_int rfl rfl rfl (r := .bool true) (by show some (D.bool (decide _)) = _; rw [hql]) ?_
        refine t_pick rfl rfl rfl ?_
        exact TL.nil rfl
      repeat refine DC.seq ?_
      refine DC.cond rfl (fun hc => ?_) (fun hc => by cases hc)
      repeat refine DC.seq ?_
      apply DC.regionX
      · intro s0 Oo
        refine t_move rfl rfl ?_
        refine t_nilCheck rfl rfl rfl ?_
        refine t_fieldR rfl rfl ?_
        refine t_loadRc rfl rfl rfl rfl ?_
        refine t_callD hc0 rfl rfl ?_
        exact TL.nil rfl
      repeat refine DC.seq ?_
      refine DC.block ?_
      repeat refine DC.seq ?_
      apply DC.regionX
      · intro s0 Oo
        refine t_int rfl rfl rfl rfl ?_
        refine t_assign rfl rfl ?_
        exact TL.nil rfl
      repeat refine DC.seq ?_
      refine DC.cond rfl (fun hc => by cases hc) (fun hc => ?_)
      repeat refine DC.seq ?_
      apply DC.regionX
      · intro s0 Oo
        refine t_int rfl rfl rfl rfl ?_
        refine t_assign rfl rfl ?_
        exact TL.nil rfl
      repeat refine DC.seq ?_
      refine DC.cond rfl (fun hc => ?_) (fun hc => by cases hc)
      repeat refine DC.seq ?_
      apply DC.regionX
      · intro s0 Oo
        refine t_move rfl rfl ?_
        refine t_loadDw rfl rfl rfl ?_
        refine t_move rfl rfl ?_
        refine t_move rfl rfl ?_
        refine t_callD hc1 rfl rfl ?_
        refine t_buildSlice rfl rfl rfl rfl rfl rfl rfl rfl ?_
        refine t_assign rfl rfl ?_
        refine t_assign rfl rfl ?_
        exact TL.nil rfl
      exact DC.ret ⟨_, rfl, [qq], [], g1, by rw [eqsC, eqsC, hcs]; rfl, rfl, by rw [← e0n]; exact hgq, by simp, by simp, bm_bm hqp (by have := hW.1; simp only [qP] at this; omega) hm0 hbm⟩
    · skip
      obtain ⟨r1, K1, ⟨qq, g1, rfl, rfl, hgq, hbm⟩, hc1⟩ := auto_dt ht subs main d (by omega) ihB s hs outs ho g0 hm0.le (by omega) (by omega) (by omega)
      obtain ⟨a0, a1, a2, a3, a4, a5, a6, a7, a8, a9, b0, b1, b2, b3, b4, b5, hcs⟩ := list16 qq.len
      rw [hcs] at hc1
      refine DT.of_body Try.func71 rfl Try.ntmps71 rfl ?_
      show DC _ _ _ _ ⟨_, _, [.box (tapeC v gi), .box (genC gn gq subs main)]⟩ _
      repeat refine DC.seq ?_
      apply DC.regionX
      · intro s0 Oo
        refine t_box rfl rfl ?_
        refine t_assign rfl rfl ?_
        refine t_assign rfl rfl ?_
        exact TL.nil rfl
      repeat refine DC.seq ?_
      apply DC.regionX
      · intro s0 Oo
        refine t_move rfl rfl ?_
        refine t_nilCheck rfl rfl rfl ?_
        refine t_fieldR rfl rfl ?_
        refine t_loadRc rfl rfl rfl rfl ?_
        refine t_sub64 rfl rfl rfl (by omega) ?_
        refine t_nilCheck rfl rfl rfl ?_
        refine t_fieldR rfl rfl ?_
        refine t_storeR rfl rfl rfl rfl rfl rfl ?_
        exact TL.nil rfl
      repeat refine DC.seq ?_
      apply DC.regionX
      · intro s0 Oo
        refine t_move rfl rfl ?_
        (refine t_int rfl rfl rfl (r := .bool true) (by show some (D.bool (decide _)) = _; rw [hdl]) ?_)
        refine t_move rfl rfl ?_
        refine t_guard_yes rfl ?_; refine t_move rfl rfl ?_
        refine t_guard_yes rfl ?_; refine t_nilCheck rfl rfl rfl ?_
        refine t_guard_yes rfl ?_; refine t_fieldR rfl rfl ?_
        refine t_guard_yes rfl ?_; refine t_loadRc rfl rfl rfl rfl ?_
        refine t_guard_yes rfl ?_; refine t_int rfl rfl rfl (r := .bool true) (by show some (D.bool (decide _)) = _; rw [hql]) ?_
        refine t_pick rfl rfl rfl ?_
        exact TL.nil rfl
      repeat refine DC.seq ?_
      refine DC.cond rfl (fun hc => ?_) (fun hc => by cases hc)
      repeat refine DC.seq ?_
      apply DC.regionX
      · intro s0 Oo
        refine t_move rfl rfl ?_
        refine t_nilCheck rfl rfl rfl ?_
        refine t_fieldR rfl rfl ?_
        refine t_loadRc rfl rfl rfl rfl ?_
        refine t_callD hc0 rfl rfl ?_
        exact TL.nil rfl
      repeat refine DC.seq ?_
      refine DC.block ?_
      repeat refine DC.seq ?_
      apply DC.regionX
      · intro s0 Oo
        refine t_int rfl rfl rfl rfl ?_
        refine t_assign rfl rfl ?_
        exact TL.nil rfl
      repeat refine DC.seq ?_
      refine DC.cond rfl (fun hc => by cases hc) (fun hc => ?_)
      repeat refine DC.seq ?_
      apply DC.regionX
      · intro s0 Oo
        refine t_int rfl rfl rfl rfl ?_
        refine t_assign rfl rfl ?_
        exact TL.nil rfl
      repeat refine DC.seq ?_
      refine DC.cond rfl (fun hc => by cases hc) (fun hc => ?_)
      repeat refine DC.seq ?_
      apply DC.regionX
      · intro s0 Oo
        refine t_int rfl rfl rfl rfl ?_
        refine t_assign rfl rfl ?_
        exact TL.nil rfl
      repeat refine DC.seq ?_
      refine DC.cond rfl (fun hc => ?_) (fun hc => by cases hc)
      refine DC.skip ?_
      repeat refine DC.seq ?_
      refine DC.cond rfl (fun hc => ?_) (fun hc => by cases hc)
      repeat refine DC.seq ?_
      apply DC.regionX
      · intro s0 Oo
        refine t_move rfl rfl ?_
        refine t_loadDw rfl rfl rfl ?_
        refine t_move rfl rfl ?_
        refine t_move rfl rfl ?_
        refine t_callD hc1 rfl rfl ?_
        refine t_buildSlice rfl rfl rfl rfl rfl rfl rfl rfl ?_
        refine t_assign rfl rfl ?_
        refine t_assign rfl rfl ?_
        exact TL.nil rfl
      exact DC.ret ⟨_, rfl, [qq], [], g1, by rw [eqsC, eqsC, hcs]; rfl, rfl, by rw [← e0n]; exact hgq, by simp, by simp, bm_bm hqp (by have := hW.1; simp only [qP] at this; omega) hm0 hbm⟩
    · skip
      obtain ⟨r1, K1, ⟨qq, g1, rfl, rfl, hgq, hbm⟩, hc1⟩ := auto_dt ht subs main d (by omega) ihB s hs outs ho g0 hm0.le (by omega) (by omega) (by omega)
      obtain ⟨a0, a1, a2, a3, a4, a5, a6, a7, a8, a9, b0, b1, b2, b3, b4, b5, hcs⟩ := list16 qq.len
      rw [hcs] at hc1
      refine DT.of_body Try.func71 rfl Try.ntmps71 rfl ?_
      show DC _ _ _ _ ⟨_, _, [.box (tapeC v gi), .box (genC gn gq subs main)]⟩ _
      repeat refine DC.seq ?_
      apply DC.regionX
      · intro s0 Oo
        refine t_box rfl rfl ?_
        refine t_assign rfl rfl ?_
        refine t_assign rfl rfl ?_
        exact TL.nil rfl
      repeat refine DC.seq ?_
      apply DC.regionX
      · intro s0 Oo
        refine t_move rfl rfl ?_
        refine t_nilCheck rfl rfl rfl ?_
        refine t_fieldR rfl rfl ?_
        refine t_loadRc rfl rfl rfl rfl ?_
        refine t_sub64 rfl rfl rfl (by omega) ?_
        refine t_nilCheck rfl rfl rfl ?_
        refine t_fieldR rfl rfl ?_
        refine t_storeR rfl rfl rfl rfl rfl rfl ?_
        exact TL.nil rfl
      repeat refine DC.seq ?_
      apply DC.regionX
      · intro s0 Oo
        refine t_move rfl rfl ?_
        (refine t_int rfl rfl rfl (r := .bool true) (by show some (D.bool (decide _)) = _; rw [hdl]) ?_)
        refine t_move rfl rfl ?_
        refine t_guard_yes rfl ?_; refine t_move rfl rfl ?_
        refine t_guard_yes rfl ?_; refine t_nilCheck rfl rfl rfl ?_
        refine t_guard_yes rfl ?_; refine t_fieldR rfl rfl ?_
        refine t_guard_yes rfl ?_; refine t_loadRc rfl rfl rfl rfl ?_
        refine t_guard_yes rfl ?_; refine t_int rfl rfl rfl (r := .bool true) (by show some (D.bool (decide _)) = _; rw [hql]) ?_
        refine t_pick rfl rfl rfl ?_
        exact TL.nil rfl
      repeat refine DC.seq ?_
      refine DC.cond rfl (fun hc => ?_) (fun hc => by cases hc)
      repeat refine DC.seq ?_
      apply DC.regionX
      · intro s0 Oo
        refine t_move rfl rfl ?_
        refine t_nilCheck rfl rfl rfl ?_
        refine t_fieldR rfl rfl ?_
        refine t_loadRc rfl rfl rfl rfl ?_
        refine t_callD hc0 rfl rfl ?_
        exact TL.nil rfl
      repeat refine DC.seq ?_
      refine DC.block ?_
      repeat refine DC.seq ?_
      apply DC.regionX
      · intro s0 Oo
        refine t_int rfl rfl rfl rfl ?_
        refine t_assign rfl rfl ?_
        exact TL.nil rfl
      repeat refine DC.seq ?_
      refine DC.cond rfl (fun hc => by cases hc) (fun hc => ?_)
      repeat refine DC.seq ?_
      apply DC.regionX
      · intro s0 Oo
        refine t_int rfl rfl rfl rfl ?_
        refine t_assign rfl rfl ?_
        exact TL.nil rfl
      repeat refine DC.seq ?_
      refine DC.cond rfl (fun hc => by cases hc) (fun hc => ?_)
      repeat refine DC.seq ?_
      apply DC.regionX
      · intro s0 Oo
        refine t_int rfl rfl rfl rfl ?_
        refine t_assign rfl rfl ?_
        exact TL.nil rfl
      repeat refine DC.seq ?_
      refine DC.cond rfl (fun hc => by cases hc) (fun hc => ?_)
      repeat refine DC.seq ?_
      apply DC.regionX
      · intro s0 Oo
        refine t_int rfl rfl rfl rfl ?_
        refine t_assign rfl rfl ?_
        exact TL.nil rfl
      repeat refine DC.seq ?_
      refine DC.cond rfl (fun hc => ?_) (fun hc => by cases hc)
      repeat refine DC.seq ?_
      apply DC.regionX
      · intro s0 Oo
        refine t_move rfl rfl ?_
        refine t_loadDw rfl rfl rfl ?_
        refine t_move rfl rfl ?_
        refine t_move rfl rfl ?_
        refine t_callD hc1 rfl rfl ?_
        refine t_buildSlice rfl rfl rfl rfl rfl rfl rfl rfl ?_
        refine t_assign rfl rfl ?_
        refine t_assign rfl rfl ?_
        exact TL.nil rfl
      exact DC.ret ⟨_, rfl, [qq], [], g1, by rw [eqsC, eqsC, hcs]; rfl, rfl, by rw [← e0n]; exact hgq, by simp, by simp, bm_bm hqp (by have := hW.1; simp only [qP] at this; omega) hm0 hbm⟩
    · skip
      obtain ⟨r1, K1, ⟨e, g1, rfl, rfl, hge, hm1⟩, hc1⟩ := expr_dt ht subs main 2 (by omega) s hsb .bool true g0 hm0.le
      obtain ⟨ke, ope, ne, se, ae, be, he⟩ := e.shape
      rw [he] at hc1
      have e1n := hm1.n
      have e1q := hm1.q
      have e1i := hm1.i
      obtain ⟨r2, K2, ⟨b, g2, rfl, rfl, hgb, hbm⟩, hc2⟩ := ihB s hs outs ho g1 hm1.le (by omega) (by omega) (by omega)
      obtain ⟨bv, bq, hb⟩ := b.shape
      rw [hb] at hc2
      refine DT.of_body Try.func71 rfl Try.ntmps71 rfl ?_
      show DC _ _ _ _ ⟨_, _, [.box (tapeC v gi), .box (genC gn gq subs main)]⟩ _
      repeat refine DC.seq ?_
      apply DC.regionX
      · intro s0 Oo
        refine t_box rfl rfl ?_
        refine t_assign rfl rfl ?_
        refine t_assign rfl rfl ?_
        exact TL.nil rfl
      repeat refine DC.seq ?_
      apply DC.regionX
      · intro s0 Oo
        refine t_move rfl rfl ?_
        refine t_nilCheck rfl rfl rfl ?_
        refine t_fieldR rfl rfl ?_
        refine t_loadRc rfl rfl rfl rfl ?_
        refine t_sub64 rfl rfl rfl (by omega) ?_
        refine t_nilCheck rfl rfl rfl ?_
        refine t_fieldR rfl rfl ?_
        refine t_storeR rfl rfl rfl rfl rfl rfl ?_
        exact TL.nil rfl
      repeat refine DC.seq ?_
      apply DC.regionX
      · intro s0 Oo
        refine t_move rfl rfl ?_
        (refine t_int rfl rfl rfl (r := .bool true) (by show some (D.bool (decide _)) = _; rw [hdl]) ?_)
        refine t_move rfl rfl ?_
        refine t_guard_yes rfl ?_; refine t_move rfl rfl ?_
        refine t_guard_yes rfl ?_; refine t_nilCheck rfl rfl rfl ?_
        refine t_guard_yes rfl ?_; refine t_fieldR rfl rfl ?_
        refine t_guard_yes rfl ?_; refine t_loadRc rfl rfl rfl rfl ?_
        refine t_guard_yes rfl ?_; refine t_int rfl rfl rfl (r := .bool true) (by show some (D.bool (decide _)) = _; rw [hql]) ?_
        refine t_pick rfl rfl rfl ?_
        exact TL.nil rfl
      repeat refine DC.seq ?_
      refine DC.cond rfl (fun hc => ?_) (fun hc => by cases hc)
      repeat refine DC.seq ?_
      apply DC.regionX
      · intro s0 Oo
        refine t_move rfl rfl ?_
        refine t_nilCheck rfl rfl rfl ?_
        refine t_fieldR rfl rfl ?_
        refine t_loadRc rfl rfl rfl rfl ?_
        refine t_callD hc0 rfl rfl ?_
        exact TL.nil rfl
      repeat refine DC.seq ?_
      refine DC.block ?_
      repeat refine DC.seq ?_
      apply DC.regionX
      · intro s0 Oo
        refine t_int rfl rfl rfl rfl ?_
        refine t_assign rfl rfl ?_
        exact TL.nil rfl
      repeat refine DC.seq ?_
      refine DC.cond rfl (fun hc => by cases hc) (fun hc => ?_)
      repeat refine DC.seq ?_
      apply DC.regionX
      · intro s0 Oo
        refine t_int rfl rfl rfl rfl ?_
        refine t_assign rfl rfl ?_
        exact TL.nil rfl
      repeat refine DC.seq ?_
      refine DC.cond rfl (fun hc => by cases hc) (fun hc => ?_)
      repeat refine DC.seq ?_
      apply DC.regionX
      · intro s0 Oo
        refine t_int rfl rfl rfl rfl ?_
        refine t_assign rfl rfl ?_
        exact TL.nil rfl
      repeat refine DC.seq ?_
      refine DC.cond rfl (fun hc => by cases hc) (fun hc => ?_)
      repeat refine DC.seq ?_
      apply DC.regionX
      · intro s0 Oo
        refine t_int rfl rfl rfl rfl ?_
        refine t_assign rfl rfl ?_
        exact TL.nil rfl
      repeat refine DC.seq ?_
      refine DC.cond rfl (fun hc => by cases hc) (fun hc => ?_)
      repeat refine DC.seq ?_
      apply DC.regionX
      · intro s0 Oo
        refine t_int rfl rfl rfl rfl ?_
        refine t_assign rfl rfl ?_
        exact TL.nil rfl
      repeat refine DC.seq ?_
      refine DC.cond rfl (fun hc => ?_) (fun hc => by cases hc)
      repeat refine DC.seq ?_
      apply DC.drawX mixed
      · intro s0 Oo
        refine f_move rfl rfl ?_
        refine f_loadDw rfl rfl rfl ?_
        refine f_call1 tBool_pt rfl rfl ?_
        refine f_callR hc1 rfl rfl ?_
        refine f_build rfl rfl rfl rfl rfl ?_
        refine f_alloc rfl ?_
        refine f_storeL rfl rfl rfl rfl rfl rfl ?_
        exact TF.nil ⟨by kernel_rfl, rfl⟩
      repeat refine DC.seq ?_
      apply DC.regionX
      · intro s0 Oo
        refine t_move rfl rfl ?_
        refine t_loadDw rfl rfl rfl ?_
        refine t_move rfl rfl ?_
        refine t_move rfl rfl ?_
        (refine t_sub64 rfl rfl rfl (by omega) ?_; rw [hdd])
        refine t_callD hc2 rfl rfl ?_
        refine t_build rfl rfl rfl rfl rfl ?_
        refine t_buildSlice rfl rfl rfl rfl rfl rfl rfl rfl ?_
        refine t_fieldL rfl rfl ?_
        refine t_storeL rfl rfl rfl rfl rfl rfl ?_
        exact TL.nil rfl
      repeat refine DC.seq ?_
      apply DC.regionX
      · intro s0 Oo
        refine t_loadLa rfl rfl rfl rfl rfl ?_
        refine t_buildSlice rfl rfl rfl rfl rfl rfl rfl rfl ?_
        refine t_assign rfl rfl ?_
        refine t_assign rfl rfl ?_
        exact TL.nil rfl
      have hbw := hbm.q0
      have hbw1 := hbm.q1
      have hbi := hbm.i
      have hbn := hbm.n
      have hq3 := qB_le2 d (by omega)
      exact DC.ret ⟨_, rfl, [.reset e b], [], g2, by rw [eqsC, eqsC, Eqn.cells, he, hb]; rfl, rfl, .reset hge (by simp only; rw [← e0n, ← e1n]; exact hgb), by simp, by simp, ⟨by simp only; omega, hbm.le, by simp only; omega, hbm.pay, by simp only [qP]; omega, by simp only; omega⟩⟩
    · skip
      rcases Nat.eq_zero_or_pos subs with hs0 | hs0
      · skip
        have hsl : decide (((subs : Nat) : Int) > 0) = false := decide_eq_false (by omega)
        refine DT.drop 2 (Nat.le_refl _) ?_
        refine DT.of_body Try.func71 rfl Try.ntmps71 rfl ?_
        show DC _ _ _ _ ⟨_, _, [.box (tapeC v gi), .box (genC gn gq subs main)]⟩ _
        repeat refine DC.seq ?_
        apply DC.regionX
        · intro s0 Oo
          refine t_box rfl rfl ?_
          refine t_assign rfl rfl ?_
          refine t_assign rfl rfl ?_
          exact TL.nil rfl
        repeat refine DC.seq ?_
        apply DC.regionX
        · intro s0 Oo
          refine t_move rfl rfl ?_
          refine t_nilCheck rfl rfl rfl ?_
          refine t_fieldR rfl rfl ?_
          refine t_loadRc rfl rfl rfl rfl ?_
          refine t_sub64 rfl rfl rfl (by omega) ?_
          refine t_nilCheck rfl rfl rfl ?_
          refine t_fieldR rfl rfl ?_
          refine t_storeR rfl rfl rfl rfl rfl rfl ?_
          exact TL.nil rfl
        repeat refine DC.seq ?_
        apply DC.regionX
        · intro s0 Oo
          refine t_move rfl rfl ?_
          (refine t_int rfl rfl rfl (r := .bool true) (by show some (D.bool (decide _)) = _; rw [hdl]) ?_)
          refine t_move rfl rfl ?_
          refine t_guard_yes rfl ?_; refine t_move rfl rfl ?_
          refine t_guard_yes rfl ?_; refine t_nilCheck rfl rfl rfl ?_
          refine t_guard_yes rfl ?_; refine t_fieldR rfl rfl ?_
          refine t_guard_yes rfl ?_; refine t_loadRc rfl rfl rfl rfl ?_
          refine t_guard_yes rfl ?_; refine t_int rfl rfl rfl (r := .bool true) (by show some (D.bool (decide _)) = _; rw [hql]) ?_
          refine t_pick rfl rfl rfl ?_
          exact TL.nil rfl
        repeat refine DC.seq ?_
        refine DC.cond rfl (fun hc => ?_) (fun hc => by cases hc)
        repeat refine DC.seq ?_
        apply DC.regionX
        · intro s0 Oo
          refine t_move rfl rfl ?_
          refine t_nilCheck rfl rfl rfl ?_
          refine t_fieldR rfl rfl ?_
          refine t_loadRc rfl rfl rfl rfl ?_
          refine t_callD hc0 rfl rfl ?_
          exact TL.nil rfl
        repeat refine DC.seq ?_
        refine DC.block ?_
        repeat refine DC.seq ?_
        apply DC.regionX
        · intro s0 Oo
          refine t_int rfl rfl rfl rfl ?_
          refine t_assign rfl rfl ?_
          exact TL.nil rfl
        repeat refine DC.seq ?_
        refine DC.cond rfl (fun hc => by cases hc) (fun hc => ?_)
        repeat refine DC.seq ?_
        apply DC.regionX
        · intro s0 Oo
          refine t_int rfl rfl rfl rfl ?_
          refine t_assign rfl rfl ?_
          exact TL.nil rfl
        repeat refine DC.seq ?_
        refine DC.cond rfl (fun hc => by cases hc) (fun hc => ?_)
        repeat refine DC.seq ?_
        apply DC.regionX
        · intro s0 Oo
          refine t_int rfl rfl rfl rfl ?_
          refine t_assign rfl rfl ?_
          exact TL.nil rfl
        repeat refine DC.seq ?_
        refine DC.cond rfl (fun hc => by cases hc) (fun hc => ?_)
        repeat refine DC.seq ?_
        apply DC.regionX
        · intro s0 Oo
          refine t_int rfl rfl rfl rfl ?_
          refine t_assign rfl rfl ?_
          exact TL.nil rfl
        repeat refine DC.seq ?_
        refine DC.cond rfl (fun hc => by cases hc) (fun hc => ?_)
        repeat refine DC.seq ?_
        apply DC.regionX
        · intro s0 Oo
          refine t_int rfl rfl rfl rfl ?_
          refine t_assign rfl rfl ?_
          exact TL.nil rfl
        repeat refine DC.seq ?_
        refine DC.cond rfl (fun hc => by cases hc) (fun hc => ?_)
        repeat refine DC.seq ?_
        apply DC.regionX
        · intro s0 Oo
          refine t_int rfl rfl rfl rfl ?_
          refine t_assign rfl rfl ?_
          exact TL.nil rfl
        repeat refine DC.seq ?_
        refine DC.cond rfl (fun hc => ?_) (fun hc => by cases hc)
        refine DC.skip ?_
        repeat refine DC.seq ?_
        refine DC.cond rfl (fun hc => ?_) (fun hc => by cases hc)
        repeat refine DC.seq ?_
        apply DC.regionX
        · intro s0 Oo
          refine t_move rfl rfl ?_
          refine t_nilCheck rfl rfl rfl ?_
          refine t_fieldR rfl rfl ?_
          refine t_loadRc rfl rfl rfl rfl ?_
          (refine t_int rfl rfl rfl (r := .bool false) (by show some (D.bool (decide _)) = _; rw [hsl]) ?_)
          exact TL.nil rfl
        repeat refine DC.seq ?_
        refine DC.cond rfl (fun hc => by cases hc) (fun hc => ?_)
        refine DC.skip ?_
        refine DC.rename [(5, .m (.d (.pim s.cells 0))), (2, .m (.d (.sl (vasC outs)))), (0, .m (.ref 1 0))] (GH v subs main g0) ⟨rfl, rfl, rfl, trivial⟩ rfl ?_
        repeat refine DC.seq ?_
        apply DC.regionX
        · intro s0 Oo
          refine t_assign rfl rfl ?_
          exact TL.nil rfl
        repeat refine DC.seq ?_
        apply DC.regionX
        · intro s0 Oo
          refine t_assign rfl rfl ?_
          exact TL.nil rfl
        refine DC.rename [(12, .m (.d (.int .i64 ((0 : Nat) : Int)))), (11, .m (genM 2 (eqsC []))), (5, .m (.d (.pim s.cells 0))), (2, .m (.d (.sl (vasC outs)))), (0, .m (.ref 1 0))] (genH (GH v subs main g0) 16 (eqsC [])) ⟨rfl, rfl, rfl, rfl, rfl, trivial⟩ rfl ?_
        repeat refine DC.seq ?_
        refine DC.block ?_
        refine DC.loop (fun k s1 => ∃ (i : Nat) (q : List Eqn) (g' : GS), s1 = ⟨[(12, .m (.d (.int .i64 (i : Int)))), (11, .m (genM 2 (eqsC q))), (5, .m (.d (.pim s.cells 0))), (2, .m (.d (.sl (vasC outs)))), (0, .m (.ref 1 0))], [], genH (GH v subs main g') 16 (eqsC q)⟩ ∧ i ≤ outs.length ∧ q.length = i ∧ Defs s (outs.take i) q ∧ Mv zs ⟨gi, gn, gq - 1⟩ g' ∧ k = outs.length - i) outs.length _
          ⟨0, [], g0, rfl, by omega, rfl, .nil, hm0, rfl⟩ ⟨rfl, rfl, rfl, rfl, rfl, trivial⟩ ?_
        rintro k s1 ⟨i, q, g1, rfl, hi, hqi, hdf, hm1, rfl⟩
        repeat refine DC.seq ?_
        apply DC.regionX
        · intro s0 Oo
          refine t_move rfl rfl ?_
          refine t_move rfl rfl ?_
          (refine t_lenS rfl rfl rfl ?_; rw [vasC_len])
          refine t_int rfl rfl rfl rfl ?_
          exact TL.nil rfl
        repeat refine DC.seq ?_
        refine DC.cond rfl (fun hc => ?_) (fun hc => ?_)
        · have hc' : i < outs.length := by have := of_decide_eq_true hc; omega
          clear hc
          have hget := vasC_get hc'
          have htk : outs.take (i + 1) = outs.take i ++ [outs[i]] := List.take_succ_eq_append_getElem hc'
          generalize outs[i] = w at hget htk
          obtain ⟨x0, x1, x2, x3, x4, x5, x6, x7, hw, _⟩ := va_shape w
          rw [hw] at hget
          obtain ⟨r1, K1, ⟨e, g2, rfl, rfl, hge, hm2⟩, hc1⟩ := expr_dt ht subs main 3 (by omega) s hsb w.ty true g1 hm1.le
          obtain ⟨ke, ope, ne, se, ae, be, he⟩ := e.shape
          rw [he] at hc1
          have hcg := genCall (by rfl) hc1 16 (eqsC q)
          have hv1 : eqsC (q ++ [.df w.name e]) = eqsC q ++ [[.int .u8 1, .sl [[.str w.name]], .str ⟨#[]⟩, .sl [], .bool false, .int .u8 ke, .int .u8 ope, .int .i32 ne, .str se, .sl ae, .sl be, .int .i64 0, .int .i64 0, .sl [], .int .i64 0, .int .i64 0]] := by rw [eqsC_append, eqsC, eqsC, Eqn.cells, he]; rfl
          refine DC.skip ?_
          repeat refine DC.seq ?_
          refine DC.block ?_
          repeat refine DC.seq ?_
          apply DC.drawX mixed
          · intro s0 Oo
            refine f_move rfl rfl ?_
            refine f_move rfl rfl ?_
            refine f_move rfl rfl ?_
            refine f_indexD rfl rfl rfl (Int.natCast_nonneg i) hget rfl ?_
            refine f_fieldD rfl rfl ?_
            refine f_loadDc rfl rfl rfl ?_
            refine f_buildSlice rfl rfl rfl rfl rfl rfl rfl rfl ?_
            refine f_move rfl rfl ?_
            refine f_loadDw rfl rfl rfl ?_
            refine f_move rfl rfl ?_
            refine f_move rfl rfl ?_
            refine f_indexD rfl rfl rfl (Int.natCast_nonneg i) hget rfl ?_
            refine f_fieldD rfl rfl ?_
            refine f_loadDa rfl rfl rfl ?_
            refine f_callR hcg rfl rfl ?_
            refine f_build rfl rfl rfl rfl rfl ?_
            refine f_buildSlice rfl rfl rfl rfl rfl rfl rfl rfl ?_
            refine f_snoc (H0 := GH v subs main g2) rfl rfl rfl rfl (by rfl) rfl (by rw [eqsC_len]; omega) (by rw [eqsC_len]; omega) ?_
            refine f_assign rfl rfl ?_
            exact TF.nil ⟨by kernel_rfl, rfl⟩
          repeat refine DC.seq ?_
          apply DC.regionX
          · intro s0 Oo
            refine t_move rfl rfl ?_
            refine t_add64 rfl rfl rfl (by omega) ?_
            refine t_assign rfl rfl ?_
            exact TL.nil rfl
          exact againD (k' := outs.length - (i + 1)) (by omega) ⟨i + 1, q ++ [.df w.name e], g2, rfl, by omega, by simp [hqi], by rw [htk]; exact .snoc hdf w e hge, hm1.trans hm2, rfl⟩ (by rw [hv1]; rfl) ⟨by simp; rfl, by rw [hv1]; rfl, rfl, rfl, rfl, trivial⟩
        · refine DC.exit ?_
          have hc' : i = outs.length := by have := of_decide_eq_false hc; omega
          subst hc'
          rw [List.take_length] at hdf
          obtain ⟨e1, e2, e3⟩ := gh_end v subs main g1 16 (eqsC q)
          repeat refine DC.seq ?_
          apply DC.regionX
          · intro s0 Oo
            refine t_move rfl rfl ?_
            refine t_assign rfl rfl ?_
            refine t_assign rfl rfl ?_
            exact TL.nil rfl
          refine DC.viewSlot 8 rfl (gen_view (GH v subs main g1) 16 (eqsC q) (eqsC_lens q)) ?_
          have hnn := hm1.n
          simp only at hnn
          exact DC.ret ⟨_, rfl, e1, mbb_ok rfl, e2, q, [], g1, rfl, e3, by simp only; rw [hnn]; exact .defs hdf, by omega, by simp, bm_mv hW3 hn hm1⟩
      · skip
        have hsl : decide (((subs : Nat) : Int) > 0) = true := decide_eq_true (by omega)
        have hpp := hpay (by omega)
        obtain ⟨r1, K1, ⟨ql, vs, g1, rfl, rfl, hgq, hql1, hvl, hbm⟩, hc1⟩ := call_dt ht subs main (d + 1) c hD (by omega) ihE s (by omega) ha hla outs ho hs0 hsub2 g0 hm0.le (by omega) (by omega) (by omega)
        refine DT.of_body Try.func71 rfl Try.ntmps71 rfl ?_
        show DC _ _ _ _ ⟨_, _, [.box (tapeC v gi), .box (genC gn gq subs main)]⟩ _
        repeat refine DC.seq ?_
        apply DC.regionX
        · intro s0 Oo
          refine t_box rfl rfl ?_
          refine t_assign rfl rfl ?_
          refine t_assign rfl rfl ?_
          exact TL.nil rfl
        repeat refine DC.seq ?_
        apply DC.regionX
        · intro s0 Oo
          refine t_move rfl rfl ?_
          refine t_nilCheck rfl rfl rfl ?_
          refine t_fieldR rfl rfl ?_
          refine t_loadRc rfl rfl rfl rfl ?_
          refine t_sub64 rfl rfl rfl (by omega) ?_
          refine t_nilCheck rfl rfl rfl ?_
          refine t_fieldR rfl rfl ?_
          refine t_storeR rfl rfl rfl rfl rfl rfl ?_
          exact TL.nil rfl
        repeat refine DC.seq ?_
        apply DC.regionX
        · intro s0 Oo
          refine t_move rfl rfl ?_
          (refine t_int rfl rfl rfl (r := .bool true) (by show some (D.bool (decide _)) = _; rw [hdl]) ?_)
          refine t_move rfl rfl ?_
          refine t_guard_yes rfl ?_; refine t_move rfl rfl ?_
          refine t_guard_yes rfl ?_; refine t_nilCheck rfl rfl rfl ?_
          refine t_guard_yes rfl ?_; refine t_fieldR rfl rfl ?_
          refine t_guard_yes rfl ?_; refine t_loadRc rfl rfl rfl rfl ?_
          refine t_guard_yes rfl ?_; refine t_int rfl rfl rfl (r := .bool true) (by show some (D.bool (decide _)) = _; rw [hql]) ?_
          refine t_pick rfl rfl rfl ?_
          exact TL.nil rfl
        repeat refine DC.seq ?_
        refine DC.cond rfl (fun hc => ?_) (fun hc => by cases hc)
        repeat refine DC.seq ?_
        apply DC.regionX
        · intro s0 Oo
          refine t_move rfl rfl ?_
          refine t_nilCheck rfl rfl rfl ?_
          refine t_fieldR rfl rfl ?_
          refine t_loadRc rfl rfl rfl rfl ?_
          refine t_callD hc0 rfl rfl ?_
          exact TL.nil rfl
        repeat refine DC.seq ?_
        refine DC.block ?_
        repeat refine DC.seq ?_
        apply DC.regionX
        · intro s0 Oo
          refine t_int rfl rfl rfl rfl ?_
          refine t_assign rfl rfl ?_
          exact TL.nil rfl
        repeat refine DC.seq ?_
        refine DC.cond rfl (fun hc => by cases hc) (fun hc => ?_)
        repeat refine DC.seq ?_
        apply DC.regionX
        · intro s0 Oo
          refine t_int rfl rfl rfl rfl ?_
          refine t_assign rfl rfl ?_
          exact TL.nil rfl
        repeat refine DC.seq ?_
        refine DC.cond rfl (fun hc => by cases hc) (fun hc => ?_)
        repeat refine DC.seq ?_
        apply DC.regionX
        · intro s0 Oo
          refine t_int rfl rfl rfl rfl ?_
          refine t_assign rfl rfl ?_
          exact TL.nil rfl
        repeat refine DC.seq ?_
        refine DC.cond rfl (fun hc => by cases hc) (fun hc => ?_)
        repeat refine DC.seq ?_
        apply DC.regionX
        · intro s0 Oo
          refine t_int rfl rfl rfl rfl ?_
          refine t_assign rfl rfl ?_
          exact TL.nil rfl
        repeat refine DC.seq ?_
        refine DC.cond rfl (fun hc => by cases hc) (fun hc => ?_)
        repeat refine DC.seq ?_
        apply DC.regionX
        · intro s0 Oo
          refine t_int rfl rfl rfl rfl ?_
          refine t_assign rfl rfl ?_
          exact TL.nil rfl
        repeat refine DC.seq ?_
        refine DC.cond rfl (fun hc => by cases hc) (fun hc => ?_)
        repeat refine DC.seq ?_
        apply DC.regionX
        · intro s0 Oo
          refine t_int rfl rfl rfl rfl ?_
          refine t_assign rfl rfl ?_
          exact TL.nil rfl
        repeat refine DC.seq ?_
        refine DC.cond rfl (fun hc => ?_) (fun hc => by cases hc)
        refine DC.skip ?_
        repeat refine DC.seq ?_
        refine DC.cond rfl (fun hc => ?_) (fun hc => by cases hc)
        repeat refine DC.seq ?_
        apply DC.regionX
        · intro s0 Oo
          refine t_move rfl rfl ?_
          refine t_nilCheck rfl rfl rfl ?_
          refine t_fieldR rfl rfl ?_
          refine t_loadRc rfl rfl rfl rfl ?_
          (refine t_int rfl rfl rfl (r := .bool true) (by show some (D.bool (decide _)) = _; rw [hsl]) ?_)
          exact TL.nil rfl
        repeat refine DC.seq ?_
        refine DC.cond rfl (fun hc => ?_) (fun hc => by cases hc)
        repeat refine DC.seq ?_
        apply DC.regionX
        · intro s0 Oo
          refine t_move rfl rfl ?_
          refine t_loadDw rfl rfl rfl ?_
          refine t_move rfl rfl ?_
          refine t_move rfl rfl ?_
          refine t_callD hc1 rfl rfl ?_
          refine t_extract rfl rfl rfl ?_
          refine t_extract rfl rfl rfl ?_
          refine t_assign rfl rfl ?_
          refine t_assign rfl rfl ?_
          exact TL.nil rfl
        have hbw := hbm.q0
        have hbw1 := hbm.q1
        have hbi := hbm.i
        have hbn := hbm.n
        exact DC.ret ⟨_, rfl, ql, vs, g1, rfl, rfl, by rw [← e0n]; exact hgq, by omega, by omega, ⟨by simp only; omega, hbm.le, by simp only; omega, hbm.pay, by simp only; omega, by simp only; omega⟩⟩
    · skip
      rcases Nat.eq_zero_or_pos subs with hs0 | hs0
      · skip
        have hsl : decide (((subs : Nat) : Int) > 0) = false := decide_eq_false (by omega)
        refine DT.drop 2 (Nat.le_refl _) ?_
        refine DT.of_body Try.func71 rfl Try.ntmps71 rfl ?_
        show DC _ _ _ _ ⟨_, _, [.box (tapeC v gi), .box (genC gn gq subs main)]⟩ _
        repeat refine DC.seq ?_
        apply DC.regionX
        · intro s0 Oo
          refine t_box rfl rfl ?_
          refine t_assign rfl rfl ?_
          refine t_assign rfl rfl ?_
          exact TL.nil rfl
        repeat refine DC.seq ?_
        apply DC.regionX
        · intro s0 Oo
          refine t_move rfl rfl ?_
          refine t_nilCheck rfl rfl rfl ?_
          refine t_fieldR rfl rfl ?_
          refine t_loadRc rfl rfl rfl rfl ?_
          refine t_sub64 rfl rfl rfl (by omega) ?_
          refine t_nilCheck rfl rfl rfl ?_
          refine t_fieldR rfl rfl ?_
          refine t_storeR rfl rfl rfl rfl rfl rfl ?_
          exact TL.nil rfl
        repeat refine DC.seq ?_
        apply DC.regionX
        · intro s0 Oo
          refine t_move rfl rfl ?_
          (refine t_int rfl rfl rfl (r := .bool true) (by show some (D.bool (decide _)) = _; rw [hdl]) ?_)
          refine t_move rfl rfl ?_
          refine t_guard_yes rfl ?_; refine t_move rfl rfl ?_
          refine t_guard_yes rfl ?_; refine t_nilCheck rfl rfl rfl ?_
          refine t_guard_yes rfl ?_; refine t_fieldR rfl rfl ?_
          refine t_guard_yes rfl ?_; refine t_loadRc rfl rfl rfl rfl ?_
          refine t_guard_yes rfl ?_; refine t_int rfl rfl rfl (r := .bool true) (by show some (D.bool (decide _)) = _; rw [hql]) ?_
          refine t_pick rfl rfl rfl ?_
          exact TL.nil rfl
        repeat refine DC.seq ?_
        refine DC.cond rfl (fun hc => ?_) (fun hc => by cases hc)
        repeat refine DC.seq ?_
        apply DC.regionX
        · intro s0 Oo
          refine t_move rfl rfl ?_
          refine t_nilCheck rfl rfl rfl ?_
          refine t_fieldR rfl rfl ?_
          refine t_loadRc rfl rfl rfl rfl ?_
          refine t_callD hc0 rfl rfl ?_
          exact TL.nil rfl
        repeat refine DC.seq ?_
        refine DC.block ?_
        repeat refine DC.seq ?_
        apply DC.regionX
        · intro s0 Oo
          refine t_int rfl rfl rfl rfl ?_
          refine t_assign rfl rfl ?_
          exact TL.nil rfl
        repeat refine DC.seq ?_
        refine DC.cond rfl (fun hc => by cases hc) (fun hc => ?_)
        repeat refine DC.seq ?_
        apply DC.regionX
        · intro s0 Oo
          refine t_int rfl rfl rfl rfl ?_
          refine t_assign rfl rfl ?_
          exact TL.nil rfl
        repeat refine DC.seq ?_
        refine DC.cond rfl (fun hc => by cases hc) (fun hc => ?_)
        repeat refine DC.seq ?_
        apply DC.regionX
        · intro s0 Oo
          refine t_int rfl rfl rfl rfl ?_
          refine t_assign rfl rfl ?_
          exact TL.nil rfl
        repeat refine DC.seq ?_
        refine DC.cond rfl (fun hc => by cases hc) (fun hc => ?_)
        repeat refine DC.seq ?_
        apply DC.regionX
        · intro s0 Oo
          refine t_int rfl rfl rfl rfl ?_
          refine t_assign rfl rfl ?_
          exact TL.nil rfl
        repeat refine DC.seq ?_
        refine DC.cond rfl (fun hc => by cases hc) (fun hc => ?_)
        repeat refine DC.seq ?_
        apply DC.regionX
        · intro s0 Oo
          refine t_int rfl rfl rfl rfl ?_
          refine t_assign rfl rfl ?_
          exact TL.nil rfl
        repeat refine DC.seq ?_
        refine DC.cond rfl (fun hc => by cases hc) (fun hc => ?_)
        repeat refine DC.seq ?_
        apply DC.regionX
        · intro s0 Oo
          refine t_int rfl rfl rfl rfl ?_
          refine t_assign rfl rfl ?_
          exact TL.nil rfl
        repeat refine DC.seq ?_
        refine DC.cond rfl (fun hc => by cases hc) (fun hc => ?_)
        repeat refine DC.seq ?_
        apply DC.regionX
        · intro s0 Oo
          refine t_int rfl rfl rfl rfl ?_
          refine t_assign rfl rfl ?_
          exact TL.nil rfl
        repeat refine DC.seq ?_
        refine DC.cond rfl (fun hc => ?_) (fun hc => by cases hc)
        repeat refine DC.seq ?_
        apply DC.regionX
        · intro s0 Oo
          refine t_move rfl rfl ?_
          refine t_nilCheck rfl rfl rfl ?_
          refine t_fieldR rfl rfl ?_
          refine t_loadRc rfl rfl rfl rfl ?_
          (refine t_int rfl rfl rfl (r := .bool false) (by show some (D.bool (decide _)) = _; rw [hsl]) ?_)
          exact TL.nil rfl
        repeat refine DC.seq ?_
        refine DC.cond rfl (fun hc => by cases hc) (fun hc => ?_)
        refine DC.skip ?_
        refine DC.rename [(5, .m (.d (.pim s.cells 0))), (2, .m (.d (.sl (vasC outs)))), (0, .m (.ref 1 0))] (GH v subs main g0) ⟨rfl, rfl, rfl, trivial⟩ rfl ?_
        repeat refine DC.seq ?_
        apply DC.regionX
        · intro s0 Oo
          refine t_assign rfl rfl ?_
          exact TL.nil rfl
        repeat refine DC.seq ?_
        apply DC.regionX
        · intro s0 Oo
          refine t_assign rfl rfl ?_
          exact TL.nil rfl
        refine DC.rename [(12, .m (.d (.int .i64 ((0 : Nat) : Int)))), (11, .m (genM 2 (eqsC []))), (5, .m (.d (.pim s.cells 0))), (2, .m (.d (.sl (vasC outs)))), (0, .m (.ref 1 0))] (genH (GH v subs main g0) 16 (eqsC [])) ⟨rfl, rfl, rfl, rfl, rfl, trivial⟩ rfl ?_
        repeat refine DC.seq ?_
        refine DC.block ?_
        refine DC.loop (fun k s1 => ∃ (i : Nat) (q : List Eqn) (g' : GS), s1 = ⟨[(12, .m (.d (.int .i64 (i : Int)))), (11, .m (genM 2 (eqsC q))), (5, .m (.d (.pim s.cells 0))), (2, .m (.d (.sl (vasC outs)))), (0, .m (.ref 1 0))], [], genH (GH v subs main g') 16 (eqsC q)⟩ ∧ i ≤ outs.length ∧ q.length = i ∧ Defs s (outs.take i) q ∧ Mv zs ⟨gi, gn, gq - 1⟩ g' ∧ k = outs.length - i) outs.length _
          ⟨0, [], g0, rfl, by omega, rfl, .nil, hm0, rfl⟩ ⟨rfl, rfl, rfl, rfl, rfl, trivial⟩ ?_
        rintro k s1 ⟨i, q, g1, rfl, hi, hqi, hdf, hm1, rfl⟩
        repeat refine DC.seq ?_
        apply DC.regionX
        · intro s0 Oo
          refine t_move rfl rfl ?_
          refine t_move rfl rfl ?_
          (refine t_lenS rfl rfl rfl ?_; rw [vasC_len])
          refine t_int rfl rfl rfl rfl ?_
          exact TL.nil rfl
        repeat refine DC.seq ?_
        refine DC.cond rfl (fun hc => ?_) (fun hc => ?_)
        · have hc' : i < outs.length := by have := of_decide_eq_true hc; omega
          clear hc
          have hget := vasC_get hc'
          have htk : outs.take (i + 1) = outs.take i ++ [outs[i]] := List.take_succ_eq_append_getElem hc'
          generalize outs[i] = w at hget htk
          obtain ⟨x0, x1, x2, x3, x4, x5, x6, x7, hw, _⟩ := va_shape w
          rw [hw] at hget
          obtain ⟨r1, K1, ⟨e, g2, rfl, rfl, hge, hm2⟩, hc1⟩ := expr_dt ht subs main 3 (by omega) s hsb w.ty true g1 hm1.le
          obtain ⟨ke, ope, ne, se, ae, be, he⟩ := e.shape
          rw [he] at hc1
          have hcg := genCall (by rfl) hc1 16 (eqsC q)
          have hv1 : eqsC (q ++ [.df w.name e]) = eqsC q ++ [[.int .u8 1, .sl [[.str w.name]], .str ⟨#[]⟩, .sl [], .bool false, .int .u8 ke, .int .u8 ope, .int .i32 ne, .str se, .sl ae, .sl be, .int .i64 0, .int .i64 0, .sl [], .int .i64 0, .int .i64 0]] := by rw [eqsC_append, eqsC, eqsC, Eqn.cells, he]; rfl
          refine DC.skip ?_
          repeat refine DC.seq ?_
          refine DC.block ?_
          repeat refine DC.seq ?_
          apply DC.drawX mixed
          · intro s0 Oo
            refine f_move rfl rfl ?_
            refine f_move rfl rfl ?_
            refine f_move rfl rfl ?_
            refine f_indexD rfl rfl rfl (Int.natCast_nonneg i) hget rfl ?_
            refine f_fieldD rfl rfl ?_
            refine f_loadDc rfl rfl rfl ?_
            refine f_buildSlice rfl rfl rfl rfl rfl rfl rfl rfl ?_
            refine f_move rfl rfl ?_
            refine f_loadDw rfl rfl rfl ?_
            refine f_move rfl rfl ?_
            refine f_move rfl rfl ?_
            refine f_indexD rfl rfl rfl (Int.natCast_nonneg i) hget rfl ?_
            refine f_fieldD rfl rfl ?_
            refine f_loadDa rfl rfl rfl ?_
            refine f_callR hcg rfl rfl ?_
            refine f_build rfl rfl rfl rfl rfl ?_
            refine f_buildSlice rfl rfl rfl rfl rfl rfl rfl rfl ?_
            refine f_snoc (H0 := GH v subs main g2) rfl rfl rfl rfl (by rfl) rfl (by rw [eqsC_len]; omega) (by rw [eqsC_len]; omega) ?_
            refine f_assign rfl rfl ?_
            exact TF.nil ⟨by kernel_rfl, rfl⟩
          repeat refine DC.seq ?_
          apply DC.regionX
          · intro s0 Oo
            refine t_move rfl rfl ?_
            refine t_add64 rfl rfl rfl (by omega) ?_
            refine t_assign rfl rfl ?_
            exact TL.nil rfl
          exact againD (k' := outs.length - (i + 1)) (by omega) ⟨i + 1, q ++ [.df w.name e], g2, rfl, by omega, by simp [hqi], by rw [htk]; exact .snoc hdf w e hge, hm1.trans hm2, rfl⟩ (by rw [hv1]; rfl) ⟨by simp; rfl, by rw [hv1]; rfl, rfl, rfl, rfl, trivial⟩
        · refine DC.exit ?_
          have hc' : i = outs.length := by have := of_decide_eq_false hc; omega
          subst hc'
          rw [List.take_length] at hdf
          obtain ⟨e1, e2, e3⟩ := gh_end v subs main g1 16 (eqsC q)
          repeat refine DC.seq ?_
          apply DC.regionX
          · intro s0 Oo
            refine t_move rfl rfl ?_
            refine t_assign rfl rfl ?_
            refine t_assign rfl rfl ?_
            exact TL.nil rfl
          refine DC.viewSlot 8 rfl (gen_view (GH v subs main g1) 16 (eqsC q) (eqsC_lens q)) ?_
          have hnn := hm1.n
          simp only at hnn
          exact DC.ret ⟨_, rfl, e1, mbb_ok rfl, e2, q, [], g1, rfl, e3, by simp only; rw [hnn]; exact .defs hdf, by omega, by simp, bm_mv hW3 hn hm1⟩
      · skip
        have hsl : decide (((subs : Nat) : Int) > 0) = true := decide_eq_true (by omega)
        have hpp := hpay (by omega)
        obtain ⟨r1, K1, ⟨ql, vs, g1, rfl, rfl, hgq, hql1, hvl, hbm⟩, hc1⟩ := call_dt ht subs main (d + 1) c hD (by omega) ihE s (by omega) ha hla outs ho hs0 hsub2 g0 hm0.le (by omega) (by omega) (by omega)
        refine DT.of_body Try.func71 rfl Try.ntmps71 rfl ?_
        show DC _ _ _ _ ⟨_, _, [.box (tapeC v gi), .box (genC gn gq subs main)]⟩ _
        repeat refine DC.seq ?_
        apply DC.regionX
        · intro s0 Oo
          refine t_box rfl rfl ?_
          refine t_assign rfl rfl ?_
          refine t_assign rfl rfl ?_
          exact TL.nil rfl
        repeat refine DC.seq ?_
        apply DC.regionX
        · intro s0 Oo
          refine t_move rfl rfl ?_
          refine t_nilCheck rfl rfl rfl ?_
          refine t_fieldR rfl rfl ?_
          refine t_loadRc rfl rfl rfl rfl ?_
          refine t_sub64 rfl rfl rfl (by omega) ?_
          refine t_nilCheck rfl rfl rfl ?_
          refine t_fieldR rfl rfl ?_
          refine t_storeR rfl rfl rfl rfl rfl rfl ?_
          exact TL.nil rfl
        repeat refine DC.seq ?_
        apply DC.regionX
        · intro s0 Oo
          refine t_move rfl rfl ?_
          (refine t_int rfl rfl rfl (r := .bool true) (by show some (D.bool (decide _)) = _; rw [hdl]) ?_)
          refine t_move rfl rfl ?_
          refine t_guard_yes rfl ?_; refine t_move rfl rfl ?_
          refine t_guard_yes rfl ?_; refine t_nilCheck rfl rfl rfl ?_
          refine t_guard_yes rfl ?_; refine t_fieldR rfl rfl ?_
          refine t_guard_yes rfl ?_; refine t_loadRc rfl rfl rfl rfl ?_
          refine t_guard_yes rfl ?_; refine t_int rfl rfl rfl (r := .bool true) (by show some (D.bool (decide _)) = _; rw [hql]) ?_
          refine t_pick rfl rfl rfl ?_
          exact TL.nil rfl
        repeat refine DC.seq ?_
        refine DC.cond rfl (fun hc => ?_) (fun hc => by cases hc)
        repeat refine DC.seq ?_
        apply DC.regionX
        · intro s0 Oo
          refine t_move rfl rfl ?_
          refine t_nilCheck rfl rfl rfl ?_
          refine t_fieldR rfl rfl ?_
          refine t_loadRc rfl rfl rfl rfl ?_
          refine t_callD hc0 rfl rfl ?_
          exact TL.nil rfl
        repeat refine DC.seq ?_
        refine DC.block ?_
        repeat refine DC.seq ?_
        apply DC.regionX
        · intro s0 Oo
          refine t_int rfl rfl rfl rfl ?_
          refine t_assign rfl rfl ?_
          exact TL.nil rfl
        repeat refine DC.seq ?_
        refine DC.cond rfl (fun hc => by cases hc) (fun hc => ?_)
        repeat refine DC.seq ?_
        apply DC.regionX
        · intro s0 Oo
          refine t_int rfl rfl rfl rfl ?_
          refine t_assign rfl rfl ?_
          exact TL.nil rfl
        repeat refine DC.seq ?_
        refine DC.cond rfl (fun hc => by cases hc) (fun hc => ?_)
        repeat refine DC.seq ?_
        apply DC.regionX
        · intro s0 Oo
          refine t_int rfl rfl rfl rfl ?_
          refine t_assign rfl rfl ?_
          exact TL.nil rfl
        repeat refine DC.seq ?_
        refine DC.cond rfl (fun hc => by cases hc) (fun hc => ?_)
        repeat refine DC.seq ?_
        apply DC.regionX
        · intro s0 Oo
          refine t_int rfl rfl rfl rfl ?_
          refine t_assign rfl rfl ?_
          exact TL.nil rfl
        repeat refine DC.seq ?_
        refine DC.cond rfl (fun hc => by cases hc) (fun hc => ?_)
        repeat refine DC.seq ?_
        apply DC.regionX
        · intro s0 Oo
          refine t_int rfl rfl rfl rfl ?_
          refine t_assign rfl rfl ?_
          exact TL.nil rfl
        repeat refine DC.seq ?_
        refine DC.cond rfl (fun hc => by cases hc) (fun hc => ?_)
        repeat refine DC.seq ?_
        apply DC.regionX
        · intro s0 Oo
          refine t_int rfl rfl rfl rfl ?_
          refine t_assign rfl rfl ?_
          exact TL.nil rfl
        repeat refine DC.seq ?_
        refine DC.cond rfl (fun hc => by cases hc) (fun hc => ?_)
        repeat refine DC.seq ?_
        apply DC.regionX
        · intro s0 Oo
          refine t_int rfl rfl rfl rfl ?_
          refine t_assign rfl rfl ?_
          exact TL.nil rfl
        repeat refine DC.seq ?_
        refine DC.cond rfl (fun hc => ?_) (fun hc => by cases hc)
        repeat refine DC.seq ?_
        apply DC.regionX
        · intro s0 Oo
          refine t_move rfl rfl ?_
          refine t_nilCheck rfl rfl rfl ?_
          refine t_fieldR rfl rfl ?_
          refine t_loadRc rfl rfl rfl rfl ?_
          (refine t_int rfl rfl rfl (r := .bool true) (by show some (D.bool (decide _)) = _; rw [hsl]) ?_)
          exact TL.nil rfl
        repeat refine DC.seq ?_
        refine DC.cond rfl (fun hc => ?_) (fun hc => by cases hc)
        repeat refine DC.seq ?_
        apply DC.regionX
        · intro s0 Oo
          refine t_move rfl rfl ?_
          refine t_loadDw rfl rfl rfl ?_
          refine t_move rfl rfl ?_
          refine t_move rfl rfl ?_
          refine t_callD hc1 rfl rfl ?_
          refine t_extract rfl rfl rfl ?_
          refine t_extract rfl rfl rfl ?_
          refine t_assign rfl rfl ?_
          refine t_assign rfl rfl ?_
          exact TL.nil rfl
        have hbw := hbm.q0
        have hbw1 := hbm.q1
        have hbi := hbm.i
        have hbn := hbm.n
        exact DC.ret ⟨_, rfl, ql, vs, g1, rfl, rfl, by rw [← e0n]; exact hgq, by omega, by omega, ⟨by simp only; omega, hbm.le, by simp only; omega, hbm.pay, by simp only; omega, by simp only; omega⟩⟩
    · skip
      have hpp := hpay (by omega)
      obtain ⟨r1, K1, ⟨ql, vs, g1, rfl, rfl, hgq, hql1, hvl, hbm⟩, hc1⟩ := sampled_dt ht subs main (d + 1) c hD (by omega) ihE s (by omega) ha hla outs ho g0 hm0.le (by omega) (by omega) (by omega)
      refine DT.of_body Try.func71 rfl Try.ntmps71 rfl ?_
      show DC _ _ _ _ ⟨_, _, [.box (tapeC v gi), .box (genC gn gq subs main)]⟩ _
      repeat refine DC.seq ?_
      apply DC.regionX
      · intro s0 Oo
        refine t_box rfl rfl ?_
        refine t_assign rfl rfl ?_
        refine t_assign rfl rfl ?_
        exact TL.nil rfl
      repeat refine DC.seq ?_
      apply DC.regionX
      · intro s0 Oo
        refine t_move rfl rfl ?_
        refine t_nilCheck rfl rfl rfl ?_
        refine t_fieldR rfl rfl ?_
        refine t_loadRc rfl rfl rfl rfl ?_
        refine t_sub64 rfl rfl rfl (by omega) ?_
        refine t_nilCheck rfl rfl rfl ?_
        refine t_fieldR rfl rfl ?_
        refine t_storeR rfl rfl rfl rfl rfl rfl ?_
        exact TL.nil rfl
      repeat refine DC.seq ?_
      apply DC.regionX
      · intro s0 Oo
        refine t_move rfl rfl ?_
        (refine t_int rfl rfl rfl (r := .bool true) (by show some (D.bool (decide _)) = _; rw [hdl]) ?_)
        refine t_move rfl rfl ?_
        refine t_guard_yes rfl ?_; refine t_move rfl rfl ?_
        refine t_guard_yes rfl ?_; refine t_nilCheck rfl rfl rfl ?_
        refine t_guard_yes rfl ?_; refine t_fieldR rfl rfl ?_
        refine t_guard_yes rfl ?_; refine t_loadRc rfl rfl rfl rfl ?_
        refine t_guard_yes rfl ?_; refine t_int rfl rfl rfl (r := .bool true) (by show some (D.bool (decide _)) = _; rw [hql]) ?_
        refine t_pick rfl rfl rfl ?_
        exact TL.nil rfl
      repeat refine DC.seq ?_
      refine DC.cond rfl (fun hc => ?_) (fun hc => by cases hc)
      repeat refine DC.seq ?_
      apply DC.regionX
      · intro s0 Oo
        refine t_move rfl rfl ?_
        refine t_nilCheck rfl rfl rfl ?_
        refine t_fieldR rfl rfl ?_
        refine t_loadRc rfl rfl rfl rfl ?_
        refine t_callD hc0 rfl rfl ?_
        exact TL.nil rfl
      repeat refine DC.seq ?_
      refine DC.block ?_
      repeat refine DC.seq ?_
      apply DC.regionX
      · intro s0 Oo
        refine t_int rfl rfl rfl rfl ?_
        refine t_assign rfl rfl ?_
        exact TL.nil rfl
      repeat refine DC.seq ?_
      refine DC.cond rfl (fun hc => by cases hc) (fun hc => ?_)
      repeat refine DC.seq ?_
      apply DC.regionX
      · intro s0 Oo
        refine t_int rfl rfl rfl rfl ?_
        refine t_assign rfl rfl ?_
        exact TL.nil rfl
      repeat refine DC.seq ?_
      refine DC.cond rfl (fun hc => by cases hc) (fun hc => ?_)
      repeat refine DC.seq ?_
      apply DC.regionX
      · intro s0 Oo
        refine t_int rfl rfl rfl rfl ?_
        refine t_assign rfl rfl ?_
        exact TL.nil rfl
      repeat refine DC.seq ?_
      refine DC.cond rfl (fun hc => by cases hc) (fun hc => ?_)
      repeat refine DC.seq ?_
      apply DC.regionX
      · intro s0 Oo
        refine t_int rfl rfl rfl rfl ?_
        refine t_assign rfl rfl ?_
        exact TL.nil rfl
      repeat refine DC.seq ?_
      refine DC.cond rfl (fun hc => by cases hc) (fun hc => ?_)
      repeat refine DC.seq ?_
      apply DC.regionX
      · intro s0 Oo
        refine t_int rfl rfl rfl rfl ?_
        refine t_assign rfl rfl ?_
        exact TL.nil rfl
      repeat refine DC.seq ?_
      refine DC.cond rfl (fun hc => by cases hc) (fun hc => ?_)
      repeat refine DC.seq ?_
      apply DC.regionX
      · intro s0 Oo
        refine t_int rfl rfl rfl rfl ?_
        refine t_assign rfl rfl ?_
        exact TL.nil rfl
      repeat refine DC.seq ?_
      refine DC.cond rfl (fun hc => by cases hc) (fun hc => ?_)
      repeat refine DC.seq ?_
      apply DC.regionX
      · intro s0 Oo
        refine t_int rfl rfl rfl rfl ?_
        refine t_assign rfl rfl ?_
        exact TL.nil rfl
      repeat refine DC.seq ?_
      refine DC.cond rfl (fun hc => by cases hc) (fun hc => ?_)
      repeat refine DC.seq ?_
      apply DC.regionX
      · intro s0 Oo
        refine t_int rfl rfl rfl rfl ?_
        refine t_assign rfl rfl ?_
        exact TL.nil rfl
      repeat refine DC.seq ?_
      refine DC.cond rfl (fun hc => ?_) (fun hc => by cases hc)
      repeat refine DC.seq ?_
      apply DC.regionX
      · intro s0 Oo
        refine t_move rfl rfl ?_
        refine t_loadDw rfl rfl rfl ?_
        refine t_move rfl rfl ?_
        refine t_move rfl rfl ?_
        refine t_callD hc1 rfl rfl ?_
        refine t_extract rfl rfl rfl ?_
        refine t_extract rfl rfl rfl ?_
        refine t_assign rfl rfl ?_
        refine t_assign rfl rfl ?_
        exact TL.nil rfl
      have hbw := hbm.q0
      have hbw1 := hbm.q1
      have hbi := hbm.i
      have hbn := hbm.n
      exact DC.ret ⟨_, rfl, ql, vs, g1, rfl, rfl, by rw [← e0n]; exact hgq, by omega, by omega, ⟨by simp only; omega, hbm.le, by simp only; omega, hbm.pay, by simp only; omega, by simp only; omega⟩⟩
    · skip
      refine DT.drop 2 (Nat.le_refl _) ?_
      refine DT.of_body Try.func71 rfl Try.ntmps71 rfl ?_
      show DC _ _ _ _ ⟨_, _, [.box (tapeC v gi), .box (genC gn gq subs main)]⟩ _
      repeat refine DC.seq ?_
      apply DC.regionX
      · intro s0 Oo
        refine t_box rfl rfl ?_
        refine t_assign rfl rfl ?_
        refine t_assign rfl rfl ?_
        exact TL.nil rfl
      repeat refine DC.seq ?_
      apply DC.regionX
      · intro s0 Oo
        refine t_move rfl rfl ?_
        refine t_nilCheck rfl rfl rfl ?_
        refine t_fieldR rfl rfl ?_
        refine t_loadRc rfl rfl rfl rfl ?_
        refine t_sub64 rfl rfl rfl (by omega) ?_
        refine t_nilCheck rfl rfl rfl ?_
        refine t_fieldR rfl rfl ?_
        refine t_storeR rfl rfl rfl rfl rfl rfl ?_
        exact TL.nil rfl
      repeat refine DC.seq ?_
      apply DC.regionX
      · intro s0 Oo
        refine t_move rfl rfl ?_
        (refine t_int rfl rfl rfl (r := .bool true) (by show some (D.bool (decide _)) = _; rw [hdl]) ?_)
        refine t_move rfl rfl ?_
        refine t_guard_yes rfl ?_; refine t_move rfl rfl ?_
        refine t_guard_yes rfl ?_; refine t_nilCheck rfl rfl rfl ?_
        refine t_guard_yes rfl ?_; refine t_fieldR rfl rfl ?_
        refine t_guard_yes rfl ?_; refine t_loadRc rfl rfl rfl rfl ?_
        refine t_guard_yes rfl ?_; refine t_int rfl rfl rfl (r := .bool true) (by show some (D.bool (decide _)) = _; rw [hql]) ?_
        refine t_pick rfl rfl rfl ?_
        exact TL.nil rfl
      repeat refine DC.seq ?_
      refine DC.cond rfl (fun hc => ?_) (fun hc => by cases hc)
      repeat refine DC.seq ?_
      apply DC.regionX
      · intro s0 Oo
        refine t_move rfl rfl ?_
        refine t_nilCheck rfl rfl rfl ?_
        refine t_fieldR rfl rfl ?_
        refine t_loadRc rfl rfl rfl rfl ?_
        refine t_callD hc0 rfl rfl ?_
        exact TL.nil rfl
      repeat refine DC.seq ?_
      refine DC.block ?_
      repeat refine DC.seq ?_
      apply DC.regionX
      · intro s0 Oo
        refine t_int rfl rfl rfl rfl ?_
        refine t_assign rfl rfl ?_
        exact TL.nil rfl
      repeat refine DC.seq ?_
      refine DC.cond rfl (fun hc => by cases hc) (fun hc => ?_)
      repeat refine DC.seq ?_
      apply DC.regionX
      · intro s0 Oo
        refine t_int rfl rfl rfl rfl ?_
        refine t_assign rfl rfl ?_
        exact TL.nil rfl
      repeat refine DC.seq ?_
      refine DC.cond rfl (fun hc => by cases hc) (fun hc => ?_)
      repeat refine DC.seq ?_
      apply DC.regionX
      · intro s0 Oo
        refine t_int rfl rfl rfl rfl ?_
        refine t_assign rfl rfl ?_
        exact TL.nil rfl
      repeat refine DC.seq ?_
      refine DC.cond rfl (fun hc => by cases hc) (fun hc => ?_)
      repeat refine DC.seq ?_
      apply DC.regionX
      · intro s0 Oo
        refine t_int rfl rfl rfl rfl ?_
        refine t_assign rfl rfl ?_
        exact TL.nil rfl
      repeat refine DC.seq ?_
      refine DC.cond rfl (fun hc => by cases hc) (fun hc => ?_)
      repeat refine DC.seq ?_
      apply DC.regionX
      · intro s0 Oo
        refine t_int rfl rfl rfl rfl ?_
        refine t_assign rfl rfl ?_
        exact TL.nil rfl
      repeat refine DC.seq ?_
      refine DC.cond rfl (fun hc => by cases hc) (fun hc => ?_)
      repeat refine DC.seq ?_
      apply DC.regionX
      · intro s0 Oo
        refine t_int rfl rfl rfl rfl ?_
        refine t_assign rfl rfl ?_
        exact TL.nil rfl
      repeat refine DC.seq ?_
      refine DC.cond rfl (fun hc => by cases hc) (fun hc => ?_)
      repeat refine DC.seq ?_
      apply DC.regionX
      · intro s0 Oo
        refine t_int rfl rfl rfl rfl ?_
        refine t_assign rfl rfl ?_
        exact TL.nil rfl
      repeat refine DC.seq ?_
      refine DC.cond rfl (fun hc => by cases hc) (fun hc => ?_)
      repeat refine DC.seq ?_
      apply DC.regionX
      · intro s0 Oo
        refine t_int rfl rfl rfl rfl ?_
        refine t_assign rfl rfl ?_
        exact TL.nil rfl
      repeat refine DC.seq ?_
      refine DC.cond rfl (fun hc => by cases hc) (fun hc => ?_)
      refine DC.skip ?_
      refine DC.rename [(5, .m (.d (.pim s.cells 0))), (2, .m (.d (.sl (vasC outs)))), (0, .m (.ref 1 0))] (GH v subs main g0) ⟨rfl, rfl, rfl, trivial⟩ rfl ?_
      repeat refine DC.seq ?_
      apply DC.regionX
      · intro s0 Oo
        refine t_assign rfl rfl ?_
        exact TL.nil rfl
      repeat refine DC.seq ?_
      apply DC.regionX
      · intro s0 Oo
        refine t_assign rfl rfl ?_
        exact TL.nil rfl
      refine DC.rename [(12, .m (.d (.int .i64 ((0 : Nat) : Int)))), (11, .m (genM 2 (eqsC []))), (5, .m (.d (.pim s.cells 0))), (2, .m (.d (.sl (vasC outs)))), (0, .m (.ref 1 0))] (genH (GH v subs main g0) 16 (eqsC [])) ⟨rfl, rfl, rfl, rfl, rfl, trivial⟩ rfl ?_
      repeat refine DC.seq ?_
      refine DC.block ?_
      refine DC.loop (fun k s1 => ∃ (i : Nat) (q : List Eqn) (g' : GS), s1 = ⟨[(12, .m (.d (.int .i64 (i : Int)))), (11, .m (genM 2 (eqsC q))), (5, .m (.d (.pim s.cells 0))), (2, .m (.d (.sl (vasC outs)))), (0, .m (.ref 1 0))], [], genH (GH v subs main g') 16 (eqsC q)⟩ ∧ i ≤ outs.length ∧ q.length = i ∧ Defs s (outs.take i) q ∧ Mv zs ⟨gi, gn, gq - 1⟩ g' ∧ k = outs.length - i) outs.length _
        ⟨0, [], g0, rfl, by omega, rfl, .nil, hm0, rfl⟩ ⟨rfl, rfl, rfl, rfl, rfl, trivial⟩ ?_
      rintro k s1 ⟨i, q, g1, rfl, hi, hqi, hdf, hm1, rfl⟩
      repeat refine DC.seq ?_
      apply DC.regionX
      · intro s0 Oo
        refine t_move rfl rfl ?_
        refine t_move rfl rfl ?_
        (refine t_lenS rfl rfl rfl ?_; rw [vasC_len])
        refine t_int rfl rfl rfl rfl ?_
        exact TL.nil rfl
      repeat refine DC.seq ?_
      refine DC.cond rfl (fun hc => ?_) (fun hc => ?_)
      · have hc' : i < outs.length := by have := of_decide_eq_true hc; omega
        clear hc
        have hget := vasC_get hc'
        have htk : outs.take (i + 1) = outs.take i ++ [outs[i]] := List.take_succ_eq_append_getElem hc'
        generalize outs[i] = w at hget htk
        obtain ⟨x0, x1, x2, x3, x4, x5, x6, x7, hw, _⟩ := va_shape w
        rw [hw] at hget
        obtain ⟨r1, K1, ⟨e, g2, rfl, rfl, hge, hm2⟩, hc1⟩ := expr_dt ht subs main 3 (by omega) s hsb w.ty true g1 hm1.le
        obtain ⟨ke, ope, ne, se, ae, be, he⟩ := e.shape
        rw [he] at hc1
        have hcg := genCall (by rfl) hc1 16 (eqsC q)
        have hv1 : eqsC (q ++ [.df w.name e]) = eqsC q ++ [[.int .u8 1, .sl [[.str w.name]], .str ⟨#[]⟩, .sl [], .bool false, .int .u8 ke, .int .u8 ope, .int .i32 ne, .str se, .sl ae, .sl be, .int .i64 0, .int .i64 0, .sl [], .int .i64 0, .int .i64 0]] := by rw [eqsC_append, eqsC, eqsC, Eqn.cells, he]; rfl
        refine DC.skip ?_
        repeat refine DC.seq ?_
        refine DC.block ?_
        repeat refine DC.seq ?_
        apply DC.drawX mixed
        · intro s0 Oo
          refine f_move rfl rfl ?_
          refine f_move rfl rfl ?_
          refine f_move rfl rfl ?_
          refine f_indexD rfl rfl rfl (Int.natCast_nonneg i) hget rfl ?_
          refine f_fieldD rfl rfl ?_
          refine f_loadDc rfl rfl rfl ?_
          refine f_buildSlice rfl rfl rfl rfl rfl rfl rfl rfl ?_
          refine f_move rfl rfl ?_
          refine f_loadDw rfl rfl rfl ?_
          refine f_move rfl rfl ?_
          refine f_move rfl rfl ?_
          refine f_indexD rfl rfl rfl (Int.natCast_nonneg i) hget rfl ?_
          refine f_fieldD rfl rfl ?_
          refine f_loadDa rfl rfl rfl ?_
          refine f_callR hcg rfl rfl ?_
          refine f_build rfl rfl rfl rfl rfl ?_
          refine f_buildSlice rfl rfl rfl rfl rfl rfl rfl rfl ?_
          refine f_snoc (H0 := GH v subs main g2) rfl rfl rfl rfl (by rfl) rfl (by rw [eqsC_len]; omega) (by rw [eqsC_len]; omega) ?_
          refine f_assign rfl rfl ?_
          exact TF.nil ⟨by kernel_rfl, rfl⟩
        repeat refine DC.seq ?_
        apply DC.regionX
        · intro s0 Oo
          refine t_move rfl rfl ?_
          refine t_add64 rfl rfl rfl (by omega) ?_
          refine t_assign rfl rfl ?_
          exact TL.nil rfl
        exact againD (k' := outs.length - (i + 1)) (by omega) ⟨i + 1, q ++ [.df w.name e], g2, rfl, by omega, by simp [hqi], by rw [htk]; exact .snoc hdf w e hge, hm1.trans hm2, rfl⟩ (by rw [hv1]; rfl) ⟨by simp; rfl, by rw [hv1]; rfl, rfl, rfl, rfl, trivial⟩
      · refine DC.exit ?_
        have hc' : i = outs.length := by have := of_decide_eq_false hc; omega
        subst hc'
        rw [List.take_length] at hdf
        obtain ⟨e1, e2, e3⟩ := gh_end v subs main g1 16 (eqsC q)
        repeat refine DC.seq ?_
        apply DC.regionX
        · intro s0 Oo
          refine t_move rfl rfl ?_
          refine t_assign rfl rfl ?_
          refine t_assign rfl rfl ?_
          exact TL.nil rfl
        refine DC.viewSlot 8 rfl (gen_view (GH v subs main g1) 16 (eqsC q) (eqsC_lens q)) ?_
        have hnn := hm1.n
        simp only at hnn
        exact DC.ret ⟨_, rfl, e1, mbb_ok rfl, e2, q, [], g1, rfl, e3, by simp only; rw [hnn]; exact .defs hdf, by omega, by simp, bm_mv hW3 hn hm1⟩
theorem eqs_dt (dp : Nat) (hD : dp ≤ 3) (hsub2 : subs ≤ 10) (ihB : ∀ d, dp = d + 1 → BlockOk zs v subs main d) : ∀ c, c ≤ 14 → EqsOk zs v subs main dp c
  | 0, h => eqs_step ht subs main dp 0 hD h hsub2 ihB (fun c' e => by omega)
  | c + 1, h => eqs_step ht subs main dp (c + 1) hD h hsub2 ihB (fun c' e => by
      have e' : c' = c := by omega
      subst e'
      exact eqs_dt dp hD hsub2 ihB c' (by omega))
end
end Go.Proofs
