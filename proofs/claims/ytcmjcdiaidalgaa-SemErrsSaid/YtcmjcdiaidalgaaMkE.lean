/- Expressions. (Printed by gen_MkE.py.) -/
import Derived.Test.YtcmjcdiaidalgaaMkD
set_option linter.unusedVariables false
set_option linter.unusedSimpArgs false
set_option linter.unusedSectionVars false
namespace Go.Proofs
open Go.Mt Go.Mk
set_option maxRecDepth 4000
set_option linter.unusedSimpArgs false
set_option linter.unusedVariables false

instance : IsFn Try.prog 127 := isFn_of (by kernel_rfl)
instance : IsFn Try.prog 128 := isFn_of (by kernel_rfl)
instance : IsFn Try.prog 102 := isFn_of (by kernel_rfl)
instance : IsFn Try.prog 130 := isFn_of (by kernel_rfl)
instance : IsFn Try.prog 69 := isFn_of (by kernel_rfl)
structure ScB (s : Sc) : Prop where
  ready : s.ready.length ≤ 100000
  all : s.all.length ≤ 100000
  lasts : s.lasts.length ≤ 100000
theorem ScB.wide {s : Sc} (h : ScB s) : ScB ⟨s.all, s.all, s.lasts⟩ := ⟨h.all, h.all, h.lasts⟩
section
variable (zs : List Int) (v : D) (subs : Nat) (main : Bool)
def ExprOk (d : Nat) : Prop := ∀ (s : Sc), ScB s → ∀ (t : Ty) (st : Bool) (g : GS), g.i ≤ zs.length → DT Try.prog 102 [.ref 1 0, .d (.agg s.cells), .d (.agg t.cells), .d (.int .i64 ((d : Nat) : Int)), .d (.bool st)] (GH v subs main g) fun r K => ∃ (e : E) (g' : GS), r = .d (.agg e.cells) ∧ K = GH v subs main g' ∧ GE s t st d e ∧ Mv zs g g'
def OperOk (d : Nat) : Prop := ∀ (s : Sc), ScB s → ∀ (t : Ty) (st : Bool) (g : GS), g.i ≤ zs.length → DT Try.prog 130 [.ref 1 0, .d (.agg s.cells), .d (.agg t.cells), .d (.int .i64 ((d : Nat) : Int)), .d (.bool st)] (GH v subs main g) fun r K => ∃ (e : E) (g' : GS), r = .d (.agg e.cells) ∧ K = GH v subs main g' ∧ GE s t st d e ∧ Mv zs g g'
end
section
variable {zs : List Int} {v : D} (ht : Tape zs v) (subs : Nat) (main : Bool)
include ht
theorem oper_dt (d : Nat) (hd : d ≤ 100) (ih : ExprOk zs v subs main d) : OperOk zs v subs main (d + 1) := by
  intro s hs t st g hg
  obtain ⟨r0, K0, ⟨j, g0, rfl, rfl, hr⟩, hc0⟩ := next_dt ht subs main 6 (by omega) (by omega) g hg
  have hj := hr.lt
  have hm0 := hr.mv
  have hdd : ((d + 1 : Nat) : Int) - 1 = (d : Int) := by omega
  have hdb : (d : Int) ≤ 100 := by omega
  cases t with
  | col =>
    obtain ⟨r1, K1, ⟨e1, g1, rfl, rfl, hge, hm1⟩, hc1⟩ := variable_dt ht subs main s.ready hs.ready .col g0 hm0.le
    obtain ⟨k1, op1, n1, s1, a1, b1, h1⟩ := e1.shape
    rw [h1] at hc1
    refine DT.of_body Try.func130 rfl Try.ntmps130 rfl ?_
    repeat refine DC.seq ?_
    apply DC.regionX
    · intro s0 Oo
      refine t_box rfl rfl ?_
      refine t_box rfl rfl ?_
      refine t_alloc rfl rfl ?_
      exact TL.nil rfl
    repeat refine DC.seq ?_
    apply DC.regionX
    · intro s0 Oo
      refine t_move rfl rfl ?_
      refine t_nilCheck rfl rfl rfl ?_
      refine t_fieldR rfl rfl ?_
      refine t_loadRc rfl rfl rfl rfl ?_
      refine t_callD hc0 rfl rfl ?_
      refine t_assign rfl rfl ?_
      exact TL.nil rfl
    repeat refine DC.seq ?_
    apply DC.regionX
    · intro s0 Oo
      (first | (refine t_fieldD rfl rfl ?_) | (refine t_fieldL rfl rfl ?_))
      (first | (refine t_loadDc rfl rfl rfl ?_) | (refine t_loadLc rfl rfl rfl rfl ?_) | (refine t_loadRc rfl rfl rfl rfl ?_))
      exact TL.nil rfl
    repeat refine DC.seq ?_
    refine DC.block ?_
    repeat refine DC.seq ?_
    apply DC.regionX
    · intro s0 Oo
      refine t_int rfl rfl rfl rfl ?_
      refine t_assign rfl rfl ?_
      exact TL.nil rfl
    repeat refine DC.seq ?_
    refine DC.cond rfl (fun hc => by cases hc) (fun hc => ?_)
    repeat refine DC.seq ?_
    apply DC.regionX
    · intro s0 Oo
      refine t_int rfl rfl rfl rfl ?_
      refine t_assign rfl rfl ?_
      exact TL.nil rfl
    repeat refine DC.seq ?_
    refine DC.cond rfl (fun hc => by cases hc) (fun hc => ?_)
    refine DC.skip ?_
    repeat refine DC.seq ?_
    apply DC.regionX
    · intro s0 Oo
      refine t_move rfl rfl ?_
      (first | (refine t_fieldD rfl rfl ?_) | (refine t_fieldW rfl rfl ?_))
      refine t_loadDc rfl rfl rfl ?_
      (first | (refine t_loadDw rfl rfl rfl ?_) | (refine t_loadRa rfl rfl rfl rfl rfl ?_))
      refine t_callD hc1 rfl rfl ?_
      refine t_storeL rfl rfl rfl rfl rfl rfl ?_
      exact TL.nil rfl
    exact DC.ret ⟨_, rfl, e1, g1, by rw [h1]; rfl, rfl, .v hge, hm0.trans hm1⟩
  | int =>
    obtain ⟨r1, K1, ⟨e1, g1, rfl, rfl, hge1, hm1⟩, hc1⟩ := ih s hs .int st g0 hm0.le
    obtain ⟨r2, K2, ⟨e2, g2, rfl, rfl, hge2, hm2⟩, hc2⟩ := ih s hs .int st g1 hm1.le
    obtain ⟨k1, op1, n1, s1, a1, b1, h1⟩ := e1.shape
    obtain ⟨k2, op2, n2, s2, a2, b2, h2⟩ := e2.shape
    have htwo := fun op => two_pt 7 op e1 e2
    rw [h1] at hc1
    rw [h2] at hc2
    rw [h1, h2] at htwo
    rcases Nat.lt_or_ge j 5 with h5 | h5
    · have hx : ∃ op : Int, op ∈ [(3 : Int), 4, 5, 6, 7] ∧ ([[D.int .u8 3], [.int .u8 4], [.int .u8 5], [.int .u8 6], [.int .u8 7]] : List (List D))[((j : Nat) : Int).toNat]? = some [.int .u8 op] := by
        have : j = 0 ∨ j = 1 ∨ j = 2 ∨ j = 3 ∨ j = 4 := by omega
        rcases this with rfl | rfl | rfl | rfl | rfl
        · exact ⟨3, by simp, rfl⟩
        · exact ⟨4, by simp, rfl⟩
        · exact ⟨5, by simp, rfl⟩
        · exact ⟨6, by simp, rfl⟩
        · exact ⟨7, by simp, rfl⟩
      obtain ⟨op, hop, hget⟩ := hx
      have hb : (((j : Nat) : Int) == 5) = false := beq_eq_false_iff_ne.2 (by omega)
      refine DT.of_body Try.func130 rfl Try.ntmps130 rfl ?_
      repeat refine DC.seq ?_
      apply DC.regionX
      · intro s0 Oo
        refine t_box rfl rfl ?_
        refine t_box rfl rfl ?_
        refine t_alloc rfl rfl ?_
        exact TL.nil rfl
      repeat refine DC.seq ?_
      apply DC.regionX
      · intro s0 Oo
        refine t_move rfl rfl ?_
        refine t_nilCheck rfl rfl rfl ?_
        (first | (refine t_fieldR rfl rfl ?_) | (refine t_fieldW rfl rfl ?_))
        refine t_loadRc rfl rfl rfl rfl ?_
        refine t_callD hc0 rfl rfl ?_
        refine t_assign rfl rfl ?_
        exact TL.nil rfl
      repeat refine DC.seq ?_
      apply DC.regionX
      · intro s0 Oo
        (first | (refine t_fieldD rfl rfl ?_) | (refine t_fieldW rfl rfl ?_))
        refine t_loadDc rfl rfl rfl ?_
        exact TL.nil rfl
      repeat refine DC.seq ?_
      refine DC.block ?_
      repeat refine DC.seq ?_
      apply DC.regionX
      · intro s0 Oo
        refine t_int rfl rfl rfl rfl ?_
        refine t_assign rfl rfl ?_
        exact TL.nil rfl
      repeat refine DC.seq ?_
      refine DC.cond rfl (fun hc => ?_) (fun hc => by cases hc)
      repeat refine DC.seq ?_
      apply DC.regionX
      · intro s0 Oo
        refine t_buildSlice rfl rfl rfl rfl rfl rfl rfl rfl ?_
        refine t_assign rfl rfl ?_
        exact TL.nil rfl
      repeat refine DC.seq ?_
      apply DC.regionX
      · intro s0 Oo
        refine t_move rfl rfl ?_
        (refine t_int rfl rfl rfl (r := .bool false) (by show some (D.bool (((j : Nat) : Int) == 5)) = _; rw [hb]) ?_)
        exact TL.nil rfl
      repeat refine DC.seq ?_
      refine DC.cond rfl (fun hc => by cases hc) (fun hc => ?_)
      refine DC.skip ?_
      repeat refine DC.seq ?_
      apply DC.regionX
      · intro s0 Oo
        refine t_move rfl rfl ?_
        (first | (refine t_loadDw rfl rfl rfl ?_) | (refine t_loadDa rfl rfl rfl ?_))
        (first | (refine t_loadDw rfl rfl rfl ?_) | (refine t_loadDa rfl rfl rfl ?_) | (refine t_loadRa rfl rfl rfl rfl rfl ?_))
        refine t_move rfl rfl ?_
        (refine t_sub64 rfl rfl rfl (by omega) ?_; rw [hdd])
        refine t_move rfl rfl ?_
        refine t_callD hc1 rfl rfl ?_
        refine t_alloc rfl rfl ?_
        refine t_storeL rfl rfl rfl rfl rfl rfl ?_
        exact TL.nil rfl
      repeat refine DC.seq ?_
      apply DC.drawX mixed
      · intro s0 Oo
        refine f_move rfl rfl ?_
        refine f_move rfl rfl ?_
        refine f_indexD rfl rfl rfl (Int.natCast_nonneg j) hget rfl ?_
        refine f_loadDc rfl rfl rfl ?_
        refine f_loadLa rfl rfl rfl rfl rfl ?_
        refine f_move rfl rfl ?_
        (first | (refine f_loadDw rfl rfl rfl ?_) | (refine f_loadLa rfl rfl rfl rfl rfl ?_) | (refine f_loadRa rfl rfl rfl rfl rfl ?_))
        (first | (refine f_loadDw rfl rfl rfl ?_) | (refine f_loadRa rfl rfl rfl rfl rfl ?_))
        refine f_move rfl rfl ?_
        (refine f_sub64 rfl rfl rfl (by omega) ?_; rw [hdd])
        refine f_move rfl rfl ?_
        refine f_callR hc2 rfl rfl ?_
        refine f_call1 (htwo op) rfl rfl ?_
        refine f_storeL rfl rfl rfl rfl rfl rfl ?_
        exact TF.nil ⟨by kernel_rfl, rfl⟩
      exact DC.ret ⟨_, rfl, .bin op e1 e2, g2, by rw [E.cells, h1, h2]; rfl, rfl, .arith op hop hge1 hge2, hm0.trans (hm1.trans hm2)⟩
    · obtain rfl : j = 5 := by omega
      refine DT.of_body Try.func130 rfl Try.ntmps130 rfl ?_
      repeat refine DC.seq ?_
      apply DC.regionX
      · intro s0 Oo
        refine t_box rfl rfl ?_
        refine t_box rfl rfl ?_
        refine t_alloc rfl rfl ?_
        exact TL.nil rfl
      repeat refine DC.seq ?_
      apply DC.regionX
      · intro s0 Oo
        refine t_move rfl rfl ?_
        refine t_nilCheck rfl rfl rfl ?_
        refine t_fieldR rfl rfl ?_
        (first | (refine t_loadLc rfl rfl rfl rfl ?_) | (refine t_loadRc rfl rfl rfl rfl ?_))
        refine t_callD hc0 rfl rfl ?_
        refine t_assign rfl rfl ?_
        exact TL.nil rfl
      repeat refine DC.seq ?_
      apply DC.regionX
      · intro s0 Oo
        (first | (refine t_fieldD rfl rfl ?_) | (refine t_fieldR rfl rfl ?_) | (refine t_fieldW rfl rfl ?_))
        refine t_loadDc rfl rfl rfl ?_
        exact TL.nil rfl
      repeat refine DC.seq ?_
      refine DC.block ?_
      repeat refine DC.seq ?_
      apply DC.regionX
      · intro s0 Oo
        refine t_int rfl rfl rfl rfl ?_
        refine t_assign rfl rfl ?_
        exact TL.nil rfl
      repeat refine DC.seq ?_
      refine DC.cond rfl (fun hc => ?_) (fun hc => by cases hc)
      repeat refine DC.seq ?_
      apply DC.regionX
      · intro s0 Oo
        refine t_buildSlice rfl rfl rfl rfl rfl rfl rfl rfl ?_
        refine t_assign rfl rfl ?_
        exact TL.nil rfl
      repeat refine DC.seq ?_
      apply DC.regionX
      · intro s0 Oo
        refine t_move rfl rfl ?_
        refine t_int rfl rfl rfl rfl ?_
        exact TL.nil rfl
      repeat refine DC.seq ?_
      refine DC.cond rfl (fun hc => ?_) (fun hc => by cases hc)
      repeat refine DC.seq ?_
      apply DC.regionX
      · intro s0 Oo
        refine t_move rfl rfl ?_
        refine t_loadDw rfl rfl rfl ?_
        refine t_loadDw rfl rfl rfl ?_
        refine t_move rfl rfl ?_
        (refine t_sub64 rfl rfl rfl (by omega) ?_; rw [hdd])
        refine t_move rfl rfl ?_
        refine t_callD hc1 rfl rfl ?_
        refine t_buildSlice rfl rfl rfl rfl rfl rfl rfl rfl ?_
        refine t_build rfl rfl rfl rfl rfl ?_
        refine t_storeL rfl rfl rfl rfl rfl rfl ?_
        exact TL.nil rfl
      exact DC.ret ⟨_, rfl, .un 2 e1, g1, by rw [E.cells, h1]; rfl, rfl, .neg hge1, hm0.trans hm1⟩
  | bool =>
    refine DT.mono (p := fun r K => ∃ (e : E) (g' : GS), r = .d (.agg e.cells) ∧ K = GH v subs main g' ∧ GE s .bool st (d + 1) e ∧ Mv zs g g') ?_ (fun _ _ h => h)

    have hcases : j = 0 ∨ j = 1 ∨ j = 2 ∨ j = 3 ∨ j = 4 ∨ j = 5 := by omega
    rcases hcases with rfl | rfl | rfl | rfl | rfl | rfl
    · skip
      obtain ⟨r3, K3, ⟨j3, g3, rfl, rfl, hr3⟩, hc3⟩ := next_dt ht subs main 3 (by omega) (by omega) g0 hm0.le
      have hm3 := hr3.mv
      obtain ⟨r1, K1, ⟨e1, g1, rfl, rfl, hge1, hm1⟩, hc1⟩ := ih s hs .bool st g3 hm3.le
      obtain ⟨r2, K2, ⟨e2, g2, rfl, rfl, hge2, hm2⟩, hc2⟩ := ih s hs .bool st g1 hm1.le
      obtain ⟨k1, op1, n1, s1, a1, b1, h1⟩ := e1.shape
      obtain ⟨k2, op2, n2, s2, a2, b2, h2⟩ := e2.shape
      rw [h1] at hc1
      rw [h2] at hc2
      rcases Nat.eq_zero_or_pos j3 with rfl | hj3
      · skip
        refine DT.of_body Try.func130 rfl Try.ntmps130 rfl ?_
        repeat refine DC.seq ?_
        apply DC.regionX
        · intro s0 Oo
          refine t_box rfl rfl ?_
          refine t_box rfl rfl ?_
          refine t_alloc rfl rfl ?_
          exact TL.nil rfl
        repeat refine DC.seq ?_
        apply DC.regionX
        · intro s0 Oo
          refine t_move rfl rfl ?_
          refine t_nilCheck rfl rfl rfl ?_
          (first | (refine t_fieldD rfl rfl ?_) | (refine t_fieldR rfl rfl ?_) | (refine t_fieldW rfl rfl ?_))
          refine t_loadRc rfl rfl rfl rfl ?_
          refine t_callD hc0 rfl rfl ?_
          refine t_assign rfl rfl ?_
          exact TL.nil rfl
        repeat refine DC.seq ?_
        apply DC.regionX
        · intro s0 Oo
          (first | (refine t_fieldD rfl rfl ?_) | (refine t_fieldW rfl rfl ?_))
          refine t_loadDc rfl rfl rfl ?_
          exact TL.nil rfl
        repeat refine DC.seq ?_
        refine DC.block ?_
        repeat refine DC.seq ?_
        apply DC.regionX
        · intro s0 Oo
          refine t_int rfl rfl rfl rfl ?_
          refine t_assign rfl rfl ?_
          exact TL.nil rfl
        repeat refine DC.seq ?_
        refine DC.cond rfl (fun hc => by cases hc) (fun hc => ?_)
        repeat refine DC.seq ?_
        apply DC.regionX
        · intro s0 Oo
          refine t_int rfl rfl rfl rfl ?_
          refine t_assign rfl rfl ?_
          exact TL.nil rfl
        repeat refine DC.seq ?_
        refine DC.cond rfl (fun hc => ?_) (fun hc => by cases hc)
        repeat refine DC.seq ?_
        apply DC.regionX
        · intro s0 Oo
          refine t_buildSlice rfl rfl rfl rfl rfl rfl rfl rfl ?_
          refine t_assign rfl rfl ?_
          exact TL.nil rfl
        repeat refine DC.seq ?_
        apply DC.regionX
        · intro s0 Oo
          refine t_loadDw rfl rfl rfl ?_
          refine t_alloc rfl rfl ?_
          refine t_storeL rfl rfl rfl rfl rfl rfl ?_
          exact TL.nil rfl
        repeat refine DC.seq ?_
        apply DC.regionX
        · intro s0 Oo
          refine t_move rfl rfl ?_
          refine t_int rfl rfl rfl rfl ?_
          exact TL.nil rfl
        repeat refine DC.seq ?_
        refine DC.cond rfl (fun hc => by cases hc) (fun hc => ?_)
        refine DC.skip ?_
        repeat refine DC.seq ?_
        apply DC.regionX
        · intro s0 Oo
          refine t_move rfl rfl ?_
          refine t_int rfl rfl rfl rfl ?_
          exact TL.nil rfl
        repeat refine DC.seq ?_
        refine DC.cond rfl (fun hc => by cases hc) (fun hc => ?_)
        refine DC.skip ?_
        repeat refine DC.seq ?_
        apply DC.regionX
        · intro s0 Oo
          refine t_move rfl rfl ?_
          refine t_int rfl rfl rfl rfl ?_
          refine t_move rfl rfl ?_
          refine t_guard_yes rfl ?_; refine t_move rfl rfl ?_
          refine t_guard_yes rfl ?_; refine t_nilCheck rfl rfl rfl ?_
          refine t_guard_yes rfl ?_; (first | (refine t_fieldR rfl rfl ?_) | (refine t_fieldW rfl rfl ?_))
          refine t_guard_yes rfl ?_; (first | (refine t_loadLc rfl rfl rfl rfl ?_) | (refine t_loadRc rfl rfl rfl rfl ?_))
          refine t_guard_yes rfl ?_; refine t_callD hc3 rfl rfl ?_
          (first | (refine t_guard_no rfl rfl ?_) | (refine t_guard_yes rfl ?_; refine t_int rfl rfl rfl rfl ?_))
          refine t_pick rfl rfl rfl ?_
          exact TL.nil rfl
        repeat refine DC.seq ?_
        refine DC.cond rfl (fun hc => ?_) (fun hc => by cases hc)
        repeat refine DC.seq ?_
        apply DC.regionX
        · intro s0 Oo
          refine t_move rfl rfl ?_
          (first | (refine t_loadDw rfl rfl rfl ?_) | (refine t_loadLa rfl rfl rfl rfl rfl ?_) | (refine t_loadRa rfl rfl rfl rfl rfl ?_))
          (first | (refine t_loadDw rfl rfl rfl ?_) | (refine t_loadRa rfl rfl rfl rfl rfl ?_))
          refine t_move rfl rfl ?_
          (refine t_sub64 rfl rfl rfl (by omega) ?_; rw [hdd])
          refine t_move rfl rfl ?_
          refine t_callD hc1 rfl rfl ?_
          refine t_buildSlice rfl rfl rfl rfl rfl rfl rfl rfl ?_
          refine t_build rfl rfl rfl rfl rfl ?_
          refine t_storeL rfl rfl rfl rfl rfl rfl ?_
          exact TL.nil rfl
        exact DC.ret ⟨_, rfl, .un 1 e1, g1, by rw [E.cells, h1]; rfl, rfl, .not hge1, hm0.trans (hm3.trans hm1)⟩
      · skip
        have hb : (((j3 : Nat) : Int) == 0) = false := beq_eq_false_iff_ne.2 (by omega)
        refine DT.of_body Try.func130 rfl Try.ntmps130 rfl ?_
        repeat refine DC.seq ?_
        apply DC.regionX
        · intro s0 Oo
          refine t_box rfl rfl ?_
          refine t_box rfl rfl ?_
          refine t_alloc rfl rfl ?_
          exact TL.nil rfl
        repeat refine DC.seq ?_
        apply DC.regionX
        · intro s0 Oo
          refine t_move rfl rfl ?_
          refine t_nilCheck rfl rfl rfl ?_
          refine t_fieldR rfl rfl ?_
          (first | (refine t_loadLc rfl rfl rfl rfl ?_) | (refine t_loadRc rfl rfl rfl rfl ?_))
          refine t_callD hc0 rfl rfl ?_
          refine t_assign rfl rfl ?_
          exact TL.nil rfl
        repeat refine DC.seq ?_
        apply DC.regionX
        · intro s0 Oo
          (first | (refine t_fieldD rfl rfl ?_) | (refine t_fieldR rfl rfl ?_) | (refine t_fieldW rfl rfl ?_))
          refine t_loadDc rfl rfl rfl ?_
          exact TL.nil rfl
        repeat refine DC.seq ?_
        refine DC.block ?_
        repeat refine DC.seq ?_
        apply DC.regionX
        · intro s0 Oo
          refine t_int rfl rfl rfl rfl ?_
          refine t_assign rfl rfl ?_
          exact TL.nil rfl
        repeat refine DC.seq ?_
        refine DC.cond rfl (fun hc => by cases hc) (fun hc => ?_)
        repeat refine DC.seq ?_
        apply DC.regionX
        · intro s0 Oo
          refine t_int rfl rfl rfl rfl ?_
          refine t_assign rfl rfl ?_
          exact TL.nil rfl
        repeat refine DC.seq ?_
        refine DC.cond rfl (fun hc => ?_) (fun hc => by cases hc)
        repeat refine DC.seq ?_
        apply DC.regionX
        · intro s0 Oo
          refine t_buildSlice rfl rfl rfl rfl rfl rfl rfl rfl ?_
          refine t_assign rfl rfl ?_
          exact TL.nil rfl
        repeat refine DC.seq ?_
        apply DC.regionX
        · intro s0 Oo
          (first | (refine t_loadDw rfl rfl rfl ?_) | (refine t_loadRa rfl rfl rfl rfl rfl ?_))
          refine t_alloc rfl rfl ?_
          refine t_storeL rfl rfl rfl rfl rfl rfl ?_
          exact TL.nil rfl
        repeat refine DC.seq ?_
        apply DC.regionX
        · intro s0 Oo
          refine t_move rfl rfl ?_
          refine t_int rfl rfl rfl rfl ?_
          exact TL.nil rfl
        repeat refine DC.seq ?_
        refine DC.cond rfl (fun hc => by cases hc) (fun hc => ?_)
        refine DC.skip ?_
        repeat refine DC.seq ?_
        apply DC.regionX
        · intro s0 Oo
          refine t_move rfl rfl ?_
          refine t_int rfl rfl rfl rfl ?_
          exact TL.nil rfl
        repeat refine DC.seq ?_
        refine DC.cond rfl (fun hc => by cases hc) (fun hc => ?_)
        refine DC.skip ?_
        repeat refine DC.seq ?_
        apply DC.regionX
        · intro s0 Oo
          refine t_move rfl rfl ?_
          refine t_int rfl rfl rfl rfl ?_
          refine t_move rfl rfl ?_
          refine t_guard_yes rfl ?_; refine t_move rfl rfl ?_
          refine t_guard_yes rfl ?_; refine t_nilCheck rfl rfl rfl ?_
          refine t_guard_yes rfl ?_; (first | (refine t_fieldR rfl rfl ?_) | (refine t_fieldW rfl rfl ?_))
          (first | (refine t_guard_no rfl rfl ?_) | (refine t_guard_yes rfl ?_; refine t_loadRc rfl rfl rfl rfl ?_))
          refine t_guard_yes rfl ?_; refine t_callD hc3 rfl rfl ?_
          (first | (refine t_guard_no rfl rfl ?_) | (refine t_guard_yes rfl ?_; refine t_int rfl rfl rfl (r := .bool false) (by show some (D.bool (((j3 : Nat) : Int) == 0)) = _; rw [hb]) ?_))
          refine t_pick rfl rfl rfl ?_
          exact TL.nil rfl
        repeat refine DC.seq ?_
        refine DC.cond rfl (fun hc => by cases hc) (fun hc => ?_)
        refine DC.skip ?_
        have htwo := two_pt 7 8 e1 e2
        rw [h1, h2] at htwo
        repeat refine DC.seq ?_
        apply DC.regionX
        · intro s0 Oo
          refine t_move rfl rfl ?_
          (first | (refine t_loadDw rfl rfl rfl ?_) | (refine t_loadLa rfl rfl rfl rfl rfl ?_))
          refine t_loadLa rfl rfl rfl rfl rfl ?_
          refine t_move rfl rfl ?_
          (refine t_sub64 rfl rfl rfl (by omega) ?_; rw [hdd])
          refine t_move rfl rfl ?_
          refine t_callD hc1 rfl rfl ?_
          refine t_alloc rfl rfl ?_
          refine t_storeL rfl rfl rfl rfl rfl rfl ?_
          exact TL.nil rfl
        repeat refine DC.seq ?_
        apply DC.drawX mixed
        · intro s0 Oo
          refine f_move rfl rfl ?_
          refine f_move rfl rfl ?_
          refine f_indexD rfl rfl rfl (by decide) (r := [.int .u8 8]) rfl rfl ?_
          refine f_loadDc rfl rfl rfl ?_
          (first | (refine f_loadDa rfl rfl rfl ?_) | (refine f_loadLa rfl rfl rfl rfl rfl ?_))
          refine f_move rfl rfl ?_
          (first | (refine f_loadDw rfl rfl rfl ?_) | (refine f_loadDa rfl rfl rfl ?_) | (refine f_loadLa rfl rfl rfl rfl rfl ?_))
          refine f_loadLa rfl rfl rfl rfl rfl ?_
          refine f_move rfl rfl ?_
          (refine f_sub64 rfl rfl rfl (by omega) ?_; rw [hdd])
          refine f_move rfl rfl ?_
          refine f_callR hc2 rfl rfl ?_
          refine f_call1 htwo rfl rfl ?_
          refine f_storeL rfl rfl rfl rfl rfl rfl ?_
          exact TF.nil ⟨by kernel_rfl, rfl⟩
        exact DC.ret ⟨_, rfl, .bin 8 e1 e2, g2, by rw [E.cells, h1, h2]; rfl, rfl, .logic 8 _ (.inl ⟨by simp, rfl⟩) hge1 hge2, hm0.trans (hm3.trans (hm1.trans hm2))⟩
    · skip
      obtain ⟨r1, K1, ⟨e1, g1, rfl, rfl, hge1, hm1⟩, hc1⟩ := ih s hs .bool st g0 hm0.le
      obtain ⟨r2, K2, ⟨e2, g2, rfl, rfl, hge2, hm2⟩, hc2⟩ := ih s hs .bool st g1 hm1.le
      obtain ⟨k1, op1, n1, s1, a1, b1, h1⟩ := e1.shape
      obtain ⟨k2, op2, n2, s2, a2, b2, h2⟩ := e2.shape
      rw [h1] at hc1
      rw [h2] at hc2
      refine DT.of_body Try.func130 rfl Try.ntmps130 rfl ?_
      repeat refine DC.seq ?_
      apply DC.regionX
      · intro s0 Oo
        refine t_box rfl rfl ?_
        refine t_box rfl rfl ?_
        refine t_alloc rfl rfl ?_
        exact TL.nil rfl
      repeat refine DC.seq ?_
      apply DC.regionX
      · intro s0 Oo
        refine t_move rfl rfl ?_
        refine t_nilCheck rfl rfl rfl ?_
        refine t_fieldR rfl rfl ?_
        (first | (refine t_loadDc rfl rfl rfl ?_) | (refine t_loadRc rfl rfl rfl rfl ?_))
        refine t_callD hc0 rfl rfl ?_
        refine t_assign rfl rfl ?_
        exact TL.nil rfl
      repeat refine DC.seq ?_
      apply DC.regionX
      · intro s0 Oo
        (first | (refine t_fieldD rfl rfl ?_) | (refine t_fieldL rfl rfl ?_) | (refine t_fieldR rfl rfl ?_))
        (first | (refine t_loadDc rfl rfl rfl ?_) | (refine t_loadRc rfl rfl rfl rfl ?_))
        exact TL.nil rfl
      repeat refine DC.seq ?_
      refine DC.block ?_
      repeat refine DC.seq ?_
      apply DC.regionX
      · intro s0 Oo
        refine t_int rfl rfl rfl rfl ?_
        refine t_assign rfl rfl ?_
        exact TL.nil rfl
      repeat refine DC.seq ?_
      refine DC.cond rfl (fun hc => by cases hc) (fun hc => ?_)
      repeat refine DC.seq ?_
      apply DC.regionX
      · intro s0 Oo
        refine t_int rfl rfl rfl rfl ?_
        refine t_assign rfl rfl ?_
        exact TL.nil rfl
      repeat refine DC.seq ?_
      refine DC.cond rfl (fun hc => ?_) (fun hc => by cases hc)
      repeat refine DC.seq ?_
      apply DC.regionX
      · intro s0 Oo
        refine t_buildSlice rfl rfl rfl rfl rfl rfl rfl rfl ?_
        refine t_assign rfl rfl ?_
        exact TL.nil rfl
      repeat refine DC.seq ?_
      apply DC.regionX
      · intro s0 Oo
        refine t_loadDw rfl rfl rfl ?_
        refine t_alloc rfl rfl ?_
        refine t_storeL rfl rfl rfl rfl rfl rfl ?_
        exact TL.nil rfl
      repeat refine DC.seq ?_
      apply DC.regionX
      · intro s0 Oo
        refine t_move rfl rfl ?_
        refine t_int rfl rfl rfl rfl ?_
        exact TL.nil rfl
      repeat refine DC.seq ?_
      refine DC.cond rfl (fun hc => by cases hc) (fun hc => ?_)
      refine DC.skip ?_
      repeat refine DC.seq ?_
      apply DC.regionX
      · intro s0 Oo
        refine t_move rfl rfl ?_
        refine t_int rfl rfl rfl rfl ?_
        exact TL.nil rfl
      repeat refine DC.seq ?_
      refine DC.cond rfl (fun hc => by cases hc) (fun hc => ?_)
      refine DC.skip ?_
      repeat refine DC.seq ?_
      apply DC.regionX
      · intro s0 Oo
        refine t_move rfl rfl ?_
        refine t_int rfl rfl rfl rfl ?_
        refine t_move rfl rfl ?_
        (first | (refine t_guard_no rfl rfl ?_) | (refine t_guard_yes rfl ?_; refine t_move rfl rfl ?_))
        refine t_guard_no rfl rfl ?_
        (first | (refine t_guard_no rfl rfl ?_) | (refine t_guard_yes rfl ?_; refine t_fieldD rfl rfl ?_))
        refine t_guard_no rfl rfl ?_
        (first | (refine t_guard_no rfl rfl ?_) | (refine t_guard_yes rfl ?_; fail))
        refine t_guard_no rfl rfl ?_
        refine t_pick rfl rfl rfl ?_
        exact TL.nil rfl
      repeat refine DC.seq ?_
      refine DC.cond rfl (fun hc => by cases hc) (fun hc => ?_)
      refine DC.skip ?_
      have htwo := two_pt 7 9 e1 e2
      rw [h1, h2] at htwo
      repeat refine DC.seq ?_
      apply DC.regionX
      · intro s0 Oo
        refine t_move rfl rfl ?_
        (first | (refine t_loadDw rfl rfl rfl ?_) | (refine t_loadDa rfl rfl rfl ?_) | (refine t_loadLa rfl rfl rfl rfl rfl ?_))
        refine t_loadLa rfl rfl rfl rfl rfl ?_
        refine t_move rfl rfl ?_
        (refine t_sub64 rfl rfl rfl (by omega) ?_; rw [hdd])
        refine t_move rfl rfl ?_
        refine t_callD hc1 rfl rfl ?_
        refine t_alloc rfl rfl ?_
        refine t_storeL rfl rfl rfl rfl rfl rfl ?_
        exact TL.nil rfl
      repeat refine DC.seq ?_
      apply DC.drawX mixed
      · intro s0 Oo
        refine f_move rfl rfl ?_
        refine f_move rfl rfl ?_
        refine f_indexD rfl rfl rfl (by decide) (r := [.int .u8 9]) rfl rfl ?_
        refine f_loadDc rfl rfl rfl ?_
        refine f_loadLa rfl rfl rfl rfl rfl ?_
        refine f_move rfl rfl ?_
        refine f_loadDw rfl rfl rfl ?_
        refine f_loadLa rfl rfl rfl rfl rfl ?_
        refine f_move rfl rfl ?_
        (refine f_sub64 rfl rfl rfl (by omega) ?_; rw [hdd])
        refine f_move rfl rfl ?_
        refine f_callR hc2 rfl rfl ?_
        refine f_call1 htwo rfl rfl ?_
        refine f_storeL rfl rfl rfl rfl rfl rfl ?_
        exact TF.nil ⟨by kernel_rfl, rfl⟩
      exact DC.ret ⟨_, rfl, .bin 9 e1 e2, g2, by rw [E.cells, h1, h2]; rfl, rfl, .logic 9 _ (.inl ⟨by simp, rfl⟩) hge1 hge2, hm0.trans (hm1.trans hm2)⟩
    · skip
      obtain ⟨r1, K1, ⟨e1, g1, rfl, rfl, hge1, hm1⟩, hc1⟩ := ih s hs .bool st g0 hm0.le
      obtain ⟨r2, K2, ⟨e2, g2, rfl, rfl, hge2, hm2⟩, hc2⟩ := ih s hs .bool st g1 hm1.le
      obtain ⟨k1, op1, n1, s1, a1, b1, h1⟩ := e1.shape
      obtain ⟨k2, op2, n2, s2, a2, b2, h2⟩ := e2.shape
      rw [h1] at hc1
      rw [h2] at hc2
      refine DT.of_body Try.func130 rfl Try.ntmps130 rfl ?_
      repeat refine DC.seq ?_
      apply DC.regionX
      · intro s0 Oo
        refine t_box rfl rfl ?_
        refine t_box rfl rfl ?_
        refine t_alloc rfl rfl ?_
        exact TL.nil rfl
      repeat refine DC.seq ?_
      apply DC.regionX
      · intro s0 Oo
        refine t_move rfl rfl ?_
        refine t_nilCheck rfl rfl rfl ?_
        refine t_fieldR rfl rfl ?_
        refine t_loadRc rfl rfl rfl rfl ?_
        refine t_callD hc0 rfl rfl ?_
        refine t_assign rfl rfl ?_
        exact TL.nil rfl
      repeat refine DC.seq ?_
      apply DC.regionX
      · intro s0 Oo
        refine t_fieldD rfl rfl ?_
        refine t_loadDc rfl rfl rfl ?_
        exact TL.nil rfl
      repeat refine DC.seq ?_
      refine DC.block ?_
      repeat refine DC.seq ?_
      apply DC.regionX
      · intro s0 Oo
        refine t_int rfl rfl rfl rfl ?_
        refine t_assign rfl rfl ?_
        exact TL.nil rfl
      repeat refine DC.seq ?_
      refine DC.cond rfl (fun hc => by cases hc) (fun hc => ?_)
      repeat refine DC.seq ?_
      apply DC.regionX
      · intro s0 Oo
        refine t_int rfl rfl rfl rfl ?_
        refine t_assign rfl rfl ?_
        exact TL.nil rfl
      repeat refine DC.seq ?_
      refine DC.cond rfl (fun hc => ?_) (fun hc => by cases hc)
      repeat refine DC.seq ?_
      apply DC.regionX
      · intro s0 Oo
        refine t_buildSlice rfl rfl rfl rfl rfl rfl rfl rfl ?_
        refine t_assign rfl rfl ?_
        exact TL.nil rfl
      repeat refine DC.seq ?_
      apply DC.regionX
      · intro s0 Oo
        refine t_loadDw rfl rfl rfl ?_
        refine t_alloc rfl rfl ?_
        refine t_storeL rfl rfl rfl rfl rfl rfl ?_
        exact TL.nil rfl
      repeat refine DC.seq ?_
      apply DC.regionX
      · intro s0 Oo
        refine t_move rfl rfl ?_
        refine t_int rfl rfl rfl rfl ?_
        exact TL.nil rfl
      repeat refine DC.seq ?_
      refine DC.cond rfl (fun hc => by cases hc) (fun hc => ?_)
      refine DC.skip ?_
      repeat refine DC.seq ?_
      apply DC.regionX
      · intro s0 Oo
        refine t_move rfl rfl ?_
        refine t_int rfl rfl rfl rfl ?_
        exact TL.nil rfl
      repeat refine DC.seq ?_
      refine DC.cond rfl (fun hc => by cases hc) (fun hc => ?_)
      refine DC.skip ?_
      repeat refine DC.seq ?_
      apply DC.regionX
      · intro s0 Oo
        refine t_move rfl rfl ?_
        refine t_int rfl rfl rfl rfl ?_
        refine t_move rfl rfl ?_
        refine t_guard_no rfl rfl ?_
        refine t_guard_no rfl rfl ?_
        refine t_guard_no rfl rfl ?_
        refine t_guard_no rfl rfl ?_
        refine t_guard_no rfl rfl ?_
        refine t_guard_no rfl rfl ?_
        refine t_pick rfl rfl rfl ?_
        exact TL.nil rfl
      repeat refine DC.seq ?_
      refine DC.cond rfl (fun hc => by cases hc) (fun hc => ?_)
      refine DC.skip ?_
      have htwo := two_pt 7 10 e1 e2
      rw [h1, h2] at htwo
      repeat refine DC.seq ?_
      apply DC.regionX
      · intro s0 Oo
        refine t_move rfl rfl ?_
        refine t_loadDw rfl rfl rfl ?_
        refine t_loadLa rfl rfl rfl rfl rfl ?_
        refine t_move rfl rfl ?_
        (refine t_sub64 rfl rfl rfl (by omega) ?_; rw [hdd])
        refine t_move rfl rfl ?_
        refine t_callD hc1 rfl rfl ?_
        refine t_alloc rfl rfl ?_
        refine t_storeL rfl rfl rfl rfl rfl rfl ?_
        exact TL.nil rfl
      repeat refine DC.seq ?_
      apply DC.drawX mixed
      · intro s0 Oo
        refine f_move rfl rfl ?_
        refine f_move rfl rfl ?_
        refine f_indexD rfl rfl rfl (by decide) (r := [.int .u8 10]) rfl rfl ?_
        refine f_loadDc rfl rfl rfl ?_
        refine f_loadLa rfl rfl rfl rfl rfl ?_
        refine f_move rfl rfl ?_
        refine f_loadDw rfl rfl rfl ?_
        refine f_loadLa rfl rfl rfl rfl rfl ?_
        refine f_move rfl rfl ?_
        (refine f_sub64 rfl rfl rfl (by omega) ?_; rw [hdd])
        refine f_move rfl rfl ?_
        refine f_callR hc2 rfl rfl ?_
        refine f_call1 htwo rfl rfl ?_
        refine f_storeL rfl rfl rfl rfl rfl rfl ?_
        exact TF.nil ⟨by kernel_rfl, rfl⟩
      exact DC.ret ⟨_, rfl, .bin 10 e1 e2, g2, by rw [E.cells, h1, h2]; rfl, rfl, .logic 10 _ (.inl ⟨by simp, rfl⟩) hge1 hge2, hm0.trans (hm1.trans hm2)⟩
    · skip
      obtain ⟨r1, K1, ⟨e1, g1, rfl, rfl, hge1, hm1⟩, hc1⟩ := ih s hs .int st g0 hm0.le
      obtain ⟨r2, K2, ⟨e2, g2, rfl, rfl, hge2, hm2⟩, hc2⟩ := ih s hs .int st g1 hm1.le
      obtain ⟨k1, op1, n1, s1, a1, b1, h1⟩ := e1.shape
      obtain ⟨k2, op2, n2, s2, a2, b2, h2⟩ := e2.shape
      rw [h1] at hc1
      rw [h2] at hc2
      refine DT.of_body Try.func130 rfl Try.ntmps130 rfl ?_
      repeat refine DC.seq ?_
      apply DC.regionX
      · intro s0 Oo
        refine t_box rfl rfl ?_
        refine t_box rfl rfl ?_
        refine t_alloc rfl rfl ?_
        exact TL.nil rfl
      repeat refine DC.seq ?_
      apply DC.regionX
      · intro s0 Oo
        refine t_move rfl rfl ?_
        refine t_nilCheck rfl rfl rfl ?_
        refine t_fieldR rfl rfl ?_
        refine t_loadRc rfl rfl rfl rfl ?_
        refine t_callD hc0 rfl rfl ?_
        refine t_assign rfl rfl ?_
        exact TL.nil rfl
      repeat refine DC.seq ?_
      apply DC.regionX
      · intro s0 Oo
        refine t_fieldD rfl rfl ?_
        refine t_loadDc rfl rfl rfl ?_
        exact TL.nil rfl
      repeat refine DC.seq ?_
      refine DC.block ?_
      repeat refine DC.seq ?_
      apply DC.regionX
      · intro s0 Oo
        refine t_int rfl rfl rfl rfl ?_
        refine t_assign rfl rfl ?_
        exact TL.nil rfl
      repeat refine DC.seq ?_
      refine DC.cond rfl (fun hc => by cases hc) (fun hc => ?_)
      repeat refine DC.seq ?_
      apply DC.regionX
      · intro s0 Oo
        refine t_int rfl rfl rfl rfl ?_
        refine t_assign rfl rfl ?_
        exact TL.nil rfl
      repeat refine DC.seq ?_
      refine DC.cond rfl (fun hc => ?_) (fun hc => by cases hc)
      repeat refine DC.seq ?_
      apply DC.regionX
      · intro s0 Oo
        refine t_buildSlice rfl rfl rfl rfl rfl rfl rfl rfl ?_
        refine t_assign rfl rfl ?_
        exact TL.nil rfl
      repeat refine DC.seq ?_
      apply DC.regionX
      · intro s0 Oo
        refine t_loadDw rfl rfl rfl ?_
        refine t_alloc rfl rfl ?_
        refine t_storeL rfl rfl rfl rfl rfl rfl ?_
        exact TL.nil rfl
      repeat refine DC.seq ?_
      apply DC.regionX
      · intro s0 Oo
        refine t_move rfl rfl ?_
        refine t_int rfl rfl rfl rfl ?_
        exact TL.nil rfl
      repeat refine DC.seq ?_
      refine DC.cond rfl (fun hc => ?_) (fun hc => by cases hc)
      repeat refine DC.seq ?_
      apply DC.regionX
      · intro s0 Oo
        refine t_call1 tInt_pt rfl rfl ?_
        refine t_storeL rfl rfl rfl rfl rfl rfl ?_
        exact TL.nil rfl
      repeat refine DC.seq ?_
      apply DC.regionX
      · intro s0 Oo
        refine t_move rfl rfl ?_
        refine t_int rfl rfl rfl rfl ?_
        exact TL.nil rfl
      repeat refine DC.seq ?_
      refine DC.cond rfl (fun hc => by cases hc) (fun hc => ?_)
      refine DC.skip ?_
      repeat refine DC.seq ?_
      apply DC.regionX
      · intro s0 Oo
        refine t_move rfl rfl ?_
        refine t_int rfl rfl rfl rfl ?_
        refine t_move rfl rfl ?_
        refine t_guard_no rfl rfl ?_
        refine t_guard_no rfl rfl ?_
        refine t_guard_no rfl rfl ?_
        refine t_guard_no rfl rfl ?_
        refine t_guard_no rfl rfl ?_
        refine t_guard_no rfl rfl ?_
        refine t_pick rfl rfl rfl ?_
        exact TL.nil rfl
      repeat refine DC.seq ?_
      refine DC.cond rfl (fun hc => by cases hc) (fun hc => ?_)
      refine DC.skip ?_
      have htwo := two_pt 7 13 e1 e2
      rw [h1, h2] at htwo
      repeat refine DC.seq ?_
      apply DC.regionX
      · intro s0 Oo
        refine t_move rfl rfl ?_
        refine t_loadDw rfl rfl rfl ?_
        refine t_loadLa rfl rfl rfl rfl rfl ?_
        refine t_move rfl rfl ?_
        (refine t_sub64 rfl rfl rfl (by omega) ?_; rw [hdd])
        refine t_move rfl rfl ?_
        refine t_callD hc1 rfl rfl ?_
        refine t_alloc rfl rfl ?_
        refine t_storeL rfl rfl rfl rfl rfl rfl ?_
        exact TL.nil rfl
      repeat refine DC.seq ?_
      apply DC.drawX mixed
      · intro s0 Oo
        refine f_move rfl rfl ?_
        refine f_move rfl rfl ?_
        refine f_indexD rfl rfl rfl (by decide) (r := [.int .u8 13]) rfl rfl ?_
        refine f_loadDc rfl rfl rfl ?_
        refine f_loadLa rfl rfl rfl rfl rfl ?_
        refine f_move rfl rfl ?_
        refine f_loadDw rfl rfl rfl ?_
        refine f_loadLa rfl rfl rfl rfl rfl ?_
        refine f_move rfl rfl ?_
        (refine f_sub64 rfl rfl rfl (by omega) ?_; rw [hdd])
        refine f_move rfl rfl ?_
        refine f_callR hc2 rfl rfl ?_
        refine f_call1 htwo rfl rfl ?_
        refine f_storeL rfl rfl rfl rfl rfl rfl ?_
        exact TF.nil ⟨by kernel_rfl, rfl⟩
      exact DC.ret ⟨_, rfl, .bin 13 e1 e2, g2, by rw [E.cells, h1, h2]; rfl, rfl, .logic 13 _ (.inr (.inl ⟨by simp, rfl⟩)) hge1 hge2, hm0.trans (hm1.trans hm2)⟩
    · skip
      obtain ⟨r1, K1, ⟨e1, g1, rfl, rfl, hge1, hm1⟩, hc1⟩ := ih s hs .int st g0 hm0.le
      obtain ⟨r2, K2, ⟨e2, g2, rfl, rfl, hge2, hm2⟩, hc2⟩ := ih s hs .int st g1 hm1.le
      obtain ⟨k1, op1, n1, s1, a1, b1, h1⟩ := e1.shape
      obtain ⟨k2, op2, n2, s2, a2, b2, h2⟩ := e2.shape
      rw [h1] at hc1
      rw [h2] at hc2
      refine DT.of_body Try.func130 rfl Try.ntmps130 rfl ?_
      repeat refine DC.seq ?_
      apply DC.regionX
      · intro s0 Oo
        refine t_box rfl rfl ?_
        refine t_box rfl rfl ?_
        refine t_alloc rfl rfl ?_
        exact TL.nil rfl
      repeat refine DC.seq ?_
      apply DC.regionX
      · intro s0 Oo
        refine t_move rfl rfl ?_
        refine t_nilCheck rfl rfl rfl ?_
        refine t_fieldR rfl rfl ?_
        refine t_loadRc rfl rfl rfl rfl ?_
        refine t_callD hc0 rfl rfl ?_
        refine t_assign rfl rfl ?_
        exact TL.nil rfl
      repeat refine DC.seq ?_
      apply DC.regionX
      · intro s0 Oo
        refine t_fieldD rfl rfl ?_
        refine t_loadDc rfl rfl rfl ?_
        exact TL.nil rfl
      repeat refine DC.seq ?_
      refine DC.block ?_
      repeat refine DC.seq ?_
      apply DC.regionX
      · intro s0 Oo
        refine t_int rfl rfl rfl rfl ?_
        refine t_assign rfl rfl ?_
        exact TL.nil rfl
      repeat refine DC.seq ?_
      refine DC.cond rfl (fun hc => by cases hc) (fun hc => ?_)
      repeat refine DC.seq ?_
      apply DC.regionX
      · intro s0 Oo
        refine t_int rfl rfl rfl rfl ?_
        refine t_assign rfl rfl ?_
        exact TL.nil rfl
      repeat refine DC.seq ?_
      refine DC.cond rfl (fun hc => ?_) (fun hc => by cases hc)
      repeat refine DC.seq ?_
      apply DC.regionX
      · intro s0 Oo
        refine t_buildSlice rfl rfl rfl rfl rfl rfl rfl rfl ?_
        refine t_assign rfl rfl ?_
        exact TL.nil rfl
      repeat refine DC.seq ?_
      apply DC.regionX
      · intro s0 Oo
        refine t_loadDw rfl rfl rfl ?_
        refine t_alloc rfl rfl ?_
        refine t_storeL rfl rfl rfl rfl rfl rfl ?_
        exact TL.nil rfl
      repeat refine DC.seq ?_
      apply DC.regionX
      · intro s0 Oo
        refine t_move rfl rfl ?_
        refine t_int rfl rfl rfl rfl ?_
        exact TL.nil rfl
      repeat refine DC.seq ?_
      refine DC.cond rfl (fun hc => ?_) (fun hc => by cases hc)
      repeat refine DC.seq ?_
      apply DC.regionX
      · intro s0 Oo
        refine t_call1 tInt_pt rfl rfl ?_
        refine t_storeL rfl rfl rfl rfl rfl rfl ?_
        exact TL.nil rfl
      repeat refine DC.seq ?_
      apply DC.regionX
      · intro s0 Oo
        refine t_move rfl rfl ?_
        refine t_int rfl rfl rfl rfl ?_
        exact TL.nil rfl
      repeat refine DC.seq ?_
      refine DC.cond rfl (fun hc => by cases hc) (fun hc => ?_)
      refine DC.skip ?_
      repeat refine DC.seq ?_
      apply DC.regionX
      · intro s0 Oo
        refine t_move rfl rfl ?_
        refine t_int rfl rfl rfl rfl ?_
        refine t_move rfl rfl ?_
        refine t_guard_no rfl rfl ?_
        refine t_guard_no rfl rfl ?_
        refine t_guard_no rfl rfl ?_
        refine t_guard_no rfl rfl ?_
        refine t_guard_no rfl rfl ?_
        refine t_guard_no rfl rfl ?_
        refine t_pick rfl rfl rfl ?_
        exact TL.nil rfl
      repeat refine DC.seq ?_
      refine DC.cond rfl (fun hc => by cases hc) (fun hc => ?_)
      refine DC.skip ?_
      have htwo := two_pt 7 16 e1 e2
      rw [h1, h2] at htwo
      repeat refine DC.seq ?_
      apply DC.regionX
      · intro s0 Oo
        refine t_move rfl rfl ?_
        refine t_loadDw rfl rfl rfl ?_
        refine t_loadLa rfl rfl rfl rfl rfl ?_
        refine t_move rfl rfl ?_
        (refine t_sub64 rfl rfl rfl (by omega) ?_; rw [hdd])
        refine t_move rfl rfl ?_
        refine t_callD hc1 rfl rfl ?_
        refine t_alloc rfl rfl ?_
        refine t_storeL rfl rfl rfl rfl rfl rfl ?_
        exact TL.nil rfl
      repeat refine DC.seq ?_
      apply DC.drawX mixed
      · intro s0 Oo
        refine f_move rfl rfl ?_
        refine f_move rfl rfl ?_
        refine f_indexD rfl rfl rfl (by decide) (r := [.int .u8 16]) rfl rfl ?_
        refine f_loadDc rfl rfl rfl ?_
        refine f_loadLa rfl rfl rfl rfl rfl ?_
        refine f_move rfl rfl ?_
        refine f_loadDw rfl rfl rfl ?_
        refine f_loadLa rfl rfl rfl rfl rfl ?_
        refine f_move rfl rfl ?_
        (refine f_sub64 rfl rfl rfl (by omega) ?_; rw [hdd])
        refine f_move rfl rfl ?_
        refine f_callR hc2 rfl rfl ?_
        refine f_call1 htwo rfl rfl ?_
        refine f_storeL rfl rfl rfl rfl rfl rfl ?_
        exact TF.nil ⟨by kernel_rfl, rfl⟩
      exact DC.ret ⟨_, rfl, .bin 16 e1 e2, g2, by rw [E.cells, h1, h2]; rfl, rfl, .logic 16 _ (.inr (.inl ⟨by simp, rfl⟩)) hge1 hge2, hm0.trans (hm1.trans hm2)⟩
    · skip
      obtain ⟨r3, K3, ⟨u, g3, rfl, rfl, hm3⟩, hc3⟩ := typ_dt ht subs main g0 hm0.le
      obtain ⟨r1, K1, ⟨e1, g1, rfl, rfl, hge1, hm1⟩, hc1⟩ := ih s hs u st g3 hm3.le
      obtain ⟨r2, K2, ⟨e2, g2, rfl, rfl, hge2, hm2⟩, hc2⟩ := ih s hs u st g1 hm1.le
      obtain ⟨k1, op1, n1, s1, a1, b1, h1⟩ := e1.shape
      obtain ⟨k2, op2, n2, s2, a2, b2, h2⟩ := e2.shape
      rw [h1] at hc1
      rw [h2] at hc2
      refine DT.of_body Try.func130 rfl Try.ntmps130 rfl ?_
      repeat refine DC.seq ?_
      apply DC.regionX
      · intro s0 Oo
        refine t_box rfl rfl ?_
        refine t_box rfl rfl ?_
        refine t_alloc rfl rfl ?_
        exact TL.nil rfl
      repeat refine DC.seq ?_
      apply DC.regionX
      · intro s0 Oo
        refine t_move rfl rfl ?_
        refine t_nilCheck rfl rfl rfl ?_
        refine t_fieldR rfl rfl ?_
        refine t_loadRc rfl rfl rfl rfl ?_
        refine t_callD hc0 rfl rfl ?_
        refine t_assign rfl rfl ?_
        exact TL.nil rfl
      repeat refine DC.seq ?_
      apply DC.regionX
      · intro s0 Oo
        refine t_fieldD rfl rfl ?_
        refine t_loadDc rfl rfl rfl ?_
        exact TL.nil rfl
      repeat refine DC.seq ?_
      refine DC.block ?_
      repeat refine DC.seq ?_
      apply DC.regionX
      · intro s0 Oo
        refine t_int rfl rfl rfl rfl ?_
        refine t_assign rfl rfl ?_
        exact TL.nil rfl
      repeat refine DC.seq ?_
      refine DC.cond rfl (fun hc => by cases hc) (fun hc => ?_)
      repeat refine DC.seq ?_
      apply DC.regionX
      · intro s0 Oo
        refine t_int rfl rfl rfl rfl ?_
        refine t_assign rfl rfl ?_
        exact TL.nil rfl
      repeat refine DC.seq ?_
      refine DC.cond rfl (fun hc => ?_) (fun hc => by cases hc)
      repeat refine DC.seq ?_
      apply DC.regionX
      · intro s0 Oo
        refine t_buildSlice rfl rfl rfl rfl rfl rfl rfl rfl ?_
        refine t_assign rfl rfl ?_
        exact TL.nil rfl
      repeat refine DC.seq ?_
      apply DC.regionX
      · intro s0 Oo
        refine t_loadDw rfl rfl rfl ?_
        refine t_alloc rfl rfl ?_
        refine t_storeL rfl rfl rfl rfl rfl rfl ?_
        exact TL.nil rfl
      repeat refine DC.seq ?_
      apply DC.regionX
      · intro s0 Oo
        refine t_move rfl rfl ?_
        refine t_int rfl rfl rfl rfl ?_
        exact TL.nil rfl
      repeat refine DC.seq ?_
      refine DC.cond rfl (fun hc => ?_) (fun hc => by cases hc)
      repeat refine DC.seq ?_
      apply DC.regionX
      · intro s0 Oo
        refine t_call1 tInt_pt rfl rfl ?_
        refine t_storeL rfl rfl rfl rfl rfl rfl ?_
        exact TL.nil rfl
      repeat refine DC.seq ?_
      apply DC.regionX
      · intro s0 Oo
        refine t_move rfl rfl ?_
        refine t_int rfl rfl rfl rfl ?_
        exact TL.nil rfl
      repeat refine DC.seq ?_
      refine DC.cond rfl (fun hc => ?_) (fun hc => by cases hc)
      repeat refine DC.seq ?_
      apply DC.regionX
      · intro s0 Oo
        refine t_move rfl rfl ?_
        refine t_callD hc3 rfl rfl ?_
        refine t_storeL rfl rfl rfl rfl rfl rfl ?_
        exact TL.nil rfl
      repeat refine DC.seq ?_
      apply DC.regionX
      · intro s0 Oo
        refine t_move rfl rfl ?_
        refine t_int rfl rfl rfl rfl ?_
        refine t_move rfl rfl ?_
        refine t_guard_no rfl rfl ?_
        refine t_guard_no rfl rfl ?_
        refine t_guard_no rfl rfl ?_
        refine t_guard_no rfl rfl ?_
        refine t_guard_no rfl rfl ?_
        refine t_guard_no rfl rfl ?_
        refine t_pick rfl rfl rfl ?_
        exact TL.nil rfl
      repeat refine DC.seq ?_
      refine DC.cond rfl (fun hc => by cases hc) (fun hc => ?_)
      refine DC.skip ?_
      have htwo := two_pt 7 11 e1 e2
      rw [h1, h2] at htwo
      repeat refine DC.seq ?_
      apply DC.regionX
      · intro s0 Oo
        refine t_move rfl rfl ?_
        refine t_loadDw rfl rfl rfl ?_
        refine t_loadLa rfl rfl rfl rfl rfl ?_
        refine t_move rfl rfl ?_
        (refine t_sub64 rfl rfl rfl (by omega) ?_; rw [hdd])
        refine t_move rfl rfl ?_
        refine t_callD hc1 rfl rfl ?_
        refine t_alloc rfl rfl ?_
        refine t_storeL rfl rfl rfl rfl rfl rfl ?_
        exact TL.nil rfl
      repeat refine DC.seq ?_
      apply DC.drawX mixed
      · intro s0 Oo
        refine f_move rfl rfl ?_
        refine f_move rfl rfl ?_
        refine f_indexD rfl rfl rfl (by decide) (r := [.int .u8 11]) rfl rfl ?_
        refine f_loadDc rfl rfl rfl ?_
        refine f_loadLa rfl rfl rfl rfl rfl ?_
        refine f_move rfl rfl ?_
        refine f_loadDw rfl rfl rfl ?_
        refine f_loadLa rfl rfl rfl rfl rfl ?_
        refine f_move rfl rfl ?_
        (refine f_sub64 rfl rfl rfl (by omega) ?_; rw [hdd])
        refine f_move rfl rfl ?_
        refine f_callR hc2 rfl rfl ?_
        refine f_call1 htwo rfl rfl ?_
        refine f_storeL rfl rfl rfl rfl rfl rfl ?_
        exact TF.nil ⟨by kernel_rfl, rfl⟩
      exact DC.ret ⟨_, rfl, .bin 11 e1 e2, g2, by rw [E.cells, h1, h2]; rfl, rfl, .logic 11 _ (.inr (.inr rfl)) hge1 hge2, hm0.trans (hm3.trans (hm1.trans hm2))⟩
theorem expr0_dt : ExprOk zs v subs main 0 := by
  intro s hs t st g hg
  obtain ⟨r1, K1, ⟨e1, g1, rfl, rfl, hge, hm1⟩, hc1⟩ := variable_dt ht subs main s.ready hs.ready t g hg
  obtain ⟨k1, op1, n1, s1, a1, b1, h1⟩ := e1.shape
  rw [h1] at hc1
  refine DT.of_body Try.func102 rfl Try.ntmps102 rfl ?_
  repeat refine DC.seq ?_
  apply DC.regionX
  · intro s0 Oo
    refine t_box rfl rfl ?_
    refine t_box rfl rfl ?_
    refine t_alloc rfl rfl ?_
    exact TL.nil rfl
  repeat refine DC.seq ?_
  apply DC.regionX
  · intro s0 Oo
    refine t_move rfl rfl ?_
    refine t_int rfl rfl rfl rfl ?_
    exact TL.nil rfl
  repeat refine DC.seq ?_
  refine DC.cond rfl (fun hc => ?_) (fun hc => by cases hc)
  repeat refine DC.seq ?_
  apply DC.regionX
  · intro s0 Oo
    refine t_move rfl rfl ?_
    refine t_fieldD rfl rfl ?_
    refine t_loadDc rfl rfl rfl ?_
    refine t_loadDw rfl rfl rfl ?_
    refine t_callD hc1 rfl rfl ?_
    refine t_storeL rfl rfl rfl rfl rfl rfl ?_
    exact TL.nil rfl
  exact DC.ret ⟨_, rfl, e1, g1, by rw [h1]; rfl, rfl, .v hge, hm1⟩
theorem exprS_dt (d : Nat) (hd : d ≤ 100) (ih : ExprOk zs v subs main d) : ExprOk zs v subs main (d + 1) := by
  have hop := oper_dt ht subs main d hd ih
  intro s hs t st g hg
  obtain ⟨r0, K0, ⟨j, g0, rfl, rfl, hr⟩, hc0⟩ := next_dt ht subs main 12 (by omega) (by omega) g hg
  have hj := hr.lt
  have hm0 := hr.mv
  have hdd : ((d + 1 : Nat) : Int) - 1 = (d : Int) := by omega
  have hdl : decide (((d + 1 : Nat) : Int) ≤ 0) = false := decide_eq_false (by omega)
  have hdb : (d : Int) ≤ 100 := by omega
  have hcases : j = 0 ∨ j = 1 ∨ j = 2 ∨ j = 3 ∨ j = 4 ∨ j = 5 ∨ j = 6 ∨ j = 7 ∨ j = 8 ∨ j = 9 ∨ j = 10 ∨ j = 11 := by omega
  rcases hcases with rfl | rfl | rfl | rfl | rfl | rfl | rfl | rfl | rfl | rfl | rfl | rfl
  · skip
    obtain ⟨r1, K1, ⟨e1, g1, rfl, rfl, hge1, hm1⟩, hc1⟩ := constant_dt ht subs main t g0 hm0.le
    obtain ⟨k1, op1, n1, s1, a1, b1, h1⟩ := e1.shape
    rw [h1] at hc1
    refine DT.of_body Try.func102 rfl Try.ntmps102 rfl ?_
    repeat refine DC.seq ?_
    apply DC.regionX
    · intro s0 Oo
      refine t_box rfl rfl ?_
      refine t_box rfl rfl ?_
      refine t_alloc rfl rfl ?_
      exact TL.nil rfl
    repeat refine DC.seq ?_
    apply DC.regionX
    · intro s0 Oo
      refine t_move rfl rfl ?_
      (refine t_int rfl rfl rfl (r := .bool false) (by show some (D.bool (decide _)) = _; rw [hdl]) ?_)
      exact TL.nil rfl
    repeat refine DC.seq ?_
    refine DC.cond rfl (fun hc => by cases hc) (fun hc => ?_)
    refine DC.skip ?_
    repeat refine DC.seq ?_
    apply DC.regionX
    · intro s0 Oo
      refine t_move rfl rfl ?_
      refine t_nilCheck rfl rfl rfl ?_
      refine t_fieldR rfl rfl ?_
      refine t_loadRc rfl rfl rfl rfl ?_
      refine t_callD hc0 rfl rfl ?_
      exact TL.nil rfl
    repeat refine DC.seq ?_
    refine DC.block ?_
    repeat refine DC.seq ?_
    apply DC.regionX
    · intro s0 Oo
      refine t_int rfl rfl rfl rfl ?_
      refine t_assign rfl rfl ?_
      exact TL.nil rfl
    repeat refine DC.seq ?_
    refine DC.cond rfl (fun hc => ?_) (fun hc => by cases hc)
    repeat refine DC.seq ?_
    apply DC.regionX
    · intro s0 Oo
      refine t_move rfl rfl ?_
      refine t_loadDw rfl rfl rfl ?_
      refine t_callD hc1 rfl rfl ?_
      refine t_storeL rfl rfl rfl rfl rfl rfl ?_
      exact TL.nil rfl
    exact DC.ret ⟨_, rfl, e1, g1, by rw [h1]; rfl, rfl, .c hge1, hm0.trans hm1⟩
  · skip
    obtain ⟨r1, K1, ⟨e1, g1, rfl, rfl, hge, hm1⟩, hc1⟩ := variable_dt ht subs main s.ready hs.ready t g0 hm0.le
    obtain ⟨k1, op1, n1, s1, a1, b1, h1⟩ := e1.shape
    rw [h1] at hc1
    refine DT.of_body Try.func102 rfl Try.ntmps102 rfl ?_
    repeat refine DC.seq ?_
    apply DC.regionX
    · intro s0 Oo
      refine t_box rfl rfl ?_
      refine t_box rfl rfl ?_
      refine t_alloc rfl rfl ?_
      exact TL.nil rfl
    repeat refine DC.seq ?_
    apply DC.regionX
    · intro s0 Oo
      refine t_move rfl rfl ?_
      (refine t_int rfl rfl rfl (r := .bool false) (by show some (D.bool (decide _)) = _; rw [hdl]) ?_)
      exact TL.nil rfl
    repeat refine DC.seq ?_
    refine DC.cond rfl (fun hc => by cases hc) (fun hc => ?_)
    refine DC.skip ?_
    repeat refine DC.seq ?_
    apply DC.regionX
    · intro s0 Oo
      refine t_move rfl rfl ?_
      refine t_nilCheck rfl rfl rfl ?_
      refine t_fieldR rfl rfl ?_
      refine t_loadRc rfl rfl rfl rfl ?_
      refine t_callD hc0 rfl rfl ?_
      exact TL.nil rfl
    repeat refine DC.seq ?_
    refine DC.block ?_
    repeat refine DC.seq ?_
    apply DC.regionX
    · intro s0 Oo
      refine t_int rfl rfl rfl rfl ?_
      refine t_assign rfl rfl ?_
      exact TL.nil rfl
    repeat refine DC.seq ?_
    refine DC.cond rfl (fun hc => by cases hc) (fun hc => ?_)
    repeat refine DC.seq ?_
    apply DC.regionX
    · intro s0 Oo
      refine t_int rfl rfl rfl rfl ?_
      refine t_assign rfl rfl ?_
      exact TL.nil rfl
    repeat refine DC.seq ?_
    refine DC.cond rfl (fun hc => ?_) (fun hc => by cases hc)
    refine DC.skip ?_
    repeat refine DC.seq ?_
    refine DC.cond rfl (fun hc => ?_) (fun hc => by cases hc)
    repeat refine DC.seq ?_
    apply DC.regionX
    · intro s0 Oo
      refine t_move rfl rfl ?_
      refine t_fieldD rfl rfl ?_
      refine t_loadDc rfl rfl rfl ?_
      refine t_loadDw rfl rfl rfl ?_
      refine t_callD hc1 rfl rfl ?_
      refine t_storeL rfl rfl rfl rfl rfl rfl ?_
      exact TL.nil rfl
    exact DC.ret ⟨_, rfl, e1, g1, by rw [h1]; rfl, rfl, .v hge, hm0.trans hm1⟩
  · skip
    obtain ⟨r1, K1, ⟨e1, g1, rfl, rfl, hge, hm1⟩, hc1⟩ := variable_dt ht subs main s.ready hs.ready t g0 hm0.le
    obtain ⟨k1, op1, n1, s1, a1, b1, h1⟩ := e1.shape
    rw [h1] at hc1
    refine DT.of_body Try.func102 rfl Try.ntmps102 rfl ?_
    repeat refine DC.seq ?_
    apply DC.regionX
    · intro s0 Oo
      refine t_box rfl rfl ?_
      refine t_box rfl rfl ?_
      refine t_alloc rfl rfl ?_
      exact TL.nil rfl
    repeat refine DC.seq ?_
    apply DC.regionX
    · intro s0 Oo
      refine t_move rfl rfl ?_
      (refine t_int rfl rfl rfl (r := .bool false) (by show some (D.bool (decide _)) = _; rw [hdl]) ?_)
      exact TL.nil rfl
    repeat refine DC.seq ?_
    refine DC.cond rfl (fun hc => by cases hc) (fun hc => ?_)
    refine DC.skip ?_
    repeat refine DC.seq ?_
    apply DC.regionX
    · intro s0 Oo
      refine t_move rfl rfl ?_
      refine t_nilCheck rfl rfl rfl ?_
      refine t_fieldR rfl rfl ?_
      refine t_loadRc rfl rfl rfl rfl ?_
      refine t_callD hc0 rfl rfl ?_
      exact TL.nil rfl
    repeat refine DC.seq ?_
    refine DC.block ?_
    repeat refine DC.seq ?_
    apply DC.regionX
    · intro s0 Oo
      refine t_int rfl rfl rfl rfl ?_
      refine t_assign rfl rfl ?_
      exact TL.nil rfl
    repeat refine DC.seq ?_
    refine DC.cond rfl (fun hc => by cases hc) (fun hc => ?_)
    repeat refine DC.seq ?_
    apply DC.regionX
    · intro s0 Oo
      refine t_int rfl rfl rfl rfl ?_
      refine t_assign rfl rfl ?_
      exact TL.nil rfl
    repeat refine DC.seq ?_
    refine DC.cond rfl (fun hc => by cases hc) (fun hc => ?_)
    repeat refine DC.seq ?_
    apply DC.regionX
    · intro s0 Oo
      refine t_int rfl rfl rfl rfl ?_
      refine t_assign rfl rfl ?_
      exact TL.nil rfl
    repeat refine DC.seq ?_
    refine DC.cond rfl (fun hc => ?_) (fun hc => by cases hc)
    repeat refine DC.seq ?_
    apply DC.regionX
    · intro s0 Oo
      refine t_move rfl rfl ?_
      refine t_fieldD rfl rfl ?_
      refine t_loadDc rfl rfl rfl ?_
      refine t_loadDw rfl rfl rfl ?_
      refine t_callD hc1 rfl rfl ?_
      refine t_storeL rfl rfl rfl rfl rfl rfl ?_
      exact TL.nil rfl
    exact DC.ret ⟨_, rfl, e1, g1, by rw [h1]; rfl, rfl, .v hge, hm0.trans hm1⟩
  · skip
    obtain ⟨r1, K1, ⟨e1, g1, rfl, rfl, hge1, hm1⟩, hc1⟩ := ih s hs .bool st g0 hm0.le
    obtain ⟨k1, op1, n1, s1, a1, b1, h1⟩ := e1.shape
    rw [h1] at hc1
    obtain ⟨r2, K2, ⟨e2, g2, rfl, rfl, hge2, hm2⟩, hc2⟩ := ih s hs t st g1 hm1.le
    obtain ⟨k2, op2, n2, s2, a2, b2, h2⟩ := e2.shape
    rw [h2] at hc2
    obtain ⟨r3, K3, ⟨e3, g3, rfl, rfl, hge3, hm3⟩, hc3⟩ := ih s hs t st g2 hm2.le
    obtain ⟨k3, op3, n3, s3, a3, b3, h3⟩ := e3.shape
    rw [h3] at hc3
    refine DT.of_body Try.func102 rfl Try.ntmps102 rfl ?_
    repeat refine DC.seq ?_
    apply DC.regionX
    · intro s0 Oo
      refine t_box rfl rfl ?_
      refine t_box rfl rfl ?_
      refine t_alloc rfl rfl ?_
      exact TL.nil rfl
    repeat refine DC.seq ?_
    apply DC.regionX
    · intro s0 Oo
      refine t_move rfl rfl ?_
      (refine t_int rfl rfl rfl (r := .bool false) (by show some (D.bool (decide _)) = _; rw [hdl]) ?_)
      exact TL.nil rfl
    repeat refine DC.seq ?_
    refine DC.cond rfl (fun hc => by cases hc) (fun hc => ?_)
    refine DC.skip ?_
    repeat refine DC.seq ?_
    apply DC.regionX
    · intro s0 Oo
      refine t_move rfl rfl ?_
      refine t_nilCheck rfl rfl rfl ?_
      refine t_fieldR rfl rfl ?_
      refine t_loadRc rfl rfl rfl rfl ?_
      refine t_callD hc0 rfl rfl ?_
      exact TL.nil rfl
    repeat refine DC.seq ?_
    refine DC.block ?_
    repeat refine DC.seq ?_
    apply DC.regionX
    · intro s0 Oo
      refine t_int rfl rfl rfl rfl ?_
      refine t_assign rfl rfl ?_
      exact TL.nil rfl
    repeat refine DC.seq ?_
    refine DC.cond rfl (fun hc => by cases hc) (fun hc => ?_)
    repeat refine DC.seq ?_
    apply DC.regionX
    · intro s0 Oo
      refine t_int rfl rfl rfl rfl ?_
      refine t_assign rfl rfl ?_
      exact TL.nil rfl
    repeat refine DC.seq ?_
    refine DC.cond rfl (fun hc => by cases hc) (fun hc => ?_)
    repeat refine DC.seq ?_
    apply DC.regionX
    · intro s0 Oo
      refine t_int rfl rfl rfl rfl ?_
      refine t_assign rfl rfl ?_
      exact TL.nil rfl
    repeat refine DC.seq ?_
    refine DC.cond rfl (fun hc => by cases hc) (fun hc => ?_)
    repeat refine DC.seq ?_
    apply DC.regionX
    · intro s0 Oo
      refine t_int rfl rfl rfl rfl ?_
      refine t_assign rfl rfl ?_
      exact TL.nil rfl
    repeat refine DC.seq ?_
    refine DC.cond rfl (fun hc => ?_) (fun hc => by cases hc)
    repeat refine DC.seq ?_
    apply DC.drawX mixed
    · intro s0 Oo
      refine f_move rfl rfl ?_
      refine f_loadDw rfl rfl rfl ?_
      refine f_call1 tBool_pt rfl rfl ?_
      refine f_move rfl rfl ?_
      (refine f_sub64 rfl rfl rfl (by omega) ?_; rw [hdd])
      refine f_move rfl rfl ?_
      refine f_callR hc1 rfl rfl ?_
      refine f_alloc rfl ?_
      refine f_storeL rfl rfl rfl rfl rfl rfl ?_
      exact TF.nil ⟨by kernel_rfl, rfl⟩
    repeat refine DC.seq ?_
    apply DC.regionX
    · intro s0 Oo
      refine t_move rfl rfl ?_
      refine t_loadDw rfl rfl rfl ?_
      refine t_loadDw rfl rfl rfl ?_
      refine t_move rfl rfl ?_
      (refine t_sub64 rfl rfl rfl (by omega) ?_; rw [hdd])
      refine t_move rfl rfl ?_
      refine t_callD hc2 rfl rfl ?_
      refine t_alloc rfl rfl ?_
      refine t_storeL rfl rfl rfl rfl rfl rfl ?_
      exact TL.nil rfl
    repeat refine DC.seq ?_
    apply DC.drawX mixed
    · intro s0 Oo
      refine f_loadLa rfl rfl rfl rfl rfl ?_
      refine f_loadLa rfl rfl rfl rfl rfl ?_
      refine f_move rfl rfl ?_
      refine f_loadDw rfl rfl rfl ?_
      refine f_loadDw rfl rfl rfl ?_
      refine f_move rfl rfl ?_
      (refine f_sub64 rfl rfl rfl (by omega) ?_; rw [hdd])
      refine f_move rfl rfl ?_
      refine f_callR hc3 rfl rfl ?_
      refine f_buildSlice rfl rfl rfl rfl rfl rfl rfl rfl ?_
      refine f_build rfl rfl rfl rfl rfl ?_
      refine f_storeL rfl rfl rfl rfl rfl rfl ?_
      exact TF.nil ⟨by kernel_rfl, rfl⟩
    exact DC.ret ⟨_, rfl, .ite e1 e2 e3, g3, by rw [E.cells, h1, h2, h3]; rfl, rfl, .ite hge1 hge2 hge3, hm0.trans (hm1.trans (hm2.trans hm3))⟩
  · skip
    cases st with
    | true =>
      obtain ⟨r1, K1, ⟨e1, g1, rfl, rfl, hge1, hm1⟩, hc1⟩ := constant_dt ht subs main t g0 hm0.le
      obtain ⟨k1, op1, n1, s1, a1, b1, h1⟩ := e1.shape
      rw [h1] at hc1
      obtain ⟨r2, K2, ⟨e2, g2, rfl, rfl, hge2, hm2⟩, hc2⟩ := ih ⟨s.all, s.all, s.lasts⟩ hs.wide t true g1 hm1.le
      obtain ⟨k2, op2, n2, s2, a2, b2, h2⟩ := e2.shape
      rw [h2] at hc2
      have htwo := two_pt 9 0 e1 e2
      rw [h1, h2] at htwo
      refine DT.of_body Try.func102 rfl Try.ntmps102 rfl ?_
      repeat refine DC.seq ?_
      apply DC.regionX
      · intro s0 Oo
        refine t_box rfl rfl ?_
        refine t_box rfl rfl ?_
        refine t_alloc rfl rfl ?_
        exact TL.nil rfl
      repeat refine DC.seq ?_
      apply DC.regionX
      · intro s0 Oo
        refine t_move rfl rfl ?_
        (refine t_int rfl rfl rfl (r := .bool false) (by show some (D.bool (decide _)) = _; rw [hdl]) ?_)
        exact TL.nil rfl
      repeat refine DC.seq ?_
      refine DC.cond rfl (fun hc => by cases hc) (fun hc => ?_)
      refine DC.skip ?_
      repeat refine DC.seq ?_
      apply DC.regionX
      · intro s0 Oo
        refine t_move rfl rfl ?_
        refine t_nilCheck rfl rfl rfl ?_
        refine t_fieldR rfl rfl ?_
        refine t_loadRc rfl rfl rfl rfl ?_
        refine t_callD hc0 rfl rfl ?_
        exact TL.nil rfl
      repeat refine DC.seq ?_
      refine DC.block ?_
      repeat refine DC.seq ?_
      apply DC.regionX
      · intro s0 Oo
        refine t_int rfl rfl rfl rfl ?_
        refine t_assign rfl rfl ?_
        exact TL.nil rfl
      repeat refine DC.seq ?_
      refine DC.cond rfl (fun hc => by cases hc) (fun hc => ?_)
      repeat refine DC.seq ?_
      apply DC.regionX
      · intro s0 Oo
        refine t_int rfl rfl rfl rfl ?_
        refine t_assign rfl rfl ?_
        exact TL.nil rfl
      repeat refine DC.seq ?_
      refine DC.cond rfl (fun hc => by cases hc) (fun hc => ?_)
      repeat refine DC.seq ?_
      apply DC.regionX
      · intro s0 Oo
        refine t_int rfl rfl rfl rfl ?_
        refine t_assign rfl rfl ?_
        exact TL.nil rfl
      repeat refine DC.seq ?_
      refine DC.cond rfl (fun hc => by cases hc) (fun hc => ?_)
      repeat refine DC.seq ?_
      apply DC.regionX
      · intro s0 Oo
        refine t_int rfl rfl rfl rfl ?_
        refine t_assign rfl rfl ?_
        exact TL.nil rfl
      repeat refine DC.seq ?_
      refine DC.cond rfl (fun hc => by cases hc) (fun hc => ?_)
      repeat refine DC.seq ?_
      apply DC.regionX
      · intro s0 Oo
        refine t_int rfl rfl rfl rfl ?_
        refine t_assign rfl rfl ?_
        exact TL.nil rfl
      repeat refine DC.seq ?_
      refine DC.cond rfl (fun hc => ?_) (fun hc => by cases hc)
      refine DC.skip ?_
      repeat refine DC.seq ?_
      refine DC.cond rfl (fun hc => ?_) (fun hc => by cases hc)
      repeat refine DC.seq ?_
      apply DC.regionX
      · intro s0 Oo
        refine t_move rfl rfl ?_
        exact TL.nil rfl
      repeat refine DC.seq ?_
      refine DC.cond rfl (fun hc => ?_) (fun hc => by cases hc)
      repeat refine DC.seq ?_
      apply DC.regionX
      · intro s0 Oo
        refine t_move rfl rfl ?_
        refine t_loadDw rfl rfl rfl ?_
        refine t_callD hc1 rfl rfl ?_
        refine t_alloc rfl rfl ?_
        refine t_storeL rfl rfl rfl rfl rfl rfl ?_
        exact TL.nil rfl
      repeat refine DC.seq ?_
      apply DC.regionX
      · intro s0 Oo
        refine t_fieldD rfl rfl ?_
        refine t_loadDc rfl rfl rfl ?_
        refine t_fieldD rfl rfl ?_
        refine t_loadDc rfl rfl rfl ?_
        refine t_fieldD rfl rfl ?_
        refine t_loadDc rfl rfl rfl ?_
        refine t_build rfl rfl rfl rfl rfl ?_
        refine t_alloc rfl rfl ?_
        refine t_storeL rfl rfl rfl rfl rfl rfl ?_
        exact TL.nil rfl
      repeat refine DC.seq ?_
      apply DC.drawX mixed
      · intro s0 Oo
        refine f_loadLa rfl rfl rfl rfl rfl ?_
        refine f_move rfl rfl ?_
        refine f_loadLa rfl rfl rfl rfl rfl ?_
        refine f_loadDw rfl rfl rfl ?_
        refine f_move rfl rfl ?_
        (refine f_sub64 rfl rfl rfl (by omega) ?_; rw [hdd])
        refine f_move rfl rfl ?_
        refine f_callR hc2 rfl rfl ?_
        refine f_call1 htwo rfl rfl ?_
        refine f_storeL rfl rfl rfl rfl rfl rfl ?_
        exact TF.nil ⟨by kernel_rfl, rfl⟩
      exact DC.ret ⟨_, rfl, .fby e1 e2, g2, by rw [E.cells, h1, h2]; rfl, rfl, .fby hge1 hge2, hm0.trans (hm1.trans hm2)⟩
    | false =>
      obtain ⟨ro, Ko, ⟨eo, go, rfl, rfl, hgeo, hmo⟩, hco⟩ := hop s hs t false g0 hm0.le
      obtain ⟨ko, opo, no, so, ao, bo, ho⟩ := eo.shape
      rw [ho] at hco
      refine DT.of_body Try.func102 rfl Try.ntmps102 rfl ?_
      repeat refine DC.seq ?_
      apply DC.regionX
      · intro s0 Oo
        refine t_box rfl rfl ?_
        refine t_box rfl rfl ?_
        refine t_alloc rfl rfl ?_
        exact TL.nil rfl
      repeat refine DC.seq ?_
      apply DC.regionX
      · intro s0 Oo
        refine t_move rfl rfl ?_
        (refine t_int rfl rfl rfl (r := .bool false) (by show some (D.bool (decide _)) = _; rw [hdl]) ?_)
        exact TL.nil rfl
      repeat refine DC.seq ?_
      refine DC.cond rfl (fun hc => by cases hc) (fun hc => ?_)
      refine DC.skip ?_
      repeat refine DC.seq ?_
      apply DC.regionX
      · intro s0 Oo
        refine t_move rfl rfl ?_
        refine t_nilCheck rfl rfl rfl ?_
        refine t_fieldR rfl rfl ?_
        refine t_loadRc rfl rfl rfl rfl ?_
        refine t_callD hc0 rfl rfl ?_
        exact TL.nil rfl
      repeat refine DC.seq ?_
      refine DC.block ?_
      repeat refine DC.seq ?_
      apply DC.regionX
      · intro s0 Oo
        refine t_int rfl rfl rfl rfl ?_
        refine t_assign rfl rfl ?_
        exact TL.nil rfl
      repeat refine DC.seq ?_
      refine DC.cond rfl (fun hc => by cases hc) (fun hc => ?_)
      repeat refine DC.seq ?_
      apply DC.regionX
      · intro s0 Oo
        refine t_int rfl rfl rfl rfl ?_
        refine t_assign rfl rfl ?_
        exact TL.nil rfl
      repeat refine DC.seq ?_
      refine DC.cond rfl (fun hc => by cases hc) (fun hc => ?_)
      repeat refine DC.seq ?_
      apply DC.regionX
      · intro s0 Oo
        refine t_int rfl rfl rfl rfl ?_
        refine t_assign rfl rfl ?_
        exact TL.nil rfl
      repeat refine DC.seq ?_
      refine DC.cond rfl (fun hc => by cases hc) (fun hc => ?_)
      repeat refine DC.seq ?_
      apply DC.regionX
      · intro s0 Oo
        refine t_int rfl rfl rfl rfl ?_
        refine t_assign rfl rfl ?_
        exact TL.nil rfl
      repeat refine DC.seq ?_
      refine DC.cond rfl (fun hc => by cases hc) (fun hc => ?_)
      repeat refine DC.seq ?_
      apply DC.regionX
      · intro s0 Oo
        refine t_int rfl rfl rfl rfl ?_
        refine t_assign rfl rfl ?_
        exact TL.nil rfl
      repeat refine DC.seq ?_
      refine DC.cond rfl (fun hc => ?_) (fun hc => by cases hc)
      refine DC.skip ?_
      repeat refine DC.seq ?_
      refine DC.cond rfl (fun hc => ?_) (fun hc => by cases hc)
      repeat refine DC.seq ?_
      apply DC.regionX
      · intro s0 Oo
        refine t_move rfl rfl ?_
        exact TL.nil rfl
      repeat refine DC.seq ?_
      refine DC.cond rfl (fun hc => by cases hc) (fun hc => ?_)
      refine DC.skip ?_
      repeat refine DC.seq ?_
      apply DC.regionX
      · intro s0 Oo
        refine t_move rfl rfl ?_
        refine t_loadDw rfl rfl rfl ?_
        refine t_loadDw rfl rfl rfl ?_
        refine t_move rfl rfl ?_
        refine t_move rfl rfl ?_
        refine t_callD hco rfl rfl ?_
        refine t_storeL rfl rfl rfl rfl rfl rfl ?_
        exact TL.nil rfl
      exact DC.ret ⟨_, rfl, eo, go, by rw [ho]; rfl, rfl, hgeo, hm0.trans hmo⟩
  · skip
    cases st with
    | true =>
      obtain ⟨r1, K1, ⟨e1, g1, rfl, rfl, hge1, hm1⟩, hc1⟩ := constant_dt ht subs main t g0 hm0.le
      obtain ⟨k1, op1, n1, s1, a1, b1, h1⟩ := e1.shape
      rw [h1] at hc1
      obtain ⟨r2, K2, ⟨e2, g2, rfl, rfl, hge2, hm2⟩, hc2⟩ := ih ⟨s.all, s.all, s.lasts⟩ hs.wide t true g1 hm1.le
      obtain ⟨k2, op2, n2, s2, a2, b2, h2⟩ := e2.shape
      rw [h2] at hc2
      have htwo := two_pt 9 0 e1 e2
      rw [h1, h2] at htwo
      refine DT.of_body Try.func102 rfl Try.ntmps102 rfl ?_
      repeat refine DC.seq ?_
      apply DC.regionX
      · intro s0 Oo
        refine t_box rfl rfl ?_
        refine t_box rfl rfl ?_
        refine t_alloc rfl rfl ?_
        exact TL.nil rfl
      repeat refine DC.seq ?_
      apply DC.regionX
      · intro s0 Oo
        refine t_move rfl rfl ?_
        (refine t_int rfl rfl rfl (r := .bool false) (by show some (D.bool (decide _)) = _; rw [hdl]) ?_)
        exact TL.nil rfl
      repeat refine DC.seq ?_
      refine DC.cond rfl (fun hc => by cases hc) (fun hc => ?_)
      refine DC.skip ?_
      repeat refine DC.seq ?_
      apply DC.regionX
      · intro s0 Oo
        refine t_move rfl rfl ?_
        refine t_nilCheck rfl rfl rfl ?_
        (first | (refine t_fieldD rfl rfl ?_) | (refine t_fieldL rfl rfl ?_) | (refine t_fieldR rfl rfl ?_))
        (first | (refine t_loadLc rfl rfl rfl rfl ?_) | (refine t_loadRc rfl rfl rfl rfl ?_))
        refine t_callD hc0 rfl rfl ?_
        exact TL.nil rfl
      repeat refine DC.seq ?_
      refine DC.block ?_
      repeat refine DC.seq ?_
      apply DC.regionX
      · intro s0 Oo
        refine t_int rfl rfl rfl rfl ?_
        refine t_assign rfl rfl ?_
        exact TL.nil rfl
      repeat refine DC.seq ?_
      refine DC.cond rfl (fun hc => by cases hc) (fun hc => ?_)
      repeat refine DC.seq ?_
      apply DC.regionX
      · intro s0 Oo
        refine t_int rfl rfl rfl rfl ?_
        refine t_assign rfl rfl ?_
        exact TL.nil rfl
      repeat refine DC.seq ?_
      refine DC.cond rfl (fun hc => by cases hc) (fun hc => ?_)
      repeat refine DC.seq ?_
      apply DC.regionX
      · intro s0 Oo
        refine t_int rfl rfl rfl rfl ?_
        refine t_assign rfl rfl ?_
        exact TL.nil rfl
      repeat refine DC.seq ?_
      refine DC.cond rfl (fun hc => by cases hc) (fun hc => ?_)
      repeat refine DC.seq ?_
      apply DC.regionX
      · intro s0 Oo
        refine t_int rfl rfl rfl rfl ?_
        refine t_assign rfl rfl ?_
        exact TL.nil rfl
      repeat refine DC.seq ?_
      refine DC.cond rfl (fun hc => by cases hc) (fun hc => ?_)
      repeat refine DC.seq ?_
      apply DC.regionX
      · intro s0 Oo
        refine t_int rfl rfl rfl rfl ?_
        refine t_assign rfl rfl ?_
        exact TL.nil rfl
      repeat refine DC.seq ?_
      refine DC.cond rfl (fun hc => by cases hc) (fun hc => ?_)
      repeat refine DC.seq ?_
      apply DC.regionX
      · intro s0 Oo
        refine t_int rfl rfl rfl rfl ?_
        refine t_assign rfl rfl ?_
        exact TL.nil rfl
      repeat refine DC.seq ?_
      refine DC.cond rfl (fun hc => ?_) (fun hc => by cases hc)
      repeat refine DC.seq ?_
      apply DC.regionX
      · intro s0 Oo
        refine t_move rfl rfl ?_
        exact TL.nil rfl
      repeat refine DC.seq ?_
      refine DC.cond rfl (fun hc => ?_) (fun hc => by cases hc)
      repeat refine DC.seq ?_
      apply DC.regionX
      · intro s0 Oo
        refine t_move rfl rfl ?_
        (first | (refine t_loadDw rfl rfl rfl ?_) | (refine t_loadDa rfl rfl rfl ?_))
        refine t_callD hc1 rfl rfl ?_
        refine t_alloc rfl rfl ?_
        refine t_storeL rfl rfl rfl rfl rfl rfl ?_
        exact TL.nil rfl
      repeat refine DC.seq ?_
      apply DC.regionX
      · intro s0 Oo
        (first | (refine t_fieldD rfl rfl ?_) | (refine t_fieldL rfl rfl ?_))
        refine t_loadDc rfl rfl rfl ?_
        (first | (refine t_fieldD rfl rfl ?_) | (refine t_fieldW rfl rfl ?_))
        refine t_loadDc rfl rfl rfl ?_
        (first | (refine t_fieldD rfl rfl ?_) | (refine t_fieldL rfl rfl ?_))
        (first | (refine t_loadDc rfl rfl rfl ?_) | (refine t_loadLc rfl rfl rfl rfl ?_))
        refine t_build rfl rfl rfl rfl rfl ?_
        refine t_alloc rfl rfl ?_
        refine t_storeL rfl rfl rfl rfl rfl rfl ?_
        exact TL.nil rfl
      repeat refine DC.seq ?_
      apply DC.drawX mixed
      · intro s0 Oo
        (first | (refine f_loadDa rfl rfl rfl ?_) | (refine f_loadLa rfl rfl rfl rfl rfl ?_))
        refine f_move rfl rfl ?_
        (first | (refine f_loadDa rfl rfl rfl ?_) | (refine f_loadLa rfl rfl rfl rfl rfl ?_))
        (first | (refine f_loadDw rfl rfl rfl ?_) | (refine f_loadDa rfl rfl rfl ?_))
        refine f_move rfl rfl ?_
        (refine f_sub64 rfl rfl rfl (by omega) ?_; rw [hdd])
        refine f_move rfl rfl ?_
        refine f_callR hc2 rfl rfl ?_
        refine f_call1 htwo rfl rfl ?_
        refine f_storeL rfl rfl rfl rfl rfl rfl ?_
        exact TF.nil ⟨by kernel_rfl, rfl⟩
      exact DC.ret ⟨_, rfl, .fby e1 e2, g2, by rw [E.cells, h1, h2]; rfl, rfl, .fby hge1 hge2, hm0.trans (hm1.trans hm2)⟩
    | false =>
      obtain ⟨ro, Ko, ⟨eo, go, rfl, rfl, hgeo, hmo⟩, hco⟩ := hop s hs t false g0 hm0.le
      obtain ⟨ko, opo, no, so, ao, bo, ho⟩ := eo.shape
      rw [ho] at hco
      refine DT.of_body Try.func102 rfl Try.ntmps102 rfl ?_
      repeat refine DC.seq ?_
      apply DC.regionX
      · intro s0 Oo
        refine t_box rfl rfl ?_
        refine t_box rfl rfl ?_
        refine t_alloc rfl rfl ?_
        exact TL.nil rfl
      repeat refine DC.seq ?_
      apply DC.regionX
      · intro s0 Oo
        refine t_move rfl rfl ?_
        (refine t_int rfl rfl rfl (r := .bool false) (by show some (D.bool (decide _)) = _; rw [hdl]) ?_)
        exact TL.nil rfl
      repeat refine DC.seq ?_
      refine DC.cond rfl (fun hc => by cases hc) (fun hc => ?_)
      refine DC.skip ?_
      repeat refine DC.seq ?_
      apply DC.regionX
      · intro s0 Oo
        refine t_move rfl rfl ?_
        refine t_nilCheck rfl rfl rfl ?_
        refine t_fieldR rfl rfl ?_
        (first | (refine t_loadDc rfl rfl rfl ?_) | (refine t_loadRc rfl rfl rfl rfl ?_))
        refine t_callD hc0 rfl rfl ?_
        exact TL.nil rfl
      repeat refine DC.seq ?_
      refine DC.block ?_
      repeat refine DC.seq ?_
      apply DC.regionX
      · intro s0 Oo
        refine t_int rfl rfl rfl rfl ?_
        refine t_assign rfl rfl ?_
        exact TL.nil rfl
      repeat refine DC.seq ?_
      refine DC.cond rfl (fun hc => by cases hc) (fun hc => ?_)
      repeat refine DC.seq ?_
      apply DC.regionX
      · intro s0 Oo
        refine t_int rfl rfl rfl rfl ?_
        refine t_assign rfl rfl ?_
        exact TL.nil rfl
      repeat refine DC.seq ?_
      refine DC.cond rfl (fun hc => by cases hc) (fun hc => ?_)
      repeat refine DC.seq ?_
      apply DC.regionX
      · intro s0 Oo
        refine t_int rfl rfl rfl rfl ?_
        refine t_assign rfl rfl ?_
        exact TL.nil rfl
      repeat refine DC.seq ?_
      refine DC.cond rfl (fun hc => by cases hc) (fun hc => ?_)
      repeat refine DC.seq ?_
      apply DC.regionX
      · intro s0 Oo
        refine t_int rfl rfl rfl rfl ?_
        refine t_assign rfl rfl ?_
        exact TL.nil rfl
      repeat refine DC.seq ?_
      refine DC.cond rfl (fun hc => by cases hc) (fun hc => ?_)
      repeat refine DC.seq ?_
      apply DC.regionX
      · intro s0 Oo
        refine t_int rfl rfl rfl rfl ?_
        refine t_assign rfl rfl ?_
        exact TL.nil rfl
      repeat refine DC.seq ?_
      refine DC.cond rfl (fun hc => by cases hc) (fun hc => ?_)
      repeat refine DC.seq ?_
      apply DC.regionX
      · intro s0 Oo
        refine t_int rfl rfl rfl rfl ?_
        refine t_assign rfl rfl ?_
        exact TL.nil rfl
      repeat refine DC.seq ?_
      refine DC.cond rfl (fun hc => ?_) (fun hc => by cases hc)
      repeat refine DC.seq ?_
      apply DC.regionX
      · intro s0 Oo
        refine t_move rfl rfl ?_
        exact TL.nil rfl
      repeat refine DC.seq ?_
      refine DC.cond rfl (fun hc => by cases hc) (fun hc => ?_)
      refine DC.skip ?_
      repeat refine DC.seq ?_
      apply DC.regionX
      · intro s0 Oo
        refine t_move rfl rfl ?_
        (first | (refine t_loadDw rfl rfl rfl ?_) | (refine t_loadDa rfl rfl rfl ?_))
        (first | (refine t_loadDw rfl rfl rfl ?_) | (refine t_loadRa rfl rfl rfl rfl rfl ?_))
        refine t_move rfl rfl ?_
        refine t_move rfl rfl ?_
        refine t_callD hco rfl rfl ?_
        refine t_storeL rfl rfl rfl rfl rfl rfl ?_
        exact TL.nil rfl
      exact DC.ret ⟨_, rfl, eo, go, by rw [ho]; rfl, rfl, hgeo, hm0.trans hmo⟩
  · skip
    cases st with
    | true =>
      obtain ⟨r1, K1, ⟨e1, g1, rfl, rfl, hge1, hm1⟩, hc1⟩ := ih s hs t true g0 hm0.le
      obtain ⟨k1, op1, n1, s1, a1, b1, h1⟩ := e1.shape
      rw [h1] at hc1
      obtain ⟨r2, K2, ⟨e2, g2, rfl, rfl, hge2, hm2⟩, hc2⟩ := ih ⟨s.all, s.all, s.lasts⟩ hs.wide t true g1 hm1.le
      obtain ⟨k2, op2, n2, s2, a2, b2, h2⟩ := e2.shape
      rw [h2] at hc2
      have htwo := two_pt 11 0 e1 (.pre e2)
      rw [E.cells, h1, h2] at htwo
      refine DT.of_body Try.func102 rfl Try.ntmps102 rfl ?_
      repeat refine DC.seq ?_
      apply DC.regionX
      · intro s0 Oo
        refine t_box rfl rfl ?_
        refine t_box rfl rfl ?_
        refine t_alloc rfl rfl ?_
        exact TL.nil rfl
      repeat refine DC.seq ?_
      apply DC.regionX
      · intro s0 Oo
        refine t_move rfl rfl ?_
        (refine t_int rfl rfl rfl (r := .bool false) (by show some (D.bool (decide _)) = _; rw [hdl]) ?_)
        exact TL.nil rfl
      repeat refine DC.seq ?_
      refine DC.cond rfl (fun hc => by cases hc) (fun hc => ?_)
      refine DC.skip ?_
      repeat refine DC.seq ?_
      apply DC.regionX
      · intro s0 Oo
        refine t_move rfl rfl ?_
        refine t_nilCheck rfl rfl rfl ?_
        (first | (refine t_fieldR rfl rfl ?_) | (refine t_fieldW rfl rfl ?_))
        (first | (refine t_loadDc rfl rfl rfl ?_) | (refine t_loadRc rfl rfl rfl rfl ?_))
        refine t_callD hc0 rfl rfl ?_
        exact TL.nil rfl
      repeat refine DC.seq ?_
      refine DC.block ?_
      repeat refine DC.seq ?_
      apply DC.regionX
      · intro s0 Oo
        refine t_int rfl rfl rfl rfl ?_
        refine t_assign rfl rfl ?_
        exact TL.nil rfl
      repeat refine DC.seq ?_
      refine DC.cond rfl (fun hc => by cases hc) (fun hc => ?_)
      repeat refine DC.seq ?_
      apply DC.regionX
      · intro s0 Oo
        refine t_int rfl rfl rfl rfl ?_
        refine t_assign rfl rfl ?_
        exact TL.nil rfl
      repeat refine DC.seq ?_
      refine DC.cond rfl (fun hc => by cases hc) (fun hc => ?_)
      repeat refine DC.seq ?_
      apply DC.regionX
      · intro s0 Oo
        refine t_int rfl rfl rfl rfl ?_
        refine t_assign rfl rfl ?_
        exact TL.nil rfl
      repeat refine DC.seq ?_
      refine DC.cond rfl (fun hc => by cases hc) (fun hc => ?_)
      repeat refine DC.seq ?_
      apply DC.regionX
      · intro s0 Oo
        refine t_int rfl rfl rfl rfl ?_
        refine t_assign rfl rfl ?_
        exact TL.nil rfl
      repeat refine DC.seq ?_
      refine DC.cond rfl (fun hc => by cases hc) (fun hc => ?_)
      repeat refine DC.seq ?_
      apply DC.regionX
      · intro s0 Oo
        refine t_int rfl rfl rfl rfl ?_
        refine t_assign rfl rfl ?_
        exact TL.nil rfl
      repeat refine DC.seq ?_
      refine DC.cond rfl (fun hc => by cases hc) (fun hc => ?_)
      repeat refine DC.seq ?_
      apply DC.regionX
      · intro s0 Oo
        refine t_int rfl rfl rfl rfl ?_
        refine t_assign rfl rfl ?_
        exact TL.nil rfl
      repeat refine DC.seq ?_
      refine DC.cond rfl (fun hc => by cases hc) (fun hc => ?_)
      repeat refine DC.seq ?_
      apply DC.regionX
      · intro s0 Oo
        refine t_int rfl rfl rfl rfl ?_
        refine t_assign rfl rfl ?_
        exact TL.nil rfl
      repeat refine DC.seq ?_
      refine DC.cond rfl (fun hc => ?_) (fun hc => by cases hc)
      repeat refine DC.seq ?_
      apply DC.regionX
      · intro s0 Oo
        refine t_move rfl rfl ?_
        exact TL.nil rfl
      repeat refine DC.seq ?_
      refine DC.cond rfl (fun hc => ?_) (fun hc => by cases hc)
      repeat refine DC.seq ?_
      apply DC.regionX
      · intro s0 Oo
        refine t_move rfl rfl ?_
        (first | (refine t_loadDw rfl rfl rfl ?_) | (refine t_loadDa rfl rfl rfl ?_))
        refine t_loadDw rfl rfl rfl ?_
        refine t_move rfl rfl ?_
        (refine t_sub64 rfl rfl rfl (by omega) ?_; rw [hdd])
        refine t_move rfl rfl ?_
        refine t_callD hc1 rfl rfl ?_
        refine t_alloc rfl rfl ?_
        refine t_storeL rfl rfl rfl rfl rfl rfl ?_
        exact TL.nil rfl
      repeat refine DC.seq ?_
      apply DC.regionX
      · intro s0 Oo
        refine t_fieldD rfl rfl ?_
        (first | (refine t_loadDc rfl rfl rfl ?_) | (refine t_loadRc rfl rfl rfl rfl ?_))
        (first | (refine t_fieldD rfl rfl ?_) | (refine t_fieldW rfl rfl ?_))
        refine t_loadDc rfl rfl rfl ?_
        (first | (refine t_fieldD rfl rfl ?_) | (refine t_fieldL rfl rfl ?_))
        refine t_loadDc rfl rfl rfl ?_
        refine t_build rfl rfl rfl rfl rfl ?_
        refine t_alloc rfl rfl ?_
        refine t_storeL rfl rfl rfl rfl rfl rfl ?_
        exact TL.nil rfl
      repeat refine DC.seq ?_
      apply DC.regionX
      · intro s0 Oo
        refine t_move rfl rfl ?_
        refine t_loadLa rfl rfl rfl rfl rfl ?_
        (first | (refine t_loadDw rfl rfl rfl ?_) | (refine t_loadLa rfl rfl rfl rfl rfl ?_))
        refine t_move rfl rfl ?_
        (refine t_sub64 rfl rfl rfl (by omega) ?_; rw [hdd])
        refine t_move rfl rfl ?_
        refine t_callD hc2 rfl rfl ?_
        refine t_buildSlice rfl rfl rfl rfl rfl rfl rfl rfl ?_
        refine t_build rfl rfl rfl rfl rfl ?_
        refine t_alloc rfl rfl ?_
        refine t_storeL rfl rfl rfl rfl rfl rfl ?_
        exact TL.nil rfl
      repeat refine DC.seq ?_
      apply DC.regionX
      · intro s0 Oo
        (first | (refine t_loadDa rfl rfl rfl ?_) | (refine t_loadLa rfl rfl rfl rfl rfl ?_))
        (first | (refine t_loadDw rfl rfl rfl ?_) | (refine t_loadLa rfl rfl rfl rfl rfl ?_) | (refine t_loadRa rfl rfl rfl rfl rfl ?_))
        refine t_call1 htwo rfl rfl ?_
        refine t_storeL rfl rfl rfl rfl rfl rfl ?_
        exact TL.nil rfl
      exact DC.ret ⟨_, rfl, .arrow e1 (.pre e2), g2, by rw [E.cells, E.cells, h1, h2]; rfl, rfl, .arrow hge1 hge2, hm0.trans (hm1.trans hm2)⟩
    | false =>
      obtain ⟨ro, Ko, ⟨eo, go, rfl, rfl, hgeo, hmo⟩, hco⟩ := hop s hs t false g0 hm0.le
      obtain ⟨ko, opo, no, so, ao, bo, ho⟩ := eo.shape
      rw [ho] at hco
      refine DT.of_body Try.func102 rfl Try.ntmps102 rfl ?_
      repeat refine DC.seq ?_
      apply DC.regionX
      · intro s0 Oo
        refine t_box rfl rfl ?_
        refine t_box rfl rfl ?_
        refine t_alloc rfl rfl ?_
        exact TL.nil rfl
      repeat refine DC.seq ?_
      apply DC.regionX
      · intro s0 Oo
        refine t_move rfl rfl ?_
        (refine t_int rfl rfl rfl (r := .bool false) (by show some (D.bool (decide _)) = _; rw [hdl]) ?_)
        exact TL.nil rfl
      repeat refine DC.seq ?_
      refine DC.cond rfl (fun hc => by cases hc) (fun hc => ?_)
      refine DC.skip ?_
      repeat refine DC.seq ?_
      apply DC.regionX
      · intro s0 Oo
        refine t_move rfl rfl ?_
        refine t_nilCheck rfl rfl rfl ?_
        (first | (refine t_fieldL rfl rfl ?_) | (refine t_fieldR rfl rfl ?_) | (refine t_fieldW rfl rfl ?_))
        (first | (refine t_loadDc rfl rfl rfl ?_) | (refine t_loadRc rfl rfl rfl rfl ?_))
        refine t_callD hc0 rfl rfl ?_
        exact TL.nil rfl
      repeat refine DC.seq ?_
      refine DC.block ?_
      repeat refine DC.seq ?_
      apply DC.regionX
      · intro s0 Oo
        refine t_int rfl rfl rfl rfl ?_
        refine t_assign rfl rfl ?_
        exact TL.nil rfl
      repeat refine DC.seq ?_
      refine DC.cond rfl (fun hc => by cases hc) (fun hc => ?_)
      repeat refine DC.seq ?_
      apply DC.regionX
      · intro s0 Oo
        refine t_int rfl rfl rfl rfl ?_
        refine t_assign rfl rfl ?_
        exact TL.nil rfl
      repeat refine DC.seq ?_
      refine DC.cond rfl (fun hc => by cases hc) (fun hc => ?_)
      repeat refine DC.seq ?_
      apply DC.regionX
      · intro s0 Oo
        refine t_int rfl rfl rfl rfl ?_
        refine t_assign rfl rfl ?_
        exact TL.nil rfl
      repeat refine DC.seq ?_
      refine DC.cond rfl (fun hc => by cases hc) (fun hc => ?_)
      repeat refine DC.seq ?_
      apply DC.regionX
      · intro s0 Oo
        refine t_int rfl rfl rfl rfl ?_
        refine t_assign rfl rfl ?_
        exact TL.nil rfl
      repeat refine DC.seq ?_
      refine DC.cond rfl (fun hc => by cases hc) (fun hc => ?_)
      repeat refine DC.seq ?_
      apply DC.regionX
      · intro s0 Oo
        refine t_int rfl rfl rfl rfl ?_
        refine t_assign rfl rfl ?_
        exact TL.nil rfl
      repeat refine DC.seq ?_
      refine DC.cond rfl (fun hc => by cases hc) (fun hc => ?_)
      repeat refine DC.seq ?_
      apply DC.regionX
      · intro s0 Oo
        refine t_int rfl rfl rfl rfl ?_
        refine t_assign rfl rfl ?_
        exact TL.nil rfl
      repeat refine DC.seq ?_
      refine DC.cond rfl (fun hc => by cases hc) (fun hc => ?_)
      repeat refine DC.seq ?_
      apply DC.regionX
      · intro s0 Oo
        refine t_int rfl rfl rfl rfl ?_
        refine t_assign rfl rfl ?_
        exact TL.nil rfl
      repeat refine DC.seq ?_
      refine DC.cond rfl (fun hc => ?_) (fun hc => by cases hc)
      repeat refine DC.seq ?_
      apply DC.regionX
      · intro s0 Oo
        refine t_move rfl rfl ?_
        exact TL.nil rfl
      repeat refine DC.seq ?_
      refine DC.cond rfl (fun hc => by cases hc) (fun hc => ?_)
      refine DC.skip ?_
      repeat refine DC.seq ?_
      apply DC.regionX
      · intro s0 Oo
        refine t_move rfl rfl ?_
        (first | (refine t_loadDw rfl rfl rfl ?_) | (refine t_loadDa rfl rfl rfl ?_))
        (first | (refine t_loadDw rfl rfl rfl ?_) | (refine t_loadRa rfl rfl rfl rfl rfl ?_))
        refine t_move rfl rfl ?_
        refine t_move rfl rfl ?_
        refine t_callD hco rfl rfl ?_
        refine t_storeL rfl rfl rfl rfl rfl rfl ?_
        exact TL.nil rfl
      exact DC.ret ⟨_, rfl, eo, go, by rw [ho]; rfl, rfl, hgeo, hm0.trans hmo⟩
  · skip
    obtain ⟨rp, Kp, ⟨x, b, gp, rfl, rfl, hmp, hp⟩, hcp⟩ := pick_dt ht subs main s.lasts hs.lasts t g0 hm0.le
    cases b with
    | true =>
      refine DT.of_body Try.func102 rfl Try.ntmps102 rfl ?_
      repeat refine DC.seq ?_
      apply DC.regionX
      · intro s0 Oo
        refine t_box rfl rfl ?_
        refine t_box rfl rfl ?_
        refine t_alloc rfl rfl ?_
        exact TL.nil rfl
      repeat refine DC.seq ?_
      apply DC.regionX
      · intro s0 Oo
        refine t_move rfl rfl ?_
        (refine t_int rfl rfl rfl (r := .bool false) (by show some (D.bool (decide _)) = _; rw [hdl]) ?_)
        exact TL.nil rfl
      repeat refine DC.seq ?_
      refine DC.cond rfl (fun hc => by cases hc) (fun hc => ?_)
      refine DC.skip ?_
      repeat refine DC.seq ?_
      apply DC.regionX
      · intro s0 Oo
        refine t_move rfl rfl ?_
        refine t_nilCheck rfl rfl rfl ?_
        (first | (refine t_fieldR rfl rfl ?_) | (refine t_fieldW rfl rfl ?_))
        (first | (refine t_loadDc rfl rfl rfl ?_) | (refine t_loadRc rfl rfl rfl rfl ?_))
        refine t_callD hc0 rfl rfl ?_
        exact TL.nil rfl
      repeat refine DC.seq ?_
      refine DC.block ?_
      repeat refine DC.seq ?_
      apply DC.regionX
      · intro s0 Oo
        refine t_int rfl rfl rfl rfl ?_
        refine t_assign rfl rfl ?_
        exact TL.nil rfl
      repeat refine DC.seq ?_
      refine DC.cond rfl (fun hc => by cases hc) (fun hc => ?_)
      repeat refine DC.seq ?_
      apply DC.regionX
      · intro s0 Oo
        refine t_int rfl rfl rfl rfl ?_
        refine t_assign rfl rfl ?_
        exact TL.nil rfl
      repeat refine DC.seq ?_
      refine DC.cond rfl (fun hc => by cases hc) (fun hc => ?_)
      repeat refine DC.seq ?_
      apply DC.regionX
      · intro s0 Oo
        refine t_int rfl rfl rfl rfl ?_
        refine t_assign rfl rfl ?_
        exact TL.nil rfl
      repeat refine DC.seq ?_
      refine DC.cond rfl (fun hc => by cases hc) (fun hc => ?_)
      repeat refine DC.seq ?_
      apply DC.regionX
      · intro s0 Oo
        refine t_int rfl rfl rfl rfl ?_
        refine t_assign rfl rfl ?_
        exact TL.nil rfl
      repeat refine DC.seq ?_
      refine DC.cond rfl (fun hc => by cases hc) (fun hc => ?_)
      repeat refine DC.seq ?_
      apply DC.regionX
      · intro s0 Oo
        refine t_int rfl rfl rfl rfl ?_
        refine t_assign rfl rfl ?_
        exact TL.nil rfl
      repeat refine DC.seq ?_
      refine DC.cond rfl (fun hc => by cases hc) (fun hc => ?_)
      repeat refine DC.seq ?_
      apply DC.regionX
      · intro s0 Oo
        refine t_int rfl rfl rfl rfl ?_
        refine t_assign rfl rfl ?_
        exact TL.nil rfl
      repeat refine DC.seq ?_
      refine DC.cond rfl (fun hc => by cases hc) (fun hc => ?_)
      repeat refine DC.seq ?_
      apply DC.regionX
      · intro s0 Oo
        refine t_int rfl rfl rfl rfl ?_
        refine t_assign rfl rfl ?_
        exact TL.nil rfl
      repeat refine DC.seq ?_
      refine DC.cond rfl (fun hc => by cases hc) (fun hc => ?_)
      repeat refine DC.seq ?_
      apply DC.regionX
      · intro s0 Oo
        refine t_int rfl rfl rfl rfl ?_
        refine t_assign rfl rfl ?_
        exact TL.nil rfl
      repeat refine DC.seq ?_
      refine DC.cond rfl (fun hc => ?_) (fun hc => by cases hc)
      repeat refine DC.seq ?_
      apply DC.regionX
      · intro s0 Oo
        refine t_move rfl rfl ?_
        (first | (refine t_fieldD rfl rfl ?_) | (refine t_fieldL rfl rfl ?_))
        refine t_loadDc rfl rfl rfl ?_
        (first | (refine t_loadDw rfl rfl rfl ?_) | (refine t_loadLa rfl rfl rfl rfl rfl ?_))
        refine t_callD hcp rfl rfl ?_
        refine t_move rfl rfl ?_
        refine t_extract rfl rfl rfl ?_
        refine t_extract rfl rfl rfl ?_
        refine t_assign rfl rfl ?_
        refine t_assign rfl rfl ?_
        exact TL.nil rfl
      repeat refine DC.seq ?_
      apply DC.regionX
      · intro s0 Oo
        refine t_move rfl rfl ?_
        exact TL.nil rfl
      repeat refine DC.seq ?_
      refine DC.cond rfl (fun hc => ?_) (fun hc => by cases hc)
      repeat refine DC.seq ?_
      apply DC.regionX
      · intro s0 Oo
        refine t_move rfl rfl ?_
        refine t_build rfl rfl rfl rfl rfl ?_
        refine t_storeL rfl rfl rfl rfl rfl rfl ?_
        exact TL.nil rfl
      exact DC.ret ⟨_, rfl, .last x, gp, rfl, rfl, .last (hp rfl), hm0.trans hmp⟩
    | false =>
      obtain ⟨ro, Ko, ⟨eo, go, rfl, rfl, hgeo, hmo⟩, hco⟩ := hop s hs t st gp hmp.le
      obtain ⟨ko, opo, no, so, ao, bo, ho⟩ := eo.shape
      rw [ho] at hco
      refine DT.of_body Try.func102 rfl Try.ntmps102 rfl ?_
      repeat refine DC.seq ?_
      apply DC.regionX
      · intro s0 Oo
        refine t_box rfl rfl ?_
        refine t_box rfl rfl ?_
        refine t_alloc rfl rfl ?_
        exact TL.nil rfl
      repeat refine DC.seq ?_
      apply DC.regionX
      · intro s0 Oo
        refine t_move rfl rfl ?_
        (refine t_int rfl rfl rfl (r := .bool false) (by show some (D.bool (decide _)) = _; rw [hdl]) ?_)
        exact TL.nil rfl
      repeat refine DC.seq ?_
      refine DC.cond rfl (fun hc => by cases hc) (fun hc => ?_)
      refine DC.skip ?_
      repeat refine DC.seq ?_
      apply DC.regionX
      · intro s0 Oo
        refine t_move rfl rfl ?_
        refine t_nilCheck rfl rfl rfl ?_
        (first | (refine t_fieldD rfl rfl ?_) | (refine t_fieldR rfl rfl ?_))
        (first | (refine t_loadLc rfl rfl rfl rfl ?_) | (refine t_loadRc rfl rfl rfl rfl ?_))
        refine t_callD hc0 rfl rfl ?_
        exact TL.nil rfl
      repeat refine DC.seq ?_
      refine DC.block ?_
      repeat refine DC.seq ?_
      apply DC.regionX
      · intro s0 Oo
        refine t_int rfl rfl rfl rfl ?_
        refine t_assign rfl rfl ?_
        exact TL.nil rfl
      repeat refine DC.seq ?_
      refine DC.cond rfl (fun hc => by cases hc) (fun hc => ?_)
      repeat refine DC.seq ?_
      apply DC.regionX
      · intro s0 Oo
        refine t_int rfl rfl rfl rfl ?_
        refine t_assign rfl rfl ?_
        exact TL.nil rfl
      repeat refine DC.seq ?_
      refine DC.cond rfl (fun hc => by cases hc) (fun hc => ?_)
      repeat refine DC.seq ?_
      apply DC.regionX
      · intro s0 Oo
        refine t_int rfl rfl rfl rfl ?_
        refine t_assign rfl rfl ?_
        exact TL.nil rfl
      repeat refine DC.seq ?_
      refine DC.cond rfl (fun hc => by cases hc) (fun hc => ?_)
      repeat refine DC.seq ?_
      apply DC.regionX
      · intro s0 Oo
        refine t_int rfl rfl rfl rfl ?_
        refine t_assign rfl rfl ?_
        exact TL.nil rfl
      repeat refine DC.seq ?_
      refine DC.cond rfl (fun hc => by cases hc) (fun hc => ?_)
      repeat refine DC.seq ?_
      apply DC.regionX
      · intro s0 Oo
        refine t_int rfl rfl rfl rfl ?_
        refine t_assign rfl rfl ?_
        exact TL.nil rfl
      repeat refine DC.seq ?_
      refine DC.cond rfl (fun hc => by cases hc) (fun hc => ?_)
      repeat refine DC.seq ?_
      apply DC.regionX
      · intro s0 Oo
        refine t_int rfl rfl rfl rfl ?_
        refine t_assign rfl rfl ?_
        exact TL.nil rfl
      repeat refine DC.seq ?_
      refine DC.cond rfl (fun hc => by cases hc) (fun hc => ?_)
      repeat refine DC.seq ?_
      apply DC.regionX
      · intro s0 Oo
        refine t_int rfl rfl rfl rfl ?_
        refine t_assign rfl rfl ?_
        exact TL.nil rfl
      repeat refine DC.seq ?_
      refine DC.cond rfl (fun hc => by cases hc) (fun hc => ?_)
      repeat refine DC.seq ?_
      apply DC.regionX
      · intro s0 Oo
        refine t_int rfl rfl rfl rfl ?_
        refine t_assign rfl rfl ?_
        exact TL.nil rfl
      repeat refine DC.seq ?_
      refine DC.cond rfl (fun hc => ?_) (fun hc => by cases hc)
      repeat refine DC.seq ?_
      apply DC.regionX
      · intro s0 Oo
        refine t_move rfl rfl ?_
        (first | (refine t_fieldD rfl rfl ?_) | (refine t_fieldL rfl rfl ?_))
        (first | (refine t_loadDc rfl rfl rfl ?_) | (refine t_loadRc rfl rfl rfl rfl ?_))
        (first | (refine t_loadDw rfl rfl rfl ?_) | (refine t_loadDa rfl rfl rfl ?_) | (refine t_loadLa rfl rfl rfl rfl rfl ?_))
        refine t_callD hcp rfl rfl ?_
        refine t_move rfl rfl ?_
        refine t_extract rfl rfl rfl ?_
        refine t_extract rfl rfl rfl ?_
        refine t_assign rfl rfl ?_
        refine t_assign rfl rfl ?_
        exact TL.nil rfl
      repeat refine DC.seq ?_
      apply DC.regionX
      · intro s0 Oo
        refine t_move rfl rfl ?_
        exact TL.nil rfl
      repeat refine DC.seq ?_
      refine DC.cond rfl (fun hc => by cases hc) (fun hc => ?_)
      refine DC.skip ?_
      repeat refine DC.seq ?_
      apply DC.regionX
      · intro s0 Oo
        refine t_move rfl rfl ?_
        refine t_loadDw rfl rfl rfl ?_
        (first | (refine t_loadDw rfl rfl rfl ?_) | (refine t_loadLa rfl rfl rfl rfl rfl ?_))
        refine t_move rfl rfl ?_
        refine t_move rfl rfl ?_
        refine t_callD hco rfl rfl ?_
        refine t_storeL rfl rfl rfl rfl rfl rfl ?_
        exact TL.nil rfl
      exact DC.ret ⟨_, rfl, eo, go, by rw [ho]; rfl, rfl, hgeo, hm0.trans (hmp.trans hmo)⟩
  · skip
    obtain ⟨ro, Ko, ⟨eo, go, rfl, rfl, hgeo, hmo⟩, hco⟩ := hop s hs t st g0 hm0.le
    obtain ⟨ko, opo, no, so, ao, bo, ho⟩ := eo.shape
    rw [ho] at hco
    refine DT.of_body Try.func102 rfl Try.ntmps102 rfl ?_
    repeat refine DC.seq ?_
    apply DC.regionX
    · intro s0 Oo
      refine t_box rfl rfl ?_
      refine t_box rfl rfl ?_
      refine t_alloc rfl rfl ?_
      exact TL.nil rfl
    repeat refine DC.seq ?_
    apply DC.regionX
    · intro s0 Oo
      refine t_move rfl rfl ?_
      (refine t_int rfl rfl rfl (r := .bool false) (by show some (D.bool (decide _)) = _; rw [hdl]) ?_)
      exact TL.nil rfl
    repeat refine DC.seq ?_
    refine DC.cond rfl (fun hc => by cases hc) (fun hc => ?_)
    refine DC.skip ?_
    repeat refine DC.seq ?_
    apply DC.regionX
    · intro s0 Oo
      refine t_move rfl rfl ?_
      refine t_nilCheck rfl rfl rfl ?_
      (first | (refine t_fieldR rfl rfl ?_) | (refine t_fieldW rfl rfl ?_))
      (first | (refine t_loadLc rfl rfl rfl rfl ?_) | (refine t_loadRc rfl rfl rfl rfl ?_))
      refine t_callD hc0 rfl rfl ?_
      exact TL.nil rfl
    repeat refine DC.seq ?_
    refine DC.block ?_
    repeat refine DC.seq ?_
    apply DC.regionX
    · intro s0 Oo
      refine t_int rfl rfl rfl rfl ?_
      refine t_assign rfl rfl ?_
      exact TL.nil rfl
    repeat refine DC.seq ?_
    refine DC.cond rfl (fun hc => by cases hc) (fun hc => ?_)
    repeat refine DC.seq ?_
    apply DC.regionX
    · intro s0 Oo
      refine t_int rfl rfl rfl rfl ?_
      refine t_assign rfl rfl ?_
      exact TL.nil rfl
    repeat refine DC.seq ?_
    refine DC.cond rfl (fun hc => by cases hc) (fun hc => ?_)
    repeat refine DC.seq ?_
    apply DC.regionX
    · intro s0 Oo
      refine t_int rfl rfl rfl rfl ?_
      refine t_assign rfl rfl ?_
      exact TL.nil rfl
    repeat refine DC.seq ?_
    refine DC.cond rfl (fun hc => by cases hc) (fun hc => ?_)
    repeat refine DC.seq ?_
    apply DC.regionX
    · intro s0 Oo
      refine t_int rfl rfl rfl rfl ?_
      refine t_assign rfl rfl ?_
      exact TL.nil rfl
    repeat refine DC.seq ?_
    refine DC.cond rfl (fun hc => by cases hc) (fun hc => ?_)
    repeat refine DC.seq ?_
    apply DC.regionX
    · intro s0 Oo
      refine t_int rfl rfl rfl rfl ?_
      refine t_assign rfl rfl ?_
      exact TL.nil rfl
    repeat refine DC.seq ?_
    refine DC.cond rfl (fun hc => by cases hc) (fun hc => ?_)
    repeat refine DC.seq ?_
    apply DC.regionX
    · intro s0 Oo
      refine t_int rfl rfl rfl rfl ?_
      refine t_assign rfl rfl ?_
      exact TL.nil rfl
    repeat refine DC.seq ?_
    refine DC.cond rfl (fun hc => by cases hc) (fun hc => ?_)
    repeat refine DC.seq ?_
    apply DC.regionX
    · intro s0 Oo
      refine t_int rfl rfl rfl rfl ?_
      refine t_assign rfl rfl ?_
      exact TL.nil rfl
    repeat refine DC.seq ?_
    refine DC.cond rfl (fun hc => by cases hc) (fun hc => ?_)
    repeat refine DC.seq ?_
    apply DC.regionX
    · intro s0 Oo
      refine t_int rfl rfl rfl rfl ?_
      refine t_assign rfl rfl ?_
      exact TL.nil rfl
    repeat refine DC.seq ?_
    refine DC.cond rfl (fun hc => by cases hc) (fun hc => ?_)
    refine DC.skip ?_
    repeat refine DC.seq ?_
    apply DC.regionX
    · intro s0 Oo
      refine t_move rfl rfl ?_
      refine t_loadDw rfl rfl rfl ?_
      refine t_loadDw rfl rfl rfl ?_
      refine t_move rfl rfl ?_
      refine t_move rfl rfl ?_
      refine t_callD hco rfl rfl ?_
      refine t_storeL rfl rfl rfl rfl rfl rfl ?_
      exact TL.nil rfl
    exact DC.ret ⟨_, rfl, eo, go, by rw [ho]; rfl, rfl, hgeo, hm0.trans hmo⟩
  · skip
    obtain ⟨ro, Ko, ⟨eo, go, rfl, rfl, hgeo, hmo⟩, hco⟩ := hop s hs t st g0 hm0.le
    obtain ⟨ko, opo, no, so, ao, bo, ho⟩ := eo.shape
    rw [ho] at hco
    refine DT.of_body Try.func102 rfl Try.ntmps102 rfl ?_
    repeat refine DC.seq ?_
    apply DC.regionX
    · intro s0 Oo
      refine t_box rfl rfl ?_
      refine t_box rfl rfl ?_
      refine t_alloc rfl rfl ?_
      exact TL.nil rfl
    repeat refine DC.seq ?_
    apply DC.regionX
    · intro s0 Oo
      refine t_move rfl rfl ?_
      (refine t_int rfl rfl rfl (r := .bool false) (by show some (D.bool (decide _)) = _; rw [hdl]) ?_)
      exact TL.nil rfl
    repeat refine DC.seq ?_
    refine DC.cond rfl (fun hc => by cases hc) (fun hc => ?_)
    refine DC.skip ?_
    repeat refine DC.seq ?_
    apply DC.regionX
    · intro s0 Oo
      refine t_move rfl rfl ?_
      refine t_nilCheck rfl rfl rfl ?_
      (first | (refine t_fieldD rfl rfl ?_) | (refine t_fieldR rfl rfl ?_))
      (first | (refine t_loadDc rfl rfl rfl ?_) | (refine t_loadLc rfl rfl rfl rfl ?_) | (refine t_loadRc rfl rfl rfl rfl ?_))
      refine t_callD hc0 rfl rfl ?_
      exact TL.nil rfl
    repeat refine DC.seq ?_
    refine DC.block ?_
    repeat refine DC.seq ?_
    apply DC.regionX
    · intro s0 Oo
      refine t_int rfl rfl rfl rfl ?_
      refine t_assign rfl rfl ?_
      exact TL.nil rfl
    repeat refine DC.seq ?_
    refine DC.cond rfl (fun hc => by cases hc) (fun hc => ?_)
    repeat refine DC.seq ?_
    apply DC.regionX
    · intro s0 Oo
      refine t_int rfl rfl rfl rfl ?_
      refine t_assign rfl rfl ?_
      exact TL.nil rfl
    repeat refine DC.seq ?_
    refine DC.cond rfl (fun hc => by cases hc) (fun hc => ?_)
    repeat refine DC.seq ?_
    apply DC.regionX
    · intro s0 Oo
      refine t_int rfl rfl rfl rfl ?_
      refine t_assign rfl rfl ?_
      exact TL.nil rfl
    repeat refine DC.seq ?_
    refine DC.cond rfl (fun hc => by cases hc) (fun hc => ?_)
    repeat refine DC.seq ?_
    apply DC.regionX
    · intro s0 Oo
      refine t_int rfl rfl rfl rfl ?_
      refine t_assign rfl rfl ?_
      exact TL.nil rfl
    repeat refine DC.seq ?_
    refine DC.cond rfl (fun hc => by cases hc) (fun hc => ?_)
    repeat refine DC.seq ?_
    apply DC.regionX
    · intro s0 Oo
      refine t_int rfl rfl rfl rfl ?_
      refine t_assign rfl rfl ?_
      exact TL.nil rfl
    repeat refine DC.seq ?_
    refine DC.cond rfl (fun hc => by cases hc) (fun hc => ?_)
    repeat refine DC.seq ?_
    apply DC.regionX
    · intro s0 Oo
      refine t_int rfl rfl rfl rfl ?_
      refine t_assign rfl rfl ?_
      exact TL.nil rfl
    repeat refine DC.seq ?_
    refine DC.cond rfl (fun hc => by cases hc) (fun hc => ?_)
    repeat refine DC.seq ?_
    apply DC.regionX
    · intro s0 Oo
      refine t_int rfl rfl rfl rfl ?_
      refine t_assign rfl rfl ?_
      exact TL.nil rfl
    repeat refine DC.seq ?_
    refine DC.cond rfl (fun hc => by cases hc) (fun hc => ?_)
    repeat refine DC.seq ?_
    apply DC.regionX
    · intro s0 Oo
      refine t_int rfl rfl rfl rfl ?_
      refine t_assign rfl rfl ?_
      exact TL.nil rfl
    repeat refine DC.seq ?_
    refine DC.cond rfl (fun hc => by cases hc) (fun hc => ?_)
    refine DC.skip ?_
    repeat refine DC.seq ?_
    apply DC.regionX
    · intro s0 Oo
      refine t_move rfl rfl ?_
      (first | (refine t_loadDw rfl rfl rfl ?_) | (refine t_loadLa rfl rfl rfl rfl rfl ?_))
      (first | (refine t_loadDw rfl rfl rfl ?_) | (refine t_loadDa rfl rfl rfl ?_))
      refine t_move rfl rfl ?_
      refine t_move rfl rfl ?_
      refine t_callD hco rfl rfl ?_
      refine t_storeL rfl rfl rfl rfl rfl rfl ?_
      exact TL.nil rfl
    exact DC.ret ⟨_, rfl, eo, go, by rw [ho]; rfl, rfl, hgeo, hm0.trans hmo⟩
  · skip
    obtain ⟨ro, Ko, ⟨eo, go, rfl, rfl, hgeo, hmo⟩, hco⟩ := hop s hs t st g0 hm0.le
    obtain ⟨ko, opo, no, so, ao, bo, ho⟩ := eo.shape
    rw [ho] at hco
    refine DT.of_body Try.func102 rfl Try.ntmps102 rfl ?_
    repeat refine DC.seq ?_
    apply DC.regionX
    · intro s0 Oo
      refine t_box rfl rfl ?_
      refine t_box rfl rfl ?_
      refine t_alloc rfl rfl ?_
      exact TL.nil rfl
    repeat refine DC.seq ?_
    apply DC.regionX
    · intro s0 Oo
      refine t_move rfl rfl ?_
      (refine t_int rfl rfl rfl (r := .bool false) (by show some (D.bool (decide _)) = _; rw [hdl]) ?_)
      exact TL.nil rfl
    repeat refine DC.seq ?_
    refine DC.cond rfl (fun hc => by cases hc) (fun hc => ?_)
    refine DC.skip ?_
    repeat refine DC.seq ?_
    apply DC.regionX
    · intro s0 Oo
      refine t_move rfl rfl ?_
      refine t_nilCheck rfl rfl rfl ?_
      (first | (refine t_fieldL rfl rfl ?_) | (refine t_fieldR rfl rfl ?_) | (refine t_fieldW rfl rfl ?_))
      (first | (refine t_loadLc rfl rfl rfl rfl ?_) | (refine t_loadRc rfl rfl rfl rfl ?_))
      refine t_callD hc0 rfl rfl ?_
      exact TL.nil rfl
    repeat refine DC.seq ?_
    refine DC.block ?_
    repeat refine DC.seq ?_
    apply DC.regionX
    · intro s0 Oo
      refine t_int rfl rfl rfl rfl ?_
      refine t_assign rfl rfl ?_
      exact TL.nil rfl
    repeat refine DC.seq ?_
    refine DC.cond rfl (fun hc => by cases hc) (fun hc => ?_)
    repeat refine DC.seq ?_
    apply DC.regionX
    · intro s0 Oo
      refine t_int rfl rfl rfl rfl ?_
      refine t_assign rfl rfl ?_
      exact TL.nil rfl
    repeat refine DC.seq ?_
    refine DC.cond rfl (fun hc => by cases hc) (fun hc => ?_)
    repeat refine DC.seq ?_
    apply DC.regionX
    · intro s0 Oo
      refine t_int rfl rfl rfl rfl ?_
      refine t_assign rfl rfl ?_
      exact TL.nil rfl
    repeat refine DC.seq ?_
    refine DC.cond rfl (fun hc => by cases hc) (fun hc => ?_)
    repeat refine DC.seq ?_
    apply DC.regionX
    · intro s0 Oo
      refine t_int rfl rfl rfl rfl ?_
      refine t_assign rfl rfl ?_
      exact TL.nil rfl
    repeat refine DC.seq ?_
    refine DC.cond rfl (fun hc => by cases hc) (fun hc => ?_)
    repeat refine DC.seq ?_
    apply DC.regionX
    · intro s0 Oo
      refine t_int rfl rfl rfl rfl ?_
      refine t_assign rfl rfl ?_
      exact TL.nil rfl
    repeat refine DC.seq ?_
    refine DC.cond rfl (fun hc => by cases hc) (fun hc => ?_)
    repeat refine DC.seq ?_
    apply DC.regionX
    · intro s0 Oo
      refine t_int rfl rfl rfl rfl ?_
      refine t_assign rfl rfl ?_
      exact TL.nil rfl
    repeat refine DC.seq ?_
    refine DC.cond rfl (fun hc => by cases hc) (fun hc => ?_)
    repeat refine DC.seq ?_
    apply DC.regionX
    · intro s0 Oo
      refine t_int rfl rfl rfl rfl ?_
      refine t_assign rfl rfl ?_
      exact TL.nil rfl
    repeat refine DC.seq ?_
    refine DC.cond rfl (fun hc => by cases hc) (fun hc => ?_)
    repeat refine DC.seq ?_
    apply DC.regionX
    · intro s0 Oo
      refine t_int rfl rfl rfl rfl ?_
      refine t_assign rfl rfl ?_
      exact TL.nil rfl
    repeat refine DC.seq ?_
    refine DC.cond rfl (fun hc => by cases hc) (fun hc => ?_)
    refine DC.skip ?_
    repeat refine DC.seq ?_
    apply DC.regionX
    · intro s0 Oo
      refine t_move rfl rfl ?_
      refine t_loadDw rfl rfl rfl ?_
      refine t_loadDw rfl rfl rfl ?_
      refine t_move rfl rfl ?_
      refine t_move rfl rfl ?_
      refine t_callD hco rfl rfl ?_
      refine t_storeL rfl rfl rfl rfl rfl rfl ?_
      exact TL.nil rfl
    exact DC.ret ⟨_, rfl, eo, go, by rw [ho]; rfl, rfl, hgeo, hm0.trans hmo⟩
  · skip
    obtain ⟨ro, Ko, ⟨eo, go, rfl, rfl, hgeo, hmo⟩, hco⟩ := hop s hs t st g0 hm0.le
    obtain ⟨ko, opo, no, so, ao, bo, ho⟩ := eo.shape
    rw [ho] at hco
    refine DT.of_body Try.func102 rfl Try.ntmps102 rfl ?_
    repeat refine DC.seq ?_
    apply DC.regionX
    · intro s0 Oo
      refine t_box rfl rfl ?_
      refine t_box rfl rfl ?_
      refine t_alloc rfl rfl ?_
      exact TL.nil rfl
    repeat refine DC.seq ?_
    apply DC.regionX
    · intro s0 Oo
      refine t_move rfl rfl ?_
      (refine t_int rfl rfl rfl (r := .bool false) (by show some (D.bool (decide _)) = _; rw [hdl]) ?_)
      exact TL.nil rfl
    repeat refine DC.seq ?_
    refine DC.cond rfl (fun hc => by cases hc) (fun hc => ?_)
    refine DC.skip ?_
    repeat refine DC.seq ?_
    apply DC.regionX
    · intro s0 Oo
      refine t_move rfl rfl ?_
      refine t_nilCheck rfl rfl rfl ?_
      (first | (refine t_fieldL rfl rfl ?_) | (refine t_fieldR rfl rfl ?_) | (refine t_fieldW rfl rfl ?_))
      (first | (refine t_loadLc rfl rfl rfl rfl ?_) | (refine t_loadRc rfl rfl rfl rfl ?_))
      refine t_callD hc0 rfl rfl ?_
      exact TL.nil rfl
    repeat refine DC.seq ?_
    refine DC.block ?_
    repeat refine DC.seq ?_
    apply DC.regionX
    · intro s0 Oo
      refine t_int rfl rfl rfl rfl ?_
      refine t_assign rfl rfl ?_
      exact TL.nil rfl
    repeat refine DC.seq ?_
    refine DC.cond rfl (fun hc => by cases hc) (fun hc => ?_)
    repeat refine DC.seq ?_
    apply DC.regionX
    · intro s0 Oo
      refine t_int rfl rfl rfl rfl ?_
      refine t_assign rfl rfl ?_
      exact TL.nil rfl
    repeat refine DC.seq ?_
    refine DC.cond rfl (fun hc => by cases hc) (fun hc => ?_)
    repeat refine DC.seq ?_
    apply DC.regionX
    · intro s0 Oo
      refine t_int rfl rfl rfl rfl ?_
      refine t_assign rfl rfl ?_
      exact TL.nil rfl
    repeat refine DC.seq ?_
    refine DC.cond rfl (fun hc => by cases hc) (fun hc => ?_)
    repeat refine DC.seq ?_
    apply DC.regionX
    · intro s0 Oo
      refine t_int rfl rfl rfl rfl ?_
      refine t_assign rfl rfl ?_
      exact TL.nil rfl
    repeat refine DC.seq ?_
    refine DC.cond rfl (fun hc => by cases hc) (fun hc => ?_)
    repeat refine DC.seq ?_
    apply DC.regionX
    · intro s0 Oo
      refine t_int rfl rfl rfl rfl ?_
      refine t_assign rfl rfl ?_
      exact TL.nil rfl
    repeat refine DC.seq ?_
    refine DC.cond rfl (fun hc => by cases hc) (fun hc => ?_)
    repeat refine DC.seq ?_
    apply DC.regionX
    · intro s0 Oo
      refine t_int rfl rfl rfl rfl ?_
      refine t_assign rfl rfl ?_
      exact TL.nil rfl
    repeat refine DC.seq ?_
    refine DC.cond rfl (fun hc => by cases hc) (fun hc => ?_)
    repeat refine DC.seq ?_
    apply DC.regionX
    · intro s0 Oo
      refine t_int rfl rfl rfl rfl ?_
      refine t_assign rfl rfl ?_
      exact TL.nil rfl
    repeat refine DC.seq ?_
    refine DC.cond rfl (fun hc => by cases hc) (fun hc => ?_)
    repeat refine DC.seq ?_
    apply DC.regionX
    · intro s0 Oo
      refine t_int rfl rfl rfl rfl ?_
      refine t_assign rfl rfl ?_
      exact TL.nil rfl
    repeat refine DC.seq ?_
    refine DC.cond rfl (fun hc => by cases hc) (fun hc => ?_)
    refine DC.skip ?_
    repeat refine DC.seq ?_
    apply DC.regionX
    · intro s0 Oo
      refine t_move rfl rfl ?_
      refine t_loadDw rfl rfl rfl ?_
      (first | (refine t_loadDw rfl rfl rfl ?_) | (refine t_loadLa rfl rfl rfl rfl rfl ?_))
      refine t_move rfl rfl ?_
      refine t_move rfl rfl ?_
      refine t_callD hco rfl rfl ?_
      refine t_storeL rfl rfl rfl rfl rfl rfl ?_
      exact TL.nil rfl
    exact DC.ret ⟨_, rfl, eo, go, by rw [ho]; rfl, rfl, hgeo, hm0.trans hmo⟩
theorem expr_dt : ∀ (d : Nat), d ≤ 100 → ExprOk zs v subs main d
  | 0, _ => expr0_dt ht subs main
  | d + 1, h => exprS_dt ht subs main d (by omega) (expr_dt d (by omega))
end
end Go.Proofs
