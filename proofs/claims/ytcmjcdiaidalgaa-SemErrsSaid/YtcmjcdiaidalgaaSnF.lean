/- What equations keep begins anew. -/
import Derived.Test.YtcmjcdiaidalgaaSnE
set_option linter.unusedVariables false
set_option linter.unusedSimpArgs false
set_option linter.unusedSectionVars false
namespace Go.Proofs
open Go.Mt Go.Mk
set_option maxRecDepth 4000
set_option linter.unusedSimpArgs false
set_option linter.unusedVariables false

theorem DC.mid2E {P : Program} {n B : Nat} {st : St} {post : Exit → St → Prop} {x y z : Code} (Q : St → Prop) (ha : DC P n B x st (after post fun s => DC P n B y s (after post fun s => ∃ st', Q st' ∧ ∀ s0 Oo, s0.H.length ≤ B → ∀ a w, Inv ⟨P, n, s0, Oo, []⟩ s a w → Inv ⟨P, n, s0, Oo, []⟩ st' a w))) (hb : ∀ st', Q st' → DC P n B z st' post) : DC P n B x st (after (after post fun s => DC P n B z s post) fun s => DC P n B y s (after post fun s => DC P n B z s post)) :=
  ha.mono fun e s h => by
    cases e with
    | normal => exact DC.midE Q h hb
    | _ => exact h
theorem resetEq_of (c : Mc) (fr to : Nat) (hto : to ≤ c.sz) (q : Eqn) (hal : q.arms.length ≤ 1000) (hwe : WE q.ex) (hwa : ∀ e ∈ q.args, WE e) (hP : ∀ a ∈ q.arms, PT Try.prog 54 [.agg a.blk.cells] (· = [.int .i64 ((bPl a.blk : Nat) : Int)]))
    (hA : ∀ ar ∈ q.arms, ∀ (a : Nat), a + bPl ar.blk ≤ 1000000000 → ∀ H, MM c H → DT Try.prog 76 [.ref c.it 0, .d (.agg ar.blk.cells), .d (.int .i64 ((a : Nat) : Int)), .d (.int .i64 ((fr : Nat) : Int)), .d (.int .i64 ((to : Nat) : Int))] H fun r K => MS c H K)
    (a : Nat) (ha : a + eqPl q ≤ 1000000000) (H : Hp) (h : MM c H) : DT Try.prog 107 [.ref c.it 0, .d (.agg q.cells), .d (.int .i64 ((a : Nat) : Int)), .d (.int .i64 ((fr : Nat) : Int)), .d (.int .i64 ((to : Nat) : Int))] H fun r K => MS c H K := by
  have hpl := eqPl_eq q
  have hown := q.own_kd
  have hgl := q.args_len
  have hex : ∀ e ∈ q.ex :: q.args, WE e ∧ PT Try.prog 105 [.agg e.cells] (· = [.int .i64 ((ePl e : Nat) : Int)]) := by
    intro e he
    rcases List.mem_cons.1 he with rfl | he
    · exact ⟨hwe, exprP_pt _ (by omega)⟩
    · exact ⟨hwa e he, exprP_pt e (by have := sumL_mem (List.mem_map_of_mem (f := ePl) he); omega)⟩
  obtain ⟨lhs, nm, has, hsh⟩ := q.shape
  rw [hsh]
  rw [hpl] at ha
  generalize q.kd = kd at hown hsh ⊢
  generalize q.own = ow at hown ha
  generalize q.args = gs at hgl hex ha hsh ⊢
  generalize q.arms = ar at hal hA hP ha hsh ⊢
  generalize q.ex = ex at hex ha hsh ⊢
  clear hpl hwe hwa hsh
  obtain ⟨k0, op0, n0, s0', a0, b0, h0⟩ := ex.shape
  have hecells : (ex :: gs).map E.cells = exC k0 op0 n0 s0' a0 b0 :: gs.map E.cells := by rw [List.map_cons, h0]
  have hesum : sumL ((ex :: gs).map ePl) = ePl ex + sumL (gs.map ePl) := by simp [sumL]
  have heslen : (ex :: gs).length ≤ 3 := by simp; omega
  rw [h0]
  generalize hes : ex :: gs = es at hex hecells hesum heslen
  refine DT.of_body Try.func107 rfl Try.ntmps107 rfl ?_
  repeat refine DC.seq ?_
  apply DC.regionX
  · intro s0 Oo
    refine t_box rfl rfl ?_
    exact TL.nil rfl
  repeat refine DC.seq ?_
  refine DC.mid2E (fun st' => ∃ K, MS c H K ∧ st' = ⟨[(2, .m (.d (.int .i64 ((a + ow : Nat) : Int)))), (6, .m (.d (.pim (eqC kd lhs nm (gs.map E.cells) has (exC k0 op0 n0 s0' a0 b0) (armsC ar)) 0))), (4, .m (.d (.int .i64 ((to : Nat) : Int)))), (3, .m (.d (.int .i64 ((fr : Nat) : Int)))), (0, .m (.ref c.it 0))], [], K⟩) ?_ ?_
  · rcases hown with ⟨rfl, rfl⟩ | ⟨rfl, rfl⟩ | ⟨h1, h2, rfl⟩
    · repeat refine DC.seq ?_
      apply DC.regionX
      · intro s0 Oo
        refine t_fieldD rfl rfl ?_
        refine t_loadDc rfl rfl rfl ?_
        refine t_int rfl rfl rfl rfl ?_
        refine t_move rfl rfl ?_
        refine t_guard_no rfl rfl ?_
        refine t_guard_no rfl rfl ?_
        refine t_guard_no rfl rfl ?_
        refine t_pick rfl rfl rfl ?_
        exact TL.nil rfl
      repeat refine DC.seq ?_
      refine DC.cond rfl (fun hc => ?_) (fun hc => by cases hc)
      repeat refine DC.seq ?_
      refine DC.mid2E (fun st' => ∃ K, MS c H K ∧ st' = ⟨[(2, .m (.d (.int .i64 ((a : Nat) : Int)))), (6, .m (.d (.pim (eqC 2 lhs nm (gs.map E.cells) has (exC k0 op0 n0 s0' a0 b0) (armsC ar)) 0))), (4, .m (.d (.int .i64 ((to : Nat) : Int)))), (3, .m (.d (.int .i64 ((fr : Nat) : Int)))), (0, .m (.ref c.it 0))], [], K⟩) ?_ ?_
      · rcases Nat.lt_or_ge a fr with hf | hf
        · have e1 : decide (((a : Nat) : Int) ≥ ((fr : Nat) : Int)) = false := decide_eq_false (by omega)
          repeat refine DC.seq ?_
          apply DC.regionX
          · intro s0 Oo
            refine t_move rfl rfl ?_
            refine t_move rfl rfl ?_
            (refine t_int rfl rfl rfl (r := .bool false) (by show some (D.bool (decide _)) = _; rw [e1]) ?_)
            refine t_move rfl rfl ?_
            refine t_guard_no rfl rfl ?_
            refine t_guard_no rfl rfl ?_
            refine t_guard_no rfl rfl ?_
            refine t_pick rfl rfl rfl ?_
            exact TL.nil rfl
          repeat refine DC.seq ?_
          refine DC.cond rfl (fun hc => by cases hc) (fun hc => ?_)
          refine DC.skip ?_
          exact ⟨_, ⟨H, MS.refl h, rfl⟩, downD rfl ⟨rfl, rfl, rfl, rfl, rfl, trivial⟩⟩
        have e1 : decide (((a : Nat) : Int) ≥ ((fr : Nat) : Int)) = true := decide_eq_true (by omega)
        rcases Nat.lt_or_ge a to with hf2 | hf2
        rotate_left
        · have e2 : decide (((a : Nat) : Int) < ((to : Nat) : Int)) = false := decide_eq_false (by omega)
          repeat refine DC.seq ?_
          apply DC.regionX
          · intro s0 Oo
            refine t_move rfl rfl ?_
            refine t_move rfl rfl ?_
            (refine t_int rfl rfl rfl (r := .bool true) (by show some (D.bool (decide _)) = _; rw [e1]) ?_)
            refine t_move rfl rfl ?_
            refine t_guard_yes rfl ?_; refine t_move rfl rfl ?_
            refine t_guard_yes rfl ?_; refine t_move rfl rfl ?_
            refine t_guard_yes rfl ?_; refine t_int rfl rfl rfl (r := .bool false) (by show some (D.bool (decide _)) = _; rw [e2]) ?_
            refine t_pick rfl rfl rfl ?_
            exact TL.nil rfl
          repeat refine DC.seq ?_
          refine DC.cond rfl (fun hc => by cases hc) (fun hc => ?_)
          refine DC.skip ?_
          exact ⟨_, ⟨H, MS.refl h, rfl⟩, downD rfl ⟨rfl, rfl, rfl, rfl, rfl, trivial⟩⟩
        have e2 : decide (((a : Nat) : Int) < ((to : Nat) : Int)) = true := decide_eq_true (by omega)
        repeat refine DC.seq ?_
        apply DC.regionX
        · intro s0 Oo
          refine t_move rfl rfl ?_
          refine t_move rfl rfl ?_
          (refine t_int rfl rfl rfl (r := .bool true) (by show some (D.bool (decide _)) = _; rw [e1]) ?_)
          refine t_move rfl rfl ?_
          refine t_guard_yes rfl ?_; refine t_move rfl rfl ?_
          refine t_guard_yes rfl ?_; refine t_move rfl rfl ?_
          refine t_guard_yes rfl ?_; refine t_int rfl rfl rfl (r := .bool true) (by show some (D.bool (decide _)) = _; rw [e2]) ?_
          refine t_pick rfl rfl rfl ?_
          exact TL.nil rfl
        repeat refine DC.seq ?_
        refine DC.cond rfl (fun hc => ?_) (fun hc => by cases hc)
        obtain ⟨f1, hf1, hm1⟩ := h.mem
        have hw1 := cellsM_write (n := c.sz) (f := f1) (k := a) (.d (.int .i32 0)) (by omega)
        have hs1 := h.setMem (updM' f1 a (.d (.int .i32 0))) (fun k => by unfold updM'; split; exact ⟨0, rfl⟩; exact hf1 k)
        obtain ⟨f2, hf2, hm2⟩ := hs1.mm.pend
        have hw2 := cellsM_write (n := c.sz) (f := f2) (k := a) (.d (.bool false)) (by omega)
        have hs2 := hs1.mm.setPend (updM' f2 a (.d (.bool false))) (fun k => by unfold updM'; split; exact ⟨false, rfl⟩; exact hf2 k)
        obtain ⟨f3, hm3⟩ := hs2.mm.subs
        have hw3 := cellsM_write (n := c.sz) (f := f3) (k := a) (.d .nilp) (by omega)
        have hs3 := hs2.mm.setSubs (updM' f3 a (.d .nilp))
        repeat refine DC.seq ?_
        apply DC.drawX mixed
        · intro s0 Oo
          refine f_move rfl rfl ?_
          refine f_nilCheck rfl rfl rfl ?_
          refine f_fieldR rfl rfl ?_
          refine f_loadRc rfl rfl h.inst rfl ?_
          refine f_nilCheck rfl rfl rfl ?_
          refine f_fieldR rfl rfl ?_
          refine f_loadRc rfl rfl h.unit rfl ?_
          refine f_move rfl rfl ?_
          refine f_move rfl rfl ?_
          refine f_nilCheck rfl rfl rfl ?_
          refine f_fieldR rfl rfl ?_
          refine f_loadRc rfl rfl h.inst rfl ?_
          refine f_nilCheck rfl rfl rfl ?_
          refine f_fieldR rfl rfl ?_
          refine f_loadRc rfl rfl h.unit rfl ?_
          refine f_move rfl rfl ?_
          refine f_move rfl rfl ?_
          refine f_nilCheck rfl rfl rfl ?_
          refine f_fieldR rfl rfl ?_
          refine f_loadRc rfl rfl h.inst rfl ?_
          refine f_nilCheck rfl rfl rfl ?_
          refine f_fieldR rfl rfl ?_
          refine f_loadRc rfl rfl h.unit rfl ?_
          refine f_move rfl rfl ?_
          refine f_indexR rfl rfl rfl hm1 (by omega) (by omega) ?_
          refine f_storeW rfl rfl hm1 rfl rfl hw1 ?_
          refine f_indexR rfl rfl rfl hm2 (by omega) (by omega) ?_
          refine f_storeW rfl rfl hm2 rfl rfl hw2 ?_
          refine f_indexR rfl rfl rfl hm3 (by omega) (by omega) ?_
          refine f_storeW rfl rfl hm3 rfl rfl hw3 ?_
          exact TF.nil ⟨by kernel_rfl, rfl⟩
        exact ⟨_, ⟨_, (hs1.trans hs2).trans hs3, rfl⟩, downD rfl ⟨rfl, rfl, rfl, rfl, rfl, trivial⟩⟩
      rintro st' ⟨K, hms, rfl⟩
      repeat refine DC.seq ?_
      apply DC.regionX
      · intro s0 Oo
        refine t_move rfl rfl ?_
        refine t_add64 rfl rfl rfl (by omega) ?_
        refine t_assign rfl rfl ?_
        exact TL.nil rfl
      exact ⟨_, ⟨K, hms, rfl⟩, downD rfl ⟨by simp; rfl, rfl, rfl, rfl, rfl, trivial⟩⟩
    · repeat refine DC.seq ?_
      apply DC.regionX
      · intro s0 Oo
        refine t_fieldD rfl rfl ?_
        refine t_loadDc rfl rfl rfl ?_
        refine t_int rfl rfl rfl rfl ?_
        refine t_move rfl rfl ?_
        refine t_guard_yes rfl ?_; refine t_fieldD rfl rfl ?_
        refine t_guard_yes rfl ?_; refine t_loadDc rfl rfl rfl ?_
        refine t_guard_yes rfl ?_; refine t_int rfl rfl rfl rfl ?_
        refine t_pick rfl rfl rfl ?_
        exact TL.nil rfl
      repeat refine DC.seq ?_
      refine DC.cond rfl (fun hc => ?_) (fun hc => by cases hc)
      repeat refine DC.seq ?_
      refine DC.mid2E (fun st' => ∃ K, MS c H K ∧ st' = ⟨[(2, .m (.d (.int .i64 ((a : Nat) : Int)))), (6, .m (.d (.pim (eqC 4 lhs nm (gs.map E.cells) has (exC k0 op0 n0 s0' a0 b0) (armsC ar)) 0))), (4, .m (.d (.int .i64 ((to : Nat) : Int)))), (3, .m (.d (.int .i64 ((fr : Nat) : Int)))), (0, .m (.ref c.it 0))], [], K⟩) ?_ ?_
      · rcases Nat.lt_or_ge a fr with hf | hf
        · have e1 : decide (((a : Nat) : Int) ≥ ((fr : Nat) : Int)) = false := decide_eq_false (by omega)
          repeat refine DC.seq ?_
          apply DC.regionX
          · intro s0 Oo
            refine t_move rfl rfl ?_
            refine t_move rfl rfl ?_
            (refine t_int rfl rfl rfl (r := .bool false) (by show some (D.bool (decide _)) = _; rw [e1]) ?_)
            refine t_move rfl rfl ?_
            refine t_guard_no rfl rfl ?_
            refine t_guard_no rfl rfl ?_
            refine t_guard_no rfl rfl ?_
            refine t_pick rfl rfl rfl ?_
            exact TL.nil rfl
          repeat refine DC.seq ?_
          refine DC.cond rfl (fun hc => by cases hc) (fun hc => ?_)
          refine DC.skip ?_
          exact ⟨_, ⟨H, MS.refl h, rfl⟩, downD rfl ⟨rfl, rfl, rfl, rfl, rfl, trivial⟩⟩
        have e1 : decide (((a : Nat) : Int) ≥ ((fr : Nat) : Int)) = true := decide_eq_true (by omega)
        rcases Nat.lt_or_ge a to with hf2 | hf2
        rotate_left
        · have e2 : decide (((a : Nat) : Int) < ((to : Nat) : Int)) = false := decide_eq_false (by omega)
          repeat refine DC.seq ?_
          apply DC.regionX
          · intro s0 Oo
            refine t_move rfl rfl ?_
            refine t_move rfl rfl ?_
            (refine t_int rfl rfl rfl (r := .bool true) (by show some (D.bool (decide _)) = _; rw [e1]) ?_)
            refine t_move rfl rfl ?_
            refine t_guard_yes rfl ?_; refine t_move rfl rfl ?_
            refine t_guard_yes rfl ?_; refine t_move rfl rfl ?_
            refine t_guard_yes rfl ?_; refine t_int rfl rfl rfl (r := .bool false) (by show some (D.bool (decide _)) = _; rw [e2]) ?_
            refine t_pick rfl rfl rfl ?_
            exact TL.nil rfl
          repeat refine DC.seq ?_
          refine DC.cond rfl (fun hc => by cases hc) (fun hc => ?_)
          refine DC.skip ?_
          exact ⟨_, ⟨H, MS.refl h, rfl⟩, downD rfl ⟨rfl, rfl, rfl, rfl, rfl, trivial⟩⟩
        have e2 : decide (((a : Nat) : Int) < ((to : Nat) : Int)) = true := decide_eq_true (by omega)
        repeat refine DC.seq ?_
        apply DC.regionX
        · intro s0 Oo
          refine t_move rfl rfl ?_
          refine t_move rfl rfl ?_
          (refine t_int rfl rfl rfl (r := .bool true) (by show some (D.bool (decide _)) = _; rw [e1]) ?_)
          refine t_move rfl rfl ?_
          refine t_guard_yes rfl ?_; refine t_move rfl rfl ?_
          refine t_guard_yes rfl ?_; refine t_move rfl rfl ?_
          refine t_guard_yes rfl ?_; refine t_int rfl rfl rfl (r := .bool true) (by show some (D.bool (decide _)) = _; rw [e2]) ?_
          refine t_pick rfl rfl rfl ?_
          exact TL.nil rfl
        repeat refine DC.seq ?_
        refine DC.cond rfl (fun hc => ?_) (fun hc => by cases hc)
        obtain ⟨f1, hf1, hm1⟩ := h.mem
        have hw1 := cellsM_write (n := c.sz) (f := f1) (k := a) (.d (.int .i32 0)) (by omega)
        have hs1 := h.setMem (updM' f1 a (.d (.int .i32 0))) (fun k => by unfold updM'; split; exact ⟨0, rfl⟩; exact hf1 k)
        obtain ⟨f2, hf2, hm2⟩ := hs1.mm.pend
        have hw2 := cellsM_write (n := c.sz) (f := f2) (k := a) (.d (.bool false)) (by omega)
        have hs2 := hs1.mm.setPend (updM' f2 a (.d (.bool false))) (fun k => by unfold updM'; split; exact ⟨false, rfl⟩; exact hf2 k)
        obtain ⟨f3, hm3⟩ := hs2.mm.subs
        have hw3 := cellsM_write (n := c.sz) (f := f3) (k := a) (.d .nilp) (by omega)
        have hs3 := hs2.mm.setSubs (updM' f3 a (.d .nilp))
        repeat refine DC.seq ?_
        apply DC.drawX mixed
        · intro s0 Oo
          refine f_move rfl rfl ?_
          refine f_nilCheck rfl rfl rfl ?_
          refine f_fieldR rfl rfl ?_
          refine f_loadRc rfl rfl h.inst rfl ?_
          refine f_nilCheck rfl rfl rfl ?_
          refine f_fieldR rfl rfl ?_
          refine f_loadRc rfl rfl h.unit rfl ?_
          refine f_move rfl rfl ?_
          refine f_move rfl rfl ?_
          refine f_nilCheck rfl rfl rfl ?_
          refine f_fieldR rfl rfl ?_
          refine f_loadRc rfl rfl h.inst rfl ?_
          refine f_nilCheck rfl rfl rfl ?_
          refine f_fieldR rfl rfl ?_
          refine f_loadRc rfl rfl h.unit rfl ?_
          refine f_move rfl rfl ?_
          refine f_move rfl rfl ?_
          refine f_nilCheck rfl rfl rfl ?_
          refine f_fieldR rfl rfl ?_
          refine f_loadRc rfl rfl h.inst rfl ?_
          refine f_nilCheck rfl rfl rfl ?_
          refine f_fieldR rfl rfl ?_
          refine f_loadRc rfl rfl h.unit rfl ?_
          refine f_move rfl rfl ?_
          refine f_indexR rfl rfl rfl hm1 (by omega) (by omega) ?_
          refine f_storeW rfl rfl hm1 rfl rfl hw1 ?_
          refine f_indexR rfl rfl rfl hm2 (by omega) (by omega) ?_
          refine f_storeW rfl rfl hm2 rfl rfl hw2 ?_
          refine f_indexR rfl rfl rfl hm3 (by omega) (by omega) ?_
          refine f_storeW rfl rfl hm3 rfl rfl hw3 ?_
          exact TF.nil ⟨by kernel_rfl, rfl⟩
        exact ⟨_, ⟨_, (hs1.trans hs2).trans hs3, rfl⟩, downD rfl ⟨rfl, rfl, rfl, rfl, rfl, trivial⟩⟩
      rintro st' ⟨K, hms, rfl⟩
      repeat refine DC.seq ?_
      apply DC.regionX
      · intro s0 Oo
        refine t_move rfl rfl ?_
        refine t_add64 rfl rfl rfl (by omega) ?_
        refine t_assign rfl rfl ?_
        exact TL.nil rfl
      exact ⟨_, ⟨K, hms, rfl⟩, downD rfl ⟨by simp; rfl, rfl, rfl, rfl, rfl, trivial⟩⟩
    · have b1 : (kd == 2) = false := beq_eq_false_iff_ne.2 h1
      have b2 : (kd == 4) = false := beq_eq_false_iff_ne.2 h2
      repeat refine DC.seq ?_
      apply DC.regionX
      · intro s0 Oo
        refine t_fieldD rfl rfl ?_
        refine t_loadDc rfl rfl rfl ?_
        (refine t_int rfl rfl rfl (r := .bool false) (by show some (D.bool (kd == 2)) = _; rw [b1]) ?_)
        refine t_move rfl rfl ?_
        refine t_guard_yes rfl ?_; refine t_fieldD rfl rfl ?_
        refine t_guard_yes rfl ?_; refine t_loadDc rfl rfl rfl ?_
        refine t_guard_yes rfl ?_; refine t_int rfl rfl rfl (r := .bool false) (by show some (D.bool (kd == 4)) = _; rw [b2]) ?_
        refine t_pick rfl rfl rfl ?_
        exact TL.nil rfl
      repeat refine DC.seq ?_
      refine DC.cond rfl (fun hc => by cases hc) (fun hc => ?_)
      refine DC.skip ?_
      exact ⟨_, ⟨H, MS.refl h, rfl⟩, downD rfl ⟨rfl, rfl, rfl, rfl, rfl, trivial⟩⟩
  rintro st' ⟨K, hms, rfl⟩
  have hcl : ∀ r ∈ gs.map E.cells, r.length = 8 := by
    intro r hr
    obtain ⟨e, _, rfl⟩ := List.mem_map.1 hr
    obtain ⟨k1, op1, n1, s1, a1, b1, h1⟩ := e.shape
    rw [h1]; rfl
  repeat refine DC.seq ?_
  apply DC.regionX
  · intro s0 Oo
    refine t_fieldD rfl rfl ?_
    refine t_loadDa rfl rfl rfl ?_
    refine t_buildRow (n := 8) (cs := flatM [exC k0 op0 n0 s0' a0 b0]) rfl rfl rfl rfl rfl rfl ?_
    refine t_fieldD rfl rfl ?_
    refine t_loadDc rfl rfl rfl ?_
    refine t_appendR (acc := false) (cs := flatM [exC k0 op0 n0 s0' a0 b0]) rfl rfl rfl (by rw [List.getElem?_append_right (Nat.le_refl _), Nat.sub_self]; rfl) (by rfl) (by exact hcl) (by rw [List.length_map]; omega) (by rw [List.length_map]; omega) ?_
    refine t_lenR rfl rfl ?_
    refine t_move rfl rfl ?_
    exact TL.nil rfl
  have hfr : (K ++ [Ob.row false 8 0 (flatM [exC k0 op0 n0 s0' a0 b0])]).set K.length (Ob.row false 8 1 (flatM [exC k0 op0 n0 s0' a0 b0] ++ flatM (gs.map E.cells))) = K ++ [Ob.row false 8 1 (flatM (es.map E.cells))] := by
    rw [hecells, List.set_append_right _ _ (Nat.le_refl _)]
    simp [flatM]
  have hel : 1 + (gs.map E.cells).length = es.length := by rw [← hes]; simp; omega
  refine DC.rename [(66, .m (.d (.int .i64 ((0 : Nat) : Int)))), (65, .m (.d (.int .i64 ((es.length : Nat) : Int)))), (64, .m (.rsl K.length 1 es.length)), (2, .m (.d (.int .i64 ((a + ow + sumL ((es.take 0).map ePl) : Nat) : Int)))), (6, .m (.d (.pim (eqC kd lhs nm (gs.map E.cells) has (exC k0 op0 n0 s0' a0 b0) (armsC ar)) 0))), (4, .m (.d (.int .i64 ((to : Nat) : Int)))), (3, .m (.d (.int .i64 ((fr : Nat) : Int)))), (0, .m (.ref c.it 0))] (K ++ [Ob.row false 8 1 (flatM (es.map E.cells))]) ⟨rfl, by rw [← hel]; rfl, by rw [← hel]; rfl, rfl, rfl, rfl, rfl, rfl, trivial⟩ hfr ?_
  refine DC.freezeRow K.length (ec := 8) (ver := 1) (cs := flatM (es.map E.cells)) (by simp) ?_
  have hfz : (K ++ [Ob.row false 8 1 (flatM (es.map E.cells))]).set K.length (Ob.row true 8 1 (flatM (es.map E.cells))) = K ++ [Ob.row true 8 1 (flatM (es.map E.cells))] := by
    rw [List.set_append_right _ _ (Nat.le_refl _)]
    simp
  rw [hfz]
  refine DC.viewSlot 64 (x := .sl (es.map E.cells)) rfl (rowView (n := 8) (rs := es.map E.cells) (by simp) (by simp) (by rw [← hes]; simp) (by rw [hecells]; intro r hr; rcases List.mem_cons.1 hr with rfl | hr; rfl; exact hcl r hr)) ?_
  have hms := hms.trans (MS.grow hms.mm (K := K ++ [Ob.row true 8 1 (flatM (es.map E.cells))]) (by simp) (fun j hj => by rw [List.getElem?_append_left hj]))
  clear hfz hfr
  generalize K ++ [Ob.row true 8 1 (flatM (es.map E.cells))] = K at hms
  repeat refine DC.seq ?_
  refine DC.midE (fun st' => ∃ K bx, MS c H K ∧ st' = ⟨[(2, .m (.d (.int .i64 ((a + ow + sumL (es.map ePl) : Nat) : Int)))), (6, .m (.d (.pim (eqC kd lhs nm (gs.map E.cells) has (exC k0 op0 n0 s0' a0 b0) (armsC ar)) 0))), (4, .m (.d (.int .i64 ((to : Nat) : Int)))), (3, .m (.d (.int .i64 ((fr : Nat) : Int)))), (0, .m (.ref c.it 0))], bx, K⟩) ?_ ?_
  · refine DC.block ?_
    obtain ⟨QC, hQC⟩ : ∃ QC, QC = eqC kd lhs nm (gs.map E.cells) has (exC k0 op0 n0 s0' a0 b0) (armsC ar) := ⟨_, rfl⟩
    rw [← hQC]
    refine DC.loop (fun k s => ∃ (i : Nat) (bx : List (Nat × List M)) (K : Hp), s = ⟨[(66, .m (.d (.int .i64 ((i : Nat) : Int)))), (65, .m (.d (.int .i64 ((es.length : Nat) : Int)))), (64, .m (.d (.sl (es.map E.cells)))), (2, .m (.d (.int .i64 ((a + ow + sumL ((es.take i).map ePl) : Nat) : Int)))), (6, .m (.d (.pim QC 0))), (4, .m (.d (.int .i64 ((to : Nat) : Int)))), (3, .m (.d (.int .i64 ((fr : Nat) : Int)))), (0, .m (.ref c.it 0))], bx, K⟩ ∧ MS c H K ∧ i ≤ es.length ∧ k = es.length - i) es.length _
      ⟨0, _, K, rfl, hms, by omega, rfl⟩ ⟨rfl, rfl, rfl, rfl, rfl, rfl, rfl, rfl, trivial⟩ ?_
    clear hms
    rintro k s1 ⟨i, bx, K, rfl, hms, hi, rfl⟩
    repeat refine DC.seq ?_
    apply DC.regionX
    · intro s0 Oo
      refine t_int rfl rfl rfl rfl ?_
      exact TL.nil rfl
    repeat refine DC.seq ?_
    refine DC.cond rfl (fun hc => ?_) (fun hc => ?_)
    · have hc' : i < es.length := by have := of_decide_eq_true hc; omega
      clear hc
      have hget : (es.map E.cells)[((i : Nat) : Int).toNat]? = some es[i].cells := by simp [hc']
      obtain ⟨hsum, hle⟩ := sum_step ePl hc'
      obtain ⟨hwq, hp⟩ := hex _ (List.getElem_mem hc')
      generalize es[i] = q at hget hwq hp hsum
      obtain ⟨r2, K2, hms2, hc2⟩ := resetExpr_dt c fr to hto q hwq (a + ow + sumL ((es.take i).map ePl)) (by omega) K hms.mm
      obtain ⟨k1, op1, n1, s1, a1, b1, h1⟩ := q.shape
      rw [h1] at hget hc2 hp
      have hadd : ((a + ow + sumL ((es.take i).map ePl) : Nat) : Int) + ((ePl q : Nat) : Int) = ((a + ow + sumL ((es.take (i + 1)).map ePl) : Nat) : Int) := by omega
      refine DC.skip ?_
      repeat refine DC.seq ?_
      refine DC.block ?_
      repeat refine DC.seq ?_
      apply DC.regionX
      · intro s0 Oo
        refine t_indexD rfl rfl rfl (Int.natCast_nonneg i) hget rfl ?_
        refine t_loadDw rfl rfl rfl ?_
        refine t_alloc rfl rfl ?_
        refine t_storeL rfl rfl rfl rfl rfl rfl ?_
        exact TL.nil rfl
      repeat refine DC.seq ?_
      apply DC.regionX
      · intro s0 Oo
        refine t_move rfl rfl ?_
        refine t_loadLa rfl rfl rfl rfl rfl ?_
        refine t_move rfl rfl ?_
        refine t_move rfl rfl ?_
        refine t_move rfl rfl ?_
        refine t_callD hc2 rfl rfl ?_
        exact TL.nil rfl
      repeat refine DC.seq ?_
      apply DC.regionX
      · intro s0 Oo
        refine t_move rfl rfl ?_
        refine t_loadLa rfl rfl rfl rfl rfl ?_
        refine t_call1 hp rfl rfl ?_
        (refine t_add64 rfl rfl rfl (by omega) ?_; rw [hadd])
        refine t_assign rfl rfl ?_
        exact TL.nil rfl
      repeat refine DC.seq ?_
      apply DC.regionX
      · intro s0 Oo
        refine t_add64 rfl rfl rfl (by omega) ?_
        refine t_move rfl rfl ?_
        exact TL.nil rfl
      exact againD (k' := es.length - (i + 1)) (by omega) ⟨i + 1, _, K2, rfl, hms.trans hms2, by omega, rfl⟩ rfl ⟨by simp; rfl, rfl, rfl, rfl, rfl, rfl, rfl, rfl, trivial⟩
    · refine DC.exit ?_
      have hc' : i = es.length := by have := of_decide_eq_false hc; omega
      subst hc'
      rw [List.take_length]
      exact ⟨_, ⟨K, bx, hms, rfl⟩, downD rfl ⟨rfl, rfl, rfl, rfl, rfl, trivial⟩⟩
  clear hms
  rintro st' ⟨K, bx, hms, rfl⟩
  rw [hesum]
  obtain ⟨A, hA0⟩ : ∃ A, A = a + ow + (ePl ex + sumL (gs.map ePl)) := ⟨_, rfl⟩
  rw [← hA0]
  have ha : A + sumL (ar.map armPl) ≤ 1000000000 := by omega
  clear hex hecells hes hel hown hA0
  have hale : (armsC ar).length = ar.length := by rw [armsC_map]; simp
  repeat refine DC.seq ?_
  apply DC.regionX
  · intro s0 Oo
    refine t_fieldD rfl rfl ?_
    refine t_loadDc rfl rfl rfl ?_
    (refine t_lenS rfl rfl rfl ?_; rw [hale])
    refine t_move rfl rfl ?_
    exact TL.nil rfl
  refine DC.rename [(84, .m (.d (.int .i64 ((0 : Nat) : Int)))), (83, .m (.d (.int .i64 ((ar.length : Nat) : Int)))), (82, .m (.d (.sl (armsC ar)))), (2, .m (.d (.int .i64 ((A + sumL ((ar.take 0).map armPl) : Nat) : Int)))), (4, .m (.d (.int .i64 ((to : Nat) : Int)))), (3, .m (.d (.int .i64 ((fr : Nat) : Int)))), (0, .m (.ref c.it 0))] K ⟨rfl, rfl, rfl, rfl, rfl, rfl, rfl, trivial⟩ rfl ?_
  repeat refine DC.seq ?_
  refine DC.block ?_
  refine DC.loop (fun k s => ∃ (i : Nat) (bx : List (Nat × List M)) (K : Hp), s = ⟨[(84, .m (.d (.int .i64 ((i : Nat) : Int)))), (83, .m (.d (.int .i64 ((ar.length : Nat) : Int)))), (82, .m (.d (.sl (armsC ar)))), (2, .m (.d (.int .i64 ((A + sumL ((ar.take i).map armPl) : Nat) : Int)))), (4, .m (.d (.int .i64 ((to : Nat) : Int)))), (3, .m (.d (.int .i64 ((fr : Nat) : Int)))), (0, .m (.ref c.it 0))], bx, K⟩ ∧ MS c H K ∧ i ≤ ar.length ∧ k = ar.length - i) ar.length _
    ⟨0, _, K, rfl, hms, by omega, rfl⟩ ⟨rfl, rfl, rfl, rfl, rfl, rfl, rfl, trivial⟩ ?_
  clear hms
  rintro k s1 ⟨i, bx, K, rfl, hms, hi, rfl⟩
  repeat refine DC.seq ?_
  apply DC.regionX
  · intro s0 Oo
    refine t_int rfl rfl rfl rfl ?_
    exact TL.nil rfl
  repeat refine DC.seq ?_
  refine DC.cond rfl (fun hc => ?_) (fun hc => ?_)
  · have hc' : i < ar.length := by have := of_decide_eq_true hc; omega
    clear hc
    have hget : (armsC ar)[((i : Nat) : Int).toNat]? = some ar[i].cells := by rw [armsC_map]; simp [hc']
    obtain ⟨hsum, hle⟩ := sum_step armPl hc'
    have hp := hP _ (List.getElem_mem hc')
    have hAi := hA _ (List.getElem_mem hc')
    generalize ar[i] = q at hget hp hsum hAi
    rw [armPl_eq] at hsum
    obtain ⟨r2, K2, hms2, hc2⟩ := hAi (A + sumL ((ar.take i).map armPl)) (by omega) K hms.mm
    obtain ⟨an, au, aw, h1⟩ := q.shape
    rw [Blk.shape2] at h1 hp hc2
    rw [h1] at hget
    have hadd : ((A + sumL ((ar.take i).map armPl) : Nat) : Int) + ((bPl q.blk : Nat) : Int) = ((A + sumL ((ar.take (i + 1)).map armPl) : Nat) : Int) := by omega
    refine DC.skip ?_
    repeat refine DC.seq ?_
    refine DC.block ?_
    repeat refine DC.seq ?_
    apply DC.regionX
    · intro s0 Oo
      refine t_indexD rfl rfl rfl (Int.natCast_nonneg i) hget rfl ?_
      refine t_loadDw rfl rfl rfl ?_
      refine t_alloc rfl rfl ?_
      refine t_storeL rfl rfl rfl rfl rfl rfl ?_
      exact TL.nil rfl
    repeat refine DC.seq ?_
    apply DC.regionX
    · intro s0 Oo
      refine t_move rfl rfl ?_
      refine t_fieldL rfl rfl ?_
      refine t_loadLa rfl rfl rfl rfl rfl ?_
      refine t_move rfl rfl ?_
      refine t_move rfl rfl ?_
      refine t_move rfl rfl ?_
      refine t_callD hc2 rfl rfl ?_
      exact TL.nil rfl
    repeat refine DC.seq ?_
    apply DC.regionX
    · intro s0 Oo
      refine t_move rfl rfl ?_
      refine t_fieldL rfl rfl ?_
      refine t_loadLa rfl rfl rfl rfl rfl ?_
      refine t_call1 hp rfl rfl ?_
      (refine t_add64 rfl rfl rfl (by omega) ?_; rw [hadd])
      refine t_assign rfl rfl ?_
      exact TL.nil rfl
    repeat refine DC.seq ?_
    apply DC.regionX
    · intro s0 Oo
      refine t_add64 rfl rfl rfl (by omega) ?_
      refine t_move rfl rfl ?_
      exact TL.nil rfl
    exact againD (k' := ar.length - (i + 1)) (by omega) ⟨i + 1, _, K2, rfl, hms.trans hms2, by omega, rfl⟩ rfl ⟨by simp; rfl, rfl, rfl, rfl, rfl, rfl, rfl, trivial⟩
  · refine DC.exit ?_
    exact ⟨_, rfl, hms⟩
end Go.Proofs
