/- What expressions keep begins anew. -/
import Derived.Test.YtcmjcdiaidalgaaSnD
set_option linter.unusedVariables false
set_option linter.unusedSimpArgs false
set_option linter.unusedSectionVars false
namespace Go.Mt
theorem DC.midE {P : Program} {n B : Nat} {st : St} {post : Exit → St → Prop} {x y : Code} (Q : St → Prop) (ha : DC P n B x st (after post fun s => ∃ st', Q st' ∧ ∀ s0 Oo, s0.H.length ≤ B → ∀ a w, Inv ⟨P, n, s0, Oo, []⟩ s a w → Inv ⟨P, n, s0, Oo, []⟩ st' a w)) (hb : ∀ st', Q st' → DC P n B y st' post) : DC P n B x st (after post fun s => DC P n B y s post) :=
  ha.mono fun e s h => by
    cases e with
    | normal => obtain ⟨st', h1, h2⟩ := h; exact DC.weakInv _ h2 (hb st' h1)
    | _ => exact h
end Go.Mt
namespace Go.Proofs
open Go.Mt Go.Mk
set_option maxRecDepth 4000
set_option linter.unusedSimpArgs false
set_option linter.unusedVariables false

theorem resetExpr_dt (c : Mc) (fr to : Nat) (hto : to ≤ c.sz) (e : E) (hw : WE e) (a : Nat) (ha : a + ePl e ≤ 1000000000) (H : Hp) (h : MM c H) : DT Try.prog 132 [.ref c.it 0, .d (.agg e.cells), .d (.int .i64 ((a : Nat) : Int)), .d (.int .i64 ((fr : Nat) : Int)), .d (.int .i64 ((to : Nat) : Int))] H fun r K => MS c H K := by
  have hpl := ePl_eq e
  have ih : ∀ k ∈ e.kids, ∀ (a : Nat), a + ePl k ≤ 1000000000 → ∀ H, MM c H → DT Try.prog 132 [.ref c.it 0, .d (.agg k.cells), .d (.int .i64 ((a : Nat) : Int)), .d (.int .i64 ((fr : Nat) : Int)), .d (.int .i64 ((to : Nat) : Int))] H fun r K => MS c H K := fun k hk a ha H h =>
    have := E.kids_lt hk
    resetExpr_dt c fr to hto k (hw.kid hk) a ha H h
  have ihp : ∀ k ∈ e.kids, PT Try.prog 105 [.agg k.cells] (· = [.int .i64 ((ePl k : Nat) : Int)]) := fun k hk => exprP_pt k (by have := sumL_mem (List.mem_map_of_mem (f := ePl) hk); omega)
  obtain ⟨op, n, s, names, hsh⟩ := e.shape2
  have hok := own_kd e
  have hfb := fun hk => hw.fby hk
  have hkl : e.kids.length ≤ 3 := by cases e <;> simp [E.kids]
  rw [hpl] at ha
  rw [hsh]
  generalize e.kids = ks at ih ihp ha hpl hsh hkl hfb ⊢
  generalize e.own = ow at hok ha ⊢
  generalize e.kd = kd at hok hsh hfb ⊢
  refine DT.of_body Try.func132 rfl Try.ntmps132 rfl ?_
  repeat refine DC.seq ?_
  apply DC.regionX
  · intro s0 Oo
    refine t_box rfl rfl ?_
    exact TL.nil rfl
  repeat refine DC.seq ?_
  apply DC.regionX
  · intro s0 Oo
    refine t_fieldD rfl rfl ?_
    refine t_loadDc rfl rfl rfl ?_
    exact TL.nil rfl
  repeat refine DC.seq ?_
  refine DC.midE (fun st' => ∃ K, MS c H K ∧ st' = ⟨[(2, .m (.d (.int .i64 ((a + ow : Nat) : Int)))), (6, .m (.d (.pim (exC kd op n s names (ks.map E.cells)) 0))), (4, .m (.d (.int .i64 ((to : Nat) : Int)))), (3, .m (.d (.int .i64 ((fr : Nat) : Int)))), (0, .m (.ref c.it 0))], [], K⟩) ?_ ?_
  · refine DC.block ?_
    rcases hok with ⟨rfl, rfl⟩ | ⟨rfl, rfl⟩ | ⟨rfl, rfl⟩ | ⟨h1, h2, h3, rfl⟩
    · obtain ⟨k0, t0, hk0, hg0⟩ := hfb rfl
      obtain ⟨r, K, hms, hcf⟩ := first_dt c H h a fr to (by omega) hto hg0
      have hget : (ks.map E.cells)[0]? = some k0.cells := by simp [hk0]
      obtain ⟨k1, op1, n1, s1, a1, b1, h1⟩ := k0.shape
      rw [h1] at hget hcf
      repeat refine DC.seq ?_
      apply DC.regionX
      · intro s0 Oo
        refine t_int rfl rfl rfl rfl ?_
        refine t_assign rfl rfl ?_
        exact TL.nil rfl
      repeat refine DC.seq ?_
      refine DC.cond rfl (fun hc => ?_) (fun hc => by cases hc)
      repeat refine DC.seq ?_
      apply DC.regionX
      · intro s0 Oo
        refine t_move rfl rfl ?_
        refine t_move rfl rfl ?_
        refine t_fieldD rfl rfl ?_
        refine t_loadDc rfl rfl rfl ?_
        refine t_indexD rfl rfl rfl (by decide) hget rfl ?_
        refine t_loadDw rfl rfl rfl ?_
        refine t_move rfl rfl ?_
        refine t_move rfl rfl ?_
        refine t_callD hcf rfl rfl ?_
        exact TL.nil rfl
      repeat refine DC.seq ?_
      apply DC.regionX
      · intro s0 Oo
        refine t_move rfl rfl ?_
        refine t_add64 rfl rfl rfl (by omega) ?_
        refine t_assign rfl rfl ?_
        exact TL.nil rfl
      exact ⟨_, ⟨K, hms, rfl⟩, downD rfl ⟨by simp; rfl, rfl, rfl, rfl, rfl, trivial⟩⟩
    · obtain ⟨r, K, hms, hcf⟩ := first_dt c H h a fr to (by omega) hto (t := .int) (e := .int 0) (.int (by simp))
      repeat refine DC.seq ?_
      apply DC.regionX
      · intro s0 Oo
        refine t_int rfl rfl rfl rfl ?_
        refine t_assign rfl rfl ?_
        exact TL.nil rfl
      repeat refine DC.seq ?_
      refine DC.cond rfl (fun hc => by cases hc) (fun hc => ?_)
      repeat refine DC.seq ?_
      apply DC.regionX
      · intro s0 Oo
        refine t_int rfl rfl rfl rfl ?_
        refine t_assign rfl rfl ?_
        exact TL.nil rfl
      repeat refine DC.seq ?_
      refine DC.cond rfl (fun hc => ?_) (fun hc => by cases hc)
      repeat refine DC.seq ?_
      apply DC.regionX
      · intro s0 Oo
        refine t_move rfl rfl ?_
        refine t_move rfl rfl ?_
        refine t_call1 (intT_pt 0) rfl rfl ?_
        refine t_move rfl rfl ?_
        refine t_move rfl rfl ?_
        refine t_callD hcf rfl rfl ?_
        exact TL.nil rfl
      repeat refine DC.seq ?_
      apply DC.regionX
      · intro s0 Oo
        refine t_move rfl rfl ?_
        refine t_add64 rfl rfl rfl (by omega) ?_
        refine t_assign rfl rfl ?_
        exact TL.nil rfl
      exact ⟨_, ⟨K, hms, rfl⟩, downD rfl ⟨by simp; rfl, rfl, rfl, rfl, rfl, trivial⟩⟩
    · obtain ⟨r, K, hms, hcf⟩ := first_dt c H h a fr to (by omega) hto (t := .int) (e := .int 1) (.int (by simp))
      repeat refine DC.seq ?_
      apply DC.regionX
      · intro s0 Oo
        refine t_int rfl rfl rfl rfl ?_
        refine t_assign rfl rfl ?_
        exact TL.nil rfl
      repeat refine DC.seq ?_
      refine DC.cond rfl (fun hc => by cases hc) (fun hc => ?_)
      repeat refine DC.seq ?_
      apply DC.regionX
      · intro s0 Oo
        refine t_int rfl rfl rfl rfl ?_
        refine t_assign rfl rfl ?_
        exact TL.nil rfl
      repeat refine DC.seq ?_
      refine DC.cond rfl (fun hc => by cases hc) (fun hc => ?_)
      repeat refine DC.seq ?_
      apply DC.regionX
      · intro s0 Oo
        refine t_int rfl rfl rfl rfl ?_
        refine t_assign rfl rfl ?_
        exact TL.nil rfl
      repeat refine DC.seq ?_
      refine DC.cond rfl (fun hc => ?_) (fun hc => by cases hc)
      repeat refine DC.seq ?_
      apply DC.regionX
      · intro s0 Oo
        refine t_move rfl rfl ?_
        refine t_move rfl rfl ?_
        refine t_call1 (intT_pt 1) rfl rfl ?_
        refine t_move rfl rfl ?_
        refine t_move rfl rfl ?_
        refine t_callD hcf rfl rfl ?_
        exact TL.nil rfl
      repeat refine DC.seq ?_
      apply DC.regionX
      · intro s0 Oo
        refine t_move rfl rfl ?_
        refine t_add64 rfl rfl rfl (by omega) ?_
        refine t_assign rfl rfl ?_
        exact TL.nil rfl
      exact ⟨_, ⟨K, hms, rfl⟩, downD rfl ⟨by simp; rfl, rfl, rfl, rfl, rfl, trivial⟩⟩
    · have b1 : (kd == 9) = false := beq_eq_false_iff_ne.2 h1
      have b2 : (kd == 10) = false := beq_eq_false_iff_ne.2 h2
      have b3 : (kd == 11) = false := beq_eq_false_iff_ne.2 h3
      repeat refine DC.seq ?_
      apply DC.regionX
      · intro s0 Oo
        (refine t_int rfl rfl rfl (r := .bool false) (by show some (D.bool (kd == 9)) = _; rw [b1]) ?_)
        refine t_assign rfl rfl ?_
        exact TL.nil rfl
      repeat refine DC.seq ?_
      refine DC.cond rfl (fun hc => by cases hc) (fun hc => ?_)
      repeat refine DC.seq ?_
      apply DC.regionX
      · intro s0 Oo
        (refine t_int rfl rfl rfl (r := .bool false) (by show some (D.bool (kd == 10)) = _; rw [b2]) ?_)
        refine t_assign rfl rfl ?_
        exact TL.nil rfl
      repeat refine DC.seq ?_
      refine DC.cond rfl (fun hc => by cases hc) (fun hc => ?_)
      repeat refine DC.seq ?_
      apply DC.regionX
      · intro s0 Oo
        (refine t_int rfl rfl rfl (r := .bool false) (by show some (D.bool (kd == 11)) = _; rw [b3]) ?_)
        refine t_assign rfl rfl ?_
        exact TL.nil rfl
      repeat refine DC.seq ?_
      refine DC.cond rfl (fun hc => by cases hc) (fun hc => ?_)
      refine DC.skip ?_
      exact ⟨_, ⟨H, MS.refl h, rfl⟩, downD rfl ⟨rfl, rfl, rfl, rfl, rfl, trivial⟩⟩
  rintro st' ⟨K, hms, rfl⟩
  repeat refine DC.seq ?_
  apply DC.regionX
  · intro s0 Oo
    refine t_fieldD rfl rfl ?_
    refine t_loadDc rfl rfl rfl ?_
    (refine t_lenS rfl rfl rfl ?_; rw [List.length_map])
    refine t_move rfl rfl ?_
    exact TL.nil rfl
  refine DC.rename [(50, .m (.d (.int .i64 ((0 : Nat) : Int)))), (49, .m (.d (.int .i64 ((ks.length : Nat) : Int)))), (48, .m (.d (.sl (ks.map E.cells)))), (2, .m (.d (.int .i64 ((a + ow + sumL ((ks.take 0).map ePl) : Nat) : Int)))), (4, .m (.d (.int .i64 ((to : Nat) : Int)))), (3, .m (.d (.int .i64 ((fr : Nat) : Int)))), (0, .m (.ref c.it 0))] K ⟨rfl, rfl, rfl, rfl, rfl, rfl, rfl, trivial⟩ rfl ?_
  repeat refine DC.seq ?_
  refine DC.block ?_
  refine DC.loop (fun k s => ∃ (i : Nat) (bx : List (Nat × List M)) (K : Hp), s = ⟨[(50, .m (.d (.int .i64 ((i : Nat) : Int)))), (49, .m (.d (.int .i64 ((ks.length : Nat) : Int)))), (48, .m (.d (.sl (ks.map E.cells)))), (2, .m (.d (.int .i64 ((a + ow + sumL ((ks.take i).map ePl) : Nat) : Int)))), (4, .m (.d (.int .i64 ((to : Nat) : Int)))), (3, .m (.d (.int .i64 ((fr : Nat) : Int)))), (0, .m (.ref c.it 0))], bx, K⟩ ∧ MS c H K ∧ i ≤ ks.length ∧ k = ks.length - i) ks.length _
    ⟨0, _, K, rfl, hms, by omega, rfl⟩ ⟨rfl, rfl, rfl, rfl, rfl, rfl, rfl, trivial⟩ ?_
  clear hms
  rintro k s1 ⟨i, bx, K, rfl, hms, hi, rfl⟩
  repeat refine DC.seq ?_
  apply DC.regionX
  · intro s0 Oo
    refine t_int rfl rfl rfl rfl ?_
    exact TL.nil rfl
  repeat refine DC.seq ?_
  refine DC.cond rfl (fun hc => ?_) (fun hc => ?_)
  · have hc' : i < ks.length := by have := of_decide_eq_true hc; omega
    clear hc
    have hget : (ks.map E.cells)[((i : Nat) : Int).toNat]? = some ks[i].cells := by simp [hc']
    obtain ⟨hsum, hle⟩ := sum_step ePl hc'
    obtain ⟨r2, K2, hms2, hc2⟩ := ih _ (List.getElem_mem hc') (a + ow + sumL ((ks.take i).map ePl)) (by omega) K hms.mm
    have hp := ihp _ (List.getElem_mem hc')
    generalize ks[i] = q at hget hc2 hp hsum
    obtain ⟨k1, op1, n1, s1, a1, b1, h1⟩ := q.shape
    rw [h1] at hget hc2 hp
    have hadd : ((a + ow + sumL ((ks.take i).map ePl) : Nat) : Int) + ((ePl q : Nat) : Int) = ((a + ow + sumL ((ks.take (i + 1)).map ePl) : Nat) : Int) := by omega
    refine DC.skip ?_
    repeat refine DC.seq ?_
    refine DC.block ?_
    repeat refine DC.seq ?_
    apply DC.regionX
    · intro s0 Oo
      refine t_indexD rfl rfl rfl (Int.natCast_nonneg i) hget rfl ?_
      refine t_loadDw rfl rfl rfl ?_
      refine t_alloc rfl rfl ?_
      refine t_storeL rfl rfl rfl rfl rfl rfl ?_
      exact TL.nil rfl
    repeat refine DC.seq ?_
    apply DC.regionX
    · intro s0 Oo
      refine t_move rfl rfl ?_
      refine t_loadLa rfl rfl rfl rfl rfl ?_
      refine t_move rfl rfl ?_
      refine t_move rfl rfl ?_
      refine t_move rfl rfl ?_
      refine t_callD hc2 rfl rfl ?_
      exact TL.nil rfl
    repeat refine DC.seq ?_
    apply DC.regionX
    · intro s0 Oo
      refine t_move rfl rfl ?_
      refine t_loadLa rfl rfl rfl rfl rfl ?_
      refine t_call1 hp rfl rfl ?_
      (refine t_add64 rfl rfl rfl (by omega) ?_; rw [hadd])
      refine t_assign rfl rfl ?_
      exact TL.nil rfl
    repeat refine DC.seq ?_
    apply DC.regionX
    · intro s0 Oo
      refine t_add64 rfl rfl rfl (by omega) ?_
      refine t_move rfl rfl ?_
      exact TL.nil rfl
    exact againD (k' := ks.length - (i + 1)) (by omega) ⟨i + 1, _, K2, rfl, hms.trans hms2, by omega, rfl⟩ rfl ⟨by simp; rfl, rfl, rfl, rfl, rfl, rfl, rfl, trivial⟩
  · refine DC.exit ?_
    exact ⟨_, rfl, hms⟩
termination_by SizeOf.sizeOf e
end Go.Proofs
