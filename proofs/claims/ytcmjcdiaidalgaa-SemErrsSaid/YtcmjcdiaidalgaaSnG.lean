/- What blocks keep begins anew; a whole machine. -/
import Derived.Test.YtcmjcdiaidalgaaSnF
set_option linter.unusedVariables false
set_option linter.unusedSimpArgs false
set_option linter.unusedSectionVars false
namespace Go.Mk
open Go.Mt
/-- blocks whose firsts are constants -/
inductive WB : Blk → Prop where
  | mk {vars : List Va} {eqs : List Eqn} (h1 : vars.length ≤ 1000000) (h2 : eqs.length ≤ 1000000) (hv : ∀ v ∈ vars, v.last = true → ∃ t, GC t v.first) (hq : ∀ q ∈ eqs, WE q.ex ∧ (∀ e ∈ q.args, WE e) ∧ q.arms.length ≤ 1000) (h : ∀ q ∈ eqs, ∀ a ∈ q.arms, WB a.blk) : WB (.mk vars eqs)
end Go.Mk
namespace Go.Proofs
open Go.Mt Go.Mk
set_option maxRecDepth 4000
set_option linter.unusedSimpArgs false
set_option linter.unusedVariables false

theorem WB.sm {b : Blk} (h : WB b) : SmB b := by
  induction h with
  | @mk vars eqs h1 h2 hv hq h ih => exact .mk h1 h2 ih fun q hm => (hq q hm).2.2
theorem lastN_step {l : List Va} {i : Nat} (h : i < l.length) : lastN (l.take (i + 1)) = lastN (l.take i) + (if l[i].last then 1 else 0) ∧ lastN (l.take (i + 1)) ≤ lastN l := by
  refine ⟨?_, lastN_take l (i + 1)⟩
  rw [List.take_succ_eq_append_getElem h, lastN_snoc]
theorem vaC2 (w : Va) : ∃ k1 op1 n1 s1 a1 b1, w.first.cells = exC k1 op1 n1 s1 a1 b1 ∧ w.cells = [.str w.name, .int .u8 w.ty.kind, .str w.ty.nm, .sl (ckC w.clock), .bool w.last, .int .u8 k1, .int .u8 op1, .int .i32 n1, .str s1, .sl a1, .sl b1, .int .i64 0, .int .i64 0, .int .i64 0, .int .i64 0] := by
  obtain ⟨k1, op1, n1, s1, a1, b1, h1⟩ := w.first.shape
  exact ⟨_, _, _, _, _, _, h1, by rw [Va.cells, h1]; rfl⟩
theorem resetBlock_dt (c : Mc) (fr to : Nat) (hto : to ≤ c.sz) (b : Blk) (hb : WB b) : ∀ (a : Nat), a + bPl b ≤ 1000000000 → ∀ H, MM c H → DT Try.prog 76 [.ref c.it 0, .d (.agg b.cells), .d (.int .i64 ((a : Nat) : Int)), .d (.int .i64 ((fr : Nat) : Int)), .d (.int .i64 ((to : Nat) : Int))] H fun r K => MS c H K := by
  induction hb with
  | @mk vars eqs h1 h2 hv hq hw ih =>
    intro a ha H h
    have hpl := bPl_eq (.mk vars eqs)
    simp only [Blk.vars, Blk.eqs] at hpl
    rw [hpl] at ha
    have hsm : ∀ q ∈ eqs, ∀ a ∈ q.arms, bPl a.blk ≤ eqPl q := fun q hq a ham => by
      have hm2 := sumL_mem (List.mem_map_of_mem (f := armPl) ham)
      have he := eqPl_eq q
      rw [armPl_eq] at hm2
      omega
    have hP : ∀ q ∈ eqs, ∀ a ∈ q.arms, PT Try.prog 54 [.agg a.blk.cells] (· = [.int .i64 ((bPl a.blk : Nat) : Int)]) := fun q hqm a ham => by
      have hm := sumL_mem (List.mem_map_of_mem (f := eqPl) hqm)
      have := hsm q hqm a ham
      exact places_pt _ (WB.sm (hw q hqm a ham)) (by omega)
    have hE : ∀ q ∈ eqs, PT Try.prog 73 [.agg q.cells] (· = [.int .i64 ((eqPl q : Nat) : Int)]) := fun q hqm => by
      have hm := sumL_mem (List.mem_map_of_mem (f := eqPl) hqm)
      exact eqP_of q (by omega) (hq q hqm).2.2 (hP q hqm)
    have hR : ∀ q ∈ eqs, ∀ (a : Nat), a + eqPl q ≤ 1000000000 → ∀ H, MM c H → DT Try.prog 107 [.ref c.it 0, .d (.agg q.cells), .d (.int .i64 ((a : Nat) : Int)), .d (.int .i64 ((fr : Nat) : Int)), .d (.int .i64 ((to : Nat) : Int))] H fun r K => MS c H K := fun q hqm a ha H h =>
      resetEq_of c fr to hto q (hq q hqm).2.2 (hq q hqm).1 (hq q hqm).2.1 (hP q hqm) (ih q hqm) a ha H h
    clear ih hP hsm hw hq
    rw [Blk.cells]
    refine DT.of_body Try.func76 rfl Try.ntmps76 rfl ?_
    repeat refine DC.seq ?_
    apply DC.regionX
    · intro s0 Oo
      refine t_box rfl rfl ?_
      exact TL.nil rfl
    repeat refine DC.seq ?_
    apply DC.regionX
    · intro s0 Oo
      refine t_fieldD rfl rfl ?_
      refine t_loadDc rfl rfl rfl ?_
      (refine t_lenS rfl rfl rfl ?_; rw [vasC_len])
      refine t_move rfl rfl ?_
      exact TL.nil rfl
    refine DC.rename [(17, .m (.d (.int .i64 ((0 : Nat) : Int)))), (16, .m (.d (.int .i64 ((vars.length : Nat) : Int)))), (15, .m (.d (.sl (vasC vars)))), (2, .m (.d (.int .i64 ((a + lastN (vars.take 0) : Nat) : Int)))), (6, .m (.d (.pim [.sl (vasC vars), .sl (eqsC eqs)] 0))), (4, .m (.d (.int .i64 ((to : Nat) : Int)))), (3, .m (.d (.int .i64 ((fr : Nat) : Int)))), (0, .m (.ref c.it 0))] H ⟨rfl, rfl, rfl, rfl, rfl, rfl, rfl, rfl, trivial⟩ rfl ?_
    repeat refine DC.seq ?_
    refine DC.midE (fun st' => ∃ K bx, MS c H K ∧ st' = ⟨[(2, .m (.d (.int .i64 ((a + lastN vars : Nat) : Int)))), (6, .m (.d (.pim [.sl (vasC vars), .sl (eqsC eqs)] 0))), (4, .m (.d (.int .i64 ((to : Nat) : Int)))), (3, .m (.d (.int .i64 ((fr : Nat) : Int)))), (0, .m (.ref c.it 0))], bx, K⟩) ?_ ?_
    · refine DC.block ?_
      refine DC.loop (fun k s => ∃ (i : Nat) (bx : List (Nat × List M)) (K : Hp), s = ⟨[(17, .m (.d (.int .i64 ((i : Nat) : Int)))), (16, .m (.d (.int .i64 ((vars.length : Nat) : Int)))), (15, .m (.d (.sl (vasC vars)))), (2, .m (.d (.int .i64 ((a + lastN (vars.take i) : Nat) : Int)))), (6, .m (.d (.pim [.sl (vasC vars), .sl (eqsC eqs)] 0))), (4, .m (.d (.int .i64 ((to : Nat) : Int)))), (3, .m (.d (.int .i64 ((fr : Nat) : Int)))), (0, .m (.ref c.it 0))], bx, K⟩ ∧ MS c H K ∧ i ≤ vars.length ∧ k = vars.length - i) vars.length _
        ⟨0, _, H, rfl, MS.refl h, by omega, rfl⟩ ⟨rfl, rfl, rfl, rfl, rfl, rfl, rfl, rfl, trivial⟩ ?_
      rintro k s1 ⟨i, bx, K, rfl, hms, hi, rfl⟩
      repeat refine DC.seq ?_
      apply DC.regionX
      · intro s0 Oo
        refine t_int rfl rfl rfl rfl ?_
        exact TL.nil rfl
      repeat refine DC.seq ?_
      refine DC.cond rfl (fun hc => ?_) (fun hc => ?_)
      · have hc' : i < vars.length := by have := of_decide_eq_true hc; omega
        clear hc
        have hget := vasC_get hc'
        obtain ⟨hsn, hle⟩ := lastN_step hc'
        have hvi := hv _ (List.getElem_mem hc')
        generalize vars[i] = w at hget hsn hvi
        obtain ⟨k1, op1, n1, s1, a1, b1, h1, hw⟩ := vaC2 w
        rw [hw] at hget
        refine DC.skip ?_
        repeat refine DC.seq ?_
        refine DC.block ?_
        cases hlast : w.last with
        | true =>
          rw [hlast] at hget hsn
          simp only [if_true] at hsn
          obtain ⟨t, hgc⟩ := hvi hlast
          obtain ⟨r2, K2, hms2, hc2⟩ := first_dt c K hms.mm (a + lastN (vars.take i)) fr to (by omega) hto hgc
          rw [h1] at hc2
          have hadd : ((a + lastN (vars.take i) : Nat) : Int) + 1 = ((a + lastN (vars.take (i + 1)) : Nat) : Int) := by omega
          repeat refine DC.seq ?_
          apply DC.regionX
          · intro s0 Oo
            refine t_indexD rfl rfl rfl (Int.natCast_nonneg i) hget rfl ?_
            refine t_loadDw rfl rfl rfl ?_
            refine t_alloc rfl rfl ?_
            refine t_storeL rfl rfl rfl rfl rfl rfl ?_
            exact TL.nil rfl
          repeat refine DC.seq ?_
          apply DC.regionX
          · intro s0 Oo
            refine t_fieldL rfl rfl ?_
            refine t_loadLc rfl rfl rfl rfl ?_
            exact TL.nil rfl
          repeat refine DC.seq ?_
          refine DC.cond rfl (fun hc => ?_) (fun hc => by cases hc)
          repeat refine DC.seq ?_
          apply DC.regionX
          · intro s0 Oo
            refine t_move rfl rfl ?_
            refine t_move rfl rfl ?_
            refine t_fieldL rfl rfl ?_
            refine t_loadLa rfl rfl rfl rfl rfl ?_
            refine t_move rfl rfl ?_
            refine t_move rfl rfl ?_
            refine t_callD hc2 rfl rfl ?_
            exact TL.nil rfl
          repeat refine DC.seq ?_
          apply DC.regionX
          · intro s0 Oo
            refine t_move rfl rfl ?_
            (refine t_add64 rfl rfl rfl (by omega) ?_; rw [hadd])
            refine t_assign rfl rfl ?_
            exact TL.nil rfl
          repeat refine DC.seq ?_
          apply DC.regionX
          · intro s0 Oo
            refine t_add64 rfl rfl rfl (by omega) ?_
            refine t_move rfl rfl ?_
            exact TL.nil rfl
          exact againD (k' := vars.length - (i + 1)) (by omega) ⟨i + 1, _, K2, rfl, hms.trans hms2, by omega, rfl⟩ rfl ⟨by simp; rfl, rfl, rfl, rfl, rfl, rfl, rfl, rfl, trivial⟩
        | false =>
          rw [hlast] at hget hsn
          simp only [Bool.false_eq_true, if_false, Nat.add_zero] at hsn
          repeat refine DC.seq ?_
          apply DC.regionX
          · intro s0 Oo
            refine t_indexD rfl rfl rfl (Int.natCast_nonneg i) hget rfl ?_
            refine t_loadDw rfl rfl rfl ?_
            refine t_alloc rfl rfl ?_
            refine t_storeL rfl rfl rfl rfl rfl rfl ?_
            exact TL.nil rfl
          repeat refine DC.seq ?_
          apply DC.regionX
          · intro s0 Oo
            refine t_fieldL rfl rfl ?_
            refine t_loadLc rfl rfl rfl rfl ?_
            exact TL.nil rfl
          repeat refine DC.seq ?_
          refine DC.cond rfl (fun hc => by cases hc) (fun hc => ?_)
          refine DC.skip ?_
          repeat refine DC.seq ?_
          apply DC.regionX
          · intro s0 Oo
            refine t_add64 rfl rfl rfl (by omega) ?_
            refine t_move rfl rfl ?_
            exact TL.nil rfl
          exact againD (k' := vars.length - (i + 1)) (by omega) ⟨i + 1, _, K, rfl, hms, by omega, rfl⟩ rfl ⟨by simp; rfl, rfl, rfl, by rw [hsn]; rfl, rfl, rfl, rfl, rfl, trivial⟩
      · refine DC.exit ?_
        have hc' : i = vars.length := by have := of_decide_eq_false hc; omega
        subst hc'
        rw [List.take_length]
        exact ⟨_, ⟨K, bx, hms, rfl⟩, downD rfl ⟨rfl, rfl, rfl, rfl, rfl, trivial⟩⟩
    rintro st' ⟨K, bx, hms, rfl⟩
    obtain ⟨A, hA0⟩ : ∃ A, A = a + lastN vars := ⟨_, rfl⟩
    rw [← hA0]
    have ha : A + sumL (eqs.map eqPl) ≤ 1000000000 := by omega
    clear hA0
    have hqle : (eqsC eqs).length = eqs.length := by rw [eqsC_map]; simp
    repeat refine DC.seq ?_
    apply DC.regionX
    · intro s0 Oo
      refine t_fieldD rfl rfl ?_
      refine t_loadDc rfl rfl rfl ?_
      (refine t_lenS rfl rfl rfl ?_; rw [hqle])
      refine t_move rfl rfl ?_
      exact TL.nil rfl
    refine DC.rename [(36, .m (.d (.int .i64 ((0 : Nat) : Int)))), (35, .m (.d (.int .i64 ((eqs.length : Nat) : Int)))), (34, .m (.d (.sl (eqsC eqs)))), (2, .m (.d (.int .i64 ((A + sumL ((eqs.take 0).map eqPl) : Nat) : Int)))), (4, .m (.d (.int .i64 ((to : Nat) : Int)))), (3, .m (.d (.int .i64 ((fr : Nat) : Int)))), (0, .m (.ref c.it 0))] K ⟨rfl, rfl, rfl, rfl, rfl, rfl, rfl, trivial⟩ rfl ?_
    repeat refine DC.seq ?_
    refine DC.block ?_
    refine DC.loop (fun k s => ∃ (i : Nat) (bx : List (Nat × List M)) (K : Hp), s = ⟨[(36, .m (.d (.int .i64 ((i : Nat) : Int)))), (35, .m (.d (.int .i64 ((eqs.length : Nat) : Int)))), (34, .m (.d (.sl (eqsC eqs)))), (2, .m (.d (.int .i64 ((A + sumL ((eqs.take i).map eqPl) : Nat) : Int)))), (4, .m (.d (.int .i64 ((to : Nat) : Int)))), (3, .m (.d (.int .i64 ((fr : Nat) : Int)))), (0, .m (.ref c.it 0))], bx, K⟩ ∧ MS c H K ∧ i ≤ eqs.length ∧ k = eqs.length - i) eqs.length _
      ⟨0, _, K, rfl, hms, by omega, rfl⟩ ⟨rfl, rfl, rfl, rfl, rfl, rfl, rfl, trivial⟩ ?_
    clear hms
    rintro k s1 ⟨i, bx, K, rfl, hms, hi, rfl⟩
    repeat refine DC.seq ?_
    apply DC.regionX
    · intro s0 Oo
      refine t_int rfl rfl rfl rfl ?_
      exact TL.nil rfl
    repeat refine DC.seq ?_
    refine DC.cond rfl (fun hc => ?_) (fun hc => ?_)
    · have hc' : i < eqs.length := by have := of_decide_eq_true hc; omega
      clear hc
      have hget : (eqsC eqs)[((i : Nat) : Int).toNat]? = some eqs[i].cells := by rw [eqsC_map]; simp [hc']
      obtain ⟨hsum, hle⟩ := sum_step eqPl hc'
      have hp := hE _ (List.getElem_mem hc')
      have hr := hR _ (List.getElem_mem hc')
      generalize eqs[i] = q at hget hp hsum hr
      obtain ⟨r2, K2, hms2, hc2⟩ := hr (A + sumL ((eqs.take i).map eqPl)) (by omega) K hms.mm
      obtain ⟨lhs, nm, has, h1⟩ := q.shape
      obtain ⟨k1, op1, n1, s1, a1, b1, h2⟩ := q.ex.shape
      rw [h2] at h1
      rw [h1] at hget hc2 hp
      have hadd : ((A + sumL ((eqs.take i).map eqPl) : Nat) : Int) + ((eqPl q : Nat) : Int) = ((A + sumL ((eqs.take (i + 1)).map eqPl) : Nat) : Int) := by omega
      refine DC.skip ?_
      repeat refine DC.seq ?_
      refine DC.block ?_
      repeat refine DC.seq ?_
      apply DC.regionX
      · intro s0 Oo
        refine t_indexD rfl rfl rfl (Int.natCast_nonneg i) hget rfl ?_
        refine t_loadDw rfl rfl rfl ?_
        refine t_alloc rfl rfl ?_
        refine t_storeL rfl rfl rfl rfl rfl rfl ?_
        exact TL.nil rfl
      repeat refine DC.seq ?_
      apply DC.regionX
      · intro s0 Oo
        refine t_move rfl rfl ?_
        refine t_loadLa rfl rfl rfl rfl rfl ?_
        refine t_move rfl rfl ?_
        refine t_move rfl rfl ?_
        refine t_move rfl rfl ?_
        refine t_callD hc2 rfl rfl ?_
        exact TL.nil rfl
      repeat refine DC.seq ?_
      apply DC.regionX
      · intro s0 Oo
        refine t_move rfl rfl ?_
        refine t_loadLa rfl rfl rfl rfl rfl ?_
        refine t_call1 hp rfl rfl ?_
        (refine t_add64 rfl rfl rfl (by omega) ?_; rw [hadd])
        refine t_assign rfl rfl ?_
        exact TL.nil rfl
      repeat refine DC.seq ?_
      apply DC.regionX
      · intro s0 Oo
        refine t_add64 rfl rfl rfl (by omega) ?_
        refine t_move rfl rfl ?_
        exact TL.nil rfl
      exact againD (k' := eqs.length - (i + 1)) (by omega) ⟨i + 1, _, K2, rfl, hms.trans hms2, by omega, rfl⟩ rfl ⟨by simp; rfl, rfl, rfl, rfl, rfl, rfl, rfl, trivial⟩
    · refine DC.exit ?_
      exact ⟨_, rfl, hms⟩
theorem reset_dt (c : Mc) (fr to : Nat) (hto : to ≤ c.sz) (hb : WB c.b) (ho : c.outs.length ≤ 1000000) (hv : ∀ v ∈ c.outs, v.last = true → ∃ t, GC t v.first) (hsz : bPl c.b ≤ 1000000000) (H : Hp) (h : MM c H) : DT Try.prog 56 [.ref c.it 0, .d (.int .i64 ((fr : Nat) : Int)), .d (.int .i64 ((to : Nat) : Int))] H fun r K => MS c H K := by
  have hp := places_pt c.b (WB.sm hb) hsz
  rw [Blk.shape2] at hp
  have hlle : ∀ i, lastN (c.outs.take i) ≤ 1000000 := fun i => by
    have h1 := lastN_take c.outs i
    have h2 : lastN c.outs ≤ c.outs.length := List.length_filter_le _ _
    omega
  refine DT.of_body Try.func56 rfl Try.ntmps56 rfl ?_
  repeat refine DC.seq ?_
  apply DC.regionX
  · intro s0 Oo
    refine t_move rfl rfl ?_
    refine t_nilCheck rfl rfl rfl ?_
    refine t_fieldR rfl rfl ?_
    refine t_loadRc rfl rfl h.inst rfl ?_
    refine t_nilCheck rfl rfl rfl ?_
    refine t_fieldR rfl rfl ?_
    refine t_fieldR rfl rfl ?_
    refine t_loadRa rfl rfl h.unit rfl rfl ?_
    refine t_call1 hp rfl rfl ?_
    refine t_assign rfl rfl ?_
    exact TL.nil rfl
  repeat refine DC.seq ?_
  apply DC.regionX
  · intro s0 Oo
    refine t_move rfl rfl ?_
    refine t_nilCheck rfl rfl rfl ?_
    refine t_fieldR rfl rfl ?_
    refine t_loadRc rfl rfl h.inst rfl ?_
    refine t_nilCheck rfl rfl rfl ?_
    refine t_fieldR rfl rfl ?_
    refine t_fieldR rfl rfl ?_
    refine t_loadRc rfl rfl h.unit rfl ?_
    (refine t_lenS rfl rfl rfl ?_; rw [vasC_len])
    refine t_move rfl rfl ?_
    exact TL.nil rfl
  refine DC.rename [(27, .m (.d (.int .i64 ((0 : Nat) : Int)))), (26, .m (.d (.int .i64 ((c.outs.length : Nat) : Int)))), (25, .m (.d (.sl (vasC c.outs)))), (6, .m (.d (.int .i64 ((bPl c.b + lastN (c.outs.take 0) : Nat) : Int)))), (2, .m (.d (.int .i64 ((to : Nat) : Int)))), (1, .m (.d (.int .i64 ((fr : Nat) : Int)))), (0, .m (.ref c.it 0))] H ⟨rfl, rfl, rfl, rfl, rfl, rfl, rfl, trivial⟩ rfl ?_
  repeat refine DC.seq ?_
  refine DC.midE (fun st' => ∃ K bx, MS c H K ∧ st' = ⟨[(2, .m (.d (.int .i64 ((to : Nat) : Int)))), (1, .m (.d (.int .i64 ((fr : Nat) : Int)))), (0, .m (.ref c.it 0))], bx, K⟩) ?_ ?_
  · refine DC.block ?_
    refine DC.loop (fun k s => ∃ (i : Nat) (bx : List (Nat × List M)) (K : Hp), s = ⟨[(27, .m (.d (.int .i64 ((i : Nat) : Int)))), (26, .m (.d (.int .i64 ((c.outs.length : Nat) : Int)))), (25, .m (.d (.sl (vasC c.outs)))), (6, .m (.d (.int .i64 ((bPl c.b + lastN (c.outs.take i) : Nat) : Int)))), (2, .m (.d (.int .i64 ((to : Nat) : Int)))), (1, .m (.d (.int .i64 ((fr : Nat) : Int)))), (0, .m (.ref c.it 0))], bx, K⟩ ∧ MS c H K ∧ i ≤ c.outs.length ∧ k = c.outs.length - i) c.outs.length _
      ⟨0, _, H, rfl, MS.refl h, by omega, rfl⟩ ⟨rfl, rfl, rfl, rfl, rfl, rfl, rfl, trivial⟩ ?_
    rintro k s1 ⟨i, bx, K, rfl, hms, hi, rfl⟩
    repeat refine DC.seq ?_
    apply DC.regionX
    · intro s0 Oo
      refine t_int rfl rfl rfl rfl ?_
      exact TL.nil rfl
    repeat refine DC.seq ?_
    refine DC.cond rfl (fun hc => ?_) (fun hc => ?_)
    · have hc' : i < c.outs.length := by have := of_decide_eq_true hc; omega
      clear hc
      have hget := vasC_get hc'
      obtain ⟨hsn, hle⟩ := lastN_step hc'
      have hl1 := hlle i
      have hvi := hv _ (List.getElem_mem hc')
      generalize c.outs[i] = w at hget hsn hvi
      obtain ⟨k1, op1, n1, s1, a1, b1, h1, hw⟩ := vaC2 w
      rw [hw] at hget
      refine DC.skip ?_
      repeat refine DC.seq ?_
      refine DC.block ?_
      cases hlast : w.last with
      | true =>
        rw [hlast] at hget hsn
        simp only [if_true] at hsn
        obtain ⟨t, hgc⟩ := hvi hlast
        obtain ⟨r2, K2, hms2, hc2⟩ := first_dt c K hms.mm (bPl c.b + lastN (c.outs.take i)) fr to (by omega) hto hgc
        rw [h1] at hc2
        have hadd : ((bPl c.b + lastN (c.outs.take i) : Nat) : Int) + 1 = ((bPl c.b + lastN (c.outs.take (i + 1)) : Nat) : Int) := by omega
        repeat refine DC.seq ?_
        apply DC.regionX
        · intro s0 Oo
          refine t_indexD rfl rfl rfl (Int.natCast_nonneg i) hget rfl ?_
          refine t_loadDw rfl rfl rfl ?_
          refine t_alloc rfl rfl ?_
          refine t_storeL rfl rfl rfl rfl rfl rfl ?_
          exact TL.nil rfl
        repeat refine DC.seq ?_
        apply DC.regionX
        · intro s0 Oo
          refine t_fieldL rfl rfl ?_
          refine t_loadLc rfl rfl rfl rfl ?_
          exact TL.nil rfl
        repeat refine DC.seq ?_
        refine DC.cond rfl (fun hc => ?_) (fun hc => by cases hc)
        repeat refine DC.seq ?_
        apply DC.regionX
        · intro s0 Oo
          refine t_move rfl rfl ?_
          refine t_move rfl rfl ?_
          refine t_fieldL rfl rfl ?_
          refine t_loadLa rfl rfl rfl rfl rfl ?_
          refine t_move rfl rfl ?_
          refine t_move rfl rfl ?_
          refine t_callD hc2 rfl rfl ?_
          exact TL.nil rfl
        repeat refine DC.seq ?_
        apply DC.regionX
        · intro s0 Oo
          refine t_move rfl rfl ?_
          (refine t_add64 rfl rfl rfl (by omega) ?_; rw [hadd])
          refine t_assign rfl rfl ?_
          exact TL.nil rfl
        repeat refine DC.seq ?_
        apply DC.regionX
        · intro s0 Oo
          refine t_add64 rfl rfl rfl (by omega) ?_
          refine t_move rfl rfl ?_
          exact TL.nil rfl
        exact againD (k' := c.outs.length - (i + 1)) (by omega) ⟨i + 1, _, K2, rfl, hms.trans hms2, by omega, rfl⟩ rfl ⟨by simp; rfl, rfl, rfl, rfl, rfl, rfl, rfl, trivial⟩
      | false =>
        rw [hlast] at hget hsn
        simp only [Bool.false_eq_true, if_false, Nat.add_zero] at hsn
        repeat refine DC.seq ?_
        apply DC.regionX
        · intro s0 Oo
          refine t_indexD rfl rfl rfl (Int.natCast_nonneg i) hget rfl ?_
          refine t_loadDw rfl rfl rfl ?_
          refine t_alloc rfl rfl ?_
          refine t_storeL rfl rfl rfl rfl rfl rfl ?_
          exact TL.nil rfl
        repeat refine DC.seq ?_
        apply DC.regionX
        · intro s0 Oo
          refine t_fieldL rfl rfl ?_
          refine t_loadLc rfl rfl rfl rfl ?_
          exact TL.nil rfl
        repeat refine DC.seq ?_
        refine DC.cond rfl (fun hc => by cases hc) (fun hc => ?_)
        refine DC.skip ?_
        repeat refine DC.seq ?_
        apply DC.regionX
        · intro s0 Oo
          refine t_add64 rfl rfl rfl (by omega) ?_
          refine t_move rfl rfl ?_
          exact TL.nil rfl
        exact againD (k' := c.outs.length - (i + 1)) (by omega) ⟨i + 1, _, K, rfl, hms, by omega, rfl⟩ rfl ⟨by simp; rfl, rfl, rfl, by rw [hsn]; rfl, rfl, rfl, rfl, trivial⟩
    · refine DC.exit ?_
      exact ⟨_, ⟨K, bx, hms, rfl⟩, downD rfl ⟨rfl, rfl, rfl, trivial⟩⟩
  rintro st' ⟨K, bx, hms, rfl⟩
  obtain ⟨r2, K2, hms2, hc2⟩ := resetBlock_dt c fr to hto c.b hb 0 (by omega) K hms.mm
  rw [Blk.shape2] at hc2
  repeat refine DC.seq ?_
  apply DC.regionX
  · intro s0 Oo
    refine t_move rfl rfl ?_
    refine t_move rfl rfl ?_
    refine t_nilCheck rfl rfl rfl ?_
    refine t_fieldR rfl rfl ?_
    refine t_loadRc rfl rfl hms.mm.inst rfl ?_
    refine t_nilCheck rfl rfl rfl ?_
    refine t_fieldR rfl rfl ?_
    refine t_fieldR rfl rfl ?_
    refine t_loadRa rfl rfl hms.mm.unit rfl rfl ?_
    refine t_move rfl rfl ?_
    refine t_move rfl rfl ?_
    refine t_callD hc2 rfl rfl ?_
    exact TL.nil rfl
  exact ⟨_, rfl, hms.trans hms2⟩
end Go.Proofs
