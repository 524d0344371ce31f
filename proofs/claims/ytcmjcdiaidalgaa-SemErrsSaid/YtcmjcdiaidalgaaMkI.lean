/- Automata. (Printed by gen_MkI.py.) -/
import Derived.Test.YtcmjcdiaidalgaaMkH
set_option linter.unusedVariables false
set_option linter.unusedSimpArgs false
set_option linter.unusedSectionVars false
namespace Go.Proofs
open Go.Mt Go.Mk
set_option maxRecDepth 4000
set_option linter.unusedSimpArgs false
set_option linter.unusedVariables false

abbrev auC (m : M) : List M := [.d (.int .u8 4), .d (.sl []), .d (.str ⟨#[]⟩), .d (.sl []), .d (.bool false), .d (.int .u8 0), .d (.int .u8 0), .d (.int .i32 0), .d (.str ⟨#[]⟩), .d (.sl []), .d (.sl []), .d (.int .i64 0), .d (.int .i64 0), m, .d (.int .i64 0), .d (.int .i64 0)]
section
variable {zs : List Int} {v : D} (ht : Tape zs v) (subs : Nat) (main : Bool)
include ht
theorem auto_dt (d : Nat) (hd : d ≤ 2) (ihB : BlockOk zs v subs main d) (s : Sc) (hs : ScC (800 - 200 * d) s) (outs : List Va) (ho : outs.length ≤ 3) (g : GS) (hg : g.i ≤ zs.length) (hn : g.n ≤ 3 * g.i) (hq0 : 0 < g.q) (hq1 : g.q ≤ 14) :
    DT Try.prog 101 [.ref 1 0, .d (.agg s.cells), .d (.sl (vasC outs)), .d (.int .i64 ((d + 1 : Nat) : Int))] (GH v subs main g) fun r K => ∃ (q : Eqn) (g' : GS), r = .d (.agg q.cells) ∧ K = GH v subs main g' ∧ GQ (GB subs d) subs s outs g.n g'.n [q] [] ∧ Bm zs (3 * qB d) g g' := by
  obtain ⟨r0, K0, ⟨j, g0, rfl, rfl, hr⟩, hc0⟩ := next_dt ht subs main 3 (by omega) (by omega) g hg
  have hj := hr.lt
  have hm01 := hr.mv
  have hsb := hs.b (by omega)
  have hW := qB_le2 d hd
  have hdd : ((d + 1 : Nat) : Int) - 1 = (d : Int) := by omega
  have hdb : (d : Int) ≤ 2 := by omega
  have hNe : 1 + ((j : Nat) : Int) = ((j + 1 : Nat) : Int) := by omega
  refine DT.drop 2 (Nat.le_refl _) ?_
  refine DT.of_body Try.func101 rfl Try.ntmps101 rfl ?_
  repeat refine DC.seq ?_
  apply DC.regionX
  · intro s0 Oo
    refine t_box rfl rfl ?_
    refine t_alloc rfl rfl ?_
    exact TL.nil rfl
  repeat refine DC.seq ?_
  apply DC.regionX
  · intro s0 Oo
    refine t_build rfl rfl rfl rfl rfl ?_
    refine t_alloc rfl rfl ?_
    refine t_storeL rfl rfl rfl rfl rfl rfl ?_
    exact TL.nil rfl
  repeat refine DC.seq ?_
  apply DC.regionX
  · intro s0 Oo
    refine t_move rfl rfl ?_
    refine t_nilCheck rfl rfl rfl ?_
    refine t_fieldR rfl rfl ?_
    refine t_loadRc rfl rfl rfl rfl ?_
    refine t_callD hc0 rfl rfl ?_
    (refine t_add64 rfl rfl rfl (by omega) ?_; rw [hNe])
    refine t_assign rfl rfl ?_
    exact TL.nil rfl
  clear hc0
  generalize hNN : j + 1 = N
  have hN : 1 ≤ N ∧ N ≤ 3 := by omega
  repeat refine DC.seq ?_
  apply DC.regionX
  · intro s0 Oo
    refine t_assign rfl rfl ?_
    exact TL.nil rfl
  refine DC.renameB [(11, .m (.d (.int .i64 ((0 : Nat) : Int)))), (10, .m (.d (.int .i64 ((N : Nat) : Int)))), (9, .loc 9 0), (8, .loc 8 0), (5, .m (.d (.pim s.cells 0))), (3, .m (.d (.int .i64 ((d + 1 : Nat) : Int)))), (2, .m (.d (.sl (vasC outs)))), (0, .m (.ref 1 0))]
    [(9, auC (genM 2 (armsC []))), (8, swZ)] (genH (GH v subs main g0) 7 (armsC [])) ⟨rfl, rfl, rfl, rfl, rfl, rfl, rfl, rfl, trivial⟩ (by intro t; simp only [Go.Mt.get]; cases Nat.beq 9 t <;> cases Nat.beq 8 t <;> rfl) rfl ?_
  repeat refine DC.seq ?_
  refine DC.block ?_
  refine DC.loop (fun k s2 => ∃ (i : Nat) (arms : List Arm) (g' : GS) (bx : List (Nat × List M)), s2 = ⟨[(11, .m (.d (.int .i64 (i : Int)))), (10, .m (.d (.int .i64 ((N : Nat) : Int)))), (9, .loc 9 0), (8, .loc 8 0), (5, .m (.d (.pim s.cells 0))), (3, .m (.d (.int .i64 ((d + 1 : Nat) : Int)))), (2, .m (.d (.sl (vasC outs)))), (0, .m (.ref 1 0))], bx, genH (GH v subs main g') 7 (armsC arms)⟩ ∧ Go.Mt.get bx 9 = some (auC (genM 2 (armsC arms))) ∧ Go.Mt.get bx 8 = some swZ ∧ i ≤ N ∧ arms.length = i ∧ GSts (GB subs d) s outs N g.n arms g'.n ∧ (g.i ≤ g'.i ∧ g'.i ≤ zs.length ∧ g.n ≤ g'.n ∧ g'.n ≤ 3 * g'.i ∧ -(ws (qB d) i) ≤ g'.q ∧ g'.q ≤ g.q) ∧ k = N - i) N _
    ⟨0, [], g0, _, rfl, rfl, rfl, by omega, rfl, by have h := hm01.n; rw [h]; exact .nil, ⟨hm01.i, hm01.le, by rw [hm01.n]; exact Nat.le_refl _, by have := hm01.n; have := hm01.i; omega, by have := hm01.q; simp only [ws]; omega, by rw [hm01.q]; exact Int.le_refl _⟩, rfl⟩ ⟨rfl, rfl, rfl, rfl, rfl, rfl, rfl, rfl, trivial⟩ ?_
  rintro k s2 ⟨i, arms, g2, bx, rfl, hb9, hb8, hi, hal, hga, ⟨b1', b2, b3, b4, b5, b6⟩, rfl⟩
  repeat refine DC.seq ?_
  apply DC.regionX
  · intro s0 Oo
    refine t_move rfl rfl ?_
    refine t_move rfl rfl ?_
    refine t_int rfl rfl rfl rfl ?_
    exact TL.nil rfl
  repeat refine DC.seq ?_
  refine DC.cond rfl (fun hc => ?_) (fun hc => ?_)
  · have hc' : i < N := by have := of_decide_eq_true hc; omega
    clear hc
    have hws := ws_le hW.1 i (by omega)
    have hdl : decide ((i : Int) > 0) = decide (0 < i) := by rw [decide_eq_decide]; omega
    have hdg := digits_pt (i + 1) i (by omega) (by omega)
    have hds := dg_size i
    refine DC.skip ?_
    repeat refine DC.seq ?_
    refine DC.block ?_
    rcases Nat.eq_zero_or_pos i with h0 | h0
    · skip
      have hls : LS outs outs := LS.refl _
      have hm4 : Mv zs g2 g2 := ⟨rfl, rfl, Nat.le_refl _, b2⟩
      have hll := hls.len
      obtain ⟨r5, K5, ⟨unl, g5, rfl, rfl, hm5, hwu⟩, hc5⟩ := ways_dt ht subs main s hsb N hN g2 hm4.le
      have hcu := genCall (by rfl) hc5 7 (armsC arms)
      obtain ⟨r3, K3, ⟨b, g3, rfl, rfl, hgb, hbm⟩, hc3⟩ := ihB s.arm hs.arm outs (by omega) g5 hm5.le (by have := hm4.n; have := hm4.i; have := hm5.n; have := hm5.i; omega) (by have := hm4.q; have := hm5.q; omega) (by have := hm4.q; have := hm5.q; omega)
      obtain ⟨bv, bq, hb⟩ := b.shape
      have hcb := genCall (by rfl) hc3 7 (armsC arms)
      rw [hb] at hcb
      have hmore := more_pt s outs (by have := hs.ready; omega) (by omega)
      obtain ⟨r6, K6, ⟨unt, g6, rfl, rfl, hm6, hwt⟩, hc6⟩ := ways_dt ht subs main (s.more outs) ⟨by have := hs.ready; simp only [Sc.more, List.length_append]; omega, by have := hs.all; simp only [Sc.more]; omega, by have := hs.lasts; simp only [Sc.more]; omega⟩ N hN g3 hbm.le
      have hct := genCall (by rfl) hc6 7 (armsC arms)
      have hv1 : armsC (arms ++ [.mk (nm 83 arms.length) b unl unt]) = armsC arms ++ [[.str (⟨#[83]⟩ ++ dg i), .sl bv, .sl bq, .sl (trsC unl), .sl (trsC unt), .int .i64 0, .int .i64 0]] := by rw [armsC_snoc, Arm.cells, hb, hal]; rfl
      repeat refine DC.seq ?_
      apply DC.regionX
      · intro s0 Oo
        refine t_move rfl rfl ?_
        refine t_assign rfl rfl ?_
        exact TL.nil rfl
      repeat refine DC.seq ?_
      apply DC.regionX
      · intro s0 Oo
        refine t_move rfl rfl ?_
        (refine t_int rfl rfl rfl (r := .bool false) (by show some (D.bool (decide _)) = _; rw [hdl, decide_eq_false (by omega)]) ?_)
        exact TL.nil rfl
      repeat refine DC.seq ?_
      refine DC.cond rfl (fun hc => by cases hc) (fun hc => ?_)
      refine DC.skip ?_
      repeat refine DC.seq ?_
      apply DC.regionX
      · intro s0 Oo
        refine t_move rfl rfl ?_
        refine t_call1 hdg rfl rfl ?_
        refine t_stradd rfl rfl rfl (by have : (⟨#[83]⟩ : ByteArray).size = 1 := rfl; omega) ?_
        refine t_build rfl rfl rfl rfl rfl ?_
        refine t_alloc rfl rfl ?_
        refine t_storeL rfl rfl rfl rfl rfl rfl ?_
        exact TL.nil rfl
      repeat refine DC.seq ?_
      apply DC.regionX
      · intro s0 Oo
        refine t_move rfl rfl ?_
        refine t_loadDw rfl rfl rfl ?_
        refine t_move rfl rfl ?_
        refine t_callD hcu rfl rfl ?_
        refine t_fieldL rfl rfl ?_
        refine t_storeL rfl rfl rfl rfl rfl rfl ?_
        exact TL.nil rfl
      repeat refine DC.seq ?_
      apply DC.regionX
      · intro s0 Oo
        refine t_move rfl rfl ?_
        refine t_fieldD rfl rfl ?_
        refine t_loadDc rfl rfl rfl ?_
        refine t_fieldD rfl rfl ?_
        refine t_loadDc rfl rfl rfl ?_
        refine t_build rfl rfl rfl rfl rfl ?_
        refine t_move rfl rfl ?_
        refine t_move rfl rfl ?_
        (refine t_sub64 rfl rfl rfl (by omega) ?_; rw [hdd])
        refine t_callD hcb rfl rfl ?_
        refine t_fieldL rfl rfl ?_
        refine t_storeL rfl rfl rfl rfl rfl rfl ?_
        exact TL.nil rfl
      repeat refine DC.seq ?_
      apply DC.regionX
      · intro s0 Oo
        refine t_move rfl rfl ?_
        refine t_loadDw rfl rfl rfl ?_
        refine t_move rfl rfl ?_
        refine t_call1 hmore rfl rfl ?_
        refine t_move rfl rfl ?_
        refine t_callD hct rfl rfl ?_
        refine t_fieldL rfl rfl ?_
        refine t_storeL rfl rfl rfl rfl rfl rfl ?_
        exact TL.nil rfl
      repeat refine DC.seq ?_
      apply DC.regionX
      · intro s0 Oo
        refine t_fieldL rfl rfl ?_
        refine t_loadLc rfl rfl hb9 rfl ?_
        refine t_loadLa rfl rfl rfl rfl rfl ?_
        refine t_buildSlice rfl rfl rfl rfl rfl rfl rfl rfl ?_
        refine t_snoc (H0 := GH v subs main g6) rfl rfl rfl rfl (by rfl) rfl (by rw [armsC_len]; omega) (by rw [armsC_len]; omega) ?_
        refine t_fieldL rfl rfl ?_
        refine t_storeL rfl rfl hb9 (cells_gen _ _) rfl rfl ?_
        exact TL.nil rfl
      repeat refine DC.seq ?_
      apply DC.regionX
      · intro s0 Oo
        refine t_move rfl rfl ?_
        refine t_add64 rfl rfl rfl (by omega) ?_
        refine t_assign rfl rfl ?_
        exact TL.nil rfl
      exact againD (k' := N - (i + 1)) (by omega) ⟨i + 1, arms ++ [.mk (nm 83 arms.length) b unl unt], g6, _, rfl, by rw [hv1]; rfl, hb8, by omega, by simp [hal], by
        have h6 := hm6.n
        rw [h6]
        refine .snoc hga outs hls (fun _ => rfl) unl hwu b ?_ unt hwt
        have e1 := hm4.n
        have e2 := hm5.n
        rw [← e1, ← e2]; exact hgb, ⟨by have := hbm.i; have := hm4.i; have := hm5.i; have := hm6.i; omega, hm6.le, by have := hbm.n; have := hm4.n; have := hm5.n; have := hm6.n; omega, by have := hbm.pay; have := hm6.n; have := hm6.i; omega, by have := hbm.q0; have := hm4.q; have := hm5.q; have := hm6.q; simp only [ws]; omega, by have := hbm.q1; have := hm4.q; have := hm5.q; have := hm6.q; omega⟩, rfl⟩ (by rw [hv1]; rfl) ⟨by simp; rfl, rfl, rfl, rfl, rfl, rfl, rfl, rfl, trivial⟩
    · skip
      obtain ⟨r4, K4, ⟨l, g4, rfl, rfl, hm4, hls⟩, hc4⟩ := less_dt ht subs main outs (by omega) g2 b2
      have hcl := genCall (by rfl) hc4 7 (armsC arms)
      have hll := hls.len
      obtain ⟨r5, K5, ⟨unl, g5, rfl, rfl, hm5, hwu⟩, hc5⟩ := ways_dt ht subs main s hsb N hN g4 hm4.le
      have hcu := genCall (by rfl) hc5 7 (armsC arms)
      obtain ⟨r3, K3, ⟨b, g3, rfl, rfl, hgb, hbm⟩, hc3⟩ := ihB s.arm hs.arm l (by omega) g5 hm5.le (by have := hm4.n; have := hm4.i; have := hm5.n; have := hm5.i; omega) (by have := hm4.q; have := hm5.q; omega) (by have := hm4.q; have := hm5.q; omega)
      obtain ⟨bv, bq, hb⟩ := b.shape
      have hcb := genCall (by rfl) hc3 7 (armsC arms)
      rw [hb] at hcb
      have hmore := more_pt s l (by have := hs.ready; omega) (by omega)
      obtain ⟨r6, K6, ⟨unt, g6, rfl, rfl, hm6, hwt⟩, hc6⟩ := ways_dt ht subs main (s.more l) ⟨by have := hs.ready; simp only [Sc.more, List.length_append]; omega, by have := hs.all; simp only [Sc.more]; omega, by have := hs.lasts; simp only [Sc.more]; omega⟩ N hN g3 hbm.le
      have hct := genCall (by rfl) hc6 7 (armsC arms)
      have hv1 : armsC (arms ++ [.mk (nm 83 arms.length) b unl unt]) = armsC arms ++ [[.str (⟨#[83]⟩ ++ dg i), .sl bv, .sl bq, .sl (trsC unl), .sl (trsC unt), .int .i64 0, .int .i64 0]] := by rw [armsC_snoc, Arm.cells, hb, hal]; rfl
      repeat refine DC.seq ?_
      apply DC.regionX
      · intro s0 Oo
        refine t_move rfl rfl ?_
        refine t_assign rfl rfl ?_
        exact TL.nil rfl
      repeat refine DC.seq ?_
      apply DC.regionX
      · intro s0 Oo
        refine t_move rfl rfl ?_
        (refine t_int rfl rfl rfl (r := .bool true) (by show some (D.bool (decide _)) = _; rw [hdl, decide_eq_true (by omega)]) ?_)
        exact TL.nil rfl
      repeat refine DC.seq ?_
      refine DC.cond rfl (fun hc => ?_) (fun hc => by cases hc)
      repeat refine DC.seq ?_
      apply DC.regionX
      · intro s0 Oo
        refine t_move rfl rfl ?_
        refine t_move rfl rfl ?_
        refine t_callD hcl rfl rfl ?_
        refine t_assign rfl rfl ?_
        exact TL.nil rfl
      repeat refine DC.seq ?_
      apply DC.regionX
      · intro s0 Oo
        refine t_move rfl rfl ?_
        refine t_call1 hdg rfl rfl ?_
        refine t_stradd rfl rfl rfl (by have : (⟨#[83]⟩ : ByteArray).size = 1 := rfl; omega) ?_
        refine t_build rfl rfl rfl rfl rfl ?_
        refine t_alloc rfl rfl ?_
        refine t_storeL rfl rfl rfl rfl rfl rfl ?_
        exact TL.nil rfl
      repeat refine DC.seq ?_
      apply DC.regionX
      · intro s0 Oo
        refine t_move rfl rfl ?_
        refine t_loadDw rfl rfl rfl ?_
        refine t_move rfl rfl ?_
        refine t_callD hcu rfl rfl ?_
        refine t_fieldL rfl rfl ?_
        refine t_storeL rfl rfl rfl rfl rfl rfl ?_
        exact TL.nil rfl
      repeat refine DC.seq ?_
      apply DC.regionX
      · intro s0 Oo
        refine t_move rfl rfl ?_
        refine t_fieldD rfl rfl ?_
        refine t_loadDc rfl rfl rfl ?_
        refine t_fieldD rfl rfl ?_
        refine t_loadDc rfl rfl rfl ?_
        refine t_build rfl rfl rfl rfl rfl ?_
        refine t_move rfl rfl ?_
        refine t_move rfl rfl ?_
        (refine t_sub64 rfl rfl rfl (by omega) ?_; rw [hdd])
        refine t_callD hcb rfl rfl ?_
        refine t_fieldL rfl rfl ?_
        refine t_storeL rfl rfl rfl rfl rfl rfl ?_
        exact TL.nil rfl
      repeat refine DC.seq ?_
      apply DC.regionX
      · intro s0 Oo
        refine t_move rfl rfl ?_
        refine t_loadDw rfl rfl rfl ?_
        refine t_move rfl rfl ?_
        refine t_call1 hmore rfl rfl ?_
        refine t_move rfl rfl ?_
        refine t_callD hct rfl rfl ?_
        refine t_fieldL rfl rfl ?_
        refine t_storeL rfl rfl rfl rfl rfl rfl ?_
        exact TL.nil rfl
      repeat refine DC.seq ?_
      apply DC.regionX
      · intro s0 Oo
        refine t_fieldL rfl rfl ?_
        refine t_loadLc rfl rfl hb9 rfl ?_
        refine t_loadLa rfl rfl rfl rfl rfl ?_
        refine t_buildSlice rfl rfl rfl rfl rfl rfl rfl rfl ?_
        refine t_snoc (H0 := GH v subs main g6) rfl rfl rfl rfl (by rfl) rfl (by rw [armsC_len]; omega) (by rw [armsC_len]; omega) ?_
        refine t_fieldL rfl rfl ?_
        refine t_storeL rfl rfl hb9 (cells_gen _ _) rfl rfl ?_
        exact TL.nil rfl
      repeat refine DC.seq ?_
      apply DC.regionX
      · intro s0 Oo
        refine t_move rfl rfl ?_
        refine t_add64 rfl rfl rfl (by omega) ?_
        refine t_assign rfl rfl ?_
        exact TL.nil rfl
      exact againD (k' := N - (i + 1)) (by omega) ⟨i + 1, arms ++ [.mk (nm 83 arms.length) b unl unt], g6, _, rfl, by rw [hv1]; rfl, hb8, by omega, by simp [hal], by
        have h6 := hm6.n
        rw [h6]
        refine .snoc hga l hls (fun h => by subst h; simp at hal; omega) unl hwu b ?_ unt hwt
        have e1 := hm4.n
        have e2 := hm5.n
        rw [← e1, ← e2]; exact hgb, ⟨by have := hbm.i; have := hm4.i; have := hm5.i; have := hm6.i; omega, hm6.le, by have := hbm.n; have := hm4.n; have := hm5.n; have := hm6.n; omega, by have := hbm.pay; have := hm6.n; have := hm6.i; omega, by have := hbm.q0; have := hm4.q; have := hm5.q; have := hm6.q; simp only [ws]; omega, by have := hbm.q1; have := hm4.q; have := hm5.q; have := hm6.q; omega⟩, rfl⟩ (by rw [hv1]; rfl) ⟨by simp; rfl, rfl, rfl, rfl, rfl, rfl, rfl, rfl, trivial⟩
  · refine DC.exit ?_
    have hc' : i = N := by have := of_decide_eq_false hc; omega
    subst hc'
    obtain ⟨e1', e2, e3⟩ := gh_end v subs main g2 7 (armsC arms)
    refine DC.viewBox (cs' := auC (.d (.sl (armsC arms)))) 9 hb9 (by repeat' first | exact viewAll_nil _ | refine viewAll_e ?_ | refine viewAll_m (gen_view (GH v subs main g2) 7 (armsC arms) (armsC_lens arms)) ?_) ?_
    repeat refine DC.seq ?_
    apply DC.regionX
    · intro s0 Oo
      refine t_loadLa rfl rfl rfl rfl rfl ?_
      refine t_storeL rfl rfl hb8 rfl rfl rfl ?_
      exact TL.nil rfl
    have hws := ws_le hW.1 i (by omega)
    exact DC.ret ⟨_, rfl, e1', .d _, e2, .auto arms, g2, by rw [Eqn.cells]; rfl, e3, .auto i hN hga hal, ⟨b1', b2, b3, b4, by omega, b6⟩⟩
end
end Go.Proofs
