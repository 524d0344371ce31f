/- Blocks. -/
import Derived.Test.YtcmjcdiaidalgaaMkM
set_option linter.unusedVariables false
set_option linter.unusedSimpArgs false
set_option linter.unusedSectionVars false
namespace Go.Proofs
open Go.Mt Go.Mk
set_option maxRecDepth 4000
set_option linter.unusedSimpArgs false
set_option linter.unusedVariables false

instance : IsFn Try.prog 70 := isFn_of (by kernel_rfl)
theorem hi_vas (l : List Va) (k : Nat) : hiD ((vasC l).drop k) = .sl (vasC (l.drop k)) ∨ hiD ((vasC l).drop k) = .slz ∧ l.drop k = [] := by
  have e : (vasC l).drop k = vasC (l.drop k) := by simp [vasC, List.map_drop]
  rw [e]
  cases l.drop k with
  | nil => exact .inr ⟨rfl, rfl⟩
  | cons a r => exact .inl rfl
section
variable {zs : List Int} {v : D} (ht : Tape zs v) (subs : Nat) (main : Bool)
include ht
set_option maxHeartbeats 4000000 in
theorem block_dt (d : Nat) (hd : d ≤ 3) (hE : EqsOk zs v subs main d 14) : BlockOk zs v subs main d := by
  intro s hs outs ho g hg hn hq14 hq0
  have hL := ht.hl
  have hsr := hs.ready
  have hsl := hs.lasts
  have hqp := qP_le d hd
  obtain ⟨r0, K0, ⟨m, g0, rfl, rfl, hr0⟩, hc0⟩ := next_dt ht subs main 4 (by omega) (by omega) g hg
  have hm4 := hr0.lt
  have hm0 := hr0.mv
  have hpay := hr0.pay
  have e0n := hm0.n
  have e0q := hm0.q
  have e0i := hm0.i
  refine DT.drop 2 (Nat.le_refl _) ?_
  refine DT.of_body Try.func51 rfl Try.ntmps51 rfl ?_
  repeat refine DC.seq ?_
  apply DC.regionX
  · intro s0 Oo
    refine t_box rfl rfl ?_
    refine t_alloc rfl rfl ?_
    exact TL.nil rfl
  repeat refine DC.seq ?_
  apply DC.regionX
  · intro s0 Oo
    refine t_alloc rfl rfl ?_
    exact TL.nil rfl
  repeat refine DC.seq ?_
  apply DC.regionX
  · intro s0 Oo
    refine t_move rfl rfl ?_
    refine t_nilCheck rfl rfl rfl ?_
    refine t_fieldR rfl rfl ?_
    refine t_loadRc rfl rfl rfl rfl ?_
    refine t_callD hc0 rfl rfl ?_
    refine t_assign rfl rfl ?_
    exact TL.nil rfl
  clear hc0
  repeat refine DC.seq ?_
  apply DC.regionX
  · intro s0 Oo
    refine t_assign rfl rfl ?_
    exact TL.nil rfl
  refine DC.rename [(11, .m (.d (.int .i64 ((0 : Nat) : Int)))), (10, .m (.d (.int .i64 ((m : Nat) : Int)))), (9, .loc 9 0), (8, .loc 8 0), (5, .m (.d (.pim s.cells 0))), (3, .m (.d (.int .i64 ((d : Nat) : Int)))), (2, .m (.d (.sl (vasC outs)))), (0, .m (.ref 1 0))] (GH v subs main g0 ++ []) ⟨rfl, rfl, rfl, rfl, rfl, rfl, rfl, rfl, trivial⟩ rfl ?_
  repeat refine DC.seq ?_
  refine DC.block ?_
  refine DC.loop (fun k s1 => ∃ (i : Nat) (vs : List Va) (mv : M) (g' : GS) (F : Hp) (bx : List (Nat × List M)), s1 = ⟨[(11, .m (.d (.int .i64 (i : Int)))), (10, .m (.d (.int .i64 ((m : Nat) : Int)))), (9, .loc 9 0), (8, .loc 8 0), (5, .m (.d (.pim s.cells 0))), (3, .m (.d (.int .i64 ((d : Nat) : Int)))), (2, .m (.d (.sl (vasC outs)))), (0, .m (.ref 1 0))], bx, GH v subs main g' ++ F⟩ ∧ Go.Mt.get bx 9 = some [mv, .d (.sl [])] ∧ Go.Mt.get bx 8 = some [.d (.sl []), .d (.sl [])] ∧ L2 (GH v subs main g' ++ F) (vasC vs) mv 16 [] (.d (.sl [])) ∧ i ≤ m ∧ vs.length = i ∧ NV g.n vs g'.n ∧ g'.n = g.n + i ∧ g'.q = g.q ∧ g0.i ≤ g'.i ∧ g'.i ≤ zs.length ∧ k = m - i) m _
    ⟨0, [], .d (.sl []), g0, [], _, rfl, rfl, rfl, ⟨2, 3, .inl ⟨rfl, rfl⟩, .inl ⟨rfl, rfl⟩, by omega, by omega, by omega⟩, by omega, rfl, by rw [e0n]; exact .nil, by omega, e0q, Nat.le_refl _, hm0.le, rfl⟩ ⟨rfl, rfl, rfl, rfl, rfl, rfl, rfl, rfl, trivial⟩ ?_
  rintro k s1 ⟨i, vs, mv, g1, F, bx, rfl, hb9, hb8, hl2, hi, hvl, hnv, e1n, e1q, e1i, e1l, rfl⟩
  repeat refine DC.seq ?_
  apply DC.regionX
  · intro s0 Oo
    refine t_move rfl rfl ?_
    refine t_move rfl rfl ?_
    refine t_int rfl rfl rfl rfl ?_
    exact TL.nil rfl
  repeat refine DC.seq ?_
  refine DC.cond rfl (fun hc => ?_) (fun hc => ?_)
  · have hc' : i < m := by have := of_decide_eq_true hc; omega
    clear hc
    have hpp := hpay (by omega)
    obtain ⟨r1, K1, ⟨rfl, rfl⟩, hc1⟩ := name_dt ht subs main 118 g1 e1l (by omega)
    obtain ⟨r2, K2, ⟨t, g2, rfl, rfl, hm2⟩, hc2⟩ := typ_dt ht subs main ⟨g1.i, g1.n + 1, g1.q⟩ e1l
    obtain ⟨r3, K3, ⟨j, g3, rfl, rfl, hr3⟩, hc3⟩ := next_dt ht subs main 3 (by omega) (by omega) g2 hm2.le
    have hm23 := hm2.trans hr3.mv
    have e3n := hm23.n
    have e3q := hm23.q
    have e3i := hm23.i
    simp only at e3n e3q e3i
    have hc1 := sufCall (by rfl) hc1 F
    have hc2 := sufCall (by rfl) hc2 F
    have hc3 := sufCall (by rfl) hc3 F
    have hvv : (vasC vs).length = i := by rw [vasC_len, hvl]
    refine DC.skip ?_
    repeat refine DC.seq ?_
    refine DC.block ?_
    repeat refine DC.seq ?_
    apply DC.regionX
    · intro s0 Oo
      refine t_move rfl rfl ?_
      refine t_callD hc1 rfl rfl ?_
      refine t_move rfl rfl ?_
      refine t_callD hc2 rfl rfl ?_
      refine t_build rfl rfl rfl rfl rfl ?_
      refine t_alloc rfl rfl ?_
      refine t_storeL rfl rfl rfl rfl rfl rfl ?_
      exact TL.nil rfl
    rcases Nat.eq_zero_or_pos j with hj0 | hj0
    · subst hj0
      obtain ⟨r4, K4, ⟨e, g4, rfl, rfl, hgc, hm4'⟩, hc4⟩ := constant_dt ht subs main t g3 hm23.le
      obtain ⟨ke, ope, ne, se, ae, be, he⟩ := e.shape
      rw [he] at hc4
      have hc4 := sufCall (by rfl) hc4 F
      have e4n := hm4'.n
      have e4q := hm4'.q
      have e4i := hm4'.i
      have hl4 := hl2.call (g' := g4)
      have hw : (⟨nm 118 (g1.n + 1), t, none, true, e⟩ : Va).cells = [.str (nm 118 (g1.n + 1)), .int .u8 t.kind, .str t.nm, .sl [], .bool true, .int .u8 ke, .int .u8 ope, .int .i32 ne, .str se, .sl ae, .sl be, .int .i64 0, .int .i64 0, .int .i64 0, .int .i64 0] := by simp only [Va.cells, he]; rfl
      obtain ⟨F', hF, hl5⟩ := hl4.app1 [[.str (nm 118 (g1.n + 1)), .int .u8 t.kind, .str t.nm, .sl [], .bool true, .int .u8 ke, .int .u8 ope, .int .i32 ne, .str se, .sl ae, .sl be, .int .i64 0, .int .i64 0, .int .i64 0, .int .i64 0]]
      have hv1 : vasC (vs ++ [⟨nm 118 (g1.n + 1), t, none, true, e⟩]) = vasC vs ++ [[.str (nm 118 (g1.n + 1)), .int .u8 t.kind, .str t.nm, .sl [], .bool true, .int .u8 ke, .int .u8 ope, .int .i32 ne, .str se, .sl ae, .sl be, .int .i64 0, .int .i64 0, .int .i64 0, .int .i64 0]] := by rw [vasC_append, ← hw]; rfl
      obtain ⟨i1, i2, hacc, _⟩ := id hl4
      repeat refine DC.seq ?_
      apply DC.regionX
      · intro s0 Oo
        refine t_move rfl rfl ?_
        refine t_nilCheck rfl rfl rfl ?_
        refine t_fieldR rfl rfl ?_
        refine t_loadRc rfl rfl rfl rfl ?_
        refine t_callD hc3 rfl rfl ?_
        refine t_int rfl rfl rfl rfl ?_
        exact TL.nil rfl
      repeat refine DC.seq ?_
      refine DC.cond rfl (fun hc => ?_) (fun hc => by cases hc)
      repeat refine DC.seq ?_
      apply DC.regionX
      · intro s0 Oo
        refine t_fieldL rfl rfl ?_
        refine t_storeL rfl rfl rfl rfl rfl rfl ?_
        exact TL.nil rfl
      repeat refine DC.seq ?_
      apply DC.regionX
      · intro s0 Oo
        refine t_move rfl rfl ?_
        refine t_fieldL rfl rfl ?_
        refine t_loadLa rfl rfl rfl rfl rfl ?_
        refine t_callD hc4 rfl rfl ?_
        refine t_fieldL rfl rfl ?_
        refine t_storeL rfl rfl rfl rfl rfl rfl ?_
        exact TL.nil rfl
      repeat refine DC.seq ?_
      apply DC.regionX
      · intro s0 Oo
        refine t_fieldL rfl rfl ?_
        refine t_loadLc rfl rfl hb9 rfl ?_
        refine t_loadLa rfl rfl rfl rfl rfl ?_
        refine t_buildSlice rfl rfl rfl rfl rfl rfl rfl rfl ?_
        refine t_acc hacc rfl rfl rfl rfl rfl (one_len rfl) (by rw [hvv]; simp only [List.length_singleton]; omega) (by rw [hvv]; simp only [List.length_singleton]; omega) ?_
        refine t_fieldL rfl rfl ?_
        refine t_storeL rfl rfl hb9 (cells_acc _ _ _) rfl rfl ?_
        exact TL.nil rfl
      repeat refine DC.seq ?_
      apply DC.regionX
      · intro s0 Oo
        refine t_move rfl rfl ?_
        refine t_add64 rfl rfl rfl (by omega) ?_
        refine t_assign rfl rfl ?_
        exact TL.nil rfl
      rw [← hv1] at hl5
      exact againD (k' := m - (i + 1)) (by omega) ⟨i + 1, _, _, g4, F', _, rfl, rfl, hb8, hl5, by omega, by simp [hvl], by rw [e4n, e3n]; exact .snoc hnv _ rfl rfl (.inr ⟨rfl, hgc⟩), by omega, by omega, by omega, hm4'.le, rfl⟩ hF ⟨by simp; rfl, rfl, rfl, rfl, rfl, rfl, rfl, rfl, trivial⟩
    · have hjb : (((j : Nat) : Int) == 0) = false := beq_eq_false_iff_ne.2 (by omega)
      have hl4 := hl2.call (g' := g3)
      obtain ⟨F', hF, hl5⟩ := hl4.app1 [[.str (nm 118 (g1.n + 1)), .int .u8 t.kind, .str t.nm, .sl [], .bool false, .int .u8 0, .int .u8 0, .int .i32 0, .str ⟨#[]⟩, .sl [], .sl [], .int .i64 0, .int .i64 0, .int .i64 0, .int .i64 0]]
      have hv1 : vasC (vs ++ [⟨nm 118 (g1.n + 1), t, none, false, .nil⟩]) = vasC vs ++ [[.str (nm 118 (g1.n + 1)), .int .u8 t.kind, .str t.nm, .sl [], .bool false, .int .u8 0, .int .u8 0, .int .i32 0, .str ⟨#[]⟩, .sl [], .sl [], .int .i64 0, .int .i64 0, .int .i64 0, .int .i64 0]] := by rw [vasC_append]; rfl
      obtain ⟨i1, i2, hacc, _⟩ := id hl4
      repeat refine DC.seq ?_
      apply DC.regionX
      · intro s0 Oo
        refine t_move rfl rfl ?_
        refine t_nilCheck rfl rfl rfl ?_
        refine t_fieldR rfl rfl ?_
        refine t_loadRc rfl rfl rfl rfl ?_
        refine t_callD hc3 rfl rfl ?_
        (refine t_int rfl rfl rfl (r := .bool false) (by show some (D.bool (((j : Nat) : Int) == 0)) = _; rw [hjb]) ?_)
        exact TL.nil rfl
      repeat refine DC.seq ?_
      refine DC.cond rfl (fun hc => by cases hc) (fun hc => ?_)
      refine DC.skip ?_
      repeat refine DC.seq ?_
      apply DC.regionX
      · intro s0 Oo
        refine t_fieldL rfl rfl ?_
        refine t_loadLc rfl rfl hb9 rfl ?_
        refine t_loadLa rfl rfl rfl rfl rfl ?_
        refine t_buildSlice rfl rfl rfl rfl rfl rfl rfl rfl ?_
        refine t_acc hacc rfl rfl rfl rfl rfl (one_len rfl) (by rw [hvv]; simp only [List.length_singleton]; omega) (by rw [hvv]; simp only [List.length_singleton]; omega) ?_
        refine t_fieldL rfl rfl ?_
        refine t_storeL rfl rfl hb9 (cells_acc _ _ _) rfl rfl ?_
        exact TL.nil rfl
      repeat refine DC.seq ?_
      apply DC.regionX
      · intro s0 Oo
        refine t_move rfl rfl ?_
        refine t_add64 rfl rfl rfl (by omega) ?_
        refine t_assign rfl rfl ?_
        exact TL.nil rfl
      rw [← hv1] at hl5
      exact againD (k' := m - (i + 1)) (by omega) ⟨i + 1, _, _, g3, F', _, rfl, rfl, hb8, hl5, by omega, by simp [hvl], by rw [e3n]; exact .snoc hnv _ rfl rfl (.inl ⟨rfl, rfl⟩), by omega, by omega, by omega, hm23.le, rfl⟩ hF ⟨by simp; rfl, rfl, rfl, rfl, rfl, rfl, rfl, rfl, trivial⟩
  refine DC.exit ?_
  have hc' : i = m := by have := of_decide_eq_false hc; omega
  clear hc
  have hvv : (vasC vs).length ≤ 3 := by rw [vasC_len, hvl]; omega
  have hov : (vasC outs).length ≤ 3 := by rw [vasC_len]; omega
  have hpay1 : g1.n ≤ 3 * g1.i := by
    rcases Nat.eq_zero_or_pos m with h | h
    · omega
    · have := hpay (by omega); omega
  have hgn1 : g.n ≤ g1.n := by omega
  have hgi1 : g.i ≤ g1.i := by omega
  clear hpay e1n e0i e0n e0q e1i hm0 hr0
  -- what is to be done
  repeat refine DC.seq ?_
  apply DC.regionX
  · intro s0 Oo
    refine t_assign rfl rfl ?_
    exact TL.nil rfl
  have l0 := hl2.nil2 15
  obtain ⟨F1, hF1, l1⟩ := l0.app2 (vasC vs)
  obtain ⟨F2, hF2, l2⟩ := l1.app2 (vasC outs)
  obtain ⟨_, i2, _, acc0, _⟩ := id l0
  obtain ⟨_, i3, _, acc1, _⟩ := id l1
  have hvw := l0.view1 (vasC_lens vs)
  repeat refine DC.seq ?_
  apply DC.regionX
  · intro s0 Oo
    refine t_move rfl rfl ?_
    refine t_fieldL rfl rfl ?_
    (refine t_loadLc rfl rfl hb9 rfl ?_; refine TL.viewSlot 54 rfl hvw ?_)
    refine t_acc acc0 rfl rfl rfl rfl rfl (vasC_lens _) (by simp only [List.length_nil]; omega) (by simp only [List.length_nil]; omega) ?_
    refine t_assign rfl rfl ?_
    exact TL.nil rfl
  rw [hF1]
  generalize accM (.d (.sl [])) (GH v subs main g1 ++ F) (vasC vs) = ma at l1 hF2 l2 acc1 ⊢
  repeat refine DC.seq ?_
  apply DC.regionX
  · intro s0 Oo
    refine t_move rfl rfl ?_
    refine t_move rfl rfl ?_
    refine t_acc acc1 rfl rfl rfl rfl rfl (vasC_lens _) (by simp only [List.nil_append]; omega) (by simp only [List.nil_append]; omega) ?_
    refine t_assign rfl rfl ?_
    exact TL.nil rfl
  rw [hF2]
  generalize accM ma (GH v subs main g1 ++ F1) (vasC outs) = mb at l2 ⊢
  rw [List.nil_append, ← vasC_append] at l2
  refine DC.viewSlot 13 rfl (l2.view2 (vasC_lens _)) ?_
  repeat refine DC.seq ?_
  apply DC.regionX
  · intro s0 Oo
    refine t_fieldD rfl rfl ?_
    refine t_loadDc rfl rfl rfl ?_
    refine t_build rfl rfl rfl rfl rfl ?_
    refine t_alloc rfl rfl ?_
    refine t_storeL rfl rfl rfl rfl rfl rfl ?_
    exact TL.nil rfl
  -- all
  have l3 := l2.nil2 15
  obtain ⟨F3, hF3, l4⟩ := l3.app2 (vasC s.ready)
  obtain ⟨F4, hF4, l5⟩ := l4.app2 (vasC vs)
  obtain ⟨F5, hF5, l6⟩ := l5.app2 (vasC outs)
  obtain ⟨_, _, _, acc3, _⟩ := id l3
  obtain ⟨_, _, _, acc4, _⟩ := id l4
  obtain ⟨_, _, _, acc5, _⟩ := id l5
  have hrl : (vasC s.ready).length ≤ 1000 := by rw [vasC_len]; omega
  have hvw4 := l4.view1 (vasC_lens vs)
  repeat refine DC.seq ?_
  apply DC.regionX
  · intro s0 Oo
    refine t_fieldL rfl rfl ?_
    refine t_loadLc rfl rfl rfl rfl ?_
    refine t_fieldD rfl rfl ?_
    refine t_loadDc rfl rfl rfl ?_
    refine t_acc acc3 rfl rfl rfl rfl rfl (vasC_lens _) (by simp only [List.length_nil]; omega) (by simp only [List.length_nil]; omega) ?_
    refine t_fieldL rfl rfl ?_
    refine t_storeL rfl rfl rfl (cells_acc _ _ _) rfl rfl ?_
    exact TL.nil rfl
  rw [hF3]
  generalize accM (.d (.sl [])) (GH v subs main g1 ++ F2) (vasC s.ready) = mc at l4 hF4 l5 hF5 l6 acc4 acc5 ⊢
  repeat refine DC.seq ?_
  apply DC.regionX
  · intro s0 Oo
    refine t_fieldL rfl rfl ?_
    refine t_loadLc rfl rfl rfl rfl ?_
    refine t_fieldL rfl rfl ?_
    (refine t_loadLc rfl rfl hb9 rfl ?_; refine TL.viewSlot 71 rfl hvw4 ?_)
    refine t_acc acc4 rfl rfl rfl rfl rfl (vasC_lens _) (by simp only [List.nil_append]; omega) (by simp only [List.nil_append]; omega) ?_
    refine t_fieldL rfl rfl ?_
    refine t_storeL rfl rfl rfl (cells_acc _ _ _) rfl rfl ?_
    exact TL.nil rfl
  rw [hF4]
  generalize accM mc (GH v subs main g1 ++ F3) (vasC vs) = md at l5 hF5 l6 acc5 ⊢
  repeat refine DC.seq ?_
  apply DC.regionX
  · intro s0 Oo
    refine t_fieldL rfl rfl ?_
    refine t_loadLc rfl rfl rfl rfl ?_
    refine t_move rfl rfl ?_
    refine t_acc acc5 rfl rfl rfl rfl rfl (vasC_lens _) (by simp only [List.nil_append, List.length_append]; omega) (by simp only [List.nil_append, List.length_append]; omega) ?_
    refine t_fieldL rfl rfl ?_
    refine t_storeL rfl rfl rfl (cells_acc _ _ _) rfl rfl ?_
    exact TL.nil rfl
  rw [hF5]
  generalize accM md (GH v subs main g1 ++ F4) (vasC outs) = me at l6 ⊢
  rw [List.nil_append, ← vasC_append, ← vasC_append] at l6
  refine DC.viewBox (cs' := [.d (.sl (vasC s.ready)), .d (.sl (vasC (s.ready ++ vs ++ outs))), .d (.sl [])]) 14 rfl (viewAll_e (viewAll_m (l6.view2 (vasC_lens _)) (viewAll_e rfl))) ?_
  -- lasts
  have l7 := l6.nil2 15
  obtain ⟨F6, hF6, l8⟩ := l7.app2 (vasC s.lasts)
  obtain ⟨_, _, _, acc7, _⟩ := id l7
  have hll : (vasC s.lasts).length ≤ 1000 := by rw [vasC_len]; omega
  repeat refine DC.seq ?_
  apply DC.regionX
  · intro s0 Oo
    refine t_fieldL rfl rfl ?_
    refine t_loadLc rfl rfl rfl rfl ?_
    refine t_fieldD rfl rfl ?_
    refine t_loadDc rfl rfl rfl ?_
    refine t_acc acc7 rfl rfl rfl rfl rfl (vasC_lens _) (by simp only [List.length_nil]; omega) (by simp only [List.length_nil]; omega) ?_
    refine t_fieldL rfl rfl ?_
    refine t_storeL rfl rfl rfl (cells_acc _ _ _) rfl rfl ?_
    exact TL.nil rfl
  rw [hF6]
  generalize accM (.d (.sl [])) (GH v subs main g1 ++ F5) (vasC s.lasts) = mf at l8 ⊢
  rw [List.nil_append] at l8
  clear l0 l1 l2 l3 l4 l5 l6 l7 hF1 hF2 hF3 hF4 hF5 hF6 acc0 acc1 acc3 acc4 acc5 acc7 hvw hvw4 hl2
  repeat refine DC.seq ?_
  apply DC.regionX
  · intro s0 Oo
    refine t_assign rfl rfl ?_
    exact TL.nil rfl
  obtain ⟨todo0, htd⟩ : ∃ todo0, todo0 = vs ++ outs := ⟨_, rfl⟩
  have htl : todo0.length ≤ 6 := by rw [htd, List.length_append]; omega
  rw [← htd]
  refine DC.rename [(15, .m (.d (.int .i64 ((0 : Nat) : Int)))), (14, .loc 14 0), (13, .m (.d (.sl (vasC todo0)))), (9, .loc 9 0), (8, .loc 8 0), (3, .m (.d (.int .i64 ((d : Nat) : Int)))), (0, .m (.ref 1 0))] (GH v subs main g1 ++ F6) ⟨rfl, rfl, rfl, rfl, rfl, rfl, rfl, trivial⟩ rfl ?_
  repeat refine DC.seq ?_
  refine DC.block ?_
  refine DC.loop (fun k s1 => ∃ (i : Nat) (ml : M) (F : Hp) (bx : List (Nat × List M)), s1 = ⟨[(15, .m (.d (.int .i64 (i : Int)))), (14, .loc 14 0), (13, .m (.d (.sl (vasC todo0)))), (9, .loc 9 0), (8, .loc 8 0), (3, .m (.d (.int .i64 ((d : Nat) : Int)))), (0, .m (.ref 1 0))], bx, GH v subs main g1 ++ F⟩ ∧ Go.Mt.get bx 9 = some [mv, .d (.sl [])] ∧ Go.Mt.get bx 8 = some [.d (.sl []), .d (.sl [])] ∧ Go.Mt.get bx 14 = some [.d (.sl (vasC s.ready)), .d (.sl (vasC (s.ready ++ vs ++ outs))), ml] ∧ L2 (GH v subs main g1 ++ F) (vasC vs) mv 15 (vasC (addLasts s.lasts (todo0.take i))) ml ∧ i ≤ todo0.length ∧ k = todo0.length - i) todo0.length _
    ⟨0, mf, F6, _, rfl, hb9, hb8, rfl, l8, by omega, rfl⟩ ⟨rfl, rfl, rfl, rfl, rfl, rfl, rfl, trivial⟩ ?_
  clear hb9 hb8 l8
  rintro k s1 ⟨j, ml, F, bx, rfl, hb9, hb8, hb14, hl2, hj, rfl⟩
  repeat refine DC.seq ?_
  apply DC.regionX
  · intro s0 Oo
    refine t_move rfl rfl ?_
    refine t_move rfl rfl ?_
    (refine t_lenS rfl rfl rfl ?_; rw [vasC_len])
    refine t_int rfl rfl rfl rfl ?_
    exact TL.nil rfl
  repeat refine DC.seq ?_
  refine DC.cond rfl (fun hc => ?_) (fun hc => ?_)
  · have hc' : j < todo0.length := by have := of_decide_eq_true hc; omega
    clear hc
    have hget := vasC_get hc'
    have htk : todo0.take (j + 1) = todo0.take j ++ [todo0[j]] := List.take_succ_eq_append_getElem hc'
    generalize todo0[j] = w at hget htk
    have hal := addLasts_snoc s.lasts (todo0.take j) w
    rw [← htk] at hal
    have hlen := addLasts_len s.lasts (todo0.take j)
    rw [List.length_take] at hlen
    generalize addLasts s.lasts (todo0.take j) = ls at hl2 hal hlen
    have hvw := hl2.view2 (vasC_lens ls)
    have hhas : CT Try.prog 70 [ml, .d (.str w.name)] (GH v subs main g1 ++ F) fun r' K' => r' = .d (.bool (ls.any fun u => decide (u.name = w.name))) ∧ K' = GH v subs main g1 ++ F :=
      CT.viewArg hvw ((CT.of_PT (has_pt ls w.name (by omega))).mono (by rintro _ _ ⟨⟨_, rfl, rfl⟩, rfl⟩; exact ⟨rfl, rfl⟩))
    obtain ⟨_, _, _, acc, _⟩ := id hl2
    obtain ⟨F', hF, hl3⟩ := hl2.app2 [w.cells]
    obtain ⟨x0, x1, x2, x3, x4, x5, x6, x7, hw, _⟩ := va_shape w
    have hv1 : vasC (ls ++ [w]) = vasC ls ++ [w.cells] := by rw [vasC_append]; rfl
    rw [← hv1] at hl3
    rw [hw] at hget hF hl3
    have hlsl : (vasC ls).length ≤ 1000 := by rw [vasC_len]; omega
    refine DC.skip ?_
    repeat refine DC.seq ?_
    refine DC.block ?_
    cases hlast : w.last with
    | false =>
      rw [hlast] at hget hal
      simp only [Bool.false_and, Bool.false_eq_true, if_false] at hal
      repeat refine DC.seq ?_
      apply DC.drawX mixed
      · intro s0 Oo
        refine f_move rfl rfl ?_
        refine f_move rfl rfl ?_
        refine f_indexD rfl rfl rfl (Int.natCast_nonneg j) hget rfl ?_
        refine f_fieldD rfl rfl ?_
        refine f_loadDc rfl rfl rfl ?_
        refine f_move rfl rfl ?_
        refine f_guard_no rfl rfl rfl rfl ?_
        refine f_guard_no rfl rfl rfl rfl ?_
        refine f_guard_no rfl rfl rfl rfl ?_
        refine f_guard_no rfl rfl rfl rfl ?_
        refine f_guard_no rfl rfl rfl rfl ?_
        refine f_guard_no rfl rfl rfl rfl ?_
        refine f_guard_no rfl rfl rfl rfl ?_
        refine f_guard_no rfl rfl rfl rfl ?_
        refine f_guard_no rfl rfl rfl rfl ?_
        refine f_pick rfl rfl rfl ?_
        exact TF.nil ⟨by kernel_rfl, rfl⟩
      repeat refine DC.seq ?_
      refine DC.cond rfl (fun hc => by cases hc) (fun hc => ?_)
      refine DC.skip ?_
      repeat refine DC.seq ?_
      apply DC.regionX
      · intro s0 Oo
        refine t_move rfl rfl ?_
        refine t_add64 rfl rfl rfl (by omega) ?_
        refine t_assign rfl rfl ?_
        exact TL.nil rfl
      exact againD (k' := todo0.length - (j + 1)) (by omega) ⟨j + 1, ml, F, _, rfl, hb9, hb8, hb14, by rw [hal]; exact hl2, by omega, rfl⟩ rfl ⟨by simp; rfl, rfl, rfl, rfl, rfl, rfl, rfl, trivial⟩
    | true =>
      rw [hlast] at hget hal
      cases hany : ls.any fun u => decide (u.name = w.name) with
      | true =>
        rw [hany] at hal hhas
        simp only [Bool.not_true, Bool.and_false, Bool.false_eq_true, if_false] at hal
        repeat refine DC.seq ?_
        apply DC.drawX mixed
        · intro s0 Oo
          refine f_move rfl rfl ?_
          refine f_move rfl rfl ?_
          refine f_indexD rfl rfl rfl (Int.natCast_nonneg j) hget rfl ?_
          refine f_fieldD rfl rfl ?_
          refine f_loadDc rfl rfl rfl ?_
          refine f_move rfl rfl ?_
          refine f_guard_yes rfl rfl ?_; refine f_fieldL rfl rfl ?_
          refine f_guard_yes rfl rfl ?_; refine f_loadLc rfl rfl hb14 rfl ?_
          refine f_guard_yes rfl rfl ?_; refine f_move rfl rfl ?_
          refine f_guard_yes rfl rfl ?_; refine f_move rfl rfl ?_
          refine f_guard_yes rfl rfl ?_; refine f_indexD rfl rfl rfl (Int.natCast_nonneg j) hget rfl ?_
          refine f_guard_yes rfl rfl ?_; refine f_fieldD rfl rfl ?_
          refine f_guard_yes rfl rfl ?_; refine f_loadDc rfl rfl rfl ?_
          refine f_guard_yes rfl rfl ?_; refine f_callRo hhas rfl rfl ?_
          refine f_guard_yes rfl rfl ?_; refine f_not rfl rfl ?_
          refine f_pick rfl rfl rfl ?_
          exact TF.nil ⟨by kernel_rfl, rfl⟩
        repeat refine DC.seq ?_
        refine DC.cond rfl (fun hc => by cases hc) (fun hc => ?_)
        refine DC.skip ?_
        repeat refine DC.seq ?_
        apply DC.regionX
        · intro s0 Oo
          refine t_move rfl rfl ?_
          refine t_add64 rfl rfl rfl (by omega) ?_
          refine t_assign rfl rfl ?_
          exact TL.nil rfl
        exact againD (k' := todo0.length - (j + 1)) (by omega) ⟨j + 1, ml, F, _, rfl, hb9, hb8, hb14, by rw [hal]; exact hl2, by omega, rfl⟩ rfl ⟨by simp; rfl, rfl, rfl, rfl, rfl, rfl, rfl, trivial⟩
      | false =>
        rw [hany] at hal hhas
        simp only [Bool.not_false, Bool.and_true, if_true] at hal
        rw [hlast] at hF hl3
        repeat refine DC.seq ?_
        apply DC.drawX mixed
        · intro s0 Oo
          refine f_move rfl rfl ?_
          refine f_move rfl rfl ?_
          refine f_indexD rfl rfl rfl (Int.natCast_nonneg j) hget rfl ?_
          refine f_fieldD rfl rfl ?_
          refine f_loadDc rfl rfl rfl ?_
          refine f_move rfl rfl ?_
          refine f_guard_yes rfl rfl ?_; refine f_fieldL rfl rfl ?_
          refine f_guard_yes rfl rfl ?_; refine f_loadLc rfl rfl hb14 rfl ?_
          refine f_guard_yes rfl rfl ?_; refine f_move rfl rfl ?_
          refine f_guard_yes rfl rfl ?_; refine f_move rfl rfl ?_
          refine f_guard_yes rfl rfl ?_; refine f_indexD rfl rfl rfl (Int.natCast_nonneg j) hget rfl ?_
          refine f_guard_yes rfl rfl ?_; refine f_fieldD rfl rfl ?_
          refine f_guard_yes rfl rfl ?_; refine f_loadDc rfl rfl rfl ?_
          refine f_guard_yes rfl rfl ?_; refine f_callRo hhas rfl rfl ?_
          refine f_guard_yes rfl rfl ?_; refine f_not rfl rfl ?_
          refine f_pick rfl rfl rfl ?_
          exact TF.nil ⟨by kernel_rfl, rfl⟩
        repeat refine DC.seq ?_
        refine DC.cond rfl (fun hc => ?_) (fun hc => by cases hc)
        repeat refine DC.seq ?_
        apply DC.drawX mixed
        · intro s0 Oo
          refine f_fieldL rfl rfl ?_
          refine f_loadLc rfl rfl hb14 rfl ?_
          refine f_move rfl rfl ?_
          refine f_move rfl rfl ?_
          refine f_indexD rfl rfl rfl (Int.natCast_nonneg j) hget rfl ?_
          refine f_loadDw rfl rfl rfl ?_
          refine f_buildSlice rfl rfl rfl rfl rfl rfl rfl rfl ?_
          refine f_acc1 acc rfl rfl rfl rfl rfl rfl (by omega) (by omega) ?_
          refine f_fieldL rfl rfl ?_
          refine f_storeL rfl rfl hb14 (cells_acc _ _ _) rfl rfl ?_
          exact TF.nil ⟨by kernel_rfl, rfl⟩
        repeat refine DC.seq ?_
        apply DC.regionX
        · intro s0 Oo
          refine t_move rfl rfl ?_
          refine t_add64 rfl rfl rfl (by omega) ?_
          refine t_assign rfl rfl ?_
          exact TL.nil rfl
        exact againD (k' := todo0.length - (j + 1)) (by omega) ⟨j + 1, _, F', _, rfl, hb9, hb8, rfl, by rw [hal]; exact hl3, by omega, rfl⟩ hF ⟨by simp; rfl, rfl, rfl, rfl, rfl, rfl, rfl, trivial⟩
  refine DC.exit ?_
  have hc' : j = todo0.length := by have := of_decide_eq_false hc; omega
  clear hc
  subst hc'
  rw [List.take_length] at hl2
  -- groups
  have hl3 := hl2.nil2 16
  have hlL : (addLasts s.lasts todo0).length ≤ 800 - 200 * d + 6 := by have := addLasts_len s.lasts todo0; omega
  refine DC.viewBox (cs' := [.d (.sl (vasC s.ready)), .d (.sl (vasC (s.ready ++ vs ++ outs))), .d (.sl (vasC (addLasts s.lasts todo0)))]) 14 hb14 (viewAll_e (viewAll_e (viewAll_m (hl2.view2 (vasC_lens _)) rfl))) ?_
  obtain ⟨S0, hS0⟩ : ∃ S0 : Sc, S0 = in0 s vs outs := ⟨_, rfl⟩
  have hS1 : S0.ready = s.ready := by rw [hS0]; rfl
  have hS2 : S0.all = s.ready ++ vs ++ outs := by rw [hS0]; rfl
  have hS3 : S0.lasts = addLasts s.lasts todo0 := by rw [hS0, htd]; rfl
  rw [← hS2, ← hS3, ← hS1]
  have hSl : S0.lasts.length ≤ 800 - 200 * d + 6 := by rw [hS3]; exact hlL
  have hSa : S0.all.length ≤ 1000 := by rw [hS2]; simp only [List.length_append]; omega
  have hSr : S0.ready.length ≤ 800 - 200 * d := by rw [hS1]; exact hsr
  clear hb14 hl2 hlL hS1 hS2 hS3
  have hW : 0 ≤ 1 + 3 * qP d := by omega
  repeat refine DC.seq ?_
  refine DC.block ?_
  refine DC.loop (fun k s1 => ∃ (j : Nat) (todo : List Va) (td : D) (S : Sc) (q : List Eqn) (vars : List Va) (mv me : M) (g' : GS) (F : Hp) (bx : List (Nat × List M)), s1 = ⟨[(14, .loc 14 0), (13, .m (.d td)), (9, .loc 9 0), (8, .loc 8 0), (3, .m (.d (.int .i64 ((d : Nat) : Int)))), (0, .m (.ref 1 0))], bx, GH v subs main g' ++ F⟩ ∧
      (td = .sl (vasC todo) ∨ td = .slz ∧ todo = []) ∧ Go.Mt.get bx 9 = some [mv, me] ∧ Go.Mt.get bx 8 = some [.d (.sl []), .d (.sl [])] ∧ Go.Mt.get bx 14 = some [.d (.sl (vasC S.ready)), .d (.sl (vasC S.all)), .d (.sl (vasC S.lasts))] ∧ L2 (GH v subs main g' ++ F) (vasC (vs ++ vars)) mv 16 (eqsC q) me ∧
      GL (GQ (SubR subs d) subs) S0 todo0 g1.n S todo g'.n q vars ∧ (S.ready.length + todo.length ≤ 800 - 200 * d + 6 ∧ S.all.length ≤ 1000 ∧ S.lasts.length ≤ 800 - 200 * d + 6 ∧ vars.length ≤ 42 * j ∧ q.length ≤ 45 * j ∧ j + todo.length ≤ 6) ∧ (g1.i ≤ g'.i ∧ g'.i ≤ zs.length ∧ g1.n ≤ g'.n ∧ g'.n ≤ 3 * g'.i ∧ min g.q 0 - ws6 (1 + 3 * qP d) j ≤ g'.q ∧ g'.q ≤ g.q) ∧ k = todo.length) todo0.length _
    ⟨0, todo0, _, S0, [], [], mv, .d (.sl []), g1, F, _, rfl, .inl rfl, hb9, hb8, rfl, by rw [List.append_nil]; exact hl3, .start, ⟨by omega, hSa, hSl, by simp, by simp, by omega⟩, ⟨Nat.le_refl _, e1l, Nat.le_refl _, hpay1, by simp only [ws6]; omega, by omega⟩, rfl⟩ ⟨rfl, rfl, rfl, rfl, rfl, rfl, trivial⟩ ?_
  clear hb9 hb8 hl3
  rintro k s1 ⟨j, todo, td, S, q, vars, mv, me, g2, F, bx, rfl, htdd, hb9, hb8, hb14, hl2, hgl, ⟨z1, z2, z3, z4, z5, z6⟩, ⟨y1, y2, y3, y4, y5, y6⟩, rfl⟩
  have htdl : slLen td = some todo.length := by
    rcases htdd with rfl | ⟨rfl, rfl⟩
    · simp only [slLen, vasC_len]
    · rfl
  repeat refine DC.seq ?_
  apply DC.regionX
  · intro s0 Oo
    refine t_move rfl rfl ?_
    refine t_lenS rfl rfl htdl ?_
    refine t_int rfl rfl rfl rfl ?_
    exact TL.nil rfl
  repeat refine DC.seq ?_
  refine DC.cond rfl (fun hc => ?_) (fun hc => ?_)
  · have hc' : 0 < todo.length := by have := of_decide_eq_true hc; omega
    clear hc
    obtain rfl : td = .sl (vasC todo) := by
      rcases htdd with h | ⟨_, rfl⟩
      · exact h
      · simp at hc'
    have hw6 := ws6_le hW j (by omega)
    have hqB := qB_le d hd
    obtain ⟨r3, K3, ⟨k0, g3, rfl, rfl, hr3⟩, hc3⟩ := next_dt ht subs main 3 (by omega) (by omega) g2 y2
    have hk0 := hr3.lt
    have e3n := hr3.mv.n
    have e3q := hr3.mv.q
    have e3i := hr3.mv.i
    have hc3 := sufCall (by rfl) hc3 F
    have hl3 := hl2.call (g' := g3)
    obtain ⟨kk, hkk⟩ : ∃ kk, kk = min (k0 + 1) todo.length := ⟨_, rfl⟩
    have hk1 : 1 ≤ kk ∧ kk ≤ 3 ∧ kk ≤ todo.length := by omega
    have hka : 1 + ((k0 : Nat) : Int) = ((k0 + 1 : Nat) : Int) := by omega
    obtain ⟨r4, K4, ⟨q1, vs1, g4, rfl, rfl, hgq, hql, hvl1, hbm⟩, hc4⟩ := hE S (by omega) z2 (by omega) (todo.take kk) (by rw [List.length_take]; omega) g3 hr3.mv.le (by omega) (by omega) (by omega) (by omega)
    have hc4 := sufCall (by rfl) hc4 F
    have hb0 := hbm.q0
    have hb1 := hbm.q1
    have hbi := hbm.i
    have hbn := hbm.n
    have hl4 := hl2.call (g' := g4)
    have hmo := more_pt S (todo.take kk) (by omega) (by rw [List.length_take]; omega)
    have htk : (vasC todo).take kk = vasC (todo.take kk) := by simp [vasC, List.map_take]
    have hne : vasC todo ≠ [] := by intro h; have h2 := vasC_len todo; rw [h] at h2; have h3 : (0 : Nat) = todo.length := h2; omega
    obtain ⟨F1, hF1, l5⟩ := hl4.app2 (eqsC q1)
    obtain ⟨F2, hF2, l6⟩ := l5.app1 (vasC vs1)
    obtain ⟨_, _, _, acc4, _⟩ := id hl4
    obtain ⟨_, _, acc5, _, _⟩ := id l5
    have hvl2 : (vasC (vs ++ vars)).length ≤ 300 := by rw [vasC_len, List.length_append]; omega
    have hvl3 : (vasC vs1).length ≤ 50 := by rw [vasC_len]; omega
    have hql2 : (eqsC q).length ≤ 300 := by rw [eqsC_len]; omega
    have hql3 : (eqsC q1).length ≤ 50 := by rw [eqsC_len]; omega
    refine DC.skip ?_
    repeat refine DC.seq ?_
    refine DC.block ?_
    repeat refine DC.seq ?_
    apply DC.regionX
    · intro s0 Oo
      refine t_move rfl rfl ?_
      refine t_nilCheck rfl rfl rfl ?_
      refine t_fieldR rfl rfl ?_
      refine t_loadRc rfl rfl rfl rfl ?_
      refine t_callD hc3 rfl rfl ?_
      (refine t_add64 rfl rfl rfl (by omega) ?_; rw [hka])
      refine t_assign rfl rfl ?_
      exact TL.nil rfl
    repeat refine DC.seq ?_
    apply DC.regionX
    · intro s0 Oo
      refine t_move rfl rfl ?_
      refine t_move rfl rfl ?_
      (refine t_lenS rfl rfl rfl ?_; rw [vasC_len])
      refine t_int rfl rfl rfl rfl ?_
      exact TL.nil rfl
    repeat refine DC.seq ?_
    refine DC.mid ⟨[(16, .m (.d (.int .i64 ((kk : Nat) : Int)))), (14, .loc 14 0), (13, .m (.d (.sl (vasC todo)))), (9, .loc 9 0), (8, .loc 8 0), (3, .m (.d (.int .i64 ((d : Nat) : Int)))), (0, .m (.ref 1 0))], bx, GH v subs main g3 ++ F⟩ ?_ ?_
    · refine DC.cond rfl (fun hc => ?_) (fun hc => ?_)
      · have hgt : todo.length < k0 + 1 := by have := of_decide_eq_true hc; omega
        repeat refine DC.seq ?_
        apply DC.regionX
        · intro s0 Oo
          refine t_move rfl rfl ?_
          (refine t_lenS rfl rfl rfl ?_; rw [vasC_len, show todo.length = kk by omega])
          refine t_assign rfl rfl ?_
          exact TL.nil rfl
        exact downD rfl ⟨rfl, rfl, rfl, rfl, rfl, rfl, rfl, trivial⟩
      · have hgt : ¬ todo.length < k0 + 1 := by have := of_decide_eq_false hc; omega
        refine DC.skip ?_
        exact downD rfl ⟨by rw [show kk = k0 + 1 by omega]; rfl, rfl, rfl, rfl, rfl, rfl, rfl, trivial⟩
    repeat refine DC.seq ?_
    apply DC.drawX mixed
    · intro s0 Oo
      refine f_move rfl rfl ?_
      refine f_loadLa rfl rfl hb14 rfl rfl ?_
      refine f_move rfl rfl ?_
      refine f_move rfl rfl ?_
      (refine f_sliceHi rfl rfl rfl hne hk1.1 (by rw [vasC_len]; exact hk1.2.2) (vasC_lens _) ?_; rw [htk])
      refine f_move rfl rfl ?_
      refine f_callR hc4 rfl rfl ?_
      refine f_move rfl rfl ?_
      refine f_extract rfl rfl rfl ?_
      refine f_extract rfl rfl rfl ?_
      refine f_assign rfl rfl ?_
      refine f_assign rfl rfl ?_
      exact TF.nil ⟨by kernel_rfl, rfl⟩
    repeat refine DC.seq ?_
    apply DC.regionX
    · intro s0 Oo
      refine t_fieldL rfl rfl ?_
      refine t_loadLc rfl rfl hb9 rfl ?_
      refine t_move rfl rfl ?_
      refine t_acc acc4 rfl rfl rfl rfl rfl (eqsC_lens q1) (by omega) (by omega) ?_
      refine t_fieldL rfl rfl ?_
      refine t_storeL rfl rfl hb9 (cells_acc _ _ _) rfl rfl ?_
      exact TL.nil rfl
    rw [hF1]
    generalize accM me (GH v subs main g4 ++ F) (eqsC q1) = me2 at l5 hF2 l6 acc5 ⊢
    repeat refine DC.seq ?_
    apply DC.regionX
    · intro s0 Oo
      refine t_fieldL rfl rfl ?_
      refine t_loadLc rfl rfl rfl rfl ?_
      refine t_move rfl rfl ?_
      refine t_acc acc5 rfl rfl rfl rfl rfl (vasC_lens vs1) (by omega) (by omega) ?_
      refine t_fieldL rfl rfl ?_
      refine t_storeL rfl rfl rfl (cells_acc _ _ _) rfl rfl ?_
      exact TL.nil rfl
    rw [hF2]
    generalize accM mv (GH v subs main g4 ++ F1) (vasC vs1) = mv2 at l6 ⊢
    repeat refine DC.seq ?_
    apply DC.drawX mixed
    · intro s0 Oo
      refine f_loadLa rfl rfl hb14 rfl rfl ?_
      refine f_move rfl rfl ?_
      refine f_move rfl rfl ?_
      (refine f_sliceHi rfl rfl rfl hne hk1.1 (by rw [vasC_len]; exact hk1.2.2) (vasC_lens _) ?_; rw [htk])
      refine f_call1 hmo rfl rfl ?_
      refine f_storeL rfl rfl hb14 rfl rfl rfl ?_
      exact TF.nil ⟨by kernel_rfl, rfl⟩
    repeat refine DC.seq ?_
    apply DC.regionX
    · intro s0 Oo
      refine t_move rfl rfl ?_
      refine t_move rfl rfl ?_
      refine t_sliceLo rfl rfl rfl hne (by rw [vasC_len]; exact hk1.2.2) (vasC_lens _) ?_
      refine t_assign rfl rfl ?_
      exact TL.nil rfl
    rw [← vasC_append, ← eqsC_append] at l6
    have hdl : (todo.drop kk).length = todo.length - kk := by simp
    exact againD (k' := (todo.drop kk).length) (by omega) ⟨j + 1, todo.drop kk, _, S.more (todo.take kk), q ++ q1, vars ++ vs1, mv2, me2, g4, F2, _, rfl, hi_vas todo kk, rfl, hb8, rfl, by rw [← List.append_assoc]; exact l6, .step hgl kk hk1.1 hk1.2.1 hk1.2.2 (by rw [← e3n]; exact hgq), ⟨by simp only [Sc.more, List.length_append, List.length_take]; omega, z2, z3, by simp only [List.length_append]; omega, by simp only [List.length_append]; omega, by omega⟩, ⟨by omega, hbm.le, by omega, hbm.pay, by simp only [ws6]; omega, by omega⟩, rfl⟩ rfl ⟨rfl, rfl, rfl, rfl, rfl, rfl, trivial⟩
  refine DC.exit ?_
  have hc' : todo = [] := by
    have := of_decide_eq_false hc
    exact List.length_eq_zero_iff.1 (by omega)
  clear hc
  subst hc'
  refine DC.viewBox (cs' := [.d (.sl (vasC (vs ++ vars))), .d (.sl (eqsC q))]) 9 hb9 (viewAll_m (hl2.view1 (vasC_lens _)) (viewAll_m (hl2.view2 (eqsC_lens _)) rfl)) ?_
  repeat refine DC.seq ?_
  apply DC.regionX
  · intro s0 Oo
    refine t_loadLa rfl rfl rfl rfl rfl ?_
    refine t_storeL rfl rfl hb8 rfl rfl rfl ?_
    exact TL.nil rfl
  have hw6 := ws6_le hW j (by omega)
  have hqe := qB_eq d
  refine DC.ret ⟨_, rfl, by simp, .d _, gh_hb v subs main g2, .mk (vs ++ vars) q, g2, by rw [Blk.cells]; rfl, rfl, ?_, ⟨by omega, y2, by omega, y4, by omega, y6⟩⟩
  rw [GB_eq]
  exact ⟨vs, g1.n, S, q, vars, hnv, by omega, by rw [← hS0, ← htd]; exact hgl, rfl⟩
end
end Go.Proofs
