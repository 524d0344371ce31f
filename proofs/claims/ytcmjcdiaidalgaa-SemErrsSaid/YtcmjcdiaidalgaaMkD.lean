/- Variables that are picked; two kids; scopes. -/
import Derived.Test.YtcmjcdiaidalgaaMkC
set_option linter.unusedVariables false
set_option linter.unusedSimpArgs false
set_option linter.unusedSectionVars false
namespace Go.Proofs
open Go.Mt Go.Mk
set_option maxRecDepth 4000
set_option linter.unusedSimpArgs false
set_option linter.unusedVariables false

theorem va_shape (w : Va) : ∃ x0 x1 x2 x3 x4 x5 x6 x7, w.cells = [.str w.name, .int .u8 w.ty.kind, .str w.ty.nm, .sl (ckC w.clock), .bool w.last, x0, x1, x2, x3, x4, x5, x6, x7, .int .i64 0, .int .i64 0] ∧ w.first.cells = [x0, x1, x2, x3, x4, x5, x6, x7] := by
  obtain ⟨k, op, n, s, a, b, h⟩ := w.first.shape
  exact ⟨_, _, _, _, _, _, _, _, by simp only [Va.cells, h, exC]; rfl, h⟩
theorem ty_eq (a b : Ty) : (decide (a.kind = b.kind) && decide (a.nm = b.nm)) = decide (a = b) := by cases a <;> cases b <;> rfl
theorem two_pt (k op : Int) (a b : E) : PT Try.prog 128 [.int .u8 k, .int .u8 op, .agg a.cells, .agg b.cells] (· = [.agg (exC k op 0 ⟨#[]⟩ [] [a.cells, b.cells])]) := by
  obtain ⟨k1, op1, n1, s1, a1, b1, h1⟩ := a.shape
  obtain ⟨k2, op2, n2, s2, a2, b2, h2⟩ := b.shape
  rw [h1, h2]
  refine PT.of_CT (CT.of_body Try.func128 rfl Try.ntmps128 rfl fun s0 Oo => ?_)
  repeat refine TC.seq ?_
  refine TC.region ?_
  refine t_box rfl rfl ?_
  refine t_box rfl rfl ?_
  refine t_alloc rfl rfl ?_
  refine TL.nil ?_
  repeat refine TC.seq ?_
  refine TC.region ?_
  refine t_move rfl rfl ?_
  refine t_move rfl rfl ?_
  refine t_loadDw rfl rfl rfl ?_
  refine t_loadDw rfl rfl rfl ?_
  refine t_buildSlice rfl rfl rfl rfl rfl rfl rfl rfl ?_
  refine t_build rfl rfl rfl rfl rfl ?_
  refine t_storeL rfl rfl rfl rfl rfl rfl ?_
  refine TL.nil ?_
  exact TC.ret ⟨_, rfl, [_], rfl, rfl⟩
theorem has_pt (l : List Va) (x : Nm) (hl : l.length ≤ 100000) : PT Try.prog 70 [.sl (vasC l), .str x] (· = [.bool (l.any fun w => decide (w.name = x))]) := by
  refine PT.of_CT (CT.of_body Try.func70 rfl Try.ntmps70 rfl fun s0 Oo => ?_)
  repeat refine TC.seq ?_
  refine TC.region ?_
  refine t_assign rfl rfl ?_
  refine TL.nil ?_
  repeat refine TC.seq ?_
  refine TC.region ?_
  refine t_assign rfl rfl ?_
  refine TL.nil ?_
  refine TC.rename [(5, .m (.d (.int .i64 ((0 : Nat) : Int)))), (1, .m (.d (.str x))), (0, .m (.d (.sl (vasC l))))] [] ⟨rfl, rfl, rfl, trivial⟩ rfl ?_
  repeat refine TC.seq ?_
  refine TC.block ?_
  refine TC.loopB (fun k s => ∃ (i : Nat), s = ⟨[(5, .m (.d (.int .i64 (i : Int)))), (1, .m (.d (.str x))), (0, .m (.d (.sl (vasC l))))], [], []⟩ ∧ i ≤ l.length ∧ (∀ w ∈ l.take i, ¬ w.name = x) ∧ k = l.length - i) l.length _
    ⟨0, rfl, by omega, by simp, rfl⟩ ⟨rfl, rfl, rfl, trivial⟩ ?_
  rintro k s ⟨i, rfl, hi, hno, rfl⟩
  repeat refine TC.seq ?_
  refine TC.region ?_
  refine t_move rfl rfl ?_
  refine t_move rfl rfl ?_
  (refine t_lenS rfl rfl rfl ?_; rw [vasC_len])
  refine t_int rfl rfl rfl rfl ?_
  refine TL.nil ?_
  repeat refine TC.seq ?_
  refine TC.cond rfl (fun hc => ?_) (fun hc => ?_)
  · have hc' : i < l.length := by have := of_decide_eq_true hc; omega
    clear hc
    have hg := vasC_get hc'
    have hmem : l[i] ∈ l := List.getElem_mem hc'
    have htk : l.take (i + 1) = l.take i ++ [l[i]] := List.take_succ_eq_append_getElem hc'
    generalize l[i] = w at hg hmem htk
    obtain ⟨x0, x1, x2, x3, x4, x5, x6, x7, hw, _⟩ := va_shape w
    rw [hw] at hg
    refine TC.skip ?_
    repeat refine TC.seq ?_
    refine TC.block ?_
    repeat refine TC.seq ?_
    refine TC.region ?_
    refine t_move rfl rfl ?_
    refine t_move rfl rfl ?_
    refine t_indexD rfl rfl rfl (Int.natCast_nonneg i) hg rfl ?_
    refine t_fieldD rfl rfl ?_
    refine t_loadDc rfl rfl rfl ?_
    refine t_move rfl rfl ?_
    refine t_streq rfl rfl rfl ?_
    refine TL.nil ?_
    repeat refine TC.seq ?_
    refine TC.cond rfl (fun hc => ?_) (fun hc => ?_)
    · have hx := of_decide_eq_true hc
      repeat refine TC.seq ?_
      refine TC.region ?_
      refine t_assign rfl rfl ?_
      refine TL.nil ?_
      exact TC.ret ⟨_, rfl, [_], rfl, by rw [List.any_eq_true.2 ⟨w, hmem, hc⟩]⟩
    · have hx := of_decide_eq_false hc
      refine TC.skip ?_
      repeat refine TC.seq ?_
      refine TC.region ?_
      refine t_move rfl rfl ?_
      refine t_add64 rfl rfl rfl (by omega) ?_
      refine t_assign rfl rfl ?_
      refine TL.nil ?_
      exact again (k' := l.length - (i + 1)) (by omega) ⟨i + 1, rfl, by omega, by intro y hy; rw [htk] at hy; rcases List.mem_append.1 hy with h | h; exact hno y h; simp at h; subst h; exact hx, rfl⟩ rfl ⟨by simp; rfl, rfl, rfl, trivial⟩
  · refine TC.exit ?_
    have hc' : i = l.length := by have := of_decide_eq_false hc; omega
    subst hc'
    rw [List.take_length] at hno
    repeat refine TC.seq ?_
    refine TC.region ?_
    refine t_assign rfl rfl ?_
    refine TL.nil ?_
    exact TC.ret ⟨_, rfl, [_], rfl, by rw [List.any_eq_false.2 (fun y hy => by simpa using hno y hy)]⟩
theorem more_pt (s : Sc) (l : List Va) (h1 : s.ready.length ≤ 10000) (h2 : l.length ≤ 10000) : PT Try.prog 72 [.agg s.cells, .sl (vasC l)] (· = [.agg (s.more l).cells]) := by
  refine PT.of_CT (CT.of_body Try.func72 rfl Try.ntmps72 rfl fun s0 Oo => ?_)
  repeat refine TC.seq ?_
  refine TC.region ?_
  refine t_box rfl rfl ?_
  refine t_alloc rfl rfl ?_
  refine TL.nil ?_
  repeat refine TC.seq ?_
  refine TC.region ?_
  refine t_assign rfl rfl ?_
  refine TL.nil ?_
  repeat refine TC.seq ?_
  refine TC.region ?_
  refine t_move rfl rfl ?_
  refine t_fieldD rfl rfl ?_
  refine t_loadDc rfl rfl rfl ?_
  refine t_app0 (n := 15) rfl rfl rfl rfl (by rfl) (vasC_lens _) (by rw [vasC_len]; omega) ?_
  refine t_assign rfl rfl ?_
  refine TL.nil ?_
  repeat refine TC.seq ?_
  refine TC.region ?_
  refine t_move rfl rfl ?_
  refine t_move rfl rfl ?_
  refine t_app1 (r1 := vasC s.ready) (r2 := vasC l) rfl rfl rfl rfl (by rfl) (vasC_lens _) (vasC_lens _) (by rw [vasC_len, vasC_len]; omega) (by rw [vasC_len, vasC_len]; omega) ?_
  refine t_assign rfl rfl ?_
  refine TL.nil ?_
  repeat refine TC.seq ?_
  refine TC.region ?_
  refine t_move rfl rfl ?_
  refine t_fieldD rfl rfl ?_
  refine t_loadDc rfl rfl rfl ?_
  refine t_fieldD rfl rfl ?_
  refine t_loadDc rfl rfl rfl ?_
  refine t_build rfl rfl rfl rfl rfl ?_
  refine t_storeL rfl rfl rfl rfl rfl rfl ?_
  refine TL.nil ?_
  exact TC.ret ⟨_, rfl, [_], rfl, by rw [← vasC_append]; rfl⟩
section
variable {zs : List Int} {v : D} (ht : Tape zs v) (subs : Nat) (main : Bool)
include ht
theorem pick_dt (l : List Va) (hl : l.length ≤ 100000) (t : Ty) (g : GS) (hg : g.i ≤ zs.length) : DT Try.prog 129 [.ref 1 0, .d (.sl (vasC l)), .d (.agg t.cells)] (GH v subs main g) fun r K => ∃ (x : Nm) (b : Bool) (g' : GS), r = .tup [.d (.str x), .d (.bool b)] ∧ K = GH v subs main g' ∧ Mv zs g g' ∧ (b = true → Pick l t x) := by
  obtain ⟨r, K, ⟨j, g', rfl, rfl, hr⟩, hc⟩ := next_dt ht subs main 7 (by omega) (by omega) g hg
  have hj := hr.lt
  have hmv := hr.mv
  refine DT.of_body Try.func129 rfl Try.ntmps129 rfl ?_
  repeat refine DC.seq ?_
  apply DC.regionX
  · intro s0 Oo
    refine t_box rfl rfl ?_
    refine t_assign rfl rfl ?_
    refine t_assign rfl rfl ?_
    exact TL.nil rfl
  repeat refine DC.seq ?_
  apply DC.regionX
  · intro s0 Oo
    refine t_move rfl rfl ?_
    refine t_nilCheck rfl rfl rfl ?_
    refine t_fieldR rfl rfl ?_
    refine t_loadRc rfl rfl rfl rfl ?_
    refine t_callD hc rfl rfl ?_
    refine t_assign rfl rfl ?_
    exact TL.nil rfl
  clear hc hr
  repeat refine DC.seq ?_
  apply DC.regionX
  · intro s0 Oo
    refine t_assign rfl rfl ?_
    exact TL.nil rfl
  refine DC.rename [(9, .m (.d (.int .i64 ((0 : Nat) : Int)))), (8, .m (.d (.int .i64 ((j : Nat) : Int)))), (5, .m (.d (.pim t.cells 0))), (1, .m (.d (.sl (vasC l))))] (GH v subs main g') ⟨rfl, rfl, rfl, rfl, trivial⟩ rfl ?_
  repeat refine DC.seq ?_
  refine DC.block ?_
  refine DC.loop (fun k s => ∃ (i : Nat) (bx : List (Nat × List M)), s = ⟨[(9, .m (.d (.int .i64 (i : Int)))), (8, .m (.d (.int .i64 ((j : Nat) : Int)))), (5, .m (.d (.pim t.cells 0))), (1, .m (.d (.sl (vasC l))))], bx, GH v subs main g'⟩ ∧ i ≤ l.length ∧ k = l.length - i) l.length _
    ⟨0, _, rfl, by omega, rfl⟩ ⟨rfl, rfl, rfl, rfl, trivial⟩ ?_
  rintro k s ⟨i, bx, rfl, hi, rfl⟩
  repeat refine DC.seq ?_
  apply DC.regionX
  · intro s0 Oo
    refine t_move rfl rfl ?_
    refine t_move rfl rfl ?_
    (refine t_lenS rfl rfl rfl ?_; rw [vasC_len])
    refine t_int rfl rfl rfl rfl ?_
    exact TL.nil rfl
  repeat refine DC.seq ?_
  refine DC.cond rfl (fun hc => ?_) (fun hc => ?_)
  · have hc' : i < l.length := by have := of_decide_eq_true hc; omega
    clear hc
    have hm : (i + j) % l.length < l.length := Nat.mod_lt _ (by omega)
    have hget := vasC_get hm
    have hmem : l[(i + j) % l.length] ∈ l := List.getElem_mem hm
    generalize l[(i + j) % l.length] = w at hget hmem
    obtain ⟨x0, x1, x2, x3, x4, x5, x6, x7, hw, _⟩ := va_shape w
    rw [hw] at hget
    have hadd : ((i : Nat) : Int) + (j : Int) = ((i + j : Nat) : Int) := by omega
    have hmod : Int.tmod ((i + j : Nat) : Int) (l.length : Int) = (((i + j) % l.length : Nat) : Int) := rfl
    have hne : ((l.length : Int) == 0) = false := beq_eq_false_iff_ne.2 (by omega)
    refine DC.skip ?_
    repeat refine DC.seq ?_
    refine DC.block ?_
    repeat refine DC.seq ?_
    apply DC.regionX
    · intro s0 Oo
      refine t_move rfl rfl ?_
      refine t_move rfl rfl ?_
      refine t_move rfl rfl ?_
      (refine t_add64 rfl rfl rfl (by omega) ?_; rw [hadd])
      refine t_move rfl rfl ?_
      (refine t_lenS rfl rfl rfl ?_; rw [vasC_len])
      (refine t_rem rfl rfl rfl hne ?_; rw [hmod])
      refine t_indexD rfl rfl rfl (Int.natCast_nonneg _) hget rfl ?_
      refine t_loadDw rfl rfl rfl ?_
      refine t_alloc rfl rfl ?_
      refine t_storeL rfl rfl rfl rfl rfl rfl ?_
      exact TL.nil rfl
    rcases Classical.em (w.ty = t) with hty | hty
    · repeat refine DC.seq ?_
      apply DC.regionX
      · intro s0 Oo
        refine t_fieldL rfl rfl ?_
        refine t_loadLa rfl rfl rfl rfl rfl ?_
        refine t_loadDw rfl rfl rfl ?_
        (refine t_eqKN rfl rfl rfl ?_; rw [ty_eq, decide_eq_true hty])
        refine t_move rfl rfl ?_
        refine t_guard_yes rfl ?_; refine t_fieldL rfl rfl ?_
        refine t_guard_yes rfl ?_; refine t_loadLc rfl rfl rfl rfl ?_
        refine t_guard_yes rfl ?_; refine t_lenS rfl rfl rfl ?_
        refine t_guard_yes rfl ?_; refine t_int rfl rfl rfl rfl ?_
        refine t_pick rfl rfl rfl ?_
        exact TL.nil rfl
      repeat refine DC.seq ?_
      refine DC.cond rfl (fun hc => ?_) (fun hc => ?_)
      · have hck : w.clock = none := by
          rcases hcl : w.clock with _ | ⟨a, b⟩
          · rfl
          · rw [hcl] at hc; cases hc
        repeat refine DC.seq ?_
        apply DC.regionX
        · intro s0 Oo
          refine t_fieldL rfl rfl ?_
          refine t_loadLc rfl rfl rfl rfl ?_
          refine t_assign rfl rfl ?_
          refine t_assign rfl rfl ?_
          exact TL.nil rfl
        exact DC.ret ⟨_, rfl, w.name, true, g', rfl, rfl, hmv, fun _ => ⟨w, hmem, hty, hck, rfl⟩⟩
      · refine DC.skip ?_
        repeat refine DC.seq ?_
        apply DC.regionX
        · intro s0 Oo
          refine t_move rfl rfl ?_
          refine t_add64 rfl rfl rfl (by omega) ?_
          refine t_assign rfl rfl ?_
          exact TL.nil rfl
        exact againD (k' := l.length - (i + 1)) (by omega) ⟨i + 1, _, rfl, by omega, rfl⟩ rfl ⟨by simp; rfl, rfl, rfl, rfl, trivial⟩
    · repeat refine DC.seq ?_
      apply DC.regionX
      · intro s0 Oo
        refine t_fieldL rfl rfl ?_
        refine t_loadLa rfl rfl rfl rfl rfl ?_
        refine t_loadDw rfl rfl rfl ?_
        (refine t_eqKN rfl rfl rfl ?_; rw [ty_eq, decide_eq_false hty])
        refine t_move rfl rfl ?_
        refine t_guard_no rfl rfl ?_
        refine t_guard_no rfl rfl ?_
        refine t_guard_no rfl rfl ?_
        refine t_guard_no rfl rfl ?_
        refine t_pick rfl rfl rfl ?_
        exact TL.nil rfl
      repeat refine DC.seq ?_
      refine DC.cond rfl (fun hc => by cases hc) (fun hc => ?_)
      refine DC.skip ?_
      repeat refine DC.seq ?_
      apply DC.regionX
      · intro s0 Oo
        refine t_move rfl rfl ?_
        refine t_add64 rfl rfl rfl (by omega) ?_
        refine t_assign rfl rfl ?_
        exact TL.nil rfl
      exact againD (k' := l.length - (i + 1)) (by omega) ⟨i + 1, _, rfl, by omega, rfl⟩ rfl ⟨by simp; rfl, rfl, rfl, rfl, trivial⟩
  · refine DC.exit ?_
    repeat refine DC.seq ?_
    apply DC.regionX
    · intro s0 Oo
      refine t_assign rfl rfl ?_
      refine t_assign rfl rfl ?_
      exact TL.nil rfl
    exact DC.ret ⟨_, rfl, _, false, g', rfl, rfl, hmv, fun h => by cases h⟩
end
instance : IsFn Try.prog 129 := isFn_of (by kernel_rfl)
instance : IsFn Try.prog 50 := isFn_of (by kernel_rfl)
section
variable {zs : List Int} {v : D} (ht : Tape zs v) (subs : Nat) (main : Bool)
include ht
theorem variable_dt (l : List Va) (hl : l.length ≤ 100000) (t : Ty) (g : GS) (hg : g.i ≤ zs.length) : DT Try.prog 127 [.ref 1 0, .d (.sl (vasC l)), .d (.agg t.cells)] (GH v subs main g) fun r K => ∃ (e : E) (g' : GS), r = .d (.agg e.cells) ∧ K = GH v subs main g' ∧ GV l t e ∧ Mv zs g g' := by
  obtain ⟨r, K, ⟨x, b, g', rfl, rfl, hmv, hp⟩, hc⟩ := pick_dt ht subs main l hl t g hg
  obtain ⟨r2, K2, ⟨e2, g2, rfl, rfl, hge, hmv2⟩, hc2⟩ := constant_dt ht subs main t g' hmv.le
  refine DT.of_body Try.func127 rfl Try.ntmps127 rfl ?_
  repeat refine DC.seq ?_
  apply DC.regionX
  · intro s0 Oo
    refine t_box rfl rfl ?_
    refine t_alloc rfl rfl ?_
    exact TL.nil rfl
  repeat refine DC.seq ?_
  apply DC.regionX
  · intro s0 Oo
    refine t_move rfl rfl ?_
    refine t_move rfl rfl ?_
    refine t_loadDw rfl rfl rfl ?_
    refine t_callD hc rfl rfl ?_
    refine t_move rfl rfl ?_
    refine t_extract rfl rfl rfl ?_
    refine t_extract rfl rfl rfl ?_
    refine t_assign rfl rfl ?_
    refine t_assign rfl rfl ?_
    exact TL.nil rfl
  cases b with
  | false =>
    obtain ⟨k1, op1, n1, s1, a1, b1, h1⟩ := e2.shape
    rw [h1] at hc2
    repeat refine DC.seq ?_
    apply DC.regionX
    · intro s0 Oo
      refine t_move rfl rfl ?_
      refine t_not rfl rfl ?_
      exact TL.nil rfl
    repeat refine DC.seq ?_
    refine DC.cond rfl (fun hc => ?_) (fun hc => by cases hc)
    repeat refine DC.seq ?_
    apply DC.regionX
    · intro s0 Oo
      refine t_move rfl rfl ?_
      refine t_loadDw rfl rfl rfl ?_
      refine t_callD hc2 rfl rfl ?_
      refine t_storeL rfl rfl rfl rfl rfl rfl ?_
      exact TL.nil rfl
    exact DC.ret ⟨_, rfl, e2, g2, by rw [h1]; rfl, rfl, .con hge, hmv.trans hmv2⟩
  | true =>
    repeat refine DC.seq ?_
    apply DC.regionX
    · intro s0 Oo
      refine t_move rfl rfl ?_
      refine t_not rfl rfl ?_
      exact TL.nil rfl
    repeat refine DC.seq ?_
    refine DC.cond rfl (fun hc => by cases hc) (fun hc => ?_)
    refine DC.skip ?_
    repeat refine DC.seq ?_
    apply DC.regionX
    · intro s0 Oo
      refine t_move rfl rfl ?_
      refine t_build rfl rfl rfl rfl rfl ?_
      refine t_storeL rfl rfl rfl rfl rfl rfl ?_
      exact TL.nil rfl
    exact DC.ret ⟨_, rfl, .var x, g', rfl, rfl, .var (hp rfl), hmv⟩
end
end Go.Proofs
