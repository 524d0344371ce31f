/- Calls beside a list that grows; those that an arm defines; ways out. -/
import Derived.Test.YtcmjcdiaidalgaaMkF
set_option linter.unusedVariables false
set_option linter.unusedSimpArgs false
set_option linter.unusedSectionVars false
namespace Go.Mt
theorem DT.drop {P : Program} {f : Nat} {ms : List M} {H : Hp} {post : M → Hp → Prop} (n : Nat) (hn : H.length ≤ n)
    (h : DT P f ms H fun r K => n ≤ K.length ∧ MB n r ∧ HB n (K.take n) ∧ post r (K.take n)) : DT P f ms H post := by
  obtain ⟨r, K, ⟨h1, h2, h3, h4⟩, hc⟩ := h
  exact ⟨r, K.take n, h4, CT.drop n hn (post := fun r' k => r' = r ∧ k = K.take n) (hc.mono fun r' k ⟨a, b⟩ => by subst a; subst b; exact ⟨h1, h2, h3, rfl, rfl⟩)⟩
def genT (n : Nat) (rs : List (List D)) : Hp := match rs with
  | [] => []
  | q :: r => [.row true n r.length (flatM (q :: r))]
theorem genH_eq (H0 : Hp) (n : Nat) (rs : List (List D)) : genH H0 n rs = H0 ++ genT n rs := by cases rs <;> simp [genH, genT]
theorem againB {P : Program} {n B : Nat} {I : Nat → St → Prop} {k k' : Nat} {sl sl' : List (Nat × V)} {bx bx' : List (Nat × List M)} {H H' : Hp} (hk : k' < k) (hI : I k' ⟨sl', bx', H'⟩) (hbx : ∀ t, get bx' t = get bx t) (hH : H = H') (hs : keeps sl sl') : Again P n B I k ⟨sl, bx, H⟩ :=
  ⟨k', _, hk, hI, fun _ _ _ _ _ hi => by subst hH; exact hi.weak (keeps_get hs) hbx⟩
section
variable {X : Ctx} {ops : Array Oper} {rest : List Oper} {sl : List (Nat × V)} {bx : List (Nat × List M)} {postF : List Ef → St → Prop} {d ty : Nat} {pos : String} {af : Array Edge}
theorem f_snoc {T e n nb : Nat} {x y : Operand} {H0 : Hp} {rs : List (List D)} {r : List D} {z : D} [ht : TySlice X.P T e] [hs : TySz X.P e n] [hb : TyB X.P e nb] [hz : TyZ X.P e z] (hn : Nat.blt d X.n = true)
    (hx : evs sl x = some (.m (genM H0.length rs))) (hy : evs sl y = some (.m (.d (.sl [r])))) (h0 : Nat.blt 0 n = true) (hzl : (dcells z).length = n) (hr : r.length = n) (hroom : (rs.length + 1) * nb ≤ 140737488355328) (hmax : rs.length + 1 ≤ 140737488355328)
    (k : TF X ops rest ⟨(d, .m (genM H0.length (rs ++ [r]))) :: sl, bx, genH H0 n (rs ++ [r])⟩ fun ees zz => postF (⟨some d, .m (genM H0.length (rs ++ [r])), [], [], none, true, some (genH H0 n (rs ++ [r]))⟩ :: ees) zz) :
    TF X ops (⟨some d, .call ⟨.builtin .append, #[x, y], #[T, T]⟩, ty, pos, af, none⟩ :: rest) ⟨sl, bx, genH H0 n rs⟩ postF := by
  cases rs with
  | nil => exact f_append0 true hn hx hy h0 hzl (by simp) (by intro q hq; rw [List.mem_singleton] at hq; rw [hq]; exact hr) (by simpa using hroom) k
  | cons q rs =>
    refine f_appendR (acc := true) (cs := flatM (q :: rs)) hn hx hy (by simp [genH]) hzl (by intro q hq; rw [List.mem_singleton] at hq; rw [hq]; exact hr) (by simpa using hroom) (by simpa using hmax) ?_
    have e : (genH H0 n (q :: rs)).set H0.length (.row true n (rs.length + 1) (flatM (q :: rs) ++ flatM [r])) = genH H0 n (q :: rs ++ [r]) := by simp [genH, flatM]
    have e2 : M.rsl H0.length (rs.length + 1) (rs.length + 1 + 1) = genM H0.length (q :: rs ++ [r]) := by simp [genM]
    rw [← e, ← e2] at k
    exact k
end
end Go.Mt
namespace Go.Proofs
open Go.Mt Go.Mk
set_option maxRecDepth 4000
set_option linter.unusedSimpArgs false
set_option linter.unusedVariables false

/-- a call beside a list that grows -/
theorem genCall {P : Program} {f : Nat} {ms : List M} {v : D} {subs : Nat} {main : Bool} {g g' : GS} {r : M} (hms : (ms.all (mbb 2)) = true) (hc : CT P f ms (GH v subs main g) fun r' K' => r' = r ∧ K' = GH v subs main g') (n : Nat) (rs : List (List D)) :
    CT P f ms (genH (GH v subs main g) n rs) fun r' K' => r' = r ∧ K' = genH (GH v subs main g') n rs := by
  have h2 := CT.suffix (genT n rs) (H := GH v subs main g) (gh_hb v subs main g) (fun m hm => mbb_ok (List.all_eq_true.1 hms m hm)) (hc.mono fun r' K' ⟨a, b⟩ => (⟨by rw [b]; rfl, a, b⟩ : K'.length = (GH v subs main g).length ∧ (r' = r ∧ K' = GH v subs main g')))
  rw [genH_eq, genH_eq]
  refine h2.mono ?_
  rintro r' k ⟨H', rfl, _, rfl, rfl⟩
  exact ⟨rfl, rfl⟩
theorem gh_end (v : D) (subs : Nat) (main : Bool) (g : GS) (n : Nat) (rs : List (List D)) : 2 ≤ (genH (GH v subs main g) n rs).length ∧ HB 2 ((genH (GH v subs main g) n rs).take 2) ∧ (genH (GH v subs main g) n rs).take 2 = GH v subs main g := by
  have h1 := genH_len (GH v subs main g) n rs
  have h2 := genH_take (GH v subs main g) n rs
  exact ⟨h1, by rw [show (2 : Nat) = (GH v subs main g).length from rfl, h2]; exact gh_hb _ _ _ _, h2⟩
section
variable {zs : List Int} {v : D} (ht : Tape zs v) (subs : Nat) (main : Bool)
include ht
theorem less_dt (outs : List Va) (hl : outs.length ≤ 1000) (g : GS) (hg : g.i ≤ zs.length) : DT Try.prog 125 [.ref 1 0, .d (.sl (vasC outs))] (GH v subs main g) fun r K => ∃ (l : List Va) (g' : GS), r = .d (.sl (vasC l)) ∧ K = GH v subs main g' ∧ Mv zs g g' ∧ LS outs l := by
  refine DT.drop 2 (Nat.le_refl _) ?_
  refine DT.of_body Try.func125 rfl Try.ntmps125 rfl ?_
  repeat refine DC.seq ?_
  apply DC.regionX
  · intro s0 Oo
    refine t_assign rfl rfl ?_
    exact TL.nil rfl
  repeat refine DC.seq ?_
  apply DC.regionX
  · intro s0 Oo
    refine t_assign rfl rfl ?_
    exact TL.nil rfl
  repeat refine DC.seq ?_
  apply DC.regionX
  · intro s0 Oo
    refine t_assign rfl rfl ?_
    exact TL.nil rfl
  refine DC.rename [(6, .m (.d (.int .i64 ((0 : Nat) : Int)))), (5, .m (genM 2 (vasC []))), (1, .m (.d (.sl (vasC outs)))), (0, .m (.ref 1 0))] (genH (GH v subs main g) 15 (vasC [])) ⟨rfl, rfl, rfl, rfl, trivial⟩ rfl ?_
  repeat refine DC.seq ?_
  refine DC.block ?_
  refine DC.loop (fun k s => ∃ (i : Nat) (l : List Va) (g' : GS), s = ⟨[(6, .m (.d (.int .i64 (i : Int)))), (5, .m (genM 2 (vasC l))), (1, .m (.d (.sl (vasC outs)))), (0, .m (.ref 1 0))], [], genH (GH v subs main g') 15 (vasC l)⟩ ∧ i ≤ outs.length ∧ LS (outs.take i) l ∧ Mv zs g g' ∧ k = outs.length - i) outs.length _
    ⟨0, [], g, rfl, by omega, .nil, ⟨rfl, rfl, Nat.le_refl _, hg⟩, rfl⟩ ⟨rfl, rfl, rfl, rfl, trivial⟩ ?_
  rintro k s ⟨i, l, g1, rfl, hi, hls, hm, rfl⟩
  repeat refine DC.seq ?_
  apply DC.regionX
  · intro s0 Oo
    refine t_move rfl rfl ?_
    refine t_move rfl rfl ?_
    (refine t_lenS rfl rfl rfl ?_; rw [vasC_len])
    refine t_int rfl rfl rfl rfl ?_
    exact TL.nil rfl
  repeat refine DC.seq ?_
  refine DC.cond rfl (fun hc => ?_) (fun hc => ?_)
  · have hc' : i < outs.length := by have := of_decide_eq_true hc; omega
    clear hc
    have hget := vasC_get hc'
    have htk : outs.take (i + 1) = outs.take i ++ [outs[i]] := List.take_succ_eq_append_getElem hc'
    generalize outs[i] = w at hget htk
    have hll := hls.len
    rw [List.length_take] at hll
    obtain ⟨x0, x1, x2, x3, x4, x5, x6, x7, hw, _⟩ := va_shape w
    have hv1 : vasC (l ++ [w]) = vasC l ++ [w.cells] := by rw [vasC_append]; rfl
    rw [hw] at hget hv1
    obtain ⟨r, K, ⟨j, g2, rfl, rfl, hr⟩, hc⟩ := next_dt ht subs main 2 (by omega) (by omega) g1 hm.le
    have hcg := genCall rfl hc 15 (vasC l)
    have hm2 := hr.mv
    refine DC.skip ?_
    repeat refine DC.seq ?_
    refine DC.block ?_
    cases hlast : w.last with
    | false =>
      rw [hlast] at hget hv1
      repeat refine DC.seq ?_
      apply DC.regionX
      · intro s0 Oo
        refine t_move rfl rfl ?_
        refine t_move rfl rfl ?_
        refine t_indexD rfl rfl rfl (Int.natCast_nonneg i) hget rfl ?_
        refine t_fieldD rfl rfl ?_
        refine t_loadDc rfl rfl rfl ?_
        refine t_not rfl rfl ?_
        refine t_move rfl rfl ?_
        refine t_guard_no rfl rfl ?_
        refine t_guard_no rfl rfl ?_
        refine t_guard_no rfl rfl ?_
        refine t_guard_no rfl rfl ?_
        refine t_guard_no rfl rfl ?_
        refine t_guard_no rfl rfl ?_
        refine t_pick rfl rfl rfl ?_
        exact TL.nil rfl
      repeat refine DC.seq ?_
      refine DC.cond rfl (fun hc => ?_) (fun hc => by cases hc)
      repeat refine DC.seq ?_
      apply DC.regionX
      · intro s0 Oo
        refine t_move rfl rfl ?_
        refine t_move rfl rfl ?_
        refine t_move rfl rfl ?_
        refine t_indexD rfl rfl rfl (Int.natCast_nonneg i) hget rfl ?_
        refine t_loadDw rfl rfl rfl ?_
        refine t_buildSlice rfl rfl rfl rfl rfl rfl rfl rfl ?_
        refine t_snoc (H0 := GH v subs main g1) rfl rfl rfl rfl (by rfl) rfl (by rw [vasC_len]; omega) (by rw [vasC_len]; omega) ?_
        refine t_assign rfl rfl ?_
        exact TL.nil rfl
      repeat refine DC.seq ?_
      apply DC.regionX
      · intro s0 Oo
        refine t_move rfl rfl ?_
        refine t_add64 rfl rfl rfl (by omega) ?_
        refine t_assign rfl rfl ?_
        exact TL.nil rfl
      exact againD (k' := outs.length - (i + 1)) (by omega) ⟨i + 1, l ++ [w], g1, rfl, by omega, by rw [htk]; exact .keep hls w, hm, rfl⟩ (by rw [hv1]; rfl) ⟨by simp; rfl, by rw [hv1]; rfl, rfl, rfl, trivial⟩
    | true =>
      rw [hlast] at hget hv1
      rcases Nat.eq_zero_or_pos j with rfl | hj
      · repeat refine DC.seq ?_
        apply DC.regionX
        · intro s0 Oo
          refine t_move rfl rfl ?_
          refine t_move rfl rfl ?_
          refine t_indexD rfl rfl rfl (Int.natCast_nonneg i) hget rfl ?_
          refine t_fieldD rfl rfl ?_
          refine t_loadDc rfl rfl rfl ?_
          refine t_not rfl rfl ?_
          refine t_move rfl rfl ?_
          refine t_guard_yes rfl ?_; refine t_move rfl rfl ?_
          refine t_guard_yes rfl ?_; refine t_nilCheck rfl rfl rfl ?_
          refine t_guard_yes rfl ?_; refine t_fieldR rfl rfl ?_
          refine t_guard_yes rfl ?_; refine t_loadRc rfl rfl ((genH_get _ _ _ 1 (Nat.le_refl _)).trans rfl) rfl ?_
          refine t_guard_yes rfl ?_; refine t_callD hcg rfl rfl ?_
          refine t_guard_yes rfl ?_; refine t_int rfl rfl rfl rfl ?_
          refine t_pick rfl rfl rfl ?_
          exact TL.nil rfl
        repeat refine DC.seq ?_
        refine DC.cond rfl (fun hc => ?_) (fun hc => by cases hc)
        repeat refine DC.seq ?_
        apply DC.regionX
        · intro s0 Oo
          refine t_move rfl rfl ?_
          refine t_move rfl rfl ?_
          refine t_move rfl rfl ?_
          refine t_indexD rfl rfl rfl (Int.natCast_nonneg i) hget rfl ?_
          refine t_loadDw rfl rfl rfl ?_
          refine t_buildSlice rfl rfl rfl rfl rfl rfl rfl rfl ?_
          refine t_snoc (H0 := GH v subs main g2) rfl rfl rfl rfl (by rfl) rfl (by rw [vasC_len]; omega) (by rw [vasC_len]; omega) ?_
          refine t_assign rfl rfl ?_
          exact TL.nil rfl
        repeat refine DC.seq ?_
        apply DC.regionX
        · intro s0 Oo
          refine t_move rfl rfl ?_
          refine t_add64 rfl rfl rfl (by omega) ?_
          refine t_assign rfl rfl ?_
          exact TL.nil rfl
        exact againD (k' := outs.length - (i + 1)) (by omega) ⟨i + 1, l ++ [w], g2, rfl, by omega, by rw [htk]; exact .keep hls w, hm.trans hm2, rfl⟩ (by rw [hv1]; rfl) ⟨by simp; rfl, by rw [hv1]; rfl, rfl, rfl, trivial⟩
      · have hb : (((j : Nat) : Int) == 0) = false := beq_eq_false_iff_ne.2 (by omega)
        repeat refine DC.seq ?_
        apply DC.regionX
        · intro s0 Oo
          refine t_move rfl rfl ?_
          refine t_move rfl rfl ?_
          refine t_indexD rfl rfl rfl (Int.natCast_nonneg i) hget rfl ?_
          refine t_fieldD rfl rfl ?_
          refine t_loadDc rfl rfl rfl ?_
          refine t_not rfl rfl ?_
          refine t_move rfl rfl ?_
          refine t_guard_yes rfl ?_; refine t_move rfl rfl ?_
          refine t_guard_yes rfl ?_; refine t_nilCheck rfl rfl rfl ?_
          refine t_guard_yes rfl ?_; refine t_fieldR rfl rfl ?_
          refine t_guard_yes rfl ?_; refine t_loadRc rfl rfl ((genH_get _ _ _ 1 (Nat.le_refl _)).trans rfl) rfl ?_
          refine t_guard_yes rfl ?_; refine t_callD hcg rfl rfl ?_
          refine t_guard_yes rfl ?_; refine t_int rfl rfl rfl (r := .bool false) (by show some (D.bool (((j : Nat) : Int) == 0)) = _; rw [hb]) ?_
          refine t_pick rfl rfl rfl ?_
          exact TL.nil rfl
        repeat refine DC.seq ?_
        refine DC.cond rfl (fun hc => by cases hc) (fun hc => ?_)
        refine DC.skip ?_
        repeat refine DC.seq ?_
        apply DC.regionX
        · intro s0 Oo
          refine t_move rfl rfl ?_
          refine t_add64 rfl rfl rfl (by omega) ?_
          refine t_assign rfl rfl ?_
          exact TL.nil rfl
        exact againD (k' := outs.length - (i + 1)) (by omega) ⟨i + 1, l, g2, rfl, by omega, by rw [htk]; exact .drop hls w hlast, hm.trans hm2, rfl⟩ rfl ⟨by simp; rfl, rfl, rfl, rfl, trivial⟩
  · refine DC.exit ?_
    have hc' : i = outs.length := by have := of_decide_eq_false hc; omega
    subst hc'
    rw [List.take_length] at hls
    obtain ⟨e1, e2, e3⟩ := gh_end v subs main g1 15 (vasC l)
    repeat refine DC.seq ?_
    apply DC.regionX
    · intro s0 Oo
      refine t_move rfl rfl ?_
      refine t_assign rfl rfl ?_
      exact TL.nil rfl
    refine DC.viewSlot 4 rfl (gen_view (GH v subs main g1) 15 (vasC l) (vasC_lens l)) ?_
    exact DC.ret ⟨_, rfl, e1, .d _, e2, l, g1, rfl, e3, hm, hls⟩
end
end Go.Proofs
