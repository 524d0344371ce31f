/- Calls, samplings. (Printed by gen_MkJ.py.) -/
import Derived.Test.YtcmjcdiaidalgaaMkI
set_option linter.unusedVariables false
set_option linter.unusedSimpArgs false
set_option linter.unusedSectionVars false
namespace Go.Mt
section
variable {P : Program} {n B : Nat} {post : Exit → St → Prop} {sl : List (Nat × V)} {bx : List (Nat × List M)} {H : Hp}
theorem DC.freezeRow {c : Code} (j : Nat) {ec ver : Nat} {cs : List M} (hH : H[j]? = some (.row false ec ver cs)) (k : DC P n B c ⟨sl, bx, H.set j (.row true ec ver cs)⟩ post) : DC P n B c ⟨sl, bx, H⟩ post :=
  DC.weakInv _ (fun _ _ _ a w hi => hi.freezeRow hH) k
end
theorem rowView {H : Hp} {i ver k n : Nat} {rs : List (List D)} (hH : H[i]? = some (.row true n ver (flatM rs))) (hk : k = rs.length) (h0 : rs ≠ []) (hl : ∀ r ∈ rs, r.length = n) : viewV H (.rsl i ver k) = some (.sl rs) :=
  Acc.view (n := n) (i := i) (.inr ⟨h0, ver, by rw [hk], hH⟩) hl
section
variable {X : Ctx} {ops : Array Oper} {rest : List Oper} {sl : List (Nat × V)} {bx : List (Nat × List M)} {H : Hp} {postF : List Ef → St → Prop} {d ty : Nat} {pos : String} {af : Array Edge}
theorem f_buildRow {T e n len : Nat} {parts : List (Nat × Operand)} {z : D} {ms : List (Nat × M)} {cs : List M} [ht : TySlice X.P T e] [hs : TySz X.P e n] [hz : TyZ X.P e z] (hn : Nat.blt d X.n = true) (h0 : Nat.blt 0 n = true) (hzl : (dcells z).length = n)
    (hle : Nat.ble (len * n) 16777216 = true) (he : evPartsO sl parts = some ms) (hf : fillM (fun i => some (i * n, n)) (zlist n len (dcells z)) ms = some cs)
    (k : TF X ops rest ⟨(d, .m (.rsl H.length 0 len)) :: sl, bx, H ++ [Ob.row false n 0 cs]⟩ fun es zz => postF (⟨some d, .m (.rsl H.length 0 len), [], [], none, true, some (H ++ [Ob.row false n 0 cs])⟩ :: es) zz) : TF X ops (⟨some d, .buildSlice T len parts.toArray, ty, pos, af, none⟩ :: rest) ⟨sl, bx, H⟩ postF := by
  refine TF.cons (e := ⟨some d, .m (.rsl H.length 0 len), [], [], none, true, some (H ++ [Ob.row false n 0 cs])⟩) (StepF.heapW rfl rfl (blt_lt hn) fun st2 ag => ?_) rfl k
  have hst := ag.H rfl
  simp only at hst
  exact op_buildSliceP h0 hzl hle (by rw [ag.evParts (fun p hp => by simp [Op.operands]; exact ⟨_, hp⟩), evPartsO_eq]; exact he) hf (.inl ⟨by rw [hst], by rw [hst]⟩)
end
end Go.Mt
namespace Go.Proofs
open Go.Mt Go.Mk
set_option maxRecDepth 4000
set_option linter.unusedSimpArgs false
set_option linter.unusedVariables false

instance : IsFn Try.prog 68 := isFn_of (by kernel_rfl)
instance : IsFn Try.prog 71 := isFn_of (by kernel_rfl)
instance : IsFn Try.prog 103 := isFn_of (by kernel_rfl)
instance : IsFn Try.prog 104 := isFn_of (by kernel_rfl)
theorem eqsC_len (l : List Eqn) : (eqsC l).length = l.length := by rw [eqsC_map]; simp
theorem eqsC_lens (l : List Eqn) : ∀ r ∈ eqsC l, r.length = 16 := by rw [eqsC_map]; intro r hr; obtain ⟨_, _, rfl⟩ := List.mem_map.1 hr; exact Eqn.len _
theorem eqsC_append (a b : List Eqn) : eqsC (a ++ b) = eqsC a ++ eqsC b := by rw [eqsC_map, eqsC_map, eqsC_map]; simp
theorem list16 {l : List D} (h : l.length = 16) : ∃ a0 a1 a2 a3 a4 a5 a6 a7 a8 a9 b0 b1 b2 b3 b4 b5, l = [a0, a1, a2, a3, a4, a5, a6, a7, a8, a9, b0, b1, b2, b3, b4, b5] := by
  match l, h with
  | [a0, a1, a2, a3, a4, a5, a6, a7, a8, a9, b0, b1, b2, b3, b4, b5], _ => exact ⟨_, _, _, _, _, _, _, _, _, _, _, _, _, _, _, _, rfl⟩
def SubR (subs : Nat) : Nat → Sc → List Va → Nat → Nat → Blk → Prop
  | 0 => fun _ _ _ _ _ => False
  | d + 1 => GB subs d
def qP : Nat → Int
  | 0 => 0
  | d + 1 => qB d
/-- a call beside what lies behind -/
theorem sufCall {P : Program} {f : Nat} {ms : List M} {v : D} {subs : Nat} {main : Bool} {g g' : GS} {r : M} (hms : (ms.all (mbb 2)) = true) (hc : CT P f ms (GH v subs main g) fun r' K' => r' = r ∧ K' = GH v subs main g') (F : Hp) :
    CT P f ms (GH v subs main g ++ F) fun r' K' => r' = r ∧ K' = GH v subs main g' ++ F := by
  have h2 := CT.suffix F (H := GH v subs main g) (gh_hb v subs main g) (fun m hm => mbb_ok (List.all_eq_true.1 hms m hm)) (hc.mono fun r' K' ⟨a, b⟩ => (⟨by rw [b]; rfl, a, b⟩ : K'.length = (GH v subs main g).length ∧ (r' = r ∧ K' = GH v subs main g')))
  refine h2.mono ?_
  rintro r' k ⟨H', rfl, _, rfl, rfl⟩
  exact ⟨rfl, rfl⟩
section
variable (zs : List Int) (v : D) (subs : Nat) (main : Bool)
def EqsOk (dp c : Nat) : Prop := ∀ (s : Sc), s.ready.length + 2 * c ≤ 900 - 200 * dp → s.all.length ≤ 1000 → s.lasts.length ≤ 900 - 200 * dp → ∀ (outs : List Va), outs.length ≤ 3 → ∀ (g : GS), g.i ≤ zs.length → g.n ≤ 3 * g.i → g.q ≤ c → -300000 ≤ g.q → g.q ≤ 14 →
  DT Try.prog 71 [.ref 1 0, .d (.agg s.cells), .d (.sl (vasC outs)), .d (.int .i64 ((dp : Nat) : Int))] (GH v subs main g) fun r K => ∃ (q : List Eqn) (vs : List Va) (g' : GS), r = .tup [.d (.sl (eqsC q)), .d (.sl (vasC vs))] ∧ K = GH v subs main g' ∧ GQ (SubR subs dp) subs s outs g.n g'.n q vs ∧ q.length ≤ 3 * c + 3 ∧ vs.length ≤ 3 * c ∧ Bm zs (1 + 3 * qP dp) g g'
end
section
variable {zs : List Int} {v : D} (ht : Tape zs v) (subs : Nat) (main : Bool)
include ht
theorem call_dt (dp c : Nat) (hD : dp ≤ 3) (hc14 : c ≤ 14) (ih : EqsOk zs v subs main dp c) (s : Sc) (hr : s.ready.length + 2 * c + 2 ≤ 900 - 200 * dp) (ha : s.all.length ≤ 1000) (hla : s.lasts.length ≤ 900 - 200 * dp) (outs : List Va) (ho : outs.length ≤ 3) (hsub : 0 < subs) (hsub2 : subs ≤ 10)
    (g : GS) (hg : g.i ≤ zs.length) (hn : g.n + 3 ≤ 3 * g.i) (hq0 : 0 < g.q) (hq1 : g.q ≤ c) :
    DT Try.prog 103 [.ref 1 0, .d (.agg s.cells), .d (.sl (vasC outs)), .d (.int .i64 ((dp : Nat) : Int))] (GH v subs main g) fun r K => ∃ (q : List Eqn) (vs : List Va) (g' : GS), r = .tup [.d (.sl (eqsC q)), .d (.sl (vasC vs))] ∧ K = GH v subs main g' ∧ GQ (SubR subs dp) subs s outs g.n g'.n q vs ∧ q.length ≤ 3 * (c + 1) + 3 ∧ vs.length ≤ 3 * (c + 1) ∧ Bm zs (1 + 3 * qP dp) g g' := by
  have hL := ht.hl
  obtain ⟨gi, gn, gq⟩ := g
  simp only at hg hn hq0 hq1
  have hsb : ScB s := ⟨by omega, by omega, by omega⟩
  obtain ⟨r1, K1, ⟨rfl, rfl⟩, hc1⟩ := name_dt ht subs main 117 ⟨gi, gn, gq⟩ hg (by simp only; omega)
  obtain ⟨r2, K2, ⟨rfl, rfl⟩, hc2⟩ := name_dt ht subs main 117 ⟨gi, gn + 1, gq⟩ hg (by simp only; omega)
  obtain ⟨r3, K3, ⟨j, g3, rfl, rfl, hr3⟩, hc3⟩ := next_dt ht subs main subs hsub (by omega) ⟨gi, gn + 2, gq⟩ hg
  have hm3 := hr3.mv
  have hj := hr3.lt
  have hdg := digits_pt (j + 1) j (by omega) (by omega)
  have hds := dg_size j
  obtain ⟨r4, K4, ⟨a, g4, rfl, rfl, hga, hm4⟩, hc4⟩ := expr_dt ht subs main 2 (by omega) s hsb .int true g3 hm3.le
  obtain ⟨ka, opa, na, sa, aa, ba, h4⟩ := a.shape
  rw [h4] at hc4
  obtain ⟨r5, K5, ⟨b, g5, rfl, rfl, hgb, hm5⟩, hc5⟩ := expr_dt ht subs main 2 (by omega) s hsb .bool true g4 hm4.le
  obtain ⟨kb, opb, nb, sb, ab, bb, h5⟩ := b.shape
  rw [h5] at hc5
  obtain ⟨r6, K6, ⟨j6, g6, rfl, rfl, hr6⟩, hc6⟩ := next_dt ht subs main 3 (by omega) (by omega) g5 hm5.le
  have hm6 := hr6.mv
  have hm36 := hm3.trans (hm4.trans (hm5.trans hm6))
  have e6n := hm36.n
  have e6q := hm36.q
  have e6i := hm36.i
  simp only at e6n e6q e6i
  have x1 : newV 117 (gn + 1) .int = ⟨nm 117 (gn + 1), .int, none, false, .nil⟩ := rfl
  have hmore := more_pt s [newV 117 (gn + 1) .int, newV 117 (gn + 2) .col] (by omega) (by simp)
  rcases Nat.eq_zero_or_pos j6 with h60 | h60
  · skip
    subst h60
    obtain ⟨r7, K7, ⟨e, g7, rfl, rfl, hge, hm7⟩, hc7⟩ := expr_dt ht subs main 2 (by omega) s hsb .bool true g6 hm6.le
    obtain ⟨ke, ope, ne, se, ae, be, h7⟩ := e.shape
    rw [h7] at hc7
    have e7n := hm7.n
    have e7q := hm7.q
    have e7i := hm7.i
    obtain ⟨r8, K8, ⟨ql, vs, g8, rfl, rfl, hgq, hql, hvl, hbm⟩, hc8⟩ := ih (s.more [newV 117 (gn + 1) .int, newV 117 (gn + 2) .col]) (by simp only [Sc.more, List.length_append, List.length_cons, List.length_nil]; omega) ha hla outs ho g7 hm7.le (by omega) (by omega) (by omega) (by omega)
    have hqb := hbm.q0
    refine DT.drop 2 (Nat.le_refl _) ?_
    refine DT.of_body Try.func103 rfl Try.ntmps103 rfl ?_
    repeat refine DC.seq ?_
    apply DC.regionX
    · intro s0 Oo
      refine t_box rfl rfl ?_
      refine t_assign rfl rfl ?_
      refine t_assign rfl rfl ?_
      exact TL.nil rfl
    repeat refine DC.seq ?_
    apply DC.regionX
    · intro s0 Oo
      refine t_move rfl rfl ?_
      refine t_callD hc1 rfl rfl ?_
      refine t_call1 tInt_pt rfl rfl ?_
      refine t_build rfl rfl rfl rfl rfl ?_
      refine t_alloc rfl rfl ?_
      refine t_storeL rfl rfl rfl rfl rfl rfl ?_
      exact TL.nil rfl
    repeat refine DC.seq ?_
    apply DC.regionX
    · intro s0 Oo
      refine t_move rfl rfl ?_
      refine t_callD hc2 rfl rfl ?_
      refine t_call1 tCol_pt rfl rfl ?_
      refine t_build rfl rfl rfl rfl rfl ?_
      refine t_alloc rfl rfl ?_
      refine t_storeL rfl rfl rfl rfl rfl rfl ?_
      exact TL.nil rfl
    repeat refine DC.seq ?_
    apply DC.drawX mixed
    · intro s0 Oo
      refine f_move rfl rfl ?_
      refine f_nilCheck rfl rfl rfl ?_
      refine f_fieldR rfl rfl ?_
      refine f_loadRc rfl rfl rfl rfl ?_
      refine f_move rfl rfl ?_
      refine f_nilCheck rfl rfl rfl ?_
      refine f_fieldR rfl rfl ?_
      refine f_loadRc rfl rfl rfl rfl ?_
      refine f_callR hc3 rfl rfl ?_
      refine f_call1 hdg rfl rfl ?_
      refine f_stradd rfl rfl rfl (by have : (⟨#[102]⟩ : ByteArray).size = 1 := rfl; omega) ?_
      refine f_fieldL rfl rfl ?_
      refine f_loadLc rfl rfl rfl rfl ?_
      refine f_fieldL rfl rfl ?_
      refine f_loadLc rfl rfl rfl rfl ?_
      refine f_buildSlice rfl rfl rfl rfl rfl rfl rfl rfl ?_
      refine f_build rfl rfl rfl rfl rfl ?_
      refine f_alloc rfl ?_
      refine f_storeL rfl rfl rfl rfl rfl rfl ?_
      exact TF.nil ⟨by kernel_rfl, rfl⟩
    repeat refine DC.seq ?_
    apply DC.drawX mixed
    · intro s0 Oo
      refine f_move rfl rfl ?_
      refine f_loadDw rfl rfl rfl ?_
      refine f_call1 tInt_pt rfl rfl ?_
      refine f_callR hc4 rfl rfl ?_
      refine f_move rfl rfl ?_
      refine f_loadDw rfl rfl rfl ?_
      refine f_call1 tBool_pt rfl rfl ?_
      refine f_callR hc5 rfl rfl ?_
      refine f_buildSlice rfl rfl rfl rfl rfl rfl rfl rfl ?_
      refine f_fieldL rfl rfl ?_
      refine f_storeL rfl rfl rfl rfl rfl rfl ?_
      exact TF.nil ⟨by kernel_rfl, rfl⟩
    repeat refine DC.seq ?_
    apply DC.regionX
    · intro s0 Oo
      refine t_move rfl rfl ?_
      refine t_nilCheck rfl rfl rfl ?_
      refine t_fieldR rfl rfl ?_
      refine t_loadRc rfl rfl rfl rfl ?_
      refine t_callD hc6 rfl rfl ?_
      refine t_int rfl rfl rfl rfl ?_
      exact TL.nil rfl
    repeat refine DC.seq ?_
    refine DC.cond rfl (fun hc => ?_) (fun hc => by cases hc)
    repeat refine DC.seq ?_
    apply DC.regionX
    · intro s0 Oo
      refine t_fieldL rfl rfl ?_
      refine t_storeL rfl rfl rfl rfl rfl rfl ?_
      exact TL.nil rfl
    repeat refine DC.seq ?_
    apply DC.drawX mixed
    · intro s0 Oo
      refine f_move rfl rfl ?_
      refine f_loadDw rfl rfl rfl ?_
      refine f_call1 tBool_pt rfl rfl ?_
      refine f_callR hc7 rfl rfl ?_
      refine f_fieldL rfl rfl ?_
      refine f_storeL rfl rfl rfl rfl rfl rfl ?_
      exact TF.nil ⟨by kernel_rfl, rfl⟩
    repeat refine DC.seq ?_
    apply DC.regionX
    · intro s0 Oo
      refine t_move rfl rfl ?_
      refine t_loadDw rfl rfl rfl ?_
      refine t_loadLa rfl rfl rfl rfl rfl ?_
      refine t_loadLa rfl rfl rfl rfl rfl ?_
      refine t_buildSlice rfl rfl rfl rfl rfl rfl rfl rfl ?_
      refine t_call1 hmore rfl rfl ?_
      refine t_move rfl rfl ?_
      refine t_move rfl rfl ?_
      refine t_callD hc8 rfl rfl ?_
      refine t_move rfl rfl ?_
      refine t_extract rfl rfl rfl ?_
      refine t_extract rfl rfl rfl ?_
      refine t_assign rfl rfl ?_
      refine t_assign rfl rfl ?_
      exact TL.nil rfl
    have hrow : (Eqn.call (nm 117 (gn + 1)) (nm 117 (gn + 2)) (nm 102 j) a b true e).cells = [.int .u8 2, .sl [[.str (nm 117 (gn + 1))], [.str (nm 117 (gn + 2))]], .str (nm 102 j), .sl [exC ka opa na sa aa ba, exC kb opb nb sb ab bb], .bool true, .int .u8 ke, .int .u8 ope, .int .i32 ne, .str se, .sl ae, .sl be, .int .i64 0, .int .i64 0, .sl [], .int .i64 0, .int .i64 0] := by rw [Eqn.cells, h4, h5, h7]; rfl
    repeat refine DC.seq ?_
    apply DC.regionX
    · intro s0 Oo
      refine t_assign rfl rfl ?_
      exact TL.nil rfl
    repeat refine DC.seq ?_
    apply DC.regionX
    · intro s0 Oo
      refine t_move rfl rfl ?_
      refine t_loadLa rfl rfl rfl rfl rfl ?_
      refine t_buildSlice rfl rfl rfl rfl rfl rfl rfl rfl ?_
      refine t_append0 true rfl rfl rfl rfl (by rfl) (by simp) (by exact one_len rfl) (by exact nat_le rfl) ?_
      refine t_assign rfl rfl ?_
      exact TL.nil rfl
    repeat refine DC.seq ?_
    apply DC.regionX
    · intro s0 Oo
      refine t_move rfl rfl ?_
      refine t_move rfl rfl ?_
      refine t_appendR (cs := flatM [[.int .u8 2, .sl [[.str (nm 117 (gn + 1))], [.str (nm 117 (gn + 2))]], .str (nm 102 j), .sl [exC ka opa na sa aa ba, exC kb opb nb sb ab bb], .bool true, .int .u8 ke, .int .u8 ope, .int .i32 ne, .str se, .sl ae, .sl be, .int .i64 0, .int .i64 0, .sl [], .int .i64 0, .int .i64 0]]) rfl rfl rfl rfl rfl (eqsC_lens ql) (by rw [eqsC_len]; simp only [List.length_singleton]; omega) (by rw [eqsC_len]; simp only [List.length_singleton]; omega) ?_
      refine t_assign rfl rfl ?_
      exact TL.nil rfl
    repeat refine DC.seq ?_
    apply DC.regionX
    · intro s0 Oo
      refine t_assign rfl rfl ?_
      exact TL.nil rfl
    repeat refine DC.seq ?_
    apply DC.regionX
    · intro s0 Oo
      refine t_move rfl rfl ?_
      refine t_loadLa rfl rfl rfl rfl rfl ?_
      refine t_loadLa rfl rfl rfl rfl rfl ?_
      refine t_buildSlice rfl rfl rfl rfl rfl rfl rfl rfl ?_
      refine t_append0 true rfl rfl rfl rfl (by rfl) (by simp) (by intro r hr; simp only [List.mem_cons, List.not_mem_nil, or_false] at hr; rcases hr with rfl|rfl <;> rfl) (by exact nat_le rfl) ?_
      refine t_assign rfl rfl ?_
      exact TL.nil rfl
    repeat refine DC.seq ?_
    apply DC.regionX
    · intro s0 Oo
      refine t_move rfl rfl ?_
      refine t_move rfl rfl ?_
      refine t_move rfl rfl ?_
      refine t_appendR (cs := flatM (vasC [newV 117 (gn + 1) .int, newV 117 (gn + 2) .col])) rfl rfl rfl rfl rfl (vasC_lens vs) (by rw [vasC_len]; simp only [List.length_cons, List.length_nil]; omega) (by rw [vasC_len]; simp only [List.length_cons, List.length_nil]; omega) ?_
      refine t_assign rfl rfl ?_
      refine t_assign rfl rfl ?_
      exact TL.nil rfl
    refine DC.rename [(8, .m (.rsl 2 1 (1 + (eqsC ql).length))), (9, .m (.rsl 3 1 (2 + (vasC vs).length)))] (GH v subs main g8 ++ [.row true 16 1 (flatM ([.int .u8 2, .sl [[.str (nm 117 (gn + 1))], [.str (nm 117 (gn + 2))]], .str (nm 102 j), .sl [exC ka opa na sa aa ba, exC kb opb nb sb ab bb], .bool true, .int .u8 ke, .int .u8 ope, .int .i32 ne, .str se, .sl ae, .sl be, .int .i64 0, .int .i64 0, .sl [], .int .i64 0, .int .i64 0] :: eqsC ql)), .row true 15 1 (flatM (vasC (newV 117 (gn + 1) .int :: newV 117 (gn + 2) .col :: vs)))]) ⟨rfl, rfl, trivial⟩ rfl ?_
    refine DC.viewSlot 8 rfl (rowView rfl (by simp only [List.length_cons]; omega) (by simp) (by rw [← hrow]; exact eqsC_lens (.call (nm 117 (gn + 1)) (nm 117 (gn + 2)) (nm 102 j) a b true e :: ql))) ?_
    refine DC.viewSlot 9 rfl (rowView rfl (by simp only [vasC_len, List.length_cons]; omega) (by simp [vasC]) (vasC_lens _)) ?_
    refine DC.ret ⟨_, rfl, nat_le rfl, mbb_ok rfl, gh_hb v subs main g8, .call (nm 117 (gn + 1)) (nm 117 (gn + 2)) (nm 102 j) a b true e :: ql, newV 117 (gn + 1) .int :: newV 117 (gn + 2) .col :: vs, g8, by rw [eqsC, hrow]; rfl, rfl, ?_, by simp only [List.length_cons]; omega, by simp only [List.length_cons]; omega, ⟨by have := hbm.i; simp only; omega, hbm.le, by have := hbm.n; simp only; omega, hbm.pay, by simp only; omega, by have := hbm.q1; simp only; omega⟩⟩
    refine .call j hj a b hga hgb _ _ (.inr ⟨rfl, hge⟩) ?_
    have e2 : gn + 2 = g7.n := by omega
    rw [e2]; rw [e2] at hgq; exact hgq
  · skip
    have hb6 : (((j6 : Nat) : Int) == 0) = false := beq_eq_false_iff_ne.2 (by omega)
    have hm7 : Mv zs g6 g6 := ⟨rfl, rfl, Nat.le_refl _, hm6.le⟩
    have e7n := hm7.n
    have e7q := hm7.q
    have e7i := hm7.i
    obtain ⟨r8, K8, ⟨ql, vs, g8, rfl, rfl, hgq, hql, hvl, hbm⟩, hc8⟩ := ih (s.more [newV 117 (gn + 1) .int, newV 117 (gn + 2) .col]) (by simp only [Sc.more, List.length_append, List.length_cons, List.length_nil]; omega) ha hla outs ho g6 hm7.le (by omega) (by omega) (by omega) (by omega)
    have hqb := hbm.q0
    refine DT.drop 2 (Nat.le_refl _) ?_
    refine DT.of_body Try.func103 rfl Try.ntmps103 rfl ?_
    repeat refine DC.seq ?_
    apply DC.regionX
    · intro s0 Oo
      refine t_box rfl rfl ?_
      refine t_assign rfl rfl ?_
      refine t_assign rfl rfl ?_
      exact TL.nil rfl
    repeat refine DC.seq ?_
    apply DC.regionX
    · intro s0 Oo
      refine t_move rfl rfl ?_
      refine t_callD hc1 rfl rfl ?_
      refine t_call1 tInt_pt rfl rfl ?_
      refine t_build rfl rfl rfl rfl rfl ?_
      refine t_alloc rfl rfl ?_
      refine t_storeL rfl rfl rfl rfl rfl rfl ?_
      exact TL.nil rfl
    repeat refine DC.seq ?_
    apply DC.regionX
    · intro s0 Oo
      refine t_move rfl rfl ?_
      refine t_callD hc2 rfl rfl ?_
      refine t_call1 tCol_pt rfl rfl ?_
      refine t_build rfl rfl rfl rfl rfl ?_
      refine t_alloc rfl rfl ?_
      refine t_storeL rfl rfl rfl rfl rfl rfl ?_
      exact TL.nil rfl
    repeat refine DC.seq ?_
    apply DC.drawX mixed
    · intro s0 Oo
      refine f_move rfl rfl ?_
      refine f_nilCheck rfl rfl rfl ?_
      refine f_fieldR rfl rfl ?_
      refine f_loadRc rfl rfl rfl rfl ?_
      refine f_move rfl rfl ?_
      refine f_nilCheck rfl rfl rfl ?_
      refine f_fieldR rfl rfl ?_
      refine f_loadRc rfl rfl rfl rfl ?_
      refine f_callR hc3 rfl rfl ?_
      refine f_call1 hdg rfl rfl ?_
      refine f_stradd rfl rfl rfl (by have : (⟨#[102]⟩ : ByteArray).size = 1 := rfl; omega) ?_
      refine f_fieldL rfl rfl ?_
      refine f_loadLc rfl rfl rfl rfl ?_
      refine f_fieldL rfl rfl ?_
      refine f_loadLc rfl rfl rfl rfl ?_
      refine f_buildSlice rfl rfl rfl rfl rfl rfl rfl rfl ?_
      refine f_build rfl rfl rfl rfl rfl ?_
      refine f_alloc rfl ?_
      refine f_storeL rfl rfl rfl rfl rfl rfl ?_
      exact TF.nil ⟨by kernel_rfl, rfl⟩
    repeat refine DC.seq ?_
    apply DC.drawX mixed
    · intro s0 Oo
      refine f_move rfl rfl ?_
      refine f_loadDw rfl rfl rfl ?_
      refine f_call1 tInt_pt rfl rfl ?_
      refine f_callR hc4 rfl rfl ?_
      refine f_move rfl rfl ?_
      refine f_loadDw rfl rfl rfl ?_
      refine f_call1 tBool_pt rfl rfl ?_
      refine f_callR hc5 rfl rfl ?_
      refine f_buildSlice rfl rfl rfl rfl rfl rfl rfl rfl ?_
      refine f_fieldL rfl rfl ?_
      refine f_storeL rfl rfl rfl rfl rfl rfl ?_
      exact TF.nil ⟨by kernel_rfl, rfl⟩
    repeat refine DC.seq ?_
    apply DC.regionX
    · intro s0 Oo
      refine t_move rfl rfl ?_
      refine t_nilCheck rfl rfl rfl ?_
      refine t_fieldR rfl rfl ?_
      refine t_loadRc rfl rfl rfl rfl ?_
      refine t_callD hc6 rfl rfl ?_
      (refine t_int rfl rfl rfl (r := .bool false) (by show some (D.bool (((j6 : Nat) : Int) == 0)) = _; rw [hb6]) ?_)
      exact TL.nil rfl
    repeat refine DC.seq ?_
    refine DC.cond rfl (fun hc => by cases hc) (fun hc => ?_)
    refine DC.skip ?_
    repeat refine DC.seq ?_
    apply DC.regionX
    · intro s0 Oo
      refine t_move rfl rfl ?_
      refine t_loadDw rfl rfl rfl ?_
      refine t_loadLa rfl rfl rfl rfl rfl ?_
      refine t_loadLa rfl rfl rfl rfl rfl ?_
      refine t_buildSlice rfl rfl rfl rfl rfl rfl rfl rfl ?_
      refine t_call1 hmore rfl rfl ?_
      refine t_move rfl rfl ?_
      refine t_move rfl rfl ?_
      refine t_callD hc8 rfl rfl ?_
      refine t_move rfl rfl ?_
      refine t_extract rfl rfl rfl ?_
      refine t_extract rfl rfl rfl ?_
      refine t_assign rfl rfl ?_
      refine t_assign rfl rfl ?_
      exact TL.nil rfl
    have hrow : (Eqn.call (nm 117 (gn + 1)) (nm 117 (gn + 2)) (nm 102 j) a b false .nil).cells = [.int .u8 2, .sl [[.str (nm 117 (gn + 1))], [.str (nm 117 (gn + 2))]], .str (nm 102 j), .sl [exC ka opa na sa aa ba, exC kb opb nb sb ab bb], .bool false, .int .u8 0, .int .u8 0, .int .i32 0, .str ⟨#[]⟩, .sl [], .sl [], .int .i64 0, .int .i64 0, .sl [], .int .i64 0, .int .i64 0] := by rw [Eqn.cells, h4, h5]; rfl
    repeat refine DC.seq ?_
    apply DC.regionX
    · intro s0 Oo
      refine t_assign rfl rfl ?_
      exact TL.nil rfl
    repeat refine DC.seq ?_
    apply DC.regionX
    · intro s0 Oo
      refine t_move rfl rfl ?_
      refine t_loadLa rfl rfl rfl rfl rfl ?_
      refine t_buildSlice rfl rfl rfl rfl rfl rfl rfl rfl ?_
      refine t_append0 true rfl rfl rfl rfl (by rfl) (by simp) (by exact one_len rfl) (by exact nat_le rfl) ?_
      refine t_assign rfl rfl ?_
      exact TL.nil rfl
    repeat refine DC.seq ?_
    apply DC.regionX
    · intro s0 Oo
      refine t_move rfl rfl ?_
      refine t_move rfl rfl ?_
      refine t_appendR (cs := flatM [[.int .u8 2, .sl [[.str (nm 117 (gn + 1))], [.str (nm 117 (gn + 2))]], .str (nm 102 j), .sl [exC ka opa na sa aa ba, exC kb opb nb sb ab bb], .bool false, .int .u8 0, .int .u8 0, .int .i32 0, .str ⟨#[]⟩, .sl [], .sl [], .int .i64 0, .int .i64 0, .sl [], .int .i64 0, .int .i64 0]]) rfl rfl rfl rfl rfl (eqsC_lens ql) (by rw [eqsC_len]; simp only [List.length_singleton]; omega) (by rw [eqsC_len]; simp only [List.length_singleton]; omega) ?_
      refine t_assign rfl rfl ?_
      exact TL.nil rfl
    repeat refine DC.seq ?_
    apply DC.regionX
    · intro s0 Oo
      refine t_assign rfl rfl ?_
      exact TL.nil rfl
    repeat refine DC.seq ?_
    apply DC.regionX
    · intro s0 Oo
      refine t_move rfl rfl ?_
      refine t_loadLa rfl rfl rfl rfl rfl ?_
      refine t_loadLa rfl rfl rfl rfl rfl ?_
      refine t_buildSlice rfl rfl rfl rfl rfl rfl rfl rfl ?_
      refine t_append0 true rfl rfl rfl rfl (by rfl) (by simp) (by intro r hr; simp only [List.mem_cons, List.not_mem_nil, or_false] at hr; rcases hr with rfl|rfl <;> rfl) (by exact nat_le rfl) ?_
      refine t_assign rfl rfl ?_
      exact TL.nil rfl
    repeat refine DC.seq ?_
    apply DC.regionX
    · intro s0 Oo
      refine t_move rfl rfl ?_
      refine t_move rfl rfl ?_
      refine t_move rfl rfl ?_
      refine t_appendR (cs := flatM (vasC [newV 117 (gn + 1) .int, newV 117 (gn + 2) .col])) rfl rfl rfl rfl rfl (vasC_lens vs) (by rw [vasC_len]; simp only [List.length_cons, List.length_nil]; omega) (by rw [vasC_len]; simp only [List.length_cons, List.length_nil]; omega) ?_
      refine t_assign rfl rfl ?_
      refine t_assign rfl rfl ?_
      exact TL.nil rfl
    refine DC.rename [(8, .m (.rsl 2 1 (1 + (eqsC ql).length))), (9, .m (.rsl 3 1 (2 + (vasC vs).length)))] (GH v subs main g8 ++ [.row true 16 1 (flatM ([.int .u8 2, .sl [[.str (nm 117 (gn + 1))], [.str (nm 117 (gn + 2))]], .str (nm 102 j), .sl [exC ka opa na sa aa ba, exC kb opb nb sb ab bb], .bool false, .int .u8 0, .int .u8 0, .int .i32 0, .str ⟨#[]⟩, .sl [], .sl [], .int .i64 0, .int .i64 0, .sl [], .int .i64 0, .int .i64 0] :: eqsC ql)), .row true 15 1 (flatM (vasC (newV 117 (gn + 1) .int :: newV 117 (gn + 2) .col :: vs)))]) ⟨rfl, rfl, trivial⟩ rfl ?_
    refine DC.viewSlot 8 rfl (rowView rfl (by simp only [List.length_cons]; omega) (by simp) (by rw [← hrow]; exact eqsC_lens (.call (nm 117 (gn + 1)) (nm 117 (gn + 2)) (nm 102 j) a b false .nil :: ql))) ?_
    refine DC.viewSlot 9 rfl (rowView rfl (by simp only [vasC_len, List.length_cons]; omega) (by simp [vasC]) (vasC_lens _)) ?_
    refine DC.ret ⟨_, rfl, nat_le rfl, mbb_ok rfl, gh_hb v subs main g8, .call (nm 117 (gn + 1)) (nm 117 (gn + 2)) (nm 102 j) a b false .nil :: ql, newV 117 (gn + 1) .int :: newV 117 (gn + 2) .col :: vs, g8, by rw [eqsC, hrow]; rfl, rfl, ?_, by simp only [List.length_cons]; omega, by simp only [List.length_cons]; omega, ⟨by have := hbm.i; simp only; omega, hbm.le, by have := hbm.n; simp only; omega, hbm.pay, by simp only; omega, by have := hbm.q1; simp only; omega⟩⟩
    refine .call j hj a b hga hgb _ _ (.inl ⟨rfl, rfl⟩) ?_
    have e2 : gn + 2 = g6.n := by omega
    rw [e2]; rw [e2] at hgq; exact hgq
end
end Go.Proofs
