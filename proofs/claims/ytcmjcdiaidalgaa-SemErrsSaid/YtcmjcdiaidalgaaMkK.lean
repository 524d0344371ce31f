/- Samplings. (Printed by gen_MkK.py.) -/
import Derived.Test.YtcmjcdiaidalgaaMkJ
set_option linter.unusedVariables false
set_option linter.unusedSimpArgs false
set_option linter.unusedSectionVars false
namespace Go.Proofs
open Go.Mt Go.Mk
set_option maxRecDepth 4000
set_option linter.unusedSimpArgs false
set_option linter.unusedVariables false

section
variable {zs : List Int} {v : D} (ht : Tape zs v) (subs : Nat) (main : Bool)
include ht
theorem sampled_dt (dp c : Nat) (hD : dp ≤ 3) (hc14 : c ≤ 14) (ih : EqsOk zs v subs main dp c) (s : Sc) (hr : s.ready.length + 2 * c + 2 ≤ 900 - 200 * dp) (ha : s.all.length ≤ 1000) (hla : s.lasts.length ≤ 900 - 200 * dp) (outs : List Va) (ho : outs.length ≤ 3)
    (g : GS) (hg : g.i ≤ zs.length) (hn : g.n + 3 ≤ 3 * g.i) (hq0 : 0 < g.q) (hq1 : g.q ≤ c) :
    DT Try.prog 104 [.ref 1 0, .d (.agg s.cells), .d (.sl (vasC outs)), .d (.int .i64 ((dp : Nat) : Int))] (GH v subs main g) fun r K => ∃ (q : List Eqn) (vs : List Va) (g' : GS), r = .tup [.d (.sl (eqsC q)), .d (.sl (vasC vs))] ∧ K = GH v subs main g' ∧ GQ (SubR subs dp) subs s outs g.n g'.n q vs ∧ q.length ≤ 3 * (c + 1) + 3 ∧ vs.length ≤ 3 * (c + 1) ∧ Bm zs (1 + 3 * qP dp) g g' := by
  have hL := ht.hl
  obtain ⟨gi, gn, gq⟩ := g
  simp only at hg hn hq0 hq1
  have hsb : ScB s := ⟨by omega, by omega, by omega⟩
  obtain ⟨r1, K1, ⟨rfl, rfl⟩, hc1⟩ := name_dt ht subs main 99 ⟨gi, gn, gq⟩ hg (by simp only; omega)
  obtain ⟨r2, K2, ⟨rfl, rfl⟩, hc2⟩ := name_dt ht subs main 119 ⟨gi, gn + 1, gq⟩ hg (by simp only; omega)
  obtain ⟨r3, K3, ⟨rfl, rfl⟩, hc3⟩ := name_dt ht subs main 122 ⟨gi, gn + 2, gq⟩ hg (by simp only; omega)
  obtain ⟨r4, K4, ⟨a, g4, rfl, rfl, hga, hm4⟩, hc4⟩ := expr_dt ht subs main 2 (by omega) s hsb .int false ⟨gi, gn + 3, gq⟩ hg
  obtain ⟨ka, opa, na, sa, aa, ba, h4⟩ := a.shape
  rw [h4] at hc4
  obtain ⟨r5, K5, ⟨b, g5, rfl, rfl, hgb, hm5⟩, hc5⟩ := expr_dt ht subs main 2 (by omega) s hsb .int false g4 hm4.le
  obtain ⟨kb, opb, nb, sb, ab, bb, h5⟩ := b.shape
  rw [h5] at hc5
  obtain ⟨r6, K6, ⟨k, g6, rfl, rfl, hgk, hm6⟩, hc6⟩ := constant_dt ht subs main .int g5 hm5.le
  obtain ⟨kk, opk, nk, sk, ak, bk, h6⟩ := k.shape
  rw [h6] at hc6
  obtain ⟨r7, K7, ⟨k2, g7, rfl, rfl, hgk2, hm7⟩, hc7⟩ := constant_dt ht subs main .int g6 hm6.le
  obtain ⟨kl, opl, nl, sl, al, bl, h7⟩ := k2.shape
  rw [h7] at hc7
  have htw1 := two_pt 7 3 (.var (nm 119 (gn + 2))) (.whn (nm 99 (gn + 1)) redN a)
  have htw2 := two_pt 9 0 k2 (.bin 3 (.var (nm 119 (gn + 2))) (.whn (nm 99 (gn + 1)) redN a))
  simp only [E.cells, h4] at htw1
  simp only [E.cells, h4, h7] at htw2
  obtain ⟨r8, K8, ⟨j8, g8, rfl, rfl, hr8⟩, hc8⟩ := next_dt ht subs main 2 (by omega) (by omega) g7 hm7.le
  have hm8 := hr8.mv
  obtain ⟨r9, K9, ⟨e, g9, rfl, rfl, hge, hm9⟩, hc9⟩ := expr_dt ht subs main 3 (by omega) s hsb .col true g8 hm8.le
  obtain ⟨ke, ope, ne, se, ae, be, h9⟩ := e.shape
  rw [h9] at hc9
  have hm49 := hm4.trans (hm5.trans (hm6.trans (hm7.trans (hm8.trans hm9))))
  have e9n := hm49.n
  have e9q := hm49.q
  have e9i := hm49.i
  simp only at e9n e9q e9i
  have hmore := more_pt s [newV 99 (gn + 1) .col, newV 122 (gn + 3) .int] (by omega) (by simp)
  obtain ⟨r10, K10, ⟨ql, vs, gz, rfl, rfl, hgq, hql, hvl, hbm⟩, hc10⟩ := ih (s.more [newV 99 (gn + 1) .col, newV 122 (gn + 3) .int]) (by simp only [Sc.more, List.length_append, List.length_cons, List.length_nil]; omega) ha hla outs ho g9 hm49.le (by omega) (by omega) (by omega) (by omega)
  have hqb := hbm.q0
  rcases Nat.eq_zero_or_pos j8 with h80 | h80
  · skip
    subst h80
    have hrow : eqsC (.df (nm 99 (gn + 1)) e :: .df (nm 119 (gn + 2)) (.whn (nm 99 (gn + 1)) redN a) :: .df (nm 122 (gn + 3)) (.merge (nm 99 (gn + 1)) greenN redN blueN (.whn (nm 99 (gn + 1)) greenN b) (.var (nm 119 (gn + 2))) k) :: []) = [[.int .u8 1, .sl [[.str (nm 99 (gn + 1))]], .str ⟨#[]⟩, .sl [], .bool false, .int .u8 ke, .int .u8 ope, .int .i32 ne, .str se, .sl ae, .sl be, .int .i64 0, .int .i64 0, .sl [], .int .i64 0, .int .i64 0], [.int .u8 1, .sl [[.str (nm 119 (gn + 2))]], .str ⟨#[]⟩, .sl [], .bool false, .int .u8 12, .int .u8 0, .int .i32 0, .str (nm 99 (gn + 1)), .sl [[.str redN]], .sl [exC ka opa na sa aa ba], .int .i64 0, .int .i64 0, .sl [], .int .i64 0, .int .i64 0], [.int .u8 1, .sl [[.str (nm 122 (gn + 3))]], .str ⟨#[]⟩, .sl [], .bool false, .int .u8 13, .int .u8 0, .int .i32 0, .str (nm 99 (gn + 1)), .sl [[.str greenN], [.str redN], [.str blueN]], .sl [exC 12 0 0 (nm 99 (gn + 1)) [[.str greenN]] [exC kb opb nb sb ab bb], exC 4 0 0 (nm 119 (gn + 2)) [] [], exC kk opk nk sk ak bk], .int .i64 0, .int .i64 0, .sl [], .int .i64 0, .int .i64 0]] := by simp only [eqsC, Eqn.cells, E.cells, h4, h5, h6, h7, h9]; rfl
    have hsuf := sufCall (by rfl) hc10 [.row true 16 0 (flatM [[.int .u8 1, .sl [[.str (nm 99 (gn + 1))]], .str ⟨#[]⟩, .sl [], .bool false, .int .u8 ke, .int .u8 ope, .int .i32 ne, .str se, .sl ae, .sl be, .int .i64 0, .int .i64 0, .sl [], .int .i64 0, .int .i64 0], [.int .u8 1, .sl [[.str (nm 119 (gn + 2))]], .str ⟨#[]⟩, .sl [], .bool false, .int .u8 12, .int .u8 0, .int .i32 0, .str (nm 99 (gn + 1)), .sl [[.str redN]], .sl [exC ka opa na sa aa ba], .int .i64 0, .int .i64 0, .sl [], .int .i64 0, .int .i64 0], [.int .u8 1, .sl [[.str (nm 122 (gn + 3))]], .str ⟨#[]⟩, .sl [], .bool false, .int .u8 13, .int .u8 0, .int .i32 0, .str (nm 99 (gn + 1)), .sl [[.str greenN], [.str redN], [.str blueN]], .sl [exC 12 0 0 (nm 99 (gn + 1)) [[.str greenN]] [exC kb opb nb sb ab bb], exC 4 0 0 (nm 119 (gn + 2)) [] [], exC kk opk nk sk ak bk], .int .i64 0, .int .i64 0, .sl [], .int .i64 0, .int .i64 0]])]
    refine DT.drop 2 (Nat.le_refl _) ?_
    refine DT.of_body Try.func104 rfl Try.ntmps104 rfl ?_
    repeat refine DC.seq ?_
    apply DC.regionX
    · intro s0 Oo
      refine t_box rfl rfl ?_
      refine t_assign rfl rfl ?_
      refine t_assign rfl rfl ?_
      exact TL.nil rfl
    repeat refine DC.seq ?_
    apply DC.regionX
    · intro s0 Oo
      refine t_move rfl rfl ?_
      refine t_callD hc1 rfl rfl ?_
      refine t_call1 tCol_pt rfl rfl ?_
      refine t_build rfl rfl rfl rfl rfl ?_
      refine t_alloc rfl rfl ?_
      refine t_storeL rfl rfl rfl rfl rfl rfl ?_
      exact TL.nil rfl
    repeat refine DC.seq ?_
    apply DC.drawX mixed
    · intro s0 Oo
      refine f_move rfl rfl ?_
      refine f_callR hc2 rfl rfl ?_
      refine f_call1 tInt_pt rfl rfl ?_
      refine f_fieldL rfl rfl ?_
      refine f_loadLc rfl rfl rfl rfl ?_
      refine f_build rfl rfl rfl rfl rfl ?_
      refine f_buildSlice rfl rfl rfl rfl rfl rfl rfl rfl ?_
      refine f_build rfl rfl rfl rfl rfl ?_
      refine f_alloc rfl ?_
      refine f_storeL rfl rfl rfl rfl rfl rfl ?_
      exact TF.nil ⟨by kernel_rfl, rfl⟩
    repeat refine DC.seq ?_
    apply DC.regionX
    · intro s0 Oo
      refine t_move rfl rfl ?_
      refine t_callD hc3 rfl rfl ?_
      refine t_call1 tInt_pt rfl rfl ?_
      refine t_build rfl rfl rfl rfl rfl ?_
      refine t_alloc rfl rfl ?_
      refine t_storeL rfl rfl rfl rfl rfl rfl ?_
      exact TL.nil rfl
    repeat refine DC.seq ?_
    apply DC.drawX mixed
    · intro s0 Oo
      refine f_fieldL rfl rfl ?_
      refine f_loadLc rfl rfl rfl rfl ?_
      refine f_buildSlice rfl rfl rfl rfl rfl rfl rfl rfl ?_
      refine f_move rfl rfl ?_
      refine f_loadDw rfl rfl rfl ?_
      refine f_call1 tInt_pt rfl rfl ?_
      refine f_callR hc4 rfl rfl ?_
      refine f_buildSlice rfl rfl rfl rfl rfl rfl rfl rfl ?_
      refine f_build rfl rfl rfl rfl rfl ?_
      refine f_alloc rfl ?_
      refine f_storeL rfl rfl rfl rfl rfl rfl ?_
      exact TF.nil ⟨by kernel_rfl, rfl⟩
    repeat refine DC.seq ?_
    apply DC.drawX mixed
    · intro s0 Oo
      refine f_fieldL rfl rfl ?_
      refine f_loadLc rfl rfl rfl rfl ?_
      refine f_buildSlice rfl rfl rfl rfl rfl rfl rfl rfl ?_
      refine f_move rfl rfl ?_
      refine f_loadDw rfl rfl rfl ?_
      refine f_call1 tInt_pt rfl rfl ?_
      refine f_callR hc5 rfl rfl ?_
      refine f_buildSlice rfl rfl rfl rfl rfl rfl rfl rfl ?_
      refine f_build rfl rfl rfl rfl rfl ?_
      refine f_alloc rfl ?_
      refine f_storeL rfl rfl rfl rfl rfl rfl ?_
      exact TF.nil ⟨by kernel_rfl, rfl⟩
    repeat refine DC.seq ?_
    apply DC.drawX mixed
    · intro s0 Oo
      refine f_fieldL rfl rfl ?_
      refine f_loadLc rfl rfl rfl rfl ?_
      refine f_buildSlice rfl rfl rfl rfl rfl rfl rfl rfl ?_
      refine f_loadLa rfl rfl rfl rfl rfl ?_
      refine f_fieldL rfl rfl ?_
      refine f_loadLc rfl rfl rfl rfl ?_
      refine f_build rfl rfl rfl rfl rfl ?_
      refine f_move rfl rfl ?_
      refine f_call1 tInt_pt rfl rfl ?_
      refine f_callR hc6 rfl rfl ?_
      refine f_buildSlice rfl rfl rfl rfl rfl rfl rfl rfl ?_
      refine f_build rfl rfl rfl rfl rfl ?_
      refine f_alloc rfl ?_
      refine f_storeL rfl rfl rfl rfl rfl rfl ?_
      exact TF.nil ⟨by kernel_rfl, rfl⟩
    repeat refine DC.seq ?_
    apply DC.drawX mixed
    · intro s0 Oo
      refine f_move rfl rfl ?_
      refine f_call1 tInt_pt rfl rfl ?_
      refine f_callR hc7 rfl rfl ?_
      refine f_fieldL rfl rfl ?_
      refine f_loadLc rfl rfl rfl rfl ?_
      refine f_build rfl rfl rfl rfl rfl ?_
      refine f_loadLa rfl rfl rfl rfl rfl ?_
      refine f_call1 htw1 rfl rfl ?_
      refine f_call1 htw2 rfl rfl ?_
      refine f_alloc rfl ?_
      refine f_storeL rfl rfl rfl rfl rfl rfl ?_
      exact TF.nil ⟨by kernel_rfl, rfl⟩
    repeat refine DC.seq ?_
    apply DC.regionX
    · intro s0 Oo
      refine t_move rfl rfl ?_
      refine t_nilCheck rfl rfl rfl ?_
      refine t_fieldR rfl rfl ?_
      refine t_loadRc rfl rfl rfl rfl ?_
      refine t_callD hc8 rfl rfl ?_
      refine t_int rfl rfl rfl rfl ?_
      exact TL.nil rfl
    repeat refine DC.seq ?_
    refine DC.cond rfl (fun hc => ?_) (fun hc => by cases hc)
    repeat refine DC.seq ?_
    apply DC.regionX
    · intro s0 Oo
      refine t_loadLa rfl rfl rfl rfl rfl ?_
      refine t_storeL rfl rfl rfl rfl rfl rfl ?_
      exact TL.nil rfl
    repeat refine DC.seq ?_
    apply DC.drawX mixed
    · intro s0 Oo
      refine f_fieldL rfl rfl ?_
      refine f_loadLc rfl rfl rfl rfl ?_
      refine f_buildSlice rfl rfl rfl rfl rfl rfl rfl rfl ?_
      refine f_move rfl rfl ?_
      refine f_loadDw rfl rfl rfl ?_
      refine f_call1 tCol_pt rfl rfl ?_
      refine f_callR hc9 rfl rfl ?_
      refine f_build rfl rfl rfl rfl rfl ?_
      refine f_fieldL rfl rfl ?_
      refine f_loadLc rfl rfl rfl rfl ?_
      refine f_buildSlice rfl rfl rfl rfl rfl rfl rfl rfl ?_
      refine f_loadLa rfl rfl rfl rfl rfl ?_
      refine f_build rfl rfl rfl rfl rfl ?_
      refine f_fieldL rfl rfl ?_
      refine f_loadLc rfl rfl rfl rfl ?_
      refine f_buildSlice rfl rfl rfl rfl rfl rfl rfl rfl ?_
      refine f_loadLa rfl rfl rfl rfl rfl ?_
      refine f_build rfl rfl rfl rfl rfl ?_
      refine f_buildRow rfl rfl rfl rfl rfl rfl ?_
      refine f_assign rfl rfl ?_
      exact TF.nil ⟨by kernel_rfl, rfl⟩
    refine DC.freezeRow 2 rfl ?_
    refine DC.rename [(17, .m (.rsl 2 0 3)), (12, .loc 12 0), (11, .loc 11 0), (10, .loc 10 0), (5, .m (.d (.pim s.cells 0))), (3, .m (.d (.int .i64 ((dp : Nat) : Int)))), (2, .m (.d (.sl (vasC outs)))), (0, .m (.ref 1 0))] (GH v subs main g9 ++ [.row true 16 0 (flatM [[.int .u8 1, .sl [[.str (nm 99 (gn + 1))]], .str ⟨#[]⟩, .sl [], .bool false, .int .u8 ke, .int .u8 ope, .int .i32 ne, .str se, .sl ae, .sl be, .int .i64 0, .int .i64 0, .sl [], .int .i64 0, .int .i64 0], [.int .u8 1, .sl [[.str (nm 119 (gn + 2))]], .str ⟨#[]⟩, .sl [], .bool false, .int .u8 12, .int .u8 0, .int .i32 0, .str (nm 99 (gn + 1)), .sl [[.str redN]], .sl [exC ka opa na sa aa ba], .int .i64 0, .int .i64 0, .sl [], .int .i64 0, .int .i64 0], [.int .u8 1, .sl [[.str (nm 122 (gn + 3))]], .str ⟨#[]⟩, .sl [], .bool false, .int .u8 13, .int .u8 0, .int .i32 0, .str (nm 99 (gn + 1)), .sl [[.str greenN], [.str redN], [.str blueN]], .sl [exC 12 0 0 (nm 99 (gn + 1)) [[.str greenN]] [exC kb opb nb sb ab bb], exC 4 0 0 (nm 119 (gn + 2)) [] [], exC kk opk nk sk ak bk], .int .i64 0, .int .i64 0, .sl [], .int .i64 0, .int .i64 0]])]) ⟨rfl, rfl, rfl, rfl, rfl, rfl, rfl, rfl, trivial⟩ rfl ?_
    repeat refine DC.seq ?_
    apply DC.regionX
    · intro s0 Oo
      refine t_move rfl rfl ?_
      refine t_loadDw rfl rfl rfl ?_
      refine t_loadLa rfl rfl rfl rfl rfl ?_
      refine t_loadLa rfl rfl rfl rfl rfl ?_
      refine t_buildSlice rfl rfl rfl rfl rfl rfl rfl rfl ?_
      refine t_call1 hmore rfl rfl ?_
      refine t_move rfl rfl ?_
      refine t_move rfl rfl ?_
      refine t_callD hsuf rfl rfl ?_
      refine t_move rfl rfl ?_
      refine t_extract rfl rfl rfl ?_
      refine t_extract rfl rfl rfl ?_
      refine t_assign rfl rfl ?_
      refine t_assign rfl rfl ?_
      exact TL.nil rfl
    repeat refine DC.seq ?_
    apply DC.regionX
    · intro s0 Oo
      refine t_assign rfl rfl ?_
      exact TL.nil rfl
    repeat refine DC.seq ?_
    apply DC.regionX
    · intro s0 Oo
      refine t_move rfl rfl ?_
      refine t_loadLa rfl rfl rfl rfl rfl ?_
      refine t_loadLa rfl rfl rfl rfl rfl ?_
      refine t_loadLa rfl rfl rfl rfl rfl ?_
      refine t_buildSlice rfl rfl rfl rfl rfl rfl rfl rfl ?_
      refine t_append0 true rfl rfl rfl rfl (by rfl) (by simp) (by intro r hr; simp only [List.mem_cons, List.not_mem_nil, or_false] at hr; rcases hr with rfl|rfl|rfl <;> rfl) (by exact nat_le rfl) ?_
      refine t_assign rfl rfl ?_
      exact TL.nil rfl
    repeat refine DC.seq ?_
    apply DC.regionX
    · intro s0 Oo
      refine t_move rfl rfl ?_
      refine t_move rfl rfl ?_
      refine t_appendR (cs := flatM [[.int .u8 1, .sl [[.str (nm 99 (gn + 1))]], .str ⟨#[]⟩, .sl [], .bool false, .int .u8 ke, .int .u8 ope, .int .i32 ne, .str se, .sl ae, .sl be, .int .i64 0, .int .i64 0, .sl [], .int .i64 0, .int .i64 0], [.int .u8 1, .sl [[.str (nm 119 (gn + 2))]], .str ⟨#[]⟩, .sl [], .bool false, .int .u8 12, .int .u8 0, .int .i32 0, .str (nm 99 (gn + 1)), .sl [[.str redN]], .sl [exC ka opa na sa aa ba], .int .i64 0, .int .i64 0, .sl [], .int .i64 0, .int .i64 0], [.int .u8 1, .sl [[.str (nm 122 (gn + 3))]], .str ⟨#[]⟩, .sl [], .bool false, .int .u8 13, .int .u8 0, .int .i32 0, .str (nm 99 (gn + 1)), .sl [[.str greenN], [.str redN], [.str blueN]], .sl [exC 12 0 0 (nm 99 (gn + 1)) [[.str greenN]] [exC kb opb nb sb ab bb], exC 4 0 0 (nm 119 (gn + 2)) [] [], exC kk opk nk sk ak bk], .int .i64 0, .int .i64 0, .sl [], .int .i64 0, .int .i64 0]]) rfl rfl rfl rfl rfl (eqsC_lens ql) (by rw [eqsC_len]; omega) (by rw [eqsC_len]; omega) ?_
      refine t_move rfl rfl ?_
      refine t_move rfl rfl ?_
      refine t_appendR (cs := flatM (vasC (newV 99 (gn + 1) .col :: ⟨nm 119 (gn + 2), .int, some (redN, nm 99 (gn + 1)), false, .nil⟩ :: newV 122 (gn + 3) .int :: []))) rfl rfl rfl rfl rfl (vasC_lens vs) (by rw [vasC_len]; simp only [List.length_cons, List.length_nil]; omega) (by rw [vasC_len]; simp only [List.length_cons, List.length_nil]; omega) ?_
      refine t_assign rfl rfl ?_
      refine t_assign rfl rfl ?_
      exact TL.nil rfl
    refine DC.rename [(8, .m (.rsl 2 1 (3 + (eqsC ql).length))), (9, .m (.rsl 3 1 (3 + (vasC vs).length)))] (GH v subs main gz ++ [.row true 16 1 (flatM ([.int .u8 1, .sl [[.str (nm 99 (gn + 1))]], .str ⟨#[]⟩, .sl [], .bool false, .int .u8 ke, .int .u8 ope, .int .i32 ne, .str se, .sl ae, .sl be, .int .i64 0, .int .i64 0, .sl [], .int .i64 0, .int .i64 0] :: [.int .u8 1, .sl [[.str (nm 119 (gn + 2))]], .str ⟨#[]⟩, .sl [], .bool false, .int .u8 12, .int .u8 0, .int .i32 0, .str (nm 99 (gn + 1)), .sl [[.str redN]], .sl [exC ka opa na sa aa ba], .int .i64 0, .int .i64 0, .sl [], .int .i64 0, .int .i64 0] :: [.int .u8 1, .sl [[.str (nm 122 (gn + 3))]], .str ⟨#[]⟩, .sl [], .bool false, .int .u8 13, .int .u8 0, .int .i32 0, .str (nm 99 (gn + 1)), .sl [[.str greenN], [.str redN], [.str blueN]], .sl [exC 12 0 0 (nm 99 (gn + 1)) [[.str greenN]] [exC kb opb nb sb ab bb], exC 4 0 0 (nm 119 (gn + 2)) [] [], exC kk opk nk sk ak bk], .int .i64 0, .int .i64 0, .sl [], .int .i64 0, .int .i64 0] :: eqsC ql)), .row true 15 1 (flatM (vasC (newV 99 (gn + 1) .col :: ⟨nm 119 (gn + 2), .int, some (redN, nm 99 (gn + 1)), false, .nil⟩ :: newV 122 (gn + 3) .int :: vs)))]) ⟨rfl, rfl, trivial⟩ rfl ?_
    have hrow2 : eqsC (.df (nm 99 (gn + 1)) e :: .df (nm 119 (gn + 2)) (.whn (nm 99 (gn + 1)) redN a) :: .df (nm 122 (gn + 3)) (.merge (nm 99 (gn + 1)) greenN redN blueN (.whn (nm 99 (gn + 1)) greenN b) (.var (nm 119 (gn + 2))) k) :: ql) = [.int .u8 1, .sl [[.str (nm 99 (gn + 1))]], .str ⟨#[]⟩, .sl [], .bool false, .int .u8 ke, .int .u8 ope, .int .i32 ne, .str se, .sl ae, .sl be, .int .i64 0, .int .i64 0, .sl [], .int .i64 0, .int .i64 0] :: [.int .u8 1, .sl [[.str (nm 119 (gn + 2))]], .str ⟨#[]⟩, .sl [], .bool false, .int .u8 12, .int .u8 0, .int .i32 0, .str (nm 99 (gn + 1)), .sl [[.str redN]], .sl [exC ka opa na sa aa ba], .int .i64 0, .int .i64 0, .sl [], .int .i64 0, .int .i64 0] :: [.int .u8 1, .sl [[.str (nm 122 (gn + 3))]], .str ⟨#[]⟩, .sl [], .bool false, .int .u8 13, .int .u8 0, .int .i32 0, .str (nm 99 (gn + 1)), .sl [[.str greenN], [.str redN], [.str blueN]], .sl [exC 12 0 0 (nm 99 (gn + 1)) [[.str greenN]] [exC kb opb nb sb ab bb], exC 4 0 0 (nm 119 (gn + 2)) [] [], exC kk opk nk sk ak bk], .int .i64 0, .int .i64 0, .sl [], .int .i64 0, .int .i64 0] :: eqsC ql := by
      have h := eqsC_append (.df (nm 99 (gn + 1)) e :: .df (nm 119 (gn + 2)) (.whn (nm 99 (gn + 1)) redN a) :: .df (nm 122 (gn + 3)) (.merge (nm 99 (gn + 1)) greenN redN blueN (.whn (nm 99 (gn + 1)) greenN b) (.var (nm 119 (gn + 2))) k) :: []) ql
      rw [hrow] at h
      exact h
    refine DC.viewSlot 8 rfl (rowView rfl (by simp only [List.length_cons]; omega) (by simp) (by rw [← hrow2]; exact eqsC_lens _)) ?_
    refine DC.viewSlot 9 rfl (rowView rfl (by simp only [vasC_len, List.length_cons]; omega) (by simp [vasC]) (vasC_lens _)) ?_
    refine DC.ret ⟨_, rfl, nat_le rfl, mbb_ok rfl, gh_hb v subs main gz, .df (nm 99 (gn + 1)) e :: .df (nm 119 (gn + 2)) (.whn (nm 99 (gn + 1)) redN a) :: .df (nm 122 (gn + 3)) (.merge (nm 99 (gn + 1)) greenN redN blueN (.whn (nm 99 (gn + 1)) greenN b) (.var (nm 119 (gn + 2))) k) :: ql, newV 99 (gn + 1) .col :: ⟨nm 119 (gn + 2), .int, some (redN, nm 99 (gn + 1)), false, .nil⟩ :: newV 122 (gn + 3) .int :: vs, gz, by rw [hrow2]; rfl, rfl, ?_, by simp only [List.length_cons]; omega, by simp only [List.length_cons]; omega, ⟨by have := hbm.i; simp only; omega, hbm.le, by have := hbm.n; simp only; omega, hbm.pay, by simp only; omega, by have := hbm.q1; simp only; omega⟩⟩
    refine .sampled a b k k2 e _ hga hgb hgk hgk2 hge (.inl rfl) ?_
    have e2 : gn + 3 = g9.n := by omega
    rw [e2]; rw [e2] at hgq; exact hgq
  · skip
    have hb8 : (((j8 : Nat) : Int) == 0) = false := beq_eq_false_iff_ne.2 (by omega)
    have hrow : eqsC (.df (nm 99 (gn + 1)) e :: .df (nm 119 (gn + 2)) (.fby k2 (.bin 3 (.var (nm 119 (gn + 2))) (.whn (nm 99 (gn + 1)) redN a))) :: .df (nm 122 (gn + 3)) (.merge (nm 99 (gn + 1)) greenN redN blueN (.whn (nm 99 (gn + 1)) greenN b) (.var (nm 119 (gn + 2))) k) :: []) = [[.int .u8 1, .sl [[.str (nm 99 (gn + 1))]], .str ⟨#[]⟩, .sl [], .bool false, .int .u8 ke, .int .u8 ope, .int .i32 ne, .str se, .sl ae, .sl be, .int .i64 0, .int .i64 0, .sl [], .int .i64 0, .int .i64 0], [.int .u8 1, .sl [[.str (nm 119 (gn + 2))]], .str ⟨#[]⟩, .sl [], .bool false, .int .u8 9, .int .u8 0, .int .i32 0, .str ⟨#[]⟩, .sl [], .sl [exC kl opl nl sl al bl, exC 7 3 0 ⟨#[]⟩ [] [exC 4 0 0 (nm 119 (gn + 2)) [] [], exC 12 0 0 (nm 99 (gn + 1)) [[.str redN]] [exC ka opa na sa aa ba]]], .int .i64 0, .int .i64 0, .sl [], .int .i64 0, .int .i64 0], [.int .u8 1, .sl [[.str (nm 122 (gn + 3))]], .str ⟨#[]⟩, .sl [], .bool false, .int .u8 13, .int .u8 0, .int .i32 0, .str (nm 99 (gn + 1)), .sl [[.str greenN], [.str redN], [.str blueN]], .sl [exC 12 0 0 (nm 99 (gn + 1)) [[.str greenN]] [exC kb opb nb sb ab bb], exC 4 0 0 (nm 119 (gn + 2)) [] [], exC kk opk nk sk ak bk], .int .i64 0, .int .i64 0, .sl [], .int .i64 0, .int .i64 0]] := by simp only [eqsC, Eqn.cells, E.cells, h4, h5, h6, h7, h9]; rfl
    have hsuf := sufCall (by rfl) hc10 [.row true 16 0 (flatM [[.int .u8 1, .sl [[.str (nm 99 (gn + 1))]], .str ⟨#[]⟩, .sl [], .bool false, .int .u8 ke, .int .u8 ope, .int .i32 ne, .str se, .sl ae, .sl be, .int .i64 0, .int .i64 0, .sl [], .int .i64 0, .int .i64 0], [.int .u8 1, .sl [[.str (nm 119 (gn + 2))]], .str ⟨#[]⟩, .sl [], .bool false, .int .u8 9, .int .u8 0, .int .i32 0, .str ⟨#[]⟩, .sl [], .sl [exC kl opl nl sl al bl, exC 7 3 0 ⟨#[]⟩ [] [exC 4 0 0 (nm 119 (gn + 2)) [] [], exC 12 0 0 (nm 99 (gn + 1)) [[.str redN]] [exC ka opa na sa aa ba]]], .int .i64 0, .int .i64 0, .sl [], .int .i64 0, .int .i64 0], [.int .u8 1, .sl [[.str (nm 122 (gn + 3))]], .str ⟨#[]⟩, .sl [], .bool false, .int .u8 13, .int .u8 0, .int .i32 0, .str (nm 99 (gn + 1)), .sl [[.str greenN], [.str redN], [.str blueN]], .sl [exC 12 0 0 (nm 99 (gn + 1)) [[.str greenN]] [exC kb opb nb sb ab bb], exC 4 0 0 (nm 119 (gn + 2)) [] [], exC kk opk nk sk ak bk], .int .i64 0, .int .i64 0, .sl [], .int .i64 0, .int .i64 0]])]
    refine DT.drop 2 (Nat.le_refl _) ?_
    refine DT.of_body Try.func104 rfl Try.ntmps104 rfl ?_
    repeat refine DC.seq ?_
    apply DC.regionX
    · intro s0 Oo
      refine t_box rfl rfl ?_
      refine t_assign rfl rfl ?_
      refine t_assign rfl rfl ?_
      exact TL.nil rfl
    repeat refine DC.seq ?_
    apply DC.regionX
    · intro s0 Oo
      refine t_move rfl rfl ?_
      refine t_callD hc1 rfl rfl ?_
      refine t_call1 tCol_pt rfl rfl ?_
      refine t_build rfl rfl rfl rfl rfl ?_
      refine t_alloc rfl rfl ?_
      refine t_storeL rfl rfl rfl rfl rfl rfl ?_
      exact TL.nil rfl
    repeat refine DC.seq ?_
    apply DC.drawX mixed
    · intro s0 Oo
      refine f_move rfl rfl ?_
      refine f_callR hc2 rfl rfl ?_
      refine f_call1 tInt_pt rfl rfl ?_
      refine f_fieldL rfl rfl ?_
      refine f_loadLc rfl rfl rfl rfl ?_
      refine f_build rfl rfl rfl rfl rfl ?_
      refine f_buildSlice rfl rfl rfl rfl rfl rfl rfl rfl ?_
      refine f_build rfl rfl rfl rfl rfl ?_
      refine f_alloc rfl ?_
      refine f_storeL rfl rfl rfl rfl rfl rfl ?_
      exact TF.nil ⟨by kernel_rfl, rfl⟩
    repeat refine DC.seq ?_
    apply DC.regionX
    · intro s0 Oo
      refine t_move rfl rfl ?_
      refine t_callD hc3 rfl rfl ?_
      refine t_call1 tInt_pt rfl rfl ?_
      refine t_build rfl rfl rfl rfl rfl ?_
      refine t_alloc rfl rfl ?_
      refine t_storeL rfl rfl rfl rfl rfl rfl ?_
      exact TL.nil rfl
    repeat refine DC.seq ?_
    apply DC.drawX mixed
    · intro s0 Oo
      refine f_fieldL rfl rfl ?_
      refine f_loadLc rfl rfl rfl rfl ?_
      refine f_buildSlice rfl rfl rfl rfl rfl rfl rfl rfl ?_
      refine f_move rfl rfl ?_
      refine f_loadDw rfl rfl rfl ?_
      refine f_call1 tInt_pt rfl rfl ?_
      refine f_callR hc4 rfl rfl ?_
      refine f_buildSlice rfl rfl rfl rfl rfl rfl rfl rfl ?_
      refine f_build rfl rfl rfl rfl rfl ?_
      refine f_alloc rfl ?_
      refine f_storeL rfl rfl rfl rfl rfl rfl ?_
      exact TF.nil ⟨by kernel_rfl, rfl⟩
    repeat refine DC.seq ?_
    apply DC.drawX mixed
    · intro s0 Oo
      refine f_fieldL rfl rfl ?_
      refine f_loadLc rfl rfl rfl rfl ?_
      refine f_buildSlice rfl rfl rfl rfl rfl rfl rfl rfl ?_
      refine f_move rfl rfl ?_
      refine f_loadDw rfl rfl rfl ?_
      refine f_call1 tInt_pt rfl rfl ?_
      refine f_callR hc5 rfl rfl ?_
      refine f_buildSlice rfl rfl rfl rfl rfl rfl rfl rfl ?_
      refine f_build rfl rfl rfl rfl rfl ?_
      refine f_alloc rfl ?_
      refine f_storeL rfl rfl rfl rfl rfl rfl ?_
      exact TF.nil ⟨by kernel_rfl, rfl⟩
    repeat refine DC.seq ?_
    apply DC.drawX mixed
    · intro s0 Oo
      refine f_fieldL rfl rfl ?_
      refine f_loadLc rfl rfl rfl rfl ?_
      refine f_buildSlice rfl rfl rfl rfl rfl rfl rfl rfl ?_
      refine f_loadLa rfl rfl rfl rfl rfl ?_
      refine f_fieldL rfl rfl ?_
      refine f_loadLc rfl rfl rfl rfl ?_
      refine f_build rfl rfl rfl rfl rfl ?_
      refine f_move rfl rfl ?_
      refine f_call1 tInt_pt rfl rfl ?_
      refine f_callR hc6 rfl rfl ?_
      refine f_buildSlice rfl rfl rfl rfl rfl rfl rfl rfl ?_
      refine f_build rfl rfl rfl rfl rfl ?_
      refine f_alloc rfl ?_
      refine f_storeL rfl rfl rfl rfl rfl rfl ?_
      exact TF.nil ⟨by kernel_rfl, rfl⟩
    repeat refine DC.seq ?_
    apply DC.drawX mixed
    · intro s0 Oo
      refine f_move rfl rfl ?_
      refine f_call1 tInt_pt rfl rfl ?_
      refine f_callR hc7 rfl rfl ?_
      refine f_fieldL rfl rfl ?_
      refine f_loadLc rfl rfl rfl rfl ?_
      refine f_build rfl rfl rfl rfl rfl ?_
      refine f_loadLa rfl rfl rfl rfl rfl ?_
      refine f_call1 htw1 rfl rfl ?_
      refine f_call1 htw2 rfl rfl ?_
      refine f_alloc rfl ?_
      refine f_storeL rfl rfl rfl rfl rfl rfl ?_
      exact TF.nil ⟨by kernel_rfl, rfl⟩
    repeat refine DC.seq ?_
    apply DC.regionX
    · intro s0 Oo
      refine t_move rfl rfl ?_
      refine t_nilCheck rfl rfl rfl ?_
      refine t_fieldR rfl rfl ?_
      refine t_loadRc rfl rfl rfl rfl ?_
      refine t_callD hc8 rfl rfl ?_
      (refine t_int rfl rfl rfl (r := .bool false) (by show some (D.bool (((j8 : Nat) : Int) == 0)) = _; rw [hb8]) ?_)
      exact TL.nil rfl
    repeat refine DC.seq ?_
    refine DC.cond rfl (fun hc => by cases hc) (fun hc => ?_)
    refine DC.skip ?_
    repeat refine DC.seq ?_
    apply DC.drawX mixed
    · intro s0 Oo
      refine f_fieldL rfl rfl ?_
      refine f_loadLc rfl rfl rfl rfl ?_
      refine f_buildSlice rfl rfl rfl rfl rfl rfl rfl rfl ?_
      refine f_move rfl rfl ?_
      refine f_loadDw rfl rfl rfl ?_
      refine f_call1 tCol_pt rfl rfl ?_
      refine f_callR hc9 rfl rfl ?_
      refine f_build rfl rfl rfl rfl rfl ?_
      refine f_fieldL rfl rfl ?_
      refine f_loadLc rfl rfl rfl rfl ?_
      refine f_buildSlice rfl rfl rfl rfl rfl rfl rfl rfl ?_
      refine f_loadLa rfl rfl rfl rfl rfl ?_
      refine f_build rfl rfl rfl rfl rfl ?_
      refine f_fieldL rfl rfl ?_
      refine f_loadLc rfl rfl rfl rfl ?_
      refine f_buildSlice rfl rfl rfl rfl rfl rfl rfl rfl ?_
      refine f_loadLa rfl rfl rfl rfl rfl ?_
      refine f_build rfl rfl rfl rfl rfl ?_
      refine f_buildRow rfl rfl rfl rfl rfl rfl ?_
      refine f_assign rfl rfl ?_
      exact TF.nil ⟨by kernel_rfl, rfl⟩
    refine DC.freezeRow 2 rfl ?_
    refine DC.rename [(17, .m (.rsl 2 0 3)), (12, .loc 12 0), (11, .loc 11 0), (10, .loc 10 0), (5, .m (.d (.pim s.cells 0))), (3, .m (.d (.int .i64 ((dp : Nat) : Int)))), (2, .m (.d (.sl (vasC outs)))), (0, .m (.ref 1 0))] (GH v subs main g9 ++ [.row true 16 0 (flatM [[.int .u8 1, .sl [[.str (nm 99 (gn + 1))]], .str ⟨#[]⟩, .sl [], .bool false, .int .u8 ke, .int .u8 ope, .int .i32 ne, .str se, .sl ae, .sl be, .int .i64 0, .int .i64 0, .sl [], .int .i64 0, .int .i64 0], [.int .u8 1, .sl [[.str (nm 119 (gn + 2))]], .str ⟨#[]⟩, .sl [], .bool false, .int .u8 9, .int .u8 0, .int .i32 0, .str ⟨#[]⟩, .sl [], .sl [exC kl opl nl sl al bl, exC 7 3 0 ⟨#[]⟩ [] [exC 4 0 0 (nm 119 (gn + 2)) [] [], exC 12 0 0 (nm 99 (gn + 1)) [[.str redN]] [exC ka opa na sa aa ba]]], .int .i64 0, .int .i64 0, .sl [], .int .i64 0, .int .i64 0], [.int .u8 1, .sl [[.str (nm 122 (gn + 3))]], .str ⟨#[]⟩, .sl [], .bool false, .int .u8 13, .int .u8 0, .int .i32 0, .str (nm 99 (gn + 1)), .sl [[.str greenN], [.str redN], [.str blueN]], .sl [exC 12 0 0 (nm 99 (gn + 1)) [[.str greenN]] [exC kb opb nb sb ab bb], exC 4 0 0 (nm 119 (gn + 2)) [] [], exC kk opk nk sk ak bk], .int .i64 0, .int .i64 0, .sl [], .int .i64 0, .int .i64 0]])]) ⟨rfl, rfl, rfl, rfl, rfl, rfl, rfl, rfl, trivial⟩ rfl ?_
    repeat refine DC.seq ?_
    apply DC.regionX
    · intro s0 Oo
      refine t_move rfl rfl ?_
      refine t_loadDw rfl rfl rfl ?_
      refine t_loadLa rfl rfl rfl rfl rfl ?_
      refine t_loadLa rfl rfl rfl rfl rfl ?_
      refine t_buildSlice rfl rfl rfl rfl rfl rfl rfl rfl ?_
      refine t_call1 hmore rfl rfl ?_
      refine t_move rfl rfl ?_
      refine t_move rfl rfl ?_
      refine t_callD hsuf rfl rfl ?_
      refine t_move rfl rfl ?_
      refine t_extract rfl rfl rfl ?_
      refine t_extract rfl rfl rfl ?_
      refine t_assign rfl rfl ?_
      refine t_assign rfl rfl ?_
      exact TL.nil rfl
    repeat refine DC.seq ?_
    apply DC.regionX
    · intro s0 Oo
      refine t_assign rfl rfl ?_
      exact TL.nil rfl
    repeat refine DC.seq ?_
    apply DC.regionX
    · intro s0 Oo
      refine t_move rfl rfl ?_
      refine t_loadLa rfl rfl rfl rfl rfl ?_
      refine t_loadLa rfl rfl rfl rfl rfl ?_
      refine t_loadLa rfl rfl rfl rfl rfl ?_
      refine t_buildSlice rfl rfl rfl rfl rfl rfl rfl rfl ?_
      refine t_append0 true rfl rfl rfl rfl (by rfl) (by simp) (by intro r hr; simp only [List.mem_cons, List.not_mem_nil, or_false] at hr; rcases hr with rfl|rfl|rfl <;> rfl) (by exact nat_le rfl) ?_
      refine t_assign rfl rfl ?_
      exact TL.nil rfl
    repeat refine DC.seq ?_
    apply DC.regionX
    · intro s0 Oo
      refine t_move rfl rfl ?_
      refine t_move rfl rfl ?_
      refine t_appendR (cs := flatM [[.int .u8 1, .sl [[.str (nm 99 (gn + 1))]], .str ⟨#[]⟩, .sl [], .bool false, .int .u8 ke, .int .u8 ope, .int .i32 ne, .str se, .sl ae, .sl be, .int .i64 0, .int .i64 0, .sl [], .int .i64 0, .int .i64 0], [.int .u8 1, .sl [[.str (nm 119 (gn + 2))]], .str ⟨#[]⟩, .sl [], .bool false, .int .u8 9, .int .u8 0, .int .i32 0, .str ⟨#[]⟩, .sl [], .sl [exC kl opl nl sl al bl, exC 7 3 0 ⟨#[]⟩ [] [exC 4 0 0 (nm 119 (gn + 2)) [] [], exC 12 0 0 (nm 99 (gn + 1)) [[.str redN]] [exC ka opa na sa aa ba]]], .int .i64 0, .int .i64 0, .sl [], .int .i64 0, .int .i64 0], [.int .u8 1, .sl [[.str (nm 122 (gn + 3))]], .str ⟨#[]⟩, .sl [], .bool false, .int .u8 13, .int .u8 0, .int .i32 0, .str (nm 99 (gn + 1)), .sl [[.str greenN], [.str redN], [.str blueN]], .sl [exC 12 0 0 (nm 99 (gn + 1)) [[.str greenN]] [exC kb opb nb sb ab bb], exC 4 0 0 (nm 119 (gn + 2)) [] [], exC kk opk nk sk ak bk], .int .i64 0, .int .i64 0, .sl [], .int .i64 0, .int .i64 0]]) rfl rfl rfl rfl rfl (eqsC_lens ql) (by rw [eqsC_len]; omega) (by rw [eqsC_len]; omega) ?_
      refine t_move rfl rfl ?_
      refine t_move rfl rfl ?_
      refine t_appendR (cs := flatM (vasC (newV 99 (gn + 1) .col :: ⟨nm 119 (gn + 2), .int, some (redN, nm 99 (gn + 1)), false, .nil⟩ :: newV 122 (gn + 3) .int :: []))) rfl rfl rfl rfl rfl (vasC_lens vs) (by rw [vasC_len]; simp only [List.length_cons, List.length_nil]; omega) (by rw [vasC_len]; simp only [List.length_cons, List.length_nil]; omega) ?_
      refine t_assign rfl rfl ?_
      refine t_assign rfl rfl ?_
      exact TL.nil rfl
    refine DC.rename [(8, .m (.rsl 2 1 (3 + (eqsC ql).length))), (9, .m (.rsl 3 1 (3 + (vasC vs).length)))] (GH v subs main gz ++ [.row true 16 1 (flatM ([.int .u8 1, .sl [[.str (nm 99 (gn + 1))]], .str ⟨#[]⟩, .sl [], .bool false, .int .u8 ke, .int .u8 ope, .int .i32 ne, .str se, .sl ae, .sl be, .int .i64 0, .int .i64 0, .sl [], .int .i64 0, .int .i64 0] :: [.int .u8 1, .sl [[.str (nm 119 (gn + 2))]], .str ⟨#[]⟩, .sl [], .bool false, .int .u8 9, .int .u8 0, .int .i32 0, .str ⟨#[]⟩, .sl [], .sl [exC kl opl nl sl al bl, exC 7 3 0 ⟨#[]⟩ [] [exC 4 0 0 (nm 119 (gn + 2)) [] [], exC 12 0 0 (nm 99 (gn + 1)) [[.str redN]] [exC ka opa na sa aa ba]]], .int .i64 0, .int .i64 0, .sl [], .int .i64 0, .int .i64 0] :: [.int .u8 1, .sl [[.str (nm 122 (gn + 3))]], .str ⟨#[]⟩, .sl [], .bool false, .int .u8 13, .int .u8 0, .int .i32 0, .str (nm 99 (gn + 1)), .sl [[.str greenN], [.str redN], [.str blueN]], .sl [exC 12 0 0 (nm 99 (gn + 1)) [[.str greenN]] [exC kb opb nb sb ab bb], exC 4 0 0 (nm 119 (gn + 2)) [] [], exC kk opk nk sk ak bk], .int .i64 0, .int .i64 0, .sl [], .int .i64 0, .int .i64 0] :: eqsC ql)), .row true 15 1 (flatM (vasC (newV 99 (gn + 1) .col :: ⟨nm 119 (gn + 2), .int, some (redN, nm 99 (gn + 1)), false, .nil⟩ :: newV 122 (gn + 3) .int :: vs)))]) ⟨rfl, rfl, trivial⟩ rfl ?_
    have hrow2 : eqsC (.df (nm 99 (gn + 1)) e :: .df (nm 119 (gn + 2)) (.fby k2 (.bin 3 (.var (nm 119 (gn + 2))) (.whn (nm 99 (gn + 1)) redN a))) :: .df (nm 122 (gn + 3)) (.merge (nm 99 (gn + 1)) greenN redN blueN (.whn (nm 99 (gn + 1)) greenN b) (.var (nm 119 (gn + 2))) k) :: ql) = [.int .u8 1, .sl [[.str (nm 99 (gn + 1))]], .str ⟨#[]⟩, .sl [], .bool false, .int .u8 ke, .int .u8 ope, .int .i32 ne, .str se, .sl ae, .sl be, .int .i64 0, .int .i64 0, .sl [], .int .i64 0, .int .i64 0] :: [.int .u8 1, .sl [[.str (nm 119 (gn + 2))]], .str ⟨#[]⟩, .sl [], .bool false, .int .u8 9, .int .u8 0, .int .i32 0, .str ⟨#[]⟩, .sl [], .sl [exC kl opl nl sl al bl, exC 7 3 0 ⟨#[]⟩ [] [exC 4 0 0 (nm 119 (gn + 2)) [] [], exC 12 0 0 (nm 99 (gn + 1)) [[.str redN]] [exC ka opa na sa aa ba]]], .int .i64 0, .int .i64 0, .sl [], .int .i64 0, .int .i64 0] :: [.int .u8 1, .sl [[.str (nm 122 (gn + 3))]], .str ⟨#[]⟩, .sl [], .bool false, .int .u8 13, .int .u8 0, .int .i32 0, .str (nm 99 (gn + 1)), .sl [[.str greenN], [.str redN], [.str blueN]], .sl [exC 12 0 0 (nm 99 (gn + 1)) [[.str greenN]] [exC kb opb nb sb ab bb], exC 4 0 0 (nm 119 (gn + 2)) [] [], exC kk opk nk sk ak bk], .int .i64 0, .int .i64 0, .sl [], .int .i64 0, .int .i64 0] :: eqsC ql := by
      have h := eqsC_append (.df (nm 99 (gn + 1)) e :: .df (nm 119 (gn + 2)) (.fby k2 (.bin 3 (.var (nm 119 (gn + 2))) (.whn (nm 99 (gn + 1)) redN a))) :: .df (nm 122 (gn + 3)) (.merge (nm 99 (gn + 1)) greenN redN blueN (.whn (nm 99 (gn + 1)) greenN b) (.var (nm 119 (gn + 2))) k) :: []) ql
      rw [hrow] at h
      exact h
    refine DC.viewSlot 8 rfl (rowView rfl (by simp only [List.length_cons]; omega) (by simp) (by rw [← hrow2]; exact eqsC_lens _)) ?_
    refine DC.viewSlot 9 rfl (rowView rfl (by simp only [vasC_len, List.length_cons]; omega) (by simp [vasC]) (vasC_lens _)) ?_
    refine DC.ret ⟨_, rfl, nat_le rfl, mbb_ok rfl, gh_hb v subs main gz, .df (nm 99 (gn + 1)) e :: .df (nm 119 (gn + 2)) (.fby k2 (.bin 3 (.var (nm 119 (gn + 2))) (.whn (nm 99 (gn + 1)) redN a))) :: .df (nm 122 (gn + 3)) (.merge (nm 99 (gn + 1)) greenN redN blueN (.whn (nm 99 (gn + 1)) greenN b) (.var (nm 119 (gn + 2))) k) :: ql, newV 99 (gn + 1) .col :: ⟨nm 119 (gn + 2), .int, some (redN, nm 99 (gn + 1)), false, .nil⟩ :: newV 122 (gn + 3) .int :: vs, gz, by rw [hrow2]; rfl, rfl, ?_, by simp only [List.length_cons]; omega, by simp only [List.length_cons]; omega, ⟨by have := hbm.i; simp only; omega, hbm.le, by have := hbm.n; simp only; omega, hbm.pay, by simp only; omega, by have := hbm.q1; simp only; omega⟩⟩
    refine .sampled a b k k2 e _ hga hgb hgk hgk2 hge (.inr rfl) ?_
    have e2 : gn + 3 = g9.n := by omega
    rw [e2]; rw [e2] at hgq; exact hgq
end
end Go.Proofs
