/- Nodes. (Printed by gen_MkP.py.) -/
import Derived.Test.YtcmjcdiaidalgaaMkO
set_option linter.unusedVariables false
set_option linter.unusedSimpArgs false
set_option linter.unusedSectionVars false
namespace Go.Proofs
open Go.Mt Go.Mk
set_option maxRecDepth 4000
set_option linter.unusedSimpArgs false
set_option linter.unusedVariables false

section
variable {zs : List Int} {v : D} (ht : Tape zs v) (subs : Nat) (main : Bool)
include ht
theorem blocks (hs : subs ≤ 10) : ∀ d, d ≤ 3 → BlockOk zs v subs main d
  | 0, h => block_dt ht subs main 0 h (eqs_dt ht subs main 0 h hs (fun d e => by omega) 14 (by omega))
  | d + 1, h => block_dt ht subs main (d + 1) h (eqs_dt ht subs main (d + 1) h hs (fun d' e => by
      have e' : d' = d := by omega
      subst e'
      exact blocks hs d' (by omega)) 14 (by omega))
theorem node_dt (hs : subs ≤ 10) (i0 : Nat) (hi0 : i0 ≤ zs.length) : DT Try.prog 33 [.ref 1 0, .d (.int .i64 ((subs : Nat) : Int))] (GH v subs main ⟨i0, 0, 14⟩) fun r K => ∃ (dd : Nd) (g' : GS), r = .d (.agg dd.cells) ∧ K = GH v subs main g' ∧ GN subs dd ∧ i0 ≤ g'.i ∧ g'.i ≤ zs.length := by
  have hL := ht.hl
  have hdg := digits_pt (subs + 1) subs (by omega) (by omega)
  have hds := dg_size subs
  obtain ⟨r1, K1, ⟨j, g1, rfl, rfl, hr1⟩, hc1⟩ := next_dt ht subs main 3 (by omega) (by omega) ⟨i0, 0, 14⟩ hi0
  have hm1 := hr1.mv
  have e1n := hm1.n
  have e1q := hm1.q
  have e1i := hm1.i
  simp only at e1n e1q e1i
  rcases Nat.eq_zero_or_pos j with hj | hj
  · skip
    subst hj
    obtain ⟨r2, K2, ⟨e, g2, rfl, rfl, hgc, hm2⟩, hc2⟩ := constant_dt ht subs main .int g1 hm1.le
    obtain ⟨ke, ope, ne, se, ae, be, he⟩ := e.shape
    rw [he] at hc2
    have e2n := hm2.n
    have e2q := hm2.q
    have e2i := hm2.i
    have hv : vasC [⟨⟨#[120]⟩, .int, none, true, e⟩, yV] = [[D.str ⟨#[120]⟩, .int .u8 2, .str ⟨#[]⟩, .sl [], .bool true, .int .u8 ke, .int .u8 ope, .int .i32 ne, .str se, .sl ae, .sl be, .int .i64 0, .int .i64 0, .int .i64 0, .int .i64 0], [D.str ⟨#[121]⟩, .int .u8 3, .str colN, .sl [], .bool false, .int .u8 0, .int .u8 0, .int .i32 0, .str ⟨#[]⟩, .sl [], .sl [], .int .i64 0, .int .i64 0, .int .i64 0, .int .i64 0]] := by simp only [vasC, List.map_cons, List.map_nil, Va.cells, he]; rfl
    obtain ⟨r3, K3, ⟨b, g3, rfl, rfl, hgb, hbm⟩, hc3⟩ := blocks ht subs main hs 3 (by omega) ⟨[aV, bV], [], []⟩ ⟨by simp, by simp, by simp⟩ [⟨⟨#[120]⟩, .int, none, true, e⟩, yV] (by simp) g2 hm2.le (by omega) (by omega) (by omega)
    obtain ⟨bv, bq, hb⟩ := b.shape
    rw [hb, hv] at hc3
    have hc3 := sufCall (by rfl) hc3 [.row true 15 0 (flatM [[D.str ⟨#[120]⟩, .int .u8 2, .str ⟨#[]⟩, .sl [], .bool true, .int .u8 ke, .int .u8 ope, .int .i32 ne, .str se, .sl ae, .sl be, .int .i64 0, .int .i64 0, .int .i64 0, .int .i64 0], [D.str ⟨#[121]⟩, .int .u8 3, .str colN, .sl [], .bool false, .int .u8 0, .int .u8 0, .int .i32 0, .str ⟨#[]⟩, .sl [], .sl [], .int .i64 0, .int .i64 0, .int .i64 0, .int .i64 0]])]
    have hbi := hbm.i
    refine DT.drop 2 (Nat.le_refl _) ?_
    refine DT.of_body Try.func33 rfl Try.ntmps33 rfl ?_
    repeat refine DC.seq ?_
    apply DC.regionX
    · intro s0 Oo
      refine t_alloc rfl rfl ?_
      exact TL.nil rfl
    repeat refine DC.seq ?_
    apply DC.regionX
    · intro s0 Oo
      refine t_move rfl rfl ?_
      refine t_call1 hdg rfl rfl ?_
      refine t_stradd rfl rfl rfl (by have : (⟨#[102]⟩ : ByteArray).size = 1 := rfl; omega) ?_
      refine t_build rfl rfl rfl rfl rfl ?_
      refine t_alloc rfl rfl ?_
      refine t_storeL rfl rfl rfl rfl rfl rfl ?_
      exact TL.nil rfl
    repeat refine DC.seq ?_
    apply DC.regionX
    · intro s0 Oo
      refine t_call1 tInt_pt rfl rfl ?_
      refine t_build rfl rfl rfl rfl rfl ?_
      refine t_call1 tBool_pt rfl rfl ?_
      refine t_build rfl rfl rfl rfl rfl ?_
      refine t_buildSlice rfl rfl rfl rfl rfl rfl rfl rfl ?_
      refine t_fieldL rfl rfl ?_
      refine t_storeL rfl rfl rfl rfl rfl rfl ?_
      exact TL.nil rfl
    repeat refine DC.seq ?_
    apply DC.regionX
    · intro s0 Oo
      refine t_call1 tInt_pt rfl rfl ?_
      refine t_build rfl rfl rfl rfl rfl ?_
      refine t_call1 tCol_pt rfl rfl ?_
      refine t_build rfl rfl rfl rfl rfl ?_
      refine t_buildRow rfl rfl rfl rfl rfl rfl ?_
      refine t_fieldL rfl rfl ?_
      refine t_storeL rfl rfl rfl rfl rfl rfl ?_
      exact TL.nil rfl
    have hc1' := sufCall (by rfl) hc1 [.row false 15 0 (flatM [[D.str ⟨#[120]⟩, .int .u8 2, .str ⟨#[]⟩, .sl [], .bool false, .int .u8 0, .int .u8 0, .int .i32 0, .str ⟨#[]⟩, .sl [], .sl [], .int .i64 0, .int .i64 0, .int .i64 0, .int .i64 0], [D.str ⟨#[121]⟩, .int .u8 3, .str colN, .sl [], .bool false, .int .u8 0, .int .u8 0, .int .i32 0, .str ⟨#[]⟩, .sl [], .sl [], .int .i64 0, .int .i64 0, .int .i64 0, .int .i64 0]])]
    have hc2' := sufCall (by rfl) hc2 [.row false 15 0 (flatM [[D.str ⟨#[120]⟩, .int .u8 2, .str ⟨#[]⟩, .sl [], .bool true, .int .u8 0, .int .u8 0, .int .i32 0, .str ⟨#[]⟩, .sl [], .sl [], .int .i64 0, .int .i64 0, .int .i64 0, .int .i64 0], [D.str ⟨#[121]⟩, .int .u8 3, .str colN, .sl [], .bool false, .int .u8 0, .int .u8 0, .int .i32 0, .str ⟨#[]⟩, .sl [], .sl [], .int .i64 0, .int .i64 0, .int .i64 0, .int .i64 0]])]
    repeat refine DC.seq ?_
    apply DC.regionX
    · intro s0 Oo
      refine t_move rfl rfl ?_
      refine t_nilCheck rfl rfl rfl ?_
      refine t_fieldR rfl rfl ?_
      refine t_loadRc rfl rfl rfl rfl ?_
      refine t_callD hc1' rfl rfl ?_
      refine t_int rfl rfl rfl rfl ?_
      exact TL.nil rfl
    repeat refine DC.seq ?_
    refine DC.cond rfl (fun hc => ?_) (fun hc => by cases hc)
    repeat refine DC.seq ?_
    apply DC.regionX
    · intro s0 Oo
      refine t_fieldL rfl rfl ?_
      refine t_loadLc rfl rfl rfl rfl ?_
      refine t_indexR rfl rfl rfl rfl (by omega) (by decide) ?_
      refine t_fieldW rfl rfl ?_
      refine t_storeW rfl rfl rfl rfl rfl rfl ?_
      exact TL.nil rfl
    repeat refine DC.seq ?_
    apply DC.drawX mixed
    · intro s0 Oo
      refine f_fieldL rfl rfl ?_
      refine f_loadLc rfl rfl rfl rfl ?_
      refine f_move rfl rfl ?_
      refine f_call1 tInt_pt rfl rfl ?_
      refine f_callR hc2' rfl rfl ?_
      refine f_indexR rfl rfl rfl rfl (by omega) (by decide) ?_
      refine f_fieldW rfl rfl ?_
      refine f_storeW rfl rfl rfl rfl rfl rfl ?_
      exact TF.nil ⟨by kernel_rfl, rfl⟩
    refine DC.freezeRow 2 rfl ?_
    refine DC.rename [(5, .loc 5 0), (4, .loc 4 0), (0, .m (.ref 1 0))] (GH v subs main g2 ++ [.row true 15 0 (flatM [[D.str ⟨#[120]⟩, .int .u8 2, .str ⟨#[]⟩, .sl [], .bool true, .int .u8 ke, .int .u8 ope, .int .i32 ne, .str se, .sl ae, .sl be, .int .i64 0, .int .i64 0, .int .i64 0, .int .i64 0], [D.str ⟨#[121]⟩, .int .u8 3, .str colN, .sl [], .bool false, .int .u8 0, .int .u8 0, .int .i32 0, .str ⟨#[]⟩, .sl [], .sl [], .int .i64 0, .int .i64 0, .int .i64 0, .int .i64 0]])]) ⟨rfl, rfl, rfl, trivial⟩ rfl ?_
    refine DC.viewBox (cs' := [.d (.str (⟨#[102]⟩ ++ dg subs)), .d (.sl (vasC [aV, bV])), .d (.sl [[D.str ⟨#[120]⟩, .int .u8 2, .str ⟨#[]⟩, .sl [], .bool true, .int .u8 ke, .int .u8 ope, .int .i32 ne, .str se, .sl ae, .sl be, .int .i64 0, .int .i64 0, .int .i64 0, .int .i64 0], [D.str ⟨#[121]⟩, .int .u8 3, .str colN, .sl [], .bool false, .int .u8 0, .int .u8 0, .int .i32 0, .str ⟨#[]⟩, .sl [], .sl [], .int .i64 0, .int .i64 0, .int .i64 0, .int .i64 0]]), .d (.sl []), .d (.sl []), .d (.int .i64 0), .d (.int .i64 0)]) 5 rfl (viewAll_e (viewAll_e (viewAll_m (rowView (n := 15) (rs := [[D.str ⟨#[120]⟩, .int .u8 2, .str ⟨#[]⟩, .sl [], .bool true, .int .u8 ke, .int .u8 ope, .int .i32 ne, .str se, .sl ae, .sl be, .int .i64 0, .int .i64 0, .int .i64 0, .int .i64 0], [D.str ⟨#[121]⟩, .int .u8 3, .str colN, .sl [], .bool false, .int .u8 0, .int .u8 0, .int .i32 0, .str ⟨#[]⟩, .sl [], .sl [], .int .i64 0, .int .i64 0, .int .i64 0, .int .i64 0]]) rfl rfl (by simp) (by intro r hr; simp only [List.mem_cons, List.not_mem_nil, or_false] at hr; rcases hr with rfl|rfl <;> rfl)) rfl))) ?_
    repeat refine DC.seq ?_
    apply DC.regionX
    · intro s0 Oo
      refine t_fieldL rfl rfl ?_
      refine t_loadLc rfl rfl rfl rfl ?_
      refine t_build rfl rfl rfl rfl rfl ?_
      refine t_alloc rfl rfl ?_
      refine t_storeL rfl rfl rfl rfl rfl rfl ?_
      exact TL.nil rfl
    repeat refine DC.seq ?_
    apply DC.regionX
    · intro s0 Oo
      refine t_move rfl rfl ?_
      refine t_loadLa rfl rfl rfl rfl rfl ?_
      refine t_fieldL rfl rfl ?_
      refine t_loadLc rfl rfl rfl rfl ?_
      refine t_callD hc3 rfl rfl ?_
      refine t_fieldL rfl rfl ?_
      refine t_storeL rfl rfl rfl rfl rfl rfl ?_
      exact TL.nil rfl
    repeat refine DC.seq ?_
    apply DC.regionX
    · intro s0 Oo
      refine t_loadLa rfl rfl rfl rfl rfl ?_
      refine t_storeL rfl rfl rfl rfl rfl rfl ?_
      exact TL.nil rfl
    refine DC.ret ⟨_, rfl, nat_le rfl, .d _, gh_hb v subs main g3, ⟨nm 102 subs, [aV, bV], [⟨⟨#[120]⟩, .int, none, true, e⟩, yV], b⟩, g3, by rw [Nd.cells, hv, hb]; rfl, rfl, ⟨rfl, rfl, ⟨true, e, .inr ⟨rfl, hgc⟩, rfl⟩, g3.n, (by have := hbm.pay; have := hbm.le; omega), ?_⟩, by omega, hbm.le⟩
    have e0 : g2.n = 0 := by omega
    rw [e0] at hgb
    exact hgb
  · skip
    have hjb : (((j : Nat) : Int) == 0) = false := beq_eq_false_iff_ne.2 (by omega)
    have hm2 : Mv zs g1 g1 := ⟨rfl, rfl, Nat.le_refl _, hm1.le⟩
    have e2n := hm2.n
    have e2q := hm2.q
    have e2i := hm2.i
    have hv : vasC [⟨⟨#[120]⟩, .int, none, false, .nil⟩, yV] = [[D.str ⟨#[120]⟩, .int .u8 2, .str ⟨#[]⟩, .sl [], .bool false, .int .u8 0, .int .u8 0, .int .i32 0, .str ⟨#[]⟩, .sl [], .sl [], .int .i64 0, .int .i64 0, .int .i64 0, .int .i64 0], [D.str ⟨#[121]⟩, .int .u8 3, .str colN, .sl [], .bool false, .int .u8 0, .int .u8 0, .int .i32 0, .str ⟨#[]⟩, .sl [], .sl [], .int .i64 0, .int .i64 0, .int .i64 0, .int .i64 0]] := by rfl
    obtain ⟨r3, K3, ⟨b, g3, rfl, rfl, hgb, hbm⟩, hc3⟩ := blocks ht subs main hs 3 (by omega) ⟨[aV, bV], [], []⟩ ⟨by simp, by simp, by simp⟩ [⟨⟨#[120]⟩, .int, none, false, .nil⟩, yV] (by simp) g1 hm2.le (by omega) (by omega) (by omega)
    obtain ⟨bv, bq, hb⟩ := b.shape
    rw [hb, hv] at hc3
    have hc3 := sufCall (by rfl) hc3 [.row true 15 0 (flatM [[D.str ⟨#[120]⟩, .int .u8 2, .str ⟨#[]⟩, .sl [], .bool false, .int .u8 0, .int .u8 0, .int .i32 0, .str ⟨#[]⟩, .sl [], .sl [], .int .i64 0, .int .i64 0, .int .i64 0, .int .i64 0], [D.str ⟨#[121]⟩, .int .u8 3, .str colN, .sl [], .bool false, .int .u8 0, .int .u8 0, .int .i32 0, .str ⟨#[]⟩, .sl [], .sl [], .int .i64 0, .int .i64 0, .int .i64 0, .int .i64 0]])]
    have hbi := hbm.i
    refine DT.drop 2 (Nat.le_refl _) ?_
    refine DT.of_body Try.func33 rfl Try.ntmps33 rfl ?_
    repeat refine DC.seq ?_
    apply DC.regionX
    · intro s0 Oo
      refine t_alloc rfl rfl ?_
      exact TL.nil rfl
    repeat refine DC.seq ?_
    apply DC.regionX
    · intro s0 Oo
      refine t_move rfl rfl ?_
      refine t_call1 hdg rfl rfl ?_
      refine t_stradd rfl rfl rfl (by have : (⟨#[102]⟩ : ByteArray).size = 1 := rfl; omega) ?_
      refine t_build rfl rfl rfl rfl rfl ?_
      refine t_alloc rfl rfl ?_
      refine t_storeL rfl rfl rfl rfl rfl rfl ?_
      exact TL.nil rfl
    repeat refine DC.seq ?_
    apply DC.regionX
    · intro s0 Oo
      refine t_call1 tInt_pt rfl rfl ?_
      refine t_build rfl rfl rfl rfl rfl ?_
      refine t_call1 tBool_pt rfl rfl ?_
      refine t_build rfl rfl rfl rfl rfl ?_
      refine t_buildSlice rfl rfl rfl rfl rfl rfl rfl rfl ?_
      refine t_fieldL rfl rfl ?_
      refine t_storeL rfl rfl rfl rfl rfl rfl ?_
      exact TL.nil rfl
    repeat refine DC.seq ?_
    apply DC.regionX
    · intro s0 Oo
      refine t_call1 tInt_pt rfl rfl ?_
      refine t_build rfl rfl rfl rfl rfl ?_
      refine t_call1 tCol_pt rfl rfl ?_
      refine t_build rfl rfl rfl rfl rfl ?_
      refine t_buildRow rfl rfl rfl rfl rfl rfl ?_
      refine t_fieldL rfl rfl ?_
      refine t_storeL rfl rfl rfl rfl rfl rfl ?_
      exact TL.nil rfl
    have hc1' := sufCall (by rfl) hc1 [.row false 15 0 (flatM [[D.str ⟨#[120]⟩, .int .u8 2, .str ⟨#[]⟩, .sl [], .bool false, .int .u8 0, .int .u8 0, .int .i32 0, .str ⟨#[]⟩, .sl [], .sl [], .int .i64 0, .int .i64 0, .int .i64 0, .int .i64 0], [D.str ⟨#[121]⟩, .int .u8 3, .str colN, .sl [], .bool false, .int .u8 0, .int .u8 0, .int .i32 0, .str ⟨#[]⟩, .sl [], .sl [], .int .i64 0, .int .i64 0, .int .i64 0, .int .i64 0]])]
    repeat refine DC.seq ?_
    apply DC.regionX
    · intro s0 Oo
      refine t_move rfl rfl ?_
      refine t_nilCheck rfl rfl rfl ?_
      refine t_fieldR rfl rfl ?_
      refine t_loadRc rfl rfl rfl rfl ?_
      refine t_callD hc1' rfl rfl ?_
      (refine t_int rfl rfl rfl (r := .bool false) (by show some (D.bool (((j : Nat) : Int) == 0)) = _; rw [hjb]) ?_)
      exact TL.nil rfl
    repeat refine DC.seq ?_
    refine DC.cond rfl (fun hc => by cases hc) (fun hc => ?_)
    refine DC.skip ?_
    refine DC.freezeRow 2 rfl ?_
    refine DC.rename [(5, .loc 5 0), (4, .loc 4 0), (0, .m (.ref 1 0))] (GH v subs main g1 ++ [.row true 15 0 (flatM [[D.str ⟨#[120]⟩, .int .u8 2, .str ⟨#[]⟩, .sl [], .bool false, .int .u8 0, .int .u8 0, .int .i32 0, .str ⟨#[]⟩, .sl [], .sl [], .int .i64 0, .int .i64 0, .int .i64 0, .int .i64 0], [D.str ⟨#[121]⟩, .int .u8 3, .str colN, .sl [], .bool false, .int .u8 0, .int .u8 0, .int .i32 0, .str ⟨#[]⟩, .sl [], .sl [], .int .i64 0, .int .i64 0, .int .i64 0, .int .i64 0]])]) ⟨rfl, rfl, rfl, trivial⟩ rfl ?_
    refine DC.viewBox (cs' := [.d (.str (⟨#[102]⟩ ++ dg subs)), .d (.sl (vasC [aV, bV])), .d (.sl [[D.str ⟨#[120]⟩, .int .u8 2, .str ⟨#[]⟩, .sl [], .bool false, .int .u8 0, .int .u8 0, .int .i32 0, .str ⟨#[]⟩, .sl [], .sl [], .int .i64 0, .int .i64 0, .int .i64 0, .int .i64 0], [D.str ⟨#[121]⟩, .int .u8 3, .str colN, .sl [], .bool false, .int .u8 0, .int .u8 0, .int .i32 0, .str ⟨#[]⟩, .sl [], .sl [], .int .i64 0, .int .i64 0, .int .i64 0, .int .i64 0]]), .d (.sl []), .d (.sl []), .d (.int .i64 0), .d (.int .i64 0)]) 5 rfl (viewAll_e (viewAll_e (viewAll_m (rowView (n := 15) (rs := [[D.str ⟨#[120]⟩, .int .u8 2, .str ⟨#[]⟩, .sl [], .bool false, .int .u8 0, .int .u8 0, .int .i32 0, .str ⟨#[]⟩, .sl [], .sl [], .int .i64 0, .int .i64 0, .int .i64 0, .int .i64 0], [D.str ⟨#[121]⟩, .int .u8 3, .str colN, .sl [], .bool false, .int .u8 0, .int .u8 0, .int .i32 0, .str ⟨#[]⟩, .sl [], .sl [], .int .i64 0, .int .i64 0, .int .i64 0, .int .i64 0]]) rfl rfl (by simp) (by intro r hr; simp only [List.mem_cons, List.not_mem_nil, or_false] at hr; rcases hr with rfl|rfl <;> rfl)) rfl))) ?_
    repeat refine DC.seq ?_
    apply DC.regionX
    · intro s0 Oo
      refine t_fieldL rfl rfl ?_
      refine t_loadLc rfl rfl rfl rfl ?_
      refine t_build rfl rfl rfl rfl rfl ?_
      refine t_alloc rfl rfl ?_
      refine t_storeL rfl rfl rfl rfl rfl rfl ?_
      exact TL.nil rfl
    repeat refine DC.seq ?_
    apply DC.regionX
    · intro s0 Oo
      refine t_move rfl rfl ?_
      refine t_loadLa rfl rfl rfl rfl rfl ?_
      refine t_fieldL rfl rfl ?_
      refine t_loadLc rfl rfl rfl rfl ?_
      refine t_callD hc3 rfl rfl ?_
      refine t_fieldL rfl rfl ?_
      refine t_storeL rfl rfl rfl rfl rfl rfl ?_
      exact TL.nil rfl
    repeat refine DC.seq ?_
    apply DC.regionX
    · intro s0 Oo
      refine t_loadLa rfl rfl rfl rfl rfl ?_
      refine t_storeL rfl rfl rfl rfl rfl rfl ?_
      exact TL.nil rfl
    refine DC.ret ⟨_, rfl, nat_le rfl, .d _, gh_hb v subs main g3, ⟨nm 102 subs, [aV, bV], [⟨⟨#[120]⟩, .int, none, false, .nil⟩, yV], b⟩, g3, by rw [Nd.cells, hv, hb]; rfl, rfl, ⟨rfl, rfl, ⟨false, .nil, .inl ⟨rfl, rfl⟩, rfl⟩, g3.n, (by have := hbm.pay; have := hbm.le; omega), ?_⟩, by omega, hbm.le⟩
    have e0 : g1.n = 0 := by omega
    rw [e0] at hgb
    exact hgb
end
end Go.Proofs
