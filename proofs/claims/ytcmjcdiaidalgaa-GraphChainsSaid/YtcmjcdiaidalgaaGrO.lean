/- GraphRights: what the program calls an order is one, and what the law calls one. -/
import Derived.Test.YtcmjcdiaidalgaaGrN
namespace Go.Proofs
open Go.Mt
set_option maxRecDepth 4000
set_option linter.unusedSimpArgs false
set_option linter.unusedVariables false

theorem wfU16 {n : Int} (h : (Lit.int .u16 n).wf = true) : 0 ≤ n ∧ n < 65536 := by
  simp only [Lit.wf, Bool.and_eq_true, decide_eq_true_eq] at h
  have h1 : IntKind.u16.min = 0 := by decide
  have h2 : IntKind.u16.max = 65535 := by decide
  omega
theorem wfU8 {n : Int} (h : (Lit.int .u8 n).wf = true) : 0 ≤ n ∧ n < 256 := by
  simp only [Lit.wf, Bool.and_eq_true, decide_eq_true_eq] at h
  have h1 : IntKind.u8.min = 0 := by decide
  have h2 : IntKind.u8.max = 255 := by decide
  omega
theorem wfI64 {n : Int} (h : 0 ≤ n ∧ n < 256) : (Lit.int .i64 n).wf = true := by
  simp only [Lit.wf, Bool.and_eq_true, decide_eq_true_eq]
  have h1 : IntKind.i64.min = -9223372036854775808 := by decide
  have h2 : IntKind.i64.max = 9223372036854775807 := by decide
  omega
def nearF (z : Int) : Int := (IntKind.i64.wrap z).tmod 16
theorem nearF_wf {z : Int} (h : 0 ≤ z ∧ z < 256) : (Lit.int .i64 (nearF z)).wf = true := by
  apply wfI64
  unfold nearF
  have e : IntKind.i64.wrap z = z := IntWalk.i64_in _ ⟨by omega, by omega⟩
  rw [e, Int.tmod_eq_emod_of_nonneg h.1]
  omega
theorem toI_rows (o : List Nat) : intsD .i64 (Go.Gr.toI o) = natsR o := by simp [intsD, Go.Gr.toI, natsR]
theorem GraphRights_true (zs0 : List Int) (v0 : D) (hin0 : InI .u16 zs0 v0) (zs1 : List Int) (v1 : D) (hin1 : InI .i64 zs1 v1) (zs2 : List Int) (v2 : D) (hin2 : InI .u8 zs2 v2) : PT Try.prog 3 [v0, v1, v2] (· = [.bool true]) := by
  have hch := chain_ok zs0 v0 hin0
  have hw : ∀ x ∈ zs0.take 14, 0 ≤ x ∧ x < 65536 := fun x hx => wfU16 (hin0.2.2 x (List.mem_of_mem_take hx))
  have hxn : (zs0.take 14).length ≤ 14 := by rw [List.length_take]; omega
  generalize zs0.take 14 = xs at hch hw hxn
  have hes := esL_lt xs
  have hsm := esL_small hw hxn
  have hn : (esL xs).length ≤ 14 := by rw [esL_len]; exact hxn
  have hed := edges_ok xs hw hxn
  have hord := order_ok (esL xs) hes hn hsm
  have hR1 := Right_ok xs zs1 v1 hw hxn hin1
  have hr1 := right_ok (esL xs) zs1 v1 hes hn hsm hin1
  have hm : InI .i64 (zs2.map nearF) (.sl (intsD .i64 (zs2.map nearF))) := ⟨by simp [slLen, intsD], .inr rfl, by
    intro z hz
    obtain ⟨y, hy, rfl⟩ := List.mem_map.1 hz
    exact nearF_wf (wfU8 (hin2.2.2 y hy))⟩
  have hR2 := Right_ok xs _ _ hw hxn hm
  have hr2 := right_ok (esL xs) _ _ hes hn hsm hm
  have ho : InI .i64 (Go.Gr.toI (Go.Gr.ordL (esL xs))) (.sl (natsR (Go.Gr.ordL (esL xs)))) := ⟨by simp [slLen, natsR, Go.Gr.toI], .inr (by rw [toI_rows]), by
    intro z hz
    obtain ⟨y, hy, rfl⟩ := List.mem_map.1 hz
    apply wfI64
    rcases Go.Gr.ordL_spec (esL xs) with ⟨h1, _⟩ | ⟨h1, _⟩
    · have := h1.lt y hy; omega
    · rw [h1] at hy; cases hy⟩
  have hR3 := Right_ok xs _ _ hw hxn ho
  have hlaw := Go.Gr.ordL_law (esL xs)
  generalize esL xs = es at hes hsm hn hed hord hR1 hr1 hR2 hr2 hR3 hlaw
  generalize Go.Gr.isOrd es zs1 = A at hR1 hr1
  generalize Go.Gr.isOrd es (zs2.map nearF) = B at hR2 hr2
  generalize Go.Gr.isOrd es (Go.Gr.toI (Go.Gr.ordL es)) = C at hR3 hlaw
  generalize Go.Gr.ordL es = o at hord hR3 hlaw
  have hlaw2 : (C == ((o.length : Int) == (es.length : Int))) = true := by
    subst hlaw
    rw [beq_iff_eq, Bool.eq_iff_iff]
    simp only [beq_iff_eq]
    omega
  obtain ⟨hlen1, _, _⟩ := hin1
  obtain ⟨hlen2, hv2, _⟩ := hin2
  refine PT.of_CT (CT.of_body Try.func3 rfl Try.ntmps3 rfl fun s0 Oo => ?_)
  refine TC.base fun hbase => ?_
  repeat refine TC.seq ?_
  refine TC.region ?_
  refine t_assign rfl rfl ?_
  refine TL.nil ?_
  rcases Nat.lt_or_ge 40 zs1.length with h1 | h1
  · repeat refine TC.seq ?_
    refine TC.region ?_
    refine t_call1 graphAwake rfl rfl ?_
    refine t_not rfl rfl ?_
    refine t_move rfl rfl ?_
    first | refine t_guard_no rfl rfl ?_ | (refine t_guard_yes rfl ?_; (refine t_move rfl rfl ?_))
    first | refine t_guard_no rfl rfl ?_ | (refine t_guard_yes rfl ?_; (refine t_lenS rfl rfl hlen1 ?_))
    first | refine t_guard_no rfl rfl ?_ | (refine t_guard_yes rfl ?_; ((refine t_int rfl rfl rfl rfl ?_; rw [show decide ((zs1.length : Int) > 40) = true from decide_eq_true (by omega)])))
    refine t_pick rfl rfl rfl ?_
    refine t_move rfl rfl ?_
    first | refine t_guard_no rfl rfl ?_ | (refine t_guard_yes rfl ?_; (refine t_move rfl rfl ?_))
    first | refine t_guard_no rfl rfl ?_ | (refine t_guard_yes rfl ?_; (refine t_lenS rfl rfl hlen2 ?_))
    first | refine t_guard_no rfl rfl ?_ | (refine t_guard_yes rfl ?_; (refine t_int rfl rfl rfl rfl ?_))
    refine t_pick rfl rfl rfl ?_
    refine TL.nil ?_
    repeat refine TC.seq ?_
    refine TC.cond rfl (fun hc => ?_) (fun hc => by cases hc)
    repeat refine TC.seq ?_
    refine TC.region ?_
    refine t_call1 graphAwake rfl rfl ?_
    refine t_assign rfl rfl ?_
    refine TL.nil ?_
    exact TC.ret ⟨_, rfl, [_], rfl, rfl⟩
  rcases Nat.lt_or_ge 40 zs2.length with h2 | h2
  · repeat refine TC.seq ?_
    refine TC.region ?_
    refine t_call1 graphAwake rfl rfl ?_
    refine t_not rfl rfl ?_
    refine t_move rfl rfl ?_
    first | refine t_guard_no rfl rfl ?_ | (refine t_guard_yes rfl ?_; (refine t_move rfl rfl ?_))
    first | refine t_guard_no rfl rfl ?_ | (refine t_guard_yes rfl ?_; (refine t_lenS rfl rfl hlen1 ?_))
    first | refine t_guard_no rfl rfl ?_ | (refine t_guard_yes rfl ?_; ((refine t_int rfl rfl rfl rfl ?_; rw [show decide ((zs1.length : Int) > 40) = false from decide_eq_false (by omega)])))
    refine t_pick rfl rfl rfl ?_
    refine t_move rfl rfl ?_
    first | refine t_guard_no rfl rfl ?_ | (refine t_guard_yes rfl ?_; (refine t_move rfl rfl ?_))
    first | refine t_guard_no rfl rfl ?_ | (refine t_guard_yes rfl ?_; (refine t_lenS rfl rfl hlen2 ?_))
    first | refine t_guard_no rfl rfl ?_ | (refine t_guard_yes rfl ?_; ((refine t_int rfl rfl rfl rfl ?_; rw [show decide ((zs2.length : Int) > 40) = true from decide_eq_true (by omega)])))
    refine t_pick rfl rfl rfl ?_
    refine TL.nil ?_
    repeat refine TC.seq ?_
    refine TC.cond rfl (fun hc => ?_) (fun hc => by cases hc)
    repeat refine TC.seq ?_
    refine TC.region ?_
    refine t_call1 graphAwake rfl rfl ?_
    refine t_assign rfl rfl ?_
    refine TL.nil ?_
    exact TC.ret ⟨_, rfl, [_], rfl, rfl⟩
  repeat refine TC.seq ?_
  refine TC.region ?_
  refine t_call1 graphAwake rfl rfl ?_
  refine t_not rfl rfl ?_
  refine t_move rfl rfl ?_
  first | refine t_guard_no rfl rfl ?_ | (refine t_guard_yes rfl ?_; (refine t_move rfl rfl ?_))
  first | refine t_guard_no rfl rfl ?_ | (refine t_guard_yes rfl ?_; (refine t_lenS rfl rfl hlen1 ?_))
  first | refine t_guard_no rfl rfl ?_ | (refine t_guard_yes rfl ?_; ((refine t_int rfl rfl rfl rfl ?_; rw [show decide ((zs1.length : Int) > 40) = false from decide_eq_false (by omega)])))
  refine t_pick rfl rfl rfl ?_
  refine t_move rfl rfl ?_
  first | refine t_guard_no rfl rfl ?_ | (refine t_guard_yes rfl ?_; (refine t_move rfl rfl ?_))
  first | refine t_guard_no rfl rfl ?_ | (refine t_guard_yes rfl ?_; (refine t_lenS rfl rfl hlen2 ?_))
  first | refine t_guard_no rfl rfl ?_ | (refine t_guard_yes rfl ?_; ((refine t_int rfl rfl rfl rfl ?_; rw [show decide ((zs2.length : Int) > 40) = false from decide_eq_false (by omega)])))
  refine t_pick rfl rfl rfl ?_
  refine TL.nil ?_
  repeat refine TC.seq ?_
  refine TC.cond rfl (fun hc => by cases hc) (fun hc => ?_)
  refine TC.skip ?_
  repeat refine TC.seq ?_
  refine TC.region ?_
  refine t_move rfl rfl ?_
  refine t_call1 hch rfl rfl ?_
  refine t_alloc rfl rfl ?_
  refine t_storeL rfl rfl rfl rfl rfl rfl ?_
  refine TL.nil ?_
  repeat refine TC.seq ?_
  refine TC.region ?_
  first | refine t_loadDw rfl rfl rfl ?_ | refine t_loadDa rfl rfl rfl ?_ | refine t_loadLa rfl rfl rfl rfl rfl ?_ | refine t_loadRa rfl rfl rfl rfl rfl ?_
  refine t_call1 hed rfl rfl ?_
  refine t_assign rfl rfl ?_
  refine TL.nil ?_
  repeat refine TC.seq ?_
  refine TC.region ?_
  refine t_assign rfl rfl ?_
  refine TL.nil ?_
  repeat refine TC.seq ?_
  refine TC.region ?_
  refine t_assign rfl rfl ?_
  refine TL.nil ?_
  have hC : ∃ c1 c2, chainC xs = [.str nameF, .sl [], .sl [], c1, c2] := ⟨_, _, rfl⟩
  obtain ⟨c1, c2, hcc⟩ := hC
  refine TC.rename [(10, .m (.d (.int .i64 ((0 : Nat) : Int)))), (9, .m (genM 0 (intsD .i64 ((zs2.map nearF).take 0)))), (8, .m (.d (.sl (rowsL es)))), (7, .loc 7 0), (2, .m (.d v2)), (1, .m (.d v1))] (genH [] 1 (intsD .i64 ((zs2.map nearF).take 0))) ⟨rfl, rfl, rfl, rfl, rfl, rfl, trivial⟩ rfl ?_
  repeat refine TC.seq ?_
  refine TC.block ?_
  refine TC.loopB (fun k s => ∃ (i : Nat), s = ⟨[(10, .m (.d (.int .i64 i))), (9, .m (genM 0 (intsD .i64 ((zs2.map nearF).take i)))), (8, .m (.d (.sl (rowsL es)))), (7, .loc 7 0), (2, .m (.d v2)), (1, .m (.d v1))], [(7, (chainC xs).map .d), (7, [.d (.str ⟨#[]⟩), .d (.sl []), .d (.sl []), .d (.sl []), .d (.sl [])])], genH [] 1 (intsD .i64 ((zs2.map nearF).take i))⟩ ∧ i ≤ zs2.length ∧ k = zs2.length - i) zs2.length _
    ⟨0, rfl, by omega, rfl⟩ ⟨rfl, rfl, rfl, rfl, rfl, rfl, trivial⟩ ?_
  rintro k s ⟨i, rfl, hi, rfl⟩
  repeat refine TC.seq ?_
  refine TC.region ?_
  refine t_move rfl rfl ?_
  refine t_move rfl rfl ?_
  refine t_lenS rfl rfl hlen2 ?_
  refine t_int rfl rfl rfl rfl ?_
  refine TL.nil ?_
  repeat refine TC.seq ?_
  refine TC.cond rfl (fun hc => ?_) (fun hc => ?_)
  · have hc' : i < zs2.length := by have := of_decide_eq_true hc; omega
    clear hc
    obtain rfl : v2 = .sl (intsD .u8 zs2) := hv2.resolve_left (by rintro rfl; simp at hc')
    have hget : (intsD .u8 zs2)[((i : Nat) : Int).toNat]? = some [.int .u8 zs2[i]] := intsD_get (List.getElem?_eq_getElem hc')
    have htk : intsD .i64 ((zs2.map nearF).take (i + 1)) = intsD .i64 ((zs2.map nearF).take i) ++ [[.int .i64 (nearF zs2[i])]] := by
      rw [List.take_succ_eq_append_getElem (by simpa using hc')]
      simp [intsD]
    have hl : (intsD .i64 ((zs2.map nearF).take i)).length ≤ 40 := by simp [intsD]; omega
    generalize zs2[i] = z at hget htk
    refine TC.skip ?_
    repeat refine TC.seq ?_
    refine TC.block ?_
    repeat refine TC.seq ?_
    refine TC.region ?_
    refine t_move rfl rfl ?_
    refine t_move rfl rfl ?_
    refine t_move rfl rfl ?_
    refine t_indexD rfl rfl rfl (Int.natCast_nonneg i) hget rfl ?_
    first | refine t_loadDc rfl rfl rfl ?_ | refine t_loadLc rfl rfl rfl rfl ?_ | refine t_loadRc rfl rfl rfl rfl ?_
    refine t_convI rfl rfl ?_
    refine t_rem rfl rfl rfl rfl ?_
    refine t_buildSlice rfl rfl rfl rfl rfl rfl rfl rfl ?_
    refine t_snoc (H0 := []) rfl rfl rfl rfl (by rfl) rfl (by omega) (by omega) ?_
    refine t_assign rfl rfl ?_
    refine TL.nil ?_
    repeat refine TC.seq ?_
    refine TC.region ?_
    refine t_move rfl rfl ?_
    refine t_add64 rfl rfl rfl (by omega) ?_
    refine t_assign rfl rfl ?_
    refine TL.nil ?_
    exact again (k' := zs2.length - (i + 1)) (by omega) ⟨i + 1, rfl, by omega, rfl⟩ (by rw [htk]; rfl) ⟨by simp; rfl, by rw [htk]; rfl, rfl, rfl, rfl, rfl, trivial⟩
  · refine TC.exit ?_
    have hc' : i = zs2.length := by have := of_decide_eq_false hc; omega
    subst hc'
    rw [List.take_of_length_le (by simp)]
    refine TC.viewSlot 9 rfl (gen_view [] 1 (intsD .i64 (zs2.map nearF)) (by intro r hr; obtain ⟨_, _, rfl⟩ := List.mem_map.1 hr; rfl)) ?_
    repeat refine TC.seq ?_
    refine TC.draw mixed ?_
    first | refine f_loadDw rfl rfl rfl ?_ | refine f_loadDa rfl rfl rfl ?_ | refine f_loadLa rfl rfl rfl rfl rfl ?_ | refine f_loadRa rfl rfl rfl rfl rfl ?_
    refine f_move rfl rfl ?_
    refine f_call1 hR1 rfl rfl ?_
    refine f_move rfl rfl ?_
    refine f_move rfl rfl ?_
    refine f_call1 hr1 rfl rfl ?_
    (refine f_beq rfl rfl rfl ?_; rw [show (A == A) = true from beq_self_eq_true A])
    refine f_move rfl rfl ?_
    first | refine f_guard_no rfl rfl rfl rfl ?_ | refine f_guard_un rfl rfl rfl ?_ | (refine f_guard_yes rfl rfl ?_; (first | refine f_loadDw rfl rfl rfl ?_ | refine f_loadDa rfl rfl rfl ?_ | refine f_loadLa rfl rfl rfl rfl rfl ?_ | refine f_loadRa rfl rfl rfl rfl rfl ?_))
    first | refine f_guard_no rfl rfl rfl rfl ?_ | refine f_guard_un rfl rfl rfl ?_ | (refine f_guard_yes rfl rfl ?_; (refine f_move rfl rfl ?_))
    first | refine f_guard_no rfl rfl rfl rfl ?_ | refine f_guard_un rfl rfl rfl ?_ | (refine f_guard_yes rfl rfl ?_; (refine f_call1 hR2 rfl rfl ?_))
    first | refine f_guard_no rfl rfl rfl rfl ?_ | refine f_guard_un rfl rfl rfl ?_ | (refine f_guard_yes rfl rfl ?_; (refine f_move rfl rfl ?_))
    first | refine f_guard_no rfl rfl rfl rfl ?_ | refine f_guard_un rfl rfl rfl ?_ | (refine f_guard_yes rfl rfl ?_; (refine f_move rfl rfl ?_))
    first | refine f_guard_no rfl rfl rfl rfl ?_ | refine f_guard_un rfl rfl rfl ?_ | (refine f_guard_yes rfl rfl ?_; (refine f_call1 hr2 rfl rfl ?_))
    first | refine f_guard_no rfl rfl rfl rfl ?_ | refine f_guard_un rfl rfl rfl ?_ | (refine f_guard_yes rfl rfl ?_; ((refine f_beq rfl rfl rfl ?_; rw [show (B == B) = true from beq_self_eq_true B])))
    refine f_pick rfl rfl rfl ?_
    refine f_move rfl rfl ?_
    first | refine f_guard_no rfl rfl rfl rfl ?_ | refine f_guard_un rfl rfl rfl ?_ | (refine f_guard_yes rfl rfl ?_; (first | refine f_loadDw rfl rfl rfl ?_ | refine f_loadDa rfl rfl rfl ?_ | refine f_loadLa rfl rfl rfl rfl rfl ?_ | refine f_loadRa rfl rfl rfl rfl rfl ?_))
    first | refine f_guard_no rfl rfl rfl rfl ?_ | refine f_guard_un rfl rfl rfl ?_ | (refine f_guard_yes rfl rfl ?_; (refine f_move rfl rfl ?_))
    first | refine f_guard_no rfl rfl rfl rfl ?_ | refine f_guard_un rfl rfl rfl ?_ | (refine f_guard_yes rfl rfl ?_; (refine f_call1 hord rfl rfl ?_))
    first | refine f_guard_no rfl rfl rfl rfl ?_ | refine f_guard_un rfl rfl rfl ?_ | (refine f_guard_yes rfl rfl ?_; (refine f_call1 hR3 rfl rfl ?_))
    first | refine f_guard_no rfl rfl rfl rfl ?_ | refine f_guard_un rfl rfl rfl ?_ | (refine f_guard_yes rfl rfl ?_; (refine f_move rfl rfl ?_))
    first | refine f_guard_no rfl rfl rfl rfl ?_ | refine f_guard_un rfl rfl rfl ?_ | (refine f_guard_yes rfl rfl ?_; (refine f_call1 hord rfl rfl ?_))
    first | refine f_guard_no rfl rfl rfl rfl ?_ | refine f_guard_un rfl rfl rfl ?_ | (refine f_guard_yes rfl rfl ?_; ((refine f_lenS rfl rfl rfl ?_; rw [natsR_len])))
    first | refine f_guard_no rfl rfl rfl rfl ?_ | refine f_guard_un rfl rfl rfl ?_ | (refine f_guard_yes rfl rfl ?_; (refine f_move rfl rfl ?_))
    first | refine f_guard_no rfl rfl rfl rfl ?_ | refine f_guard_un rfl rfl rfl ?_ | (refine f_guard_yes rfl rfl ?_; ((refine f_lenS rfl rfl rfl ?_; rw [rowsL_len])))
    first | refine f_guard_no rfl rfl rfl rfl ?_ | refine f_guard_un rfl rfl rfl ?_ | (refine f_guard_yes rfl rfl ?_; (refine f_int rfl rfl rfl rfl ?_))
    first | refine f_guard_no rfl rfl rfl rfl ?_ | refine f_guard_un rfl rfl rfl ?_ | (refine f_guard_yes rfl rfl ?_; ((refine f_beq rfl rfl rfl ?_; rw [hlaw2])))
    refine f_pick rfl rfl rfl ?_
    refine f_assign rfl rfl ?_
    refine TF.nil ⟨by kernel_rfl, ?_⟩
    exact TC.ret ⟨_, rfl, [_], rfl, rfl⟩
end Go.Proofs
