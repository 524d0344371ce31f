import Derived.Test.YtenbmejbaiajcaaCoG
namespace Go.Proofs
open Go.Mt
set_option maxRecDepth 4000
set_option linter.unusedSimpArgs false
set_option linter.unusedVariables false

theorem getElem_last (H : Hp) (ob : Ob) : (H ++ [ob])[H.length]? = some ob := by simp
theorem graph_ok (bs : List Nat) (v : D) (hin : InD bs v) : PT Try.prog 5 [v] (· = [.agg (progC (graphP bs))]) := by
  obtain ⟨hlen, hv, hb⟩ := hin
  refine PT.of_CT (CT.of_body Try.func5 rfl Try.ntmps5 rfl fun s0 Oo => ?_)
  repeat refine TC.seq ?_
  refine TC.region ?_
  refine t_alloc rfl rfl ?_
  refine TL.nil ?_
  repeat refine TC.seq ?_
  refine TC.region ?_
  refine t_alloc rfl rfl ?_
  refine TL.nil ?_
  repeat refine TC.seq ?_
  refine TC.region ?_
  refine t_assign rfl rfl ?_
  refine TL.nil ?_
  repeat refine TC.seq ?_
  refine TC.block ?_
  refine TC.loop' (fun k s => ∃ (i : Nat) (j : Nat) (fm : M) (bx : List (Nat × List M)) (H : Hp), s = ⟨[(4, .m (.d (.int .i64 i))), (3, .loc 3 0), (2, .loc 2 0), (0, .m (.d v))], bx, H⟩ ∧ i ≤ 6 ∧ k = 6 - i ∧ Acc 6 j (((graphP bs).take i).map Fn.enc) fm H ∧
    get bx 3 = some [.d (.sl []), fm] ∧ get bx 2 = some [.d (.sl []), .d (.sl [])]) 6 _
    ⟨0, 0, .d (.sl []), [(3, [.d (.sl []), .d (.sl [])]), (2, [.d (.sl []), .d (.sl [])])], [], rfl, by omega, rfl, .inl ⟨rfl, rfl⟩, rfl, rfl⟩
    (fun a w hi => hi.weak (keeps_get ⟨rfl, rfl, rfl, rfl, trivial⟩) (fun _ => rfl)) ?_
  rintro k s ⟨i, j, fm, bx, H, rfl, hi, rfl, hacc, hb3, hb2⟩
  repeat refine TC.seq ?_
  refine TC.region ?_
  refine t_move rfl rfl ?_
  refine t_int rfl rfl rfl rfl ?_
  refine TL.nil ?_
  repeat refine TC.seq ?_
  refine TC.cond rfl (fun hc => ?_) (fun hc => ?_)
  · have hc' : i < 6 := by have := of_decide_eq_true hc; omega
    clear hc
    refine TC.skip ?_
    repeat refine TC.seq ?_
    refine TC.block ?_
    repeat refine TC.seq ?_
    refine TC.region ?_
    refine t_move rfl rfl ?_
    refine t_call1 (numS_ok i (by omega) (by omega)) rfl rfl ?_
    refine t_stradd rfl rfl rfl (by rw [dig_size]; decide) ?_
    refine t_build rfl rfl rfl rfl rfl ?_
    refine t_alloc rfl rfl ?_
    refine t_storeL rfl rfl rfl rfl rfl rfl ?_
    refine TL.nil ?_
    repeat refine TC.seq ?_
    refine TC.region ?_
    refine t_assign rfl rfl ?_
    refine TL.nil ?_
    repeat refine TC.seq ?_
    refine TC.block ?_
    refine TC.loopB (fun k s => ∃ (n : Nat) (bx : List (Nat × List M)), s = ⟨[(6, .m (.d (.int .i64 n))), (5, .loc 5 0), (4, .m (.d (.int .i64 i))), (3, .loc 3 0), (2, .loc 2 0), (0, .m (.d v))], bx, genH H 12 (S.encs (bodyOf (bs.take n) i))⟩ ∧ n ≤ 12 ∧ n ≤ bs.length ∧ k = 12 - n ∧
      get bx 5 = some [.d (.str (nm i)), .d (.str ⟨#[115]⟩), .d (.sl []), .d (.sl []), .d (.sl []), genM H.length (S.encs (bodyOf (bs.take n) i))] ∧
      get bx 3 = some [.d (.sl []), fm] ∧ get bx 2 = some [.d (.sl []), .d (.sl [])]) 12 _
      ⟨0, _, rfl, by omega, by omega, rfl, rfl, hb3, hb2⟩ ⟨rfl, rfl, rfl, rfl, rfl, rfl, trivial⟩ ?_
    clear hb3 hb2
    rintro k s ⟨n, bx, rfl, hn, hn2, rfl, hb5, hb3, hb2⟩
    have hroom : (S.encs (bodyOf (bs.take n) i)).length ≤ n := by
      rw [S.encs_len, bodyOf, List.length_map]
      have := List.length_filter_le (fun b => fr b == i) (bs.take n)
      simp at this
      omega
    cases hk : decide ((n : Int) < bs.length) with
    | false =>
      have hk' := of_decide_eq_false hk
      have hall : bs.take n = bs.take 12 := by rw [List.take_of_length_le (by omega), List.take_of_length_le (by omega)]
      repeat refine TC.seq ?_
      refine TC.region ?_
      refine t_move rfl rfl ?_
      refine t_move rfl rfl ?_
      refine t_lenS rfl rfl hlen ?_
      (refine t_int rfl rfl rfl rfl ?_; rw [hk])
      refine t_move rfl rfl ?_
      first | refine t_guard_no rfl rfl ?_ | (refine t_guard_yes rfl ?_; (refine t_move rfl rfl ?_))
      first | refine t_guard_no rfl rfl ?_ | (refine t_guard_yes rfl ?_; (refine t_int rfl rfl rfl rfl ?_))
      refine t_pick rfl rfl rfl ?_
      refine TL.nil ?_
      repeat refine TC.seq ?_
      refine TC.cond rfl (fun hc => by cases hc) (fun hc => ?_)
      refine TC.exit ?_
      rw [hall] at hb5 hroom ⊢
      have hL12 := encs_lens (bodyOf (bs.take 12) i)
      have hnext : ((graphP bs).take (i + 1)).map Fn.enc = ((graphP bs).take i).map Fn.enc ++ [(Fn.mk (nm i) (bodyOf (bs.take 12) i)).enc] := by
        rw [List.take_succ_eq_append_getElem (by simp [graphP]; omega)]
        simp [graphP]
      have hrl : (((graphP bs).take i).map Fn.enc).length = i := by simp [graphP]; omega
      generalize ((graphP bs).take i).map Fn.enc = rs at hacc hnext hrl
      rw [Fn.enc] at hnext
      generalize S.encs (bodyOf (bs.take 12) i) = L at hb5 hroom hnext hL12 ⊢
      have hview : viewAll (genH H 12 L) [.d (.str (nm i)), .d (.str ⟨#[115]⟩), .d (.sl []), .d (.sl []), .d (.sl []), genM H.length L] = some [.d (.str (nm i)), .d (.str ⟨#[115]⟩), .d (.sl []), .d (.sl []), .d (.sl []), .d (.sl L)] := by
        simp only [viewAll, gen_view H 12 L hL12]
        rfl
      refine TC.viewBox 5 hb5 hview ?_
      rcases hacc with ⟨rfl, rfl⟩ | ⟨hne, ver, rfl, hHj⟩
      · repeat refine TC.seq ?_
        refine TC.region ?_
        first | refine t_fieldD rfl rfl ?_ | refine t_fieldL rfl rfl ?_ | refine t_fieldR rfl rfl ?_
        refine t_loadLc rfl rfl hb3 rfl ?_
        first | refine t_loadDw rfl rfl rfl ?_ | refine t_loadDa rfl rfl rfl ?_ | refine t_loadLa rfl rfl rfl rfl rfl ?_ | refine t_loadRa rfl rfl rfl rfl rfl ?_
        refine t_buildSlice rfl rfl rfl rfl rfl rfl rfl rfl ?_
        refine t_append0 true rfl rfl rfl rfl (by rfl) (by simp) (by exact one_len rfl) (by exact nat_le rfl) ?_
        first | refine t_fieldD rfl rfl ?_ | refine t_fieldL rfl rfl ?_ | refine t_fieldR rfl rfl ?_
        refine t_storeL rfl rfl hb3 rfl rfl rfl ?_
        refine TL.nil ?_
        repeat refine TC.seq ?_
        refine TC.region ?_
        refine t_move rfl rfl ?_
        refine t_add64 rfl rfl rfl (by omega) ?_
        refine t_assign rfl rfl ?_
        refine TL.nil ?_
        refine again (k' := 6 - (i + 1)) (by omega) ⟨i + 1, (genH H 12 L).length, _, _, _, rfl, by omega, rfl, ?_, rfl, hb2⟩ rfl ⟨by simp; rfl, rfl, rfl, rfl, trivial⟩
        rw [hnext]
        exact .inr ⟨by simp, 0, rfl, by simp; rfl⟩
      · have hHj2 := genH_old H 12 L j _ hHj
        repeat refine TC.seq ?_
        refine TC.region ?_
        first | refine t_fieldD rfl rfl ?_ | refine t_fieldL rfl rfl ?_ | refine t_fieldR rfl rfl ?_
        refine t_loadLc rfl rfl hb3 rfl ?_
        first | refine t_loadDw rfl rfl rfl ?_ | refine t_loadDa rfl rfl rfl ?_ | refine t_loadLa rfl rfl rfl rfl rfl ?_ | refine t_loadRa rfl rfl rfl rfl rfl ?_
        refine t_buildSlice rfl rfl rfl rfl rfl rfl rfl rfl ?_
        refine t_appendR rfl rfl rfl hHj2 (by rfl) (by exact one_len rfl) (by rw [hrl]; simp; omega) (by rw [hrl]; simp; omega) ?_
        first | refine t_fieldD rfl rfl ?_ | refine t_fieldL rfl rfl ?_ | refine t_fieldR rfl rfl ?_
        refine t_storeL rfl rfl hb3 rfl rfl rfl ?_
        refine TL.nil ?_
        repeat refine TC.seq ?_
        refine TC.region ?_
        refine t_move rfl rfl ?_
        refine t_add64 rfl rfl rfl (by omega) ?_
        refine t_assign rfl rfl ?_
        refine TL.nil ?_
        refine again (k' := 6 - (i + 1)) (by omega) ⟨i + 1, j, _, _, _, rfl, by omega, rfl, ?_, rfl, hb2⟩ rfl ⟨by simp; rfl, rfl, rfl, rfl, trivial⟩
        rw [hnext]
        refine .inr ⟨by simp, ver + 1, by simp, ?_⟩
        have hjl : j < (genH H 12 L).length := by rcases Nat.lt_or_ge j (genH H 12 L).length with h1 | h1; exact h1; simp [List.getElem?_eq_none h1] at hHj2
        simp [hjl, flatM]
        rfl
    | true =>
      have hk' : n < bs.length := by have := of_decide_eq_true hk; omega
      repeat refine TC.seq ?_
      refine TC.region ?_
      refine t_move rfl rfl ?_
      refine t_move rfl rfl ?_
      refine t_lenS rfl rfl hlen ?_
      (refine t_int rfl rfl rfl rfl ?_; rw [hk])
      refine t_move rfl rfl ?_
      first | refine t_guard_no rfl rfl ?_ | (refine t_guard_yes rfl ?_; (refine t_move rfl rfl ?_))
      first | refine t_guard_no rfl rfl ?_ | (refine t_guard_yes rfl ?_; (refine t_int rfl rfl rfl rfl ?_))
      refine t_pick rfl rfl rfl ?_
      refine TL.nil ?_
      repeat refine TC.seq ?_
      refine TC.cond rfl (fun hc => ?_) (fun hc => ?_)
      · have hc2 : n < 12 := by have := of_decide_eq_true hc; omega
        clear hc
        refine TC.skip ?_
        repeat refine TC.seq ?_
        refine TC.block ?_
        obtain rfl : v = .sl (bytesD bs) := by rcases hv with h | h; (subst h; simp at hk'); exact h
        have hbn := hb bs[n] (List.getElem_mem hk')
        have hsn := bodyOf_snoc bs i n hk'
        have hrow := bytesD_get hk'
        have hfe := fr_eq _ hbn
        generalize bs[n] = b at hbn hsn hrow hfe
        repeat refine TC.seq ?_
        refine TC.region ?_
        refine t_move rfl rfl ?_
        refine t_move rfl rfl ?_
        refine t_indexD rfl rfl rfl (Int.natCast_nonneg n) (r := [.int .u8 b]) hrow rfl ?_
        first | refine t_loadDc rfl rfl rfl ?_ | refine t_loadLc rfl rfl rfl rfl ?_ | refine t_loadRc rfl rfl rfl rfl ?_
        refine t_quo rfl rfl rfl rfl ?_
        refine t_convI rfl rfl ?_
        (refine t_rem rfl rfl rfl rfl ?_; rw [hfe])
        refine t_move rfl rfl ?_
        refine t_int rfl rfl rfl rfl ?_
        refine TL.nil ?_
        repeat refine TC.seq ?_
        refine TC.cond rfl (fun hc => ?_) (fun hc => ?_)
        · have hfr : fr b = i := by have h9 := hc; simp at h9; omega
          clear hc
          rw [if_pos hfr] at hsn
          have hsn2 : S.encs (bodyOf (bs.take (n + 1)) i) = S.encs (bodyOf (bs.take n) i) ++ [(stmtOf b).enc] := by rw [hsn, encs_append, encs_one]
          generalize hL : S.encs (bodyOf (bs.take n) i) = L at hb5 hroom hsn2 ⊢
          clear hsn
          repeat refine TC.seq ?_
          refine TC.region ?_
          refine t_move rfl rfl ?_
          refine t_move rfl rfl ?_
          refine t_indexD rfl rfl rfl (Int.natCast_nonneg n) (r := [.int .u8 b]) hrow rfl ?_
          first | refine t_loadDc rfl rfl rfl ?_ | refine t_loadLc rfl rfl rfl rfl ?_ | refine t_loadRc rfl rfl rfl rfl ?_
          refine t_rem rfl rfl rfl rfl ?_
          refine t_rem rfl rfl rfl rfl ?_
          (refine t_convI rfl rfl ?_; rw [to_eq])
          refine t_call1 (numS_ok (to b) (by omega) (by have := to_lt b; omega)) rfl rfl ?_
          refine t_stradd rfl rfl rfl (by rw [dig_size]; decide) ?_
          refine t_build rfl rfl rfl rfl rfl ?_
          refine t_alloc rfl rfl ?_
          refine t_storeL rfl rfl rfl rfl rfl rfl ?_
          refine TL.nil ?_
          repeat refine TC.seq ?_
          refine TC.region ?_
          refine t_move rfl rfl ?_
          refine t_move rfl rfl ?_
          refine t_indexD rfl rfl rfl (Int.natCast_nonneg n) (r := [.int .u8 b]) hrow rfl ?_
          first | refine t_loadDc rfl rfl rfl ?_ | refine t_loadLc rfl rfl rfl rfl ?_ | refine t_loadRc rfl rfl rfl rfl ?_
          refine t_rem rfl rfl rfl rfl ?_
          (refine t_int rfl rfl rfl rfl ?_; rw [m3_eq])
          refine TL.nil ?_
          refine TC.cond rfl (fun hc => ?_) (fun hc => ?_)
          · have hst : (stmtOf b).enc = iteC [] [callC (nm (to b))] := by simp [stmtOf, of_decide_eq_true hc, S.enc, S.encs]
            repeat refine TC.seq ?_
            refine TC.draw mixed ?_
            refine f_call1 (num_ok 1) rfl rfl ?_
            refine f_loadLa rfl rfl rfl rfl rfl ?_
            refine f_buildSlice rfl rfl rfl rfl rfl rfl rfl rfl ?_
            refine f_build rfl rfl rfl rfl rfl ?_
            refine f_storeL rfl rfl rfl rfl rfl rfl ?_
            refine TF.nil ⟨by kernel_rfl, ?_⟩
            cases L with
            | nil =>
              repeat refine TC.seq ?_
              refine TC.region ?_
              first | refine t_fieldD rfl rfl ?_ | refine t_fieldL rfl rfl ?_ | refine t_fieldR rfl rfl ?_
              refine t_loadLc rfl rfl hb5 rfl ?_
              first | refine t_loadDw rfl rfl rfl ?_ | refine t_loadDa rfl rfl rfl ?_ | refine t_loadLa rfl rfl rfl rfl rfl ?_ | refine t_loadRa rfl rfl rfl rfl rfl ?_
              refine t_buildSlice rfl rfl rfl rfl rfl rfl rfl rfl ?_
              refine t_append0 true rfl rfl rfl rfl (by rfl) (by simp) (by exact one_len rfl) (by exact nat_le rfl) ?_
              first | refine t_fieldD rfl rfl ?_ | refine t_fieldL rfl rfl ?_ | refine t_fieldR rfl rfl ?_
              refine t_storeL rfl rfl hb5 rfl rfl rfl ?_
              refine TL.nil ?_
              repeat refine TC.seq ?_
              refine TC.region ?_
              refine t_move rfl rfl ?_
              refine t_add64 rfl rfl rfl (by omega) ?_
              refine t_assign rfl rfl ?_
              refine TL.nil ?_
              exact again (k' := 12 - (n + 1)) (by omega) ⟨n + 1, _, rfl, by omega, by omega, rfl, by rw [hsn2, hst]; rfl, hb3, hb2⟩ (by rw [hsn2, hst]; rfl) ⟨by simp; rfl, rfl, rfl, rfl, rfl, rfl, trivial⟩
            | cons q r =>
              repeat refine TC.seq ?_
              refine TC.region ?_
              first | refine t_fieldD rfl rfl ?_ | refine t_fieldL rfl rfl ?_ | refine t_fieldR rfl rfl ?_
              refine t_loadLc rfl rfl hb5 rfl ?_
              first | refine t_loadDw rfl rfl rfl ?_ | refine t_loadDa rfl rfl rfl ?_ | refine t_loadLa rfl rfl rfl rfl rfl ?_ | refine t_loadRa rfl rfl rfl rfl rfl ?_
              refine t_buildSlice rfl rfl rfl rfl rfl rfl rfl rfl ?_
              refine t_appendR rfl rfl rfl (by exact getElem_last H _) (by rfl) (by exact one_len rfl) (by simp at hroom ⊢; omega) (by simp at hroom ⊢; omega) ?_
              first | refine t_fieldD rfl rfl ?_ | refine t_fieldL rfl rfl ?_ | refine t_fieldR rfl rfl ?_
              refine t_storeL rfl rfl hb5 rfl rfl rfl ?_
              refine TL.nil ?_
              repeat refine TC.seq ?_
              refine TC.region ?_
              refine t_move rfl rfl ?_
              refine t_add64 rfl rfl rfl (by omega) ?_
              refine t_assign rfl rfl ?_
              refine TL.nil ?_
              exact again (k' := 12 - (n + 1)) (by omega) ⟨n + 1, _, rfl, by omega, by omega, rfl, by rw [hsn2, hst, gen_snocM]; rfl, hb3, hb2⟩ (by rw [hsn2, hst, gen_snocH]; rfl) ⟨by simp; rfl, rfl, rfl, rfl, rfl, rfl, trivial⟩
          · have hst : (stmtOf b).enc = callC (nm (to b)) := by simp [stmtOf, of_decide_eq_false hc, S.enc]
            refine TC.skip ?_
            cases L with
            | nil =>
              repeat refine TC.seq ?_
              refine TC.region ?_
              first | refine t_fieldD rfl rfl ?_ | refine t_fieldL rfl rfl ?_ | refine t_fieldR rfl rfl ?_
              refine t_loadLc rfl rfl hb5 rfl ?_
              first | refine t_loadDw rfl rfl rfl ?_ | refine t_loadDa rfl rfl rfl ?_ | refine t_loadLa rfl rfl rfl rfl rfl ?_ | refine t_loadRa rfl rfl rfl rfl rfl ?_
              refine t_buildSlice rfl rfl rfl rfl rfl rfl rfl rfl ?_
              refine t_append0 true rfl rfl rfl rfl (by rfl) (by simp) (by exact one_len rfl) (by exact nat_le rfl) ?_
              first | refine t_fieldD rfl rfl ?_ | refine t_fieldL rfl rfl ?_ | refine t_fieldR rfl rfl ?_
              refine t_storeL rfl rfl hb5 rfl rfl rfl ?_
              refine TL.nil ?_
              repeat refine TC.seq ?_
              refine TC.region ?_
              refine t_move rfl rfl ?_
              refine t_add64 rfl rfl rfl (by omega) ?_
              refine t_assign rfl rfl ?_
              refine TL.nil ?_
              exact again (k' := 12 - (n + 1)) (by omega) ⟨n + 1, _, rfl, by omega, by omega, rfl, by rw [hsn2, hst]; rfl, hb3, hb2⟩ (by rw [hsn2, hst]; rfl) ⟨by simp; rfl, rfl, rfl, rfl, rfl, rfl, trivial⟩
            | cons q r =>
              repeat refine TC.seq ?_
              refine TC.region ?_
              first | refine t_fieldD rfl rfl ?_ | refine t_fieldL rfl rfl ?_ | refine t_fieldR rfl rfl ?_
              refine t_loadLc rfl rfl hb5 rfl ?_
              first | refine t_loadDw rfl rfl rfl ?_ | refine t_loadDa rfl rfl rfl ?_ | refine t_loadLa rfl rfl rfl rfl rfl ?_ | refine t_loadRa rfl rfl rfl rfl rfl ?_
              refine t_buildSlice rfl rfl rfl rfl rfl rfl rfl rfl ?_
              refine t_appendR rfl rfl rfl (by exact getElem_last H _) (by rfl) (by exact one_len rfl) (by simp at hroom ⊢; omega) (by simp at hroom ⊢; omega) ?_
              first | refine t_fieldD rfl rfl ?_ | refine t_fieldL rfl rfl ?_ | refine t_fieldR rfl rfl ?_
              refine t_storeL rfl rfl hb5 rfl rfl rfl ?_
              refine TL.nil ?_
              repeat refine TC.seq ?_
              refine TC.region ?_
              refine t_move rfl rfl ?_
              refine t_add64 rfl rfl rfl (by omega) ?_
              refine t_assign rfl rfl ?_
              refine TL.nil ?_
              exact again (k' := 12 - (n + 1)) (by omega) ⟨n + 1, _, rfl, by omega, by omega, rfl, by rw [hsn2, hst, gen_snocM]; rfl, hb3, hb2⟩ (by rw [hsn2, hst, gen_snocH]; rfl) ⟨by simp; rfl, rfl, rfl, rfl, rfl, rfl, trivial⟩
        · have hfr : ¬ fr b = i := by have h9 := hc; simp at h9; omega
          rw [if_neg hfr] at hsn
          refine TC.skip ?_
          repeat refine TC.seq ?_
          refine TC.region ?_
          refine t_move rfl rfl ?_
          refine t_add64 rfl rfl rfl (by omega) ?_
          refine t_assign rfl rfl ?_
          refine TL.nil ?_
          exact again (k' := 12 - (n + 1)) (by omega) ⟨n + 1, _, rfl, by omega, by omega, rfl, by rw [hsn]; exact hb5, hb3, hb2⟩ (by rw [hsn]) ⟨by simp; rfl, rfl, rfl, rfl, rfl, rfl, trivial⟩
      · have hc2 : n = 12 := by have := of_decide_eq_false hc; omega
        have hall : bs.take n = bs.take 12 := by rw [hc2]
        refine TC.exit ?_
        rw [hall] at hb5 hroom ⊢
        have hL12 := encs_lens (bodyOf (bs.take 12) i)
        have hnext : ((graphP bs).take (i + 1)).map Fn.enc = ((graphP bs).take i).map Fn.enc ++ [(Fn.mk (nm i) (bodyOf (bs.take 12) i)).enc] := by
          rw [List.take_succ_eq_append_getElem (by simp [graphP]; omega)]
          simp [graphP]
        have hrl : (((graphP bs).take i).map Fn.enc).length = i := by simp [graphP]; omega
        generalize ((graphP bs).take i).map Fn.enc = rs at hacc hnext hrl
        rw [Fn.enc] at hnext
        generalize S.encs (bodyOf (bs.take 12) i) = L at hb5 hroom hnext hL12 ⊢
        have hview : viewAll (genH H 12 L) [.d (.str (nm i)), .d (.str ⟨#[115]⟩), .d (.sl []), .d (.sl []), .d (.sl []), genM H.length L] = some [.d (.str (nm i)), .d (.str ⟨#[115]⟩), .d (.sl []), .d (.sl []), .d (.sl []), .d (.sl L)] := by
          simp only [viewAll, gen_view H 12 L hL12]
          rfl
        refine TC.viewBox 5 hb5 hview ?_
        rcases hacc with ⟨rfl, rfl⟩ | ⟨hne, ver, rfl, hHj⟩
        · repeat refine TC.seq ?_
          refine TC.region ?_
          first | refine t_fieldD rfl rfl ?_ | refine t_fieldL rfl rfl ?_ | refine t_fieldR rfl rfl ?_
          refine t_loadLc rfl rfl hb3 rfl ?_
          first | refine t_loadDw rfl rfl rfl ?_ | refine t_loadDa rfl rfl rfl ?_ | refine t_loadLa rfl rfl rfl rfl rfl ?_ | refine t_loadRa rfl rfl rfl rfl rfl ?_
          refine t_buildSlice rfl rfl rfl rfl rfl rfl rfl rfl ?_
          refine t_append0 true rfl rfl rfl rfl (by rfl) (by simp) (by exact one_len rfl) (by exact nat_le rfl) ?_
          first | refine t_fieldD rfl rfl ?_ | refine t_fieldL rfl rfl ?_ | refine t_fieldR rfl rfl ?_
          refine t_storeL rfl rfl hb3 rfl rfl rfl ?_
          refine TL.nil ?_
          repeat refine TC.seq ?_
          refine TC.region ?_
          refine t_move rfl rfl ?_
          refine t_add64 rfl rfl rfl (by omega) ?_
          refine t_assign rfl rfl ?_
          refine TL.nil ?_
          refine again (k' := 6 - (i + 1)) (by omega) ⟨i + 1, (genH H 12 L).length, _, _, _, rfl, by omega, rfl, ?_, rfl, hb2⟩ rfl ⟨by simp; rfl, rfl, rfl, rfl, trivial⟩
          rw [hnext]
          exact .inr ⟨by simp, 0, rfl, by simp; rfl⟩
        · have hHj2 := genH_old H 12 L j _ hHj
          repeat refine TC.seq ?_
          refine TC.region ?_
          first | refine t_fieldD rfl rfl ?_ | refine t_fieldL rfl rfl ?_ | refine t_fieldR rfl rfl ?_
          refine t_loadLc rfl rfl hb3 rfl ?_
          first | refine t_loadDw rfl rfl rfl ?_ | refine t_loadDa rfl rfl rfl ?_ | refine t_loadLa rfl rfl rfl rfl rfl ?_ | refine t_loadRa rfl rfl rfl rfl rfl ?_
          refine t_buildSlice rfl rfl rfl rfl rfl rfl rfl rfl ?_
          refine t_appendR rfl rfl rfl hHj2 (by rfl) (by exact one_len rfl) (by rw [hrl]; simp; omega) (by rw [hrl]; simp; omega) ?_
          first | refine t_fieldD rfl rfl ?_ | refine t_fieldL rfl rfl ?_ | refine t_fieldR rfl rfl ?_
          refine t_storeL rfl rfl hb3 rfl rfl rfl ?_
          refine TL.nil ?_
          repeat refine TC.seq ?_
          refine TC.region ?_
          refine t_move rfl rfl ?_
          refine t_add64 rfl rfl rfl (by omega) ?_
          refine t_assign rfl rfl ?_
          refine TL.nil ?_
          refine again (k' := 6 - (i + 1)) (by omega) ⟨i + 1, j, _, _, _, rfl, by omega, rfl, ?_, rfl, hb2⟩ rfl ⟨by simp; rfl, rfl, rfl, rfl, trivial⟩
          rw [hnext]
          refine .inr ⟨by simp, ver + 1, by simp, ?_⟩
          have hjl : j < (genH H 12 L).length := by rcases Nat.lt_or_ge j (genH H 12 L).length with h1 | h1; exact h1; simp [List.getElem?_eq_none h1] at hHj2
          simp [hjl, flatM]
          rfl
  · refine TC.exit ?_
    have hc' : i = 6 := by have := of_decide_eq_false hc; omega
    subst hc'
    have hview : viewAll H [.d (.sl []), fm] = some [.d (.sl []), .d (.sl ((graphP bs).map Fn.enc))] := by
      have h1 := hacc.view (by intro r hr; obtain ⟨f, _, rfl⟩ := List.mem_map.1 hr; rfl)
      rw [show (graphP bs).take 6 = graphP bs from List.take_of_length_le (by simp [graphP])] at h1
      simp only [viewAll, h1]
      rfl
    refine TC.viewBox 3 hb3 hview ?_
    repeat refine TC.seq ?_
    refine TC.region ?_
    first | refine t_loadDw rfl rfl rfl ?_ | refine t_loadDa rfl rfl rfl ?_ | refine t_loadLa rfl rfl rfl rfl rfl ?_ | refine t_loadRa rfl rfl rfl rfl rfl ?_
    refine t_storeL rfl rfl hb2 rfl rfl rfl ?_
    refine TL.nil ?_
    exact TC.ret ⟨_, rfl, [_], rfl, rfl⟩
end Go.Proofs
