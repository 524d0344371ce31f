import Derived.Test.YtjhinemdonddoaaFuF
import Derived.Test.YtjhinemdonddoaaMtXf
namespace Go.Proofs
open Go.Mt
set_option maxRecDepth 4000
set_option linter.unusedSimpArgs false
set_option linter.unusedVariables false

theorem outH_take1 (P : List S) (x : List D) : ∀ r1 r2 : List (List D), (app1H [.row false 14 P.length (flatM (S.encs P ++ [x]))] 14 r1 r2).take 1 = [.row false 14 P.length (flatM (S.encs P ++ [x]))] := fun r1 r2 => app1H_take [.row false 14 P.length (flatM (S.encs P ++ [x]))] 14 r1 r2
theorem len1 (ob : Ob) (r1 r2 : List (List D)) : 1 ≤ (app1H [ob] 14 r1 r2).length := app1H_len [ob] 14 r1 r2
theorem wrow_ok {P : List S} {x y : List D} (hx : x.length = 14) (hy : y.length = 14) : writeAt (flatM (S.encs P ++ [x])) ((P.length : Int).toNat * 14) (y.map .d) = some (flatM (S.encs P ++ [y])) := by
  have := flat_writeRow y (encP_len P x hx) (encP_get P x) hy
  rw [encP_set] at this
  exact this

theorem fused_ok (n : Nat) : ∀ (l : List S), S.szs l < n → S.szs l ≤ 100000 → PT Try.prog 15 [.sl (S.encs l)] (· = [.sl (S.encs (fuseN n l))]) := by
  induction n with
  | zero => intro l h; omega
  | succ n ih =>
    intro l hn hB
    refine PT.of_CT (CT.of_body Try.func15 rfl Try.ntmps15 rfl fun s0 Oo => ?_)
    refine TC.base fun hb => ?_
    replace hb : s0.H.length ≤ 1 := Nat.le_trans hb (by simp)
    have hlen := S.len_le l
    repeat refine TC.seq ?_
    refine TC.region ?_
    refine t_assign rfl rfl ?_
    refine TL.nil ?_
    repeat refine TC.seq ?_
    refine TC.region ?_
    refine t_assign rfl rfl ?_
    refine TL.nil ?_
    repeat refine TC.seq ?_
    refine TC.region ?_
    refine t_assign rfl rfl ?_
    refine TL.nil ?_
    repeat refine TC.seq ?_
    refine TC.block ?_
    refine TC.loopB (fun k s => ∃ (i : Nat), s = ⟨[(4, .m (.d (.int .i64 i))), (0, .m (.d (.sl (S.encs l)))), (3, .m (outM (pass1 (l.take i))))], [], outH (pass1 (l.take i))⟩ ∧ i ≤ l.length ∧ k = l.length - i) l.length _
      ⟨0, rfl, by omega, rfl⟩ ⟨rfl, rfl, rfl, trivial⟩ ?_
    rintro k s ⟨i, rfl, hi, rfl⟩
    repeat refine TC.seq ?_
    refine TC.region ?_
    refine t_move rfl rfl ?_
    refine t_move rfl rfl ?_
    (refine t_lenS rfl rfl rfl ?_; rw [S.encs_len])
    refine t_int rfl rfl rfl rfl ?_
    refine TL.nil ?_
    repeat refine TC.seq ?_
    refine TC.cond rfl (fun hc => ?_) (fun hc => ?_)
    · have hc' : i < l.length := by have := of_decide_eq_true hc; omega
      clear hc
      have hsz := S.sz_le (List.getElem_mem hc')
      have hget : l[i]? = some l[i] := by simp [hc']
      have hnext := pass1_snoc l i hc'
      have hpz := pass1_take_sz l i
      have hsum : S.szs (pass1 (l.take i)) + l[i].sz ≤ S.szs l := by
        have h1 := pass1_sz (l.take i)
        have h2 := room hc'
        omega
      refine TC.skip ?_
      repeat refine TC.seq ?_
      refine TC.block ?_
      generalize pass1 (l.take i) = out at hnext hpz hsum ⊢
      generalize l[i] = s at hsz hget hnext hsum
      rcases List.eq_nil_or_concat out with rfl | ⟨P, x, rfl⟩
      · rw [mrg_nil] at hnext
        cases s with
        | asg nm v =>
          repeat refine TC.seq ?_
          refine TC.region ?_
          refine t_move rfl rfl ?_
          refine t_move rfl rfl ?_
          refine t_indexD rfl rfl rfl (Int.natCast_nonneg i) (r := letC nm v) (S.encs_get l i _ hget) rfl ?_
          first | refine t_loadDw rfl rfl rfl ?_ | refine t_loadDa rfl rfl rfl ?_ | refine t_loadLa rfl rfl rfl rfl rfl ?_ | refine t_loadRa rfl rfl rfl rfl rfl ?_
          refine t_alloc rfl rfl ?_
          refine t_storeL rfl rfl rfl rfl rfl rfl ?_
          refine TL.nil ?_
          repeat refine TC.seq ?_
          refine TC.region ?_
          refine t_move rfl rfl ?_
          refine t_lenS rfl rfl rfl ?_
          refine t_assign rfl rfl ?_
          refine TL.nil ?_
          repeat refine TC.seq ?_
          refine TC.draw mixed ?_
          refine f_move rfl rfl ?_
          refine f_int rfl rfl rfl rfl ?_
          refine f_move rfl rfl ?_
          first | refine f_guard_no rfl rfl rfl rfl ?_ | refine f_guard_un rfl rfl rfl ?_ | (refine f_guard_yes rfl rfl ?_; (refine f_move rfl rfl ?_))
          first | refine f_guard_no rfl rfl rfl rfl ?_ | refine f_guard_un rfl rfl rfl ?_ | (refine f_guard_yes rfl rfl ?_; (refine f_move rfl rfl ?_))
          first | refine f_guard_no rfl rfl rfl rfl ?_ | refine f_guard_un rfl rfl rfl ?_ | (refine f_guard_yes rfl rfl ?_; (refine f_sub64 rfl rfl rfl (by omega) ?_))
          first | refine f_guard_no rfl rfl rfl rfl ?_ | refine f_guard_un rfl rfl rfl ?_ | (refine f_guard_yes rfl rfl ?_; (fail))
          first | refine f_guard_no rfl rfl rfl rfl ?_ | refine f_guard_un rfl rfl rfl ?_ | (refine f_guard_yes rfl rfl ?_; (first | refine f_loadDw rfl rfl rfl ?_ | refine f_loadDa rfl rfl rfl ?_ | refine f_loadLa rfl rfl rfl rfl rfl ?_ | refine f_loadRa rfl rfl rfl rfl rfl ?_))
          first | refine f_guard_no rfl rfl rfl rfl ?_ | refine f_guard_un rfl rfl rfl ?_ | (refine f_guard_yes rfl rfl ?_; (first | refine f_loadDw rfl rfl rfl ?_ | refine f_loadDa rfl rfl rfl ?_ | refine f_loadLa rfl rfl rfl rfl rfl ?_ | refine f_loadRa rfl rfl rfl rfl rfl ?_))
          first | refine f_guard_no rfl rfl rfl rfl ?_ | refine f_guard_un rfl rfl rfl ?_ | (refine f_guard_yes rfl rfl ?_; (fail))
          refine f_pick rfl rfl rfl ?_
          refine TF.nil ⟨by kernel_rfl, ?_⟩
          repeat refine TC.seq ?_
          refine TC.cond rfl (fun hc => by cases hc) (fun hc => ?_)
          repeat refine TC.seq ?_
          refine TC.region ?_
          refine t_move rfl rfl ?_
          first | refine t_loadDw rfl rfl rfl ?_ | refine t_loadDa rfl rfl rfl ?_ | refine t_loadLa rfl rfl rfl rfl rfl ?_ | refine t_loadRa rfl rfl rfl rfl rfl ?_
          refine t_buildSlice rfl rfl rfl rfl rfl rfl rfl rfl ?_
          refine t_append0 false rfl rfl rfl rfl (by rfl) (by simp) (by exact one_len rfl) (by exact nat_le rfl) ?_
          refine t_assign rfl rfl ?_
          refine TL.nil ?_
          repeat refine TC.seq ?_
          refine TC.region ?_
          refine t_move rfl rfl ?_
          refine t_add64 rfl rfl rfl (by omega) ?_
          refine t_assign rfl rfl ?_
          refine TL.nil ?_
          exact againT (k' := l.length - (i + 1)) 1 hb (by exact Nat.le_refl 1) (by omega) ⟨i + 1, rfl, by omega, rfl⟩ (by rw [hnext]; rfl) (by rw [hnext]; exact outH_HB _) ⟨⟨by simp; rfl, .d _⟩, ⟨rfl, .d _⟩, ⟨by rw [hnext]; rfl, outM_MB _⟩, trivial⟩
        | ite w c a b =>
          repeat refine TC.seq ?_
          refine TC.region ?_
          refine t_move rfl rfl ?_
          refine t_move rfl rfl ?_
          refine t_indexD rfl rfl rfl (Int.natCast_nonneg i) (r := iteC w c (S.encs a) (S.encs b)) (S.encs_get l i _ hget) rfl ?_
          first | refine t_loadDw rfl rfl rfl ?_ | refine t_loadDa rfl rfl rfl ?_ | refine t_loadLa rfl rfl rfl rfl rfl ?_ | refine t_loadRa rfl rfl rfl rfl rfl ?_
          refine t_alloc rfl rfl ?_
          refine t_storeL rfl rfl rfl rfl rfl rfl ?_
          refine TL.nil ?_
          repeat refine TC.seq ?_
          refine TC.region ?_
          refine t_move rfl rfl ?_
          refine t_lenS rfl rfl rfl ?_
          refine t_assign rfl rfl ?_
          refine TL.nil ?_
          repeat refine TC.seq ?_
          refine TC.draw mixed ?_
          refine f_move rfl rfl ?_
          refine f_int rfl rfl rfl rfl ?_
          refine f_move rfl rfl ?_
          first | refine f_guard_no rfl rfl rfl rfl ?_ | refine f_guard_un rfl rfl rfl ?_ | (refine f_guard_yes rfl rfl ?_; (refine f_move rfl rfl ?_))
          first | refine f_guard_no rfl rfl rfl rfl ?_ | refine f_guard_un rfl rfl rfl ?_ | (refine f_guard_yes rfl rfl ?_; (refine f_move rfl rfl ?_))
          first | refine f_guard_no rfl rfl rfl rfl ?_ | refine f_guard_un rfl rfl rfl ?_ | (refine f_guard_yes rfl rfl ?_; (refine f_sub64 rfl rfl rfl (by omega) ?_))
          first | refine f_guard_no rfl rfl rfl rfl ?_ | refine f_guard_un rfl rfl rfl ?_ | (refine f_guard_yes rfl rfl ?_; (fail))
          first | refine f_guard_no rfl rfl rfl rfl ?_ | refine f_guard_un rfl rfl rfl ?_ | (refine f_guard_yes rfl rfl ?_; (first | refine f_loadDw rfl rfl rfl ?_ | refine f_loadDa rfl rfl rfl ?_ | refine f_loadLa rfl rfl rfl rfl rfl ?_ | refine f_loadRa rfl rfl rfl rfl rfl ?_))
          first | refine f_guard_no rfl rfl rfl rfl ?_ | refine f_guard_un rfl rfl rfl ?_ | (refine f_guard_yes rfl rfl ?_; (first | refine f_loadDw rfl rfl rfl ?_ | refine f_loadDa rfl rfl rfl ?_ | refine f_loadLa rfl rfl rfl rfl rfl ?_ | refine f_loadRa rfl rfl rfl rfl rfl ?_))
          first | refine f_guard_no rfl rfl rfl rfl ?_ | refine f_guard_un rfl rfl rfl ?_ | (refine f_guard_yes rfl rfl ?_; (fail))
          refine f_pick rfl rfl rfl ?_
          refine TF.nil ⟨by kernel_rfl, ?_⟩
          repeat refine TC.seq ?_
          refine TC.cond rfl (fun hc => by cases hc) (fun hc => ?_)
          repeat refine TC.seq ?_
          refine TC.region ?_
          refine t_move rfl rfl ?_
          first | refine t_loadDw rfl rfl rfl ?_ | refine t_loadDa rfl rfl rfl ?_ | refine t_loadLa rfl rfl rfl rfl rfl ?_ | refine t_loadRa rfl rfl rfl rfl rfl ?_
          refine t_buildSlice rfl rfl rfl rfl rfl rfl rfl rfl ?_
          refine t_append0 false rfl rfl rfl rfl (by rfl) (by simp) (by exact one_len rfl) (by exact nat_le rfl) ?_
          refine t_assign rfl rfl ?_
          refine TL.nil ?_
          repeat refine TC.seq ?_
          refine TC.region ?_
          refine t_move rfl rfl ?_
          refine t_add64 rfl rfl rfl (by omega) ?_
          refine t_assign rfl rfl ?_
          refine TL.nil ?_
          exact againT (k' := l.length - (i + 1)) 1 hb (by exact Nat.le_refl 1) (by omega) ⟨i + 1, rfl, by omega, rfl⟩ (by rw [hnext]; rfl) (by rw [hnext]; exact outH_HB _) ⟨⟨by simp; rfl, .d _⟩, ⟨rfl, .d _⟩, ⟨by rw [hnext]; rfl, outM_MB _⟩, trivial⟩
      · rw [List.concat_eq_append] at hnext hpz hsum ⊢
        have hx : x.sz ≤ 100000 := by simp only [szs_append, S.szs] at hpz; omega
        have hPl : P.length ≤ 100000 := by have := S.len_le P; simp only [szs_append, S.szs] at hpz; omega
        rw [outM_snoc, outH_snoc]
        cases hm : mayS x s with
        | false =>
          rw [mrg_no P x s hm] at hnext
          have fin : ∀ y : List D, y.length = 14 → flatM (S.encs P ++ [x.enc]) ++ flatM [y] = flatM (S.encs (P ++ [x]) ++ [y]) := by
            intro y hy; rw [S.encs_append]; simp [flatM, S.encs]
          cases s with
          | asg nm v =>
            repeat refine TC.seq ?_
            refine TC.region ?_
            refine t_move rfl rfl ?_
            refine t_move rfl rfl ?_
            refine t_indexD rfl rfl rfl (Int.natCast_nonneg i) (r := letC nm v) (S.encs_get l i _ hget) rfl ?_
            first | refine t_loadDw rfl rfl rfl ?_ | refine t_loadDa rfl rfl rfl ?_ | refine t_loadLa rfl rfl rfl rfl rfl ?_ | refine t_loadRa rfl rfl rfl rfl rfl ?_
            refine t_alloc rfl rfl ?_
            refine t_storeL rfl rfl rfl rfl rfl rfl ?_
            refine TL.nil ?_
            repeat refine TC.seq ?_
            refine TC.region ?_
            refine t_move rfl rfl ?_
            refine t_lenR rfl rfl ?_
            refine t_assign rfl rfl ?_
            refine TL.nil ?_
            repeat refine TC.seq ?_
            refine TC.draw mixed ?_
            refine f_move rfl rfl ?_
            (refine f_int rfl rfl rfl rfl ?_; rw [show decide (((P.length + 1 : Nat) : Int) > 0) = true from decide_eq_true (by omega)])
            refine f_move rfl rfl ?_
            first | refine f_guard_no rfl rfl rfl rfl ?_ | refine f_guard_un rfl rfl rfl ?_ | (refine f_guard_yes rfl rfl ?_; (refine f_move rfl rfl ?_))
            first | refine f_guard_no rfl rfl rfl rfl ?_ | refine f_guard_un rfl rfl rfl ?_ | (refine f_guard_yes rfl rfl ?_; (refine f_move rfl rfl ?_))
            first | refine f_guard_no rfl rfl rfl rfl ?_ | refine f_guard_un rfl rfl rfl ?_ | (refine f_guard_yes rfl rfl ?_; ((refine f_sub64 rfl rfl rfl (by omega) ?_; rw [dd])))
            first | refine f_guard_no rfl rfl rfl rfl ?_ | refine f_guard_un rfl rfl rfl ?_ | (refine f_guard_yes rfl rfl ?_; (refine f_indexR rfl rfl rfl rfl (by omega) (by omega) ?_))
            first | refine f_guard_no rfl rfl rfl rfl ?_ | refine f_guard_un rfl rfl rfl ?_ | (refine f_guard_yes rfl rfl ?_; (refine f_loadWa rfl rfl rfl (subA_ok x.enc_len) (subL_ok x.enc_len) (allD_map _) ?_))
            first | refine f_guard_no rfl rfl rfl rfl ?_ | refine f_guard_un rfl rfl rfl ?_ | (refine f_guard_yes rfl rfl ?_; (refine f_loadLa rfl rfl rfl rfl rfl ?_))
            first | refine f_guard_no rfl rfl rfl rfl ?_ | refine f_guard_un rfl rfl rfl ?_ | (refine f_guard_yes rfl rfl ?_; ((refine f_call1 (mayL_ok x (.asg nm v) hx) rfl rfl ?_; rw [hm])))
            refine f_pick rfl rfl rfl ?_
            refine TF.nil ⟨by kernel_rfl, ?_⟩
            repeat refine TC.seq ?_
            refine TC.cond rfl (fun hc => by cases hc) (fun hc => ?_)
            repeat refine TC.seq ?_
            refine TC.region ?_
            refine t_move rfl rfl ?_
            first | refine t_loadDw rfl rfl rfl ?_ | refine t_loadDa rfl rfl rfl ?_ | refine t_loadLa rfl rfl rfl rfl rfl ?_ | refine t_loadRa rfl rfl rfl rfl rfl ?_
            refine t_buildSlice rfl rfl rfl rfl rfl rfl rfl rfl ?_
            refine t_appendR rfl rfl rfl rfl (by rfl) (by exact one_len rfl) (by simp; omega) (by simp; omega) ?_
            refine t_assign rfl rfl ?_
            refine TL.nil ?_
            repeat refine TC.seq ?_
            refine TC.region ?_
            refine t_move rfl rfl ?_
            refine t_add64 rfl rfl rfl (by omega) ?_
            refine t_assign rfl rfl ?_
            refine TL.nil ?_
            exact againT (k' := l.length - (i + 1)) 1 hb (by exact Nat.le_refl 1) (by omega) ⟨i + 1, rfl, by omega, rfl⟩ (by rw [hnext, outH_snoc, List.length_append]; exact congrArg (fun z => [Ob.row false 14 (P.length + 1) z]) (fin _ rfl)) (by rw [hnext]; exact outH_HB _) ⟨⟨by simp; rfl, .d _⟩, ⟨rfl, .d _⟩, ⟨by rw [hnext, outM_snoc, List.length_append]; rfl, outM_MB _⟩, trivial⟩
          | ite w c a b =>
            repeat refine TC.seq ?_
            refine TC.region ?_
            refine t_move rfl rfl ?_
            refine t_move rfl rfl ?_
            refine t_indexD rfl rfl rfl (Int.natCast_nonneg i) (r := iteC w c (S.encs a) (S.encs b)) (S.encs_get l i _ hget) rfl ?_
            first | refine t_loadDw rfl rfl rfl ?_ | refine t_loadDa rfl rfl rfl ?_ | refine t_loadLa rfl rfl rfl rfl rfl ?_ | refine t_loadRa rfl rfl rfl rfl rfl ?_
            refine t_alloc rfl rfl ?_
            refine t_storeL rfl rfl rfl rfl rfl rfl ?_
            refine TL.nil ?_
            repeat refine TC.seq ?_
            refine TC.region ?_
            refine t_move rfl rfl ?_
            refine t_lenR rfl rfl ?_
            refine t_assign rfl rfl ?_
            refine TL.nil ?_
            repeat refine TC.seq ?_
            refine TC.draw mixed ?_
            refine f_move rfl rfl ?_
            (refine f_int rfl rfl rfl rfl ?_; rw [show decide (((P.length + 1 : Nat) : Int) > 0) = true from decide_eq_true (by omega)])
            refine f_move rfl rfl ?_
            first | refine f_guard_no rfl rfl rfl rfl ?_ | refine f_guard_un rfl rfl rfl ?_ | (refine f_guard_yes rfl rfl ?_; (refine f_move rfl rfl ?_))
            first | refine f_guard_no rfl rfl rfl rfl ?_ | refine f_guard_un rfl rfl rfl ?_ | (refine f_guard_yes rfl rfl ?_; (refine f_move rfl rfl ?_))
            first | refine f_guard_no rfl rfl rfl rfl ?_ | refine f_guard_un rfl rfl rfl ?_ | (refine f_guard_yes rfl rfl ?_; ((refine f_sub64 rfl rfl rfl (by omega) ?_; rw [dd])))
            first | refine f_guard_no rfl rfl rfl rfl ?_ | refine f_guard_un rfl rfl rfl ?_ | (refine f_guard_yes rfl rfl ?_; (refine f_indexR rfl rfl rfl rfl (by omega) (by omega) ?_))
            first | refine f_guard_no rfl rfl rfl rfl ?_ | refine f_guard_un rfl rfl rfl ?_ | (refine f_guard_yes rfl rfl ?_; (refine f_loadWa rfl rfl rfl (subA_ok x.enc_len) (subL_ok x.enc_len) (allD_map _) ?_))
            first | refine f_guard_no rfl rfl rfl rfl ?_ | refine f_guard_un rfl rfl rfl ?_ | (refine f_guard_yes rfl rfl ?_; (refine f_loadLa rfl rfl rfl rfl rfl ?_))
            first | refine f_guard_no rfl rfl rfl rfl ?_ | refine f_guard_un rfl rfl rfl ?_ | (refine f_guard_yes rfl rfl ?_; ((refine f_call1 (mayL_ok x (.ite w c a b) hx) rfl rfl ?_; rw [hm])))
            refine f_pick rfl rfl rfl ?_
            refine TF.nil ⟨by kernel_rfl, ?_⟩
            repeat refine TC.seq ?_
            refine TC.cond rfl (fun hc => by cases hc) (fun hc => ?_)
            repeat refine TC.seq ?_
            refine TC.region ?_
            refine t_move rfl rfl ?_
            first | refine t_loadDw rfl rfl rfl ?_ | refine t_loadDa rfl rfl rfl ?_ | refine t_loadLa rfl rfl rfl rfl rfl ?_ | refine t_loadRa rfl rfl rfl rfl rfl ?_
            refine t_buildSlice rfl rfl rfl rfl rfl rfl rfl rfl ?_
            refine t_appendR rfl rfl rfl rfl (by rfl) (by exact one_len rfl) (by simp; omega) (by simp; omega) ?_
            refine t_assign rfl rfl ?_
            refine TL.nil ?_
            repeat refine TC.seq ?_
            refine TC.region ?_
            refine t_move rfl rfl ?_
            refine t_add64 rfl rfl rfl (by omega) ?_
            refine t_assign rfl rfl ?_
            refine TL.nil ?_
            exact againT (k' := l.length - (i + 1)) 1 hb (by exact Nat.le_refl 1) (by omega) ⟨i + 1, rfl, by omega, rfl⟩ (by rw [hnext, outH_snoc, List.length_append]; exact congrArg (fun z => [Ob.row false 14 (P.length + 1) z]) (fin _ rfl)) (by rw [hnext]; exact outH_HB _) ⟨⟨by simp; rfl, .d _⟩, ⟨rfl, .d _⟩, ⟨by rw [hnext, outM_snoc, List.length_append]; rfl, outM_MB _⟩, trivial⟩
        | true =>
          rw [mrg_yes P x s hm] at hnext
          cases s with
          | asg nm v => cases x <;> cases hm
          | ite w c a b =>
            cases x with
            | asg nm v => cases hm
            | ite w0 c0 a0 b0 =>
              simp only [szs_append, S.szs, S.sz] at hpz hsum hsz
              have hla := S.len_le a
              have hlb := S.len_le b
              have hla0 := S.len_le a0
              have hlb0 := S.len_le b0
              rw [join] at hnext
              repeat refine TC.seq ?_
              refine TC.region ?_
              refine t_move rfl rfl ?_
              refine t_move rfl rfl ?_
              refine t_indexD rfl rfl rfl (Int.natCast_nonneg i) (r := iteC w c (S.encs a) (S.encs b)) (S.encs_get l i _ hget) rfl ?_
              first | refine t_loadDw rfl rfl rfl ?_ | refine t_loadDa rfl rfl rfl ?_ | refine t_loadLa rfl rfl rfl rfl rfl ?_ | refine t_loadRa rfl rfl rfl rfl rfl ?_
              refine t_alloc rfl rfl ?_
              refine t_storeL rfl rfl rfl rfl rfl rfl ?_
              refine TL.nil ?_
              repeat refine TC.seq ?_
              refine TC.region ?_
              refine t_move rfl rfl ?_
              refine t_lenR rfl rfl ?_
              refine t_assign rfl rfl ?_
              refine TL.nil ?_
              repeat refine TC.seq ?_
              refine TC.draw mixed ?_
              refine f_move rfl rfl ?_
              (refine f_int rfl rfl rfl rfl ?_; rw [show decide (((P.length + 1 : Nat) : Int) > 0) = true from decide_eq_true (by omega)])
              refine f_move rfl rfl ?_
              first | refine f_guard_no rfl rfl rfl rfl ?_ | refine f_guard_un rfl rfl rfl ?_ | (refine f_guard_yes rfl rfl ?_; (refine f_move rfl rfl ?_))
              first | refine f_guard_no rfl rfl rfl rfl ?_ | refine f_guard_un rfl rfl rfl ?_ | (refine f_guard_yes rfl rfl ?_; (refine f_move rfl rfl ?_))
              first | refine f_guard_no rfl rfl rfl rfl ?_ | refine f_guard_un rfl rfl rfl ?_ | (refine f_guard_yes rfl rfl ?_; ((refine f_sub64 rfl rfl rfl (by omega) ?_; rw [dd])))
              first | refine f_guard_no rfl rfl rfl rfl ?_ | refine f_guard_un rfl rfl rfl ?_ | (refine f_guard_yes rfl rfl ?_; (refine f_indexR rfl rfl rfl rfl (by omega) (by omega) ?_))
              first | refine f_guard_no rfl rfl rfl rfl ?_ | refine f_guard_un rfl rfl rfl ?_ | (refine f_guard_yes rfl rfl ?_; (refine f_loadWa rfl rfl rfl (subA_ok (S.enc_len _)) (subL_ok (S.enc_len _)) (allD_map _) ?_))
              first | refine f_guard_no rfl rfl rfl rfl ?_ | refine f_guard_un rfl rfl rfl ?_ | (refine f_guard_yes rfl rfl ?_; (refine f_loadLa rfl rfl rfl rfl rfl ?_))
              first | refine f_guard_no rfl rfl rfl rfl ?_ | refine f_guard_un rfl rfl rfl ?_ | (refine f_guard_yes rfl rfl ?_; ((refine f_call1 (mayL_ok (.ite w0 c0 a0 b0) (.ite w c a b) hx) rfl rfl ?_; rw [hm])))
              refine f_pick rfl rfl rfl ?_
              refine TF.nil ⟨by kernel_rfl, ?_⟩
              repeat refine TC.seq ?_
              refine TC.cond rfl (fun hc => ?_) (fun hc => by cases hc)
              repeat refine TC.seq ?_
              refine TC.region ?_
              refine t_move rfl rfl ?_
              refine t_move rfl rfl ?_
              (refine t_sub64 rfl rfl rfl (by omega) ?_; rw [dd])
              refine t_indexR rfl rfl rfl rfl (by omega) (by omega) ?_
              refine t_loadWa rfl rfl rfl (subA_ok (S.enc_len _)) (subL_ok (S.enc_len _)) (allD_map _) ?_
              refine t_alloc rfl rfl ?_
              refine t_storeL rfl rfl rfl rfl rfl rfl ?_
              refine TL.nil ?_
              repeat refine TC.seq ?_
              refine TC.region ?_
              refine t_assign rfl rfl ?_
              refine t_assign rfl rfl ?_
              refine TL.nil ?_
              repeat refine TC.seq ?_
              refine TC.region ?_
              refine t_move rfl rfl ?_
              first | refine t_fieldD rfl rfl ?_ | refine t_fieldL rfl rfl ?_ | refine t_fieldR rfl rfl ?_ | refine t_fieldW rfl rfl ?_
              first | refine t_loadDc rfl rfl rfl ?_ | refine t_loadLc rfl rfl rfl rfl ?_ | refine t_loadRc rfl rfl rfl rfl ?_
              refine t_app0 (rows := S.encs a0) rfl rfl rfl rfl (by rfl) (S.encs_lens a0) (by rw [S.encs_len]; omega) ?_
              refine t_assign rfl rfl ?_
              refine TL.nil ?_
              repeat refine TC.seq ?_
              refine TC.region ?_
              refine t_move rfl rfl ?_
              first | refine t_fieldD rfl rfl ?_ | refine t_fieldL rfl rfl ?_ | refine t_fieldR rfl rfl ?_ | refine t_fieldW rfl rfl ?_
              first | refine t_loadDc rfl rfl rfl ?_ | refine t_loadLc rfl rfl rfl rfl ?_ | refine t_loadRc rfl rfl rfl rfl ?_
              refine t_app1 (r1 := S.encs a0) (r2 := S.encs a) rfl rfl rfl rfl (by rfl) (S.encs_lens a0) (S.encs_lens a) (by rw [S.encs_len, S.encs_len]; omega) (by rw [S.encs_len, S.encs_len]; omega) ?_
              first | refine t_fieldD rfl rfl ?_ | refine t_fieldL rfl rfl ?_ | refine t_fieldR rfl rfl ?_ | refine t_fieldW rfl rfl ?_
              refine t_storeL rfl rfl rfl rfl rfl rfl ?_
              refine TL.nil ?_
              refine TC.trimB 1 hb (len1 _ _ _) (outH_take1 P _ _ _) (rows_HB _ _ _ _ _) (sl' := [(0, .m (.d (.sl (S.encs l)))), (3, .m (.rsl 0 P.length (P.length + 1))), (4, .m (.d (.int .i64 i))), (5, .loc 5 0), (6, .m (.d (.int .i64 ((P.length + 1 : Nat) : Int)))), (7, .loc 7 0), (9, .m (.d (.sl [])))]) ⟨⟨rfl, .d _⟩, ⟨rfl, .rsl _ _ _ (by omega)⟩, ⟨rfl, .d _⟩, ⟨rfl, trivial⟩, ⟨rfl, .d _⟩, ⟨rfl, trivial⟩, ⟨rfl, .d _⟩, trivial⟩ rfl ?_
              repeat refine TC.seq ?_
              refine TC.region ?_
              refine t_move rfl rfl ?_
              first | refine t_fieldD rfl rfl ?_ | refine t_fieldL rfl rfl ?_ | refine t_fieldR rfl rfl ?_ | refine t_fieldW rfl rfl ?_
              first | refine t_loadDc rfl rfl rfl ?_ | refine t_loadLc rfl rfl rfl rfl ?_ | refine t_loadRc rfl rfl rfl rfl ?_
              refine t_app0 (rows := S.encs b0) rfl rfl rfl rfl (by rfl) (S.encs_lens b0) (by rw [S.encs_len]; omega) ?_
              refine t_assign rfl rfl ?_
              refine TL.nil ?_
              repeat refine TC.seq ?_
              refine TC.region ?_
              refine t_move rfl rfl ?_
              first | refine t_fieldD rfl rfl ?_ | refine t_fieldL rfl rfl ?_ | refine t_fieldR rfl rfl ?_ | refine t_fieldW rfl rfl ?_
              first | refine t_loadDc rfl rfl rfl ?_ | refine t_loadLc rfl rfl rfl rfl ?_ | refine t_loadRc rfl rfl rfl rfl ?_
              refine t_app1 (r1 := S.encs b0) (r2 := S.encs b) rfl rfl rfl rfl (by rfl) (S.encs_lens b0) (S.encs_lens b) (by rw [S.encs_len, S.encs_len]; omega) (by rw [S.encs_len, S.encs_len]; omega) ?_
              first | refine t_fieldD rfl rfl ?_ | refine t_fieldL rfl rfl ?_ | refine t_fieldR rfl rfl ?_ | refine t_fieldW rfl rfl ?_
              refine t_storeL rfl rfl rfl rfl rfl rfl ?_
              refine TL.nil ?_
              refine TC.trimB 1 hb (len1 _ _ _) (outH_take1 P _ _ _) (rows_HB _ _ _ _ _) (sl' := [(0, .m (.d (.sl (S.encs l)))), (3, .m (.rsl 0 P.length (P.length + 1))), (4, .m (.d (.int .i64 i))), (5, .loc 5 0), (6, .m (.d (.int .i64 ((P.length + 1 : Nat) : Int)))), (7, .loc 7 0)]) ⟨⟨rfl, .d _⟩, ⟨rfl, .rsl _ _ _ (by omega)⟩, ⟨rfl, .d _⟩, ⟨rfl, trivial⟩, ⟨rfl, .d _⟩, ⟨rfl, trivial⟩, trivial⟩ rfl ?_
              repeat refine TC.seq ?_
              refine TC.region ?_
              refine t_move rfl rfl ?_
              refine t_move rfl rfl ?_
              (refine t_sub64 rfl rfl rfl (by omega) ?_; rw [dd])
              first | refine t_loadDw rfl rfl rfl ?_ | refine t_loadDa rfl rfl rfl ?_ | refine t_loadLa rfl rfl rfl rfl rfl ?_ | refine t_loadRa rfl rfl rfl rfl rfl ?_
              refine t_indexR rfl rfl rfl rfl (by omega) (by omega) ?_
              refine t_storeW rfl rfl rfl rfl rfl (wrow_ok (S.enc_len _) (y := iteC w0 c0 (S.encs a0 ++ S.encs a) (S.encs b0 ++ S.encs b)) rfl) ?_
              refine TL.nil ?_
              repeat refine TC.seq ?_
              refine TC.region ?_
              refine t_move rfl rfl ?_
              refine t_add64 rfl rfl rfl (by omega) ?_
              refine t_assign rfl rfl ?_
              refine TL.nil ?_
              exact againT (k' := l.length - (i + 1)) 1 hb (by exact Nat.le_refl 1) (by omega) ⟨i + 1, rfl, by omega, rfl⟩ (by rw [hnext, outH_snoc, show (S.ite w0 c0 (a0 ++ a) (b0 ++ b)).enc = iteC w0 c0 (S.encs a0 ++ S.encs a) (S.encs b0 ++ S.encs b) from by rw [S.enc, S.encs_append, S.encs_append]]; rfl) (by rw [hnext]; exact outH_HB _) ⟨⟨by simp; rfl, .d _⟩, ⟨rfl, .d _⟩, ⟨by rw [hnext, outM_snoc]; rfl, outM_MB _⟩, trivial⟩
    · refine TC.exit ?_
      obtain rfl : i = l.length := by have := of_decide_eq_false hc; omega
      rw [List.take_length]
      have hOz := pass1_sz l
      have hfu : fuseN (n + 1) l = (pass1 l).map (sub (fuseN n)) := rfl
      rw [hfu]
      clear hfu hc hi
      generalize pass1 l = O at hOz ⊢
      have hOl := S.len_le O
      by_cases hO : O = []
      · subst hO
        repeat refine TC.seq ?_
        refine TC.region ?_
        refine t_assign rfl rfl ?_
        refine TL.nil ?_
        repeat refine TC.seq ?_
        refine TC.block ?_
        refine TC.loopB (fun k s => s = ⟨[(10, .m (.d (.int .i64 0))), (3, .m (.d (.sl [])))], [], []⟩ ∧ k = 0) 0 _
          ⟨rfl, rfl⟩ ⟨rfl, rfl, trivial⟩ ?_
        rintro k s ⟨rfl, rfl⟩
        repeat refine TC.seq ?_
        refine TC.region ?_
        refine t_move rfl rfl ?_
        refine t_move rfl rfl ?_
        refine t_lenS rfl rfl rfl ?_
        refine t_int rfl rfl rfl rfl ?_
        refine TL.nil ?_
        repeat refine TC.seq ?_
        refine TC.cond rfl (fun hc => by cases hc) (fun hc => ?_)
        refine TC.exit ?_
        repeat refine TC.seq ?_
        refine TC.region ?_
        refine t_move rfl rfl ?_
        refine t_assign rfl rfl ?_
        refine TL.nil ?_
        exact TC.ret ⟨_, rfl, [_], rfl, rfl⟩
      · rw [outM_ne hO, outH_ne hO]
        have hpos : 0 < O.length := by cases O; exact absurd rfl hO; simp
        repeat refine TC.seq ?_
        refine TC.region ?_
        refine t_assign rfl rfl ?_
        refine TL.nil ?_
        repeat refine TC.seq ?_
        refine TC.block ?_
        refine TC.loopB (fun k s => ∃ (i : Nat), s = ⟨[(10, .m (.d (.int .i64 i))), (3, .m (.rsl 0 (O.length - 1) O.length))], [], [.row false 14 (O.length - 1) (flatM (S.encs (WN (sub (fuseN n)) O i)))]⟩ ∧ i ≤ O.length ∧ k = O.length - i) O.length _
          ⟨0, rfl, by omega, rfl⟩ ⟨rfl, rfl, trivial⟩ ?_
        rintro k s ⟨i, rfl, hi, rfl⟩
        repeat refine TC.seq ?_
        refine TC.region ?_
        refine t_move rfl rfl ?_
        refine t_move rfl rfl ?_
        refine t_lenR rfl rfl ?_
        refine t_int rfl rfl rfl rfl ?_
        refine TL.nil ?_
        repeat refine TC.seq ?_
        refine TC.cond rfl (fun hc => ?_) (fun hc => ?_)
        · have hc' : i < O.length := by have := of_decide_eq_true hc; omega
          clear hc
          have hsz := S.sz_le (List.getElem_mem hc')
          have hget := encs_get2 (WN_get (sub (fuseN n)) O i hc')
          have hnext := WN_succ (sub (fuseN n)) O i hc'
          have hlens := S.encs_lens (WN (sub (fuseN n)) O i)
          generalize WN (sub (fuseN n)) O i = W at hget hnext hlens ⊢
          refine TC.skip ?_
          repeat refine TC.seq ?_
          refine TC.block ?_
          generalize O[i] = x at hsz hget hnext
          cases x with
          | asg nm v =>
            repeat refine TC.seq ?_
            refine TC.region ?_
            refine t_move rfl rfl ?_
            refine t_move rfl rfl ?_
            refine t_indexR rfl rfl rfl rfl (by omega) (by omega) ?_
            first | refine t_fieldD rfl rfl ?_ | refine t_fieldL rfl rfl ?_ | refine t_fieldR rfl rfl ?_ | refine t_fieldW rfl rfl ?_
            refine t_loadWc rfl rfl rfl (rd2_ok hlens hget (v := .int .u8 1) rfl) ?_
            refine t_int rfl rfl rfl rfl ?_
            refine TL.nil ?_
            repeat refine TC.seq ?_
            refine TC.cond rfl (fun hc => by cases hc) (fun hc => ?_)
            refine TC.skip ?_
            have hsame : flatM (S.encs W) = flatM (S.encs (W.set i (sub (fuseN n) (.asg nm v)))) := by
              show flatM (S.encs W) = flatM (S.encs (W.set i (.asg nm v)))
              rw [encs_set]
              congr 1
              apply List.ext_getElem?
              intro j
              by_cases e : i = j
              · subst e; rw [set_get2 hget, hget]
              · rw [List.getElem?_set_ne e]
            repeat refine TC.seq ?_
            refine TC.region ?_
            refine t_move rfl rfl ?_
            refine t_add64 rfl rfl rfl (by omega) ?_
            refine t_assign rfl rfl ?_
            refine TL.nil ?_
            exact againT (k' := O.length - (i + 1)) 1 hb (by exact Nat.le_refl 1) (by omega) ⟨i + 1, rfl, by omega, rfl⟩ (by rw [hnext, ← hsame]; rfl) (by exact rows_HB _ _ _ _ _) ⟨⟨by simp; rfl, .d _⟩, ⟨rfl, .rsl _ _ _ (by omega)⟩, trivial⟩
          | ite w c a b =>
            simp only [S.sz] at hsz
            repeat refine TC.seq ?_
            refine TC.region ?_
            refine t_move rfl rfl ?_
            refine t_move rfl rfl ?_
            refine t_indexR rfl rfl rfl rfl (by omega) (by omega) ?_
            first | refine t_fieldD rfl rfl ?_ | refine t_fieldL rfl rfl ?_ | refine t_fieldR rfl rfl ?_ | refine t_fieldW rfl rfl ?_
            refine t_loadWc rfl rfl rfl (rd2_ok hlens hget (v := .int .u8 3) rfl) ?_
            refine t_int rfl rfl rfl rfl ?_
            refine TL.nil ?_
            repeat refine TC.seq ?_
            refine TC.cond rfl (fun hc => ?_) (fun hc => by cases hc)
            repeat refine TC.seq ?_
            refine TC.region ?_
            refine t_move rfl rfl ?_
            refine t_move rfl rfl ?_
            refine t_move rfl rfl ?_
            refine t_move rfl rfl ?_
            refine t_indexR rfl rfl rfl rfl (by omega) (by omega) ?_
            first | refine t_fieldD rfl rfl ?_ | refine t_fieldL rfl rfl ?_ | refine t_fieldR rfl rfl ?_ | refine t_fieldW rfl rfl ?_
            refine t_loadWc rfl rfl rfl (rd2_ok hlens hget (v := .sl (S.encs a)) rfl) ?_
            refine t_call1 (ih a (by omega) (by omega)) rfl rfl ?_
            refine t_indexR rfl rfl rfl rfl (by omega) (by omega) ?_
            first | refine t_fieldD rfl rfl ?_ | refine t_fieldL rfl rfl ?_ | refine t_fieldR rfl rfl ?_ | refine t_fieldW rfl rfl ?_
            refine t_storeW rfl rfl rfl rfl rfl (wr2_ok hlens hget (by decide)) ?_
            refine TL.nil ?_
            repeat refine TC.seq ?_
            refine TC.region ?_
            refine t_move rfl rfl ?_
            refine t_move rfl rfl ?_
            refine t_move rfl rfl ?_
            refine t_move rfl rfl ?_
            refine t_indexR rfl rfl rfl rfl (by omega) (by omega) ?_
            first | refine t_fieldD rfl rfl ?_ | refine t_fieldL rfl rfl ?_ | refine t_fieldR rfl rfl ?_ | refine t_fieldW rfl rfl ?_
            refine t_loadWc rfl rfl rfl (rd2_ok (set_lens hlens rfl) (set_get2 hget) (v := .sl (S.encs b)) rfl) ?_
            refine t_call1 (ih b (by omega) (by omega)) rfl rfl ?_
            refine t_indexR rfl rfl rfl rfl (by omega) (by omega) ?_
            first | refine t_fieldD rfl rfl ?_ | refine t_fieldL rfl rfl ?_ | refine t_fieldR rfl rfl ?_ | refine t_fieldW rfl rfl ?_
            refine t_storeW rfl rfl rfl rfl rfl (wr2_ok (set_lens hlens rfl) (set_get2 hget) (by decide)) ?_
            refine TL.nil ?_
            repeat refine TC.seq ?_
            refine TC.region ?_
            refine t_move rfl rfl ?_
            refine t_add64 rfl rfl rfl (by omega) ?_
            refine t_assign rfl rfl ?_
            refine TL.nil ?_
            exact againT (k' := O.length - (i + 1)) 1 hb (by exact Nat.le_refl 1) (by omega) ⟨i + 1, rfl, by omega, rfl⟩ (by rw [hnext, encs_set]; exact congrArg (fun z => [Ob.row false 14 (O.length - 1) (flatM z)]) (List.set_set _)) (by exact rows_HB _ _ _ _ _) ⟨⟨by simp; rfl, .d _⟩, ⟨rfl, .rsl _ _ _ (by omega)⟩, trivial⟩
        · refine TC.exit ?_
          obtain rfl : i = O.length := by have := of_decide_eq_false hc; omega
          rw [WN_end]
          repeat refine TC.seq ?_
          refine TC.region ?_
          refine t_move rfl rfl ?_
          refine t_assign rfl rfl ?_
          refine TL.nil ?_
          refine TC.freezeRow 0 rfl ?_
          have hel : (S.encs (O.map (sub (fuseN n)))).length = O.length := by rw [S.encs_len, List.length_map]
          refine TC.viewSlot 2 rfl (Acc.view (n := 14) (i := 0) (rs := S.encs (O.map (sub (fuseN n)))) (.inr ⟨by intro h; rw [h] at hel; simp at hel; omega, _, by rw [hel], rfl⟩) (S.encs_lens _)) ?_
          exact TC.ret ⟨_, rfl, [_], rfl, rfl⟩
end Go.Proofs
