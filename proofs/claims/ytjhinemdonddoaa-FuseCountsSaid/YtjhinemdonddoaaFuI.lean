import Derived.Test.YtjhinemdonddoaaFuH
namespace Go.Proofs
open Go.Mt
set_option maxRecDepth 4000
set_option linter.unusedSimpArgs false
set_option linter.unusedVariables false

mutual
def ifS : S → Nat
  | .asg _ _ => 0
  | .ite _ _ a b => 1 + ifSs a + ifSs b
def ifSs : List S → Nat
  | [] => 0
  | s :: r => ifS s + ifSs r
end
mutual
theorem ifS_le : ∀ s : S, ifS s ≤ s.sz
  | .asg _ _ => by simp [ifS]
  | .ite _ _ a b => by have := ifSs_le a; have := ifSs_le b; simp only [ifS, S.sz]; omega
theorem ifSs_le : ∀ l : List S, ifSs l ≤ S.szs l
  | [] => by simp [ifSs]
  | s :: r => by have := ifS_le s; have := ifSs_le r; simp only [ifSs, S.szs]; omega
end
theorem ifSs_append (a b : List S) : ifSs (a ++ b) = ifSs a + ifSs b := by induction a with
  | nil => simp [ifSs]
  | cons s r ih => simp only [List.cons_append, ifSs, ih]; omega
theorem ifSs_snoc (l : List S) (i : Nat) (h : i < l.length) : ifSs (l.take (i + 1)) = ifSs (l.take i) + ifS l[i] := by
  rw [List.take_succ_eq_append_getElem h, ifSs_append]; simp [ifSs]
theorem szs_snoc (l : List S) (i : Nat) (h : i < l.length) : S.szs (l.take (i + 1)) = S.szs (l.take i) + l[i].sz := by
  rw [List.take_succ_eq_append_getElem h, szs_append]; simp [S.szs]
theorem slotInt {x y : Int} (h : x = y) : some (V.m (.d (.int .i64 x))) = some (V.m (.d (.int .i64 y))) := by rw [h]
theorem HB0 : HB 0 [] := by intro ob h; cases h

theorem ifsF_ok (n : Nat) : ∀ l : List S, S.szs l < n → S.szs l ≤ 100000 → PT Try.prog 16 [.sl (S.encs l)] (· = [.int .i64 (ifSs l : Nat)]) := by
  induction n with
  | zero => intro l h; omega
  | succ n ih =>
    intro l hn hB
    refine PT.of_CT (CT.of_body Try.func16 rfl Try.ntmps16 rfl fun s0 Oo => ?_)
    refine TC.base fun hb => ?_
    replace hb : s0.H.length ≤ 0 := Nat.le_trans hb (by simp)
    have hlen := S.len_le l
    repeat refine TC.seq ?_
    refine TC.region ?_
    refine t_assign rfl rfl ?_
    refine TL.nil ?_
    repeat refine TC.seq ?_
    refine TC.region ?_
    refine t_assign rfl rfl ?_
    refine TL.nil ?_
    repeat refine TC.seq ?_
    refine TC.region ?_
    refine t_move rfl rfl ?_
    (refine t_lenS rfl rfl rfl ?_; rw [S.encs_len])
    refine t_move rfl rfl ?_
    refine TL.nil ?_
    repeat refine TC.seq ?_
    refine TC.block ?_
    refine TC.loopB (fun k s => ∃ (i : Nat), s = ⟨[(8, .m (.d (.int .i64 i))), (7, .m (.d (.int .i64 (l.length : Nat)))), (6, .m (.d (.sl (S.encs l)))), (3, .m (.d (.int .i64 (ifSs (l.take i) : Nat))))], [], []⟩ ∧ i ≤ l.length ∧ k = l.length - i) l.length _
      ⟨0, rfl, by omega, rfl⟩ ⟨rfl, rfl, rfl, rfl, trivial⟩ ?_
    rintro k s ⟨i, rfl, hi, rfl⟩
    repeat refine TC.seq ?_
    refine TC.region ?_
    refine t_int rfl rfl rfl rfl ?_
    refine TL.nil ?_
    repeat refine TC.seq ?_
    refine TC.cond rfl (fun hc => ?_) (fun hc => ?_)
    · have hc' : i < l.length := by have := of_decide_eq_true hc; omega
      clear hc
      have hsz := S.sz_le (List.getElem_mem hc')
      have hget : l[i]? = some l[i] := by simp [hc']
      have hnext := ifSs_snoc l i hc'
      have hroom := room hc'
      have hle := ifSs_le (l.take i)
      generalize ifSs (l.take i) = A at hle hnext ⊢
      generalize l[i] = s at hsz hget hnext hroom
      refine TC.skip ?_
      repeat refine TC.seq ?_
      refine TC.block ?_
      cases s with
      | asg nm v =>
        repeat refine TC.seq ?_
        refine TC.region ?_
        refine t_indexD rfl rfl rfl (Int.natCast_nonneg i) (r := letC nm v) (S.encs_get l i _ hget) rfl ?_
        first | refine t_loadDw rfl rfl rfl ?_ | refine t_loadDa rfl rfl rfl ?_ | refine t_loadLa rfl rfl rfl rfl rfl ?_ | refine t_loadRa rfl rfl rfl rfl rfl ?_
        refine t_alloc rfl rfl ?_
        refine t_storeL rfl rfl rfl rfl rfl rfl ?_
        refine TL.nil ?_
        repeat refine TC.seq ?_
        refine TC.region ?_
        first | refine t_fieldD rfl rfl ?_ | refine t_fieldL rfl rfl ?_ | refine t_fieldR rfl rfl ?_ | refine t_fieldW rfl rfl ?_
        first | refine t_loadDc rfl rfl rfl ?_ | refine t_loadLc rfl rfl rfl rfl ?_ | refine t_loadRc rfl rfl rfl rfl ?_
        refine t_int rfl rfl rfl rfl ?_
        refine TL.nil ?_
        repeat refine TC.seq ?_
        refine TC.cond rfl (fun hc => by cases hc) (fun hc => ?_)
        refine TC.skip ?_
        repeat refine TC.seq ?_
        refine TC.region ?_
        refine t_add64 rfl rfl rfl (by omega) ?_
        refine t_move rfl rfl ?_
        refine TL.nil ?_
        exact againT (k' := l.length - (i + 1)) 0 hb (by omega) (by omega) ⟨i + 1, rfl, by omega, rfl⟩ rfl HB0 ⟨⟨by simp; rfl, .d _⟩, ⟨rfl, .d _⟩, ⟨rfl, .d _⟩, ⟨by rw [hnext]; rfl, .d _⟩, trivial⟩
      | ite w c a b =>
        simp only [S.sz, ifS] at hsz hroom hnext
        have ha := ifSs_le a
        have hb2 := ifSs_le b
        repeat refine TC.seq ?_
        refine TC.region ?_
        refine t_indexD rfl rfl rfl (Int.natCast_nonneg i) (r := iteC w c (S.encs a) (S.encs b)) (S.encs_get l i _ hget) rfl ?_
        first | refine t_loadDw rfl rfl rfl ?_ | refine t_loadDa rfl rfl rfl ?_ | refine t_loadLa rfl rfl rfl rfl rfl ?_ | refine t_loadRa rfl rfl rfl rfl rfl ?_
        refine t_alloc rfl rfl ?_
        refine t_storeL rfl rfl rfl rfl rfl rfl ?_
        refine TL.nil ?_
        repeat refine TC.seq ?_
        refine TC.region ?_
        first | refine t_fieldD rfl rfl ?_ | refine t_fieldL rfl rfl ?_ | refine t_fieldR rfl rfl ?_ | refine t_fieldW rfl rfl ?_
        first | refine t_loadDc rfl rfl rfl ?_ | refine t_loadLc rfl rfl rfl rfl ?_ | refine t_loadRc rfl rfl rfl rfl ?_
        refine t_int rfl rfl rfl rfl ?_
        refine TL.nil ?_
        repeat refine TC.seq ?_
        refine TC.cond rfl (fun hc => ?_) (fun hc => by cases hc)
        repeat refine TC.seq ?_
        refine TC.draw mixed ?_
        refine f_move rfl rfl ?_
        first | refine f_fieldD rfl rfl ?_ | refine f_fieldL rfl rfl ?_ | refine f_fieldR rfl rfl ?_ | refine f_fieldW rfl rfl ?_
        first | refine f_loadDc rfl rfl rfl ?_ | refine f_loadLc rfl rfl rfl rfl ?_ | refine f_loadRc rfl rfl rfl rfl ?_
        refine f_call1 (ih a (by omega) (by omega)) rfl rfl ?_
        refine f_add64 rfl rfl rfl (by omega) ?_
        first | refine f_fieldD rfl rfl ?_ | refine f_fieldL rfl rfl ?_ | refine f_fieldR rfl rfl ?_ | refine f_fieldW rfl rfl ?_
        first | refine f_loadDc rfl rfl rfl ?_ | refine f_loadLc rfl rfl rfl rfl ?_ | refine f_loadRc rfl rfl rfl rfl ?_
        refine f_call1 (ih b (by omega) (by omega)) rfl rfl ?_
        refine f_add64 rfl rfl rfl (by omega) ?_
        refine f_add64 rfl rfl rfl (by omega) ?_
        refine f_assign rfl rfl ?_
        refine TF.nil ⟨by kernel_rfl, ?_⟩
        repeat refine TC.seq ?_
        refine TC.region ?_
        refine t_add64 rfl rfl rfl (by omega) ?_
        refine t_move rfl rfl ?_
        refine TL.nil ?_
        exact againT (k' := l.length - (i + 1)) 0 hb (by omega) (by omega) ⟨i + 1, rfl, by omega, rfl⟩ rfl HB0 ⟨⟨by simp; rfl, .d _⟩, ⟨rfl, .d _⟩, ⟨rfl, .d _⟩, ⟨by rw [hnext]; exact slotInt (by omega), .d _⟩, trivial⟩
    · refine TC.exit ?_
      obtain rfl : i = l.length := by have := of_decide_eq_false hc; omega
      rw [List.take_length]
      repeat refine TC.seq ?_
      refine TC.region ?_
      refine t_move rfl rfl ?_
      refine t_assign rfl rfl ?_
      refine TL.nil ?_
      exact TC.ret ⟨_, rfl, [_], rfl, rfl⟩
theorem ifsL_ok (n : Nat) : ∀ l : List S, S.szs l < n → S.szs l ≤ 100000 → PT Try.prog 17 [.sl (S.encs l)] (· = [.int .i64 (ifSs l : Nat)]) := by
  induction n with
  | zero => intro l h; omega
  | succ n ih =>
    intro l hn hB
    refine PT.of_CT (CT.of_body Try.func17 rfl Try.ntmps17 rfl fun s0 Oo => ?_)
    refine TC.base fun hb => ?_
    replace hb : s0.H.length ≤ 0 := Nat.le_trans hb (by simp)
    have hlen := S.len_le l
    repeat refine TC.seq ?_
    refine TC.region ?_
    refine t_assign rfl rfl ?_
    refine TL.nil ?_
    repeat refine TC.seq ?_
    refine TC.region ?_
    refine t_assign rfl rfl ?_
    refine TL.nil ?_
    repeat refine TC.seq ?_
    refine TC.region ?_
    refine t_assign rfl rfl ?_
    refine TL.nil ?_
    repeat refine TC.seq ?_
    refine TC.block ?_
    refine TC.loopB (fun k s => ∃ (i : Nat), s = ⟨[(4, .m (.d (.int .i64 i))), (0, .m (.d (.sl (S.encs l)))), (3, .m (.d (.int .i64 (ifSs (l.take i) : Nat))))], [], []⟩ ∧ i ≤ l.length ∧ k = l.length - i) l.length _
      ⟨0, rfl, by omega, rfl⟩ ⟨rfl, rfl, rfl, trivial⟩ ?_
    rintro k s ⟨i, rfl, hi, rfl⟩
    repeat refine TC.seq ?_
    refine TC.region ?_
    refine t_move rfl rfl ?_
    refine t_move rfl rfl ?_
    (refine t_lenS rfl rfl rfl ?_; rw [S.encs_len])
    refine t_int rfl rfl rfl rfl ?_
    refine TL.nil ?_
    repeat refine TC.seq ?_
    refine TC.cond rfl (fun hc => ?_) (fun hc => ?_)
    · have hc' : i < l.length := by have := of_decide_eq_true hc; omega
      clear hc
      have hsz := S.sz_le (List.getElem_mem hc')
      have hget : l[i]? = some l[i] := by simp [hc']
      have hnext := ifSs_snoc l i hc'
      have hroom := room hc'
      have hle := ifSs_le (l.take i)
      generalize ifSs (l.take i) = A at hle hnext ⊢
      generalize l[i] = s at hsz hget hnext hroom
      refine TC.skip ?_
      repeat refine TC.seq ?_
      refine TC.block ?_
      cases s with
      | asg nm v =>
        repeat refine TC.seq ?_
        refine TC.region ?_
        refine t_move rfl rfl ?_
        refine t_move rfl rfl ?_
        refine t_indexD rfl rfl rfl (Int.natCast_nonneg i) (r := letC nm v) (S.encs_get l i _ hget) rfl ?_
        first | refine t_fieldD rfl rfl ?_ | refine t_fieldL rfl rfl ?_ | refine t_fieldR rfl rfl ?_ | refine t_fieldW rfl rfl ?_
        first | refine t_loadDc rfl rfl rfl ?_ | refine t_loadLc rfl rfl rfl rfl ?_ | refine t_loadRc rfl rfl rfl rfl ?_
        refine t_int rfl rfl rfl rfl ?_
        refine TL.nil ?_
        repeat refine TC.seq ?_
        refine TC.cond rfl (fun hc => by cases hc) (fun hc => ?_)
        refine TC.skip ?_
        repeat refine TC.seq ?_
        refine TC.region ?_
        refine t_move rfl rfl ?_
        refine t_add64 rfl rfl rfl (by omega) ?_
        refine t_assign rfl rfl ?_
        refine TL.nil ?_
        exact againT (k' := l.length - (i + 1)) 0 hb (by omega) (by omega) ⟨i + 1, rfl, by omega, rfl⟩ rfl HB0 ⟨⟨by simp; rfl, .d _⟩, ⟨rfl, .d _⟩, ⟨by rw [hnext]; rfl, .d _⟩, trivial⟩
      | ite w c a b =>
        simp only [S.sz, ifS] at hsz hroom hnext
        have ha := ifSs_le a
        have hb2 := ifSs_le b
        repeat refine TC.seq ?_
        refine TC.region ?_
        refine t_move rfl rfl ?_
        refine t_move rfl rfl ?_
        refine t_indexD rfl rfl rfl (Int.natCast_nonneg i) (r := iteC w c (S.encs a) (S.encs b)) (S.encs_get l i _ hget) rfl ?_
        first | refine t_fieldD rfl rfl ?_ | refine t_fieldL rfl rfl ?_ | refine t_fieldR rfl rfl ?_ | refine t_fieldW rfl rfl ?_
        first | refine t_loadDc rfl rfl rfl ?_ | refine t_loadLc rfl rfl rfl rfl ?_ | refine t_loadRc rfl rfl rfl rfl ?_
        refine t_int rfl rfl rfl rfl ?_
        refine TL.nil ?_
        repeat refine TC.seq ?_
        refine TC.cond rfl (fun hc => ?_) (fun hc => by cases hc)
        repeat refine TC.seq ?_
        refine TC.draw mixed ?_
        refine f_move rfl rfl ?_
        refine f_move rfl rfl ?_
        refine f_move rfl rfl ?_
        refine f_indexD rfl rfl rfl (Int.natCast_nonneg i) (r := iteC w c (S.encs a) (S.encs b)) (S.encs_get l i _ hget) rfl ?_
        first | refine f_fieldD rfl rfl ?_ | refine f_fieldL rfl rfl ?_ | refine f_fieldR rfl rfl ?_ | refine f_fieldW rfl rfl ?_
        first | refine f_loadDc rfl rfl rfl ?_ | refine f_loadLc rfl rfl rfl rfl ?_ | refine f_loadRc rfl rfl rfl rfl ?_
        refine f_call1 (ih a (by omega) (by omega)) rfl rfl ?_
        refine f_add64 rfl rfl rfl (by omega) ?_
        refine f_move rfl rfl ?_
        refine f_move rfl rfl ?_
        refine f_indexD rfl rfl rfl (Int.natCast_nonneg i) (r := iteC w c (S.encs a) (S.encs b)) (S.encs_get l i _ hget) rfl ?_
        first | refine f_fieldD rfl rfl ?_ | refine f_fieldL rfl rfl ?_ | refine f_fieldR rfl rfl ?_ | refine f_fieldW rfl rfl ?_
        first | refine f_loadDc rfl rfl rfl ?_ | refine f_loadLc rfl rfl rfl rfl ?_ | refine f_loadRc rfl rfl rfl rfl ?_
        refine f_call1 (ih b (by omega) (by omega)) rfl rfl ?_
        refine f_add64 rfl rfl rfl (by omega) ?_
        refine f_add64 rfl rfl rfl (by omega) ?_
        refine f_assign rfl rfl ?_
        refine TF.nil ⟨by kernel_rfl, ?_⟩
        repeat refine TC.seq ?_
        refine TC.region ?_
        refine t_move rfl rfl ?_
        refine t_add64 rfl rfl rfl (by omega) ?_
        refine t_assign rfl rfl ?_
        refine TL.nil ?_
        exact againT (k' := l.length - (i + 1)) 0 hb (by omega) (by omega) ⟨i + 1, rfl, by omega, rfl⟩ rfl HB0 ⟨⟨by simp; rfl, .d _⟩, ⟨rfl, .d _⟩, ⟨by rw [hnext]; exact slotInt (by omega), .d _⟩, trivial⟩
    · refine TC.exit ?_
      obtain rfl : i = l.length := by have := of_decide_eq_false hc; omega
      rw [List.take_length]
      repeat refine TC.seq ?_
      refine TC.region ?_
      refine t_move rfl rfl ?_
      refine t_assign rfl rfl ?_
      refine TL.nil ?_
      exact TC.ret ⟨_, rfl, [_], rfl, rfl⟩
theorem size_ok (n : Nat) : ∀ l : List S, S.szs l < n → S.szs l ≤ 100000 → PT Try.prog 18 [.sl (S.encs l)] (· = [.int .i64 (S.szs l : Nat)]) := by
  induction n with
  | zero => intro l h; omega
  | succ n ih =>
    intro l hn hB
    refine PT.of_CT (CT.of_body Try.func18 rfl Try.ntmps18 rfl fun s0 Oo => ?_)
    refine TC.base fun hb => ?_
    replace hb : s0.H.length ≤ 0 := Nat.le_trans hb (by simp)
    have hlen := S.len_le l
    repeat refine TC.seq ?_
    refine TC.region ?_
    refine t_assign rfl rfl ?_
    refine TL.nil ?_
    repeat refine TC.seq ?_
    refine TC.region ?_
    refine t_assign rfl rfl ?_
    refine TL.nil ?_
    repeat refine TC.seq ?_
    refine TC.region ?_
    refine t_move rfl rfl ?_
    (refine t_lenS rfl rfl rfl ?_; rw [S.encs_len])
    refine t_move rfl rfl ?_
    refine TL.nil ?_
    repeat refine TC.seq ?_
    refine TC.block ?_
    refine TC.loopB (fun k s => ∃ (i : Nat), s = ⟨[(8, .m (.d (.int .i64 i))), (7, .m (.d (.int .i64 (l.length : Nat)))), (6, .m (.d (.sl (S.encs l)))), (3, .m (.d (.int .i64 (S.szs (l.take i) : Nat))))], [], []⟩ ∧ i ≤ l.length ∧ k = l.length - i) l.length _
      ⟨0, rfl, by omega, rfl⟩ ⟨rfl, rfl, rfl, rfl, trivial⟩ ?_
    rintro k s ⟨i, rfl, hi, rfl⟩
    repeat refine TC.seq ?_
    refine TC.region ?_
    refine t_int rfl rfl rfl rfl ?_
    refine TL.nil ?_
    repeat refine TC.seq ?_
    refine TC.cond rfl (fun hc => ?_) (fun hc => ?_)
    · have hc' : i < l.length := by have := of_decide_eq_true hc; omega
      clear hc
      have hsz := S.sz_le (List.getElem_mem hc')
      have hget : l[i]? = some l[i] := by simp [hc']
      have hnext := szs_snoc l i hc'
      have hroom := room hc'
      generalize S.szs (l.take i) = A at hroom hnext ⊢
      generalize l[i] = s at hsz hget hnext hroom
      refine TC.skip ?_
      repeat refine TC.seq ?_
      refine TC.block ?_
      cases s with
      | asg nm v =>
        simp only [S.sz] at hsz hroom hnext
        have hz : S.szs [] = 0 := rfl
        repeat refine TC.seq ?_
        refine TC.region ?_
        refine t_indexD rfl rfl rfl (Int.natCast_nonneg i) (r := letC nm v) (S.encs_get l i _ hget) rfl ?_
        first | refine t_loadDw rfl rfl rfl ?_ | refine t_loadDa rfl rfl rfl ?_ | refine t_loadLa rfl rfl rfl rfl rfl ?_ | refine t_loadRa rfl rfl rfl rfl rfl ?_
        refine t_alloc rfl rfl ?_
        refine t_storeL rfl rfl rfl rfl rfl rfl ?_
        refine TL.nil ?_
        repeat refine TC.seq ?_
        refine TC.draw mixed ?_
        refine f_move rfl rfl ?_
        first | refine f_fieldD rfl rfl ?_ | refine f_fieldL rfl rfl ?_ | refine f_fieldR rfl rfl ?_ | refine f_fieldW rfl rfl ?_
        first | refine f_loadDc rfl rfl rfl ?_ | refine f_loadLc rfl rfl rfl rfl ?_ | refine f_loadRc rfl rfl rfl rfl ?_
        refine f_call1 (ih [] (by omega) (by omega)) rfl rfl ?_
        refine f_add64 rfl rfl rfl (by omega) ?_
        first | refine f_fieldD rfl rfl ?_ | refine f_fieldL rfl rfl ?_ | refine f_fieldR rfl rfl ?_ | refine f_fieldW rfl rfl ?_
        first | refine f_loadDc rfl rfl rfl ?_ | refine f_loadLc rfl rfl rfl rfl ?_ | refine f_loadRc rfl rfl rfl rfl ?_
        refine f_call1 (ih [] (by omega) (by omega)) rfl rfl ?_
        refine f_add64 rfl rfl rfl (by omega) ?_
        refine f_add64 rfl rfl rfl (by omega) ?_
        refine f_assign rfl rfl ?_
        refine TF.nil ⟨by kernel_rfl, ?_⟩
        repeat refine TC.seq ?_
        refine TC.region ?_
        refine t_add64 rfl rfl rfl (by omega) ?_
        refine t_move rfl rfl ?_
        refine TL.nil ?_
        exact againT (k' := l.length - (i + 1)) 0 hb (by omega) (by omega) ⟨i + 1, rfl, by omega, rfl⟩ rfl HB0 ⟨⟨by simp; rfl, .d _⟩, ⟨rfl, .d _⟩, ⟨rfl, .d _⟩, ⟨by rw [hnext]; exact slotInt (by omega), .d _⟩, trivial⟩
      | ite w c a b =>
        simp only [S.sz] at hsz hroom hnext
        repeat refine TC.seq ?_
        refine TC.region ?_
        refine t_indexD rfl rfl rfl (Int.natCast_nonneg i) (r := iteC w c (S.encs a) (S.encs b)) (S.encs_get l i _ hget) rfl ?_
        first | refine t_loadDw rfl rfl rfl ?_ | refine t_loadDa rfl rfl rfl ?_ | refine t_loadLa rfl rfl rfl rfl rfl ?_ | refine t_loadRa rfl rfl rfl rfl rfl ?_
        refine t_alloc rfl rfl ?_
        refine t_storeL rfl rfl rfl rfl rfl rfl ?_
        refine TL.nil ?_
        repeat refine TC.seq ?_
        refine TC.draw mixed ?_
        refine f_move rfl rfl ?_
        first | refine f_fieldD rfl rfl ?_ | refine f_fieldL rfl rfl ?_ | refine f_fieldR rfl rfl ?_ | refine f_fieldW rfl rfl ?_
        first | refine f_loadDc rfl rfl rfl ?_ | refine f_loadLc rfl rfl rfl rfl ?_ | refine f_loadRc rfl rfl rfl rfl ?_
        refine f_call1 (ih a (by omega) (by omega)) rfl rfl ?_
        refine f_add64 rfl rfl rfl (by omega) ?_
        first | refine f_fieldD rfl rfl ?_ | refine f_fieldL rfl rfl ?_ | refine f_fieldR rfl rfl ?_ | refine f_fieldW rfl rfl ?_
        first | refine f_loadDc rfl rfl rfl ?_ | refine f_loadLc rfl rfl rfl rfl ?_ | refine f_loadRc rfl rfl rfl rfl ?_
        refine f_call1 (ih b (by omega) (by omega)) rfl rfl ?_
        refine f_add64 rfl rfl rfl (by omega) ?_
        refine f_add64 rfl rfl rfl (by omega) ?_
        refine f_assign rfl rfl ?_
        refine TF.nil ⟨by kernel_rfl, ?_⟩
        repeat refine TC.seq ?_
        refine TC.region ?_
        refine t_add64 rfl rfl rfl (by omega) ?_
        refine t_move rfl rfl ?_
        refine TL.nil ?_
        exact againT (k' := l.length - (i + 1)) 0 hb (by omega) (by omega) ⟨i + 1, rfl, by omega, rfl⟩ rfl HB0 ⟨⟨by simp; rfl, .d _⟩, ⟨rfl, .d _⟩, ⟨rfl, .d _⟩, ⟨by rw [hnext]; exact slotInt (by omega), .d _⟩, trivial⟩
    · refine TC.exit ?_
      obtain rfl : i = l.length := by have := of_decide_eq_false hc; omega
      rw [List.take_length]
      repeat refine TC.seq ?_
      refine TC.region ?_
      refine t_move rfl rfl ?_
      refine t_assign rfl rfl ?_
      refine TL.nil ?_
      exact TC.ret ⟨_, rfl, [_], rfl, rfl⟩
end Go.Proofs
