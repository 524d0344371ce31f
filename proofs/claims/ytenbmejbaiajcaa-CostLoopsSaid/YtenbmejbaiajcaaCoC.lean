import Derived.Test.YtenbmejbaiajcaaCoB
namespace Go.Proofs
open Go.Mt
set_option maxRecDepth 4000
set_option linter.unusedSimpArgs false
set_option linter.unusedVariables false

/-- the list of names under way, in the heap -/
def accM : List ByteArray → M
  | [] => .d (.sl [])
  | _ :: r => .rsl 0 r.length (r.length + 1)
def accH (l : List ByteArray) : Hp := match l with
  | [] => []
  | a :: r => [.row true 1 r.length (flatM (strs (a :: r)))]
theorem acc_view (l : List ByteArray) : viewV (accH l) (accM l) = some (.sl (strs l)) := by
  cases l with
  | nil => rfl
  | cons a r =>
    have h := Acc.view (n := 1) (i := 0) (rs := strs (a :: r)) (m := accM (a :: r)) (H := accH (a :: r)) (.inr ⟨by simp [strs], r.length, by simp [accM, strs], by simp [accH]⟩) (by simp [strs])
    exact h
def addS (acc : List ByteArray) (nm : ByteArray) : List ByteArray := bif has acc nm then acc else acc ++ [nm]
mutual
def callS (acc : List ByteArray) : S → List ByteArray
  | .set _ => acc
  | .call nm => addS acc nm
  | .ite a b => callsS (callsS acc a) b
def callsS (acc : List ByteArray) : List S → List ByteArray
  | [] => acc
  | s :: r => callsS (callS acc s) r
end
mutual
theorem callS_len (acc : List ByteArray) : ∀ s : S, (callS acc s).length ≤ acc.length + s.sz
  | .set _ => by simp [callS]
  | .call nm => by simp only [callS, addS, S.sz]; cases has acc nm <;> simp
  | .ite a b => by
    have h1 := callsS_len acc a
    have h2 := callsS_len (callsS acc a) b
    simp only [callS, S.sz]; omega
theorem callsS_len (acc : List ByteArray) : ∀ l : List S, (callsS acc l).length ≤ acc.length + S.szs l
  | [] => by simp [callsS]
  | s :: r => by
    have h1 := callS_len acc s
    have h2 := callsS_len (callS acc s) r
    simp only [callsS, S.szs]; omega
end
theorem szs_append (l r : List S) : S.szs (l ++ r) = S.szs l + S.szs r := by induction l with
  | nil => simp [S.szs]
  | cons s l ih => simp only [List.cons_append, S.szs, ih]; omega
theorem callsS_append (acc : List ByteArray) (l r : List S) : callsS acc (l ++ r) = callsS (callsS acc l) r := by
  induction l generalizing acc with
  | nil => simp [callsS]
  | cons s l ih => simp only [List.cons_append, callsS, ih]
theorem callsS_snoc (acc : List ByteArray) (l : List S) (i : Nat) (h : i < l.length) : callsS acc (l.take (i + 1)) = callS (callsS acc (l.take i)) l[i] := by
  rw [List.take_succ_eq_append_getElem h, callsS_append, callsS, callsS]

theorem snocM (q nm : ByteArray) (A : List ByteArray) : accM (q :: A ++ [nm]) = .rsl 0 (A.length + 1) (A.length + 1 + 1) := by simp [accM]
theorem snocH (q nm : ByteArray) (A : List ByteArray) : accH (q :: A ++ [nm]) = [.row true 1 (A.length + 1) (flatM (strs (q :: A)) ++ flatM [[.str nm]])] := by simp [accH, flatM, strs]
theorem calls_ok (n : Nat) : ∀ (l : List S) (acc : List ByteArray), S.szs l < n → acc.length + S.szs l ≤ 1000000 →
    CT Try.prog 17 [accM acc, .d (.sl (S.encs l))] (accH acc) fun r h => r = accM (callsS acc l) ∧ h = accH (callsS acc l) := by
  induction n with
  | zero => intro l acc h; omega
  | succ n ih =>
    intro l acc hn hB
    refine CT.of_body Try.func17 rfl Try.ntmps17 rfl fun s0 Oo => ?_
    refine TC.short (x := .tmp 1) rfl fun hmax => ?_
    rw [S.encs_len] at hmax
    repeat refine TC.seq ?_
    refine TC.region ?_
    refine t_assign rfl rfl ?_
    refine TL.nil ?_
    repeat refine TC.seq ?_
    refine TC.region ?_
    refine t_move rfl rfl ?_
    refine t_lenS rfl rfl rfl ?_
    refine t_move rfl rfl ?_
    refine TL.nil ?_
    repeat refine TC.seq ?_
    refine TC.block ?_
    refine TC.loop' (fun k s => ∃ (i : Nat) (bx : List (Nat × List M)), i ≤ l.length ∧ k = l.length - i ∧
      s = ⟨[(9, .m (.d (.int .i64 i))), (8, .m (.d (.int .i64 (S.encs l).length))), (7, .m (.d (.sl (S.encs l)))), (0, .m (accM (callsS acc (l.take i))))], bx, accH (callsS acc (l.take i))⟩) l.length _
      ⟨0, [], by omega, rfl, rfl⟩
      (fun a w hi => hi.weak (keeps_get ⟨rfl, rfl, rfl, rfl, trivial⟩) (fun _ => rfl)) ?_
    rintro k s ⟨i, bx, hi, rfl, rfl⟩
    repeat refine TC.seq ?_
    refine TC.region ?_
    refine t_int rfl rfl rfl rfl ?_
    refine TL.nil ?_
    repeat refine TC.seq ?_
    refine TC.cond rfl (fun hc => ?_) (fun hc => ?_)
    · have hc' : i < l.length := by simpa [S.encs_len] using hc
      clear hc
      have hmem : l[i] ∈ l := List.getElem_mem hc'
      have hsz := S.sz_le hmem
      have hget : l[i]? = some l[i] := by simp [hc']
      have hacc : (callsS acc (l.take i)).length + l[i].sz ≤ acc.length + S.szs l := by
        have h1 := callsS_len acc (l.take i)
        have h2 : S.szs l = S.szs (l.take i) + S.szs (l.drop i) := by rw [← szs_append, List.take_append_drop]
        have h3 : S.szs (l.drop i) = l[i].sz + S.szs (l.drop (i + 1)) := by rw [List.drop_eq_getElem_cons hc', S.szs]
        omega
      have hnext := callsS_snoc acc l i hc'
      refine TC.skip ?_
      repeat refine TC.seq ?_
      refine TC.block ?_
      generalize callsS acc (l.take i) = A at hacc hnext ⊢
      generalize l[i] = s at hmem hsz hget hacc hnext
      cases s with
      | set nm =>
        repeat refine TC.seq ?_
        refine TC.region ?_
        refine t_indexD rfl rfl rfl (Int.natCast_nonneg i) (r := setC nm) (S.encs_get l i _ hget) rfl ?_
        first | refine t_loadDw rfl rfl rfl ?_ | refine t_loadDa rfl rfl rfl ?_ | refine t_loadLa rfl rfl rfl rfl rfl ?_ | refine t_loadRa rfl rfl rfl rfl rfl ?_
        refine t_alloc rfl rfl ?_
        refine t_storeL rfl rfl rfl rfl rfl rfl ?_
        refine TL.nil ?_
        repeat refine TC.seq ?_
        refine TC.region ?_
        first | refine t_fieldD rfl rfl ?_ | refine t_fieldL rfl rfl ?_ | refine t_fieldR rfl rfl ?_
        first | refine t_loadDc rfl rfl rfl ?_ | refine t_loadLc rfl rfl rfl rfl ?_ | refine t_loadRc rfl rfl rfl rfl ?_
        refine t_int rfl rfl rfl rfl ?_
        refine t_move rfl rfl ?_
        first | refine t_guard_no rfl rfl ?_ | (refine t_guard_yes rfl ?_; (refine t_move rfl rfl ?_))
        first | refine t_guard_no rfl rfl ?_ | (refine t_guard_yes rfl ?_; (first | refine t_fieldD rfl rfl ?_ | refine t_fieldL rfl rfl ?_ | refine t_fieldR rfl rfl ?_))
        first | refine t_guard_no rfl rfl ?_ | (refine t_guard_yes rfl ?_; (first | refine t_loadDc rfl rfl rfl ?_ | refine t_loadLc rfl rfl rfl rfl ?_ | refine t_loadRc rfl rfl rfl rfl ?_))
        first | refine t_guard_no rfl rfl ?_ | (refine t_guard_yes rfl ?_; (fail))
        first | refine t_guard_no rfl rfl ?_ | (refine t_guard_yes rfl ?_; (refine t_not rfl rfl ?_))
        refine t_pick rfl rfl rfl ?_
        refine TL.nil ?_
        refine TC.cond rfl (fun hc => by cases hc) (fun _ => ?_)
        refine TC.skip ?_
        repeat refine TC.seq ?_
        refine TC.draw mixed ?_
        refine f_move rfl rfl ?_
        first | refine f_fieldD rfl rfl ?_ | refine f_fieldL rfl rfl ?_ | refine f_fieldR rfl rfl ?_
        first | refine f_loadDc rfl rfl rfl ?_ | refine f_loadLc rfl rfl rfl rfl ?_ | refine f_loadRc rfl rfl rfl rfl ?_
        refine f_callR (ih [] A (by simp [S.szs]; simp [S.sz] at hsz; omega) (by simp [S.szs]; omega)) rfl rfl ?_
        first | refine f_fieldD rfl rfl ?_ | refine f_fieldL rfl rfl ?_ | refine f_fieldR rfl rfl ?_
        first | refine f_loadDc rfl rfl rfl ?_ | refine f_loadLc rfl rfl rfl rfl ?_ | refine f_loadRc rfl rfl rfl rfl ?_
        refine f_callR (ih [] A (by simp [S.szs]; simp [S.sz] at hsz; omega) (by simp [S.szs]; omega)) rfl rfl ?_
        refine f_assign rfl rfl ?_
        refine TF.nil ⟨by kernel_rfl, ?_⟩
        repeat refine TC.seq ?_
        refine TC.region ?_
        refine t_add64 rfl rfl rfl (by omega) ?_
        refine t_move rfl rfl ?_
        refine TL.nil ?_
        exact again (k' := l.length - (i + 1)) (by omega) ⟨i + 1, _, by omega, rfl, rfl⟩ (by rw [hnext]; rfl) ⟨by simp; rfl, rfl, rfl, by rw [hnext]; rfl, trivial⟩
      | call nm =>
        have hsz1 : 1 ≤ S.szs l := by simp [S.sz] at hsz; omega
        have hacc1 : A.length + 1 ≤ 1000000 := by simp [S.sz] at hacc; omega
        simp only [callS] at hnext
        repeat refine TC.seq ?_
        refine TC.region ?_
        refine t_indexD rfl rfl rfl (Int.natCast_nonneg i) (r := callC nm) (S.encs_get l i _ hget) rfl ?_
        first | refine t_loadDw rfl rfl rfl ?_ | refine t_loadDa rfl rfl rfl ?_ | refine t_loadLa rfl rfl rfl rfl rfl ?_ | refine t_loadRa rfl rfl rfl rfl rfl ?_
        refine t_alloc rfl rfl ?_
        refine t_storeL rfl rfl rfl rfl rfl rfl ?_
        refine TL.nil ?_
        repeat refine TC.seq ?_
        refine TC.region ?_
        first | refine t_fieldD rfl rfl ?_ | refine t_fieldL rfl rfl ?_ | refine t_fieldR rfl rfl ?_
        first | refine t_loadDc rfl rfl rfl ?_ | refine t_loadLc rfl rfl rfl rfl ?_ | refine t_loadRc rfl rfl rfl rfl ?_
        refine t_int rfl rfl rfl rfl ?_
        refine t_move rfl rfl ?_
        first | refine t_guard_no rfl rfl ?_ | (refine t_guard_yes rfl ?_; ((refine t_move rfl rfl ?_; refine TL.viewSlot 17 rfl (acc_view A) ?_)))
        first | refine t_guard_no rfl rfl ?_ | (refine t_guard_yes rfl ?_; (first | refine t_fieldD rfl rfl ?_ | refine t_fieldL rfl rfl ?_ | refine t_fieldR rfl rfl ?_))
        first | refine t_guard_no rfl rfl ?_ | (refine t_guard_yes rfl ?_; (first | refine t_loadDc rfl rfl rfl ?_ | refine t_loadLc rfl rfl rfl rfl ?_ | refine t_loadRc rfl rfl rfl rfl ?_))
        first | refine t_guard_no rfl rfl ?_ | (refine t_guard_yes rfl ?_; (refine t_call1 (contains_ok A nm) rfl rfl ?_))
        first | refine t_guard_no rfl rfl ?_ | (refine t_guard_yes rfl ?_; (refine t_not rfl rfl ?_))
        refine t_pick rfl rfl rfl ?_
        refine TL.nil ?_
        refine TC.cond rfl (fun hc => ?_) (fun hc => ?_)
        · have hadd : addS A nm = A ++ [nm] := by simp at hc; simp [addS, hc]
          rw [hadd] at hnext
          clear hadd hc
          cases A with
          | nil =>
            repeat refine TC.seq ?_
            refine TC.region ?_
            refine t_move rfl rfl ?_
            first | refine t_fieldD rfl rfl ?_ | refine t_fieldL rfl rfl ?_ | refine t_fieldR rfl rfl ?_
            first | refine t_loadDc rfl rfl rfl ?_ | refine t_loadLc rfl rfl rfl rfl ?_ | refine t_loadRc rfl rfl rfl rfl ?_
            refine t_buildSlice rfl rfl rfl rfl rfl rfl rfl rfl ?_
            refine t_append0 true rfl rfl rfl rfl (by rfl) (by simp) (by exact one_len rfl) (by exact nat_le rfl) ?_
            refine t_assign rfl rfl ?_
            refine TL.nil ?_
            repeat refine TC.seq ?_
            refine TC.draw mixed ?_
            refine f_move rfl rfl ?_
            first | refine f_fieldD rfl rfl ?_ | refine f_fieldL rfl rfl ?_ | refine f_fieldR rfl rfl ?_
            first | refine f_loadDc rfl rfl rfl ?_ | refine f_loadLc rfl rfl rfl rfl ?_ | refine f_loadRc rfl rfl rfl rfl ?_
            refine f_callR (ih [] [nm] (by simp [S.szs]; omega) (by simp [S.szs])) rfl rfl ?_
            first | refine f_fieldD rfl rfl ?_ | refine f_fieldL rfl rfl ?_ | refine f_fieldR rfl rfl ?_
            first | refine f_loadDc rfl rfl rfl ?_ | refine f_loadLc rfl rfl rfl rfl ?_ | refine f_loadRc rfl rfl rfl rfl ?_
            refine f_callR (ih [] [nm] (by simp [S.szs]; omega) (by simp [S.szs])) rfl rfl ?_
            refine f_assign rfl rfl ?_
            refine TF.nil ⟨by kernel_rfl, ?_⟩
            repeat refine TC.seq ?_
            refine TC.region ?_
            refine t_add64 rfl rfl rfl (by omega) ?_
            refine t_move rfl rfl ?_
            refine TL.nil ?_
            exact again (k' := l.length - (i + 1)) (by omega) ⟨i + 1, _, by omega, rfl, rfl⟩ (by rw [hnext]; rfl) ⟨by simp; rfl, rfl, rfl, by rw [hnext]; rfl, trivial⟩
          | cons q A =>
            repeat refine TC.seq ?_
            refine TC.region ?_
            refine t_move rfl rfl ?_
            first | refine t_fieldD rfl rfl ?_ | refine t_fieldL rfl rfl ?_ | refine t_fieldR rfl rfl ?_
            first | refine t_loadDc rfl rfl rfl ?_ | refine t_loadLc rfl rfl rfl rfl ?_ | refine t_loadRc rfl rfl rfl rfl ?_
            refine t_buildSlice rfl rfl rfl rfl rfl rfl rfl rfl ?_
            refine t_appendR rfl rfl rfl rfl (by rfl) (by exact one_len rfl) (by simp at hacc1 ⊢; omega) (by simp at hacc1 ⊢; omega) ?_
            refine t_assign rfl rfl ?_
            refine TL.nil ?_
            refine TC.rename [(0, .m (accM (q :: A ++ [nm]))), (6, .loc 6 0), (7, .m (.d (.sl (S.encs l)))), (8, .m (.d (.int .i64 (S.encs l).length))), (9, .m (.d (.int .i64 i)))] (accH (q :: A ++ [nm])) ⟨by rw [snocM]; rfl, rfl, rfl, rfl, rfl, trivial⟩ (by rw [snocH]; rfl) ?_
            repeat refine TC.seq ?_
            refine TC.draw mixed ?_
            refine f_move rfl rfl ?_
            first | refine f_fieldD rfl rfl ?_ | refine f_fieldL rfl rfl ?_ | refine f_fieldR rfl rfl ?_
            first | refine f_loadDc rfl rfl rfl ?_ | refine f_loadLc rfl rfl rfl rfl ?_ | refine f_loadRc rfl rfl rfl rfl ?_
            refine f_callR (ih [] (q :: A ++ [nm]) (by simp [S.szs]; omega) (by simp [S.szs] at hacc1 ⊢; omega)) rfl rfl ?_
            first | refine f_fieldD rfl rfl ?_ | refine f_fieldL rfl rfl ?_ | refine f_fieldR rfl rfl ?_
            first | refine f_loadDc rfl rfl rfl ?_ | refine f_loadLc rfl rfl rfl rfl ?_ | refine f_loadRc rfl rfl rfl rfl ?_
            refine f_callR (ih [] (q :: A ++ [nm]) (by simp [S.szs]; omega) (by simp [S.szs] at hacc1 ⊢; omega)) rfl rfl ?_
            refine f_assign rfl rfl ?_
            refine TF.nil ⟨by kernel_rfl, ?_⟩
            repeat refine TC.seq ?_
            refine TC.region ?_
            refine t_add64 rfl rfl rfl (by omega) ?_
            refine t_move rfl rfl ?_
            refine TL.nil ?_
            exact again (k' := l.length - (i + 1)) (by omega) ⟨i + 1, _, by omega, rfl, rfl⟩ (by rw [hnext]; rfl) ⟨by simp; rfl, rfl, rfl, by rw [hnext]; rfl, trivial⟩
        · have hadd : addS A nm = A := by simp at hc; simp [addS, hc]
          rw [hadd] at hnext
          clear hadd hc
          refine TC.skip ?_
          repeat refine TC.seq ?_
          refine TC.draw mixed ?_
          refine f_move rfl rfl ?_
          first | refine f_fieldD rfl rfl ?_ | refine f_fieldL rfl rfl ?_ | refine f_fieldR rfl rfl ?_
          first | refine f_loadDc rfl rfl rfl ?_ | refine f_loadLc rfl rfl rfl rfl ?_ | refine f_loadRc rfl rfl rfl rfl ?_
          refine f_callR (ih [] A (by simp [S.szs]; omega) (by simp [S.szs]; omega)) rfl rfl ?_
          first | refine f_fieldD rfl rfl ?_ | refine f_fieldL rfl rfl ?_ | refine f_fieldR rfl rfl ?_
          first | refine f_loadDc rfl rfl rfl ?_ | refine f_loadLc rfl rfl rfl rfl ?_ | refine f_loadRc rfl rfl rfl rfl ?_
          refine f_callR (ih [] A (by simp [S.szs]; omega) (by simp [S.szs]; omega)) rfl rfl ?_
          refine f_assign rfl rfl ?_
          refine TF.nil ⟨by kernel_rfl, ?_⟩
          repeat refine TC.seq ?_
          refine TC.region ?_
          refine t_add64 rfl rfl rfl (by omega) ?_
          refine t_move rfl rfl ?_
          refine TL.nil ?_
          exact again (k' := l.length - (i + 1)) (by omega) ⟨i + 1, _, by omega, rfl, rfl⟩ (by rw [hnext]; rfl) ⟨by simp; rfl, rfl, rfl, by rw [hnext]; rfl, trivial⟩
      | ite a b =>
        repeat refine TC.seq ?_
        refine TC.region ?_
        refine t_indexD rfl rfl rfl (Int.natCast_nonneg i) (r := iteC (S.encs a) (S.encs b)) (S.encs_get l i _ hget) rfl ?_
        first | refine t_loadDw rfl rfl rfl ?_ | refine t_loadDa rfl rfl rfl ?_ | refine t_loadLa rfl rfl rfl rfl rfl ?_ | refine t_loadRa rfl rfl rfl rfl rfl ?_
        refine t_alloc rfl rfl ?_
        refine t_storeL rfl rfl rfl rfl rfl rfl ?_
        refine TL.nil ?_
        repeat refine TC.seq ?_
        refine TC.region ?_
        first | refine t_fieldD rfl rfl ?_ | refine t_fieldL rfl rfl ?_ | refine t_fieldR rfl rfl ?_
        first | refine t_loadDc rfl rfl rfl ?_ | refine t_loadLc rfl rfl rfl rfl ?_ | refine t_loadRc rfl rfl rfl rfl ?_
        refine t_int rfl rfl rfl rfl ?_
        refine t_move rfl rfl ?_
        first | refine t_guard_no rfl rfl ?_ | (refine t_guard_yes rfl ?_; (refine t_move rfl rfl ?_))
        first | refine t_guard_no rfl rfl ?_ | (refine t_guard_yes rfl ?_; (first | refine t_fieldD rfl rfl ?_ | refine t_fieldL rfl rfl ?_ | refine t_fieldR rfl rfl ?_))
        first | refine t_guard_no rfl rfl ?_ | (refine t_guard_yes rfl ?_; (first | refine t_loadDc rfl rfl rfl ?_ | refine t_loadLc rfl rfl rfl rfl ?_ | refine t_loadRc rfl rfl rfl rfl ?_))
        first | refine t_guard_no rfl rfl ?_ | (refine t_guard_yes rfl ?_; (fail))
        first | refine t_guard_no rfl rfl ?_ | (refine t_guard_yes rfl ?_; (refine t_not rfl rfl ?_))
        refine t_pick rfl rfl rfl ?_
        refine TL.nil ?_
        refine TC.cond rfl (fun hc => by cases hc) (fun _ => ?_)
        refine TC.skip ?_
        repeat refine TC.seq ?_
        refine TC.draw mixed ?_
        refine f_move rfl rfl ?_
        first | refine f_fieldD rfl rfl ?_ | refine f_fieldL rfl rfl ?_ | refine f_fieldR rfl rfl ?_
        first | refine f_loadDc rfl rfl rfl ?_ | refine f_loadLc rfl rfl rfl rfl ?_ | refine f_loadRc rfl rfl rfl rfl ?_
        refine f_callR (ih a A (by simp [S.sz] at hsz; omega) (by simp [S.sz] at hacc; omega)) rfl rfl ?_
        first | refine f_fieldD rfl rfl ?_ | refine f_fieldL rfl rfl ?_ | refine f_fieldR rfl rfl ?_
        first | refine f_loadDc rfl rfl rfl ?_ | refine f_loadLc rfl rfl rfl rfl ?_ | refine f_loadRc rfl rfl rfl rfl ?_
        refine f_callR (ih b (callsS A a) (by simp [S.sz] at hsz; omega) (by have := callsS_len A a; simp [S.sz] at hacc; omega)) rfl rfl ?_
        refine f_assign rfl rfl ?_
        refine TF.nil ⟨by kernel_rfl, ?_⟩
        repeat refine TC.seq ?_
        refine TC.region ?_
        refine t_add64 rfl rfl rfl (by omega) ?_
        refine t_move rfl rfl ?_
        refine TL.nil ?_
        exact again (k' := l.length - (i + 1)) (by omega) ⟨i + 1, _, by omega, rfl, rfl⟩ (by rw [hnext]; rfl) ⟨by simp; rfl, rfl, rfl, by rw [hnext]; rfl, trivial⟩
    · refine TC.exit ?_
      have hc' : i = l.length := by simp [S.encs_len] at hc; omega
      subst hc'
      rw [List.take_length]
      repeat refine TC.seq ?_
      refine TC.region ?_
      refine t_move rfl rfl ?_
      refine t_assign rfl rfl ?_
      refine TL.nil ?_
      exact TC.ret ⟨_, rfl, rfl, rfl⟩
end Go.Proofs
