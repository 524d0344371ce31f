import Derived.Test.YtjhinemdonddoaaFuC
namespace Go.Proofs
open Go.Mt
set_option maxRecDepth 4000
set_option linter.unusedSimpArgs false
set_option linter.unusedVariables false

/-- the statements of these laws -/
inductive S where
  | asg (nm : ByteArray) (n : Int)
  | ite (l : Bool) (s : ByteArray) (a b : List S)
abbrev letC (nm : ByteArray) (n : Int) : List D := [.int .u8 1, .str nm, .int .u8 1, .int .u8 0, .int .i32 n, .str ⟨#[]⟩, .sl [], .sl [], .int .i64 0, .int .i64 0, .sl [], .sl [], .sl [], .sl []]
abbrev iteC (l : Bool) (s : ByteArray) (a b : List (List D)) : List D := [.int .u8 3, .str ⟨#[]⟩, .int .u8 (kd l), .int .u8 0, .int .i32 0, .str s, .sl [], .sl [], .int .i64 0, .int .i64 0, .sl a, .sl b, .sl [], .sl []]
mutual
def S.enc : S → List D
  | .asg nm n => letC nm n
  | .ite l s a b => iteC l s (S.encs a) (S.encs b)
def S.encs : List S → List (List D)
  | [] => []
  | s :: r => s.enc :: S.encs r
end
theorem S.enc_len (s : S) : s.enc.length = 14 := by cases s <;> simp [S.enc]
theorem S.encs_map (l : List S) : S.encs l = l.map S.enc := by induction l with
  | nil => simp [S.encs]
  | cons s r ih => simp [S.encs, ih]
theorem S.encs_len (l : List S) : (S.encs l).length = l.length := by rw [S.encs_map, List.length_map]
theorem S.encs_get (l : List S) (i : Nat) (s : S) (h : l[i]? = some s) : (S.encs l)[(i : Int).toNat]? = some s.enc := by rw [S.encs_map]; simp [h]
theorem S.encs_append (a b : List S) : S.encs (a ++ b) = S.encs a ++ S.encs b := by simp [S.encs_map]
theorem S.encs_lens (l : List S) : ∀ r ∈ S.encs l, r.length = 14 := by
  rw [S.encs_map]; intro r hr; obtain ⟨s, _, rfl⟩ := List.mem_map.1 hr; exact S.enc_len s
mutual
def S.sz : S → Nat
  | .asg _ _ => 1
  | .ite _ _ a b => 1 + S.szs a + S.szs b
def S.szs : List S → Nat
  | [] => 0
  | s :: r => s.sz + S.szs r
end
theorem S.sz_le {l : List S} {s : S} (h : s ∈ l) : s.sz ≤ S.szs l := by
  induction l with
  | nil => cases h
  | cons a r ih =>
    rw [S.szs]
    rcases List.mem_cons.1 h with rfl | h
    · omega
    · have := ih h; omega
theorem S.sz_pos (s : S) : 0 < s.sz := by cases s <;> simp [S.sz] <;> omega
theorem S.len_le (l : List S) : l.length ≤ S.szs l := by induction l with
  | nil => simp
  | cons s r ih => have := s.sz_pos; simp only [List.length_cons, S.szs]; omega
theorem szs_append (l r : List S) : S.szs (l ++ r) = S.szs l + S.szs r := by induction l with
  | nil => simp [S.szs]
  | cons s l ih => simp only [List.cons_append, S.szs, ih]; omega

/-- the list of names under way, in the heap -/
def accM : List ByteArray → M
  | [] => .d (.sl [])
  | _ :: r => .rsl 0 r.length (r.length + 1)
def accH (l : List ByteArray) : Hp := match l with
  | [] => []
  | a :: r => [.row true 1 r.length (flatM (strs (a :: r)))]
theorem acc_view (l : List ByteArray) : viewV (accH l) (accM l) = some (.sl (strs l)) := by
  cases l with
  | nil => rfl
  | cons a r =>
    have h := Acc.view (n := 1) (i := 0) (rs := strs (a :: r)) (m := accM (a :: r)) (H := accH (a :: r)) (.inr ⟨by simp [strs], r.length, by simp [accM, strs], by simp [accH]⟩) (by simp [strs])
    exact h
theorem snocM (q nm : ByteArray) (A : List ByteArray) : accM (q :: A ++ [nm]) = .rsl 0 (A.length + 1) (A.length + 1 + 1) := by simp [accM]
theorem snocH (q nm : ByteArray) (A : List ByteArray) : accH (q :: A ++ [nm]) = [.row true 1 (A.length + 1) (flatM (strs (q :: A)) ++ flatM [[.str nm]])] := by simp [accH, flatM, strs]

def addAll (acc xs : List ByteArray) : List ByteArray := xs.foldl addS acc
mutual
def nmS : S → List ByteArray
  | .asg nm _ => [nm]
  | .ite _ _ a b => setsF [] a ++ setsF [] b
def setsF (acc : List ByteArray) : List S → List ByteArray
  | [] => acc
  | s :: r => setsF (addAll acc (nmS s)) r
end
theorem addS_len (acc : List ByteArray) (nm : ByteArray) : (addS acc nm).length ≤ acc.length + 1 := by
  rw [addS]; cases has acc nm <;> simp
theorem addAll_len (xs : List ByteArray) : ∀ acc : List ByteArray, (addAll acc xs).length ≤ acc.length + xs.length := by
  induction xs with
  | nil => intro acc; simp [addAll]
  | cons x r ih =>
    intro acc
    have h1 := ih (addS acc x)
    have h2 := addS_len acc x
    simp only [addAll, List.foldl_cons, List.length_cons] at h1 ⊢
    omega
theorem addAll_snoc (acc N : List ByteArray) (m : Nat) (h : m < N.length) : addAll acc (N.take (m + 1)) = addS (addAll acc (N.take m)) N[m] := by
  rw [List.take_succ_eq_append_getElem h, addAll, addAll, List.foldl_append]; rfl
mutual
theorem nmS_len : ∀ s : S, (nmS s).length ≤ s.sz
  | .asg nm _ => by simp [nmS, S.sz]
  | .ite _ _ a b => by
    have h1 := setsF_len [] a
    have h2 := setsF_len [] b
    simp only [nmS, S.sz, List.length_append, List.length_nil] at h1 h2 ⊢; omega
theorem setsF_len (acc : List ByteArray) : ∀ l : List S, (setsF acc l).length ≤ acc.length + S.szs l
  | [] => by simp [setsF]
  | s :: r => by
    have h1 := nmS_len s
    have h2 := setsF_len (addAll acc (nmS s)) r
    have h3 := addAll_len (nmS s) acc
    simp only [setsF, S.szs]; omega
end
theorem setsF_append (acc : List ByteArray) (l r : List S) : setsF acc (l ++ r) = setsF (setsF acc l) r := by
  induction l generalizing acc with
  | nil => simp [setsF]
  | cons s l ih => simp only [List.cons_append, setsF, ih]
theorem setsF_snoc (acc : List ByteArray) (l : List S) (i : Nat) (h : i < l.length) : setsF acc (l.take (i + 1)) = addAll (setsF acc (l.take i)) (nmS l[i]) := by
  rw [List.take_succ_eq_append_getElem h, setsF_append, setsF, setsF]

theorem concat3_ok (a b c : List ByteArray) (h : a.length + b.length + c.length ≤ 1000000) : PT Try.prog 115 [.sl [[.sl (strs a)], [.sl (strs b)], [.sl (strs c)]]] (· = [.sl (strs (a ++ b ++ c))]) := by
  have h1 := concatT_ok [strs a, strs b, strs c] (by
    intro l hl r hr
    simp only [List.mem_cons, List.not_mem_nil, or_false] at hl
    rcases hl with rfl | rfl | rfl <;> exact strs_lens _ r hr) (by simp) (by simp [strs_len]; omega)
  have e : [strs a, strs b, strs c].flatten = strs (a ++ b ++ c) := by simp [strs]
  rw [e] at h1
  exact h1

def step3 : S → List ByteArray
  | .asg nm _ => [nm]
  | .ite _ _ _ _ => []
def subA : S → List S
  | .asg _ _ => []
  | .ite _ _ a _ => a
def subB : S → List S
  | .asg _ _ => []
  | .ite _ _ _ b => b
theorem nmS_eq (s : S) : nmS s = step3 s ++ setsF [] (subA s) ++ setsF [] (subB s) := by cases s <;> simp [nmS, step3, subA, subB, setsF]
theorem sub_sz (s : S) : (step3 s).length + S.szs (subA s) + S.szs (subB s) ≤ s.sz ∧ S.szs (subA s) < s.sz ∧ S.szs (subB s) < s.sz := by cases s <;> simp [step3, subA, subB, S.szs, S.sz] <;> omega

theorem sets_ok (n : Nat) : ∀ (l : List S), S.szs l < n → S.szs l ≤ 100000 → PT Try.prog 90 [.sl (S.encs l)] (· = [.sl (strs (setsF [] l))]) := by
  induction n with
  | zero => intro l h; omega
  | succ n ih =>
    intro l hn hB
    refine PT.of_CT (CT.of_body Try.func90 rfl Try.ntmps90 rfl fun s0 Oo => ?_)
    have hlen := S.len_le l
    repeat refine TC.seq ?_
    refine TC.region ?_
    refine t_assign rfl rfl ?_
    refine TL.nil ?_
    repeat refine TC.seq ?_
    refine TC.region ?_
    refine t_assign rfl rfl ?_
    refine TL.nil ?_
    repeat refine TC.seq ?_
    refine TC.region ?_
    refine t_move rfl rfl ?_
    (refine t_lenS rfl rfl rfl ?_; rw [S.encs_len])
    refine t_move rfl rfl ?_
    refine TL.nil ?_
    repeat refine TC.seq ?_
    refine TC.block ?_
    refine TC.loopB (fun k s => ∃ (i : Nat) (bx : List (Nat × List M)), s = ⟨[(11, .m (.d (.int .i64 i))), (10, .m (.d (.int .i64 (l.length : Nat)))), (9, .m (.d (.sl (S.encs l)))), (3, .m (accM (setsF [] (l.take i))))], bx, accH (setsF [] (l.take i))⟩ ∧ i ≤ l.length ∧ k = l.length - i) l.length _
      ⟨0, _, rfl, by omega, rfl⟩ ⟨rfl, rfl, rfl, rfl, trivial⟩ ?_
    rintro k s ⟨i, bx, rfl, hi, rfl⟩
    repeat refine TC.seq ?_
    refine TC.region ?_
    refine t_int rfl rfl rfl rfl ?_
    refine TL.nil ?_
    repeat refine TC.seq ?_
    refine TC.cond rfl (fun hc => ?_) (fun hc => ?_)
    · have hc' : i < l.length := by have := of_decide_eq_true hc; omega
      clear hc
      have hmem : l[i] ∈ l := List.getElem_mem hc'
      have hsz := S.sz_le hmem
      have hget : l[i]? = some l[i] := by simp [hc']
      have hnext := setsF_snoc [] l i hc'
      have hacc := setsF_len [] (l.take i)
      have hroom : S.szs (l.take i) + l[i].sz ≤ S.szs l := by
        have h2 : S.szs l = S.szs (l.take i) + S.szs (l.drop i) := by rw [← szs_append, List.take_append_drop]
        have h3 : S.szs (l.drop i) = l[i].sz + S.szs (l.drop (i + 1)) := by rw [List.drop_eq_getElem_cons hc', S.szs]
        omega
      have hnm := nmS_eq l[i]
      have hnl := nmS_len l[i]
      have hsub := sub_sz l[i]
      have hca := ih (subA l[i]) (by omega) (by omega)
      have hcb := ih (subB l[i]) (by omega) (by omega)
      have hl1 := setsF_len [] (subA l[i])
      have hl2 := setsF_len [] (subB l[i])
      have hcat := concat3_ok (step3 l[i]) (setsF [] (subA l[i])) (setsF [] (subB l[i])) (by simp only [List.length_nil] at hl1 hl2; omega)
      rw [← hnm] at hcat
      simp only [List.length_nil, Nat.zero_add] at hacc
      generalize setsF [] (l.take i) = A at hacc hnext ⊢
      refine TC.skip ?_
      repeat refine TC.seq ?_
      refine TC.block ?_
      have hN : (nmS l[i]).length ≤ 1000000 := by omega
      have hAN : A.length + (nmS l[i]).length ≤ 1000000 := by omega
      generalize hs : l[i] = s at hmem hsz hget hnext hroom hnm hnl hsub hca hcb hl1 hl2 hcat hN hAN
      cases s with
      | asg nm v =>
        repeat refine TC.seq ?_
        refine TC.region ?_
        refine t_indexD rfl rfl rfl (Int.natCast_nonneg i) (r := letC nm v) (S.encs_get l i _ hget) rfl ?_
        first | refine t_loadDw rfl rfl rfl ?_ | refine t_loadDa rfl rfl rfl ?_ | refine t_loadLa rfl rfl rfl rfl rfl ?_ | refine t_loadRa rfl rfl rfl rfl rfl ?_
        refine t_alloc rfl rfl ?_
        refine t_storeL rfl rfl rfl rfl rfl rfl ?_
        refine TL.nil ?_
        repeat refine TC.seq ?_
        refine TC.region ?_
        first | refine t_fieldD rfl rfl ?_ | refine t_fieldL rfl rfl ?_ | refine t_fieldR rfl rfl ?_ | refine t_fieldW rfl rfl ?_
        first | refine t_loadDc rfl rfl rfl ?_ | refine t_loadLc rfl rfl rfl rfl ?_ | refine t_loadRc rfl rfl rfl rfl ?_
        refine t_assign rfl rfl ?_
        refine TL.nil ?_
        repeat refine TC.seq ?_
        refine TC.region ?_
        first | refine t_fieldD rfl rfl ?_ | refine t_fieldL rfl rfl ?_ | refine t_fieldR rfl rfl ?_ | refine t_fieldW rfl rfl ?_
        first | refine t_loadDc rfl rfl rfl ?_ | refine t_loadLc rfl rfl rfl rfl ?_ | refine t_loadRc rfl rfl rfl rfl ?_
        refine t_int rfl rfl rfl rfl ?_
        refine TL.nil ?_
        refine TC.cond rfl (fun hc => ?_) (fun hc => by cases hc)
        repeat refine TC.seq ?_
        refine TC.region ?_
        first | refine t_fieldD rfl rfl ?_ | refine t_fieldL rfl rfl ?_ | refine t_fieldR rfl rfl ?_ | refine t_fieldW rfl rfl ?_
        first | refine t_loadDc rfl rfl rfl ?_ | refine t_loadLc rfl rfl rfl rfl ?_ | refine t_loadRc rfl rfl rfl rfl ?_
        refine t_buildSlice rfl rfl rfl rfl rfl rfl rfl rfl ?_
        refine t_assign rfl rfl ?_
        refine TL.nil ?_
        repeat refine TC.seq ?_
        refine TC.draw mixed ?_
        refine f_move rfl rfl ?_
        first | refine f_fieldD rfl rfl ?_ | refine f_fieldL rfl rfl ?_ | refine f_fieldR rfl rfl ?_ | refine f_fieldW rfl rfl ?_
        first | refine f_loadDc rfl rfl rfl ?_ | refine f_loadLc rfl rfl rfl rfl ?_ | refine f_loadRc rfl rfl rfl rfl ?_
        refine f_call1 hca rfl rfl ?_
        first | refine f_fieldD rfl rfl ?_ | refine f_fieldL rfl rfl ?_ | refine f_fieldR rfl rfl ?_ | refine f_fieldW rfl rfl ?_
        first | refine f_loadDc rfl rfl rfl ?_ | refine f_loadLc rfl rfl rfl rfl ?_ | refine f_loadRc rfl rfl rfl rfl ?_
        refine f_call1 hcb rfl rfl ?_
        refine f_buildSlice rfl rfl rfl rfl rfl rfl rfl rfl ?_
        refine f_call1 hcat rfl rfl ?_
        refine f_lenS rfl rfl rfl ?_
        refine f_move rfl rfl ?_
        refine TF.nil ⟨by kernel_rfl, ?_⟩
        generalize nmS _ = N at hnext hN hAN ⊢
        clear hca hcb hcat hnm hsub
        repeat refine TC.seq ?_
        refine TC.block ?_
        refine TC.loopB (fun k s => ∃ (m : Nat) (bx : List (Nat × List M)), s = ⟨[(33, .m (.d (.int .i64 m))), (32, .m (.d (.int .i64 ((strs N).length : Nat)))), (31, .m (.d (.sl (strs N)))), (3, .m (accM (addAll A (N.take m)))), (11, .m (.d (.int .i64 i))), (10, .m (.d (.int .i64 (l.length : Nat)))), (9, .m (.d (.sl (S.encs l))))], bx, accH (addAll A (N.take m))⟩ ∧ m ≤ N.length ∧ k = N.length - m) N.length _
          ⟨0, _, rfl, by omega, rfl⟩ ⟨rfl, rfl, rfl, rfl, rfl, rfl, rfl, trivial⟩ ?_
        rintro k s ⟨m, bx, rfl, hm, rfl⟩
        repeat refine TC.seq ?_
        refine TC.region ?_
        refine t_int rfl rfl rfl rfl ?_
        refine TL.nil ?_
        repeat refine TC.seq ?_
        refine TC.cond rfl (fun hc => ?_) (fun hc => ?_)
        · have hc2 : m < N.length := by have := of_decide_eq_true hc; rw [strs_len] at this; omega
          clear hc
          have hsn := addAll_snoc A N m hc2
          have hla : (addAll A (N.take m)).length ≤ A.length + m := by
            have := addAll_len (N.take m) A
            simp at this; omega
          generalize addAll A (N.take m) = B at hsn hla ⊢
          refine TC.skip ?_
          repeat refine TC.seq ?_
          refine TC.block ?_
          repeat refine TC.seq ?_
          refine TC.region ?_
          refine t_indexD rfl rfl rfl (Int.natCast_nonneg m) (r := [.str N[m]]) (strs_get hc2) rfl ?_
          first | refine t_loadDc rfl rfl rfl ?_ | refine t_loadLc rfl rfl rfl rfl ?_ | refine t_loadRc rfl rfl rfl rfl ?_
          refine t_assign rfl rfl ?_
          refine TL.nil ?_
          repeat refine TC.seq ?_
          refine TC.region ?_
          (refine t_move rfl rfl ?_; refine TL.viewSlot 37 rfl (acc_view B) ?_)
          refine t_move rfl rfl ?_
          refine t_call1 (contains_ok B N[m]) rfl rfl ?_
          refine t_not rfl rfl ?_
          refine TL.nil ?_
          refine TC.cond rfl (fun hc => ?_) (fun hc => ?_)
          · have hadd : addS B N[m] = B ++ [N[m]] := by simp at hc; simp [addS, hc]
            rw [hadd] at hsn
            clear hadd hc
            cases B with
            | nil =>
              repeat refine TC.seq ?_
              refine TC.region ?_
              refine t_move rfl rfl ?_
              refine t_move rfl rfl ?_
              refine t_buildSlice rfl rfl rfl rfl rfl rfl rfl rfl ?_
              refine t_append0 true rfl rfl rfl rfl (by rfl) (by simp) (by exact one_len rfl) (by exact nat_le rfl) ?_
              refine t_assign rfl rfl ?_
              refine TL.nil ?_
              repeat refine TC.seq ?_
              refine TC.region ?_
              refine t_add64 rfl rfl rfl (by omega) ?_
              refine t_move rfl rfl ?_
              refine TL.nil ?_
              exact again (k' := N.length - (m + 1)) (by omega) ⟨m + 1, _, rfl, by omega, rfl⟩ (by rw [hsn]; rfl) ⟨by simp; rfl, rfl, rfl, by rw [hsn]; rfl, rfl, rfl, rfl, trivial⟩
            | cons q B =>
              simp only [List.length_cons] at hla
              repeat refine TC.seq ?_
              refine TC.region ?_
              refine t_move rfl rfl ?_
              refine t_move rfl rfl ?_
              refine t_buildSlice rfl rfl rfl rfl rfl rfl rfl rfl ?_
              refine t_appendR rfl rfl rfl rfl (by rfl) (by exact one_len rfl) (by simp; omega) (by simp; omega) ?_
              refine t_assign rfl rfl ?_
              refine TL.nil ?_
              repeat refine TC.seq ?_
              refine TC.region ?_
              refine t_add64 rfl rfl rfl (by omega) ?_
              refine t_move rfl rfl ?_
              refine TL.nil ?_
              exact again (k' := N.length - (m + 1)) (by omega) ⟨m + 1, _, rfl, by omega, rfl⟩ (by rw [hsn, snocH]; rfl) ⟨by simp; rfl, rfl, rfl, by rw [hsn, snocM]; rfl, rfl, rfl, rfl, trivial⟩
          · have hadd : addS B N[m] = B := by simp at hc; simp [addS, hc]
            rw [hadd] at hsn
            refine TC.skip ?_
            repeat refine TC.seq ?_
            refine TC.region ?_
            refine t_add64 rfl rfl rfl (by omega) ?_
            refine t_move rfl rfl ?_
            refine TL.nil ?_
            exact again (k' := N.length - (m + 1)) (by omega) ⟨m + 1, _, rfl, by omega, rfl⟩ (by rw [hsn]) ⟨by simp; rfl, rfl, rfl, by rw [hsn]; rfl, rfl, rfl, rfl, trivial⟩
        · refine TC.exit ?_
          obtain rfl : m = N.length := by have := of_decide_eq_false hc; rw [strs_len] at this; omega
          rw [List.take_length]
          repeat refine TC.seq ?_
          refine TC.region ?_
          refine t_add64 rfl rfl rfl (by omega) ?_
          refine t_move rfl rfl ?_
          refine TL.nil ?_
          exact again (k' := l.length - (i + 1)) (by omega) ⟨i + 1, _, rfl, by omega, rfl⟩ (by rw [hnext]) ⟨by simp; rfl, rfl, rfl, by rw [hnext]; rfl, trivial⟩
      | ite w c a b =>
        repeat refine TC.seq ?_
        refine TC.region ?_
        refine t_indexD rfl rfl rfl (Int.natCast_nonneg i) (r := iteC w c (S.encs a) (S.encs b)) (S.encs_get l i _ hget) rfl ?_
        first | refine t_loadDw rfl rfl rfl ?_ | refine t_loadDa rfl rfl rfl ?_ | refine t_loadLa rfl rfl rfl rfl rfl ?_ | refine t_loadRa rfl rfl rfl rfl rfl ?_
        refine t_alloc rfl rfl ?_
        refine t_storeL rfl rfl rfl rfl rfl rfl ?_
        refine TL.nil ?_
        repeat refine TC.seq ?_
        refine TC.region ?_
        first | refine t_fieldD rfl rfl ?_ | refine t_fieldL rfl rfl ?_ | refine t_fieldR rfl rfl ?_ | refine t_fieldW rfl rfl ?_
        first | refine t_loadDc rfl rfl rfl ?_ | refine t_loadLc rfl rfl rfl rfl ?_ | refine t_loadRc rfl rfl rfl rfl ?_
        refine t_assign rfl rfl ?_
        refine TL.nil ?_
        repeat refine TC.seq ?_
        refine TC.region ?_
        first | refine t_fieldD rfl rfl ?_ | refine t_fieldL rfl rfl ?_ | refine t_fieldR rfl rfl ?_ | refine t_fieldW rfl rfl ?_
        first | refine t_loadDc rfl rfl rfl ?_ | refine t_loadLc rfl rfl rfl rfl ?_ | refine t_loadRc rfl rfl rfl rfl ?_
        refine t_int rfl rfl rfl rfl ?_
        refine TL.nil ?_
        refine TC.cond rfl (fun hc => by cases hc) (fun hc => ?_)
        refine TC.skip ?_
        repeat refine TC.seq ?_
        refine TC.draw mixed ?_
        refine f_move rfl rfl ?_
        first | refine f_fieldD rfl rfl ?_ | refine f_fieldL rfl rfl ?_ | refine f_fieldR rfl rfl ?_ | refine f_fieldW rfl rfl ?_
        first | refine f_loadDc rfl rfl rfl ?_ | refine f_loadLc rfl rfl rfl rfl ?_ | refine f_loadRc rfl rfl rfl rfl ?_
        refine f_call1 hca rfl rfl ?_
        first | refine f_fieldD rfl rfl ?_ | refine f_fieldL rfl rfl ?_ | refine f_fieldR rfl rfl ?_ | refine f_fieldW rfl rfl ?_
        first | refine f_loadDc rfl rfl rfl ?_ | refine f_loadLc rfl rfl rfl rfl ?_ | refine f_loadRc rfl rfl rfl rfl ?_
        refine f_call1 hcb rfl rfl ?_
        refine f_buildSlice rfl rfl rfl rfl rfl rfl rfl rfl ?_
        refine f_call1 hcat rfl rfl ?_
        refine f_lenS rfl rfl rfl ?_
        refine f_move rfl rfl ?_
        refine TF.nil ⟨by kernel_rfl, ?_⟩
        generalize nmS _ = N at hnext hN hAN ⊢
        clear hca hcb hcat hnm hsub
        repeat refine TC.seq ?_
        refine TC.block ?_
        refine TC.loopB (fun k s => ∃ (m : Nat) (bx : List (Nat × List M)), s = ⟨[(33, .m (.d (.int .i64 m))), (32, .m (.d (.int .i64 ((strs N).length : Nat)))), (31, .m (.d (.sl (strs N)))), (3, .m (accM (addAll A (N.take m)))), (11, .m (.d (.int .i64 i))), (10, .m (.d (.int .i64 (l.length : Nat)))), (9, .m (.d (.sl (S.encs l))))], bx, accH (addAll A (N.take m))⟩ ∧ m ≤ N.length ∧ k = N.length - m) N.length _
          ⟨0, _, rfl, by omega, rfl⟩ ⟨rfl, rfl, rfl, rfl, rfl, rfl, rfl, trivial⟩ ?_
        rintro k s ⟨m, bx, rfl, hm, rfl⟩
        repeat refine TC.seq ?_
        refine TC.region ?_
        refine t_int rfl rfl rfl rfl ?_
        refine TL.nil ?_
        repeat refine TC.seq ?_
        refine TC.cond rfl (fun hc => ?_) (fun hc => ?_)
        · have hc2 : m < N.length := by have := of_decide_eq_true hc; rw [strs_len] at this; omega
          clear hc
          have hsn := addAll_snoc A N m hc2
          have hla : (addAll A (N.take m)).length ≤ A.length + m := by
            have := addAll_len (N.take m) A
            simp at this; omega
          generalize addAll A (N.take m) = B at hsn hla ⊢
          refine TC.skip ?_
          repeat refine TC.seq ?_
          refine TC.block ?_
          repeat refine TC.seq ?_
          refine TC.region ?_
          refine t_indexD rfl rfl rfl (Int.natCast_nonneg m) (r := [.str N[m]]) (strs_get hc2) rfl ?_
          first | refine t_loadDc rfl rfl rfl ?_ | refine t_loadLc rfl rfl rfl rfl ?_ | refine t_loadRc rfl rfl rfl rfl ?_
          refine t_assign rfl rfl ?_
          refine TL.nil ?_
          repeat refine TC.seq ?_
          refine TC.region ?_
          (refine t_move rfl rfl ?_; refine TL.viewSlot 37 rfl (acc_view B) ?_)
          refine t_move rfl rfl ?_
          refine t_call1 (contains_ok B N[m]) rfl rfl ?_
          refine t_not rfl rfl ?_
          refine TL.nil ?_
          refine TC.cond rfl (fun hc => ?_) (fun hc => ?_)
          · have hadd : addS B N[m] = B ++ [N[m]] := by simp at hc; simp [addS, hc]
            rw [hadd] at hsn
            clear hadd hc
            cases B with
            | nil =>
              repeat refine TC.seq ?_
              refine TC.region ?_
              refine t_move rfl rfl ?_
              refine t_move rfl rfl ?_
              refine t_buildSlice rfl rfl rfl rfl rfl rfl rfl rfl ?_
              refine t_append0 true rfl rfl rfl rfl (by rfl) (by simp) (by exact one_len rfl) (by exact nat_le rfl) ?_
              refine t_assign rfl rfl ?_
              refine TL.nil ?_
              repeat refine TC.seq ?_
              refine TC.region ?_
              refine t_add64 rfl rfl rfl (by omega) ?_
              refine t_move rfl rfl ?_
              refine TL.nil ?_
              exact again (k' := N.length - (m + 1)) (by omega) ⟨m + 1, _, rfl, by omega, rfl⟩ (by rw [hsn]; rfl) ⟨by simp; rfl, rfl, rfl, by rw [hsn]; rfl, rfl, rfl, rfl, trivial⟩
            | cons q B =>
              simp only [List.length_cons] at hla
              repeat refine TC.seq ?_
              refine TC.region ?_
              refine t_move rfl rfl ?_
              refine t_move rfl rfl ?_
              refine t_buildSlice rfl rfl rfl rfl rfl rfl rfl rfl ?_
              refine t_appendR rfl rfl rfl rfl (by rfl) (by exact one_len rfl) (by simp; omega) (by simp; omega) ?_
              refine t_assign rfl rfl ?_
              refine TL.nil ?_
              repeat refine TC.seq ?_
              refine TC.region ?_
              refine t_add64 rfl rfl rfl (by omega) ?_
              refine t_move rfl rfl ?_
              refine TL.nil ?_
              exact again (k' := N.length - (m + 1)) (by omega) ⟨m + 1, _, rfl, by omega, rfl⟩ (by rw [hsn, snocH]; rfl) ⟨by simp; rfl, rfl, rfl, by rw [hsn, snocM]; rfl, rfl, rfl, rfl, trivial⟩
          · have hadd : addS B N[m] = B := by simp at hc; simp [addS, hc]
            rw [hadd] at hsn
            refine TC.skip ?_
            repeat refine TC.seq ?_
            refine TC.region ?_
            refine t_add64 rfl rfl rfl (by omega) ?_
            refine t_move rfl rfl ?_
            refine TL.nil ?_
            exact again (k' := N.length - (m + 1)) (by omega) ⟨m + 1, _, rfl, by omega, rfl⟩ (by rw [hsn]) ⟨by simp; rfl, rfl, rfl, by rw [hsn]; rfl, rfl, rfl, rfl, trivial⟩
        · refine TC.exit ?_
          obtain rfl : m = N.length := by have := of_decide_eq_false hc; rw [strs_len] at this; omega
          rw [List.take_length]
          repeat refine TC.seq ?_
          refine TC.region ?_
          refine t_add64 rfl rfl rfl (by omega) ?_
          refine t_move rfl rfl ?_
          refine TL.nil ?_
          exact again (k' := l.length - (i + 1)) (by omega) ⟨i + 1, _, rfl, by omega, rfl⟩ (by rw [hnext]) ⟨by simp; rfl, rfl, rfl, by rw [hnext]; rfl, trivial⟩
    · refine TC.exit ?_
      obtain rfl : i = l.length := by have := of_decide_eq_false hc; omega
      rw [List.take_length]
      repeat refine TC.seq ?_
      refine TC.region ?_
      refine t_move rfl rfl ?_
      refine t_assign rfl rfl ?_
      refine TL.nil ?_
      refine TC.viewSlot 2 rfl (acc_view _) ?_
      exact TC.ret ⟨_, rfl, [_], rfl, rfl⟩
end Go.Proofs
