/- What an equation needs; small lists that are sorted already. -/
import Derived.Test.YtcmjcdiaidalgaaGrF
namespace Go.Proofs
open Go.Mt
set_option maxRecDepth 4000
set_option linter.unusedSimpArgs false
set_option linter.unusedVariables false

theorem sumK_lt {x : Int} {n k : Nat} (h : k ∈ sumK x n) : k < n := List.mem_range.1 (List.mem_filter.1 h).1
theorem sumK_sorted (x : Int) (n : Nat) : (sumK x n).Pairwise (· < ·) := List.Pairwise.filter _ (List.pairwise_lt_range)
theorem sumK_nodup (x : Int) (n : Nat) : (sumK x n).Nodup := (sumK_sorted x n).imp fun h => Nat.ne_of_lt h
/-- names, each once -/
theorem has_map {ks : List Nat} {k : Nat} (h : ∀ j ∈ ks, j < 14) (hk : k < 14) : has (ks.map vn) (vn k) = ks.contains k := by
  cases hc : ks.contains k with
  | true =>
    have : k ∈ ks := by simpa using hc
    exact List.any_eq_true.2 ⟨vn k, List.mem_map.2 ⟨k, this, rfl⟩, by simp⟩
  | false =>
    have hn : k ∉ ks := by simpa using hc
    refine List.any_eq_false.2 fun s hs => ?_
    obtain ⟨j, hj, rfl⟩ := List.mem_map.1 hs
    have : ¬ vn k = vn j := fun he => hn (by rw [vn_inj hk (h j hj) he]; exact hj)
    simp [this]
theorem addS_new {ks : List Nat} {k : Nat} (h : ∀ j ∈ ks, j < 14) (hk : k < 14) (hn : k ∉ ks) : addS (ks.map vn) (vn k) = (ks ++ [k]).map vn := by
  have : ks.contains k = false := by simpa using hn
  unfold addS
  rw [has_map h hk, this]
  simp
theorem readsE_eq : ∀ (ks : List Nat), ks.Nodup → (∀ j ∈ ks, j < 14) → readsE ks [] = ks.reverse.map vn
  | [], _, _ => rfl
  | k :: r, hn, hl => by
    rw [List.nodup_cons] at hn
    simp only [readsE]
    rw [readsE_eq r hn.2 (fun j hj => hl j (by simp [hj])), addS_new (fun j hj => hl j (by simp at hj; simp [hj])) (hl k (by simp)) (by simpa using hn.1)]
    simp
theorem addS_take {ks : List Nat} (hn : ks.Nodup) (hl : ∀ j ∈ ks, j < 14) {i : Nat} (hi : i < ks.length) : addS ((ks.take i).map vn) (vn ks[i]) = (ks.take (i + 1)).map vn := by
  rw [addS_new (fun j hj => hl j (List.mem_of_mem_take hj)) (hl _ (List.getElem_mem hi)), List.take_succ_eq_append_getElem hi]
  intro hm
  obtain ⟨j, hj, he⟩ := List.mem_take_iff_getElem.1 hm
  rw [List.nodup_iff_pairwise_ne, List.pairwise_iff_getElem] at hn
  exact hn j i (by omega) hi (by omega) he

/-- two maps, a variable that holds names, the names -/
def nH (a b : List (D × M)) (l : List ByteArray) : Hp := genH [.map a, .map b, .box [genM 3 (strs l)]] 1 (strs l)
theorem nH_box (a b : List (D × M)) (l : List ByteArray) : (nH a b l)[2]? = some (.box [genM 3 (strs l)]) := by rw [nH, genH_get _ _ _ 2 (by simp)]; rfl
theorem needs1_ok (a b : List (D × M)) (l : List ByteArray) (s : ByteArray) (hl : l.length ≤ 1000000) : CT Try.prog 62 ([.d (.str s)] ++ [.ref 2 0]) (nH a b l) fun r h => r = .tup [] ∧ h = nH a b (addS l s) := by
  refine CT.of_body Try.func62 rfl Try.ntmps62 rfl fun s0 Oo => ?_
  repeat refine TC.seq ?_
  refine TC.region ?_
  (refine t_loadRc rfl rfl (nH_box a b l) rfl ?_; refine TL.viewSlot 3 rfl (gen_view [.map a, .map b, .box [genM 3 (strs l)]] 1 (strs l) (strs_lens l)) ?_)
  refine t_move rfl rfl ?_
  refine t_call1 (containsT_ok l s) rfl rfl ?_
  refine t_not rfl rfl ?_
  refine TL.nil ?_
  repeat refine TC.seq ?_
  cases hc : l.any fun (x : ByteArray) => decide (s = x) with
  | true =>
    have ha : addS l s = l := by unfold addS has; rw [hc]; rfl
    rw [ha]
    refine TC.cond rfl (fun hc => by cases hc) (fun hc => ?_)
    refine TC.skip ?_
    exact ⟨_, rfl, rfl, rfl⟩
  | false =>
    have ha : addS l s = l ++ [s] := by unfold addS has; rw [hc]; rfl
    rw [ha]
    refine TC.cond rfl (fun hc => ?_) (fun hc => by cases hc)
    repeat refine TC.seq ?_
    refine TC.region ?_
    refine t_loadRc rfl rfl (nH_box a b l) rfl ?_
    refine t_move rfl rfl ?_
    refine t_buildSlice rfl rfl rfl rfl rfl rfl rfl rfl ?_
    refine t_snoc (H0 := [.map a, .map b, .box [genM 3 (strs l)]]) rfl rfl rfl rfl (by rfl) rfl (by rw [strs_len]; omega) (by rw [strs_len]; omega) ?_
    refine t_storeR rfl rfl (genH_get _ _ _ 2 (by simp)) (cells_gen _ _) rfl rfl ?_
    refine TL.nil ?_
    refine ⟨_, rfl, rfl, ?_⟩
    rw [genH_set _ _ _ 2 _ (by simp), nH, strs_append]
    rfl
/-- what an equation needs -/
def depK (xs : List Int) (i : Nat) : List Nat := bif fbyB (xs.getD i 0) then [] else sumK (xs.getD i 0) xs.length
theorem depK_lt {xs : List Int} {i k : Nat} (h : k ∈ depK xs i) : k < xs.length := by
  unfold depK at h
  cases hf : fbyB (xs.getD i 0) with
  | true => rw [hf] at h; simp at h
  | false => rw [hf] at h; exact sumK_lt h
theorem depK_sorted (xs : List Int) (i : Nat) : (depK xs i).Pairwise (· < ·) := by
  unfold depK
  cases fbyB (xs.getD i 0) with
  | true => simp
  | false => exact sumK_sorted _ _

theorem genH_take2 {H0 : Hp} {n : Nat} {rs : List (List D)} {m : Nat} (h : m ≤ H0.length) : (genH H0 n rs).take m = H0.take m := by
  cases rs with
  | nil => rfl
  | cons q r => simp only [genH]; rw [List.take_append_of_le_length h]
theorem needs_ok (xs : List Int) (i : Nat) (hn : xs.length ≤ 14) (a b : List (D × M)) (hab : HB 2 [.map a, .map b]) : CT Try.prog 42 [.mp 1, .d (.agg (eqOf xs i))] [.map a, .map b] fun r h => r = .d (.sl (strs ((depK xs i).map vn))) ∧ h = [.map a, .map b] := by
  obtain ⟨f0, f1, f2, f3, f4, f5, f6, f7, e0, e1, e2, e3, e4, e5, he, hex⟩ := eqOf_shape xs i
  rw [he]
  have hlt : ∀ j ∈ sumK (xs.getD i 0) xs.length, j < 14 := fun j hj => by have := sumK_lt hj; omega
  have hnd := sumK_nodup (xs.getD i 0) xs.length
  have hrd := readsP_ok (sumK (xs.getD i 0) xs.length).reverse (by have := sumK_le (xs.getD i 0) xs.length; rw [List.length_reverse]; omega)
  rw [readsE_eq _ (by unfold List.Nodup; rw [List.pairwise_reverse]; exact hnd.imp fun h => Ne.symm h) (fun j hj => hlt j (by simpa using hj)), List.reverse_reverse, show exprR (sumK (xs.getD i 0) xs.length).reverse = _ from hex] at hrd
  cases hf : fbyB (xs.getD i 0) with
  | true =>
    have hd : (depK xs i).map vn = [] := by unfold depK; rw [hf]; rfl
    rw [hd]
    refine CT.of_body Try.func42 rfl Try.ntmps42 rfl fun s0 Oo => ?_
    refine TC.base fun hbase => ?_
    repeat refine TC.seq ?_
    refine TC.region ?_
    refine t_box rfl rfl ?_
    refine t_assign rfl rfl ?_
    refine TL.nil ?_
    repeat refine TC.seq ?_
    refine TC.region ?_
    refine t_allocH rfl ?_
    refine TL.nil ?_
    repeat refine TC.seq ?_
    refine TC.region ?_
    refine t_makeFuncM rfl rfl ?_
    refine t_assign rfl rfl ?_
    refine TL.nil ?_
    repeat refine TC.seq ?_
    refine TC.region ?_
    first | refine t_fieldD rfl rfl ?_ | refine t_fieldL rfl rfl ?_ | refine t_fieldR rfl rfl ?_ | refine t_fieldW rfl rfl ?_
    first | refine t_loadDc rfl rfl rfl ?_ | refine t_loadLc rfl rfl rfl rfl ?_ | refine t_loadRc rfl rfl rfl rfl ?_
    refine t_int rfl rfl rfl rfl ?_
    refine TL.nil ?_
    repeat refine TC.seq ?_
    refine TC.cond rfl (fun hc => by cases hc) (fun hc => ?_)
    refine TC.skip ?_
    refine TC.rename [(0, .m (.mp 1)), (3, .m (.d (.pim [.int .u8 2, .sl [[.str (vn i)]], .str ⟨#[]⟩, f0, f1, f2, f3, f4, f5, f6, f7, .int .u8 e0, .int .u8 e1, .int .i32 e2, .str e3, e4, e5, .int .i64 0, .int .i64 0, .sl [], .sl [], .sl []] 0))), (5, .m (.ref 2 0)), (6, .m (.fn 62 [.ref 2 0]))] (nH a b []) ⟨rfl, rfl, rfl, rfl, trivial⟩ rfl ?_
    repeat refine TC.seq ?_
    refine TC.region ?_
    first | refine t_fieldD rfl rfl ?_ | refine t_fieldL rfl rfl ?_ | refine t_fieldR rfl rfl ?_ | refine t_fieldW rfl rfl ?_
    first | refine t_loadDc rfl rfl rfl ?_ | refine t_loadLc rfl rfl rfl rfl ?_ | refine t_loadRc rfl rfl rfl rfl ?_
    refine t_lenS rfl rfl rfl ?_
    refine t_move rfl rfl ?_
    refine TL.nil ?_
    repeat refine TC.seq ?_
    refine TC.block ?_
    refine TC.loopB (fun k0 s1 => s1 = ⟨[(38, .m (.d (.int .i64 0))), (37, .m (.d (.int .i64 0))), (0, .m (.mp 1)), (3, .m (.d (.pim [.int .u8 2, .sl [[.str (vn i)]], .str ⟨#[]⟩, f0, f1, f2, f3, f4, f5, f6, f7, .int .u8 e0, .int .u8 e1, .int .i32 e2, .str e3, e4, e5, .int .i64 0, .int .i64 0, .sl [], .sl [], .sl []] 0))), (5, .m (.ref 2 0)), (6, .m (.fn 62 [.ref 2 0]))], [], nH a b ([])⟩ ∧ k0 = 0) 0 _ ⟨rfl, rfl⟩ ⟨rfl, rfl, rfl, rfl, rfl, rfl, trivial⟩ ?_
    rintro k0 s1 ⟨rfl, rfl⟩
    repeat refine TC.seq ?_
    refine TC.region ?_
    refine t_int rfl rfl rfl rfl ?_
    refine TL.nil ?_
    repeat refine TC.seq ?_
    refine TC.cond rfl (fun hc => by cases hc) (fun hc => ?_)
    refine TC.exit ?_
    repeat refine TC.seq ?_
    refine TC.region ?_
    first | refine t_fieldD rfl rfl ?_ | refine t_fieldL rfl rfl ?_ | refine t_fieldR rfl rfl ?_ | refine t_fieldW rfl rfl ?_
    first | refine t_loadDc rfl rfl rfl ?_ | refine t_loadLc rfl rfl rfl rfl ?_ | refine t_loadRc rfl rfl rfl rfl ?_
    refine t_lenS rfl rfl rfl ?_
    refine t_move rfl rfl ?_
    refine TL.nil ?_
    repeat refine TC.seq ?_
    refine TC.block ?_
    refine TC.loopB (fun k0 s1 => s1 = ⟨[(57, .m (.d (.int .i64 0))), (56, .m (.d (.int .i64 0))), (0, .m (.mp 1)), (3, .m (.d (.pim [.int .u8 2, .sl [[.str (vn i)]], .str ⟨#[]⟩, f0, f1, f2, f3, f4, f5, f6, f7, .int .u8 e0, .int .u8 e1, .int .i32 e2, .str e3, e4, e5, .int .i64 0, .int .i64 0, .sl [], .sl [], .sl []] 0))), (5, .m (.ref 2 0)), (6, .m (.fn 62 [.ref 2 0]))], [], nH a b ([])⟩ ∧ k0 = 0) 0 _ ⟨rfl, rfl⟩ ⟨rfl, rfl, rfl, rfl, rfl, rfl, trivial⟩ ?_
    rintro k0 s1 ⟨rfl, rfl⟩
    repeat refine TC.seq ?_
    refine TC.region ?_
    refine t_int rfl rfl rfl rfl ?_
    refine TL.nil ?_
    repeat refine TC.seq ?_
    refine TC.cond rfl (fun hc => by cases hc) (fun hc => ?_)
    refine TC.exit ?_
    repeat refine TC.seq ?_
    refine TC.region ?_
    first | refine t_fieldD rfl rfl ?_ | refine t_fieldL rfl rfl ?_ | refine t_fieldR rfl rfl ?_ | refine t_fieldW rfl rfl ?_
    first | refine t_loadDc rfl rfl rfl ?_ | refine t_loadLc rfl rfl rfl rfl ?_ | refine t_loadRc rfl rfl rfl rfl ?_
    refine t_lenS rfl rfl rfl ?_
    refine t_move rfl rfl ?_
    refine TL.nil ?_
    repeat refine TC.seq ?_
    refine TC.block ?_
    refine TC.loopB (fun k0 s1 => s1 = ⟨[(69, .m (.d (.int .i64 0))), (68, .m (.d (.int .i64 0))), (0, .m (.mp 1)), (3, .m (.d (.pim [.int .u8 2, .sl [[.str (vn i)]], .str ⟨#[]⟩, f0, f1, f2, f3, f4, f5, f6, f7, .int .u8 e0, .int .u8 e1, .int .i32 e2, .str e3, e4, e5, .int .i64 0, .int .i64 0, .sl [], .sl [], .sl []] 0))), (5, .m (.ref 2 0)), (6, .m (.fn 62 [.ref 2 0]))], [], nH a b ([])⟩ ∧ k0 = 0) 0 _ ⟨rfl, rfl⟩ ⟨rfl, rfl, rfl, rfl, rfl, rfl, trivial⟩ ?_
    rintro k0 s1 ⟨rfl, rfl⟩
    repeat refine TC.seq ?_
    refine TC.region ?_
    refine t_int rfl rfl rfl rfl ?_
    refine TL.nil ?_
    repeat refine TC.seq ?_
    refine TC.cond rfl (fun hc => by cases hc) (fun hc => ?_)
    refine TC.exit ?_
    repeat refine TC.seq ?_
    refine TC.region ?_
    refine t_loadRc rfl rfl (nH_box a b ([])) rfl ?_
    refine t_assign rfl rfl ?_
    refine TL.nil ?_
    refine TC.viewSlot 4 rfl (gen_view [.map a, .map b, .box [genM 3 (strs ([]))]] 1 (strs ([])) (strs_lens _)) ?_
    refine TC.trim 2 hbase (Nat.le_trans (by simp) (genH_len [.map a, .map b, .box [genM 3 (strs ([]))]] 1 (strs ([])))) (H' := [.map a, .map b]) (sl' := [(4, .m (.d (.sl (strs ([])))))]) ?_ hab ⟨⟨rfl, .d _⟩, trivial⟩ ?_
    · rw [nH, genH_take2 (by simp)]; rfl
    exact TC.ret ⟨_, rfl, rfl, rfl⟩
  | false =>
    have hd : depK xs i = sumK (xs.getD i 0) xs.length := by unfold depK; rw [hf]; rfl
    rw [hd]
    generalize hks : sumK (xs.getD i 0) xs.length = ks at hlt hnd hrd ⊢
    have hkl : ks.length ≤ 14 := by rw [← hks]; have := sumK_le (xs.getD i 0) xs.length; omega
    refine CT.of_body Try.func42 rfl Try.ntmps42 rfl fun s0 Oo => ?_
    refine TC.base fun hbase => ?_
    repeat refine TC.seq ?_
    refine TC.region ?_
    refine t_box rfl rfl ?_
    refine t_assign rfl rfl ?_
    refine TL.nil ?_
    repeat refine TC.seq ?_
    refine TC.region ?_
    refine t_allocH rfl ?_
    refine TL.nil ?_
    repeat refine TC.seq ?_
    refine TC.region ?_
    refine t_makeFuncM rfl rfl ?_
    refine t_assign rfl rfl ?_
    refine TL.nil ?_
    repeat refine TC.seq ?_
    refine TC.region ?_
    first | refine t_fieldD rfl rfl ?_ | refine t_fieldL rfl rfl ?_ | refine t_fieldR rfl rfl ?_ | refine t_fieldW rfl rfl ?_
    first | refine t_loadDc rfl rfl rfl ?_ | refine t_loadLc rfl rfl rfl rfl ?_ | refine t_loadRc rfl rfl rfl rfl ?_
    refine t_int rfl rfl rfl rfl ?_
    refine TL.nil ?_
    repeat refine TC.seq ?_
    refine TC.cond rfl (fun hc => ?_) (fun hc => by cases hc)
    refine TC.rename [(0, .m (.mp 1)), (3, .m (.d (.pim [.int .u8 1, .sl [[.str (vn i)]], .str ⟨#[]⟩, f0, f1, f2, f3, f4, f5, f6, f7, .int .u8 e0, .int .u8 e1, .int .i32 e2, .str e3, e4, e5, .int .i64 0, .int .i64 0, .sl [], .sl [], .sl []] 0))), (5, .m (.ref 2 0)), (6, .m (.fn 62 [.ref 2 0]))] (nH a b ((ks.take 0).map vn)) ⟨rfl, rfl, rfl, rfl, trivial⟩ rfl ?_
    repeat refine TC.seq ?_
    refine TC.region ?_
    first | refine t_fieldD rfl rfl ?_ | refine t_fieldL rfl rfl ?_ | refine t_fieldR rfl rfl ?_ | refine t_fieldW rfl rfl ?_
    first | refine t_loadDw rfl rfl rfl ?_ | refine t_loadDa rfl rfl rfl ?_ | refine t_loadLa rfl rfl rfl rfl rfl ?_ | refine t_loadRa rfl rfl rfl rfl rfl ?_
    refine t_call1 hrd rfl rfl ?_
    (refine t_lenS rfl rfl rfl ?_; rw [strs_len, List.length_map])
    refine t_move rfl rfl ?_
    refine TL.nil ?_
    repeat refine TC.seq ?_
    refine TC.block ?_
    refine TC.loopB (fun k0 s1 => ∃ j : Nat, s1 = ⟨[(27, .m (.d (.int .i64 j))), (26, .m (.d (.int .i64 (ks.length : Nat)))), (25, .m (.d (.sl (strs (ks.map vn))))), (0, .m (.mp 1)), (3, .m (.d (.pim [.int .u8 1, .sl [[.str (vn i)]], .str ⟨#[]⟩, f0, f1, f2, f3, f4, f5, f6, f7, .int .u8 e0, .int .u8 e1, .int .i32 e2, .str e3, e4, e5, .int .i64 0, .int .i64 0, .sl [], .sl [], .sl []] 0))), (5, .m (.ref 2 0)), (6, .m (.fn 62 [.ref 2 0]))], [], nH a b ((ks.take j).map vn)⟩ ∧ j ≤ ks.length ∧ k0 = ks.length - j) ks.length _ ⟨0, rfl, by omega, rfl⟩ ⟨rfl, rfl, rfl, rfl, rfl, rfl, rfl, trivial⟩ ?_
    rintro k0 s1 ⟨j, rfl, hj, rfl⟩
    repeat refine TC.seq ?_
    refine TC.region ?_
    refine t_int rfl rfl rfl rfl ?_
    refine TL.nil ?_
    repeat refine TC.seq ?_
    refine TC.cond rfl (fun hc => ?_) (fun hc => ?_)
    · have hc' : j < ks.length := by have := of_decide_eq_true hc; omega
      clear hc
      have hget : (strs (ks.map vn))[(j : Int).toNat]? = some [.str (vn ks[j])] := by simp [strs, hc']
      refine TC.skip ?_
      repeat refine TC.seq ?_
      refine TC.block ?_
      repeat refine TC.seq ?_
      refine TC.region ?_
      refine t_indexD rfl rfl rfl (Int.natCast_nonneg j) hget rfl ?_
      first | refine t_loadDc rfl rfl rfl ?_ | refine t_loadLc rfl rfl rfl rfl ?_ | refine t_loadRc rfl rfl rfl rfl ?_
      refine t_assign rfl rfl ?_
      refine TL.nil ?_
      repeat refine TC.seq ?_
      refine TC.region ?_
      refine t_move rfl rfl ?_
      refine t_move rfl rfl ?_
      refine t_callvM (needs1_ok a b ((ks.take j).map vn) (vn ks[j]) (by simp; omega)) rfl rfl rfl ?_
      refine TL.nil ?_
      repeat refine TC.seq ?_
      refine TC.region ?_
      refine t_add64 rfl rfl rfl (by omega) ?_
      refine t_move rfl rfl ?_
      refine TL.nil ?_
      exact again (k' := ks.length - (j + 1)) (by omega) ⟨j + 1, rfl, by omega, rfl⟩ (by rw [addS_take hnd hlt hc']) ⟨by simp; rfl, rfl, rfl, rfl, rfl, rfl, rfl, trivial⟩
    · refine TC.exit ?_
      have hc' : j = ks.length := by have := of_decide_eq_false hc; omega
      subst hc'
      rw [List.take_length]
      repeat refine TC.seq ?_
      refine TC.region ?_
      first | refine t_fieldD rfl rfl ?_ | refine t_fieldL rfl rfl ?_ | refine t_fieldR rfl rfl ?_ | refine t_fieldW rfl rfl ?_
      first | refine t_loadDc rfl rfl rfl ?_ | refine t_loadLc rfl rfl rfl rfl ?_ | refine t_loadRc rfl rfl rfl rfl ?_
      refine t_lenS rfl rfl rfl ?_
      refine t_move rfl rfl ?_
      refine TL.nil ?_
      repeat refine TC.seq ?_
      refine TC.block ?_
      refine TC.loopB (fun k0 s1 => s1 = ⟨[(38, .m (.d (.int .i64 0))), (37, .m (.d (.int .i64 0))), (0, .m (.mp 1)), (3, .m (.d (.pim [.int .u8 1, .sl [[.str (vn i)]], .str ⟨#[]⟩, f0, f1, f2, f3, f4, f5, f6, f7, .int .u8 e0, .int .u8 e1, .int .i32 e2, .str e3, e4, e5, .int .i64 0, .int .i64 0, .sl [], .sl [], .sl []] 0))), (5, .m (.ref 2 0)), (6, .m (.fn 62 [.ref 2 0]))], [], nH a b (ks.map vn)⟩ ∧ k0 = 0) 0 _ ⟨rfl, rfl⟩ ⟨rfl, rfl, rfl, rfl, rfl, rfl, trivial⟩ ?_
      rintro k0 s1 ⟨rfl, rfl⟩
      repeat refine TC.seq ?_
      refine TC.region ?_
      refine t_int rfl rfl rfl rfl ?_
      refine TL.nil ?_
      repeat refine TC.seq ?_
      refine TC.cond rfl (fun hc => by cases hc) (fun hc => ?_)
      refine TC.exit ?_
      repeat refine TC.seq ?_
      refine TC.region ?_
      first | refine t_fieldD rfl rfl ?_ | refine t_fieldL rfl rfl ?_ | refine t_fieldR rfl rfl ?_ | refine t_fieldW rfl rfl ?_
      first | refine t_loadDc rfl rfl rfl ?_ | refine t_loadLc rfl rfl rfl rfl ?_ | refine t_loadRc rfl rfl rfl rfl ?_
      refine t_lenS rfl rfl rfl ?_
      refine t_move rfl rfl ?_
      refine TL.nil ?_
      repeat refine TC.seq ?_
      refine TC.block ?_
      refine TC.loopB (fun k0 s1 => s1 = ⟨[(57, .m (.d (.int .i64 0))), (56, .m (.d (.int .i64 0))), (0, .m (.mp 1)), (3, .m (.d (.pim [.int .u8 1, .sl [[.str (vn i)]], .str ⟨#[]⟩, f0, f1, f2, f3, f4, f5, f6, f7, .int .u8 e0, .int .u8 e1, .int .i32 e2, .str e3, e4, e5, .int .i64 0, .int .i64 0, .sl [], .sl [], .sl []] 0))), (5, .m (.ref 2 0)), (6, .m (.fn 62 [.ref 2 0]))], [], nH a b (ks.map vn)⟩ ∧ k0 = 0) 0 _ ⟨rfl, rfl⟩ ⟨rfl, rfl, rfl, rfl, rfl, rfl, trivial⟩ ?_
      rintro k0 s1 ⟨rfl, rfl⟩
      repeat refine TC.seq ?_
      refine TC.region ?_
      refine t_int rfl rfl rfl rfl ?_
      refine TL.nil ?_
      repeat refine TC.seq ?_
      refine TC.cond rfl (fun hc => by cases hc) (fun hc => ?_)
      refine TC.exit ?_
      repeat refine TC.seq ?_
      refine TC.region ?_
      first | refine t_fieldD rfl rfl ?_ | refine t_fieldL rfl rfl ?_ | refine t_fieldR rfl rfl ?_ | refine t_fieldW rfl rfl ?_
      first | refine t_loadDc rfl rfl rfl ?_ | refine t_loadLc rfl rfl rfl rfl ?_ | refine t_loadRc rfl rfl rfl rfl ?_
      refine t_lenS rfl rfl rfl ?_
      refine t_move rfl rfl ?_
      refine TL.nil ?_
      repeat refine TC.seq ?_
      refine TC.block ?_
      refine TC.loopB (fun k0 s1 => s1 = ⟨[(69, .m (.d (.int .i64 0))), (68, .m (.d (.int .i64 0))), (0, .m (.mp 1)), (3, .m (.d (.pim [.int .u8 1, .sl [[.str (vn i)]], .str ⟨#[]⟩, f0, f1, f2, f3, f4, f5, f6, f7, .int .u8 e0, .int .u8 e1, .int .i32 e2, .str e3, e4, e5, .int .i64 0, .int .i64 0, .sl [], .sl [], .sl []] 0))), (5, .m (.ref 2 0)), (6, .m (.fn 62 [.ref 2 0]))], [], nH a b (ks.map vn)⟩ ∧ k0 = 0) 0 _ ⟨rfl, rfl⟩ ⟨rfl, rfl, rfl, rfl, rfl, rfl, trivial⟩ ?_
      rintro k0 s1 ⟨rfl, rfl⟩
      repeat refine TC.seq ?_
      refine TC.region ?_
      refine t_int rfl rfl rfl rfl ?_
      refine TL.nil ?_
      repeat refine TC.seq ?_
      refine TC.cond rfl (fun hc => by cases hc) (fun hc => ?_)
      refine TC.exit ?_
      repeat refine TC.seq ?_
      refine TC.region ?_
      refine t_loadRc rfl rfl (nH_box a b (ks.map vn)) rfl ?_
      refine t_assign rfl rfl ?_
      refine TL.nil ?_
      refine TC.viewSlot 4 rfl (gen_view [.map a, .map b, .box [genM 3 (strs (ks.map vn))]] 1 (strs (ks.map vn)) (strs_lens _)) ?_
      refine TC.trim 2 hbase (Nat.le_trans (by simp) (genH_len [.map a, .map b, .box [genM 3 (strs (ks.map vn))]] 1 (strs (ks.map vn)))) (H' := [.map a, .map b]) (sl' := [(4, .m (.d (.sl (strs (ks.map vn)))))]) ?_ hab ⟨⟨rfl, .d _⟩, trivial⟩ ?_
      · rw [nH, genH_take2 (by simp)]; rfl
      exact TC.ret ⟨_, rfl, rfl, rfl⟩
end Go.Proofs
