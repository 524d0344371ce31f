/- The edges of the node, as the program tells them. -/
import Derived.Test.YtcmjcdiaidalgaaGrH
namespace Go.Proofs
open Go.Mt
set_option maxRecDepth 4000
set_option linter.unusedSimpArgs false
set_option linter.unusedVariables false

theorem HB_map (n : Nat) (f : Nat → D) (l : List Nat) (ob : Ob) (h : ob = .map (nameMap f l)) : ObB n ob := by
  subst h
  intro e he
  obtain ⟨k, _, rfl⟩ := List.mem_map.1 he
  exact .d _
theorem HB_gen {n : Nat} {H0 : Hp} {ec : Nat} {rs : List (List D)} (h : HB n H0) : HB n (genH H0 ec rs) := by
  cases rs with
  | nil => exact h
  | cons q r =>
    intro ob hob
    rcases List.mem_append.1 hob with h1 | h1
    · exact h ob h1
    · simp at h1; subst h1
      intro m hm
      rw [flatM_eq] at hm
      obtain ⟨d, _, rfl⟩ := List.mem_map.1 hm
      exact .d _
theorem MB_gen (H0 : Hp) (n : Nat) (rs : List (List D)) : MB (genH H0 n rs).length (genM H0.length rs) := by
  cases rs with
  | nil => exact .d _
  | cons q r => exact .rsl _ _ _ (by simp [genH])
def genT (n : Nat) (rs : List (List D)) : Hp := match rs with
  | [] => []
  | q :: r => [.row true n r.length (flatM (q :: r))]
theorem genH_eq (H0 : Hp) (n : Nat) (rs : List (List D)) : genH H0 n rs = H0 ++ genT n rs := by cases rs <;> simp [genH, genT]

def modQ (q : Int) (k : Nat) : Bool := (IntKind.i64.wrap (IntKind.i64.wrap q + (k : Int))).tmod 3 == 0
/-- a number has at most five of fourteen places -/
theorem sumK_small (x : Int) (hx : 0 ≤ x ∧ x < 65536) (n : Nat) (hn : n ≤ 14) : (sumK x n).length ≤ 12 := by
  have hq : ∃ q : Int, x.fdiv (2 ^ (min (14 : Int).toNat IntKind.u16.bits)) = q ∧ (q = 0 ∨ q = 1 ∨ q = 2 ∨ q = 3) := by
    refine ⟨x.fdiv 16384, rfl, ?_⟩
    rw [Int.fdiv_eq_ediv_of_nonneg _ (by decide)]
    omega
  obtain ⟨q, hq1, hq2⟩ := hq
  have hm : modB x = modQ q := by funext k; unfold modB modQ; rw [hq1]
  have h1 := Go.Gr.sub_len (l := sumK x n) (m := (List.range 14).filter (modQ q)) (sumK_nodup x n) (by
    intro k hk
    have h2 := sumK_lt hk
    have h3 := (List.mem_filter.1 hk).2
    refine List.mem_filter.2 ⟨List.mem_range.2 (by omega), ?_⟩
    rw [← hm]
    unfold hitB at h3
    cases hb : bitB x k with
    | true => rw [hb] at h3; exact h3
    | false => rw [hb] at h3; cases h3)
  have h2 : ((List.range 14).filter (modQ q)).length ≤ 12 := by
    rcases hq2 with rfl | rfl | rfl | rfl <;> decide
  omega
theorem depK_small {xs : List Int} (hw : ∀ x ∈ xs, 0 ≤ x ∧ x < 65536) (hn : xs.length ≤ 14) (i : Nat) : (depK xs i).length ≤ 12 := by
  unfold depK
  cases fbyB (xs.getD i 0) with
  | true => simp
  | false =>
    refine sumK_small _ ?_ _ hn
    rcases Nat.lt_or_ge i xs.length with h | h
    · rw [List.getD_eq_getElem?_getD, List.getElem?_eq_getElem h]; exact hw _ (List.getElem_mem h)
    · rw [List.getD_eq_getElem?_getD, List.getElem?_eq_none h]; simp

def esL (xs : List Int) : List (List Nat) := (List.range xs.length).map (depK xs)
/-- rows of lists of places -/
def rowsL (es : List (List Nat)) : List (List D) := es.map fun l => [.sl (natsR l)]
theorem rowsL_len (es : List (List Nat)) : (rowsL es).length = es.length := by simp [rowsL]
theorem rowsL_lens (es : List (List Nat)) : ∀ r ∈ rowsL es, r.length = 1 := by intro r hr; obtain ⟨_, _, rfl⟩ := List.mem_map.1 hr; rfl
theorem rowsL_append (a b : List (List Nat)) : rowsL (a ++ b) = rowsL a ++ rowsL b := by simp [rowsL]
theorem esL_len (xs : List Int) : (esL xs).length = xs.length := by simp [esL]
theorem esL_take {xs : List Int} {i : Nat} (h : i < xs.length) : (esL xs).take (i + 1) = (esL xs).take i ++ [depK xs i] := by
  rw [List.take_succ_eq_append_getElem (by rw [esL_len]; exact h)]
  simp [esL]

def M0 (n : Nat) : Hp := [.map (byE n), .map (ckE n)]
theorem M0_HB (n : Nat) : HB 2 (M0 n) := by
  intro ob hob
  simp [M0] at hob
  rcases hob with rfl | rfl
  · exact HB_map 2 _ _ _ rfl
  · exact HB_map 2 _ _ _ rfl
theorem needsF_ok (xs : List Int) (i : Nat) (hn : xs.length ≤ 14) (rs : List (List D)) : CT Try.prog 42 [.mp 1, .d (.agg (eqOf xs i))] (genH (M0 xs.length) 1 rs) fun r h => r = .d (.sl (strs ((depK xs i).map vn))) ∧ h = genH (M0 xs.length) 1 rs := by
  have h := needs_ok xs i hn (byE xs.length) (ckE xs.length) (M0_HB _)
  have h2 := CT.suffix (H := M0 xs.length) (genT 1 rs) (M0_HB _) (by
    intro m hm
    simp at hm
    rcases hm with rfl | rfl
    · exact .mp 1 (by simp [M0])
    · exact .d _) (post := fun r k => r = .d (.sl (strs ((depK xs i).map vn))) ∧ k = M0 xs.length) (h.mono (by rintro r k ⟨rfl, rfl⟩; exact ⟨rfl, rfl, rfl⟩))
  rw [genH_eq]
  refine h2.mono ?_
  rintro r k ⟨H', rfl, _, rfl, rfl⟩
  exact ⟨rfl, rfl⟩

theorem Edges_ok (xs : List Int) (hw : ∀ x ∈ xs, 0 ≤ x ∧ x < 65536) (hn : xs.length ≤ 14) : PT Try.prog 26 [.agg (chainC xs)] (· = [.sl (rowsL (esL xs))]) := by
  refine PT.of_CT (CT.of_body Try.func26 rfl Try.ntmps26 rfl fun s0 Oo => ?_)
  refine TC.base fun hbase => ?_
  repeat refine TC.seq ?_
  refine TC.region ?_
  refine t_box rfl rfl ?_
  refine t_assign rfl rfl ?_
  refine TL.nil ?_
  repeat refine TC.seq ?_
  refine TC.draw mixed ?_
  first | refine f_loadDw rfl rfl rfl ?_ | refine f_loadDa rfl rfl rfl ?_ | refine f_loadLa rfl rfl rfl rfl rfl ?_ | refine f_loadRa rfl rfl rfl rfl rfl ?_
  refine f_callR (by_ok xs hn) rfl rfl ?_
  first | refine f_loadDw rfl rfl rfl ?_ | refine f_loadDa rfl rfl rfl ?_ | refine f_loadLa rfl rfl rfl rfl rfl ?_ | refine f_loadRa rfl rfl rfl rfl rfl ?_
  refine f_callR (clocks_ok xs hn (byE xs.length)) rfl rfl ?_
  refine f_assign rfl rfl ?_
  refine f_assign rfl rfl ?_
  refine TF.nil ⟨by kernel_rfl, ?_⟩
  repeat refine TC.seq ?_
  refine TC.region ?_
  refine t_assign rfl rfl ?_
  refine TL.nil ?_
  refine TC.rename [(5, .m (.d (.sl []))), (4, .m (.mp 1)), (3, .m (.mp 0)), (1, .m (.d (.pim (chainC xs) 0)))] (genH (M0 xs.length) 1 (rowsL ((esL xs).take 0))) ⟨rfl, rfl, rfl, rfl, trivial⟩ rfl ?_
  repeat refine TC.seq ?_
  refine TC.region ?_
  first | refine t_fieldD rfl rfl ?_ | refine t_fieldL rfl rfl ?_ | refine t_fieldR rfl rfl ?_ | refine t_fieldW rfl rfl ?_
  first | refine t_loadDc rfl rfl rfl ?_ | refine t_loadLc rfl rfl rfl rfl ?_ | refine t_loadRc rfl rfl rfl rfl ?_
  (refine t_lenS rfl rfl rfl ?_; rw [eqsD_len])
  refine t_move rfl rfl ?_
  refine TL.nil ?_
  repeat refine TC.seq ?_
  refine TC.block ?_
  refine TC.loopB (fun k s => ∃ (i : Nat) (bx : List (Nat × List M)), s = ⟨[(20, .m (.d (.int .i64 i))), (19, .m (.d (.int .i64 (xs.length : Nat)))), (18, .m (.d (.sl (eqsD xs xs.length)))), (5, .m (genM 2 (rowsL ((esL xs).take i)))), (4, .m (.mp 1)), (3, .m (.mp 0))], bx, genH (M0 xs.length) 1 (rowsL ((esL xs).take i))⟩ ∧ i ≤ xs.length ∧ k = xs.length - i) xs.length _
    ⟨0, _, rfl, by omega, rfl⟩ ⟨rfl, rfl, rfl, rfl, rfl, rfl, trivial⟩ ?_
  rintro k s ⟨i, bx, rfl, hi, rfl⟩
  repeat refine TC.seq ?_
  refine TC.region ?_
  refine t_int rfl rfl rfl rfl ?_
  refine TL.nil ?_
  repeat refine TC.seq ?_
  refine TC.cond rfl (fun hc => ?_) (fun hc => ?_)
  · have hc' : i < xs.length := by have := of_decide_eq_true hc; omega
    clear hc
    obtain ⟨f0, f1, f2, f3, f4, f5, f6, f7, e0, e1, e2, e3, e4, e5, he, _⟩ := eqOf_shape xs i
    have hget := eqsD_get (xs := xs) hc'
    have hneed := needsF_ok xs i hn (rowsL ((esL xs).take i))
    rw [he] at hget hneed
    have hlt : ∀ j ∈ depK xs i, j < 14 := fun j hj => by have := depK_lt hj; omega
    have hsort := depK_sorted xs i
    have hsmall := depK_small hw hn i
    have htk := esL_take hc'
    have hltn : ∀ j ∈ depK xs i, j < xs.length := fun j hj => depK_lt hj
    generalize hR : rowsL ((esL xs).take i) = R at hneed ⊢
    have hRl : R.length ≤ 14 := by rw [← hR, rowsL_len, List.length_take]; omega
    have hRn : rowsL ((esL xs).take (i + 1)) = R ++ [[.sl (natsR (depK xs i))]] := by rw [htk, rowsL_append, hR]; rfl
    generalize depK xs i = ks at hneed hlt hsort hsmall hltn hRn
    have hnd : ks.Nodup := hsort.imp fun h => Nat.ne_of_lt h
    generalize hH1 : genH (M0 xs.length) 1 R = H1 at hneed ⊢
    have hm0 : H1[0]? = some (.map (byE xs.length)) := by rw [← hH1, genH_get _ _ _ 0 (by simp [M0])]; rfl
    have hHB : HB H1.length H1 := by
      rw [← hH1]
      refine HB_gen fun ob hob => ?_
      simp [M0] at hob
      rcases hob with rfl | rfl
      · exact HB_map _ _ _ _ rfl
      · exact HB_map _ _ _ _ rfl
    have hH2 : 2 ≤ H1.length := by rw [← hH1]; exact genH_len (M0 xs.length) 1 R
    have hMB : MB H1.length (genM 2 R) := by rw [← hH1]; exact MB_gen (M0 xs.length) 1 R
    refine TC.skip ?_
    repeat refine TC.seq ?_
    refine TC.block ?_
    repeat refine TC.seq ?_
    refine TC.region ?_
    refine t_indexD rfl rfl rfl (Int.natCast_nonneg i) hget rfl ?_
    first | refine t_loadDw rfl rfl rfl ?_ | refine t_loadDa rfl rfl rfl ?_ | refine t_loadLa rfl rfl rfl rfl rfl ?_ | refine t_loadRa rfl rfl rfl rfl rfl ?_
    refine t_alloc rfl rfl ?_
    refine t_storeL rfl rfl rfl rfl rfl rfl ?_
    refine TL.nil ?_
    repeat refine TC.seq ?_
    refine TC.region ?_
    refine t_assign rfl rfl ?_
    refine TL.nil ?_
    repeat refine TC.seq ?_
    refine TC.region ?_
    refine t_move rfl rfl ?_
    first | refine t_loadDw rfl rfl rfl ?_ | refine t_loadDa rfl rfl rfl ?_ | refine t_loadLa rfl rfl rfl rfl rfl ?_ | refine t_loadRa rfl rfl rfl rfl rfl ?_
    (refine t_callR hneed rfl rfl ?_; intro r1 h1 hrh; rw [hrh.1, hrh.2]; clear hrh r1 h1)
    (refine t_lenS rfl rfl rfl ?_; rw [strs_len, List.length_map])
    refine t_move rfl rfl ?_
    refine TL.nil ?_
    refine TC.rename [(28, .m (.d (.int .i64 0))), (27, .m (.d (.int .i64 (ks.length : Nat)))), (26, .m (.d (.sl (strs (ks.map vn))))), (20, .m (.d (.int .i64 i))), (19, .m (.d (.int .i64 (xs.length : Nat)))), (18, .m (.d (.sl (eqsD xs xs.length)))), (8, .m (genM H1.length (natsR (ks.take 0)))), (5, .m (genM 2 R)), (4, .m (.mp 1)), (3, .m (.mp 0))] (genH H1 1 (natsR (ks.take 0))) ⟨rfl, rfl, rfl, rfl, rfl, rfl, rfl, rfl, rfl, rfl, trivial⟩ rfl ?_
    repeat refine TC.seq ?_
    refine TC.block ?_
    refine TC.loopB (fun k s => ∃ (j : Nat) (bx : List (Nat × List M)), s = ⟨[(28, .m (.d (.int .i64 j))), (27, .m (.d (.int .i64 (ks.length : Nat)))), (26, .m (.d (.sl (strs (ks.map vn))))), (20, .m (.d (.int .i64 i))), (19, .m (.d (.int .i64 (xs.length : Nat)))), (18, .m (.d (.sl (eqsD xs xs.length)))), (8, .m (genM H1.length (natsR (ks.take j)))), (5, .m (genM 2 R)), (4, .m (.mp 1)), (3, .m (.mp 0))], bx, genH H1 1 (natsR (ks.take j))⟩ ∧ j ≤ ks.length ∧ k = ks.length - j) ks.length _
      ⟨0, _, rfl, by omega, rfl⟩ ⟨rfl, rfl, rfl, rfl, rfl, rfl, rfl, rfl, rfl, rfl, trivial⟩ ?_
    rintro k s ⟨j, bx, rfl, hj, rfl⟩
    repeat refine TC.seq ?_
    refine TC.region ?_
    refine t_int rfl rfl rfl rfl ?_
    refine TL.nil ?_
    repeat refine TC.seq ?_
    refine TC.cond rfl (fun hc => ?_) (fun hc => ?_)
    · have hcj : j < ks.length := by have := of_decide_eq_true hc; omega
      clear hc
      have hgetj : (strs (ks.map vn))[(j : Int).toNat]? = some [.str (vn ks[j])] := by simp [strs, hcj]
      have hlook : lookM (vn ks[j]) (byE xs.length) = some (.d (.int .i64 (ks[j] : Int))) := by
        have hk := hltn _ (List.getElem_mem hcj)
        refine nameMap_look (fun k => .int .i64 (k : Int)) ks[j] (List.range xs.length) (fun a ha h => vn_inj ?_ ?_ h) (List.mem_range.2 hk)
        · have := List.mem_range.1 ha; omega
        · omega
      have hno : ((ks.take j).any fun (s : Nat) => ((ks[j] : Int) == (s : Int))) = false := by
        refine List.any_eq_false.2 fun s hs => ?_
        obtain ⟨m, hm, he⟩ := List.mem_take_iff_getElem.1 hs
        rw [List.nodup_iff_pairwise_ne, List.pairwise_iff_getElem] at hnd
        have := hnd m j (by omega) hcj (by omega)
        simp only [beq_iff_eq]
        intro h
        apply this
        omega
      have hnext : ks.take (j + 1) = ks.take j ++ [ks[j]] := List.take_succ_eq_append_getElem hcj
      have hL : (ks.take j).length ≤ 12 := by rw [List.length_take]; omega
      refine TC.skip ?_
      repeat refine TC.seq ?_
      refine TC.block ?_
      repeat refine TC.seq ?_
      refine TC.region ?_
      refine t_indexD rfl rfl rfl (Int.natCast_nonneg j) hgetj rfl ?_
      first | refine t_loadDc rfl rfl rfl ?_ | refine t_loadLc rfl rfl rfl rfl ?_ | refine t_loadRc rfl rfl rfl rfl ?_
      refine t_assign rfl rfl ?_
      refine TL.nil ?_
      repeat refine TC.seq ?_
      refine TC.region ?_
      refine t_move rfl rfl ?_
      refine t_move rfl rfl ?_
      (refine t_lookup2 rfl rfl rfl ((genH_get _ _ _ 0 (by omega)).trans hm0) (nameMap_keys _ _) ?_; rw [hlook])
      refine t_move rfl rfl ?_
      refine t_extract rfl rfl rfl ?_
      refine t_extract rfl rfl rfl ?_
      refine t_assign rfl rfl ?_
      refine t_assign rfl rfl ?_
      refine TL.nil ?_
      repeat refine TC.seq ?_
      refine TC.region ?_
      refine t_move rfl rfl ?_
      refine t_move rfl rfl ?_
      first | refine t_guard_no rfl rfl ?_ | (refine t_guard_yes rfl ?_; ((refine t_move rfl rfl ?_; refine TL.viewSlot 40 rfl (gen_view H1 1 (natsR (ks.take j)) (natsR_lens _)) ?_)))
      first | refine t_guard_no rfl rfl ?_ | (refine t_guard_yes rfl ?_; (refine t_move rfl rfl ?_))
      first | refine t_guard_no rfl rfl ?_ | (refine t_guard_yes rfl ?_; ((refine t_call1 (containsI_ok (ks.take j) ks[j]) rfl rfl ?_; rw [hno])))
      first | refine t_guard_no rfl rfl ?_ | (refine t_guard_yes rfl ?_; (refine t_not rfl rfl ?_))
      refine t_pick rfl rfl rfl ?_
      refine TL.nil ?_
      repeat refine TC.seq ?_
      refine TC.cond rfl (fun hc => ?_) (fun hc => by cases hc)
      repeat refine TC.seq ?_
      refine TC.region ?_
      refine t_move rfl rfl ?_
      refine t_move rfl rfl ?_
      refine t_buildSlice rfl rfl rfl rfl rfl rfl rfl rfl ?_
      refine t_snoc (H0 := H1) rfl rfl rfl rfl (by rfl) rfl (by rw [natsR_len]; omega) (by rw [natsR_len]; omega) ?_
      refine t_assign rfl rfl ?_
      refine TL.nil ?_
      repeat refine TC.seq ?_
      refine TC.region ?_
      refine t_add64 rfl rfl rfl (by omega) ?_
      refine t_move rfl rfl ?_
      refine TL.nil ?_
      exact again (k' := ks.length - (j + 1)) (by omega) ⟨j + 1, _, rfl, by omega, rfl⟩ (by rw [hnext, natsR_append]; rfl) ⟨by simp; rfl, rfl, rfl, rfl, rfl, rfl, by rw [hnext, natsR_append]; rfl, rfl, rfl, rfl, trivial⟩
    · refine TC.exit ?_
      have hcj : j = ks.length := by have := of_decide_eq_false hc; omega
      subst hcj
      rw [List.take_length]
      refine TC.viewSlot 8 rfl (gen_view H1 1 (natsR ks) (natsR_lens _)) ?_
      repeat refine TC.seq ?_
      refine TC.region ?_
      refine t_move rfl rfl ?_
      (refine t_callR (CT.of_PT (sort_ok ks hsort hsmall)) rfl rfl ?_; rintro _ _ ⟨⟨_, rfl, rfl⟩, rfl⟩)
      refine TL.nil ?_
      refine TC.trim H1.length (Nat.le_trans hbase (Nat.zero_le _)) (genH_len _ _ _) (genH_take H1 1 (natsR ks)) hHB (sl' := [(20, .m (.d (.int .i64 i))), (19, .m (.d (.int .i64 (xs.length : Nat)))), (18, .m (.d (.sl (eqsD xs xs.length)))), (8, .m (.d (.sl (natsR ks)))), (5, .m (genM 2 R)), (4, .m (.mp 1)), (3, .m (.mp 0))])
        ⟨⟨rfl, .d _⟩, ⟨rfl, .d _⟩, ⟨rfl, .d _⟩, ⟨rfl, .d _⟩, ⟨rfl, hMB⟩, ⟨rfl, .mp 1 (by omega)⟩, ⟨rfl, .mp 0 (by omega)⟩, trivial⟩ ?_
      rw [← hH1]
      repeat refine TC.seq ?_
      refine TC.region ?_
      refine t_move rfl rfl ?_
      refine t_move rfl rfl ?_
      refine t_buildSlice rfl rfl rfl rfl rfl rfl rfl rfl ?_
      refine t_snoc (H0 := M0 xs.length) rfl rfl rfl rfl (by rfl) rfl (by omega) (by omega) ?_
      refine t_assign rfl rfl ?_
      refine TL.nil ?_
      repeat refine TC.seq ?_
      refine TC.region ?_
      refine t_add64 rfl rfl rfl (by omega) ?_
      refine t_move rfl rfl ?_
      refine TL.nil ?_
      exact again (k' := xs.length - (i + 1)) (by omega) ⟨i + 1, _, rfl, by omega, rfl⟩ (by rw [hRn]; rfl) ⟨by simp; rfl, rfl, rfl, by rw [hRn]; rfl, rfl, rfl, trivial⟩
  · refine TC.exit ?_
    have hc' : i = xs.length := by have := of_decide_eq_false hc; omega
    subst hc'
    rw [List.take_of_length_le (by rw [esL_len]; exact Nat.le_refl _)]
    repeat refine TC.seq ?_
    refine TC.region ?_
    refine t_move rfl rfl ?_
    refine t_assign rfl rfl ?_
    refine TL.nil ?_
    refine TC.viewSlot 2 rfl (gen_view (M0 xs.length) 1 (rowsL (esL xs)) (rowsL_lens _)) ?_
    exact TC.ret ⟨_, rfl, [_], rfl, rfl⟩
end Go.Proofs
