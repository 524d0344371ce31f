/- The edges of the node, as the law reckons them: the same. -/
import Derived.Test.YtcmjcdiaidalgaaGrI
namespace Go.Proofs
open Go.Mt
set_option maxRecDepth 4000
set_option linter.unusedSimpArgs false
set_option linter.unusedVariables false

theorem TC.reBx {X : Ctx} {c : Code} {q : Exit → St → Prop} {sl : List (Nat × V)} {bx : List (Nat × List M)} {H : Hp} (bx' : List (Nat × List M)) (h : ∀ t, get bx' t = get bx t) (k : TC X c ⟨sl, bx', H⟩ q) : TC X c ⟨sl, bx, H⟩ q :=
  fun a w hi => k a w (hi.weak (fun _ _ h => h) h)
/-- those of a range that stand in a part of it -/
def upto (ks : List Nat) (k : Nat) : List Nat := (List.range k).filter ks.contains
theorem upto_snoc (ks : List Nat) (k : Nat) : upto ks (k + 1) = if ks.contains k then upto ks k ++ [k] else upto ks k := by
  simp only [upto, List.range_succ, List.filter_append]
  cases h : ks.contains k
  · have : k ∉ ks := by simpa using h
    simp [this]
  · have : k ∈ ks := by simpa using h
    simp [this]
theorem upto_dep (xs : List Int) (i : Nat) : upto (depK xs i) xs.length = depK xs i := by
  unfold upto depK
  cases fbyB (xs.getD i 0) with
  | true => simp
  | false =>
    simp only [cond_false]
    conv => rhs; rw [sumK]
    apply List.filter_congr
    intro k hk
    unfold sumK
    cases h : hitB (xs.getD i 0) k with
    | true => simpa using ⟨List.mem_range.1 hk, by simpa using h⟩
    | false =>
      have : k ∉ (List.range xs.length).filter (hitB (xs.getD i 0)) := fun hm => by
        have := (List.mem_filter.1 hm).2
        rw [h] at this; cases this
      simpa using this
theorem upto_len (ks : List Nat) (k : Nat) : (upto ks k).length ≤ k := by
  have := List.length_filter_le ks.contains (List.range k)
  simpa [upto] using this
theorem edges_ok (xs : List Int) (hw : ∀ x ∈ xs, 0 ≤ x ∧ x < 65536) (hn : xs.length ≤ 14) : PT Try.prog 9 [.agg (chainC xs)] (· = [.sl (rowsL (esL xs))]) := by
  refine PT.of_CT (CT.of_body Try.func9 rfl Try.ntmps9 rfl fun s0 Oo => ?_)
  refine TC.base fun hbase => ?_
  repeat refine TC.seq ?_
  refine TC.region ?_
  refine t_box rfl rfl ?_
  refine t_assign rfl rfl ?_
  refine TL.nil ?_
  repeat refine TC.seq ?_
  refine TC.region ?_
  refine t_assign rfl rfl ?_
  refine TL.nil ?_
  refine TC.rename [(3, .m (.d (.sl []))), (1, .m (.d (.pim (chainC xs) 0)))] (genH [] 1 (rowsL ((esL xs).take 0))) ⟨rfl, rfl, trivial⟩ rfl ?_
  repeat refine TC.seq ?_
  refine TC.region ?_
  refine t_assign rfl rfl ?_
  refine TL.nil ?_
  repeat refine TC.seq ?_
  refine TC.block ?_
  refine TC.loopB (fun k s => ∃ (i : Nat), s = ⟨[(4, .m (.d (.int .i64 i))), (3, .m (genM 0 (rowsL ((esL xs).take i)))), (1, .m (.d (.pim (chainC xs) 0)))], [], genH [] 1 (rowsL ((esL xs).take i))⟩ ∧ i ≤ xs.length ∧ k = xs.length - i) xs.length _
    ⟨0, rfl, by omega, rfl⟩ ⟨rfl, rfl, rfl, trivial⟩ ?_
  rintro k s ⟨i, rfl, hi, rfl⟩
  repeat refine TC.seq ?_
  refine TC.region ?_
  refine t_move rfl rfl ?_
  first | refine t_fieldD rfl rfl ?_ | refine t_fieldL rfl rfl ?_ | refine t_fieldR rfl rfl ?_ | refine t_fieldW rfl rfl ?_
  first | refine t_loadDc rfl rfl rfl ?_ | refine t_loadLc rfl rfl rfl rfl ?_ | refine t_loadRc rfl rfl rfl rfl ?_
  (refine t_lenS rfl rfl rfl ?_; rw [eqsD_len])
  refine t_int rfl rfl rfl rfl ?_
  refine TL.nil ?_
  repeat refine TC.seq ?_
  refine TC.cond rfl (fun hc => ?_) (fun hc => ?_)
  · have hc' : i < xs.length := by have := of_decide_eq_true hc; omega
    clear hc
    obtain ⟨f0, f1, f2, f3, f4, f5, f6, f7, e0, e1, e2, e3, e4, e5, he, hex⟩ := eqOf_shape xs i
    have hget := eqsD_get (xs := xs) hc'
    rw [he] at hget
    have hnames : (fbyB (xs.getD i 0) = true ∧ (depK xs i).map vn = []) ∨ (fbyB (xs.getD i 0) = false ∧ PT Try.prog 22 [.sl [], .agg [.int .u8 e0, .int .u8 e1, .int .i32 e2, .str e3, e4, e5, .int .i64 0, .int .i64 0], .bool true] (· = [.sl (strs ((depK xs i).map vn))])) := by
      cases hf : fbyB (xs.getD i 0) with
      | true => exact .inl ⟨rfl, by unfold depK; rw [hf]; rfl⟩
      | false =>
        refine .inr ⟨rfl, ?_⟩
        have hnd := sumK_nodup (xs.getD i 0) xs.length
        have h := rReads_ok (sumK (xs.getD i 0) xs.length).reverse [] (by have := sumK_le (xs.getD i 0) xs.length; rw [List.length_reverse]; simp only [List.length_nil]; omega)
        rw [readsE_eq _ (by unfold List.Nodup; rw [List.pairwise_reverse]; exact hnd.imp fun h => Ne.symm h) (fun j hj => by have := sumK_lt (by simpa using hj : j ∈ sumK (xs.getD i 0) xs.length); omega), List.reverse_reverse, show exprR (sumK (xs.getD i 0) xs.length).reverse = _ from hex] at h
        have hd : depK xs i = sumK (xs.getD i 0) xs.length := by unfold depK; rw [hf]; rfl
        rw [hd]; exact h
    have hup := upto_dep xs i
    have hlt : ∀ j ∈ depK xs i, j < 14 := fun j hj => by have := depK_lt hj; omega
    have htk := esL_take hc'
    generalize hR : rowsL ((esL xs).take i) = R
    have hRl : R.length ≤ 14 := by rw [← hR, rowsL_len, List.length_take]; omega
    have hRn : rowsL ((esL xs).take (i + 1)) = R ++ [[.sl (natsR (depK xs i))]] := by rw [htk, rowsL_append, hR]; rfl
    generalize depK xs i = ks at hlt hRn hnames hup
    generalize fbyB (xs.getD i 0) = fb at hget hnames
    generalize hkd : (bif fb then 2 else 1 : Int) = kd at hget
    refine TC.skip ?_
    repeat refine TC.seq ?_
    refine TC.block ?_
    repeat refine TC.seq ?_
    refine TC.region ?_
    first | refine t_fieldD rfl rfl ?_ | refine t_fieldL rfl rfl ?_ | refine t_fieldR rfl rfl ?_ | refine t_fieldW rfl rfl ?_
    first | refine t_loadDc rfl rfl rfl ?_ | refine t_loadLc rfl rfl rfl rfl ?_ | refine t_loadRc rfl rfl rfl rfl ?_
    refine t_move rfl rfl ?_
    refine t_indexD rfl rfl rfl (Int.natCast_nonneg i) hget rfl ?_
    first | refine t_loadDw rfl rfl rfl ?_ | refine t_loadDa rfl rfl rfl ?_ | refine t_loadLa rfl rfl rfl rfl rfl ?_ | refine t_loadRa rfl rfl rfl rfl rfl ?_
    refine t_alloc rfl rfl ?_
    refine t_storeL rfl rfl rfl rfl rfl rfl ?_
    refine TL.nil ?_
    refine TC.reBx [(5, [.d (.int .u8 kd), .d (.sl [[.str (vn i)]]), .d (.str ⟨#[]⟩), .d f0, .d f1, .d f2, .d f3, .d f4, .d f5, .d f6, .d f7, .d (.int .u8 e0), .d (.int .u8 e1), .d (.int .i32 e2), .d (.str e3), .d e4, .d e5, .d (.int .i64 0), .d (.int .i64 0), .d (.sl []), .d (.sl []), .d (.sl [])])] (by intro t; simp only [Go.Mt.get]; cases Nat.beq 5 t <;> rfl) ?_
    repeat refine TC.seq ?_
    refine TC.region ?_
    refine t_assign rfl rfl ?_
    refine TL.nil ?_
    repeat refine TC.seq ?_
    refine TC.region ?_
    first | refine t_fieldD rfl rfl ?_ | refine t_fieldL rfl rfl ?_ | refine t_fieldR rfl rfl ?_ | refine t_fieldW rfl rfl ?_
    first | refine t_loadDc rfl rfl rfl ?_ | refine t_loadLc rfl rfl rfl rfl ?_ | refine t_loadRc rfl rfl rfl rfl ?_
    refine t_int rfl rfl rfl rfl ?_
    refine TL.nil ?_
    repeat refine TC.seq ?_
    refine TC.mid ⟨[(6, .m (.d (.sl (strs (ks.map vn))))), (5, .loc 5 0), (4, .m (.d (.int .i64 i))), (3, .m (genM 0 R)), (1, .m (.d (.pim (chainC xs) 0)))], [(5, [.d (.int .u8 kd), .d (.sl [[.str (vn i)]]), .d (.str ⟨#[]⟩), .d f0, .d f1, .d f2, .d f3, .d f4, .d f5, .d f6, .d f7, .d (.int .u8 e0), .d (.int .u8 e1), .d (.int .i32 e2), .d (.str e3), .d e4, .d e5, .d (.int .i64 0), .d (.int .i64 0), .d (.sl []), .d (.sl []), .d (.sl [])])], genH [] 1 R⟩ ?_ ?_
    · rcases hnames with ⟨rfl, hks⟩ | ⟨rfl, hread⟩
      · subst hkd
        refine TC.cond rfl (fun hc => by cases hc) (fun hc => ?_)
        refine TC.skip ?_
        exact down rfl ⟨by rw [hks]; rfl, rfl, rfl, rfl, rfl, trivial⟩
      · subst hkd
        refine TC.cond rfl (fun hc => ?_) (fun hc => by cases hc)
        repeat refine TC.seq ?_
        refine TC.region ?_
        refine t_move rfl rfl ?_
        first | refine t_fieldD rfl rfl ?_ | refine t_fieldL rfl rfl ?_ | refine t_fieldR rfl rfl ?_ | refine t_fieldW rfl rfl ?_
        first | refine t_loadDw rfl rfl rfl ?_ | refine t_loadDa rfl rfl rfl ?_ | refine t_loadLa rfl rfl rfl rfl rfl ?_ | refine t_loadRa rfl rfl rfl rfl rfl ?_
        refine t_call1 hread rfl rfl ?_
        refine t_assign rfl rfl ?_
        refine TL.nil ?_
        exact down rfl ⟨rfl, rfl, rfl, rfl, rfl, trivial⟩
    repeat refine TC.seq ?_
    refine TC.region ?_
    refine t_assign rfl rfl ?_
    refine TL.nil ?_
    repeat refine TC.seq ?_
    refine TC.block ?_
    refine TC.loopB (fun k0 s1 => s1 = ⟨[(7, .m (.d (.int .i64 0))), (6, .m (.d (.sl (strs (ks.map vn))))), (5, .loc 5 0), (4, .m (.d (.int .i64 i))), (3, .m (genM 0 R)), (1, .m (.d (.pim (chainC xs) 0)))], [(5, [.d (.int .u8 kd), .d (.sl [[.str (vn i)]]), .d (.str ⟨#[]⟩), .d f0, .d f1, .d f2, .d f3, .d f4, .d f5, .d f6, .d f7, .d (.int .u8 e0), .d (.int .u8 e1), .d (.int .i32 e2), .d (.str e3), .d e4, .d e5, .d (.int .i64 0), .d (.int .i64 0), .d (.sl []), .d (.sl []), .d (.sl [])])], genH [] 1 R⟩ ∧ k0 = 0) 0 _ ⟨rfl, rfl⟩ ⟨rfl, rfl, rfl, rfl, rfl, rfl, trivial⟩ ?_
    rintro k0 s1 ⟨rfl, rfl⟩
    repeat refine TC.seq ?_
    refine TC.region ?_
    refine t_move rfl rfl ?_
    first | refine t_fieldD rfl rfl ?_ | refine t_fieldL rfl rfl ?_ | refine t_fieldR rfl rfl ?_ | refine t_fieldW rfl rfl ?_
    first | refine t_loadDc rfl rfl rfl ?_ | refine t_loadLc rfl rfl rfl rfl ?_ | refine t_loadRc rfl rfl rfl rfl ?_
    refine t_lenS rfl rfl rfl ?_
    refine t_int rfl rfl rfl rfl ?_
    refine TL.nil ?_
    repeat refine TC.seq ?_
    refine TC.cond rfl (fun hc => by cases hc) (fun hc => ?_)
    refine TC.exit ?_
    repeat refine TC.seq ?_
    refine TC.region ?_
    refine t_assign rfl rfl ?_
    refine TL.nil ?_
    repeat refine TC.seq ?_
    refine TC.block ?_
    refine TC.loopB (fun k0 s1 => s1 = ⟨[(8, .m (.d (.int .i64 0))), (6, .m (.d (.sl (strs (ks.map vn))))), (5, .loc 5 0), (4, .m (.d (.int .i64 i))), (3, .m (genM 0 R)), (1, .m (.d (.pim (chainC xs) 0)))], [(5, [.d (.int .u8 kd), .d (.sl [[.str (vn i)]]), .d (.str ⟨#[]⟩), .d f0, .d f1, .d f2, .d f3, .d f4, .d f5, .d f6, .d f7, .d (.int .u8 e0), .d (.int .u8 e1), .d (.int .i32 e2), .d (.str e3), .d e4, .d e5, .d (.int .i64 0), .d (.int .i64 0), .d (.sl []), .d (.sl []), .d (.sl [])])], genH [] 1 R⟩ ∧ k0 = 0) 0 _ ⟨rfl, rfl⟩ ⟨rfl, rfl, rfl, rfl, rfl, rfl, trivial⟩ ?_
    rintro k0 s1 ⟨rfl, rfl⟩
    repeat refine TC.seq ?_
    refine TC.region ?_
    refine t_move rfl rfl ?_
    first | refine t_fieldD rfl rfl ?_ | refine t_fieldL rfl rfl ?_ | refine t_fieldR rfl rfl ?_ | refine t_fieldW rfl rfl ?_
    first | refine t_loadDc rfl rfl rfl ?_ | refine t_loadLc rfl rfl rfl rfl ?_ | refine t_loadRc rfl rfl rfl rfl ?_
    refine t_lenS rfl rfl rfl ?_
    refine t_int rfl rfl rfl rfl ?_
    refine TL.nil ?_
    repeat refine TC.seq ?_
    refine TC.cond rfl (fun hc => by cases hc) (fun hc => ?_)
    refine TC.exit ?_
    have hv0 : varsD xs.length ≠ [] := by intro h; have := congrArg List.length h; rw [varsD_len] at this; simp only [List.length_nil] at this; omega
    repeat refine TC.seq ?_
    refine TC.region ?_
    refine t_assign rfl rfl ?_
    refine TL.nil ?_
    repeat refine TC.seq ?_
    refine TC.region ?_
    refine t_move rfl rfl ?_
    first | refine t_fieldD rfl rfl ?_ | refine t_fieldL rfl rfl ?_ | refine t_fieldR rfl rfl ?_ | refine t_fieldW rfl rfl ?_
    first | refine t_loadDc rfl rfl rfl ?_ | refine t_loadLc rfl rfl rfl rfl ?_ | refine t_loadRc rfl rfl rfl rfl ?_
    refine t_append00 rfl rfl rfl ?_
    refine t_assign rfl rfl ?_
    refine TL.nil ?_
    repeat refine TC.seq ?_
    refine TC.region ?_
    refine t_move rfl rfl ?_
    first | refine t_fieldD rfl rfl ?_ | refine t_fieldL rfl rfl ?_ | refine t_fieldR rfl rfl ?_ | refine t_fieldW rfl rfl ?_
    first | refine t_loadDc rfl rfl rfl ?_ | refine t_loadLc rfl rfl rfl rfl ?_ | refine t_loadRc rfl rfl rfl rfl ?_
    refine t_append00 rfl rfl rfl ?_
    refine t_assign rfl rfl ?_
    refine TL.nil ?_
    repeat refine TC.seq ?_
    refine TC.region ?_
    refine t_move rfl rfl ?_
    first | refine t_fieldD rfl rfl ?_ | refine t_fieldL rfl rfl ?_ | refine t_fieldR rfl rfl ?_ | refine t_fieldW rfl rfl ?_
    first | refine t_loadDc rfl rfl rfl ?_ | refine t_loadLc rfl rfl rfl rfl ?_ | refine t_loadRc rfl rfl rfl rfl ?_
    refine t_append0 true rfl rfl rfl rfl (by rfl) hv0 (varsD_lens _) (by rw [varsD_len]; omega) ?_
    refine t_assign rfl rfl ?_
    refine TL.nil ?_
    generalize hH2 : genH [] 1 R ++ [Ob.row true 15 0 (flatM (varsD xs.length))] = H2
    have hH1 : H2.take (genH [] 1 R).length = genH [] 1 R := by rw [← hH2]; simp
    have hH1l : (genH [] 1 R).length ≤ H2.length := by rw [← hH2]; simp
    repeat refine TC.seq ?_
    refine TC.region ?_
    refine t_assign rfl rfl ?_
    refine TL.nil ?_
    repeat refine TC.seq ?_
    refine TC.block ?_
    refine TC.loopB (fun k0 s1 => s1 = ⟨[(10, .m (.d (.int .i64 0))), (6, .m (.d (.sl (strs (ks.map vn))))), (5, .loc 5 0), (4, .m (.d (.int .i64 i))), (3, .m (genM 0 R)), (1, .m (.d (.pim (chainC xs) 0)))], [(5, [.d (.int .u8 kd), .d (.sl [[.str (vn i)]]), .d (.str ⟨#[]⟩), .d f0, .d f1, .d f2, .d f3, .d f4, .d f5, .d f6, .d f7, .d (.int .u8 e0), .d (.int .u8 e1), .d (.int .i32 e2), .d (.str e3), .d e4, .d e5, .d (.int .i64 0), .d (.int .i64 0), .d (.sl []), .d (.sl []), .d (.sl [])])], H2⟩ ∧ k0 = 0) 0 _ ⟨rfl, rfl⟩ ⟨rfl, rfl, rfl, rfl, rfl, rfl, trivial⟩ ?_
    rintro k0 s1 ⟨rfl, rfl⟩
    repeat refine TC.seq ?_
    refine TC.region ?_
    refine t_move rfl rfl ?_
    first | refine t_fieldD rfl rfl ?_ | refine t_fieldL rfl rfl ?_ | refine t_fieldR rfl rfl ?_ | refine t_fieldW rfl rfl ?_
    first | refine t_loadDc rfl rfl rfl ?_ | refine t_loadLc rfl rfl rfl rfl ?_ | refine t_loadRc rfl rfl rfl rfl ?_
    refine t_lenS rfl rfl rfl ?_
    refine t_int rfl rfl rfl rfl ?_
    refine TL.nil ?_
    repeat refine TC.seq ?_
    refine TC.cond rfl (fun hc => by cases hc) (fun hc => ?_)
    refine TC.exit ?_
    repeat refine TC.seq ?_
    refine TC.region ?_
    refine t_assign rfl rfl ?_
    refine TL.nil ?_
    refine TC.rename [(13, .m (genM H2.length (natsR (upto ks 0)))), (6, .m (.d (.sl (strs (ks.map vn))))), (5, .loc 5 0), (4, .m (.d (.int .i64 i))), (3, .m (genM 0 R)), (1, .m (.d (.pim (chainC xs) 0)))] (genH H2 1 (natsR (upto ks 0))) ⟨rfl, rfl, rfl, rfl, rfl, rfl, trivial⟩ rfl ?_
    repeat refine TC.seq ?_
    refine TC.region ?_
    refine t_assign rfl rfl ?_
    refine TL.nil ?_
    repeat refine TC.seq ?_
    refine TC.block ?_
    refine TC.loopB (fun k0 s1 => ∃ k : Nat, s1 = ⟨[(14, .m (.d (.int .i64 k))), (13, .m (genM H2.length (natsR (upto ks k)))), (6, .m (.d (.sl (strs (ks.map vn))))), (5, .loc 5 0), (4, .m (.d (.int .i64 i))), (3, .m (genM 0 R)), (1, .m (.d (.pim (chainC xs) 0)))], [(5, [.d (.int .u8 kd), .d (.sl [[.str (vn i)]]), .d (.str ⟨#[]⟩), .d f0, .d f1, .d f2, .d f3, .d f4, .d f5, .d f6, .d f7, .d (.int .u8 e0), .d (.int .u8 e1), .d (.int .i32 e2), .d (.str e3), .d e4, .d e5, .d (.int .i64 0), .d (.int .i64 0), .d (.sl []), .d (.sl []), .d (.sl [])])], genH H2 1 (natsR (upto ks k))⟩ ∧ k ≤ xs.length ∧ k0 = xs.length - k) xs.length _
      ⟨0, rfl, by omega, rfl⟩ ⟨rfl, rfl, rfl, rfl, rfl, rfl, rfl, trivial⟩ ?_
    rintro k0 s1 ⟨k, rfl, hk, rfl⟩
    repeat refine TC.seq ?_
    refine TC.region ?_
    refine t_move rfl rfl ?_
    first | refine t_fieldD rfl rfl ?_ | refine t_fieldL rfl rfl ?_ | refine t_fieldR rfl rfl ?_ | refine t_fieldW rfl rfl ?_
    first | refine t_loadDc rfl rfl rfl ?_ | refine t_loadLc rfl rfl rfl rfl ?_ | refine t_loadRc rfl rfl rfl rfl ?_
    (refine t_lenS rfl rfl rfl ?_; rw [eqsD_len])
    refine t_int rfl rfl rfl rfl ?_
    refine TL.nil ?_
    repeat refine TC.seq ?_
    refine TC.cond rfl (fun hc => ?_) (fun hc => ?_)
    · have hck : k < xs.length := by have := of_decide_eq_true hc; omega
      clear hc
      obtain ⟨g0, g1, g2, g3, g4, g5, g6, g7, d0, d1, d2, d3, d4, d5, hg, _⟩ := eqOf_shape xs k
      have hgk := eqsD_get (xs := xs) hck
      rw [hg] at hgk
      have hhas : has (ks.map vn) (vn k) = ks.contains k := has_map hlt (by omega)
      have hus := upto_snoc ks k
      have hul := upto_len ks k
      refine TC.skip ?_
      repeat refine TC.seq ?_
      refine TC.block ?_
      repeat refine TC.seq ?_
      refine TC.region ?_
      refine t_assign rfl rfl ?_
      refine TL.nil ?_
      repeat refine TC.seq ?_
      refine TC.region ?_
      refine t_assign rfl rfl ?_
      refine TL.nil ?_
      repeat refine TC.seq ?_
      refine TC.mid ⟨[(15, .m (.d (.bool (ks.contains k)))), (14, .m (.d (.int .i64 k))), (13, .m (genM H2.length (natsR (upto ks k)))), (6, .m (.d (.sl (strs (ks.map vn))))), (5, .loc 5 0), (4, .m (.d (.int .i64 i))), (3, .m (genM 0 R)), (1, .m (.d (.pim (chainC xs) 0)))], [(5, [.d (.int .u8 kd), .d (.sl [[.str (vn i)]]), .d (.str ⟨#[]⟩), .d f0, .d f1, .d f2, .d f3, .d f4, .d f5, .d f6, .d f7, .d (.int .u8 e0), .d (.int .u8 e1), .d (.int .i32 e2), .d (.str e3), .d e4, .d e5, .d (.int .i64 0), .d (.int .i64 0), .d (.sl []), .d (.sl []), .d (.sl [])])], genH H2 1 (natsR (upto ks k))⟩ ?_ ?_
      · refine TC.block ?_
        refine TC.loopB (fun k0 s1 => ∃ (j : Nat) (h : Bool), s1 = ⟨[(16, .m (.d (.int .i64 j))), (15, .m (.d (.bool h))), (14, .m (.d (.int .i64 k))), (13, .m (genM H2.length (natsR (upto ks k)))), (6, .m (.d (.sl (strs (ks.map vn))))), (5, .loc 5 0), (4, .m (.d (.int .i64 i))), (3, .m (genM 0 R)), (1, .m (.d (.pim (chainC xs) 0)))], [(5, [.d (.int .u8 kd), .d (.sl [[.str (vn i)]]), .d (.str ⟨#[]⟩), .d f0, .d f1, .d f2, .d f3, .d f4, .d f5, .d f6, .d f7, .d (.int .u8 e0), .d (.int .u8 e1), .d (.int .i32 e2), .d (.str e3), .d e4, .d e5, .d (.int .i64 0), .d (.int .i64 0), .d (.sl []), .d (.sl []), .d (.sl [])])], genH H2 1 (natsR (upto ks k))⟩ ∧ k0 = 1 - j ∧ (j = 0 ∧ h = false ∨ j = 1 ∧ h = ks.contains k)) 1 _
          ⟨0, false, rfl, rfl, .inl ⟨rfl, rfl⟩⟩ ⟨rfl, rfl, rfl, rfl, rfl, rfl, rfl, rfl, rfl, trivial⟩ ?_
        rintro k0 s1 ⟨j, h, rfl, rfl, hj⟩
        repeat refine TC.seq ?_
        refine TC.region ?_
        refine t_move rfl rfl ?_
        first | refine t_fieldD rfl rfl ?_ | refine t_fieldL rfl rfl ?_ | refine t_fieldR rfl rfl ?_ | refine t_fieldW rfl rfl ?_
        first | refine t_loadDc rfl rfl rfl ?_ | refine t_loadLc rfl rfl rfl rfl ?_ | refine t_loadRc rfl rfl rfl rfl ?_
        refine t_move rfl rfl ?_
        refine t_indexD rfl rfl rfl (Int.natCast_nonneg k) hgk rfl ?_
        first | refine t_fieldD rfl rfl ?_ | refine t_fieldL rfl rfl ?_ | refine t_fieldR rfl rfl ?_ | refine t_fieldW rfl rfl ?_
        first | refine t_loadDc rfl rfl rfl ?_ | refine t_loadLc rfl rfl rfl rfl ?_ | refine t_loadRc rfl rfl rfl rfl ?_
        refine t_lenS rfl rfl rfl ?_
        refine t_int rfl rfl rfl rfl ?_
        refine TL.nil ?_
        repeat refine TC.seq ?_
        rcases hj with ⟨rfl, rfl⟩ | ⟨rfl, rfl⟩
        · refine TC.cond rfl (fun hc => ?_) (fun hc => by cases hc)
          refine TC.skip ?_
          repeat refine TC.seq ?_
          refine TC.block ?_
          repeat refine TC.seq ?_
          refine TC.region ?_
          refine t_move rfl rfl ?_
          refine t_move rfl rfl ?_
          first | refine t_guard_no rfl rfl ?_ | (refine t_guard_yes rfl ?_; (refine t_move rfl rfl ?_))
          first | refine t_guard_no rfl rfl ?_ | (refine t_guard_yes rfl ?_; (first | refine t_fieldD rfl rfl ?_ | refine t_fieldL rfl rfl ?_ | refine t_fieldR rfl rfl ?_ | refine t_fieldW rfl rfl ?_))
          first | refine t_guard_no rfl rfl ?_ | (refine t_guard_yes rfl ?_; (first | refine t_loadDc rfl rfl rfl ?_ | refine t_loadLc rfl rfl rfl rfl ?_ | refine t_loadRc rfl rfl rfl rfl ?_))
          first | refine t_guard_no rfl rfl ?_ | (refine t_guard_yes rfl ?_; (refine t_move rfl rfl ?_))
          first | refine t_guard_no rfl rfl ?_ | (refine t_guard_yes rfl ?_; (refine t_indexD rfl rfl rfl (Int.natCast_nonneg k) hgk rfl ?_))
          first | refine t_guard_no rfl rfl ?_ | (refine t_guard_yes rfl ?_; (first | refine t_fieldD rfl rfl ?_ | refine t_fieldL rfl rfl ?_ | refine t_fieldR rfl rfl ?_ | refine t_fieldW rfl rfl ?_))
          first | refine t_guard_no rfl rfl ?_ | (refine t_guard_yes rfl ?_; (first | refine t_loadDc rfl rfl rfl ?_ | refine t_loadLc rfl rfl rfl rfl ?_ | refine t_loadRc rfl rfl rfl rfl ?_))
          first | refine t_guard_no rfl rfl ?_ | (refine t_guard_yes rfl ?_; (refine t_move rfl rfl ?_))
          first | refine t_guard_no rfl rfl ?_ | (refine t_guard_yes rfl ?_; (refine t_indexD rfl rfl rfl (by decide) (r := [.str (vn k)]) rfl rfl ?_))
          first | refine t_guard_no rfl rfl ?_ | (refine t_guard_yes rfl ?_; (first | refine t_loadDc rfl rfl rfl ?_ | refine t_loadLc rfl rfl rfl rfl ?_ | refine t_loadRc rfl rfl rfl rfl ?_))
          first | refine t_guard_no rfl rfl ?_ | (refine t_guard_yes rfl ?_; ((refine t_call1 (rHas_ok (ks.map vn) (vn k)) rfl rfl ?_; rw [hhas])))
          refine t_pick rfl rfl rfl ?_
          refine t_assign rfl rfl ?_
          refine TL.nil ?_
          repeat refine TC.seq ?_
          refine TC.region ?_
          refine t_move rfl rfl ?_
          refine t_add64 rfl rfl rfl (by omega) ?_
          refine t_assign rfl rfl ?_
          refine TL.nil ?_
          exact again (k' := 0) (by omega) ⟨1, _, rfl, rfl, .inr ⟨rfl, rfl⟩⟩ rfl ⟨rfl, rfl, rfl, rfl, rfl, rfl, rfl, rfl, rfl, trivial⟩
        · refine TC.cond rfl (fun hc => by cases hc) (fun hc => ?_)
          refine TC.exit ?_
          exact down rfl ⟨rfl, rfl, rfl, rfl, rfl, rfl, rfl, rfl, trivial⟩
      · repeat refine TC.seq ?_
        refine TC.region ?_
        refine t_move rfl rfl ?_
        refine TL.nil ?_
        repeat refine TC.seq ?_
        cases hcon : ks.contains k with
        | true =>
          rw [hcon] at hus
          simp only [if_true] at hus
          refine TC.cond rfl (fun hc => ?_) (fun hc => by cases hc)
          repeat refine TC.seq ?_
          refine TC.region ?_
          refine t_move rfl rfl ?_
          refine t_move rfl rfl ?_
          refine t_buildSlice rfl rfl rfl rfl rfl rfl rfl rfl ?_
          refine t_snoc (H0 := H2) rfl rfl rfl rfl (by rfl) rfl (by rw [natsR_len]; omega) (by rw [natsR_len]; omega) ?_
          refine t_assign rfl rfl ?_
          refine TL.nil ?_
          repeat refine TC.seq ?_
          refine TC.region ?_
          refine t_move rfl rfl ?_
          refine t_add64 rfl rfl rfl (by omega) ?_
          refine t_assign rfl rfl ?_
          refine TL.nil ?_
          exact again (k' := xs.length - (k + 1)) (by omega) ⟨k + 1, rfl, by omega, rfl⟩ (by rw [hus, natsR_append]; rfl) ⟨by simp; rfl, by rw [hus, natsR_append]; rfl, rfl, rfl, rfl, rfl, rfl, trivial⟩
        | false =>
          rw [hcon] at hus
          simp only [Bool.false_eq_true, if_false] at hus
          refine TC.cond rfl (fun hc => by cases hc) (fun hc => ?_)
          refine TC.skip ?_
          repeat refine TC.seq ?_
          refine TC.region ?_
          refine t_move rfl rfl ?_
          refine t_add64 rfl rfl rfl (by omega) ?_
          refine t_assign rfl rfl ?_
          refine TL.nil ?_
          exact again (k' := xs.length - (k + 1)) (by omega) ⟨k + 1, rfl, by omega, rfl⟩ (by rw [hus]) ⟨by simp; rfl, by rw [hus]; rfl, rfl, rfl, rfl, rfl, rfl, trivial⟩
    · refine TC.exit ?_
      have hck : k = xs.length := by have := of_decide_eq_false hc; omega
      subst hck
      rw [hup]
      refine TC.viewSlot 13 rfl (gen_view H2 1 (natsR ks) (natsR_lens _)) ?_
      refine TC.trim (genH [] 1 R).length (Nat.le_trans hbase (Nat.zero_le _)) (Nat.le_trans hH1l (genH_len _ _ _)) (by rw [genH_take2 hH1l, hH1]) (HB_gen (by intro ob hob; cases hob)) (sl' := [(13, .m (.d (.sl (natsR ks)))), (4, .m (.d (.int .i64 i))), (3, .m (genM 0 R)), (1, .m (.d (.pim (chainC xs) 0)))])
        ⟨⟨rfl, .d _⟩, ⟨rfl, .d _⟩, ⟨rfl, MB_gen [] 1 R⟩, ⟨rfl, .d _⟩, trivial⟩ ?_
      repeat refine TC.seq ?_
      refine TC.region ?_
      refine t_move rfl rfl ?_
      refine t_move rfl rfl ?_
      refine t_buildSlice rfl rfl rfl rfl rfl rfl rfl rfl ?_
      refine t_snoc (H0 := []) rfl rfl rfl rfl (by rfl) rfl (by omega) (by omega) ?_
      refine t_assign rfl rfl ?_
      refine TL.nil ?_
      repeat refine TC.seq ?_
      refine TC.region ?_
      refine t_move rfl rfl ?_
      refine t_add64 rfl rfl rfl (by omega) ?_
      refine t_assign rfl rfl ?_
      refine TL.nil ?_
      exact again (k' := xs.length - (i + 1)) (by omega) ⟨i + 1, rfl, by omega, rfl⟩ (by rw [hRn]; rfl) ⟨by simp; rfl, by rw [hRn]; rfl, rfl, trivial⟩
  · refine TC.exit ?_
    have hc' : i = xs.length := by have := of_decide_eq_false hc; omega
    subst hc'
    rw [List.take_of_length_le (by rw [esL_len]; exact Nat.le_refl _)]
    repeat refine TC.seq ?_
    refine TC.region ?_
    refine t_move rfl rfl ?_
    refine t_assign rfl rfl ?_
    refine TL.nil ?_
    refine TC.viewSlot 2 rfl (gen_view [] 1 (rowsL (esL xs)) (rowsL_lens _)) ?_
    exact TC.ret ⟨_, rfl, [_], rfl, rfl⟩
end Go.Proofs
