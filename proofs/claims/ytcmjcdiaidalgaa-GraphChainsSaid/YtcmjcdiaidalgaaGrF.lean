/- Which equation defines a variable; the clocks of variables (there are none). -/
import Derived.Test.YtcmjcdiaidalgaaGrE
namespace Go.Proofs
open Go.Mt
set_option maxRecDepth 4000
set_option linter.unusedSimpArgs false
set_option linter.unusedVariables false
/-- room for a slice of n elements -/
def growM (H : Hp) (n : Nat) : M := if n = 0 then .d (.sl []) else .rsl H.length 1 0
def growH (H : Hp) (ec n : Nat) : Hp := if n = 0 then H else H ++ [.row true ec 1 []]
theorem flat_take_succ {α : Type} (L : List (List α)) (i : Nat) (h : i < L.length) : (L.take (i + 1)).flatten = (L.take i).flatten ++ L[i] := by
  rw [List.take_succ_eq_append_getElem h, List.flatten_append]; simp
theorem flat_take_le {α : Type} (L : List (List α)) (i : Nat) : (L.take i).flatten.length ≤ L.flatten.length := by
  have : L.flatten = (L.take i).flatten ++ (L.drop i).flatten := by rw [← List.flatten_append, List.take_append_drop]
  rw [this, List.length_append]; omega
theorem growV_ok (n : Nat) (H : Hp) (hn : n ≤ 1000000) : CT Try.prog 74 [.d (.sl []), .d (.int .i64 n)] H fun r h => r = growM H n ∧ h = growH H 15 n := by
  refine CT.of_body Try.func74 rfl Try.ntmps74 rfl fun s0 Oo => ?_
  repeat refine TC.seq ?_
  refine TC.region ?_
  refine t_assign rfl rfl ?_
  refine TL.nil ?_
  repeat refine TC.seq ?_
  refine TC.region ?_
  refine t_move rfl rfl ?_
  refine t_int rfl rfl rfl rfl ?_
  refine TL.nil ?_
  repeat refine TC.seq ?_
  refine TC.cond rfl (fun hc => by have := of_decide_eq_true hc; omega) (fun hc => ?_)
  refine TC.skip ?_
  repeat refine TC.seq ?_
  refine TC.region ?_
  refine t_move rfl rfl ?_
  refine t_move rfl rfl ?_
  refine t_cap0 rfl rfl ?_
  refine t_move rfl rfl ?_
  refine t_lenS rfl rfl rfl ?_
  refine t_sub64 rfl rfl rfl (by simp) ?_
  (refine t_sub64 rfl rfl rfl (by simp; omega) ?_; rw [show ((n : Int) - (0 - ((List.length ([] : List (List D)) : Nat) : Int))) = (n : Int) by simp])
  refine t_assign rfl rfl ?_
  refine TL.nil ?_
  repeat refine TC.seq ?_
  refine TC.region ?_
  refine t_move rfl rfl ?_
  refine t_int rfl rfl rfl rfl ?_
  refine TL.nil ?_
  repeat refine TC.seq ?_
  refine TC.cond rfl (fun hc => ?_) (fun hc => ?_)
  · have hp : 0 < n := by have := of_decide_eq_true hc; omega
    repeat refine TC.seq ?_
    refine TC.region ?_
    refine t_move rfl rfl ?_
    refine t_move rfl rfl ?_
    refine t_cap0 rfl rfl ?_
    refine t_slice0 rfl rfl rfl ?_
    refine t_move rfl rfl ?_
    refine t_appendZ (len := n) rfl rfl rfl rfl (by rfl) hp (by omega) (by omega) ?_
    refine t_move rfl rfl ?_
    refine t_lenS rfl rfl rfl ?_
    refine t_sliceR true rfl rfl rfl (by exact List.getElem?_concat_length) (by simp) (by simp) ?_
    refine t_assign rfl rfl ?_
    refine TL.nil ?_
    repeat refine TC.seq ?_
    refine TC.region ?_
    refine t_move rfl rfl ?_
    refine t_assign rfl rfl ?_
    refine TL.nil ?_
    refine TC.ret ⟨_, rfl, ?_, ?_⟩
    · simp only [growM, if_neg (show ¬ n = 0 by omega)]; rfl
    · simp only [growH, if_neg (show ¬ n = 0 by omega)]; simp
  · refine TC.skip ?_
    have hp : n = 0 := by have := of_decide_eq_false hc; omega
    repeat refine TC.seq ?_
    refine TC.region ?_
    refine t_move rfl rfl ?_
    refine t_assign rfl rfl ?_
    refine TL.nil ?_
    refine TC.ret ⟨_, rfl, ?_, ?_⟩
    · simp only [growM, if_pos hp]; rfl
    · simp only [growH, if_pos hp]
theorem concatV_ok (L : List (List (List D))) (hl : ∀ l ∈ L, ∀ r ∈ l, r.length = 15) (hL : L.length ≤ 1000) (hsum : L.flatten.length ≤ 1000000) :
    PT Try.prog 55 [.sl (L.map fun l => [D.sl l])] (· = [.sl L.flatten]) := by
  refine PT.of_CT (CT.of_body Try.func55 rfl Try.ntmps55 rfl fun s0 Oo => ?_)
  repeat refine TC.seq ?_
  refine TC.region ?_
  refine t_assign rfl rfl ?_
  refine TL.nil ?_
  repeat refine TC.seq ?_
  refine TC.region ?_
  refine t_assign rfl rfl ?_
  refine TL.nil ?_
  repeat refine TC.seq ?_
  refine TC.region ?_
  refine t_move rfl rfl ?_
  (refine t_lenS rfl rfl rfl ?_; rw [List.length_map])
  refine t_move rfl rfl ?_
  refine TL.nil ?_
  repeat refine TC.seq ?_
  refine TC.block ?_
  refine TC.loopB (fun k s => ∃ (i : Nat), s = ⟨[(11, .m (.d (.int .i64 i))), (10, .m (.d (.int .i64 (L.length : Nat)))), (9, .m (.d (.sl (L.map fun l => [D.sl l])))), (3, .m (.d (.int .i64 ((L.take i).flatten.length : Nat)))), (0, .m (.d (.sl (L.map fun l => [D.sl l]))))], [], []⟩ ∧ i ≤ L.length ∧ k = L.length - i) L.length _
    ⟨0, rfl, by omega, rfl⟩ ⟨rfl, rfl, rfl, rfl, rfl, trivial⟩ ?_
  rintro k s ⟨i, rfl, hi, rfl⟩
  have htk := flat_take_le L i
  repeat refine TC.seq ?_
  refine TC.region ?_
  refine t_int rfl rfl rfl rfl ?_
  refine TL.nil ?_
  repeat refine TC.seq ?_
  refine TC.cond rfl (fun hc => ?_) (fun hc => ?_)
  · have hc' : i < L.length := by have := of_decide_eq_true hc; omega
    have hnx := flat_take_succ L i hc'
    have htk2 := flat_take_le L (i + 1)
    rw [hnx, List.length_append] at htk2
    refine TC.skip ?_
    repeat refine TC.seq ?_
    refine TC.block ?_
    repeat refine TC.seq ?_
    refine TC.region ?_
    refine t_indexD rfl rfl rfl (Int.natCast_nonneg i) (r := [.sl L[i]]) (by simp [hc']) rfl ?_
    first | refine t_loadDc rfl rfl rfl ?_ | refine t_loadLc rfl rfl rfl rfl ?_ | refine t_loadRc rfl rfl rfl rfl ?_
    refine t_assign rfl rfl ?_
    refine TL.nil ?_
    repeat refine TC.seq ?_
    refine TC.region ?_
    refine t_move rfl rfl ?_
    refine t_move rfl rfl ?_
    refine t_lenS rfl rfl rfl ?_
    refine t_add64 rfl rfl rfl (by omega) ?_
    refine t_assign rfl rfl ?_
    refine TL.nil ?_
    repeat refine TC.seq ?_
    refine TC.region ?_
    refine t_move rfl rfl ?_
    refine t_int rfl rfl rfl rfl ?_
    refine TL.nil ?_
    repeat refine TC.seq ?_
    refine TC.cond rfl (fun hc => by have := of_decide_eq_true hc; omega) (fun hc => ?_)
    refine TC.skip ?_
    repeat refine TC.seq ?_
    refine TC.region ?_
    refine t_add64 rfl rfl rfl (by omega) ?_
    refine t_move rfl rfl ?_
    refine TL.nil ?_
    exact again (k' := L.length - (i + 1)) (by omega) ⟨i + 1, rfl, by omega, rfl⟩ rfl ⟨by simp; rfl, rfl, rfl, by rw [hnx, List.length_append, Int.natCast_add]; rfl, rfl, trivial⟩
  refine TC.exit ?_
  obtain rfl : i = L.length := by have := of_decide_eq_false hc; omega
  rw [List.take_length]
  repeat refine TC.seq ?_
  refine TC.region ?_
  refine t_move rfl rfl ?_
  (refine t_callR (growV_ok L.flatten.length [] hsum) rfl rfl ?_; rintro _ _ ⟨rfl, rfl⟩)
  refine t_assign rfl rfl ?_
  refine TL.nil ?_
  repeat refine TC.seq ?_
  refine TC.region ?_
  refine t_move rfl rfl ?_
  (refine t_lenS rfl rfl rfl ?_; rw [List.length_map])
  refine t_move rfl rfl ?_
  refine TL.nil ?_
  repeat refine TC.seq ?_
  refine TC.block ?_
  by_cases h0 : L.flatten.length = 0
  · rw [growM, growH, if_pos h0, if_pos h0]
    refine TC.loopB (fun k s => ∃ (i : Nat), s = ⟨[(27, .m (.d (.int .i64 i))), (26, .m (.d (.int .i64 (L.length : Nat)))), (25, .m (.d (.sl (L.map fun l => [D.sl l])))), (6, .m (.d (.sl [])))], [], []⟩ ∧ i ≤ L.length ∧ k = L.length - i) L.length _
      ⟨0, rfl, by omega, rfl⟩ ⟨rfl, rfl, rfl, rfl, trivial⟩ ?_
    rintro k s ⟨i, rfl, hi, rfl⟩
    repeat refine TC.seq ?_
    refine TC.region ?_
    refine t_int rfl rfl rfl rfl ?_
    refine TL.nil ?_
    repeat refine TC.seq ?_
    refine TC.cond rfl (fun hc => ?_) (fun hc => ?_)
    · have hc' : i < L.length := by have := of_decide_eq_true hc; omega
      have hz : L[i] = [] := by
        have h1 := List.eq_nil_of_length_eq_zero h0
        rw [List.flatten_eq_nil_iff] at h1
        exact h1 _ (List.getElem_mem hc')
      refine TC.skip ?_
      repeat refine TC.seq ?_
      refine TC.block ?_
      repeat refine TC.seq ?_
      refine TC.region ?_
      refine t_indexD rfl rfl rfl (Int.natCast_nonneg i) (r := [.sl []]) (by simp [hc', hz]) rfl ?_
      first | refine t_loadDc rfl rfl rfl ?_ | refine t_loadLc rfl rfl rfl rfl ?_ | refine t_loadRc rfl rfl rfl rfl ?_
      refine t_assign rfl rfl ?_
      refine TL.nil ?_
      repeat refine TC.seq ?_
      refine TC.region ?_
      refine t_move rfl rfl ?_
      refine t_move rfl rfl ?_
      refine t_append00 rfl rfl rfl ?_
      refine t_assign rfl rfl ?_
      refine TL.nil ?_
      repeat refine TC.seq ?_
      refine TC.region ?_
      refine t_add64 rfl rfl rfl (by omega) ?_
      refine t_move rfl rfl ?_
      refine TL.nil ?_
      exact again (k' := L.length - (i + 1)) (by omega) ⟨i + 1, rfl, by omega, rfl⟩ rfl ⟨by simp; rfl, rfl, rfl, rfl, trivial⟩
    refine TC.exit ?_
    repeat refine TC.seq ?_
    refine TC.region ?_
    refine t_move rfl rfl ?_
    refine t_assign rfl rfl ?_
    refine TL.nil ?_
    exact TC.ret ⟨_, rfl, [_], rfl, by rw [List.eq_nil_of_length_eq_zero h0]⟩
  · rw [growM, growH, if_neg h0, if_neg h0]
    refine TC.loopB (fun k s => ∃ (i : Nat), s = ⟨[(27, .m (.d (.int .i64 i))), (26, .m (.d (.int .i64 (L.length : Nat)))), (25, .m (.d (.sl (L.map fun l => [D.sl l])))), (6, .m (.rsl 0 (i + 1) (L.take i).flatten.length))], [], [.row true 15 (i + 1) (flatM (L.take i).flatten)]⟩ ∧ i ≤ L.length ∧ k = L.length - i) L.length _
      ⟨0, rfl, by omega, rfl⟩ ⟨rfl, rfl, rfl, rfl, trivial⟩ ?_
    rintro k s ⟨i, rfl, hi, rfl⟩
    have htk := flat_take_le L i
    repeat refine TC.seq ?_
    refine TC.region ?_
    refine t_int rfl rfl rfl rfl ?_
    refine TL.nil ?_
    repeat refine TC.seq ?_
    refine TC.cond rfl (fun hc => ?_) (fun hc => ?_)
    · have hc' : i < L.length := by have := of_decide_eq_true hc; omega
      have hnx := flat_take_succ L i hc'
      have htk2 := flat_take_le L (i + 1)
      rw [hnx, List.length_append] at htk2
      refine TC.skip ?_
      repeat refine TC.seq ?_
      refine TC.block ?_
      repeat refine TC.seq ?_
      refine TC.region ?_
      refine t_indexD rfl rfl rfl (Int.natCast_nonneg i) (r := [.sl L[i]]) (by simp [hc']) rfl ?_
      first | refine t_loadDc rfl rfl rfl ?_ | refine t_loadLc rfl rfl rfl rfl ?_ | refine t_loadRc rfl rfl rfl rfl ?_
      refine t_assign rfl rfl ?_
      refine TL.nil ?_
      repeat refine TC.seq ?_
      refine TC.region ?_
      refine t_move rfl rfl ?_
      refine t_move rfl rfl ?_
      refine t_appendR rfl rfl rfl rfl (by rfl) (by exact hl _ (List.getElem_mem hc')) (by omega) (by omega) ?_
      refine t_assign rfl rfl ?_
      refine TL.nil ?_
      repeat refine TC.seq ?_
      refine TC.region ?_
      refine t_add64 rfl rfl rfl (by omega) ?_
      refine t_move rfl rfl ?_
      refine TL.nil ?_
      exact again (k' := L.length - (i + 1)) (by omega) ⟨i + 1, rfl, by omega, rfl⟩ (by rw [hnx]; simp [flatM]) ⟨by simp; rfl, rfl, rfl, by rw [hnx, List.length_append]; rfl, trivial⟩
    refine TC.exit ?_
    obtain rfl : i = L.length := by have := of_decide_eq_false hc; omega
    rw [List.take_length]
    repeat refine TC.seq ?_
    refine TC.region ?_
    refine t_move rfl rfl ?_
    refine t_assign rfl rfl ?_
    refine TL.nil ?_
    refine TC.viewSlot 2 rfl (Acc.view (n := 15) (i := 0) (rs := L.flatten) (.inr ⟨by intro h; rw [h] at h0; exact h0 rfl, _, rfl, rfl⟩) (by intro r hr; obtain ⟨l, h1, h2⟩ := List.mem_flatten.1 hr; exact hl l h1 r h2)) ?_
    exact TC.ret ⟨_, rfl, [_], rfl, rfl⟩

theorem vn_inj {i j : Nat} (hi : i < 14) (hj : j < 14) (h : vn i = vn j) : i = j := by
  have hw : ∀ k : Nat, k < 14 → IntKind.u8.wrap (97 + (k : Int)) = 97 + (k : Int) := by
    intro k hk
    simp only [IntKind.wrap, IntKind.signed, IntKind.bits]
    have : (97 + (k : Int)) % 256 = 97 + k := by omega
    simp [this]
  unfold vn at h
  rw [hw i hi, hw j hj] at h
  have h2 := congrArg (fun b => b.data.toList) h
  simp [ByteArray.data_append, strOfNums] at h2
  have h3 := congrArg UInt8.toNat h2
  simp at h3
  omega

/-- a map of names: of each place in a list what stands under its name -/
def nameMap (f : Nat → D) (l : List Nat) : List (D × M) := l.map fun k => (.str (vn k), .d (f k))
theorem nameMap_keys (f : Nat → D) (l : List Nat) : strKeys (nameMap f l) = true := by
  induction l with
  | nil => rfl
  | cons a r ih => exact ih
theorem nameMap_upd (f : Nat → D) (k : Nat) : ∀ (l : List Nat), (∀ j ∈ l, vn j ≠ vn k) → updM (vn k) (.d (f k)) (nameMap f l) = nameMap f (l ++ [k])
  | [], _ => rfl
  | a :: r, h => by
    have ha : decide (vn a = vn k) = false := decide_eq_false (h a (by simp))
    have ih := nameMap_upd f k r (fun j hj => h j (by simp [hj]))
    simp only [nameMap, List.map_cons, List.cons_append, updM, ha, cond_false] at ih ⊢
    rw [ih]
theorem nameMap_look (f : Nat → D) (k : Nat) : ∀ (l : List Nat), (∀ j ∈ l, vn j = vn k → j = k) → k ∈ l → lookM (vn k) (nameMap f l) = some (.d (f k))
  | [], _, h => by simp at h
  | a :: r, h, hk => by
    simp only [nameMap, List.map_cons, lookM]
    by_cases ha : vn a = vn k
    · have := h a (by simp) ha
      subst this
      simp
    · have hr : k ∈ r := by
        rcases List.mem_cons.1 hk with e | e
        · subst e; exact absurd rfl ha
        · exact e
      have ih := nameMap_look f k r (fun j hj => h j (by simp [hj])) hr
      simp only [ha, decide_false, cond_false]
      exact ih
def byE (n : Nat) : List (D × M) := nameMap (fun k => .int .i64 (k : Int)) (List.range n)
def ckE (n : Nat) : List (D × M) := nameMap (fun _ => .sl []) (List.range n)

/-- an equation, cell by cell -/
theorem eqOf_shape (xs : List Int) (i : Nat) : ∃ f0 f1 f2 f3 f4 f5 f6 f7 e0 e1 e2 e3 e4 e5, eqOf xs i = [.int .u8 (bif fbyB (xs.getD i 0) then 2 else 1), .sl [[.str (vn i)]], .str ⟨#[]⟩, f0, f1, f2, f3, f4, f5, f6, f7, .int .u8 e0, .int .u8 e1, .int .i32 e2, .str e3, e4, e5, .int .i64 0, .int .i64 0, .sl [], .sl [], .sl []] ∧
    exprOf (sumK (xs.getD i 0) xs.length) = [.int .u8 e0, .int .u8 e1, .int .i32 e2, .str e3, e4, e5, .int .i64 0, .int .i64 0] := by
  obtain ⟨e1, e2, e3, e4, e5, e6, he⟩ := exprR_shape (sumK (xs.getD i 0) xs.length).reverse
  unfold eqOf eqC exprOf
  rw [he]
  cases fbyB (xs.getD i 0)
  · exact ⟨_, _, _, _, _, _, _, _, _, _, _, _, _, _, rfl, rfl⟩
  · exact ⟨_, _, _, _, _, _, _, _, _, _, _, _, _, _, rfl, rfl⟩

theorem by_ok (xs : List Int) (hn : xs.length ≤ 14) : CT Try.prog 40 [.d (.agg (chainC xs))] [] fun r h => r = .mp 0 ∧ h = [.map (byE xs.length)] := by
  refine CT.of_body Try.func40 rfl Try.ntmps40 rfl fun s0 Oo => ?_
  repeat refine TC.seq ?_
  refine TC.region ?_
  refine t_box rfl rfl ?_
  refine t_assign rfl rfl ?_
  refine TL.nil ?_
  repeat refine TC.seq ?_
  refine TC.region ?_
  refine t_makeMap rfl ?_
  refine t_assign rfl rfl ?_
  refine TL.nil ?_
  repeat refine TC.seq ?_
  refine TC.region ?_
  first | refine t_fieldD rfl rfl ?_ | refine t_fieldL rfl rfl ?_ | refine t_fieldR rfl rfl ?_ | refine t_fieldW rfl rfl ?_
  first | refine t_loadDc rfl rfl rfl ?_ | refine t_loadLc rfl rfl rfl rfl ?_ | refine t_loadRc rfl rfl rfl rfl ?_
  (refine t_lenS rfl rfl rfl ?_; rw [eqsD_len])
  refine t_move rfl rfl ?_
  refine TL.nil ?_
  repeat refine TC.seq ?_
  refine TC.block ?_
  refine TC.loopB (fun k s => ∃ (i : Nat) (bx : List (Nat × List M)), s = ⟨[(12, .m (.d (.int .i64 i))), (11, .m (.d (.int .i64 (xs.length : Nat)))), (10, .m (.d (.sl (eqsD xs xs.length)))), (3, .m (.mp 0))], bx, [.map (byE i)]⟩ ∧ i ≤ xs.length ∧ k = xs.length - i) xs.length _
    ⟨0, _, rfl, by omega, rfl⟩ ⟨rfl, rfl, rfl, rfl, trivial⟩ ?_
  rintro k s ⟨i, bx, rfl, hi, rfl⟩
  repeat refine TC.seq ?_
  refine TC.region ?_
  refine t_int rfl rfl rfl rfl ?_
  refine TL.nil ?_
  repeat refine TC.seq ?_
  refine TC.cond rfl (fun hc => ?_) (fun hc => ?_)
  · have hc' : i < xs.length := by have := of_decide_eq_true hc; omega
    clear hc
    obtain ⟨f0, f1, f2, f3, f4, f5, f6, f7, e0, e1, e2, e3, e4, e5, he, _⟩ := eqOf_shape xs i
    have hget := eqsD_get (xs := xs) hc'
    rw [he] at hget
    refine TC.skip ?_
    repeat refine TC.seq ?_
    refine TC.block ?_
    repeat refine TC.seq ?_
    refine TC.region ?_
    refine t_move rfl rfl ?_
    refine t_indexD rfl rfl rfl (Int.natCast_nonneg i) hget rfl ?_
    first | refine t_loadDw rfl rfl rfl ?_ | refine t_loadDa rfl rfl rfl ?_ | refine t_loadLa rfl rfl rfl rfl rfl ?_ | refine t_loadRa rfl rfl rfl rfl rfl ?_
    refine t_alloc rfl rfl ?_
    refine t_assign rfl rfl ?_
    refine t_storeL rfl rfl rfl rfl rfl rfl ?_
    refine TL.nil ?_
    repeat refine TC.seq ?_
    refine TC.region ?_
    first | refine t_fieldD rfl rfl ?_ | refine t_fieldL rfl rfl ?_ | refine t_fieldR rfl rfl ?_ | refine t_fieldW rfl rfl ?_
    first | refine t_loadDc rfl rfl rfl ?_ | refine t_loadLc rfl rfl rfl rfl ?_ | refine t_loadRc rfl rfl rfl rfl ?_
    refine t_lenS rfl rfl rfl ?_
    refine t_move rfl rfl ?_
    refine TL.nil ?_
    repeat refine TC.seq ?_
    refine TC.block ?_
    refine TC.loopB (fun k s => ∃ (j : Nat) (bx : List (Nat × List M)), s = ⟨[(20, .m (.d (.int .i64 j))), (19, .m (.d (.int .i64 1))), (18, .m (.d (.sl [[.str (vn i)]]))), (12, .m (.d (.int .i64 i))), (11, .m (.d (.int .i64 (xs.length : Nat)))), (10, .m (.d (.sl (eqsD xs xs.length)))), (4, .m (.d (.int .i64 i))), (3, .m (.mp 0))], bx, [.map (byE (i + j))]⟩ ∧ j ≤ 1 ∧ k = 1 - j) 1 _
      ⟨0, _, rfl, by omega, rfl⟩ ⟨rfl, rfl, rfl, rfl, rfl, rfl, rfl, rfl, trivial⟩ ?_
    rintro k s ⟨j, bx, rfl, hj, rfl⟩
    have hj2 : j = 0 ∨ j = 1 := by omega
    repeat refine TC.seq ?_
    refine TC.region ?_
    refine t_int rfl rfl rfl rfl ?_
    refine TL.nil ?_
    repeat refine TC.seq ?_
    rcases hj2 with rfl | rfl
    · refine TC.cond rfl (fun hc => ?_) (fun hc => by cases hc)
      refine TC.skip ?_
      repeat refine TC.seq ?_
      refine TC.block ?_
      repeat refine TC.seq ?_
      refine TC.region ?_
      refine t_indexD rfl rfl rfl (by decide) (r := [.str (vn i)]) rfl rfl ?_
      first | refine t_loadDc rfl rfl rfl ?_ | refine t_loadLc rfl rfl rfl rfl ?_ | refine t_loadRc rfl rfl rfl rfl ?_
      refine t_assign rfl rfl ?_
      refine TL.nil ?_
      repeat refine TC.seq ?_
      refine TC.region ?_
      refine t_move rfl rfl ?_
      refine t_move rfl rfl ?_
      refine t_move rfl rfl ?_
      refine t_mapUpdate rfl rfl rfl rfl (nameMap_keys _ _) ?_
      refine TL.nil ?_
      repeat refine TC.seq ?_
      refine TC.region ?_
      refine t_add64 rfl rfl rfl (by omega) ?_
      refine t_move rfl rfl ?_
      refine TL.nil ?_
      refine again (k' := 0) (by omega) ⟨1, _, rfl, by omega, rfl⟩ ?_ ⟨rfl, rfl, rfl, rfl, rfl, rfl, rfl, rfl, trivial⟩
      have hu := nameMap_upd (fun k => .int .i64 (k : Int)) i (List.range i) (fun j hj h => by
        have := vn_inj (by have := List.mem_range.1 hj; omega) (by omega) h
        have := List.mem_range.1 hj
        omega)
      show [Ob.map (updM (vn i) (.d (.int .i64 (i : Int))) (nameMap (fun k => .int .i64 (k : Int)) (List.range i)))] = _
      rw [hu, ← List.range_succ]
      rfl
    · refine TC.cond rfl (fun hc => by cases hc) (fun hc => ?_)
      refine TC.exit ?_
      repeat refine TC.seq ?_
      refine TC.region ?_
      refine t_add64 rfl rfl rfl (by omega) ?_
      refine t_move rfl rfl ?_
      refine TL.nil ?_
      exact again (k' := xs.length - (i + 1)) (by omega) ⟨i + 1, _, rfl, by omega, rfl⟩ rfl ⟨by simp; rfl, rfl, rfl, rfl, trivial⟩
  · refine TC.exit ?_
    have hc' : i = xs.length := by have := of_decide_eq_false hc; omega
    subst hc'
    repeat refine TC.seq ?_
    refine TC.region ?_
    refine t_move rfl rfl ?_
    refine t_assign rfl rfl ?_
    refine TL.nil ?_
    exact TC.ret ⟨_, rfl, rfl, rfl⟩
theorem clocks_ok (xs : List Int) (hn : xs.length ≤ 14) (es : List (D × M)) : CT Try.prog 41 [.d (.agg (chainC xs))] [.map es] fun r h => r = .mp 1 ∧ h = [.map es, .map (ckE xs.length)] := by
  refine CT.of_body Try.func41 rfl Try.ntmps41 rfl fun s0 Oo => ?_
  have hcat := concatV_ok [[], [], varsD xs.length] (by
    intro l hl r hr
    simp at hl
    rcases hl with rfl | rfl
    · simp at hr
    · exact varsD_lens _ r hr) (by simp) (by simp [varsD_len]; omega)
  have hfl : [[], [], varsD xs.length].flatten = varsD xs.length := by simp
  rw [hfl] at hcat
  repeat refine TC.seq ?_
  refine TC.region ?_
  refine t_box rfl rfl ?_
  refine t_assign rfl rfl ?_
  refine TL.nil ?_
  repeat refine TC.seq ?_
  refine TC.region ?_
  refine t_makeMap rfl ?_
  refine t_assign rfl rfl ?_
  refine TL.nil ?_
  repeat refine TC.seq ?_
  refine TC.region ?_
  first | refine t_fieldD rfl rfl ?_ | refine t_fieldL rfl rfl ?_ | refine t_fieldR rfl rfl ?_ | refine t_fieldW rfl rfl ?_
  first | refine t_loadDc rfl rfl rfl ?_ | refine t_loadLc rfl rfl rfl rfl ?_ | refine t_loadRc rfl rfl rfl rfl ?_
  first | refine t_fieldD rfl rfl ?_ | refine t_fieldL rfl rfl ?_ | refine t_fieldR rfl rfl ?_ | refine t_fieldW rfl rfl ?_
  first | refine t_loadDc rfl rfl rfl ?_ | refine t_loadLc rfl rfl rfl rfl ?_ | refine t_loadRc rfl rfl rfl rfl ?_
  first | refine t_fieldD rfl rfl ?_ | refine t_fieldL rfl rfl ?_ | refine t_fieldR rfl rfl ?_ | refine t_fieldW rfl rfl ?_
  first | refine t_loadDc rfl rfl rfl ?_ | refine t_loadLc rfl rfl rfl rfl ?_ | refine t_loadRc rfl rfl rfl rfl ?_
  refine t_buildSlice rfl rfl rfl rfl rfl rfl rfl rfl ?_
  refine t_call1 hcat rfl rfl ?_
  (refine t_lenS rfl rfl rfl ?_; rw [varsD_len])
  refine t_move rfl rfl ?_
  refine TL.nil ?_
  repeat refine TC.seq ?_
  refine TC.block ?_
  refine TC.loopB (fun k s => ∃ (i : Nat) (bx : List (Nat × List M)), s = ⟨[(16, .m (.d (.int .i64 i))), (15, .m (.d (.int .i64 (xs.length : Nat)))), (14, .m (.d (.sl (varsD xs.length)))), (3, .m (.mp 1))], bx, [.map es, .map (ckE i)]⟩ ∧ i ≤ xs.length ∧ k = xs.length - i) xs.length _
    ⟨0, _, rfl, by omega, rfl⟩ ⟨rfl, rfl, rfl, rfl, trivial⟩ ?_
  rintro k s ⟨i, bx, rfl, hi, rfl⟩
  repeat refine TC.seq ?_
  refine TC.region ?_
  refine t_int rfl rfl rfl rfl ?_
  refine TL.nil ?_
  repeat refine TC.seq ?_
  refine TC.cond rfl (fun hc => ?_) (fun hc => ?_)
  · have hc' : i < xs.length := by have := of_decide_eq_true hc; omega
    clear hc
    refine TC.skip ?_
    repeat refine TC.seq ?_
    refine TC.block ?_
    repeat refine TC.seq ?_
    refine TC.region ?_
    refine t_indexD rfl rfl rfl (Int.natCast_nonneg i) (r := varC i) (varsD_get hc') rfl ?_
    first | refine t_loadDw rfl rfl rfl ?_ | refine t_loadDa rfl rfl rfl ?_ | refine t_loadLa rfl rfl rfl rfl rfl ?_ | refine t_loadRa rfl rfl rfl rfl rfl ?_
    refine t_alloc rfl rfl ?_
    refine t_storeL rfl rfl rfl rfl rfl rfl ?_
    refine TL.nil ?_
    repeat refine TC.seq ?_
    refine TC.region ?_
    refine t_move rfl rfl ?_
    first | refine t_fieldD rfl rfl ?_ | refine t_fieldL rfl rfl ?_ | refine t_fieldR rfl rfl ?_ | refine t_fieldW rfl rfl ?_
    first | refine t_loadDc rfl rfl rfl ?_ | refine t_loadLc rfl rfl rfl rfl ?_ | refine t_loadRc rfl rfl rfl rfl ?_
    first | refine t_fieldD rfl rfl ?_ | refine t_fieldL rfl rfl ?_ | refine t_fieldR rfl rfl ?_ | refine t_fieldW rfl rfl ?_
    first | refine t_loadDc rfl rfl rfl ?_ | refine t_loadLc rfl rfl rfl rfl ?_ | refine t_loadRc rfl rfl rfl rfl ?_
    refine t_mapUpdate rfl rfl rfl rfl (nameMap_keys _ _) ?_
    refine TL.nil ?_
    repeat refine TC.seq ?_
    refine TC.region ?_
    refine t_add64 rfl rfl rfl (by omega) ?_
    refine t_move rfl rfl ?_
    refine TL.nil ?_
    refine again (k' := xs.length - (i + 1)) (by omega) ⟨i + 1, _, rfl, by omega, rfl⟩ ?_ ⟨by simp; rfl, rfl, rfl, rfl, trivial⟩
    have hu := nameMap_upd (fun _ => .sl []) i (List.range i) (fun j hj h => by
      have := vn_inj (by have := List.mem_range.1 hj; omega) (by omega) h
      have := List.mem_range.1 hj
      omega)
    show [Ob.map es, Ob.map (updM (vn i) (.d (.sl [])) (nameMap (fun _ => .sl []) (List.range i)))] = _
    rw [hu, ← List.range_succ]
    rfl
  · refine TC.exit ?_
    have hc' : i = xs.length := by have := of_decide_eq_false hc; omega
    subst hc'
    repeat refine TC.seq ?_
    refine TC.region ?_
    refine t_move rfl rfl ?_
    refine t_assign rfl rfl ?_
    refine TL.nil ?_
    exact TC.ret ⟨_, rfl, rfl, rfl⟩
end Go.Proofs
