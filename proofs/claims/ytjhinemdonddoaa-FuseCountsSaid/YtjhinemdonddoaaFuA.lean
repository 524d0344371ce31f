import Derived.Test.YtjhinemdonddoaaMtInst
import Derived.Test.YtjhinemdonddoaaMtXc
namespace Go.Proofs
open Go.Mt
set_option maxRecDepth 4000
set_option linter.unusedSimpArgs false
set_option linter.unusedVariables false

theorem mixed : Try.prog.follows .mixedOrders = true := by kernel_rfl

/-- the end of a round -/
theorem again {X : Ctx} {I : Nat → St → Prop} {k k' : Nat} {sl sl' : List (Nat × V)} {bx : List (Nat × List M)} {H H' : Hp} (hk : k' < k) (hI : I k' ⟨sl', bx, H'⟩) (hH : H = H') (hs : keeps sl sl') :
    ∃ k' s'', k' < k ∧ I k' s'' ∧ ∀ a w, Inv X ⟨sl, bx, H⟩ a w → Inv X s'' a w :=
  ⟨k', _, hk, hI, fun _ _ hi => by subst hH; exact hi.weak (keeps_get hs) (fun _ => rfl)⟩
theorem TC.rename {X : Ctx} {c : Code} {q : Exit → St → Prop} (sl' : List (Nat × V)) (H' : Hp) {sl : List (Nat × V)} {bx : List (Nat × List M)} {H : Hp} (hs : keeps sl sl') (hH : H = H') (k : TC X c ⟨sl', bx, H'⟩ q) : TC X c ⟨sl, bx, H⟩ q := by
  subst hH; exact TC.weak k hs
theorem one_len {x : List D} {n : Nat} (h : x.length = n) : ∀ r ∈ [x], r.length = n := by intro r hr; rw [List.mem_singleton] at hr; rw [hr]; exact h
theorem nat_le {a b : Nat} (h : Nat.ble a b = true) : a ≤ b := Nat.le_of_ble_eq_true h
theorem TC.loopB {X : Ctx} {c : Code} {sl : List (Nat × V)} {bx : List (Nat × List M)} {H : Hp} {post : Exit → St → Prop} (I : Nat → St → Prop) (k0 : Nat) (sl' : List (Nat × V)) (h0 : I k0 ⟨sl', bx, H⟩) (hs : keeps sl sl')
    (round : ∀ k s, I k s → TC X c s (after post fun s' => ∃ k' s'', k' < k ∧ I k' s'' ∧ ∀ a w, Inv X s' a w → Inv X s'' a w)) : TC X (.loop c) ⟨sl, bx, H⟩ post :=
  TC.loop' I k0 _ h0 (fun a w hi => hi.weak (keeps_get hs) fun _ => rfl) round
theorem TC.seqMid {X : Ctx} {st : St} {post : Exit → St → Prop} {x y : Code} (st' : St) (ha : TC X x st (after post fun s => ∀ a w, Inv X s a w → Inv X st' a w)) (hb : TC X y st' post) : TC X (.seq x y) st post :=
  TC.seq (ha.mono fun e s h => by
    cases e with
    | normal => exact fun a w hi => hb a w (h a w hi)
    | _ => exact h)
theorem down {X : Ctx} {sl sl' : List (Nat × V)} {bx : List (Nat × List M)} {H H' : Hp} (hH : H = H') (hs : keeps sl sl') : ∀ a w, Inv X ⟨sl, bx, H⟩ a w → Inv X ⟨sl', bx, H'⟩ a w :=
  fun _ _ hi => by subst hH; exact hi.weak (keeps_get hs) (fun _ => rfl)

/-- room for a slice of n elements -/
def growM (H : Hp) (n : Nat) : M := if n = 0 then .d (.sl []) else .rsl H.length 1 0
def growH (H : Hp) (ec n : Nat) : Hp := if n = 0 then H else H ++ [.row true ec 1 []]
theorem flat_take_succ {α : Type} (L : List (List α)) (i : Nat) (h : i < L.length) : (L.take (i + 1)).flatten = (L.take i).flatten ++ L[i] := by
  rw [List.take_succ_eq_append_getElem h, List.flatten_append]; simp
theorem flat_take_le {α : Type} (L : List (List α)) (i : Nat) : (L.take i).flatten.length ≤ L.flatten.length := by
  have : L.flatten = (L.take i).flatten ++ (L.drop i).flatten := by rw [← List.flatten_append, List.take_append_drop]
  rw [this, List.length_append]; omega
theorem growS_ok (n : Nat) (H : Hp) (hn : n ≤ 1000000) : CT Try.prog 68 [.d (.sl []), .d (.int .i64 n)] H fun r h => r = growM H n ∧ h = growH H 14 n := by
  refine CT.of_body Try.func68 rfl Try.ntmps68 rfl fun s0 Oo => ?_
  repeat refine TC.seq ?_
  refine TC.region ?_
  refine t_assign rfl rfl ?_
  refine TL.nil ?_
  repeat refine TC.seq ?_
  refine TC.region ?_
  refine t_move rfl rfl ?_
  refine t_int rfl rfl rfl rfl ?_
  refine TL.nil ?_
  repeat refine TC.seq ?_
  refine TC.cond rfl (fun hc => by have := of_decide_eq_true hc; omega) (fun hc => ?_)
  refine TC.skip ?_
  repeat refine TC.seq ?_
  refine TC.region ?_
  refine t_move rfl rfl ?_
  refine t_move rfl rfl ?_
  refine t_cap0 rfl rfl ?_
  refine t_move rfl rfl ?_
  refine t_lenS rfl rfl rfl ?_
  refine t_sub64 rfl rfl rfl (by simp) ?_
  (refine t_sub64 rfl rfl rfl (by simp; omega) ?_; rw [show ((n : Int) - (0 - ((List.length ([] : List (List D)) : Nat) : Int))) = (n : Int) by simp])
  refine t_assign rfl rfl ?_
  refine TL.nil ?_
  repeat refine TC.seq ?_
  refine TC.region ?_
  refine t_move rfl rfl ?_
  refine t_int rfl rfl rfl rfl ?_
  refine TL.nil ?_
  repeat refine TC.seq ?_
  refine TC.cond rfl (fun hc => ?_) (fun hc => ?_)
  · have hp : 0 < n := by have := of_decide_eq_true hc; omega
    repeat refine TC.seq ?_
    refine TC.region ?_
    refine t_move rfl rfl ?_
    refine t_move rfl rfl ?_
    refine t_cap0 rfl rfl ?_
    refine t_slice0 rfl rfl rfl ?_
    refine t_move rfl rfl ?_
    refine t_appendZ (len := n) rfl rfl rfl rfl (by rfl) hp (by omega) (by omega) ?_
    refine t_move rfl rfl ?_
    refine t_lenS rfl rfl rfl ?_
    refine t_sliceR true rfl rfl rfl (by exact List.getElem?_concat_length) (by simp) (by simp) ?_
    refine t_assign rfl rfl ?_
    refine TL.nil ?_
    repeat refine TC.seq ?_
    refine TC.region ?_
    refine t_move rfl rfl ?_
    refine t_assign rfl rfl ?_
    refine TL.nil ?_
    refine TC.ret ⟨_, rfl, ?_, ?_⟩
    · simp only [growM, if_neg (show ¬ n = 0 by omega)]; rfl
    · simp only [growH, if_neg (show ¬ n = 0 by omega)]; simp
  · refine TC.skip ?_
    have hp : n = 0 := by have := of_decide_eq_false hc; omega
    repeat refine TC.seq ?_
    refine TC.region ?_
    refine t_move rfl rfl ?_
    refine t_assign rfl rfl ?_
    refine TL.nil ?_
    refine TC.ret ⟨_, rfl, ?_, ?_⟩
    · simp only [growM, if_pos hp]; rfl
    · simp only [growH, if_pos hp]
theorem concatS_ok (L : List (List (List D))) (hl : ∀ l ∈ L, ∀ r ∈ l, r.length = 14) (hL : L.length ≤ 1000) (hsum : L.flatten.length ≤ 1000000) :
    PT Try.prog 42 [.sl (L.map fun l => [D.sl l])] (· = [.sl L.flatten]) := by
  refine PT.of_CT (CT.of_body Try.func42 rfl Try.ntmps42 rfl fun s0 Oo => ?_)
  repeat refine TC.seq ?_
  refine TC.region ?_
  refine t_assign rfl rfl ?_
  refine TL.nil ?_
  repeat refine TC.seq ?_
  refine TC.region ?_
  refine t_assign rfl rfl ?_
  refine TL.nil ?_
  repeat refine TC.seq ?_
  refine TC.region ?_
  refine t_move rfl rfl ?_
  (refine t_lenS rfl rfl rfl ?_; rw [List.length_map])
  refine t_move rfl rfl ?_
  refine TL.nil ?_
  repeat refine TC.seq ?_
  refine TC.block ?_
  refine TC.loopB (fun k s => ∃ (i : Nat), s = ⟨[(11, .m (.d (.int .i64 i))), (10, .m (.d (.int .i64 (L.length : Nat)))), (9, .m (.d (.sl (L.map fun l => [D.sl l])))), (3, .m (.d (.int .i64 ((L.take i).flatten.length : Nat)))), (0, .m (.d (.sl (L.map fun l => [D.sl l]))))], [], []⟩ ∧ i ≤ L.length ∧ k = L.length - i) L.length _
    ⟨0, rfl, by omega, rfl⟩ ⟨rfl, rfl, rfl, rfl, rfl, trivial⟩ ?_
  rintro k s ⟨i, rfl, hi, rfl⟩
  have htk := flat_take_le L i
  repeat refine TC.seq ?_
  refine TC.region ?_
  refine t_int rfl rfl rfl rfl ?_
  refine TL.nil ?_
  repeat refine TC.seq ?_
  refine TC.cond rfl (fun hc => ?_) (fun hc => ?_)
  · have hc' : i < L.length := by have := of_decide_eq_true hc; omega
    have hnx := flat_take_succ L i hc'
    have htk2 := flat_take_le L (i + 1)
    rw [hnx, List.length_append] at htk2
    refine TC.skip ?_
    repeat refine TC.seq ?_
    refine TC.block ?_
    repeat refine TC.seq ?_
    refine TC.region ?_
    refine t_indexD rfl rfl rfl (Int.natCast_nonneg i) (r := [.sl L[i]]) (by simp [hc']) rfl ?_
    first | refine t_loadDc rfl rfl rfl ?_ | refine t_loadLc rfl rfl rfl rfl ?_ | refine t_loadRc rfl rfl rfl rfl ?_
    refine t_assign rfl rfl ?_
    refine TL.nil ?_
    repeat refine TC.seq ?_
    refine TC.region ?_
    refine t_move rfl rfl ?_
    refine t_move rfl rfl ?_
    refine t_lenS rfl rfl rfl ?_
    refine t_add64 rfl rfl rfl (by omega) ?_
    refine t_assign rfl rfl ?_
    refine TL.nil ?_
    repeat refine TC.seq ?_
    refine TC.region ?_
    refine t_move rfl rfl ?_
    refine t_int rfl rfl rfl rfl ?_
    refine TL.nil ?_
    repeat refine TC.seq ?_
    refine TC.cond rfl (fun hc => by have := of_decide_eq_true hc; omega) (fun hc => ?_)
    refine TC.skip ?_
    repeat refine TC.seq ?_
    refine TC.region ?_
    refine t_add64 rfl rfl rfl (by omega) ?_
    refine t_move rfl rfl ?_
    refine TL.nil ?_
    exact again (k' := L.length - (i + 1)) (by omega) ⟨i + 1, rfl, by omega, rfl⟩ rfl ⟨by simp; rfl, rfl, rfl, by rw [hnx, List.length_append, Int.natCast_add]; rfl, rfl, trivial⟩
  refine TC.exit ?_
  obtain rfl : i = L.length := by have := of_decide_eq_false hc; omega
  rw [List.take_length]
  repeat refine TC.seq ?_
  refine TC.region ?_
  refine t_move rfl rfl ?_
  (refine t_callR (growS_ok L.flatten.length [] hsum) rfl rfl ?_; rintro _ _ ⟨rfl, rfl⟩)
  refine t_assign rfl rfl ?_
  refine TL.nil ?_
  repeat refine TC.seq ?_
  refine TC.region ?_
  refine t_move rfl rfl ?_
  (refine t_lenS rfl rfl rfl ?_; rw [List.length_map])
  refine t_move rfl rfl ?_
  refine TL.nil ?_
  repeat refine TC.seq ?_
  refine TC.block ?_
  by_cases h0 : L.flatten.length = 0
  · rw [growM, growH, if_pos h0, if_pos h0]
    refine TC.loopB (fun k s => ∃ (i : Nat), s = ⟨[(27, .m (.d (.int .i64 i))), (26, .m (.d (.int .i64 (L.length : Nat)))), (25, .m (.d (.sl (L.map fun l => [D.sl l])))), (6, .m (.d (.sl [])))], [], []⟩ ∧ i ≤ L.length ∧ k = L.length - i) L.length _
      ⟨0, rfl, by omega, rfl⟩ ⟨rfl, rfl, rfl, rfl, trivial⟩ ?_
    rintro k s ⟨i, rfl, hi, rfl⟩
    repeat refine TC.seq ?_
    refine TC.region ?_
    refine t_int rfl rfl rfl rfl ?_
    refine TL.nil ?_
    repeat refine TC.seq ?_
    refine TC.cond rfl (fun hc => ?_) (fun hc => ?_)
    · have hc' : i < L.length := by have := of_decide_eq_true hc; omega
      have hz : L[i] = [] := by
        have h1 := List.eq_nil_of_length_eq_zero h0
        rw [List.flatten_eq_nil_iff] at h1
        exact h1 _ (List.getElem_mem hc')
      refine TC.skip ?_
      repeat refine TC.seq ?_
      refine TC.block ?_
      repeat refine TC.seq ?_
      refine TC.region ?_
      refine t_indexD rfl rfl rfl (Int.natCast_nonneg i) (r := [.sl []]) (by simp [hc', hz]) rfl ?_
      first | refine t_loadDc rfl rfl rfl ?_ | refine t_loadLc rfl rfl rfl rfl ?_ | refine t_loadRc rfl rfl rfl rfl ?_
      refine t_assign rfl rfl ?_
      refine TL.nil ?_
      repeat refine TC.seq ?_
      refine TC.region ?_
      refine t_move rfl rfl ?_
      refine t_move rfl rfl ?_
      refine t_append00 rfl rfl rfl ?_
      refine t_assign rfl rfl ?_
      refine TL.nil ?_
      repeat refine TC.seq ?_
      refine TC.region ?_
      refine t_add64 rfl rfl rfl (by omega) ?_
      refine t_move rfl rfl ?_
      refine TL.nil ?_
      exact again (k' := L.length - (i + 1)) (by omega) ⟨i + 1, rfl, by omega, rfl⟩ rfl ⟨by simp; rfl, rfl, rfl, rfl, trivial⟩
    refine TC.exit ?_
    repeat refine TC.seq ?_
    refine TC.region ?_
    refine t_move rfl rfl ?_
    refine t_assign rfl rfl ?_
    refine TL.nil ?_
    exact TC.ret ⟨_, rfl, [_], rfl, by rw [List.eq_nil_of_length_eq_zero h0]⟩
  · rw [growM, growH, if_neg h0, if_neg h0]
    refine TC.loopB (fun k s => ∃ (i : Nat), s = ⟨[(27, .m (.d (.int .i64 i))), (26, .m (.d (.int .i64 (L.length : Nat)))), (25, .m (.d (.sl (L.map fun l => [D.sl l])))), (6, .m (.rsl 0 (i + 1) (L.take i).flatten.length))], [], [.row true 14 (i + 1) (flatM (L.take i).flatten)]⟩ ∧ i ≤ L.length ∧ k = L.length - i) L.length _
      ⟨0, rfl, by omega, rfl⟩ ⟨rfl, rfl, rfl, rfl, trivial⟩ ?_
    rintro k s ⟨i, rfl, hi, rfl⟩
    have htk := flat_take_le L i
    repeat refine TC.seq ?_
    refine TC.region ?_
    refine t_int rfl rfl rfl rfl ?_
    refine TL.nil ?_
    repeat refine TC.seq ?_
    refine TC.cond rfl (fun hc => ?_) (fun hc => ?_)
    · have hc' : i < L.length := by have := of_decide_eq_true hc; omega
      have hnx := flat_take_succ L i hc'
      have htk2 := flat_take_le L (i + 1)
      rw [hnx, List.length_append] at htk2
      refine TC.skip ?_
      repeat refine TC.seq ?_
      refine TC.block ?_
      repeat refine TC.seq ?_
      refine TC.region ?_
      refine t_indexD rfl rfl rfl (Int.natCast_nonneg i) (r := [.sl L[i]]) (by simp [hc']) rfl ?_
      first | refine t_loadDc rfl rfl rfl ?_ | refine t_loadLc rfl rfl rfl rfl ?_ | refine t_loadRc rfl rfl rfl rfl ?_
      refine t_assign rfl rfl ?_
      refine TL.nil ?_
      repeat refine TC.seq ?_
      refine TC.region ?_
      refine t_move rfl rfl ?_
      refine t_move rfl rfl ?_
      refine t_appendR rfl rfl rfl rfl (by rfl) (by exact hl _ (List.getElem_mem hc')) (by omega) (by omega) ?_
      refine t_assign rfl rfl ?_
      refine TL.nil ?_
      repeat refine TC.seq ?_
      refine TC.region ?_
      refine t_add64 rfl rfl rfl (by omega) ?_
      refine t_move rfl rfl ?_
      refine TL.nil ?_
      exact again (k' := L.length - (i + 1)) (by omega) ⟨i + 1, rfl, by omega, rfl⟩ (by rw [hnx]; simp [flatM]) ⟨by simp; rfl, rfl, rfl, by rw [hnx, List.length_append]; rfl, trivial⟩
    refine TC.exit ?_
    obtain rfl : i = L.length := by have := of_decide_eq_false hc; omega
    rw [List.take_length]
    repeat refine TC.seq ?_
    refine TC.region ?_
    refine t_move rfl rfl ?_
    refine t_assign rfl rfl ?_
    refine TL.nil ?_
    refine TC.viewSlot 2 rfl (Acc.view (n := 14) (i := 0) (rs := L.flatten) (.inr ⟨by intro h; rw [h] at h0; exact h0 rfl, _, rfl, rfl⟩) (by intro r hr; obtain ⟨l, h1, h2⟩ := List.mem_flatten.1 hr; exact hl l h1 r h2)) ?_
    exact TC.ret ⟨_, rfl, [_], rfl, rfl⟩
theorem growT_ok (n : Nat) (H : Hp) (hn : n ≤ 1000000) : CT Try.prog 141 [.d (.sl []), .d (.int .i64 n)] H fun r h => r = growM H n ∧ h = growH H 1 n := by
  refine CT.of_body Try.func141 rfl Try.ntmps141 rfl fun s0 Oo => ?_
  repeat refine TC.seq ?_
  refine TC.region ?_
  refine t_assign rfl rfl ?_
  refine TL.nil ?_
  repeat refine TC.seq ?_
  refine TC.region ?_
  refine t_move rfl rfl ?_
  refine t_int rfl rfl rfl rfl ?_
  refine TL.nil ?_
  repeat refine TC.seq ?_
  refine TC.cond rfl (fun hc => by have := of_decide_eq_true hc; omega) (fun hc => ?_)
  refine TC.skip ?_
  repeat refine TC.seq ?_
  refine TC.region ?_
  refine t_move rfl rfl ?_
  refine t_move rfl rfl ?_
  refine t_cap0 rfl rfl ?_
  refine t_move rfl rfl ?_
  refine t_lenS rfl rfl rfl ?_
  refine t_sub64 rfl rfl rfl (by simp) ?_
  (refine t_sub64 rfl rfl rfl (by simp; omega) ?_; rw [show ((n : Int) - (0 - ((List.length ([] : List (List D)) : Nat) : Int))) = (n : Int) by simp])
  refine t_assign rfl rfl ?_
  refine TL.nil ?_
  repeat refine TC.seq ?_
  refine TC.region ?_
  refine t_move rfl rfl ?_
  refine t_int rfl rfl rfl rfl ?_
  refine TL.nil ?_
  repeat refine TC.seq ?_
  refine TC.cond rfl (fun hc => ?_) (fun hc => ?_)
  · have hp : 0 < n := by have := of_decide_eq_true hc; omega
    repeat refine TC.seq ?_
    refine TC.region ?_
    refine t_move rfl rfl ?_
    refine t_move rfl rfl ?_
    refine t_cap0 rfl rfl ?_
    refine t_slice0 rfl rfl rfl ?_
    refine t_move rfl rfl ?_
    refine t_appendZ (len := n) rfl rfl rfl rfl (by rfl) hp (by omega) (by omega) ?_
    refine t_move rfl rfl ?_
    refine t_lenS rfl rfl rfl ?_
    refine t_sliceR true rfl rfl rfl (by exact List.getElem?_concat_length) (by simp) (by simp) ?_
    refine t_assign rfl rfl ?_
    refine TL.nil ?_
    repeat refine TC.seq ?_
    refine TC.region ?_
    refine t_move rfl rfl ?_
    refine t_assign rfl rfl ?_
    refine TL.nil ?_
    refine TC.ret ⟨_, rfl, ?_, ?_⟩
    · simp only [growM, if_neg (show ¬ n = 0 by omega)]; rfl
    · simp only [growH, if_neg (show ¬ n = 0 by omega)]; simp
  · refine TC.skip ?_
    have hp : n = 0 := by have := of_decide_eq_false hc; omega
    repeat refine TC.seq ?_
    refine TC.region ?_
    refine t_move rfl rfl ?_
    refine t_assign rfl rfl ?_
    refine TL.nil ?_
    refine TC.ret ⟨_, rfl, ?_, ?_⟩
    · simp only [growM, if_pos hp]; rfl
    · simp only [growH, if_pos hp]
theorem concatT_ok (L : List (List (List D))) (hl : ∀ l ∈ L, ∀ r ∈ l, r.length = 1) (hL : L.length ≤ 1000) (hsum : L.flatten.length ≤ 1000000) :
    PT Try.prog 115 [.sl (L.map fun l => [D.sl l])] (· = [.sl L.flatten]) := by
  refine PT.of_CT (CT.of_body Try.func115 rfl Try.ntmps115 rfl fun s0 Oo => ?_)
  repeat refine TC.seq ?_
  refine TC.region ?_
  refine t_assign rfl rfl ?_
  refine TL.nil ?_
  repeat refine TC.seq ?_
  refine TC.region ?_
  refine t_assign rfl rfl ?_
  refine TL.nil ?_
  repeat refine TC.seq ?_
  refine TC.region ?_
  refine t_move rfl rfl ?_
  (refine t_lenS rfl rfl rfl ?_; rw [List.length_map])
  refine t_move rfl rfl ?_
  refine TL.nil ?_
  repeat refine TC.seq ?_
  refine TC.block ?_
  refine TC.loopB (fun k s => ∃ (i : Nat), s = ⟨[(11, .m (.d (.int .i64 i))), (10, .m (.d (.int .i64 (L.length : Nat)))), (9, .m (.d (.sl (L.map fun l => [D.sl l])))), (3, .m (.d (.int .i64 ((L.take i).flatten.length : Nat)))), (0, .m (.d (.sl (L.map fun l => [D.sl l]))))], [], []⟩ ∧ i ≤ L.length ∧ k = L.length - i) L.length _
    ⟨0, rfl, by omega, rfl⟩ ⟨rfl, rfl, rfl, rfl, rfl, trivial⟩ ?_
  rintro k s ⟨i, rfl, hi, rfl⟩
  have htk := flat_take_le L i
  repeat refine TC.seq ?_
  refine TC.region ?_
  refine t_int rfl rfl rfl rfl ?_
  refine TL.nil ?_
  repeat refine TC.seq ?_
  refine TC.cond rfl (fun hc => ?_) (fun hc => ?_)
  · have hc' : i < L.length := by have := of_decide_eq_true hc; omega
    have hnx := flat_take_succ L i hc'
    have htk2 := flat_take_le L (i + 1)
    rw [hnx, List.length_append] at htk2
    refine TC.skip ?_
    repeat refine TC.seq ?_
    refine TC.block ?_
    repeat refine TC.seq ?_
    refine TC.region ?_
    refine t_indexD rfl rfl rfl (Int.natCast_nonneg i) (r := [.sl L[i]]) (by simp [hc']) rfl ?_
    first | refine t_loadDc rfl rfl rfl ?_ | refine t_loadLc rfl rfl rfl rfl ?_ | refine t_loadRc rfl rfl rfl rfl ?_
    refine t_assign rfl rfl ?_
    refine TL.nil ?_
    repeat refine TC.seq ?_
    refine TC.region ?_
    refine t_move rfl rfl ?_
    refine t_move rfl rfl ?_
    refine t_lenS rfl rfl rfl ?_
    refine t_add64 rfl rfl rfl (by omega) ?_
    refine t_assign rfl rfl ?_
    refine TL.nil ?_
    repeat refine TC.seq ?_
    refine TC.region ?_
    refine t_move rfl rfl ?_
    refine t_int rfl rfl rfl rfl ?_
    refine TL.nil ?_
    repeat refine TC.seq ?_
    refine TC.cond rfl (fun hc => by have := of_decide_eq_true hc; omega) (fun hc => ?_)
    refine TC.skip ?_
    repeat refine TC.seq ?_
    refine TC.region ?_
    refine t_add64 rfl rfl rfl (by omega) ?_
    refine t_move rfl rfl ?_
    refine TL.nil ?_
    exact again (k' := L.length - (i + 1)) (by omega) ⟨i + 1, rfl, by omega, rfl⟩ rfl ⟨by simp; rfl, rfl, rfl, by rw [hnx, List.length_append, Int.natCast_add]; rfl, rfl, trivial⟩
  refine TC.exit ?_
  obtain rfl : i = L.length := by have := of_decide_eq_false hc; omega
  rw [List.take_length]
  repeat refine TC.seq ?_
  refine TC.region ?_
  refine t_move rfl rfl ?_
  (refine t_callR (growT_ok L.flatten.length [] hsum) rfl rfl ?_; rintro _ _ ⟨rfl, rfl⟩)
  refine t_assign rfl rfl ?_
  refine TL.nil ?_
  repeat refine TC.seq ?_
  refine TC.region ?_
  refine t_move rfl rfl ?_
  (refine t_lenS rfl rfl rfl ?_; rw [List.length_map])
  refine t_move rfl rfl ?_
  refine TL.nil ?_
  repeat refine TC.seq ?_
  refine TC.block ?_
  by_cases h0 : L.flatten.length = 0
  · rw [growM, growH, if_pos h0, if_pos h0]
    refine TC.loopB (fun k s => ∃ (i : Nat), s = ⟨[(27, .m (.d (.int .i64 i))), (26, .m (.d (.int .i64 (L.length : Nat)))), (25, .m (.d (.sl (L.map fun l => [D.sl l])))), (6, .m (.d (.sl [])))], [], []⟩ ∧ i ≤ L.length ∧ k = L.length - i) L.length _
      ⟨0, rfl, by omega, rfl⟩ ⟨rfl, rfl, rfl, rfl, trivial⟩ ?_
    rintro k s ⟨i, rfl, hi, rfl⟩
    repeat refine TC.seq ?_
    refine TC.region ?_
    refine t_int rfl rfl rfl rfl ?_
    refine TL.nil ?_
    repeat refine TC.seq ?_
    refine TC.cond rfl (fun hc => ?_) (fun hc => ?_)
    · have hc' : i < L.length := by have := of_decide_eq_true hc; omega
      have hz : L[i] = [] := by
        have h1 := List.eq_nil_of_length_eq_zero h0
        rw [List.flatten_eq_nil_iff] at h1
        exact h1 _ (List.getElem_mem hc')
      refine TC.skip ?_
      repeat refine TC.seq ?_
      refine TC.block ?_
      repeat refine TC.seq ?_
      refine TC.region ?_
      refine t_indexD rfl rfl rfl (Int.natCast_nonneg i) (r := [.sl []]) (by simp [hc', hz]) rfl ?_
      first | refine t_loadDc rfl rfl rfl ?_ | refine t_loadLc rfl rfl rfl rfl ?_ | refine t_loadRc rfl rfl rfl rfl ?_
      refine t_assign rfl rfl ?_
      refine TL.nil ?_
      repeat refine TC.seq ?_
      refine TC.region ?_
      refine t_move rfl rfl ?_
      refine t_move rfl rfl ?_
      refine t_append00 rfl rfl rfl ?_
      refine t_assign rfl rfl ?_
      refine TL.nil ?_
      repeat refine TC.seq ?_
      refine TC.region ?_
      refine t_add64 rfl rfl rfl (by omega) ?_
      refine t_move rfl rfl ?_
      refine TL.nil ?_
      exact again (k' := L.length - (i + 1)) (by omega) ⟨i + 1, rfl, by omega, rfl⟩ rfl ⟨by simp; rfl, rfl, rfl, rfl, trivial⟩
    refine TC.exit ?_
    repeat refine TC.seq ?_
    refine TC.region ?_
    refine t_move rfl rfl ?_
    refine t_assign rfl rfl ?_
    refine TL.nil ?_
    exact TC.ret ⟨_, rfl, [_], rfl, by rw [List.eq_nil_of_length_eq_zero h0]⟩
  · rw [growM, growH, if_neg h0, if_neg h0]
    refine TC.loopB (fun k s => ∃ (i : Nat), s = ⟨[(27, .m (.d (.int .i64 i))), (26, .m (.d (.int .i64 (L.length : Nat)))), (25, .m (.d (.sl (L.map fun l => [D.sl l])))), (6, .m (.rsl 0 (i + 1) (L.take i).flatten.length))], [], [.row true 1 (i + 1) (flatM (L.take i).flatten)]⟩ ∧ i ≤ L.length ∧ k = L.length - i) L.length _
      ⟨0, rfl, by omega, rfl⟩ ⟨rfl, rfl, rfl, rfl, trivial⟩ ?_
    rintro k s ⟨i, rfl, hi, rfl⟩
    have htk := flat_take_le L i
    repeat refine TC.seq ?_
    refine TC.region ?_
    refine t_int rfl rfl rfl rfl ?_
    refine TL.nil ?_
    repeat refine TC.seq ?_
    refine TC.cond rfl (fun hc => ?_) (fun hc => ?_)
    · have hc' : i < L.length := by have := of_decide_eq_true hc; omega
      have hnx := flat_take_succ L i hc'
      have htk2 := flat_take_le L (i + 1)
      rw [hnx, List.length_append] at htk2
      refine TC.skip ?_
      repeat refine TC.seq ?_
      refine TC.block ?_
      repeat refine TC.seq ?_
      refine TC.region ?_
      refine t_indexD rfl rfl rfl (Int.natCast_nonneg i) (r := [.sl L[i]]) (by simp [hc']) rfl ?_
      first | refine t_loadDc rfl rfl rfl ?_ | refine t_loadLc rfl rfl rfl rfl ?_ | refine t_loadRc rfl rfl rfl rfl ?_
      refine t_assign rfl rfl ?_
      refine TL.nil ?_
      repeat refine TC.seq ?_
      refine TC.region ?_
      refine t_move rfl rfl ?_
      refine t_move rfl rfl ?_
      refine t_appendR rfl rfl rfl rfl (by rfl) (by exact hl _ (List.getElem_mem hc')) (by omega) (by omega) ?_
      refine t_assign rfl rfl ?_
      refine TL.nil ?_
      repeat refine TC.seq ?_
      refine TC.region ?_
      refine t_add64 rfl rfl rfl (by omega) ?_
      refine t_move rfl rfl ?_
      refine TL.nil ?_
      exact again (k' := L.length - (i + 1)) (by omega) ⟨i + 1, rfl, by omega, rfl⟩ (by rw [hnx]; simp [flatM]) ⟨by simp; rfl, rfl, rfl, by rw [hnx, List.length_append]; rfl, trivial⟩
    refine TC.exit ?_
    obtain rfl : i = L.length := by have := of_decide_eq_false hc; omega
    rw [List.take_length]
    repeat refine TC.seq ?_
    refine TC.region ?_
    refine t_move rfl rfl ?_
    refine t_assign rfl rfl ?_
    refine TL.nil ?_
    refine TC.viewSlot 2 rfl (Acc.view (n := 1) (i := 0) (rs := L.flatten) (.inr ⟨by intro h; rw [h] at h0; exact h0 rfl, _, rfl, rfl⟩) (by intro r hr; obtain ⟨l, h1, h2⟩ := List.mem_flatten.1 hr; exact hl l h1 r h2)) ?_
    exact TC.ret ⟨_, rfl, [_], rfl, rfl⟩
end Go.Proofs
