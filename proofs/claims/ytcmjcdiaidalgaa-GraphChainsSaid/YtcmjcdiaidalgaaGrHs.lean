/- The least number of a heap, and the rest. -/
import Derived.Test.YtcmjcdiaidalgaaGrHr
namespace Go.Proofs
open Go.Mt Go.Gr
set_option maxRecDepth 4000
set_option linter.unusedSimpArgs false
set_option linter.unusedVariables false

theorem TC.mid3 {X : Ctx} {st : St} {post : Exit → St → Prop} {x y z : Code} (st' : St) (ha : TC X x st (after (after post fun s => ∀ a w, Inv X s a w → Inv X st' a w) fun s => TC X y s (after post fun s => ∀ a w, Inv X s a w → Inv X st' a w))) (hb : TC X z st' post) :
    TC X x st (after (after post fun s => TC X z s post) fun s => TC X y s (after post fun s => TC X z s post)) :=
  ha.mono fun e s h => by
    cases e with
    | normal => exact TC.mid st' h hb
    | _ => exact h
/-- what pop makes -/
def Popped (n : Nat) (h : Nat → Nat) (j : Nat) (H : Hp) (r : M) (K : Hp) : Prop :=
  ∃ ver' h', r = .tup [.d (.int .i64 ((h 0 : Nat) : Int)), .rsl j ver' n] ∧ K = H.set j (.row false 1 ver' (cellsF n (hD h'))) ∧ Heap n h' ∧ Inj n h' ∧ ∀ y, Img n h' y ↔ Img (n + 1) h y ∧ y ≠ h 0
theorem cellsF_take (n : Nat) (f : Nat → D) : (cellsF (n + 1) f).take (((n : Nat) : Int).toNat * 1) = cellsF n f := by
  have e : ((n : Nat) : Int).toNat * 1 = n := by omega
  rw [e]
  unfold cellsF
  rw [List.range_succ, List.map_append, List.take_append_of_le_length (by simp), List.take_of_length_le (by simp)]
theorem pop_dn {n : Nat} {h : Nat → Nat} (hp : Heap (n + 1) h) : Dn n (upd h 0 (h n)) 0 := by
  refine ⟨fun k k0 hk hne => ?_, fun h0 => by omega⟩
  rw [upd_ne _ _ hne, upd_ne _ _ (show k ≠ 0 by omega)]
  exact hp k k0 (by omega)
theorem pop_inj {n : Nat} {h : Nat → Nat} (hi : Inj (n + 1) h) : Inj n (upd h 0 (h n)) := by
  intro a b ha hb e
  by_cases h1 : a = 0 <;> by_cases h2 : b = 0
  · omega
  · subst h1; rw [upd_self, upd_ne _ _ h2] at e; have := hi n b (by omega) (by omega) e; omega
  · subst h2; rw [upd_self, upd_ne _ _ h1] at e; have := hi a n (by omega) (by omega) e; omega
  · rw [upd_ne _ _ h1, upd_ne _ _ h2] at e; exact hi a b (by omega) (by omega) e
theorem pop_img {n : Nat} {h : Nat → Nat} (hi : Inj (n + 1) h) (y : Nat) : Img n (upd h 0 (h n)) y ↔ Img (n + 1) h y ∧ y ≠ h 0 := by
  constructor
  · rintro ⟨k, hk, rfl⟩
    by_cases h1 : k = 0
    · subst h1
      rw [upd_self]
      exact ⟨⟨n, by omega, rfl⟩, fun e => by have := hi n 0 (by omega) (by omega) e; omega⟩
    · rw [upd_ne _ _ h1]
      exact ⟨⟨k, by omega, rfl⟩, fun e => h1 (hi k 0 (by omega) (by omega) e)⟩
  · rintro ⟨⟨k, hk, rfl⟩, hne⟩
    have h1 : k ≠ 0 := fun e => hne (by rw [e])
    by_cases h2 : k = n
    · subst h2; exact ⟨0, by omega, upd_self _ _ _⟩
    · exact ⟨k, by omega, upd_ne _ _ h1⟩
theorem pop_ok (n : Nat) (h : Nat → Nat) (j ver : Nat) (H : Hp) (hn : n ≤ 100) (hH : H[j]? = some (.row false 1 ver (cellsF (n + 1) (hD h)))) (hhp : Heap (n + 1) h) (hinj : Inj (n + 1) h) :
    CT Try.prog 39 [.rsl j ver (n + 1)] H (Popped n h j H) := by
  have hjl : j < H.length := by rcases Nat.lt_or_ge j H.length with h | h; exact h; simp [List.getElem?_eq_none h] at hH
  have hset : ∀ ob, (H.set j ob)[j]? = some ob := fun ob => by simp [hjl]
  refine CT.of_body Try.func39 rfl Try.ntmps39 rfl fun s0 Oo => ?_
  have g0 : (cellsF (n + 1) (hD h))[0 * 1]? = some (.d (.int .i64 ((h 0 : Nat) : Int))) := cellsF_get (k := 0) (by omega)
  have gn : (cellsF (n + 1) (hD h))[((n : Nat) : Int).toNat * 1]? = some (.d (.int .i64 ((h n : Nat) : Int))) := cellsF_get (by omega)
  have hnn : ((n + 1 : Nat) : Int) - 1 = (n : Int) := by omega
  repeat refine TC.seq ?_
  refine TC.region ?_
  refine t_assign rfl rfl ?_
  refine t_assign rfl rfl ?_
  refine TL.nil ?_
  repeat refine TC.seq ?_
  refine TC.region ?_
  refine t_move rfl rfl ?_
  refine t_indexR rfl rfl rfl hH (by omega) (by omega) ?_
  refine t_loadWc rfl rfl hH g0 ?_
  refine t_move rfl rfl ?_
  refine t_lenR rfl rfl ?_
  (refine t_sub64 rfl rfl rfl (by omega) ?_; rw [hnn])
  refine t_assign rfl rfl ?_
  refine t_assign rfl rfl ?_
  refine TL.nil ?_
  have w1 : writeAt (cellsF (n + 1) (hD h)) (0 * 1) [.d (.int .i64 ((h n : Nat) : Int))] = some (cellsF (n + 1) (hD (upd h 0 (h n)))) := swp_write1 (i := 0) (j := n) (by omega)
  repeat refine TC.seq ?_
  refine TC.region ?_
  refine t_move rfl rfl ?_
  refine t_move rfl rfl ?_
  refine t_move rfl rfl ?_
  refine t_indexR rfl rfl rfl hH (by omega) (by omega) ?_
  refine t_loadWc rfl rfl hH gn ?_
  refine t_indexR rfl rfl rfl hH (by omega) (by omega) ?_
  refine t_storeW rfl rfl hH rfl rfl w1 ?_
  refine TL.nil ?_
  repeat refine TC.seq ?_
  refine TC.region ?_
  refine t_move rfl rfl ?_
  refine t_move rfl rfl ?_
  refine t_sliceR false rfl rfl rfl (hset _) (by omega) (by omega) ?_
  refine t_assign rfl rfl ?_
  refine TL.nil ?_
  repeat refine TC.seq ?_
  refine TC.region ?_
  refine t_assign rfl rfl ?_
  refine TL.nil ?_
  have hU := pop_dn hhp
  have hI := pop_inj hinj
  have hM := pop_img hinj
  generalize upd h 0 (h n) = g1 at hU hI hM ⊢
  refine TC.rename [(6, .m (.d (.int .i64 ((0 : Nat) : Int)))), (5, .m (.d (.int .i64 ((n : Nat) : Int)))), (4, .m (.d (.int .i64 ((h 0 : Nat) : Int)))), (0, .m (.rsl j (ver + 1) n))] (H.set j (.row false 1 (ver + 1) (cellsF n (hD g1)))) ⟨rfl, rfl, rfl, rfl, trivial⟩ (by rw [List.set_set, cellsF_take]) ?_
  repeat refine TC.seq ?_
  refine TC.block ?_
  refine TC.loopB (fun k s => ∃ (i : Nat) (g : Nat → Nat), s = ⟨[(6, .m (.d (.int .i64 ((i : Nat) : Int)))), (5, .m (.d (.int .i64 ((n : Nat) : Int)))), (4, .m (.d (.int .i64 ((h 0 : Nat) : Int)))), (0, .m (.rsl j (ver + 1) n))], [], H.set j (.row false 1 (ver + 1) (cellsF n (hD g)))⟩ ∧ i ≤ n ∧ Dn n g i ∧ Inj n g ∧ (∀ y, Img n g y ↔ Img (n + 1) h y ∧ y ≠ h 0) ∧ k = n - i) n _
    ⟨0, g1, rfl, by omega, hU, hI, hM, by omega⟩ ⟨rfl, rfl, rfl, rfl, trivial⟩ ?_
  rintro k s ⟨i, g, rfl, hi, hU, hI, hM, rfl⟩
  refine TC.block ?_
  have hm : IntKind.i64.wrap (2 * (i : Int)) = ((2 * i : Nat) : Int) := by rw [IntWalk.i64_in _ ⟨by omega, by omega⟩]; omega
  have hk1 : ((2 * i : Nat) : Int) + 1 = ((2 * i + 1 : Nat) : Int) := by omega
  have hk2 : ((2 * i + 1 : Nat) : Int) + 1 = ((2 * i + 2 : Nat) : Int) := by omega
  repeat refine TC.seq ?_
  refine TC.region ?_
  refine t_move rfl rfl ?_
  (refine t_int rfl rfl rfl rfl ?_; rw [hm])
  (refine t_add64 rfl rfl rfl (by omega) ?_; rw [hk1])
  refine t_assign rfl rfl ?_
  refine TL.nil ?_
  rcases Nat.lt_or_ge (2 * i + 1) n with hin | hin
  rotate_left
  · have h1 : decide (((2 * i + 2 : Nat) : Int) < (n : Int)) = false := decide_eq_false (by omega)
    have h2 : decide (((2 * i + 1 : Nat) : Int) ≥ (n : Int)) = true := decide_eq_true (by omega)
    repeat refine TC.seq ?_
    refine TC.draw mixed ?_
    refine f_move rfl rfl ?_
    (refine f_add64 rfl rfl rfl (by omega) ?_; rw [hk2])
    refine f_move rfl rfl ?_
    (refine f_int rfl rfl rfl (r := .bool false) (by show some (D.bool (decide _)) = _; rw [h1]) ?_)
    refine f_move rfl rfl ?_
    first | refine f_guard_no rfl rfl rfl rfl ?_ | refine f_guard_un rfl rfl rfl ?_ | (refine f_guard_yes rfl rfl ?_; (refine f_move rfl rfl ?_))
    first | refine f_guard_no rfl rfl rfl rfl ?_ | refine f_guard_un rfl rfl rfl ?_ | (refine f_guard_yes rfl rfl ?_; (refine f_move rfl rfl ?_))
    first | refine f_guard_no rfl rfl rfl rfl ?_ | refine f_guard_un rfl rfl rfl ?_ | (refine f_guard_yes rfl rfl ?_; (refine f_add64 rfl rfl rfl (by omega) ?_))
    first | refine f_guard_no rfl rfl rfl rfl ?_ | refine f_guard_un rfl rfl rfl ?_ | (refine f_guard_yes rfl rfl ?_; (fail))
    first | refine f_guard_no rfl rfl rfl rfl ?_ | refine f_guard_un rfl rfl rfl ?_ | (refine f_guard_yes rfl rfl ?_; (first | refine f_loadDc rfl rfl rfl ?_ | refine f_loadLc rfl rfl rfl rfl ?_ | refine f_loadRc rfl rfl rfl rfl ?_))
    first | refine f_guard_no rfl rfl rfl rfl ?_ | refine f_guard_un rfl rfl rfl ?_ | (refine f_guard_yes rfl rfl ?_; (refine f_move rfl rfl ?_))
    first | refine f_guard_no rfl rfl rfl rfl ?_ | refine f_guard_un rfl rfl rfl ?_ | (refine f_guard_yes rfl rfl ?_; (refine f_move rfl rfl ?_))
    first | refine f_guard_no rfl rfl rfl rfl ?_ | refine f_guard_un rfl rfl rfl ?_ | (refine f_guard_yes rfl rfl ?_; (fail))
    first | refine f_guard_no rfl rfl rfl rfl ?_ | refine f_guard_un rfl rfl rfl ?_ | (refine f_guard_yes rfl rfl ?_; (first | refine f_loadDc rfl rfl rfl ?_ | refine f_loadLc rfl rfl rfl rfl ?_ | refine f_loadRc rfl rfl rfl rfl ?_))
    first | refine f_guard_no rfl rfl rfl rfl ?_ | refine f_guard_un rfl rfl rfl ?_ | (refine f_guard_yes rfl rfl ?_; (refine f_int rfl rfl rfl rfl ?_))
    refine f_pick rfl rfl rfl ?_
    refine TF.nil ⟨by kernel_rfl, ?_⟩
    repeat refine TC.seq ?_
    refine TC.cond rfl (fun hc => by cases hc) (fun hc => ?_)
    refine TC.skip ?_
    repeat refine TC.seq ?_
    refine TC.draw mixed ?_
    refine f_move rfl rfl ?_
    refine f_move rfl rfl ?_
    (refine f_int rfl rfl rfl (r := .bool true) (by show some (D.bool (decide _)) = _; rw [h2]) ?_)
    refine f_move rfl rfl ?_
    first | refine f_guard_no rfl rfl rfl rfl ?_ | refine f_guard_un rfl rfl rfl ?_ | (refine f_guard_yes rfl rfl ?_; (refine f_move rfl rfl ?_))
    first | refine f_guard_no rfl rfl rfl rfl ?_ | refine f_guard_un rfl rfl rfl ?_ | (refine f_guard_yes rfl rfl ?_; (refine f_move rfl rfl ?_))
    first | refine f_guard_no rfl rfl rfl rfl ?_ | refine f_guard_un rfl rfl rfl ?_ | (refine f_guard_yes rfl rfl ?_; (fail))
    first | refine f_guard_no rfl rfl rfl rfl ?_ | refine f_guard_un rfl rfl rfl ?_ | (refine f_guard_yes rfl rfl ?_; (first | refine f_loadDc rfl rfl rfl ?_ | refine f_loadLc rfl rfl rfl rfl ?_ | refine f_loadRc rfl rfl rfl rfl ?_))
    first | refine f_guard_no rfl rfl rfl rfl ?_ | refine f_guard_un rfl rfl rfl ?_ | (refine f_guard_yes rfl rfl ?_; (refine f_move rfl rfl ?_))
    first | refine f_guard_no rfl rfl rfl rfl ?_ | refine f_guard_un rfl rfl rfl ?_ | (refine f_guard_yes rfl rfl ?_; (refine f_move rfl rfl ?_))
    first | refine f_guard_no rfl rfl rfl rfl ?_ | refine f_guard_un rfl rfl rfl ?_ | (refine f_guard_yes rfl rfl ?_; (fail))
    first | refine f_guard_no rfl rfl rfl rfl ?_ | refine f_guard_un rfl rfl rfl ?_ | (refine f_guard_yes rfl rfl ?_; (first | refine f_loadDc rfl rfl rfl ?_ | refine f_loadLc rfl rfl rfl rfl ?_ | refine f_loadRc rfl rfl rfl rfl ?_))
    first | refine f_guard_no rfl rfl rfl rfl ?_ | refine f_guard_un rfl rfl rfl ?_ | (refine f_guard_yes rfl rfl ?_; (refine f_int rfl rfl rfl rfl ?_))
    refine f_pick rfl rfl rfl ?_
    refine TF.nil ⟨by kernel_rfl, ?_⟩
    repeat refine TC.seq ?_
    refine TC.cond rfl (fun hc => ?_) (fun hc => by cases hc)
    repeat refine TC.seq ?_
    refine TC.region ?_
    refine t_move rfl rfl ?_
    refine t_move rfl rfl ?_
    refine t_assign rfl rfl ?_
    refine t_assign rfl rfl ?_
    refine TL.nil ?_
    exact TC.ret ⟨_, rfl, ver + 1, g, rfl, rfl, hU.stop (fun k k0 hk he => by omega), hI, hM⟩
  obtain ⟨c, hcn, hci, hci2, hc0, hcl⟩ : ∃ c, c < n ∧ (c - 1) / 2 = i ∧ i < c ∧ 0 < c ∧ ((c = 2 * i + 1 ∧ (2 * i + 2 < n → g (2 * i + 1) ≤ g (2 * i + 2))) ∨ (c = 2 * i + 2 ∧ g (2 * i + 2) < g (2 * i + 1))) := by
    rcases Nat.lt_or_ge (2 * i + 2) n with h3 | h3
    · rcases Nat.lt_or_ge (g (2 * i + 2)) (g (2 * i + 1)) with h4 | h4
      · exact ⟨2 * i + 2, by omega, by omega, by omega, by omega, .inr ⟨rfl, h4⟩⟩
      · exact ⟨2 * i + 1, by omega, by omega, by omega, by omega, .inl ⟨rfl, fun _ => h4⟩⟩
    · exact ⟨2 * i + 1, by omega, by omega, by omega, by omega, .inl ⟨rfl, fun h5 => by omega⟩⟩
  have hleast : ∀ k, 0 < k → k < n → (k - 1) / 2 = i → g c ≤ g k := by
    intro k k0 hk he
    have : k = 2 * i + 1 ∨ k = 2 * i + 2 := by omega
    rcases hcl with ⟨rfl, h3⟩ | ⟨rfl, h3⟩ <;> rcases this with rfl | rfl
    · exact Nat.le_refl _
    · exact h3 hk
    · omega
    · exact Nat.le_refl _
  have gi : (cellsF n (hD g))[((i : Nat) : Int).toNat * 1]? = some (.d (.int .i64 ((g i : Nat) : Int))) := cellsF_get (by omega)
  have gc : (cellsF n (hD g))[((c : Nat) : Int).toNat * 1]? = some (.d (.int .i64 ((g c : Nat) : Int))) := cellsF_get (by omega)
  have gk1 : (cellsF n (hD g))[((2 * i + 1 : Nat) : Int).toNat * 1]? = some (.d (.int .i64 ((g (2 * i + 1) : Nat) : Int))) := cellsF_get (by omega)
  repeat refine TC.seq ?_
  refine TC.mid3 ⟨[(7, .m (.d (.int .i64 ((c : Nat) : Int)))), (6, .m (.d (.int .i64 ((i : Nat) : Int)))), (5, .m (.d (.int .i64 ((n : Nat) : Int)))), (4, .m (.d (.int .i64 ((h 0 : Nat) : Int)))), (0, .m (.rsl j (ver + 1) n))], [], H.set j (.row false 1 (ver + 1) (cellsF n (hD g)))⟩ ?_ ?_
  · rcases Nat.lt_or_ge (2 * i + 2) n with h3 | h3
    rotate_left
    · have h1 : decide (((2 * i + 2 : Nat) : Int) < (n : Int)) = false := decide_eq_false (by omega)
      have hce : c = 2 * i + 1 := by omega
      subst hce
      repeat refine TC.seq ?_
      refine TC.draw mixed ?_
      refine f_move rfl rfl ?_
      (refine f_add64 rfl rfl rfl (by omega) ?_; rw [hk2])
      refine f_move rfl rfl ?_
      (refine f_int rfl rfl rfl (r := .bool false) (by show some (D.bool (decide _)) = _; rw [h1]) ?_)
      refine f_move rfl rfl ?_
      first | refine f_guard_no rfl rfl rfl rfl ?_ | refine f_guard_un rfl rfl rfl ?_ | (refine f_guard_yes rfl rfl ?_; (refine f_move rfl rfl ?_))
      first | refine f_guard_no rfl rfl rfl rfl ?_ | refine f_guard_un rfl rfl rfl ?_ | (refine f_guard_yes rfl rfl ?_; (refine f_move rfl rfl ?_))
      first | refine f_guard_no rfl rfl rfl rfl ?_ | refine f_guard_un rfl rfl rfl ?_ | (refine f_guard_yes rfl rfl ?_; (refine f_add64 rfl rfl rfl (by omega) ?_))
      first | refine f_guard_no rfl rfl rfl rfl ?_ | refine f_guard_un rfl rfl rfl ?_ | (refine f_guard_yes rfl rfl ?_; (fail))
      first | refine f_guard_no rfl rfl rfl rfl ?_ | refine f_guard_un rfl rfl rfl ?_ | (refine f_guard_yes rfl rfl ?_; (first | refine f_loadDc rfl rfl rfl ?_ | refine f_loadLc rfl rfl rfl rfl ?_ | refine f_loadRc rfl rfl rfl rfl ?_))
      first | refine f_guard_no rfl rfl rfl rfl ?_ | refine f_guard_un rfl rfl rfl ?_ | (refine f_guard_yes rfl rfl ?_; (refine f_move rfl rfl ?_))
      first | refine f_guard_no rfl rfl rfl rfl ?_ | refine f_guard_un rfl rfl rfl ?_ | (refine f_guard_yes rfl rfl ?_; (refine f_move rfl rfl ?_))
      first | refine f_guard_no rfl rfl rfl rfl ?_ | refine f_guard_un rfl rfl rfl ?_ | (refine f_guard_yes rfl rfl ?_; (fail))
      first | refine f_guard_no rfl rfl rfl rfl ?_ | refine f_guard_un rfl rfl rfl ?_ | (refine f_guard_yes rfl rfl ?_; (first | refine f_loadDc rfl rfl rfl ?_ | refine f_loadLc rfl rfl rfl rfl ?_ | refine f_loadRc rfl rfl rfl rfl ?_))
      first | refine f_guard_no rfl rfl rfl rfl ?_ | refine f_guard_un rfl rfl rfl ?_ | (refine f_guard_yes rfl rfl ?_; (refine f_int rfl rfl rfl rfl ?_))
      refine f_pick rfl rfl rfl ?_
      refine TF.nil ⟨by kernel_rfl, ?_⟩
      refine TC.cond rfl (fun hc => by cases hc) (fun hc => ?_)
      refine TC.skip ?_
      exact down rfl ⟨rfl, rfl, rfl, rfl, rfl, trivial⟩
    have h1 : decide (((2 * i + 2 : Nat) : Int) < (n : Int)) = true := decide_eq_true (by omega)
    have gk2 : (cellsF n (hD g))[((2 * i + 2 : Nat) : Int).toNat * 1]? = some (.d (.int .i64 ((g (2 * i + 2) : Nat) : Int))) := cellsF_get (by omega)
    rcases hcl with ⟨rfl, h4⟩ | ⟨rfl, h4⟩
    · have h5 : decide (((g (2 * i + 2) : Nat) : Int) < ((g (2 * i + 1) : Nat) : Int)) = false := decide_eq_false (by have := h4 h3; omega)
      repeat refine TC.seq ?_
      refine TC.draw mixed ?_
      refine f_move rfl rfl ?_
      (refine f_add64 rfl rfl rfl (by omega) ?_; rw [hk2])
      refine f_move rfl rfl ?_
      (refine f_int rfl rfl rfl (r := .bool true) (by show some (D.bool (decide _)) = _; rw [h1]) ?_)
      refine f_move rfl rfl ?_
      first | refine f_guard_no rfl rfl rfl rfl ?_ | refine f_guard_un rfl rfl rfl ?_ | (refine f_guard_yes rfl rfl ?_; (refine f_move rfl rfl ?_))
      first | refine f_guard_no rfl rfl rfl rfl ?_ | refine f_guard_un rfl rfl rfl ?_ | (refine f_guard_yes rfl rfl ?_; (refine f_move rfl rfl ?_))
      first | refine f_guard_no rfl rfl rfl rfl ?_ | refine f_guard_un rfl rfl rfl ?_ | (refine f_guard_yes rfl rfl ?_; ((refine f_add64 rfl rfl rfl (by omega) ?_; rw [hk2])))
      first | refine f_guard_no rfl rfl rfl rfl ?_ | refine f_guard_un rfl rfl rfl ?_ | (refine f_guard_yes rfl rfl ?_; (refine f_indexR rfl rfl rfl (hset _) (by omega) (by omega) ?_))
      first | refine f_guard_no rfl rfl rfl rfl ?_ | refine f_guard_un rfl rfl rfl ?_ | (refine f_guard_yes rfl rfl ?_; (refine f_loadWc rfl rfl (hset _) gk2 ?_))
      first | refine f_guard_no rfl rfl rfl rfl ?_ | refine f_guard_un rfl rfl rfl ?_ | (refine f_guard_yes rfl rfl ?_; (refine f_move rfl rfl ?_))
      first | refine f_guard_no rfl rfl rfl rfl ?_ | refine f_guard_un rfl rfl rfl ?_ | (refine f_guard_yes rfl rfl ?_; (refine f_move rfl rfl ?_))
      first | refine f_guard_no rfl rfl rfl rfl ?_ | refine f_guard_un rfl rfl rfl ?_ | (refine f_guard_yes rfl rfl ?_; (refine f_indexR rfl rfl rfl (hset _) (by omega) (by omega) ?_))
      first | refine f_guard_no rfl rfl rfl rfl ?_ | refine f_guard_un rfl rfl rfl ?_ | (refine f_guard_yes rfl rfl ?_; (refine f_loadWc rfl rfl (hset _) gk1 ?_))
      first | refine f_guard_no rfl rfl rfl rfl ?_ | refine f_guard_un rfl rfl rfl ?_ | (refine f_guard_yes rfl rfl ?_; ((refine f_int rfl rfl rfl (r := .bool false) (by show some (D.bool (decide _)) = _; rw [h5]) ?_)))
      refine f_pick rfl rfl rfl ?_
      refine TF.nil ⟨by kernel_rfl, ?_⟩
      refine TC.cond rfl (fun hc => by cases hc) (fun hc => ?_)
      refine TC.skip ?_
      exact down rfl ⟨rfl, rfl, rfl, rfl, rfl, trivial⟩
    · have h5 : decide (((g (2 * i + 2) : Nat) : Int) < ((g (2 * i + 1) : Nat) : Int)) = true := decide_eq_true (by omega)
      repeat refine TC.seq ?_
      refine TC.draw mixed ?_
      refine f_move rfl rfl ?_
      (refine f_add64 rfl rfl rfl (by omega) ?_; rw [hk2])
      refine f_move rfl rfl ?_
      (refine f_int rfl rfl rfl (r := .bool true) (by show some (D.bool (decide _)) = _; rw [h1]) ?_)
      refine f_move rfl rfl ?_
      first | refine f_guard_no rfl rfl rfl rfl ?_ | refine f_guard_un rfl rfl rfl ?_ | (refine f_guard_yes rfl rfl ?_; (refine f_move rfl rfl ?_))
      first | refine f_guard_no rfl rfl rfl rfl ?_ | refine f_guard_un rfl rfl rfl ?_ | (refine f_guard_yes rfl rfl ?_; (refine f_move rfl rfl ?_))
      first | refine f_guard_no rfl rfl rfl rfl ?_ | refine f_guard_un rfl rfl rfl ?_ | (refine f_guard_yes rfl rfl ?_; ((refine f_add64 rfl rfl rfl (by omega) ?_; rw [hk2])))
      first | refine f_guard_no rfl rfl rfl rfl ?_ | refine f_guard_un rfl rfl rfl ?_ | (refine f_guard_yes rfl rfl ?_; (refine f_indexR rfl rfl rfl (hset _) (by omega) (by omega) ?_))
      first | refine f_guard_no rfl rfl rfl rfl ?_ | refine f_guard_un rfl rfl rfl ?_ | (refine f_guard_yes rfl rfl ?_; (refine f_loadWc rfl rfl (hset _) gk2 ?_))
      first | refine f_guard_no rfl rfl rfl rfl ?_ | refine f_guard_un rfl rfl rfl ?_ | (refine f_guard_yes rfl rfl ?_; (refine f_move rfl rfl ?_))
      first | refine f_guard_no rfl rfl rfl rfl ?_ | refine f_guard_un rfl rfl rfl ?_ | (refine f_guard_yes rfl rfl ?_; (refine f_move rfl rfl ?_))
      first | refine f_guard_no rfl rfl rfl rfl ?_ | refine f_guard_un rfl rfl rfl ?_ | (refine f_guard_yes rfl rfl ?_; (refine f_indexR rfl rfl rfl (hset _) (by omega) (by omega) ?_))
      first | refine f_guard_no rfl rfl rfl rfl ?_ | refine f_guard_un rfl rfl rfl ?_ | (refine f_guard_yes rfl rfl ?_; (refine f_loadWc rfl rfl (hset _) gk1 ?_))
      first | refine f_guard_no rfl rfl rfl rfl ?_ | refine f_guard_un rfl rfl rfl ?_ | (refine f_guard_yes rfl rfl ?_; ((refine f_int rfl rfl rfl (r := .bool true) (by show some (D.bool (decide _)) = _; rw [h5]) ?_)))
      refine f_pick rfl rfl rfl ?_
      refine TF.nil ⟨by kernel_rfl, ?_⟩
      refine TC.cond rfl (fun hc => ?_) (fun hc => by cases hc)
      repeat refine TC.seq ?_
      refine TC.region ?_
      refine t_move rfl rfl ?_
      (refine t_add64 rfl rfl rfl (by omega) ?_; rw [hk2])
      refine t_assign rfl rfl ?_
      refine TL.nil ?_
      exact down rfl ⟨rfl, rfl, rfl, rfl, rfl, trivial⟩
  have h2 : decide (((c : Nat) : Int) ≥ (n : Int)) = false := decide_eq_false (by omega)
  rcases Nat.lt_or_ge (g c) (g i) with hlt | hge
  rotate_left
  · have h5 : decide (((g i : Nat) : Int) ≤ ((g c : Nat) : Int)) = true := decide_eq_true (by omega)
    repeat refine TC.seq ?_
    refine TC.draw mixed ?_
    refine f_move rfl rfl ?_
    refine f_move rfl rfl ?_
    (refine f_int rfl rfl rfl (r := .bool false) (by show some (D.bool (decide _)) = _; rw [h2]) ?_)
    refine f_move rfl rfl ?_
    first | refine f_guard_no rfl rfl rfl rfl ?_ | refine f_guard_un rfl rfl rfl ?_ | (refine f_guard_yes rfl rfl ?_; (refine f_move rfl rfl ?_))
    first | refine f_guard_no rfl rfl rfl rfl ?_ | refine f_guard_un rfl rfl rfl ?_ | (refine f_guard_yes rfl rfl ?_; (refine f_move rfl rfl ?_))
    first | refine f_guard_no rfl rfl rfl rfl ?_ | refine f_guard_un rfl rfl rfl ?_ | (refine f_guard_yes rfl rfl ?_; (refine f_indexR rfl rfl rfl (hset _) (by omega) (by omega) ?_))
    first | refine f_guard_no rfl rfl rfl rfl ?_ | refine f_guard_un rfl rfl rfl ?_ | (refine f_guard_yes rfl rfl ?_; (refine f_loadWc rfl rfl (hset _) gi ?_))
    first | refine f_guard_no rfl rfl rfl rfl ?_ | refine f_guard_un rfl rfl rfl ?_ | (refine f_guard_yes rfl rfl ?_; (refine f_move rfl rfl ?_))
    first | refine f_guard_no rfl rfl rfl rfl ?_ | refine f_guard_un rfl rfl rfl ?_ | (refine f_guard_yes rfl rfl ?_; (refine f_move rfl rfl ?_))
    first | refine f_guard_no rfl rfl rfl rfl ?_ | refine f_guard_un rfl rfl rfl ?_ | (refine f_guard_yes rfl rfl ?_; (refine f_indexR rfl rfl rfl (hset _) (by omega) (by omega) ?_))
    first | refine f_guard_no rfl rfl rfl rfl ?_ | refine f_guard_un rfl rfl rfl ?_ | (refine f_guard_yes rfl rfl ?_; (refine f_loadWc rfl rfl (hset _) gc ?_))
    first | refine f_guard_no rfl rfl rfl rfl ?_ | refine f_guard_un rfl rfl rfl ?_ | (refine f_guard_yes rfl rfl ?_; ((refine f_int rfl rfl rfl (r := .bool true) (by show some (D.bool (decide _)) = _; rw [h5]) ?_)))
    refine f_pick rfl rfl rfl ?_
    refine TF.nil ⟨by kernel_rfl, ?_⟩
    repeat refine TC.seq ?_
    refine TC.cond rfl (fun hc => ?_) (fun hc => by cases hc)
    repeat refine TC.seq ?_
    refine TC.region ?_
    refine t_move rfl rfl ?_
    refine t_move rfl rfl ?_
    refine t_assign rfl rfl ?_
    refine t_assign rfl rfl ?_
    refine TL.nil ?_
    exact TC.ret ⟨_, rfl, ver + 1, g, rfl, rfl, hU.stop (fun k k0 hk he => Nat.le_trans hge (hleast k k0 hk he)), hI, hM⟩
  have h5 : decide (((g i : Nat) : Int) ≤ ((g c : Nat) : Int)) = false := decide_eq_false (by omega)
  repeat refine TC.seq ?_
  refine TC.draw mixed ?_
  refine f_move rfl rfl ?_
  refine f_move rfl rfl ?_
  (refine f_int rfl rfl rfl (r := .bool false) (by show some (D.bool (decide _)) = _; rw [h2]) ?_)
  refine f_move rfl rfl ?_
  first | refine f_guard_no rfl rfl rfl rfl ?_ | refine f_guard_un rfl rfl rfl ?_ | (refine f_guard_yes rfl rfl ?_; (refine f_move rfl rfl ?_))
  first | refine f_guard_no rfl rfl rfl rfl ?_ | refine f_guard_un rfl rfl rfl ?_ | (refine f_guard_yes rfl rfl ?_; (refine f_move rfl rfl ?_))
  first | refine f_guard_no rfl rfl rfl rfl ?_ | refine f_guard_un rfl rfl rfl ?_ | (refine f_guard_yes rfl rfl ?_; (refine f_indexR rfl rfl rfl (hset _) (by omega) (by omega) ?_))
  first | refine f_guard_no rfl rfl rfl rfl ?_ | refine f_guard_un rfl rfl rfl ?_ | (refine f_guard_yes rfl rfl ?_; (refine f_loadWc rfl rfl (hset _) gi ?_))
  first | refine f_guard_no rfl rfl rfl rfl ?_ | refine f_guard_un rfl rfl rfl ?_ | (refine f_guard_yes rfl rfl ?_; (refine f_move rfl rfl ?_))
  first | refine f_guard_no rfl rfl rfl rfl ?_ | refine f_guard_un rfl rfl rfl ?_ | (refine f_guard_yes rfl rfl ?_; (refine f_move rfl rfl ?_))
  first | refine f_guard_no rfl rfl rfl rfl ?_ | refine f_guard_un rfl rfl rfl ?_ | (refine f_guard_yes rfl rfl ?_; (refine f_indexR rfl rfl rfl (hset _) (by omega) (by omega) ?_))
  first | refine f_guard_no rfl rfl rfl rfl ?_ | refine f_guard_un rfl rfl rfl ?_ | (refine f_guard_yes rfl rfl ?_; (refine f_loadWc rfl rfl (hset _) gc ?_))
  first | refine f_guard_no rfl rfl rfl rfl ?_ | refine f_guard_un rfl rfl rfl ?_ | (refine f_guard_yes rfl rfl ?_; ((refine f_int rfl rfl rfl (r := .bool false) (by show some (D.bool (decide _)) = _; rw [h5]) ?_)))
  refine f_pick rfl rfl rfl ?_
  refine TF.nil ⟨by kernel_rfl, ?_⟩
  repeat refine TC.seq ?_
  refine TC.cond rfl (fun hc => by cases hc) (fun hc => ?_)
  refine TC.skip ?_
  have w1 := swp_write1 (n := n) (g := g) (i := i) (j := c) (by omega)
  have w2 := swp_write2 (n := n) (g := g) (i := i) (j := c) (by omega) (by omega)
  repeat refine TC.seq ?_
  refine TC.draw mixed ?_
  refine f_move rfl rfl ?_
  refine f_move rfl rfl ?_
  refine f_move rfl rfl ?_
  refine f_move rfl rfl ?_
  refine f_move rfl rfl ?_
  refine f_move rfl rfl ?_
  refine f_indexR rfl rfl rfl (hset _) (by omega) (by omega) ?_
  refine f_loadWc rfl rfl (hset _) gc ?_
  refine f_move rfl rfl ?_
  refine f_move rfl rfl ?_
  refine f_indexR rfl rfl rfl (hset _) (by omega) (by omega) ?_
  refine f_loadWc rfl rfl (hset _) gi ?_
  refine f_indexR rfl rfl rfl (hset _) (by omega) (by omega) ?_
  (refine f_storeW rfl rfl (hset _) rfl rfl w1 ?_; rw [List.set_set])
  refine f_indexR rfl rfl rfl (hset _) (by omega) (by omega) ?_
  (refine f_storeW rfl rfl (hset _) rfl rfl w2 ?_; rw [List.set_set])
  refine TF.nil ⟨by kernel_rfl, ?_⟩
  repeat refine TC.seq ?_
  refine TC.region ?_
  refine t_move rfl rfl ?_
  refine t_assign rfl rfl ?_
  refine TL.nil ?_
  have hU2 := hU.step (by omega) hc0 hcn hci hleast hlt
  exact again (k' := n - c) (by omega) ⟨c, swp g i c, rfl, by omega, hU2, swp_inj (by omega) (by omega) hI, fun y => (swp_img (by omega) (by omega) y).trans (hM y), rfl⟩ rfl ⟨rfl, rfl, rfl, rfl, trivial⟩
end Go.Proofs
