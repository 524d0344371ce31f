/- One more number in a heap whose least one stands first. -/
import Derived.Test.YtcmjcdiaidalgaaGrZb
import Derived.Test.YtcmjcdiaidalgaaGrHq
namespace Go.Proofs
open Go.Mt Go.Gr
set_option maxRecDepth 4000
set_option linter.unusedSimpArgs false
set_option linter.unusedVariables false

def hD (h : Nat → Nat) (k : Nat) : D := .int .i64 ((h k : Nat) : Int)
def snocF (h : Nat → Nat) (n x k : Nat) : Nat := if k = n then x else h k
theorem wdiv2 (m : Nat) (hm : m < 1000) : IntKind.i64.wrap (Int.tdiv (m : Int) 2) = ((m / 2 : Nat) : Int) := by
  have e : Int.tdiv (m : Int) 2 = ((m / 2 : Nat) : Int) := rfl
  rw [e]
  exact IntWalk.i64_in _ ⟨by omega, by omega⟩
theorem cellsF_snoc (n x : Nat) (h : Nat → Nat) : cellsF n (hD h) ++ flatM [[D.int .i64 ((x : Nat) : Int)]] = cellsF (n + 1) (hD (snocF h n x)) := by
  unfold cellsF
  rw [List.range_succ, List.map_append]
  congr 1
  · apply List.map_congr_left
    intro k hk
    have := List.mem_range.1 hk
    simp [hD, snocF, show ¬ k = n by omega]
  · simp [hD, snocF, flatM]
theorem snoc_img {n x : Nat} {h : Nat → Nat} (y : Nat) : Img (n + 1) (snocF h n x) y ↔ y = x ∨ Img n h y := by
  constructor
  · rintro ⟨k, hk, rfl⟩
    by_cases e : k = n
    · left; simp [snocF, e]
    · right; exact ⟨k, by omega, by simp [snocF, e]⟩
  · rintro (rfl | ⟨k, hk, rfl⟩)
    · exact ⟨n, by omega, by simp [snocF]⟩
    · exact ⟨k, by omega, by simp [snocF, show ¬ k = n by omega]⟩
theorem snoc_inj {n x : Nat} {h : Nat → Nat} (hi : Inj n h) (hx : ¬ Img n h x) : Inj (n + 1) (snocF h n x) := by
  intro a b ha hb e
  unfold snocF at e
  by_cases h1 : a = n <;> by_cases h2 : b = n
  · omega
  · rw [if_pos h1, if_neg h2] at e; exact absurd ⟨b, by omega, e.symm⟩ hx
  · rw [if_neg h1, if_pos h2] at e; exact absurd ⟨a, by omega, e⟩ hx
  · rw [if_neg h1, if_neg h2] at e; exact hi a b (by omega) (by omega) e
theorem snoc_up {n x : Nat} {h : Nat → Nat} (hp : Heap n h) : Up (n + 1) (snocF h n x) n := by
  refine ⟨fun k k0 hk hne => ?_, fun n0 k k0 hk he => by omega⟩
  rw [show snocF h n x k = h k by simp [snocF, hne], show snocF h n x ((k - 1) / 2) = h ((k - 1) / 2) by simp [snocF, show ¬ (k - 1) / 2 = n by omega]]
  exact hp k k0 (by omega)
theorem swp_write1 {n : Nat} {g : Nat → Nat} {i j : Nat} (hi : i < n) : writeAt (cellsF n (hD g)) (((i : Nat) : Int).toNat * 1) [.d (.int .i64 ((g j : Nat) : Int))] = some (cellsF n (hD (upd g i (g j)))) :=
  cellsF_write hi (by simp [hD, upd_self]) (fun k _ hk => by simp [hD, upd_ne _ _ hk])
theorem swp_write2 {n : Nat} {g : Nat → Nat} {i j : Nat} (hj : j < n) (hij : i ≠ j) : writeAt (cellsF n (hD (upd g i (g j)))) (((j : Nat) : Int).toNat * 1) [.d (.int .i64 ((g i : Nat) : Int))] = some (cellsF n (hD (swp g i j))) := by
  refine cellsF_write hj (by simp [hD, swp_j]) fun k hk hne => ?_
  unfold hD
  by_cases e : k = i
  · subst e; rw [swp_i, upd_self]
  · rw [swp_ne g e hne, upd_ne _ _ e]
/-- what push makes -/
def Pushed (n : Nat) (h : Nat → Nat) (x j : Nat) (H : Hp) (r : M) (K : Hp) : Prop :=
  ∃ ver' h', r = .rsl j ver' (n + 1) ∧ K = H.set j (.row false 1 ver' (cellsF (n + 1) (hD h'))) ∧ Heap (n + 1) h' ∧ Inj (n + 1) h' ∧ ∀ y, Img (n + 1) h' y ↔ y = x ∨ Img n h y
theorem push_ok (n : Nat) (h : Nat → Nat) (x j ver : Nat) (H : Hp) (hn : n ≤ 100) (hH : H[j]? = some (.row false 1 ver (cellsF n (hD h)))) (hhp : Heap n h) (hinj : Inj n h) (hx : ¬ Img n h x) :
    CT Try.prog 38 [.rsl j ver n, .d (.int .i64 ((x : Nat) : Int))] H (Pushed n h x j H) := by
  have hjl : j < H.length := by rcases Nat.lt_or_ge j H.length with h | h; exact h; simp [List.getElem?_eq_none h] at hH
  have hset : ∀ ob, (H.set j ob)[j]? = some ob := fun ob => by simp [hjl]
  refine CT.of_body Try.func38 rfl Try.ntmps38 rfl fun s0 Oo => ?_
  repeat refine TC.seq ?_
  refine TC.region ?_
  refine t_assign rfl rfl ?_
  refine TL.nil ?_
  repeat refine TC.seq ?_
  refine TC.region ?_
  refine t_move rfl rfl ?_
  refine t_move rfl rfl ?_
  refine t_buildSlice rfl rfl rfl rfl rfl rfl rfl rfl ?_
  refine t_appendR rfl rfl rfl hH rfl (one_len rfl) (by simp only [List.length_singleton]; omega) (by simp only [List.length_singleton]; omega) ?_
  refine t_assign rfl rfl ?_
  refine TL.nil ?_
  refine TC.rename [(0, .m (.rsl j (ver + 1) (n + 1)))] (H.set j (.row false 1 (ver + 1) (cellsF (n + 1) (hD (snocF h n x))))) ⟨rfl, trivial⟩ (by rw [show dcells (D.int .i64 ((x : Nat) : Int)) = [D.int .i64 ((x : Nat) : Int)] from rfl, cellsF_snoc]) ?_
  repeat refine TC.seq ?_
  refine TC.region ?_
  refine t_move rfl rfl ?_
  refine t_lenR rfl rfl ?_
  refine t_sub64 rfl rfl rfl (by omega) ?_
  refine t_assign rfl rfl ?_
  refine TL.nil ?_
  refine TC.rename [(5, .m (.d (.int .i64 ((n : Nat) : Int)))), (0, .m (.rsl j (ver + 1) (n + 1)))] (H.set j (.row false 1 (ver + 1) (cellsF (n + 1) (hD (snocF h n x))))) ⟨by rw [show (((n + 1 : Nat) : Int) - 1) = (n : Int) by omega]; rfl, rfl, trivial⟩ rfl ?_
  have hU := snoc_up (x := x) hhp
  have hI := snoc_inj hinj hx
  have hM := fun y => snoc_img (n := n) (x := x) (h := h) y
  generalize snocF h n x = g0 at hU hI hM ⊢
  repeat refine TC.seq ?_
  refine TC.block ?_
  refine TC.loopB (fun k s => ∃ (i : Nat) (g : Nat → Nat), s = ⟨[(5, .m (.d (.int .i64 ((i : Nat) : Int)))), (0, .m (.rsl j (ver + 1) (n + 1)))], [], H.set j (.row false 1 (ver + 1) (cellsF (n + 1) (hD g)))⟩ ∧ i ≤ n ∧ Up (n + 1) g i ∧ Inj (n + 1) g ∧ (∀ y, Img (n + 1) g y ↔ y = x ∨ Img n h y) ∧ k = i) n _
    ⟨n, g0, rfl, by omega, hU, hI, hM, rfl⟩ ⟨rfl, rfl, trivial⟩ ?_
  rintro k s ⟨i, g, rfl, hi, hU, hI, hM, rfl⟩
  rcases Nat.eq_zero_or_pos k with rfl | h0
  · repeat refine TC.seq ?_
    refine TC.draw mixed ?_
    refine f_move rfl rfl ?_
    (refine f_int rfl rfl rfl (r := .bool false) rfl ?_)
    refine f_move rfl rfl ?_
    first | refine f_guard_no rfl rfl rfl rfl ?_ | refine f_guard_un rfl rfl rfl ?_ | (refine f_guard_yes rfl rfl ?_; (refine f_move rfl rfl ?_))
    first | refine f_guard_no rfl rfl rfl rfl ?_ | refine f_guard_un rfl rfl rfl ?_ | (refine f_guard_yes rfl rfl ?_; (refine f_move rfl rfl ?_))
    first | refine f_guard_no rfl rfl rfl rfl ?_ | refine f_guard_un rfl rfl rfl ?_ | (refine f_guard_yes rfl rfl ?_; (refine f_sub64 rfl rfl rfl (by omega) ?_))
    first | refine f_guard_no rfl rfl rfl rfl ?_ | refine f_guard_un rfl rfl rfl ?_ | (refine f_guard_yes rfl rfl ?_; (refine f_quo rfl rfl rfl rfl ?_))
    first | refine f_guard_no rfl rfl rfl rfl ?_ | refine f_guard_un rfl rfl rfl ?_ | (refine f_guard_yes rfl rfl ?_; (fail))
    first | refine f_guard_no rfl rfl rfl rfl ?_ | refine f_guard_un rfl rfl rfl ?_ | (refine f_guard_yes rfl rfl ?_; (first | refine f_loadDc rfl rfl rfl ?_ | refine f_loadLc rfl rfl rfl rfl ?_ | refine f_loadRc rfl rfl rfl rfl ?_))
    first | refine f_guard_no rfl rfl rfl rfl ?_ | refine f_guard_un rfl rfl rfl ?_ | (refine f_guard_yes rfl rfl ?_; (refine f_move rfl rfl ?_))
    first | refine f_guard_no rfl rfl rfl rfl ?_ | refine f_guard_un rfl rfl rfl ?_ | (refine f_guard_yes rfl rfl ?_; (refine f_move rfl rfl ?_))
    first | refine f_guard_no rfl rfl rfl rfl ?_ | refine f_guard_un rfl rfl rfl ?_ | (refine f_guard_yes rfl rfl ?_; (fail))
    first | refine f_guard_no rfl rfl rfl rfl ?_ | refine f_guard_un rfl rfl rfl ?_ | (refine f_guard_yes rfl rfl ?_; (first | refine f_loadDc rfl rfl rfl ?_ | refine f_loadLc rfl rfl rfl rfl ?_ | refine f_loadRc rfl rfl rfl rfl ?_))
    first | refine f_guard_no rfl rfl rfl rfl ?_ | refine f_guard_un rfl rfl rfl ?_ | (refine f_guard_yes rfl rfl ?_; (refine f_int rfl rfl rfl rfl ?_))
    refine f_pick rfl rfl rfl ?_
    refine TF.nil ⟨by kernel_rfl, ?_⟩
    repeat refine TC.seq ?_
    refine TC.cond rfl (fun hc => by cases hc) (fun hc => ?_)
    refine TC.exit ?_
    repeat refine TC.seq ?_
    refine TC.region ?_
    refine t_move rfl rfl ?_
    refine t_assign rfl rfl ?_
    refine TL.nil ?_
    exact TC.ret ⟨_, rfl, ver + 1, g, rfl, rfl, hU.stop (.inl rfl), hI, hM⟩
  have h1 : decide ((k : Int) > 0) = true := decide_eq_true (by omega)
  have h2 : (k : Int) - 1 = ((k - 1 : Nat) : Int) := by omega
  have h3 := wdiv2 (k - 1) (by omega)
  obtain ⟨p, hp⟩ : ∃ p, p = (k - 1) / 2 := ⟨_, rfl⟩
  rw [← hp] at h3
  have hpk : p < k := by omega
  have gp : (cellsF (n + 1) (hD g))[((p : Nat) : Int).toNat * 1]? = some (.d (.int .i64 ((g p : Nat) : Int))) := cellsF_get (by omega)
  have gk : (cellsF (n + 1) (hD g))[((k : Nat) : Int).toNat * 1]? = some (.d (.int .i64 ((g k : Nat) : Int))) := cellsF_get (by omega)
  rcases Nat.lt_or_ge (g k) (g p) with hlt | hge
  rotate_left
  · have h4 : decide (((g p : Nat) : Int) > ((g k : Nat) : Int)) = false := decide_eq_false (by omega)
    repeat refine TC.seq ?_
    refine TC.draw mixed ?_
    refine f_move rfl rfl ?_
    (refine f_int rfl rfl rfl (r := .bool true) (by show some (D.bool (decide _)) = _; rw [h1]) ?_)
    refine f_move rfl rfl ?_
    first | refine f_guard_no rfl rfl rfl rfl ?_ | refine f_guard_un rfl rfl rfl ?_ | (refine f_guard_yes rfl rfl ?_; (refine f_move rfl rfl ?_))
    first | refine f_guard_no rfl rfl rfl rfl ?_ | refine f_guard_un rfl rfl rfl ?_ | (refine f_guard_yes rfl rfl ?_; (refine f_move rfl rfl ?_))
    first | refine f_guard_no rfl rfl rfl rfl ?_ | refine f_guard_un rfl rfl rfl ?_ | (refine f_guard_yes rfl rfl ?_; ((refine f_sub64 rfl rfl rfl (by omega) ?_; rw [h2])))
    first | refine f_guard_no rfl rfl rfl rfl ?_ | refine f_guard_un rfl rfl rfl ?_ | (refine f_guard_yes rfl rfl ?_; ((refine f_quo rfl rfl rfl rfl ?_; rw [h3])))
    first | refine f_guard_no rfl rfl rfl rfl ?_ | refine f_guard_un rfl rfl rfl ?_ | (refine f_guard_yes rfl rfl ?_; (refine f_indexR rfl rfl rfl (hset _) (by omega) (by omega) ?_))
    first | refine f_guard_no rfl rfl rfl rfl ?_ | refine f_guard_un rfl rfl rfl ?_ | (refine f_guard_yes rfl rfl ?_; (refine f_loadWc rfl rfl (hset _) gp ?_))
    first | refine f_guard_no rfl rfl rfl rfl ?_ | refine f_guard_un rfl rfl rfl ?_ | (refine f_guard_yes rfl rfl ?_; (refine f_move rfl rfl ?_))
    first | refine f_guard_no rfl rfl rfl rfl ?_ | refine f_guard_un rfl rfl rfl ?_ | (refine f_guard_yes rfl rfl ?_; (refine f_move rfl rfl ?_))
    first | refine f_guard_no rfl rfl rfl rfl ?_ | refine f_guard_un rfl rfl rfl ?_ | (refine f_guard_yes rfl rfl ?_; (refine f_indexR rfl rfl rfl (hset _) (by omega) (by omega) ?_))
    first | refine f_guard_no rfl rfl rfl rfl ?_ | refine f_guard_un rfl rfl rfl ?_ | (refine f_guard_yes rfl rfl ?_; (refine f_loadWc rfl rfl (hset _) gk ?_))
    first | refine f_guard_no rfl rfl rfl rfl ?_ | refine f_guard_un rfl rfl rfl ?_ | (refine f_guard_yes rfl rfl ?_; ((refine f_int rfl rfl rfl (r := .bool false) (by show some (D.bool (decide _)) = _; rw [h4]) ?_)))
    refine f_pick rfl rfl rfl ?_
    refine TF.nil ⟨by kernel_rfl, ?_⟩
    repeat refine TC.seq ?_
    refine TC.cond rfl (fun hc => by cases hc) (fun hc => ?_)
    refine TC.exit ?_
    repeat refine TC.seq ?_
    refine TC.region ?_
    refine t_move rfl rfl ?_
    refine t_assign rfl rfl ?_
    refine TL.nil ?_
    exact TC.ret ⟨_, rfl, ver + 1, g, rfl, rfl, hU.stop (.inr (by rw [← hp]; exact hge)), hI, hM⟩
  have h4 : decide (((g p : Nat) : Int) > ((g k : Nat) : Int)) = true := decide_eq_true (by omega)
  repeat refine TC.seq ?_
  refine TC.draw mixed ?_
  refine f_move rfl rfl ?_
  (refine f_int rfl rfl rfl (r := .bool true) (by show some (D.bool (decide _)) = _; rw [h1]) ?_)
  refine f_move rfl rfl ?_
  first | refine f_guard_no rfl rfl rfl rfl ?_ | refine f_guard_un rfl rfl rfl ?_ | (refine f_guard_yes rfl rfl ?_; (refine f_move rfl rfl ?_))
  first | refine f_guard_no rfl rfl rfl rfl ?_ | refine f_guard_un rfl rfl rfl ?_ | (refine f_guard_yes rfl rfl ?_; (refine f_move rfl rfl ?_))
  first | refine f_guard_no rfl rfl rfl rfl ?_ | refine f_guard_un rfl rfl rfl ?_ | (refine f_guard_yes rfl rfl ?_; ((refine f_sub64 rfl rfl rfl (by omega) ?_; rw [h2])))
  first | refine f_guard_no rfl rfl rfl rfl ?_ | refine f_guard_un rfl rfl rfl ?_ | (refine f_guard_yes rfl rfl ?_; ((refine f_quo rfl rfl rfl rfl ?_; rw [h3])))
  first | refine f_guard_no rfl rfl rfl rfl ?_ | refine f_guard_un rfl rfl rfl ?_ | (refine f_guard_yes rfl rfl ?_; (refine f_indexR rfl rfl rfl (hset _) (by omega) (by omega) ?_))
  first | refine f_guard_no rfl rfl rfl rfl ?_ | refine f_guard_un rfl rfl rfl ?_ | (refine f_guard_yes rfl rfl ?_; (refine f_loadWc rfl rfl (hset _) gp ?_))
  first | refine f_guard_no rfl rfl rfl rfl ?_ | refine f_guard_un rfl rfl rfl ?_ | (refine f_guard_yes rfl rfl ?_; (refine f_move rfl rfl ?_))
  first | refine f_guard_no rfl rfl rfl rfl ?_ | refine f_guard_un rfl rfl rfl ?_ | (refine f_guard_yes rfl rfl ?_; (refine f_move rfl rfl ?_))
  first | refine f_guard_no rfl rfl rfl rfl ?_ | refine f_guard_un rfl rfl rfl ?_ | (refine f_guard_yes rfl rfl ?_; (refine f_indexR rfl rfl rfl (hset _) (by omega) (by omega) ?_))
  first | refine f_guard_no rfl rfl rfl rfl ?_ | refine f_guard_un rfl rfl rfl ?_ | (refine f_guard_yes rfl rfl ?_; (refine f_loadWc rfl rfl (hset _) gk ?_))
  first | refine f_guard_no rfl rfl rfl rfl ?_ | refine f_guard_un rfl rfl rfl ?_ | (refine f_guard_yes rfl rfl ?_; ((refine f_int rfl rfl rfl (r := .bool true) (by show some (D.bool (decide _)) = _; rw [h4]) ?_)))
  refine f_pick rfl rfl rfl ?_
  refine TF.nil ⟨by kernel_rfl, ?_⟩
  repeat refine TC.seq ?_
  refine TC.cond rfl (fun hc => ?_) (fun hc => by cases hc)
  refine TC.skip ?_
  repeat refine TC.seq ?_
  refine TC.block ?_
  have w1 := swp_write1 (n := n + 1) (g := g) (i := k) (j := p) (by omega)
  have w2 := swp_write2 (n := n + 1) (g := g) (i := k) (j := p) (by omega) (by omega)
  repeat refine TC.seq ?_
  refine TC.draw mixed ?_
  refine f_move rfl rfl ?_
  refine f_move rfl rfl ?_
  refine f_move rfl rfl ?_
  refine f_move rfl rfl ?_
  (refine f_sub64 rfl rfl rfl (by omega) ?_; rw [h2])
  (refine f_quo rfl rfl rfl rfl ?_; rw [h3])
  refine f_move rfl rfl ?_
  refine f_move rfl rfl ?_
  (refine f_sub64 rfl rfl rfl (by omega) ?_; rw [h2])
  (refine f_quo rfl rfl rfl rfl ?_; rw [h3])
  refine f_indexR rfl rfl rfl (hset _) (by omega) (by omega) ?_
  refine f_loadWc rfl rfl (hset _) gp ?_
  refine f_move rfl rfl ?_
  refine f_move rfl rfl ?_
  refine f_indexR rfl rfl rfl (hset _) (by omega) (by omega) ?_
  refine f_loadWc rfl rfl (hset _) gk ?_
  refine f_indexR rfl rfl rfl (hset _) (by omega) (by omega) ?_
  (refine f_storeW rfl rfl (hset _) rfl rfl w1 ?_; rw [List.set_set])
  refine f_indexR rfl rfl rfl (hset _) (by omega) (by omega) ?_
  (refine f_storeW rfl rfl (hset _) rfl rfl w2 ?_; rw [List.set_set])
  refine TF.nil ⟨by kernel_rfl, ?_⟩
  repeat refine TC.seq ?_
  refine TC.region ?_
  refine t_move rfl rfl ?_
  (refine t_sub64 rfl rfl rfl (by omega) ?_; rw [h2])
  (refine t_quo rfl rfl rfl rfl ?_; rw [h3])
  refine t_assign rfl rfl ?_
  refine TL.nil ?_
  have hU2 := hU.step (by omega) h0 (by rw [← hp]; exact hlt)
  rw [← hp] at hU2
  exact again (k' := p) hpk ⟨p, swp g k p, rfl, by omega, hU2, swp_inj (by omega) (by omega) hI, fun y => (swp_img (by omega) (by omega) y).trans (hM y), rfl⟩ rfl ⟨rfl, rfl, trivial⟩
theorem push_nil (x : Nat) (H : Hp) : CT Try.prog 38 [.d (.sl []), .d (.int .i64 ((x : Nat) : Int))] H (fun r K => r = .rsl H.length 0 1 ∧ K = H ++ [.row false 1 0 (cellsF 1 (hD fun _ => x))]) := by
  refine CT.of_body Try.func38 rfl Try.ntmps38 rfl fun s0 Oo => ?_
  repeat refine TC.seq ?_
  refine TC.region ?_
  refine t_assign rfl rfl ?_
  refine TL.nil ?_
  repeat refine TC.seq ?_
  refine TC.region ?_
  refine t_move rfl rfl ?_
  refine t_move rfl rfl ?_
  refine t_buildSlice rfl rfl rfl rfl rfl rfl rfl rfl ?_
  refine t_append0 false rfl rfl rfl rfl (by rfl) (by simp) (by exact one_len rfl) (by exact nat_le rfl) ?_
  refine t_assign rfl rfl ?_
  refine TL.nil ?_
  refine TC.rename [(0, .m (.rsl H.length 0 1))] (H ++ [.row false 1 0 (cellsF 1 (hD fun _ => x))]) ⟨rfl, trivial⟩ rfl ?_
  repeat refine TC.seq ?_
  refine TC.region ?_
  refine t_move rfl rfl ?_
  refine t_lenR rfl rfl ?_
  refine t_sub64 rfl rfl rfl (by omega) ?_
  refine t_assign rfl rfl ?_
  refine TL.nil ?_
  repeat refine TC.seq ?_
  refine TC.block ?_
  refine TC.loopB (fun k s => s = ⟨[(5, .m (.d (.int .i64 0))), (0, .m (.rsl H.length 0 1))], [], H ++ [.row false 1 0 (cellsF 1 (hD fun _ => x))]⟩) 0 [(5, .m (.d (.int .i64 0))), (0, .m (.rsl H.length 0 1))]
    rfl ⟨rfl, rfl, trivial⟩ ?_
  rintro k s rfl
  repeat refine TC.seq ?_
  refine TC.draw mixed ?_
  refine f_move rfl rfl ?_
  (refine f_int rfl rfl rfl (r := .bool false) rfl ?_)
  refine f_move rfl rfl ?_
  first | refine f_guard_no rfl rfl rfl rfl ?_ | refine f_guard_un rfl rfl rfl ?_ | (refine f_guard_yes rfl rfl ?_; (refine f_move rfl rfl ?_))
  first | refine f_guard_no rfl rfl rfl rfl ?_ | refine f_guard_un rfl rfl rfl ?_ | (refine f_guard_yes rfl rfl ?_; (refine f_move rfl rfl ?_))
  first | refine f_guard_no rfl rfl rfl rfl ?_ | refine f_guard_un rfl rfl rfl ?_ | (refine f_guard_yes rfl rfl ?_; (refine f_sub64 rfl rfl rfl (by omega) ?_))
  first | refine f_guard_no rfl rfl rfl rfl ?_ | refine f_guard_un rfl rfl rfl ?_ | (refine f_guard_yes rfl rfl ?_; (refine f_quo rfl rfl rfl rfl ?_))
  first | refine f_guard_no rfl rfl rfl rfl ?_ | refine f_guard_un rfl rfl rfl ?_ | (refine f_guard_yes rfl rfl ?_; (fail))
  first | refine f_guard_no rfl rfl rfl rfl ?_ | refine f_guard_un rfl rfl rfl ?_ | (refine f_guard_yes rfl rfl ?_; (first | refine f_loadDc rfl rfl rfl ?_ | refine f_loadLc rfl rfl rfl rfl ?_ | refine f_loadRc rfl rfl rfl rfl ?_))
  first | refine f_guard_no rfl rfl rfl rfl ?_ | refine f_guard_un rfl rfl rfl ?_ | (refine f_guard_yes rfl rfl ?_; (refine f_move rfl rfl ?_))
  first | refine f_guard_no rfl rfl rfl rfl ?_ | refine f_guard_un rfl rfl rfl ?_ | (refine f_guard_yes rfl rfl ?_; (refine f_move rfl rfl ?_))
  first | refine f_guard_no rfl rfl rfl rfl ?_ | refine f_guard_un rfl rfl rfl ?_ | (refine f_guard_yes rfl rfl ?_; (fail))
  first | refine f_guard_no rfl rfl rfl rfl ?_ | refine f_guard_un rfl rfl rfl ?_ | (refine f_guard_yes rfl rfl ?_; (first | refine f_loadDc rfl rfl rfl ?_ | refine f_loadLc rfl rfl rfl rfl ?_ | refine f_loadRc rfl rfl rfl rfl ?_))
  first | refine f_guard_no rfl rfl rfl rfl ?_ | refine f_guard_un rfl rfl rfl ?_ | (refine f_guard_yes rfl rfl ?_; (refine f_int rfl rfl rfl rfl ?_))
  refine f_pick rfl rfl rfl ?_
  refine TF.nil ⟨by kernel_rfl, ?_⟩
  repeat refine TC.seq ?_
  refine TC.cond rfl (fun hc => by cases hc) (fun hc => ?_)
  refine TC.exit ?_
  repeat refine TC.seq ?_
  refine TC.region ?_
  refine t_move rfl rfl ?_
  refine t_assign rfl rfl ?_
  refine TL.nil ?_
  exact TC.ret ⟨_, rfl, rfl, rfl⟩
end Go.Proofs
