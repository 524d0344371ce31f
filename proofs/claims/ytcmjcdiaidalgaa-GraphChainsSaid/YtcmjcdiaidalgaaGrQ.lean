/- A row of the heap, turned round. -/
import Derived.Test.YtcmjcdiaidalgaaGrO
import Derived.Test.YtcmjcdiaidalgaaGrP
import Derived.Test.YtcmjcdiaidalgaaLibI
namespace Go.Proofs
open Go.Mt
set_option maxRecDepth 4000
set_option linter.unusedSimpArgs false
set_option linter.unusedVariables false

section
variable {X : Ctx} {ops : Array Oper} {rest : List Oper} {sl : List (Nat × V)} {bx : List (Nat × List M)} {H : Hp} {post : St → Prop} {d ty : Nat} {pos : String} {af : Array Edge}
theorem t_buildRow {T e n len : Nat} {parts : List (Nat × Operand)} {z : D} {ms : List (Nat × M)} {cs : List M} [ht : TySlice X.P T e] [hs : TySz X.P e n] [hz : TyZ X.P e z] (hn : Nat.blt d X.n = true) (h0 : Nat.blt 0 n = true) (hzl : (dcells z).length = n)
    (hle : Nat.ble (len * n) 16777216 = true) (he : evPartsO sl parts = some ms) (hf : fillM (fun i => some (i * n, n)) (zlist n len (dcells z)) ms = some cs)
    (k : TL X ops rest ⟨(d, .m (.rsl H.length 0 len)) :: sl, bx, H ++ [.row false n 0 cs]⟩ post) : TL X ops (⟨some d, .buildSlice T len parts.toArray, ty, pos, af, none⟩ :: rest) ⟨sl, bx, H⟩ post :=
  TL.o1 rfl rfl hn (op_buildSliceP h0 hzl hle (by rw [evPartsO_eq]; exact he) hf (.inl ⟨rfl, rfl⟩)) k
end
instance : IsFn Try.prog 45 := isFn_of (by kernel_rfl)
def revF (n i : Nat) (f : Nat → D) (k : Nat) : D := if k < i ∨ (n ≤ k + i ∧ k < n) then f (n - 1 - k) else f k
theorem rev_ok (n : Nat) (f : Nat → D) (hf : ∀ k, ∃ z, f k = .int .i64 z) (j ver : Nat) (H : Hp) (hn : n ≤ 1000) (hH : H[j]? = some (.row false 1 ver (cellsF n f))) :
    CT Try.prog 45 [.rsl j ver n] H fun r h => h = H.set j (.row false 1 ver (cellsF n fun k => f (n - 1 - k))) := by
  have hjl : j < H.length := by rcases Nat.lt_or_ge j H.length with h | h; exact h; simp [List.getElem?_eq_none h] at hH
  have hset : ∀ ob, (H.set j ob)[j]? = some ob := fun ob => by simp [hjl]
  refine CT.of_body Try.func45 rfl Try.ntmps45 rfl fun s0 Oo => ?_
  repeat refine TC.seq ?_
  refine TC.region ?_
  refine t_move rfl rfl ?_
  refine t_lenR rfl rfl ?_
  refine t_sub64 rfl rfl rfl (by omega) ?_
  refine t_assign rfl rfl ?_
  refine t_assign rfl rfl ?_
  refine TL.nil ?_
  refine TC.rename [(3, .m (.d (.int .i64 ((n : Int) - 1 - (0 : Nat))))), (2, .m (.d (.int .i64 ((0 : Nat) : Int)))), (0, .m (.rsl j ver n))] (H.set j (.row false 1 ver (cellsF n (revF n 0 f)))) ⟨by simp; rfl, rfl, rfl, trivial⟩ (by
    rw [cellsF_congr (g := f) (fun k hk => by simp [revF]; omega)]
    apply List.ext_getElem?
    intro m
    by_cases e : m = j
    · subst e; rw [hset]; exact hH
    · rw [List.getElem?_set_ne (Ne.symm e)]) ?_
  repeat refine TC.seq ?_
  refine TC.block ?_
  refine TC.loopB (fun k s => ∃ (i : Nat), s = ⟨[(3, .m (.d (.int .i64 ((n : Int) - 1 - i)))), (2, .m (.d (.int .i64 (i : Int)))), (0, .m (.rsl j ver n))], [], H.set j (.row false 1 ver (cellsF n (revF n i f)))⟩ ∧ 2 * i ≤ n + 1 ∧ k = n - i) n _
    ⟨0, rfl, by omega, rfl⟩ ⟨rfl, rfl, rfl, trivial⟩ ?_
  rintro k s ⟨i, rfl, hi, rfl⟩
  repeat refine TC.seq ?_
  refine TC.region ?_
  refine t_move rfl rfl ?_
  refine t_move rfl rfl ?_
  refine t_int rfl rfl rfl rfl ?_
  refine TL.nil ?_
  repeat refine TC.seq ?_
  refine TC.cond rfl (fun hc => ?_) (fun hc => ?_)
  · have hc' : 2 * i + 1 < n := by have := of_decide_eq_true hc; omega
    clear hc
    obtain ⟨m, hm⟩ : ∃ m : Nat, m = n - 1 - i := ⟨_, rfl⟩
    have hmi : ((n : Int) - 1 - i) = (m : Int) := by omega
    obtain ⟨z1, hz1⟩ := hf i
    obtain ⟨z2, hz2⟩ := hf m
    have g1 : (cellsF n (revF n i f))[((m : Nat) : Int).toNat * 1]? = some (.d (.int .i64 z2)) := by
      rw [cellsF_get (by omega)]; simp only [revF]; rw [if_neg (by omega), hz2]
    have g2 : (cellsF n (revF n i f))[((i : Nat) : Int).toNat * 1]? = some (.d (.int .i64 z1)) := by
      rw [cellsF_get (by omega)]; simp only [revF]; rw [if_neg (by omega), hz1]
    have w1 : writeAt (cellsF n (revF n i f)) (((i : Nat) : Int).toNat * 1) [.d (.int .i64 z2)] = some (cellsF n (Go.Gr.upd (revF n i f) i (.int .i64 z2))) := cellsF_write (by omega) (Go.Gr.upd_self _ _ _) fun a _ ha => Go.Gr.upd_ne _ _ ha
    have w2 : writeAt (cellsF n (Go.Gr.upd (revF n i f) i (.int .i64 z2))) (((m : Nat) : Int).toNat * 1) [.d (.int .i64 z1)] = some (cellsF n (revF n (i + 1) f)) := by
      refine cellsF_write (by omega) ?_ fun a ha hne => ?_
      · simp only [revF]; rw [if_pos (by omega), show n - 1 - m = i by omega, hz1]
      · by_cases e : a = i
        · subst e
          rw [Go.Gr.upd_self]; simp only [revF]; rw [if_pos (by omega), ← hm, hz2]
        · rw [Go.Gr.upd_ne _ _ e]; simp only [revF]
          by_cases h1 : a < i ∨ (n ≤ a + i ∧ a < n)
          · rw [if_pos h1, if_pos (by omega)]
          · rw [if_neg h1, if_neg (by omega)]
    rw [hmi]
    refine TC.skip ?_
    repeat refine TC.seq ?_
    refine TC.block ?_
    repeat refine TC.seq ?_
    refine TC.draw mixed ?_
    refine f_move rfl rfl ?_
    refine f_move rfl rfl ?_
    refine f_move rfl rfl ?_
    refine f_move rfl rfl ?_
    refine f_move rfl rfl ?_
    refine f_move rfl rfl ?_
    refine f_indexR rfl rfl rfl (hset _) (by omega) (by omega) ?_
    refine f_loadWc rfl rfl (hset _) g1 ?_
    refine f_move rfl rfl ?_
    refine f_move rfl rfl ?_
    refine f_indexR rfl rfl rfl (hset _) (by omega) (by omega) ?_
    refine f_loadWc rfl rfl (hset _) g2 ?_
    refine f_indexR rfl rfl rfl (hset _) (by omega) (by omega) ?_
    (refine f_storeW rfl rfl (hset _) rfl rfl w1 ?_; rw [List.set_set])
    refine f_indexR rfl rfl rfl (hset _) (by omega) (by omega) ?_
    (refine f_storeW rfl rfl (hset _) rfl rfl w2 ?_; rw [List.set_set])
    refine TF.nil ⟨by kernel_rfl, ?_⟩
    repeat refine TC.seq ?_
    refine TC.region ?_
    refine t_move rfl rfl ?_
    refine t_add64 rfl rfl rfl (by omega) ?_
    refine t_move rfl rfl ?_
    refine t_sub64 rfl rfl rfl (by omega) ?_
    refine t_assign rfl rfl ?_
    refine t_assign rfl rfl ?_
    refine TL.nil ?_
    exact again (k' := n - (i + 1)) (by omega) ⟨i + 1, rfl, by omega, rfl⟩ rfl ⟨by rw [show ((n : Int) - 1 - ((i + 1 : Nat) : Int)) = (m : Int) - 1 by omega]; rfl, by simp; rfl, rfl, trivial⟩
  · refine TC.exit ?_
    have hc' : n ≤ 2 * i + 1 := by have := of_decide_eq_false hc; omega
    have e : cellsF n (revF n i f) = cellsF n (fun k => f (n - 1 - k)) := cellsF_congr fun k hk => by
      simp only [revF]
      by_cases h : k < i ∨ (n ≤ k + i ∧ k < n)
      · rw [if_pos h]
      · rw [if_neg h]; congr 1; omega
    rw [e]
    exact ⟨_, rfl, rfl⟩
end Go.Proofs
