import Derived.Test.YtenbmejbaiajcaaMtInst
import Derived.Test.YtenbmejbaiajcaaMtV
namespace Go.Proofs
open Go.Mt
set_option maxRecDepth 4000
set_option linter.unusedSimpArgs false
set_option linter.unusedVariables false

theorem mixed : Try.prog.follows .mixedOrders = true := by kernel_rfl

/-- the end of a round -/
theorem again {X : Ctx} {I : Nat → St → Prop} {k k' : Nat} {sl sl' : List (Nat × V)} {bx : List (Nat × List M)} {H H' : Hp} (hk : k' < k) (hI : I k' ⟨sl', bx, H'⟩) (hH : H = H') (hs : keeps sl sl') :
    ∃ k' s'', k' < k ∧ I k' s'' ∧ ∀ a w, Inv X ⟨sl, bx, H⟩ a w → Inv X s'' a w :=
  ⟨k', _, hk, hI, fun _ _ hi => by subst hH; exact hi.weak (keeps_get hs) (fun _ => rfl)⟩
theorem TC.rename {X : Ctx} {c : Code} {q : Exit → St → Prop} (sl' : List (Nat × V)) (H' : Hp) {sl : List (Nat × V)} {bx : List (Nat × List M)} {H : Hp} (hs : keeps sl sl') (hH : H = H') (k : TC X c ⟨sl', bx, H'⟩ q) : TC X c ⟨sl, bx, H⟩ q := by
  subst hH; exact TC.weak k hs
theorem one_len {x : List D} {n : Nat} (h : x.length = n) : ∀ r ∈ [x], r.length = n := by intro r hr; rw [List.mem_singleton] at hr; rw [hr]; exact h
theorem nat_le {a b : Nat} (h : Nat.ble a b = true) : a ≤ b := Nat.le_of_ble_eq_true h

/-- the expression that is a number -/
def numC (n : Int) : List D := [.int .u8 1, .int .u8 0, .int .i32 n, .str ⟨#[]⟩, .sl []]
def zeroC : List D := [.int .u8 0, .int .u8 0, .int .i32 0, .str ⟨#[]⟩, .sl []]

theorem num_ok (n : Int) : PT Try.prog 11 [.int .i32 n] (· = [.agg (numC n)]) := by
  refine PT.of_CT (CT.of_body Try.func11 rfl Try.ntmps11 rfl fun s0 Oo => ?_)
  repeat refine TC.seq ?_
  refine TC.region ?_
  refine t_alloc rfl rfl ?_
  refine TL.nil ?_
  repeat refine TC.seq ?_
  refine TC.region ?_
  refine t_move rfl rfl ?_
  refine t_build rfl rfl rfl rfl rfl ?_
  refine t_storeL rfl rfl rfl rfl rfl rfl ?_
  refine TL.nil ?_
  exact TC.ret ⟨_, rfl, [_], rfl, rfl⟩

theorem expr_ok (n : Int) : PT Try.prog 12 [.agg (numC n)] (· = [.int .i64 1]) := by
  refine PT.of_CT (CT.of_body Try.func12 rfl Try.ntmps12 rfl fun s0 Oo => ?_)
  rw [numC]
  repeat refine TC.seq ?_
  refine TC.region ?_
  refine t_box rfl rfl ?_
  refine t_assign rfl rfl ?_
  refine TL.nil ?_
  repeat refine TC.seq ?_
  refine TC.region ?_
  first | refine t_fieldD rfl rfl ?_ | refine t_fieldL rfl rfl ?_ | refine t_fieldR rfl rfl ?_
  first | refine t_loadDc rfl rfl rfl ?_ | refine t_loadLc rfl rfl rfl rfl ?_ | refine t_loadRc rfl rfl rfl rfl ?_
  refine t_int rfl rfl rfl rfl ?_
  refine t_move rfl rfl ?_
  first | refine t_guard_no rfl rfl ?_ | (refine t_guard_yes rfl ?_; (first | refine t_fieldD rfl rfl ?_ | refine t_fieldL rfl rfl ?_ | refine t_fieldR rfl rfl ?_))
  first | refine t_guard_no rfl rfl ?_ | (refine t_guard_yes rfl ?_; (first | refine t_loadDc rfl rfl rfl ?_ | refine t_loadLc rfl rfl rfl rfl ?_ | refine t_loadRc rfl rfl rfl rfl ?_))
  first | refine t_guard_no rfl rfl ?_ | (refine t_guard_yes rfl ?_; (refine t_lenS rfl rfl rfl ?_))
  first | refine t_guard_no rfl rfl ?_ | (refine t_guard_yes rfl ?_; (refine t_int rfl rfl rfl rfl ?_))
  refine t_pick rfl rfl rfl ?_
  refine TL.nil ?_
  repeat refine TC.seq ?_
  refine TC.cond rfl (fun hc => by cases hc) (fun hc => ?_)
  refine TC.skip ?_
  repeat refine TC.seq ?_
  refine TC.region ?_
  refine t_assign rfl rfl ?_
  refine TL.nil ?_
  repeat refine TC.seq ?_
  refine TC.region ?_
  first | refine t_fieldD rfl rfl ?_ | refine t_fieldL rfl rfl ?_ | refine t_fieldR rfl rfl ?_
  first | refine t_loadDc rfl rfl rfl ?_ | refine t_loadLc rfl rfl rfl rfl ?_ | refine t_loadRc rfl rfl rfl rfl ?_
  refine t_lenS rfl rfl rfl ?_
  refine t_move rfl rfl ?_
  refine TL.nil ?_
  repeat refine TC.seq ?_
  refine TC.block ?_
  refine TC.loop' (fun k s => k = 0 ∧ s = ⟨[(36, .m (.d (.int .i64 0))), (35, .m (.d (.int .i64 0))), (3, .m (.d (.int .i64 1)))], [], []⟩) 0 _ ⟨rfl, rfl⟩
      (fun a w hi => hi.weak (keeps_get ⟨rfl, rfl, rfl, trivial⟩) (fun _ => rfl)) ?_
  rintro k s ⟨rfl, rfl⟩
  repeat refine TC.seq ?_
  refine TC.region ?_
  refine t_int rfl rfl rfl rfl ?_
  refine TL.nil ?_
  repeat refine TC.seq ?_
  refine TC.cond rfl (fun hc => by cases hc) (fun hc => ?_)
  refine TC.exit ?_
  repeat refine TC.seq ?_
  refine TC.region ?_
  refine t_move rfl rfl ?_
  refine t_assign rfl rfl ?_
  refine TL.nil ?_
  exact TC.ret ⟨_, rfl, [_], rfl, rfl⟩
end Go.Proofs
