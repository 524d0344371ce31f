/- driver.Known, faults.New, faults.In on data. -/
import Derived.Test.YtfgmlnfpecipnaaGreatDoorDkF
import Derived.Test.YtfgmlnfpecipnaaGreatDoorLibI
set_option linter.unusedVariables false
set_option linter.unusedSimpArgs false
set_option linter.unusedSectionVars false
namespace Go.Proofs
open Go.Mt Go.Proofs.Dk
set_option maxRecDepth 4000
set_option linter.unusedVariables false
set_option linter.unusedSimpArgs false
section
variable {X : Ctx} {ops : Array Oper} {rest : List Oper} {post : St → Prop} {sl : List (Nat × V)} {bx : List (Nat × List M)} {H : Hp} {d ty : Nat} {pos : String} {af : Array Edge}
theorem t_iface {xt : Nat} {x : Operand} {v : D} (hn : Nat.blt d X.n = true) (ht : ifaceable X.P xt = true) (hx : evs sl x = some (.m (.d v)))
    (k : TL X ops rest ⟨(d, .m (.d (.ifc xt v))) :: sl, bx, H⟩ post) : TL X ops (⟨some d, .makeInterface xt x, ty, pos, af, none⟩ :: rest) ⟨sl, bx, H⟩ post :=
  TL.o1 rfl rfl hn (op_makeIface ht hx) k
theorem t_nilI {xt yt : Nat} {x : Operand} {v : V} {z : Bool} (hk : tyRef X.P xt = 5) (hn : Nat.blt d X.n = true) (hx : evs sl x = some v) (h1 : nilOf 5 v = some z)
    (k : TL X ops rest ⟨(d, .m (.d (.bool z))) :: sl, bx, H⟩ post) : TL X ops (⟨some d, .binOp .eql xt x (.const .nilIface) yt, ty, pos, af, none⟩ :: rest) ⟨sl, bx, H⟩ post :=
  TL.o1 rfl rfl hn (op_nilI (op := .eql) (.inl rfl) hk hx h1) k
end
instance : IsFn Tryz.prog 10 := isFn_of (by kernel_rfl)
theorem any_false {x : Nat → Bool} {n : Nat} (h : ∀ k, k < n → x (k + 1) = false) : (List.range n).any (fun i => x (i + 1)) = false := by
  rw [List.any_eq_false]
  intro k hk
  rw [h k (List.mem_range.1 hk)]
  simp
theorem known_ok (e : D) (x : Nat → Bool) (h : ∀ k : Nat, PT Tryz.prog 10 [e, .ifc 25 (.int .i64 ((k : Nat) : Int))] (· = [.bool (x k)])) :
    PT Tryz.prog 7 [e] (· = [.bool ((List.range 11).any fun i => x (i + 1))]) := by
  refine PT.of_CT (CT.of_body Tryz.func7 rfl Tryz.ntmps7 rfl fun s0 Oo => ?_)
  repeat refine TC.seq ?_
  refine TC.region ?_
  refine t_assign rfl rfl ?_
  refine TL.nil ?_
  repeat refine TC.seq ?_
  refine TC.region ?_
  refine t_assign rfl rfl ?_
  refine TL.nil ?_
  refine TC.rename [(3, .m (.d (.int .i64 (((0 : Nat) + 1 : Nat) : Int)))), (0, .m (.d e))] [] rfl rfl ?_
  repeat refine TC.seq ?_
  refine TC.block ?_
  refine TC.loopB (fun k s => ∃ (i : Nat) (bx : List (Nat × List M)), s = ⟨[(3, .m (.d (.int .i64 ((i + 1 : Nat) : Int)))), (0, .m (.d e))], bx, []⟩ ∧ i ≤ 11 ∧ k = 11 - i ∧ ∀ j, j < i → x (j + 1) = false) 11 _
    ⟨0, _, rfl, by omega, rfl, fun j hj => by omega⟩ rfl ?_
  rintro k s ⟨i, bx, rfl, hi, rfl, hx⟩
  repeat refine TC.seq ?_
  refine TC.region ?_
  refine t_move rfl rfl ?_
  refine t_int rfl rfl rfl rfl ?_
  refine TL.nil ?_
  repeat refine TC.seq ?_
  refine TC.cond rfl (fun hc => ?_) (fun hc => ?_)
  · have hc' : i < 11 := by have := of_decide_eq_true hc; omega
    clear hc
    refine TC.skip ?_
    repeat refine TC.seq ?_
    refine TC.block ?_
    repeat refine TC.seq ?_
    refine TC.region ?_
    refine t_move rfl rfl ?_
    refine t_move rfl rfl ?_
    refine t_iface rfl (by kernel_rfl) rfl ?_
    refine t_call1 (h (i + 1)) rfl rfl ?_
    refine TL.nil ?_
    refine TC.cond rfl (fun hx1 => ?_) (fun hx1 => ?_)
    · repeat refine TC.seq ?_
      refine TC.region ?_
      refine t_assign rfl rfl ?_
      refine TL.nil ?_
      refine TC.ret ⟨_, rfl, [_], rfl, ?_⟩
      rw [List.any_eq_true.2 ⟨i, List.mem_range.2 hc', hx1⟩]
    · refine TC.skip ?_
      repeat refine TC.seq ?_
      refine TC.region ?_
      refine t_move rfl rfl ?_
      refine t_add64 rfl rfl rfl (by omega) ?_
      refine t_assign rfl rfl ?_
      refine TL.nil ?_
      refine again (k' := 11 - (i + 1)) (by omega) ⟨i + 1, _, rfl, by omega, rfl, ?_⟩ rfl rfl
      intro j hj
      rcases Nat.lt_or_ge j i with h1 | h1
      · exact hx j h1
      · obtain rfl : j = i := by omega
        exact hx1
  · refine TC.exit ?_
    have hc' : i = 11 := by have := of_decide_eq_false hc; omega
    subst hc'
    repeat refine TC.seq ?_
    refine TC.region ?_
    refine t_assign rfl rfl ?_
    refine TL.nil ?_
    refine TC.ret ⟨_, rfl, [_], rfl, ?_⟩
    rw [any_false hx]
theorem in_ok (t : Nat) (y : D) (s : ByteArray) :
    PT Tryz.prog 5 [.ifc t y, .str s] (· = [.ifc 53 (.pim [.int .i64 0, .int .i64 0, .str s, .bool true, .ifc t y] 0)]) := by
  refine PT.of_CT (CT.of_body Tryz.func5 rfl Tryz.ntmps5 rfl fun s0 Oo => ?_)
  repeat refine TC.seq ?_
  refine TC.region ?_
  refine t_assign rfl rfl ?_
  refine TL.nil ?_
  repeat refine TC.seq ?_
  refine TC.region ?_
  refine t_move rfl rfl ?_
  refine t_nilI (by kernel_rfl) rfl rfl rfl ?_
  refine TL.nil ?_
  repeat refine TC.seq ?_
  refine TC.cond rfl (fun hc => by cases hc) (fun hc => ?_)
  refine TC.skip ?_
  repeat refine TC.seq ?_
  refine TC.region ?_
  refine t_move rfl rfl ?_
  refine t_move rfl rfl ?_
  refine t_build rfl rfl rfl rfl rfl ?_
  refine t_box rfl rfl ?_
  refine t_iface rfl (by kernel_rfl) rfl ?_
  refine t_assign rfl rfl ?_
  refine TL.nil ?_
  exact TC.ret ⟨_, rfl, [_], rfl, rfl⟩
theorem in_nil (s : ByteArray) :
    PT Tryz.prog 5 [.nili, .str s] (· = [.nili]) := by
  refine PT.of_CT (CT.of_body Tryz.func5 rfl Tryz.ntmps5 rfl fun s0 Oo => ?_)
  repeat refine TC.seq ?_
  refine TC.region ?_
  refine t_assign rfl rfl ?_
  refine TL.nil ?_
  repeat refine TC.seq ?_
  refine TC.region ?_
  refine t_move rfl rfl ?_
  refine t_nilI (by kernel_rfl) rfl rfl rfl ?_
  refine TL.nil ?_
  repeat refine TC.seq ?_
  refine TC.cond rfl (fun hc => ?_) (fun hc => by cases hc)
  repeat refine TC.seq ?_
  refine TC.region ?_
  refine t_assign rfl rfl ?_
  refine TL.nil ?_
  exact TC.ret ⟨_, rfl, [_], rfl, rfl⟩
theorem new_ok (n a b : Int) (hn : n ≠ 0) :
    PT Tryz.prog 6 [.int .i64 n, .agg [.int .i64 a, .int .i64 b]] (· = [.ifc 53 (.pim [.int .i64 a, .int .i64 b, .str ⟨⟨[]⟩⟩, .bool false, .ifc 25 (.int .i64 n)] 0)]) := by
  refine PT.of_CT (CT.of_body Tryz.func6 rfl Tryz.ntmps6 rfl fun s0 Oo => ?_)
  repeat refine TC.seq ?_
  refine TC.region ?_
  refine t_box rfl rfl ?_
  refine t_assign rfl rfl ?_
  refine TL.nil ?_
  repeat refine TC.seq ?_
  refine TC.region ?_
  refine t_move rfl rfl ?_
  refine t_int rfl rfl rfl rfl ?_
  refine TL.nil ?_
  repeat refine TC.seq ?_
  refine TC.cond rfl (fun hc => absurd (of_decide_eq_true hc) hn) (fun hc => ?_)
  refine TC.skip ?_
  repeat refine TC.seq ?_
  refine TC.region ?_
  first | refine t_loadDw rfl rfl rfl ?_ | refine t_loadDa rfl rfl rfl ?_ | refine t_loadLa rfl rfl rfl rfl rfl ?_ | refine t_loadRa rfl rfl rfl rfl rfl ?_
  refine t_move rfl rfl ?_
  refine t_iface rfl (by kernel_rfl) rfl ?_
  refine t_build rfl rfl rfl rfl rfl ?_
  refine t_box rfl rfl ?_
  refine t_iface rfl (by kernel_rfl) rfl ?_
  refine t_assign rfl rfl ?_
  refine TL.nil ?_
  exact TC.ret ⟨_, rfl, [_], rfl, rfl⟩
theorem new_nil (a b : Int) :
    PT Tryz.prog 6 [.int .i64 0, .agg [.int .i64 a, .int .i64 b]] (· = [.nili]) := by
  refine PT.of_CT (CT.of_body Tryz.func6 rfl Tryz.ntmps6 rfl fun s0 Oo => ?_)
  repeat refine TC.seq ?_
  refine TC.region ?_
  refine t_box rfl rfl ?_
  refine t_assign rfl rfl ?_
  refine TL.nil ?_
  repeat refine TC.seq ?_
  refine TC.region ?_
  refine t_move rfl rfl ?_
  refine t_int rfl rfl rfl rfl ?_
  refine TL.nil ?_
  repeat refine TC.seq ?_
  refine TC.cond rfl (fun hc => ?_) (fun hc => by cases hc)
  repeat refine TC.seq ?_
  refine TC.region ?_
  refine t_assign rfl rfl ?_
  refine TL.nil ?_
  exact TC.ret ⟨_, rfl, [_], rfl, rfl⟩
end Go.Proofs
