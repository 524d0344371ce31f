/- The tape, digits, names, constants. -/
import Derived.Test.YtcmjcdiaidalgaaMkA
import Derived.Test.YtcmjcdiaidalgaaMtInst
set_option linter.unusedVariables false
set_option linter.unusedSimpArgs false
set_option linter.unusedSectionVars false
namespace Go.Proofs
open Go.Mt Go.Mk
set_option maxRecDepth 4000
set_option linter.unusedSimpArgs false
set_option linter.unusedVariables false
theorem mixed : Try.prog.follows .mixedOrders = true := by kernel_rfl

/-- where the making stands -/
structure GS where
  i : Nat
  n : Nat
  q : Int
abbrev tapeC (v : D) (i : Nat) : List M := [.d v, .d (.int .i64 ((i : Nat) : Int))]
abbrev genC (n : Nat) (q : Int) (subs : Nat) (main : Bool) : List M := [.ref 0 0, .d (.int .i64 ((n : Nat) : Int)), .d (.int .i64 q), .d (.int .i64 ((subs : Nat) : Int)), .d (.bool main)]
abbrev GH (v : D) (subs : Nat) (main : Bool) (g : GS) : Hp := [.box (tapeC v g.i), .box (genC g.n g.q subs main)]
/-- what is known of the tape -/
structure Tape (zs : List Int) (v : D) : Prop where
  hin : InI .u8 zs v
  hl : zs.length ≤ 1000
/-- one read -/
structure Rd (zs : List Int) (k j : Nat) (g g' : GS) : Prop where
  lt : j < k
  n : g'.n = g.n
  q : g'.q = g.q
  i : g.i ≤ g'.i
  le : g'.i ≤ zs.length
  pay : j ≠ 0 → g.i < g'.i
theorem wfU8m {n : Int} (h : (Lit.int .u8 n).wf = true) : 0 ≤ n ∧ n < 256 := by
  simp only [Lit.wf, Bool.and_eq_true, decide_eq_true_eq] at h
  have h1 : IntKind.u8.min = 0 := by decide
  have h2 : IntKind.u8.max = 255 := by decide
  omega
section
variable {zs : List Int} {v : D} (ht : Tape zs v) (subs : Nat) (main : Bool)
include ht
theorem next_dt (k : Nat) (hk : 0 < k) (hk2 : k ≤ 1000) (g : GS) (hg : g.i ≤ zs.length) : DT Try.prog 32 [.ref 0 0, .d (.int .i64 ((k : Nat) : Int))] (GH v subs main g) fun r K => ∃ (j : Nat) (g' : GS), r = .d (.int .i64 ((j : Nat) : Int)) ∧ K = GH v subs main g' ∧ Rd zs k j g g' := by
  obtain ⟨⟨hlen, hv, hwf⟩, hL⟩ := ht
  obtain ⟨i, n, q⟩ := g
  simp only at hg
  refine DT.of_body Try.func32 rfl Try.ntmps32 rfl ?_
  show DC _ _ _ _ ⟨_, _, [.box (tapeC v i), .box (genC n q subs main)]⟩ _
  repeat refine DC.seq ?_
  apply DC.regionX
  · intro s0 Oo
    refine t_assign rfl rfl ?_
    exact TL.nil rfl
  rcases Nat.lt_or_ge i zs.length with hi | hi
  rotate_left
  · have h1 : decide (((i : Nat) : Int) ≥ (zs.length : Int)) = true := decide_eq_true (by omega)
    repeat refine DC.seq ?_
    apply DC.drawX mixed
    · intro s0 Oo
      refine f_move rfl rfl ?_
      refine f_nilCheck rfl rfl rfl ?_
      refine f_fieldR rfl rfl ?_
      refine f_loadRc rfl rfl rfl rfl ?_
      refine f_move rfl rfl ?_
      refine f_nilCheck rfl rfl rfl ?_
      refine f_fieldR rfl rfl ?_
      refine f_loadRc rfl rfl rfl rfl ?_
      refine f_lenS rfl rfl hlen ?_
      (refine f_int rfl rfl rfl (r := .bool true) (by show some (D.bool (decide _)) = _; rw [h1]) ?_)
      exact TF.nil ⟨by kernel_rfl, rfl⟩
    repeat refine DC.seq ?_
    refine DC.cond rfl (fun hc => ?_) (fun hc => by cases hc)
    repeat refine DC.seq ?_
    apply DC.regionX
    · intro s0 Oo
      refine t_assign rfl rfl ?_
      exact TL.nil rfl
    exact DC.ret ⟨_, rfl, 0, ⟨i, n, q⟩, rfl, rfl, hk, rfl, rfl, Nat.le_refl _, hg, fun h => absurd rfl h⟩
  · have h1 : decide (((i : Nat) : Int) ≥ (zs.length : Int)) = false := decide_eq_false (by omega)
    obtain rfl : v = .sl (intsD .u8 zs) := hv.resolve_left (by rintro rfl; simp at hi)
    have hget : (intsD .u8 zs)[((i : Nat) : Int).toNat]? = some [.int .u8 zs[i]] := intsD_get (List.getElem?_eq_getElem hi)
    have hw := wfU8m (hwf zs[i] (List.getElem_mem hi))
    generalize zs[i] = z at hget hw
    obtain ⟨z, rfl⟩ := Int.eq_ofNat_of_zero_le hw.1
    have hcv : IntKind.i64.wrap (z : Int) = (z : Int) := IntWalk.i64_in _ ⟨by omega, by omega⟩
    have hsub : ((i : Nat) : Int) + 1 - 1 = (i : Int) := by omega
    have hmod : Int.tmod (z : Int) (k : Int) = ((z % k : Nat) : Int) := rfl
    have hk0 : (((k : Nat) : Int) == 0) = false := by simp; omega
    repeat refine DC.seq ?_
    apply DC.drawX mixed
    · intro s0 Oo
      refine f_move rfl rfl ?_
      refine f_nilCheck rfl rfl rfl ?_
      refine f_fieldR rfl rfl ?_
      refine f_loadRc rfl rfl rfl rfl ?_
      refine f_move rfl rfl ?_
      refine f_nilCheck rfl rfl rfl ?_
      refine f_fieldR rfl rfl ?_
      refine f_loadRc rfl rfl rfl rfl ?_
      refine f_lenS rfl rfl hlen ?_
      (refine f_int rfl rfl rfl (r := .bool false) (by show some (D.bool (decide _)) = _; rw [h1]) ?_)
      exact TF.nil ⟨by kernel_rfl, rfl⟩
    repeat refine DC.seq ?_
    refine DC.cond rfl (fun hc => by cases hc) (fun hc => ?_)
    refine DC.skip ?_
    repeat refine DC.seq ?_
    apply DC.regionX
    · intro s0 Oo
      refine t_move rfl rfl ?_
      refine t_nilCheck rfl rfl rfl ?_
      refine t_fieldR rfl rfl ?_
      refine t_loadRc rfl rfl rfl rfl ?_
      refine t_add64 rfl rfl rfl (by omega) ?_
      refine t_nilCheck rfl rfl rfl ?_
      refine t_fieldR rfl rfl ?_
      refine t_storeR rfl rfl rfl rfl rfl rfl ?_
      exact TL.nil rfl
    repeat refine DC.seq ?_
    apply DC.drawX mixed
    · intro s0 Oo
      refine f_move rfl rfl ?_
      refine f_nilCheck rfl rfl rfl ?_
      refine f_fieldR rfl rfl ?_
      refine f_loadRc rfl rfl rfl rfl ?_
      refine f_move rfl rfl ?_
      refine f_nilCheck rfl rfl rfl ?_
      refine f_fieldR rfl rfl ?_
      refine f_loadRc rfl rfl rfl rfl ?_
      (refine f_sub64 rfl rfl rfl (by omega) ?_; rw [hsub])
      refine f_indexD rfl rfl rfl (Int.natCast_nonneg i) hget rfl ?_
      refine f_loadDc rfl rfl rfl ?_
      (refine f_convI rfl rfl ?_; rw [hcv])
      refine f_move rfl rfl ?_
      (refine f_rem rfl rfl rfl hk0 ?_; rw [hmod])
      refine f_assign rfl rfl ?_
      exact TF.nil ⟨by kernel_rfl, rfl⟩
    exact DC.ret ⟨_, rfl, z % k, ⟨i + 1, n, q⟩, rfl, rfl, Nat.mod_lt _ hk, rfl, rfl, Nat.le_succ _, hi, fun _ => Nat.lt_succ_self _⟩
end
theorem digits_pt : ∀ (k n : Nat), n < k → n ≤ 1000000 → PT Try.prog 46 [.int .i64 ((n : Nat) : Int)] (· = [.str (dg n)])
  | 0, n, h, _ => by omega
  | k + 1, n, h, hb => by
    have ih := digits_pt k (n / 10)
    refine PT.of_CT (CT.of_body Try.func46 rfl Try.ntmps46 rfl fun s0 Oo => ?_)
    repeat refine TC.seq ?_
    refine TC.region ?_
    refine t_assign rfl rfl ?_
    refine TL.nil ?_
    rcases Nat.lt_or_ge n 10 with h1 | h1
    · have hd : dg n = strOfNums [IntKind.u8.wrap (48 + (n : Int))] := by rw [dg, dif_pos h1]
      repeat refine TC.seq ?_
      refine TC.region ?_
      refine t_move rfl rfl ?_
      (refine t_int rfl rfl rfl (r := .bool true) (by show some (D.bool (decide _)) = _; rw [show decide ((n : Int) < 10) = true from decide_eq_true (by omega)]) ?_)
      refine TL.nil ?_
      repeat refine TC.seq ?_
      refine TC.cond rfl (fun hc => ?_) (fun hc => by cases hc)
      repeat refine TC.seq ?_
      refine TC.region ?_
      refine t_move rfl rfl ?_
      refine t_add64 rfl rfl rfl (by omega) ?_
      refine t_convI rfl rfl ?_
      refine t_buildSlice rfl rfl rfl rfl rfl rfl rfl rfl ?_
      refine t_b2s rfl rfl rfl ?_
      refine t_assign rfl rfl ?_
      refine TL.nil ?_
      exact TC.ret ⟨_, rfl, [_], rfl, by rw [hd]⟩
    · have hd : dg n = dg (n / 10) ++ strOfNums [IntKind.u8.wrap (48 + ((n % 10 : Nat) : Int))] := by rw [dg, dif_neg (by omega)]
      have hq : IntKind.i64.wrap (Int.tdiv (n : Int) 10) = ((n / 10 : Nat) : Int) := by
        rw [show Int.tdiv (n : Int) 10 = ((n / 10 : Nat) : Int) from rfl]
        exact IntWalk.i64_in _ ⟨by omega, by omega⟩
      have hmod : Int.tmod (n : Int) 10 = ((n % 10 : Nat) : Int) := rfl
      have hs := dg_size (n / 10)
      have hs2 : (strOfNums [IntKind.u8.wrap (48 + ((n % 10 : Nat) : Int))]).size = 1 := by simp [strOfNums, ByteArray.size]
      repeat refine TC.seq ?_
      refine TC.region ?_
      refine t_move rfl rfl ?_
      (refine t_int rfl rfl rfl (r := .bool false) (by show some (D.bool (decide _)) = _; rw [show decide ((n : Int) < 10) = false from decide_eq_false (by omega)]) ?_)
      refine TL.nil ?_
      repeat refine TC.seq ?_
      refine TC.cond rfl (fun hc => by cases hc) (fun hc => ?_)
      refine TC.skip ?_
      repeat refine TC.seq ?_
      refine TC.draw mixed ?_
      refine f_move rfl rfl ?_
      (refine f_quo rfl rfl rfl rfl ?_; rw [hq])
      refine f_call1 (ih (by omega) (by omega)) rfl rfl ?_
      refine f_move rfl rfl ?_
      (refine f_rem rfl rfl rfl rfl ?_; rw [hmod])
      refine f_add64 rfl rfl rfl (by omega) ?_
      refine f_convI rfl rfl ?_
      refine f_buildSlice rfl rfl rfl rfl rfl rfl rfl rfl ?_
      refine f_b2s rfl rfl rfl ?_
      refine f_stradd rfl rfl rfl (by omega) ?_
      refine f_assign rfl rfl ?_
      refine TF.nil ⟨by kernel_rfl, ?_⟩
      exact TC.ret ⟨_, rfl, [_], rfl, by rw [hd]⟩
theorem tInt_pt : PT Try.prog 47 [] (· = [.agg Ty.int.cells]) := by
  refine PT.of_CT (CT.of_body Try.func47 rfl Try.ntmps47 rfl fun s0 Oo => ?_)
  repeat refine TC.seq ?_
  refine TC.region ?_
  refine t_alloc rfl rfl ?_
  refine TL.nil ?_
  repeat refine TC.seq ?_
  refine TC.region ?_
  refine t_build rfl rfl rfl rfl rfl ?_
  refine t_storeL rfl rfl rfl rfl rfl rfl ?_
  refine TL.nil ?_
  exact TC.ret ⟨_, rfl, [_], rfl, rfl⟩
theorem tBool_pt : PT Try.prog 48 [] (· = [.agg Ty.bool.cells]) := by
  refine PT.of_CT (CT.of_body Try.func48 rfl Try.ntmps48 rfl fun s0 Oo => ?_)
  repeat refine TC.seq ?_
  refine TC.region ?_
  refine t_alloc rfl rfl ?_
  refine TL.nil ?_
  repeat refine TC.seq ?_
  refine TC.region ?_
  refine t_build rfl rfl rfl rfl rfl ?_
  refine t_storeL rfl rfl rfl rfl rfl rfl ?_
  refine TL.nil ?_
  exact TC.ret ⟨_, rfl, [_], rfl, rfl⟩
theorem tCol_pt : PT Try.prog 49 [] (· = [.agg Ty.col.cells]) := by
  refine PT.of_CT (CT.of_body Try.func49 rfl Try.ntmps49 rfl fun s0 Oo => ?_)
  repeat refine TC.seq ?_
  refine TC.region ?_
  refine t_alloc rfl rfl ?_
  refine TL.nil ?_
  repeat refine TC.seq ?_
  refine TC.region ?_
  refine t_build rfl rfl rfl rfl rfl ?_
  refine t_storeL rfl rfl rfl rfl rfl rfl ?_
  refine TL.nil ?_
  exact TC.ret ⟨_, rfl, [_], rfl, rfl⟩
end Go.Proofs
