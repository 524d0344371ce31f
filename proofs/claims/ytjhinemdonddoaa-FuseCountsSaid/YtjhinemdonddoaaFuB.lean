import Derived.Test.YtjhinemdonddoaaFuA
import Derived.Test.YtjhinemdonddoaaMtXd
namespace Go.Proofs
open Go.Mt
set_option maxRecDepth 4000
set_option linter.unusedSimpArgs false
set_option linter.unusedVariables false

/-- a place, or minus one -/
def idxInt (o : Option Nat) : Int := match o with | some i => (i : Int) | none => -1
theorem findIdx_hit {α : Type} {p : α → Bool} {l : List α} {i : Nat} (hi : i < l.length) (h : p l[i] = true) (hno : ∀ j, (hj : j < i) → p (l[j]'(by omega)) = false) : l.findIdx? p = some i := by
  rw [List.findIdx?_eq_some_iff_getElem]
  exact ⟨hi, h, fun j hj => by simp [hno j hj]⟩
theorem findIdx_miss {α : Type} {p : α → Bool} {l : List α} (hno : ∀ j, (hj : j < l.length) → p l[j] = false) : l.findIdx? p = none := by
  rw [List.findIdx?_eq_none_iff]
  intro x hx
  obtain ⟨j, hj, rfl⟩ := List.getElem_of_mem hx
  exact hno j hj
theorem idx_any {α : Type} (p : α → Bool) (l : List α) : decide (idxInt (l.findIdx? p) ≥ 0) = l.any p := by
  cases h : l.findIdx? p with
  | none =>
    rw [List.findIdx?_eq_none_iff] at h
    have : l.any p = false := by
      rw [List.any_eq_false]; intro x hx; simp [h x hx]
    rw [this]; rfl
  | some i =>
    rw [List.findIdx?_eq_some_iff_getElem] at h
    obtain ⟨h1, h2, _⟩ := h
    have : l.any p = true := List.any_eq_true.2 ⟨_, List.getElem_mem h1, h2⟩
    rw [this, decide_eq_true_eq]
    show (i : Int) ≥ 0
    omega
def strs (l : List ByteArray) : List (List D) := l.map fun s => [D.str s]
theorem strs_len (l : List ByteArray) : (strs l).length = l.length := by simp [strs]
theorem strs_get {l : List ByteArray} {i : Nat} (h : i < l.length) : (strs l)[(i : Int).toNat]? = some [.str l[i]] := by simp [strs, h]
theorem strs_append (a b : List ByteArray) : strs (a ++ b) = strs a ++ strs b := by simp [strs]
theorem strs_lens (l : List ByteArray) : ∀ r ∈ strs l, r.length = 1 := by
  intro r hr; obtain ⟨s, _, rfl⟩ := List.mem_map.1 hr; rfl

theorem index_ok (l : List ByteArray) (nm : ByteArray) : PT Try.prog 119 [.sl (strs l), .str nm] (· = [.int .i64 (idxInt (l.findIdx? fun s => decide (nm = s)))]) := by
  refine PT.of_CT (CT.of_body Try.func119 rfl Try.ntmps119 rfl fun s0 Oo => ?_)
  refine TC.short (x := .tmp 0) rfl fun hmax => ?_
  rw [strs_len] at hmax
  repeat refine TC.seq ?_
  refine TC.region ?_
  refine t_assign rfl rfl ?_
  refine TL.nil ?_
  repeat refine TC.seq ?_
  refine TC.region ?_
  refine t_move rfl rfl ?_
  refine t_lenS rfl rfl rfl ?_
  refine t_move rfl rfl ?_
  refine TL.nil ?_
  repeat refine TC.seq ?_
  refine TC.block ?_
  refine TC.loopB (fun k s => ∃ i : Nat, s = ⟨[(8, .m (.d (.int .i64 i))), (7, .m (.d (.int .i64 (strs l).length))), (0, .m (.d (.sl (strs l)))), (1, .m (.d (.str nm)))], [], []⟩ ∧ i ≤ l.length ∧ k = l.length - i ∧ (∀ j, j < i → ∀ h : j < l.length, decide (nm = l[j]) = false)) l.length _
    ⟨0, rfl, by omega, rfl, by intro j h; omega⟩ ⟨rfl, rfl, rfl, rfl, trivial⟩ ?_
  rintro k s ⟨i, rfl, hi, rfl, hno⟩
  repeat refine TC.seq ?_
  refine TC.region ?_
  refine t_int rfl rfl rfl rfl ?_
  refine TL.nil ?_
  repeat refine TC.seq ?_
  refine TC.cond rfl (fun hc => ?_) (fun hc => ?_)
  · have hc' : i < l.length := by have := of_decide_eq_true hc; rw [strs_len] at this; omega
    clear hc
    refine TC.skip ?_
    repeat refine TC.seq ?_
    refine TC.block ?_
    repeat refine TC.seq ?_
    refine TC.region ?_
    refine t_move rfl rfl ?_
    refine t_assign rfl rfl ?_
    refine TL.nil ?_
    repeat refine TC.seq ?_
    refine TC.region ?_
    refine t_move rfl rfl ?_
    refine t_move rfl rfl ?_
    refine t_move rfl rfl ?_
    refine t_indexD rfl rfl rfl (Int.natCast_nonneg i) (r := [.str l[i]]) (strs_get hc') rfl ?_
    first | refine t_loadDc rfl rfl rfl ?_ | refine t_loadLc rfl rfl rfl rfl ?_ | refine t_loadRc rfl rfl rfl rfl ?_
    refine t_streq rfl rfl rfl ?_
    refine TL.nil ?_
    refine TC.cond rfl (fun hc2 => ?_) (fun hc2 => ?_)
    · repeat refine TC.seq ?_
      refine TC.region ?_
      refine t_move rfl rfl ?_
      refine t_assign rfl rfl ?_
      refine TL.nil ?_
      refine TC.ret ⟨_, rfl, [_], rfl, ?_⟩
      rw [findIdx_hit hc' hc2 fun j hj => hno j hj (by omega)]
      rfl
    · refine TC.skip ?_
      repeat refine TC.seq ?_
      refine TC.region ?_
      refine t_add64 rfl rfl rfl (by omega) ?_
      refine t_move rfl rfl ?_
      refine TL.nil ?_
      refine again (k' := l.length - (i + 1)) (by omega) ⟨i + 1, rfl, by omega, rfl, ?_⟩ rfl ⟨by simp; rfl, rfl, rfl, rfl, trivial⟩
      intro j hj h
      rcases Nat.lt_succ_iff_lt_or_eq.1 hj with h1 | rfl
      · exact hno j h1 h
      · exact hc2
  · refine TC.exit ?_
    have hc' : i = l.length := by have := of_decide_eq_false hc; rw [strs_len] at this; omega
    repeat refine TC.seq ?_
    refine TC.region ?_
    refine t_assign rfl rfl ?_
    refine TL.nil ?_
    refine TC.ret ⟨_, rfl, [_], rfl, ?_⟩
    rw [findIdx_miss fun j hj => hno j (by omega) hj]
    rfl
def has (l : List ByteArray) (nm : ByteArray) : Bool := l.any fun s => decide (nm = s)
theorem contains_ok (l : List ByteArray) (nm : ByteArray) : PT Try.prog 95 [.sl (strs l), .str nm] (· = [.bool (has l nm)]) := by
  refine PT.of_CT (CT.of_body Try.func95 rfl Try.ntmps95 rfl fun s0 Oo => ?_)
  repeat refine TC.seq ?_
  refine TC.region ?_
  refine t_assign rfl rfl ?_
  refine TL.nil ?_
  repeat refine TC.seq ?_
  refine TC.region ?_
  refine t_move rfl rfl ?_
  refine t_move rfl rfl ?_
  refine t_call1 (index_ok l nm) rfl rfl ?_
  refine t_int rfl rfl rfl rfl ?_
  refine t_assign rfl rfl ?_
  refine TL.nil ?_
  refine TC.ret ⟨_, rfl, [_], rfl, ?_⟩
  rw [idx_any]; rfl

theorem touched1_ok (set : List ByteArray) (x : ByteArray) : PT Try.prog 94 ([.str x] ++ [.pim [.sl (strs set)] 0]) (· = [.bool (has set x)]) := by
  refine PT.of_CT (CT.of_body Try.func94 rfl Try.ntmps94 rfl fun s0 Oo => ?_)
  repeat refine TC.seq ?_
  refine TC.region ?_
  refine t_assign rfl rfl ?_
  refine TL.nil ?_
  repeat refine TC.seq ?_
  refine TC.region ?_
  first | refine t_loadDc rfl rfl rfl ?_ | refine t_loadLc rfl rfl rfl rfl ?_ | refine t_loadRc rfl rfl rfl rfl ?_
  refine t_move rfl rfl ?_
  refine t_call1 (contains_ok set x) rfl rfl ?_
  refine t_assign rfl rfl ?_
  refine TL.nil ?_
  exact TC.ret ⟨_, rfl, [_], rfl, rfl⟩
theorem indexf_ok (l set : List ByteArray) : PT Try.prog 117 [.sl (strs l), .fn 94 [.pim [.sl (strs set)] 0]] (· = [.int .i64 (idxInt (l.findIdx? (has set)))]) := by
  refine PT.of_CT (CT.of_body Try.func117 rfl Try.ntmps117 rfl fun s0 Oo => ?_)
  refine TC.short (x := .tmp 0) rfl fun hmax => ?_
  rw [strs_len] at hmax
  repeat refine TC.seq ?_
  refine TC.region ?_
  refine t_assign rfl rfl ?_
  refine TL.nil ?_
  repeat refine TC.seq ?_
  refine TC.region ?_
  refine t_move rfl rfl ?_
  refine t_lenS rfl rfl rfl ?_
  refine t_move rfl rfl ?_
  refine TL.nil ?_
  repeat refine TC.seq ?_
  refine TC.block ?_
  refine TC.loopB (fun k s => ∃ i : Nat, s = ⟨[(8, .m (.d (.int .i64 i))), (7, .m (.d (.int .i64 (strs l).length))), (0, .m (.d (.sl (strs l)))), (1, .m (.d (.fn 94 [.pim [.sl (strs set)] 0])))], [], []⟩ ∧ i ≤ l.length ∧ k = l.length - i ∧ (∀ j, j < i → ∀ h : j < l.length, has set l[j] = false)) l.length _
    ⟨0, rfl, by omega, rfl, by intro j h; omega⟩ ⟨rfl, rfl, rfl, rfl, trivial⟩ ?_
  rintro k s ⟨i, rfl, hi, rfl, hno⟩
  repeat refine TC.seq ?_
  refine TC.region ?_
  refine t_int rfl rfl rfl rfl ?_
  refine TL.nil ?_
  repeat refine TC.seq ?_
  refine TC.cond rfl (fun hc => ?_) (fun hc => ?_)
  · have hc' : i < l.length := by have := of_decide_eq_true hc; rw [strs_len] at this; omega
    clear hc
    refine TC.skip ?_
    repeat refine TC.seq ?_
    refine TC.block ?_
    repeat refine TC.seq ?_
    refine TC.region ?_
    refine t_move rfl rfl ?_
    refine t_assign rfl rfl ?_
    refine TL.nil ?_
    repeat refine TC.seq ?_
    refine TC.region ?_
    refine t_move rfl rfl ?_
    refine t_move rfl rfl ?_
    refine t_move rfl rfl ?_
    refine t_indexD rfl rfl rfl (Int.natCast_nonneg i) (r := [.str l[i]]) (strs_get hc') rfl ?_
    first | refine t_loadDc rfl rfl rfl ?_ | refine t_loadLc rfl rfl rfl rfl ?_ | refine t_loadRc rfl rfl rfl rfl ?_
    refine t_callv (touched1_ok set l[i]) rfl rfl rfl ?_
    refine TL.nil ?_
    refine TC.cond rfl (fun hc2 => ?_) (fun hc2 => ?_)
    · repeat refine TC.seq ?_
      refine TC.region ?_
      refine t_move rfl rfl ?_
      refine t_assign rfl rfl ?_
      refine TL.nil ?_
      refine TC.ret ⟨_, rfl, [_], rfl, ?_⟩
      rw [findIdx_hit hc' hc2 fun j hj => hno j hj (by omega)]
      rfl
    · refine TC.skip ?_
      repeat refine TC.seq ?_
      refine TC.region ?_
      refine t_add64 rfl rfl rfl (by omega) ?_
      refine t_move rfl rfl ?_
      refine TL.nil ?_
      refine again (k' := l.length - (i + 1)) (by omega) ⟨i + 1, rfl, by omega, rfl, ?_⟩ rfl ⟨by simp; rfl, rfl, rfl, rfl, trivial⟩
      intro j hj h
      rcases Nat.lt_succ_iff_lt_or_eq.1 hj with h1 | rfl
      · exact hno j h1 h
      · exact hc2
  · refine TC.exit ?_
    have hc' : i = l.length := by have := of_decide_eq_false hc; rw [strs_len] at this; omega
    repeat refine TC.seq ?_
    refine TC.region ?_
    refine t_assign rfl rfl ?_
    refine TL.nil ?_
    refine TC.ret ⟨_, rfl, [_], rfl, ?_⟩
    rw [findIdx_miss fun j hj => hno j (by omega) hj]
    rfl
theorem containsf_ok (l set : List ByteArray) : PT Try.prog 92 [.sl (strs l), .fn 94 [.pim [.sl (strs set)] 0]] (· = [.bool (l.any (has set))]) := by
  refine PT.of_CT (CT.of_body Try.func92 rfl Try.ntmps92 rfl fun s0 Oo => ?_)
  repeat refine TC.seq ?_
  refine TC.region ?_
  refine t_assign rfl rfl ?_
  refine TL.nil ?_
  repeat refine TC.seq ?_
  refine TC.region ?_
  refine t_move rfl rfl ?_
  refine t_move rfl rfl ?_
  refine t_call1 (indexf_ok l set) rfl rfl ?_
  refine t_int rfl rfl rfl rfl ?_
  refine t_assign rfl rfl ?_
  refine TL.nil ?_
  refine TC.ret ⟨_, rfl, [_], rfl, ?_⟩
  rw [idx_any]

/-- an expression without parts -/
abbrev leafC (k n : Int) (s : ByteArray) : List D := [.int .u8 k, .int .u8 0, .int .i32 n, .str s, .sl [], .sl [], .int .i64 0, .int .i64 0]
theorem equalT_ok : PT Try.prog 46 [.sl [], .sl []] (· = [.bool true]) := by
  refine PT.of_CT (CT.of_body Try.func46 rfl Try.ntmps46 rfl fun s0 Oo => ?_)
  repeat refine TC.seq ?_
  refine TC.region ?_
  refine t_assign rfl rfl ?_
  refine TL.nil ?_
  repeat refine TC.seq ?_
  refine TC.region ?_
  refine t_move rfl rfl ?_
  refine t_lenS rfl rfl rfl ?_
  refine t_move rfl rfl ?_
  refine t_lenS rfl rfl rfl ?_
  refine t_int rfl rfl rfl rfl ?_
  refine TL.nil ?_
  repeat refine TC.seq ?_
  refine TC.cond rfl (fun hc => by cases hc) (fun hc => ?_)
  refine TC.skip ?_
  repeat refine TC.seq ?_
  refine TC.region ?_
  refine t_move rfl rfl ?_
  refine t_lenS rfl rfl rfl ?_
  refine t_move rfl rfl ?_
  refine TL.nil ?_
  repeat refine TC.seq ?_
  refine TC.block ?_
  refine TC.loopB (fun k s => s = ⟨[(13, .m (.d (.int .i64 0))), (12, .m (.d (.int .i64 0)))], [], []⟩ ∧ k = 0) 0 _ ⟨rfl, rfl⟩ ⟨rfl, rfl, trivial⟩ ?_
  rintro k s ⟨rfl, rfl⟩
  repeat refine TC.seq ?_
  refine TC.region ?_
  refine t_int rfl rfl rfl rfl ?_
  refine TL.nil ?_
  repeat refine TC.seq ?_
  refine TC.cond rfl (fun hc => by cases hc) (fun hc => ?_)
  refine TC.exit ?_
  repeat refine TC.seq ?_
  refine TC.region ?_
  refine t_assign rfl rfl ?_
  refine TL.nil ?_
  exact TC.ret ⟨_, rfl, [_], rfl, rfl⟩
theorem rSameN_ok : PT Try.prog 66 [.sl [], .sl []] (· = [.bool true]) := by
  refine PT.of_CT (CT.of_body Try.func66 rfl Try.ntmps66 rfl fun s0 Oo => ?_)
  repeat refine TC.seq ?_
  refine TC.region ?_
  refine t_assign rfl rfl ?_
  refine TL.nil ?_
  repeat refine TC.seq ?_
  refine TC.region ?_
  refine t_move rfl rfl ?_
  refine t_lenS rfl rfl rfl ?_
  refine t_move rfl rfl ?_
  refine t_lenS rfl rfl rfl ?_
  refine t_int rfl rfl rfl rfl ?_
  refine TL.nil ?_
  repeat refine TC.seq ?_
  refine TC.cond rfl (fun hc => by cases hc) (fun hc => ?_)
  refine TC.skip ?_
  repeat refine TC.seq ?_
  refine TC.region ?_
  refine t_assign rfl rfl ?_
  refine TL.nil ?_
  repeat refine TC.seq ?_
  refine TC.block ?_
  refine TC.loopB (fun k s => s = ⟨[(5, .m (.d (.int .i64 0))), (0, .m (.d (.sl [])))], [], []⟩ ∧ k = 0) 0 _ ⟨rfl, rfl⟩ ⟨rfl, rfl, trivial⟩ ?_
  rintro k s ⟨rfl, rfl⟩
  repeat refine TC.seq ?_
  refine TC.region ?_
  refine t_move rfl rfl ?_
  refine t_move rfl rfl ?_
  refine t_lenS rfl rfl rfl ?_
  refine t_int rfl rfl rfl rfl ?_
  refine TL.nil ?_
  repeat refine TC.seq ?_
  refine TC.cond rfl (fun hc => by cases hc) (fun hc => ?_)
  refine TC.exit ?_
  repeat refine TC.seq ?_
  refine TC.region ?_
  refine t_assign rfl rfl ?_
  refine TL.nil ?_
  exact TC.ret ⟨_, rfl, [_], rfl, rfl⟩
theorem eqfE_ok : PT Try.prog 47 [.sl [], .sl [], .fn 45 []] (· = [.bool true]) := by
  refine PT.of_CT (CT.of_body Try.func47 rfl Try.ntmps47 rfl fun s0 Oo => ?_)
  repeat refine TC.seq ?_
  refine TC.region ?_
  refine t_assign rfl rfl ?_
  refine TL.nil ?_
  repeat refine TC.seq ?_
  refine TC.region ?_
  refine t_move rfl rfl ?_
  refine t_lenS rfl rfl rfl ?_
  refine t_move rfl rfl ?_
  refine t_lenS rfl rfl rfl ?_
  refine t_int rfl rfl rfl rfl ?_
  refine TL.nil ?_
  repeat refine TC.seq ?_
  refine TC.cond rfl (fun hc => by cases hc) (fun hc => ?_)
  refine TC.skip ?_
  repeat refine TC.seq ?_
  refine TC.region ?_
  refine t_move rfl rfl ?_
  refine t_lenS rfl rfl rfl ?_
  refine t_move rfl rfl ?_
  refine TL.nil ?_
  repeat refine TC.seq ?_
  refine TC.block ?_
  refine TC.loopB (fun k s => s = ⟨[(17, .m (.d (.int .i64 0))), (16, .m (.d (.int .i64 0)))], [], []⟩ ∧ k = 0) 0 _ ⟨rfl, rfl⟩ ⟨rfl, rfl, trivial⟩ ?_
  rintro k s ⟨rfl, rfl⟩
  repeat refine TC.seq ?_
  refine TC.region ?_
  refine t_int rfl rfl rfl rfl ?_
  refine TL.nil ?_
  repeat refine TC.seq ?_
  refine TC.cond rfl (fun hc => by cases hc) (fun hc => ?_)
  refine TC.exit ?_
  repeat refine TC.seq ?_
  refine TC.region ?_
  refine t_assign rfl rfl ?_
  refine TL.nil ?_
  exact TC.ret ⟨_, rfl, [_], rfl, rfl⟩
end Go.Proofs
