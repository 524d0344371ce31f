/- Names, and what expressions of sums of variables read. -/
import Derived.Test.YtcmjcdiaidalgaaGrA
import Derived.Test.YtcmjcdiaidalgaaMtInst
namespace Go.Proofs
open Go.Mt
set_option maxRecDepth 4000
set_option linter.unusedSimpArgs false
set_option linter.unusedVariables false
theorem mixed : Try.prog.follows .mixedOrders = true := by kernel_rfl

/-- a place, or minus one -/
def idxInt (o : Option Nat) : Int := match o with | some i => (i : Int) | none => -1
theorem findIdx_hit {α : Type} {p : α → Bool} {l : List α} {i : Nat} (hi : i < l.length) (h : p l[i] = true) (hno : ∀ j, (hj : j < i) → p (l[j]'(by omega)) = false) : l.findIdx? p = some i := by
  rw [List.findIdx?_eq_some_iff_getElem]
  exact ⟨hi, h, fun j hj => by simp [hno j hj]⟩
theorem findIdx_miss {α : Type} {p : α → Bool} {l : List α} (hno : ∀ j, (hj : j < l.length) → p l[j] = false) : l.findIdx? p = none := by
  rw [List.findIdx?_eq_none_iff]
  intro x hx
  obtain ⟨j, hj, rfl⟩ := List.getElem_of_mem hx
  exact hno j hj
theorem idx_any {α : Type} (p : α → Bool) (l : List α) : decide (idxInt (l.findIdx? p) ≥ 0) = l.any p := by
  cases h : l.findIdx? p with
  | none =>
    rw [List.findIdx?_eq_none_iff] at h
    have : l.any p = false := by
      rw [List.any_eq_false]; intro x hx; simp [h x hx]
    rw [this]; rfl
  | some i =>
    rw [List.findIdx?_eq_some_iff_getElem] at h
    obtain ⟨h1, h2, _⟩ := h
    have : l.any p = true := List.any_eq_true.2 ⟨_, List.getElem_mem h1, h2⟩
    rw [this, decide_eq_true_eq]
    show (i : Int) ≥ 0
    omega
theorem indexT_ok (l : List ByteArray) (nm : ByteArray) : PT Try.prog 87 [.sl (strs l), .str nm] (· = [.int .i64 (idxInt (l.findIdx? fun (s : ByteArray) => decide (nm = s)))]) := by
  refine PT.of_CT (CT.of_body Try.func87 rfl Try.ntmps87 rfl fun s0 Oo => ?_)
  refine TC.short (x := .tmp 0) rfl fun hmax => ?_
  rw [strs_len] at hmax
  repeat refine TC.seq ?_
  refine TC.region ?_
  refine t_assign rfl rfl ?_
  refine TL.nil ?_
  repeat refine TC.seq ?_
  refine TC.region ?_
  refine t_move rfl rfl ?_
  refine t_lenS rfl rfl rfl ?_
  refine t_move rfl rfl ?_
  refine TL.nil ?_
  repeat refine TC.seq ?_
  refine TC.block ?_
  refine TC.loopB (fun k s => ∃ i : Nat, s = ⟨[(8, .m (.d (.int .i64 i))), (7, .m (.d (.int .i64 (strs l).length))), (0, .m (.d (.sl (strs l)))), (1, .m (.d (.str nm)))], [], []⟩ ∧ i ≤ l.length ∧ k = l.length - i ∧ (∀ j, j < i → ∀ h : j < l.length, (fun (s : ByteArray) => decide (nm = s)) l[j] = false)) l.length _
    ⟨0, rfl, by omega, rfl, by intro j h; omega⟩ ⟨rfl, rfl, rfl, rfl, trivial⟩ ?_
  rintro k s ⟨i, rfl, hi, rfl, hno⟩
  repeat refine TC.seq ?_
  refine TC.region ?_
  refine t_int rfl rfl rfl rfl ?_
  refine TL.nil ?_
  repeat refine TC.seq ?_
  refine TC.cond rfl (fun hc => ?_) (fun hc => ?_)
  · have hc' : i < l.length := by have := of_decide_eq_true hc; rw [strs_len] at this; omega
    clear hc
    refine TC.skip ?_
    repeat refine TC.seq ?_
    refine TC.block ?_
    repeat refine TC.seq ?_
    refine TC.region ?_
    refine t_move rfl rfl ?_
    refine t_assign rfl rfl ?_
    refine TL.nil ?_
    repeat refine TC.seq ?_
    refine TC.region ?_
    refine t_move rfl rfl ?_
    refine t_move rfl rfl ?_
    refine t_move rfl rfl ?_
    refine t_indexD rfl rfl rfl (Int.natCast_nonneg i) (r := [.str l[i]]) (strs_get hc') rfl ?_
    first | refine t_loadDc rfl rfl rfl ?_ | refine t_loadLc rfl rfl rfl rfl ?_ | refine t_loadRc rfl rfl rfl rfl ?_
    refine t_streq rfl rfl rfl ?_
    refine TL.nil ?_
    refine TC.cond rfl (fun hc2 => ?_) (fun hc2 => ?_)
    · repeat refine TC.seq ?_
      refine TC.region ?_
      refine t_move rfl rfl ?_
      refine t_assign rfl rfl ?_
      refine TL.nil ?_
      refine TC.ret ⟨_, rfl, [_], rfl, ?_⟩
      rw [findIdx_hit hc' hc2 fun j hj => hno j hj (by omega)]
      rfl
    · refine TC.skip ?_
      repeat refine TC.seq ?_
      refine TC.region ?_
      refine t_add64 rfl rfl rfl (by omega) ?_
      refine t_move rfl rfl ?_
      refine TL.nil ?_
      refine again (k' := l.length - (i + 1)) (by omega) ⟨i + 1, rfl, by omega, rfl, ?_⟩ rfl ⟨by simp; rfl, rfl, rfl, rfl, trivial⟩
      intro j hj h
      rcases Nat.lt_succ_iff_lt_or_eq.1 hj with h1 | rfl
      · exact hno j h1 h
      · exact hc2
  · refine TC.exit ?_
    have hc' : i = l.length := by have := of_decide_eq_false hc; rw [strs_len] at this; omega
    repeat refine TC.seq ?_
    refine TC.region ?_
    refine t_assign rfl rfl ?_
    refine TL.nil ?_
    refine TC.ret ⟨_, rfl, [_], rfl, ?_⟩
    rw [findIdx_miss fun j hj => hno j (by omega) hj]
    rfl
theorem containsT_ok (l : List ByteArray) (nm : ByteArray) : PT Try.prog 63 [.sl (strs l), .str nm] (· = [.bool (l.any fun (s : ByteArray) => decide (nm = s))]) := by
  refine PT.of_CT (CT.of_body Try.func63 rfl Try.ntmps63 rfl fun s0 Oo => ?_)
  repeat refine TC.seq ?_
  refine TC.region ?_
  refine t_assign rfl rfl ?_
  refine TL.nil ?_
  repeat refine TC.seq ?_
  refine TC.region ?_
  refine t_move rfl rfl ?_
  refine t_move rfl rfl ?_
  refine t_call1 (indexT_ok l nm) rfl rfl ?_
  refine t_int rfl rfl rfl rfl ?_
  refine t_assign rfl rfl ?_
  refine TL.nil ?_
  refine TC.ret ⟨_, rfl, [_], rfl, ?_⟩
  rw [idx_any]
theorem indexI_ok (l : List Nat) (nm : Nat) : PT Try.prog 65 [.sl (natsR l), .int .i64 (nm : Int)] (· = [.int .i64 (idxInt (l.findIdx? fun (s : Nat) => ((nm : Int) == (s : Int))))]) := by
  refine PT.of_CT (CT.of_body Try.func65 rfl Try.ntmps65 rfl fun s0 Oo => ?_)
  refine TC.short (x := .tmp 0) rfl fun hmax => ?_
  rw [natsR_len] at hmax
  repeat refine TC.seq ?_
  refine TC.region ?_
  refine t_assign rfl rfl ?_
  refine TL.nil ?_
  repeat refine TC.seq ?_
  refine TC.region ?_
  refine t_move rfl rfl ?_
  refine t_lenS rfl rfl rfl ?_
  refine t_move rfl rfl ?_
  refine TL.nil ?_
  repeat refine TC.seq ?_
  refine TC.block ?_
  refine TC.loopB (fun k s => ∃ i : Nat, s = ⟨[(8, .m (.d (.int .i64 i))), (7, .m (.d (.int .i64 (natsR l).length))), (0, .m (.d (.sl (natsR l)))), (1, .m (.d (.int .i64 (nm : Int))))], [], []⟩ ∧ i ≤ l.length ∧ k = l.length - i ∧ (∀ j, j < i → ∀ h : j < l.length, (fun (s : Nat) => ((nm : Int) == (s : Int))) l[j] = false)) l.length _
    ⟨0, rfl, by omega, rfl, by intro j h; omega⟩ ⟨rfl, rfl, rfl, rfl, trivial⟩ ?_
  rintro k s ⟨i, rfl, hi, rfl, hno⟩
  repeat refine TC.seq ?_
  refine TC.region ?_
  refine t_int rfl rfl rfl rfl ?_
  refine TL.nil ?_
  repeat refine TC.seq ?_
  refine TC.cond rfl (fun hc => ?_) (fun hc => ?_)
  · have hc' : i < l.length := by have := of_decide_eq_true hc; rw [natsR_len] at this; omega
    clear hc
    refine TC.skip ?_
    repeat refine TC.seq ?_
    refine TC.block ?_
    repeat refine TC.seq ?_
    refine TC.region ?_
    refine t_move rfl rfl ?_
    refine t_assign rfl rfl ?_
    refine TL.nil ?_
    repeat refine TC.seq ?_
    refine TC.region ?_
    refine t_move rfl rfl ?_
    refine t_move rfl rfl ?_
    refine t_move rfl rfl ?_
    refine t_indexD rfl rfl rfl (Int.natCast_nonneg i) (r := [.int .i64 (l[i] : Int)]) (natsR_get hc') rfl ?_
    first | refine t_loadDc rfl rfl rfl ?_ | refine t_loadLc rfl rfl rfl rfl ?_ | refine t_loadRc rfl rfl rfl rfl ?_
    refine t_int rfl rfl rfl rfl ?_
    refine TL.nil ?_
    refine TC.cond rfl (fun hc2 => ?_) (fun hc2 => ?_)
    · repeat refine TC.seq ?_
      refine TC.region ?_
      refine t_move rfl rfl ?_
      refine t_assign rfl rfl ?_
      refine TL.nil ?_
      refine TC.ret ⟨_, rfl, [_], rfl, ?_⟩
      rw [findIdx_hit hc' hc2 fun j hj => hno j hj (by omega)]
      rfl
    · refine TC.skip ?_
      repeat refine TC.seq ?_
      refine TC.region ?_
      refine t_add64 rfl rfl rfl (by omega) ?_
      refine t_move rfl rfl ?_
      refine TL.nil ?_
      refine again (k' := l.length - (i + 1)) (by omega) ⟨i + 1, rfl, by omega, rfl, ?_⟩ rfl ⟨by simp; rfl, rfl, rfl, rfl, trivial⟩
      intro j hj h
      rcases Nat.lt_succ_iff_lt_or_eq.1 hj with h1 | rfl
      · exact hno j h1 h
      · exact hc2
  · refine TC.exit ?_
    have hc' : i = l.length := by have := of_decide_eq_false hc; rw [natsR_len] at this; omega
    repeat refine TC.seq ?_
    refine TC.region ?_
    refine t_assign rfl rfl ?_
    refine TL.nil ?_
    refine TC.ret ⟨_, rfl, [_], rfl, ?_⟩
    rw [findIdx_miss fun j hj => hno j (by omega) hj]
    rfl
theorem containsI_ok (l : List Nat) (nm : Nat) : PT Try.prog 43 [.sl (natsR l), .int .i64 (nm : Int)] (· = [.bool (l.any fun (s : Nat) => ((nm : Int) == (s : Int)))]) := by
  refine PT.of_CT (CT.of_body Try.func43 rfl Try.ntmps43 rfl fun s0 Oo => ?_)
  repeat refine TC.seq ?_
  refine TC.region ?_
  refine t_assign rfl rfl ?_
  refine TL.nil ?_
  repeat refine TC.seq ?_
  refine TC.region ?_
  refine t_move rfl rfl ?_
  refine t_move rfl rfl ?_
  refine t_call1 (indexI_ok l nm) rfl rfl ?_
  refine t_int rfl rfl rfl rfl ?_
  refine t_assign rfl rfl ?_
  refine TL.nil ?_
  refine TC.ret ⟨_, rfl, [_], rfl, ?_⟩
  rw [idx_any]
def has (l : List ByteArray) (nm : ByteArray) : Bool := l.any fun s => decide (nm = s)
def addS (acc : List ByteArray) (nm : ByteArray) : List ByteArray := bif has acc nm then acc else acc ++ [nm]
theorem addS_len (acc : List ByteArray) (nm : ByteArray) : (addS acc nm).length ≤ acc.length + 1 := by unfold addS; cases has acc nm <;> simp

theorem add_ok (acc : List ByteArray) (nm : ByteArray) (hl : acc.length ≤ 1000000) : CT Try.prog 112 [genM 0 (strs acc), .d (.str nm)] (genH [] 1 (strs acc)) fun r h => r = genM 0 (strs (addS acc nm)) ∧ h = genH [] 1 (strs (addS acc nm)) := by
  refine CT.of_body Try.func112 rfl Try.ntmps112 rfl fun s0 Oo => ?_
  repeat refine TC.seq ?_
  refine TC.region ?_
  refine t_assign rfl rfl ?_
  refine TL.nil ?_
  repeat refine TC.seq ?_
  refine TC.region ?_
  (refine t_move rfl rfl ?_; refine TL.viewSlot 5 rfl (gen_view [] 1 (strs acc) (strs_lens acc)) ?_)
  refine t_move rfl rfl ?_
  refine t_call1 (containsT_ok acc nm) rfl rfl ?_
  refine TL.nil ?_
  repeat refine TC.seq ?_
  refine TC.cond rfl (fun hc => ?_) (fun hc => ?_)
  · repeat refine TC.seq ?_
    refine TC.region ?_
    refine t_move rfl rfl ?_
    refine t_assign rfl rfl ?_
    refine TL.nil ?_
    have ha : addS acc nm = acc := by unfold addS has; rw [hc]; rfl
    rw [ha]
    exact TC.ret ⟨_, rfl, rfl, rfl⟩
  refine TC.skip ?_
  have ha : addS acc nm = acc ++ [nm] := by unfold addS has; rw [hc]; rfl
  rw [ha, strs_append]
  repeat refine TC.seq ?_
  refine TC.region ?_
  refine t_move rfl rfl ?_
  refine t_move rfl rfl ?_
  refine t_buildSlice rfl rfl rfl rfl rfl rfl rfl rfl ?_
  refine t_snoc (H0 := []) rfl rfl rfl rfl (by rfl) rfl (by rw [strs_len]; omega) (by rw [strs_len]; omega) ?_
  refine t_assign rfl rfl ?_
  refine TL.nil ?_
  exact TC.ret ⟨_, rfl, rfl, rfl⟩

/-- the name of a variable, by its place -/
def vn (k : Nat) : ByteArray := ⟨#[118]⟩ ++ strOfNums [IntKind.u8.wrap (97 + (k : Int))]
abbrev intE : List D := [.int .u8 1, .int .u8 0, .int .i32 0, .str ⟨#[]⟩, .sl [], .sl [], .int .i64 0, .int .i64 0]
abbrev varE (k : Nat) : List D := [.int .u8 4, .int .u8 0, .int .i32 0, .str (vn k), .sl [], .sl [], .int .i64 0, .int .i64 0]
/-- a sum of variables, the last one first -/
def exprR : List Nat → List D
  | [] => intE
  | k :: r => [.int .u8 7, .int .u8 3, .int .i32 0, .str ⟨#[]⟩, .sl [], .sl [exprR r, varE k], .int .i64 0, .int .i64 0]
theorem exprR_shape (ks : List Nat) : ∃ k o n s a b, exprR ks = [.int .u8 k, .int .u8 o, .int .i32 n, .str s, a, b, .int .i64 0, .int .i64 0] := by
  cases ks with
  | nil => exact ⟨_, _, _, _, _, _, rfl⟩
  | cons k r => exact ⟨_, _, _, _, _, _, rfl⟩
def readsE : List Nat → List ByteArray → List ByteArray
  | [], acc => acc
  | k :: r, acc => addS (readsE r acc) (vn k)
theorem readsE_len (ks : List Nat) (acc : List ByteArray) : (readsE ks acc).length ≤ acc.length + ks.length := by
  induction ks with
  | nil => simp [readsE]
  | cons k r ih => have := addS_len (readsE r acc) (vn k); simp only [readsE, List.length_cons]; omega

theorem readsV_ok (k : Nat) (acc : List ByteArray) (hl : acc.length ≤ 1000000) : CT Try.prog 88 [genM 0 (strs acc), .d (.agg (varE k)), .d (.bool true)] (genH [] 1 (strs acc)) fun r h => r = genM 0 (strs (addS acc (vn k))) ∧ h = genH [] 1 (strs (addS acc (vn k))) := by
  refine CT.of_body Try.func88 rfl Try.ntmps88 rfl fun s0 Oo => ?_
  repeat refine TC.seq ?_
  refine TC.region ?_
  refine t_box rfl rfl ?_
  refine t_assign rfl rfl ?_
  refine TL.nil ?_
  repeat refine TC.seq ?_
  refine TC.region ?_
  first | refine t_fieldD rfl rfl ?_ | refine t_fieldL rfl rfl ?_ | refine t_fieldR rfl rfl ?_ | refine t_fieldW rfl rfl ?_
  first | refine t_loadDc rfl rfl rfl ?_ | refine t_loadLc rfl rfl rfl rfl ?_ | refine t_loadRc rfl rfl rfl rfl ?_
  refine TL.nil ?_
  repeat refine TC.seq ?_
  refine TC.block ?_
  repeat refine TC.seq ?_
  refine TC.region ?_
  refine t_int rfl rfl rfl rfl ?_
  refine t_assign rfl rfl ?_
  refine TL.nil ?_
  repeat refine TC.seq ?_
  refine TC.cond rfl (fun hc => ?_) (fun hc => by cases hc)
  refine TC.skip ?_
  repeat refine TC.seq ?_
  refine TC.cond rfl (fun hc => ?_) (fun hc => by cases hc)
  repeat refine TC.seq ?_
  refine TC.region ?_
  refine t_move rfl rfl ?_
  first | refine t_fieldD rfl rfl ?_ | refine t_fieldL rfl rfl ?_ | refine t_fieldR rfl rfl ?_ | refine t_fieldW rfl rfl ?_
  first | refine t_loadDc rfl rfl rfl ?_ | refine t_loadLc rfl rfl rfl rfl ?_ | refine t_loadRc rfl rfl rfl rfl ?_
  (refine t_callR (add_ok acc (vn k) hl) rfl rfl ?_; rintro _ _ ⟨rfl, rfl⟩)
  refine t_assign rfl rfl ?_
  refine TL.nil ?_
  generalize addS acc (vn k) = acc2
  repeat refine TC.seq ?_
  refine TC.region ?_
  first | refine t_fieldD rfl rfl ?_ | refine t_fieldL rfl rfl ?_ | refine t_fieldR rfl rfl ?_ | refine t_fieldW rfl rfl ?_
  first | refine t_loadDc rfl rfl rfl ?_ | refine t_loadLc rfl rfl rfl rfl ?_ | refine t_loadRc rfl rfl rfl rfl ?_
  refine t_lenS rfl rfl rfl ?_
  refine t_move rfl rfl ?_
  refine TL.nil ?_
  repeat refine TC.seq ?_
  refine TC.block ?_
  refine TC.loopB (fun k0 s1 => s1 = ⟨[(48, .m (.d (.int .i64 0))), (47, .m (.d (.int .i64 0))), (0, .m (genM 0 (strs acc2)))], [], genH [] 1 (strs acc2)⟩ ∧ k0 = 0) 0 _ ⟨rfl, rfl⟩ ⟨rfl, rfl, rfl, trivial⟩ ?_
  rintro k0 s1 ⟨rfl, rfl⟩
  repeat refine TC.seq ?_
  refine TC.region ?_
  refine t_int rfl rfl rfl rfl ?_
  refine TL.nil ?_
  repeat refine TC.seq ?_
  refine TC.cond rfl (fun hc => by cases hc) (fun hc => ?_)
  refine TC.exit ?_
  repeat refine TC.seq ?_
  refine TC.region ?_
  refine t_move rfl rfl ?_
  refine t_assign rfl rfl ?_
  refine TL.nil ?_
  exact TC.ret ⟨_, rfl, rfl, rfl⟩
theorem reads_ok : ∀ (ks : List Nat) (acc : List ByteArray), acc.length + ks.length ≤ 1000000 → CT Try.prog 88 [genM 0 (strs acc), .d (.agg (exprR ks)), .d (.bool true)] (genH [] 1 (strs acc)) fun r h => r = genM 0 (strs (readsE ks acc)) ∧ h = genH [] 1 (strs (readsE ks acc))
  | [], acc, hl => by
    refine CT.of_body Try.func88 rfl Try.ntmps88 rfl fun s0 Oo => ?_
    repeat refine TC.seq ?_
    refine TC.region ?_
    refine t_box rfl rfl ?_
    refine t_assign rfl rfl ?_
    refine TL.nil ?_
    repeat refine TC.seq ?_
    refine TC.region ?_
    first | refine t_fieldD rfl rfl ?_ | refine t_fieldL rfl rfl ?_ | refine t_fieldR rfl rfl ?_ | refine t_fieldW rfl rfl ?_
    first | refine t_loadDc rfl rfl rfl ?_ | refine t_loadLc rfl rfl rfl rfl ?_ | refine t_loadRc rfl rfl rfl rfl ?_
    refine TL.nil ?_
    repeat refine TC.seq ?_
    refine TC.block ?_
    repeat refine TC.seq ?_
    refine TC.region ?_
    refine t_int rfl rfl rfl rfl ?_
    refine t_assign rfl rfl ?_
    refine TL.nil ?_
    repeat refine TC.seq ?_
    refine TC.cond rfl (fun hc => by cases hc) (fun hc => ?_)
    repeat refine TC.seq ?_
    refine TC.region ?_
    refine t_int rfl rfl rfl rfl ?_
    refine t_assign rfl rfl ?_
    refine TL.nil ?_
    repeat refine TC.seq ?_
    refine TC.cond rfl (fun hc => by cases hc) (fun hc => ?_)
    repeat refine TC.seq ?_
    refine TC.region ?_
    refine t_int rfl rfl rfl rfl ?_
    refine t_assign rfl rfl ?_
    refine TL.nil ?_
    repeat refine TC.seq ?_
    refine TC.cond rfl (fun hc => by cases hc) (fun hc => ?_)
    repeat refine TC.seq ?_
    refine TC.region ?_
    refine t_int rfl rfl rfl rfl ?_
    refine t_assign rfl rfl ?_
    refine TL.nil ?_
    repeat refine TC.seq ?_
    refine TC.cond rfl (fun hc => by cases hc) (fun hc => ?_)
    repeat refine TC.seq ?_
    refine TC.region ?_
    refine t_int rfl rfl rfl rfl ?_
    refine t_assign rfl rfl ?_
    refine TL.nil ?_
    repeat refine TC.seq ?_
    refine TC.cond rfl (fun hc => by cases hc) (fun hc => ?_)
    refine TC.skip ?_
    repeat refine TC.seq ?_
    refine TC.region ?_
    first | refine t_fieldD rfl rfl ?_ | refine t_fieldL rfl rfl ?_ | refine t_fieldR rfl rfl ?_ | refine t_fieldW rfl rfl ?_
    first | refine t_loadDc rfl rfl rfl ?_ | refine t_loadLc rfl rfl rfl rfl ?_ | refine t_loadRc rfl rfl rfl rfl ?_
    refine t_lenS rfl rfl rfl ?_
    refine t_move rfl rfl ?_
    refine TL.nil ?_
    repeat refine TC.seq ?_
    refine TC.block ?_
    refine TC.loopB (fun k0 s1 => s1 = ⟨[(48, .m (.d (.int .i64 0))), (47, .m (.d (.int .i64 0))), (0, .m (genM 0 (strs acc)))], [], genH [] 1 (strs acc)⟩ ∧ k0 = 0) 0 _ ⟨rfl, rfl⟩ ⟨rfl, rfl, rfl, trivial⟩ ?_
    rintro k0 s1 ⟨rfl, rfl⟩
    repeat refine TC.seq ?_
    refine TC.region ?_
    refine t_int rfl rfl rfl rfl ?_
    refine TL.nil ?_
    repeat refine TC.seq ?_
    refine TC.cond rfl (fun hc => by cases hc) (fun hc => ?_)
    refine TC.exit ?_
    repeat refine TC.seq ?_
    refine TC.region ?_
    refine t_move rfl rfl ?_
    refine t_assign rfl rfl ?_
    refine TL.nil ?_
    exact TC.ret ⟨_, rfl, rfl, rfl⟩
  | k :: r, acc, hl => by
    have hlr : acc.length + r.length ≤ 1000000 := by simp at hl; omega
    have ih := reads_ok r acc hlr
    have hl2 : (readsE r acc).length ≤ 1000000 := by have := readsE_len r acc; omega
    have hv := readsV_ok k (readsE r acc) hl2
    refine CT.of_body Try.func88 rfl Try.ntmps88 rfl fun s0 Oo => ?_
    repeat refine TC.seq ?_
    refine TC.region ?_
    refine t_box rfl rfl ?_
    refine t_assign rfl rfl ?_
    refine TL.nil ?_
    repeat refine TC.seq ?_
    refine TC.region ?_
    first | refine t_fieldD rfl rfl ?_ | refine t_fieldL rfl rfl ?_ | refine t_fieldR rfl rfl ?_ | refine t_fieldW rfl rfl ?_
    first | refine t_loadDc rfl rfl rfl ?_ | refine t_loadLc rfl rfl rfl rfl ?_ | refine t_loadRc rfl rfl rfl rfl ?_
    refine TL.nil ?_
    repeat refine TC.seq ?_
    refine TC.block ?_
    repeat refine TC.seq ?_
    refine TC.region ?_
    refine t_int rfl rfl rfl rfl ?_
    refine t_assign rfl rfl ?_
    refine TL.nil ?_
    repeat refine TC.seq ?_
    refine TC.cond rfl (fun hc => by cases hc) (fun hc => ?_)
    repeat refine TC.seq ?_
    refine TC.region ?_
    refine t_int rfl rfl rfl rfl ?_
    refine t_assign rfl rfl ?_
    refine TL.nil ?_
    repeat refine TC.seq ?_
    refine TC.cond rfl (fun hc => by cases hc) (fun hc => ?_)
    repeat refine TC.seq ?_
    refine TC.region ?_
    refine t_int rfl rfl rfl rfl ?_
    refine t_assign rfl rfl ?_
    refine TL.nil ?_
    repeat refine TC.seq ?_
    refine TC.cond rfl (fun hc => by cases hc) (fun hc => ?_)
    repeat refine TC.seq ?_
    refine TC.region ?_
    refine t_int rfl rfl rfl rfl ?_
    refine t_assign rfl rfl ?_
    refine TL.nil ?_
    repeat refine TC.seq ?_
    refine TC.cond rfl (fun hc => by cases hc) (fun hc => ?_)
    repeat refine TC.seq ?_
    refine TC.region ?_
    refine t_int rfl rfl rfl rfl ?_
    refine t_assign rfl rfl ?_
    refine TL.nil ?_
    repeat refine TC.seq ?_
    refine TC.cond rfl (fun hc => by cases hc) (fun hc => ?_)
    refine TC.skip ?_
    repeat refine TC.seq ?_
    refine TC.region ?_
    first | refine t_fieldD rfl rfl ?_ | refine t_fieldL rfl rfl ?_ | refine t_fieldR rfl rfl ?_ | refine t_fieldW rfl rfl ?_
    first | refine t_loadDc rfl rfl rfl ?_ | refine t_loadLc rfl rfl rfl rfl ?_ | refine t_loadRc rfl rfl rfl rfl ?_
    refine t_lenS rfl rfl rfl ?_
    refine t_move rfl rfl ?_
    refine TL.nil ?_
    repeat refine TC.seq ?_
    refine TC.block ?_
    refine TC.loopB (fun k0 s1 => ∃ (i : Nat) (A : List ByteArray) (bx : List (Nat × List M)), s1 = ⟨[(48, .m (.d (.int .i64 i))), (47, .m (.d (.int .i64 2))), (46, .m (.d (.sl [exprR r, varE k]))), (2, .m (.d (.bool true))), (0, .m (genM 0 (strs A)))], bx, genH [] 1 (strs A)⟩ ∧ k0 = 2 - i ∧ (i = 0 ∧ A = acc ∨ i = 1 ∧ A = readsE r acc ∨ i = 2 ∧ A = readsE (k :: r) acc)) 2 _
      ⟨0, acc, _, rfl, rfl, .inl ⟨rfl, rfl⟩⟩ ⟨rfl, rfl, rfl, rfl, rfl, trivial⟩ ?_
    rintro k0 s1 ⟨i, A, bx, rfl, rfl, hi⟩
    repeat refine TC.seq ?_
    refine TC.region ?_
    refine t_int rfl rfl rfl rfl ?_
    refine TL.nil ?_
    repeat refine TC.seq ?_
    rcases hi with ⟨rfl, rfl⟩ | ⟨rfl, rfl⟩ | ⟨rfl, rfl⟩
    · refine TC.cond rfl (fun hc => ?_) (fun hc => by cases hc)
      refine TC.skip ?_
      repeat refine TC.seq ?_
      refine TC.block ?_
      obtain ⟨_, _, _, _, _, _, he⟩ := exprR_shape r
      rw [he] at ih ⊢
      repeat refine TC.seq ?_
      refine TC.region ?_
      refine t_indexD rfl rfl rfl (by decide) rfl rfl ?_
      first | refine t_loadDw rfl rfl rfl ?_ | refine t_loadDa rfl rfl rfl ?_ | refine t_loadLa rfl rfl rfl rfl rfl ?_ | refine t_loadRa rfl rfl rfl rfl rfl ?_
      refine t_alloc rfl rfl ?_
      refine t_storeL rfl rfl rfl rfl rfl rfl ?_
      refine TL.nil ?_
      repeat refine TC.seq ?_
      refine TC.region ?_
      refine t_move rfl rfl ?_
      first | refine t_loadDw rfl rfl rfl ?_ | refine t_loadDa rfl rfl rfl ?_ | refine t_loadLa rfl rfl rfl rfl rfl ?_ | refine t_loadRa rfl rfl rfl rfl rfl ?_
      refine t_move rfl rfl ?_
      (refine t_callR ih rfl rfl ?_; rintro _ _ ⟨rfl, rfl⟩)
      refine t_assign rfl rfl ?_
      refine TL.nil ?_
      repeat refine TC.seq ?_
      refine TC.region ?_
      refine t_add64 rfl rfl rfl (by omega) ?_
      refine t_move rfl rfl ?_
      refine TL.nil ?_
      exact again (k' := 1) (by omega) ⟨1, _, _, rfl, rfl, .inr (.inl ⟨rfl, rfl⟩)⟩ rfl ⟨rfl, rfl, rfl, rfl, rfl, trivial⟩
    · refine TC.cond rfl (fun hc => ?_) (fun hc => by cases hc)
      refine TC.skip ?_
      repeat refine TC.seq ?_
      refine TC.block ?_
      repeat refine TC.seq ?_
      refine TC.region ?_
      refine t_indexD rfl rfl rfl (by decide) (r := varE k) rfl rfl ?_
      first | refine t_loadDw rfl rfl rfl ?_ | refine t_loadDa rfl rfl rfl ?_ | refine t_loadLa rfl rfl rfl rfl rfl ?_ | refine t_loadRa rfl rfl rfl rfl rfl ?_
      refine t_alloc rfl rfl ?_
      refine t_storeL rfl rfl rfl rfl rfl rfl ?_
      refine TL.nil ?_
      repeat refine TC.seq ?_
      refine TC.region ?_
      refine t_move rfl rfl ?_
      first | refine t_loadDw rfl rfl rfl ?_ | refine t_loadDa rfl rfl rfl ?_ | refine t_loadLa rfl rfl rfl rfl rfl ?_ | refine t_loadRa rfl rfl rfl rfl rfl ?_
      refine t_move rfl rfl ?_
      (refine t_callR hv rfl rfl ?_; rintro _ _ ⟨rfl, rfl⟩)
      refine t_assign rfl rfl ?_
      refine TL.nil ?_
      repeat refine TC.seq ?_
      refine TC.region ?_
      refine t_add64 rfl rfl rfl (by omega) ?_
      refine t_move rfl rfl ?_
      refine TL.nil ?_
      exact again (k' := 0) (by omega) ⟨2, _, _, rfl, rfl, .inr (.inr ⟨rfl, rfl⟩)⟩ rfl ⟨rfl, rfl, rfl, rfl, rfl, trivial⟩
    · refine TC.cond rfl (fun hc => by cases hc) (fun hc => ?_)
      refine TC.exit ?_
      repeat refine TC.seq ?_
      refine TC.region ?_
      refine t_move rfl rfl ?_
      refine t_assign rfl rfl ?_
      refine TL.nil ?_
      exact TC.ret ⟨_, rfl, rfl, rfl⟩

theorem readsP_ok (ks : List Nat) (hl : ks.length ≤ 1000000) : PT Try.prog 64 [.agg (exprR ks)] (· = [.sl (strs (readsE ks []))]) := by
  refine PT.of_CT (CT.of_body Try.func64 rfl Try.ntmps64 rfl fun s0 Oo => ?_)
  have h := reads_ok ks [] (by simpa using hl)
  obtain ⟨_, _, _, _, _, _, he⟩ := exprR_shape ks
  rw [he] at h ⊢
  repeat refine TC.seq ?_
  refine TC.region ?_
  refine t_box rfl rfl ?_
  refine t_assign rfl rfl ?_
  refine TL.nil ?_
  repeat refine TC.seq ?_
  refine TC.region ?_
  first | refine t_loadDw rfl rfl rfl ?_ | refine t_loadDa rfl rfl rfl ?_ | refine t_loadLa rfl rfl rfl rfl rfl ?_ | refine t_loadRa rfl rfl rfl rfl rfl ?_
  (refine t_callR h rfl rfl ?_; rintro _ _ ⟨rfl, rfl⟩)
  refine t_assign rfl rfl ?_
  refine TL.nil ?_
  refine TC.viewSlot 2 rfl (gen_view [] 1 (strs (readsE ks [])) (strs_lens _)) ?_
  exact TC.ret ⟨_, rfl, [_], rfl, rfl⟩
end Go.Proofs
