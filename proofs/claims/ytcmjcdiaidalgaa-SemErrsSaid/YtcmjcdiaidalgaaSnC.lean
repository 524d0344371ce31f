/- Nodes by their names; the values of constants. -/
import Derived.Test.YtcmjcdiaidalgaaSnB
import Derived.Test.YtcmjcdiaidalgaaSnW
import Derived.Test.YtcmjcdiaidalgaaLibI
import Derived.KernelRfl
set_option linter.unusedVariables false
set_option linter.unusedSimpArgs false
set_option linter.unusedSectionVars false
namespace Go.Mk
open Go.Mt
/-- the place of a node of a name; below 0: none -/
def nodeIx (l : List Nd) (x : Nm) : Int := match l.findIdx? (fun d => decide (d.name = x)) with
  | some i => (i : Int)
  | none => -1
theorem nodeIx_hit {l : List Nd} {x : Nm} {i : Nat} (hi : i < l.length) (h : l[i].name = x) (hno : ∀ (j : Nat) (hj : j < l.length), j < i → l[j].name ≠ x) : nodeIx l x = i := by
  have : l.findIdx? (fun d => decide (d.name = x)) = some i := by
    rw [List.findIdx?_eq_some_iff_getElem]
    exact ⟨hi, by simp [h], fun j hj => by simp [hno j (by omega) hj]⟩
  unfold nodeIx; rw [this]
theorem nodeIx_miss {l : List Nd} {x : Nm} (hno : ∀ (j : Nat) (hj : j < l.length), l[j].name ≠ x) : nodeIx l x = -1 := by
  have : l.findIdx? (fun d => decide (d.name = x)) = none := by
    rw [List.findIdx?_eq_none_iff]
    intro d hd
    obtain ⟨j, hj, rfl⟩ := List.getElem_of_mem hd
    simp [hno j hj]
  unfold nodeIx; rw [this]
theorem nodeIx_cases (l : List Nd) (x : Nm) : nodeIx l x = -1 ∨ ∃ (i : Nat) (hi : i < l.length), nodeIx l x = i ∧ l[i].name = x := by
  unfold nodeIx
  cases h : l.findIdx? (fun d => decide (d.name = x)) with
  | none => exact .inl rfl
  | some i =>
    rw [List.findIdx?_eq_some_iff_getElem] at h
    obtain ⟨h1, h2, _⟩ := h
    exact .inr ⟨i, h1, rfl, by simpa using h2⟩
end Go.Mk
namespace Go.Proofs
open Go.Mt Go.Mk
set_option maxRecDepth 4000
set_option linter.unusedSimpArgs false
set_option linter.unusedVariables false

theorem ndsC_get {l : List Nd} {i : Nat} (h : i < l.length) : (ndsC l)[(i : Int).toNat]? = some l[i].cells := by simp [ndsC, h]
theorem nd_shape (d : Nd) : ∃ ins outs v q, d.cells = [.str d.name, .sl ins, .sl outs, .sl v, .sl q, .int .i64 0, .int .i64 0] := by
  obtain ⟨v, q, h⟩ := d.b.shape
  exact ⟨_, _, v, q, by rw [Nd.cells, h]; rfl⟩
theorem findNode1_pt (d : Nd) (x : Nm) : PT Try.prog 53 [.agg d.cells, .pim [.str x] 0] (· = [.bool (decide (d.name = x))]) := by
  obtain ⟨ins, outs, v, q, h⟩ := nd_shape d
  rw [h]
  refine PT.of_CT (CT.of_body Try.func53 rfl Try.ntmps53 rfl fun s0 Oo => ?_)
  repeat refine TC.seq ?_
  refine TC.region ?_
  refine t_box rfl rfl ?_
  refine t_assign rfl rfl ?_
  refine TL.nil ?_
  repeat refine TC.seq ?_
  refine TC.region ?_
  refine t_fieldD rfl rfl ?_
  refine t_loadDc rfl rfl rfl ?_
  refine t_loadDc rfl rfl rfl ?_
  refine t_streq rfl rfl rfl ?_
  refine t_assign rfl rfl ?_
  refine TL.nil ?_
  exact TC.ret ⟨_, rfl, [_], rfl, rfl⟩
instance : IsFn Try.prog 53 := isFn_of (by kernel_rfl)
instance : IsFn Try.prog 52 := isFn_of (by kernel_rfl)
instance : IsFn Try.prog 34 := isFn_of (by kernel_rfl)
instance : IsFn Try.prog 18 := isFn_of (by kernel_rfl)
instance : IsFn Try.prog 106 := isFn_of (by kernel_rfl)
instance : IsFn Try.prog 147 := isFn_of (by kernel_rfl)
theorem idxN_pt (l : List Nd) (x : Nm) (hl : l.length ≤ 1000) : PT Try.prog 52 [.sl (ndsC l), .fn 53 [.pim [.str x] 0]] (· = [.int .i64 (nodeIx l x)]) := by
  refine PT.of_CT (CT.of_body Try.func52 rfl Try.ntmps52 rfl fun s0 Oo => ?_)
  repeat refine TC.seq ?_
  refine TC.region ?_
  refine t_assign rfl rfl ?_
  refine TL.nil ?_
  repeat refine TC.seq ?_
  refine TC.region ?_
  refine t_move rfl rfl ?_
  (refine t_lenS rfl rfl rfl ?_; rw [ndsC_len])
  refine t_move rfl rfl ?_
  refine TL.nil ?_
  repeat refine TC.seq ?_
  refine TC.block ?_
  refine TC.loopB (fun k s => ∃ i : Nat, s = ⟨[(8, .m (.d (.int .i64 i))), (7, .m (.d (.int .i64 (l.length : Nat)))), (0, .m (.d (.sl (ndsC l)))), (1, .m (.d (.fn 53 [.pim [.str x] 0])))], [], []⟩ ∧ i ≤ l.length ∧ k = l.length - i ∧ (∀ (j : Nat) (hj : j < l.length), j < i → l[j].name ≠ x)) l.length _
    ⟨0, rfl, by omega, rfl, by intro j hj h; omega⟩ ⟨rfl, rfl, rfl, rfl, trivial⟩ ?_
  rintro k s ⟨i, rfl, hi, rfl, hno⟩
  repeat refine TC.seq ?_
  refine TC.region ?_
  refine t_int rfl rfl rfl rfl ?_
  refine TL.nil ?_
  repeat refine TC.seq ?_
  refine TC.cond rfl (fun hc => ?_) (fun hc => ?_)
  · have hc' : i < l.length := by have := of_decide_eq_true hc; omega
    clear hc
    have hget := ndsC_get hc'
    have hf := findNode1_pt l[i] x
    obtain ⟨ins, outs, v, q, h⟩ := nd_shape l[i]
    rw [h] at hget hf
    refine TC.skip ?_
    repeat refine TC.seq ?_
    refine TC.block ?_
    repeat refine TC.seq ?_
    refine TC.region ?_
    refine t_move rfl rfl ?_
    refine t_assign rfl rfl ?_
    refine TL.nil ?_
    repeat refine TC.seq ?_
    refine TC.region ?_
    refine t_move rfl rfl ?_
    refine t_move rfl rfl ?_
    refine t_move rfl rfl ?_
    refine t_indexD rfl rfl rfl (Int.natCast_nonneg i) hget rfl ?_
    refine t_loadDw rfl rfl rfl ?_
    refine t_callv hf rfl rfl rfl ?_
    refine TL.nil ?_
    repeat refine TC.seq ?_
    refine TC.cond rfl (fun hc2 => ?_) (fun hc2 => ?_)
    · repeat refine TC.seq ?_
      refine TC.region ?_
      refine t_move rfl rfl ?_
      refine t_assign rfl rfl ?_
      refine TL.nil ?_
      exact TC.ret ⟨_, rfl, [_], rfl, by rw [nodeIx_hit hc' (of_decide_eq_true hc2) (fun j hj h => hno j hj h)]⟩
    · refine TC.skip ?_
      repeat refine TC.seq ?_
      refine TC.region ?_
      refine t_add64 rfl rfl rfl (by omega) ?_
      refine t_move rfl rfl ?_
      refine TL.nil ?_
      refine again (k' := l.length - (i + 1)) (by omega) ⟨i + 1, rfl, by omega, rfl, ?_⟩ rfl ⟨by simp; rfl, rfl, rfl, rfl, trivial⟩
      intro j hj h
      rcases Nat.lt_succ_iff_lt_or_eq.1 h with h1 | rfl
      · exact hno j hj h1
      · exact of_decide_eq_false hc2
  · refine TC.exit ?_
    have hc' : i = l.length := by have := of_decide_eq_false hc; omega
    repeat refine TC.seq ?_
    refine TC.region ?_
    refine t_assign rfl rfl ?_
    refine TL.nil ?_
    exact TC.ret ⟨_, rfl, [_], rfl, by rw [nodeIx_miss (fun j hj => hno j hj (by omega))]⟩
theorem findNode_pt (en : List (List D)) (l : List Nd) (x : Nm) (hl : l.length ≤ 1000) : PT Try.prog 34 [.agg [.sl en, .sl (ndsC l)], .str x] (· = [.int .i64 (nodeIx l x)]) := by
  refine PT.of_CT (CT.of_body Try.func34 rfl Try.ntmps34 rfl fun s0 Oo => ?_)
  repeat refine TC.seq ?_
  refine TC.region ?_
  refine t_box rfl rfl ?_
  refine t_box rfl rfl ?_
  refine t_assign rfl rfl ?_
  refine TL.nil ?_
  repeat refine TC.seq ?_
  refine TC.region ?_
  refine t_fieldD rfl rfl ?_
  refine t_loadDc rfl rfl rfl ?_
  refine t_makeFunc rfl rfl ?_
  refine t_call1 (idxN_pt l x hl) rfl rfl ?_
  refine t_assign rfl rfl ?_
  refine TL.nil ?_
  exact TC.ret ⟨_, rfl, [_], rfl, rfl⟩
theorem nodeR_pt (en : List (List D)) (l : List Nd) (x : Nm) (hl : l.length ≤ 1000) : PT Try.prog 18 [.agg [.sl en, .sl (ndsC l)], .str x] (· = [.int .i64 (nodeIx l x)]) := by
  refine PT.of_CT (CT.of_body Try.func18 rfl Try.ntmps18 rfl fun s0 Oo => ?_)
  repeat refine TC.seq ?_
  refine TC.region ?_
  refine t_box rfl rfl ?_
  refine t_assign rfl rfl ?_
  refine TL.nil ?_
  repeat refine TC.seq ?_
  refine TC.region ?_
  refine t_assign rfl rfl ?_
  refine TL.nil ?_
  refine TC.rename [(5, .m (.d (.int .i64 ((0 : Nat) : Int)))), (2, .m (.d (.pim [.sl en, .sl (ndsC l)] 0))), (1, .m (.d (.str x)))] [] ⟨rfl, rfl, rfl, trivial⟩ rfl ?_
  repeat refine TC.seq ?_
  refine TC.block ?_
  refine TC.loopB (fun k s => ∃ i : Nat, s = ⟨[(5, .m (.d (.int .i64 i))), (2, .m (.d (.pim [.sl en, .sl (ndsC l)] 0))), (1, .m (.d (.str x)))], [], []⟩ ∧ i ≤ l.length ∧ k = l.length - i ∧ (∀ (j : Nat) (hj : j < l.length), j < i → l[j].name ≠ x)) l.length _
    ⟨0, rfl, by omega, rfl, by intro j hj h; omega⟩ ⟨rfl, rfl, rfl, trivial⟩ ?_
  rintro k s ⟨i, rfl, hi, rfl, hno⟩
  repeat refine TC.seq ?_
  refine TC.region ?_
  refine t_move rfl rfl ?_
  refine t_fieldD rfl rfl ?_
  refine t_loadDc rfl rfl rfl ?_
  (refine t_lenS rfl rfl rfl ?_; rw [ndsC_len])
  refine t_int rfl rfl rfl rfl ?_
  refine TL.nil ?_
  repeat refine TC.seq ?_
  refine TC.cond rfl (fun hc => ?_) (fun hc => ?_)
  · have hc' : i < l.length := by have := of_decide_eq_true hc; omega
    clear hc
    have hget := ndsC_get hc'
    obtain ⟨ins, outs, v, q, h⟩ := nd_shape l[i]
    rw [h] at hget
    refine TC.skip ?_
    repeat refine TC.seq ?_
    refine TC.block ?_
    repeat refine TC.seq ?_
    refine TC.region ?_
    refine t_fieldD rfl rfl ?_
    refine t_loadDc rfl rfl rfl ?_
    refine t_move rfl rfl ?_
    refine t_indexD rfl rfl rfl (Int.natCast_nonneg i) hget rfl ?_
    refine t_fieldD rfl rfl ?_
    refine t_loadDc rfl rfl rfl ?_
    refine t_move rfl rfl ?_
    refine t_streq rfl rfl rfl ?_
    refine TL.nil ?_
    repeat refine TC.seq ?_
    refine TC.cond rfl (fun hc2 => ?_) (fun hc2 => ?_)
    · repeat refine TC.seq ?_
      refine TC.region ?_
      refine t_move rfl rfl ?_
      refine t_assign rfl rfl ?_
      refine TL.nil ?_
      exact TC.ret ⟨_, rfl, [_], rfl, by rw [nodeIx_hit hc' (of_decide_eq_true hc2) (fun j hj h => hno j hj h)]⟩
    · refine TC.skip ?_
      repeat refine TC.seq ?_
      refine TC.region ?_
      refine t_move rfl rfl ?_
      refine t_add64 rfl rfl rfl (by omega) ?_
      refine t_assign rfl rfl ?_
      refine TL.nil ?_
      refine again (k' := l.length - (i + 1)) (by omega) ⟨i + 1, rfl, by omega, rfl, ?_⟩ rfl ⟨by simp; rfl, rfl, rfl, trivial⟩
      intro j hj h
      rcases Nat.lt_succ_iff_lt_or_eq.1 h with h1 | rfl
      · exact hno j hj h1
      · exact of_decide_eq_false hc2
  · refine TC.exit ?_
    have hc' : i = l.length := by have := of_decide_eq_false hc; omega
    repeat refine TC.seq ?_
    refine TC.region ?_
    refine t_assign rfl rfl ?_
    refine TL.nil ?_
    exact TC.ret ⟨_, rfl, [_], rfl, by rw [nodeIx_miss (fun j hj => hno j hj (by omega))]⟩
/-- constants have values -/
theorem value_pt {t : Ty} {e : E} (h : GC t e) : ∃ z : Int, PT Try.prog 106 [.sl [colE], .agg e.cells] (· = [.int .i32 z, .bool true]) := by
  have run : ∀ (e : E) (z : Int), chkD (evFn Try.prog noSums snHF snHint 100 100 106 ([D.sl [colE], .agg e.cells].map .d) []) = some [.int .i32 z, .bool true] → ∃ z : Int, PT Try.prog 106 [.sl [colE], .agg e.cells] (· = [.int .i32 z, .bool true]) := fun e z h => ⟨z, PT.of_chkD noSums_ok h⟩
  cases h with
  | bool h =>
    rcases h with rfl | rfl
    · exact run (.bool 0) 0 (by kernel_rfl)
    · exact run (.bool 1) 1 (by kernel_rfl)
  | int h =>
    simp only [List.mem_cons, List.not_mem_nil, or_false] at h
    rcases h with rfl | rfl | rfl | rfl | rfl | rfl
    · exact run (.int 0) 0 (by kernel_rfl)
    · exact run (.int 1) 1 (by kernel_rfl)
    · exact run (.int 2) 2 (by kernel_rfl)
    · exact run (.int (-1)) (-1) (by kernel_rfl)
    · exact run (.int 7) 7 (by kernel_rfl)
    · exact run (.int (-2147483648)) (-2147483648) (by kernel_rfl)
  | col h =>
    simp only [List.mem_cons, List.not_mem_nil, or_false] at h
    rcases h with rfl | rfl | rfl
    · exact run (.ctor redN) 0 (by kernel_rfl)
    · exact run (.ctor greenN) 1 (by kernel_rfl)
    · exact run (.ctor blueN) 2 (by kernel_rfl)
theorem intT_pt (z : Int) : PT Try.prog 147 [.int .i32 z] (· = [.agg (E.int z).cells]) := by
  refine PT.of_CT (CT.of_body Try.func147 rfl Try.ntmps147 rfl fun s0 Oo => ?_)
  repeat refine TC.seq ?_
  refine TC.region ?_
  refine t_alloc rfl rfl ?_
  refine TL.nil ?_
  repeat refine TC.seq ?_
  refine TC.region ?_
  refine t_move rfl rfl ?_
  refine t_build rfl rfl rfl rfl rfl ?_
  refine t_storeL rfl rfl rfl rfl rfl rfl ?_
  refine TL.nil ?_
  exact TC.ret ⟨_, rfl, [_], rfl, rfl⟩
/-- room for a slice of n elements -/
def growM (H : Hp) (n : Nat) : M := if n = 0 then .d (.sl []) else .rsl H.length 1 0
def growH (H : Hp) (ec n : Nat) : Hp := if n = 0 then H else H ++ [.row true ec 1 []]
theorem flat_take_succ {α : Type} (L : List (List α)) (i : Nat) (h : i < L.length) : (L.take (i + 1)).flatten = (L.take i).flatten ++ L[i] := by
  rw [List.take_succ_eq_append_getElem h, List.flatten_append]; simp
theorem flat_take_le {α : Type} (L : List (List α)) (i : Nat) : (L.take i).flatten.length ≤ L.flatten.length := by
  have : L.flatten = (L.take i).flatten ++ (L.drop i).flatten := by rw [← List.flatten_append, List.take_append_drop]
  rw [this, List.length_append]; omega
theorem growV_ok (n : Nat) (H : Hp) (hn : n ≤ 1000000) : CT Try.prog 74 [.d (.sl []), .d (.int .i64 n)] H fun r h => r = growM H n ∧ h = growH H 15 n := by
  refine CT.of_body Try.func74 rfl Try.ntmps74 rfl fun s0 Oo => ?_
  repeat refine TC.seq ?_
  refine TC.region ?_
  refine t_assign rfl rfl ?_
  refine TL.nil ?_
  repeat refine TC.seq ?_
  refine TC.region ?_
  refine t_move rfl rfl ?_
  refine t_int rfl rfl rfl rfl ?_
  refine TL.nil ?_
  repeat refine TC.seq ?_
  refine TC.cond rfl (fun hc => by have := of_decide_eq_true hc; omega) (fun hc => ?_)
  refine TC.skip ?_
  repeat refine TC.seq ?_
  refine TC.region ?_
  refine t_move rfl rfl ?_
  refine t_move rfl rfl ?_
  refine t_cap0 rfl rfl ?_
  refine t_move rfl rfl ?_
  refine t_lenS rfl rfl rfl ?_
  refine t_sub64 rfl rfl rfl (by simp) ?_
  (refine t_sub64 rfl rfl rfl (by simp; omega) ?_; rw [show ((n : Int) - (0 - ((List.length ([] : List (List D)) : Nat) : Int))) = (n : Int) by simp])
  refine t_assign rfl rfl ?_
  refine TL.nil ?_
  repeat refine TC.seq ?_
  refine TC.region ?_
  refine t_move rfl rfl ?_
  refine t_int rfl rfl rfl rfl ?_
  refine TL.nil ?_
  repeat refine TC.seq ?_
  refine TC.cond rfl (fun hc => ?_) (fun hc => ?_)
  · have hp : 0 < n := by have := of_decide_eq_true hc; omega
    repeat refine TC.seq ?_
    refine TC.region ?_
    refine t_move rfl rfl ?_
    refine t_move rfl rfl ?_
    refine t_cap0 rfl rfl ?_
    refine t_slice0 rfl rfl rfl ?_
    refine t_move rfl rfl ?_
    refine t_appendZ (len := n) rfl rfl rfl rfl (by rfl) hp (by omega) (by omega) ?_
    refine t_move rfl rfl ?_
    refine t_lenS rfl rfl rfl ?_
    refine t_sliceR true rfl rfl rfl (by exact List.getElem?_concat_length) (by simp) (by simp) ?_
    refine t_assign rfl rfl ?_
    refine TL.nil ?_
    repeat refine TC.seq ?_
    refine TC.region ?_
    refine t_move rfl rfl ?_
    refine t_assign rfl rfl ?_
    refine TL.nil ?_
    refine TC.ret ⟨_, rfl, ?_, ?_⟩
    · simp only [growM, if_neg (show ¬ n = 0 by omega)]; rfl
    · simp only [growH, if_neg (show ¬ n = 0 by omega)]; simp
  · refine TC.skip ?_
    have hp : n = 0 := by have := of_decide_eq_false hc; omega
    repeat refine TC.seq ?_
    refine TC.region ?_
    refine t_move rfl rfl ?_
    refine t_assign rfl rfl ?_
    refine TL.nil ?_
    refine TC.ret ⟨_, rfl, ?_, ?_⟩
    · simp only [growM, if_pos hp]; rfl
    · simp only [growH, if_pos hp]
theorem concatV_ok (L : List (List (List D))) (hl : ∀ l ∈ L, ∀ r ∈ l, r.length = 15) (hL : L.length ≤ 1000) (hsum : L.flatten.length ≤ 1000000) :
    PT Try.prog 55 [.sl (L.map fun l => [D.sl l])] (· = [.sl L.flatten]) := by
  refine PT.of_CT (CT.of_body Try.func55 rfl Try.ntmps55 rfl fun s0 Oo => ?_)
  repeat refine TC.seq ?_
  refine TC.region ?_
  refine t_assign rfl rfl ?_
  refine TL.nil ?_
  repeat refine TC.seq ?_
  refine TC.region ?_
  refine t_assign rfl rfl ?_
  refine TL.nil ?_
  repeat refine TC.seq ?_
  refine TC.region ?_
  refine t_move rfl rfl ?_
  (refine t_lenS rfl rfl rfl ?_; rw [List.length_map])
  refine t_move rfl rfl ?_
  refine TL.nil ?_
  repeat refine TC.seq ?_
  refine TC.block ?_
  refine TC.loopB (fun k s => ∃ (i : Nat), s = ⟨[(11, .m (.d (.int .i64 i))), (10, .m (.d (.int .i64 (L.length : Nat)))), (9, .m (.d (.sl (L.map fun l => [D.sl l])))), (3, .m (.d (.int .i64 ((L.take i).flatten.length : Nat)))), (0, .m (.d (.sl (L.map fun l => [D.sl l]))))], [], []⟩ ∧ i ≤ L.length ∧ k = L.length - i) L.length _
    ⟨0, rfl, by omega, rfl⟩ ⟨rfl, rfl, rfl, rfl, rfl, trivial⟩ ?_
  rintro k s ⟨i, rfl, hi, rfl⟩
  have htk := flat_take_le L i
  repeat refine TC.seq ?_
  refine TC.region ?_
  refine t_int rfl rfl rfl rfl ?_
  refine TL.nil ?_
  repeat refine TC.seq ?_
  refine TC.cond rfl (fun hc => ?_) (fun hc => ?_)
  · have hc' : i < L.length := by have := of_decide_eq_true hc; omega
    have hnx := flat_take_succ L i hc'
    have htk2 := flat_take_le L (i + 1)
    rw [hnx, List.length_append] at htk2
    refine TC.skip ?_
    repeat refine TC.seq ?_
    refine TC.block ?_
    repeat refine TC.seq ?_
    refine TC.region ?_
    refine t_indexD rfl rfl rfl (Int.natCast_nonneg i) (r := [.sl L[i]]) (by simp [hc']) rfl ?_
    refine t_loadDc rfl rfl rfl ?_
    refine t_assign rfl rfl ?_
    refine TL.nil ?_
    repeat refine TC.seq ?_
    refine TC.region ?_
    refine t_move rfl rfl ?_
    refine t_move rfl rfl ?_
    refine t_lenS rfl rfl rfl ?_
    refine t_add64 rfl rfl rfl (by omega) ?_
    refine t_assign rfl rfl ?_
    refine TL.nil ?_
    repeat refine TC.seq ?_
    refine TC.region ?_
    refine t_move rfl rfl ?_
    refine t_int rfl rfl rfl rfl ?_
    refine TL.nil ?_
    repeat refine TC.seq ?_
    refine TC.cond rfl (fun hc => by have := of_decide_eq_true hc; omega) (fun hc => ?_)
    refine TC.skip ?_
    repeat refine TC.seq ?_
    refine TC.region ?_
    refine t_add64 rfl rfl rfl (by omega) ?_
    refine t_move rfl rfl ?_
    refine TL.nil ?_
    exact again (k' := L.length - (i + 1)) (by omega) ⟨i + 1, rfl, by omega, rfl⟩ rfl ⟨by simp; rfl, rfl, rfl, by rw [hnx, List.length_append, Int.natCast_add]; rfl, rfl, trivial⟩
  refine TC.exit ?_
  obtain rfl : i = L.length := by have := of_decide_eq_false hc; omega
  rw [List.take_length]
  repeat refine TC.seq ?_
  refine TC.region ?_
  refine t_move rfl rfl ?_
  (refine t_callR (growV_ok L.flatten.length [] hsum) rfl rfl ?_; rintro _ _ ⟨rfl, rfl⟩)
  refine t_assign rfl rfl ?_
  refine TL.nil ?_
  repeat refine TC.seq ?_
  refine TC.region ?_
  refine t_move rfl rfl ?_
  (refine t_lenS rfl rfl rfl ?_; rw [List.length_map])
  refine t_move rfl rfl ?_
  refine TL.nil ?_
  repeat refine TC.seq ?_
  refine TC.block ?_
  by_cases h0 : L.flatten.length = 0
  · rw [growM, growH, if_pos h0, if_pos h0]
    refine TC.loopB (fun k s => ∃ (i : Nat), s = ⟨[(27, .m (.d (.int .i64 i))), (26, .m (.d (.int .i64 (L.length : Nat)))), (25, .m (.d (.sl (L.map fun l => [D.sl l])))), (6, .m (.d (.sl [])))], [], []⟩ ∧ i ≤ L.length ∧ k = L.length - i) L.length _
      ⟨0, rfl, by omega, rfl⟩ ⟨rfl, rfl, rfl, rfl, trivial⟩ ?_
    rintro k s ⟨i, rfl, hi, rfl⟩
    repeat refine TC.seq ?_
    refine TC.region ?_
    refine t_int rfl rfl rfl rfl ?_
    refine TL.nil ?_
    repeat refine TC.seq ?_
    refine TC.cond rfl (fun hc => ?_) (fun hc => ?_)
    · have hc' : i < L.length := by have := of_decide_eq_true hc; omega
      have hz : L[i] = [] := by
        have h1 := List.eq_nil_of_length_eq_zero h0
        rw [List.flatten_eq_nil_iff] at h1
        exact h1 _ (List.getElem_mem hc')
      refine TC.skip ?_
      repeat refine TC.seq ?_
      refine TC.block ?_
      repeat refine TC.seq ?_
      refine TC.region ?_
      refine t_indexD rfl rfl rfl (Int.natCast_nonneg i) (r := [.sl []]) (by simp [hc', hz]) rfl ?_
      refine t_loadDc rfl rfl rfl ?_
      refine t_assign rfl rfl ?_
      refine TL.nil ?_
      repeat refine TC.seq ?_
      refine TC.region ?_
      refine t_move rfl rfl ?_
      refine t_move rfl rfl ?_
      refine t_append00 rfl rfl rfl ?_
      refine t_assign rfl rfl ?_
      refine TL.nil ?_
      repeat refine TC.seq ?_
      refine TC.region ?_
      refine t_add64 rfl rfl rfl (by omega) ?_
      refine t_move rfl rfl ?_
      refine TL.nil ?_
      exact again (k' := L.length - (i + 1)) (by omega) ⟨i + 1, rfl, by omega, rfl⟩ rfl ⟨by simp; rfl, rfl, rfl, rfl, trivial⟩
    refine TC.exit ?_
    repeat refine TC.seq ?_
    refine TC.region ?_
    refine t_move rfl rfl ?_
    refine t_assign rfl rfl ?_
    refine TL.nil ?_
    exact TC.ret ⟨_, rfl, [_], rfl, by rw [List.eq_nil_of_length_eq_zero h0]⟩
  · rw [growM, growH, if_neg h0, if_neg h0]
    refine TC.loopB (fun k s => ∃ (i : Nat), s = ⟨[(27, .m (.d (.int .i64 i))), (26, .m (.d (.int .i64 (L.length : Nat)))), (25, .m (.d (.sl (L.map fun l => [D.sl l])))), (6, .m (.rsl 0 (i + 1) (L.take i).flatten.length))], [], [.row true 15 (i + 1) (flatM (L.take i).flatten)]⟩ ∧ i ≤ L.length ∧ k = L.length - i) L.length _
      ⟨0, rfl, by omega, rfl⟩ ⟨rfl, rfl, rfl, rfl, trivial⟩ ?_
    rintro k s ⟨i, rfl, hi, rfl⟩
    have htk := flat_take_le L i
    repeat refine TC.seq ?_
    refine TC.region ?_
    refine t_int rfl rfl rfl rfl ?_
    refine TL.nil ?_
    repeat refine TC.seq ?_
    refine TC.cond rfl (fun hc => ?_) (fun hc => ?_)
    · have hc' : i < L.length := by have := of_decide_eq_true hc; omega
      have hnx := flat_take_succ L i hc'
      have htk2 := flat_take_le L (i + 1)
      rw [hnx, List.length_append] at htk2
      refine TC.skip ?_
      repeat refine TC.seq ?_
      refine TC.block ?_
      repeat refine TC.seq ?_
      refine TC.region ?_
      refine t_indexD rfl rfl rfl (Int.natCast_nonneg i) (r := [.sl L[i]]) (by simp [hc']) rfl ?_
      refine t_loadDc rfl rfl rfl ?_
      refine t_assign rfl rfl ?_
      refine TL.nil ?_
      repeat refine TC.seq ?_
      refine TC.region ?_
      refine t_move rfl rfl ?_
      refine t_move rfl rfl ?_
      refine t_appendR rfl rfl rfl rfl (by rfl) (by exact hl _ (List.getElem_mem hc')) (by omega) (by omega) ?_
      refine t_assign rfl rfl ?_
      refine TL.nil ?_
      repeat refine TC.seq ?_
      refine TC.region ?_
      refine t_add64 rfl rfl rfl (by omega) ?_
      refine t_move rfl rfl ?_
      refine TL.nil ?_
      exact again (k' := L.length - (i + 1)) (by omega) ⟨i + 1, rfl, by omega, rfl⟩ (by rw [hnx]; simp [flatM]) ⟨by simp; rfl, rfl, rfl, by rw [hnx, List.length_append]; rfl, trivial⟩
    refine TC.exit ?_
    obtain rfl : i = L.length := by have := of_decide_eq_false hc; omega
    rw [List.take_length]
    repeat refine TC.seq ?_
    refine TC.region ?_
    refine t_move rfl rfl ?_
    refine t_assign rfl rfl ?_
    refine TL.nil ?_
    refine TC.viewSlot 2 rfl (Acc.view (n := 15) (i := 0) (rs := L.flatten) (.inr ⟨by intro h; rw [h] at h0; exact h0 rfl, _, rfl, rfl⟩) (by intro r hr; obtain ⟨l, h1, h2⟩ := List.mem_flatten.1 hr; exact hl l h1 r h2)) ?_
    exact TC.ret ⟨_, rfl, [_], rfl, rfl⟩
end Go.Proofs
