/- Names, types, constants, variables that may be picked. -/
import Derived.Test.YtcmjcdiaidalgaaMkB
import Derived.Test.YtcmjcdiaidalgaaLibI
set_option linter.unusedVariables false
set_option linter.unusedSimpArgs false
set_option linter.unusedSectionVars false
namespace Go.Proofs
open Go.Mt Go.Mk
set_option maxRecDepth 4000
set_option linter.unusedSimpArgs false
set_option linter.unusedVariables false

instance : TyKN Try.prog 55 := ⟨by kernel_rfl⟩
instance : IsFn Try.prog 32 := isFn_of (by kernel_rfl)
instance : IsFn Try.prog 46 := isFn_of (by kernel_rfl)
instance : IsFn Try.prog 47 := isFn_of (by kernel_rfl)
instance : IsFn Try.prog 48 := isFn_of (by kernel_rfl)
instance : IsFn Try.prog 49 := isFn_of (by kernel_rfl)
/-- what expressions change: the tape alone -/
structure Mv (zs : List Int) (g g' : GS) : Prop where
  n : g'.n = g.n
  q : g'.q = g.q
  i : g.i ≤ g'.i
  le : g'.i ≤ zs.length
theorem Rd.mv {zs : List Int} {k j : Nat} {g g' : GS} (h : Rd zs k j g g') : Mv zs g g' := ⟨h.n, h.q, h.i, h.le⟩
theorem Mv.trans {zs : List Int} {a b c : GS} (h : Mv zs a b) (k : Mv zs b c) : Mv zs a c := ⟨k.n.trans h.n, k.q.trans h.q, Nat.le_trans h.i k.i, k.le⟩
theorem gh_hb (v : D) (subs : Nat) (main : Bool) (g : GS) : HB 2 (GH v subs main g) := hbb_ok (H := GH v subs main g) rfl
section
variable {zs : List Int} {v : D} (ht : Tape zs v) (subs : Nat) (main : Bool)
include ht
theorem name_dt (c : UInt8) (g : GS) (hg : g.i ≤ zs.length) (hn : g.n ≤ 100000) : DT Try.prog 68 [.ref 1 0, .d (.str ⟨#[c]⟩)] (GH v subs main g) fun r K => r = .d (.str (nm c (g.n + 1))) ∧ K = GH v subs main ⟨g.i, g.n + 1, g.q⟩ := by
  obtain ⟨i, n, q⟩ := g
  have hd := digits_pt (n + 2) (n + 1) (by omega) (by simp only at hn; omega)
  have hs := dg_size (n + 1)
  simp only at hn
  refine DT.of_body Try.func68 rfl Try.ntmps68 rfl ?_
  show DC _ _ _ _ ⟨_, _, [.box (tapeC v i), .box (genC n q subs main)]⟩ _
  repeat refine DC.seq ?_
  apply DC.regionX
  · intro s0 Oo
    refine t_assign rfl rfl ?_
    exact TL.nil rfl
  repeat refine DC.seq ?_
  apply DC.regionX
  · intro s0 Oo
    refine t_move rfl rfl ?_
    refine t_nilCheck rfl rfl rfl ?_
    refine t_fieldR rfl rfl ?_
    refine t_loadRc rfl rfl rfl rfl ?_
    refine t_add64 rfl rfl rfl (by omega) ?_
    refine t_nilCheck rfl rfl rfl ?_
    refine t_fieldR rfl rfl ?_
    refine t_storeR rfl rfl rfl rfl rfl rfl ?_
    exact TL.nil rfl
  repeat refine DC.seq ?_
  apply DC.regionX
  · intro s0 Oo
    refine t_move rfl rfl ?_
    refine t_move rfl rfl ?_
    refine t_nilCheck rfl rfl rfl ?_
    refine t_fieldR rfl rfl ?_
    refine t_loadRc rfl rfl rfl rfl ?_
    refine t_call1 hd rfl rfl ?_
    refine t_stradd rfl rfl rfl (by have : (⟨#[c]⟩ : ByteArray).size = 1 := rfl; omega) ?_
    refine t_assign rfl rfl ?_
    exact TL.nil rfl
  exact DC.ret ⟨_, rfl, rfl, rfl⟩
theorem typ_dt (g : GS) (hg : g.i ≤ zs.length) : DT Try.prog 69 [.ref 1 0] (GH v subs main g) fun r K => ∃ (t : Ty) (g' : GS), r = .d (.agg t.cells) ∧ K = GH v subs main g' ∧ Mv zs g g' := by
  obtain ⟨r, K, ⟨j, g', rfl, rfl, hr⟩, hc⟩ := next_dt ht subs main 4 (by omega) (by omega) g hg
  refine DT.of_body Try.func69 rfl Try.ntmps69 rfl ?_
  repeat refine DC.seq ?_
  apply DC.regionX
  · intro s0 Oo
    refine t_alloc rfl rfl ?_
    exact TL.nil rfl
  repeat refine DC.seq ?_
  apply DC.regionX
  · intro s0 Oo
    refine t_move rfl rfl ?_
    refine t_nilCheck rfl rfl rfl ?_
    refine t_fieldR rfl rfl ?_
    refine t_loadRc rfl rfl rfl rfl ?_
    refine t_callD hc rfl rfl ?_
    exact TL.nil rfl
  have hj : j = 0 ∨ j = 1 ∨ j = 2 ∨ j = 3 := by have := hr.lt; omega
  repeat refine DC.seq ?_
  refine DC.block ?_
  rcases hj with rfl | rfl | rfl | rfl
  · repeat refine DC.seq ?_
    apply DC.regionX
    · intro s0 Oo
      refine t_int rfl rfl rfl rfl ?_
      refine t_assign rfl rfl ?_
      exact TL.nil rfl
    repeat refine DC.seq ?_
    refine DC.cond rfl (fun hc => ?_) (fun hc => by cases hc)
    refine DC.skip ?_
    refine DC.cond rfl (fun hc => ?_) (fun hc => by cases hc)
    repeat refine DC.seq ?_
    apply DC.regionX
    · intro s0 Oo
      refine t_call1 tInt_pt rfl rfl ?_
      refine t_storeL rfl rfl rfl rfl rfl rfl ?_
      exact TL.nil rfl
    exact DC.ret ⟨_, rfl, .int, g', rfl, rfl, hr.mv⟩
  · repeat refine DC.seq ?_
    apply DC.regionX
    · intro s0 Oo
      refine t_int rfl rfl rfl rfl ?_
      refine t_assign rfl rfl ?_
      exact TL.nil rfl
    repeat refine DC.seq ?_
    refine DC.cond rfl (fun hc => by cases hc) (fun hc => ?_)
    repeat refine DC.seq ?_
    apply DC.regionX
    · intro s0 Oo
      refine t_int rfl rfl rfl rfl ?_
      refine t_assign rfl rfl ?_
      exact TL.nil rfl
    repeat refine DC.seq ?_
    refine DC.cond rfl (fun hc => ?_) (fun hc => by cases hc)
    repeat refine DC.seq ?_
    apply DC.regionX
    · intro s0 Oo
      refine t_call1 tInt_pt rfl rfl ?_
      refine t_storeL rfl rfl rfl rfl rfl rfl ?_
      exact TL.nil rfl
    exact DC.ret ⟨_, rfl, .int, g', rfl, rfl, hr.mv⟩
  · repeat refine DC.seq ?_
    apply DC.regionX
    · intro s0 Oo
      refine t_int rfl rfl rfl rfl ?_
      refine t_assign rfl rfl ?_
      exact TL.nil rfl
    repeat refine DC.seq ?_
    refine DC.cond rfl (fun hc => by cases hc) (fun hc => ?_)
    repeat refine DC.seq ?_
    apply DC.regionX
    · intro s0 Oo
      refine t_int rfl rfl rfl rfl ?_
      refine t_assign rfl rfl ?_
      exact TL.nil rfl
    repeat refine DC.seq ?_
    refine DC.cond rfl (fun hc => by cases hc) (fun hc => ?_)
    repeat refine DC.seq ?_
    apply DC.regionX
    · intro s0 Oo
      refine t_int rfl rfl rfl rfl ?_
      refine t_assign rfl rfl ?_
      exact TL.nil rfl
    repeat refine DC.seq ?_
    refine DC.cond rfl (fun hc => ?_) (fun hc => by cases hc)
    repeat refine DC.seq ?_
    apply DC.regionX
    · intro s0 Oo
      refine t_call1 tBool_pt rfl rfl ?_
      refine t_storeL rfl rfl rfl rfl rfl rfl ?_
      exact TL.nil rfl
    exact DC.ret ⟨_, rfl, .bool, g', rfl, rfl, hr.mv⟩
  · repeat refine DC.seq ?_
    apply DC.regionX
    · intro s0 Oo
      refine t_int rfl rfl rfl rfl ?_
      refine t_assign rfl rfl ?_
      exact TL.nil rfl
    repeat refine DC.seq ?_
    refine DC.cond rfl (fun hc => by cases hc) (fun hc => ?_)
    repeat refine DC.seq ?_
    apply DC.regionX
    · intro s0 Oo
      refine t_int rfl rfl rfl rfl ?_
      refine t_assign rfl rfl ?_
      exact TL.nil rfl
    repeat refine DC.seq ?_
    refine DC.cond rfl (fun hc => by cases hc) (fun hc => ?_)
    repeat refine DC.seq ?_
    apply DC.regionX
    · intro s0 Oo
      refine t_int rfl rfl rfl rfl ?_
      refine t_assign rfl rfl ?_
      exact TL.nil rfl
    repeat refine DC.seq ?_
    refine DC.cond rfl (fun hc => by cases hc) (fun hc => ?_)
    refine DC.skip ?_
    repeat refine DC.seq ?_
    apply DC.regionX
    · intro s0 Oo
      refine t_call1 tCol_pt rfl rfl ?_
      refine t_storeL rfl rfl rfl rfl rfl rfl ?_
      exact TL.nil rfl
    exact DC.ret ⟨_, rfl, .col, g', rfl, rfl, hr.mv⟩
theorem constant_dt (t : Ty) (g : GS) (hg : g.i ≤ zs.length) : DT Try.prog 50 [.ref 1 0, .d (.agg t.cells)] (GH v subs main g) fun r K => ∃ (e : E) (g' : GS), r = .d (.agg e.cells) ∧ K = GH v subs main g' ∧ GC t e ∧ Mv zs g g' := by
  obtain ⟨r, K, ⟨j, g', rfl, rfl, hr⟩, hc⟩ := next_dt ht subs main 6 (by omega) (by omega) g hg
  refine DT.of_body Try.func50 rfl Try.ntmps50 rfl ?_
  repeat refine DC.seq ?_
  apply DC.regionX
  · intro s0 Oo
    refine t_box rfl rfl ?_
    refine t_alloc rfl rfl ?_
    exact TL.nil rfl
  repeat refine DC.seq ?_
  apply DC.regionX
  · intro s0 Oo
    refine t_move rfl rfl ?_
    refine t_nilCheck rfl rfl rfl ?_
    refine t_fieldR rfl rfl ?_
    refine t_loadRc rfl rfl rfl rfl ?_
    refine t_callD hc rfl rfl ?_
    refine t_assign rfl rfl ?_
    exact TL.nil rfl
  repeat refine DC.seq ?_
  apply DC.regionX
  · intro s0 Oo
    refine t_fieldD rfl rfl ?_
    refine t_loadDc rfl rfl rfl ?_
    exact TL.nil rfl
  repeat refine DC.seq ?_
  refine DC.block ?_
  have hj6 := hr.lt
  have hmv := hr.mv
  clear hc hr
  cases t with
  | bool =>
    have hj : ∃ b : Int, (b = 0 ∨ b = 1) ∧ IntKind.i32.wrap (((j : Nat) : Int).tmod 2) = b := by
      have : j = 0 ∨ j = 1 ∨ j = 2 ∨ j = 3 ∨ j = 4 ∨ j = 5 := by omega
      rcases this with rfl | rfl | rfl | rfl | rfl | rfl
      · exact ⟨0, .inl rfl, by decide⟩
      · exact ⟨1, .inr rfl, by decide⟩
      · exact ⟨0, .inl rfl, by decide⟩
      · exact ⟨1, .inr rfl, by decide⟩
      · exact ⟨0, .inl rfl, by decide⟩
      · exact ⟨1, .inr rfl, by decide⟩
    obtain ⟨b, hb, hw⟩ := hj
    repeat refine DC.seq ?_
    apply DC.regionX
    · intro s0 Oo
      refine t_int rfl rfl rfl rfl ?_
      refine t_assign rfl rfl ?_
      exact TL.nil rfl
    repeat refine DC.seq ?_
    refine DC.cond rfl (fun hc => ?_) (fun hc => by cases hc)
    repeat refine DC.seq ?_
    apply DC.regionX
    · intro s0 Oo
      refine t_move rfl rfl ?_
      refine t_rem rfl rfl rfl rfl ?_
      (refine t_convI rfl rfl ?_; rw [hw])
      refine t_build rfl rfl rfl rfl rfl ?_
      refine t_storeL rfl rfl rfl rfl rfl rfl ?_
      exact TL.nil rfl
    exact DC.ret ⟨_, rfl, .bool b, g', rfl, rfl, .bool hb, hmv⟩
  | int =>
    have hj : ∃ z : Int, z ∈ [(0 : Int), 1, 2, -1, 7, -2147483648] ∧ ([[D.int .i32 0], [.int .i32 1], [.int .i32 2], [.int .i32 (-1)], [.int .i32 7], [.int .i32 (-2147483648)]] : List (List D))[((j : Nat) : Int).toNat]? = some [.int .i32 z] := by
      have : j = 0 ∨ j = 1 ∨ j = 2 ∨ j = 3 ∨ j = 4 ∨ j = 5 := by omega
      rcases this with rfl | rfl | rfl | rfl | rfl | rfl
      · exact ⟨0, by simp, rfl⟩
      · exact ⟨1, by simp, rfl⟩
      · exact ⟨2, by simp, rfl⟩
      · exact ⟨-1, by simp, rfl⟩
      · exact ⟨7, by simp, rfl⟩
      · exact ⟨-2147483648, by simp, rfl⟩
    obtain ⟨z, hz, hw⟩ := hj
    repeat refine DC.seq ?_
    apply DC.regionX
    · intro s0 Oo
      refine t_int rfl rfl rfl rfl ?_
      refine t_assign rfl rfl ?_
      exact TL.nil rfl
    repeat refine DC.seq ?_
    refine DC.cond rfl (fun hc => by cases hc) (fun hc => ?_)
    repeat refine DC.seq ?_
    apply DC.regionX
    · intro s0 Oo
      refine t_int rfl rfl rfl rfl ?_
      refine t_assign rfl rfl ?_
      exact TL.nil rfl
    repeat refine DC.seq ?_
    refine DC.cond rfl (fun hc => ?_) (fun hc => by cases hc)
    repeat refine DC.seq ?_
    apply DC.regionX
    · intro s0 Oo
      refine t_buildSlice rfl rfl rfl rfl rfl rfl rfl rfl ?_
      refine t_assign rfl rfl ?_
      exact TL.nil rfl
    repeat refine DC.seq ?_
    apply DC.regionX
    · intro s0 Oo
      refine t_move rfl rfl ?_
      refine t_move rfl rfl ?_
      refine t_indexD rfl rfl rfl (Int.natCast_nonneg j) hw rfl ?_
      refine t_loadDc rfl rfl rfl ?_
      refine t_build rfl rfl rfl rfl rfl ?_
      refine t_storeL rfl rfl rfl rfl rfl rfl ?_
      exact TL.nil rfl
    exact DC.ret ⟨_, rfl, .int z, g', rfl, rfl, .int hz, hmv⟩
  | col =>
    have hj : ∃ s : Nm, s ∈ [redN, greenN, blueN] ∧ ([[D.str redN], [.str greenN], [.str blueN]] : List (List D))[(((j % 3 : Nat) : Int)).toNat]? = some [.str s] := by
      have : j % 3 = 0 ∨ j % 3 = 1 ∨ j % 3 = 2 := by omega
      rcases this with h | h | h <;> rw [h]
      · exact ⟨redN, by simp, rfl⟩
      · exact ⟨greenN, by simp, rfl⟩
      · exact ⟨blueN, by simp, rfl⟩
    obtain ⟨s, hs, hw⟩ := hj
    have hmod : Int.tmod (j : Int) 3 = ((j % 3 : Nat) : Int) := rfl
    repeat refine DC.seq ?_
    apply DC.regionX
    · intro s0 Oo
      refine t_int rfl rfl rfl rfl ?_
      refine t_assign rfl rfl ?_
      exact TL.nil rfl
    repeat refine DC.seq ?_
    refine DC.cond rfl (fun hc => by cases hc) (fun hc => ?_)
    repeat refine DC.seq ?_
    apply DC.regionX
    · intro s0 Oo
      refine t_int rfl rfl rfl rfl ?_
      refine t_assign rfl rfl ?_
      exact TL.nil rfl
    repeat refine DC.seq ?_
    refine DC.cond rfl (fun hc => by cases hc) (fun hc => ?_)
    refine DC.skip ?_
    repeat refine DC.seq ?_
    apply DC.regionX
    · intro s0 Oo
      refine t_buildSlice rfl rfl rfl rfl rfl rfl rfl rfl ?_
      refine t_assign rfl rfl ?_
      exact TL.nil rfl
    repeat refine DC.seq ?_
    apply DC.regionX
    · intro s0 Oo
      refine t_move rfl rfl ?_
      refine t_move rfl rfl ?_
      (refine t_rem rfl rfl rfl rfl ?_; rw [hmod])
      refine t_indexD rfl rfl rfl (Int.natCast_nonneg _) hw rfl ?_
      refine t_loadDc rfl rfl rfl ?_
      refine t_build rfl rfl rfl rfl rfl ?_
      refine t_storeL rfl rfl rfl rfl rfl rfl ?_
      exact TL.nil rfl
    exact DC.ret ⟨_, rfl, .ctor s, g', rfl, rfl, .col hs, hmv⟩
end
end Go.Proofs
