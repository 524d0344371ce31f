/- Ways out, switches, automata. (Printed by gen_MkH.py.) -/
import Derived.Test.YtcmjcdiaidalgaaMkG
import Derived.Test.YtcmjcdiaidalgaaLibI
set_option linter.unusedVariables false
set_option linter.unusedSimpArgs false
set_option linter.unusedSectionVars false
namespace Go.Proofs
open Go.Mt Go.Mk
set_option maxRecDepth 4000
set_option linter.unusedSimpArgs false
set_option linter.unusedVariables false

instance : IsFn Try.prog 125 := isFn_of (by kernel_rfl)
instance : IsFn Try.prog 126 := isFn_of (by kernel_rfl)
instance : IsFn Try.prog 51 := isFn_of (by kernel_rfl)
instance : IsFn Try.prog 72 := isFn_of (by kernel_rfl)
theorem ScB.arm {s : Sc} (h : ScB s) : ScB s.arm := ⟨h.ready, Nat.zero_le _, h.lasts⟩
theorem Tr.len (t : Tr) : t.cells.length = 12 := by simp [Tr.cells, E.len]
theorem trsC_lens (l : List Tr) : ∀ r ∈ trsC l, r.length = 12 := by intro r hr; obtain ⟨_, _, rfl⟩ := List.mem_map.1 hr; exact Tr.len _
theorem trsC_len (l : List Tr) : (trsC l).length = l.length := by simp [trsC]
/-- what making does, and at most how many equations are taken -/
structure Bm (zs : List Int) (w : Int) (g g' : GS) : Prop where
  i : g.i ≤ g'.i
  le : g'.i ≤ zs.length
  n : g.n ≤ g'.n
  pay : g'.n ≤ 3 * g'.i
  q0 : min g.q 0 - w ≤ g'.q
  q1 : g'.q ≤ g.q
/-- at most how many equations a block takes -/
def qB : Nat → Int
  | 0 => 6
  | d + 1 => 6 * (1 + 3 * qB d)
theorem qB_le : ∀ d, d ≤ 3 → 0 ≤ qB d ∧ qB d ≤ 40000
  | 0, _ => by decide
  | 1, _ => by decide
  | 2, _ => by decide
  | 3, _ => by decide
  | d + 4, h => by omega
theorem qB_le2 : ∀ d, d ≤ 2 → 0 ≤ qB d ∧ qB d ≤ 4000
  | 0, _ => by decide
  | 1, _ => by decide
  | 2, _ => by decide
  | d + 3, h => by omega
def ws (W : Int) : Nat → Int
  | 0 => 0
  | i + 1 => ws W i + W
theorem ws_le {W : Int} (h : 0 ≤ W) : ∀ i, i ≤ 3 → 0 ≤ ws W i ∧ ws W i ≤ 3 * W
  | 0, _ => by simp only [ws]; omega
  | 1, _ => by simp only [ws]; omega
  | 2, _ => by simp only [ws]; omega
  | 3, _ => by simp only [ws]; omega
  | i + 4, h => by omega
/-- the tape's place in the heap stays -/
def Iv (H : Hp) : Prop := ∃ cs, H[1]? = some (.box cs) ∧ cs[0]? = some (.ref 0 0)
theorem iv_gen (v : D) (subs : Nat) (main : Bool) (g : GS) (n : Nat) (rs : List (List D)) : Iv (genH (GH v subs main g) n rs) := ⟨_, (genH_get _ _ _ 1 (Nat.le_refl _)).trans rfl, rfl⟩
/-- bounds of scopes -/
structure ScC (c : Nat) (s : Sc) : Prop where
  ready : s.ready.length ≤ c
  all : s.all.length ≤ 1000
  lasts : s.lasts.length ≤ c
theorem ScC.b {c : Nat} {s : Sc} (h : ScC c s) (hc : c ≤ 1000) : ScB s := ⟨by have := h.ready; omega, by have := h.all; omega, by have := h.lasts; omega⟩
theorem ScC.arm {c : Nat} {s : Sc} (h : ScC c s) : ScC c s.arm := ⟨h.ready, Nat.zero_le _, h.lasts⟩
section
variable (zs : List Int) (v : D) (subs : Nat) (main : Bool)
def BlockOk (d : Nat) : Prop := ∀ (s : Sc), ScC (800 - 200 * d) s → ∀ (outs : List Va), outs.length ≤ 3 → ∀ (g : GS), g.i ≤ zs.length → g.n ≤ 3 * g.i → g.q ≤ 14 → -200000 ≤ g.q →
  DT Try.prog 51 [.ref 1 0, .d (.agg s.cells), .d (.sl (vasC outs)), .d (.int .i64 ((d : Nat) : Int))] (GH v subs main g) fun r K => ∃ (b : Blk) (g' : GS), r = .d (.agg b.cells) ∧ K = GH v subs main g' ∧ GB subs d s outs g.n g'.n b ∧ Bm zs (qB d) g g'
end
section
variable {zs : List Int} {v : D} (ht : Tape zs v) (subs : Nat) (main : Bool)
include ht
theorem ways_dt (s : Sc) (hs : ScB s) (N : Nat) (hN : 1 ≤ N ∧ N ≤ 3) (g : GS) (hg : g.i ≤ zs.length) : DT Try.prog 126 [.ref 1 0, .d (.agg s.cells), .d (.int .i64 ((N : Nat) : Int))] (GH v subs main g) fun r K => ∃ (l : List Tr) (g' : GS), r = .d (.sl (trsC l)) ∧ K = GH v subs main g' ∧ Mv zs g g' ∧ GWays s N l := by
  obtain ⟨r0, K0, ⟨m, g0, rfl, rfl, hr⟩, hc0⟩ := next_dt ht subs main 3 (by omega) (by omega) g hg
  have hm3 := hr.lt
  have hm0 := hr.mv
  refine DT.drop 2 (Nat.le_refl _) ?_
  refine DT.of_body Try.func126 rfl Try.ntmps126 rfl ?_
  repeat refine DC.seq ?_
  apply DC.regionX
  · intro s0 Oo
    refine t_box rfl rfl ?_
    refine t_assign rfl rfl ?_
    exact TL.nil rfl
  repeat refine DC.seq ?_
  apply DC.regionX
  · intro s0 Oo
    refine t_assign rfl rfl ?_
    exact TL.nil rfl
  repeat refine DC.seq ?_
  apply DC.regionX
  · intro s0 Oo
    refine t_move rfl rfl ?_
    refine t_nilCheck rfl rfl rfl ?_
    refine t_fieldR rfl rfl ?_
    refine t_loadRc rfl rfl rfl rfl ?_
    refine t_callD hc0 rfl rfl ?_
    refine t_assign rfl rfl ?_
    exact TL.nil rfl
  repeat refine DC.seq ?_
  apply DC.regionX
  · intro s0 Oo
    refine t_assign rfl rfl ?_
    exact TL.nil rfl
  refine DC.rename [(9, .m (.d (.int .i64 ((0 : Nat) : Int)))), (8, .m (.d (.int .i64 ((m : Nat) : Int)))), (7, .m (genM 2 (trsC []))), (4, .m (.d (.pim s.cells 0))), (2, .m (.d (.int .i64 ((N : Nat) : Int)))), (0, .m (.ref 1 0))] (genH (GH v subs main g0) 12 (trsC [])) ⟨rfl, rfl, rfl, rfl, rfl, rfl, trivial⟩ rfl ?_
  repeat refine DC.seq ?_
  refine DC.block ?_
  refine DC.loop (fun k s1 => ∃ (i : Nat) (l : List Tr) (g' : GS), s1 = ⟨[(9, .m (.d (.int .i64 (i : Int)))), (8, .m (.d (.int .i64 ((m : Nat) : Int)))), (7, .m (genM 2 (trsC l))), (4, .m (.d (.pim s.cells 0))), (2, .m (.d (.int .i64 ((N : Nat) : Int)))), (0, .m (.ref 1 0))], [], genH (GH v subs main g') 12 (trsC l)⟩ ∧ i ≤ m ∧ l.length = i ∧ (∀ t ∈ l, GE s.arm .bool false 2 t.e ∧ ∃ k, k < N ∧ t.to = nm 83 k) ∧ Mv zs g g' ∧ k = m - i) m _
    ⟨0, [], g0, rfl, by omega, rfl, by simp, hm0, rfl⟩ ⟨rfl, rfl, rfl, rfl, rfl, rfl, trivial⟩ ?_
  rintro k s1 ⟨i, l, g1, rfl, hi, hll, hts, hm1, rfl⟩
  repeat refine DC.seq ?_
  apply DC.regionX
  · intro s0 Oo
    refine t_move rfl rfl ?_
    refine t_move rfl rfl ?_
    refine t_int rfl rfl rfl rfl ?_
    exact TL.nil rfl
  repeat refine DC.seq ?_
  refine DC.cond rfl (fun hc => ?_) (fun hc => ?_)
  · have hc' : i < m := by have := of_decide_eq_true hc; omega
    clear hc
    obtain ⟨r1, K1, ⟨e1, g2, rfl, rfl, hge, hm2⟩, hc1⟩ := expr_dt ht subs main 2 (by omega) s.arm hs.arm .bool false g1 hm1.le
    obtain ⟨k1, op1, n1, s1, a1, b1, h1⟩ := e1.shape
    rw [h1] at hc1
    obtain ⟨r2, K2, ⟨j, g3, rfl, rfl, hr3⟩, hc2⟩ := next_dt ht subs main N (by omega) (by omega) g2 hm2.le
    obtain ⟨r3, K3, ⟨j2, g4, rfl, rfl, hr4⟩, hc3⟩ := next_dt ht subs main 2 (by omega) (by omega) g3 hr3.le
    have hjl := hr3.lt
    have hd := digits_pt (j + 1) j (by omega) (by omega)
    have hds := dg_size j
    have q1 := genCall rfl hc1 12 (trsC l)
    have q2 := genCall rfl hc2 12 (trsC l)
    have q3 := genCall rfl hc3 12 (trsC l)
    have hv1 : trsC (l ++ [⟨e1, nm 83 j, ((j2 : Nat) : Int) == 0⟩]) = trsC l ++ [exC k1 op1 n1 s1 a1 b1 ++ [.str (⟨#[83]⟩ ++ dg j), .bool (((j2 : Nat) : Int) == 0), .int .i64 0, .int .i64 0]] := by
      simp only [trsC, List.map_append, List.map_cons, List.map_nil, Tr.cells, h1]; rfl
    refine DC.skip ?_
    repeat refine DC.seq ?_
    refine DC.block ?_
    repeat refine DC.seq ?_
    apply DC.drawI Iv (iv_gen _ _ _ _ _ _) mixed
    · intro s0 Oo
      apply TFI.lift
      · skip
        refine f_move rfl rfl ?_
        exact TF.nil ⟨rfl, rfl⟩
      apply TFI.lift
      · skip
        refine f_move rfl rfl ?_
        exact TF.nil ⟨rfl, rfl⟩
      apply TFI.lift
      · skip
        refine f_fieldD rfl rfl ?_
        exact TF.nil ⟨rfl, rfl⟩
      apply TFI.lift
      · skip
        refine f_loadDc rfl rfl rfl ?_
        exact TF.nil ⟨rfl, rfl⟩
      apply TFI.lift
      · skip
        refine f_fieldD rfl rfl ?_
        exact TF.nil ⟨rfl, rfl⟩
      apply TFI.lift
      · skip
        refine f_loadDc rfl rfl rfl ?_
        exact TF.nil ⟨rfl, rfl⟩
      apply TFI.lift
      · skip
        refine f_build rfl rfl rfl rfl rfl ?_
        exact TF.nil ⟨rfl, rfl⟩
      apply TFI.lift
      · skip
        refine f_call1 tBool_pt rfl rfl ?_
        exact TF.nil ⟨rfl, rfl⟩
      apply TFI.lift
      · skip
        refine f_callR q1 rfl rfl ?_
        exact TF.nil ⟨rfl, rfl⟩
      apply TFI.lift
      · skip
        refine f_move rfl rfl ?_
        exact TF.nil ⟨rfl, rfl⟩
      apply TFI.lift
      · skip
        refine f_nilCheck rfl rfl rfl ?_
        exact TF.nil ⟨rfl, rfl⟩
      apply TFI.lift
      · skip
        refine f_fieldR rfl rfl ?_
        exact TF.nil ⟨rfl, rfl⟩
      refine TFI.loadI rfl rfl (fun H h => h) ?_
      apply TFI.lift
      · skip
        refine f_move rfl rfl ?_
        exact TF.nil ⟨rfl, rfl⟩
      apply TFI.lift
      · skip
        refine f_callR q2 rfl rfl ?_
        exact TF.nil ⟨rfl, rfl⟩
      apply TFI.lift
      · skip
        refine f_call1 hd rfl rfl ?_
        exact TF.nil ⟨rfl, rfl⟩
      apply TFI.lift
      · skip
        refine f_stradd rfl rfl rfl (by have : (⟨#[83]⟩ : ByteArray).size = 1 := rfl; omega) ?_
        exact TF.nil ⟨rfl, rfl⟩
      apply TFI.lift
      · skip
        refine f_move rfl rfl ?_
        exact TF.nil ⟨rfl, rfl⟩
      apply TFI.lift
      · skip
        refine f_nilCheck rfl rfl rfl ?_
        exact TF.nil ⟨rfl, rfl⟩
      apply TFI.lift
      · skip
        refine f_fieldR rfl rfl ?_
        exact TF.nil ⟨rfl, rfl⟩
      refine TFI.loadI rfl rfl (fun H h => h) ?_
      apply TFI.lift
      · skip
        refine f_callR q3 rfl rfl ?_
        exact TF.nil ⟨rfl, rfl⟩
      apply TFI.lift
      · skip
        refine f_int rfl rfl rfl rfl ?_
        exact TF.nil ⟨rfl, rfl⟩
      apply TFI.lift
      · skip
        refine f_build rfl rfl rfl rfl rfl ?_
        exact TF.nil ⟨rfl, rfl⟩
      apply TFI.lift
      · skip
        refine f_buildSlice rfl rfl rfl rfl rfl rfl rfl rfl ?_
        exact TF.nil ⟨rfl, rfl⟩
      apply TFI.lift
      · skip
        refine f_snoc (H0 := GH v subs main g4) rfl rfl rfl rfl (by rfl) rfl (by rw [trsC_len]; omega) (by rw [trsC_len]; omega) ?_
        exact TF.nil ⟨rfl, rfl⟩
      apply TFI.lift
      · skip
        refine f_assign rfl rfl ?_
        exact TF.nil ⟨rfl, rfl⟩
      exact TFI.nil ⟨by kernel_rfl, by repeat' first | exact trivial | exact iv_gen _ _ _ _ _ _ | refine ⟨?_, ?_⟩, rfl⟩
    repeat refine DC.seq ?_
    apply DC.regionX
    · intro s0 Oo
      refine t_move rfl rfl ?_
      refine t_add64 rfl rfl rfl (by omega) ?_
      refine t_assign rfl rfl ?_
      exact TL.nil rfl
    exact againD (k' := m - (i + 1)) (by omega) ⟨i + 1, l ++ [⟨e1, nm 83 j, ((j2 : Nat) : Int) == 0⟩], g4, rfl, by omega, by simp [hll], by
      intro t htm
      rcases List.mem_append.1 htm with h | h
      · exact hts t h
      · simp at h; subst h; exact ⟨hge, j, hjl, rfl⟩, hm1.trans (hm2.trans (hr3.mv.trans hr4.mv)), rfl⟩ (by rw [hv1]; rfl) ⟨by simp; rfl, rfl, by rw [hv1]; rfl, rfl, rfl, rfl, trivial⟩
  · refine DC.exit ?_
    have hc' : i = m := by have := of_decide_eq_false hc; omega
    obtain ⟨e1, e2, e3⟩ := gh_end v subs main g1 12 (trsC l)
    repeat refine DC.seq ?_
    apply DC.regionX
    · intro s0 Oo
      refine t_move rfl rfl ?_
      refine t_assign rfl rfl ?_
      exact TL.nil rfl
    refine DC.viewSlot 6 rfl (gen_view (GH v subs main g1) 12 (trsC l) (trsC_lens l)) ?_
    exact DC.ret ⟨_, rfl, e1, .d _, e2, l, g1, rfl, e3, hm1, by omega, hts⟩
end

instance : IsFn Try.prog 100 := isFn_of (by kernel_rfl)
instance : IsFn Try.prog 101 := isFn_of (by kernel_rfl)
theorem viewAll_e {H : Hp} {d : D} {r ms : List M} (h2 : viewAll H r = some ms) : viewAll H (.d d :: r) = some (.d d :: ms) := by simp only [viewAll, viewV, h2]
theorem viewAll_m {H : Hp} {m : M} {d : D} {r ms : List M} (h : viewV H m = some d) (h2 : viewAll H r = some ms) : viewAll H (m :: r) = some (.d d :: ms) := by simp only [viewAll, h, h2]
theorem armsC_len (l : List Arm) : (armsC l).length = l.length := by rw [armsC_map]; simp
theorem armsC_lens (l : List Arm) : ∀ r ∈ armsC l, r.length = 7 := by rw [armsC_map]; intro r hr; obtain ⟨_, _, rfl⟩ := List.mem_map.1 hr; exact Arm.len _
theorem armsC_snoc (l : List Arm) (a : Arm) : armsC (l ++ [a]) = armsC l ++ [a.cells] := by rw [armsC_map, armsC_map]; simp
theorem viewAll_nil (H : Hp) : viewAll H [] = some [] := rfl
abbrev swC (k op n : Int) (s : Nm) (a b : List (List D)) (m : M) : List M := [.d (.int .u8 3), .d (.sl []), .d (.str ⟨#[]⟩), .d (.sl []), .d (.bool false), .d (.int .u8 k), .d (.int .u8 op), .d (.int .i32 n), .d (.str s), .d (.sl a), .d (.sl b), .d (.int .i64 0), .d (.int .i64 0), m, .d (.int .i64 0), .d (.int .i64 0)]
abbrev swZ : List M := [.d (.int .u8 0), .d (.sl []), .d (.str ⟨#[]⟩), .d (.sl []), .d (.bool false), .d (.int .u8 0), .d (.int .u8 0), .d (.int .i32 0), .d (.str ⟨#[]⟩), .d (.sl []), .d (.sl []), .d (.int .i64 0), .d (.int .i64 0), .d (.sl []), .d (.int .i64 0), .d (.int .i64 0)]
section
variable {zs : List Int} {v : D} (ht : Tape zs v) (subs : Nat) (main : Bool)
include ht
theorem choice_dt (d : Nat) (hd : d ≤ 2) (ihB : BlockOk zs v subs main d) (s : Sc) (hs : ScC (800 - 200 * d) s) (outs : List Va) (ho : outs.length ≤ 3) (g : GS) (hg : g.i ≤ zs.length) (hn : g.n ≤ 3 * g.i) (hq0 : 0 < g.q) (hq1 : g.q ≤ 14) :
    DT Try.prog 100 [.ref 1 0, .d (.agg s.cells), .d (.sl (vasC outs)), .d (.int .i64 ((d + 1 : Nat) : Int))] (GH v subs main g) fun r K => ∃ (q : Eqn) (g' : GS), r = .d (.agg q.cells) ∧ K = GH v subs main g' ∧ GQ (GB subs d) subs s outs g.n g'.n [q] [] ∧ Bm zs (3 * qB d) g g' := by
  obtain ⟨r0, K0, ⟨j, g0, rfl, rfl, hr⟩, hc0⟩ := next_dt ht subs main 2 (by omega) (by omega) g hg
  have hj := hr.lt
  have hm0 := hr.mv
  have hsb := hs.b (by omega)
  have hW := qB_le2 d hd
  have hdd : ((d + 1 : Nat) : Int) - 1 = (d : Int) := by omega
  have hdb : (d : Int) ≤ 2 := by omega
  have hcases : j = 0 ∨ j = 1 := by omega
  rcases hcases with rfl | rfl
  · obtain ⟨r1, K1, ⟨e1, g1, rfl, rfl, hge, hm1⟩, hc1⟩ := expr_dt ht subs main 2 (by omega) s hsb .col true g0 hm0.le
    obtain ⟨k1, op1, n1, s1, a1, b1, h1⟩ := e1.shape
    rw [h1] at hc1
    have hm01 := hm0.trans hm1
    refine DT.drop 2 (Nat.le_refl _) ?_
    refine DT.of_body Try.func100 rfl Try.ntmps100 rfl ?_
    repeat refine DC.seq ?_
    apply DC.regionX
    · intro s0 Oo
      refine t_box rfl rfl ?_
      refine t_alloc rfl rfl ?_
      exact TL.nil rfl
    repeat refine DC.seq ?_
    apply DC.regionX
    · intro s0 Oo
      refine t_build rfl rfl rfl rfl rfl ?_
      refine t_alloc rfl rfl ?_
      refine t_storeL rfl rfl rfl rfl rfl rfl ?_
      exact TL.nil rfl
    repeat refine DC.seq ?_
    apply DC.regionX
    · intro s0 Oo
      refine t_buildSlice rfl rfl rfl rfl rfl rfl rfl rfl ?_
      refine t_assign rfl rfl ?_
      exact TL.nil rfl
    repeat refine DC.seq ?_
    apply DC.regionX
    · intro s0 Oo
      refine t_move rfl rfl ?_
      refine t_nilCheck rfl rfl rfl ?_
      refine t_fieldR rfl rfl ?_
      refine t_loadRc rfl rfl rfl rfl ?_
      refine t_callD hc0 rfl rfl ?_
      refine t_int rfl rfl rfl rfl ?_
      exact TL.nil rfl
    repeat refine DC.seq ?_
    refine DC.cond rfl (fun hc => ?_) (fun hc => by cases hc)
    repeat refine DC.seq ?_
    apply DC.regionX
    · intro s0 Oo
      refine t_buildSlice rfl rfl rfl rfl rfl rfl rfl rfl ?_
      refine t_assign rfl rfl ?_
      exact TL.nil rfl
    repeat refine DC.seq ?_
    apply DC.drawX mixed
    · intro s0 Oo
      refine f_move rfl rfl ?_
      refine f_loadDw rfl rfl rfl ?_
      refine f_call1 tCol_pt rfl rfl ?_
      refine f_callR hc1 rfl rfl ?_
      refine f_fieldL rfl rfl ?_
      refine f_storeL rfl rfl rfl rfl rfl rfl ?_
      exact TF.nil ⟨by kernel_rfl, rfl⟩
    repeat refine DC.seq ?_
    apply DC.regionX
    · intro s0 Oo
      refine t_assign rfl rfl ?_
      exact TL.nil rfl
    refine DC.renameB [(11, .m (.d (.int .i64 ((0 : Nat) : Int)))), (10, .m (.d (.sl [[D.str blueN], [.str redN], [.str greenN]]))), (9, .loc 9 0), (8, .loc 8 0), (5, .m (.d (.pim s.cells 0))), (3, .m (.d (.int .i64 ((d + 1 : Nat) : Int)))), (2, .m (.d (.sl (vasC outs)))), (0, .m (.ref 1 0))]
      [(9, swC k1 op1 n1 s1 a1 b1 (genM 2 (armsC []))), (8, swZ)] (genH (GH v subs main g1) 7 (armsC [])) ⟨rfl, rfl, rfl, rfl, rfl, rfl, rfl, rfl, trivial⟩ (by intro t; simp only [Go.Mt.get]; cases Nat.beq 9 t <;> cases Nat.beq 8 t <;> rfl) rfl ?_
    repeat refine DC.seq ?_
    refine DC.block ?_
    refine DC.loop (fun k s2 => ∃ (i : Nat) (arms : List Arm) (g' : GS), s2 = ⟨[(11, .m (.d (.int .i64 (i : Int)))), (10, .m (.d (.sl [[D.str blueN], [.str redN], [.str greenN]]))), (9, .loc 9 0), (8, .loc 8 0), (5, .m (.d (.pim s.cells 0))), (3, .m (.d (.int .i64 ((d + 1 : Nat) : Int)))), (2, .m (.d (.sl (vasC outs)))), (0, .m (.ref 1 0))], [(9, swC k1 op1 n1 s1 a1 b1 (genM 2 (armsC arms))), (8, swZ)], genH (GH v subs main g') 7 (armsC arms)⟩ ∧ i ≤ 3 ∧ arms.length = i ∧ GArms (GB subs d) s outs [blueN, redN, greenN] g.n arms g'.n ∧ (g.i ≤ g'.i ∧ g'.i ≤ zs.length ∧ g.n ≤ g'.n ∧ g'.n ≤ 3 * g'.i ∧ -(ws (qB d) i) ≤ g'.q ∧ g'.q ≤ g.q) ∧ k = 3 - i) 3 _
      ⟨0, [], g1, rfl, by omega, rfl, by have h := hm01.n; rw [h]; exact .nil, ⟨hm01.i, hm01.le, by rw [hm01.n]; exact Nat.le_refl _, by have := hm01.n; have := hm01.i; omega, by have := hm01.q; simp only [ws]; omega, by rw [hm01.q]; exact Int.le_refl _⟩, rfl⟩ ⟨rfl, rfl, rfl, rfl, rfl, rfl, rfl, rfl, trivial⟩ ?_
    rintro k s2 ⟨i, arms, g2, rfl, hi, hal, hga, ⟨b1', b2, b3, b4, b5, b6⟩, rfl⟩
    repeat refine DC.seq ?_
    apply DC.regionX
    · intro s0 Oo
      refine t_move rfl rfl ?_
      refine t_move rfl rfl ?_
      refine t_lenS rfl rfl rfl ?_
      refine t_int rfl rfl rfl rfl ?_
      exact TL.nil rfl
    repeat refine DC.seq ?_
    refine DC.cond rfl (fun hc => ?_) (fun hc => ?_)
    · have hc' : i < 3 := by have h2 : decide ((i : Int) < (3 : Nat)) = true := hc; have := of_decide_eq_true h2; omega
      clear hc
      have hnm : ∃ c : Nm, ([blueN, redN, greenN] : List Nm)[i]? = some c ∧ ([[D.str blueN], [.str redN], [.str greenN]] : List (List D))[((i : Nat) : Int).toNat]? = some [.str c] := by
        have : i = 0 ∨ i = 1 ∨ i = 2 := by omega
        rcases this with rfl | rfl | rfl
        · exact ⟨_, rfl, rfl⟩
        · exact ⟨_, rfl, rfl⟩
        · exact ⟨_, rfl, rfl⟩
      obtain ⟨c, hcn, hcd⟩ := hnm
      have hws := ws_le hW.1 i (by omega)
      have hdl : decide ((i : Int) > 0) = decide (0 < i) := by rw [decide_eq_decide]; omega
      refine DC.skip ?_
      repeat refine DC.seq ?_
      refine DC.block ?_
      rcases Nat.eq_zero_or_pos i with h0 | h0
      · obtain ⟨r3, K3, ⟨b, g3, rfl, rfl, hgb, hbm⟩, hc3⟩ := ihB s.arm hs.arm outs ho g2 b2 b4 (by omega) (by omega)
        obtain ⟨bv, bq, hb⟩ := b.shape
        have hcb := genCall (by rfl) hc3 7 (armsC arms)
        rw [hb] at hcb
        have hv1 : armsC (arms ++ [.mk c b [] []]) = armsC arms ++ [[.str c, .sl bv, .sl bq, .sl [], .sl [], .int .i64 0, .int .i64 0]] := by rw [armsC_snoc, Arm.cells, hb]; rfl
        repeat refine DC.seq ?_
        apply DC.regionX
        · intro s0 Oo
          refine t_move rfl rfl ?_
          refine t_assign rfl rfl ?_
          exact TL.nil rfl
        repeat refine DC.seq ?_
        apply DC.regionX
        · intro s0 Oo
          refine t_move rfl rfl ?_
          (refine t_int rfl rfl rfl (r := .bool false) (by show some (D.bool (decide _)) = _; rw [hdl, decide_eq_false (by omega)]) ?_)
          exact TL.nil rfl
        repeat refine DC.seq ?_
        refine DC.cond rfl (fun hc => by cases hc) (fun hc => ?_)
        refine DC.skip ?_
        repeat refine DC.seq ?_
        apply DC.drawX mixed
        · intro s0 Oo
          refine f_fieldL rfl rfl ?_
          refine f_loadLc rfl rfl rfl rfl ?_
          refine f_move rfl rfl ?_
          refine f_move rfl rfl ?_
          refine f_indexD rfl rfl rfl (Int.natCast_nonneg i) hcd rfl ?_
          refine f_loadDc rfl rfl rfl ?_
          refine f_move rfl rfl ?_
          refine f_fieldD rfl rfl ?_
          refine f_loadDc rfl rfl rfl ?_
          refine f_fieldD rfl rfl ?_
          refine f_loadDc rfl rfl rfl ?_
          refine f_build rfl rfl rfl rfl rfl ?_
          refine f_move rfl rfl ?_
          refine f_move rfl rfl ?_
          (refine f_sub64 rfl rfl rfl (by omega) ?_; rw [hdd])
          refine f_callR hcb rfl rfl ?_
          refine f_build rfl rfl rfl rfl rfl ?_
          refine f_buildSlice rfl rfl rfl rfl rfl rfl rfl rfl ?_
          refine f_snoc (H0 := GH v subs main g3) rfl rfl rfl rfl (by rfl) rfl (by rw [armsC_len]; omega) (by rw [armsC_len]; omega) ?_
          refine f_fieldL rfl rfl ?_
          refine f_storeL rfl rfl rfl (cells_gen _ _) rfl rfl ?_
          exact TF.nil ⟨by kernel_rfl, rfl⟩
        repeat refine DC.seq ?_
        apply DC.regionX
        · intro s0 Oo
          refine t_move rfl rfl ?_
          refine t_add64 rfl rfl rfl (by omega) ?_
          refine t_assign rfl rfl ?_
          exact TL.nil rfl
        exact againB (k' := 3 - (i + 1)) (by omega) ⟨i + 1, arms ++ [.mk c b [] []], g3, rfl, by omega, by simp [hal], .snoc hga c (by rw [hal]; exact hcn) outs (LS.refl _) (fun _ => rfl) b hgb, ⟨by have := hbm.i; omega, hbm.le, by have := hbm.n; omega, hbm.pay, by have := hbm.q0; simp only [ws]; omega, by have := hbm.q1; omega⟩, rfl⟩ (by intro t; simp only [Go.Mt.get]; rw [hv1]; cases Nat.beq 9 t <;> cases Nat.beq 8 t <;> rfl) (by rw [hv1]; rfl) ⟨by simp; rfl, rfl, rfl, rfl, rfl, rfl, rfl, rfl, trivial⟩
      · obtain ⟨r4, K4, ⟨l, g4, rfl, rfl, hm4, hls⟩, hc4⟩ := less_dt ht subs main outs (by omega) g2 b2
        have hll := hls.len
        have hcl := genCall (by rfl) hc4 7 (armsC arms)
        obtain ⟨r3, K3, ⟨b, g3, rfl, rfl, hgb, hbm⟩, hc3⟩ := ihB s.arm hs.arm l (by omega) g4 hm4.le (by have := hm4.n; have := hm4.i; omega) (by have := hm4.q; omega) (by have := hm4.q; omega)
        obtain ⟨bv, bq, hb⟩ := b.shape
        have hcb := genCall (by rfl) hc3 7 (armsC arms)
        rw [hb] at hcb
        have hv1 : armsC (arms ++ [.mk c b [] []]) = armsC arms ++ [[.str c, .sl bv, .sl bq, .sl [], .sl [], .int .i64 0, .int .i64 0]] := by rw [armsC_snoc, Arm.cells, hb]; rfl
        repeat refine DC.seq ?_
        apply DC.regionX
        · intro s0 Oo
          refine t_move rfl rfl ?_
          refine t_assign rfl rfl ?_
          exact TL.nil rfl
        repeat refine DC.seq ?_
        apply DC.regionX
        · intro s0 Oo
          refine t_move rfl rfl ?_
          (refine t_int rfl rfl rfl (r := .bool true) (by show some (D.bool (decide _)) = _; rw [hdl, decide_eq_true (by omega)]) ?_)
          exact TL.nil rfl
        repeat refine DC.seq ?_
        refine DC.cond rfl (fun hc => ?_) (fun hc => by cases hc)
        repeat refine DC.seq ?_
        apply DC.regionX
        · intro s0 Oo
          refine t_move rfl rfl ?_
          refine t_move rfl rfl ?_
          refine t_callD hcl rfl rfl ?_
          refine t_assign rfl rfl ?_
          exact TL.nil rfl
        repeat refine DC.seq ?_
        apply DC.drawX mixed
        · intro s0 Oo
          refine f_fieldL rfl rfl ?_
          refine f_loadLc rfl rfl rfl rfl ?_
          refine f_move rfl rfl ?_
          refine f_move rfl rfl ?_
          refine f_indexD rfl rfl rfl (Int.natCast_nonneg i) hcd rfl ?_
          refine f_loadDc rfl rfl rfl ?_
          refine f_move rfl rfl ?_
          refine f_fieldD rfl rfl ?_
          refine f_loadDc rfl rfl rfl ?_
          refine f_fieldD rfl rfl ?_
          refine f_loadDc rfl rfl rfl ?_
          refine f_build rfl rfl rfl rfl rfl ?_
          refine f_move rfl rfl ?_
          refine f_move rfl rfl ?_
          (refine f_sub64 rfl rfl rfl (by omega) ?_; rw [hdd])
          refine f_callR hcb rfl rfl ?_
          refine f_build rfl rfl rfl rfl rfl ?_
          refine f_buildSlice rfl rfl rfl rfl rfl rfl rfl rfl ?_
          refine f_snoc (H0 := GH v subs main g3) rfl rfl rfl rfl (by rfl) rfl (by rw [armsC_len]; omega) (by rw [armsC_len]; omega) ?_
          refine f_fieldL rfl rfl ?_
          refine f_storeL rfl rfl rfl (cells_gen _ _) rfl rfl ?_
          exact TF.nil ⟨by kernel_rfl, rfl⟩
        repeat refine DC.seq ?_
        apply DC.regionX
        · intro s0 Oo
          refine t_move rfl rfl ?_
          refine t_add64 rfl rfl rfl (by omega) ?_
          refine t_assign rfl rfl ?_
          exact TL.nil rfl
        exact againB (k' := 3 - (i + 1)) (by omega) ⟨i + 1, arms ++ [.mk c b [] []], g3, rfl, by omega, by simp [hal], .snoc hga c (by rw [hal]; exact hcn) l hls (fun h => by subst h; simp at hal; omega) b (by rw [← hm4.n]; exact hgb), ⟨by have := hbm.i; have := hm4.i; omega, hbm.le, by have := hbm.n; have := hm4.n; omega, hbm.pay, by have := hbm.q0; have := hm4.q; simp only [ws]; omega, by have := hbm.q1; have := hm4.q; omega⟩, rfl⟩ (by intro t; simp only [Go.Mt.get]; rw [hv1]; cases Nat.beq 9 t <;> cases Nat.beq 8 t <;> rfl) (by rw [hv1]; rfl) ⟨by simp; rfl, rfl, rfl, rfl, rfl, rfl, rfl, rfl, trivial⟩
    · refine DC.exit ?_
      have hc' : i = 3 := by have h2 : decide ((i : Int) < (3 : Nat)) = false := hc; have := of_decide_eq_false h2; omega
      subst hc'
      obtain ⟨e1', e2, e3⟩ := gh_end v subs main g2 7 (armsC arms)
      refine DC.viewBox (cs' := swC k1 op1 n1 s1 a1 b1 (.d (.sl (armsC arms)))) 9 rfl (by repeat' first | exact viewAll_nil _ | refine viewAll_e ?_ | refine viewAll_m (gen_view (GH v subs main g2) 7 (armsC arms) (armsC_lens arms)) ?_) ?_
      repeat refine DC.seq ?_
      apply DC.regionX
      · intro s0 Oo
        refine t_loadLa rfl rfl rfl rfl rfl ?_
        refine t_storeL rfl rfl rfl rfl rfl rfl ?_
        exact TL.nil rfl
      have hws := ws_le hW.1 3 (by omega)
      exact DC.ret ⟨_, rfl, e1', .d _, e2, .sw e1 arms, g2, by rw [Eqn.cells, h1]; rfl, e3, .swCol hge hga hal, ⟨b1', b2, b3, b4, by omega, b6⟩⟩
  · obtain ⟨r1, K1, ⟨e1, g1, rfl, rfl, hge, hm1⟩, hc1⟩ := expr_dt ht subs main 2 (by omega) s hsb .bool true g0 hm0.le
    obtain ⟨k1, op1, n1, s1, a1, b1, h1⟩ := e1.shape
    rw [h1] at hc1
    have hm01 := hm0.trans hm1
    refine DT.drop 2 (Nat.le_refl _) ?_
    refine DT.of_body Try.func100 rfl Try.ntmps100 rfl ?_
    repeat refine DC.seq ?_
    apply DC.regionX
    · intro s0 Oo
      refine t_box rfl rfl ?_
      refine t_alloc rfl rfl ?_
      exact TL.nil rfl
    repeat refine DC.seq ?_
    apply DC.regionX
    · intro s0 Oo
      refine t_build rfl rfl rfl rfl rfl ?_
      refine t_alloc rfl rfl ?_
      refine t_storeL rfl rfl rfl rfl rfl rfl ?_
      exact TL.nil rfl
    repeat refine DC.seq ?_
    apply DC.regionX
    · intro s0 Oo
      refine t_buildSlice rfl rfl rfl rfl rfl rfl rfl rfl ?_
      refine t_assign rfl rfl ?_
      exact TL.nil rfl
    repeat refine DC.seq ?_
    apply DC.regionX
    · intro s0 Oo
      refine t_move rfl rfl ?_
      refine t_nilCheck rfl rfl rfl ?_
      refine t_fieldR rfl rfl ?_
      refine t_loadRc rfl rfl rfl rfl ?_
      refine t_callD hc0 rfl rfl ?_
      refine t_int rfl rfl rfl rfl ?_
      exact TL.nil rfl
    repeat refine DC.seq ?_
    refine DC.cond rfl (fun hc => by cases hc) (fun hc => ?_)
    repeat refine DC.seq ?_
    apply DC.drawX mixed
    · intro s0 Oo
      refine f_move rfl rfl ?_
      refine f_loadDw rfl rfl rfl ?_
      refine f_call1 tBool_pt rfl rfl ?_
      refine f_callR hc1 rfl rfl ?_
      refine f_fieldL rfl rfl ?_
      refine f_storeL rfl rfl rfl rfl rfl rfl ?_
      exact TF.nil ⟨by kernel_rfl, rfl⟩
    repeat refine DC.seq ?_
    apply DC.regionX
    · intro s0 Oo
      refine t_assign rfl rfl ?_
      exact TL.nil rfl
    refine DC.renameB [(11, .m (.d (.int .i64 ((0 : Nat) : Int)))), (10, .m (.d (.sl [[D.str trueN], [.str falseN]]))), (9, .loc 9 0), (8, .loc 8 0), (5, .m (.d (.pim s.cells 0))), (3, .m (.d (.int .i64 ((d + 1 : Nat) : Int)))), (2, .m (.d (.sl (vasC outs)))), (0, .m (.ref 1 0))]
      [(9, swC k1 op1 n1 s1 a1 b1 (genM 2 (armsC []))), (8, swZ)] (genH (GH v subs main g1) 7 (armsC [])) ⟨rfl, rfl, rfl, rfl, rfl, rfl, rfl, rfl, trivial⟩ (by intro t; simp only [Go.Mt.get]; cases Nat.beq 9 t <;> cases Nat.beq 8 t <;> rfl) rfl ?_
    repeat refine DC.seq ?_
    refine DC.block ?_
    refine DC.loop (fun k s2 => ∃ (i : Nat) (arms : List Arm) (g' : GS), s2 = ⟨[(11, .m (.d (.int .i64 (i : Int)))), (10, .m (.d (.sl [[D.str trueN], [.str falseN]]))), (9, .loc 9 0), (8, .loc 8 0), (5, .m (.d (.pim s.cells 0))), (3, .m (.d (.int .i64 ((d + 1 : Nat) : Int)))), (2, .m (.d (.sl (vasC outs)))), (0, .m (.ref 1 0))], [(9, swC k1 op1 n1 s1 a1 b1 (genM 2 (armsC arms))), (8, swZ)], genH (GH v subs main g') 7 (armsC arms)⟩ ∧ i ≤ 2 ∧ arms.length = i ∧ GArms (GB subs d) s outs [trueN, falseN] g.n arms g'.n ∧ (g.i ≤ g'.i ∧ g'.i ≤ zs.length ∧ g.n ≤ g'.n ∧ g'.n ≤ 3 * g'.i ∧ -(ws (qB d) i) ≤ g'.q ∧ g'.q ≤ g.q) ∧ k = 2 - i) 2 _
      ⟨0, [], g1, rfl, by omega, rfl, by have h := hm01.n; rw [h]; exact .nil, ⟨hm01.i, hm01.le, by rw [hm01.n]; exact Nat.le_refl _, by have := hm01.n; have := hm01.i; omega, by have := hm01.q; simp only [ws]; omega, by rw [hm01.q]; exact Int.le_refl _⟩, rfl⟩ ⟨rfl, rfl, rfl, rfl, rfl, rfl, rfl, rfl, trivial⟩ ?_
    rintro k s2 ⟨i, arms, g2, rfl, hi, hal, hga, ⟨b1', b2, b3, b4, b5, b6⟩, rfl⟩
    repeat refine DC.seq ?_
    apply DC.regionX
    · intro s0 Oo
      refine t_move rfl rfl ?_
      refine t_move rfl rfl ?_
      refine t_lenS rfl rfl rfl ?_
      refine t_int rfl rfl rfl rfl ?_
      exact TL.nil rfl
    repeat refine DC.seq ?_
    refine DC.cond rfl (fun hc => ?_) (fun hc => ?_)
    · have hc' : i < 2 := by have h2 : decide ((i : Int) < (2 : Nat)) = true := hc; have := of_decide_eq_true h2; omega
      clear hc
      have hnm : ∃ c : Nm, ([trueN, falseN] : List Nm)[i]? = some c ∧ ([[D.str trueN], [.str falseN]] : List (List D))[((i : Nat) : Int).toNat]? = some [.str c] := by
        have : i = 0 ∨ i = 1 := by omega
        rcases this with rfl | rfl
        · exact ⟨_, rfl, rfl⟩
        · exact ⟨_, rfl, rfl⟩
      obtain ⟨c, hcn, hcd⟩ := hnm
      have hws := ws_le hW.1 i (by omega)
      have hdl : decide ((i : Int) > 0) = decide (0 < i) := by rw [decide_eq_decide]; omega
      refine DC.skip ?_
      repeat refine DC.seq ?_
      refine DC.block ?_
      rcases Nat.eq_zero_or_pos i with h0 | h0
      · obtain ⟨r3, K3, ⟨b, g3, rfl, rfl, hgb, hbm⟩, hc3⟩ := ihB s.arm hs.arm outs ho g2 b2 b4 (by omega) (by omega)
        obtain ⟨bv, bq, hb⟩ := b.shape
        have hcb := genCall (by rfl) hc3 7 (armsC arms)
        rw [hb] at hcb
        have hv1 : armsC (arms ++ [.mk c b [] []]) = armsC arms ++ [[.str c, .sl bv, .sl bq, .sl [], .sl [], .int .i64 0, .int .i64 0]] := by rw [armsC_snoc, Arm.cells, hb]; rfl
        repeat refine DC.seq ?_
        apply DC.regionX
        · intro s0 Oo
          refine t_move rfl rfl ?_
          refine t_assign rfl rfl ?_
          exact TL.nil rfl
        repeat refine DC.seq ?_
        apply DC.regionX
        · intro s0 Oo
          refine t_move rfl rfl ?_
          (refine t_int rfl rfl rfl (r := .bool false) (by show some (D.bool (decide _)) = _; rw [hdl, decide_eq_false (by omega)]) ?_)
          exact TL.nil rfl
        repeat refine DC.seq ?_
        refine DC.cond rfl (fun hc => by cases hc) (fun hc => ?_)
        refine DC.skip ?_
        repeat refine DC.seq ?_
        apply DC.drawX mixed
        · intro s0 Oo
          refine f_fieldL rfl rfl ?_
          refine f_loadLc rfl rfl rfl rfl ?_
          refine f_move rfl rfl ?_
          refine f_move rfl rfl ?_
          refine f_indexD rfl rfl rfl (Int.natCast_nonneg i) hcd rfl ?_
          refine f_loadDc rfl rfl rfl ?_
          refine f_move rfl rfl ?_
          refine f_fieldD rfl rfl ?_
          refine f_loadDc rfl rfl rfl ?_
          refine f_fieldD rfl rfl ?_
          refine f_loadDc rfl rfl rfl ?_
          refine f_build rfl rfl rfl rfl rfl ?_
          refine f_move rfl rfl ?_
          refine f_move rfl rfl ?_
          (refine f_sub64 rfl rfl rfl (by omega) ?_; rw [hdd])
          refine f_callR hcb rfl rfl ?_
          refine f_build rfl rfl rfl rfl rfl ?_
          refine f_buildSlice rfl rfl rfl rfl rfl rfl rfl rfl ?_
          refine f_snoc (H0 := GH v subs main g3) rfl rfl rfl rfl (by rfl) rfl (by rw [armsC_len]; omega) (by rw [armsC_len]; omega) ?_
          refine f_fieldL rfl rfl ?_
          refine f_storeL rfl rfl rfl (cells_gen _ _) rfl rfl ?_
          exact TF.nil ⟨by kernel_rfl, rfl⟩
        repeat refine DC.seq ?_
        apply DC.regionX
        · intro s0 Oo
          refine t_move rfl rfl ?_
          refine t_add64 rfl rfl rfl (by omega) ?_
          refine t_assign rfl rfl ?_
          exact TL.nil rfl
        exact againB (k' := 2 - (i + 1)) (by omega) ⟨i + 1, arms ++ [.mk c b [] []], g3, rfl, by omega, by simp [hal], .snoc hga c (by rw [hal]; exact hcn) outs (LS.refl _) (fun _ => rfl) b hgb, ⟨by have := hbm.i; omega, hbm.le, by have := hbm.n; omega, hbm.pay, by have := hbm.q0; simp only [ws]; omega, by have := hbm.q1; omega⟩, rfl⟩ (by intro t; simp only [Go.Mt.get]; rw [hv1]; cases Nat.beq 9 t <;> cases Nat.beq 8 t <;> rfl) (by rw [hv1]; rfl) ⟨by simp; rfl, rfl, rfl, rfl, rfl, rfl, rfl, rfl, trivial⟩
      · obtain ⟨r4, K4, ⟨l, g4, rfl, rfl, hm4, hls⟩, hc4⟩ := less_dt ht subs main outs (by omega) g2 b2
        have hll := hls.len
        have hcl := genCall (by rfl) hc4 7 (armsC arms)
        obtain ⟨r3, K3, ⟨b, g3, rfl, rfl, hgb, hbm⟩, hc3⟩ := ihB s.arm hs.arm l (by omega) g4 hm4.le (by have := hm4.n; have := hm4.i; omega) (by have := hm4.q; omega) (by have := hm4.q; omega)
        obtain ⟨bv, bq, hb⟩ := b.shape
        have hcb := genCall (by rfl) hc3 7 (armsC arms)
        rw [hb] at hcb
        have hv1 : armsC (arms ++ [.mk c b [] []]) = armsC arms ++ [[.str c, .sl bv, .sl bq, .sl [], .sl [], .int .i64 0, .int .i64 0]] := by rw [armsC_snoc, Arm.cells, hb]; rfl
        repeat refine DC.seq ?_
        apply DC.regionX
        · intro s0 Oo
          refine t_move rfl rfl ?_
          refine t_assign rfl rfl ?_
          exact TL.nil rfl
        repeat refine DC.seq ?_
        apply DC.regionX
        · intro s0 Oo
          refine t_move rfl rfl ?_
          (refine t_int rfl rfl rfl (r := .bool true) (by show some (D.bool (decide _)) = _; rw [hdl, decide_eq_true (by omega)]) ?_)
          exact TL.nil rfl
        repeat refine DC.seq ?_
        refine DC.cond rfl (fun hc => ?_) (fun hc => by cases hc)
        repeat refine DC.seq ?_
        apply DC.regionX
        · intro s0 Oo
          refine t_move rfl rfl ?_
          refine t_move rfl rfl ?_
          refine t_callD hcl rfl rfl ?_
          refine t_assign rfl rfl ?_
          exact TL.nil rfl
        repeat refine DC.seq ?_
        apply DC.drawX mixed
        · intro s0 Oo
          refine f_fieldL rfl rfl ?_
          refine f_loadLc rfl rfl rfl rfl ?_
          refine f_move rfl rfl ?_
          refine f_move rfl rfl ?_
          refine f_indexD rfl rfl rfl (Int.natCast_nonneg i) hcd rfl ?_
          refine f_loadDc rfl rfl rfl ?_
          refine f_move rfl rfl ?_
          refine f_fieldD rfl rfl ?_
          refine f_loadDc rfl rfl rfl ?_
          refine f_fieldD rfl rfl ?_
          refine f_loadDc rfl rfl rfl ?_
          refine f_build rfl rfl rfl rfl rfl ?_
          refine f_move rfl rfl ?_
          refine f_move rfl rfl ?_
          (refine f_sub64 rfl rfl rfl (by omega) ?_; rw [hdd])
          refine f_callR hcb rfl rfl ?_
          refine f_build rfl rfl rfl rfl rfl ?_
          refine f_buildSlice rfl rfl rfl rfl rfl rfl rfl rfl ?_
          refine f_snoc (H0 := GH v subs main g3) rfl rfl rfl rfl (by rfl) rfl (by rw [armsC_len]; omega) (by rw [armsC_len]; omega) ?_
          refine f_fieldL rfl rfl ?_
          refine f_storeL rfl rfl rfl (cells_gen _ _) rfl rfl ?_
          exact TF.nil ⟨by kernel_rfl, rfl⟩
        repeat refine DC.seq ?_
        apply DC.regionX
        · intro s0 Oo
          refine t_move rfl rfl ?_
          refine t_add64 rfl rfl rfl (by omega) ?_
          refine t_assign rfl rfl ?_
          exact TL.nil rfl
        exact againB (k' := 2 - (i + 1)) (by omega) ⟨i + 1, arms ++ [.mk c b [] []], g3, rfl, by omega, by simp [hal], .snoc hga c (by rw [hal]; exact hcn) l hls (fun h => by subst h; simp at hal; omega) b (by rw [← hm4.n]; exact hgb), ⟨by have := hbm.i; have := hm4.i; omega, hbm.le, by have := hbm.n; have := hm4.n; omega, hbm.pay, by have := hbm.q0; have := hm4.q; simp only [ws]; omega, by have := hbm.q1; have := hm4.q; omega⟩, rfl⟩ (by intro t; simp only [Go.Mt.get]; rw [hv1]; cases Nat.beq 9 t <;> cases Nat.beq 8 t <;> rfl) (by rw [hv1]; rfl) ⟨by simp; rfl, rfl, rfl, rfl, rfl, rfl, rfl, rfl, trivial⟩
    · refine DC.exit ?_
      have hc' : i = 2 := by have h2 : decide ((i : Int) < (2 : Nat)) = false := hc; have := of_decide_eq_false h2; omega
      subst hc'
      obtain ⟨e1', e2, e3⟩ := gh_end v subs main g2 7 (armsC arms)
      refine DC.viewBox (cs' := swC k1 op1 n1 s1 a1 b1 (.d (.sl (armsC arms)))) 9 rfl (by repeat' first | exact viewAll_nil _ | refine viewAll_e ?_ | refine viewAll_m (gen_view (GH v subs main g2) 7 (armsC arms) (armsC_lens arms)) ?_) ?_
      repeat refine DC.seq ?_
      apply DC.regionX
      · intro s0 Oo
        refine t_loadLa rfl rfl rfl rfl rfl ?_
        refine t_storeL rfl rfl rfl rfl rfl rfl ?_
        exact TL.nil rfl
      have hws := ws_le hW.1 2 (by omega)
      exact DC.ret ⟨_, rfl, e1', .d _, e2, .sw e1 arms, g2, by rw [Eqn.cells, h1]; rfl, e3, .swBool hge hga hal, ⟨b1', b2, b3, b4, by omega, b6⟩⟩
end
end Go.Proofs
