/- Programs that are made. (Printed by gen_MkQ.py.) -/
import Derived.Test.YtcmjcdiaidalgaaMkP
set_option linter.unusedVariables false
set_option linter.unusedSimpArgs false
set_option linter.unusedSectionVars false
namespace Go.Proofs
open Go.Mt Go.Mk
set_option maxRecDepth 4000
set_option linter.unusedSimpArgs false
set_option linter.unusedVariables false

instance : IsFn Try.prog 33 := isFn_of (by kernel_rfl)
theorem Nd_len (n : Nd) : n.cells.length = 7 := by
  obtain ⟨v, q, h⟩ := n.b.shape
  rw [Nd.cells, h]; rfl
theorem ndsC_len (l : List Nd) : (ndsC l).length = l.length := by simp [ndsC]
theorem ndsC_lens (l : List Nd) : ∀ r ∈ ndsC l, r.length = 7 := by intro r hr; obtain ⟨_, _, rfl⟩ := List.mem_map.1 hr; exact Nd_len _
theorem list7 {l : List D} (h : l.length = 7) : ∃ a0 a1 a2 a3 a4 a5 a6, l = [a0, a1, a2, a3, a4, a5, a6] := by
  match l, h with
  | [a0, a1, a2, a3, a4, a5, a6], _ => exact ⟨_, _, _, _, _, _, _, rfl⟩
section
variable {zs : List Int} {v : D} (ht : Tape zs v)
include ht
/-- a node, its maker lying at the end of the heap -/
theorem node_at (subs : Nat) (main : Bool) (hs : subs ≤ 10) (i0 : Nat) (hi0 : i0 ≤ zs.length) (H : Hp) (h0 : H[0]? = some (.box (tapeC v i0))) :
    ∃ (dd : Nd) (i1 : Nat) (n1 : Nat) (q1 : Int), GN subs dd ∧ i1 ≤ zs.length ∧ CT Try.prog 33 [.ref H.length 0, .d (.int .i64 ((subs : Nat) : Int))] (H ++ [.box (genC 0 14 subs main)]) fun r K => r = .d (.agg dd.cells) ∧ K = H.set 0 (.box (tapeC v i1)) ++ [.box (genC n1 q1 subs main)] := by
  obtain ⟨r, K, ⟨dd, g', rfl, rfl, hgn, hi1, hi2⟩, hc⟩ := node_dt ht subs main hs i0 hi0
  refine ⟨dd, g'.i, g'.n, g'.q, hgn, hi2, ?_⟩
  have hl : 0 < H.length := by
    rcases Nat.lt_or_ge 0 H.length with h | h
    · exact h
    · simp [List.getElem?_eq_none h] at h0
  have h2 := CT.frame (H := GH v subs main ⟨i0, 0, 14⟩) (K := H ++ [.box (genC 0 14 subs main)]) (fun i => if i = 0 then 0 else H.length) (fun i j hi hj he => by
      have hi' : i = 0 ∨ i = 1 := by have : i < 2 := hi; omega
      have hj' : j = 0 ∨ j = 1 := by have : j < 2 := hj; omega
      rcases hi' with rfl | rfl <;> rcases hj' with rfl | rfl
      · rfl
      · exact absurd (show 0 = H.length from he) (by omega)
      · exact absurd (show H.length = 0 from he) (by omega)
      · rfl) (fun i ob hi => by
      have hi' : i = 0 ∨ i = 1 := by have h3 : i < 2 := hlt' hi; omega
      rcases hi' with rfl | rfl
      · simp at hi; subst hi
        rw [List.getElem?_append_left (by simpa using hl)]
        simpa [renOb, renMs, renM] using h0
      · simp at hi; subst hi
        simp [renOb, renMs, renM]) (gh_hb _ _ _ _) (fun m hm => by
      simp at hm
      rcases hm with rfl | rfl
      · exact mbb_ok rfl
      · exact .d _) (hc.mono fun r' K' ⟨a, b⟩ => (⟨by rw [b]; rfl, a, b⟩ : K'.length = (GH v subs main ⟨i0, 0, 14⟩).length ∧ (r' = .d (.agg dd.cells) ∧ K' = GH v subs main g')))
  have e : renMs (fun i => if i = 0 then 0 else H.length) [.ref 1 0, .d (.int .i64 ((subs : Nat) : Int))] = [.ref H.length 0, .d (.int .i64 ((subs : Nat) : Int))] := by simp [renMs, renM]
  rw [e] at h2
  refine h2.mono ?_
  rintro r k ⟨r0, H', ⟨rfl, rfl⟩, _, rfl, hkl, hk1, hk2⟩
  refine ⟨rfl, ?_⟩
  apply List.ext_getElem?
  intro j
  have a0 := hk1 0 _ rfl
  have a1 := hk1 1 _ rfl
  simp [renOb, renMs, renM] at a0 a1
  rcases Nat.lt_trichotomy j H.length with hj | hj | hj
  · rw [List.getElem?_append_left (by simpa using hj)]
    by_cases e0 : j = 0
    · subst e0; rw [a0]; simp [hl]
    · rw [hk2 j (fun i hi => by
        have hi' : i = 0 ∨ i = 1 := by have : i < 2 := hi; omega
        rcases hi' with rfl | rfl
        · simp; omega
        · simp; omega), List.getElem?_append_left hj, List.getElem?_set_ne (by omega)]
  · subst hj
    rw [a1, List.getElem?_append_right (by simp)]
    simp
  · rw [List.getElem?_eq_none (by simp at hkl; omega), List.getElem?_eq_none (by simp; omega)]
end
theorem next1_dt (zs : List Int) (v : D) (ht : Tape zs v) (k : Nat) (hk : 0 < k) (hk2 : k ≤ 1000) (i : Nat) (hg : i ≤ zs.length) : DT Try.prog 32 [.ref 0 0, .d (.int .i64 ((k : Nat) : Int))] [.box (tapeC v i)] fun r K => ∃ (j i1 : Nat), r = .d (.int .i64 ((j : Nat) : Int)) ∧ K = [.box (tapeC v i1)] ∧ j < k ∧ i1 ≤ zs.length := by
  obtain ⟨⟨hlen, hv, hwf⟩, hL⟩ := ht
  refine DT.of_body Try.func32 rfl Try.ntmps32 rfl ?_
  show DC _ _ _ _ ⟨_, _, [.box (tapeC v i)]⟩ _
  repeat refine DC.seq ?_
  apply DC.regionX
  · intro s0 Oo
    refine t_assign rfl rfl ?_
    exact TL.nil rfl
  rcases Nat.lt_or_ge i zs.length with hi | hi
  rotate_left
  · have h1 : decide (((i : Nat) : Int) ≥ (zs.length : Int)) = true := decide_eq_true (by omega)
    repeat refine DC.seq ?_
    apply DC.drawX mixed
    · intro s0 Oo
      refine f_move rfl rfl ?_
      refine f_nilCheck rfl rfl rfl ?_
      refine f_fieldR rfl rfl ?_
      refine f_loadRc rfl rfl rfl rfl ?_
      refine f_move rfl rfl ?_
      refine f_nilCheck rfl rfl rfl ?_
      refine f_fieldR rfl rfl ?_
      refine f_loadRc rfl rfl rfl rfl ?_
      refine f_lenS rfl rfl hlen ?_
      (refine f_int rfl rfl rfl (r := .bool true) (by show some (D.bool (decide _)) = _; rw [h1]) ?_)
      exact TF.nil ⟨by kernel_rfl, rfl⟩
    repeat refine DC.seq ?_
    refine DC.cond rfl (fun hc => ?_) (fun hc => by cases hc)
    repeat refine DC.seq ?_
    apply DC.regionX
    · intro s0 Oo
      refine t_assign rfl rfl ?_
      exact TL.nil rfl
    exact DC.ret ⟨_, rfl, 0, i, rfl, rfl, hk, hg⟩
  · have h1 : decide (((i : Nat) : Int) ≥ (zs.length : Int)) = false := decide_eq_false (by omega)
    obtain rfl : v = .sl (intsD .u8 zs) := hv.resolve_left (by rintro rfl; simp at hi)
    have hget : (intsD .u8 zs)[((i : Nat) : Int).toNat]? = some [.int .u8 zs[i]] := intsD_get (List.getElem?_eq_getElem hi)
    have hw := wfU8m (hwf zs[i] (List.getElem_mem hi))
    generalize zs[i] = z at hget hw
    obtain ⟨z, rfl⟩ := Int.eq_ofNat_of_zero_le hw.1
    have hcv : IntKind.i64.wrap (z : Int) = (z : Int) := IntWalk.i64_in _ ⟨by omega, by omega⟩
    have hsub : ((i : Nat) : Int) + 1 - 1 = (i : Int) := by omega
    have hmod : Int.tmod (z : Int) (k : Int) = ((z % k : Nat) : Int) := rfl
    have hk0 : (((k : Nat) : Int) == 0) = false := by simp; omega
    repeat refine DC.seq ?_
    apply DC.drawX mixed
    · intro s0 Oo
      refine f_move rfl rfl ?_
      refine f_nilCheck rfl rfl rfl ?_
      refine f_fieldR rfl rfl ?_
      refine f_loadRc rfl rfl rfl rfl ?_
      refine f_move rfl rfl ?_
      refine f_nilCheck rfl rfl rfl ?_
      refine f_fieldR rfl rfl ?_
      refine f_loadRc rfl rfl rfl rfl ?_
      refine f_lenS rfl rfl hlen ?_
      (refine f_int rfl rfl rfl (r := .bool false) (by show some (D.bool (decide _)) = _; rw [h1]) ?_)
      exact TF.nil ⟨by kernel_rfl, rfl⟩
    repeat refine DC.seq ?_
    refine DC.cond rfl (fun hc => by cases hc) (fun hc => ?_)
    refine DC.skip ?_
    repeat refine DC.seq ?_
    apply DC.regionX
    · intro s0 Oo
      refine t_move rfl rfl ?_
      refine t_nilCheck rfl rfl rfl ?_
      refine t_fieldR rfl rfl ?_
      refine t_loadRc rfl rfl rfl rfl ?_
      refine t_add64 rfl rfl rfl (by omega) ?_
      refine t_nilCheck rfl rfl rfl ?_
      refine t_fieldR rfl rfl ?_
      refine t_storeR rfl rfl rfl rfl rfl rfl ?_
      exact TL.nil rfl
    repeat refine DC.seq ?_
    apply DC.drawX mixed
    · intro s0 Oo
      refine f_move rfl rfl ?_
      refine f_nilCheck rfl rfl rfl ?_
      refine f_fieldR rfl rfl ?_
      refine f_loadRc rfl rfl rfl rfl ?_
      refine f_move rfl rfl ?_
      refine f_nilCheck rfl rfl rfl ?_
      refine f_fieldR rfl rfl ?_
      refine f_loadRc rfl rfl rfl rfl ?_
      (refine f_sub64 rfl rfl rfl (by omega) ?_; rw [hsub])
      refine f_indexD rfl rfl rfl (Int.natCast_nonneg i) hget rfl ?_
      refine f_loadDc rfl rfl rfl ?_
      (refine f_convI rfl rfl ?_; rw [hcv])
      refine f_move rfl rfl ?_
      (refine f_rem rfl rfl rfl hk0 ?_; rw [hmod])
      refine f_assign rfl rfl ?_
      exact TF.nil ⟨by kernel_rfl, rfl⟩
    exact DC.ret ⟨_, rfl, z % k, i + 1, rfl, rfl, Nat.mod_lt _ hk, hi⟩
theorem hlt'' {α : Type} {l : List α} {i : Nat} {x : α} (h : l[i]? = some x) : i < l.length := by
  rcases Nat.lt_or_ge i l.length with h1 | h1
  · exact h1
  · simp [List.getElem?_eq_none h1] at h
theorem acc_more {n i : Nat} {rs : List (List D)} {m : M} {H : Hp} (h : Acc n i rs m H) (hi : 1 ≤ i) (hH : 1 ≤ H.length) (rows : List (List D)) :
    ∃ i', Acc n i' (rs ++ rows) (accM m H rows) (accH n m H rows) ∧ 1 ≤ i' ∧ (∀ j ob, (rs ≠ [] → j ≠ i) → H[j]? = some ob → (accH n m H rows)[j]? = some ob) ∧ H.length ≤ (accH n m H rows).length := by
  rcases h with ⟨rfl, rfl⟩ | ⟨h1, ver, rfl, h2⟩
  · cases rows with
    | nil => exact ⟨i, .inl ⟨rfl, rfl⟩, hi, fun j ob _ h => h, Nat.le_refl _⟩
    | cons q r =>
      refine ⟨H.length, .inr ⟨by simp, 0, by simp [accM, app0M], by simp [accH, app0H]⟩, hH, fun j ob _ h => ?_, by simp [accH, app0H]⟩
      simp only [accH, app0H]
      rw [List.getElem?_append_left (hlt' h)]; exact h
  · have hl := hlt' h2
    have e : accH n (.rsl i ver rs.length) H rows = H.set i (.row true n (ver + 1) (flatM rs ++ flatM rows)) := by simp only [accH, h2]
    rw [e]
    exact ⟨i, .inr ⟨by simp [h1], ver + 1, by simp [accM], by rw [flatM_app]; simp [hl]⟩, hi, fun j ob hj h => by rw [List.getElem?_set_ne (Ne.symm (hj h1))]; exact h, by simp⟩
theorem Make_pt (zs : List Int) (v : D) (ht : Tape zs v) : PT Try.prog 16 [v] (fun r => ∃ l, r = [.agg (progC l)] ∧ GP l) := by
  have hL := ht.hl
  obtain ⟨r1, K1, ⟨j, i1, rfl, rfl, hj, hi1⟩, hc1⟩ := next1_dt zs v ht 3 (by omega) (by omega) 0 (by omega)
  have hN : 1 + ((j : Nat) : Int) = ((j + 1 : Nat) : Int) := by omega
  have hn3 : j + 1 ≤ 3 := by omega
  have hn1 : 1 ≤ j + 1 := by omega
  have hv : (∃ rows, v = .sl rows) ∨ v = .slz := by
    have := ht.hin.1
    cases v <;> simp [slLen] at this
    · exact .inl ⟨_, rfl⟩
    · exact .inr rfl
  have hnode := fun (subs : Nat) (main : Bool) (hs : subs ≤ 10) (i0 : Nat) (hi0 : i0 ≤ zs.length) => node_at ht subs main hs i0 hi0
  rcases hv with ⟨rows, rfl⟩ | rfl
  · refine PT.of_CT (DT.ct ?_)
    refine DT.of_body Try.func16 rfl Try.ntmps16 rfl ?_
    repeat refine DC.seq ?_
    apply DC.regionX
    · intro s0 Oo
      refine t_alloc rfl rfl ?_
      exact TL.nil rfl
    repeat refine DC.seq ?_
    apply DC.regionX
    · intro s0 Oo
      refine t_move rfl rfl ?_
      refine t_build rfl rfl rfl rfl rfl ?_
      refine t_boxH rfl rfl rfl ?_
      refine t_assign rfl rfl ?_
      exact TL.nil rfl
    repeat refine DC.seq ?_
    apply DC.regionX
    · intro s0 Oo
      refine t_buildSlice rfl rfl rfl rfl rfl rfl rfl rfl ?_
      refine t_build rfl rfl rfl rfl rfl ?_
      refine t_buildSlice rfl rfl rfl rfl rfl rfl rfl rfl ?_
      refine t_build rfl rfl rfl rfl rfl ?_
      refine t_alloc rfl rfl ?_
      refine t_storeL rfl rfl rfl rfl rfl rfl ?_
      exact TL.nil rfl
    repeat refine DC.seq ?_
    apply DC.regionX
    · intro s0 Oo
      refine t_move rfl rfl ?_
      refine t_callD hc1 rfl rfl ?_
      (refine t_add64 rfl rfl rfl (by omega) ?_; rw [hN])
      refine t_assign rfl rfl ?_
      exact TL.nil rfl
    clear hc1 hj
    generalize j + 1 = N at hn3 hn1 ⊢
    repeat refine DC.seq ?_
    apply DC.regionX
    · intro s0 Oo
      refine t_assign rfl rfl ?_
      exact TL.nil rfl
    refine DC.rename [(6, .m (.d (.int .i64 ((0 : Nat) : Int)))), (5, .m (.d (.int .i64 ((N : Nat) : Int)))), (4, .loc 4 0), (3, .m (.ref 0 0)), (2, .loc 2 0)] [.box (tapeC (.sl rows) i1)] ⟨rfl, rfl, rfl, rfl, rfl, trivial⟩ rfl ?_
    repeat refine DC.seq ?_
    refine DC.block ?_
    refine DC.loop (fun k s1 => ∃ (i : Nat) (l : List Nd) (m : M) (i0 a : Nat) (H : Hp) (bx : List (Nat × List M)), s1 = ⟨[(6, .m (.d (.int .i64 (i : Int)))), (5, .m (.d (.int .i64 ((N : Nat) : Int)))), (4, .loc 4 0), (3, .m (.ref 0 0)), (2, .loc 2 0)], bx, H⟩ ∧ Go.Mt.get bx 4 = some [.d (.sl [colE]), m] ∧ Go.Mt.get bx 2 = some [.d (.sl []), .d (.sl [])] ∧ Acc 7 a (ndsC l) m H ∧ 1 ≤ a ∧ H[0]? = some (.box (tapeC (.sl rows) i0)) ∧ i0 ≤ zs.length ∧ i ≤ N ∧ l.length = i ∧ (∀ (k : Nat) (d : Nd), l[k]? = some d → GN k d) ∧ k = N - i) N _
      ⟨0, [], .d (.sl []), i1, 1, _, _, rfl, rfl, rfl, .inl ⟨rfl, rfl⟩, by omega, rfl, hi1, by omega, rfl, by simp, rfl⟩ ⟨rfl, rfl, rfl, rfl, rfl, trivial⟩ ?_
    rintro k s1 ⟨i, l, m, i0, a, H, bx, rfl, hb4, hb2, hacc, ha, hH0, hi0, hi, hll, hgn, rfl⟩
    repeat refine DC.seq ?_
    apply DC.regionX
    · intro s0 Oo
      refine t_move rfl rfl ?_
      refine t_move rfl rfl ?_
      refine t_int rfl rfl rfl rfl ?_
      exact TL.nil rfl
    repeat refine DC.seq ?_
    refine DC.cond rfl (fun hc => ?_) (fun hc => ?_)
    · have hc' : i < N := by have := of_decide_eq_true hc; omega
      clear hc
      obtain ⟨dd, i2, n2, q2, hgd, hi2, hcn⟩ := hnode i (((i : Nat) : Int) == ((N : Nat) : Int) - 1) (by omega) i0 hi0 H hH0
      obtain ⟨c0, c1, c2, c3, c4, c5, c6, hcs⟩ := list7 (Nd_len dd)
      rw [hcs] at hcn
      have hHl := hlt' hH0
      have hacc2 : Acc 7 a (ndsC l) m (H.set 0 (.box (tapeC (.sl rows) i2)) ++ [.box (genC n2 q2 i (((i : Nat) : Int) == ((N : Nat) : Int) - 1))]) := hacc.other (fun ob ho => by
        rw [List.getElem?_append_left (by simpa using hlt' ho), List.getElem?_set_ne (by omega)]; exact ho)
      have hndl : (ndsC l).length ≤ 3 := by rw [ndsC_len]; omega
      have hv1 : ndsC (l ++ [dd]) = ndsC l ++ [[c0, c1, c2, c3, c4, c5, c6]] := by rw [← hcs]; simp [ndsC]
      obtain ⟨a', b1, b2, b3, b4⟩ := acc_more hacc2 ha (by simp) [[c0, c1, c2, c3, c4, c5, c6]]
      have hH2 := b3 0 _ (by omega) (show (H.set 0 (.box (tapeC (.sl rows) i2)) ++ [.box (genC n2 q2 i (((i : Nat) : Int) == ((N : Nat) : Int) - 1))])[0]? = some (.box (tapeC (.sl rows) i2)) by rw [List.getElem?_append_left (by simpa using hHl)]; simp [hHl])
      rw [← hv1] at b1
      refine DC.skip ?_
      repeat refine DC.seq ?_
      refine DC.block ?_
      repeat refine DC.seq ?_
      apply DC.regionX
      · intro s0 Oo
        refine t_move rfl rfl ?_
        refine t_move rfl rfl ?_
        refine t_move rfl rfl ?_
        refine t_move rfl rfl ?_
        refine t_sub64 rfl rfl rfl (by omega) ?_
        refine t_int rfl rfl rfl rfl ?_
        refine t_buildM rfl rfl rfl rfl rfl ?_
        refine t_boxH rfl rfl rfl ?_
        refine t_assign rfl rfl ?_
        exact TL.nil rfl
      repeat refine DC.seq ?_
      apply DC.drawX mixed
      · intro s0 Oo
        refine f_fieldL rfl rfl ?_
        refine f_loadLc rfl rfl hb4 rfl ?_
        refine f_move rfl rfl ?_
        refine f_move rfl rfl ?_
        refine f_callR hcn rfl rfl ?_
        refine f_buildSlice rfl rfl rfl rfl rfl rfl rfl rfl ?_
        refine f_acc1 hacc2 rfl rfl rfl rfl rfl rfl (by omega) (by omega) ?_
        refine f_fieldL rfl rfl ?_
        refine f_storeL rfl rfl hb4 (cells_acc _ _ _) rfl rfl ?_
        exact TF.nil ⟨by kernel_rfl, rfl⟩
      repeat refine DC.seq ?_
      apply DC.regionX
      · intro s0 Oo
        refine t_move rfl rfl ?_
        refine t_add64 rfl rfl rfl (by omega) ?_
        refine t_assign rfl rfl ?_
        exact TL.nil rfl
      exact againD (k' := N - (i + 1)) (by omega) ⟨i + 1, l ++ [dd], _, i2, a', _, _, rfl, rfl, hb2, b1, b2, hH2, hi2, by omega, by simp [hll], by
        intro k d hk
        rcases Nat.lt_or_ge k l.length with h | h
        · rw [List.getElem?_append_left h] at hk; exact hgn k d hk
        · rw [List.getElem?_append_right h] at hk
          obtain rfl : k = l.length := by have := hlt'' hk; simp at this; omega
          simp at hk; subst hk; rw [hll]; exact hgd, rfl⟩ rfl ⟨by simp; rfl, rfl, rfl, rfl, rfl, trivial⟩
    · refine DC.exit ?_
      have hc' : i = N := by have := of_decide_eq_false hc; omega
      refine DC.viewBox (cs' := [.d (.sl [colE]), .d (.sl (ndsC l))]) 4 hb4 (viewAll_e (viewAll_m (hacc.view (ndsC_lens l)) rfl)) ?_
      repeat refine DC.seq ?_
      apply DC.regionX
      · intro s0 Oo
        refine t_loadLa rfl rfl rfl rfl rfl ?_
        refine t_storeL rfl rfl hb2 rfl rfl rfl ?_
        exact TL.nil rfl
      exact DC.ret ⟨_, rfl, [_], rfl, l, rfl, by omega, by omega, hgn⟩
  · refine PT.of_CT (DT.ct ?_)
    refine DT.of_body Try.func16 rfl Try.ntmps16 rfl ?_
    repeat refine DC.seq ?_
    apply DC.regionX
    · intro s0 Oo
      refine t_alloc rfl rfl ?_
      exact TL.nil rfl
    repeat refine DC.seq ?_
    apply DC.regionX
    · intro s0 Oo
      refine t_move rfl rfl ?_
      refine t_build rfl rfl rfl rfl rfl ?_
      refine t_boxH rfl rfl rfl ?_
      refine t_assign rfl rfl ?_
      exact TL.nil rfl
    repeat refine DC.seq ?_
    apply DC.regionX
    · intro s0 Oo
      refine t_buildSlice rfl rfl rfl rfl rfl rfl rfl rfl ?_
      refine t_build rfl rfl rfl rfl rfl ?_
      refine t_buildSlice rfl rfl rfl rfl rfl rfl rfl rfl ?_
      refine t_build rfl rfl rfl rfl rfl ?_
      refine t_alloc rfl rfl ?_
      refine t_storeL rfl rfl rfl rfl rfl rfl ?_
      exact TL.nil rfl
    repeat refine DC.seq ?_
    apply DC.regionX
    · intro s0 Oo
      refine t_move rfl rfl ?_
      refine t_callD hc1 rfl rfl ?_
      (refine t_add64 rfl rfl rfl (by omega) ?_; rw [hN])
      refine t_assign rfl rfl ?_
      exact TL.nil rfl
    clear hc1 hj
    generalize j + 1 = N at hn3 hn1 ⊢
    repeat refine DC.seq ?_
    apply DC.regionX
    · intro s0 Oo
      refine t_assign rfl rfl ?_
      exact TL.nil rfl
    refine DC.rename [(6, .m (.d (.int .i64 ((0 : Nat) : Int)))), (5, .m (.d (.int .i64 ((N : Nat) : Int)))), (4, .loc 4 0), (3, .m (.ref 0 0)), (2, .loc 2 0)] [.box (tapeC .slz i1)] ⟨rfl, rfl, rfl, rfl, rfl, trivial⟩ rfl ?_
    repeat refine DC.seq ?_
    refine DC.block ?_
    refine DC.loop (fun k s1 => ∃ (i : Nat) (l : List Nd) (m : M) (i0 a : Nat) (H : Hp) (bx : List (Nat × List M)), s1 = ⟨[(6, .m (.d (.int .i64 (i : Int)))), (5, .m (.d (.int .i64 ((N : Nat) : Int)))), (4, .loc 4 0), (3, .m (.ref 0 0)), (2, .loc 2 0)], bx, H⟩ ∧ Go.Mt.get bx 4 = some [.d (.sl [colE]), m] ∧ Go.Mt.get bx 2 = some [.d (.sl []), .d (.sl [])] ∧ Acc 7 a (ndsC l) m H ∧ 1 ≤ a ∧ H[0]? = some (.box (tapeC .slz i0)) ∧ i0 ≤ zs.length ∧ i ≤ N ∧ l.length = i ∧ (∀ (k : Nat) (d : Nd), l[k]? = some d → GN k d) ∧ k = N - i) N _
      ⟨0, [], .d (.sl []), i1, 1, _, _, rfl, rfl, rfl, .inl ⟨rfl, rfl⟩, by omega, rfl, hi1, by omega, rfl, by simp, rfl⟩ ⟨rfl, rfl, rfl, rfl, rfl, trivial⟩ ?_
    rintro k s1 ⟨i, l, m, i0, a, H, bx, rfl, hb4, hb2, hacc, ha, hH0, hi0, hi, hll, hgn, rfl⟩
    repeat refine DC.seq ?_
    apply DC.regionX
    · intro s0 Oo
      refine t_move rfl rfl ?_
      refine t_move rfl rfl ?_
      refine t_int rfl rfl rfl rfl ?_
      exact TL.nil rfl
    repeat refine DC.seq ?_
    refine DC.cond rfl (fun hc => ?_) (fun hc => ?_)
    · have hc' : i < N := by have := of_decide_eq_true hc; omega
      clear hc
      obtain ⟨dd, i2, n2, q2, hgd, hi2, hcn⟩ := hnode i (((i : Nat) : Int) == ((N : Nat) : Int) - 1) (by omega) i0 hi0 H hH0
      obtain ⟨c0, c1, c2, c3, c4, c5, c6, hcs⟩ := list7 (Nd_len dd)
      rw [hcs] at hcn
      have hHl := hlt' hH0
      have hacc2 : Acc 7 a (ndsC l) m (H.set 0 (.box (tapeC .slz i2)) ++ [.box (genC n2 q2 i (((i : Nat) : Int) == ((N : Nat) : Int) - 1))]) := hacc.other (fun ob ho => by
        rw [List.getElem?_append_left (by simpa using hlt' ho), List.getElem?_set_ne (by omega)]; exact ho)
      have hndl : (ndsC l).length ≤ 3 := by rw [ndsC_len]; omega
      have hv1 : ndsC (l ++ [dd]) = ndsC l ++ [[c0, c1, c2, c3, c4, c5, c6]] := by rw [← hcs]; simp [ndsC]
      obtain ⟨a', b1, b2, b3, b4⟩ := acc_more hacc2 ha (by simp) [[c0, c1, c2, c3, c4, c5, c6]]
      have hH2 := b3 0 _ (by omega) (show (H.set 0 (.box (tapeC .slz i2)) ++ [.box (genC n2 q2 i (((i : Nat) : Int) == ((N : Nat) : Int) - 1))])[0]? = some (.box (tapeC .slz i2)) by rw [List.getElem?_append_left (by simpa using hHl)]; simp [hHl])
      rw [← hv1] at b1
      refine DC.skip ?_
      repeat refine DC.seq ?_
      refine DC.block ?_
      repeat refine DC.seq ?_
      apply DC.regionX
      · intro s0 Oo
        refine t_move rfl rfl ?_
        refine t_move rfl rfl ?_
        refine t_move rfl rfl ?_
        refine t_move rfl rfl ?_
        refine t_sub64 rfl rfl rfl (by omega) ?_
        refine t_int rfl rfl rfl rfl ?_
        refine t_buildM rfl rfl rfl rfl rfl ?_
        refine t_boxH rfl rfl rfl ?_
        refine t_assign rfl rfl ?_
        exact TL.nil rfl
      repeat refine DC.seq ?_
      apply DC.drawX mixed
      · intro s0 Oo
        refine f_fieldL rfl rfl ?_
        refine f_loadLc rfl rfl hb4 rfl ?_
        refine f_move rfl rfl ?_
        refine f_move rfl rfl ?_
        refine f_callR hcn rfl rfl ?_
        refine f_buildSlice rfl rfl rfl rfl rfl rfl rfl rfl ?_
        refine f_acc1 hacc2 rfl rfl rfl rfl rfl rfl (by omega) (by omega) ?_
        refine f_fieldL rfl rfl ?_
        refine f_storeL rfl rfl hb4 (cells_acc _ _ _) rfl rfl ?_
        exact TF.nil ⟨by kernel_rfl, rfl⟩
      repeat refine DC.seq ?_
      apply DC.regionX
      · intro s0 Oo
        refine t_move rfl rfl ?_
        refine t_add64 rfl rfl rfl (by omega) ?_
        refine t_assign rfl rfl ?_
        exact TL.nil rfl
      exact againD (k' := N - (i + 1)) (by omega) ⟨i + 1, l ++ [dd], _, i2, a', _, _, rfl, rfl, hb2, b1, b2, hH2, hi2, by omega, by simp [hll], by
        intro k d hk
        rcases Nat.lt_or_ge k l.length with h | h
        · rw [List.getElem?_append_left h] at hk; exact hgn k d hk
        · rw [List.getElem?_append_right h] at hk
          obtain rfl : k = l.length := by have := hlt'' hk; simp at this; omega
          simp at hk; subst hk; rw [hll]; exact hgd, rfl⟩ rfl ⟨by simp; rfl, rfl, rfl, rfl, rfl, trivial⟩
    · refine DC.exit ?_
      have hc' : i = N := by have := of_decide_eq_false hc; omega
      refine DC.viewBox (cs' := [.d (.sl [colE]), .d (.sl (ndsC l))]) 4 hb4 (viewAll_e (viewAll_m (hacc.view (ndsC_lens l)) rfl)) ?_
      repeat refine DC.seq ?_
      apply DC.regionX
      · intro s0 Oo
        refine t_loadLa rfl rfl rfl rfl rfl ?_
        refine t_storeL rfl rfl hb2 rfl rfl rfl ?_
        exact TL.nil rfl
      exact DC.ret ⟨_, rfl, [_], rfl, l, rfl, by omega, by omega, hgn⟩
end Go.Proofs
