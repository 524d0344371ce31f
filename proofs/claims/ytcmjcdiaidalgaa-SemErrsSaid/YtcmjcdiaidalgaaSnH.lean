/- A node begins. -/
import Derived.Test.YtcmjcdiaidalgaaSnG
import Derived.Test.YtcmjcdiaidalgaaLibI
set_option linter.unusedVariables false
set_option linter.unusedSimpArgs false
set_option linter.unusedSectionVars false
namespace Go.Proofs
open Go.Mt Go.Mk
set_option maxRecDepth 4000
set_option linter.unusedSimpArgs false
set_option linter.unusedVariables false

instance : IsFn Try.prog 35 := isFn_of (by kernel_rfl)
instance : IsFn Try.prog 55 := isFn_of (by kernel_rfl)
theorem zlist_cells (sz : Nat) (z : D) : zlist 1 sz [z] = cellsM sz fun _ => .d z := by
  unfold zlist cellsM
  rw [Nat.mul_one]
  simp [Nat.mod_one]
abbrev unitT (l : List Nd) (d : Nd) (m p s : M) (sz : Nat) : List M := [.d (.sl [colE]), .d (.sl (ndsC l)), .d (.str d.name), .d (.sl (vasC d.ins)), .d (.sl (vasC d.outs)), .d (.sl (vasC d.b.vars)), .d (.sl (eqsC d.b.eqs)), .d (.int .i64 0), .d (.int .i64 0), m, p, s, .d (.int .i64 ((sz : Nat) : Int))]
/-- a machine of a node -/
def MOf (l : List Nd) (d : Nd) (c : Mc) : Prop := c.nodes = ndsC l ∧ c.nm = d.name ∧ c.ins = vasC d.ins ∧ c.outs = d.outs ∧ c.b = d.b ∧ c.sz = bPl d.b + lastN d.outs
theorem start_dt (l : List Nd) (hl : l.length ≤ 1000) (x : Nm) (i : Nat) (hi : i < l.length) (hix : nodeIx l x = i) (hb : WB l[i].b) (ho : l[i].outs.length ≤ 1000) (hv : ∀ v ∈ l[i].outs, v.last = true → ∃ t, GC t v.first) (hsz : bPl l[i].b ≤ 100000000) (H : Hp) :
    DT Try.prog 35 [.d (.agg (progC l)), .d (.str x)] H fun r K => ∃ c, r = .ref c.iu 0 ∧ MM c K ∧ MOf l l[i] c := by
  have hf := findNode_pt [colE] l x hl
  rw [hix] at hf
  have hget := ndsC_get hi
  generalize l[i] = d at hb ho hv hsz hget ⊢
  have hp := places_pt d.b (WB.sm hb) (by omega)
  have hdc : d.cells = [.str d.name, .sl (vasC d.ins), .sl (vasC d.outs), .sl (vasC d.b.vars), .sl (eqsC d.b.eqs), .int .i64 0, .int .i64 0] := by rw [Nd.cells, Blk.shape2]; rfl
  rw [hdc] at hget
  rw [Blk.shape2] at hp
  have hlle : ∀ i, lastN (d.outs.take i) ≤ 1000 := fun i => by
    have h1 := lastN_take d.outs i
    have h2 : lastN d.outs ≤ d.outs.length := List.length_filter_le _ _
    omega
  refine DT.of_body Try.func35 rfl Try.ntmps35 rfl ?_
  repeat refine DC.seq ?_
  apply DC.regionX
  · intro s0 Oo
    refine t_box rfl rfl ?_
    refine t_assign rfl rfl ?_
    exact TL.nil rfl
  repeat refine DC.seq ?_
  apply DC.drawX mixed
  · intro s0 Oo
    refine f_loadDw rfl rfl rfl ?_
    refine f_fieldD rfl rfl ?_
    refine f_loadDc rfl rfl rfl ?_
    refine f_loadDw rfl rfl rfl ?_
    refine f_move rfl rfl ?_
    refine f_call1 hf rfl rfl ?_
    refine f_indexD rfl rfl rfl (Int.natCast_nonneg i) hget rfl ?_
    refine f_loadDw rfl rfl rfl ?_
    refine f_build rfl rfl rfl rfl rfl ?_
    refine f_boxH rfl rfl rfl ?_
    refine f_assign rfl rfl ?_
    exact TF.nil ⟨by kernel_rfl, rfl⟩
  repeat refine DC.seq ?_
  apply DC.regionX
  · intro s0 Oo
    refine t_move rfl rfl ?_
    refine t_move rfl rfl ?_
    refine t_nilCheck rfl rfl rfl ?_
    refine t_fieldR rfl rfl ?_
    refine t_fieldR rfl rfl ?_
    refine t_loadRa rfl rfl List.getElem?_concat_length rfl rfl ?_
    refine t_call1 hp rfl rfl ?_
    refine t_nilCheck rfl rfl rfl ?_
    refine t_fieldR rfl rfl ?_
    refine t_storeR rfl rfl List.getElem?_concat_length rfl rfl rfl ?_
    exact TL.nil rfl
  refine DC.rename [(5, .m (.ref H.length 0))] (H ++ [Ob.box (unitT l d (.d (.sl [])) (.d (.sl [])) (.d (.sl [])) (bPl d.b))]) ⟨rfl, trivial⟩ (by rw [List.set_append_right _ _ (Nat.le_refl _), Nat.sub_self]; rfl) ?_
  have hcc := concatV_ok [vasC d.outs] (by intro l h; simp at h; subst h; exact vasC_lens _) (by simp) (by simp [vasC_len]; omega)
  have hfl : ([vasC d.outs].flatten) = vasC d.outs := by simp
  rw [hfl] at hcc
  repeat refine DC.seq ?_
  apply DC.regionX
  · intro s0 Oo
    refine t_move rfl rfl ?_
    refine t_nilCheck rfl rfl rfl ?_
    refine t_fieldR rfl rfl ?_
    refine t_fieldR rfl rfl ?_
    refine t_loadRc rfl rfl List.getElem?_concat_length rfl ?_
    refine t_buildSlice rfl rfl rfl rfl rfl rfl rfl rfl ?_
    refine t_call1 hcc rfl rfl ?_
    (refine t_lenS rfl rfl rfl ?_; rw [vasC_len])
    refine t_move rfl rfl ?_
    exact TL.nil rfl
  refine DC.rename [(36, .m (.d (.int .i64 ((0 : Nat) : Int)))), (35, .m (.d (.int .i64 ((d.outs.length : Nat) : Int)))), (34, .m (.d (.sl (vasC d.outs)))), (5, .m (.ref H.length 0))] (H ++ [Ob.box (unitT l d (.d (.sl [])) (.d (.sl [])) (.d (.sl [])) (bPl d.b + lastN (d.outs.take 0)))]) ⟨rfl, rfl, rfl, rfl, trivial⟩ rfl ?_
  repeat refine DC.seq ?_
  refine DC.midE (fun st' => ∃ bx, st' = ⟨[(5, .m (.ref H.length 0))], bx, H ++ [Ob.box (unitT l d (.d (.sl [])) (.d (.sl [])) (.d (.sl [])) (bPl d.b + lastN d.outs))]⟩) ?_ ?_
  · refine DC.block ?_
    refine DC.loop (fun k s => ∃ (i : Nat) (bx : List (Nat × List M)), s = ⟨[(36, .m (.d (.int .i64 ((i : Nat) : Int)))), (35, .m (.d (.int .i64 ((d.outs.length : Nat) : Int)))), (34, .m (.d (.sl (vasC d.outs)))), (5, .m (.ref H.length 0))], bx, H ++ [Ob.box (unitT l d (.d (.sl [])) (.d (.sl [])) (.d (.sl [])) (bPl d.b + lastN (d.outs.take i)))]⟩ ∧ i ≤ d.outs.length ∧ k = d.outs.length - i) d.outs.length _
      ⟨0, _, rfl, by omega, rfl⟩ ⟨rfl, rfl, rfl, rfl, trivial⟩ ?_
    rintro k s1 ⟨i, bx, rfl, hi, rfl⟩
    repeat refine DC.seq ?_
    apply DC.regionX
    · intro s0 Oo
      refine t_int rfl rfl rfl rfl ?_
      exact TL.nil rfl
    repeat refine DC.seq ?_
    refine DC.cond rfl (fun hc => ?_) (fun hc => ?_)
    · have hc' : i < d.outs.length := by have := of_decide_eq_true hc; omega
      clear hc
      have hget := vasC_get hc'
      obtain ⟨hsn, hle⟩ := lastN_step hc'
      have hl1 := hlle i
      generalize d.outs[i] = w at hget hsn
      obtain ⟨k1, op1, n1, s1, a1, b1, h1, hw⟩ := vaC2 w
      rw [hw] at hget
      refine DC.skip ?_
      repeat refine DC.seq ?_
      refine DC.block ?_
      cases hlast : w.last with
      | true =>
        rw [hlast] at hget hsn
        simp only [if_true] at hsn
        have hadd : ((bPl d.b + lastN (d.outs.take i) : Nat) : Int) + 1 = ((bPl d.b + lastN (d.outs.take (i + 1)) : Nat) : Int) := by omega
        repeat refine DC.seq ?_
        apply DC.regionX
        · intro s0 Oo
          refine t_indexD rfl rfl rfl (Int.natCast_nonneg i) hget rfl ?_
          refine t_loadDw rfl rfl rfl ?_
          refine t_alloc rfl rfl ?_
          refine t_storeL rfl rfl rfl rfl rfl rfl ?_
          exact TL.nil rfl
        repeat refine DC.seq ?_
        apply DC.regionX
        · intro s0 Oo
          refine t_fieldL rfl rfl ?_
          refine t_loadLc rfl rfl rfl rfl ?_
          exact TL.nil rfl
        repeat refine DC.seq ?_
        refine DC.cond rfl (fun hc => ?_) (fun hc => by cases hc)
        repeat refine DC.seq ?_
        apply DC.regionX
        · intro s0 Oo
          refine t_move rfl rfl ?_
          refine t_nilCheck rfl rfl rfl ?_
          refine t_fieldR rfl rfl ?_
          refine t_loadRc rfl rfl List.getElem?_concat_length rfl ?_
          (refine t_add64 rfl rfl rfl (by omega) ?_; rw [hadd])
          refine t_nilCheck rfl rfl rfl ?_
          refine t_fieldR rfl rfl ?_
          refine t_storeR rfl rfl List.getElem?_concat_length rfl rfl rfl ?_
          exact TL.nil rfl
        repeat refine DC.seq ?_
        apply DC.regionX
        · intro s0 Oo
          refine t_add64 rfl rfl rfl (by omega) ?_
          refine t_move rfl rfl ?_
          exact TL.nil rfl
        exact againD (k' := d.outs.length - (i + 1)) (by omega) ⟨i + 1, _, rfl, by omega, rfl⟩ (by rw [List.set_append_right _ _ (Nat.le_refl _), Nat.sub_self]; rfl) ⟨by simp; rfl, rfl, rfl, rfl, trivial⟩
      | false =>
        rw [hlast] at hget hsn
        simp only [Bool.false_eq_true, if_false, Nat.add_zero] at hsn
        repeat refine DC.seq ?_
        apply DC.regionX
        · intro s0 Oo
          refine t_indexD rfl rfl rfl (Int.natCast_nonneg i) hget rfl ?_
          refine t_loadDw rfl rfl rfl ?_
          refine t_alloc rfl rfl ?_
          refine t_storeL rfl rfl rfl rfl rfl rfl ?_
          exact TL.nil rfl
        repeat refine DC.seq ?_
        apply DC.regionX
        · intro s0 Oo
          refine t_fieldL rfl rfl ?_
          refine t_loadLc rfl rfl rfl rfl ?_
          exact TL.nil rfl
        repeat refine DC.seq ?_
        refine DC.cond rfl (fun hc => by cases hc) (fun hc => ?_)
        refine DC.skip ?_
        repeat refine DC.seq ?_
        apply DC.regionX
        · intro s0 Oo
          refine t_add64 rfl rfl rfl (by omega) ?_
          refine t_move rfl rfl ?_
          exact TL.nil rfl
        exact againD (k' := d.outs.length - (i + 1)) (by omega) ⟨i + 1, _, rfl, by omega, rfl⟩ (by rw [hsn]) ⟨by simp; rfl, rfl, rfl, rfl, trivial⟩
    · refine DC.exit ?_
      have hc' : i = d.outs.length := by have := of_decide_eq_false hc; omega
      subst hc'
      rw [List.take_length]
      exact ⟨_, ⟨bx, rfl⟩, downD rfl ⟨rfl, trivial⟩⟩
  rintro st' ⟨bx, rfl⟩
  have hszb : bPl d.b + lastN d.outs ≤ 1000000000 := by have := hlle d.outs.length; rw [List.take_length] at this; omega
  generalize hszd : bPl d.b + lastN d.outs = sz at hszb
  repeat refine DC.seq ?_
  apply DC.drawF H.length 4 3 rfl (by simp)
  · intro s0 Oo
    rw [List.append_assoc]
    show TG H.length 4 _ _ _ ⟨_, _, H ++ [Ob.box _, .free, .free, .free]⟩ _
    refine ga_move rfl rfl rfl ?_
    refine ga_move rfl rfl rfl ?_
    refine ga_move rfl rfl rfl ?_
    refine ga_move rfl rfl rfl ?_
    refine ga_nilCheck rfl rfl rfl rfl ?_
    refine ga_fieldR rfl rfl rfl ?_
    refine ga_loadRc (i := 0) rfl rfl rfl rfl rfl ?_
    refine ga_makeSlice 1 rfl (by decide) rfl rfl rfl rfl rfl (by omega) (by omega) rfl ?_
    refine ga_move rfl rfl rfl ?_
    refine ga_nilCheck rfl rfl rfl rfl ?_
    refine ga_fieldR rfl rfl rfl ?_
    refine ga_loadRc (i := 0) rfl rfl rfl rfl rfl ?_
    refine ga_makeSlice 2 rfl (by decide) rfl rfl rfl rfl rfl (by omega) (by omega) rfl ?_
    refine ga_move rfl rfl rfl ?_
    refine ga_nilCheck rfl rfl rfl rfl ?_
    refine ga_fieldR rfl rfl rfl ?_
    refine ga_loadRc (i := 0) rfl rfl rfl rfl rfl ?_
    refine ga_makeSlice 3 rfl (by decide) rfl rfl rfl rfl rfl (by omega) (by omega) rfl ?_
    refine ga_nilCheck rfl rfl rfl rfl ?_
    refine ga_fieldR rfl rfl rfl ?_
    refine ga_storeR 0 rfl (by decide) rfl rfl rfl rfl rfl rfl ?_
    refine ga_nilCheck rfl rfl rfl rfl ?_
    refine ga_fieldR rfl rfl rfl ?_
    refine ga_storeR 0 rfl (by decide) rfl rfl rfl rfl rfl rfl ?_
    refine ga_nilCheck rfl rfl rfl rfl ?_
    refine ga_fieldR rfl rfl rfl ?_
    refine ga_storeR 0 rfl (by decide) rfl rfl rfl rfl rfl rfl ?_
    exact TG.nil ⟨by kernel_rfl, rfl⟩
  obtain ⟨c, hc⟩ : ∃ c : Mc, c = ⟨H.length + 4, H.length, H.length + 1, H.length + 2, H.length + 3, sz, ndsC l, d.name, vasC d.ins, d.outs, d.b, .d .nilp, .d (.bool false), .d (.sl []), .d (.sl [])⟩ := ⟨_, rfl⟩
  refine DC.rename [(5, .m (.ref H.length 0))] (H ++ [Ob.box (unitT l d (.rsl (H.length + 1) 0 sz) (.rsl (H.length + 2) 0 sz) (.rsl (H.length + 3) 0 sz) sz), Ob.row false 1 0 (cellsM sz fun _ => .d (.int .i32 0)), Ob.row false 1 0 (cellsM sz fun _ => .d (.bool false)), Ob.row false 1 0 (cellsM sz fun _ => .d .nilp)]) ⟨rfl, trivial⟩ (by rw [← zlist_cells, ← zlist_cells, ← zlist_cells]; rfl) ?_
  repeat refine DC.seq ?_
  apply DC.regionX
  · intro s0 Oo
    refine t_move rfl rfl ?_
    refine t_buildM rfl rfl rfl rfl rfl ?_
    refine t_boxH rfl rfl rfl ?_
    refine t_assign rfl rfl ?_
    exact TL.nil rfl
  have hm : MM c (H ++ [Ob.box (unitT l d (.rsl (H.length + 1) 0 sz) (.rsl (H.length + 2) 0 sz) (.rsl (H.length + 3) 0 sz) sz), Ob.row false 1 0 (cellsM sz fun _ => .d (.int .i32 0)), Ob.row false 1 0 (cellsM sz fun _ => .d (.bool false)), Ob.row false 1 0 (cellsM sz fun _ => .d .nilp), Ob.box (instC c)]) := by
    subst hc
    exact ⟨app_get (i := 4) rfl, app_get (i := 0) rfl, ⟨_, fun k => ⟨0, rfl⟩, app_get (i := 1) rfl⟩, ⟨_, fun k => ⟨false, rfl⟩, app_get (i := 2) rfl⟩, ⟨_, app_get (i := 3) rfl⟩, by simp, by simp, by simp, by simp, by simp, hszb⟩
  obtain ⟨r2, K2, hms2, hc2⟩ := reset_dt c 0 sz (by subst hc; exact Nat.le_refl _) (by subst hc; exact hb) (by subst hc; show d.outs.length ≤ _; omega) (by subst hc; exact hv) (by subst hc; show bPl d.b ≤ _; omega) _ hm
  refine DC.rename [(8, .m (.ref c.it 0)), (5, .m (.ref c.iu 0))] (H ++ [Ob.box (unitT l d (.rsl (H.length + 1) 0 sz) (.rsl (H.length + 2) 0 sz) (.rsl (H.length + 3) 0 sz) sz), Ob.row false 1 0 (cellsM sz fun _ => .d (.int .i32 0)), Ob.row false 1 0 (cellsM sz fun _ => .d (.bool false)), Ob.row false 1 0 (cellsM sz fun _ => .d .nilp), Ob.box (instC c)]) ⟨by subst hc; simp; rfl, by subst hc; rfl, trivial⟩ (by subst hc; simp) ?_
  have hsc : c.sz = sz := by subst hc; rfl
  repeat refine DC.seq ?_
  apply DC.regionX
  · intro s0 Oo
    refine t_move rfl rfl ?_
    refine t_move rfl rfl ?_
    refine t_nilCheck rfl rfl rfl ?_
    refine t_fieldR rfl rfl ?_
    refine t_loadRc rfl rfl hm.unit rfl ?_
    refine t_callD hc2 rfl (by rw [hsc]; rfl) ?_
    exact TL.nil rfl
  repeat refine DC.seq ?_
  apply DC.regionX
  · intro s0 Oo
    refine t_move rfl rfl ?_
    refine t_assign rfl rfl ?_
    exact TL.nil rfl
  exact DC.ret ⟨_, rfl, c, rfl, hms2.mm, by subst hc; exact ⟨rfl, rfl, rfl, rfl, rfl, hszd.symm⟩⟩
end Go.Proofs
