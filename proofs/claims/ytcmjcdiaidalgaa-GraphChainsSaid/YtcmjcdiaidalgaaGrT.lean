/- A shortest way from an equation to itself. -/
import Derived.Test.YtcmjcdiaidalgaaGrQ
import Derived.Test.YtcmjcdiaidalgaaGrS
namespace Go.Proofs
open Go.Mt Go.Gr
set_option maxRecDepth 4000
set_option linter.unusedSimpArgs false
set_option linter.unusedVariables false

def bkF (bk : Nat → Int) (k : Nat) : D := .int .i64 (bk k)
def natF (l : List Nat) (k : Nat) : D := .int .i64 ((l.getD k 0 : Nat) : Int)
theorem flat_nats (l : List Nat) : flatM (natsR l) = cellsF l.length (natF l) := by
  apply List.ext_getElem?
  intro k
  have e : ∀ l : List Nat, flatM (natsR l) = l.map fun (x : Nat) => .d (.int .i64 (x : Int)) := by
    intro l
    induction l with
    | nil => rfl
    | cons a r ih =>
      show flatM ([.int .i64 (a : Int)] :: natsR r) = _
      have e2 : flatM ([D.int .i64 (a : Int)] :: natsR r) = M.d (.int .i64 (a : Int)) :: flatM (natsR r) := rfl
      rw [e2, ih]; rfl
  rw [e]
  rcases Nat.lt_or_ge k l.length with h | h
  · simp [cellsF, natF, h, List.getD_eq_getElem?_getD]
  · rw [List.getElem?_eq_none (by simpa using h), List.getElem?_eq_none (by simpa [cellsF] using h)]
theorem natF_rev (l : List Nat) : cellsF l.length (fun k => natF l (l.length - 1 - k)) = flatM (natsR l.reverse) := by
  rw [flat_nats, List.length_reverse]
  apply cellsF_congr
  intro k hk
  simp only [natF]
  rw [List.getD_eq_getElem?_getD, List.getD_eq_getElem?_getD, List.getElem?_reverse hk]
theorem drop_get {cs : List M} {off : Nat} {i : Nat} {q : List Nat} (h : cs.drop (off * 1) = flatM (natsR (i :: q))) : cs[(off + (0 : Int).toNat) * 1]? = some (.d (.int .i64 (i : Int))) := by
  have e : (off + (0 : Int).toNat) * 1 = off * 1 + 0 := by simp
  rw [e, ← List.getElem?_drop, h]; rfl
theorem way_ok (es : List (List Nat)) (hes : ∀ e ∈ es, ∀ k ∈ e, k < es.length) (hn : es.length ≤ 14) (hsm : ∀ e ∈ es, e.length ≤ 14) (fr : Nat) (hfr : fr < es.length) : PT Try.prog 27 [.sl (rowsL es), .int .i64 (fr : Int)] (fun r => ∃ l, r = [.sl (natsR l)] ∧ WayOk es fr l) := by
  refine PT.of_CT (CT.of_body Try.func27 rfl Try.ntmps27 rfl fun s0 Oo => ?_)
  refine TC.base fun hbase => ?_
  repeat refine TC.seq ?_
  refine TC.region ?_
  refine t_assign rfl rfl ?_
  refine TL.nil ?_
  repeat refine TC.seq ?_
  refine TC.region ?_
  refine t_move rfl rfl ?_
  (refine t_lenS rfl rfl rfl ?_; rw [rowsL_len])
  refine t_makeSlice (len := es.length) rfl rfl rfl rfl (by rfl) (by omega) (by omega) ?_
  refine t_assign rfl rfl ?_
  refine TL.nil ?_
  refine TC.rename [(5, .m (.rsl 0 0 es.length)), (1, .m (.d (.int .i64 (fr : Int)))), (0, .m (.d (.sl (rowsL es))))] [Ob.row false 1 0 (cellsF es.length (negF 0))] ⟨rfl, rfl, rfl, trivial⟩ (by rw [show dcells (D.int .i64 0) = [D.int .i64 0] from rfl, zlist1]; rfl) ?_
  repeat refine TC.seq ?_
  refine TC.region ?_
  refine t_move rfl rfl ?_
  refine t_lenR rfl rfl ?_
  refine t_move rfl rfl ?_
  refine TL.nil ?_
  refine TC.rename [(17, .m (.d (.int .i64 ((0 : Nat) : Int)))), (16, .m (.d (.int .i64 (es.length : Nat)))), (5, .m (.rsl 0 0 es.length)), (1, .m (.d (.int .i64 (fr : Int)))), (0, .m (.d (.sl (rowsL es))))] [Ob.row false 1 0 (cellsF es.length (negF 0))] ⟨rfl, rfl, rfl, rfl, rfl, trivial⟩ rfl ?_
  repeat refine TC.seq ?_
  refine TC.mid ⟨[(5, .m (.rsl 0 0 es.length)), (1, .m (.d (.int .i64 (fr : Int)))), (0, .m (.d (.sl (rowsL es))))], [], [Ob.row false 1 0 (cellsF es.length (bkF fun _ => -1))]⟩ ?_ ?_
  · refine TC.block ?_
    refine TC.loopB (fun k s => ∃ (i : Nat), s = ⟨[(17, .m (.d (.int .i64 i))), (16, .m (.d (.int .i64 (es.length : Nat)))), (5, .m (.rsl 0 0 es.length)), (1, .m (.d (.int .i64 (fr : Int)))), (0, .m (.d (.sl (rowsL es))))], [], [Ob.row false 1 0 (cellsF es.length (negF i))]⟩ ∧ i ≤ es.length ∧ k = es.length - i) es.length _
      ⟨0, rfl, by omega, rfl⟩ ⟨rfl, rfl, rfl, rfl, rfl, trivial⟩ ?_
    rintro k s ⟨i, rfl, hi, rfl⟩
    repeat refine TC.seq ?_
    refine TC.region ?_
    refine t_int rfl rfl rfl rfl ?_
    refine TL.nil ?_
    repeat refine TC.seq ?_
    refine TC.cond rfl (fun hc => ?_) (fun hc => ?_)
    · have hc' : i < es.length := by have := of_decide_eq_true hc; omega
      clear hc
      refine TC.skip ?_
      repeat refine TC.seq ?_
      refine TC.block ?_
      have hwr : writeAt (cellsF es.length (negF i)) (((i : Nat) : Int).toNat * 1) [.d (.int .i64 (-1))] = some (cellsF es.length (negF (i + 1))) := cellsF_write hc' (by simp [negF]) (fun j _ hj => by unfold negF; congr 1; by_cases h : j < i; rw [if_pos h, if_pos (by omega)]; rw [if_neg h, if_neg (by omega)])
      repeat refine TC.seq ?_
      refine TC.region ?_
      refine t_move rfl rfl ?_
      refine t_assign rfl rfl ?_
      refine TL.nil ?_
      repeat refine TC.seq ?_
      refine TC.region ?_
      refine t_move rfl rfl ?_
      refine t_move rfl rfl ?_
      refine t_indexR rfl rfl rfl rfl (by omega) (by omega) ?_
      refine t_storeW rfl rfl rfl rfl rfl hwr ?_
      refine TL.nil ?_
      repeat refine TC.seq ?_
      refine TC.region ?_
      refine t_add64 rfl rfl rfl (by omega) ?_
      refine t_move rfl rfl ?_
      refine TL.nil ?_
      exact again (k' := es.length - (i + 1)) (by omega) ⟨i + 1, rfl, by omega, rfl⟩ rfl ⟨by simp; rfl, rfl, rfl, rfl, rfl, trivial⟩
    · refine TC.exit ?_
      have hc' : i = es.length := by have := of_decide_eq_false hc; omega
      subst hc'
      have e : cellsF es.length (negF es.length) = cellsF es.length (bkF fun _ => -1) := cellsF_congr fun k hk => by simp [negF, bkF, hk]
      rw [e]
      exact down rfl ⟨rfl, rfl, rfl, trivial⟩
  repeat refine TC.seq ?_
  refine TC.region ?_
  refine t_move rfl rfl ?_
  refine t_buildRow rfl rfl rfl (by rfl) rfl rfl ?_
  refine t_assign rfl rfl ?_
  refine TL.nil ?_
  refine TC.tail0 7 (j := 1) (ver := 0) (len := 1) rfl ?_
  refine TC.rename [(7, .tl 1 0 0 [fr].length), (5, .m (.rsl 0 0 es.length)), (1, .m (.d (.int .i64 (fr : Int)))), (0, .m (.d (.sl (rowsL es))))] [Ob.row false 1 0 (cellsF es.length (bkF fun _ => -1)), Ob.row false 1 0 (flatM (natsR [fr]))] ⟨rfl, rfl, rfl, rfl, trivial⟩ rfl ?_
  repeat refine TC.seq ?_
  refine TC.block ?_
  refine TC.loopB (fun k s => ∃ (bk : Nat → Int) (d : Nat → Nat) (m : Nat) (q : List Nat) (ver off : Nat) (cs : List M), s = ⟨[(7, .tl 1 ver off q.length), (5, .m (.rsl 0 0 es.length)), (1, .m (.d (.int .i64 (fr : Int)))), (0, .m (.d (.sl (rowsL es))))], [], [Ob.row false 1 0 (cellsF es.length (bkF bk)), Ob.row false 1 ver cs]⟩ ∧
      Bfs es fr bk d m q es.length [] ∧ cs.drop (off * 1) = flatM (natsR q) ∧ off + (unv es.length fr bk + q.length) ≤ es.length ∧ (∀ v, d v + unv es.length fr bk ≤ es.length) ∧ k = unv es.length fr bk + q.length) (unv es.length fr (fun _ => -1) + [fr].length) _
    ⟨_, _, 0, [fr], 0, 0, _, rfl, Bfs.start hfr, rfl, by have := unv_le es.length fr (fun _ => -1) hfr; simp; omega, fun _ => by have := unv_le es.length fr (fun _ => -1) hfr; show 0 + _ ≤ _; omega, rfl⟩ ⟨rfl, rfl, rfl, rfl, trivial⟩ ?_
  rintro k s ⟨bk, d, m, q, ver, off, cs, rfl, hB, hcs, hoff, hdu, rfl⟩
  repeat refine TC.seq ?_
  refine TC.region ?_
  refine t_move rfl rfl ?_
  refine t_lenTl rfl rfl ?_
  refine t_int rfl rfl rfl rfl ?_
  refine TL.nil ?_
  repeat refine TC.seq ?_
  cases q with
  | nil =>
    refine TC.cond rfl (fun hc => by cases hc) (fun hc => ?_)
    refine TC.exit ?_
    repeat refine TC.seq ?_
    refine TC.region ?_
    refine t_assign rfl rfl ?_
    refine TL.nil ?_
    exact TC.ret ⟨_, rfl, [_], rfl, [], rfl, .inl ⟨rfl, fun L h0 => hB.none hes L h0⟩⟩
  | cons i q =>
    refine TC.cond rfl (fun hc => ?_) (fun hc => by have := of_decide_eq_false hc; simp at this; try omega)
    clear hc
    obtain ⟨hi, hiv⟩ := hB.qv i (by simp)
    have hiq : i ∉ q := (List.nodup_cons.1 hB.nd).1
    have hP := hB.pop (Nat.le_refl _)
    have hg := drop_get hcs
    have hrow := rowsL_get hi
    have hks : ∀ k ∈ es.getD i [], k < es.length := by
      rw [List.getD_eq_getElem?_getD, List.getElem?_eq_getElem hi]
      exact hes _ (List.getElem_mem hi)
    have hksl : (es.getD i []).length ≤ 14 := by
      rw [List.getD_eq_getElem?_getD, List.getElem?_eq_getElem hi]
      exact hsm _ (List.getElem_mem hi)
    have hcs2 : cs.drop ((off + 1) * 1) = flatM (natsR q) := by
      have e : (off + 1) * 1 = off * 1 + 1 := by omega
      rw [e, ← List.drop_drop, hcs]; rfl
    simp only [List.length_cons] at hoff ⊢
    clear hB hcs
    obtain ⟨ks, hke⟩ : ∃ ks, ks = es.getD i [] := ⟨_, rfl⟩
    rw [← hke] at hrow hks hksl
    refine TC.skip ?_
    repeat refine TC.seq ?_
    refine TC.block ?_
    repeat refine TC.seq ?_
    refine TC.region ?_
    refine t_move rfl rfl ?_
    refine t_indexTl rfl rfl rfl rfl (by omega) (by omega) ?_
    refine t_loadWc rfl rfl rfl hg ?_
    refine t_assign rfl rfl ?_
    refine TL.nil ?_
    repeat refine TC.seq ?_
    refine TC.region ?_
    refine t_move rfl rfl ?_
    refine t_tail rfl rfl rfl rfl (by omega) (by omega) ?_
    refine t_assign rfl rfl ?_
    refine TL.nil ?_
    repeat refine TC.seq ?_
    refine TC.region ?_
    refine t_move rfl rfl ?_
    refine t_move rfl rfl ?_
    refine t_indexD rfl rfl rfl (Int.natCast_nonneg i) hrow rfl ?_
    first | refine t_loadDc rfl rfl rfl ?_ | refine t_loadLc rfl rfl rfl rfl ?_ | refine t_loadRc rfl rfl rfl rfl ?_
    (refine t_lenS rfl rfl rfl ?_; rw [natsR_len])
    refine t_move rfl rfl ?_
    refine TL.nil ?_
    refine TC.rename [(39, .m (.d (.int .i64 ((0 : Nat) : Int)))), (38, .m (.d (.int .i64 (ks.length : Nat)))), (37, .m (.d (.sl (natsR ks)))), (8, .m (.d (.int .i64 (i : Int)))), (7, .tl 1 ver (off + 1) q.length), (5, .m (.rsl 0 0 es.length)), (1, .m (.d (.int .i64 (fr : Int)))), (0, .m (.d (.sl (rowsL es))))] [Ob.row false 1 0 (cellsF es.length (bkF bk)), Ob.row false 1 ver cs] ⟨rfl, rfl, rfl, rfl, rfl, rfl, rfl, rfl, trivial⟩ rfl ?_
    repeat refine TC.seq ?_
    refine TC.block ?_
    generalize hU : unv es.length fr bk + (q.length + 1) = U at hoff ⊢
    have hU1 : unv es.length fr bk + q.length + 1 = U := by omega
    have hoff1 : off + 1 + (unv es.length fr bk + q.length) ≤ es.length := by omega
    clear hU hoff hg
    refine TC.loopB (fun k s => ∃ (j : Nat) (bk : Nat → Int) (d : Nat → Nat) (q : List Nat) (ver off : Nat) (cs : List M), s = ⟨[(39, .m (.d (.int .i64 (j : Int)))), (38, .m (.d (.int .i64 (ks.length : Nat)))), (37, .m (.d (.sl (natsR ks)))), (8, .m (.d (.int .i64 (i : Int)))), (7, .tl 1 ver off q.length), (5, .m (.rsl 0 0 es.length)), (1, .m (.d (.int .i64 (fr : Int)))), (0, .m (.d (.sl (rowsL es))))], [], [Ob.row false 1 0 (cellsF es.length (bkF bk)), Ob.row false 1 ver cs]⟩ ∧
        Bfs es fr bk d (d i) q i (ks.take j) ∧ (i = fr ∨ 0 ≤ bk i) ∧ i ∉ q ∧ cs.drop (off * 1) = flatM (natsR q) ∧ unv es.length fr bk + q.length + 1 = U ∧ off + (unv es.length fr bk + q.length) ≤ es.length ∧ (∀ v, d v + unv es.length fr bk ≤ es.length) ∧ j ≤ ks.length ∧ k = ks.length - j) ks.length _
      ⟨0, bk, d, q, ver, off + 1, cs, rfl, by simpa using hP, hiv, hiq, hcs2, hU1, hoff1, hdu, by omega, rfl⟩ ⟨rfl, rfl, rfl, rfl, rfl, rfl, rfl, rfl, trivial⟩ ?_
    clear hU1 hoff1 hcs2 hP hiq hiv hdu
    rintro k s ⟨j, bk, d, q, ver, off, cs, rfl, hB, hiv, hiq, hcs, hU, hoff, hdu, hj, rfl⟩
    repeat refine TC.seq ?_
    refine TC.region ?_
    refine t_int rfl rfl rfl rfl ?_
    refine TL.nil ?_
    repeat refine TC.seq ?_
    refine TC.cond rfl (fun hc => ?_) (fun hc => ?_)
    · have hcj : j < ks.length := by have := of_decide_eq_true hc; omega
      clear hc
      have hk := hks _ (List.getElem_mem hcj)
      have hgj := natsR_get hcj
      have htk : ks.take (j + 1) = ks.take j ++ [ks[j]] := List.take_succ_eq_append_getElem hcj
      have hmem : ks[j] ∈ ks := List.getElem_mem hcj
      generalize ks[j] = x at hk hgj htk hmem
      refine TC.skip ?_
      repeat refine TC.seq ?_
      refine TC.block ?_
      repeat refine TC.seq ?_
      refine TC.region ?_
      refine t_indexD rfl rfl rfl (Int.natCast_nonneg j) hgj rfl ?_
      first | refine t_loadDc rfl rfl rfl ?_ | refine t_loadLc rfl rfl rfl rfl ?_ | refine t_loadRc rfl rfl rfl rfl ?_
      refine t_assign rfl rfl ?_
      refine TL.nil ?_
      by_cases hxf : x = fr
      · subst hxf
        repeat refine TC.seq ?_
        refine TC.region ?_
        refine t_move rfl rfl ?_
        refine t_move rfl rfl ?_
        (refine t_int rfl rfl rfl (r := .bool true) (by show some (D.bool ((x : Int) == (x : Int))) = _; rw [beq_self_eq_true]) ?_)
        refine TL.nil ?_
        repeat refine TC.seq ?_
        refine TC.cond rfl (fun hc => ?_) (fun hc => by cases hc)
        have hmin := fun L h0 hw => hB.least hes L h0 hw
        repeat refine TC.seq ?_
        refine TC.region ?_
        refine t_move rfl rfl ?_
        refine t_buildRow rfl rfl rfl (by rfl) rfl rfl ?_
        refine t_assign rfl rfl ?_
        refine TL.nil ?_
        refine TC.rename [(11, .m (.rsl 2 0 [i].length)), (8, .m (.d (.int .i64 (i : Int)))), (5, .m (.rsl 0 0 es.length)), (1, .m (.d (.int .i64 (x : Int))))] [Ob.row false 1 0 (cellsF es.length (bkF bk)), Ob.row false 1 ver cs, Ob.row false 1 0 (flatM (natsR [i]))] ⟨rfl, rfl, rfl, rfl, trivial⟩ rfl ?_
        repeat refine TC.seq ?_
        refine TC.block ?_
        refine TC.loopB (fun k s => ∃ (a : Nat) (l : List Nat) (v2 : Nat), s = ⟨[(11, .m (.rsl 2 v2 l.length)), (8, .m (.d (.int .i64 (a : Int)))), (5, .m (.rsl 0 0 es.length)), (1, .m (.d (.int .i64 (x : Int))))], [], [Ob.row false 1 0 (cellsF es.length (bkF bk)), Ob.row false 1 ver cs, Ob.row false 1 v2 (flatM (natsR l))]⟩ ∧
            Tr es i l a ∧ a < es.length ∧ (a = x ∨ 0 ≤ bk a) ∧ l.length + d a = d i + 1 ∧ k = d a) (d i) _
          ⟨i, [i], 0, rfl, .one, hi, hiv, by simp; omega, rfl⟩ ⟨rfl, rfl, rfl, rfl, trivial⟩ ?_
        rintro k s ⟨a, l, v2, rfl, hT, ha, hav, hla, rfl⟩
        have hdi : d i ≤ 14 := by have := hdu i; omega
        by_cases hax : a = x
        · subst hax
          repeat refine TC.seq ?_
          refine TC.region ?_
          refine t_move rfl rfl ?_
          refine t_move rfl rfl ?_
          (refine t_int rfl rfl rfl (r := .bool false) (by show some (D.bool ((a : Int) != (a : Int))) = _; simp) ?_)
          refine TL.nil ?_
          repeat refine TC.seq ?_
          refine TC.cond rfl (fun hc => by cases hc) (fun hc => ?_)
          refine TC.exit ?_
          have hd0 := hB.d0
          have hw := hT.way (hke ▸ hmem) (fun L h0 hw => by have := hmin L h0 hw; omega)
          have hrev := rev_ok l.length (natF l) (fun k => ⟨_, rfl⟩) 2 v2 [Ob.row false 1 0 (cellsF es.length (bkF bk)), Ob.row false 1 ver cs, Ob.row false 1 v2 (flatM (natsR l))] (by omega) (by rw [flat_nats]; rfl)
          rw [natF_rev] at hrev
          repeat refine TC.seq ?_
          refine TC.region ?_
          refine t_move rfl rfl ?_
          (refine t_callR hrev rfl rfl ?_; rintro _ _ rfl)
          refine TL.nil ?_
          refine TC.freezeRow 2 (by rfl) ?_
          refine TC.viewSlot 11 (m := .rsl 2 v2 l.length) (x := .sl (natsR l.reverse)) rfl ?_ ?_
          · refine Acc.view (n := 1) (i := 2) (.inr ⟨?_, v2, ?_, rfl⟩) (natsR_lens _)
            · intro h; have := congrArg List.length h; rw [natsR_len, List.length_reverse] at this; have h2 := hT.pos; rw [List.length_nil] at this; omega
            · rw [natsR_len, List.length_reverse]
          repeat refine TC.seq ?_
          refine TC.region ?_
          refine t_move rfl rfl ?_
          refine t_assign rfl rfl ?_
          refine TL.nil ?_
          exact TC.ret ⟨_, rfl, [_], rfl, _, rfl, hw⟩
        · repeat refine TC.seq ?_
          refine TC.region ?_
          refine t_move rfl rfl ?_
          refine t_move rfl rfl ?_
          (refine t_int rfl rfl rfl (r := .bool true) (by show some (D.bool ((a : Int) != (x : Int))) = _; rw [show ((a : Int) != (x : Int)) = true by simp; omega]) ?_)
          refine TL.nil ?_
          repeat refine TC.seq ?_
          refine TC.cond rfl (fun hc => ?_) (fun hc => by cases hc)
          have hba : 0 ≤ bk a := by rcases hav with h | h; exact absurd h hax; exact h
          obtain ⟨p, hp1, hp2, hp3, hp4, hp5⟩ := hB.par a ha hba
          have hgp : (cellsF es.length (bkF bk))[((a : Nat) : Int).toNat * 1]? = some (.d (.int .i64 (p : Int))) := by rw [cellsF_get ha]; simp only [bkF]; rw [hp1]
          refine TC.skip ?_
          repeat refine TC.seq ?_
          refine TC.block ?_
          repeat refine TC.seq ?_
          refine TC.region ?_
          refine t_move rfl rfl ?_
          refine t_move rfl rfl ?_
          refine t_indexR rfl rfl rfl rfl (by omega) (by omega) ?_
          refine t_loadWc rfl rfl rfl hgp ?_
          refine t_assign rfl rfl ?_
          refine TL.nil ?_
          repeat refine TC.seq ?_
          refine TC.region ?_
          refine t_move rfl rfl ?_
          refine t_move rfl rfl ?_
          refine t_buildSlice rfl rfl rfl rfl rfl rfl rfl rfl ?_
          refine t_appendR rfl rfl rfl rfl (by rfl) (by exact one_len rfl) (by simp; omega) (by simp; omega) ?_
          refine t_assign rfl rfl ?_
          refine TL.nil ?_
          exact again (k' := d p) (by omega) ⟨p, l ++ [p], v2 + 1, rfl, hT.snoc hp4, hp2, hp3, by simp; omega, rfl⟩ (by rw [natsR_append]; simp [flatM]; rfl) ⟨by simp; rfl, rfl, rfl, rfl, trivial⟩
      · repeat refine TC.seq ?_
        refine TC.region ?_
        refine t_move rfl rfl ?_
        refine t_move rfl rfl ?_
        (refine t_int rfl rfl rfl (r := .bool false) (by show some (D.bool ((x : Int) == (fr : Int))) = _; rw [show ((x : Int) == (fr : Int)) = false by simp; omega]) ?_)
        refine TL.nil ?_
        repeat refine TC.seq ?_
        refine TC.cond rfl (fun hc => by cases hc) (fun hc => ?_)
        refine TC.skip ?_
        rcases Int.lt_or_le (bk x) 0 with hbx | hbx
        · repeat refine TC.seq ?_
          refine TC.region ?_
          refine t_move rfl rfl ?_
          refine t_move rfl rfl ?_
          refine t_indexR rfl rfl rfl rfl (by omega) (by omega) ?_
          refine t_loadWc (m := .d (.int .i64 (bk x))) rfl rfl rfl (cellsF_get hk) ?_
          (refine t_int rfl rfl rfl rfl ?_; rw [show decide (bk x < 0) = true from decide_eq_true hbx])
          refine TL.nil ?_
          repeat refine TC.seq ?_
          refine TC.cond rfl (fun hc => ?_) (fun hc => by cases hc)
          have hwr : writeAt (cellsF es.length (bkF bk)) (((x : Nat) : Int).toNat * 1) [.d (.int .i64 (i : Int))] = some (cellsF es.length (bkF (upd bk x (i : Int)))) := cellsF_write hk (by simp only [bkF]; rw [upd_self]) (fun j _ hj => by simp only [bkF]; rw [upd_ne _ _ hj])
          have hB2 := hB.add hi hiv hiq hk (hke ▸ hmem) hxf hbx
          have hix : i ≠ x := by rintro rfl; rcases hiv with e | e; exact hxf e; omega
          have huv := unv_upd (v := (i : Int)) hk hxf hbx (Int.natCast_nonneg i)
          repeat refine TC.seq ?_
          refine TC.region ?_
          refine t_move rfl rfl ?_
          refine t_move rfl rfl ?_
          refine t_move rfl rfl ?_
          refine t_indexR rfl rfl rfl rfl (by omega) (by omega) ?_
          refine t_storeW rfl rfl rfl rfl rfl hwr ?_
          refine TL.nil ?_
          repeat refine TC.seq ?_
          refine TC.region ?_
          refine t_move rfl rfl ?_
          refine t_move rfl rfl ?_
          refine t_buildSlice rfl rfl rfl rfl rfl rfl rfl rfl ?_
          (refine t_appendTl rfl rfl rfl rfl rfl (by exact one_len rfl) (by simp) (by simp; omega) (by simp; omega) ?_; intro off' cs' hd' hl' ho')
          refine t_assign rfl rfl ?_
          refine TL.nil ?_
          repeat refine TC.seq ?_
          refine TC.region ?_
          refine t_add64 rfl rfl rfl (by omega) ?_
          refine t_move rfl rfl ?_
          refine TL.nil ?_
          refine again (k' := ks.length - (j + 1)) (by omega) ⟨j + 1, upd bk x (i : Int), upd d x (d i + 1), q ++ [x], ver + 1, off', cs', rfl, by rw [htk]; exact hB2, ?_, ?_, ?_, ?_, ?_, ?_, by omega, rfl⟩ rfl ⟨by simp; rfl, rfl, rfl, rfl, by simp; rfl, rfl, rfl, rfl, trivial⟩
          · rcases hiv with e | e; exact .inl e; exact .inr (by rw [upd_ne _ _ hix]; exact e)
          · simp [hiq, hix]
          · rw [hd', hcs, natsR_append]; simp [flatM]; rfl
          · simp; omega
          · simp; omega
          · intro v
            by_cases e : v = x
            · subst e; rw [upd_self]; have := hdu i; omega
            · rw [upd_ne _ _ e]; have := hdu v; omega
        · repeat refine TC.seq ?_
          refine TC.region ?_
          refine t_move rfl rfl ?_
          refine t_move rfl rfl ?_
          refine t_indexR rfl rfl rfl rfl (by omega) (by omega) ?_
          refine t_loadWc (m := .d (.int .i64 (bk x))) rfl rfl rfl (cellsF_get hk) ?_
          (refine t_int rfl rfl rfl rfl ?_; rw [show decide (bk x < 0) = false from decide_eq_false (by omega)])
          refine TL.nil ?_
          repeat refine TC.seq ?_
          refine TC.cond rfl (fun hc => by cases hc) (fun hc => ?_)
          refine TC.skip ?_
          repeat refine TC.seq ?_
          refine TC.region ?_
          refine t_add64 rfl rfl rfl (by omega) ?_
          refine t_move rfl rfl ?_
          refine TL.nil ?_
          exact again (k' := ks.length - (j + 1)) (by omega) ⟨j + 1, bk, d, q, ver, off, cs, rfl, by rw [htk]; exact hB.seen hk hxf hbx, hiv, hiq, hcs, hU, hoff, hdu, by omega, rfl⟩ rfl ⟨by simp; rfl, rfl, rfl, rfl, rfl, rfl, rfl, rfl, trivial⟩
    · refine TC.exit ?_
      have hcj : j = ks.length := by have := of_decide_eq_false hc; omega
      subst hcj
      rw [List.take_length] at hB
      exact again (k' := unv es.length fr bk + q.length) (by omega) ⟨bk, d, d i, q, ver, off, cs, rfl, hB.done (fun k hk => hke ▸ hk), hcs, hoff, hdu, rfl⟩ rfl ⟨rfl, rfl, rfl, rfl, trivial⟩
end Go.Proofs
