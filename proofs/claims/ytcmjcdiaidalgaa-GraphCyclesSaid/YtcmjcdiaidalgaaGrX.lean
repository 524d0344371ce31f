/- GraphCycles: a way from an equation to itself is one, and a shortest. -/
import Derived.Test.YtcmjcdiaidalgaaGrW
namespace Go.Proofs
open Go.Mt Go.Gr
set_option maxRecDepth 4000
set_option linter.unusedSimpArgs false
set_option linter.unusedVariables false

theorem way_lt {es : List (List Nat)} {fr : Nat} {l : List Nat} (h : WayOk es fr l) {t x : Nat} (hx : l[t]? = some x) : x < es.length := by
  rcases h with ⟨rfl, _⟩ | ⟨_, _, h, _⟩
  · simp at hx
  · obtain ⟨y, _, hy⟩ := h t x hx
    rcases Nat.lt_or_ge x es.length with h1 | h1
    · exact h1
    · rw [List.getD_eq_getElem?_getD, List.getElem?_eq_none h1] at hy; simp at hy
theorem TC.anyBx2 {X : Ctx} {c : Code} {q : Exit → St → Prop} {sl : List (Nat × V)} {bx bx' : List (Nat × List M)} {H : Hp} (h : ∀ t, get bx' t = get bx t) (k : TC X c ⟨sl, bx', H⟩ q) : TC X c ⟨sl, bx, H⟩ q := TC.reBx bx' h k
theorem cyc_end {es : List (List Nat)} {F : Nat → Nat → Nat} {l : List Nat} (hend : ∀ i, (F i i = 0 ∧ ∀ L, 0 < L → ¬ Wk es L i i) ∨ (0 < F i i ∧ Wk es (F i i) i i ∧ ∀ L, 0 < L → Wk es L i i → F i i ≤ L)) (hl : CycOk es l) {i : Nat} (hi : i < es.length) (hz : ∀ j, j < i → F j j = 0) (hp : 0 < F i i) :
    0 < l.length ∧ l.length = F i i ∧ WayOk es i l ∧ l[0]? = some i := by
  have h1 : Wk es (F i i) i i ∧ ∀ L, 0 < L → Wk es L i i → F i i ≤ L := by
    rcases hend i with ⟨h, _⟩ | ⟨_, h⟩
    · omega
    · exact h
  rcases hl with ⟨_, h⟩ | ⟨h0, i', hi', hno, hw⟩
  · exact absurd h1.1 (h i hi _ hp)
  · have hw2 := hw
    rcases hw2 with ⟨rfl, _⟩ | ⟨_, h3, h4, h5, h6⟩
    · simp at h0
    · have e : i' = i := by
        rcases Nat.lt_trichotomy i' i with h | h | h
        · exfalso
          rcases hend i' with ⟨_, h7⟩ | ⟨h7, _⟩
          · exact h7 _ h0 h5
          · have := hz i' h; omega
        · exact h
        · exact absurd h1.1 (hno i h _ hp)
      subst e
      have := h1.2 _ h0 h5
      have := h6 _ hp h1.1
      exact ⟨h0, by omega, hw, h3⟩
theorem cyc_none {es : List (List Nat)} {F : Nat → Nat → Nat} {l : List Nat} (hend : ∀ i, (F i i = 0 ∧ ∀ L, 0 < L → ¬ Wk es L i i) ∨ (0 < F i i ∧ Wk es (F i i) i i ∧ ∀ L, 0 < L → Wk es L i i → F i i ≤ L)) (hl : CycOk es l) (hz : ∀ j, j < es.length → F j j = 0) : l = [] := by
  rcases hl with ⟨h, _⟩ | ⟨h0, i', hi', _, hw⟩
  · exact h
  · rcases hw with ⟨h, _⟩ | ⟨_, _, _, h5, _⟩
    · exact h
    · exfalso
      rcases hend i' with ⟨_, h7⟩ | ⟨h7, _⟩
      · exact h7 _ h0 h5
      · have := hz i' hi'; omega
/-- the table, walked -/
theorem GraphCycles_true (zs0 : List Int) (v0 : D) (hin0 : InI .u16 zs0 v0) : PT Try.prog 4 [v0] (· = [.bool true]) := by
  have hch := chain_ok zs0 v0 hin0
  have hw : ∀ x ∈ zs0.take 14, 0 ≤ x ∧ x < 65536 := fun x hx => wfU16 (hin0.2.2 x (List.mem_of_mem_take hx))
  have hxn : (zs0.take 14).length ≤ 14 := by rw [List.length_take]; omega
  generalize zs0.take 14 = xs at hch hw hxn
  have hes := esL_lt xs
  have hsm := esL_small hw hxn
  have hn : (esL xs).length ≤ 14 := by rw [esL_len]; exact hxn
  have hed := edges_ok xs hw hxn
  have hcy := Cycle_ok xs hw hxn
  generalize esL xs = es at hes hsm hn hed hcy
  refine PT.of_CT (CT.of_body Try.func4 rfl Try.ntmps4 rfl fun s0 Oo => ?_)
  refine TC.base fun hbase => ?_
  repeat refine TC.seq ?_
  refine TC.region ?_
  refine t_assign rfl rfl ?_
  refine TL.nil ?_
  repeat refine TC.seq ?_
  refine TC.region ?_
  refine t_call1 graphAwake rfl rfl ?_
  refine t_not rfl rfl ?_
  refine TL.nil ?_
  repeat refine TC.seq ?_
  refine TC.cond rfl (fun hc => by cases hc) (fun hc => ?_)
  refine TC.skip ?_
  repeat refine TC.seq ?_
  refine TC.region ?_
  refine t_move rfl rfl ?_
  refine t_call1 hch rfl rfl ?_
  refine t_alloc rfl rfl ?_
  refine t_storeL rfl rfl rfl rfl rfl rfl ?_
  refine TL.nil ?_
  repeat refine TC.seq ?_
  refine TC.region ?_
  first | refine t_loadDw rfl rfl rfl ?_ | refine t_loadDa rfl rfl rfl ?_ | refine t_loadLa rfl rfl rfl rfl rfl ?_ | refine t_loadRa rfl rfl rfl rfl rfl ?_
  refine t_call1 hed rfl rfl ?_
  refine t_assign rfl rfl ?_
  refine TL.nil ?_
  repeat refine TC.seq ?_
  refine TC.region ?_
  refine t_move rfl rfl ?_
  (refine t_lenS rfl rfl rfl ?_; rw [rowsL_len])
  refine t_assign rfl rfl ?_
  refine TL.nil ?_
  repeat refine TC.seq ?_
  refine TC.region ?_
  refine t_move rfl rfl ?_
  refine t_makeSlice (len := es.length) rfl rfl rfl rfl (by rfl) (by omega) (by omega) ?_
  refine t_assign rfl rfl ?_
  refine TL.nil ?_
  repeat refine TC.seq ?_
  refine TC.region ?_
  refine t_assign rfl rfl ?_
  refine TL.nil ?_
  refine TC.rename [(7, .m (.d (.int .i64 ((0 : Nat) : Int)))), (6, .m (.rsl 0 0 es.length)), (5, .m (.d (.int .i64 (es.length : Nat)))), (4, .m (.d (.sl (rowsL es)))), (3, .loc 3 0)] (HT es.length (Fb es 0 0) 0) ⟨rfl, rfl, rfl, rfl, rfl, trivial⟩ (by rw [show dcells (D.sl []) = [D.sl []] from rfl, zlist1]; rfl) ?_
  repeat refine TC.seq ?_
  refine TC.mid ⟨[(6, .m (.rsl 0 0 es.length)), (5, .m (.d (.int .i64 (es.length : Nat)))), (4, .m (.d (.sl (rowsL es)))), (3, .loc 3 0)], [(3, (chainC xs).map .d)], HT es.length (Fb es es.length 0) es.length⟩ ?_ ?_
  · refine TC.block ?_
    refine TC.anyBx2 (bx' := [(3, (chainC xs).map .d)]) (by intro t; simp only [Go.Mt.get]; cases Nat.beq 3 t <;> rfl) ?_
    refine TC.loopB (fun k s => ∃ (i : Nat), s = ⟨[(7, .m (.d (.int .i64 (i : Int)))), (6, .m (.rsl 0 0 es.length)), (5, .m (.d (.int .i64 (es.length : Nat)))), (4, .m (.d (.sl (rowsL es)))), (3, .loc 3 0)], [(3, (chainC xs).map .d)], HT es.length (Fb es i 0) i⟩ ∧ i ≤ es.length ∧ k = es.length - i) es.length _
      ⟨0, rfl, by omega, rfl⟩ ⟨rfl, rfl, rfl, rfl, rfl, trivial⟩ ?_
    rintro k s ⟨i, rfl, hi, rfl⟩
    repeat refine TC.seq ?_
    refine TC.region ?_
    refine t_move rfl rfl ?_
    refine t_move rfl rfl ?_
    refine t_int rfl rfl rfl rfl ?_
    refine TL.nil ?_
    repeat refine TC.seq ?_
    refine TC.cond rfl (fun hc => ?_) (fun hc => ?_)
    · have hc' : i < es.length := by have := of_decide_eq_true hc; omega
      clear hc
      have hrow := rowsL_get hc'
      have hlenH := HT_len es.length (Fb es i 0) i
      have hz := HT_snoc (n := es.length) (Fb es i 0) (i := i) (Fb_zero es i)
      have hlast := fun j (hj : (es.getD i []).length ≤ j) => Fb_next es i hj
      have hstep := fun j (hj : j < (es.getD i []).length) => Fb_step es i hj
      have hks : ∀ k ∈ es.getD i [], k < es.length := by
        rw [List.getD_eq_getElem?_getD, List.getElem?_eq_getElem hc']
        exact hes _ (List.getElem_mem hc')
      have hksl : (es.getD i []).length ≤ 14 := by
        rw [List.getD_eq_getElem?_getD, List.getElem?_eq_getElem hc']
        exact hsm _ (List.getElem_mem hc')
      generalize es.getD i [] = ks at hrow hks hksl hlast hstep
      refine TC.skip ?_
      repeat refine TC.seq ?_
      refine TC.block ?_
      repeat refine TC.seq ?_
      refine TC.region ?_
      refine t_move rfl rfl ?_
      refine t_move rfl rfl ?_
      refine t_move rfl rfl ?_
      (refine t_makeSlice (len := es.length) rfl rfl rfl rfl (by rfl) (by omega) (by omega) ?_; rw [hlenH, show dcells (D.int .i64 0) = [D.int .i64 0] from rfl, zlist1])
      refine t_indexR rfl rfl rfl (by exact rfl) (by omega) (by omega) ?_
      (refine t_storeW rfl rfl (by exact rfl) rfl rfl (outP_write hc') ?_; rw [hz])
      refine TL.nil ?_
      repeat refine TC.seq ?_
      refine TC.region ?_
      refine t_assign rfl rfl ?_
      refine TL.nil ?_
      refine TC.rename [(8, .m (.d (.int .i64 ((0 : Nat) : Int)))), (7, .m (.d (.int .i64 (i : Int)))), (6, .m (.rsl 0 0 es.length)), (5, .m (.d (.int .i64 (es.length : Nat)))), (4, .m (.d (.sl (rowsL es)))), (3, .loc 3 0)] (HT es.length (Fb es i 0) (i + 1)) ⟨rfl, rfl, rfl, rfl, rfl, rfl, trivial⟩ rfl ?_
      repeat refine TC.seq ?_
      refine TC.block ?_
      refine TC.loopB (fun k s => ∃ (j : Nat), s = ⟨[(8, .m (.d (.int .i64 (j : Int)))), (7, .m (.d (.int .i64 (i : Int)))), (6, .m (.rsl 0 0 es.length)), (5, .m (.d (.int .i64 (es.length : Nat)))), (4, .m (.d (.sl (rowsL es)))), (3, .loc 3 0)], [(3, (chainC xs).map .d)], HT es.length (Fb es i j) (i + 1)⟩ ∧ j ≤ ks.length ∧ k = ks.length - j) ks.length _
        ⟨0, rfl, by omega, rfl⟩ ⟨rfl, rfl, rfl, rfl, rfl, rfl, trivial⟩ ?_
      rintro k s ⟨j, rfl, hj, rfl⟩
      repeat refine TC.seq ?_
      refine TC.region ?_
      refine t_move rfl rfl ?_
      refine t_move rfl rfl ?_
      refine t_move rfl rfl ?_
      refine t_indexD rfl rfl rfl (Int.natCast_nonneg i) hrow rfl ?_
      first | refine t_loadDc rfl rfl rfl ?_ | refine t_loadLc rfl rfl rfl rfl ?_ | refine t_loadRc rfl rfl rfl rfl ?_
      (refine t_lenS rfl rfl rfl ?_; rw [natsR_len])
      refine t_int rfl rfl rfl rfl ?_
      refine TL.nil ?_
      repeat refine TC.seq ?_
      refine TC.cond rfl (fun hc => ?_) (fun hc => ?_)
      · have hcj : j < ks.length := by have := of_decide_eq_true hc; omega
        clear hc
        have hst := hstep j hcj
        have hq := hks _ (List.getElem_mem hcj)
        have hgj := natsR_get hcj
        generalize ks[j] = x at hst hq hgj
        generalize Fb es i j = F at hst
        refine TC.skip ?_
        repeat refine TC.seq ?_
        refine TC.block ?_
        repeat refine TC.seq ?_
        refine TC.draw mixed ?_
        refine f_move rfl rfl ?_
        refine f_move rfl rfl ?_
        refine f_indexR rfl rfl rfl (HT_out _ _ _) (by omega) (by omega) ?_
        refine f_loadWc rfl rfl (HT_out _ _ _) (outP_get (by omega) hc') ?_
        refine f_move rfl rfl ?_
        refine f_move rfl rfl ?_
        refine f_indexD rfl rfl rfl (Int.natCast_nonneg i) hrow rfl ?_
        first | refine f_loadDc rfl rfl rfl ?_ | refine f_loadLc rfl rfl rfl rfl ?_ | refine f_loadRc rfl rfl rfl rfl ?_
        refine f_move rfl rfl ?_
        refine f_indexD rfl rfl rfl (Int.natCast_nonneg j) hgj rfl ?_
        first | refine f_loadDc rfl rfl rfl ?_ | refine f_loadLc rfl rfl rfl rfl ?_ | refine f_loadRc rfl rfl rfl rfl ?_
        refine f_indexR rfl rfl rfl (HT_row F (by omega)) (by omega) (by omega) ?_
        (refine f_storeW rfl rfl (HT_row F (by omega)) rfl rfl (rowT_write F i 1 hq) ?_; rw [HT_set F x 1 (by omega), ← hst])
        refine TF.nil ⟨by kernel_rfl, ?_⟩
        repeat refine TC.seq ?_
        refine TC.region ?_
        refine t_move rfl rfl ?_
        refine t_add64 rfl rfl rfl (by omega) ?_
        refine t_assign rfl rfl ?_
        refine TL.nil ?_
        exact again (k' := ks.length - (j + 1)) (by omega) ⟨j + 1, rfl, by omega, rfl⟩ rfl ⟨by simp; rfl, rfl, rfl, rfl, rfl, rfl, trivial⟩
      · refine TC.exit ?_
        have hcj : j = ks.length := by have := of_decide_eq_false hc; omega
        rw [hlast j (by omega)]
        repeat refine TC.seq ?_
        refine TC.region ?_
        refine t_move rfl rfl ?_
        refine t_add64 rfl rfl rfl (by omega) ?_
        refine t_assign rfl rfl ?_
        refine TL.nil ?_
        exact again (k' := es.length - (i + 1)) (by omega) ⟨i + 1, rfl, by omega, rfl⟩ rfl ⟨by simp; rfl, rfl, rfl, rfl, rfl, trivial⟩
    · refine TC.exit ?_
      have hc' : i = es.length := by have := of_decide_eq_false hc; omega
      subst hc'
      exact down rfl ⟨rfl, rfl, rfl, rfl, trivial⟩
  generalize hch3 : (chainC xs).map M.d = CC
  repeat refine TC.seq ?_
  refine TC.region ?_
  refine t_assign rfl rfl ?_
  refine TL.nil ?_
  refine TC.rename [(9, .m (.d (.int .i64 ((0 : Nat) : Int)))), (6, .m (.rsl 0 0 es.length)), (5, .m (.d (.int .i64 (es.length : Nat)))), (4, .m (.d (.sl (rowsL es)))), (3, .loc 3 0)] (HT es.length (Fb es es.length 0) es.length) ⟨rfl, rfl, rfl, rfl, rfl, trivial⟩ rfl ?_
  repeat refine TC.seq ?_
  refine TC.block ?_
  refine TC.loopB (fun m s => ∃ (k : Nat) (F : Nat → Nat → Nat), s = ⟨[(9, .m (.d (.int .i64 (k : Int)))), (6, .m (.rsl 0 0 es.length)), (5, .m (.d (.int .i64 (es.length : Nat)))), (4, .m (.d (.sl (rowsL es)))), (3, .loc 3 0)], [(3, CC)], HT es.length F es.length⟩ ∧ k ≤ es.length ∧ Snd es F ∧ Cmp es k F ∧ (∀ a b, F a b ≤ 2 ^ k) ∧ m = es.length - k) es.length _
    ⟨0, _, rfl, by omega, Fb_snd es _, Fb_cmp es, fun a b => by have := Fb_le es es.length a b; simpa using this, rfl⟩ ⟨rfl, rfl, rfl, rfl, rfl, trivial⟩ ?_
  rintro m s ⟨k, F, rfl, hk0, hS, hC, hbd, rfl⟩
  repeat refine TC.seq ?_
  refine TC.region ?_
  refine t_move rfl rfl ?_
  refine t_move rfl rfl ?_
  refine t_int rfl rfl rfl rfl ?_
  refine TL.nil ?_
  repeat refine TC.seq ?_
  refine TC.cond rfl (fun hc => ?_) (fun hc => ?_)
  · have hk : k < es.length := by have := of_decide_eq_true hc; omega
    clear hc
    obtain ⟨B, hB⟩ : ∃ B, B = 2 ^ k := ⟨_, rfl⟩
    have hB2 : 2 ^ (k + 1) = 2 * B := by rw [Nat.pow_succ, hB]; omega
    have hBl : B ≤ 2 ^ 14 := by rw [hB]; exact Nat.pow_le_pow_right (by omega) (by omega)
    have hBl2 : B ≤ 16384 := hBl
    rw [← hB] at hbd
    refine TC.skip ?_
    repeat refine TC.seq ?_
    refine TC.block ?_
    repeat refine TC.seq ?_
    refine TC.region ?_
    refine t_assign rfl rfl ?_
    refine TL.nil ?_
    refine TC.rename [(10, .m (.d (.int .i64 ((0 : Nat) : Int)))), (9, .m (.d (.int .i64 (k : Int)))), (6, .m (.rsl 0 0 es.length)), (5, .m (.d (.int .i64 (es.length : Nat)))), (4, .m (.d (.sl (rowsL es)))), (3, .loc 3 0)] (HT es.length F es.length) ⟨rfl, rfl, rfl, rfl, rfl, rfl, trivial⟩ rfl ?_
    repeat refine TC.seq ?_
    refine TC.block ?_
    refine TC.loopB (fun m s => ∃ (i : Nat) (F : Nat → Nat → Nat), s = ⟨[(10, .m (.d (.int .i64 (i : Int)))), (9, .m (.d (.int .i64 (k : Int)))), (6, .m (.rsl 0 0 es.length)), (5, .m (.d (.int .i64 (es.length : Nat)))), (4, .m (.d (.sl (rowsL es)))), (3, .loc 3 0)], [(3, CC)], HT es.length F es.length⟩ ∧ i ≤ es.length ∧ (Snd es F ∧ Cmp es k F ∧ Bd k B F) ∧ (∀ a b, a < i → b < es.length → Via es k F a b) ∧ m = es.length - i) es.length _
      ⟨0, F, rfl, by omega, ⟨hS, hC, fun a => hbd _ _, fun b => hbd _ _, fun a b => by have := hbd a b; omega⟩, fun a b h => by omega, rfl⟩ ⟨rfl, rfl, rfl, rfl, rfl, rfl, trivial⟩ ?_
    clear hS hC hbd F
    rintro m s ⟨i, F, rfl, hi0, hI, hV, rfl⟩
    repeat refine TC.seq ?_
    refine TC.region ?_
    refine t_move rfl rfl ?_
    refine t_move rfl rfl ?_
    refine t_int rfl rfl rfl rfl ?_
    refine TL.nil ?_
    repeat refine TC.seq ?_
    refine TC.cond rfl (fun hc => ?_) (fun hc => ?_)
    · have hi : i < es.length := by have := of_decide_eq_true hc; omega
      clear hc
      refine TC.skip ?_
      repeat refine TC.seq ?_
      refine TC.block ?_
      repeat refine TC.seq ?_
      refine TC.region ?_
      refine t_assign rfl rfl ?_
      refine TL.nil ?_
      refine TC.rename [(11, .m (.d (.int .i64 ((0 : Nat) : Int)))), (10, .m (.d (.int .i64 (i : Int)))), (9, .m (.d (.int .i64 (k : Int)))), (6, .m (.rsl 0 0 es.length)), (5, .m (.d (.int .i64 (es.length : Nat)))), (4, .m (.d (.sl (rowsL es)))), (3, .loc 3 0)] (HT es.length F es.length) ⟨rfl, rfl, rfl, rfl, rfl, rfl, rfl, trivial⟩ rfl ?_
      repeat refine TC.seq ?_
      refine TC.block ?_
      refine TC.loopB (fun m s => ∃ (j : Nat) (F : Nat → Nat → Nat), s = ⟨[(11, .m (.d (.int .i64 (j : Int)))), (10, .m (.d (.int .i64 (i : Int)))), (9, .m (.d (.int .i64 (k : Int)))), (6, .m (.rsl 0 0 es.length)), (5, .m (.d (.int .i64 (es.length : Nat)))), (4, .m (.d (.sl (rowsL es)))), (3, .loc 3 0)], [(3, CC)], HT es.length F es.length⟩ ∧ j ≤ es.length ∧ (Snd es F ∧ Cmp es k F ∧ Bd k B F) ∧ (∀ a b, a < i ∨ (a = i ∧ b < j) → b < es.length → Via es k F a b) ∧ m = es.length - j) es.length _
        ⟨0, F, rfl, by omega, hI, fun a b h hb => hV a b (by omega) hb, rfl⟩ ⟨rfl, rfl, rfl, rfl, rfl, rfl, rfl, trivial⟩ ?_
      clear hI hV F
      rintro m s ⟨j, F, rfl, hj0, ⟨hS, hC, hbd⟩, hV, rfl⟩
      repeat refine TC.seq ?_
      refine TC.region ?_
      refine t_move rfl rfl ?_
      refine t_move rfl rfl ?_
      refine t_int rfl rfl rfl rfl ?_
      refine TL.nil ?_
      repeat refine TC.seq ?_
      refine TC.cond rfl (fun hc => ?_) (fun hc => ?_)
      · have hj : j < es.length := by have := of_decide_eq_true hc; omega
        clear hc
        have hb1 := hbd.1 i
        have hb2 := hbd.2.1 j
        have hnext : ∃ (j' : Nat) (F' : Nat → Nat → Nat), (⟨[(11, .m (.d (.int .i64 ((j + 1 : Nat) : Int)))), (10, .m (.d (.int .i64 (i : Int)))), (9, .m (.d (.int .i64 (k : Int)))), (6, .m (.rsl 0 0 es.length)), (5, .m (.d (.int .i64 (es.length : Nat)))), (4, .m (.d (.sl (rowsL es)))), (3, .loc 3 0)], [(3, CC)], HT es.length (fwS F k i j) es.length⟩ : St) = ⟨[(11, .m (.d (.int .i64 (j' : Int)))), (10, .m (.d (.int .i64 (i : Int)))), (9, .m (.d (.int .i64 (k : Int)))), (6, .m (.rsl 0 0 es.length)), (5, .m (.d (.int .i64 (es.length : Nat)))), (4, .m (.d (.sl (rowsL es)))), (3, .loc 3 0)], [(3, CC)], HT es.length F' es.length⟩ ∧ j' ≤ es.length ∧ (Snd es F' ∧ Cmp es k F' ∧ Bd k B F') ∧ (∀ a b, a < i ∨ (a = i ∧ b < j') → b < es.length → Via es k F' a b) ∧ es.length - (j + 1) = es.length - j' := by
          refine ⟨j + 1, fwS F k i j, rfl, by omega, ⟨fwS_snd hS, fwS_cmp hC, fwS_bd hbd⟩, fun a b h hb => ?_, rfl⟩
          by_cases e : a = i ∧ b = j
          · obtain ⟨rfl, rfl⟩ := e
            exact fwS_via hC
          · exact fwS_via2 (hV a b (by omega) hb)
        refine TC.skip ?_
        repeat refine TC.seq ?_
        refine TC.block ?_
        rcases Nat.eq_zero_or_pos (F i k) with z1 | z1
        · skip
          repeat refine TC.seq ?_
          refine TC.draw mixed ?_
          refine f_move rfl rfl ?_
          refine f_move rfl rfl ?_
          refine f_indexR rfl rfl rfl (HT_out _ _ _) (by omega) (by omega) ?_
          refine f_loadWc rfl rfl (HT_out _ _ _) (outP_get hi hi) ?_
          refine f_move rfl rfl ?_
          refine f_indexR rfl rfl rfl (HT_row F hi) (by omega) (by omega) ?_
          refine f_loadWc (m := .d (.int .i64 ((F i k : Nat) : Int))) rfl rfl (HT_row F hi) (by rw [rowT_get F i hk]) ?_
          (refine f_int rfl rfl rfl rfl ?_; rw [show decide (((F i k : Nat) : Int) > 0) = false from decide_eq_false (by omega)])
          refine f_move rfl rfl ?_
          first | refine f_guard_no rfl rfl rfl rfl ?_ | refine f_guard_un rfl rfl rfl ?_ | (refine f_guard_yes rfl rfl ?_; (refine f_move rfl rfl ?_))
          first | refine f_guard_no rfl rfl rfl rfl ?_ | refine f_guard_un rfl rfl rfl ?_ | (refine f_guard_yes rfl rfl ?_; (refine f_move rfl rfl ?_))
          first | refine f_guard_no rfl rfl rfl rfl ?_ | refine f_guard_un rfl rfl rfl ?_ | (refine f_guard_yes rfl rfl ?_; (refine f_indexR rfl rfl rfl (HT_out _ _ _) (by omega) (by omega) ?_))
          first | refine f_guard_no rfl rfl rfl rfl ?_ | refine f_guard_un rfl rfl rfl ?_ | (refine f_guard_yes rfl rfl ?_; (refine f_loadWc rfl rfl (HT_out _ _ _) (outP_get hk hk) ?_))
          first | refine f_guard_no rfl rfl rfl rfl ?_ | refine f_guard_un rfl rfl rfl ?_ | (refine f_guard_yes rfl rfl ?_; (refine f_move rfl rfl ?_))
          first | refine f_guard_no rfl rfl rfl rfl ?_ | refine f_guard_un rfl rfl rfl ?_ | (refine f_guard_yes rfl rfl ?_; (refine f_indexR rfl rfl rfl (HT_row F hk) (by omega) (by omega) ?_))
          first | refine f_guard_no rfl rfl rfl rfl ?_ | refine f_guard_un rfl rfl rfl ?_ | (refine f_guard_yes rfl rfl ?_; (refine f_loadWc (m := .d (.int .i64 ((F k j : Nat) : Int))) rfl rfl (HT_row F hk) (by rw [rowT_get F k hj]) ?_))
          first | refine f_guard_no rfl rfl rfl rfl ?_ | refine f_guard_un rfl rfl rfl ?_ | (refine f_guard_yes rfl rfl ?_; (refine f_int rfl rfl rfl rfl ?_))
          refine f_pick rfl rfl rfl ?_
          refine f_move rfl rfl ?_
          first | refine f_guard_no rfl rfl rfl rfl ?_ | refine f_guard_un rfl rfl rfl ?_ | (refine f_guard_yes rfl rfl ?_; (refine f_move rfl rfl ?_))
          first | refine f_guard_no rfl rfl rfl rfl ?_ | refine f_guard_un rfl rfl rfl ?_ | (refine f_guard_yes rfl rfl ?_; (refine f_move rfl rfl ?_))
          first | refine f_guard_no rfl rfl rfl rfl ?_ | refine f_guard_un rfl rfl rfl ?_ | (refine f_guard_yes rfl rfl ?_; (refine f_indexR rfl rfl rfl (HT_out _ _ _) (by omega) (by omega) ?_))
          first | refine f_guard_no rfl rfl rfl rfl ?_ | refine f_guard_un rfl rfl rfl ?_ | (refine f_guard_yes rfl rfl ?_; (refine f_loadWc rfl rfl (HT_out _ _ _) (outP_get hi hi) ?_))
          first | refine f_guard_no rfl rfl rfl rfl ?_ | refine f_guard_un rfl rfl rfl ?_ | (refine f_guard_yes rfl rfl ?_; (refine f_move rfl rfl ?_))
          first | refine f_guard_no rfl rfl rfl rfl ?_ | refine f_guard_un rfl rfl rfl ?_ | (refine f_guard_yes rfl rfl ?_; (refine f_indexR rfl rfl rfl (HT_row F hi) (by omega) (by omega) ?_))
          first | refine f_guard_no rfl rfl rfl rfl ?_ | refine f_guard_un rfl rfl rfl ?_ | (refine f_guard_yes rfl rfl ?_; (refine f_loadWc (m := .d (.int .i64 ((F i j : Nat) : Int))) rfl rfl (HT_row F hi) (by rw [rowT_get F i hj]) ?_))
          first | refine f_guard_no rfl rfl rfl rfl ?_ | refine f_guard_un rfl rfl rfl ?_ | (refine f_guard_yes rfl rfl ?_; (refine f_int rfl rfl rfl rfl ?_))
          first | refine f_guard_no rfl rfl rfl rfl ?_ | refine f_guard_un rfl rfl rfl ?_ | (refine f_guard_yes rfl rfl ?_; (refine f_move rfl rfl ?_))
          first | refine f_guard_no rfl rfl rfl rfl ?_ | refine f_guard_un rfl rfl rfl ?_ | (refine f_guard_yes rfl rfl ?_; (refine f_move rfl rfl ?_))
          first | refine f_guard_no rfl rfl rfl rfl ?_ | refine f_guard_un rfl rfl rfl ?_ | (refine f_guard_yes rfl rfl ?_; (refine f_move rfl rfl ?_))
          first | refine f_guard_no rfl rfl rfl rfl ?_ | refine f_guard_un rfl rfl rfl ?_ | (refine f_guard_yes rfl rfl ?_; (refine f_indexR rfl rfl rfl (HT_out _ _ _) (by omega) (by omega) ?_))
          first | refine f_guard_no rfl rfl rfl rfl ?_ | refine f_guard_un rfl rfl rfl ?_ | (refine f_guard_yes rfl rfl ?_; (refine f_loadWc rfl rfl (HT_out _ _ _) (outP_get hi hi) ?_))
          first | refine f_guard_no rfl rfl rfl rfl ?_ | refine f_guard_un rfl rfl rfl ?_ | (refine f_guard_yes rfl rfl ?_; (refine f_move rfl rfl ?_))
          first | refine f_guard_no rfl rfl rfl rfl ?_ | refine f_guard_un rfl rfl rfl ?_ | (refine f_guard_yes rfl rfl ?_; (refine f_indexR rfl rfl rfl (HT_row F hi) (by omega) (by omega) ?_))
          first | refine f_guard_no rfl rfl rfl rfl ?_ | refine f_guard_un rfl rfl rfl ?_ | (refine f_guard_yes rfl rfl ?_; (refine f_loadWc (m := .d (.int .i64 ((F i k : Nat) : Int))) rfl rfl (HT_row F hi) (by rw [rowT_get F i hk]) ?_))
          first | refine f_guard_no rfl rfl rfl rfl ?_ | refine f_guard_un rfl rfl rfl ?_ | (refine f_guard_yes rfl rfl ?_; (refine f_move rfl rfl ?_))
          first | refine f_guard_no rfl rfl rfl rfl ?_ | refine f_guard_un rfl rfl rfl ?_ | (refine f_guard_yes rfl rfl ?_; (refine f_move rfl rfl ?_))
          first | refine f_guard_no rfl rfl rfl rfl ?_ | refine f_guard_un rfl rfl rfl ?_ | (refine f_guard_yes rfl rfl ?_; (refine f_indexR rfl rfl rfl (HT_out _ _ _) (by omega) (by omega) ?_))
          first | refine f_guard_no rfl rfl rfl rfl ?_ | refine f_guard_un rfl rfl rfl ?_ | (refine f_guard_yes rfl rfl ?_; (refine f_loadWc rfl rfl (HT_out _ _ _) (outP_get hk hk) ?_))
          first | refine f_guard_no rfl rfl rfl rfl ?_ | refine f_guard_un rfl rfl rfl ?_ | (refine f_guard_yes rfl rfl ?_; (refine f_move rfl rfl ?_))
          first | refine f_guard_no rfl rfl rfl rfl ?_ | refine f_guard_un rfl rfl rfl ?_ | (refine f_guard_yes rfl rfl ?_; (refine f_indexR rfl rfl rfl (HT_row F hk) (by omega) (by omega) ?_))
          first | refine f_guard_no rfl rfl rfl rfl ?_ | refine f_guard_un rfl rfl rfl ?_ | (refine f_guard_yes rfl rfl ?_; (refine f_loadWc (m := .d (.int .i64 ((F k j : Nat) : Int))) rfl rfl (HT_row F hk) (by rw [rowT_get F k hj]) ?_))
          first | refine f_guard_no rfl rfl rfl rfl ?_ | refine f_guard_un rfl rfl rfl ?_ | (refine f_guard_yes rfl rfl ?_; ((refine f_add64 rfl rfl rfl (by omega) ?_)))
          first | refine f_guard_no rfl rfl rfl rfl ?_ | refine f_guard_un rfl rfl rfl ?_ | (refine f_guard_yes rfl rfl ?_; (refine f_move rfl rfl ?_))
          first | refine f_guard_no rfl rfl rfl rfl ?_ | refine f_guard_un rfl rfl rfl ?_ | (refine f_guard_yes rfl rfl ?_; (refine f_move rfl rfl ?_))
          first | refine f_guard_no rfl rfl rfl rfl ?_ | refine f_guard_un rfl rfl rfl ?_ | (refine f_guard_yes rfl rfl ?_; (refine f_indexR rfl rfl rfl (HT_out _ _ _) (by omega) (by omega) ?_))
          first | refine f_guard_no rfl rfl rfl rfl ?_ | refine f_guard_un rfl rfl rfl ?_ | (refine f_guard_yes rfl rfl ?_; (refine f_loadWc rfl rfl (HT_out _ _ _) (outP_get hi hi) ?_))
          first | refine f_guard_no rfl rfl rfl rfl ?_ | refine f_guard_un rfl rfl rfl ?_ | (refine f_guard_yes rfl rfl ?_; (refine f_move rfl rfl ?_))
          first | refine f_guard_no rfl rfl rfl rfl ?_ | refine f_guard_un rfl rfl rfl ?_ | (refine f_guard_yes rfl rfl ?_; (refine f_indexR rfl rfl rfl (HT_row F hi) (by omega) (by omega) ?_))
          first | refine f_guard_no rfl rfl rfl rfl ?_ | refine f_guard_un rfl rfl rfl ?_ | (refine f_guard_yes rfl rfl ?_; (refine f_loadWc (m := .d (.int .i64 ((F i j : Nat) : Int))) rfl rfl (HT_row F hi) (by rw [rowT_get F i hj]) ?_))
          first | refine f_guard_no rfl rfl rfl rfl ?_ | refine f_guard_un rfl rfl rfl ?_ | (refine f_guard_yes rfl rfl ?_; (refine f_int rfl rfl rfl rfl ?_))
          first | refine f_guard_no rfl rfl rfl rfl ?_ | refine f_guard_un rfl rfl rfl ?_ | (refine f_guard_yes rfl rfl ?_; (refine f_pick rfl rfl rfl ?_))
          refine f_pick rfl rfl rfl ?_
          refine TF.nil ⟨by kernel_rfl, ?_⟩
          repeat refine TC.seq ?_
          refine TC.cond rfl (fun hc => by cases hc) (fun hc => ?_)
          refine TC.skip ?_
          have hfw : fwS F k i j = F := by unfold fwS; rw [show fwB F k i j = false by simp [fwB]; omega]; rfl
          rw [hfw] at hnext
          repeat refine TC.seq ?_
          refine TC.region ?_
          refine t_move rfl rfl ?_
          refine t_add64 rfl rfl rfl (by omega) ?_
          refine t_assign rfl rfl ?_
          refine TL.nil ?_
          exact again (k' := es.length - (j + 1)) (by omega) hnext rfl ⟨by simp; rfl, rfl, rfl, rfl, rfl, rfl, rfl, trivial⟩
        rcases Nat.eq_zero_or_pos (F k j) with z2 | z2
        · skip
          repeat refine TC.seq ?_
          refine TC.draw mixed ?_
          refine f_move rfl rfl ?_
          refine f_move rfl rfl ?_
          refine f_indexR rfl rfl rfl (HT_out _ _ _) (by omega) (by omega) ?_
          refine f_loadWc rfl rfl (HT_out _ _ _) (outP_get hi hi) ?_
          refine f_move rfl rfl ?_
          refine f_indexR rfl rfl rfl (HT_row F hi) (by omega) (by omega) ?_
          refine f_loadWc (m := .d (.int .i64 ((F i k : Nat) : Int))) rfl rfl (HT_row F hi) (by rw [rowT_get F i hk]) ?_
          (refine f_int rfl rfl rfl rfl ?_; rw [show decide (((F i k : Nat) : Int) > 0) = true from decide_eq_true (by omega)])
          refine f_move rfl rfl ?_
          first | refine f_guard_no rfl rfl rfl rfl ?_ | refine f_guard_un rfl rfl rfl ?_ | (refine f_guard_yes rfl rfl ?_; (refine f_move rfl rfl ?_))
          first | refine f_guard_no rfl rfl rfl rfl ?_ | refine f_guard_un rfl rfl rfl ?_ | (refine f_guard_yes rfl rfl ?_; (refine f_move rfl rfl ?_))
          first | refine f_guard_no rfl rfl rfl rfl ?_ | refine f_guard_un rfl rfl rfl ?_ | (refine f_guard_yes rfl rfl ?_; (refine f_indexR rfl rfl rfl (HT_out _ _ _) (by omega) (by omega) ?_))
          first | refine f_guard_no rfl rfl rfl rfl ?_ | refine f_guard_un rfl rfl rfl ?_ | (refine f_guard_yes rfl rfl ?_; (refine f_loadWc rfl rfl (HT_out _ _ _) (outP_get hk hk) ?_))
          first | refine f_guard_no rfl rfl rfl rfl ?_ | refine f_guard_un rfl rfl rfl ?_ | (refine f_guard_yes rfl rfl ?_; (refine f_move rfl rfl ?_))
          first | refine f_guard_no rfl rfl rfl rfl ?_ | refine f_guard_un rfl rfl rfl ?_ | (refine f_guard_yes rfl rfl ?_; (refine f_indexR rfl rfl rfl (HT_row F hk) (by omega) (by omega) ?_))
          first | refine f_guard_no rfl rfl rfl rfl ?_ | refine f_guard_un rfl rfl rfl ?_ | (refine f_guard_yes rfl rfl ?_; (refine f_loadWc (m := .d (.int .i64 ((F k j : Nat) : Int))) rfl rfl (HT_row F hk) (by rw [rowT_get F k hj]) ?_))
          first | refine f_guard_no rfl rfl rfl rfl ?_ | refine f_guard_un rfl rfl rfl ?_ | (refine f_guard_yes rfl rfl ?_; ((refine f_int rfl rfl rfl rfl ?_; rw [show decide (((F k j : Nat) : Int) > 0) = false from decide_eq_false (by omega)])))
          refine f_pick rfl rfl rfl ?_
          refine f_move rfl rfl ?_
          first | refine f_guard_no rfl rfl rfl rfl ?_ | refine f_guard_un rfl rfl rfl ?_ | (refine f_guard_yes rfl rfl ?_; (refine f_move rfl rfl ?_))
          first | refine f_guard_no rfl rfl rfl rfl ?_ | refine f_guard_un rfl rfl rfl ?_ | (refine f_guard_yes rfl rfl ?_; (refine f_move rfl rfl ?_))
          first | refine f_guard_no rfl rfl rfl rfl ?_ | refine f_guard_un rfl rfl rfl ?_ | (refine f_guard_yes rfl rfl ?_; (refine f_indexR rfl rfl rfl (HT_out _ _ _) (by omega) (by omega) ?_))
          first | refine f_guard_no rfl rfl rfl rfl ?_ | refine f_guard_un rfl rfl rfl ?_ | (refine f_guard_yes rfl rfl ?_; (refine f_loadWc rfl rfl (HT_out _ _ _) (outP_get hi hi) ?_))
          first | refine f_guard_no rfl rfl rfl rfl ?_ | refine f_guard_un rfl rfl rfl ?_ | (refine f_guard_yes rfl rfl ?_; (refine f_move rfl rfl ?_))
          first | refine f_guard_no rfl rfl rfl rfl ?_ | refine f_guard_un rfl rfl rfl ?_ | (refine f_guard_yes rfl rfl ?_; (refine f_indexR rfl rfl rfl (HT_row F hi) (by omega) (by omega) ?_))
          first | refine f_guard_no rfl rfl rfl rfl ?_ | refine f_guard_un rfl rfl rfl ?_ | (refine f_guard_yes rfl rfl ?_; (refine f_loadWc (m := .d (.int .i64 ((F i j : Nat) : Int))) rfl rfl (HT_row F hi) (by rw [rowT_get F i hj]) ?_))
          first | refine f_guard_no rfl rfl rfl rfl ?_ | refine f_guard_un rfl rfl rfl ?_ | (refine f_guard_yes rfl rfl ?_; (refine f_int rfl rfl rfl rfl ?_))
          first | refine f_guard_no rfl rfl rfl rfl ?_ | refine f_guard_un rfl rfl rfl ?_ | (refine f_guard_yes rfl rfl ?_; (refine f_move rfl rfl ?_))
          first | refine f_guard_no rfl rfl rfl rfl ?_ | refine f_guard_un rfl rfl rfl ?_ | (refine f_guard_yes rfl rfl ?_; (refine f_move rfl rfl ?_))
          first | refine f_guard_no rfl rfl rfl rfl ?_ | refine f_guard_un rfl rfl rfl ?_ | (refine f_guard_yes rfl rfl ?_; (refine f_move rfl rfl ?_))
          first | refine f_guard_no rfl rfl rfl rfl ?_ | refine f_guard_un rfl rfl rfl ?_ | (refine f_guard_yes rfl rfl ?_; (refine f_indexR rfl rfl rfl (HT_out _ _ _) (by omega) (by omega) ?_))
          first | refine f_guard_no rfl rfl rfl rfl ?_ | refine f_guard_un rfl rfl rfl ?_ | (refine f_guard_yes rfl rfl ?_; (refine f_loadWc rfl rfl (HT_out _ _ _) (outP_get hi hi) ?_))
          first | refine f_guard_no rfl rfl rfl rfl ?_ | refine f_guard_un rfl rfl rfl ?_ | (refine f_guard_yes rfl rfl ?_; (refine f_move rfl rfl ?_))
          first | refine f_guard_no rfl rfl rfl rfl ?_ | refine f_guard_un rfl rfl rfl ?_ | (refine f_guard_yes rfl rfl ?_; (refine f_indexR rfl rfl rfl (HT_row F hi) (by omega) (by omega) ?_))
          first | refine f_guard_no rfl rfl rfl rfl ?_ | refine f_guard_un rfl rfl rfl ?_ | (refine f_guard_yes rfl rfl ?_; (refine f_loadWc (m := .d (.int .i64 ((F i k : Nat) : Int))) rfl rfl (HT_row F hi) (by rw [rowT_get F i hk]) ?_))
          first | refine f_guard_no rfl rfl rfl rfl ?_ | refine f_guard_un rfl rfl rfl ?_ | (refine f_guard_yes rfl rfl ?_; (refine f_move rfl rfl ?_))
          first | refine f_guard_no rfl rfl rfl rfl ?_ | refine f_guard_un rfl rfl rfl ?_ | (refine f_guard_yes rfl rfl ?_; (refine f_move rfl rfl ?_))
          first | refine f_guard_no rfl rfl rfl rfl ?_ | refine f_guard_un rfl rfl rfl ?_ | (refine f_guard_yes rfl rfl ?_; (refine f_indexR rfl rfl rfl (HT_out _ _ _) (by omega) (by omega) ?_))
          first | refine f_guard_no rfl rfl rfl rfl ?_ | refine f_guard_un rfl rfl rfl ?_ | (refine f_guard_yes rfl rfl ?_; (refine f_loadWc rfl rfl (HT_out _ _ _) (outP_get hk hk) ?_))
          first | refine f_guard_no rfl rfl rfl rfl ?_ | refine f_guard_un rfl rfl rfl ?_ | (refine f_guard_yes rfl rfl ?_; (refine f_move rfl rfl ?_))
          first | refine f_guard_no rfl rfl rfl rfl ?_ | refine f_guard_un rfl rfl rfl ?_ | (refine f_guard_yes rfl rfl ?_; (refine f_indexR rfl rfl rfl (HT_row F hk) (by omega) (by omega) ?_))
          first | refine f_guard_no rfl rfl rfl rfl ?_ | refine f_guard_un rfl rfl rfl ?_ | (refine f_guard_yes rfl rfl ?_; (refine f_loadWc (m := .d (.int .i64 ((F k j : Nat) : Int))) rfl rfl (HT_row F hk) (by rw [rowT_get F k hj]) ?_))
          first | refine f_guard_no rfl rfl rfl rfl ?_ | refine f_guard_un rfl rfl rfl ?_ | (refine f_guard_yes rfl rfl ?_; ((refine f_add64 rfl rfl rfl (by omega) ?_)))
          first | refine f_guard_no rfl rfl rfl rfl ?_ | refine f_guard_un rfl rfl rfl ?_ | (refine f_guard_yes rfl rfl ?_; (refine f_move rfl rfl ?_))
          first | refine f_guard_no rfl rfl rfl rfl ?_ | refine f_guard_un rfl rfl rfl ?_ | (refine f_guard_yes rfl rfl ?_; (refine f_move rfl rfl ?_))
          first | refine f_guard_no rfl rfl rfl rfl ?_ | refine f_guard_un rfl rfl rfl ?_ | (refine f_guard_yes rfl rfl ?_; (refine f_indexR rfl rfl rfl (HT_out _ _ _) (by omega) (by omega) ?_))
          first | refine f_guard_no rfl rfl rfl rfl ?_ | refine f_guard_un rfl rfl rfl ?_ | (refine f_guard_yes rfl rfl ?_; (refine f_loadWc rfl rfl (HT_out _ _ _) (outP_get hi hi) ?_))
          first | refine f_guard_no rfl rfl rfl rfl ?_ | refine f_guard_un rfl rfl rfl ?_ | (refine f_guard_yes rfl rfl ?_; (refine f_move rfl rfl ?_))
          first | refine f_guard_no rfl rfl rfl rfl ?_ | refine f_guard_un rfl rfl rfl ?_ | (refine f_guard_yes rfl rfl ?_; (refine f_indexR rfl rfl rfl (HT_row F hi) (by omega) (by omega) ?_))
          first | refine f_guard_no rfl rfl rfl rfl ?_ | refine f_guard_un rfl rfl rfl ?_ | (refine f_guard_yes rfl rfl ?_; (refine f_loadWc (m := .d (.int .i64 ((F i j : Nat) : Int))) rfl rfl (HT_row F hi) (by rw [rowT_get F i hj]) ?_))
          first | refine f_guard_no rfl rfl rfl rfl ?_ | refine f_guard_un rfl rfl rfl ?_ | (refine f_guard_yes rfl rfl ?_; (refine f_int rfl rfl rfl rfl ?_))
          first | refine f_guard_no rfl rfl rfl rfl ?_ | refine f_guard_un rfl rfl rfl ?_ | (refine f_guard_yes rfl rfl ?_; (refine f_pick rfl rfl rfl ?_))
          refine f_pick rfl rfl rfl ?_
          refine TF.nil ⟨by kernel_rfl, ?_⟩
          repeat refine TC.seq ?_
          refine TC.cond rfl (fun hc => by cases hc) (fun hc => ?_)
          refine TC.skip ?_
          have hfw : fwS F k i j = F := by unfold fwS; rw [show fwB F k i j = false by simp [fwB]; omega]; rfl
          rw [hfw] at hnext
          repeat refine TC.seq ?_
          refine TC.region ?_
          refine t_move rfl rfl ?_
          refine t_add64 rfl rfl rfl (by omega) ?_
          refine t_assign rfl rfl ?_
          refine TL.nil ?_
          exact again (k' := es.length - (j + 1)) (by omega) hnext rfl ⟨by simp; rfl, rfl, rfl, rfl, rfl, rfl, rfl, trivial⟩
        rcases Nat.eq_zero_or_pos (F i j) with z3 | z3
        · skip
          repeat refine TC.seq ?_
          refine TC.draw mixed ?_
          refine f_move rfl rfl ?_
          refine f_move rfl rfl ?_
          refine f_indexR rfl rfl rfl (HT_out _ _ _) (by omega) (by omega) ?_
          refine f_loadWc rfl rfl (HT_out _ _ _) (outP_get hi hi) ?_
          refine f_move rfl rfl ?_
          refine f_indexR rfl rfl rfl (HT_row F hi) (by omega) (by omega) ?_
          refine f_loadWc (m := .d (.int .i64 ((F i k : Nat) : Int))) rfl rfl (HT_row F hi) (by rw [rowT_get F i hk]) ?_
          (refine f_int rfl rfl rfl rfl ?_; rw [show decide (((F i k : Nat) : Int) > 0) = true from decide_eq_true (by omega)])
          refine f_move rfl rfl ?_
          first | refine f_guard_no rfl rfl rfl rfl ?_ | refine f_guard_un rfl rfl rfl ?_ | (refine f_guard_yes rfl rfl ?_; (refine f_move rfl rfl ?_))
          first | refine f_guard_no rfl rfl rfl rfl ?_ | refine f_guard_un rfl rfl rfl ?_ | (refine f_guard_yes rfl rfl ?_; (refine f_move rfl rfl ?_))
          first | refine f_guard_no rfl rfl rfl rfl ?_ | refine f_guard_un rfl rfl rfl ?_ | (refine f_guard_yes rfl rfl ?_; (refine f_indexR rfl rfl rfl (HT_out _ _ _) (by omega) (by omega) ?_))
          first | refine f_guard_no rfl rfl rfl rfl ?_ | refine f_guard_un rfl rfl rfl ?_ | (refine f_guard_yes rfl rfl ?_; (refine f_loadWc rfl rfl (HT_out _ _ _) (outP_get hk hk) ?_))
          first | refine f_guard_no rfl rfl rfl rfl ?_ | refine f_guard_un rfl rfl rfl ?_ | (refine f_guard_yes rfl rfl ?_; (refine f_move rfl rfl ?_))
          first | refine f_guard_no rfl rfl rfl rfl ?_ | refine f_guard_un rfl rfl rfl ?_ | (refine f_guard_yes rfl rfl ?_; (refine f_indexR rfl rfl rfl (HT_row F hk) (by omega) (by omega) ?_))
          first | refine f_guard_no rfl rfl rfl rfl ?_ | refine f_guard_un rfl rfl rfl ?_ | (refine f_guard_yes rfl rfl ?_; (refine f_loadWc (m := .d (.int .i64 ((F k j : Nat) : Int))) rfl rfl (HT_row F hk) (by rw [rowT_get F k hj]) ?_))
          first | refine f_guard_no rfl rfl rfl rfl ?_ | refine f_guard_un rfl rfl rfl ?_ | (refine f_guard_yes rfl rfl ?_; ((refine f_int rfl rfl rfl rfl ?_; rw [show decide (((F k j : Nat) : Int) > 0) = true from decide_eq_true (by omega)])))
          refine f_pick rfl rfl rfl ?_
          refine f_move rfl rfl ?_
          first | refine f_guard_no rfl rfl rfl rfl ?_ | refine f_guard_un rfl rfl rfl ?_ | (refine f_guard_yes rfl rfl ?_; (refine f_move rfl rfl ?_))
          first | refine f_guard_no rfl rfl rfl rfl ?_ | refine f_guard_un rfl rfl rfl ?_ | (refine f_guard_yes rfl rfl ?_; (refine f_move rfl rfl ?_))
          first | refine f_guard_no rfl rfl rfl rfl ?_ | refine f_guard_un rfl rfl rfl ?_ | (refine f_guard_yes rfl rfl ?_; (refine f_indexR rfl rfl rfl (HT_out _ _ _) (by omega) (by omega) ?_))
          first | refine f_guard_no rfl rfl rfl rfl ?_ | refine f_guard_un rfl rfl rfl ?_ | (refine f_guard_yes rfl rfl ?_; (refine f_loadWc rfl rfl (HT_out _ _ _) (outP_get hi hi) ?_))
          first | refine f_guard_no rfl rfl rfl rfl ?_ | refine f_guard_un rfl rfl rfl ?_ | (refine f_guard_yes rfl rfl ?_; (refine f_move rfl rfl ?_))
          first | refine f_guard_no rfl rfl rfl rfl ?_ | refine f_guard_un rfl rfl rfl ?_ | (refine f_guard_yes rfl rfl ?_; (refine f_indexR rfl rfl rfl (HT_row F hi) (by omega) (by omega) ?_))
          first | refine f_guard_no rfl rfl rfl rfl ?_ | refine f_guard_un rfl rfl rfl ?_ | (refine f_guard_yes rfl rfl ?_; (refine f_loadWc (m := .d (.int .i64 ((F i j : Nat) : Int))) rfl rfl (HT_row F hi) (by rw [rowT_get F i hj]) ?_))
          first | refine f_guard_no rfl rfl rfl rfl ?_ | refine f_guard_un rfl rfl rfl ?_ | (refine f_guard_yes rfl rfl ?_; ((refine f_int rfl rfl rfl (r := .bool true) (by show some (D.bool (((F i j : Nat) : Int) == 0)) = _; rw [show (((F i j : Nat) : Int) == 0) = true by simp; omega]) ?_)))
          first | refine f_guard_no rfl rfl rfl rfl ?_ | refine f_guard_un rfl rfl rfl ?_ | (refine f_guard_yes rfl rfl ?_; (refine f_move rfl rfl ?_))
          first | refine f_guard_no rfl rfl rfl rfl ?_ | refine f_guard_un rfl rfl rfl ?_ | (refine f_guard_yes rfl rfl ?_; (refine f_move rfl rfl ?_))
          first | refine f_guard_no rfl rfl rfl rfl ?_ | refine f_guard_un rfl rfl rfl ?_ | (refine f_guard_yes rfl rfl ?_; (refine f_move rfl rfl ?_))
          first | refine f_guard_no rfl rfl rfl rfl ?_ | refine f_guard_un rfl rfl rfl ?_ | (refine f_guard_yes rfl rfl ?_; (refine f_indexR rfl rfl rfl (HT_out _ _ _) (by omega) (by omega) ?_))
          first | refine f_guard_no rfl rfl rfl rfl ?_ | refine f_guard_un rfl rfl rfl ?_ | (refine f_guard_yes rfl rfl ?_; (refine f_loadWc rfl rfl (HT_out _ _ _) (outP_get hi hi) ?_))
          first | refine f_guard_no rfl rfl rfl rfl ?_ | refine f_guard_un rfl rfl rfl ?_ | (refine f_guard_yes rfl rfl ?_; (refine f_move rfl rfl ?_))
          first | refine f_guard_no rfl rfl rfl rfl ?_ | refine f_guard_un rfl rfl rfl ?_ | (refine f_guard_yes rfl rfl ?_; (refine f_indexR rfl rfl rfl (HT_row F hi) (by omega) (by omega) ?_))
          first | refine f_guard_no rfl rfl rfl rfl ?_ | refine f_guard_un rfl rfl rfl ?_ | (refine f_guard_yes rfl rfl ?_; (refine f_loadWc (m := .d (.int .i64 ((F i k : Nat) : Int))) rfl rfl (HT_row F hi) (by rw [rowT_get F i hk]) ?_))
          first | refine f_guard_no rfl rfl rfl rfl ?_ | refine f_guard_un rfl rfl rfl ?_ | (refine f_guard_yes rfl rfl ?_; (refine f_move rfl rfl ?_))
          first | refine f_guard_no rfl rfl rfl rfl ?_ | refine f_guard_un rfl rfl rfl ?_ | (refine f_guard_yes rfl rfl ?_; (refine f_move rfl rfl ?_))
          first | refine f_guard_no rfl rfl rfl rfl ?_ | refine f_guard_un rfl rfl rfl ?_ | (refine f_guard_yes rfl rfl ?_; (refine f_indexR rfl rfl rfl (HT_out _ _ _) (by omega) (by omega) ?_))
          first | refine f_guard_no rfl rfl rfl rfl ?_ | refine f_guard_un rfl rfl rfl ?_ | (refine f_guard_yes rfl rfl ?_; (refine f_loadWc rfl rfl (HT_out _ _ _) (outP_get hk hk) ?_))
          first | refine f_guard_no rfl rfl rfl rfl ?_ | refine f_guard_un rfl rfl rfl ?_ | (refine f_guard_yes rfl rfl ?_; (refine f_move rfl rfl ?_))
          first | refine f_guard_no rfl rfl rfl rfl ?_ | refine f_guard_un rfl rfl rfl ?_ | (refine f_guard_yes rfl rfl ?_; (refine f_indexR rfl rfl rfl (HT_row F hk) (by omega) (by omega) ?_))
          first | refine f_guard_no rfl rfl rfl rfl ?_ | refine f_guard_un rfl rfl rfl ?_ | (refine f_guard_yes rfl rfl ?_; (refine f_loadWc (m := .d (.int .i64 ((F k j : Nat) : Int))) rfl rfl (HT_row F hk) (by rw [rowT_get F k hj]) ?_))
          first | refine f_guard_no rfl rfl rfl rfl ?_ | refine f_guard_un rfl rfl rfl ?_ | (refine f_guard_yes rfl rfl ?_; ((refine f_add64 rfl rfl rfl (by omega) ?_)))
          first | refine f_guard_no rfl rfl rfl rfl ?_ | refine f_guard_un rfl rfl rfl ?_ | (refine f_guard_yes rfl rfl ?_; (refine f_move rfl rfl ?_))
          first | refine f_guard_no rfl rfl rfl rfl ?_ | refine f_guard_un rfl rfl rfl ?_ | (refine f_guard_yes rfl rfl ?_; (refine f_move rfl rfl ?_))
          first | refine f_guard_no rfl rfl rfl rfl ?_ | refine f_guard_un rfl rfl rfl ?_ | (refine f_guard_yes rfl rfl ?_; (refine f_indexR rfl rfl rfl (HT_out _ _ _) (by omega) (by omega) ?_))
          first | refine f_guard_no rfl rfl rfl rfl ?_ | refine f_guard_un rfl rfl rfl ?_ | (refine f_guard_yes rfl rfl ?_; (refine f_loadWc rfl rfl (HT_out _ _ _) (outP_get hi hi) ?_))
          first | refine f_guard_no rfl rfl rfl rfl ?_ | refine f_guard_un rfl rfl rfl ?_ | (refine f_guard_yes rfl rfl ?_; (refine f_move rfl rfl ?_))
          first | refine f_guard_no rfl rfl rfl rfl ?_ | refine f_guard_un rfl rfl rfl ?_ | (refine f_guard_yes rfl rfl ?_; (refine f_indexR rfl rfl rfl (HT_row F hi) (by omega) (by omega) ?_))
          first | refine f_guard_no rfl rfl rfl rfl ?_ | refine f_guard_un rfl rfl rfl ?_ | (refine f_guard_yes rfl rfl ?_; (refine f_loadWc (m := .d (.int .i64 ((F i j : Nat) : Int))) rfl rfl (HT_row F hi) (by rw [rowT_get F i hj]) ?_))
          first | refine f_guard_no rfl rfl rfl rfl ?_ | refine f_guard_un rfl rfl rfl ?_ | (refine f_guard_yes rfl rfl ?_; (refine f_int rfl rfl rfl rfl ?_))
          first | refine f_guard_no rfl rfl rfl rfl ?_ | refine f_guard_un rfl rfl rfl ?_ | (refine f_guard_yes rfl rfl ?_; (refine f_pick rfl rfl rfl ?_))
          refine f_pick rfl rfl rfl ?_
          refine TF.nil ⟨by kernel_rfl, ?_⟩
          repeat refine TC.seq ?_
          refine TC.cond rfl (fun hc => ?_) (fun hc => by cases hc)
          have hfw : fwS F k i j = upd2 F i j (F i k + F k j) := by unfold fwS; rw [show fwB F k i j = true by simp [fwB]; omega]; rfl
          rw [hfw] at hnext
          repeat refine TC.seq ?_
          refine TC.draw mixed ?_
          refine f_move rfl rfl ?_
          refine f_move rfl rfl ?_
          refine f_indexR rfl rfl rfl (HT_out _ _ _) (by omega) (by omega) ?_
          refine f_loadWc rfl rfl (HT_out _ _ _) (outP_get hi hi) ?_
          refine f_move rfl rfl ?_
          refine f_move rfl rfl ?_
          refine f_move rfl rfl ?_
          refine f_indexR rfl rfl rfl (HT_out _ _ _) (by omega) (by omega) ?_
          refine f_loadWc rfl rfl (HT_out _ _ _) (outP_get hi hi) ?_
          refine f_move rfl rfl ?_
          refine f_indexR rfl rfl rfl (HT_row F hi) (by omega) (by omega) ?_
          refine f_loadWc (m := .d (.int .i64 ((F i k : Nat) : Int))) rfl rfl (HT_row F hi) (by rw [rowT_get F i hk]) ?_
          refine f_move rfl rfl ?_
          refine f_move rfl rfl ?_
          refine f_indexR rfl rfl rfl (HT_out _ _ _) (by omega) (by omega) ?_
          refine f_loadWc rfl rfl (HT_out _ _ _) (outP_get hk hk) ?_
          refine f_move rfl rfl ?_
          refine f_indexR rfl rfl rfl (HT_row F hk) (by omega) (by omega) ?_
          refine f_loadWc (m := .d (.int .i64 ((F k j : Nat) : Int))) rfl rfl (HT_row F hk) (by rw [rowT_get F k hj]) ?_
          (refine f_add64 rfl rfl rfl (by omega) ?_; rw [show ((F i k : Nat) : Int) + ((F k j : Nat) : Int) = ((F i k + F k j : Nat) : Int) by omega])
          refine f_indexR rfl rfl rfl (HT_row F hi) (by omega) (by omega) ?_
          (refine f_storeW rfl rfl (HT_row F hi) rfl rfl (rowT_write F i (F i k + F k j) hj) ?_; rw [HT_set F j (F i k + F k j) hi])
          refine TF.nil ⟨by kernel_rfl, ?_⟩
          repeat refine TC.seq ?_
          refine TC.region ?_
          refine t_move rfl rfl ?_
          refine t_add64 rfl rfl rfl (by omega) ?_
          refine t_assign rfl rfl ?_
          refine TL.nil ?_
          exact again (k' := es.length - (j + 1)) (by omega) hnext rfl ⟨by simp; rfl, rfl, rfl, rfl, rfl, rfl, rfl, trivial⟩
        rcases Nat.lt_or_ge (F i k + F k j) (F i j) with z4 | z4
        · skip
          repeat refine TC.seq ?_
          refine TC.draw mixed ?_
          refine f_move rfl rfl ?_
          refine f_move rfl rfl ?_
          refine f_indexR rfl rfl rfl (HT_out _ _ _) (by omega) (by omega) ?_
          refine f_loadWc rfl rfl (HT_out _ _ _) (outP_get hi hi) ?_
          refine f_move rfl rfl ?_
          refine f_indexR rfl rfl rfl (HT_row F hi) (by omega) (by omega) ?_
          refine f_loadWc (m := .d (.int .i64 ((F i k : Nat) : Int))) rfl rfl (HT_row F hi) (by rw [rowT_get F i hk]) ?_
          (refine f_int rfl rfl rfl rfl ?_; rw [show decide (((F i k : Nat) : Int) > 0) = true from decide_eq_true (by omega)])
          refine f_move rfl rfl ?_
          first | refine f_guard_no rfl rfl rfl rfl ?_ | refine f_guard_un rfl rfl rfl ?_ | (refine f_guard_yes rfl rfl ?_; (refine f_move rfl rfl ?_))
          first | refine f_guard_no rfl rfl rfl rfl ?_ | refine f_guard_un rfl rfl rfl ?_ | (refine f_guard_yes rfl rfl ?_; (refine f_move rfl rfl ?_))
          first | refine f_guard_no rfl rfl rfl rfl ?_ | refine f_guard_un rfl rfl rfl ?_ | (refine f_guard_yes rfl rfl ?_; (refine f_indexR rfl rfl rfl (HT_out _ _ _) (by omega) (by omega) ?_))
          first | refine f_guard_no rfl rfl rfl rfl ?_ | refine f_guard_un rfl rfl rfl ?_ | (refine f_guard_yes rfl rfl ?_; (refine f_loadWc rfl rfl (HT_out _ _ _) (outP_get hk hk) ?_))
          first | refine f_guard_no rfl rfl rfl rfl ?_ | refine f_guard_un rfl rfl rfl ?_ | (refine f_guard_yes rfl rfl ?_; (refine f_move rfl rfl ?_))
          first | refine f_guard_no rfl rfl rfl rfl ?_ | refine f_guard_un rfl rfl rfl ?_ | (refine f_guard_yes rfl rfl ?_; (refine f_indexR rfl rfl rfl (HT_row F hk) (by omega) (by omega) ?_))
          first | refine f_guard_no rfl rfl rfl rfl ?_ | refine f_guard_un rfl rfl rfl ?_ | (refine f_guard_yes rfl rfl ?_; (refine f_loadWc (m := .d (.int .i64 ((F k j : Nat) : Int))) rfl rfl (HT_row F hk) (by rw [rowT_get F k hj]) ?_))
          first | refine f_guard_no rfl rfl rfl rfl ?_ | refine f_guard_un rfl rfl rfl ?_ | (refine f_guard_yes rfl rfl ?_; ((refine f_int rfl rfl rfl rfl ?_; rw [show decide (((F k j : Nat) : Int) > 0) = true from decide_eq_true (by omega)])))
          refine f_pick rfl rfl rfl ?_
          refine f_move rfl rfl ?_
          first | refine f_guard_no rfl rfl rfl rfl ?_ | refine f_guard_un rfl rfl rfl ?_ | (refine f_guard_yes rfl rfl ?_; (refine f_move rfl rfl ?_))
          first | refine f_guard_no rfl rfl rfl rfl ?_ | refine f_guard_un rfl rfl rfl ?_ | (refine f_guard_yes rfl rfl ?_; (refine f_move rfl rfl ?_))
          first | refine f_guard_no rfl rfl rfl rfl ?_ | refine f_guard_un rfl rfl rfl ?_ | (refine f_guard_yes rfl rfl ?_; (refine f_indexR rfl rfl rfl (HT_out _ _ _) (by omega) (by omega) ?_))
          first | refine f_guard_no rfl rfl rfl rfl ?_ | refine f_guard_un rfl rfl rfl ?_ | (refine f_guard_yes rfl rfl ?_; (refine f_loadWc rfl rfl (HT_out _ _ _) (outP_get hi hi) ?_))
          first | refine f_guard_no rfl rfl rfl rfl ?_ | refine f_guard_un rfl rfl rfl ?_ | (refine f_guard_yes rfl rfl ?_; (refine f_move rfl rfl ?_))
          first | refine f_guard_no rfl rfl rfl rfl ?_ | refine f_guard_un rfl rfl rfl ?_ | (refine f_guard_yes rfl rfl ?_; (refine f_indexR rfl rfl rfl (HT_row F hi) (by omega) (by omega) ?_))
          first | refine f_guard_no rfl rfl rfl rfl ?_ | refine f_guard_un rfl rfl rfl ?_ | (refine f_guard_yes rfl rfl ?_; (refine f_loadWc (m := .d (.int .i64 ((F i j : Nat) : Int))) rfl rfl (HT_row F hi) (by rw [rowT_get F i hj]) ?_))
          first | refine f_guard_no rfl rfl rfl rfl ?_ | refine f_guard_un rfl rfl rfl ?_ | (refine f_guard_yes rfl rfl ?_; ((refine f_int rfl rfl rfl (r := .bool false) (by show some (D.bool (((F i j : Nat) : Int) == 0)) = _; rw [show (((F i j : Nat) : Int) == 0) = false by simp; omega]) ?_)))
          first | refine f_guard_no rfl rfl rfl rfl ?_ | refine f_guard_un rfl rfl rfl ?_ | (refine f_guard_yes rfl rfl ?_; (refine f_move rfl rfl ?_))
          first | refine f_guard_no rfl rfl rfl rfl ?_ | refine f_guard_un rfl rfl rfl ?_ | (refine f_guard_yes rfl rfl ?_; (refine f_move rfl rfl ?_))
          first | refine f_guard_no rfl rfl rfl rfl ?_ | refine f_guard_un rfl rfl rfl ?_ | (refine f_guard_yes rfl rfl ?_; (refine f_move rfl rfl ?_))
          first | refine f_guard_no rfl rfl rfl rfl ?_ | refine f_guard_un rfl rfl rfl ?_ | (refine f_guard_yes rfl rfl ?_; (refine f_indexR rfl rfl rfl (HT_out _ _ _) (by omega) (by omega) ?_))
          first | refine f_guard_no rfl rfl rfl rfl ?_ | refine f_guard_un rfl rfl rfl ?_ | (refine f_guard_yes rfl rfl ?_; (refine f_loadWc rfl rfl (HT_out _ _ _) (outP_get hi hi) ?_))
          first | refine f_guard_no rfl rfl rfl rfl ?_ | refine f_guard_un rfl rfl rfl ?_ | (refine f_guard_yes rfl rfl ?_; (refine f_move rfl rfl ?_))
          first | refine f_guard_no rfl rfl rfl rfl ?_ | refine f_guard_un rfl rfl rfl ?_ | (refine f_guard_yes rfl rfl ?_; (refine f_indexR rfl rfl rfl (HT_row F hi) (by omega) (by omega) ?_))
          first | refine f_guard_no rfl rfl rfl rfl ?_ | refine f_guard_un rfl rfl rfl ?_ | (refine f_guard_yes rfl rfl ?_; (refine f_loadWc (m := .d (.int .i64 ((F i k : Nat) : Int))) rfl rfl (HT_row F hi) (by rw [rowT_get F i hk]) ?_))
          first | refine f_guard_no rfl rfl rfl rfl ?_ | refine f_guard_un rfl rfl rfl ?_ | (refine f_guard_yes rfl rfl ?_; (refine f_move rfl rfl ?_))
          first | refine f_guard_no rfl rfl rfl rfl ?_ | refine f_guard_un rfl rfl rfl ?_ | (refine f_guard_yes rfl rfl ?_; (refine f_move rfl rfl ?_))
          first | refine f_guard_no rfl rfl rfl rfl ?_ | refine f_guard_un rfl rfl rfl ?_ | (refine f_guard_yes rfl rfl ?_; (refine f_indexR rfl rfl rfl (HT_out _ _ _) (by omega) (by omega) ?_))
          first | refine f_guard_no rfl rfl rfl rfl ?_ | refine f_guard_un rfl rfl rfl ?_ | (refine f_guard_yes rfl rfl ?_; (refine f_loadWc rfl rfl (HT_out _ _ _) (outP_get hk hk) ?_))
          first | refine f_guard_no rfl rfl rfl rfl ?_ | refine f_guard_un rfl rfl rfl ?_ | (refine f_guard_yes rfl rfl ?_; (refine f_move rfl rfl ?_))
          first | refine f_guard_no rfl rfl rfl rfl ?_ | refine f_guard_un rfl rfl rfl ?_ | (refine f_guard_yes rfl rfl ?_; (refine f_indexR rfl rfl rfl (HT_row F hk) (by omega) (by omega) ?_))
          first | refine f_guard_no rfl rfl rfl rfl ?_ | refine f_guard_un rfl rfl rfl ?_ | (refine f_guard_yes rfl rfl ?_; (refine f_loadWc (m := .d (.int .i64 ((F k j : Nat) : Int))) rfl rfl (HT_row F hk) (by rw [rowT_get F k hj]) ?_))
          first | refine f_guard_no rfl rfl rfl rfl ?_ | refine f_guard_un rfl rfl rfl ?_ | (refine f_guard_yes rfl rfl ?_; ((refine f_add64 rfl rfl rfl (by omega) ?_)))
          first | refine f_guard_no rfl rfl rfl rfl ?_ | refine f_guard_un rfl rfl rfl ?_ | (refine f_guard_yes rfl rfl ?_; (refine f_move rfl rfl ?_))
          first | refine f_guard_no rfl rfl rfl rfl ?_ | refine f_guard_un rfl rfl rfl ?_ | (refine f_guard_yes rfl rfl ?_; (refine f_move rfl rfl ?_))
          first | refine f_guard_no rfl rfl rfl rfl ?_ | refine f_guard_un rfl rfl rfl ?_ | (refine f_guard_yes rfl rfl ?_; (refine f_indexR rfl rfl rfl (HT_out _ _ _) (by omega) (by omega) ?_))
          first | refine f_guard_no rfl rfl rfl rfl ?_ | refine f_guard_un rfl rfl rfl ?_ | (refine f_guard_yes rfl rfl ?_; (refine f_loadWc rfl rfl (HT_out _ _ _) (outP_get hi hi) ?_))
          first | refine f_guard_no rfl rfl rfl rfl ?_ | refine f_guard_un rfl rfl rfl ?_ | (refine f_guard_yes rfl rfl ?_; (refine f_move rfl rfl ?_))
          first | refine f_guard_no rfl rfl rfl rfl ?_ | refine f_guard_un rfl rfl rfl ?_ | (refine f_guard_yes rfl rfl ?_; (refine f_indexR rfl rfl rfl (HT_row F hi) (by omega) (by omega) ?_))
          first | refine f_guard_no rfl rfl rfl rfl ?_ | refine f_guard_un rfl rfl rfl ?_ | (refine f_guard_yes rfl rfl ?_; (refine f_loadWc (m := .d (.int .i64 ((F i j : Nat) : Int))) rfl rfl (HT_row F hi) (by rw [rowT_get F i hj]) ?_))
          first | refine f_guard_no rfl rfl rfl rfl ?_ | refine f_guard_un rfl rfl rfl ?_ | (refine f_guard_yes rfl rfl ?_; ((refine f_int rfl rfl rfl rfl ?_; rw [show decide (((F i k : Nat) : Int) + ((F k j : Nat) : Int) < ((F i j : Nat) : Int)) = true from decide_eq_true (by omega)])))
          first | refine f_guard_no rfl rfl rfl rfl ?_ | refine f_guard_un rfl rfl rfl ?_ | (refine f_guard_yes rfl rfl ?_; (refine f_pick rfl rfl rfl ?_))
          refine f_pick rfl rfl rfl ?_
          refine TF.nil ⟨by kernel_rfl, ?_⟩
          repeat refine TC.seq ?_
          refine TC.cond rfl (fun hc => ?_) (fun hc => by cases hc)
          have hfw : fwS F k i j = upd2 F i j (F i k + F k j) := by unfold fwS; rw [show fwB F k i j = true by simp [fwB]; omega]; rfl
          rw [hfw] at hnext
          repeat refine TC.seq ?_
          refine TC.draw mixed ?_
          refine f_move rfl rfl ?_
          refine f_move rfl rfl ?_
          refine f_indexR rfl rfl rfl (HT_out _ _ _) (by omega) (by omega) ?_
          refine f_loadWc rfl rfl (HT_out _ _ _) (outP_get hi hi) ?_
          refine f_move rfl rfl ?_
          refine f_move rfl rfl ?_
          refine f_move rfl rfl ?_
          refine f_indexR rfl rfl rfl (HT_out _ _ _) (by omega) (by omega) ?_
          refine f_loadWc rfl rfl (HT_out _ _ _) (outP_get hi hi) ?_
          refine f_move rfl rfl ?_
          refine f_indexR rfl rfl rfl (HT_row F hi) (by omega) (by omega) ?_
          refine f_loadWc (m := .d (.int .i64 ((F i k : Nat) : Int))) rfl rfl (HT_row F hi) (by rw [rowT_get F i hk]) ?_
          refine f_move rfl rfl ?_
          refine f_move rfl rfl ?_
          refine f_indexR rfl rfl rfl (HT_out _ _ _) (by omega) (by omega) ?_
          refine f_loadWc rfl rfl (HT_out _ _ _) (outP_get hk hk) ?_
          refine f_move rfl rfl ?_
          refine f_indexR rfl rfl rfl (HT_row F hk) (by omega) (by omega) ?_
          refine f_loadWc (m := .d (.int .i64 ((F k j : Nat) : Int))) rfl rfl (HT_row F hk) (by rw [rowT_get F k hj]) ?_
          (refine f_add64 rfl rfl rfl (by omega) ?_; rw [show ((F i k : Nat) : Int) + ((F k j : Nat) : Int) = ((F i k + F k j : Nat) : Int) by omega])
          refine f_indexR rfl rfl rfl (HT_row F hi) (by omega) (by omega) ?_
          (refine f_storeW rfl rfl (HT_row F hi) rfl rfl (rowT_write F i (F i k + F k j) hj) ?_; rw [HT_set F j (F i k + F k j) hi])
          refine TF.nil ⟨by kernel_rfl, ?_⟩
          repeat refine TC.seq ?_
          refine TC.region ?_
          refine t_move rfl rfl ?_
          refine t_add64 rfl rfl rfl (by omega) ?_
          refine t_assign rfl rfl ?_
          refine TL.nil ?_
          exact again (k' := es.length - (j + 1)) (by omega) hnext rfl ⟨by simp; rfl, rfl, rfl, rfl, rfl, rfl, rfl, trivial⟩
        · skip
          repeat refine TC.seq ?_
          refine TC.draw mixed ?_
          refine f_move rfl rfl ?_
          refine f_move rfl rfl ?_
          refine f_indexR rfl rfl rfl (HT_out _ _ _) (by omega) (by omega) ?_
          refine f_loadWc rfl rfl (HT_out _ _ _) (outP_get hi hi) ?_
          refine f_move rfl rfl ?_
          refine f_indexR rfl rfl rfl (HT_row F hi) (by omega) (by omega) ?_
          refine f_loadWc (m := .d (.int .i64 ((F i k : Nat) : Int))) rfl rfl (HT_row F hi) (by rw [rowT_get F i hk]) ?_
          (refine f_int rfl rfl rfl rfl ?_; rw [show decide (((F i k : Nat) : Int) > 0) = true from decide_eq_true (by omega)])
          refine f_move rfl rfl ?_
          first | refine f_guard_no rfl rfl rfl rfl ?_ | refine f_guard_un rfl rfl rfl ?_ | (refine f_guard_yes rfl rfl ?_; (refine f_move rfl rfl ?_))
          first | refine f_guard_no rfl rfl rfl rfl ?_ | refine f_guard_un rfl rfl rfl ?_ | (refine f_guard_yes rfl rfl ?_; (refine f_move rfl rfl ?_))
          first | refine f_guard_no rfl rfl rfl rfl ?_ | refine f_guard_un rfl rfl rfl ?_ | (refine f_guard_yes rfl rfl ?_; (refine f_indexR rfl rfl rfl (HT_out _ _ _) (by omega) (by omega) ?_))
          first | refine f_guard_no rfl rfl rfl rfl ?_ | refine f_guard_un rfl rfl rfl ?_ | (refine f_guard_yes rfl rfl ?_; (refine f_loadWc rfl rfl (HT_out _ _ _) (outP_get hk hk) ?_))
          first | refine f_guard_no rfl rfl rfl rfl ?_ | refine f_guard_un rfl rfl rfl ?_ | (refine f_guard_yes rfl rfl ?_; (refine f_move rfl rfl ?_))
          first | refine f_guard_no rfl rfl rfl rfl ?_ | refine f_guard_un rfl rfl rfl ?_ | (refine f_guard_yes rfl rfl ?_; (refine f_indexR rfl rfl rfl (HT_row F hk) (by omega) (by omega) ?_))
          first | refine f_guard_no rfl rfl rfl rfl ?_ | refine f_guard_un rfl rfl rfl ?_ | (refine f_guard_yes rfl rfl ?_; (refine f_loadWc (m := .d (.int .i64 ((F k j : Nat) : Int))) rfl rfl (HT_row F hk) (by rw [rowT_get F k hj]) ?_))
          first | refine f_guard_no rfl rfl rfl rfl ?_ | refine f_guard_un rfl rfl rfl ?_ | (refine f_guard_yes rfl rfl ?_; ((refine f_int rfl rfl rfl rfl ?_; rw [show decide (((F k j : Nat) : Int) > 0) = true from decide_eq_true (by omega)])))
          refine f_pick rfl rfl rfl ?_
          refine f_move rfl rfl ?_
          first | refine f_guard_no rfl rfl rfl rfl ?_ | refine f_guard_un rfl rfl rfl ?_ | (refine f_guard_yes rfl rfl ?_; (refine f_move rfl rfl ?_))
          first | refine f_guard_no rfl rfl rfl rfl ?_ | refine f_guard_un rfl rfl rfl ?_ | (refine f_guard_yes rfl rfl ?_; (refine f_move rfl rfl ?_))
          first | refine f_guard_no rfl rfl rfl rfl ?_ | refine f_guard_un rfl rfl rfl ?_ | (refine f_guard_yes rfl rfl ?_; (refine f_indexR rfl rfl rfl (HT_out _ _ _) (by omega) (by omega) ?_))
          first | refine f_guard_no rfl rfl rfl rfl ?_ | refine f_guard_un rfl rfl rfl ?_ | (refine f_guard_yes rfl rfl ?_; (refine f_loadWc rfl rfl (HT_out _ _ _) (outP_get hi hi) ?_))
          first | refine f_guard_no rfl rfl rfl rfl ?_ | refine f_guard_un rfl rfl rfl ?_ | (refine f_guard_yes rfl rfl ?_; (refine f_move rfl rfl ?_))
          first | refine f_guard_no rfl rfl rfl rfl ?_ | refine f_guard_un rfl rfl rfl ?_ | (refine f_guard_yes rfl rfl ?_; (refine f_indexR rfl rfl rfl (HT_row F hi) (by omega) (by omega) ?_))
          first | refine f_guard_no rfl rfl rfl rfl ?_ | refine f_guard_un rfl rfl rfl ?_ | (refine f_guard_yes rfl rfl ?_; (refine f_loadWc (m := .d (.int .i64 ((F i j : Nat) : Int))) rfl rfl (HT_row F hi) (by rw [rowT_get F i hj]) ?_))
          first | refine f_guard_no rfl rfl rfl rfl ?_ | refine f_guard_un rfl rfl rfl ?_ | (refine f_guard_yes rfl rfl ?_; ((refine f_int rfl rfl rfl (r := .bool false) (by show some (D.bool (((F i j : Nat) : Int) == 0)) = _; rw [show (((F i j : Nat) : Int) == 0) = false by simp; omega]) ?_)))
          first | refine f_guard_no rfl rfl rfl rfl ?_ | refine f_guard_un rfl rfl rfl ?_ | (refine f_guard_yes rfl rfl ?_; (refine f_move rfl rfl ?_))
          first | refine f_guard_no rfl rfl rfl rfl ?_ | refine f_guard_un rfl rfl rfl ?_ | (refine f_guard_yes rfl rfl ?_; (refine f_move rfl rfl ?_))
          first | refine f_guard_no rfl rfl rfl rfl ?_ | refine f_guard_un rfl rfl rfl ?_ | (refine f_guard_yes rfl rfl ?_; (refine f_move rfl rfl ?_))
          first | refine f_guard_no rfl rfl rfl rfl ?_ | refine f_guard_un rfl rfl rfl ?_ | (refine f_guard_yes rfl rfl ?_; (refine f_indexR rfl rfl rfl (HT_out _ _ _) (by omega) (by omega) ?_))
          first | refine f_guard_no rfl rfl rfl rfl ?_ | refine f_guard_un rfl rfl rfl ?_ | (refine f_guard_yes rfl rfl ?_; (refine f_loadWc rfl rfl (HT_out _ _ _) (outP_get hi hi) ?_))
          first | refine f_guard_no rfl rfl rfl rfl ?_ | refine f_guard_un rfl rfl rfl ?_ | (refine f_guard_yes rfl rfl ?_; (refine f_move rfl rfl ?_))
          first | refine f_guard_no rfl rfl rfl rfl ?_ | refine f_guard_un rfl rfl rfl ?_ | (refine f_guard_yes rfl rfl ?_; (refine f_indexR rfl rfl rfl (HT_row F hi) (by omega) (by omega) ?_))
          first | refine f_guard_no rfl rfl rfl rfl ?_ | refine f_guard_un rfl rfl rfl ?_ | (refine f_guard_yes rfl rfl ?_; (refine f_loadWc (m := .d (.int .i64 ((F i k : Nat) : Int))) rfl rfl (HT_row F hi) (by rw [rowT_get F i hk]) ?_))
          first | refine f_guard_no rfl rfl rfl rfl ?_ | refine f_guard_un rfl rfl rfl ?_ | (refine f_guard_yes rfl rfl ?_; (refine f_move rfl rfl ?_))
          first | refine f_guard_no rfl rfl rfl rfl ?_ | refine f_guard_un rfl rfl rfl ?_ | (refine f_guard_yes rfl rfl ?_; (refine f_move rfl rfl ?_))
          first | refine f_guard_no rfl rfl rfl rfl ?_ | refine f_guard_un rfl rfl rfl ?_ | (refine f_guard_yes rfl rfl ?_; (refine f_indexR rfl rfl rfl (HT_out _ _ _) (by omega) (by omega) ?_))
          first | refine f_guard_no rfl rfl rfl rfl ?_ | refine f_guard_un rfl rfl rfl ?_ | (refine f_guard_yes rfl rfl ?_; (refine f_loadWc rfl rfl (HT_out _ _ _) (outP_get hk hk) ?_))
          first | refine f_guard_no rfl rfl rfl rfl ?_ | refine f_guard_un rfl rfl rfl ?_ | (refine f_guard_yes rfl rfl ?_; (refine f_move rfl rfl ?_))
          first | refine f_guard_no rfl rfl rfl rfl ?_ | refine f_guard_un rfl rfl rfl ?_ | (refine f_guard_yes rfl rfl ?_; (refine f_indexR rfl rfl rfl (HT_row F hk) (by omega) (by omega) ?_))
          first | refine f_guard_no rfl rfl rfl rfl ?_ | refine f_guard_un rfl rfl rfl ?_ | (refine f_guard_yes rfl rfl ?_; (refine f_loadWc (m := .d (.int .i64 ((F k j : Nat) : Int))) rfl rfl (HT_row F hk) (by rw [rowT_get F k hj]) ?_))
          first | refine f_guard_no rfl rfl rfl rfl ?_ | refine f_guard_un rfl rfl rfl ?_ | (refine f_guard_yes rfl rfl ?_; ((refine f_add64 rfl rfl rfl (by omega) ?_)))
          first | refine f_guard_no rfl rfl rfl rfl ?_ | refine f_guard_un rfl rfl rfl ?_ | (refine f_guard_yes rfl rfl ?_; (refine f_move rfl rfl ?_))
          first | refine f_guard_no rfl rfl rfl rfl ?_ | refine f_guard_un rfl rfl rfl ?_ | (refine f_guard_yes rfl rfl ?_; (refine f_move rfl rfl ?_))
          first | refine f_guard_no rfl rfl rfl rfl ?_ | refine f_guard_un rfl rfl rfl ?_ | (refine f_guard_yes rfl rfl ?_; (refine f_indexR rfl rfl rfl (HT_out _ _ _) (by omega) (by omega) ?_))
          first | refine f_guard_no rfl rfl rfl rfl ?_ | refine f_guard_un rfl rfl rfl ?_ | (refine f_guard_yes rfl rfl ?_; (refine f_loadWc rfl rfl (HT_out _ _ _) (outP_get hi hi) ?_))
          first | refine f_guard_no rfl rfl rfl rfl ?_ | refine f_guard_un rfl rfl rfl ?_ | (refine f_guard_yes rfl rfl ?_; (refine f_move rfl rfl ?_))
          first | refine f_guard_no rfl rfl rfl rfl ?_ | refine f_guard_un rfl rfl rfl ?_ | (refine f_guard_yes rfl rfl ?_; (refine f_indexR rfl rfl rfl (HT_row F hi) (by omega) (by omega) ?_))
          first | refine f_guard_no rfl rfl rfl rfl ?_ | refine f_guard_un rfl rfl rfl ?_ | (refine f_guard_yes rfl rfl ?_; (refine f_loadWc (m := .d (.int .i64 ((F i j : Nat) : Int))) rfl rfl (HT_row F hi) (by rw [rowT_get F i hj]) ?_))
          first | refine f_guard_no rfl rfl rfl rfl ?_ | refine f_guard_un rfl rfl rfl ?_ | (refine f_guard_yes rfl rfl ?_; ((refine f_int rfl rfl rfl rfl ?_; rw [show decide (((F i k : Nat) : Int) + ((F k j : Nat) : Int) < ((F i j : Nat) : Int)) = false from decide_eq_false (by omega)])))
          first | refine f_guard_no rfl rfl rfl rfl ?_ | refine f_guard_un rfl rfl rfl ?_ | (refine f_guard_yes rfl rfl ?_; (refine f_pick rfl rfl rfl ?_))
          refine f_pick rfl rfl rfl ?_
          refine TF.nil ⟨by kernel_rfl, ?_⟩
          repeat refine TC.seq ?_
          refine TC.cond rfl (fun hc => by cases hc) (fun hc => ?_)
          refine TC.skip ?_
          have hfw : fwS F k i j = F := by unfold fwS; rw [show fwB F k i j = false by simp [fwB]; omega]; rfl
          rw [hfw] at hnext
          repeat refine TC.seq ?_
          refine TC.region ?_
          refine t_move rfl rfl ?_
          refine t_add64 rfl rfl rfl (by omega) ?_
          refine t_assign rfl rfl ?_
          refine TL.nil ?_
          exact again (k' := es.length - (j + 1)) (by omega) hnext rfl ⟨by simp; rfl, rfl, rfl, rfl, rfl, rfl, rfl, trivial⟩
      · refine TC.exit ?_
        have hj : j = es.length := by have := of_decide_eq_false hc; omega
        repeat refine TC.seq ?_
        refine TC.region ?_
        refine t_move rfl rfl ?_
        refine t_add64 rfl rfl rfl (by omega) ?_
        refine t_assign rfl rfl ?_
        refine TL.nil ?_
        exact again (k' := es.length - (i + 1)) (by omega) ⟨i + 1, F, rfl, by omega, ⟨hS, hC, hbd⟩, fun a b h hb => hV a b (by omega) hb, rfl⟩ rfl ⟨by simp; rfl, rfl, rfl, rfl, rfl, rfl, trivial⟩
    · refine TC.exit ?_
      have hi : i = es.length := by have := of_decide_eq_false hc; omega
      repeat refine TC.seq ?_
      refine TC.region ?_
      refine t_move rfl rfl ?_
      refine t_add64 rfl rfl rfl (by omega) ?_
      refine t_assign rfl rfl ?_
      refine TL.nil ?_
      refine again (k' := es.length - (k + 1)) (by omega) ⟨k + 1, F, rfl, by omega, hI.1, hI.2.1.next fun a b x y hx hy => hV a b (by have := (WB.lt hes hx).1; omega) (WB.lt hes hy).2 x y hx hy, fun a b => ?_, rfl⟩ rfl ⟨by simp; rfl, rfl, rfl, rfl, rfl, trivial⟩
      rw [hB2]; exact hI.2.2.2.2 a b
  · refine TC.exit ?_
    have hk : k = es.length := by have := of_decide_eq_false hc; omega
    subst hk
    have hend := fw_end hes hS hC
    have hFb : ∀ i, F i i ≤ 16384 := fun i => Nat.le_trans (hbd i i) (Nat.pow_le_pow_right (by omega) hn : 2 ^ es.length ≤ 2 ^ 14)
    subst hch3
    repeat refine TC.seq ?_
    refine TC.region ?_
    first | refine t_loadDw rfl rfl rfl ?_ | refine t_loadDa rfl rfl rfl ?_ | refine t_loadLa rfl rfl rfl rfl rfl ?_ | refine t_loadRa rfl rfl rfl rfl rfl ?_
    (refine t_callR (CT.of_PT hcy) rfl rfl ?_; rintro _ _ ⟨⟨_, rfl, l, rfl, hl⟩, rfl⟩)
    refine t_assign rfl rfl ?_
    refine TL.nil ?_
    repeat refine TC.seq ?_
    refine TC.region ?_
    refine t_assign rfl rfl ?_
    refine TL.nil ?_
    refine TC.rename [(13, .m (.d (.int .i64 ((0 : Nat) : Int)))), (12, .m (.d (.sl (natsR l)))), (6, .m (.rsl 0 0 es.length)), (5, .m (.d (.int .i64 (es.length : Nat)))), (4, .m (.d (.sl (rowsL es))))] (HT es.length F es.length) ⟨rfl, rfl, rfl, rfl, rfl, trivial⟩ rfl ?_
    repeat refine TC.seq ?_
    refine TC.block ?_
    refine TC.loopB (fun m s => ∃ (i : Nat) (bx : List (Nat × List M)), s = ⟨[(13, .m (.d (.int .i64 (i : Int)))), (12, .m (.d (.sl (natsR l)))), (6, .m (.rsl 0 0 es.length)), (5, .m (.d (.int .i64 (es.length : Nat)))), (4, .m (.d (.sl (rowsL es))))], bx, HT es.length F es.length⟩ ∧ i ≤ es.length ∧ (∀ j, j < i → F j j = 0) ∧ m = es.length - i) es.length _
      ⟨0, _, rfl, by omega, fun j h => by omega, rfl⟩ ⟨rfl, rfl, rfl, rfl, rfl, trivial⟩ ?_
    rintro m s ⟨i, bx, rfl, hi0, hz, rfl⟩
    repeat refine TC.seq ?_
    refine TC.region ?_
    refine t_move rfl rfl ?_
    refine t_move rfl rfl ?_
    refine t_int rfl rfl rfl rfl ?_
    refine TL.nil ?_
    repeat refine TC.seq ?_
    refine TC.cond rfl (fun hc => ?_) (fun hc => ?_)
    · have hi : i < es.length := by have := of_decide_eq_true hc; omega
      clear hc
      refine TC.skip ?_
      repeat refine TC.seq ?_
      refine TC.block ?_
      rcases Nat.eq_zero_or_pos (F i i) with h0 | h0
      · repeat refine TC.seq ?_
        refine TC.region ?_
        refine t_move rfl rfl ?_
        refine t_move rfl rfl ?_
        refine t_indexR rfl rfl rfl (HT_out _ _ _) (by omega) (by omega) ?_
        refine t_loadWc rfl rfl (HT_out _ _ _) (outP_get hi hi) ?_
        refine t_move rfl rfl ?_
        refine t_indexR rfl rfl rfl (HT_row F hi) (by omega) (by omega) ?_
        refine t_loadWc rfl rfl (HT_row F hi) (rowT_get F i hi) ?_
        (refine t_int rfl rfl rfl (r := .bool true) (by show some (D.bool (((F i i : Nat) : Int) == 0)) = _; rw [h0]; rfl) ?_)
        refine TL.nil ?_
        repeat refine TC.seq ?_
        refine TC.cond rfl (fun hc => ?_) (fun hc => by cases hc)
        refine TC.exit ?_
        have hz2 : ∀ j, j < i + 1 → F j j = 0 := by
          intro j hj
          rcases Nat.lt_or_ge j i with h | h
          · exact hz j h
          · obtain rfl : j = i := by omega
            exact h0
        repeat refine TC.seq ?_
        refine TC.region ?_
        refine t_move rfl rfl ?_
        refine t_add64 rfl rfl rfl (by omega) ?_
        refine t_assign rfl rfl ?_
        refine TL.nil ?_
        exact again (k' := es.length - (i + 1)) (by omega) ⟨i + 1, _, rfl, by omega, hz2, rfl⟩ rfl ⟨by simp; rfl, rfl, rfl, rfl, rfl, trivial⟩
      · obtain ⟨hl0, hlF, hwo, hfst⟩ := cyc_end hend hl hi hz h0
        have hlb := hFb i
        have hg0 : (natsR l)[(0 : Int).toNat]? = some [.int .i64 (i : Int)] := by
          show (natsR l)[0]? = _
          simp only [natsR, List.getElem?_map, hfst]; rfl
        repeat refine TC.seq ?_
        refine TC.region ?_
        refine t_move rfl rfl ?_
        refine t_move rfl rfl ?_
        refine t_indexR rfl rfl rfl (HT_out _ _ _) (by omega) (by omega) ?_
        refine t_loadWc rfl rfl (HT_out _ _ _) (outP_get hi hi) ?_
        refine t_move rfl rfl ?_
        refine t_indexR rfl rfl rfl (HT_row F hi) (by omega) (by omega) ?_
        refine t_loadWc rfl rfl (HT_row F hi) (rowT_get F i hi) ?_
        (refine t_int rfl rfl rfl (r := .bool false) (by show some (D.bool (((F i i : Nat) : Int) == 0)) = _; rw [show (((F i i : Nat) : Int) == 0) = false by simp; omega]) ?_)
        refine TL.nil ?_
        repeat refine TC.seq ?_
        refine TC.cond rfl (fun hc => by cases hc) (fun hc => ?_)
        refine TC.skip ?_
        repeat refine TC.seq ?_
        refine TC.region ?_
        refine t_move rfl rfl ?_
        (refine t_lenS rfl rfl rfl ?_; rw [natsR_len])
        refine t_move rfl rfl ?_
        refine t_move rfl rfl ?_
        refine t_indexR rfl rfl rfl (HT_out _ _ _) (by omega) (by omega) ?_
        refine t_loadWc rfl rfl (HT_out _ _ _) (outP_get hi hi) ?_
        refine t_move rfl rfl ?_
        refine t_indexR rfl rfl rfl (HT_row F hi) (by omega) (by omega) ?_
        refine t_loadWc rfl rfl (HT_row F hi) (rowT_get F i hi) ?_
        (refine t_int rfl rfl rfl (r := .bool false) (by show some (D.bool ((l.length : Int) != ((F i i : Nat) : Int))) = _; rw [hlF]; simp) ?_)
        refine t_move rfl rfl ?_
        first | refine t_guard_no rfl rfl ?_ | (refine t_guard_yes rfl ?_; (refine t_move rfl rfl ?_))
        first | refine t_guard_no rfl rfl ?_ | (refine t_guard_yes rfl ?_; (refine t_indexD rfl rfl rfl (by decide) hg0 rfl ?_))
        first | refine t_guard_no rfl rfl ?_ | (refine t_guard_yes rfl ?_; (first | refine t_loadDc rfl rfl rfl ?_ | refine t_loadLc rfl rfl rfl rfl ?_ | refine t_loadRc rfl rfl rfl rfl ?_))
        first | refine t_guard_no rfl rfl ?_ | (refine t_guard_yes rfl ?_; (refine t_move rfl rfl ?_))
        first | refine t_guard_no rfl rfl ?_ | (refine t_guard_yes rfl ?_; ((refine t_int rfl rfl rfl (r := .bool false) (by show some (D.bool ((i : Int) != (i : Int))) = _; simp) ?_)))
        refine t_pick rfl rfl rfl ?_
        refine TL.nil ?_
        repeat refine TC.seq ?_
        refine TC.cond rfl (fun hc => by cases hc) (fun hc => ?_)
        refine TC.skip ?_
        repeat refine TC.seq ?_
        refine TC.region ?_
        refine t_assign rfl rfl ?_
        refine TL.nil ?_
        refine TC.rename [(14, .m (.d (.int .i64 ((0 : Nat) : Int)))), (12, .m (.d (.sl (natsR l)))), (4, .m (.d (.sl (rowsL es))))] (HT es.length F es.length) ⟨rfl, rfl, rfl, trivial⟩ rfl ?_
        repeat refine TC.seq ?_
        refine TC.block ?_
        refine TC.loopB (fun m s => ∃ (t : Nat) (bx : List (Nat × List M)), s = ⟨[(14, .m (.d (.int .i64 (t : Int)))), (12, .m (.d (.sl (natsR l)))), (4, .m (.d (.sl (rowsL es))))], bx, HT es.length F es.length⟩ ∧ t ≤ l.length ∧ m = l.length - t) l.length _
          ⟨0, _, rfl, by omega, rfl⟩ ⟨rfl, rfl, rfl, trivial⟩ ?_
        rintro m s ⟨t, bx, rfl, ht0, rfl⟩
        repeat refine TC.seq ?_
        refine TC.region ?_
        refine t_move rfl rfl ?_
        refine t_move rfl rfl ?_
        (refine t_lenS rfl rfl rfl ?_; rw [natsR_len])
        refine t_int rfl rfl rfl rfl ?_
        refine TL.nil ?_
        repeat refine TC.seq ?_
        refine TC.cond rfl (fun hc => ?_) (fun hc => ?_)
        · have ht : t < l.length := by have := of_decide_eq_true hc; omega
          clear hc
          obtain ⟨x, hx⟩ : ∃ x, l[t]? = some x := ⟨_, List.getElem?_eq_getElem ht⟩
          have hxl := way_lt hwo hx
          obtain ⟨y, hy, hyx⟩ : ∃ y, l[(t + 1) % l.length]? = some y ∧ y ∈ es.getD x [] := by
            rcases hwo with ⟨h, _⟩ | ⟨_, _, h, _⟩
            · subst h; simp at hl0
            · exact h t x hx
          have hrow := rowsL_get hxl
          have hxg : (natsR l)[((t : Nat) : Int).toNat]? = some [.int .i64 (x : Int)] := by
            rw [Int.toNat_natCast]; simp only [natsR, List.getElem?_map, hx]; rfl
          have hyg : (natsR l)[(((t + 1) % l.length : Nat) : Int).toNat]? = some [.int .i64 (y : Int)] := by
            rw [Int.toNat_natCast]; simp only [natsR, List.getElem?_map, hy]; rfl
          have hmod : ((t : Int) + 1).tmod (l.length : Int) = (((t + 1) % l.length : Nat) : Int) := by
            rw [Int.tmod_eq_emod_of_nonneg (by omega), Int.natCast_emod, Int.natCast_add]; rfl
          have hlz : ((l.length : Int) == 0) = false := by simp; intro h; subst h; simp at hl0
          have hksl : (es.getD x []).length ≤ 14 := by
            rw [List.getD_eq_getElem?_getD, List.getElem?_eq_getElem hxl]
            exact hsm _ (List.getElem_mem hxl)
          generalize es.getD x [] = ks at hrow hyx hksl
          generalize (t + 1) % l.length = u at hyg hmod
          refine TC.skip ?_
          repeat refine TC.seq ?_
          refine TC.block ?_
          repeat refine TC.seq ?_
          refine TC.region ?_
          refine t_move rfl rfl ?_
          refine t_move rfl rfl ?_
          refine t_add64 rfl rfl rfl (by omega) ?_
          refine t_move rfl rfl ?_
          (refine t_lenS rfl rfl rfl ?_; rw [natsR_len])
          (refine t_rem rfl rfl rfl hlz ?_; rw [hmod])
          refine t_indexD rfl rfl rfl (Int.natCast_nonneg u) hyg rfl ?_
          first | refine t_loadDc rfl rfl rfl ?_ | refine t_loadLc rfl rfl rfl rfl ?_ | refine t_loadRc rfl rfl rfl rfl ?_
          refine t_assign rfl rfl ?_
          refine TL.nil ?_
          repeat refine TC.seq ?_
          refine TC.region ?_
          refine t_assign rfl rfl ?_
          refine TL.nil ?_
          repeat refine TC.seq ?_
          refine TC.region ?_
          refine t_assign rfl rfl ?_
          refine TL.nil ?_
          refine TC.rename [(17, .m (.d (.int .i64 ((0 : Nat) : Int)))), (16, .m (.d (.bool ((ks.take 0).any (· == y))))), (15, .m (.d (.int .i64 (y : Int)))), (14, .m (.d (.int .i64 (t : Int)))), (12, .m (.d (.sl (natsR l)))), (4, .m (.d (.sl (rowsL es))))] (HT es.length F es.length) ⟨rfl, rfl, rfl, rfl, rfl, rfl, trivial⟩ rfl ?_
          repeat refine TC.seq ?_
          refine TC.block ?_
          refine TC.loopB (fun m s => ∃ (j : Nat) (bx : List (Nat × List M)), s = ⟨[(17, .m (.d (.int .i64 (j : Int)))), (16, .m (.d (.bool ((ks.take j).any (· == y))))), (15, .m (.d (.int .i64 (y : Int)))), (14, .m (.d (.int .i64 (t : Int)))), (12, .m (.d (.sl (natsR l)))), (4, .m (.d (.sl (rowsL es))))], bx, HT es.length F es.length⟩ ∧ j ≤ ks.length ∧ m = ks.length - j) ks.length _
            ⟨0, _, rfl, by omega, rfl⟩ ⟨rfl, rfl, rfl, rfl, rfl, rfl, trivial⟩ ?_
          rintro m s ⟨j, bx, rfl, hj0, rfl⟩
          repeat refine TC.seq ?_
          refine TC.region ?_
          refine t_move rfl rfl ?_
          refine t_move rfl rfl ?_
          refine t_move rfl rfl ?_
          refine t_move rfl rfl ?_
          refine t_indexD rfl rfl rfl (Int.natCast_nonneg t) hxg rfl ?_
          first | refine t_loadDc rfl rfl rfl ?_ | refine t_loadLc rfl rfl rfl rfl ?_ | refine t_loadRc rfl rfl rfl rfl ?_
          refine t_indexD rfl rfl rfl (Int.natCast_nonneg x) hrow rfl ?_
          first | refine t_loadDc rfl rfl rfl ?_ | refine t_loadLc rfl rfl rfl rfl ?_ | refine t_loadRc rfl rfl rfl rfl ?_
          (refine t_lenS rfl rfl rfl ?_; rw [natsR_len])
          refine t_int rfl rfl rfl rfl ?_
          refine TL.nil ?_
          repeat refine TC.seq ?_
          refine TC.cond rfl (fun hc => ?_) (fun hc => ?_)
          · have hcj : j < ks.length := by have := of_decide_eq_true hc; omega
            clear hc
            have hgj := natsR_get hcj
            have hany : (ks.take (j + 1)).any (· == y) = ((ks.take j).any (· == y) || ks[j] == y) := by rw [List.take_succ_eq_append_getElem hcj, List.any_append]; simp
            generalize ks[j] = z at hgj hany
            generalize hfl : (ks.take j).any (· == y) = fl at hany
            have hzy : (((z : Nat) : Int) == ((y : Nat) : Int)) = (z == y) := by rw [Bool.eq_iff_iff]; simp; omega
            refine TC.skip ?_
            repeat refine TC.seq ?_
            refine TC.block ?_
            cases fl with
            | true =>
              repeat refine TC.seq ?_
              refine TC.region ?_
              refine t_move rfl rfl ?_
              refine t_move rfl rfl ?_
              first | refine t_guard_no rfl rfl ?_ | (refine t_guard_yes rfl ?_; (refine t_move rfl rfl ?_))
              first | refine t_guard_no rfl rfl ?_ | (refine t_guard_yes rfl ?_; (refine t_move rfl rfl ?_))
              first | refine t_guard_no rfl rfl ?_ | (refine t_guard_yes rfl ?_; (refine t_move rfl rfl ?_))
              first | refine t_guard_no rfl rfl ?_ | (refine t_guard_yes rfl ?_; (refine t_indexD rfl rfl rfl (Int.natCast_nonneg t) hxg rfl ?_))
              first | refine t_guard_no rfl rfl ?_ | (refine t_guard_yes rfl ?_; (first | refine t_loadDc rfl rfl rfl ?_ | refine t_loadLc rfl rfl rfl rfl ?_ | refine t_loadRc rfl rfl rfl rfl ?_))
              first | refine t_guard_no rfl rfl ?_ | (refine t_guard_yes rfl ?_; (refine t_indexD rfl rfl rfl (Int.natCast_nonneg x) hrow rfl ?_))
              first | refine t_guard_no rfl rfl ?_ | (refine t_guard_yes rfl ?_; (first | refine t_loadDc rfl rfl rfl ?_ | refine t_loadLc rfl rfl rfl rfl ?_ | refine t_loadRc rfl rfl rfl rfl ?_))
              first | refine t_guard_no rfl rfl ?_ | (refine t_guard_yes rfl ?_; (refine t_move rfl rfl ?_))
              first | refine t_guard_no rfl rfl ?_ | (refine t_guard_yes rfl ?_; (refine t_indexD rfl rfl rfl (Int.natCast_nonneg j) hgj rfl ?_))
              first | refine t_guard_no rfl rfl ?_ | (refine t_guard_yes rfl ?_; (first | refine t_loadDc rfl rfl rfl ?_ | refine t_loadLc rfl rfl rfl rfl ?_ | refine t_loadRc rfl rfl rfl rfl ?_))
              first | refine t_guard_no rfl rfl ?_ | (refine t_guard_yes rfl ?_; (refine t_move rfl rfl ?_))
              first | refine t_guard_no rfl rfl ?_ | (refine t_guard_yes rfl ?_; (refine t_int rfl rfl rfl rfl ?_))
              refine t_pick rfl rfl rfl ?_
              refine t_assign rfl rfl ?_
              refine TL.nil ?_
              repeat refine TC.seq ?_
              refine TC.region ?_
              refine t_move rfl rfl ?_
              refine t_add64 rfl rfl rfl (by omega) ?_
              refine t_assign rfl rfl ?_
              refine TL.nil ?_
              exact again (k' := ks.length - (j + 1)) (by omega) ⟨j + 1, _, rfl, by omega, rfl⟩ rfl ⟨by simp; rfl, by rw [hany]; rfl, rfl, rfl, rfl, rfl, trivial⟩
            | false =>
              repeat refine TC.seq ?_
              refine TC.region ?_
              refine t_move rfl rfl ?_
              refine t_move rfl rfl ?_
              first | refine t_guard_no rfl rfl ?_ | (refine t_guard_yes rfl ?_; (refine t_move rfl rfl ?_))
              first | refine t_guard_no rfl rfl ?_ | (refine t_guard_yes rfl ?_; (refine t_move rfl rfl ?_))
              first | refine t_guard_no rfl rfl ?_ | (refine t_guard_yes rfl ?_; (refine t_move rfl rfl ?_))
              first | refine t_guard_no rfl rfl ?_ | (refine t_guard_yes rfl ?_; (refine t_indexD rfl rfl rfl (Int.natCast_nonneg t) hxg rfl ?_))
              first | refine t_guard_no rfl rfl ?_ | (refine t_guard_yes rfl ?_; (first | refine t_loadDc rfl rfl rfl ?_ | refine t_loadLc rfl rfl rfl rfl ?_ | refine t_loadRc rfl rfl rfl rfl ?_))
              first | refine t_guard_no rfl rfl ?_ | (refine t_guard_yes rfl ?_; (refine t_indexD rfl rfl rfl (Int.natCast_nonneg x) hrow rfl ?_))
              first | refine t_guard_no rfl rfl ?_ | (refine t_guard_yes rfl ?_; (first | refine t_loadDc rfl rfl rfl ?_ | refine t_loadLc rfl rfl rfl rfl ?_ | refine t_loadRc rfl rfl rfl rfl ?_))
              first | refine t_guard_no rfl rfl ?_ | (refine t_guard_yes rfl ?_; (refine t_move rfl rfl ?_))
              first | refine t_guard_no rfl rfl ?_ | (refine t_guard_yes rfl ?_; (refine t_indexD rfl rfl rfl (Int.natCast_nonneg j) hgj rfl ?_))
              first | refine t_guard_no rfl rfl ?_ | (refine t_guard_yes rfl ?_; (first | refine t_loadDc rfl rfl rfl ?_ | refine t_loadLc rfl rfl rfl rfl ?_ | refine t_loadRc rfl rfl rfl rfl ?_))
              first | refine t_guard_no rfl rfl ?_ | (refine t_guard_yes rfl ?_; (refine t_move rfl rfl ?_))
              first | refine t_guard_no rfl rfl ?_ | (refine t_guard_yes rfl ?_; ((refine t_int rfl rfl rfl (r := .bool (z == y)) (by show some (D.bool (((z : Nat) : Int) == ((y : Nat) : Int))) = _; rw [hzy]) ?_)))
              refine t_pick rfl rfl rfl ?_
              refine t_assign rfl rfl ?_
              refine TL.nil ?_
              repeat refine TC.seq ?_
              refine TC.region ?_
              refine t_move rfl rfl ?_
              refine t_add64 rfl rfl rfl (by omega) ?_
              refine t_assign rfl rfl ?_
              refine TL.nil ?_
              exact again (k' := ks.length - (j + 1)) (by omega) ⟨j + 1, _, rfl, by omega, rfl⟩ rfl ⟨by simp; rfl, by rw [hany]; rfl, rfl, rfl, rfl, rfl, trivial⟩
          · refine TC.exit ?_
            have hcj : j = ks.length := by have := of_decide_eq_false hc; omega
            subst hcj
            rw [List.take_length, show ks.any (· == y) = true from List.any_eq_true.2 ⟨y, hyx, by simp⟩]
            repeat refine TC.seq ?_
            refine TC.region ?_
            refine t_move rfl rfl ?_
            refine t_not rfl rfl ?_
            refine TL.nil ?_
            repeat refine TC.seq ?_
            refine TC.cond rfl (fun hc => by cases hc) (fun hc => ?_)
            refine TC.skip ?_
            repeat refine TC.seq ?_
            refine TC.region ?_
            refine t_move rfl rfl ?_
            refine t_add64 rfl rfl rfl (by omega) ?_
            refine t_assign rfl rfl ?_
            refine TL.nil ?_
            exact again (k' := l.length - (t + 1)) (by omega) ⟨t + 1, _, rfl, by omega, rfl⟩ rfl ⟨by simp; rfl, rfl, rfl, trivial⟩
        · refine TC.exit ?_
          repeat refine TC.seq ?_
          refine TC.region ?_
          refine t_assign rfl rfl ?_
          refine TL.nil ?_
          exact TC.ret ⟨_, rfl, [_], rfl, rfl⟩
    · refine TC.exit ?_
      have hi : i = es.length := by have := of_decide_eq_false hc; omega
      have hlnil := cyc_none hend hl fun j hj => hz j (by omega)
      subst hlnil
      repeat refine TC.seq ?_
      refine TC.region ?_
      refine t_move rfl rfl ?_
      (refine t_lenS rfl rfl rfl ?_; rw [natsR_len])
      refine t_int rfl rfl rfl rfl ?_
      refine t_assign rfl rfl ?_
      refine TL.nil ?_
      exact TC.ret ⟨_, rfl, [_], rfl, rfl⟩
end Go.Proofs
