/- Is a list an order? The program's way. -/
import Derived.Test.YtcmjcdiaidalgaaGrK
namespace Go.Proofs
open Go.Mt
set_option maxRecDepth 4000
set_option linter.unusedSimpArgs false
set_option linter.unusedVariables false

theorem TC.anyBx {X : Ctx} {c : Code} {q : Exit → St → Prop} {sl : List (Nat × V)} {bx : List (Nat × List M)} {H : Hp} (h : ∀ bx, TC X c ⟨sl, bx, H⟩ q) : TC X c ⟨sl, bx, H⟩ q := h bx
def OkPl (n : Nat) (l : List Int) (i : Nat) : Prop := ∀ (j : Nat) (h : j < l.length), j < i → 0 ≤ l[j] ∧ l[j] < n ∧ l[j] ∉ l.take j
def placeF (p : List Int) (k : Nat) : D := .int .i64 (Go.Gr.placeV p k)
def negF (i : Nat) (k : Nat) : D := .int .i64 (if k < i then -1 else 0)
theorem esL_lt (xs : List Int) : ∀ e ∈ esL xs, ∀ k ∈ e, k < (esL xs).length := by
  intro e he k hk
  obtain ⟨i, hi, rfl⟩ := List.mem_map.1 he
  rw [esL_len]
  exact depK_lt hk
theorem esL_small {xs : List Int} (hw : ∀ x ∈ xs, 0 ≤ x ∧ x < 65536) (hn : xs.length ≤ 14) : ∀ e ∈ esL xs, e.length ≤ 14 := by
  intro e he
  obtain ⟨i, hi, rfl⟩ := List.mem_map.1 he
  have := depK_small hw hn i
  omega
theorem Right_ok (xs : List Int) (l : List Int) (v : D) (hw : ∀ x ∈ xs, 0 ≤ x ∧ x < 65536) (hxn : xs.length ≤ 14) (hin : InI .i64 l v) : PT Try.prog 10 [.agg (chainC xs), v] (· = [.bool (Go.Gr.isOrd (esL xs) l)]) := by
  have hEd := Edges_ok xs hw hxn
  have hes := esL_lt xs
  have hsm := esL_small hw hxn
  have hn : (esL xs).length ≤ 14 := by rw [esL_len]; exact hxn
  generalize hE : esL xs = es at hEd hes hsm hn ⊢
  obtain ⟨hlen, hv, hwf⟩ := hin
  refine PT.of_CT (CT.of_body Try.func10 rfl Try.ntmps10 rfl fun s0 Oo => ?_)
  refine TC.base fun hbase => ?_
  repeat refine TC.seq ?_
  refine TC.region ?_
  refine t_box rfl rfl ?_
  refine t_assign rfl rfl ?_
  refine TL.nil ?_
  repeat refine TC.seq ?_
  refine TC.region ?_
  first | refine t_loadDw rfl rfl rfl ?_ | refine t_loadDa rfl rfl rfl ?_ | refine t_loadLa rfl rfl rfl rfl rfl ?_ | refine t_loadRa rfl rfl rfl rfl rfl ?_
  refine t_call1 hEd rfl rfl ?_
  refine t_assign rfl rfl ?_
  refine TL.nil ?_
  repeat refine TC.seq ?_
  refine TC.region ?_
  refine t_move rfl rfl ?_
  refine t_lenS rfl rfl hlen ?_
  refine t_move rfl rfl ?_
  (refine t_lenS rfl rfl rfl ?_; rw [rowsL_len])
  refine t_int rfl rfl rfl rfl ?_
  refine TL.nil ?_
  repeat refine TC.seq ?_
  refine TC.cond rfl (fun hc => ?_) (fun hc => ?_)
  · have hc' : l.length ≠ es.length := by have h2 : ((l.length : Int) != es.length) = true := hc; simp at h2; omega
    repeat refine TC.seq ?_
    refine TC.region ?_
    refine t_assign rfl rfl ?_
    refine TL.nil ?_
    exact TC.ret ⟨_, rfl, [_], rfl, by rw [Go.Gr.isOrd_false (fun h => hc' h.1)]⟩
  have hll : l.length = es.length := by have h2 : ((l.length : Int) != es.length) = false := hc; simp at h2; omega
  clear hc
  refine TC.skip ?_
  repeat refine TC.seq ?_
  refine TC.region ?_
  refine t_move rfl rfl ?_
  (refine t_lenS rfl rfl rfl ?_; rw [rowsL_len])
  refine t_makeSlice (len := es.length) rfl rfl rfl rfl (by rfl) (by omega) (by omega) ?_
  refine t_assign rfl rfl ?_
  refine TL.nil ?_
  refine TC.rename [(6, .m (.rsl 0 0 es.length)), (5, .m (.d (.sl (rowsL es)))), (1, .m (.d v))] [Ob.row false 1 0 (cellsF es.length (negF 0))] ⟨rfl, rfl, rfl, trivial⟩ (by rw [show dcells (D.int .i64 0) = [D.int .i64 0] from rfl, zlist1]; rfl) ?_
  repeat refine TC.seq ?_
  refine TC.region ?_
  refine t_move rfl rfl ?_
  refine t_lenR rfl rfl ?_
  refine t_move rfl rfl ?_
  refine TL.nil ?_
  refine TC.rename [(26, .m (.d (.int .i64 ((0 : Nat) : Int)))), (25, .m (.d (.int .i64 (es.length : Nat)))), (6, .m (.rsl 0 0 es.length)), (5, .m (.d (.sl (rowsL es)))), (1, .m (.d v))] [Ob.row false 1 0 (cellsF es.length (negF 0))] ⟨rfl, rfl, rfl, rfl, rfl, trivial⟩ rfl ?_
  repeat refine TC.seq ?_
  refine TC.anyBx fun bx => ?_
  refine TC.mid ⟨[(6, .m (.rsl 0 0 es.length)), (5, .m (.d (.sl (rowsL es)))), (1, .m (.d v))], bx, [Ob.row false 1 0 (cellsF es.length (placeF (l.take 0)))]⟩ ?_ ?_
  · refine TC.block ?_
    refine TC.loopB (fun k s => ∃ (i : Nat), s = ⟨[(26, .m (.d (.int .i64 i))), (25, .m (.d (.int .i64 (es.length : Nat)))), (6, .m (.rsl 0 0 es.length)), (5, .m (.d (.sl (rowsL es)))), (1, .m (.d v))], bx, [Ob.row false 1 0 (cellsF es.length (negF i))]⟩ ∧ i ≤ es.length ∧ k = es.length - i) es.length _
      ⟨0, rfl, by omega, rfl⟩ ⟨rfl, rfl, rfl, rfl, rfl, trivial⟩ ?_
    rintro k s ⟨i, rfl, hi, rfl⟩
    repeat refine TC.seq ?_
    refine TC.region ?_
    refine t_int rfl rfl rfl rfl ?_
    refine TL.nil ?_
    repeat refine TC.seq ?_
    refine TC.cond rfl (fun hc => ?_) (fun hc => ?_)
    · have hc' : i < es.length := by have := of_decide_eq_true hc; omega
      clear hc
      refine TC.skip ?_
      repeat refine TC.seq ?_
      refine TC.block ?_
      have hwr : writeAt (cellsF es.length (negF i)) (((i : Nat) : Int).toNat * 1) [.d (.int .i64 (-1))] = some (cellsF es.length (negF (i + 1))) := cellsF_write hc' (by simp [negF]) (fun j _ hj => by unfold negF; congr 1; by_cases h : j < i; rw [if_pos h, if_pos (by omega)]; rw [if_neg h, if_neg (by omega)])
      repeat refine TC.seq ?_
      refine TC.region ?_
      refine t_move rfl rfl ?_
      refine t_assign rfl rfl ?_
      refine TL.nil ?_
      repeat refine TC.seq ?_
      refine TC.region ?_
      refine t_move rfl rfl ?_
      refine t_move rfl rfl ?_
      refine t_indexR rfl rfl rfl rfl (by omega) (by omega) ?_
      refine t_storeW rfl rfl rfl rfl rfl hwr ?_
      refine TL.nil ?_
      repeat refine TC.seq ?_
      refine TC.region ?_
      refine t_add64 rfl rfl rfl (by omega) ?_
      refine t_move rfl rfl ?_
      refine TL.nil ?_
      exact again (k' := es.length - (i + 1)) (by omega) ⟨i + 1, rfl, by omega, rfl⟩ rfl ⟨by simp; rfl, rfl, rfl, rfl, rfl, trivial⟩
    · refine TC.exit ?_
      have hc' : i = es.length := by have := of_decide_eq_false hc; omega
      subst hc'
      have e : cellsF es.length (negF es.length) = cellsF es.length (placeF (l.take 0)) := cellsF_congr fun k hk => by simp [negF, placeF, Go.Gr.placeV, hk]
      rw [e]
      exact down rfl ⟨rfl, rfl, rfl, trivial⟩
  repeat refine TC.seq ?_
  refine TC.region ?_
  refine t_move rfl rfl ?_
  refine t_lenS rfl rfl hlen ?_
  refine t_move rfl rfl ?_
  refine TL.nil ?_
  refine TC.rename [(35, .m (.d (.int .i64 ((0 : Nat) : Int)))), (34, .m (.d (.int .i64 (l.length : Nat)))), (33, .m (.d v)), (6, .m (.rsl 0 0 es.length)), (5, .m (.d (.sl (rowsL es))))] [Ob.row false 1 0 (cellsF es.length (placeF (l.take 0)))] ⟨rfl, rfl, rfl, rfl, rfl, trivial⟩ rfl ?_
  repeat refine TC.seq ?_
  refine TC.block ?_
  refine TC.loopB (fun k s => ∃ (i : Nat) (bx : List (Nat × List M)), s = ⟨[(35, .m (.d (.int .i64 i))), (34, .m (.d (.int .i64 (l.length : Nat)))), (33, .m (.d v)), (6, .m (.rsl 0 0 es.length)), (5, .m (.d (.sl (rowsL es))))], bx, [Ob.row false 1 0 (cellsF es.length (placeF (l.take i)))]⟩ ∧ i ≤ l.length ∧ OkPl es.length l i ∧ k = l.length - i) l.length _
    ⟨0, _, rfl, by omega, fun j _ h => by omega, rfl⟩ ⟨rfl, rfl, rfl, rfl, rfl, trivial⟩ ?_
  rintro k s ⟨i, bx, rfl, hi, hok, rfl⟩
  repeat refine TC.seq ?_
  refine TC.region ?_
  refine t_int rfl rfl rfl rfl ?_
  refine TL.nil ?_
  repeat refine TC.seq ?_
  refine TC.cond rfl (fun hc => ?_) (fun hc => ?_)
  · have hc' : i < l.length := by have := of_decide_eq_true hc; omega
    clear hc
    obtain rfl : v = .sl (intsD .i64 l) := hv.resolve_left (by rintro rfl; simp at hc')
    have hget : (intsD .i64 l)[((i : Nat) : Int).toNat]? = some [.int .i64 l[i]] := intsD_get (List.getElem?_eq_getElem hc')
    have hno : ¬ (0 ≤ l[i] ∧ l[i] < es.length ∧ l[i] ∉ l.take i) → Go.Gr.isOrd es l = false := fun h => Go.Gr.isOrd_false fun h2 => h (h2.2.1 i hc')
    have hsucc : (0 ≤ l[i] ∧ l[i] < es.length ∧ l[i] ∉ l.take i) → OkPl es.length l (i + 1) := by
      intro h j hj hji
      rcases Nat.lt_or_ge j i with h1 | h1
      · exact hok j hj h1
      · obtain rfl : j = i := by omega
        exact h
    have htake : l.take (i + 1) = l.take i ++ [l[i]] := List.take_succ_eq_append_getElem hc'
    have hpl : (l.take i).length = i := by rw [List.length_take]; omega
    generalize l[i] = z at hget hno hsucc htake
    generalize hpre : l.take i = pre at hno hsucc htake hpl
    refine TC.skip ?_
    repeat refine TC.seq ?_
    refine TC.block ?_
    repeat refine TC.seq ?_
    refine TC.region ?_
    refine t_move rfl rfl ?_
    refine t_indexD rfl rfl rfl (Int.natCast_nonneg i) hget rfl ?_
    first | refine t_loadDc rfl rfl rfl ?_ | refine t_loadLc rfl rfl rfl rfl ?_ | refine t_loadRc rfl rfl rfl rfl ?_
    refine t_assign rfl rfl ?_
    refine t_assign rfl rfl ?_
    refine TL.nil ?_
    rcases Int.lt_or_le z 0 with h0 | h0
    · repeat refine TC.seq ?_
      refine TC.region ?_
      refine t_move rfl rfl ?_
      (refine t_int rfl rfl rfl rfl ?_; rw [show decide (z < 0) = true from decide_eq_true h0])
      refine t_move rfl rfl ?_
      first | refine t_guard_no rfl rfl ?_ | (refine t_guard_yes rfl ?_; (refine t_move rfl rfl ?_))
      first | refine t_guard_no rfl rfl ?_ | (refine t_guard_yes rfl ?_; (refine t_move rfl rfl ?_))
      first | refine t_guard_no rfl rfl ?_ | (refine t_guard_yes rfl ?_; (refine t_lenS rfl rfl rfl ?_))
      first | refine t_guard_no rfl rfl ?_ | (refine t_guard_yes rfl ?_; (refine t_int rfl rfl rfl rfl ?_))
      refine t_pick rfl rfl rfl ?_
      refine t_move rfl rfl ?_
      first | refine t_guard_no rfl rfl ?_ | (refine t_guard_yes rfl ?_; (refine t_move rfl rfl ?_))
      first | refine t_guard_no rfl rfl ?_ | (refine t_guard_yes rfl ?_; (refine t_move rfl rfl ?_))
      first | refine t_guard_no rfl rfl ?_ | (refine t_guard_yes rfl ?_; (fail))
      first | refine t_guard_no rfl rfl ?_ | (refine t_guard_yes rfl ?_; (first | refine t_loadDc rfl rfl rfl ?_ | refine t_loadLc rfl rfl rfl rfl ?_ | refine t_loadRc rfl rfl rfl rfl ?_))
      first | refine t_guard_no rfl rfl ?_ | (refine t_guard_yes rfl ?_; (refine t_int rfl rfl rfl rfl ?_))
      refine t_pick rfl rfl rfl ?_
      refine TL.nil ?_
      repeat refine TC.seq ?_
      refine TC.cond rfl (fun hc => ?_) (fun hc => by cases hc)
      repeat refine TC.seq ?_
      refine TC.region ?_
      refine t_assign rfl rfl ?_
      refine TL.nil ?_
      exact TC.ret ⟨_, rfl, [_], rfl, by rw [hno (by rintro ⟨h, _⟩; omega)]⟩
    rcases Int.lt_or_le z es.length with h1 | h1
    rotate_left
    · repeat refine TC.seq ?_
      refine TC.region ?_
      refine t_move rfl rfl ?_
      (refine t_int rfl rfl rfl rfl ?_; rw [show decide (z < 0) = false from decide_eq_false (by omega)])
      refine t_move rfl rfl ?_
      first | refine t_guard_no rfl rfl ?_ | (refine t_guard_yes rfl ?_; (refine t_move rfl rfl ?_))
      first | refine t_guard_no rfl rfl ?_ | (refine t_guard_yes rfl ?_; (refine t_move rfl rfl ?_))
      first | refine t_guard_no rfl rfl ?_ | (refine t_guard_yes rfl ?_; ((refine t_lenS rfl rfl rfl ?_; rw [rowsL_len])))
      first | refine t_guard_no rfl rfl ?_ | (refine t_guard_yes rfl ?_; ((refine t_int rfl rfl rfl rfl ?_; rw [show decide (z ≥ (es.length : Int)) = true from decide_eq_true h1])))
      refine t_pick rfl rfl rfl ?_
      refine t_move rfl rfl ?_
      first | refine t_guard_no rfl rfl ?_ | (refine t_guard_yes rfl ?_; (refine t_move rfl rfl ?_))
      first | refine t_guard_no rfl rfl ?_ | (refine t_guard_yes rfl ?_; (refine t_move rfl rfl ?_))
      first | refine t_guard_no rfl rfl ?_ | (refine t_guard_yes rfl ?_; (fail))
      first | refine t_guard_no rfl rfl ?_ | (refine t_guard_yes rfl ?_; (first | refine t_loadDc rfl rfl rfl ?_ | refine t_loadLc rfl rfl rfl rfl ?_ | refine t_loadRc rfl rfl rfl rfl ?_))
      first | refine t_guard_no rfl rfl ?_ | (refine t_guard_yes rfl ?_; (refine t_int rfl rfl rfl rfl ?_))
      refine t_pick rfl rfl rfl ?_
      refine TL.nil ?_
      repeat refine TC.seq ?_
      refine TC.cond rfl (fun hc => ?_) (fun hc => by cases hc)
      repeat refine TC.seq ?_
      refine TC.region ?_
      refine t_assign rfl rfl ?_
      refine TL.nil ?_
      exact TC.ret ⟨_, rfl, [_], rfl, by rw [hno (by rintro ⟨_, h, _⟩; omega)]⟩
    obtain ⟨p, rfl⟩ := Int.eq_ofNat_of_zero_le h0
    have hp : p < es.length := by omega
    repeat refine TC.seq ?_
    refine TC.region ?_
    refine t_move rfl rfl ?_
    (refine t_int rfl rfl rfl rfl ?_; rw [show decide ((p : Int) < 0) = false from decide_eq_false (by omega)])
    refine t_move rfl rfl ?_
    first | refine t_guard_no rfl rfl ?_ | (refine t_guard_yes rfl ?_; (refine t_move rfl rfl ?_))
    first | refine t_guard_no rfl rfl ?_ | (refine t_guard_yes rfl ?_; (refine t_move rfl rfl ?_))
    first | refine t_guard_no rfl rfl ?_ | (refine t_guard_yes rfl ?_; ((refine t_lenS rfl rfl rfl ?_; rw [rowsL_len])))
    first | refine t_guard_no rfl rfl ?_ | (refine t_guard_yes rfl ?_; ((refine t_int rfl rfl rfl rfl ?_; rw [show decide ((p : Int) ≥ (es.length : Int)) = false from decide_eq_false (by omega)])))
    refine t_pick rfl rfl rfl ?_
    refine t_move rfl rfl ?_
    first | refine t_guard_no rfl rfl ?_ | (refine t_guard_yes rfl ?_; (refine t_move rfl rfl ?_))
    first | refine t_guard_no rfl rfl ?_ | (refine t_guard_yes rfl ?_; (refine t_move rfl rfl ?_))
    first | refine t_guard_no rfl rfl ?_ | (refine t_guard_yes rfl ?_; (refine t_indexR rfl rfl rfl rfl (by omega) (by omega) ?_))
    first | refine t_guard_no rfl rfl ?_ | (refine t_guard_yes rfl ?_; (refine t_loadWc (m := .d (.int .i64 (Go.Gr.placeV pre p))) rfl rfl rfl (cellsF_get hp) ?_))
    first | refine t_guard_no rfl rfl ?_ | (refine t_guard_yes rfl ?_; (refine t_int rfl rfl rfl rfl ?_))
    refine t_pick rfl rfl rfl ?_
    refine TL.nil ?_
    repeat refine TC.seq ?_
    refine TC.cond rfl (fun hc => ?_) (fun hc => ?_)
    · have hc2 : (p : Int) ∈ pre := (Go.Gr.placeV_neg pre p).1 (of_decide_eq_true hc)
      repeat refine TC.seq ?_
      refine TC.region ?_
      refine t_assign rfl rfl ?_
      refine TL.nil ?_
      exact TC.ret ⟨_, rfl, [_], rfl, by rw [hno (by rintro ⟨_, _, h⟩; exact h hc2)]⟩
    have hnp : (p : Int) ∉ pre := fun h => (of_decide_eq_false hc) ((Go.Gr.placeV_neg pre p).2 h)
    clear hc
    refine TC.skip ?_
    have hwr : writeAt (cellsF es.length (placeF pre)) (((p : Nat) : Int).toNat * 1) [.d (.int .i64 (i : Int))] = some (cellsF es.length (placeF (pre ++ [(p : Int)]))) := cellsF_write hp (by simp [placeF, Go.Gr.placeV_snoc pre p p hnp, hpl]) (fun j _ hj => by simp [placeF, Go.Gr.placeV_snoc pre p j hnp, hj])
    repeat refine TC.seq ?_
    refine TC.region ?_
    refine t_move rfl rfl ?_
    refine t_move rfl rfl ?_
    refine t_move rfl rfl ?_
    refine t_indexR rfl rfl rfl rfl (by omega) (by omega) ?_
    refine t_storeW rfl rfl rfl rfl rfl hwr ?_
    refine TL.nil ?_
    repeat refine TC.seq ?_
    refine TC.region ?_
    refine t_add64 rfl rfl rfl (by omega) ?_
    refine t_move rfl rfl ?_
    refine TL.nil ?_
    exact again (k' := l.length - (i + 1)) (by omega) ⟨i + 1, _, rfl, by omega, hsucc ⟨h0, h1, hnp⟩, rfl⟩ (by rw [htake]; rfl) ⟨by simp; rfl, rfl, rfl, rfl, rfl, trivial⟩
  · refine TC.exit ?_
    have hc' : i = l.length := by have := of_decide_eq_false hc; omega
    subst hc'
    rw [List.take_length]
    have hord := Go.Gr.ord_places hes hll (fun j hj => hok j hj hj)
    repeat refine TC.seq ?_
    refine TC.region ?_
    refine t_move rfl rfl ?_
    (refine t_lenS rfl rfl rfl ?_; rw [rowsL_len])
    refine t_move rfl rfl ?_
    refine TL.nil ?_
    refine TC.rename [(62, .m (.d (.int .i64 ((0 : Nat) : Int)))), (61, .m (.d (.int .i64 (es.length : Nat)))), (60, .m (.d (.sl (rowsL es)))), (6, .m (.rsl 0 0 es.length))] [Ob.row false 1 0 (cellsF es.length (placeF l))] ⟨rfl, rfl, rfl, rfl, trivial⟩ rfl ?_
    repeat refine TC.seq ?_
    refine TC.block ?_
    refine TC.loopB (fun k s => ∃ (i : Nat) (bx : List (Nat × List M)), s = ⟨[(62, .m (.d (.int .i64 i))), (61, .m (.d (.int .i64 (es.length : Nat)))), (60, .m (.d (.sl (rowsL es)))), (6, .m (.rsl 0 0 es.length))], bx, [Ob.row false 1 0 (cellsF es.length (placeF l))]⟩ ∧ i ≤ es.length ∧ (∀ k, k < i → ∀ j ∈ es.getD k [], Go.Gr.placeV l j < Go.Gr.placeV l k) ∧ k = es.length - i) es.length _
      ⟨0, _, rfl, by omega, fun _ h => by omega, rfl⟩ ⟨rfl, rfl, rfl, rfl, trivial⟩ ?_
    rintro k s ⟨i, bx, rfl, hi, hpl, rfl⟩
    repeat refine TC.seq ?_
    refine TC.region ?_
    refine t_int rfl rfl rfl rfl ?_
    refine TL.nil ?_
    repeat refine TC.seq ?_
    refine TC.cond rfl (fun hc => ?_) (fun hc => ?_)
    · have hc' : i < es.length := by have := of_decide_eq_true hc; omega
      clear hc
      have hrow := rowsL_get hc'
      have hks : ∀ k ∈ es.getD i [], k < es.length := by
        rw [List.getD_eq_getElem?_getD, List.getElem?_eq_getElem hc']
        exact hes _ (List.getElem_mem hc')
      have hksl : (es.getD i []).length ≤ 14 := by
        rw [List.getD_eq_getElem?_getD, List.getElem?_eq_getElem hc']
        exact hsm _ (List.getElem_mem hc')
      have hno : (∃ j ∈ es.getD i [], ¬ Go.Gr.placeV l j < Go.Gr.placeV l i) → Go.Gr.isOrd es l = false := fun ⟨j, hj, h⟩ => Go.Gr.isOrd_false fun h2 => h (hord.1 h2 i hc' j hj)
      have hsucc : (∀ j ∈ es.getD i [], Go.Gr.placeV l j < Go.Gr.placeV l i) → ∀ k, k < i + 1 → ∀ j ∈ es.getD k [], Go.Gr.placeV l j < Go.Gr.placeV l k := by
        intro h k hk
        rcases Nat.lt_or_ge k i with h1 | h1
        · exact hpl k h1
        · obtain rfl : k = i := by omega
          exact h
      generalize es.getD i [] = ks at hrow hks hksl hno hsucc
      refine TC.skip ?_
      repeat refine TC.seq ?_
      refine TC.block ?_
      repeat refine TC.seq ?_
      refine TC.region ?_
      refine t_move rfl rfl ?_
      refine t_indexD rfl rfl rfl (Int.natCast_nonneg i) hrow rfl ?_
      first | refine t_loadDc rfl rfl rfl ?_ | refine t_loadLc rfl rfl rfl rfl ?_ | refine t_loadRc rfl rfl rfl rfl ?_
      refine t_assign rfl rfl ?_
      refine t_assign rfl rfl ?_
      refine TL.nil ?_
      repeat refine TC.seq ?_
      refine TC.region ?_
      refine t_move rfl rfl ?_
      (refine t_lenS rfl rfl rfl ?_; rw [natsR_len])
      refine t_move rfl rfl ?_
      refine TL.nil ?_
      refine TC.rename [(69, .m (.d (.int .i64 ((0 : Nat) : Int)))), (68, .m (.d (.int .i64 (ks.length : Nat)))), (67, .m (.d (.sl (natsR ks)))), (10, .m (.d (.int .i64 i))), (62, .m (.d (.int .i64 i))), (61, .m (.d (.int .i64 (es.length : Nat)))), (60, .m (.d (.sl (rowsL es)))), (6, .m (.rsl 0 0 es.length))] [Ob.row false 1 0 (cellsF es.length (placeF l))] ⟨rfl, rfl, rfl, rfl, rfl, rfl, rfl, rfl, trivial⟩ rfl ?_
      repeat refine TC.seq ?_
      refine TC.block ?_
      refine TC.loopB (fun k s => ∃ (j : Nat) (bx : List (Nat × List M)), s = ⟨[(69, .m (.d (.int .i64 j))), (68, .m (.d (.int .i64 (ks.length : Nat)))), (67, .m (.d (.sl (natsR ks)))), (10, .m (.d (.int .i64 i))), (62, .m (.d (.int .i64 i))), (61, .m (.d (.int .i64 (es.length : Nat)))), (60, .m (.d (.sl (rowsL es)))), (6, .m (.rsl 0 0 es.length))], bx, [Ob.row false 1 0 (cellsF es.length (placeF l))]⟩ ∧ j ≤ ks.length ∧ (∀ q ∈ ks.take j, Go.Gr.placeV l q < Go.Gr.placeV l i) ∧ k = ks.length - j) ks.length _
        ⟨0, _, rfl, by omega, by simp, rfl⟩ ⟨rfl, rfl, rfl, rfl, rfl, rfl, rfl, rfl, trivial⟩ ?_
      rintro k s ⟨j, bx, rfl, hj, hjok, rfl⟩
      repeat refine TC.seq ?_
      refine TC.region ?_
      refine t_int rfl rfl rfl rfl ?_
      refine TL.nil ?_
      repeat refine TC.seq ?_
      refine TC.cond rfl (fun hc => ?_) (fun hc => ?_)
      · have hcj : j < ks.length := by have := of_decide_eq_true hc; omega
        clear hc
        have hq := hks _ (List.getElem_mem hcj)
        have hgj := natsR_get hcj
        have htk : ks.take (j + 1) = ks.take j ++ [ks[j]] := List.take_succ_eq_append_getElem hcj
        have hmem : ks[j] ∈ ks := List.getElem_mem hcj
        generalize ks[j] = q at hq hgj htk hmem
        refine TC.skip ?_
        repeat refine TC.seq ?_
        refine TC.block ?_
        repeat refine TC.seq ?_
        refine TC.region ?_
        refine t_indexD rfl rfl rfl (Int.natCast_nonneg j) hgj rfl ?_
        first | refine t_loadDc rfl rfl rfl ?_ | refine t_loadLc rfl rfl rfl rfl ?_ | refine t_loadRc rfl rfl rfl rfl ?_
        refine t_assign rfl rfl ?_
        refine TL.nil ?_
        repeat refine TC.seq ?_
        refine TC.draw mixed ?_
        refine f_move rfl rfl ?_
        refine f_move rfl rfl ?_
        refine f_indexR rfl rfl rfl rfl (by omega) (by omega) ?_
        refine f_loadWc (m := .d (.int .i64 (Go.Gr.placeV l q))) rfl rfl rfl (cellsF_get hq) ?_
        refine f_move rfl rfl ?_
        refine f_move rfl rfl ?_
        refine f_indexR rfl rfl rfl rfl (by omega) (by omega) ?_
        refine f_loadWc (m := .d (.int .i64 (Go.Gr.placeV l i))) rfl rfl rfl (cellsF_get hc') ?_
        refine f_int rfl rfl rfl rfl ?_
        refine TF.nil ⟨by kernel_rfl, ?_⟩
        repeat refine TC.seq ?_
        refine TC.cond rfl (fun hc => ?_) (fun hc => ?_)
        · have hc2 : ¬ Go.Gr.placeV l q < Go.Gr.placeV l i := by have := of_decide_eq_true hc; omega
          repeat refine TC.seq ?_
          refine TC.region ?_
          refine t_assign rfl rfl ?_
          refine TL.nil ?_
          exact TC.ret ⟨_, rfl, [_], rfl, by rw [hno ⟨q, hmem, hc2⟩]⟩
        have hqp : Go.Gr.placeV l q < Go.Gr.placeV l i := by have := of_decide_eq_false hc; omega
        clear hc
        refine TC.skip ?_
        repeat refine TC.seq ?_
        refine TC.region ?_
        refine t_add64 rfl rfl rfl (by omega) ?_
        refine t_move rfl rfl ?_
        refine TL.nil ?_
        exact again (k' := ks.length - (j + 1)) (by omega) ⟨j + 1, _, rfl, by omega, by intro x hx; rw [htk] at hx; rcases List.mem_append.1 hx with h | h; exact hjok x h; simp at h; subst h; exact hqp, rfl⟩ rfl ⟨by simp; rfl, rfl, rfl, rfl, rfl, rfl, rfl, rfl, trivial⟩
      · have hcj : j = ks.length := by have := of_decide_eq_false hc; omega
        subst hcj
        rw [List.take_length] at hjok
        refine TC.exit ?_
        repeat refine TC.seq ?_
        refine TC.region ?_
        refine t_add64 rfl rfl rfl (by omega) ?_
        refine t_move rfl rfl ?_
        refine TL.nil ?_
        exact again (k' := es.length - (i + 1)) (by omega) ⟨i + 1, _, rfl, by omega, hsucc hjok, rfl⟩ rfl ⟨by simp; rfl, rfl, rfl, rfl, trivial⟩
    · refine TC.exit ?_
      have hc' : i = es.length := by have := of_decide_eq_false hc; omega
      subst hc'
      repeat refine TC.seq ?_
      refine TC.region ?_
      refine t_assign rfl rfl ?_
      refine TL.nil ?_
      exact TC.ret ⟨_, rfl, [_], rfl, by rw [Go.Gr.isOrd_true (hord.2 hpl)]⟩
end Go.Proofs
