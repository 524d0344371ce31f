/- Is a list an order? The law's way. -/
import Derived.Test.YtcmjcdiaidalgaaGrJ
namespace Go.Proofs
open Go.Mt
set_option maxRecDepth 4000
set_option linter.unusedSimpArgs false
set_option linter.unusedVariables false

/-- cells of a made row, as a function of the place -/
def cellsF (n : Nat) (f : Nat → D) : List M := (List.range n).map fun k => .d (f k)
theorem cellsF_get {n : Nat} {f : Nat → D} {k : Nat} (h : k < n) : (cellsF n f)[((k : Nat) : Int).toNat * 1]? = some (.d (f k)) := by simp [cellsF, h]
theorem cellsF_congr {n : Nat} {f g : Nat → D} (h : ∀ k, k < n → f k = g k) : cellsF n f = cellsF n g := by
  unfold cellsF
  apply List.map_congr_left
  intro k hk
  rw [h k (List.mem_range.1 hk)]
theorem cellsF_write {n : Nat} {f g : Nat → D} {k : Nat} {v : D} (h : k < n) (hv : g k = v) (hg : ∀ j, j < n → j ≠ k → g j = f j) : writeAt (cellsF n f) (((k : Nat) : Int).toNat * 1) [.d v] = some (cellsF n g) := by
  have e : ((k : Nat) : Int).toNat * 1 = k := by omega
  rw [e]
  unfold writeAt
  have hb : Nat.ble (k + [M.d v].length) (cellsF n f).length = true := by
    rw [Nat.ble_eq]; simp [cellsF]; omega
  rw [hb]
  simp only [cond_true]
  congr 1
  apply List.ext_getElem
  · simp [cellsF]; try omega
  · intro j h1 h2
    simp only [cellsF, List.length_map, List.length_range] at h2
    rcases Nat.lt_trichotomy j k with h3 | h3 | h3
    · rw [List.getElem_append_left (by simp [cellsF]; omega), List.getElem_append_left (by simp [cellsF]; omega)]
      simp [cellsF, hg j h2 (by omega)]
    · subst h3
      rw [List.getElem_append_left (by simp [cellsF]; omega), List.getElem_append_right (by simp [cellsF]; omega)]
      simp [cellsF, hv, Nat.min_eq_left (Nat.le_of_lt h)]
    · rw [List.getElem_append_right (by simp [cellsF]; omega)]
      simp [cellsF, Nat.min_eq_left (Nat.le_of_lt h), hg j h2 (by omega)]
      congr 1
      omega
theorem zlist1 (n : Nat) (z : D) : zlist 1 n [z] = cellsF n fun _ => z := by
  unfold zlist cellsF
  rw [Nat.mul_one]
  apply List.map_congr_left
  intro k hk
  simp [Nat.mod_one]

def doneF (p : List Int) (k : Nat) : D := .bool (p.contains (k : Int))
theorem rowsL_get {es : List (List Nat)} {k : Nat} (h : k < es.length) : (rowsL es)[((k : Nat) : Int).toNat]? = some [.sl (natsR (es.getD k []))] := by
  simp [rowsL, h, List.getD_eq_getElem?_getD]
def OkTo (es : List (List Nat)) (l : List Int) (i : Nat) : Prop :=
  ∀ (j : Nat) (h : j < l.length), j < i → (0 ≤ l[j] ∧ l[j] < es.length ∧ l[j] ∉ l.take j) ∧ ∀ k ∈ es.getD l[j].toNat [], (k : Int) ∈ l.take j
theorem right_ok (es : List (List Nat)) (l : List Int) (v : D) (hes : ∀ e ∈ es, ∀ k ∈ e, k < es.length) (hn : es.length ≤ 14) (hsm : ∀ e ∈ es, e.length ≤ 14) (hin : InI .i64 l v) : PT Try.prog 11 [.sl (rowsL es), v] (· = [.bool (Go.Gr.isOrd es l)]) := by
  obtain ⟨hlen, hv, hwf⟩ := hin
  refine PT.of_CT (CT.of_body Try.func11 rfl Try.ntmps11 rfl fun s0 Oo => ?_)
  refine TC.base fun hbase => ?_
  repeat refine TC.seq ?_
  refine TC.region ?_
  refine t_assign rfl rfl ?_
  refine TL.nil ?_
  repeat refine TC.seq ?_
  refine TC.region ?_
  refine t_move rfl rfl ?_
  refine t_lenS rfl rfl hlen ?_
  refine t_move rfl rfl ?_
  (refine t_lenS rfl rfl rfl ?_; rw [rowsL_len])
  refine t_int rfl rfl rfl rfl ?_
  refine TL.nil ?_
  repeat refine TC.seq ?_
  refine TC.cond rfl (fun hc => ?_) (fun hc => ?_)
  · have hc' : l.length ≠ es.length := by have h2 : ((l.length : Int) != es.length) = true := hc; simp at h2; omega
    repeat refine TC.seq ?_
    refine TC.region ?_
    refine t_assign rfl rfl ?_
    refine TL.nil ?_
    exact TC.ret ⟨_, rfl, [_], rfl, by rw [Go.Gr.isOrd_false (fun h => hc' h.1)]⟩
  have hll : l.length = es.length := by have h2 : ((l.length : Int) != es.length) = false := hc; simp at h2; omega
  clear hc
  refine TC.skip ?_
  repeat refine TC.seq ?_
  refine TC.region ?_
  refine t_move rfl rfl ?_
  (refine t_lenS rfl rfl rfl ?_; rw [rowsL_len])
  refine t_makeSlice (len := es.length) rfl rfl rfl rfl (by rfl) (by omega) (by omega) ?_
  refine t_assign rfl rfl ?_
  refine TL.nil ?_
  repeat refine TC.seq ?_
  refine TC.region ?_
  refine t_assign rfl rfl ?_
  refine TL.nil ?_
  refine TC.rename [(6, .m (.d (.int .i64 ((0 : Nat) : Int)))), (5, .m (.rsl 0 0 es.length)), (1, .m (.d v)), (0, .m (.d (.sl (rowsL es))))] [Ob.row false 1 0 (cellsF es.length (doneF (l.take 0)))] ⟨rfl, rfl, rfl, rfl, trivial⟩ (by rw [show dcells (D.bool false) = [D.bool false] from rfl, zlist1]; rfl) ?_
  repeat refine TC.seq ?_
  refine TC.block ?_
  refine TC.loopB (fun k s => ∃ (i : Nat), s = ⟨[(6, .m (.d (.int .i64 i))), (5, .m (.rsl 0 0 es.length)), (1, .m (.d v)), (0, .m (.d (.sl (rowsL es))))], [], [Ob.row false 1 0 (cellsF es.length (doneF (l.take i)))]⟩ ∧ i ≤ l.length ∧ OkTo es l i ∧ k = l.length - i) l.length _
    ⟨0, rfl, by omega, fun j _ h => by omega, rfl⟩ ⟨rfl, rfl, rfl, rfl, trivial⟩ ?_
  rintro k s ⟨i, rfl, hi, hok, rfl⟩
  repeat refine TC.seq ?_
  refine TC.region ?_
  refine t_move rfl rfl ?_
  refine t_move rfl rfl ?_
  refine t_lenS rfl rfl hlen ?_
  refine t_int rfl rfl rfl rfl ?_
  refine TL.nil ?_
  repeat refine TC.seq ?_
  refine TC.cond rfl (fun hc => ?_) (fun hc => ?_)
  · have hc' : i < l.length := by have := of_decide_eq_true hc; omega
    clear hc
    obtain rfl : v = .sl (intsD .i64 l) := hv.resolve_left (by rintro rfl; simp at hc')
    have hget : (intsD .i64 l)[((i : Nat) : Int).toNat]? = some [.int .i64 l[i]] := intsD_get (List.getElem?_eq_getElem hc')
    have hno : ¬ ((0 ≤ l[i] ∧ l[i] < es.length ∧ l[i] ∉ l.take i) ∧ ∀ k ∈ es.getD l[i].toNat [], (k : Int) ∈ l.take i) → Go.Gr.isOrd es l = false := fun h => Go.Gr.isOrd_false fun h2 => h ⟨h2.2.1 i hc', h2.2.2 i hc'⟩
    have hsucc : ((0 ≤ l[i] ∧ l[i] < es.length ∧ l[i] ∉ l.take i) ∧ ∀ k ∈ es.getD l[i].toNat [], (k : Int) ∈ l.take i) → OkTo es l (i + 1) := by
      intro h j hj hji
      rcases Nat.lt_or_ge j i with h1 | h1
      · exact hok j hj h1
      · obtain rfl : j = i := by omega
        exact h
    have htake : l.take (i + 1) = l.take i ++ [l[i]] := List.take_succ_eq_append_getElem hc'
    generalize l[i] = z at hget hno hsucc htake
    generalize hpre : l.take i = pre at hno hsucc htake
    refine TC.skip ?_
    repeat refine TC.seq ?_
    refine TC.block ?_
    rcases Int.lt_or_le z 0 with h0 | h0
    · repeat refine TC.seq ?_
      refine TC.region ?_
      refine t_move rfl rfl ?_
      refine t_move rfl rfl ?_
      refine t_indexD rfl rfl rfl (Int.natCast_nonneg i) hget rfl ?_
      first | refine t_loadDc rfl rfl rfl ?_ | refine t_loadLc rfl rfl rfl rfl ?_ | refine t_loadRc rfl rfl rfl rfl ?_
      (refine t_int rfl rfl rfl rfl ?_; rw [show decide (z < 0) = true from decide_eq_true h0])
      refine t_move rfl rfl ?_
      first | refine t_guard_no rfl rfl ?_ | (refine t_guard_yes rfl ?_; (refine t_move rfl rfl ?_))
      first | refine t_guard_no rfl rfl ?_ | (refine t_guard_yes rfl ?_; (refine t_move rfl rfl ?_))
      first | refine t_guard_no rfl rfl ?_ | (refine t_guard_yes rfl ?_; (fail))
      first | refine t_guard_no rfl rfl ?_ | (refine t_guard_yes rfl ?_; (first | refine t_loadDc rfl rfl rfl ?_ | refine t_loadLc rfl rfl rfl rfl ?_ | refine t_loadRc rfl rfl rfl rfl ?_))
      first | refine t_guard_no rfl rfl ?_ | (refine t_guard_yes rfl ?_; (refine t_move rfl rfl ?_))
      first | refine t_guard_no rfl rfl ?_ | (refine t_guard_yes rfl ?_; (refine t_lenS rfl rfl rfl ?_))
      first | refine t_guard_no rfl rfl ?_ | (refine t_guard_yes rfl ?_; (refine t_int rfl rfl rfl rfl ?_))
      refine t_pick rfl rfl rfl ?_
      refine t_move rfl rfl ?_
      first | refine t_guard_no rfl rfl ?_ | (refine t_guard_yes rfl ?_; (refine t_move rfl rfl ?_))
      first | refine t_guard_no rfl rfl ?_ | (refine t_guard_yes rfl ?_; (refine t_move rfl rfl ?_))
      first | refine t_guard_no rfl rfl ?_ | (refine t_guard_yes rfl ?_; (refine t_move rfl rfl ?_))
      first | refine t_guard_no rfl rfl ?_ | (refine t_guard_yes rfl ?_; (fail))
      first | refine t_guard_no rfl rfl ?_ | (refine t_guard_yes rfl ?_; (first | refine t_loadDc rfl rfl rfl ?_ | refine t_loadLc rfl rfl rfl rfl ?_ | refine t_loadRc rfl rfl rfl rfl ?_))
      first | refine t_guard_no rfl rfl ?_ | (refine t_guard_yes rfl ?_; (fail))
      first | refine t_guard_no rfl rfl ?_ | (refine t_guard_yes rfl ?_; (first | refine t_loadDc rfl rfl rfl ?_ | refine t_loadLc rfl rfl rfl rfl ?_ | refine t_loadRc rfl rfl rfl rfl ?_))
      refine t_pick rfl rfl rfl ?_
      refine TL.nil ?_
      repeat refine TC.seq ?_
      refine TC.cond rfl (fun hc => ?_) (fun hc => by cases hc)
      repeat refine TC.seq ?_
      refine TC.region ?_
      refine t_assign rfl rfl ?_
      refine TL.nil ?_
      exact TC.ret ⟨_, rfl, [_], rfl, by rw [hno (by rintro ⟨⟨h, _⟩, _⟩; omega)]⟩
    rcases Int.lt_or_le z es.length with h1 | h1
    rotate_left
    · repeat refine TC.seq ?_
      refine TC.region ?_
      refine t_move rfl rfl ?_
      refine t_move rfl rfl ?_
      refine t_indexD rfl rfl rfl (Int.natCast_nonneg i) hget rfl ?_
      first | refine t_loadDc rfl rfl rfl ?_ | refine t_loadLc rfl rfl rfl rfl ?_ | refine t_loadRc rfl rfl rfl rfl ?_
      (refine t_int rfl rfl rfl rfl ?_; rw [show decide (z < 0) = false from decide_eq_false (by omega)])
      refine t_move rfl rfl ?_
      first | refine t_guard_no rfl rfl ?_ | (refine t_guard_yes rfl ?_; (refine t_move rfl rfl ?_))
      first | refine t_guard_no rfl rfl ?_ | (refine t_guard_yes rfl ?_; (refine t_move rfl rfl ?_))
      first | refine t_guard_no rfl rfl ?_ | (refine t_guard_yes rfl ?_; (refine t_indexD rfl rfl rfl (Int.natCast_nonneg i) hget rfl ?_))
      first | refine t_guard_no rfl rfl ?_ | (refine t_guard_yes rfl ?_; (first | refine t_loadDc rfl rfl rfl ?_ | refine t_loadLc rfl rfl rfl rfl ?_ | refine t_loadRc rfl rfl rfl rfl ?_))
      first | refine t_guard_no rfl rfl ?_ | (refine t_guard_yes rfl ?_; (refine t_move rfl rfl ?_))
      first | refine t_guard_no rfl rfl ?_ | (refine t_guard_yes rfl ?_; ((refine t_lenS rfl rfl rfl ?_; rw [rowsL_len])))
      first | refine t_guard_no rfl rfl ?_ | (refine t_guard_yes rfl ?_; ((refine t_int rfl rfl rfl rfl ?_; rw [show decide (z ≥ (es.length : Int)) = true from decide_eq_true h1])))
      refine t_pick rfl rfl rfl ?_
      refine t_move rfl rfl ?_
      first | refine t_guard_no rfl rfl ?_ | (refine t_guard_yes rfl ?_; (refine t_move rfl rfl ?_))
      first | refine t_guard_no rfl rfl ?_ | (refine t_guard_yes rfl ?_; (refine t_move rfl rfl ?_))
      first | refine t_guard_no rfl rfl ?_ | (refine t_guard_yes rfl ?_; (refine t_move rfl rfl ?_))
      first | refine t_guard_no rfl rfl ?_ | (refine t_guard_yes rfl ?_; (fail))
      first | refine t_guard_no rfl rfl ?_ | (refine t_guard_yes rfl ?_; (first | refine t_loadDc rfl rfl rfl ?_ | refine t_loadLc rfl rfl rfl rfl ?_ | refine t_loadRc rfl rfl rfl rfl ?_))
      first | refine t_guard_no rfl rfl ?_ | (refine t_guard_yes rfl ?_; (fail))
      first | refine t_guard_no rfl rfl ?_ | (refine t_guard_yes rfl ?_; (first | refine t_loadDc rfl rfl rfl ?_ | refine t_loadLc rfl rfl rfl rfl ?_ | refine t_loadRc rfl rfl rfl rfl ?_))
      refine t_pick rfl rfl rfl ?_
      refine TL.nil ?_
      repeat refine TC.seq ?_
      refine TC.cond rfl (fun hc => ?_) (fun hc => by cases hc)
      repeat refine TC.seq ?_
      refine TC.region ?_
      refine t_assign rfl rfl ?_
      refine TL.nil ?_
      exact TC.ret ⟨_, rfl, [_], rfl, by rw [hno (by rintro ⟨⟨_, h, _⟩, _⟩; omega)]⟩
    obtain ⟨p, rfl⟩ := Int.eq_ofNat_of_zero_le h0
    have hp : p < es.length := by omega
    have hrow := rowsL_get hp
    simp only [Int.toNat_natCast] at hno hsucc
    have hks : ∀ k ∈ es.getD p [], k < es.length := by
      rw [List.getD_eq_getElem?_getD, List.getElem?_eq_getElem hp]
      exact hes _ (List.getElem_mem hp)
    have hksl : (es.getD p []).length ≤ 14 := by
      rw [List.getD_eq_getElem?_getD, List.getElem?_eq_getElem hp]
      exact hsm _ (List.getElem_mem hp)
    generalize es.getD p [] = ks at hrow hno hsucc hks hksl
    repeat refine TC.seq ?_
    refine TC.region ?_
    refine t_move rfl rfl ?_
    refine t_move rfl rfl ?_
    refine t_indexD rfl rfl rfl (Int.natCast_nonneg i) hget rfl ?_
    first | refine t_loadDc rfl rfl rfl ?_ | refine t_loadLc rfl rfl rfl rfl ?_ | refine t_loadRc rfl rfl rfl rfl ?_
    (refine t_int rfl rfl rfl rfl ?_; rw [show decide ((p : Int) < 0) = false from decide_eq_false (by omega)])
    refine t_move rfl rfl ?_
    first | refine t_guard_no rfl rfl ?_ | (refine t_guard_yes rfl ?_; (refine t_move rfl rfl ?_))
    first | refine t_guard_no rfl rfl ?_ | (refine t_guard_yes rfl ?_; (refine t_move rfl rfl ?_))
    first | refine t_guard_no rfl rfl ?_ | (refine t_guard_yes rfl ?_; (refine t_indexD rfl rfl rfl (Int.natCast_nonneg i) hget rfl ?_))
    first | refine t_guard_no rfl rfl ?_ | (refine t_guard_yes rfl ?_; (first | refine t_loadDc rfl rfl rfl ?_ | refine t_loadLc rfl rfl rfl rfl ?_ | refine t_loadRc rfl rfl rfl rfl ?_))
    first | refine t_guard_no rfl rfl ?_ | (refine t_guard_yes rfl ?_; (refine t_move rfl rfl ?_))
    first | refine t_guard_no rfl rfl ?_ | (refine t_guard_yes rfl ?_; ((refine t_lenS rfl rfl rfl ?_; rw [rowsL_len])))
    first | refine t_guard_no rfl rfl ?_ | (refine t_guard_yes rfl ?_; ((refine t_int rfl rfl rfl rfl ?_; rw [show decide ((p : Int) ≥ (es.length : Int)) = false from decide_eq_false (by omega)])))
    refine t_pick rfl rfl rfl ?_
    refine t_move rfl rfl ?_
    first | refine t_guard_no rfl rfl ?_ | (refine t_guard_yes rfl ?_; (refine t_move rfl rfl ?_))
    first | refine t_guard_no rfl rfl ?_ | (refine t_guard_yes rfl ?_; (refine t_move rfl rfl ?_))
    first | refine t_guard_no rfl rfl ?_ | (refine t_guard_yes rfl ?_; (refine t_move rfl rfl ?_))
    first | refine t_guard_no rfl rfl ?_ | (refine t_guard_yes rfl ?_; (refine t_indexD rfl rfl rfl (Int.natCast_nonneg i) hget rfl ?_))
    first | refine t_guard_no rfl rfl ?_ | (refine t_guard_yes rfl ?_; (first | refine t_loadDc rfl rfl rfl ?_ | refine t_loadLc rfl rfl rfl rfl ?_ | refine t_loadRc rfl rfl rfl rfl ?_))
    first | refine t_guard_no rfl rfl ?_ | (refine t_guard_yes rfl ?_; (refine t_indexR rfl rfl rfl rfl (by omega) (by omega) ?_))
    first | refine t_guard_no rfl rfl ?_ | (refine t_guard_yes rfl ?_; (refine t_loadWc rfl rfl rfl (cellsF_get hp) ?_))
    refine t_pick rfl rfl rfl ?_
    refine TL.nil ?_
    repeat refine TC.seq ?_
    refine TC.cond rfl (fun hc => ?_) (fun hc => ?_)
    · have hc2 : pre.contains (p : Int) = true := hc
      repeat refine TC.seq ?_
      refine TC.region ?_
      refine t_assign rfl rfl ?_
      refine TL.nil ?_
      exact TC.ret ⟨_, rfl, [_], rfl, by rw [hno (by rintro ⟨⟨_, _, h⟩, _⟩; exact h (by simpa using hc2))]⟩
    have hnp : (p : Int) ∉ pre := by
      have hc2 : pre.contains (p : Int) = false := hc
      simpa using hc2
    clear hc
    refine TC.skip ?_
    repeat refine TC.seq ?_
    refine TC.region ?_
    refine t_assign rfl rfl ?_
    refine TL.nil ?_
    refine TC.rename [(7, .m (.d (.int .i64 ((0 : Nat) : Int)))), (6, .m (.d (.int .i64 i))), (5, .m (.rsl 0 0 es.length)), (1, .m (.d (.sl (intsD .i64 l)))), (0, .m (.d (.sl (rowsL es))))] [Ob.row false 1 0 (cellsF es.length (doneF pre))] ⟨rfl, rfl, rfl, rfl, rfl, trivial⟩ rfl ?_
    repeat refine TC.seq ?_
    refine TC.block ?_
    refine TC.loopB (fun k s => ∃ (j : Nat), s = ⟨[(7, .m (.d (.int .i64 j))), (6, .m (.d (.int .i64 i))), (5, .m (.rsl 0 0 es.length)), (1, .m (.d (.sl (intsD .i64 l)))), (0, .m (.d (.sl (rowsL es))))], [], [Ob.row false 1 0 (cellsF es.length (doneF pre))]⟩ ∧ j ≤ ks.length ∧ (∀ q ∈ ks.take j, (q : Int) ∈ pre) ∧ k = ks.length - j) ks.length _
      ⟨0, rfl, by omega, by simp, rfl⟩ ⟨rfl, rfl, rfl, rfl, rfl, trivial⟩ ?_
    rintro k s ⟨j, rfl, hj, hjok, rfl⟩
    repeat refine TC.seq ?_
    refine TC.region ?_
    refine t_move rfl rfl ?_
    refine t_move rfl rfl ?_
    refine t_move rfl rfl ?_
    refine t_move rfl rfl ?_
    refine t_indexD rfl rfl rfl (Int.natCast_nonneg i) hget rfl ?_
    first | refine t_loadDc rfl rfl rfl ?_ | refine t_loadLc rfl rfl rfl rfl ?_ | refine t_loadRc rfl rfl rfl rfl ?_
    refine t_indexD rfl rfl rfl (Int.natCast_nonneg p) hrow rfl ?_
    first | refine t_loadDc rfl rfl rfl ?_ | refine t_loadLc rfl rfl rfl rfl ?_ | refine t_loadRc rfl rfl rfl rfl ?_
    (refine t_lenS rfl rfl rfl ?_; rw [natsR_len])
    refine t_int rfl rfl rfl rfl ?_
    refine TL.nil ?_
    repeat refine TC.seq ?_
    refine TC.cond rfl (fun hc => ?_) (fun hc => ?_)
    · have hcj : j < ks.length := by have := of_decide_eq_true hc; omega
      clear hc
      have hq := hks _ (List.getElem_mem hcj)
      have hgj := natsR_get hcj
      have htk : ks.take (j + 1) = ks.take j ++ [ks[j]] := List.take_succ_eq_append_getElem hcj
      have hmem : ks[j] ∈ ks := List.getElem_mem hcj
      generalize ks[j] = q at hq hgj htk hmem
      refine TC.skip ?_
      repeat refine TC.seq ?_
      refine TC.block ?_
      repeat refine TC.seq ?_
      refine TC.region ?_
      refine t_move rfl rfl ?_
      refine t_move rfl rfl ?_
      refine t_move rfl rfl ?_
      refine t_move rfl rfl ?_
      refine t_indexD rfl rfl rfl (Int.natCast_nonneg i) hget rfl ?_
      first | refine t_loadDc rfl rfl rfl ?_ | refine t_loadLc rfl rfl rfl rfl ?_ | refine t_loadRc rfl rfl rfl rfl ?_
      refine t_indexD rfl rfl rfl (Int.natCast_nonneg p) hrow rfl ?_
      first | refine t_loadDc rfl rfl rfl ?_ | refine t_loadLc rfl rfl rfl rfl ?_ | refine t_loadRc rfl rfl rfl rfl ?_
      refine t_move rfl rfl ?_
      refine t_indexD rfl rfl rfl (Int.natCast_nonneg j) hgj rfl ?_
      first | refine t_loadDc rfl rfl rfl ?_ | refine t_loadLc rfl rfl rfl rfl ?_ | refine t_loadRc rfl rfl rfl rfl ?_
      refine t_indexR rfl rfl rfl rfl (by omega) (by omega) ?_
      refine t_loadWc rfl rfl rfl (cellsF_get hq) ?_
      refine t_not rfl rfl ?_
      refine TL.nil ?_
      repeat refine TC.seq ?_
      refine TC.cond rfl (fun hc => ?_) (fun hc => ?_)
      · have hc2 : (!pre.contains (q : Int)) = true := hc
        repeat refine TC.seq ?_
        refine TC.region ?_
        refine t_assign rfl rfl ?_
        refine TL.nil ?_
        exact TC.ret ⟨_, rfl, [_], rfl, by rw [hno (by rintro ⟨_, h⟩; have := h q hmem; simp at hc2; exact hc2 this)]⟩
      have hqp : (q : Int) ∈ pre := by
        have hc2 : (!pre.contains (q : Int)) = false := hc
        simpa using hc2
      clear hc
      refine TC.skip ?_
      repeat refine TC.seq ?_
      refine TC.region ?_
      refine t_move rfl rfl ?_
      refine t_add64 rfl rfl rfl (by omega) ?_
      refine t_assign rfl rfl ?_
      refine TL.nil ?_
      exact again (k' := ks.length - (j + 1)) (by omega) ⟨j + 1, rfl, by omega, by intro x hx; rw [htk] at hx; rcases List.mem_append.1 hx with h | h; exact hjok x h; simp at h; subst h; exact hqp, rfl⟩ rfl ⟨by simp; rfl, rfl, rfl, rfl, rfl, trivial⟩
    · have hcj : j = ks.length := by have := of_decide_eq_false hc; omega
      subst hcj
      rw [List.take_length] at hjok
      refine TC.exit ?_
      have hwr : writeAt (cellsF es.length (doneF pre)) (((p : Nat) : Int).toNat * 1) [.d (.bool true)] = some (cellsF es.length (doneF (pre ++ [(p : Int)]))) := cellsF_write hp (by simp [doneF]) (fun j _ hj => by simp [doneF, show ¬ (j : Int) = p from fun h => hj (by omega)])
      repeat refine TC.seq ?_
      refine TC.region ?_
      refine t_move rfl rfl ?_
      refine t_move rfl rfl ?_
      refine t_move rfl rfl ?_
      refine t_indexD rfl rfl rfl (Int.natCast_nonneg i) hget rfl ?_
      first | refine t_loadDc rfl rfl rfl ?_ | refine t_loadLc rfl rfl rfl rfl ?_ | refine t_loadRc rfl rfl rfl rfl ?_
      refine t_indexR rfl rfl rfl rfl (by omega) (by omega) ?_
      refine t_storeW rfl rfl rfl rfl rfl hwr ?_
      refine TL.nil ?_
      repeat refine TC.seq ?_
      refine TC.region ?_
      refine t_move rfl rfl ?_
      refine t_add64 rfl rfl rfl (by omega) ?_
      refine t_assign rfl rfl ?_
      refine TL.nil ?_
      exact again (k' := l.length - (i + 1)) (by omega) ⟨i + 1, rfl, by omega, hsucc ⟨⟨h0, h1, hnp⟩, hjok⟩, rfl⟩ (by rw [htake]; rfl) ⟨by simp; rfl, rfl, rfl, rfl, trivial⟩
  · refine TC.exit ?_
    have hc' : i = l.length := by have := of_decide_eq_false hc; omega
    subst hc'
    repeat refine TC.seq ?_
    refine TC.region ?_
    refine t_assign rfl rfl ?_
    refine TL.nil ?_
    exact TC.ret ⟨_, rfl, [_], rfl, by rw [Go.Gr.isOrd_true ⟨hll, fun j hj => (hok j hj hj).1, fun j hj => (hok j hj hj).2⟩]⟩
end Go.Proofs
