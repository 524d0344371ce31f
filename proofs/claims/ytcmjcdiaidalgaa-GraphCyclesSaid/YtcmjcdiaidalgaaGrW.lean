/- A table of numbers in the heap, row by row; the table of the lengths of walks. -/
import Derived.Test.YtcmjcdiaidalgaaGrU
import Derived.Test.YtcmjcdiaidalgaaGrV
namespace Go.Proofs
open Go.Mt Go.Gr
set_option linter.unusedSimpArgs false
set_option linter.unusedVariables false

def outP (n i : Nat) : List M := (List.range n).map fun k => if k < i then .rsl (k + 1) 0 n else .d (.sl [])
def rowT (n : Nat) (F : Nat → Nat → Nat) (i : Nat) : List M := cellsF n fun j => .int .i64 ((F i j : Nat) : Int)
def HT (n : Nat) (F : Nat → Nat → Nat) (i : Nat) : Hp := Ob.row false 1 0 (outP n i) :: (List.range i).map fun a => Ob.row false 1 0 (rowT n F a)
theorem HT_len (n : Nat) (F : Nat → Nat → Nat) (i : Nat) : (HT n F i).length = i + 1 := by simp [HT]
theorem HT_out (n : Nat) (F : Nat → Nat → Nat) (i : Nat) : (HT n F i)[0]? = some (Ob.row false 1 0 (outP n i)) := rfl
theorem HT_row {n : Nat} (F : Nat → Nat → Nat) {i a : Nat} (h : a < i) : (HT n F i)[a + 1]? = some (Ob.row false 1 0 (rowT n F a)) := by simp [HT, h]
theorem outP_get {n i a : Nat} (h : a < i) (hn : a < n) : (outP n i)[((a : Nat) : Int).toNat * 1]? = some (.rsl (a + 1) 0 n) := by simp [outP, h, hn]
theorem rowT_get {n : Nat} (F : Nat → Nat → Nat) (a : Nat) {b : Nat} (h : b < n) : (rowT n F a)[((b : Nat) : Int).toNat * 1]? = some (.d (.int .i64 ((F a b : Nat) : Int))) := by rw [rowT, cellsF_get h]
theorem rowT_write {n : Nat} (F : Nat → Nat → Nat) (a : Nat) {b : Nat} (v : Nat) (h : b < n) : writeAt (rowT n F a) (((b : Nat) : Int).toNat * 1) [.d (.int .i64 (v : Int))] = some (rowT n (upd2 F a b v) a) :=
  cellsF_write h (by rw [upd2_self]) fun j _ hj => by rw [upd2_ne F v (by rintro ⟨_, e⟩; exact hj e)]
theorem HT_set {n : Nat} (F : Nat → Nat → Nat) {i a : Nat} (b v : Nat) (h : a < i) : (HT n F i).set (a + 1) (Ob.row false 1 0 (rowT n (upd2 F a b v) a)) = HT n (upd2 F a b v) i := by
  simp only [HT, List.set_cons_succ]
  congr 1
  apply List.ext_getElem
  · simp
  · intro m h1 h2
    simp only [List.length_map, List.length_range] at h2
    rw [List.getElem_set]
    by_cases e : a = m
    · subst e; simp
    · rw [if_neg e]
      simp only [List.getElem_map, List.getElem_range]
      congr 1
      apply cellsF_congr
      intro j _
      rw [upd2_ne F v (by rintro ⟨e2, _⟩; exact e e2.symm)]
theorem outP_write {n i : Nat} (h : i < n) : writeAt (outP n i) (((i : Nat) : Int).toNat * 1) [.rsl (i + 1) 0 n] = some (outP n (i + 1)) := by
  have e : ((i : Nat) : Int).toNat * 1 = i := by omega
  rw [e]
  unfold writeAt
  have hb : Nat.ble (i + [M.rsl (i + 1) 0 n].length) (outP n i).length = true := by rw [Nat.ble_eq]; simp [outP]; omega
  rw [hb]
  simp only [cond_true]
  congr 1
  apply List.ext_getElem
  · simp [outP]; omega
  · intro j h1 h2
    simp only [outP, List.length_map, List.length_range] at h2
    rcases Nat.lt_trichotomy j i with h3 | h3 | h3
    · rw [List.getElem_append_left (by simp [outP]; omega), List.getElem_append_left (by simp [outP]; omega)]
      simp [outP, h3, show j < i + 1 by omega]
    · subst h3
      rw [List.getElem_append_left (by simp [outP]; omega), List.getElem_append_right (by simp [outP]; omega)]
      simp [outP, Nat.min_eq_left (Nat.le_of_lt h)]
    · rw [List.getElem_append_right (by simp [outP]; omega)]
      simp only [outP, List.length_append, List.length_take, List.length_map, List.length_range, List.length_cons, List.length_nil, Nat.min_eq_left (Nat.le_of_lt h), List.getElem_drop, List.getElem_map, List.getElem_range]
      rw [if_neg (by omega), if_neg (by omega)]
theorem HT_snoc {n : Nat} (F : Nat → Nat → Nat) {i : Nat} (h : ∀ j, F i j = 0) : (HT n F i ++ [Ob.row false 1 0 (cellsF n fun _ => .int .i64 0)]).set 0 (Ob.row false 1 0 (outP n (i + 1))) = HT n F (i + 1) := by
  have e : cellsF n (fun _ => D.int .i64 0) = rowT n F i := cellsF_congr fun j _ => by rw [h j]; rfl
  rw [e]
  simp [HT, List.range_succ]

/-- the edges that are entered so far -/
def Fb (es : List (List Nat)) (i j a b : Nat) : Nat := if (a < i ∧ b ∈ es.getD a []) ∨ (a = i ∧ b ∈ (es.getD i []).take j) then 1 else 0
theorem Fb_zero (es : List (List Nat)) (i j : Nat) : Fb es i 0 i j = 0 := by simp [Fb]
theorem Fb_next (es : List (List Nat)) (i : Nat) {j : Nat} (h : (es.getD i []).length ≤ j) : Fb es i j = Fb es (i + 1) 0 := by
  funext a b
  simp only [Fb, List.take_of_length_le h]
  by_cases h1 : a = i
  · subst h1; simp
  · have : a < i ↔ a < i + 1 := by omega
    simp [h1, this]
theorem Fb_step (es : List (List Nat)) (i : Nat) {j : Nat} (h : j < (es.getD i []).length) : Fb es i (j + 1) = upd2 (Fb es i j) i (es.getD i [])[j] 1 := by
  funext a b
  by_cases e : a = i ∧ b = (es.getD i [])[j]
  · obtain ⟨rfl, rfl⟩ := e
    rw [upd2_self]
    simp only [Fb]
    rw [if_pos]
    refine .inr ⟨trivial, ?_⟩
    rw [List.take_succ_eq_append_getElem h]; exact List.mem_append_right _ (List.mem_singleton_self _)
  · rw [upd2_ne _ _ e]
    simp only [Fb]
    have e2 : (a = i ∧ b ∈ (es.getD i []).take (j + 1)) ↔ (a = i ∧ b ∈ (es.getD i []).take j) := by
      rw [List.take_succ_eq_append_getElem h]
      constructor
      · rintro ⟨h1, h2⟩
        rcases List.mem_append.1 h2 with h3 | h3
        · exact ⟨h1, h3⟩
        · simp at h3; exact absurd ⟨h1, h3⟩ e
      · rintro ⟨h1, h2⟩; exact ⟨h1, List.mem_append.2 (.inl h2)⟩
    simp only [e2]
theorem Fb_snd (es : List (List Nat)) (n : Nat) : Snd es (Fb es n 0) := by
  intro a b h
  simp only [Fb] at h ⊢
  by_cases c : (a < n ∧ b ∈ es.getD a []) ∨ (a = n ∧ b ∈ (es.getD n []).take 0)
  · rw [if_pos c]
    rcases c with c | c
    · exact ⟨b, c.2, rfl⟩
    · simp at c
  · rw [if_neg c] at h; omega
theorem Fb_cmp (es : List (List Nat)) : Cmp es 0 (Fb es es.length 0) := by
  intro L a b h
  cases L with
  | zero =>
    have hb : b ∈ es.getD a [] := h
    have ha : a < es.length := by
      rcases Nat.lt_or_ge a es.length with h1 | h1
      · exact h1
      · rw [List.getD_eq_getElem?_getD, List.getElem?_eq_none h1] at hb; simp at hb
    have e : Fb es es.length 0 a b = 1 := by simp only [Fb]; rw [if_pos (.inl ⟨ha, hb⟩)]
    exact ⟨by omega, by omega⟩
  | succ L => obtain ⟨k, _, h2, _⟩ := h; omega
theorem Fb_le (es : List (List Nat)) (n a b : Nat) : Fb es n 0 a b ≤ 1 := by simp only [Fb]; split <;> omega
/-- bounds within a phase -/
def Bd (k B : Nat) (F : Nat → Nat → Nat) : Prop := (∀ i, F i k ≤ B) ∧ (∀ j, F k j ≤ B) ∧ ∀ i j, F i j ≤ 2 * B
theorem fwS_bd {k B : Nat} {F : Nat → Nat → Nat} {i j : Nat} (h : Bd k B F) : Bd k B (fwS F k i j) := by
  unfold fwS
  cases hb : fwB F k i j with
  | false => exact h
  | true =>
    simp only [fwB, Bool.and_eq_true, Bool.or_eq_true, decide_eq_true_eq, beq_iff_eq] at hb
    obtain ⟨h1, h2, h3⟩ := h
    have hjk : j ≠ k := by rintro rfl; omega
    have hik : i ≠ k := by rintro rfl; omega
    simp only [cond_true]
    refine ⟨fun a => ?_, fun b => ?_, fun a b => ?_⟩
    · rw [upd2_ne F _ (by rintro ⟨_, e⟩; exact hjk e.symm)]; exact h1 a
    · rw [upd2_ne F _ (by rintro ⟨e, _⟩; exact hik e.symm)]; exact h2 b
    · by_cases e : a = i ∧ b = j
      · obtain ⟨rfl, rfl⟩ := e
        rw [upd2_self]; have := h1 a; have := h2 b; omega
      · rw [upd2_ne F _ e]; exact h3 a b
theorem fwS_cmp {es : List (List Nat)} {K : Nat} {F : Nat → Nat → Nat} {k i j : Nat} (h : Cmp es K F) : Cmp es K (fwS F k i j) := fun L a b hw => fwS_gd (h L a b hw)
theorem fwS_via2 {es : List (List Nat)} {K : Nat} {F : Nat → Nat → Nat} {k i j a b : Nat} (h : Via es K F a b) : Via es K (fwS F k i j) a b := fun x y hx hy => fwS_gd (h x y hx hy)
theorem WB.lt {es : List (List Nat)} (hes : ∀ e ∈ es, ∀ k ∈ e, k < es.length) {K : Nat} : ∀ {L i j : Nat}, WB es K L i j → i < es.length ∧ j < es.length
  | 0, i, j, h => by
    have hj : j ∈ es.getD i [] := h
    rcases Nat.lt_or_ge i es.length with h1 | h1
    · rw [List.getD_eq_getElem?_getD, List.getElem?_eq_getElem h1] at hj
      exact ⟨h1, hes _ (List.getElem_mem h1) j hj⟩
    · rw [List.getD_eq_getElem?_getD, List.getElem?_eq_none h1] at hj; simp at hj
  | L + 1, i, j, ⟨k, hk, _, h⟩ => by
    have := WB.lt hes h
    have h2 : WB es K 0 i k := hk
    exact ⟨(WB.lt hes h2).1, this.2⟩
end Go.Proofs
