/- How many steps lead from each to each: plain. -/
import Derived.Test.YtcmjcdiaidalgaaGrS
set_option linter.unusedVariables false
set_option linter.unusedSimpArgs false
namespace Go.Gr

/-- a walk of L + 1 steps whose inner places lie below K -/
def WB (es : List (List Nat)) (K : Nat) : Nat → Nat → Nat → Prop
  | 0, i, j => j ∈ es.getD i []
  | L + 1, i, j => ∃ k ∈ es.getD i [], k < K ∧ WB es K L k j
theorem WB.split {es : List (List Nat)} {K : Nat} : ∀ {L i j : Nat}, WB es (K + 1) L i j → WB es K L i j ∨ ∃ a b, a + b + 1 ≤ L ∧ WB es K a i K ∧ WB es K b K j
  | 0, i, j, h => .inl h
  | L + 1, i, j, ⟨k, hk, hlt, h⟩ => by
    rcases WB.split h with h1 | ⟨a, b, h1, h2, h3⟩
    · rcases Nat.lt_or_ge k K with h4 | h4
      · exact .inl ⟨k, hk, h4, h1⟩
      · obtain rfl : k = K := by omega
        exact .inr ⟨0, L, by omega, hk, h1⟩
    · rcases Nat.lt_or_ge k K with h4 | h4
      · exact .inr ⟨a + 1, b, by omega, ⟨k, hk, h4, h2⟩, h3⟩
      · obtain rfl : k = K := by omega
        exact .inr ⟨0, b, by omega, hk, h3⟩
theorem Wk.toB {es : List (List Nat)} (hes : ∀ e ∈ es, ∀ k ∈ e, k < es.length) : ∀ {L i j : Nat}, Wk es (L + 1) i j → WB es es.length L i j
  | 0, i, j, ⟨k, hk, h⟩ => by cases h; exact hk
  | L + 1, i, j, ⟨k, hk, h⟩ => by
    refine ⟨k, hk, ?_, Wk.toB hes h⟩
    rcases Nat.lt_or_ge i es.length with h1 | h1
    · rw [List.getD_eq_getElem?_getD, List.getElem?_eq_getElem h1] at hk
      exact hes _ (List.getElem_mem h1) k hk
    · rw [List.getD_eq_getElem?_getD, List.getElem?_eq_none h1] at hk; simp at hk
theorem Wk.trans {es : List (List Nat)} : ∀ {a b i k j : Nat}, Wk es a i k → Wk es b k j → Wk es (a + b) i j
  | 0, b, i, k, j, h, h2 => by cases h; rw [Nat.zero_add]; exact h2
  | a + 1, b, i, k, j, ⟨x, hx, h⟩, h2 => by
    rw [show a + 1 + b = (a + b) + 1 by omega]
    exact ⟨x, hx, Wk.trans h h2⟩
def Gd (F : Nat → Nat → Nat) (i j L : Nat) : Prop := 0 < F i j ∧ F i j ≤ L
def upd2 (F : Nat → Nat → Nat) (i j v : Nat) : Nat → Nat → Nat := fun a b => if a = i ∧ b = j then v else F a b
theorem upd2_self (F : Nat → Nat → Nat) (i j v : Nat) : upd2 F i j v i j = v := by simp [upd2]
theorem upd2_ne (F : Nat → Nat → Nat) {i j a b : Nat} (v : Nat) (h : ¬ (a = i ∧ b = j)) : upd2 F i j v a b = F a b := by simp only [upd2]; rw [if_neg h]
/-- what the table tells is so -/
def Snd (es : List (List Nat)) (F : Nat → Nat → Nat) : Prop := ∀ i j, 0 < F i j → Wk es (F i j) i j
/-- the table knows all walks over places below K -/
def Cmp (es : List (List Nat)) (K : Nat) (F : Nat → Nat → Nat) : Prop := ∀ L i j, WB es K L i j → Gd F i j (L + 1)
/-- and, for those before (i, j), the walks over K -/
def Via (es : List (List Nat)) (K : Nat) (F : Nat → Nat → Nat) (i j : Nat) : Prop := ∀ a b, WB es K a i K → WB es K b K j → Gd F i j (a + 1 + (b + 1))
def fwB (F : Nat → Nat → Nat) (k i j : Nat) : Bool := decide (0 < F i k) && (decide (0 < F k j) && (F i j == 0 || decide (F i k + F k j < F i j)))
def fwS (F : Nat → Nat → Nat) (k i j : Nat) : Nat → Nat → Nat := bif fwB F k i j then upd2 F i j (F i k + F k j) else F
theorem fwS_gd {F : Nat → Nat → Nat} {k i j a b L : Nat} (h : Gd F a b L) : Gd (fwS F k i j) a b L := by
  unfold fwS
  cases hb : fwB F k i j with
  | false => exact h
  | true =>
    simp only [fwB, Bool.and_eq_true, Bool.or_eq_true, decide_eq_true_eq, beq_iff_eq] at hb
    obtain ⟨h1, h2⟩ := h
    by_cases e : a = i ∧ b = j
    · obtain ⟨rfl, rfl⟩ := e
      refine ⟨?_, ?_⟩ <;> simp only [cond_true, upd2_self] <;> omega
    · refine ⟨?_, ?_⟩ <;> simp only [cond_true, upd2_ne F _ e] <;> omega
theorem fwS_snd {es : List (List Nat)} {F : Nat → Nat → Nat} {k i j : Nat} (h : Snd es F) : Snd es (fwS F k i j) := by
  unfold fwS
  cases hb : fwB F k i j with
  | false => exact h
  | true =>
    simp only [fwB, Bool.and_eq_true, Bool.or_eq_true, decide_eq_true_eq, beq_iff_eq] at hb
    intro a b hab
    by_cases e : a = i ∧ b = j
    · obtain ⟨rfl, rfl⟩ := e
      simp only [cond_true, upd2_self]
      exact (h _ _ hb.1).trans (h _ _ hb.2.1)
    · simp only [cond_true, upd2_ne F _ e] at hab ⊢
      exact h a b hab
theorem fwS_via {es : List (List Nat)} {F : Nat → Nat → Nat} {k i j : Nat} (h : Cmp es k F) : Via es k (fwS F k i j) i j := by
  intro a b ha hb
  obtain ⟨h1, h2⟩ := h a i k ha
  obtain ⟨h3, h4⟩ := h b k j hb
  unfold fwS
  cases hc : fwB F k i j with
  | true => refine ⟨?_, ?_⟩ <;> simp only [cond_true, upd2_self] <;> omega
  | false =>
    have : ¬ (F i j = 0 ∨ F i k + F k j < F i j) := by
      intro h5
      have : fwB F k i j = true := by simp only [fwB, Bool.and_eq_true, Bool.or_eq_true, decide_eq_true_eq, beq_iff_eq]; exact ⟨h1, h3, h5⟩
      rw [hc] at this; cases this
    refine ⟨?_, ?_⟩ <;> simp only [cond_false] <;> omega
theorem Cmp.next {es : List (List Nat)} {k : Nat} {F : Nat → Nat → Nat} (h : Cmp es k F) (hv : ∀ i j, Via es k F i j) : Cmp es (k + 1) F := by
  intro L i j hw
  rcases hw.split with h1 | ⟨a, b, h1, h2, h3⟩
  · exact h L i j h1
  · obtain ⟨h4, h5⟩ := hv i j a b h2 h3
    exact ⟨h4, by omega⟩
/-- at the end: the least closed walk, or none -/
theorem fw_end {es : List (List Nat)} {F : Nat → Nat → Nat} (hes : ∀ e ∈ es, ∀ k ∈ e, k < es.length) (hs : Snd es F) (hc : Cmp es es.length F) (i : Nat) :
    (F i i = 0 ∧ ∀ L, 0 < L → ¬ Wk es L i i) ∨ (0 < F i i ∧ Wk es (F i i) i i ∧ ∀ L, 0 < L → Wk es L i i → F i i ≤ L) := by
  have key : ∀ L, 0 < L → Wk es L i i → Gd F i i L := by
    intro L h0 hw
    obtain ⟨m, rfl⟩ : ∃ m, L = m + 1 := ⟨L - 1, by omega⟩
    exact hc m i i (hw.toB hes)
  rcases Nat.eq_zero_or_pos (F i i) with h | h
  · exact .inl ⟨h, fun L h0 hw => by have := (key L h0 hw).1; omega⟩
  · exact .inr ⟨h, hs i i h, fun L h0 hw => (key L h0 hw).2⟩
end Go.Gr
