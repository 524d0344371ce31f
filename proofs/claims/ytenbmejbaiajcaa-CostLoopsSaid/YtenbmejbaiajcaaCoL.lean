import Derived.Test.YtenbmejbaiajcaaCoK
namespace Go.Proofs
open Go.Mt
set_option maxRecDepth 4000
set_option linter.unusedSimpArgs false
set_option linter.unusedVariables false

def GoodH (E : Nat → Nat → Bool) : Nat → Nat → Prop
  | 0, _ => False
  | h + 1, i => i < 6 ∧ ∀ j, E i j = true → GoodH E h j
theorem GoodH.succ {E : Nat → Nat → Bool} : ∀ {h i : Nat}, GoodH E h i → GoodH E (h + 1) i
  | 0, _, g => g.elim
  | _ + 1, _, g => ⟨g.1, fun j hj => (g.2 j hj).succ⟩
theorem GoodH.le {E : Nat → Nat → Bool} {h i : Nat} (g : GoodH E h i) : ∀ n, GoodH E (h + n) i
  | 0 => g
  | n + 1 => (g.le n).succ
theorem GoodH.lt {E : Nat → Nat → Bool} {h i : Nat} (g : GoodH E h i) : i < 6 := by
  cases h with
  | zero => exact g.elim
  | succ h => exact g.1
theorem GoodH.reach {E : Nat → Nat → Bool} {i j : Nat} (r : Reach E i j) : ∀ {h : Nat}, GoodH E h i → ∃ h', h' < h ∧ GoodH E h' j := by
  induction r with
  | one e =>
    intro h g
    cases h with
    | zero => exact g.elim
    | succ h => exact ⟨h, by omega, g.2 _ e⟩
  | cons e _ ih =>
    intro h g
    cases h with
    | zero => exact g.elim
    | succ h =>
      obtain ⟨h', h1, h2⟩ := ih (g.2 _ e)
      exact ⟨h', by omega, h2⟩
theorem GoodH.acyclic {E : Nat → Nat → Bool} {k : Nat} (r : Reach E k k) : ∀ h, ¬ GoodH E h k := by
  intro h
  induction h using Nat.strongRecOn with
  | _ h ih =>
    intro g
    obtain ⟨h', h1, h2⟩ := g.reach r
    exact ih h' h1 h2
def Bad (E : Nat → Nat → Bool) (i : Nat) : Prop := Reach E i 6 ∨ ∃ k, k < 6 ∧ (k = i ∨ Reach E i k) ∧ Reach E k k
theorem GoodH.not_bad {E : Nat → Nat → Bool} {h i : Nat} (g : GoodH E h i) : ¬ Bad E i := by
  rintro (r | ⟨k, _, (rfl | r), c⟩)
  · obtain ⟨h', _, g'⟩ := g.reach r
    exact absurd g'.lt (by omega)
  · exact GoodH.acyclic c _ g
  · obtain ⟨h', _, g'⟩ := g.reach r
    exact GoodH.acyclic c _ g'
theorem countP_lt {α : Type} {p q : α → Bool} : ∀ {l : List α}, (∀ x, p x = true → q x = true) → (∃ x ∈ l, q x = true ∧ p x = false) → l.countP p < l.countP q
  | [], _, h => by obtain ⟨x, hx, _⟩ := h; cases hx
  | a :: l, hpq, h => by
    have hle : l.countP p ≤ l.countP q := List.countP_mono_left fun x _ => hpq x
    obtain ⟨x, hx, hq, hp⟩ := h
    rw [List.countP_cons, List.countP_cons]
    rcases List.mem_cons.1 hx with rfl | hx
    · simp [hq, hp]; omega
    · have := countP_lt (l := l) hpq ⟨x, hx, hq, hp⟩
      cases hpa : p a with
      | true => simp [hpq a hpa]; omega
      | false => cases q a <;> simp <;> omega
section
variable {E R : Nat → Nat → Bool} (hE : ∀ i j, E i j = true → j < 7) (hR : ∀ i j, i < 7 → j < 7 → (R i j = true ↔ Reach E i j))
include hE hR
theorem good_of_count : ∀ (n i : Nat), i < 6 → (List.range 7).countP (R i) < n → ¬ Bad E i → GoodH E n i
  | 0, i, _, h, _ => by omega
  | n + 1, i, hi, h, hb => by
    refine ⟨hi, fun j e => ?_⟩
    have hj7 := hE i j e
    have hj6 : j ≠ 6 := by rintro rfl; exact hb (.inl (.one e))
    have hbj : ¬ Bad E j := by
      rintro (r | ⟨k, hk, (rfl | r), c⟩)
      · exact hb (.inl (.cons e r))
      · exact hb (.inr ⟨k, hk, .inr (.one e), c⟩)
      · exact hb (.inr ⟨k, hk, .inr (.cons e r), c⟩)
    refine good_of_count n j (by omega) ?_ hbj
    have hjj : ¬ Reach E j j := fun c => hb (.inr ⟨j, by omega, .inr (.one e), c⟩)
    have h1 : (List.range 7).countP (fun x => decide (x < 7) && R j x) < (List.range 7).countP (fun x => decide (x < 7) && R i x) := by
      refine countP_lt (fun x hx => ?_) ⟨j, by simpa using hj7, ?_, ?_⟩
      · simp at hx ⊢
        exact ⟨hx.1, (hR i x (by omega) hx.1).2 (.cons e ((hR j x hj7 hx.1).1 hx.2))⟩
      · simp [hj7, (hR i j (by omega) hj7).2 (.one e)]
      · cases hr : R j j with
        | false => simp
        | true => exact absurd ((hR j j hj7 hj7).1 hr) hjj
    have h2 : ∀ y, (List.range 7).countP (fun x => decide (x < 7) && R y x) = (List.range 7).countP (R y) := by
      intro y
      refine List.countP_congr fun x hx => ?_
      simp at hx ⊢
      omega
    rw [h2, h2] at h1
    omega
omit hE in
theorem count_le (i : Nat) (hi : i < 6) (hb : ¬ Bad E i) : (List.range 7).countP (R i) < 6 := by
  have h6 : R i 6 = false := by
    cases h : R i 6 with
    | false => rfl
    | true => exact absurd (.inl ((hR i 6 (by omega) (by omega)).1 h)) hb
  have hii : R i i = false := by
    cases h : R i i with
    | false => rfl
    | true => exact absurd (.inr ⟨i, hi, .inl rfl, (hR i i (by omega) (by omega)).1 h⟩) hb
  have hl : List.range 7 = [0, 1, 2, 3, 4, 5, 6] := rfl
  rw [hl]
  have hb1 : ∀ b : Bool, (if b = true then 1 else 0) ≤ 1 := by intro b; cases b <;> simp
  have k0 := hb1 (R i 0)
  have k1 := hb1 (R i 1)
  have k2 := hb1 (R i 2)
  have k3 := hb1 (R i 3)
  have k4 := hb1 (R i 4)
  have k5 := hb1 (R i 5)
  simp only [List.countP_cons, List.countP_nil, h6]
  have : i = 0 ∨ i = 1 ∨ i = 2 ∨ i = 3 ∨ i = 4 ∨ i = 5 := by omega
  rcases this with rfl | rfl | rfl | rfl | rfl | rfl <;> rw [hii] <;> simp only [Bool.false_eq_true, if_false] <;> omega
theorem good_iff (i : Nat) (hi : i < 6) : GoodH E 6 i ↔ ¬ Bad E i :=
  ⟨fun g => g.not_bad, fun hb => good_of_count hE hR 6 i hi (count_le hR i hi hb) hb⟩
end
end Go.Proofs
