/- Heaps of numbers, whose least one stands first: plain. -/
import Derived.Test.YtcmjcdiaidalgaaGrP
set_option linter.unusedVariables false
set_option linter.unusedSimpArgs false
namespace Go.Gr

def Heap (n : Nat) (h : Nat → Nat) : Prop := ∀ k, 0 < k → k < n → h ((k - 1) / 2) ≤ h k
def Inj (n : Nat) (h : Nat → Nat) : Prop := ∀ a b, a < n → b < n → h a = h b → a = b
def Img (n : Nat) (h : Nat → Nat) (x : Nat) : Prop := ∃ k, k < n ∧ h k = x
theorem Heap.least {n : Nat} {h : Nat → Nat} (hp : Heap n h) : ∀ k, k < n → h 0 ≤ h k := by
  intro k
  induction k using Nat.strongRecOn with
  | ind k ih =>
    intro hk
    rcases Nat.eq_zero_or_pos k with rfl | h0
    · exact Nat.le_refl _
    · exact Nat.le_trans (ih ((k - 1) / 2) (by omega) (by omega)) (hp k h0 hk)
def swp (h : Nat → Nat) (i j k : Nat) : Nat := if k = i then h j else if k = j then h i else h k
theorem swp_i (h : Nat → Nat) (i j : Nat) : swp h i j i = h j := by simp [swp]
theorem swp_j (h : Nat → Nat) (i j : Nat) : swp h i j j = h i := by by_cases e : j = i <;> simp [swp, e]
theorem swp_ne (h : Nat → Nat) {i j k : Nat} (h1 : k ≠ i) (h2 : k ≠ j) : swp h i j k = h k := by simp [swp, h1, h2]
theorem swp_inj {n : Nat} {h : Nat → Nat} {i j : Nat} (hi : i < n) (hj : j < n) (hn : Inj n h) : Inj n (swp h i j) := by
  intro a b ha hb e
  unfold swp at e
  by_cases a1 : a = i <;> by_cases a2 : a = j <;> by_cases b1 : b = i <;> by_cases b2 : b = j <;> simp only [a1, a2, b1, b2, if_true, if_false] at e
  all_goals first
    | omega
    | (have := hn _ _ (by omega) (by omega) e; omega)
    | (simp_all; done)
    | (split at e <;> (have := hn _ _ (by omega) (by omega) e; omega))
theorem swp_img {n : Nat} {h : Nat → Nat} {i j : Nat} (hi : i < n) (hj : j < n) (x : Nat) : Img n (swp h i j) x ↔ Img n h x := by
  constructor
  · rintro ⟨k, hk, rfl⟩
    by_cases h1 : k = i
    · subst h1; exact ⟨j, hj, (swp_i h k j).symm⟩
    · by_cases h2 : k = j
      · subst h2; exact ⟨i, hi, (swp_j h i k).symm⟩
      · exact ⟨k, hk, (swp_ne h h1 h2).symm⟩
  · rintro ⟨k, hk, rfl⟩
    by_cases h1 : k = i
    · subst h1; exact ⟨j, hj, swp_j h k j⟩
    · by_cases h2 : k = j
      · subst h2; exact ⟨i, hi, swp_i h i k⟩
      · exact ⟨k, hk, swp_ne h h1 h2⟩
/-- a heap but for the one at i, that may have to rise -/
def Up (n : Nat) (h : Nat → Nat) (i : Nat) : Prop := (∀ k, 0 < k → k < n → k ≠ i → h ((k - 1) / 2) ≤ h k) ∧ (0 < i → ∀ k, 0 < k → k < n → (k - 1) / 2 = i → h ((i - 1) / 2) ≤ h k)
theorem Up.stop {n : Nat} {h : Nat → Nat} {i : Nat} (u : Up n h i) (hs : i = 0 ∨ h ((i - 1) / 2) ≤ h i) : Heap n h := by
  intro k h0 hk
  by_cases e : k = i
  · subst e
    rcases hs with rfl | hs
    · omega
    · exact hs
  · exact u.1 k h0 hk e
theorem Up.step {n : Nat} {h : Nat → Nat} {i : Nat} (u : Up n h i) (hi : i < n) (h0 : 0 < i) (hg : h i < h ((i - 1) / 2)) : Up n (swp h i ((i - 1) / 2)) ((i - 1) / 2) := by
  obtain ⟨u1, u2⟩ := u
  obtain ⟨p, hp⟩ : ∃ p, p = (i - 1) / 2 := ⟨_, rfl⟩
  rw [← hp] at hg ⊢
  have hpi : p < i := by omega
  refine ⟨fun k k0 hk hne => ?_, fun p0 k k0 hk hkp => ?_⟩
  · by_cases e1 : k = i
    · subst e1
      rw [← hp, swp_j, swp_i]; omega
    · rw [swp_ne h e1 hne]
      by_cases e2 : (k - 1) / 2 = i
      · rw [e2, swp_i]
        have := u2 h0 k k0 hk e2
        rw [← hp] at this; exact this
      · by_cases e3 : (k - 1) / 2 = p
        · rw [e3, swp_j]
          have := u1 k k0 hk e1
          rw [e3] at this; omega
        · rw [swp_ne h e2 e3]; exact u1 k k0 hk e1
  · have hq : (p - 1) / 2 < p := by omega
    have q1 := u1 p p0 (by omega) (by omega)
    rw [swp_ne h (k := (p - 1) / 2) (by omega) (by omega)]
    by_cases e1 : k = i
    · subst e1; rw [swp_i]; exact q1
    · rw [swp_ne h e1 (by omega)]
      have := u1 k k0 hk e1
      rw [hkp] at this; omega
/-- a heap but for the one at i, that may have to sink -/
def Dn (n : Nat) (h : Nat → Nat) (i : Nat) : Prop := (∀ k, 0 < k → k < n → (k - 1) / 2 ≠ i → h ((k - 1) / 2) ≤ h k) ∧ (0 < i → ∀ k, 0 < k → k < n → (k - 1) / 2 = i → h ((i - 1) / 2) ≤ h k)
theorem Dn.stop {n : Nat} {h : Nat → Nat} {i : Nat} (u : Dn n h i) (hs : ∀ k, 0 < k → k < n → (k - 1) / 2 = i → h i ≤ h k) : Heap n h := by
  intro k h0 hk
  by_cases e : (k - 1) / 2 = i
  · rw [e]; exact hs k h0 hk e
  · exact u.1 k h0 hk e
theorem Dn.step {n : Nat} {h : Nat → Nat} {i c : Nat} (u : Dn n h i) (hi : i < n) (hc0 : 0 < c) (hc : c < n) (hci : (c - 1) / 2 = i) (hl : ∀ k, 0 < k → k < n → (k - 1) / 2 = i → h c ≤ h k) (hg : h c < h i) : Dn n (swp h i c) c := by
  obtain ⟨u1, u2⟩ := u
  have hic : i < c := by omega
  refine ⟨fun k k0 hk hne => ?_, fun c0 k k0 hk hkc => ?_⟩
  · by_cases e1 : (k - 1) / 2 = i
    · rw [e1, swp_i]
      by_cases e2 : k = c
      · subst e2; rw [swp_j]; omega
      · rw [swp_ne h (by omega) e2]; exact hl k k0 hk e1
    · rw [swp_ne h e1 hne]
      by_cases e2 : k = i
      · subst e2
        rw [swp_i]
        exact u2 k0 c hc0 hc hci
      · by_cases e3 : k = c
        · subst e3; exact absurd hci e1
        · rw [swp_ne h e2 e3]; exact u1 k k0 hk e1
  · rw [hci, swp_i, swp_ne h (by omega) (by omega)]
    have := u1 k k0 hk (by omega)
    rw [hkc] at this; exact this
end Go.Gr
