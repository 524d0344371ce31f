import Derived.Test.YtenbmejbaiajcaaCoI
namespace Go.Proofs
open Go.Mt
set_option maxRecDepth 4000
set_option linter.unusedSimpArgs false
set_option linter.unusedVariables false

/-! who reaches whom -/
inductive Reach (E : Nat → Nat → Bool) : Nat → Nat → Prop
  | one {i j : Nat} (h : E i j = true) : Reach E i j
  | cons {i k j : Nat} (h : E i k = true) (r : Reach E k j) : Reach E i j
theorem Reach.trans {E : Nat → Nat → Bool} {i k j : Nat} (h : Reach E i k) (r : Reach E k j) : Reach E i j := by
  induction h with
  | one h => exact .cons h r
  | cons h _ ih => exact .cons h (ih r)

theorem setR_mono {R : Nat → Nat → Bool} {i j x y : Nat} {b : Bool} (hb : R i j = true → b = true) (h : R x y = true) : setR R i j b x y = true := by
  by_cases hc : x = i ∧ y = j
  · obtain ⟨rfl, rfl⟩ := hc; simp [setR, hb h]
  · simp [setR, hc, h]
theorem step_mono {R : Nat → Nat → Bool} {k i j x y : Nat} (h : R x y = true) : step R k i j x y = true := setR_mono (fun h => by simp [h]) h
theorem wJ_mono {R : Nat → Nat → Bool} {k i x y : Nat} (h : R x y = true) : ∀ n, wJ R k i n x y = true
  | 0 => h
  | n + 1 => by rw [wJ_succ]; exact step_mono (wJ_mono h n)
theorem wI_mono {R : Nat → Nat → Bool} {k x y : Nat} (h : R x y = true) : ∀ n, wI R k n x y = true
  | 0 => h
  | n + 1 => by rw [wI_succ]; exact wJ_mono (wI_mono h n) 7
theorem wJ_hit {R : Nat → Nat → Bool} {k i j : Nat} (h1 : R i k = true) (h2 : R k j = true) : ∀ n, j < n → wJ R k i n i j = true
  | 0, h => by omega
  | n + 1, h => by
    rw [wJ_succ]
    rcases Nat.lt_succ_iff_lt_or_eq.1 h with h | rfl
    · exact step_mono (wJ_hit h1 h2 n h)
    · simp [step, setR, wJ_mono h1 j, wJ_mono h2 j]
theorem wI_hit {R : Nat → Nat → Bool} {k i j : Nat} (h1 : R i k = true) (h2 : R k j = true) (hj : j < 7) : ∀ n, i < n → wI R k n i j = true
  | 0, h => by omega
  | n + 1, h => by
    rw [wI_succ]
    rcases Nat.lt_succ_iff_lt_or_eq.1 h with h | rfl
    · exact wJ_mono (wI_hit h1 h2 hj n h) 7
    · exact wJ_hit (wI_mono h1 i) (wI_mono h2 i) 7 hj
/-- sound -/
def Sound (E R : Nat → Nat → Bool) : Prop := ∀ i j, R i j = true → Reach E i j
theorem step_sound {E R : Nat → Nat → Bool} {k i j : Nat} (h : Sound E R) : Sound E (step R k i j) := by
  intro x y hxy
  by_cases hc : x = i ∧ y = j
  · obtain ⟨rfl, rfl⟩ := hc
    simp [step, setR] at hxy
    rcases hxy with h1 | ⟨h1, h2⟩
    · exact h _ _ h1
    · exact (h _ _ h1).trans (h _ _ h2)
  · simp [step, setR, hc] at hxy; exact h _ _ hxy
theorem wJ_sound {E R : Nat → Nat → Bool} {k i : Nat} (h : Sound E R) : ∀ n, Sound E (wJ R k i n)
  | 0 => h
  | n + 1 => by rw [wJ_succ]; exact step_sound (wJ_sound h n)
theorem wI_sound {E R : Nat → Nat → Bool} {k : Nat} (h : Sound E R) : ∀ n, Sound E (wI R k n)
  | 0 => h
  | n + 1 => by rw [wI_succ]; exact wJ_sound (wI_sound h n) 7
theorem wK_sound {E : Nat → Nat → Bool} : ∀ n, Sound E (wK E n)
  | 0 => fun _ _ h => .one h
  | n + 1 => by rw [wK_succ]; exact wI_sound (wK_sound n) 7
/-- whole -/
inductive Via (E : Nat → Nat → Bool) (n : Nat) : Nat → Nat → Prop
  | edge {i j : Nat} (h : E i j = true) : Via E n i j
  | join {i k j : Nat} (hk : k < n) (h1 : Via E n i k) (h2 : Via E n k j) : Via E n i j
theorem Via.split {E : Nat → Nat → Bool} {n i j : Nat} (h : Via E (n + 1) i j) : Via E n i j ∨ (Via E n i n ∧ Via E n n j) := by
  induction h with
  | edge h => exact .inl (.edge h)
  | @join i k j hk _ _ ih1 ih2 =>
    rcases Nat.lt_succ_iff_lt_or_eq.1 hk with hk | rfl
    · rcases ih1 with a | ⟨a, a'⟩ <;> rcases ih2 with b | ⟨b, b'⟩
      · exact .inl (.join hk a b)
      · exact .inr ⟨.join hk a b, b'⟩
      · exact .inr ⟨a, .join hk a' b⟩
      · exact .inr ⟨a, b'⟩
    · refine .inr ⟨?_, ?_⟩
      · rcases ih1 with a | ⟨a, a'⟩ <;> exact a
      · rcases ih2 with b | ⟨b, b'⟩
        · exact b
        · exact b'
theorem wK_whole {E : Nat → Nat → Bool} : ∀ n i j, n ≤ 7 → i < 7 → j < 7 → Via E n i j → wK E n i j = true
  | 0, i, j, _, _, _, h => by
    cases h with
    | edge h => exact h
    | join hk _ _ => omega
  | n + 1, i, j, hn, hi, hj, h => by
    rw [wK_succ]
    rcases h.split with h | ⟨h1, h2⟩
    · exact wI_mono (wK_whole n i j (by omega) hi hj h) 7
    · exact wI_hit (wK_whole n i n (by omega) hi (by omega) h1) (wK_whole n n j (by omega) (by omega) hj h2) hj 7 hi
theorem Reach.via {E : Nat → Nat → Bool} (hE : ∀ i j, E i j = true → j < 7) {i j : Nat} (h : Reach E i j) : Via E 7 i j := by
  induction h with
  | one h => exact .edge h
  | cons h _ ih => exact .join (hE _ _ h) (.edge h) ih
theorem wK_iff {E : Nat → Nat → Bool} (hE : ∀ i j, E i j = true → j < 7) {i j : Nat} (hi : i < 7) (hj : j < 7) : wK E 7 i j = true ↔ Reach E i j :=
  ⟨wK_sound 7 i j, fun h => wK_whole 7 i j (by omega) hi hj (h.via hE)⟩

/-! the edges -/
theorem edges_iff (bs : List Nat) (i j : Nat) : edges bs i j = true ↔ ∃ b ∈ bs, fr b = i ∧ to b = j := by
  have key : ∀ (bs : List Nat) (R : Nat → Nat → Bool), (bs.foldl (fun R b => setR R (fr b) (to b) true) R) i j = true ↔ R i j = true ∨ ∃ b ∈ bs, fr b = i ∧ to b = j := by
    intro bs
    induction bs with
    | nil => intro R; simp
    | cons b bs ih =>
      intro R
      rw [List.foldl_cons, ih]
      by_cases hc : i = fr b ∧ j = to b
      · obtain ⟨rfl, rfl⟩ := hc
        simp [setR]
      · have : setR R (fr b) (to b) true i j = R i j := by simp [setR, hc]
        rw [this]
        constructor
        · rintro (h | ⟨c, h1, h2⟩)
          · exact .inl h
          · exact .inr ⟨c, by simp [h1], h2⟩
        · rintro (h | ⟨c, h1, h2⟩)
          · exact .inl h
          · rcases List.mem_cons.1 h1 with rfl | h1
            · exact absurd ⟨h2.1.symm, h2.2.symm⟩ hc
            · exact .inr ⟨c, h1, h2⟩
  rw [edges, key]; simp
theorem edges_lt {bs : List Nat} {i j : Nat} (h : edges bs i j = true) : i < 6 ∧ j < 7 := by
  obtain ⟨b, _, rfl, rfl⟩ := (edges_iff bs i j).1 h; exact ⟨fr_lt b, to_lt b⟩
theorem upS_iff (bs : List Nat) : upS bs = true ↔ ∀ b ∈ bs, to b < fr b := by
  have key : ∀ (bs : List Nat) (u : Bool), bs.foldl (fun u b => bif u then decide (to b < fr b) else false) u = true ↔ u = true ∧ ∀ b ∈ bs, to b < fr b := by
    intro bs
    induction bs with
    | nil => intro u; simp
    | cons b bs ih =>
      intro u
      rw [List.foldl_cons, ih]
      cases u <;> simp
  rw [upS, key]; simp
theorem badS_iff (R : Nat → Nat → Bool) (i : Nat) : badS R i = true ↔ R i 6 = true ∨ ∃ k, k < 6 ∧ (k = i ∨ R i k = true) ∧ R k k = true := by
  have key : ∀ n, badK R i n = true ↔ R i 6 = true ∨ ∃ k, k < n ∧ (k = i ∨ R i k = true) ∧ R k k = true := by
    intro n
    induction n with
    | zero => simp [badK]
    | succ n ih =>
      rw [badK_succ]
      have h1 : (bif badK R i n then true else bif (bif n == i then true else R i n) then R n n else false) = true ↔ badK R i n = true ∨ ((n = i ∨ R i n = true) ∧ R n n = true) := by
        cases badK R i n <;> by_cases h : n = i <;> simp [h]
      rw [h1, ih]
      constructor
      · rintro ((h | ⟨k, h1, h2⟩) | h)
        · exact .inl h
        · exact .inr ⟨k, by omega, h2⟩
        · exact .inr ⟨n, by omega, h⟩
      · rintro (h | ⟨k, h1, h2⟩)
        · exact .inl (.inl h)
        · rcases Nat.lt_succ_iff_lt_or_eq.1 h1 with h3 | rfl
          · exact .inl (.inr ⟨k, h3, h2⟩)
          · exact .inr h2
  exact key 6
end Go.Proofs
