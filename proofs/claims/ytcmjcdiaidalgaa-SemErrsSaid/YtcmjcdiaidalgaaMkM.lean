/- Two lists that grow behind the tape and the maker; blocks. -/
import Derived.Test.YtcmjcdiaidalgaaMkL
import Derived.Test.YtcmjcdiaidalgaaLibI
set_option linter.unusedVariables false
set_option linter.unusedSimpArgs false
set_option linter.unusedSectionVars false
namespace Go.Proofs
open Go.Mt Go.Mk
set_option maxRecDepth 4000
set_option linter.unusedSimpArgs false
set_option linter.unusedVariables false

/-- two lists that grow -/
def L2 (H : Hp) (rs1 : List (List D)) (m1 : M) (n2 : Nat) (rs2 : List (List D)) (m2 : M) : Prop := ∃ i1 i2, Acc 15 i1 rs1 m1 H ∧ Acc n2 i2 rs2 m2 H ∧ 2 ≤ i1 ∧ 2 ≤ i2 ∧ i1 ≠ i2
theorem L2.nil2 {H : Hp} {rs1 : List (List D)} {m1 : M} {n2 : Nat} {rs2 : List (List D)} {m2 : M} (h : L2 H rs1 m1 n2 rs2 m2) (n : Nat) : L2 H rs1 m1 n [] (.d (.sl [])) := by
  obtain ⟨i1, i2, h1, h2, h3, h4, h5⟩ := h
  exact ⟨i1, i2, h1, .inl ⟨rfl, rfl⟩, h3, h4, h5⟩
theorem L2.view1 {H : Hp} {rs1 : List (List D)} {m1 : M} {n2 : Nat} {rs2 : List (List D)} {m2 : M} (h : L2 H rs1 m1 n2 rs2 m2) (hl : ∀ r ∈ rs1, r.length = 15) : viewV H m1 = some (.sl rs1) := by
  obtain ⟨i1, i2, h1, _⟩ := h; exact h1.view hl
theorem L2.view2 {H : Hp} {rs1 : List (List D)} {m1 : M} {n2 : Nat} {rs2 : List (List D)} {m2 : M} (h : L2 H rs1 m1 n2 rs2 m2) (hl : ∀ r ∈ rs2, r.length = n2) : viewV H m2 = some (.sl rs2) := by
  obtain ⟨i1, i2, _, h2, _⟩ := h; exact h2.view hl
theorem flatM_app (a b : List (List D)) : flatM (a ++ b) = flatM a ++ flatM b := by simp [flatM]
/-- what an append does -/
theorem acc_app {n i : Nat} {rs rows : List (List D)} {m : M} {H : Hp} (h : Acc n i rs m H) (hi : 2 ≤ i) (hH : 2 ≤ H.length) :
    ∃ i', Acc n i' (rs ++ rows) (accM m H rows) (accH n m H rows) ∧ 2 ≤ i' ∧ (i' = i ∨ i' = H.length) ∧ (∀ j ob, (rs ≠ [] → j ≠ i) → H[j]? = some ob → (accH n m H rows)[j]? = some ob) ∧ H.length ≤ (accH n m H rows).length ∧ ∀ v subs main g F, H = GH v subs main g ++ F → ∃ F', accH n m H rows = GH v subs main g ++ F' := by
  rcases h with ⟨rfl, rfl⟩ | ⟨h1, ver, rfl, h2⟩
  · cases rows with
    | nil => exact ⟨i, .inl ⟨rfl, rfl⟩, hi, .inl rfl, fun j ob _ h => h, Nat.le_refl _, fun v subs main g F h => ⟨F, h⟩⟩
    | cons q r =>
      refine ⟨H.length, .inr ⟨by simp, 0, by simp [accM, app0M], by simp [accH, app0H]⟩, hH, .inr rfl, fun j ob _ h => ?_, by simp [accH, app0H], fun v subs main g F h => ⟨F ++ [.row true n 0 (flatM (q :: r))], by rw [h]; simp [accH, app0H]⟩⟩
      simp only [accH, app0H]
      rw [List.getElem?_append_left (hlt' h)]; exact h
  · have hl := hlt' h2
    have e : accH n (.rsl i ver rs.length) H rows = H.set i (.row true n (ver + 1) (flatM rs ++ flatM rows)) := by simp only [accH, h2]
    rw [e]
    refine ⟨i, .inr ⟨by simp [h1], ver + 1, by simp [accM], by rw [flatM_app]; simp [hl]⟩, hi, .inl rfl, fun j ob hj h => by rw [List.getElem?_set_ne (Ne.symm (hj h1))]; exact h, by simp, fun v subs main g F h => ?_⟩
    obtain ⟨k, rfl⟩ : ∃ k, i = 2 + k := ⟨i - 2, by omega⟩
    refine ⟨F.set k (.row true n (ver + 1) (flatM rs ++ flatM rows)), ?_⟩
    rw [h, List.set_append_right _ _ (by show 2 ≤ _; omega)]
    show _ ++ F.set (2 + k - 2) _ = _
    rw [show 2 + k - 2 = k by omega]
section
variable {v : D} {subs : Nat} {main : Bool} {g : GS} {F : Hp} {rs1 rs2 rows : List (List D)} {m1 m2 : M} {n2 : Nat}
theorem L2.app2 (h : L2 (GH v subs main g ++ F) rs1 m1 n2 rs2 m2) (rows : List (List D)) : ∃ F', accH n2 m2 (GH v subs main g ++ F) rows = GH v subs main g ++ F' ∧ L2 (GH v subs main g ++ F') rs1 m1 n2 (rs2 ++ rows) (accM m2 (GH v subs main g ++ F) rows) := by
  obtain ⟨i1, i2, h1, h2, h3, h4, h5⟩ := h
  obtain ⟨i', a1, a2, a3, a4, a5, a6⟩ := acc_app (rows := rows) h2 h4 (by simp)
  obtain ⟨F', hF⟩ := a6 _ _ _ _ _ rfl
  rw [hF] at a1 a4 a5
  refine ⟨F', hF, ?_⟩
  by_cases e : rs1 = []
  · subst e
    exact ⟨i' + 1, i', h1.any, a1, by omega, a2, by omega⟩
  · have hlt1 := h1.lt e
    refine ⟨i1, i', h1.other (fun ob ho => a4 i1 ob (fun _ => h5) ho), a1, h3, a2, ?_⟩
    rcases a3 with rfl | rfl
    · exact h5
    · omega
theorem L2.app1 (h : L2 (GH v subs main g ++ F) rs1 m1 n2 rs2 m2) (rows : List (List D)) : ∃ F', accH 15 m1 (GH v subs main g ++ F) rows = GH v subs main g ++ F' ∧ L2 (GH v subs main g ++ F') (rs1 ++ rows) (accM m1 (GH v subs main g ++ F) rows) n2 rs2 m2 := by
  obtain ⟨i1, i2, h1, h2, h3, h4, h5⟩ := h
  obtain ⟨i', a1, a2, a3, a4, a5, a6⟩ := acc_app (rows := rows) h1 h3 (by simp)
  obtain ⟨F', hF⟩ := a6 _ _ _ _ _ rfl
  rw [hF] at a1 a4 a5
  refine ⟨F', hF, ?_⟩
  by_cases e : rs2 = []
  · subst e
    exact ⟨i', i' + 1, a1, h2.any, a2, by omega, by omega⟩
  · have hlt1 := h2.lt e
    refine ⟨i', i2, a1, h2.other (fun ob ho => a4 i2 ob (fun _ => Ne.symm h5) ho), a2, h4, ?_⟩
    rcases a3 with rfl | rfl
    · exact h5
    · omega
theorem L2.call {g' : GS} (h : L2 (GH v subs main g ++ F) rs1 m1 n2 rs2 m2) : L2 (GH v subs main g' ++ F) rs1 m1 n2 rs2 m2 := by
  obtain ⟨i1, i2, h1, h2, h3, h4, h5⟩ := h
  have key : ∀ i, 2 ≤ i → ∀ ob, (GH v subs main g ++ F)[i]? = some ob → (GH v subs main g' ++ F)[i]? = some ob := by
    intro i hi ob ho
    rw [List.getElem?_append_right (by exact hi)] at ho ⊢
    exact ho
  exact ⟨i1, i2, h1.other (key i1 h3), h2.other (key i2 h4), h3, h4, h5⟩
end
theorem addLasts_len (l r : List Va) : (addLasts l r).length ≤ l.length + r.length := by
  induction r generalizing l with
  | nil => simp [addLasts]
  | cons w r ih =>
    simp only [addLasts]
    split
    · have := ih (l ++ [w]); simp at this ⊢; omega
    · have := ih l; simp at this ⊢; omega
def ws6 (W : Int) : Nat → Int
  | 0 => 0
  | i + 1 => ws6 W i + W
theorem ws6_le {W : Int} (h : 0 ≤ W) : ∀ i, i ≤ 6 → 0 ≤ ws6 W i ∧ ws6 W i ≤ 6 * W
  | 0, _ => by simp only [ws6]; omega
  | 1, _ => by simp only [ws6]; omega
  | 2, _ => by simp only [ws6]; omega
  | 3, _ => by simp only [ws6]; omega
  | 4, _ => by simp only [ws6]; omega
  | 5, _ => by simp only [ws6]; omega
  | 6, _ => by simp only [ws6]; omega
  | i + 7, h => by omega
theorem qB_eq : ∀ d, qB d = 6 * (1 + 3 * qP d)
  | 0 => rfl
  | d + 1 => rfl
theorem GB_eq (subs : Nat) : ∀ d, GB subs d = GBs (GQ (SubR subs d) subs)
  | 0 => rfl
  | d + 1 => rfl
end Go.Proofs
