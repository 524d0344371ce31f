/- The way back, turned round: a closed walk. Plain. -/
import Derived.Test.YtcmjcdiaidalgaaGrP
set_option linter.unusedVariables false
set_option linter.unusedSimpArgs false
namespace Go.Gr

inductive Tr (es : List (List Nat)) (i : Nat) : List Nat → Nat → Prop where
  | one : Tr es i [i] i
  | snoc {l : List Nat} {a p : Nat} (h : Tr es i l a) (hp : a ∈ es.getD p []) : Tr es i (l ++ [p]) p
theorem Tr.pos {es : List (List Nat)} {i a : Nat} {l : List Nat} (h : Tr es i l a) : 0 < l.length := by cases h <;> simp
theorem Tr.walk {es : List (List Nat)} {i a : Nat} {l : List Nat} (h : Tr es i l a) : Wk es (l.length - 1) a i := by
  induction h with
  | one => exact rfl
  | @snoc l a p h hp ih =>
    have := h.pos
    have e : (l ++ [p]).length - 1 = (l.length - 1) + 1 := by simp; omega
    rw [e]; exact ⟨_, hp, ih⟩
theorem Wk.snoc {es : List (List Nat)} : ∀ {L a i j : Nat}, Wk es L a i → j ∈ es.getD i [] → Wk es (L + 1) a j
  | 0, a, i, j, h, hj => by cases h; exact ⟨j, hj, rfl⟩
  | L + 1, a, i, j, ⟨k, hk, h⟩, hj => ⟨k, hk, Wk.snoc h hj⟩
/-- the walk turned round: it begins at a, each leads to the next, the last one is i -/
theorem Tr.rev {es : List (List Nat)} {i a : Nat} {l : List Nat} (h : Tr es i l a) : l.reverse[0]? = some a ∧ l.reverse[l.length - 1]? = some i ∧ ∀ (t : Nat) (x y : Nat), l.reverse[t]? = some x → l.reverse[t + 1]? = some y → y ∈ es.getD x [] := by
  induction h with
  | one => exact ⟨rfl, rfl, fun t x y _ h => by simp at h⟩
  | @snoc l a p h hp ih =>
    obtain ⟨h1, h2, h3⟩ := ih
    have hl := h.pos
    rw [List.reverse_append]
    simp only [List.reverse_cons, List.reverse_nil, List.nil_append, List.singleton_append]
    refine ⟨rfl, ?_, ?_⟩
    · have e : (l ++ [p]).length - 1 = (l.length - 1) + 1 := by simp; omega
      rw [e, List.getElem?_cons_succ]; exact h2
    · intro t x y hx hy
      cases t with
      | zero =>
        simp at hx
        rw [List.getElem?_cons_succ] at hy
        rw [h1] at hy
        injection hy with hy
        subst hx; subst hy; exact hp
      | succ t =>
        rw [List.getElem?_cons_succ] at hx hy
        exact h3 t x y hx hy
/-- what is asked of a way -/
def WayOk (es : List (List Nat)) (fr : Nat) (l : List Nat) : Prop :=
  (l = [] ∧ ∀ L, 0 < L → ¬ Wk es L fr fr) ∨
  (0 < l.length ∧ l[0]? = some fr ∧ (∀ (t x : Nat), l[t]? = some x → ∃ y, l[(t + 1) % l.length]? = some y ∧ y ∈ es.getD x []) ∧ Wk es l.length fr fr ∧ ∀ L, 0 < L → Wk es L fr fr → l.length ≤ L)
theorem Tr.way {es : List (List Nat)} {i fr : Nat} {l : List Nat} (h : Tr es i l fr) (hi : fr ∈ es.getD i []) (hmin : ∀ L, 0 < L → Wk es L fr fr → l.length ≤ L) : WayOk es fr l.reverse := by
  obtain ⟨h1, h2, h3⟩ := h.rev
  have hl := h.pos
  refine .inr ⟨by simpa using hl, h1, ?_, ?_, by simpa using hmin⟩
  · intro t x hx
    have ht : t < l.length := by
      rcases Nat.lt_or_ge t l.length with h | h
      · exact h
      · rw [List.getElem?_eq_none (by simpa using h)] at hx; cases hx
    rw [List.length_reverse]
    rcases Nat.lt_or_ge (t + 1) l.length with h4 | h4
    · rw [Nat.mod_eq_of_lt h4]
      have h5 : l.reverse[t + 1]? = some (l.reverse[t + 1]'(by simpa using h4)) := by simp [h4]
      exact ⟨_, h5, h3 t x _ hx h5⟩
    · have e : t + 1 = l.length := by omega
      rw [e, Nat.mod_self]
      have e2 : t = l.length - 1 := by omega
      subst e2
      rw [h2] at hx
      injection hx with hx
      subst hx
      exact ⟨fr, h1, hi⟩
  · have := (h.walk).snoc hi
    rw [show l.reverse.length = l.length - 1 + 1 by simp; omega]
    exact this
theorem filt_upd {p p' : Nat → Bool} {k : Nat} (h1 : p k = true) (h2 : p' k = false) (h3 : ∀ j, j ≠ k → p' j = p j) : ∀ {l : List Nat}, l.Nodup → k ∈ l → (l.filter p').length + 1 = (l.filter p).length
  | [], _, hk => by simp at hk
  | a :: r, hn, hk => by
    rw [List.nodup_cons] at hn
    by_cases e : a = k
    · subst e
      have hr : r.filter p' = r.filter p := List.filter_congr fun x hx => h3 x (by rintro rfl; exact hn.1 hx)
      rw [List.filter_cons_of_neg (by simp [h2]), List.filter_cons_of_pos h1, hr]; simp
    · have ih := filt_upd h1 h2 h3 hn.2 (by simpa [Ne.symm e] using hk)
      cases hp : p a with
      | true => rw [List.filter_cons_of_pos hp, List.filter_cons_of_pos (by rw [h3 a e]; exact hp)]; simp; omega
      | false => rw [List.filter_cons_of_neg (p := p') (by rw [h3 a e]; simp [hp]), List.filter_cons_of_neg (p := p) (by simp [hp])]; exact ih
/-- how many are not seen yet -/
def unv (n fr : Nat) (bk : Nat → Int) : Nat := ((List.range n).filter fun k => decide (k ≠ fr) && decide (bk k < 0)).length
theorem unv_upd {n fr : Nat} {bk : Nat → Int} {k : Nat} {v : Int} (hk : k < n) (hf : k ≠ fr) (hb : bk k < 0) (hv : 0 ≤ v) : unv n fr (upd bk k v) + 1 = unv n fr bk :=
  filt_upd (k := k) (by simp [hf, hb]) (by simp [upd_self, hv]) (fun j hj => by simp [upd_ne _ _ hj]) List.nodup_range (List.mem_range.2 hk)
theorem unv_le (n fr : Nat) (bk : Nat → Int) (h : fr < n) : unv n fr bk + 1 ≤ n := by
  have h1 := filt_upd (p := fun _ => true) (p' := fun k => decide (k ≠ fr)) (k := fr) rfl (by simp) (fun j hj => by simp [hj]) (List.nodup_range (n := n)) (List.mem_range.2 h)
  have h2 : unv n fr bk ≤ ((List.range n).filter fun k => decide (k ≠ fr)).length := by
    unfold unv
    rw [show (fun k => decide (k ≠ fr) && decide (bk k < 0)) = (fun k => decide (bk k < 0) && decide (k ≠ fr)) from funext fun k => Bool.and_comm _ _, ← List.filter_filter]
    exact List.length_filter_le _ _
  have h3 : ((List.range n).filter fun _ => true).length = n := by rw [List.filter_eq_self.2 (fun _ _ => rfl), List.length_range]
  omega
end Go.Gr
