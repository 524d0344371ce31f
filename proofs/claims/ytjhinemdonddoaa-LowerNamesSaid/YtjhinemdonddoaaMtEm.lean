import Derived.Test.YtjhinemdonddoaaMtEn
set_option linter.unusedVariables false
set_option linter.unusedSimpArgs false
namespace Go.Mt

def viewOr (H : Hp) (m : M) : M := match viewD H m with
  | some d => .d d
  | none => m
def viewT (H : Hp) : M → M
  | .tup ms => .tup (ms.map (viewOr H))
  | m => viewOr H m

theorem RM.viewOr {σ : Sg} {Oo : Nat → Nat → Prop} (hi : HInv σ Oo) {m : M} {v : Value} (h : RM σ m v) : RM σ (viewOr σ.H m) v := by
  unfold Go.Mt.viewOr
  split
  · rename_i x hx; exact .d (h.viewD hi hx)
  · exact h
theorem RM.viewT {σ : Sg} {Oo : Nat → Nat → Prop} (hi : HInv σ Oo) {m : M} {v : Value} (h : RM σ m v) : RM σ (viewT σ.H m) v := by
  unfold Go.Mt.viewT
  split
  · rename_i ms
    cases h with
    | tup cs vs hl hh =>
      refine .tup _ _ (by simp [hl]) fun i m' v' hm hv => ?_
      simp only [List.getElem?_map, Option.map_eq_some_iff] at hm
      obtain ⟨m0, h0, rfl⟩ := hm
      exact (hh i m0 v' h0 hv).viewOr hi
  · exact h.viewOr hi

theorem CT.view {P : Program} {f : Nat} {ms : List M} {H : Hp} {post : M → Hp → Prop} (h : CT P f ms H fun a b => post (viewT b a) b) : CT P f ms H post := by
  intro σ Oo vs hinv hH hvs
  refine (h σ Oo vs hinv hH hvs).mono ?_
  rintro e w' ⟨v, r, σ', he, hw', hp, hinv', hrv, hmono, hblk⟩
  exact ⟨v, viewT σ'.H r, σ', he, hw', hp, hinv', hrv.viewT hinv', hmono, hblk⟩

/-- a run, its results as data where they can be, the heap's first n objects -/
def chkRun (n : Nat) : R (M × Hp × List Nat) → Option (M × Hp)
  | .ok (m, H', _) => bif Nat.ble n H'.length then some (viewT H' m, H'.take n) else none
  | .no _ => none

theorem CT.of_chk {P : Program} {sums : Nat → List D → Option (List D)} (hsums : ∀ f ds rs, sums f ds = some rs → PT P f ds (· = rs)) {heapF : Nat → Bool} {hint : Nat → Nat → Nat} {rounds k f : Nat} {ms : List M} {H Hk : Hp} {m : M} (n : Nat) (hn : Nat.ble H.length n = true)
    (h : chkRun n (evFn P sums heapF hint rounds k f ms H) = some (m, Hk)) (hm : mbb n m = true) (hk : Hk.all (obb n) = true) : CT P f ms H fun a b => a = m ∧ b = Hk := by
  unfold chkRun at h
  split at h
  · rename_i r H' us hr
    cases hb : Nat.ble n H'.length with
    | false => rw [hb] at h; cases h
    | true =>
      rw [hb] at h
      simp only [cond_true] at h
      injection h with h; injection h with e1 e2
      refine CT.drop n (Nat.le_of_ble_eq_true hn) (CT.view ((evFn_ok hsums hr).1.mono ?_))
      rintro a b ⟨rfl, rfl⟩
      refine ⟨Nat.le_of_ble_eq_true hb, ?_, ?_, e1, e2⟩
      · rw [e1]; exact mbb_ok hm
      · rw [e2]; exact hbb_ok hk
  · cases h
end Go.Mt
