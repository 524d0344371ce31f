/- Orders of places, plain: what an order is; lists without doubles; the first that may come, one behind the other. No program is in sight here. -/
import Derived.Test.YtcmjcdiaidalgaaLibI
set_option linter.unusedVariables false
set_option linter.unusedSimpArgs false
namespace Go.Gr

/-- each place once, behind those that must stand ahead of it -/
def IsOrd (es : List (List Nat)) (l : List Int) : Prop :=
  l.length = es.length ∧ (∀ (i : Nat) (h : i < l.length), 0 ≤ l[i] ∧ l[i] < es.length ∧ l[i] ∉ l.take i) ∧ ∀ (i : Nat) (h : i < l.length), ∀ k ∈ es.getD l[i].toNat [], (k : Int) ∈ l.take i
noncomputable def isOrd (es : List (List Nat)) (l : List Int) : Bool := @decide (IsOrd es l) (Classical.propDecidable _)
theorem isOrd_true {es : List (List Nat)} {l : List Int} (h : IsOrd es l) : isOrd es l = true := @decide_eq_true _ (Classical.propDecidable _) h
theorem isOrd_false {es : List (List Nat)} {l : List Int} (h : ¬ IsOrd es l) : isOrd es l = false := @decide_eq_false _ (Classical.propDecidable _) h

theorem sub_len {α : Type} [DecidableEq α] : ∀ {l m : List α}, l.Nodup → (∀ x ∈ l, x ∈ m) → l.length ≤ m.length
  | [], m, _, _ => by simp
  | a :: r, m, hn, hs => by
    rw [List.nodup_cons] at hn
    have ha : a ∈ m := hs a (by simp)
    have h2 := sub_len (m := m.erase a) hn.2 (by
      intro x hx
      have hne : x ≠ a := by rintro rfl; exact hn.1 hx
      exact (List.mem_erase_of_ne hne).2 (hs x (by simp [hx])))
    rw [List.length_erase_of_mem ha] at h2
    have : 0 < m.length := List.length_pos_of_mem ha
    simp; omega
/-- n different numbers below n are all of them -/
theorem pigeon {n : Nat} {l : List Nat} (hn : l.Nodup) (hl : ∀ x ∈ l, x < n) (hlen : l.length = n) (k : Nat) (hk : k < n) : k ∈ l := by
  rcases Decidable.em (k ∈ l) with h | h
  · exact h
  · exfalso
    have h2 := sub_len (m := (List.range n).erase k) hn (by
      intro x hx
      have hne : x ≠ k := by rintro rfl; exact h hx
      exact (List.mem_erase_of_ne hne).2 (List.mem_range.2 (hl x hx)))
    rw [List.length_erase_of_mem (List.mem_range.2 hk), List.length_range] at h2
    omega
/-- the same of integers -/
theorem pigeonI {n : Nat} {l : List Int} (h : ∀ (i : Nat) (h : i < l.length), 0 ≤ l[i] ∧ l[i] < n ∧ l[i] ∉ l.take i) (hlen : l.length = n) (k : Nat) (hk : k < n) : (k : Int) ∈ l := by
  have hm : (l.map Int.toNat).Nodup := by
    rw [List.nodup_iff_pairwise_ne, List.pairwise_iff_getElem]
    intro i j hi hj hij
    simp only [List.length_map] at hi hj
    simp only [List.getElem_map]
    intro he
    obtain ⟨h1, _, _⟩ := h i hi
    obtain ⟨h2, _, h3⟩ := h j hj
    apply h3
    have e : l[j] = l[i] := by omega
    rw [e]
    exact List.mem_take_iff_getElem.2 ⟨i, by omega, rfl⟩
  have := pigeon (n := n) hm (by
    intro x hx
    obtain ⟨y, hy, rfl⟩ := List.mem_map.1 hx
    obtain ⟨i, hi, rfl⟩ := List.getElem_of_mem hy
    obtain ⟨h1, h2, _⟩ := h i hi
    omega) (by simpa using hlen) k hk
  obtain ⟨y, hy, hy2⟩ := List.mem_map.1 this
  obtain ⟨i, hi, rfl⟩ := List.getElem_of_mem hy
  obtain ⟨h1, h2, _⟩ := h i hi
  have : (k : Int) = l[i] := by omega
  rw [this]; exact hy

/-- where a place stands in a list; below 0: nowhere -/
def placeV (l : List Int) (k : Nat) : Int := if (k : Int) ∈ l then (l.idxOf (k : Int) : Int) else -1
theorem placeV_neg (l : List Int) (k : Nat) : 0 ≤ placeV l k ↔ (k : Int) ∈ l := by
  unfold placeV
  by_cases h : (k : Int) ∈ l
  · simp [h]
  · simp [h]
theorem placeV_snoc (l : List Int) (a k : Nat) (h : (a : Int) ∉ l) : placeV (l ++ [(a : Int)]) k = if k = a then (l.length : Int) else placeV l k := by
  unfold placeV
  by_cases e : k = a
  · subst e
    simp [List.idxOf_append, h]
  · have e' : ¬ (k : Int) = a := by omega
    by_cases hk : (k : Int) ∈ l
    · simp [hk, e, List.idxOf_append]
    · simp [hk, e, e']
theorem idx_take {l : List Int} {x : Int} {p : Nat} (hx : x ∈ l) : l.idxOf x < p ↔ x ∈ l.take p := by
  constructor
  · intro h
    have hl := List.idxOf_lt_length_of_mem hx
    refine List.mem_take_iff_getElem.2 ⟨l.idxOf x, by omega, ?_⟩
    exact List.getElem_idxOf hl
  · intro h
    have : (l.take p).idxOf x < (l.take p).length := List.idxOf_lt_length_of_mem h
    have e : l.idxOf x = (l.take p).idxOf x := by
      conv => lhs; rw [← List.take_append_drop p l]
      rw [List.idxOf_append, if_pos h]
    rw [e]; simp at this; omega
/-- an order, told by places -/
theorem ord_places {es : List (List Nat)} {l : List Int} (hes : ∀ e ∈ es, ∀ k ∈ e, k < es.length) (hlen : l.length = es.length) (h : ∀ (i : Nat) (h : i < l.length), 0 ≤ l[i] ∧ l[i] < es.length ∧ l[i] ∉ l.take i) :
    IsOrd es l ↔ ∀ k, k < es.length → ∀ j ∈ es.getD k [], placeV l j < placeV l k := by
  have hall := fun k hk => pigeonI h hlen k hk
  have hidx : ∀ k, k < es.length → ∃ (hi : l.idxOf (k : Int) < l.length), l[l.idxOf (k : Int)] = (k : Int) := fun k hk => ⟨List.idxOf_lt_length_of_mem (hall k hk), List.getElem_idxOf _⟩
  have hmem : ∀ k, k < es.length → ∀ j ∈ es.getD k [], j < es.length := by
    intro k hk j hj
    rw [List.getD_eq_getElem?_getD, List.getElem?_eq_getElem hk] at hj
    exact hes _ (List.getElem_mem hk) j hj
  constructor
  · rintro ⟨_, _, h3⟩ k hk j hj
    obtain ⟨hi, he⟩ := hidx k hk
    have := h3 _ hi j (by rw [he]; exact hj)
    unfold placeV
    rw [if_pos (hall k hk), if_pos (hall j (hmem k hk j hj))]
    have := (idx_take (hall j (hmem k hk j hj))).2 this
    omega
  · intro h3
    refine ⟨hlen, h, fun i hi k hk => ?_⟩
    obtain ⟨h1, h2, hno⟩ := h i hi
    have e : ((l[i].toNat : Nat) : Int) = l[i] := Int.toNat_of_nonneg h1
    have hlt : l[i].toNat < es.length := by omega
    have := h3 _ hlt k hk
    have hk2 := hmem _ hlt k hk
    unfold placeV at this
    rw [if_pos (hall _ hlt), if_pos (hall k hk2), e] at this
    refine (idx_take (hall k hk2)).1 ?_
    have hi2 : l.idxOf l[i] = i := by
      have hle : ¬ l.idxOf l[i] < i := fun hlt => hno ((idx_take (List.getElem_mem hi)).1 hlt)
      have := (idx_take (p := i + 1) (List.getElem_mem hi)).2 (List.mem_take_iff_getElem.2 ⟨i, by omega, rfl⟩)
      omega
    omega

/-- the first that may come -/
def nextL (es : List (List Nat)) (out : List Nat) : Option Nat := (List.range es.length).find? fun i => !out.contains i && (es.getD i []).all out.contains
def ordGo (es : List (List Nat)) : Nat → List Nat → List Nat
  | 0, out => out
  | f + 1, out => match nextL es out with
    | none => []
    | some i => ordGo es f (out ++ [i])
/-- the order: each time the first that may come; none, if that can't be -/
def ordL (es : List (List Nat)) : List Nat := ordGo es es.length []

structure Part (es : List (List Nat)) (out : List Nat) : Prop where
  lt : ∀ x ∈ out, x < es.length
  nd : out.Nodup
  ahead : ∀ (i : Nat) (h : i < out.length), ∀ k ∈ es.getD out[i] [], k ∈ out.take i
theorem next_some {es : List (List Nat)} {out : List Nat} {i : Nat} (h : nextL es out = some i) : i < es.length ∧ i ∉ out ∧ ∀ k ∈ es.getD i [], k ∈ out := by
  have h1 := List.mem_of_find?_eq_some h
  have h2 := List.find?_some h
  simp only [Bool.and_eq_true, Bool.not_eq_true', List.all_eq_true] at h2
  refine ⟨List.mem_range.1 h1, ?_, fun k hk => by simpa using h2.2 k hk⟩
  simpa using h2.1
theorem Part.snoc {es : List (List Nat)} {out : List Nat} (h : Part es out) {i : Nat} (hi : nextL es out = some i) : Part es (out ++ [i]) := by
  obtain ⟨h1, h2, h3⟩ := next_some hi
  refine ⟨?_, ?_, ?_⟩
  · intro x hx
    rcases List.mem_append.1 hx with hx | hx
    · exact h.lt x hx
    · simp at hx; subst hx; exact h1
  · rw [List.nodup_append]
    refine ⟨h.nd, by simp, ?_⟩
    intro a ha b hb
    simp at hb; subst hb
    rintro rfl; exact h2 ha
  · intro j hj k hk
    rcases Nat.lt_or_ge j out.length with hlt | hge
    · rw [List.getElem_append_left hlt] at hk
      rw [List.take_append_of_le_length (by omega)]
      exact h.ahead j hlt k hk
    · have : j = out.length := by simp at hj; omega
      subst this
      simp at hk ⊢
      exact h3 k (by simpa using hk)
theorem Part.nil (es : List (List Nat)) : Part es [] := ⟨by simp, by simp, by intro i h; simp at h⟩
theorem ordGo_spec {es : List (List Nat)} : ∀ (f : Nat) (out : List Nat), Part es out → out.length + f = es.length → (Part es (ordGo es f out) ∧ (ordGo es f out).length = es.length) ∨ (ordGo es f out = [] ∧ 0 < es.length)
  | 0, out, h, hl => .inl ⟨h, by simpa [ordGo] using hl⟩
  | f + 1, out, h, hl => by
    simp only [ordGo]
    cases hn : nextL es out with
    | none => exact .inr ⟨rfl, by omega⟩
    | some i => exact ordGo_spec f _ (h.snoc hn) (by simp; omega)
theorem ordL_spec (es : List (List Nat)) : (Part es (ordL es) ∧ (ordL es).length = es.length) ∨ (ordL es = [] ∧ 0 < es.length) := ordGo_spec _ _ (Part.nil es) (by simp)
def toI (l : List Nat) : List Int := l.map fun (n : Nat) => (n : Int)
theorem mem_toI {l : List Nat} {k : Nat} : (k : Int) ∈ toI l ↔ k ∈ l := by
  unfold toI
  constructor
  · intro h
    obtain ⟨x, hx, he⟩ := List.mem_map.1 h
    have : x = k := by omega
    rw [← this]; exact hx
  · intro h; exact List.mem_map.2 ⟨k, h, rfl⟩
theorem Part.isOrd {es : List (List Nat)} {out : List Nat} (h : Part es out) (hl : out.length = es.length) : IsOrd es (toI out) := by
  refine ⟨by simpa [toI] using hl, fun i hi => ?_, fun i hi k hk => ?_⟩
  · simp only [toI, List.length_map] at hi
    have e : (toI out)[i] = (out[i] : Int) := by simp [toI]
    rw [e]
    refine ⟨by omega, by have := h.lt _ (List.getElem_mem hi); omega, ?_⟩
    have e2 : (toI out).take i = toI (out.take i) := by simp [toI, List.map_take]
    rw [e2, mem_toI]
    intro hm
    obtain ⟨j, hj, he⟩ := List.mem_take_iff_getElem.1 hm
    have hnd := h.nd
    rw [List.nodup_iff_pairwise_ne, List.pairwise_iff_getElem] at hnd
    exact hnd j i (by omega) hi (by omega) he
  · simp only [toI, List.length_map] at hi
    have e : (toI out)[i] = (out[i] : Int) := by simp [toI]
    rw [e] at hk
    have e2 : (toI out).take i = toI (out.take i) := by simp [toI, List.map_take]
    rw [e2, mem_toI]
    exact h.ahead i hi k (by simpa using hk)
/-- what the law asks of the order -/
theorem ordL_law (es : List (List Nat)) : isOrd es (toI (ordL es)) = ((ordL es).length == es.length) := by
  rcases ordL_spec es with ⟨h1, h2⟩ | ⟨h1, h2⟩
  · rw [isOrd_true (h1.isOrd h2), h2]; simp
  · rw [h1]
    rw [isOrd_false (by rintro ⟨h, _⟩; simp [toI] at h; omega)]
    simp
    omega
end Go.Gr
