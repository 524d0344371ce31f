/- An order can be just if there is no way from an equation to itself. Plain. -/
import Derived.Test.YtcmjcdiaidalgaaGrS
import Derived.Test.YtcmjcdiaidalgaaGrHp
set_option linter.unusedVariables false
set_option linter.unusedSimpArgs false
namespace Go.Gr

theorem next_none {es : List (List Nat)} {out : List Nat} (h : nextL es out = none) : ∀ i, i < es.length → i ∉ out → ∃ k ∈ es.getD i [], k ∉ out := by
  intro i hi ho
  unfold nextL at h
  rw [List.find?_eq_none] at h
  have h2 := h i (List.mem_range.2 hi)
  simp only [Bool.and_eq_true, Bool.not_eq_true', List.all_eq_true, not_and] at h2
  have h3 : out.contains i = false := by simpa using ho
  have h4 := h2 h3
  rcases Classical.em (∃ k ∈ es.getD i [], k ∉ out) with h5 | h5
  · exact h5
  · exact absurd (fun k hk => by rcases Classical.em (k ∈ out) with h6 | h6; simpa using h6; exact absurd ⟨k, hk, h6⟩ h5) h4
def it (s : Nat → Nat) : Nat → Nat → Nat
  | 0, i => i
  | t + 1, i => s (it s t i)
theorem it_add (s : Nat → Nat) (a i : Nat) : ∀ b, it s (a + b) i = it s b (it s a i)
  | 0 => rfl
  | b + 1 => by show s (it s (a + b) i) = s (it s b (it s a i)); rw [it_add s a i b]
theorem it_wk {es : List (List Nat)} {R : Nat → Prop} {s : Nat → Nat} (h : ∀ i, R i → s i ∈ es.getD i [] ∧ R (s i)) {i : Nat} (hi : R i) : ∀ t, R (it s t i) ∧ Wk es t i (it s t i)
  | 0 => ⟨hi, rfl⟩
  | t + 1 => ⟨(h _ (it_wk h hi t).1).2, ((it_wk h hi t).2).snoc (h _ (it_wk h hi t).1).1⟩
/-- where nothing may come any more, there is a way round -/
theorem stuck_cycle {es : List (List Nat)} (hes : ∀ e ∈ es, ∀ k ∈ e, k < es.length) {out : List Nat} (hp : Part es out) (hn : nextL es out = none) (hlt : out.length < es.length) : ∃ i L, i < es.length ∧ 0 < L ∧ Wk es L i i := by
  have hmem : ∀ i, i < es.length → ∀ k ∈ es.getD i [], k < es.length := by
    intro i hi k hk
    rw [List.getD_eq_getElem?_getD, List.getElem?_eq_getElem hi] at hk
    exact hes _ (List.getElem_mem hi) k hk
  have hex : ∀ i, ∃ k, (i < es.length ∧ i ∉ out) → k ∈ es.getD i [] ∧ k < es.length ∧ k ∉ out := by
    intro i
    rcases Classical.em (i < es.length ∧ i ∉ out) with h | h
    · obtain ⟨k, h1, h2⟩ := next_none hn i h.1 h.2
      exact ⟨k, fun _ => ⟨h1, hmem i h.1 k h1, h2⟩⟩
    · exact ⟨0, fun h2 => absurd h2 h⟩
  obtain ⟨s, hs⟩ := Classical.axiomOfChoice hex
  obtain ⟨i0, h0, h1⟩ : ∃ i, i < es.length ∧ i ∉ out := by
    rcases Classical.em (∃ i, i < es.length ∧ i ∉ out) with h | h
    · exact h
    · have := sub_len (l := List.range es.length) (m := out) List.nodup_range (fun x hx => by
        rcases Classical.em (x ∈ out) with h2 | h2
        · exact h2
        · exact absurd ⟨x, List.mem_range.1 hx, h2⟩ h)
      rw [List.length_range] at this
      omega
  have key := it_wk (es := es) (R := fun i => i < es.length ∧ i ∉ out) (s := s) (fun i hi => ⟨(hs i hi).1, (hs i hi).2⟩) (i := i0) ⟨h0, h1⟩
  have hdup : ¬ ((List.range (es.length + 1)).map fun t => it s t i0).Nodup := by
    intro hnd
    have := sub_len (m := List.range es.length) hnd (fun x hx => by
      obtain ⟨t, _, rfl⟩ := List.mem_map.1 hx
      exact List.mem_range.2 (key t).1.1)
    simp at this
    omega
  have : ∃ a b, a < b ∧ it s a i0 = it s b i0 := by
    rcases Classical.em (∃ a b, a < b ∧ it s a i0 = it s b i0) with h | h
    · exact h
    · refine absurd ?_ hdup
      rw [List.nodup_iff_pairwise_ne, List.pairwise_iff_getElem]
      intro a b ha hb hab he
      simp at he
      exact h ⟨a, b, hab, he⟩
  obtain ⟨a, b, hab, he⟩ := this
  have hk := it_wk (es := es) (R := fun i => i < es.length ∧ i ∉ out) (s := s) (fun i hi => ⟨(hs i hi).1, (hs i hi).2⟩) (i := it s a i0) (key a).1 (b - a)
  rw [← it_add, show a + (b - a) = b by omega, ← he] at hk
  exact ⟨it s a i0, b - a, (key a).1.1, by omega, hk.2⟩
theorem ordGo_none {es : List (List Nat)} : ∀ (f : Nat) (out : List Nat), Part es out → out.length + f = es.length → 0 < es.length → ordGo es f out = [] → ∃ o, Part es o ∧ nextL es o = none ∧ o.length < es.length
  | 0, out, h, hl, h0, he => by simp only [ordGo] at he; subst he; simp at hl; omega
  | f + 1, out, h, hl, h0, he => by
    simp only [ordGo] at he
    cases hn : nextL es out with
    | none => exact ⟨out, h, hn, by omega⟩
    | some i => rw [hn] at he; exact ordGo_none f _ (h.snoc hn) (by simp; omega) h0 he
theorem part_no {es : List (List Nat)} {out : List Nat} (h : Part es out) (hall : ∀ i, i < es.length → i ∈ out) : ∀ L i j, 0 < L → Wk es L i j → i < es.length → j ∈ out ∧ out.idxOf j < out.idxOf i := by
  have step : ∀ i k, i < es.length → k ∈ es.getD i [] → k ∈ out ∧ out.idxOf k < out.idxOf i := by
    intro i k hi hk
    have hm := hall i hi
    have hlt := List.idxOf_lt_length_of_mem hm
    have := h.ahead _ hlt k (by rw [List.getElem_idxOf]; exact hk)
    obtain ⟨j, hj, he⟩ := List.mem_take_iff_getElem.1 this
    have hj2 : j < out.length := by omega
    have hkm : k ∈ out := List.mem_of_mem_take this
    refine ⟨hkm, ?_⟩
    have h5 : out.idxOf k ≤ j := by
      have h6 : k ∈ out.take (j + 1) := List.mem_take_iff_getElem.2 ⟨j, by omega, he⟩
      have h7 : (out.take (j + 1)).idxOf k < (out.take (j + 1)).length := List.idxOf_lt_length_of_mem h6
      have e : out.idxOf k = (out.take (j + 1)).idxOf k := by
        conv => lhs; rw [← List.take_append_drop (j + 1) out]
        rw [List.idxOf_append, if_pos h6]
      rw [List.length_take] at h7
      omega
    have : j < out.idxOf i := by omega
    omega
  intro L
  induction L with
  | zero => intro i j h0; omega
  | succ L ih =>
    rintro i j _ ⟨k, hk, hw⟩ hi
    obtain ⟨h1, h2⟩ := step i k hi hk
    rcases Nat.eq_zero_or_pos L with rfl | hL
    · cases hw; exact ⟨h1, h2⟩
    · obtain ⟨h3, h4⟩ := ih k j hL hw (h.lt k h1)
      exact ⟨h3, by omega⟩
theorem order_cycle {es : List (List Nat)} (hes : ∀ e ∈ es, ∀ k ∈ e, k < es.length) : (ordL es).length = es.length ↔ ∀ i, i < es.length → ∀ L, 0 < L → ¬ Wk es L i i := by
  constructor
  · intro hl i hi L hL hw
    rcases ordL_spec es with ⟨h1, h2⟩ | ⟨h1, h2⟩
    · have := (part_no h1 (fun k hk => pigeon h1.nd h1.lt h2 k hk) L i i hL hw hi).2
      omega
    · rw [h1] at hl; simp at hl; omega
  · intro h
    rcases ordL_spec es with ⟨h1, h2⟩ | ⟨h1, h2⟩
    · exact h2
    · obtain ⟨o, h3, h4, h5⟩ := ordGo_none es.length [] (Part.nil es) (by simp) h2 h1
      obtain ⟨i, L, h6, h7, h8⟩ := stuck_cycle hes h3 h4 h5
      exact absurd h8 (h i h6 L h7)
end Go.Gr
