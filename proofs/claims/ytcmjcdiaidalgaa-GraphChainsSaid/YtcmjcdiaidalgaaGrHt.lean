/- The greedy order, plain: who may come, what is left. -/
import Derived.Test.YtcmjcdiaidalgaaGrHs
set_option linter.unusedVariables false
set_option linter.unusedSimpArgs false
namespace Go.Gr

def Cand (es : List (List Nat)) (out : List Nat) (x : Nat) : Prop := x < es.length ∧ x ∉ out ∧ ∀ k ∈ es.getD x [], k ∈ out
theorem cand_iff {es : List (List Nat)} {out : List Nat} {i : Nat} : (i < es.length ∧ (!out.contains i && (es.getD i []).all out.contains) = true) ↔ Cand es out i := by
  simp only [Bool.and_eq_true, Bool.not_eq_true', List.all_eq_true, Cand]
  constructor
  · rintro ⟨h1, h2, h3⟩
    exact ⟨h1, by simpa using h2, fun k hk => by simpa using h3 k hk⟩
  · rintro ⟨h1, h2, h3⟩
    exact ⟨h1, by simpa using h2, fun k hk => by simpa using h3 k hk⟩
theorem find_range (p : Nat → Bool) (i : Nat) (hi : p i = true) (hm : ∀ j, j < i → p j = false) : ∀ n, i < n → (List.range n).find? p = some i
  | 0, h => by omega
  | n + 1, h => by
    rw [List.range_succ, List.find?_append]
    rcases Nat.lt_or_ge i n with h1 | h1
    · rw [find_range p i hi hm n h1]; rfl
    · obtain rfl : i = n := by omega
      rw [List.find?_eq_none.2 (fun x hx => by simp [hm x (List.mem_range.1 hx)])]
      simp [hi]
theorem next_min {es : List (List Nat)} {out : List Nat} {i : Nat} (h : Cand es out i) (hm : ∀ x, Cand es out x → i ≤ x) : nextL es out = some i := by
  refine find_range _ i (cand_iff.2 h).2 (fun j hj => ?_) _ h.1
  rcases hb : (!out.contains j && (es.getD j []).all out.contains) with _ | _
  · rfl
  · exact absurd (hm j (cand_iff.1 ⟨by have := h.1; omega, hb⟩)) (by omega)
theorem next_empty {es : List (List Nat)} {out : List Nat} (h : ∀ x, ¬ Cand es out x) : nextL es out = none := by
  refine List.find?_eq_none.2 fun x hx hb => ?_
  exact h x (cand_iff.1 ⟨List.mem_range.1 hx, hb⟩)
/-- how many are still ahead -/
def cnt (es : List (List Nat)) (out : List Nat) (k : Nat) : Nat := ((es.getD k []).filter fun q => !out.contains q).length
theorem filter_ne_length {a : Nat} : ∀ {l : List Nat} (p : Nat → Bool), l.Nodup → p a = true → (l.filter fun q => p q && decide (q ≠ a)).length + (if a ∈ l then 1 else 0) = (l.filter p).length
  | [], p, _, _ => by simp
  | b :: r, p, hn, hp => by
    rw [List.nodup_cons] at hn
    have ih := filter_ne_length (a := a) (l := r) p hn.2 hp
    by_cases e : b = a
    · subst e
      rw [if_neg hn.1] at ih
      rw [List.filter_cons_of_neg (by simp), List.filter_cons_of_pos hp]
      simp; simpa using ih
    · have hm : (if a ∈ b :: r then 1 else 0) = (if a ∈ r then 1 else 0) := by by_cases h : a ∈ r <;> simp [h, Ne.symm e]
      rw [hm]
      cases hb : p b with
      | true => rw [List.filter_cons_of_pos (by simp [hb, e]), List.filter_cons_of_pos (by exact hb)]; simp only [List.length_cons]; omega
      | false => rw [List.filter_cons_of_neg (by simp [hb]), List.filter_cons_of_neg (by simp [hb])]; exact ih
theorem cnt_snoc {es : List (List Nat)} {out : List Nat} {i k : Nat} (hnd : (es.getD k []).Nodup) (hi : i ∉ out) : cnt es (out ++ [i]) k + (if i ∈ es.getD k [] then 1 else 0) = cnt es out k := by
  unfold cnt
  rw [← filter_ne_length (a := i) (fun q => !out.contains q) hnd (by simpa using hi)]
  congr 2
  apply List.filter_congr
  intro q _
  by_cases e : q = i <;> simp [e]
theorem cnt_zero {es : List (List Nat)} {out : List Nat} {k : Nat} : cnt es out k = 0 ↔ ∀ q ∈ es.getD k [], q ∈ out := by
  unfold cnt
  rw [List.length_eq_zero_iff, List.filter_eq_nil_iff]
  constructor
  · intro h q hq; have := h q hq; simpa using this
  · intro h q hq; simpa using h q hq
/-- whom a place stands ahead of -/
def behL (es : List (List Nat)) (n k : Nat) : List Nat := (List.range n).filter fun i => (es.getD i []).contains k
theorem behL_mem {es : List (List Nat)} {n k x : Nat} : x ∈ behL es n k ↔ x < n ∧ k ∈ es.getD x [] := by simp [behL]
theorem behL_nodup (es : List (List Nat)) (n k : Nat) : (behL es n k).Nodup := List.nodup_range.filter _
/-- under way: the places of i's list up to j are told -/
def behP (es : List (List Nat)) (i : Nat) (js : List Nat) (k : Nat) : List Nat := behL es i k ++ (if k ∈ js then [i] else [])
theorem behP_nil (es : List (List Nat)) (i k : Nat) : behP es i [] k = behL es i k := by simp [behP]
theorem behP_all (es : List (List Nat)) (i k : Nat) : behP es i (es.getD i []) k = behL es (i + 1) k := by
  unfold behP behL
  rw [List.range_succ, List.filter_append]
  congr 1
  simp only [List.filter_cons, List.filter_nil]
  by_cases h : k ∈ es.getD i []
  · rw [if_pos h, if_pos (List.contains_iff_mem.2 h)]
  · rw [if_neg h, if_neg (fun h2 => h (List.contains_iff_mem.1 h2))]
theorem behP_snoc (es : List (List Nat)) (i : Nat) (js : List Nat) (q k : Nat) (hq : q ∉ js) : behP es i (js ++ [q]) k = if k = q then behP es i js q ++ [i] else behP es i js k := by
  unfold behP
  by_cases e : k = q
  · subst e; simp [hq]
  · simp [e]
theorem inj_le {n c : Nat} {h : Nat → Nat} (hi : Inj c h) (hl : ∀ x, Img c h x → x < n) : c ≤ n := by
  have hnd : ((List.range c).map h).Nodup := by
    rw [List.nodup_iff_pairwise_ne, List.pairwise_iff_getElem]
    intro a b ha hb hab he
    simp at ha hb he
    have := hi a b ha hb he
    omega
  have := sub_len (m := List.range n) hnd (fun x hx => by
    obtain ⟨k, hk, rfl⟩ := List.mem_map.1 hx
    exact List.mem_range.2 (hl _ ⟨k, List.mem_range.1 hk, rfl⟩))
  simpa using this
/-- what may come behind one more -/
theorem cand_after {es : List (List Nat)} {out : List Nat} {i n : Nat} (hn : n = es.length) (hp : Part es out) (hc : Cand es out i) (x : Nat) :
    ((Cand es out x ∧ x ≠ i) ∨ (x ∈ behL es n i ∧ Cand es (out ++ [i]) x)) ↔ Cand es (out ++ [i]) x := by
  constructor
  · rintro (⟨⟨h1, h2, h3⟩, hne⟩ | ⟨_, h⟩)
    · exact ⟨h1, by simp [h2, hne], fun k hk => List.mem_append_left _ (h3 k hk)⟩
    · exact h
  · intro h
    obtain ⟨h1, h2, h3⟩ := h
    simp only [List.mem_append, List.mem_singleton, not_or] at h2
    by_cases hm : i ∈ es.getD x []
    · exact .inr ⟨behL_mem.2 ⟨by omega, hm⟩, h1, by simp [h2], h3⟩
    · refine .inl ⟨⟨h1, h2.1, fun k hk => ?_⟩, h2.2⟩
      have := h3 k hk
      simp only [List.mem_append, List.mem_singleton] at this
      rcases this with h | h
      · exact h
      · subst h; exact absurd hk hm
/-- those behind it are not there yet -/
theorem beh_not {es : List (List Nat)} {out : List Nat} {i n x : Nat} (hn : n = es.length) (hp : Part es out) (hc : Cand es out i) (hx : x ∈ behL es n i) : x < es.length ∧ x ∉ out ++ [i] ∧ ¬ Cand es out x := by
  obtain ⟨h1, h2⟩ := behL_mem.1 hx
  refine ⟨by omega, ?_, fun h => hc.2.1 (h.2.2 i h2)⟩
  simp only [List.mem_append, List.mem_singleton, not_or]
  refine ⟨fun h => ?_, fun h => ?_⟩
  · obtain ⟨j, hj, he⟩ := List.getElem_of_mem h
    have := hp.ahead j hj i (by rw [he]; exact h2)
    exact hc.2.1 (List.mem_of_mem_take this)
  · subst h; exact hc.2.1 (hc.2.2 _ h2)
end Go.Gr
