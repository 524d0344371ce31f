import Derived.Test.YtenbmejbaiajcaaCoL
namespace Go.Proofs
open Go.Mt
set_option maxRecDepth 4000
set_option linter.unusedSimpArgs false
set_option linter.unusedVariables false

theorem nm_inj {i j : Nat} (hi : i < 7) (hj : j < 7) (h : nm i = nm j) : i = j := by
  have key : ∀ i j : Fin 7, nm i = nm j → i = j := by decide
  have := key ⟨i, hi⟩ ⟨j, hj⟩ h
  exact congrArg Fin.val this
theorem graphP_len (bs : List Nat) : (graphP bs).length = 6 := by simp [graphP]
theorem graphP_get (bs : List Nat) (i : Nat) (h : i < 6) : (graphP bs)[i]? = some ⟨nm i, bodyOf (bs.take 12) i⟩ := by simp [graphP, h]
theorem find_graph (bs : List Nat) (i : Nat) (h : i < 6) : find (graphP bs) (nm i) = some i := by
  have hl := graphP_len bs
  have hget : ∀ j, (hj : j < (graphP bs).length) → (graphP bs)[j].nm = nm j := by
    intro j hj
    have := graphP_get bs j (by omega)
    rw [List.getElem?_eq_getElem hj] at this
    injection this with this
    rw [this]
  refine findIdx_hit (by omega) ?_ ?_
  · simp [hget i (by omega)]
  · intro j hj
    rw [hget j (by omega)]
    exact decide_eq_false fun e => by have := nm_inj (by omega) (by omega) e; omega
theorem find_graph6 (bs : List Nat) : find (graphP bs) (nm 6) = none := by
  have hl := graphP_len bs
  refine findIdx_miss fun j hj => ?_
  have := graphP_get bs j (by omega)
  rw [List.getElem?_eq_getElem hj] at this
  injection this with this
  rw [this]
  exact decide_eq_false fun e => by have := nm_inj (by omega) (by omega) e; omega
theorem s6_eq : (⟨#[102, 54]⟩ : ByteArray) = nm 6 := by decide
theorem bodyAt_graph (bs : List Nat) (i : Nat) (h : i < 6) : bodyAt (graphP bs) i = bodyOf (bs.take 12) i := by simp [bodyAt, graphP_get bs i h]
theorem nmAt_graph (bs : List Nat) (i : Nat) (h : i < 6) : nmAt (graphP bs) i = nm i := by simp [nmAt, graphP_get bs i h]


mutual
def S.names : S → List ByteArray
  | .set _ => []
  | .call n => [n]
  | .ite a b => S.namess a ++ S.namess b
def S.namess : List S → List ByteArray
  | [] => []
  | s :: r => s.names ++ S.namess r
end
theorem has_iff (l : List ByteArray) (c : ByteArray) : has l c = true ↔ c ∈ l := by
  simp [has]
mutual
theorem callS_mem (acc : List ByteArray) (c : ByteArray) : ∀ s : S, c ∈ callS acc s ↔ c ∈ acc ∨ c ∈ s.names
  | .set _ => by simp [callS, S.names]
  | .call n => by
    simp only [callS, S.names, addS]
    cases h : has acc n with
    | true =>
      have := (has_iff acc n).1 h
      simp
      rintro rfl; exact this
    | false => simp
  | .ite a b => by
    simp only [callS, S.names]
    rw [callsS_mem, callsS_mem, List.mem_append, or_assoc]
theorem callsS_mem (acc : List ByteArray) (c : ByteArray) : ∀ l : List S, c ∈ callsS acc l ↔ c ∈ acc ∨ c ∈ S.namess l
  | [] => by simp [callsS, S.namess]
  | s :: r => by
    simp only [callsS, S.namess]
    rw [callsS_mem, callS_mem, List.mem_append, or_assoc]
end
theorem stmtOf_names (b : Nat) : (stmtOf b).names = [nm (to b)] := by
  simp only [stmtOf]; split <;> simp [S.names, S.namess]
theorem bodyOf_names (bs : List Nat) (i : Nat) (c : ByteArray) : c ∈ S.namess (bodyOf bs i) ↔ ∃ j, edges bs i j = true ∧ c = nm j := by
  have key : ∀ l : List Nat, c ∈ S.namess (l.map stmtOf) ↔ ∃ b ∈ l, c = nm (to b) := by
    intro l
    induction l with
    | nil => simp [S.namess]
    | cons b l ih => simp [S.namess, stmtOf_names, ih]
  rw [bodyOf, key]
  constructor
  · rintro ⟨b, hb, rfl⟩
    simp at hb
    exact ⟨to b, (edges_iff bs i _).2 ⟨b, hb.1, hb.2, rfl⟩, rfl⟩
  · rintro ⟨j, hj, rfl⟩
    obtain ⟨b, hb, h1, rfl⟩ := (edges_iff bs i _).1 hj
    exact ⟨b, by simp [hb, h1], rfl⟩
theorem callsOf_mem (bs : List Nat) (i : Nat) (h : i < 6) (c : ByteArray) : c ∈ callsOf (graphP bs) (nm i) ↔ ∃ j, edges (bs.take 12) i j = true ∧ c = nm j := by
  rw [callsOf, find_graph bs i h]
  simp only [bodyAt_graph bs i h]
  rw [callsS_mem, bodyOf_names]; simp

theorem deepL_nonneg (g : ByteArray → Int) : ∀ (l : List ByteArray) (best : Int), 0 ≤ best → (0 ≤ deepL g best l ↔ ∀ c ∈ l, 0 ≤ g c)
  | [], best, h => by simp [deepL]; omega
  | c :: r, best, h => by
    simp only [deepL]
    split
    · rename_i hc
      constructor
      · intro h; omega
      · intro hh; have := hh c (by simp); omega
    · rename_i hc
      rw [deepL_nonneg g r _ (by omega)]
      constructor
      · intro hh x hx
        rcases List.mem_cons.1 hx with rfl | hx
        · omega
        · exact hh x hx
      · intro hh x hx; exact hh x (by simp [hx])
theorem deepS_iff (bs : List Nat) : ∀ (n i : Nat), i < 7 → (0 ≤ deepS (graphP bs) n (nm i) ↔ GoodH (edges (bs.take 12)) n i)
  | 0, i, _ => by simp [deepS, GoodH]
  | n + 1, i, hi => by
    by_cases h6 : i < 6
    · rw [deepS, find_graph bs i h6]
      simp only
      rw [deepL_nonneg _ _ _ (by omega)]
      constructor
      · intro h
        exact ⟨h6, fun j e => (deepS_iff bs n j (edges_lt e).2).1 (h _ ((callsOf_mem bs i h6 _).2 ⟨j, e, rfl⟩))⟩
      · rintro ⟨_, h⟩ c hc
        obtain ⟨j, e, rfl⟩ := (callsOf_mem bs i h6 c).1 hc
        exact (deepS_iff bs n j (edges_lt e).2).2 (h j e)
    · obtain rfl : i = 6 := by omega
      rw [deepS, find_graph6]
      simp [GoodH]
theorem ahead_iff (bs : List Nat) : aheadS (graphP bs) = upS (bs.take 12) := by
  rw [Bool.eq_iff_iff, upS_iff, aheadS, List.all_eq_true]
  rw [graphP_len]
  constructor
  · intro h b hb
    have h1 := h (fr b) (List.mem_range.2 (fr_lt b))
    rw [okAt, nmAt_graph bs _ (fr_lt b), List.all_eq_true] at h1
    have h2 := h1 (nm (to b)) ((callsOf_mem bs _ (fr_lt b) _).2 ⟨to b, (edges_iff _ _ _).2 ⟨b, hb, rfl, rfl⟩, rfl⟩)
    rw [good] at h2
    by_cases h6 : to b < 6
    · rw [find_graph bs _ h6] at h2
      rw [decide_eq_false (idx_nonneg _)] at h2
      simp [idxInt] at h2
      exact h2
    · have : to b = 6 := by have := to_lt b; omega
      rw [this, find_graph6] at h2
      simp [idxInt] at h2
  · intro h i hi
    have hi6 := List.mem_range.1 hi
    rw [okAt, nmAt_graph bs _ hi6, List.all_eq_true]
    intro c hc
    obtain ⟨j, e, rfl⟩ := (callsOf_mem bs i hi6 c).1 hc
    obtain ⟨b, hb, rfl, rfl⟩ := (edges_iff _ _ _).1 e
    have h1 := h b hb
    have h6 : to b < 6 := by omega
    rw [good, find_graph bs _ h6, decide_eq_false (idx_nonneg _)]
    simp [idxInt]
    exact h1
end Go.Proofs
