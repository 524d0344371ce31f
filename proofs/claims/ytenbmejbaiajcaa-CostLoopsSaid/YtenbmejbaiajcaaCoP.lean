import Derived.Test.YtenbmejbaiajcaaCoM
namespace Go.Proofs
open Go.Mt
set_option maxRecDepth 4000
set_option linter.unusedSimpArgs false
set_option linter.unusedVariables false

def bd : Nat → Int
  | 0 => 0
  | h + 1 => 12 * (bd h + 3)
theorem bd_nonneg : ∀ h, 0 ≤ bd h
  | 0 => by simp [bd]
  | h + 1 => by have := bd_nonneg h; simp only [bd]; omega
theorem bd5 : bd 5 = 814356 - 0 + 0 := by decide
theorem bd6 : bd 6 = 12 * (bd 5 + 3) := rfl

theorem look_upd (k c : ByteArray) (v : Int) : ∀ m : Memo, look c (upd k v m) = if c = k then some v else look c m
  | [] => by
    simp only [upd, look]
    by_cases h : c = k
    · simp [h]
    · have : ¬ k = c := fun e => h e.symm
      simp [h, this]
  | (s, u) :: r => by
    simp only [upd]
    by_cases hs : s = k
    · subst hs
      simp only [decide_true, cond_true, look]
      by_cases h : c = s
      · simp [h]
      · have : ¬ s = c := fun e => h e.symm
        simp [h, this]
    · simp only [decide_eq_false hs, cond_false, look, look_upd k c v r]
      by_cases h : c = k
      · subst h
        simp [hs]
      · simp [h]

section
variable (bs : List Nat)
abbrev EE : Nat → Nat → Bool := edges (bs.take 12)
structure MInv (st : List Nat) (m : Memo) : Prop where
  ent : ∀ i, i < 6 → ∀ v, look (nm i) m = some v → (0 ≤ v ∧ GoodH (EE bs) 6 i ∧ ∀ h, GoodH (EE bs) h i → v ≤ bd h) ∨ (v < 0 ∧ (¬ GoodH (EE bs) 6 i ∨ i ∈ st))
  six : look (nm 6) m = none
def cnt (m : Memo) : Nat := (List.range 6).countP fun i => (look (nm i) m).isNone
def Ext (m m' : Memo) : Prop := ∀ i, i < 6 → look (nm i) m' = none → look (nm i) m = none
theorem cnt_le {m m' : Memo} (h : Ext m m') : cnt m' ≤ cnt m := by
  refine List.countP_mono_left fun i hi => ?_
  intro h1
  have h2 := h i (List.mem_range.1 hi)
  cases h3 : look (nm i) m' with
  | none => simp [h2 h3]
  | some v => rw [h3] at h1; simp at h1
theorem cnt_upd {m : Memo} {i : Nat} {v : Int} (hi : i < 6) (hl : look (nm i) m = none) : cnt (upd (nm i) v m) < cnt m := by
  have h1 : (List.range 6).countP (fun j => decide (j < 6) && (look (nm j) (upd (nm i) v m)).isNone) < (List.range 6).countP (fun j => decide (j < 6) && (look (nm j) m).isNone) := by
    refine countP_lt (fun j hj => ?_) ⟨i, by simpa using hi, by simp [hi, hl], by simp [look_upd]⟩
    simp [look_upd] at hj ⊢
    refine ⟨hj.1, ?_⟩
    have h2 := hj.2
    split at h2
    · cases h2
    · exact h2
  have h2 : ∀ q : Memo, (List.range 6).countP (fun j => decide (j < 6) && (look (nm j) q).isNone) = cnt q := by
    intro q
    refine List.countP_congr fun x hx => ?_
    simp at hx ⊢
    omega
  rw [h2, h2] at h1
  exact h1

theorem stmtOf_run {g : ByteArray → Memo → Option (Int × Memo)} {b : Nat} {m m' : Memo} {r : Int} (h : g (nm (to b)) m = some (r, m')) (hr : r ≤ 100000000) :
    ∃ n, stmtS g (stmtOf b) m = some (n, m') ∧ (r < 0 → n < 0) ∧ (0 ≤ r → 0 ≤ n ∧ n ≤ r + 3) := by
  simp only [stmtOf]
  split
  · by_cases hn : r < 0
    · refine ⟨-1, ?_, by omega, by omega⟩
      simp [stmtS, stmtsS, h, hn]
    · refine ⟨2 + max 0 (r + 1), ?_, by omega, by omega⟩
      have h1 : ¬ (r + 1 < 0 ∨ 0 + (r + 1) > 1073741824) := by omega
      have h2 : ¬ ((0 : Int) < 0 ∨ r + 1 < 0) := by omega
      simp only [stmtS, stmtsS, h, if_neg hn, if_neg h1, Int.zero_add]
      rw [if_neg (by omega)]
      simp only
      rw [if_neg (by omega)]
  · by_cases hn : r < 0
    · exact ⟨-1, by simp [stmtS, h, hn], by omega, by omega⟩
    · exact ⟨r + 1, by simp [stmtS, h, hn], by omega, by omega⟩

def FnP (F : Nat) : Prop := ∀ (st : List Nat) (m : Memo) (j : Nat), j < 7 → MInv bs st m → (∀ s ∈ st, Reach (EE bs) s j) → cnt m ≤ F →
  ∃ r m', fnS (graphP bs) F (nm j) m = some (r, m') ∧ MInv bs st m' ∧ Ext m m' ∧ (0 ≤ r → GoodH (EE bs) 6 j ∧ ∀ h, GoodH (EE bs) h j → r ≤ bd h) ∧ (r < 0 → ¬ GoodH (EE bs) 6 j ∨ j ∈ st)

theorem body_run {F : Nat} (hF : FnP bs F) (i : Nat) (st : List Nat) (hst : ∀ s ∈ st, Reach (EE bs) s i) : ∀ (l : List Nat), (∀ b ∈ l, b ∈ bs.take 12 ∧ fr b = i) → ∀ (t : Int) (m : Memo), 0 ≤ t → MInv bs (i :: st) m → cnt m ≤ F →
    l.length ≤ 12 → (GoodH (EE bs) 6 i → t ≤ (12 - l.length) * (bd 5 + 3)) →
    ∃ r m', stmtsS (fnS (graphP bs) F) (l.map stmtOf) t m = some (r, m') ∧ MInv bs (i :: st) m' ∧ Ext m m' ∧
      (0 ≤ r → (∀ b ∈ l, GoodH (EE bs) 6 (to b)) ∧ ∀ h, (∀ b ∈ l, GoodH (EE bs) h (to b)) → r ≤ t + l.length * (bd h + 3)) ∧ (r < 0 → ¬ GoodH (EE bs) 6 i) := by
  intro l
  induction l with
  | nil =>
    intro _ t m ht hm hc _ _
    exact ⟨t, m, by simp [stmtsS], hm, fun _ _ h => h, fun _ => ⟨by simp, by simp⟩, by omega⟩
  | cons b l ih =>
    intro hl t m ht hm hc hlen hbd
    obtain ⟨hb, hfr⟩ := hl b (by simp)
    have hedge : EE bs i (to b) = true := (edges_iff _ _ _).2 ⟨b, hb, hfr, rfl⟩
    have hst' : ∀ s ∈ i :: st, Reach (EE bs) s (to b) := by
      intro s hs
      rcases List.mem_cons.1 hs with rfl | hs
      · exact .one hedge
      · exact (hst s hs).trans (.one hedge)
    obtain ⟨r, m1, h1, h2, h3, h4, h5⟩ := hF (i :: st) m (to b) (to_lt b) hm hst' hc
    have hr6 : 0 ≤ r → r ≤ bd 6 := fun h => (h4 h).2 6 (h4 h).1
    have hb5 := bd5
    have hb6 := bd6
    obtain ⟨n, k1, k2, k3⟩ := stmtOf_run (g := fnS (graphP bs) F) (b := b) h1 (by
      by_cases h : 0 ≤ r
      · have := hr6 h; omega
      · omega)
    have hneg : r < 0 → ¬ GoodH (EE bs) 6 i := by
      intro hr g
      rcases h5 hr with h | h
      · exact h ((g.2 _ hedge).succ)
      · rcases List.mem_cons.1 h with h | h
        · rw [h] at hedge; exact GoodH.acyclic (.one hedge) _ g
        · exact GoodH.acyclic (.cons hedge (hst _ h)) _ g
    have hn5 : GoodH (EE bs) 6 i → 0 ≤ r → n ≤ bd 5 + 3 := by
      intro g h
      have := (h4 h).2 5 (g.2 _ hedge)
      have := (k3 h).2
      omega
    simp only [List.map_cons, stmtsS, k1]
    by_cases hcut : n < 0 ∨ t + n > 1073741824
    · rw [if_pos hcut]
      refine ⟨-1, m1, rfl, h2, h3, by omega, fun _ => ?_⟩
      by_cases hr : r < 0
      · exact hneg hr
      · intro g
        have a1 := hn5 g (by omega)
        have a2 := hbd g
        have a3 := (k3 (by omega)).1
        simp only [List.length_cons] at a2 hlen
        rcases hcut with h | h
        · omega
        · rw [hb5] at a1 a2; push_cast at a2; omega
    · rw [if_neg hcut]
      have hr : 0 ≤ r := by
        rcases Int.lt_or_le r 0 with h | h
        · have := k2 h; omega
        · exact h
      obtain ⟨r2, m2, q1, q2, q3, q4, q5⟩ := ih (fun c hc => hl c (by simp [hc])) (t + n) m1 (by omega) h2 (Nat.le_trans (cnt_le h3) hc) (by simp at hlen; omega) (by
        intro g
        have a1 := hn5 g hr
        have a2 := hbd g
        simp only [List.length_cons] at a2
        rw [hb5] at a1 a2 ⊢; push_cast at a2; omega)
      refine ⟨r2, m2, q1, q2, fun x hx h => h3 x hx (q3 x hx h), fun h => ?_, q5⟩
      refine ⟨fun c hc => ?_, fun hh hg => ?_⟩
      · rcases List.mem_cons.1 hc with rfl | hc
        · exact (h4 hr).1
        · exact (q4 h).1 c hc
      · have a1 := (q4 h).2 hh fun c hc => hg c (by simp [hc])
        have a2 := (h4 hr).2 hh (hg b (by simp))
        have a3 := (k3 hr).2
        simp only [List.length_cons]
        have a4 : ((l.length + 1 : Nat) : Int) * (bd hh + 3) = l.length * (bd hh + 3) + (bd hh + 3) := by push_cast; rw [Int.add_mul, Int.one_mul]
        omega
end
end Go.Proofs
