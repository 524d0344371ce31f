import Derived.Test.YtenbmejbaiajcaaCoP
import Derived.Test.YtenbmejbaiajcaaCoJ
namespace Go.Proofs
open Go.Mt
set_option maxRecDepth 4000
set_option linter.unusedSimpArgs false
set_option linter.unusedVariables false

section
variable (bs : List Nat)
theorem EE_lt : ∀ i j, EE bs i j = true → j < 7 := fun _ _ h => (edges_lt h).2
theorem RR_iff : ∀ i j, i < 7 → j < 7 → (wK (EE bs) 7 i j = true ↔ Reach (EE bs) i j) := fun _ _ hi hj => wK_iff (EE_lt bs) hi hj
theorem good_iffE (i : Nat) (hi : i < 6) : GoodH (EE bs) 6 i ↔ ¬ Bad (EE bs) i := good_iff (EE_lt bs) (RR_iff bs) i hi
theorem bad_iffE (i : Nat) (hi : i < 6) : badS (wK (EE bs) 7) i = true ↔ Bad (EE bs) i := by
  rw [badS_iff, RR_iff bs i 6 (by omega) (by omega)]
  constructor
  · rintro (h | ⟨k, h1, h2, h3⟩)
    · exact .inl h
    · exact .inr ⟨k, h1, h2.imp id (RR_iff bs i k (by omega) (by omega)).1, (RR_iff bs k k (by omega) (by omega)).1 h3⟩
  · rintro (h | ⟨k, h1, h2, h3⟩)
    · exact .inl h
    · exact .inr ⟨k, h1, h2.imp id (RR_iff bs i k (by omega) (by omega)).2, (RR_iff bs k k (by omega) (by omega)).2 h3⟩

theorem fn_found {st : List Nat} {m : Memo} {j : Nat} {v : Int} (hj : j < 7) (hm : MInv bs st m) (hl : look (nm j) m = some v) :
    (0 ≤ v → GoodH (EE bs) 6 j ∧ ∀ h, GoodH (EE bs) h j → v ≤ bd h) ∧ (v < 0 → ¬ GoodH (EE bs) 6 j ∨ j ∈ st) := by
  have hj6 : j < 6 := by
    rcases Nat.lt_or_ge j 6 with h | h
    · exact h
    · obtain rfl : j = 6 := by omega
      rw [hm.six] at hl; cases hl
  rcases hm.ent j hj6 v hl with ⟨h1, h2⟩ | ⟨h1, h2⟩
  · exact ⟨fun _ => h2, fun h => by omega⟩
  · exact ⟨fun h => by omega, fun _ => h2⟩
theorem not_good6 : ¬ GoodH (EE bs) 6 6 := fun g => absurd g.lt (by omega)

theorem fnP_zero : FnP bs 0 := by
  intro st m j hj hm hst hc
  cases hl : look (nm j) m with
  | some v => exact ⟨v, m, by simp [fnS, hl], hm, fun _ _ h => h, fn_found bs hj hm hl⟩
  | none =>
    have hj6 : j = 6 := by
      rcases Nat.lt_or_ge j 6 with h | h
      · have := cnt_upd (v := 0) h hl; omega
      · omega
    subst hj6
    exact ⟨-1, m, by simp [fnS, hl, find_graph6], hm, fun _ _ h => h, by omega, fun _ => .inl (not_good6 bs)⟩
theorem fnP_succ {F : Nat} (hF : FnP bs F) : FnP bs (F + 1) := by
  intro st m j hj hm hst hc
  cases hl : look (nm j) m with
  | some v => exact ⟨v, m, by simp [fnS, hl], hm, fun _ _ h => h, fn_found bs hj hm hl⟩
  | none =>
    rcases Nat.lt_or_ge j 6 with hj6 | hj6
    · have hinj : ∀ i, i < 7 → nm i = nm j → i = j := fun i hi e => nm_inj hi (by omega) e
      have hm1 : MInv bs (j :: st) (upd (nm j) (-1) m) := by
        refine ⟨fun i hi v hv => ?_, ?_⟩
        · rw [look_upd] at hv
          split at hv
          · rename_i e
            injection hv with hv; subst hv
            exact .inr ⟨by omega, .inr (by rw [hinj i (by omega) e]; simp)⟩
          · rcases hm.ent i hi v hv with h | ⟨h1, h2⟩
            · exact .inl h
            · exact .inr ⟨h1, h2.imp id fun h => by simp [h]⟩
        · rw [look_upd, if_neg (fun e => by have := hinj 6 (by omega) e; omega)]; exact hm.six
      have hlen : ((bs.take 12).filter fun b => fr b == j).length ≤ 12 := by
        have h1 := List.length_filter_le (fun b => fr b == j) (bs.take 12)
        simp at h1; omega
      obtain ⟨r, m1, h1, h2, h3, h4, h5⟩ := body_run bs hF j st hst ((bs.take 12).filter fun b => fr b == j) (by intro b hb; simp at hb; exact ⟨hb.1, hb.2⟩) 0 (upd (nm j) (-1) m) (by omega) hm1
        (by have := cnt_upd (v := -1) hj6 hl; omega) hlen (by
          intro _
          have h9 := bd_nonneg 5
          refine Int.mul_nonneg ?_ ?_ <;> omega)
      have hpos : 0 ≤ r → GoodH (EE bs) 6 j ∧ ∀ h, GoodH (EE bs) h j → r ≤ bd h := by
        intro hr
        obtain ⟨g1, g2⟩ := h4 hr
        refine ⟨?_, ?_⟩
        · rw [good_iffE bs j hj6]
          have : GoodH (EE bs) 7 j := ⟨hj6, fun k e => by
            obtain ⟨b, hb, e1, rfl⟩ := (edges_iff _ _ _).1 e
            exact g1 b (by simp [hb, e1])⟩
          exact this.not_bad
        · intro h g
          cases h with
          | zero => exact g.elim
          | succ h =>
            have a1 := g2 h fun b hb => by
              simp at hb
              exact g.2 _ ((edges_iff _ _ _).2 ⟨b, hb.1, hb.2, rfl⟩)
            have a2 := bd_nonneg h
            have a3 : (((bs.take 12).filter fun b => fr b == j).length : Int) * (bd h + 3) ≤ 12 * (bd h + 3) := Int.mul_le_mul_of_nonneg_right (by omega) (by omega)
            simp only [bd]
            omega
      have hneg : r < 0 → ¬ GoodH (EE bs) 6 j ∨ j ∈ st := fun h => .inl (h5 h)
      refine ⟨r, upd (nm j) r m1, ?_, ⟨fun i hi v hv => ?_, ?_⟩, fun i hi h => ?_, hpos, hneg⟩
      · simp only [fnS, hl, find_graph bs j hj6, bodyAt_graph bs j hj6]
        rw [bodyOf, h1]
      · rw [look_upd] at hv
        split at hv
        · rename_i e
          injection hv with hv; subst hv
          obtain rfl := hinj i (by omega) e
          rcases Int.lt_or_le r 0 with h | h
          · exact .inr ⟨h, .inl (h5 h)⟩
          · exact .inl ⟨h, hpos h⟩
        · rename_i e
          rcases h2.ent i hi v hv with h | ⟨q1, q2⟩
          · exact .inl h
          · refine .inr ⟨q1, q2.imp id fun h => ?_⟩
            rcases List.mem_cons.1 h with h | h
            · exact absurd (by rw [h]) e
            · exact h
      · rw [look_upd, if_neg (fun e => by have := hinj 6 (by omega) e; omega)]; exact h2.six
      · rw [look_upd] at h
        split at h
        · cases h
        · rename_i e
          have := h3 i hi h
          rw [look_upd, if_neg e] at this
          exact this
    · obtain rfl : j = 6 := by omega
      exact ⟨-1, m, by simp [fnS, hl, find_graph6], hm, fun _ _ h => h, by omega, fun _ => .inl (not_good6 bs)⟩
theorem fnP_all : ∀ F, FnP bs F
  | 0 => fnP_zero bs
  | F + 1 => fnP_succ bs (fnP_all F)

theorem small_graph : Small (graphP bs) := by
  refine ⟨by rw [graphP_len]; omega, ?_⟩
  intro f hf
  simp only [graphP, List.mem_map] at hf
  obtain ⟨i, _, rfl⟩ := hf
  have key : ∀ l : List Nat, S.szs (l.map stmtOf) ≤ 2 * l.length := by
    intro l
    induction l with
    | nil => simp [S.szs]
    | cons b l ih =>
      have : (stmtOf b).sz ≤ 2 := by simp only [stmtOf]; split <;> simp [S.sz, S.szs]
      simp only [List.map_cons, S.szs, List.length_cons]; omega
  have h1 := key ((bs.take 12).filter fun b => fr b == i)
  have h2 := List.length_filter_le (fun b => fr b == i) (bs.take 12)
  have h3 : (bs.take 12).length ≤ 12 := by simp; omega
  simp only [bodyOf]
  omega

/-- the law itself -/
theorem costLoops_true (v : D) (hin : InD bs v) : PT Try.prog 3 [v] (· = [.bool true]) := by
  refine costLoops_walk bs v hin (graphP bs) rfl (small_graph bs) _ rfl ?_ ?_ (ahead_iff bs) (by rw [s6, s6_eq]; exact find_graph6 bs)
  · intro i hi
    obtain ⟨r, m, h1, _, _, h4, h5⟩ := fnP_all bs 6 [] [] i (by omega) ⟨fun _ _ _ h => by simp [look] at h, rfl⟩ (by simp) (by simp [cnt, look])
    refine ⟨6, r, m, h1, ?_⟩
    rw [Bool.eq_iff_iff, bad_iffE bs i hi, decide_eq_true_iff]
    constructor
    · intro h
      rcases h5 h with g | g
      · exact Classical.byContradiction fun hb => g ((good_iffE bs i hi).2 hb)
      · cases g
    · intro hb
      rcases Int.lt_or_le r 0 with h | h
      · exact h
      · exact absurd hb ((good_iffE bs i hi).1 (h4 h).1)
  · intro i hi
    rw [Bool.eq_iff_iff, bad_iffE bs i hi, decide_eq_true_iff]
    have h1 := deepS_iff bs 6 i (by omega)
    rw [good_iffE bs i hi] at h1
    rw [deepP, graphP_len]
    constructor
    · intro h
      exact Classical.byContradiction fun hb => by have := h1.2 hb; omega
    · intro hb
      rcases Int.lt_or_le (deepS (graphP bs) 6 (nm i)) 0 with h | h
      · exact h
      · exact absurd hb (h1.1 h)
end
end Go.Proofs
