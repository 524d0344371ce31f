/- The equations in order. -/
import Derived.Test.YtcmjcdiaidalgaaGrHv
namespace Go.Proofs
open Go.Mt Go.Gr
set_option maxRecDepth 4000
set_option linter.unusedSimpArgs false
set_option linter.unusedVariables false

abbrev zeroC : List D := [.str ⟨#[]⟩, .sl [], .sl [], .sl [], .sl []]
def ordRows (xs : List Int) (l : List Nat) : List (List D) := l.map (eqOf xs)
def sortedC (xs : List Int) : List D := bif decide ((ordL (esL xs)).length = (esL xs).length) then [.str nameF, .sl [], .sl [], .sl (varsD xs.length), .sl (ordRows xs (ordL (esL xs)))] else zeroC
theorem ordRows_lens (xs : List Int) (l : List Nat) : ∀ r ∈ ordRows xs l, r.length = 22 := by intro r hr; obtain ⟨_, _, rfl⟩ := List.mem_map.1 hr; exact eqC_len _ _ _
theorem ordRows_get {xs : List Int} {l : List Nat} {i : Nat} (h : i < l.length) : (ordRows xs l)[(i : Int).toNat]? = some (eqOf xs l[i]) := by simp [ordRows, h]
theorem Sorted_ok (xs : List Int) (hw : ∀ x ∈ xs, 0 ≤ x ∧ x < 65536) (hxn : xs.length ≤ 14) : PT Try.prog 29 [.agg (chainC xs)] (· = [.agg (sortedC xs), .bool (decide ((ordL (esL xs)).length = (esL xs).length))]) := by
  have hO := Order_ok xs hw hxn
  have hlt : ∀ q ∈ ordL (esL xs), q < xs.length := by
    intro q hq
    rcases ordL_spec (esL xs) with ⟨h1, _⟩ | ⟨h1, _⟩
    · have := h1.lt q hq; rw [esL_len] at this; exact this
    · rw [h1] at hq; cases hq
  have hll : (ordL (esL xs)).length ≤ 14 := by
    rcases ordL_spec (esL xs) with ⟨_, h1⟩ | ⟨h1, _⟩
    · rw [h1, esL_len]; exact hxn
    · rw [h1]; simp
  unfold sortedC
  generalize ordL (esL xs) = l at hO hlt hll ⊢
  generalize decide (l.length = (esL xs).length) = A at hO ⊢
  refine PT.of_CT (CT.of_body Try.func29 rfl Try.ntmps29 rfl fun s0 Oo => ?_)
  repeat refine TC.seq ?_
  refine TC.region ?_
  refine t_boxL rfl rfl rfl rfl ?_
  refine t_alloc rfl rfl ?_
  refine t_assign rfl rfl ?_
  refine TL.nil ?_
  repeat refine TC.seq ?_
  refine TC.region ?_
  first | refine t_loadDw rfl rfl rfl ?_ | refine t_loadDa rfl rfl rfl ?_ | refine t_loadLa rfl rfl rfl rfl rfl ?_ | refine t_loadRa rfl rfl rfl rfl rfl ?_
  (refine t_callR (CT.of_PT hO) rfl rfl ?_; rintro _ _ ⟨⟨_, rfl, rfl⟩, rfl⟩)
  refine t_move rfl rfl ?_
  refine t_extract rfl rfl rfl ?_
  refine t_extract rfl rfl rfl ?_
  refine t_assign rfl rfl ?_
  refine t_assign rfl rfl ?_
  refine TL.nil ?_
  repeat refine TC.seq ?_
  refine TC.region ?_
  refine t_move rfl rfl ?_
  refine t_not rfl rfl ?_
  refine TL.nil ?_
  repeat refine TC.seq ?_
  cases A with
  | false =>
    refine TC.cond rfl (fun hc => ?_) (fun hc => by cases hc)
    repeat refine TC.seq ?_
    refine TC.region ?_
    refine t_build rfl rfl rfl rfl rfl ?_
    refine t_storeL rfl rfl rfl rfl rfl rfl ?_
    refine t_assign rfl rfl ?_
    refine TL.nil ?_
    exact TC.ret ⟨_, rfl, [_, _], rfl, rfl⟩
  | true =>
    refine TC.cond rfl (fun hc => by cases hc) (fun hc => ?_)
    refine TC.skip ?_
    repeat refine TC.seq ?_
    refine TC.region ?_
    refine t_assign rfl rfl ?_
    refine TL.nil ?_
    repeat refine TC.seq ?_
    refine TC.region ?_
    refine t_move rfl rfl ?_
    (refine t_lenS rfl rfl rfl ?_; rw [natsR_len])
    refine t_move rfl rfl ?_
    refine TL.nil ?_
    refine TC.rename [(19, .m (.d (.int .i64 ((0 : Nat) : Int)))), (18, .m (.d (.int .i64 (l.length : Nat)))), (17, .m (.d (.sl (natsR l)))), (6, .m (genM 0 (ordRows xs (l.take 0)))), (2, .loc 2 0), (1, .loc 1 0)] (genH [] 22 (ordRows xs (l.take 0))) ⟨rfl, rfl, rfl, rfl, rfl, rfl, trivial⟩ rfl ?_
    repeat refine TC.seq ?_
    refine TC.block ?_
    refine TC.loopB (fun k s => ∃ (j : Nat), s = ⟨[(19, .m (.d (.int .i64 (j : Int)))), (18, .m (.d (.int .i64 (l.length : Nat)))), (17, .m (.d (.sl (natsR l)))), (6, .m (genM 0 (ordRows xs (l.take j)))), (2, .loc 2 0), (1, .loc 1 0)], [(2, zeroC.map .d), (1, (chainC xs).map .d)], genH [] 22 (ordRows xs (l.take j))⟩ ∧ j ≤ l.length ∧ k = l.length - j) l.length _
      ⟨0, rfl, by omega, rfl⟩ ⟨rfl, rfl, rfl, rfl, rfl, rfl, trivial⟩ ?_
    rintro k s ⟨j, rfl, hj, rfl⟩
    repeat refine TC.seq ?_
    refine TC.region ?_
    refine t_int rfl rfl rfl rfl ?_
    refine TL.nil ?_
    repeat refine TC.seq ?_
    refine TC.cond rfl (fun hc => ?_) (fun hc => ?_)
    · have hcj : j < l.length := by have := of_decide_eq_true hc; omega
      clear hc
      have hq := hlt _ (List.getElem_mem hcj)
      have hgj := natsR_get hcj
      have htk : l.take (j + 1) = l.take j ++ [l[j]] := List.take_succ_eq_append_getElem hcj
      generalize l[j] = q at hq hgj htk
      have hR : ordRows xs (l.take (j + 1)) = ordRows xs (l.take j) ++ [eqOf xs q] := by rw [htk]; simp [ordRows]
      have hRl : (ordRows xs (l.take j)).length ≤ 14 := by simp [ordRows]; omega
      obtain ⟨f0, f1, f2, f3, f4, f5, f6, f7, e0, e1, e2, e3, e4, e5, he, _⟩ := eqOf_shape xs q
      have hget := eqsD_get (xs := xs) hq
      rw [he] at hget hR
      refine TC.skip ?_
      repeat refine TC.seq ?_
      refine TC.block ?_
      repeat refine TC.seq ?_
      refine TC.region ?_
      refine t_indexD rfl rfl rfl (Int.natCast_nonneg j) hgj rfl ?_
      first | refine t_loadDc rfl rfl rfl ?_ | refine t_loadLc rfl rfl rfl rfl ?_ | refine t_loadRc rfl rfl rfl rfl ?_
      refine t_assign rfl rfl ?_
      refine TL.nil ?_
      repeat refine TC.seq ?_
      refine TC.region ?_
      refine t_move rfl rfl ?_
      first | refine t_fieldD rfl rfl ?_ | refine t_fieldL rfl rfl ?_ | refine t_fieldR rfl rfl ?_ | refine t_fieldW rfl rfl ?_
      first | refine t_loadDc rfl rfl rfl ?_ | refine t_loadLc rfl rfl rfl rfl ?_ | refine t_loadRc rfl rfl rfl rfl ?_
      refine t_move rfl rfl ?_
      refine t_indexD rfl rfl rfl (Int.natCast_nonneg q) hget rfl ?_
      first | refine t_loadDw rfl rfl rfl ?_ | refine t_loadDa rfl rfl rfl ?_ | refine t_loadLa rfl rfl rfl rfl rfl ?_ | refine t_loadRa rfl rfl rfl rfl rfl ?_
      refine t_buildSlice rfl rfl rfl rfl rfl rfl rfl rfl ?_
      refine t_snoc (H0 := []) rfl rfl rfl rfl (by rfl) rfl (by omega) (by omega) ?_
      refine t_assign rfl rfl ?_
      refine TL.nil ?_
      repeat refine TC.seq ?_
      refine TC.region ?_
      refine t_add64 rfl rfl rfl (by omega) ?_
      refine t_move rfl rfl ?_
      refine TL.nil ?_
      exact again (k' := l.length - (j + 1)) (by omega) ⟨j + 1, rfl, by omega, rfl⟩ (by rw [hR]; rfl) ⟨by simp; rfl, rfl, rfl, by rw [hR]; rfl, rfl, rfl, trivial⟩
    · refine TC.exit ?_
      have hcj : j = l.length := by have := of_decide_eq_false hc; omega
      clear hc
      subst hcj
      rw [List.take_length]
      repeat refine TC.seq ?_
      refine TC.region ?_
      (refine t_move rfl rfl ?_; refine TL.viewSlot 32 rfl (gen_view [] 22 (ordRows xs l) (ordRows_lens _ _)) ?_)
      first | refine t_fieldD rfl rfl ?_ | refine t_fieldL rfl rfl ?_ | refine t_fieldR rfl rfl ?_ | refine t_fieldW rfl rfl ?_
      refine t_storeL rfl rfl rfl rfl rfl rfl ?_
      refine TL.nil ?_
      repeat refine TC.seq ?_
      refine TC.region ?_
      first | refine t_loadDw rfl rfl rfl ?_ | refine t_loadDa rfl rfl rfl ?_ | refine t_loadLa rfl rfl rfl rfl rfl ?_ | refine t_loadRa rfl rfl rfl rfl rfl ?_
      refine t_storeL rfl rfl rfl rfl rfl rfl ?_
      refine t_assign rfl rfl ?_
      refine TL.nil ?_
      exact TC.ret ⟨_, rfl, [_, _], rfl, rfl⟩
end Go.Proofs
