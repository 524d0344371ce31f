/- The order, as the program reckons it, is the greedy one. -/
import Derived.Test.YtcmjcdiaidalgaaGrHu
namespace Go.Proofs
open Go.Mt Go.Gr
set_option maxRecDepth 4000
set_option linter.unusedSimpArgs false
set_option linter.unusedVariables false

section
variable {X : Ctx} {ops : Array Oper} {rest : List Oper} {sl : List (Nat × V)} {bx : List (Nat × List M)} {H : Hp} {post : St → Prop} {d ty : Nat} {pos : String} {af : Array Edge}
theorem t_lenO {t e : Nat} {x : Operand} {n : Nat} {g : Nat → Nat} {b : Nat → List Nat} {r : Nat} {m : M} {c : Nat} {h : Nat → Nat} {lf : Nat → D} [ht : TySlice X.P t e] (o : OS n H g b r m c h lf) (hn : Nat.blt d X.n = true) (hx : evs sl x = some (.m m))
    (k : TL X ops rest ⟨(d, .m (.d (.int .i64 (c : Nat)))) :: sl, bx, H⟩ post) : TL X ops (⟨some d, .call ⟨.builtin .len, #[x], #[t]⟩, ty, pos, af, none⟩ :: rest) ⟨sl, bx, H⟩ post := by
  rcases o.rdy with ⟨_, rfl, rfl⟩ | ⟨_, ver, rfl, _⟩
  · exact t_lenS hn hx rfl k
  · exact t_lenR hn hx k
end
theorem OS.congr {n : Nat} {H : Hp} {g : Nat → Nat} {b b' : Nat → List Nat} {r : Nat} {m : M} {c : Nat} {h : Nat → Nat} {lf lf' : Nat → D} (o : OS n H g b r m c h lf) (hb : b = b') (hl : lf = lf') : OS n H g b' r m c h lf' := by subst hb; subst hl; exact o
def lenF (es : List (List Nat)) (i k : Nat) : D := .int .i64 ((if k < i then (es.getD k []).length else 0 : Nat) : Int)
def bO (es : List (List Nat)) (out : List Nat) (k : Nat) : List Nat := if k = es.length then out else behL es es.length k
def cntF (es : List (List Nat)) (out : List Nat) (k : Nat) : D := .int .i64 ((Gr.cnt es out k : Nat) : Int)
def lfN (es : List (List Nat)) (out js : List Nat) (k : Nat) : D := .int .i64 ((Gr.cnt es out k - (if k ∈ js then 1 else 0) : Nat) : Int)
instance : IsFn Try.prog 38 := isFn_of (by kernel_rfl)
instance : IsFn Try.prog 39 := isFn_of (by kernel_rfl)
theorem Order_ok (xs : List Int) (hw : ∀ x ∈ xs, 0 ≤ x ∧ x < 65536) (hxn : xs.length ≤ 14) : PT Try.prog 21 [.agg (chainC xs)] (· = [.sl (natsR (ordL (esL xs))), .bool (decide ((ordL (esL xs)).length = (esL xs).length))]) := by
  have hEd := Edges_ok xs hw hxn
  have hes := esL_lt xs
  have hsm := esL_small hw hxn
  have hn : (esL xs).length ≤ 14 := by rw [esL_len]; exact hxn
  have hnd : ∀ k, ((esL xs).getD k []).Nodup := by
    intro k
    rw [List.getD_eq_getElem?_getD]
    rcases Nat.lt_or_ge k (esL xs).length with h | h
    · rw [List.getElem?_eq_getElem h]
      obtain ⟨i, _, hi⟩ := List.mem_map.1 (List.getElem_mem h)
      simp only [Option.getD_some]
      rw [← hi, List.nodup_iff_pairwise_ne]
      exact (depK_sorted xs i).imp fun h => by omega
    · rw [List.getElem?_eq_none h]; simp
  generalize hE : esL xs = es at hEd hes hsm hn hnd ⊢
  have hmem : ∀ i, ∀ k ∈ es.getD i [], k < es.length := by
    intro i k hk
    rcases Nat.lt_or_ge i es.length with h | h
    · rw [List.getD_eq_getElem?_getD, List.getElem?_eq_getElem h] at hk
      exact hes _ (List.getElem_mem h) k hk
    · rw [List.getD_eq_getElem?_getD, List.getElem?_eq_none h] at hk; simp at hk
  have hsml : ∀ i, (es.getD i []).length ≤ 14 := by
    intro i
    rcases Nat.lt_or_ge i es.length with h | h
    · rw [List.getD_eq_getElem?_getD, List.getElem?_eq_getElem h]
      exact hsm _ (List.getElem_mem h)
    · rw [List.getD_eq_getElem?_getD, List.getElem?_eq_none h]; simp
  refine PT.of_CT (CT.of_body Try.func21 rfl Try.ntmps21 rfl fun s0 Oo => ?_)
  repeat refine TC.seq ?_
  refine TC.region ?_
  refine t_box rfl rfl ?_
  refine t_assign rfl rfl ?_
  refine t_assign rfl rfl ?_
  refine TL.nil ?_
  repeat refine TC.seq ?_
  refine TC.region ?_
  first | refine t_loadDw rfl rfl rfl ?_ | refine t_loadDa rfl rfl rfl ?_ | refine t_loadLa rfl rfl rfl rfl rfl ?_ | refine t_loadRa rfl rfl rfl rfl rfl ?_
  refine t_call1 hEd rfl rfl ?_
  refine t_assign rfl rfl ?_
  refine TL.nil ?_
  repeat refine TC.seq ?_
  refine TC.region ?_
  refine t_move rfl rfl ?_
  (refine t_lenS rfl rfl rfl ?_; rw [rowsL_len])
  refine t_makeSlice (len := es.length) rfl rfl rfl rfl (by rfl) (by omega) (by omega) ?_
  refine t_assign rfl rfl ?_
  refine TL.nil ?_
  repeat refine TC.seq ?_
  refine TC.region ?_
  refine t_move rfl rfl ?_
  (refine t_lenS rfl rfl rfl ?_; rw [rowsL_len])
  refine t_makeSlice (len := es.length) rfl rfl rfl rfl (by rfl) (by omega) (by omega) ?_
  refine t_assign rfl rfl ?_
  refine TL.nil ?_
  repeat refine TC.seq ?_
  refine TC.region ?_
  refine t_assign rfl rfl ?_
  refine TL.nil ?_
  repeat refine TC.seq ?_
  refine TC.region ?_
  refine t_move rfl rfl ?_
  (refine t_lenS rfl rfl rfl ?_; rw [rowsL_len])
  refine t_move rfl rfl ?_
  refine TL.nil ?_
  have hb0 : ∀ k, behL es 0 k = [] := fun k => rfl
  refine TC.rename [(26, .m (.d (.int .i64 ((0 : Nat) : Int)))), (25, .m (.d (.int .i64 (es.length : Nat)))), (24, .m (.d (.sl (rowsL es)))), (7, .m (.d (.sl []))), (6, .m (.rsl 1 0 es.length)), (5, .m (.rsl 0 0 es.length)), (4, .m (.d (.sl (rowsL es))))] [.row false 1 0 (cellsF es.length (lenF es 0)), .row false 1 0 (cellsM es.length fun k => genM ((fun _ => 0) k) (natsR (behL es 0 k)))] ⟨rfl, rfl, rfl, rfl, rfl, rfl, rfl, trivial⟩ (by
    rw [show dcells (D.int .i64 0) = [D.int .i64 0] from rfl, zlist1, show dcells (D.sl []) = [D.sl []] from rfl, zlist1]; rfl) ?_
  repeat refine TC.seq ?_
  refine TC.block ?_
  refine TC.loopB (fun k s => ∃ (i : Nat) (g : Nat → Nat) (r : Nat) (h : Nat → Nat) (c : Nat) (m : M) (H : Hp), s = ⟨[(26, .m (.d (.int .i64 (i : Int)))), (25, .m (.d (.int .i64 (es.length : Nat)))), (24, .m (.d (.sl (rowsL es)))), (7, .m m), (6, .m (.rsl 1 0 es.length)), (5, .m (.rsl 0 0 es.length)), (4, .m (.d (.sl (rowsL es))))], [], H⟩ ∧ i ≤ es.length ∧ OS es.length H g (behL es i) r m c h (lenF es i) ∧ (∀ x, Img c h x ↔ x < i ∧ es.getD x [] = []) ∧ k = es.length - i) es.length _
    ⟨0, fun _ => 0, 0, fun _ => 0, 0, _, _, rfl, by omega, ⟨rfl, rfl, ⟨fun k _ h => absurd (hb0 k) h, fun k k' _ _ h => absurd (hb0 k) h⟩, .inl ⟨rfl, rfl, rfl⟩, fun k _ h => by omega, fun a b h => by omega⟩, fun x => ⟨fun ⟨k, hk, _⟩ => by omega, fun h => by omega⟩, rfl⟩ ⟨rfl, rfl, rfl, rfl, rfl, rfl, rfl, trivial⟩ ?_
  · rintro k s ⟨i, g, r, h, c, m, H, rfl, hi, o, hM, rfl⟩
    repeat refine TC.seq ?_
    refine TC.region ?_
    refine t_int rfl rfl rfl rfl ?_
    refine TL.nil ?_
    repeat refine TC.seq ?_
    refine TC.cond rfl (fun hc => ?_) (fun hc => ?_)
    · have hc' : i < es.length := by have := of_decide_eq_true hc; omega
      clear hc
      have hrow := rowsL_get hc'
      have hks := hmem i
      have hksl := hsml i
      have hksn := hnd i
      have hbA := fun k => behP_all es i k
      have hMi : ∀ x, (x < i + 1 ∧ es.getD x [] = []) ↔ (x < i ∧ es.getD x [] = []) ∨ (x = i ∧ es.getD i [] = []) := by
        intro x
        constructor
        · rintro ⟨h1, h2⟩
          rcases Nat.lt_or_ge x i with h3 | h3
          · exact .inl ⟨h3, h2⟩
          · obtain rfl : x = i := by omega
            exact .inr ⟨rfl, h2⟩
        · rintro (⟨h1, h2⟩ | ⟨rfl, h2⟩)
          · exact ⟨by omega, h2⟩
          · exact ⟨by omega, h2⟩
      have hl1 : writeAt (cellsF es.length (lenF es i)) (((i : Nat) : Int).toNat * 1) [.d (.int .i64 (((es.getD i []).length : Nat) : Int))] = some (cellsF es.length (lenF es (i + 1))) := cellsF_write hc' (by simp [lenF]) (fun k _ hk => by
        unfold lenF
        by_cases h : k < i
        · rw [if_pos h, if_pos (by omega)]
        · rw [if_neg h, if_neg (by omega)])
      generalize hksE : es.getD i [] = ks at hrow hks hksl hksn hbA hMi hl1
      refine TC.skip ?_
      repeat refine TC.seq ?_
      refine TC.block ?_
      repeat refine TC.seq ?_
      refine TC.region ?_
      refine t_move rfl rfl ?_
      refine t_indexD rfl rfl rfl (Int.natCast_nonneg i) hrow rfl ?_
      first | refine t_loadDc rfl rfl rfl ?_ | refine t_loadLc rfl rfl rfl rfl ?_ | refine t_loadRc rfl rfl rfl rfl ?_
      refine t_assign rfl rfl ?_
      refine t_assign rfl rfl ?_
      refine TL.nil ?_
      repeat refine TC.seq ?_
      refine TC.region ?_
      refine t_move rfl rfl ?_
      refine t_move rfl rfl ?_
      refine t_move rfl rfl ?_
      (refine t_lenS rfl rfl rfl ?_; rw [natsR_len])
      refine t_indexR rfl rfl rfl o.h0 (by omega) (by omega) ?_
      refine t_storeW rfl rfl o.h0 rfl rfl hl1 ?_
      refine TL.nil ?_
      have o1 := OS.congr (o.left (lf' := lenF es (i + 1))) (b' := behP es i (ks.take 0)) (by funext k; simp [behP]) rfl
      generalize H.set 0 (Ob.row false 1 0 (cellsF es.length (lenF es (i + 1)))) = H1 at o1 ⊢
      repeat refine TC.seq ?_
      refine TC.region ?_
      refine t_move rfl rfl ?_
      (refine t_lenS rfl rfl rfl ?_; rw [natsR_len])
      refine t_move rfl rfl ?_
      refine TL.nil ?_
      repeat refine TC.seq ?_
      refine TC.block ?_
      refine TC.loopB (fun k s => ∃ (j : Nat) (g : Nat → Nat) (H : Hp), s = ⟨[(38, .m (.d (.int .i64 (j : Int)))), (37, .m (.d (.int .i64 (ks.length : Nat)))), (36, .m (.d (.sl (natsR ks)))), (9, .m (.d (.sl (natsR ks)))), (8, .m (.d (.int .i64 (i : Int)))), (26, .m (.d (.int .i64 (i : Int)))), (25, .m (.d (.int .i64 (es.length : Nat)))), (24, .m (.d (.sl (rowsL es)))), (7, .m m), (6, .m (.rsl 1 0 es.length)), (5, .m (.rsl 0 0 es.length)), (4, .m (.d (.sl (rowsL es))))], [], H⟩ ∧ j ≤ ks.length ∧ OS es.length H g (behP es i (ks.take j)) r m c h (lenF es (i + 1)) ∧ k = ks.length - j) ks.length _
        ⟨0, g, H1, rfl, by omega, o1, rfl⟩ ⟨rfl, rfl, rfl, rfl, rfl, rfl, rfl, rfl, rfl, rfl, rfl, rfl, trivial⟩ ?_
      rintro k s ⟨j, g2, H2, rfl, hj, o2, rfl⟩
      repeat refine TC.seq ?_
      refine TC.region ?_
      refine t_int rfl rfl rfl rfl ?_
      refine TL.nil ?_
      repeat refine TC.seq ?_
      refine TC.cond rfl (fun hc => ?_) (fun hc => ?_)
      · have hcj : j < ks.length := by have := of_decide_eq_true hc; omega
        clear hc
        have hq := hks _ (List.getElem_mem hcj)
        have hgj := natsR_get hcj
        have htk : ks.take (j + 1) = ks.take j ++ [ks[j]] := List.take_succ_eq_append_getElem hcj
        have hno : ks[j] ∉ ks.take j := by
          intro hm
          obtain ⟨a, ha, he⟩ := List.mem_take_iff_getElem.1 hm
          rw [List.nodup_iff_pairwise_ne, List.pairwise_iff_getElem] at hksn
          exact hksn a j (by omega) hcj (by omega) he
        generalize ks[j] = q at hq hgj htk hno
        refine TC.skip ?_
        repeat refine TC.seq ?_
        refine TC.block ?_
        repeat refine TC.seq ?_
        refine TC.region ?_
        refine t_indexD rfl rfl rfl (Int.natCast_nonneg j) hgj rfl ?_
        first | refine t_loadDc rfl rfl rfl ?_ | refine t_loadLc rfl rfl rfl rfl ?_ | refine t_loadRc rfl rfl rfl rfl ?_
        refine t_assign rfl rfl ?_
        refine TL.nil ?_
        have hol := o2.len
        have hbl : (behP es i (ks.take j) q).length ≤ 15 := by
          unfold behP behL
          rw [List.length_append]
          have h1 := List.length_filter_le (fun i => (es.getD i []).contains q) (List.range i)
          rw [List.length_range] at h1
          have h2 : (if q ∈ ks.take j then [i] else []).length ≤ 1 := by split <;> simp
          omega
        have hbq : (fun k => if k = q then behP es i (ks.take j) q ++ [i] else behP es i (ks.take j) k) = behP es i (ks.take (j + 1)) := by
          funext k; rw [htk, behP_snoc _ _ _ _ _ hno]
        have hbq2 : behP es i (ks.take j) q ++ [i] = behP es i (ks.take (j + 1)) q := by rw [htk, behP_snoc _ _ _ _ _ hno, if_pos rfl]
        have hwr : ∀ g' : Nat → Nat, (∀ k, k ≠ q → g' k = g2 k) → writeAt (cellsM es.length fun k => genM (g2 k) (natsR (behP es i (ks.take j) k))) (((q : Nat) : Int).toNat * 1) [genM (g' q) (natsR (behP es i (ks.take j) q ++ [i]))] = some (cellsM es.length fun k => genM (g' k) (natsR (behP es i (ks.take (j + 1)) k))) := fun g' hg' => cellsM_write hq (by rw [hbq2]) (fun k _ hk => by rw [hg' k hk, htk, behP_snoc _ _ _ _ _ hno, if_neg hk])
        repeat refine TC.seq ?_
        refine TC.region ?_
        refine t_move rfl rfl ?_
        refine t_move rfl rfl ?_
        refine t_move rfl rfl ?_
        refine t_move rfl rfl ?_
        refine t_indexR rfl rfl rfl o2.h1 (by omega) (by omega) ?_
        refine t_loadWc rfl rfl o2.h1 (cellsM_get hq) ?_
        refine t_move rfl rfl ?_
        refine t_buildSlice rfl rfl rfl rfl rfl rfl rfl rfl ?_
        (refine t_snocB o2.beh (k := q) (by omega) hol.1 hol.2 rfl rfl rfl rfl (by omega) (by omega) ?_; intro g3 H3 hb3 hg3 hq3 hl3 hr3)
        refine t_indexR rfl rfl rfl (by rw [hq3 1 (.inl (by omega))]; exact o2.h1) (by omega) (by omega) ?_
        refine t_storeW rfl rfl (by rw [hq3 1 (.inl (by omega))]; exact o2.h1) (cells_gen _ _) rfl (hwr g3 hg3) ?_
        refine TL.nil ?_
        rw [hbq] at hb3
        have o3 := o2.lists hb3 hq3 hr3 hl3
        repeat refine TC.seq ?_
        refine TC.region ?_
        refine t_add64 rfl rfl rfl (by omega) ?_
        refine t_move rfl rfl ?_
        refine TL.nil ?_
        exact again (k' := ks.length - (j + 1)) (by omega) ⟨j + 1, g3, _, rfl, by omega, o3, rfl⟩ rfl ⟨by simp; rfl, rfl, rfl, rfl, rfl, rfl, rfl, rfl, rfl, rfl, rfl, rfl, trivial⟩
      · refine TC.exit ?_
        have hcj : j = ks.length := by have := of_decide_eq_false hc; omega
        clear hc
        subst hcj
        rw [List.take_length] at o2
        have o3 := OS.congr o2 (b' := behL es (i + 1)) (by funext k; rw [← hbA]) rfl
        have hcl : c ≤ 100 := by
          have := inj_le (n := es.length) o.inj (fun x hx => by have := (hM x).1 hx; omega)
          omega
        repeat refine TC.seq ?_
        refine TC.region ?_
        refine t_move rfl rfl ?_
        (refine t_lenS rfl rfl rfl ?_; rw [natsR_len])
        refine t_int rfl rfl rfl rfl ?_
        refine TL.nil ?_
        repeat refine TC.seq ?_
        refine TC.cond rfl (fun hc => ?_) (fun hc => ?_)
        · have hk0 : ks = [] := by
            have : ((ks.length : Int) == 0) = true := hc
            simp at this; exact this
          have hni : ¬ Img c h i := fun hx => by have := (hM i).1 hx; omega
          repeat refine TC.seq ?_
          refine TC.region ?_
          refine t_move rfl rfl ?_
          refine t_move rfl rfl ?_
          (refine t_callR (push_os o3 hcl i hni) rfl rfl ?_; rintro m4 H4 ⟨r4, h4, o4, hM4⟩)
          refine t_assign rfl rfl ?_
          refine TL.nil ?_
          repeat refine TC.seq ?_
          refine TC.region ?_
          refine t_add64 rfl rfl rfl (by omega) ?_
          refine t_move rfl rfl ?_
          refine TL.nil ?_
          exact again (k' := es.length - (i + 1)) (by omega) ⟨i + 1, g2, r4, h4, c + 1, m4, H4, rfl, by omega, o4, fun x => by rw [hM4, hM, hMi]; constructor <;> rintro (h | h) <;> first | exact .inr ⟨h, hk0⟩ | exact .inl h | exact .inl h.1 | exact .inr h, rfl⟩ rfl ⟨by simp; rfl, rfl, rfl, rfl, rfl, rfl, rfl, trivial⟩
        · have hk0 : ks ≠ [] := by
            have : ((ks.length : Int) == 0) = false := hc
            simp at this; exact this
          refine TC.skip ?_
          repeat refine TC.seq ?_
          refine TC.region ?_
          refine t_add64 rfl rfl rfl (by omega) ?_
          refine t_move rfl rfl ?_
          refine TL.nil ?_
          exact again (k' := es.length - (i + 1)) (by omega) ⟨i + 1, g2, r, h, c, m, H2, rfl, by omega, o3, fun x => by rw [hM, hMi]; constructor <;> first | exact fun h => .inl h | (rintro (h | h); exact h; exact absurd h.2 hk0), rfl⟩ rfl ⟨by simp; rfl, rfl, rfl, rfl, rfl, rfl, rfl, trivial⟩
    · refine TC.exit ?_
      have hc' : i = es.length := by have := of_decide_eq_false hc; omega
      clear hc
      subst hc'
      have hbn0 : behL es es.length es.length = [] := by
        unfold behL
        rw [List.filter_eq_nil_iff]
        intro x _ hx
        have := hmem x es.length (List.contains_iff_mem.1 hx)
        omega
      have hbO : behL es es.length = bO es [] := by
        funext k
        unfold bO
        by_cases e : k = es.length
        · rw [if_pos e, e, hbn0]
        · rw [if_neg e]
      have o1 := OS.congr o (b' := bO es []) (lf' := cntF es []) hbO (by
        funext k
        unfold lenF cntF Gr.cnt
        rcases Nat.lt_or_ge k es.length with h1 | h1
        · rw [if_pos h1, List.filter_eq_self.2 (fun _ _ => by simp)]
        · rw [if_neg (by omega), List.getD_eq_getElem?_getD, List.getElem?_eq_none h1]; simp)
      have hM1 : ∀ x, Img c h x ↔ Cand es [] x := by
        intro x
        rw [hM]
        unfold Cand
        constructor
        · rintro ⟨h1, h2⟩; exact ⟨h1, by simp, by rw [h2]; simp⟩
        · rintro ⟨h1, _, h3⟩
          refine ⟨h1, ?_⟩
          rcases hx : es.getD x [] with _ | ⟨a, t⟩
          · rfl
          · have := h3 a (by rw [hx]; simp); simp at this
      repeat refine TC.seq ?_
      refine TC.region ?_
      refine t_assign rfl rfl ?_
      refine TL.nil ?_
      repeat refine TC.seq ?_
      refine TC.block ?_
      refine TC.loopB (fun k s => ∃ (out : List Nat) (g : Nat → Nat) (r : Nat) (h : Nat → Nat) (c : Nat) (m : M) (H : Hp), s = ⟨[(12, .m (genM (g es.length) (natsR out))), (7, .m m), (6, .m (.rsl 1 0 es.length)), (5, .m (.rsl 0 0 es.length)), (4, .m (.d (.sl (rowsL es))))], [], H⟩ ∧ Part es out ∧ OS es.length H g (bO es out) r m c h (cntF es out) ∧ (∀ x, Img c h x ↔ Cand es out x) ∧ out.length ≤ es.length ∧ ordGo es (es.length - out.length) out = ordL es ∧ k = es.length - out.length) es.length _
        ⟨[], g, r, h, c, m, H, rfl, Part.nil es, o1, hM1, by simp, rfl, rfl⟩ ⟨rfl, rfl, rfl, rfl, rfl, trivial⟩ ?_
      clear hM1 o1 hbO hM o g r h c m H
      rintro k s ⟨out, g, r, h, c, m, H, rfl, hp, o, hM, hol, hgo, rfl⟩
      have hcl : c ≤ es.length := inj_le o.inj (fun x hx => ((hM x).1 hx).1)
      have hbn : bO es out es.length = out := by simp [bO]
      rcases Nat.eq_zero_or_pos c with rfl | hc0
      · have hnn : nextL es out = none := next_empty fun x hx => by
          obtain ⟨k, hk, _⟩ := (hM x).2 hx
          omega
        repeat refine TC.seq ?_
        refine TC.region ?_
        refine t_move rfl rfl ?_
        refine t_lenO o rfl rfl ?_
        refine t_int rfl rfl rfl rfl ?_
        refine TL.nil ?_
        repeat refine TC.seq ?_
        refine TC.cond rfl (fun hc => by have := of_decide_eq_true hc; omega) (fun hc => ?_)
        refine TC.exit ?_
        have hvw := o.beh.view (k := es.length) (by omega)
        rw [hbn] at hvw
        rcases Nat.lt_or_ge out.length es.length with hlt | hge
        · have hz : ordL es = [] := by
            rw [← hgo]
            obtain ⟨f, hf⟩ : ∃ f, es.length - out.length = f + 1 := ⟨es.length - out.length - 1, by omega⟩
            rw [hf, ordGo, hnn]
          repeat refine TC.seq ?_
          refine TC.region ?_
          (refine t_move rfl rfl ?_; refine TL.viewSlot 96 rfl hvw ?_)
          (refine t_lenS rfl rfl rfl ?_; rw [natsR_len])
          refine t_move rfl rfl ?_
          (refine t_lenS rfl rfl rfl ?_; rw [rowsL_len])
          refine t_int rfl rfl rfl rfl ?_
          refine TL.nil ?_
          repeat refine TC.seq ?_
          refine TC.cond rfl (fun hc => ?_) (fun hc => by have := of_decide_eq_false hc; omega)
          repeat refine TC.seq ?_
          refine TC.region ?_
          refine t_assign rfl rfl ?_
          refine t_assign rfl rfl ?_
          refine TL.nil ?_
          refine TC.ret ⟨_, rfl, [_, _], rfl, ?_⟩
          rw [hz, show decide (([] : List Nat).length = es.length) = false from decide_eq_false (by simp; omega)]
          rfl
        · have hz : ordL es = out := by
            rw [← hgo, show es.length - out.length = 0 by omega, ordGo]
          repeat refine TC.seq ?_
          refine TC.region ?_
          (refine t_move rfl rfl ?_; refine TL.viewSlot 96 rfl hvw ?_)
          (refine t_lenS rfl rfl rfl ?_; rw [natsR_len])
          refine t_move rfl rfl ?_
          (refine t_lenS rfl rfl rfl ?_; rw [rowsL_len])
          refine t_int rfl rfl rfl rfl ?_
          refine TL.nil ?_
          repeat refine TC.seq ?_
          refine TC.cond rfl (fun hc => by have := of_decide_eq_true hc; omega) (fun hc => ?_)
          refine TC.skip ?_
          repeat refine TC.seq ?_
          refine TC.region ?_
          refine t_move rfl rfl ?_
          refine t_assign rfl rfl ?_
          refine t_assign rfl rfl ?_
          refine TL.nil ?_
          refine TC.viewSlot 2 rfl hvw ?_
          refine TC.ret ⟨_, rfl, [_, _], rfl, ?_⟩
          rw [hz, show decide (out.length = es.length) = true from decide_eq_true (by omega)]
      obtain ⟨c, rfl⟩ : ∃ c', c = c' + 1 := ⟨c - 1, by omega⟩
      repeat refine TC.seq ?_
      refine TC.region ?_
      refine t_move rfl rfl ?_
      refine t_lenO o rfl rfl ?_
      refine t_int rfl rfl rfl rfl ?_
      refine TL.nil ?_
      repeat refine TC.seq ?_
      refine TC.cond rfl (fun hc => ?_) (fun hc => by have := of_decide_eq_false hc; omega)
      clear hc
      refine TC.skip ?_
      repeat refine TC.seq ?_
      refine TC.block ?_
      repeat refine TC.seq ?_
      refine TC.region ?_
      refine t_assign rfl rfl ?_
      refine TL.nil ?_
      repeat refine TC.seq ?_
      refine TC.region ?_
      refine t_move rfl rfl ?_
      (refine t_callR (pop_os o (by omega)) rfl rfl ?_; rintro _ H2 ⟨m2, h2, rfl, o2, hM2⟩)
      refine t_move rfl rfl ?_
      refine t_extract rfl rfl rfl ?_
      refine t_extract rfl rfl rfl ?_
      refine t_assign rfl rfl ?_
      refine t_assign rfl rfl ?_
      refine TL.nil ?_
      have hci : Cand es out (h 0) := (hM _).1 ⟨0, by omega, rfl⟩
      have hnx : nextL es out = some (h 0) := next_min hci fun x hx => by
        obtain ⟨k, hk, rfl⟩ := (hM x).2 hx
        exact o.hp.least k hk
      have hM2' : ∀ x, Img c h2 x ↔ Cand es out x ∧ x ≠ h 0 := fun x => by rw [hM2, hM]
      generalize hi0 : h 0 = i at hci hnx hM2'
      clear hM2 hM
      have hin : i < es.length := hci.1
      have hlt : out.length < es.length := by
        have := sub_len (l := out ++ [i]) (m := List.range es.length) (by
          rw [List.nodup_append]
          exact ⟨hp.nd, by simp, fun a ha b hb => by simp at hb; subst hb; rintro rfl; exact hci.2.1 ha⟩) (fun x hx => by
          simp only [List.mem_append, List.mem_singleton] at hx
          rcases hx with hx | rfl
          · exact List.mem_range.2 (hp.lt x hx)
          · exact List.mem_range.2 hin)
        simp at this
        omega
      have hp' := hp.snoc hnx
      rw [ordGo_step hlt, hnx] at hgo
      have hol2 := o2.len
      have hbE : (fun j => if j = es.length then bO es out es.length ++ [i] else bO es out j) = bO es (out ++ [i]) := by
        funext j
        unfold bO
        by_cases e : j = es.length
        · simp [e]
        · simp [e]
      repeat refine TC.seq ?_
      refine TC.region ?_
      refine t_move rfl rfl ?_
      refine t_move rfl rfl ?_
      refine t_buildSlice rfl rfl rfl rfl rfl rfl rfl rfl ?_
      (refine t_snocB o2.beh (k := es.length) (by omega) hol2.1 hol2.2 rfl (by rw [hbn]; rfl) rfl rfl (by rw [hbn]; omega) (by rw [hbn]; omega) ?_; intro g3 H3 hb3 hg3 hq3 hl3 hr3; rw [hbn])
      refine t_assign rfl rfl ?_
      refine TL.nil ?_
      rw [hbE] at hb3
      have o3 := o2.out hb3 hq3 (fun k hk => hg3 k (by omega)) (fun k hk => by unfold bO; rw [if_neg (by omega), if_neg (by omega)])
      have hbi : bO es (out ++ [i]) i = behL es es.length i := by unfold bO; rw [if_neg (by omega)]
      have hvw := o3.beh.view (k := i) (by omega)
      rw [hbi] at hvw
      have hbnot := fun x => beh_not (x := x) rfl hp hci
      have hafter := cand_after rfl hp hci
      have hbnd := behL_nodup es es.length i
      have hbsl : (behL es es.length i).length ≤ 14 := by
        have := List.length_filter_le (fun x => (es.getD x []).contains i) (List.range es.length)
        rw [List.length_range] at this
        unfold behL; omega
      have hbmem := fun x => behL_mem (es := es) (n := es.length) (k := i) (x := x)
      repeat refine TC.seq ?_
      refine TC.region ?_
      refine t_move rfl rfl ?_
      refine t_move rfl rfl ?_
      refine t_indexR rfl rfl rfl o3.h1 (by omega) (by omega) ?_
      (refine t_loadWc rfl rfl o3.h1 (cellsM_get hin) ?_; rw [hbi]; refine TL.viewSlot 75 rfl hvw ?_)
      (refine t_lenS rfl rfl rfl ?_; rw [natsR_len])
      refine t_move rfl rfl ?_
      refine TL.nil ?_
      generalize behL es es.length i = bs at hbi hvw hbnot hafter hbnd hbmem hbsl
      have o4 := OS.congr o3 (b' := bO es (out ++ [i])) (lf' := lfN es out (bs.take 0)) rfl (by funext k; simp [cntF, lfN])
      repeat refine TC.seq ?_
      refine TC.block ?_
      refine TC.loopB (fun k s => ∃ (j r : Nat) (h : Nat → Nat) (c : Nat) (m : M) (H : Hp), s = ⟨[(77, .m (.d (.int .i64 (j : Int)))), (76, .m (.d (.int .i64 (bs.length : Nat)))), (75, .m (.d (.sl (natsR bs)))), (12, .m (genM (g3 es.length) (natsR (out ++ [i])))), (7, .m m), (6, .m (.rsl 1 0 es.length)), (5, .m (.rsl 0 0 es.length)), (4, .m (.d (.sl (rowsL es))))], [], H⟩ ∧ j ≤ bs.length ∧ OS es.length H g3 (bO es (out ++ [i])) r m c h (lfN es out (bs.take j)) ∧ (∀ x, Img c h x ↔ (Cand es out x ∧ x ≠ i) ∨ (x ∈ bs.take j ∧ Cand es (out ++ [i]) x)) ∧ k = bs.length - j) bs.length _
        ⟨0, r, h2, c, m2, H3, rfl, by omega, o4, fun x => by rw [hM2']; simp, rfl⟩ ⟨rfl, rfl, rfl, rfl, rfl, rfl, rfl, rfl, trivial⟩ ?_
      rintro k s ⟨j, r4, h4, c4, m4, H4, rfl, hj, o5, hM5, rfl⟩
      repeat refine TC.seq ?_
      refine TC.region ?_
      refine t_int rfl rfl rfl rfl ?_
      refine TL.nil ?_
      repeat refine TC.seq ?_
      refine TC.cond rfl (fun hc => ?_) (fun hc => ?_)
      · have hcj : j < bs.length := by have := of_decide_eq_true hc; omega
        clear hc
        have hqm : bs[j] ∈ bs := List.getElem_mem hcj
        have hgj := natsR_get hcj
        have htk : bs.take (j + 1) = bs.take j ++ [bs[j]] := List.take_succ_eq_append_getElem hcj
        have hno : bs[j] ∉ bs.take j := by
          intro hm
          obtain ⟨a, ha, he⟩ := List.mem_take_iff_getElem.1 hm
          rw [List.nodup_iff_pairwise_ne, List.pairwise_iff_getElem] at hbnd
          exact hbnd a j (by omega) hcj (by omega) he
        generalize bs[j] = q at hqm hgj htk hno
        obtain ⟨hq, hqo, hqc⟩ := hbnot q hqm
        have hqe := ((hbmem q).1 hqm).2
        have hcs := cnt_snoc (hnd q) hci.2.1
        rw [if_pos hqe] at hcs
        have hcb : Gr.cnt es out q ≤ 14 := Nat.le_trans (List.length_filter_le _ _) (hsml q)
        have hsub : ((Gr.cnt es out q : Nat) : Int) - 1 = ((Gr.cnt es (out ++ [i]) q : Nat) : Int) := by omega
        have hgl : (cellsF es.length (lfN es out (bs.take j)))[((q : Nat) : Int).toNat * 1]? = some (.d (.int .i64 ((Gr.cnt es out q : Nat) : Int))) := by
          rw [cellsF_get hq]; unfold lfN; rw [if_neg hno]; rfl
        have hgl2 : (cellsF es.length (lfN es out (bs.take (j + 1))))[((q : Nat) : Int).toNat * 1]? = some (.d (.int .i64 ((Gr.cnt es (out ++ [i]) q : Nat) : Int))) := by
          rw [cellsF_get hq]; unfold lfN; rw [htk, if_pos (by simp), show Gr.cnt es out q - 1 = Gr.cnt es (out ++ [i]) q by omega]
        have hwr : writeAt (cellsF es.length (lfN es out (bs.take j))) (((q : Nat) : Int).toNat * 1) [.d (.int .i64 ((Gr.cnt es (out ++ [i]) q : Nat) : Int))] = some (cellsF es.length (lfN es out (bs.take (j + 1)))) := cellsF_write hq (by unfold lfN; rw [htk, if_pos (by simp), show Gr.cnt es out q - 1 = Gr.cnt es (out ++ [i]) q by omega]) (fun k _ hk => by
          unfold lfN
          congr 3
          rw [htk]
          by_cases h5 : k ∈ bs.take j
          · rw [if_pos h5, if_pos (List.mem_append_left _ h5)]
          · rw [if_neg h5, if_neg (by simp [h5, hk])])
        refine TC.skip ?_
        repeat refine TC.seq ?_
        refine TC.block ?_
        repeat refine TC.seq ?_
        refine TC.region ?_
        refine t_indexD rfl rfl rfl (Int.natCast_nonneg j) hgj rfl ?_
        first | refine t_loadDc rfl rfl rfl ?_ | refine t_loadLc rfl rfl rfl rfl ?_ | refine t_loadRc rfl rfl rfl rfl ?_
        refine t_assign rfl rfl ?_
        refine TL.nil ?_
        repeat refine TC.seq ?_
        refine TC.region ?_
        refine t_move rfl rfl ?_
        refine t_move rfl rfl ?_
        refine t_indexR rfl rfl rfl o5.h0 (by omega) (by omega) ?_
        refine t_loadWc rfl rfl o5.h0 hgl ?_
        (refine t_sub64 rfl rfl rfl (by omega) ?_; rw [hsub])
        refine t_indexR rfl rfl rfl o5.h0 (by omega) (by omega) ?_
        refine t_storeW rfl rfl o5.h0 rfl rfl hwr ?_
        refine TL.nil ?_
        have o6 := o5.left (lf' := lfN es out (bs.take (j + 1)))
        generalize H4.set 0 (Ob.row false 1 0 (cellsF es.length (lfN es out (bs.take (j + 1))))) = H5 at o6 ⊢
        have hni : ¬ Img c4 h4 q := fun hx => by
          rcases (hM5 q).1 hx with h5 | h5
          · exact hqc h5.1
          · exact hno h5.1
        have hcl4 : c4 ≤ 100 := by
          have := inj_le (n := es.length) o6.inj (fun x hx => by
            rcases (hM5 x).1 hx with h5 | h5
            · exact h5.1.1
            · exact h5.2.1)
          omega
        repeat refine TC.seq ?_
        refine TC.region ?_
        refine t_move rfl rfl ?_
        refine t_move rfl rfl ?_
        refine t_indexR rfl rfl rfl o6.h0 (by omega) (by omega) ?_
        refine t_loadWc rfl rfl o6.h0 hgl2 ?_
        refine t_int rfl rfl rfl rfl ?_
        refine TL.nil ?_
        repeat refine TC.seq ?_
        refine TC.cond rfl (fun hc => ?_) (fun hc => ?_)
        · have hz : Gr.cnt es (out ++ [i]) q = 0 := by
            have : (((Gr.cnt es (out ++ [i]) q : Nat) : Int) == 0) = true := hc
            simp at this; exact this
          have hcq : Cand es (out ++ [i]) q := ⟨hq, hqo, cnt_zero.1 hz⟩
          repeat refine TC.seq ?_
          refine TC.region ?_
          refine t_move rfl rfl ?_
          refine t_move rfl rfl ?_
          (refine t_callR (push_os o6 hcl4 q hni) rfl rfl ?_; rintro m6 H6 ⟨r6, h6, o7, hM7⟩)
          refine t_assign rfl rfl ?_
          refine TL.nil ?_
          repeat refine TC.seq ?_
          refine TC.region ?_
          refine t_add64 rfl rfl rfl (by omega) ?_
          refine t_move rfl rfl ?_
          refine TL.nil ?_
          exact again (k' := bs.length - (j + 1)) (by omega) ⟨j + 1, r6, h6, c4 + 1, m6, H6, rfl, by omega, o7, fun x => by
            rw [hM7, hM5, htk]
            simp only [List.mem_append, List.mem_singleton]
            constructor
            · rintro (rfl | h5 | ⟨h5, h6⟩)
              · exact .inr ⟨.inr rfl, hcq⟩
              · exact .inl h5
              · exact .inr ⟨.inl h5, h6⟩
            · rintro (h5 | ⟨h5 | rfl, h6⟩)
              · exact .inr (.inl h5)
              · exact .inr (.inr ⟨h5, h6⟩)
              · exact .inl rfl, rfl⟩ rfl ⟨by simp; rfl, rfl, rfl, rfl, rfl, rfl, rfl, rfl, trivial⟩
        · have hz : ¬ Gr.cnt es (out ++ [i]) q = 0 := by
            have : (((Gr.cnt es (out ++ [i]) q : Nat) : Int) == 0) = false := hc
            simp at this; exact this
          have hcq : ¬ Cand es (out ++ [i]) q := fun h5 => hz (cnt_zero.2 h5.2.2)
          refine TC.skip ?_
          repeat refine TC.seq ?_
          refine TC.region ?_
          refine t_add64 rfl rfl rfl (by omega) ?_
          refine t_move rfl rfl ?_
          refine TL.nil ?_
          exact again (k' := bs.length - (j + 1)) (by omega) ⟨j + 1, r4, h4, c4, m4, H5, rfl, by omega, o6, fun x => by
            rw [hM5, htk]
            simp only [List.mem_append, List.mem_singleton]
            constructor
            · rintro (h5 | ⟨h5, h6⟩)
              · exact .inl h5
              · exact .inr ⟨.inl h5, h6⟩
            · rintro (h5 | ⟨h5 | rfl, h6⟩)
              · exact .inl h5
              · exact .inr ⟨h5, h6⟩
              · exact absurd h6 hcq, rfl⟩ rfl ⟨by simp; rfl, rfl, rfl, rfl, rfl, rfl, rfl, rfl, trivial⟩
      · refine TC.exit ?_
        have hcj : j = bs.length := by have := of_decide_eq_false hc; omega
        clear hc
        subst hcj
        rw [List.take_length] at o5 hM5
        have o6 := OS.congr o5 (b' := bO es (out ++ [i])) (lf' := cntF es (out ++ [i])) rfl (by
          funext k
          unfold lfN cntF
          have hcs := cnt_snoc (hnd k) hci.2.1
          have hk : k ∈ bs ↔ i ∈ es.getD k [] := by
            rw [hbmem]
            constructor
            · exact fun h5 => h5.2
            · intro h5
              refine ⟨?_, h5⟩
              rcases Nat.lt_or_ge k es.length with h6 | h6
              · exact h6
              · rw [List.getD_eq_getElem?_getD, List.getElem?_eq_none h6] at h5; simp at h5
          congr 2
          by_cases h5 : k ∈ bs
          · rw [if_pos (hk.1 h5)] at hcs
            rw [if_pos h5]; omega
          · rw [if_neg (fun h6 => h5 (hk.2 h6))] at hcs
            rw [if_neg h5]; omega)
        have hlen : (out ++ [i]).length = out.length + 1 := by simp
        exact again (k' := es.length - (out ++ [i]).length) (by omega) ⟨out ++ [i], g3, r4, h4, c4, m4, H4, rfl, hp', o6, fun x => by rw [hM5]; exact hafter x, by omega, hgo, rfl⟩ rfl ⟨rfl, rfl, rfl, rfl, rfl, trivial⟩
end Go.Proofs
