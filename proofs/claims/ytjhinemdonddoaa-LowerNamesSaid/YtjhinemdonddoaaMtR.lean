import Derived.Test.YtjhinemdonddoaaMtQ
set_option linter.unusedVariables false
namespace Go.Mt

section ops
variable {X : Ctx} {st : St} {dst : Option Nat} {ty : Nat} {pos : String} {af : Array Edge} {g : Option (Nat × Bool)}

theorem op_boxH {T : Nat} {x : Operand} {m : M} (hx : st.ev x = some (.m m)) (hok : m.okc = true) :
    OpT X ⟨dst, .box T x, ty, pos, af, g⟩ st (eqp (.m (.ref st.H.length 0)) ⟨st.sl, st.bx, st.H ++ [.box (cellsOf m)]⟩) := by
  intro a σ lam hi
  have h := hi.ev hx
  cases h with
  | m h =>
    have hc := h.cells hok
    obtain ⟨τ, h1, h2, h3, h4, h5⟩ := hi.newObj (.box (cellsOf m)) (.cells (a.eval x).cells T (0, 0)) (by
      intro τ hm hw
      exact ⟨_, T, by rw [hw]; simp, hc.mono hm⟩)
    refine OpRun.value (u := .pointer (some ⟨σ.w.heap.size, 0, none⟩)) (w' := { σ.w with heap := σ.w.heap.push (.cells (a.eval x).cells T (0, 0)) }) ?_ ⟨_, _, τ, lam, ⟨rfl, rfl⟩, h1, h5, ?_⟩
    · simp [execOp, Instr.box, newVar, newRow, newObj, Sem.run]
    · rw [← h2, hi.hH]
      exact .m (.ref _ 0 (cellsOf m) (by rw [h3]; simp))

theorem op_allocH {T : Nat} {z : D} [hz : TyZero X.P T z] :
    OpT X ⟨dst, .alloc T, ty, pos, af, g⟩ st (eqp (.m (.ref st.H.length 0)) ⟨st.sl, st.bx, st.H ++ [.box ((dcells z).map .d)]⟩) := by
  intro a σ lam hi
  obtain ⟨v, hz1, hz2⟩ := hz.run
  have hr : RM σ (.d z) v := .d (dOfVal_rep hz2)
  have hc : RMc σ ((dcells z).map .d) v.cells := hr.cells rfl
  obtain ⟨τ, h1, h2, h3, h4, h5⟩ := hi.newObj (.box ((dcells z).map .d)) (.cells v.cells T (0, 0)) (by
    intro τ hm hw
    exact ⟨_, T, by rw [hw]; simp, hc.mono hm⟩)
  refine OpRun.value (u := .pointer (some ⟨σ.w.heap.size, 0, none⟩)) (w' := { σ.w with heap := σ.w.heap.push (.cells v.cells T (0, 0)) }) ?_ ⟨_, _, τ, lam, ⟨rfl, rfl⟩, h1, h5, ?_⟩
  · simp [execOp, Instr.alloc, hz1, newVar, newRow, newObj, Sem.run]
  · rw [← h2, hi.hH]
    exact .m (.ref _ 0 ((dcells z).map .d) (by rw [h3]; simp))

theorem op_makeMap {T : Nat} :
    OpT X ⟨dst, .makeMap T none, ty, pos, af, g⟩ st (eqp (.m (.mp st.H.length)) ⟨st.sl, st.bx, st.H ++ [.map []]⟩) := by
  intro a σ lam hi
  obtain ⟨τ, h1, h2, h3, h4, h5⟩ := hi.newObj (.map []) (.map #[] 0) (by
    intro τ hm hw
    exact ⟨#[], 0, by rw [hw]; simp, rfl, by simp⟩)
  refine OpRun.value (u := .map (some σ.w.heap.size)) (w' := { σ.w with heap := σ.w.heap.push (.map #[] 0) }) ?_ ⟨_, _, τ, lam, ⟨rfl, rfl⟩, h1, h5, ?_⟩
  · simp [execOp, Instr.makeMap, newObj, Sem.run]
  · rw [← h2, hi.hH]
    exact .m (.mp _ [] (by rw [h3]; simp))

theorem op_loadR {T : Nat} {x : Operand} {i off : Nat} {cs : List M} {m : M} (hx : st.ev x = some (.m (.ref i off))) (hH : st.H[i]? = some (.box cs)) (hr : readAt X.P T cs off = some m) :
    OpT X ⟨dst, .load T x, ty, pos, af, g⟩ st (eqp (.m m) st) := by
  refine OpT.quiet fun a σ lam hi => ?_
  have h := hi.ev hx
  generalize hu : a.eval x = u at h
  cases h with
  | m h => cases h with
    | ref i off cs' hh =>
      obtain ⟨arr, TT, h3, h4⟩ := hi.hinv.obj i (.box cs) (by rw [hi.hH]; exact hH)
      obtain ⟨v, h5, h6⟩ := loadM_run hr h3 (by rw [h4.1]; exact Nat.le_refl _) h4.2
      exact ⟨v, by simp [execOp, hu, Instr.loadAt, Instr.sureAddr, h5], .m h6⟩

theorem op_loadW {T : Nat} {x : Operand} {i ver off : Nat} {acc : Bool} {ec : Nat} {cs : List M} {m : M} (hx : st.ev x = some (.m (.rref i ver off))) (hH : st.H[i]? = some (.row acc ec ver cs)) (hr : readAt X.P T cs off = some m) :
    OpT X ⟨dst, .load T x, ty, pos, af, g⟩ st (eqp (.m m) st) := by
  refine OpT.quiet fun a σ lam hi => ?_
  have h := hi.ev hx
  generalize hu : a.eval x = u at h
  cases h with
  | m h => cases h with
    | rref i ver off b hle hcur =>
      have hH' : σ.H[i]? = some (.row acc ec ver cs) := by rw [hi.hH]; exact hH
      have hb := hcur acc ec cs hH'
      subst hb
      obtain ⟨_, arr, TT, cap, n, h3, h4, h5, ⟨h6, _⟩, h7⟩ := hi.hinv.obj i _ hH'
      obtain ⟨v, h8, h9⟩ := loadM_run hr h3 (by rw [h4, h6]; exact Nat.mul_le_mul_right _ h5) h7
      exact ⟨v, by simp [execOp, hu, Instr.loadAt, Instr.sureAddr, h8], .m h9⟩

theorem op_storeR {T n : Nat} {x y : Operand} {i off : Nat} {cs cs' : List M} {m : M} [hs : TySz X.P T n] (hx : st.ev x = some (.m (.ref i off))) (hy : st.ev y = some (.m m)) (hH : st.H[i]? = some (.box cs))
    (hn : (cellsOf m).length = n) (hok : m.okc = true) (hw : writeAt cs off (cellsOf m) = some cs') :
    OpT X ⟨dst, .store T x y, ty, pos, af, g⟩ st (eqp (.m .undef) ⟨st.sl, st.bx, st.H.set i (.box cs')⟩) := by
  intro a σ lam hi
  have h := hi.ev hx
  have h2 := hi.ev hy
  generalize hu : a.eval x = u at h
  cases h with
  | m h => cases h with
    | ref i off cs0 hh =>
      cases h2 with
      | m h2 =>
        have hH' : σ.H[i]? = some (.box cs) := by rw [hi.hH]; exact hH
        obtain ⟨arr, TT, h3, h4⟩ := hi.hinv.obj i _ hH'
        have hc := h2.cells hok
        obtain ⟨h5, h6, h7⟩ := h4.write hc hw
        have hsz : (a.eval y).cells.size = n := by rw [hc.1, hn]
        have hrun := storeVar_run (P := X.P) (t := T) (off := off) h3 (by rw [hs.size, hsz]) (by rw [h4.1, hc.1]; exact h6) hc.flat
        have hlt := lt_of_heap h3
        obtain ⟨τ, g1, g2, g3, g4, g5⟩ := hi.updObj (j := i) (b' := σ.l i) (ob := .box cs) (ob' := .box cs') (w' := setBlk σ.w (σ.l i) (.cells (arrWrite arr off (a.eval y).cells.toList) TT (0, 0))) hH trivial rfl rfl rfl (by rw [setBlk_size]; exact Nat.le_refl _)
          (fun c _ hc => setBlk_ne hc) (.inl rfl) (fun o v ho => (ho trivial).elim) rfl (by
            intro τ hm hw _ _
            exact ⟨_, TT, by rw [hw]; exact setBlk_get hlt, h5.mono hm⟩)
        refine OpRun.skip (by simp only [execOp, hu, Instr.storeAt, Instr.sureAddr]; simp [hrun]; rfl) ?_
        exact ⟨.m .undef, _, τ, lam, ⟨rfl, rfl⟩, g1, g5, .m (.undef _)⟩

/-- prefix of a row, written over -/
theorem row_write {σ : Sg} {cs new cs' : List M} {arr : Array Value} {vs : Array Value} {off : Nat} (hle : cs.length ≤ arr.size) (h : ∀ (i : Nat) (m : M) (v : Value), cs[i]? = some m → arr[i]? = some v → RM σ m v ∧ flat v = true)
    (hn : RMc σ new vs) (hw : writeAt cs off new = some cs') :
    (∀ (i : Nat) (m : M) (v : Value), cs'[i]? = some m → (arrWrite arr off vs.toList)[i]? = some v → RM σ m v ∧ flat v = true) ∧ off + new.length ≤ cs.length ∧ cs'.length = cs.length := by
  have hpre : RMc σ cs (arr.extract 0 cs.length) := by
    refine ⟨by simp; omega, fun i m v hm hv => ?_⟩
    rw [Array.getElem?_extract] at hv
    split at hv
    · simp at hv; exact h i m v hm hv
    · cases hv
  obtain ⟨h1, h2, h3⟩ := hpre.write hn hw
  refine ⟨fun i m v hm hv => ?_, h2, h3⟩
  have hi : i < cs.length := by rw [← h3]; rcases Nat.lt_or_ge i cs'.length with h | h; exact h; simp [List.getElem?_eq_none h] at hm
  refine h1.2 i m v hm ?_
  have hl2 := hn.1
  rw [arrWrite_get _ _ _ _ (by simp; omega)] at hv ⊢
  split
  · rename_i hc; rw [if_pos hc] at hv; exact hv
  · rename_i hc; rw [if_neg hc] at hv
    rw [Array.getElem?_extract, if_pos (by omega)]
    simpa using hv

theorem op_storeW {T n : Nat} {x y : Operand} {i ver off ec : Nat} {cs cs' : List M} {m : M} [hs : TySz X.P T n] (hx : st.ev x = some (.m (.rref i ver off))) (hy : st.ev y = some (.m m)) (hH : st.H[i]? = some (.row false ec ver cs))
    (hn : (cellsOf m).length = n) (hok : m.okc = true) (hw : writeAt cs off (cellsOf m) = some cs') :
    OpT X ⟨dst, .store T x y, ty, pos, af, g⟩ st (eqp (.m .undef) ⟨st.sl, st.bx, st.H.set i (.row false ec ver cs')⟩) := by
  intro a σ lam hi
  have h := hi.ev hx
  have h2 := hi.ev hy
  generalize hu : a.eval x = u at h
  cases h with
  | m h => cases h with
    | rref i ver off b hle hcur =>
      cases h2 with
      | m h2 =>
        have hH' : σ.H[i]? = some (.row false ec ver cs) := by rw [hi.hH]; exact hH
        have hb := hcur false ec cs hH'
        subst hb
        obtain ⟨hec, arr, TT, cap, nn, h3, h4, h5, ⟨h6, hmax⟩, h7⟩ := hi.hinv.obj i _ hH'
        have hc := h2.cells hok
        have hle2 : cs.length ≤ arr.size := by rw [h4, h6]; exact Nat.mul_le_mul_right _ h5
        obtain ⟨k1, k2, k3⟩ := row_write hle2 h7 hc hw
        have hsz : (a.eval y).cells.size = n := by rw [hc.1, hn]
        have hrun := storeVar_run (P := X.P) (t := T) (off := off) h3 (by rw [hs.size, hsz]) (by rw [hc.1]; omega) hc.flat
        have hlt := lt_of_heap h3
        obtain ⟨τ, g1, g2, g3, g4, g5⟩ := hi.updObj (j := i) (b' := σ.l i) (ob := .row false ec ver cs) (ob' := .row false ec ver cs') (w' := setBlk σ.w (σ.l i) (.cells (arrWrite arr off (a.eval y).cells.toList) TT (0, 0))) hH trivial rfl rfl rfl (by rw [setBlk_size]; exact Nat.le_refl _)
          (fun c _ hc => setBlk_ne hc) (.inl rfl) (fun o v ho => (ho (.inl rfl)).elim) ⟨rfl, .inr ⟨rfl, k3, rfl, fun ar T' ha => by
            rw [h3] at ha; injection ha with ha; injection ha with e1 e2; subst e1; subst e2
            exact ⟨_, setBlk_get hlt, arrWrite_size _ _ _⟩⟩⟩ (by
            intro τ hm hw _ _
            exact ⟨hec, _, TT, cap, nn, by rw [hw]; exact setBlk_get hlt, by rw [arrWrite_size]; exact h4, h5, ⟨by rw [k3]; exact h6, hmax⟩, fun i m v a b => ⟨(k1 i m v a b).1.mono hm, (k1 i m v a b).2⟩⟩)
        refine OpRun.skip (by simp only [execOp, hu, Instr.storeAt, Instr.sureAddr]; simp [hrun]; rfl) ?_
        exact ⟨.m .undef, _, τ, lam, ⟨rfl, rfl⟩, g1, g5, .m (.undef _)⟩

theorem op_indexR {t e ec : Nat} {x y : Operand} {j ver len : Nat} {acc : Bool} {cs : List M} {k : IntKind} {i : Int} [ht : TySlice X.P t e] [hs : TySz X.P e ec] (hx : st.ev x = some (.m (.rsl j ver len))) (hy : st.ev y = some (.m (.d (.int k i))))
    (hH : st.H[j]? = some (.row acc ec ver cs)) (h0 : 0 ≤ i) (hlt : i < len) :
    OpT X ⟨dst, .indexAddr t x y, ty, pos, af, g⟩ st (eqp (.m (.rref j ver (i.toNat * ec))) st) := by
  refine OpT.quiet fun a σ lam hi => ?_
  have h := hi.ev hx
  have h2 := hi.evint hy
  generalize hu : a.eval x = u at h
  cases h with
  | m h => cases h with
    | rsl j ver len ad cap hle hcur =>
      have hH' : σ.H[j]? = some (.row acc ec ver cs) := by rw [hi.hH]; exact hH
      obtain ⟨e1, e2, arr, TT, e3, e4⟩ := hcur acc ec cs hH'
      subst e1
      refine ⟨.pointer (some ⟨σ.l j, i.toNat * ec, none⟩), ?_, .m (.rref j ver _ _ hle fun _ _ _ _ => rfl)⟩
      simp [execOp, hu, h2, Instr.indexAt, asIntOf, underlying, program, Sem.run, ht.u, size_run hs.size, h0, hlt, addr_add]

theorem op_lenR {t e : Nat} {x : Operand} {j ver len : Nat} [ht : TySlice X.P t e] (hx : st.ev x = some (.m (.rsl j ver len))) :
    OpT X ⟨dst, .call ⟨.builtin .len, #[x], #[t]⟩, ty, pos, af, g⟩ st (eqp (.m (.d (.int .i64 len))) st) := by
  refine OpT.quiet fun a σ lam hi => ?_
  have h := hi.ev hx
  generalize hu : a.eval x = u at h
  refine ⟨.int .i64 len, ?_, .m (.d (.int _ _))⟩
  cases h with
  | m h => cases h with
    | rsl j ver len ad cap hle hcur =>
      simp [execOp, resolve, invoke, builtin, Builtin.len_, underlying, program, Sem.run, ht.u, hu, goInt]

end ops
end Go.Mt
