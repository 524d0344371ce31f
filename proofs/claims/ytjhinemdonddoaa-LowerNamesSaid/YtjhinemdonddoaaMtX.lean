import Derived.Test.YtjhinemdonddoaaMtW
import Derived.Test.YtjhinemdonddoaaMtV
set_option linter.unusedVariables false
namespace Go.Mt
section ops
variable {X : Ctx} {st : St} {dst : Option Nat} {ty : Nat} {pos : String} {af : Array Edge} {g : Option (Nat × Bool)}

/-- the room of a slice without elements -/
theorem op_cap0 {t e : Nat} {x : Operand} (hx : st.ev x = some (.m (.d (.sl [])))) [ht : TySlice X.P t e] :
    OpT X ⟨dst, .call ⟨.builtin .cap, #[x], #[t]⟩, ty, pos, af, g⟩ st (eqp (.m (.d (.int .i64 0))) st) := by
  refine OpT.quiet fun a σ lam hi => ?_
  have h := hi.evd hx
  generalize hu : a.eval x = u at h
  refine ⟨.int .i64 0, ?_, .m (.d (.int _ _))⟩
  cases h with
  | slnil a => simp [execOp, resolve, invoke, builtin, Builtin.cap_, underlying, program, Sem.run, ht.u, hu, goInt]
  | sl rows b o cap ec val h0 hcap hmax hec hcell hflat hrep => exact absurd rfl h0

/-- a part of a slice without elements -/
theorem op_slice0 {t e n : Nat} {x y : Operand} {k : IntKind} (hx : st.ev x = some (.m (.d (.sl [])))) (hy : st.ev y = some (.m (.d (.int k 0)))) [ht : TySlice X.P t e] [hs : TySz X.P e n] :
    OpT X ⟨dst, .slice t x none (some y) none, ty, pos, af, g⟩ st (eqp (.m (.d (.sl []))) st) := by
  refine OpT.quiet fun a σ lam hi => ?_
  have h := hi.evd hx
  have h2 := hi.evint hy
  generalize hu : a.eval x = u at h
  cases h with
  | slnil ad =>
    refine ⟨.slice ad 0 0, ?_, .m (.d (.slnil _))⟩
    have hund : ∀ w : World, (underlying t).run X.P w = .ok (.slice e) w := fun w => by simp [underlying, program, Sem.run, ht.u]
    simp [execOp, Instr.sliceAt, Instr.slice, hund, hu, h2, Instr.sliceBounds, Instr.sliceBound, asIntOf, size_run hs.size]
  | sl rows b o cap ec val h0 hcap hmax hec hcell hflat hrep => exact absurd rfl h0

/-- append of nothing to nothing -/
theorem op_append00 {T e n : Nat} {x y : Operand} [ht : TySlice X.P T e] [hs : TySz X.P e n]
    (hx : st.ev x = some (.m (.d (.sl [])))) (hy : st.ev y = some (.m (.d (.sl [])))) :
    OpT X ⟨dst, .call ⟨.builtin .append, #[x, y], #[T, T]⟩, ty, pos, af, g⟩ st (eqp (.m (.d (.sl []))) st) := by
  refine OpT.quiet fun a σ lam hi => ?_
  have h1 := hi.evd hx
  have h2 := hi.evd hy
  generalize hu : a.eval x = u at h1
  generalize hw : a.eval y = wv at h2
  cases h1 with
  | sl rows b o cap ec val h0 hcap hmax hec hcell hflat hrep => exact absurd rfl h0
  | slnil ad =>
    cases h2 with
    | sl rows b o cap ec val h0 hcap hmax hec hcell hflat hrep => exact absurd rfl h0
    | slnil bd =>
      refine ⟨.slice ad 0 0, ?_, .m (.d (.slnil _))⟩
      have hund : ∀ w : World, (underlying T).run X.P w = .ok (.slice e) w := fun w => by simp [underlying, program, Sem.run, ht.u]
      have hold : ∀ w : World, (Builtin.firstCells n 0 (.slice bd 0 0)).run X.P w = .ok #[] w := by
        intro w; cases bd <;> simp [Builtin.firstCells, loadCells, loadCellsFrom]
      have hlen : ∀ w : World, (Builtin.lenOf (.slice bd 0 0)).run X.P w = .ok 0 w := by intro w; simp [Builtin.lenOf]
      simp only [execOp, resolve, invoke, builtin, Builtin.append_]
      simp only [Sem.run_bind, Sem.run_pure, Result.andThen_ok, List.map_toArray, List.map_cons, List.map_nil, hu, hw]
      cases ad <;> simp [hund, size_run hs.size, hlen, hold, storeCells]

/-- a front part of a row that is all the heap's own -/
theorem op_sliceR {t e n : Nat} {x y : Operand} {k : IntKind} {i : Int} {j ver len : Nat} {cs : List M} (acc : Bool) (hx : st.ev x = some (.m (.rsl j ver len))) (hy : st.ev y = some (.m (.d (.int k i)))) [ht : TySlice X.P t e] [hs : TySz X.P e n]
    (hH : st.H[j]? = some (.row false n ver cs)) (h0 : 0 ≤ i) (hle : i ≤ len) :
    OpT X ⟨dst, .slice t x none (some y) none, ty, pos, af, g⟩ st (eqp (.m (.rsl j (ver + 1) i.toNat)) ⟨st.sl, st.bx, st.H.set j (.row acc n (ver + 1) (cs.take (i.toNat * n)))⟩) := by
  intro a σ lam hi
  have h1 := hi.ev hx
  have h2 := hi.evint hy
  have hH' : σ.H[j]? = some (.row false n ver cs) := by rw [hi.hH]; exact hH
  obtain ⟨hn', arr, TT, cap0, nn, h3, h4, h5, ⟨h6, hmax0⟩, h7⟩ := hi.hinv.obj j _ hH'
  generalize hu : a.eval x = u at h1
  cases h1 with
  | m h1 => cases h1 with
    | rsl j ver len ad cap hle' hcur =>
      obtain ⟨e1, e2, arr1, T1, e3, e4⟩ := hcur false n cs hH'
      subst e1
      rw [h3] at e3
      injection e3 with e3; injection e3 with e5 e6
      subst e5; subst e6
      have hcap : cap0 = cap := Nat.eq_of_mul_eq_mul_right hn' (by rw [← h4, ← e4])
      subst hcap
      have hnl : nn = len := Nat.eq_of_mul_eq_mul_right hn' (by rw [← h6, ← e2])
      subst hnl
      have hin : i.toNat ≤ nn := by omega
      have hcl : (cs.take (i.toNat * n)).length = i.toNat * n := by
        rw [List.length_take, e2]; exact Nat.min_eq_left (Nat.mul_le_mul_right _ hin)
      obtain ⟨τ, g1, g2, g3, g4, g5⟩ := hi.updObj (j := j) (b' := σ.l j) (ob := .row false n ver cs) (ob' := .row acc n (ver + 1) (cs.take (i.toNat * n))) (w' := σ.w) hH trivial rfl rfl rfl (Nat.le_refl _)
        (fun c _ _ => rfl) (.inl rfl) (by
          intro o v ho hc
          exact absurd (Or.inl rfl) ho) ⟨rfl, .inl (by omega)⟩ (by
          intro τ hm hw' _ _
          refine ⟨hn', arr, TT, cap0, i.toNat, by rw [hw']; exact h3, h4, by omega, ⟨hcl, by omega⟩, ?_⟩
          intro k m v hm' hv
          have hc : cs[k]? = some m := by
            rw [List.getElem?_take] at hm'
            split at hm'
            · exact hm'
            · cases hm'
          exact ⟨(h7 k m v hc hv).1.mono hm, (h7 k m v hc hv).2⟩)
      refine OpRun.value (u := .slice (some ⟨σ.l j, 0, none⟩) i.toNat cap0) (w' := τ.w) ?_ ⟨_, _, τ, lam, ⟨rfl, rfl⟩, rfl, g5, ?_⟩
      · have hund : ∀ w : World, (underlying t).run X.P w = .ok (.slice e) w := fun w => by simp [underlying, program, Sem.run, ht.u]
        have hb : 0 ≤ i ∧ i ≤ (cap0 : Int) := ⟨h0, by omega⟩
        simp [execOp, Instr.sliceAt, Instr.slice, hund, hu, h2, Instr.sliceBounds, Instr.sliceBound, asIntOf, size_run hs.size, hb, addr_add, g1]
      · refine .m (.rsl j (ver + 1) i.toNat _ cap0 (.inr ⟨acc, n, ver + 1, _, by rw [g3]; exact set_get hH, Nat.le_refl _⟩) ?_)
        intro acc' ec' cs2 hh
        rw [g3] at hh
        have hjl : j < st.H.length := by rcases Nat.lt_or_ge j st.H.length with h | h; exact h; simp [List.getElem?_eq_none h] at hH
        simp [hjl] at hh
        obtain ⟨f1, f2, f3⟩ := hh
        subst f1; subst f2; subst f3
        exact ⟨by rw [g2], hcl, _, TT, by rw [g2, g1]; exact h3, h4⟩
theorem zc_flat {z : Array Value} {n : Nat} (hz : 0 < z.size) (h : ∀ (i : Nat) (v : Value), z[i]? = some v → flat v = true) (i : Nat) (v : Value) (hv : (Builtin.zeroCells z n)[i]? = some v) : flat v = true := by
  have hi : i < n * z.size := by
    rcases Nat.lt_or_ge i (n * z.size) with h1 | h1
    · exact h1
    · rw [Array.getElem?_eq_none (by rw [zeroCells_size]; exact h1)] at hv; cases hv
  have hm : i % z.size < z.size := Nat.mod_lt _ hz
  simp [Builtin.zeroCells, hi, hm] at hv
  exact h (i % z.size) v (by simp [hm, hv])

/-- append of as many zeros to nothing -/
theorem op_appendZ {T U e n nb len : Nat} {x y : Operand} {k : IntKind} {z : D} [ht : TySlice X.P T e] [hu : TyInt X.P U k] [hs : TySz X.P e n] [hb : TyB X.P e nb] [hz : TyZ X.P e z] (hn : Nat.blt 0 n = true) (hzl : (dcells z).length = n)
    (hx : st.ev x = some (.m (.d (.sl [])))) (hy : st.ev y = some (.m (.d (.int k len)))) (hl : 0 < len) (hroom : len * nb ≤ 140737488355328) (hmax : len ≤ 140737488355328) :
    OpT X ⟨dst, .call ⟨.builtin .append, #[x, y], #[T, U]⟩, ty, pos, af, g⟩ st (eqp (.m (.rsl st.H.length 0 len)) ⟨st.sl, st.bx, st.H ++ [.row false n 0 (List.replicate (len * n) .undef)]⟩) := by
  intro a σ lam hi
  have hn' := blt_lt hn
  have h1 := hi.evd hx
  have h2 := hi.evint hy
  obtain ⟨inf, i1, i2, i3⟩ := bytes_run hs.size hb.bytes
  obtain ⟨zv, hz1, hz2⟩ := (tyZero_of hz.zero).run
  have hvc : RMc σ ((dcells z).map .d) zv.cells := (RM.d (dOfVal_rep hz2) : RM σ (.d z) zv).cells rfl
  have hzc : zv.cells.size = n := by rw [hvc.1]; simpa using hzl
  have hzf : ∀ (i : Nat) (v : Value), zv.cells[i]? = some v → flat v = true := by
    intro i v hv
    have hi' : i < zv.cells.size := by rcases Nat.lt_or_ge i zv.cells.size with h | h; exact h; simp [Array.getElem?_eq_none h] at hv
    have hd : i < (dcells z).length := by omega
    exact (hvc.2 i (.d (dcells z)[i]) v (by simp [hd]) hv).2
  generalize hu' : a.eval x = u at h1
  cases h1 with
  | sl rows b o cap ec val h0 hcap hmax hec hcell hflat hrep => exact absurd rfl h0
  | slnil ad =>
    let cap := len + σ.w.tape σ.w.drawn (.appendCap len 0 e) % (2 ^ 63 - len)
    let arr := Builtin.zeroCells zv.cells len ++ Builtin.zeroCells zv.cells (cap - len)
    have hcap : len ≤ cap := Nat.le_add_right _ _
    have harr : arr.size = cap * n := by
      simp only [arr, Array.size_append, zeroCells_size, hzc]
      rw [← Nat.add_mul]; congr 1; omega
    have hd : FInv X { σ with w := σ.w.drew } lam st a := hi.ext (ExtW.drew _)
    have hmd : Mono σ { σ with w := σ.w.drew } := Mono.ext (ExtW.drew _)
    have hrl : (List.replicate (len * n) M.undef).length = len * n := by simp
    obtain ⟨τ, g1, g2, g3, g4, g5⟩ := hd.newObj (.row false n 0 (List.replicate (len * n) .undef)) (.cells arr e (0, 0)) (by
      intro τ hm hw
      refine ⟨hn', arr, e, cap, len, by rw [hw]; exact push_self _ _, harr, hcap, ⟨hrl, hmax⟩, ?_⟩
      intro k m v hm' hv
      have hm2 : m = .undef := by
        rw [List.getElem?_replicate] at hm'
        split at hm'
        · injection hm' with h; exact h.symm
        · cases hm'
      subst hm2
      refine ⟨.undef _, ?_⟩
      simp only [arr, Array.getElem?_append] at hv
      split at hv
      · exact zc_flat (by omega) hzf _ _ hv
      · exact zc_flat (by omega) hzf _ _ hv)
    refine OpRun.value (u := .slice (some ⟨σ.w.heap.size, 0, none⟩) len cap) (w' := τ.w) ?_ ⟨_, _, τ, lam, ⟨rfl, rfl⟩, rfl, g5, ?_⟩
    · have hti : ∀ w : World, (typeInfo e).run X.P w = .ok inf w := fun w => by simp [typeInfo, program, Sem.run, i1]
      have hund : ∀ w : World, (underlying T).run X.P w = .ok (.slice e) w := fun w => by simp [underlying, program, Sem.run, ht.u]
      have hund2 : ∀ w : World, (underlying U).run X.P w = .ok (.int k) w := fun w => by simp [underlying, program, Sem.run, hu.u]
      have hwrap : IntKind.i64.wrap (len : Int) = len := IntWalk.i64_in _ ⟨by omega, by omega⟩
      have hbig : ¬ ((len : Int) * (inf.bytes : Int) > 2 ^ 48) := by
        rw [i3]
        have : ((len * nb : Nat) : Int) ≤ 140737488355328 := by omega
        rw [Int.natCast_mul] at this
        omega
      have hbig' : ¬ (281474976710656 < (len : Int) * (inf.bytes : Int)) := by omega
      have hnneg : ¬ ((len : Int) < 0) := by omega
      have c1 : ¬ len = 0 := by omega
      have c2 : ¬ (9223372036854775807 < ((len : Nat) : Int)) := by omega
      have c3 : ¬ (281474976710656 < Builtin.nextslicecap len 0 * inf.bytes) := by
        rw [i3]
        have h1 := nextcap_le (need := len) (cap := 0) (by omega)
        have := Nat.mul_le_mul_right nb h1
        rw [Nat.mul_assoc] at this
        omega
      have c4 : ¬ len * n = 0 := by
        intro h
        rcases Nat.mul_eq_zero.1 h with h | h <;> omega
      have hold : (Builtin.firstCells n 0 (.slice ad 0 0)).run X.P σ.w.drew = .ok #[] σ.w.drew := by
        cases ad <;> simp [Builtin.firstCells, loadCells, loadCellsFrom]
      have hcut : (Question.appendCap len 0 e).cut (σ.w.tape σ.w.drawn (Question.appendCap len 0 e)) = cap := rfl
      have hforced : (Question.appendCap len 0 e).forced = false := rfl
      simp only [execOp, resolve, invoke, builtin, Builtin.append_]
      simp only [Sem.run_bind, Sem.run_pure, Result.andThen_ok, List.map_toArray, List.map_cons, List.map_nil, hu', h2]
      simp [hund, hund2, hti, size_run hs.size, asInt, asIntOf, hwrap, hbig', hnneg, c1, c2, c3, c4]
      simp only [hforced, if_false, Bool.false_eq_true]
      rw [hold]
      simp only [Result.andThen_ok, hz1, hcut]
      simp [newRow, newObj, Sem.run, g1, arr]
    · have hHe : σ.H.length = st.H.length := by rw [hi.hH]
      have g2' : τ.l st.H.length = σ.w.heap.size := by rw [← hHe]; exact g2
      refine .m (.rsl _ 0 len _ cap (.inr ⟨false, n, 0, List.replicate (len * n) .undef, by rw [g3]; simp, Nat.le_refl _⟩) ?_)
      intro acc' ec' cs' hh
      rw [g3] at hh
      simp at hh
      obtain ⟨e1, e2, e3⟩ := hh
      subst e1; subst e2; subst e3
      exact ⟨by rw [g2'], hrl, arr, e, by rw [g2', g1]; exact push_self _ _, harr⟩
end ops

section walk
variable {X : Ctx} {ops : Array Oper} {rest : List Oper} {post : St → Prop} {sl : List (Nat × V)} {bx : List (Nat × List M)} {H : Hp} {d : Nat} {ty : Nat} {pos : String} {af : Array Edge}
theorem t_cap0 {t e : Nat} {x : Operand} [ht : TySlice X.P t e] (hn : Nat.blt d X.n = true) (hx : evs sl x = some (.m (.d (.sl [])))) (k : TL X ops rest ⟨(d, .m (.d (.int .i64 0))) :: sl, bx, H⟩ post) :
    TL X ops (⟨some d, .call ⟨.builtin .cap, #[x], #[t]⟩, ty, pos, af, none⟩ :: rest) ⟨sl, bx, H⟩ post := TL.o1 rfl rfl hn (op_cap0 hx) k
theorem t_slice0 {t e n : Nat} {x y : Operand} {kk : IntKind} [ht : TySlice X.P t e] [hs : TySz X.P e n] (hn : Nat.blt d X.n = true) (hx : evs sl x = some (.m (.d (.sl [])))) (hy : evs sl y = some (.m (.d (.int kk 0)))) (k : TL X ops rest ⟨(d, .m (.d (.sl []))) :: sl, bx, H⟩ post) :
    TL X ops (⟨some d, .slice t x none (some y) none, ty, pos, af, none⟩ :: rest) ⟨sl, bx, H⟩ post := TL.o1 rfl rfl hn (op_slice0 hx hy) k
theorem t_append00 {T e n : Nat} {x y : Operand} [ht : TySlice X.P T e] [hs : TySz X.P e n] (hn : Nat.blt d X.n = true) (hx : evs sl x = some (.m (.d (.sl [])))) (hy : evs sl y = some (.m (.d (.sl [])))) (k : TL X ops rest ⟨(d, .m (.d (.sl []))) :: sl, bx, H⟩ post) :
    TL X ops (⟨some d, .call ⟨.builtin .append, #[x, y], #[T, T]⟩, ty, pos, af, none⟩ :: rest) ⟨sl, bx, H⟩ post := TL.o1 rfl rfl hn (op_append00 hx hy) k
theorem t_sliceR {t e n : Nat} {x y : Operand} {kk : IntKind} {i : Int} {j ver len : Nat} {cs : List M} (acc : Bool) [ht : TySlice X.P t e] [hs : TySz X.P e n] (hn : Nat.blt d X.n = true) (hx : evs sl x = some (.m (.rsl j ver len))) (hy : evs sl y = some (.m (.d (.int kk i))))
    (hH : H[j]? = some (.row false n ver cs)) (h0 : 0 ≤ i) (hle : i ≤ len) (k : TL X ops rest ⟨(d, .m (.rsl j (ver + 1) i.toNat)) :: sl, bx, H.set j (.row acc n (ver + 1) (cs.take (i.toNat * n)))⟩ post) :
    TL X ops (⟨some d, .slice t x none (some y) none, ty, pos, af, none⟩ :: rest) ⟨sl, bx, H⟩ post := TL.o1 rfl rfl hn (op_sliceR acc hx hy hH h0 hle) k
theorem t_appendZ {T U e n nb len : Nat} {x y : Operand} {kk : IntKind} {z : D} [ht : TySlice X.P T e] [hu : TyInt X.P U kk] [hs : TySz X.P e n] [hb : TyB X.P e nb] [hz : TyZ X.P e z] (hn : Nat.blt d X.n = true) (hx : evs sl x = some (.m (.d (.sl [])))) (hy : evs sl y = some (.m (.d (.int kk len))))
    (h0 : Nat.blt 0 n = true) (hzl : (dcells z).length = n) (hl : 0 < len) (hroom : len * nb ≤ 140737488355328) (hmax : len ≤ 140737488355328) (k : TL X ops rest ⟨(d, .m (.rsl H.length 0 len)) :: sl, bx, H ++ [.row false n 0 (List.replicate (len * n) .undef)]⟩ post) :
    TL X ops (⟨some d, .call ⟨.builtin .append, #[x, y], #[T, U]⟩, ty, pos, af, none⟩ :: rest) ⟨sl, bx, H⟩ post := TL.o1 rfl rfl hn (op_appendZ h0 hzl hx hy hl hroom hmax) k
end walk
end Go.Mt
