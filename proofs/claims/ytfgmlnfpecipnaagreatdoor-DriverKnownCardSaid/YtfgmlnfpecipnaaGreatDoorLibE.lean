/- Part of a library of triples over an abstract heap, and of a reckoner that is proved sound over it. -/
import Derived.Test.YtfgmlnfpecipnaaGreatDoorLibD
set_option linter.unusedVariables false
namespace Go.Mt
section ops
variable {X : Ctx} {st : St} {dst : Option Nat} {ty : Nat} {pos : String} {af : Array Edge} {g : Option (Nat × Bool)}

/-- the room of a slice without elements -/
theorem op_cap0 {t e : Nat} {x : Operand} (hx : st.ev x = some (.m (.d (.sl [])))) [ht : TySlice X.P t e] :
    OpT X ⟨dst, .call ⟨.builtin .cap, #[x], #[t]⟩, ty, pos, af, g⟩ st (eqp (.m (.d (.int .i64 0))) st) := by
  refine OpT.quiet fun a σ lam hi => ?_
  have h := hi.evd hx
  generalize hu : a.eval x = u at h
  refine ⟨.int .i64 0, ?_, .m (.d (.int _ _))⟩
  cases h with
  | slnil a => simp [execOp, resolve, invoke, builtin, Builtin.cap_, underlying, program, Sem.run, ht.u, hu, goInt]
  | sl rows b o cap ec val h0 hcap hmax hec hcell hflat hrep => exact absurd rfl h0

/-- a part of a slice without elements -/
theorem op_slice0 {t e n : Nat} {x y : Operand} {k : IntKind} (hx : st.ev x = some (.m (.d (.sl [])))) (hy : st.ev y = some (.m (.d (.int k 0)))) [ht : TySlice X.P t e] [hs : TySz X.P e n] :
    OpT X ⟨dst, .slice t x none (some y) none, ty, pos, af, g⟩ st (eqp (.m (.d (.sl []))) st) := by
  refine OpT.quiet fun a σ lam hi => ?_
  have h := hi.evd hx
  have h2 := hi.evint hy
  generalize hu : a.eval x = u at h
  cases h with
  | slnil ad =>
    refine ⟨.slice ad 0 0, ?_, .m (.d (.slnil _))⟩
    have hund : ∀ w : World, (underlying t).run X.P w = .ok (.slice e) w := fun w => by simp [underlying, program, Sem.run, ht.u]
    simp [execOp, Instr.sliceAt, Instr.slice, hund, hu, h2, Instr.sliceBounds, Instr.sliceBound, asIntOf, size_run hs.size]
  | sl rows b o cap ec val h0 hcap hmax hec hcell hflat hrep => exact absurd rfl h0

/-- append of nothing to nothing -/
theorem op_append00 {T e n : Nat} {x y : Operand} [ht : TySlice X.P T e] [hs : TySz X.P e n]
    (hx : st.ev x = some (.m (.d (.sl [])))) (hy : st.ev y = some (.m (.d (.sl [])))) :
    OpT X ⟨dst, .call ⟨.builtin .append, #[x, y], #[T, T]⟩, ty, pos, af, g⟩ st (eqp (.m (.d (.sl []))) st) := by
  refine OpT.quiet fun a σ lam hi => ?_
  have h1 := hi.evd hx
  have h2 := hi.evd hy
  generalize hu : a.eval x = u at h1
  generalize hw : a.eval y = wv at h2
  cases h1 with
  | sl rows b o cap ec val h0 hcap hmax hec hcell hflat hrep => exact absurd rfl h0
  | slnil ad =>
    cases h2 with
    | sl rows b o cap ec val h0 hcap hmax hec hcell hflat hrep => exact absurd rfl h0
    | slnil bd =>
      refine ⟨.slice ad 0 0, ?_, .m (.d (.slnil _))⟩
      have hund : ∀ w : World, (underlying T).run X.P w = .ok (.slice e) w := fun w => by simp [underlying, program, Sem.run, ht.u]
      have hold : ∀ w : World, (Builtin.firstCells n 0 (.slice bd 0 0)).run X.P w = .ok #[] w := by
        intro w; cases bd <;> simp [Builtin.firstCells, loadCells, loadCellsFrom]
      have hlen : ∀ w : World, (Builtin.lenOf (.slice bd 0 0)).run X.P w = .ok 0 w := by intro w; simp [Builtin.lenOf]
      simp only [execOp, resolve, invoke, builtin, Builtin.append_]
      simp only [Sem.run_bind, Sem.run_pure, Result.andThen_ok, List.map_toArray, List.map_cons, List.map_nil, hu, hw]
      cases ad <;> simp [hund, size_run hs.size, hlen, hold, storeCells]

/-- a front part of a row that is all the heap's own -/
theorem op_sliceR {t e n : Nat} {x y : Operand} {k : IntKind} {i : Int} {j ver len : Nat} {cs : List M} (acc : Bool) (hx : st.ev x = some (.m (.rsl j ver len))) (hy : st.ev y = some (.m (.d (.int k i)))) [ht : TySlice X.P t e] [hs : TySz X.P e n]
    (hH : st.H[j]? = some (.row false n ver cs)) (h0 : 0 ≤ i) (hle : i ≤ len) :
    OpT X ⟨dst, .slice t x none (some y) none, ty, pos, af, g⟩ st (eqp (.m (.rsl j (ver + 1) i.toNat)) ⟨st.sl, st.bx, st.H.set j (.row acc n (ver + 1) (cs.take (i.toNat * n)))⟩) := by
  intro a σ lam hi
  have h1 := hi.ev hx
  have h2 := hi.evint hy
  have hH' : σ.H[j]? = some (.row false n ver cs) := by rw [hi.hH]; exact hH
  obtain ⟨hn', arr, TT, cap0, nn, h3, h4, h5, ⟨h6, hmax0⟩, h7⟩ := hi.hinv.obj j _ hH'
  generalize hu : a.eval x = u at h1
  cases h1 with
  | m h1 => cases h1 with
    | rsl j ver len ad cap hle' hcur =>
      obtain ⟨e1, e2, arr1, T1, e3, e4⟩ := hcur false n cs hH'
      subst e1
      rw [h3] at e3
      injection e3 with e3; injection e3 with e5 e6
      subst e5; subst e6
      have hcap : cap0 = cap := Nat.eq_of_mul_eq_mul_right hn' (by rw [← h4, ← e4])
      subst hcap
      have hnl : nn = len := Nat.eq_of_mul_eq_mul_right hn' (by rw [← h6, ← e2])
      subst hnl
      have hin : i.toNat ≤ nn := by omega
      have hcl : (cs.take (i.toNat * n)).length = i.toNat * n := by
        rw [List.length_take, e2]; exact Nat.min_eq_left (Nat.mul_le_mul_right _ hin)
      obtain ⟨τ, g1, g2, g3, g4, g5⟩ := hi.updObj (j := j) (b' := σ.l j) (ob := .row false n ver cs) (ob' := .row acc n (ver + 1) (cs.take (i.toNat * n))) (w' := σ.w) hH trivial rfl rfl rfl (Nat.le_refl _)
        (fun c _ _ => rfl) (.inl rfl) (by
          intro o v ho hc
          exact absurd (Or.inl rfl) ho) ⟨rfl, .inl (by omega)⟩ (by
          intro τ hm hw' _ _
          refine ⟨hn', arr, TT, cap0, i.toNat, by rw [hw']; exact h3, h4, by omega, ⟨hcl, by omega⟩, ?_⟩
          intro k m v hm' hv
          have hc : cs[k]? = some m := by
            rw [List.getElem?_take] at hm'
            split at hm'
            · exact hm'
            · cases hm'
          exact ⟨(h7 k m v hc hv).1.mono hm, (h7 k m v hc hv).2⟩)
      refine OpRun.value (u := .slice (some ⟨σ.l j, 0, none⟩) i.toNat cap0) (w' := τ.w) ?_ ⟨_, _, τ, lam, ⟨rfl, rfl⟩, rfl, g5, ?_⟩
      · have hund : ∀ w : World, (underlying t).run X.P w = .ok (.slice e) w := fun w => by simp [underlying, program, Sem.run, ht.u]
        have hb : 0 ≤ i ∧ i ≤ (cap0 : Int) := ⟨h0, by omega⟩
        simp [execOp, Instr.sliceAt, Instr.slice, hund, hu, h2, Instr.sliceBounds, Instr.sliceBound, asIntOf, size_run hs.size, hb, addr_add, g1]
      · refine .m (.rsl j (ver + 1) i.toNat _ cap0 (.inr ⟨acc, n, ver + 1, _, by rw [g3]; exact set_get hH, Nat.le_refl _⟩) ?_)
        intro acc' ec' cs2 hh
        rw [g3] at hh
        have hjl : j < st.H.length := by rcases Nat.lt_or_ge j st.H.length with h | h; exact h; simp [List.getElem?_eq_none h] at hH
        simp [hjl] at hh
        obtain ⟨f1, f2, f3⟩ := hh
        subst f1; subst f2; subst f3
        exact ⟨by rw [g2], hcl, _, TT, by rw [g2, g1]; exact h3, h4⟩
theorem zc_flat {z : Array Value} {n : Nat} (hz : 0 < z.size) (h : ∀ (i : Nat) (v : Value), z[i]? = some v → flat v = true) (i : Nat) (v : Value) (hv : (Builtin.zeroCells z n)[i]? = some v) : flat v = true := by
  have hi : i < n * z.size := by
    rcases Nat.lt_or_ge i (n * z.size) with h1 | h1
    · exact h1
    · rw [Array.getElem?_eq_none (by rw [zeroCells_size]; exact h1)] at hv; cases hv
  have hm : i % z.size < z.size := Nat.mod_lt _ hz
  simp [Builtin.zeroCells, hi, hm] at hv
  exact h (i % z.size) v (by simp [hm, hv])

/-- append of as many zeros to nothing -/
theorem op_appendZ {T U e n nb len : Nat} {x y : Operand} {k : IntKind} {z : D} [ht : TySlice X.P T e] [hu : TyInt X.P U k] [hs : TySz X.P e n] [hb : TyB X.P e nb] [hz : TyZ X.P e z] (hn : Nat.blt 0 n = true) (hzl : (dcells z).length = n)
    (hx : st.ev x = some (.m (.d (.sl [])))) (hy : st.ev y = some (.m (.d (.int k len)))) (hl : 0 < len) (hroom : len * nb ≤ 140737488355328) (hmax : len ≤ 140737488355328) :
    OpT X ⟨dst, .call ⟨.builtin .append, #[x, y], #[T, U]⟩, ty, pos, af, g⟩ st (eqp (.m (.rsl st.H.length 0 len)) ⟨st.sl, st.bx, st.H ++ [.row false n 0 (List.replicate (len * n) .undef)]⟩) := by
  intro a σ lam hi
  have hn' := blt_lt hn
  have h1 := hi.evd hx
  have h2 := hi.evint hy
  obtain ⟨inf, i1, i2, i3⟩ := bytes_run hs.size hb.bytes
  obtain ⟨zv, hz1, hz2⟩ := (tyZero_of hz.zero).run
  have hvc : RMc σ ((dcells z).map .d) zv.cells := (RM.d (dOfVal_rep hz2) : RM σ (.d z) zv).cells rfl
  have hzc : zv.cells.size = n := by rw [hvc.1]; simpa using hzl
  have hzf : ∀ (i : Nat) (v : Value), zv.cells[i]? = some v → flat v = true := by
    intro i v hv
    have hi' : i < zv.cells.size := by rcases Nat.lt_or_ge i zv.cells.size with h | h; exact h; simp [Array.getElem?_eq_none h] at hv
    have hd : i < (dcells z).length := by omega
    exact (hvc.2 i (.d (dcells z)[i]) v (by simp [hd]) hv).2
  generalize hu' : a.eval x = u at h1
  cases h1 with
  | sl rows b o cap ec val h0 hcap hmax hec hcell hflat hrep => exact absurd rfl h0
  | slnil ad =>
    let cap := len + σ.w.tape σ.w.drawn (.appendCap len 0 e) % (2 ^ 63 - len)
    let arr := Builtin.zeroCells zv.cells len ++ Builtin.zeroCells zv.cells (cap - len)
    have hcap : len ≤ cap := Nat.le_add_right _ _
    have harr : arr.size = cap * n := by
      simp only [arr, Array.size_append, zeroCells_size, hzc]
      rw [← Nat.add_mul]; congr 1; omega
    have hd : FInv X { σ with w := σ.w.drew } lam st a := hi.ext (ExtW.drew _)
    have hmd : Mono σ { σ with w := σ.w.drew } := Mono.ext (ExtW.drew _)
    have hrl : (List.replicate (len * n) M.undef).length = len * n := by simp
    obtain ⟨τ, g1, g2, g3, g4, g5⟩ := hd.newObj (.row false n 0 (List.replicate (len * n) .undef)) (.cells arr e (0, 0)) (by
      intro τ hm hw
      refine ⟨hn', arr, e, cap, len, by rw [hw]; exact push_self _ _, harr, hcap, ⟨hrl, hmax⟩, ?_⟩
      intro k m v hm' hv
      have hm2 : m = .undef := by
        rw [List.getElem?_replicate] at hm'
        split at hm'
        · injection hm' with h; exact h.symm
        · cases hm'
      subst hm2
      refine ⟨.undef _, ?_⟩
      simp only [arr, Array.getElem?_append] at hv
      split at hv
      · exact zc_flat (by omega) hzf _ _ hv
      · exact zc_flat (by omega) hzf _ _ hv)
    refine OpRun.value (u := .slice (some ⟨σ.w.heap.size, 0, none⟩) len cap) (w' := τ.w) ?_ ⟨_, _, τ, lam, ⟨rfl, rfl⟩, rfl, g5, ?_⟩
    · have hti : ∀ w : World, (typeInfo e).run X.P w = .ok inf w := fun w => by simp [typeInfo, program, Sem.run, i1]
      have hund : ∀ w : World, (underlying T).run X.P w = .ok (.slice e) w := fun w => by simp [underlying, program, Sem.run, ht.u]
      have hund2 : ∀ w : World, (underlying U).run X.P w = .ok (.int k) w := fun w => by simp [underlying, program, Sem.run, hu.u]
      have hwrap : IntKind.i64.wrap (len : Int) = len := IntWalk.i64_in _ ⟨by omega, by omega⟩
      have hbig : ¬ ((len : Int) * (inf.bytes : Int) > 2 ^ 48) := by
        rw [i3]
        have : ((len * nb : Nat) : Int) ≤ 140737488355328 := by omega
        rw [Int.natCast_mul] at this
        omega
      have hbig' : ¬ (281474976710656 < (len : Int) * (inf.bytes : Int)) := by omega
      have hnneg : ¬ ((len : Int) < 0) := by omega
      have c1 : ¬ len = 0 := by omega
      have c2 : ¬ (9223372036854775807 < ((len : Nat) : Int)) := by omega
      have c3 : ¬ (281474976710656 < Builtin.nextslicecap len 0 * inf.bytes) := by
        rw [i3]
        have h1 := nextcap_le (need := len) (cap := 0) (by omega)
        have := Nat.mul_le_mul_right nb h1
        rw [Nat.mul_assoc] at this
        omega
      have c4 : ¬ len * n = 0 := by
        intro h
        rcases Nat.mul_eq_zero.1 h with h | h <;> omega
      have hold : (Builtin.firstCells n 0 (.slice ad 0 0)).run X.P σ.w.drew = .ok #[] σ.w.drew := by
        cases ad <;> simp [Builtin.firstCells, loadCells, loadCellsFrom]
      have hcut : (Question.appendCap len 0 e).cut (σ.w.tape σ.w.drawn (Question.appendCap len 0 e)) = cap := rfl
      have hforced : (Question.appendCap len 0 e).forced = false := rfl
      simp only [execOp, resolve, invoke, builtin, Builtin.append_]
      simp only [Sem.run_bind, Sem.run_pure, Result.andThen_ok, List.map_toArray, List.map_cons, List.map_nil, hu', h2]
      simp [hund, hund2, hti, size_run hs.size, asInt, asIntOf, hwrap, hbig', hnneg, c1, c2, c3, c4]
      simp only [hforced, if_false, Bool.false_eq_true]
      rw [hold]
      simp only [Result.andThen_ok, hz1, hcut]
      simp [newRow, newObj, Sem.run, g1, arr]
    · have hHe : σ.H.length = st.H.length := by rw [hi.hH]
      have g2' : τ.l st.H.length = σ.w.heap.size := by rw [← hHe]; exact g2
      refine .m (.rsl _ 0 len _ cap (.inr ⟨false, n, 0, List.replicate (len * n) .undef, by rw [g3]; simp, Nat.le_refl _⟩) ?_)
      intro acc' ec' cs' hh
      rw [g3] at hh
      simp at hh
      obtain ⟨e1, e2, e3⟩ := hh
      subst e1; subst e2; subst e3
      exact ⟨by rw [g2'], hrl, arr, e, by rw [g2', g1]; exact push_self _ _, harr⟩
end ops

section walk
variable {X : Ctx} {ops : Array Oper} {rest : List Oper} {post : St → Prop} {sl : List (Nat × V)} {bx : List (Nat × List M)} {H : Hp} {d : Nat} {ty : Nat} {pos : String} {af : Array Edge}
theorem t_cap0 {t e : Nat} {x : Operand} [ht : TySlice X.P t e] (hn : Nat.blt d X.n = true) (hx : evs sl x = some (.m (.d (.sl [])))) (k : TL X ops rest ⟨(d, .m (.d (.int .i64 0))) :: sl, bx, H⟩ post) :
    TL X ops (⟨some d, .call ⟨.builtin .cap, #[x], #[t]⟩, ty, pos, af, none⟩ :: rest) ⟨sl, bx, H⟩ post := TL.o1 rfl rfl hn (op_cap0 hx) k
theorem t_slice0 {t e n : Nat} {x y : Operand} {kk : IntKind} [ht : TySlice X.P t e] [hs : TySz X.P e n] (hn : Nat.blt d X.n = true) (hx : evs sl x = some (.m (.d (.sl [])))) (hy : evs sl y = some (.m (.d (.int kk 0)))) (k : TL X ops rest ⟨(d, .m (.d (.sl []))) :: sl, bx, H⟩ post) :
    TL X ops (⟨some d, .slice t x none (some y) none, ty, pos, af, none⟩ :: rest) ⟨sl, bx, H⟩ post := TL.o1 rfl rfl hn (op_slice0 hx hy) k
theorem t_append00 {T e n : Nat} {x y : Operand} [ht : TySlice X.P T e] [hs : TySz X.P e n] (hn : Nat.blt d X.n = true) (hx : evs sl x = some (.m (.d (.sl [])))) (hy : evs sl y = some (.m (.d (.sl [])))) (k : TL X ops rest ⟨(d, .m (.d (.sl []))) :: sl, bx, H⟩ post) :
    TL X ops (⟨some d, .call ⟨.builtin .append, #[x, y], #[T, T]⟩, ty, pos, af, none⟩ :: rest) ⟨sl, bx, H⟩ post := TL.o1 rfl rfl hn (op_append00 hx hy) k
theorem t_sliceR {t e n : Nat} {x y : Operand} {kk : IntKind} {i : Int} {j ver len : Nat} {cs : List M} (acc : Bool) [ht : TySlice X.P t e] [hs : TySz X.P e n] (hn : Nat.blt d X.n = true) (hx : evs sl x = some (.m (.rsl j ver len))) (hy : evs sl y = some (.m (.d (.int kk i))))
    (hH : H[j]? = some (.row false n ver cs)) (h0 : 0 ≤ i) (hle : i ≤ len) (k : TL X ops rest ⟨(d, .m (.rsl j (ver + 1) i.toNat)) :: sl, bx, H.set j (.row acc n (ver + 1) (cs.take (i.toNat * n)))⟩ post) :
    TL X ops (⟨some d, .slice t x none (some y) none, ty, pos, af, none⟩ :: rest) ⟨sl, bx, H⟩ post := TL.o1 rfl rfl hn (op_sliceR acc hx hy hH h0 hle) k
theorem t_appendZ {T U e n nb len : Nat} {x y : Operand} {kk : IntKind} {z : D} [ht : TySlice X.P T e] [hu : TyInt X.P U kk] [hs : TySz X.P e n] [hb : TyB X.P e nb] [hz : TyZ X.P e z] (hn : Nat.blt d X.n = true) (hx : evs sl x = some (.m (.d (.sl [])))) (hy : evs sl y = some (.m (.d (.int kk len))))
    (h0 : Nat.blt 0 n = true) (hzl : (dcells z).length = n) (hl : 0 < len) (hroom : len * nb ≤ 140737488355328) (hmax : len ≤ 140737488355328) (k : TL X ops rest ⟨(d, .m (.rsl H.length 0 len)) :: sl, bx, H ++ [.row false n 0 (List.replicate (len * n) .undef)]⟩ post) :
    TL X ops (⟨some d, .call ⟨.builtin .append, #[x, y], #[T, U]⟩, ty, pos, af, none⟩ :: rest) ⟨sl, bx, H⟩ post := TL.o1 rfl rfl hn (op_appendZ h0 hzl hx hy hl hroom hmax) k
end walk
end Go.Mt

set_option linter.unusedVariables false
namespace Go.Mt

/-- refers to objects below n alone -/
inductive MB (n : Nat) : M → Prop where
  | d (x : D) : MB n (.d x)
  | ref (i off : Nat) (h : i < n) : MB n (.ref i off)
  | rsl (i ver len : Nat) (h : i < n) : MB n (.rsl i ver len)
  | rref (i ver off : Nat) (h : i < n) : MB n (.rref i ver off)
  | mp (i : Nat) (h : i < n) : MB n (.mp i)
  | it (i : Nat) (h : i < n) : MB n (.it i)
  | agg (cs : List M) (h : ∀ m ∈ cs, MB n m) : MB n (.agg cs)
  | fn (f : Nat) (cs : List M) (h : ∀ m ∈ cs, MB n m) : MB n (.fn f cs)
  | tup (cs : List M) (h : ∀ m ∈ cs, MB n m) : MB n (.tup cs)
  | undef : MB n .undef
def ObB (n : Nat) : Ob → Prop
  | .box cs => ∀ m ∈ cs, MB n m
  | .row _ _ _ cs => ∀ m ∈ cs, MB n m
  | .map es => ∀ e ∈ es, MB n e.2
  | .iter x => MB n x
  | .dead => True
  | .free => True
def HB (n : Nat) (H : Hp) : Prop := ∀ ob ∈ H, ObB n ob

mutual
def renM (ρ : Nat → Nat) : M → M
  | .d x => .d x
  | .ref i off => .ref (ρ i) off
  | .rsl i ver len => .rsl (ρ i) ver len
  | .rref i ver off => .rref (ρ i) ver off
  | .mp i => .mp (ρ i)
  | .it i => .it (ρ i)
  | .agg cs => .agg (renMs ρ cs)
  | .fn f cs => .fn f (renMs ρ cs)
  | .tup cs => .tup (renMs ρ cs)
  | .undef => .undef
def renMs (ρ : Nat → Nat) : List M → List M
  | [] => []
  | m :: r => renM ρ m :: renMs ρ r
end
theorem renMs_map (ρ : Nat → Nat) (l : List M) : renMs ρ l = l.map (renM ρ) := by induction l with
  | nil => rfl
  | cons a r ih => simp [renMs, ih]
theorem renMs_get (ρ : Nat → Nat) (l : List M) (i : Nat) : (renMs ρ l)[i]? = (l[i]?).map (renM ρ) := by rw [renMs_map]; simp
theorem renMs_length (ρ : Nat → Nat) (l : List M) : (renMs ρ l).length = l.length := by rw [renMs_map]; simp
def renOb (ρ : Nat → Nat) : Ob → Ob
  | .box cs => .box (renMs ρ cs)
  | .row acc ec ver cs => .row acc ec ver (renMs ρ cs)
  | .map es => .map (es.map fun e => (e.1, renM ρ e.2))
  | .iter x => .iter (renM ρ x)
  | .dead => .dead
  | .free => .free
theorem renOb_live (ρ : Nat → Nat) (ob : Ob) : (renOb ρ ob).live ↔ ob.live := by cases ob <;> simp [renOb, Ob.live]
theorem renOb_owns (ρ : Nat → Nat) (ob : Ob) (o : Nat) : (renOb ρ ob).owns o ↔ ob.owns o := by cases ob <;> simp [renOb, Ob.owns, renMs_length]

/-- one view of a world seen in another: the object i of σ is the object ρ i of τ -/
structure Sees (ρ : Nat → Nat) (n : Nat) (σ τ : Sg) : Prop where
  w : σ.w = τ.w
  O : ∀ b o, ¬ σ.O b o → ¬ τ.O b o
  len : ∀ (i : Nat) ob, σ.H[i]? = some ob → i < n
  ob : ∀ (i : Nat) ob, σ.H[i]? = some ob → τ.H[ρ i]? = some (renOb ρ ob)
  l : ∀ (i : Nat) ob, σ.H[i]? = some ob → τ.l (ρ i) = σ.l i

theorem RM.up {ρ : Nat → Nat} {n : Nat} {σ τ : Sg} (hs : Sees ρ n σ τ) {m : M} {v : Value} (h : RM σ m v) : RM τ (renM ρ m) v := by
  induction h with
  | d h => rw [renM]; exact .d (h.mono fun b o v h1 h2 => ⟨by rw [← hs.w]; exact h1, hs.O b o h2⟩)
  | ref i off cs h =>
    rw [renM, ← hs.l i _ h]
    exact .ref (ρ i) off _ (hs.ob i _ h)
  | rsl i ver len a cap hle hcur =>
    rw [renM]
    have hany : ∃ ob, σ.H[i]? = some ob := by
      rcases hle with h | ⟨acc, ec, ver', cs, h, _⟩
      · exact ⟨_, h⟩
      · exact ⟨_, h⟩
    obtain ⟨ob, hob⟩ := hany
    refine .rsl _ ver len a cap ?_ ?_
    · rcases hle with h | ⟨acc, ec, ver', cs, h, h2⟩
      · exact .inl (hs.ob i _ h)
      · exact .inr ⟨acc, ec, ver', _, hs.ob i _ h, h2⟩
    · intro acc ec cs ht
      rw [hs.ob i _ hob] at ht
      injection ht with ht
      cases ob <;> simp only [renOb] at ht <;> cases ht
      obtain ⟨y1, y2, y3⟩ := hcur _ _ _ hob
      rw [hs.l i _ hob, renMs_length, ← hs.w]
      exact ⟨y1, y2, y3⟩
  | rref i ver off b hle hcur =>
    rw [renM]
    have hany : ∃ ob, σ.H[i]? = some ob := by
      rcases hle with h | ⟨acc, ec, ver', cs, h, _⟩
      · exact ⟨_, h⟩
      · exact ⟨_, h⟩
    obtain ⟨ob, hob⟩ := hany
    refine .rref _ ver off b ?_ ?_
    · rcases hle with h | ⟨acc, ec, ver', cs, h, h2⟩
      · exact .inl (hs.ob i _ h)
      · exact .inr ⟨acc, ec, ver', _, hs.ob i _ h, h2⟩
    · intro acc ec cs ht
      rw [hs.ob i _ hob] at ht
      injection ht with ht
      cases ob <;> simp only [renOb] at ht <;> cases ht
      rw [hs.l i _ hob]
      exact hcur _ _ _ hob
  | mp i es h =>
    rw [renM, ← hs.l i _ h]
    exact .mp (ρ i) _ (hs.ob i _ h)
  | it i x h =>
    rw [renM, ← hs.l i _ h]
    exact .it (ρ i) _ (hs.ob i _ h)
  | agg cs vs hl hf h ih =>
    rw [renM]
    refine .agg _ vs (by rw [renMs_length]; exact hl) hf fun i m v hm hv => ?_
    rw [renMs_get] at hm
    obtain ⟨m0, h1, rfl⟩ := Option.map_eq_some_iff.1 hm
    exact ih i m0 v h1 hv
  | fn f cs vs hlt hl h ih =>
    rw [renM]
    refine .fn f _ vs hlt (by rw [renMs_length]; exact hl) fun i m v hm hv => ?_
    rw [renMs_get] at hm
    obtain ⟨m0, h1, rfl⟩ := Option.map_eq_some_iff.1 hm
    exact ih i m0 v h1 hv
  | fnB f g cs vs hg hl h ih =>
    rw [renM]
    refine .fnB f g _ vs hg (by rw [renMs_length]; exact hl) fun i m v hm hv => ?_
    rw [renMs_get] at hm
    obtain ⟨m0, h1, rfl⟩ := Option.map_eq_some_iff.1 hm
    exact ih i m0 v h1 hv
  | tup cs vs hl h ih =>
    rw [renM]
    refine .tup _ vs (by rw [renMs_length]; exact hl) fun i m v hm hv => ?_
    rw [renMs_get] at hm
    obtain ⟨m0, h1, rfl⟩ := Option.map_eq_some_iff.1 hm
    exact ih i m0 v h1 hv
  | undef v => rw [renM]; exact .undef v

/-- the other way round: what is below n -/
structure Hides (ρ : Nat → Nat) (n : Nat) (σ τ : Sg) : Prop where
  w : σ.w = τ.w
  O : ∀ b o, ¬ τ.O b o → ¬ σ.O b o
  has : ∀ i : Nat, i < n → ∃ ob, σ.H[i]? = some ob
  ob : ∀ (i : Nat) ob, σ.H[i]? = some ob → τ.H[ρ i]? = some (renOb ρ ob)
  l : ∀ (i : Nat) ob, σ.H[i]? = some ob → τ.l (ρ i) = σ.l i

theorem RM.down {ρ : Nat → Nat} {n : Nat} {σ τ : Sg} (hs : Hides ρ n σ τ) {m : M} (hb : MB n m) : ∀ {v : Value}, RM τ (renM ρ m) v → RM σ m v := by
  induction hb with
  | d x =>
    intro v h
    rw [renM] at h
    cases h with
    | d h => exact .d (h.mono fun b o v h1 h2 => ⟨by rw [hs.w]; exact h1, hs.O b o h2⟩)
  | ref i off h =>
    intro v hh
    rw [renM] at hh
    obtain ⟨ob, hob⟩ := hs.has i h
    cases hh with
    | ref i' off cs h =>
      rw [hs.ob i _ hob] at h
      injection h with h
      cases ob <;> simp only [renOb] at h <;> cases h
      rw [hs.l i _ hob]
      exact .ref i off _ hob
  | rsl i ver len h =>
    intro v hh
    rw [renM] at hh
    obtain ⟨ob, hob⟩ := hs.has i h
    have hτ := hs.ob i _ hob
    cases hh with
    | rsl i' ver len a cap hle hcur =>
      refine .rsl i ver len a cap ?_ ?_
      · rw [hτ] at hle
        cases ob with
        | dead => exact .inl hob
        | free => rcases hle with h | ⟨acc2, ec2, ver2, cs2, h, h2⟩ <;> simp [renOb] at h
        | row acc ec ver' cs =>
          rcases hle with h | ⟨acc2, ec2, ver2, cs2, h, h2⟩
          · simp [renOb] at h
          · simp only [renOb] at h
            injection h with h; injection h with e1 e2 e3 e4
            exact .inr ⟨acc, ec, ver', cs, hob, by omega⟩
        | box cs => rcases hle with h | ⟨acc2, ec2, ver2, cs2, h, h2⟩ <;> simp [renOb] at h
        | map cs => rcases hle with h | ⟨acc2, ec2, ver2, cs2, h, h2⟩ <;> simp [renOb] at h
        | iter cs => rcases hle with h | ⟨acc2, ec2, ver2, cs2, h, h2⟩ <;> simp [renOb] at h
      · intro acc ec cs ht
        rw [hob] at ht
        injection ht with ht
        subst ht
        obtain ⟨y1, y2, y3⟩ := hcur acc ec (renMs ρ cs) hτ
        rw [hs.l i _ hob] at y1 y3
        rw [renMs_length] at y2
        rw [hs.w]
        exact ⟨y1, y2, y3⟩
  | rref i ver off h =>
    intro v hh
    rw [renM] at hh
    obtain ⟨ob, hob⟩ := hs.has i h
    have hτ := hs.ob i _ hob
    cases hh with
    | rref i' ver off b hle hcur =>
      refine .rref i ver off b ?_ ?_
      · rw [hτ] at hle
        cases ob with
        | dead => exact .inl hob
        | free => rcases hle with h | ⟨acc2, ec2, ver2, cs2, h, h2⟩ <;> simp [renOb] at h
        | row acc ec ver' cs =>
          rcases hle with h | ⟨acc2, ec2, ver2, cs2, h, h2⟩
          · simp [renOb] at h
          · simp only [renOb] at h
            injection h with h; injection h with e1 e2 e3 e4
            exact .inr ⟨acc, ec, ver', cs, hob, by omega⟩
        | box cs => rcases hle with h | ⟨acc2, ec2, ver2, cs2, h, h2⟩ <;> simp [renOb] at h
        | map cs => rcases hle with h | ⟨acc2, ec2, ver2, cs2, h, h2⟩ <;> simp [renOb] at h
        | iter cs => rcases hle with h | ⟨acc2, ec2, ver2, cs2, h, h2⟩ <;> simp [renOb] at h
      · intro acc ec cs ht
        rw [hob] at ht
        injection ht with ht
        subst ht
        rw [← hs.l i _ hob]
        exact hcur acc ec (renMs ρ cs) hτ
  | mp i h =>
    intro v hh
    rw [renM] at hh
    obtain ⟨ob, hob⟩ := hs.has i h
    cases hh with
    | mp i' es h =>
      rw [hs.ob i _ hob] at h
      injection h with h
      cases ob <;> simp only [renOb] at h <;> cases h
      rw [hs.l i _ hob]
      exact .mp i _ hob
  | it i h =>
    intro v hh
    rw [renM] at hh
    obtain ⟨ob, hob⟩ := hs.has i h
    cases hh with
    | it i' x h =>
      rw [hs.ob i _ hob] at h
      injection h with h
      cases ob <;> simp only [renOb] at h <;> cases h
      rw [hs.l i _ hob]
      exact .it i _ hob
  | agg cs h ih =>
    intro v hh
    rw [renM] at hh
    cases hh with
    | agg cs' vs hl hf h2 =>
      refine .agg cs vs (by rw [renMs_length] at hl; exact hl) hf fun i m v hm hv => ?_
      exact ih m (List.mem_of_getElem? hm) (h2 i (renM ρ m) v (by rw [renMs_get, hm]; rfl) hv)
  | fn f cs h ih =>
    intro v hh
    rw [renM] at hh
    cases hh with
    | fn f' cs' vs hlt hl h2 =>
      refine .fn f cs vs hlt (by rw [renMs_length] at hl; exact hl) fun i m v hm hv => ?_
      exact ih m (List.mem_of_getElem? hm) (h2 i (renM ρ m) v (by rw [renMs_get, hm]; rfl) hv)
    | fnB f' g' cs' vs hg hl h2 =>
      refine .fnB f' f cs vs hg (by rw [renMs_length] at hl; exact hl) fun i m v hm hv => ?_
      exact ih m (List.mem_of_getElem? hm) (h2 i (renM ρ m) v (by rw [renMs_get, hm]; rfl) hv)
  | tup cs h ih =>
    intro v hh
    rw [renM] at hh
    cases hh with
    | tup cs' vs hl h2 =>
      refine .tup cs vs (by rw [renMs_length] at hl; exact hl) fun i m v hm hv => ?_
      exact ih m (List.mem_of_getElem? hm) (h2 i (renM ρ m) v (by rw [renMs_get, hm]; rfl) hv)
  | undef => intro v h; exact .undef v

/-- an object, seen from a view to another -/
theorem ObOk.up {ρ : Nat → Nat} {σ τ : Sg} (hw : σ.w = τ.w) (hr : ∀ m v, RM σ m v → RM τ (renM ρ m) v) {b : Nat} {ob : Ob} (h : ObOk σ b ob) : ObOk τ b (renOb ρ ob) := by
  cases ob with
  | box cs =>
    obtain ⟨arr, T, h1, h2, h3⟩ := h
    refine ⟨arr, T, by rw [← hw]; exact h1, by rw [renMs_length]; exact h2, fun i m v hm hv => ?_⟩
    rw [renMs_get] at hm
    obtain ⟨m0, h4, rfl⟩ := Option.map_eq_some_iff.1 hm
    exact ⟨hr _ _ (h3 i m0 v h4 hv).1, (h3 i m0 v h4 hv).2⟩
  | row acc ec ver cs =>
    obtain ⟨h0, arr, T, cap, n, h1, h2, h3, ⟨h4, h5⟩, h6⟩ := h
    refine ⟨h0, arr, T, cap, n, by rw [← hw]; exact h1, h2, h3, ⟨by rw [renMs_length]; exact h4, h5⟩, fun i m v hm hv => ?_⟩
    rw [renMs_get] at hm
    obtain ⟨m0, h7, rfl⟩ := Option.map_eq_some_iff.1 hm
    exact ⟨hr _ _ (h6 i m0 v h7 hv).1, (h6 i m0 v h7 hv).2⟩
  | map es =>
    obtain ⟨ents, c, h1, h2, h3, hbo⟩ := h
    refine ⟨ents, c, by rw [← hw]; exact h1, by simpa using h2, fun i e u he hu => ?_, hbo⟩
    rw [List.getElem?_map] at he
    obtain ⟨e0, h4, rfl⟩ := Option.map_eq_some_iff.1 he
    exact (h3 i e0 u h4 hu).up fun v hv => hr _ _ hv
  | iter x =>
    rcases h with ⟨om, s, se, l, h1, h2⟩ | ⟨k, m, T, h1, h2⟩
    · exact .inl ⟨om, s, se, l, by rw [← hw]; exact h1, h2.imp (fun h => ⟨h.1, hr _ _ h.2⟩) fun h => ⟨hr _ _ h.1, h.2⟩⟩
    · exact .inr ⟨k, m, T, by rw [← hw]; exact h1, hr _ _ h2⟩
  | dead => trivial
  | free => trivial
theorem ObOk.down {ρ : Nat → Nat} {n : Nat} {σ τ : Sg} (hw : σ.w = τ.w) (hr : ∀ m v, MB n m → RM τ (renM ρ m) v → RM σ m v) {b : Nat} {ob : Ob} (hb : ObB n ob) (h : ObOk τ b (renOb ρ ob)) : ObOk σ b ob := by
  cases ob with
  | box cs =>
    obtain ⟨arr, T, h1, h2, h3⟩ := h
    refine ⟨arr, T, by rw [hw]; exact h1, by rw [renMs_length] at h2; exact h2, fun i m v hm hv => ?_⟩
    have h4 := h3 i (renM ρ m) v (by rw [renMs_get, hm]; rfl) hv
    exact ⟨hr _ _ (hb m (List.mem_of_getElem? hm)) h4.1, h4.2⟩
  | row acc ec ver cs =>
    obtain ⟨h0, arr, T, cap, k, h1, h2, h3, ⟨h4, h5⟩, h6⟩ := h
    refine ⟨h0, arr, T, cap, k, by rw [hw]; exact h1, h2, h3, ⟨by rw [renMs_length] at h4; exact h4, h5⟩, fun i m v hm hv => ?_⟩
    have h7 := h6 i (renM ρ m) v (by rw [renMs_get, hm]; rfl) hv
    exact ⟨hr _ _ (hb m (List.mem_of_getElem? hm)) h7.1, h7.2⟩
  | map es =>
    obtain ⟨ents, c, h1, h2, h3, hbo⟩ := h
    refine ⟨ents, c, by rw [hw]; exact h1, by simpa using h2, fun i e u he hu => ?_, hbo⟩
    have h4 := h3 i (e.1, renM ρ e.2) u (by rw [List.getElem?_map, he]; rfl) hu
    exact h4.up fun v hv => hr _ _ (hb e (List.mem_of_getElem? he)) hv
  | iter x =>
    rcases h with ⟨om, s, se, l, h1, h2⟩ | ⟨k, m, T, h1, h2⟩
    · exact .inl ⟨om, s, se, l, by rw [hw]; exact h1, h2.imp (fun h => ⟨h.1, hr _ _ hb h.2⟩) fun h => ⟨hr _ _ hb h.1, h.2⟩⟩
    · exact .inr ⟨k, m, T, by rw [hw]; exact h1, hr _ _ hb h2⟩
  | dead => trivial
  | free => trivial
end Go.Mt

set_option linter.unusedVariables false
namespace Go.Mt

theorem lt_of_get {H : Hp} {i : Nat} {ob : Ob} (h : H[i]? = some ob) : i < H.length := by
  rcases Nat.lt_or_ge i H.length with h1 | h1
  · exact h1
  · simp [List.getElem?_eq_none h1] at h

/-- A contract on a small heap serves in a greater one, in which the small one's objects lie anywhere. -/
theorem CT.frame {P : Program} {f : Nat} {ms : List M} {H K : Hp} {post : M → Hp → Prop} (ρ : Nat → Nat) (hρ : ∀ i j, i < H.length → j < H.length → ρ i = ρ j → i = j)
    (hK : ∀ (i : Nat) ob, H[i]? = some ob → K[ρ i]? = some (renOb ρ ob)) (hB : HB H.length H) (hms : ∀ m ∈ ms, MB H.length m)
    (h : CT P f ms H fun r k => k.length = H.length ∧ post r k) :
    CT P f (renMs ρ ms) K fun r k => ∃ r0 H', post r0 H' ∧ H'.length = H.length ∧ r = renM ρ r0 ∧ k.length = K.length ∧ (∀ (i : Nat) ob, H'[i]? = some ob → k[ρ i]? = some (renOb ρ ob)) ∧ ∀ j, (∀ i, i < H.length → ρ i ≠ j) → k[j]? = K[j]? := by
  intro σ Oo vs hinv hH hvs
  have hKl : ∀ i, i < H.length → ρ i < K.length := by
    intro i hi
    have := hK i H[i] (by simp [hi])
    exact lt_of_get this
  let Oo' : Nat → Nat → Prop := fun b o => Oo b o ∨ ∃ (j : Nat) (ob : Ob), (∀ i, i < H.length → ρ i ≠ j) ∧ σ.H[j]? = some ob ∧ σ.l j = b ∧ ob.owns o
  let σs : Sg := ⟨σ.w, σ.O, fun i => σ.l (ρ i), H⟩
  have hhide : Hides ρ H.length σs σ := ⟨rfl, fun _ _ h => h, fun i hi => ⟨H[i], by simp [σs, hi]⟩, fun i ob h1 => by rw [hH]; exact hK i ob h1, fun i ob h1 => rfl⟩
  have hdown : ∀ m v, MB H.length m → RM σ (renM ρ m) v → RM σs m v := fun m v hb hr => RM.down hhide hb hr
  have hinvs : HInv σs Oo' := by
    refine ⟨?_, ?_, ?_, ?_, ?_⟩
    · intro i ob hi
      have h1 : σ.H[ρ i]? = some (renOb ρ ob) := by rw [hH]; exact hK i ob hi
      exact ObOk.down (σ := σs) (τ := σ) (ρ := ρ) rfl hdown (hB ob (List.mem_of_getElem? hi)) (hinv.obj (ρ i) _ h1)
    · intro i j x y hi hj hx hy he
      have h1 : σ.H[ρ i]? = some (renOb ρ x) := by rw [hH]; exact hK i x hi
      have h2 : σ.H[ρ j]? = some (renOb ρ y) := by rw [hH]; exact hK j y hj
      exact hρ i j (lt_of_get hi) (lt_of_get hj) (hinv.inj _ _ _ _ h1 h2 ((renOb_live ρ x).2 hx) ((renOb_live ρ y).2 hy) he)
    · intro b o
      show σ.O b o ↔ _
      rw [hinv.own]
      constructor
      · rintro (h1 | ⟨j, ob, h1, h2, h3⟩)
        · exact .inl (.inl h1)
        · by_cases hj : ∃ i, i < H.length ∧ ρ i = j
          · obtain ⟨i, hi, rfl⟩ := hj
            have h4 := hK i H[i] (by simp [hi])
            rw [hH, h4] at h1
            injection h1 with h1
            subst h1
            exact .inr ⟨i, H[i], by simp [σs, hi], h2, (renOb_owns ρ _ o).1 h3⟩
          · exact .inl (.inr ⟨j, ob, fun i hi he => hj ⟨i, hi, he⟩, h1, h2, h3⟩)
      · rintro ((h1 | ⟨j, ob, h0, h1, h2, h3⟩) | ⟨i, ob, h1, h2, h3⟩)
        · exact .inl h1
        · exact .inr ⟨j, ob, h1, h2, h3⟩
        · exact .inr ⟨ρ i, renOb ρ ob, by rw [hH]; exact hK i ob h1, h2, (renOb_owns ρ _ o).2 h3⟩
    · intro i ob hi hl o
      have h1 : σ.H[ρ i]? = some (renOb ρ ob) := by rw [hH]; exact hK i ob hi
      rintro (h2 | ⟨j, ob2, h0, h2, h3, h4⟩)
      · exact hinv.sep _ _ h1 ((renOb_live ρ ob).2 hl) o h2
      · exact h0 i (lt_of_get hi) (hinv.inj _ _ _ _ h1 h2 ((renOb_live ρ ob).2 hl) (Ob.live_of_owns h4) h3.symm)
    · rintro b o (h1 | ⟨j, ob2, h0, h2, h3, h4⟩)
      · exact hinv.old b o h1
      · rw [← h3]; exact (hinv.obj j ob2 h2).lt (Ob.live_of_owns h4)
  have hmss : RMs σs ms vs := by
    refine ⟨by rw [hvs.1, renMs_length], fun i m v hm hv => ?_⟩
    exact hdown m v (hms m (List.mem_of_getElem? hm)) (hvs.2 i (renM ρ m) v (by rw [renMs_get, hm]; rfl) hv)
  refine (h σs Oo' vs hinvs rfl hmss).mono ?_
  rintro e w' ⟨v, r0, σ', he, hw', ⟨hlen, hpost⟩, hinv', hr, hmono, hblk⟩
  classical
  let inv : Nat → Option Nat := fun j => if h : ∃ i, i < H.length ∧ ρ i = j then some h.choose else none
  have inv1 : ∀ i, i < H.length → inv (ρ i) = some i := by
    intro i hi
    have hex : ∃ i', i' < H.length ∧ ρ i' = ρ i := ⟨i, hi, rfl⟩
    show (if h : ∃ i', i' < H.length ∧ ρ i' = ρ i then some h.choose else none) = some i
    rw [dif_pos hex]
    have := hex.choose_spec
    rw [hρ _ _ this.1 hi this.2]
  have inv2 : ∀ j, (∀ i, i < H.length → ρ i ≠ j) → inv j = none := by
    intro j hj
    show (if h : ∃ i', i' < H.length ∧ ρ i' = j then some h.choose else none) = none
    rw [dif_neg]
    rintro ⟨i, hi, he⟩
    exact hj i hi he
  have inv3 : ∀ j, (∃ i, i < H.length ∧ ρ i = j ∧ inv j = some i) ∨ ((∀ i, i < H.length → ρ i ≠ j) ∧ inv j = none) := by
    intro j
    by_cases hj : ∃ i, i < H.length ∧ ρ i = j
    · obtain ⟨i, hi, rfl⟩ := hj
      exact .inl ⟨i, hi, rfl, inv1 i hi⟩
    · have h1 : ∀ i, i < H.length → ρ i ≠ j := fun i hi he => hj ⟨i, hi, he⟩
      exact .inr ⟨h1, inv2 j h1⟩
  let K' : Hp := (List.range K.length).map fun j => match inv j with
    | some i => renOb ρ (σ'.H.getD i .dead)
    | none => K.getD j .dead
  let l' : Nat → Nat := fun j => match inv j with
    | some i => σ'.l i
    | none => σ.l j
  have k1 : ∀ (i : Nat) ob, σ'.H[i]? = some ob → K'[ρ i]? = some (renOb ρ ob) := by
    intro i ob hi
    have hil : i < H.length := by rw [← hlen]; exact lt_of_get hi
    simp [K', hKl i hil, inv1 i hil, hi]
  have k2 : ∀ j, (∀ i, i < H.length → ρ i ≠ j) → K'[j]? = K[j]? := by
    intro j hj
    by_cases hjl : j < K.length
    · simp [K', hjl, inv2 j hj]
    · simp [K', hjl]
  have k3 : ∀ (i : Nat), i < H.length → l' (ρ i) = σ'.l i := by
    intro i hi; show (match inv (ρ i) with | some i => σ'.l i | none => σ.l (ρ i)) = _; rw [inv1 i hi]
  have k4 : ∀ j, (∀ i, i < H.length → ρ i ≠ j) → l' j = σ.l j := by
    intro j hj; show (match inv j with | some i => σ'.l i | none => σ.l j) = _; rw [inv2 j hj]
  let τ : Sg := ⟨σ'.w, σ'.O, l', K'⟩
  have hsee : Sees ρ H.length σ' τ := ⟨rfl, fun _ _ h => h, fun i ob hi => by rw [← hlen]; exact lt_of_get hi, k1, fun i ob hi => k3 i (by rw [← hlen]; exact lt_of_get hi)⟩
  have hup : ∀ m v, RM σ' m v → RM τ (renM ρ m) v := fun m v hr => hr.up hsee
  -- the objects of the greater heap
  have kinv : ∀ (j : Nat) ob, K'[j]? = some ob → (∃ i ob0, i < H.length ∧ ρ i = j ∧ σ'.H[i]? = some ob0 ∧ ob = renOb ρ ob0) ∨ ((∀ i, i < H.length → ρ i ≠ j) ∧ σ.H[j]? = some ob) := by
    intro j ob hj
    rcases inv3 j with ⟨i, hi, rfl, _⟩ | ⟨h1, _⟩
    · have hi' : i < σ'.H.length := by rw [hlen]; exact hi
      have := k1 i σ'.H[i] (by simp [hi'])
      rw [this] at hj
      injection hj with hj
      exact .inl ⟨i, σ'.H[i], hi, rfl, by simp [hi'], hj.symm⟩
    · rw [k2 j h1] at hj
      exact .inr ⟨h1, by rw [hH]; exact hj⟩
  have hsep : ∀ (j : Nat) ob, (∀ i, i < H.length → ρ i ≠ j) → σ.H[j]? = some ob → ob.live → ∀ (i : Nat) x, H[i]? = some x → x.live → σ.l (ρ i) ≠ σ.l j := by
    intro j ob hj h1 hl i x hi hx he
    have h2 : σ.H[ρ i]? = some (renOb ρ x) := by rw [hH]; exact hK i x hi
    exact hj i (lt_of_get hi) (hinv.inj _ _ _ _ h2 h1 ((renOb_live ρ x).2 hx) hl he)
  have hkeep : ∀ (j : Nat) ob, (∀ i, i < H.length → ρ i ≠ j) → σ.H[j]? = some ob → ob.live → σ'.w.heap[σ.l j]? = σ.w.heap[σ.l j]? := by
    intro j ob hj h1 hl
    refine hblk.blk (σ.l j) ((hinv.obj j ob h1).lt hl) ?_
    intro i x hi hx
    exact hsep j ob hj h1 hl i x hi hx
  have hmonoτ : Mono σ τ := by
    refine ⟨hmono.cell, ?_, ?_, ?_, ?_, ?_, ?_⟩
    · intro j cs hj
      rcases inv3 j with ⟨i, hi, rfl, _⟩ | ⟨h1, _⟩
      · have h2 := hK i H[i] (by simp [hi])
        rw [hH, h2] at hj
        injection hj with hj
        cases hx : H[i] with
        | box c0 =>
          obtain ⟨⟨c1, h3⟩, h4⟩ := hmono.box i c0 (by show H[i]? = _; simp [hi, hx])
          exact ⟨⟨_, k1 i _ h3⟩, by show l' (ρ i) = _; rw [k3 i hi]; exact h4⟩
        | _ => rw [hx] at hj; simp [renOb] at hj
      · exact ⟨⟨cs, by show K'[j]? = _; rw [k2 j h1, ← hH]; exact hj⟩, k4 j h1⟩
    · intro j cs hj
      rcases inv3 j with ⟨i, hi, rfl, _⟩ | ⟨h1, _⟩
      · have h2 := hK i H[i] (by simp [hi])
        rw [hH, h2] at hj
        injection hj with hj
        cases hx : H[i] with
        | map c0 =>
          obtain ⟨⟨c1, h3⟩, h4⟩ := hmono.map i c0 (by show H[i]? = _; simp [hi, hx])
          exact ⟨⟨_, k1 i _ h3⟩, by show l' (ρ i) = _; rw [k3 i hi]; exact h4⟩
        | _ => rw [hx] at hj; simp [renOb] at hj
      · exact ⟨⟨cs, by show K'[j]? = _; rw [k2 j h1, ← hH]; exact hj⟩, k4 j h1⟩
    · intro j cs hj
      rcases inv3 j with ⟨i, hi, rfl, _⟩ | ⟨h1, _⟩
      · have h2 := hK i H[i] (by simp [hi])
        rw [hH, h2] at hj
        injection hj with hj
        cases hx : H[i] with
        | iter c0 =>
          obtain ⟨⟨c1, h3⟩, h4⟩ := hmono.iter i c0 (by show H[i]? = _; simp [hi, hx])
          exact ⟨⟨_, k1 i _ h3⟩, by show l' (ρ i) = _; rw [k3 i hi]; exact h4⟩
        | _ => rw [hx] at hj; simp [renOb] at hj
      · exact ⟨⟨cs, by show K'[j]? = _; rw [k2 j h1, ← hH]; exact hj⟩, k4 j h1⟩
    · intro j hj
      rcases inv3 j with ⟨i, hi, rfl, _⟩ | ⟨h1, _⟩
      · have h2 := hK i H[i] (by simp [hi])
        rw [hH, h2] at hj
        injection hj with hj
        cases hx : H[i] with
        | dead =>
          have h3 := hmono.dead i (by show H[i]? = _; simp [hi, hx])
          exact k1 i _ h3
        | _ => rw [hx] at hj; simp [renOb] at hj
      · show K'[j]? = _; rw [k2 j h1, ← hH]; exact hj
    · intro j acc ec ver cs hj
      rcases inv3 j with ⟨i, hi, rfl, _⟩ | ⟨h1, _⟩
      · have h2 := hK i H[i] (by simp [hi])
        rw [hH, h2] at hj
        injection hj with hj
        cases hx : H[i] with
        | row a0 e0 v0 c0 =>
          rw [hx] at hj
          simp only [renOb] at hj
          cases hj
          rcases hmono.row i _ _ _ c0 (by show H[i]? = _; rw [List.getElem?_eq_getElem hi, hx]) with h3 | ⟨a1, v1, c1, h3, h4, h5⟩
          · exact .inl (k1 i _ h3)
          · refine .inr ⟨a1, v1, _, k1 i _ h3, h4, fun hv => ?_⟩
            obtain ⟨y1, y2, y3⟩ := h5 hv
            exact ⟨by show l' (ρ i) = _; rw [k3 i hi]; exact y1, by rw [renMs_length, renMs_length]; exact y2, y3⟩
        | _ => rw [hx] at hj; simp [renOb] at hj
      · refine .inr ⟨acc, ver, cs, by show K'[j]? = _; rw [k2 j h1, ← hH]; exact hj, Nat.le_refl _, fun _ => ⟨k4 j h1, rfl, fun arr T ha => ?_⟩⟩
        exact ⟨arr, by rw [← hkeep j _ h1 hj trivial] at ha; exact ha, rfl⟩
    · intro j hj
      rcases inv3 j with ⟨i, hi, rfl, _⟩ | ⟨h1, _⟩
      · obtain ⟨ob, h3⟩ := hmono.has i H[i] (by show H[i]? = _; simp [hi])
        exact ⟨_, k1 i _ h3⟩
      · exact ⟨_, by show K'[j]? = _; rw [k2 j h1, ← hH]; exact hj⟩
  have hobk : ∀ (j : Nat) ob, (∀ i, i < H.length → ρ i ≠ j) → σ.H[j]? = some ob → ObOk τ (σ.l j) ob := by
    intro j ob hj h1
    by_cases hl : ob.live
    · exact (hinv.obj j ob h1).keep hmonoτ (fun x hx => by show σ'.w.heap[σ.l j]? = _; rw [hkeep j ob hj h1 hl]; exact hx)
    · cases ob <;> first | trivial | exact absurd trivial hl
  refine ⟨v, renM ρ r0, τ, he, hw', ⟨r0, σ'.H, hpost, hlen, rfl, by simp [τ, K'], k1, k2⟩, ?_, hup _ _ hr, hmonoτ, ?_⟩
  · refine ⟨?_, ?_, ?_, ?_, ?_⟩
    · intro j ob hj
      rcases kinv j ob hj with ⟨i, ob0, hi, rfl, h2, rfl⟩ | ⟨h1, h2⟩
      · show ObOk τ (l' (ρ i)) _
        rw [k3 i hi]
        exact ObOk.up (σ := σ') (τ := τ) (ρ := ρ) rfl hup (hinv'.obj i ob0 h2)
      · show ObOk τ (l' j) _
        rw [k4 j h1]
        exact hobk j ob h1 h2
    · intro j1 j2 x y h1 h2 hx hy he
      have he' : l' j1 = l' j2 := he
      rcases kinv j1 x h1 with ⟨i1, x0, hi1, rfl, hx0, rfl⟩ | ⟨hn1, hx1⟩
      · rcases kinv j2 y h2 with ⟨i2, y0, hi2, rfl, hy0, rfl⟩ | ⟨hn2, hy1⟩
        · rw [k3 i1 hi1, k3 i2 hi2] at he'
          rw [hinv'.inj _ _ _ _ hx0 hy0 ((renOb_live ρ _).1 hx) ((renOb_live ρ _).1 hy) he']
        · exfalso
          rw [k3 i1 hi1, k4 j2 hn2] at he'
          rcases hblk.loc i1 x0 hx0 ((renOb_live ρ _).1 hx) with h3 | ⟨ob', h3, h4, h5⟩
          · have := (hinv.obj j2 y hy1).lt hy
            have h6 : σs.w.heap.size = σ.w.heap.size := rfl
            omega
          · exact hsep j2 y hn2 hy1 hy i1 ob' h3 h4 (h5.symm.trans he')
      · rcases kinv j2 y h2 with ⟨i2, y0, hi2, rfl, hy0, rfl⟩ | ⟨hn2, hy1⟩
        · exfalso
          rw [k4 j1 hn1, k3 i2 hi2] at he'
          rcases hblk.loc i2 y0 hy0 ((renOb_live ρ _).1 hy) with h3 | ⟨ob', h3, h4, h5⟩
          · have := (hinv.obj j1 x hx1).lt hx
            have h6 : σs.w.heap.size = σ.w.heap.size := rfl
            omega
          · exact hsep j1 x hn1 hx1 hx i2 ob' h3 h4 (h5.symm.trans he'.symm)
        · rw [k4 j1 hn1, k4 j2 hn2] at he'
          exact hinv.inj _ _ _ _ hx1 hy1 hx hy he'
    · intro b o
      show σ'.O b o ↔ _
      rw [hinv'.own]
      constructor
      · rintro ((h1 | ⟨j, ob, h0, h1, h2, h3⟩) | ⟨i, ob, h1, h2, h3⟩)
        · exact .inl h1
        · exact .inr ⟨j, ob, by show K'[j]? = _; rw [k2 j h0, ← hH]; exact h1, by show l' j = b; rw [k4 j h0]; exact h2, h3⟩
        · have hi : i < H.length := by rw [← hlen]; exact lt_of_get h1
          exact .inr ⟨ρ i, renOb ρ ob, k1 i ob h1, by show l' (ρ i) = b; rw [k3 i hi]; exact h2, (renOb_owns ρ _ o).2 h3⟩
      · rintro (h1 | ⟨j, ob, h1, h2, h3⟩)
        · exact .inl (.inl h1)
        · have h2' : l' j = b := h2
          rcases kinv j ob h1 with ⟨i, ob0, hi, rfl, h4, rfl⟩ | ⟨h4, h5⟩
          · rw [k3 i hi] at h2'
            exact .inr ⟨i, ob0, h4, h2', (renOb_owns ρ _ o).1 h3⟩
          · rw [k4 j h4] at h2'
            exact .inl (.inr ⟨j, ob, h4, h5, h2', h3⟩)
    · intro j ob hj hl o ho
      rcases kinv j ob hj with ⟨i, ob0, hi, rfl, h4, rfl⟩ | ⟨h4, h5⟩
      · have h6 : Oo (σ'.l i) o := by rw [← k3 i hi]; exact ho
        exact hinv'.sep i ob0 h4 ((renOb_live ρ _).1 hl) o (.inl h6)
      · have h6 : Oo (σ.l j) o := by rw [← k4 j h4]; exact ho
        exact hinv.sep j ob h5 hl o h6
    · exact fun b o h1 => hinv'.old b o (.inl h1)
  · refine ⟨hblk.os, hblk.output, hblk.tape, hblk.size, ?_, ?_⟩
    · intro b hb hn
      refine hblk.blk b hb ?_
      intro i ob hi hl
      exact hn (ρ i) (renOb ρ ob) (by rw [hH]; exact hK i ob hi) ((renOb_live ρ _).2 hl)
    · intro j ob hj hl
      rcases kinv j ob hj with ⟨i, ob0, hi, rfl, h4, rfl⟩ | ⟨h4, h5⟩
      · rcases hblk.loc i ob0 h4 ((renOb_live ρ _).1 hl) with h6 | ⟨ob', h6, h7, h8⟩
        · exact .inl (by show _ ≤ l' (ρ i); rw [k3 i hi]; exact h6)
        · exact .inr ⟨renOb ρ ob', by rw [hH]; exact hK i ob' h6, (renOb_live ρ _).2 h7, by show l' (ρ i) = _; rw [k3 i hi]; exact h8⟩
      · exact .inr ⟨ob, h5, hl, k4 j h4⟩
end Go.Mt

set_option linter.unusedVariables false
namespace Go.Mt

mutual
def mbb (n : Nat) : M → Bool
  | .d _ => true
  | .ref i _ => Nat.blt i n
  | .rsl i _ _ => Nat.blt i n
  | .rref i _ _ => Nat.blt i n
  | .mp i => Nat.blt i n
  | .it i => Nat.blt i n
  | .agg cs => mbbs n cs
  | .fn _ cs => mbbs n cs
  | .tup cs => mbbs n cs
  | .undef => true
def mbbs (n : Nat) : List M → Bool
  | [] => true
  | m :: r => mbb n m && mbbs n r
end
mutual
theorem mbb_ok {n : Nat} : ∀ {m : M}, mbb n m = true → MB n m
  | .d x, _ => .d x
  | .ref i off, h => .ref i off (blt_lt h)
  | .rsl i v l, h => .rsl i v l (blt_lt h)
  | .rref i v l, h => .rref i v l (blt_lt h)
  | .mp i, h => .mp i (blt_lt h)
  | .it i, h => .it i (blt_lt h)
  | .agg cs, h => .agg cs (mbbs_ok (by simpa [mbb] using h))
  | .fn f cs, h => .fn f cs (mbbs_ok (by simpa [mbb] using h))
  | .tup cs, h => .tup cs (mbbs_ok (by simpa [mbb] using h))
  | .undef, _ => .undef
theorem mbbs_ok {n : Nat} : ∀ {l : List M}, mbbs n l = true → ∀ m ∈ l, MB n m
  | [], _ => by simp
  | a :: r, h => by
    rw [mbbs, Bool.and_eq_true] at h
    intro m hm
    rcases List.mem_cons.1 hm with e | hm
    · rw [e]; exact mbb_ok h.1
    · exact mbbs_ok h.2 m hm
end
def obb (n : Nat) : Ob → Bool
  | .box cs => mbbs n cs
  | .row _ _ _ cs => mbbs n cs
  | .map es => es.all fun e => mbb n e.2
  | .iter x => mbb n x
  | .dead => true
  | .free => true
theorem obb_ok {n : Nat} {ob : Ob} (h : obb n ob = true) : ObB n ob := by
  cases ob with
  | box cs => exact mbbs_ok h
  | row a e v cs => exact mbbs_ok h
  | map es => intro e he; exact mbb_ok (List.all_eq_true.1 h e he)
  | iter x => exact mbb_ok h
  | dead => trivial
  | free => trivial
theorem hbb_ok {n : Nat} {H : Hp} (h : H.all (obb n) = true) : HB n H := fun ob hob => obb_ok (List.all_eq_true.1 h ob hob)

mutual
theorem renM_id : ∀ m : M, renM (fun i => i) m = m
  | .d x => by rw [renM]
  | .ref i off => by rw [renM]
  | .rsl i v l => by rw [renM]
  | .rref i v l => by rw [renM]
  | .mp i => by rw [renM]
  | .it i => by rw [renM]
  | .agg cs => by rw [renM, renMs_id cs]
  | .fn f cs => by rw [renM, renMs_id cs]
  | .tup cs => by rw [renM, renMs_id cs]
  | .undef => by rw [renM]
theorem renMs_id : ∀ l : List M, renMs (fun i => i) l = l
  | [] => by rw [renMs]
  | m :: r => by rw [renMs, renM_id m, renMs_id r]
end
theorem renOb_id (ob : Ob) : renOb (fun i => i) ob = ob := by
  cases ob with
  | box cs => simp [renOb, renMs_id]
  | row a e v cs => simp [renOb, renMs_id]
  | map es => simp [renOb, renM_id]
  | iter x => simp [renOb, renM_id]
  | dead => rfl
  | free => rfl

/-- the rest of the heap lies behind -/
theorem CT.suffix {P : Program} {f : Nat} {ms : List M} {H : Hp} {post : M → Hp → Prop} (F : Hp) (hB : HB H.length H) (hms : ∀ m ∈ ms, MB H.length m)
    (h : CT P f ms H fun r k => k.length = H.length ∧ post r k) : CT P f ms (H ++ F) fun r k => ∃ H', k = H' ++ F ∧ H'.length = H.length ∧ post r H' := by
  have h2 := CT.frame (K := H ++ F) (fun i => i) (fun i j _ _ h => h) (fun i ob hi => by rw [renOb_id, List.getElem?_append_left (lt_of_get hi)]; exact hi) hB hms h
  rw [renMs_id] at h2
  refine h2.mono ?_
  rintro r k ⟨r0, H', hp, hl, rfl, hkl, h3, h4⟩
  rw [renM_id]
  refine ⟨H', ?_, hl, hp⟩
  apply List.ext_getElem?
  intro i
  rcases Nat.lt_or_ge i H.length with hi | hi
  · have h5 := h3 i H'[i] (by simp [hl, hi])
    rw [renOb_id] at h5
    rw [h5, List.getElem?_append_left (by omega)]
    simp [hl, hi]
  · rw [h4 i (fun j hj he => by omega), List.getElem?_append_right hi, List.getElem?_append_right (by omega), hl]

/-- what is new and nobody refers to is forgotten -/
theorem CT.drop {P : Program} {f : Nat} {ms : List M} {H : Hp} {post : M → Hp → Prop} (n : Nat) (hn : H.length ≤ n)
    (h : CT P f ms H fun r k => n ≤ k.length ∧ MB n r ∧ HB n (k.take n) ∧ post r (k.take n)) : CT P f ms H post := by
  intro σ Oo vs hinv hH hvs
  refine (h σ Oo vs hinv hH hvs).mono ?_
  rintro e w' ⟨v, r, σ', he, hw', ⟨hkl, hr, hB, hp⟩, hinv', hrv, hmono, hblk⟩
  let τ : Sg := ⟨σ'.w, fun b o => Oo b o ∨ ∃ (i : Nat) (ob : Ob), (σ'.H.take n)[i]? = some ob ∧ σ'.l i = b ∧ ob.owns o, σ'.l, σ'.H.take n⟩
  have htk : ∀ (i : Nat) ob, (σ'.H.take n)[i]? = some ob → i < n ∧ σ'.H[i]? = some ob := by
    intro i ob hi
    rw [List.getElem?_take] at hi
    split at hi
    · exact ⟨by assumption, hi⟩
    · cases hi
  have htk2 : ∀ (i : Nat) ob, i < n → σ'.H[i]? = some ob → (σ'.H.take n)[i]? = some ob := by
    intro i ob hi h
    rw [List.getElem?_take, if_pos hi]; exact h
  have hO : ∀ b o, ¬ σ'.O b o → ¬ τ.O b o := by
    intro b o h1 h2
    apply h1
    rw [hinv'.own]
    rcases h2 with h2 | ⟨i, ob, h2, h3, h4⟩
    · exact .inl h2
    · exact .inr ⟨i, ob, (htk i ob h2).2, h3, h4⟩
  have hhide : Hides (fun i => i) n τ σ' → True := fun _ => trivial
  have hRM : ∀ m v, MB n m → RM σ' m v → RM τ m v := by
    intro m v hm
    induction hm generalizing v with
    | d x => intro h; cases h with
      | d h => exact .d (h.mono fun b o v h1 h2 => ⟨h1, hO b o h2⟩)
    | ref i off hi => intro h; cases h with
      | ref i off cs h => exact .ref i off cs (htk2 i _ hi h)
    | rsl i ver len hi => intro h; cases h with
      | rsl i ver len a cap hle hcur =>
        refine .rsl i ver len a cap ?_ fun acc ec cs h => hcur acc ec cs (htk i _ h).2
        rcases hle with h | ⟨acc, ec, ver', cs, h, h2⟩
        · exact .inl (htk2 i _ hi h)
        · exact .inr ⟨acc, ec, ver', cs, htk2 i _ hi h, h2⟩
    | rref i ver off hi => intro h; cases h with
      | rref i ver off b hle hcur =>
        refine .rref i ver off b ?_ fun acc ec cs h => hcur acc ec cs (htk i _ h).2
        rcases hle with h | ⟨acc, ec, ver', cs, h, h2⟩
        · exact .inl (htk2 i _ hi h)
        · exact .inr ⟨acc, ec, ver', cs, htk2 i _ hi h, h2⟩
    | mp i hi => intro h; cases h with
      | mp i es h => exact .mp i es (htk2 i _ hi h)
    | it i hi => intro h; cases h with
      | it i x h => exact .it i x (htk2 i _ hi h)
    | agg cs hc ih => intro h; cases h with
      | agg cs vs hl hf h => exact .agg cs vs hl hf fun i m v h1 h2 => ih m (List.mem_of_getElem? h1) v (h i m v h1 h2)
    | fn f cs hc ih => intro h; cases h with
      | fn f cs vs hlt hl h => exact .fn f cs vs hlt hl fun i m v h1 h2 => ih m (List.mem_of_getElem? h1) v (h i m v h1 h2)
      | fnB f g cs vs hg hl h => exact .fnB f _ cs vs hg hl fun i m v h1 h2 => ih m (List.mem_of_getElem? h1) v (h i m v h1 h2)
    | tup cs hc ih => intro h; cases h with
      | tup cs vs hl h => exact .tup cs vs hl fun i m v h1 h2 => ih m (List.mem_of_getElem? h1) v (h i m v h1 h2)
    | undef => intro h; exact .undef v
  have hobs : ∀ (i : Nat) ob, (σ'.H.take n)[i]? = some ob → ObOk τ (σ'.l i) ob := by
    intro i ob hi
    have h1 := hinv'.obj i ob (htk i ob hi).2
    have h2 := hB ob (List.mem_of_getElem? hi)
    refine ObOk.down (σ := τ) (τ := σ') (ρ := fun i => i) (n := n) rfl (fun m v hm hv => hRM m v hm (by rw [renM_id] at hv; exact hv)) h2 (by rw [renOb_id]; exact h1)
  refine ⟨v, r, τ, he, hw', hp, ?_, hRM r v hr hrv, ?_, ?_⟩
  · refine ⟨hobs, ?_, fun b o => Iff.rfl, ?_, hinv'.old⟩
    · intro i j x y hi hj
      exact hinv'.inj i j x y (htk i x hi).2 (htk j y hj).2
    · intro i ob hi
      exact hinv'.sep i ob (htk i ob hi).2
  · have hlt : ∀ (i : Nat) ob, σ.H[i]? = some ob → i < n := by
      intro i ob hi
      rw [hH] at hi
      have := lt_of_get hi
      omega
    refine ⟨?_, ?_, ?_, ?_, ?_, ?_, fun i hi => let ⟨ob, h1⟩ := hmono.has i _ hi; ⟨ob, htk2 i _ (hlt i _ hi) h1⟩⟩
    · intro b o v h1 h2
      have h3 := hmono.cell b o v h1 h2
      exact ⟨h3.1, hO b o h3.2⟩
    · intro i cs hi
      obtain ⟨⟨cs', h1⟩, h2⟩ := hmono.box i cs hi
      exact ⟨⟨cs', htk2 i _ (hlt i _ hi) h1⟩, h2⟩
    · intro i cs hi
      obtain ⟨⟨cs', h1⟩, h2⟩ := hmono.map i cs hi
      exact ⟨⟨cs', htk2 i _ (hlt i _ hi) h1⟩, h2⟩
    · intro i cs hi
      obtain ⟨⟨cs', h1⟩, h2⟩ := hmono.iter i cs hi
      exact ⟨⟨cs', htk2 i _ (hlt i _ hi) h1⟩, h2⟩
    · intro i hi
      exact htk2 i _ (hlt i _ hi) (hmono.dead i hi)
    · intro i acc ec ver cs hi
      rcases hmono.row i acc ec ver cs hi with h1 | ⟨acc', ver', cs', h1, h2, h3⟩
      · exact .inl (htk2 i _ (hlt i _ hi) h1)
      · exact .inr ⟨acc', ver', cs', htk2 i _ (hlt i _ hi) h1, h2, h3⟩
  · refine ⟨hblk.os, hblk.output, hblk.tape, hblk.size, hblk.blk, ?_⟩
    intro i ob hi hl
    exact hblk.loc i ob (htk i ob hi).2 hl

/-- a function of data, called while a heap is there -/
theorem CT.of_PT {P : Program} {f : Nat} {ds : List D} {post : List D → Prop} {H : Hp} (h : PT P f ds post) : CT P f (ds.map .d) H fun r k => (∃ d, r = tupM (d.map .d) ∧ post d) ∧ k = H := by
  intro σ Oo vs hinv hH hvs
  refine (h σ.O σ.w vs hinv.oold ⟨by simpa using hvs.1, fun i d v h1 h2 => ?_⟩).mono ?_
  · have := hvs.2 i (.d d) v (by simp [h1]) h2
    cases this with
    | d h => exact h
  · rintro e w' ⟨v, r, he, hp, hext, hr⟩
    refine ⟨v, _, { σ with w := w' }, he, rfl, ⟨⟨r, rfl, hp⟩, hH⟩, ?_, hr.mono' (fun b o v h1 h2 => ⟨h1, h2⟩), Mono.ext hext, ?_⟩
    · exact hinv.ext hext
    · exact Blk.ext hext
end Go.Mt

set_option linter.unusedVariables false
namespace Go.Mt
theorem get_del_some {α : Type} : ∀ {l : List (Nat × α)} {t u : Nat} {v : α}, get (del l t) u = some v → u ≠ t ∧ get l u = some v
  | [], t, u, v, h => by simp [del, get] at h
  | (k, x) :: r, t, u, v, h => by
    rw [del] at h
    cases hb : Nat.beq k t with
    | true =>
      rw [hb, cond_true] at h
      obtain ⟨h1, h2⟩ := get_del_some h
      refine ⟨h1, ?_⟩
      rw [get_cons, if_neg]
      · exact h2
      · intro e; exact h1 (e.symm.trans (Nat.eq_of_beq_eq_true hb))
    | false =>
      rw [hb, cond_false, get_cons] at h
      rw [get_cons]
      by_cases e : k = u
      · rw [if_pos e] at h ⊢
        refine ⟨fun e2 => ?_, h⟩
        subst e; subst e2
        simp at hb
      · rw [if_neg e] at h ⊢
        exact get_del_some h

/-- a variable of the frame's own that is not written any more: data -/
theorem FInv.freeze {X : Ctx} {σ : Sg} {lam : Nat → Nat} {st : St} {a : Act} (hi : FInv X σ lam st a) {t : Nat} {ds : List D} (hb : get st.bx t = some (ds.map .d)) (hs : get st.sl t = some (.loc t 0)) :
    ∃ τ : Sg, τ.w = σ.w ∧ FInv X τ lam ⟨(t, .m (.d (.pim ds 0))) :: st.sl, del st.bx t, st.H⟩ a := by
  let O' : Nat → Nat → Prop := fun b o => Oof X.Oout lam (del st.bx t) b o ∨ ∃ (i : Nat) (ob : Ob), σ.H[i]? = some ob ∧ σ.l i = b ∧ ob.owns o
  let τ : Sg := ⟨σ.w, O', σ.l, σ.H⟩
  have hOof : ∀ b o, Oof X.Oout lam (del st.bx t) b o → Oof X.Oout lam st.bx b o := by
    rintro b o (h | ⟨u, cs, h1, h2⟩)
    · exact .inl h
    · exact .inr ⟨u, cs, (get_del_some h1).2, h2⟩
  have hO : ∀ b o, ¬ σ.O b o → ¬ τ.O b o := by
    intro b o h1 h2
    apply h1
    rw [hi.hinv.own]
    rcases h2 with h2 | h2
    · exact .inl (hOof b o h2)
    · exact .inr h2
  have hm : Mono σ τ := ⟨fun b o v h1 h2 => ⟨h1, hO b o h2⟩, fun _ cs h => ⟨⟨cs, h⟩, rfl⟩, fun _ es h => ⟨⟨es, h⟩, rfl⟩, fun i cs h => ⟨⟨cs, h⟩, rfl⟩, fun _ h => h,
    fun _ acc ec ver cs h => .inr ⟨acc, ver, cs, h, Nat.le_refl _, fun _ => ⟨rfl, rfl, fun arr T h => ⟨arr, h, rfl⟩⟩⟩, fun _ h => ⟨_, h⟩⟩
  obtain ⟨arr, T, h1, h2, h3⟩ := hi.box t _ hb
  have hno : ∀ o, ¬ O' (lam t) o := by
    rintro o ((h | ⟨u, cs, h4, h5⟩) | ⟨i, ob, h4, h5, h6⟩)
    · exact hi.bsep t _ hb o h
    · obtain ⟨h6, h7⟩ := get_del_some h4
      exact h6 (hi.binj u t _ _ h7 hb h5)
    · exact hi.hinv.sep i ob h4 (Ob.live_of_owns h6) o (.inr ⟨t, _, hb, h5.symm⟩)
  refine ⟨τ, rfl, hi.hH, hi.defers, hi.size, ?_, ?_, ?_, ?_, ?_, ?_, hi.mono.trans hm, ⟨hi.blk.os, hi.blk.output, hi.blk.tape, hi.blk.size, hi.blk.blk, hi.blk.loc⟩⟩
  · intro u v hu
    rw [get_cons] at hu
    by_cases e : t = u
    · subst e
      rw [if_pos rfl] at hu
      injection hu with hu
      subst hu
      obtain ⟨x, h4, h5⟩ := hi.slot t _ hs
      refine ⟨x, h4, ?_⟩
      cases h5 with
      | loc u off =>
        have harr : ∀ i, i < ds.length → i < arr.size := by intro i hlt; rw [h2]; simpa using hlt
        have hsome : ∀ i, (hlt : i < ds.length) → arr[i]? = some (arr.getD i undef) := by intro i hlt; simp [harr i hlt]
        refine .m (.d (.pim ds 0 (lam t) 0 (fun i => arr.getD i undef) ?_ ?_ ?_))
        · intro i hlt
          refine ⟨?_, hno _⟩
          simp [cellv, World.cell?, τ, h1, harr i hlt]
        · intro i hlt
          exact (h3 i (.d ds[i]) _ (by simp [hlt]) (hsome i hlt)).2
        · intro i d hd
          have hlt : i < ds.length := by rcases Nat.lt_or_ge i ds.length with h | h; exact h; simp [List.getElem?_eq_none h] at hd
          have h6 := (h3 i (.d d) _ (by simp [hd]) (hsome i hlt)).1.mono hm
          cases h6 with
          | d h => exact h
    · rw [if_neg e] at hu
      obtain ⟨x, h4, h5⟩ := hi.slot u v hu
      exact ⟨x, h4, h5.mono hm⟩
  · intro u cs hu
    exact (hi.box u cs (get_del_some hu).2).keep hm (fun x hx => hx)
  · intro u v cs ds' hu hv
    exact hi.binj u v cs ds' (get_del_some hu).2 (get_del_some hv).2
  · intro u cs hu
    exact hi.bsep u cs (get_del_some hu).2
  · intro u cs hu
    exact hi.bnew u cs (get_del_some hu).2
  · refine ⟨fun i ob h => (hi.hinv.obj i ob h).keep hm (fun x hx => hx), hi.hinv.inj, fun b o => Iff.rfl, fun i ob h hl o ho => hi.hinv.sep i ob h hl o (hOof _ _ ho), fun b o ho => hi.hinv.old b o (hOof _ _ ho)⟩

theorem TC.freeze {X : Ctx} {c : Code} {q : Exit → St → Prop} (t : Nat) {ds : List D} {sl : List (Nat × V)} {bx : List (Nat × List M)} {H : Hp} (hb : get bx t = some (ds.map .d)) (hs : get sl t = some (.loc t 0))
    (k : TC X c ⟨(t, .m (.d (.pim ds 0))) :: sl, del bx t, H⟩ q) : TC X c ⟨sl, bx, H⟩ q := by
  rintro a w ⟨σ, lam, rfl, hi⟩
  obtain ⟨τ, h1, h2⟩ := hi.freeze hb hs
  exact k a _ ⟨τ, lam, h1, h2⟩
theorem TL.freeze {X : Ctx} {ops : Array Oper} {l : List Oper} {q : St → Prop} (t : Nat) {ds : List D} {sl : List (Nat × V)} {bx : List (Nat × List M)} {H : Hp} (hb : get bx t = some (ds.map .d)) (hs : get sl t = some (.loc t 0))
    (k : TL X ops l ⟨(t, .m (.d (.pim ds 0))) :: sl, del bx t, H⟩ q) : TL X ops l ⟨sl, bx, H⟩ q := by
  rintro a w ⟨σ, lam, rfl, hi⟩
  obtain ⟨τ, h1, h2⟩ := hi.freeze hb hs
  exact k a _ ⟨τ, lam, h1, h2⟩
end Go.Mt

set_option linter.unusedVariables false
namespace Go.Mt

def VB (n : Nat) : V → Prop
  | .m m => MB n m
  | .loc _ _ => True
  | .tl _ _ _ _ => False
def vbb (n : Nat) : V → Bool
  | .m m => mbb n m
  | .loc _ _ => true
  | .tl _ _ _ _ => false
theorem vbb_ok {n : Nat} {v : V} (h : vbb n v = true) : VB n v := by cases v <;> first | exact mbb_ok h | trivial | cases h

theorem Inv.base {X : Ctx} {st : St} {a : Act} {w : World} (h : Inv X st a w) : X.s0.H.length ≤ st.H.length := by
  obtain ⟨σ, lam, rfl, hi⟩ := h
  have hm := hi.mono
  rw [← hi.hH]
  rcases Nat.lt_or_ge σ.H.length X.s0.H.length with h1 | h1
  · exfalso
    have hx : X.s0.H[σ.H.length]? = some X.s0.H[σ.H.length] := by simp [h1]
    have hno : σ.H[σ.H.length]? = none := by simp
    cases hob : X.s0.H[σ.H.length] with
    | box cs => rw [hob] at hx; obtain ⟨⟨cs', h2⟩, _⟩ := hm.box _ _ hx; rw [hno] at h2; cases h2
    | map cs => rw [hob] at hx; obtain ⟨⟨cs', h2⟩, _⟩ := hm.map _ _ hx; rw [hno] at h2; cases h2
    | iter cs => rw [hob] at hx; obtain ⟨⟨cs', h2⟩, _⟩ := hm.iter _ _ hx; rw [hno] at h2; cases h2
    | dead => rw [hob] at hx; have h2 := hm.dead _ hx; rw [hno] at h2; cases h2
    | free => rw [hob] at hx; obtain ⟨_, h2⟩ := hm.free _ hx; rw [hno] at h2; cases h2
    | row a e v c =>
      rw [hob] at hx
      rcases hm.row _ _ _ _ _ hx with h2 | ⟨_, _, _, h2, _⟩ <;> (rw [hno] at h2; cases h2)
  · exact h1
theorem TC.base {X : Ctx} {c : Code} {q : Exit → St → Prop} {st : St} (k : X.s0.H.length ≤ st.H.length → TC X c st q) : TC X c st q :=
  fun a w hi => k hi.base a w hi

/-- slots, variables and objects that nothing needs are forgotten -/
theorem Inv.trim {X : Ctx} {sl sl' : List (Nat × V)} {bx bx' : List (Nat × List M)} {H : Hp} {a : Act} {w : World} (n : Nat) (hb : X.s0.H.length ≤ n) (hn : n ≤ H.length) (hs : ∀ t v, get sl' t = some v → get sl t = some v ∧ VB n v)
    (hbx : ∀ t cs, get bx' t = some cs → get bx t = some cs ∧ ∀ m ∈ cs, MB n m) (hH : HB n (H.take n)) (h : Inv X ⟨sl, bx, H⟩ a w) : Inv X ⟨sl', bx', H.take n⟩ a w := by
  obtain ⟨σ, lam, rfl, hi⟩ := h
  have hHe : σ.H = H := hi.hH
  let O' : Nat → Nat → Prop := fun b o => Oof X.Oout lam bx' b o ∨ ∃ (i : Nat) (ob : Ob), (H.take n)[i]? = some ob ∧ σ.l i = b ∧ ob.owns o
  let τ : Sg := ⟨σ.w, O', σ.l, H.take n⟩
  have htk : ∀ (i : Nat) ob, (H.take n)[i]? = some ob → i < n ∧ σ.H[i]? = some ob := by
    intro i ob hi
    rw [List.getElem?_take] at hi
    split at hi
    · exact ⟨by assumption, by rw [hHe]; exact hi⟩
    · cases hi
  have htk2 : ∀ (i : Nat) ob, i < n → σ.H[i]? = some ob → (H.take n)[i]? = some ob := by
    intro i ob hi h
    rw [List.getElem?_take, if_pos hi, ← hHe]; exact h
  have hOof : ∀ b o, Oof X.Oout lam bx' b o → Oof X.Oout lam bx b o := by
    rintro b o (h | ⟨u, cs, h1, h2⟩)
    · exact .inl h
    · exact .inr ⟨u, cs, (hbx u cs h1).1, h2⟩
  have hO : ∀ b o, ¬ σ.O b o → ¬ τ.O b o := by
    intro b o h1 h2
    apply h1
    rw [hi.hinv.own]
    rcases h2 with h2 | ⟨i, ob, h2, h3, h4⟩
    · exact .inl (hOof b o h2)
    · exact .inr ⟨i, ob, (htk i ob h2).2, h3, h4⟩
  have hRM : ∀ m v, MB n m → RM σ m v → RM τ m v := by
    intro m v hm
    induction hm generalizing v with
    | d x => intro h; cases h with
      | d h => exact .d (h.mono fun b o v h1 h2 => ⟨h1, hO b o h2⟩)
    | ref i off hi => intro h; cases h with
      | ref i off cs h => exact .ref i off cs (htk2 i _ hi h)
    | rsl i ver len hi => intro h; cases h with
      | rsl i ver len a cap hle hcur =>
        refine .rsl i ver len a cap ?_ fun acc ec cs h => hcur acc ec cs (htk i _ h).2
        rcases hle with h | ⟨acc, ec, ver', cs, h, h2⟩
        · exact .inl (htk2 i _ hi h)
        · exact .inr ⟨acc, ec, ver', cs, htk2 i _ hi h, h2⟩
    | rref i ver off hi => intro h; cases h with
      | rref i ver off b hle hcur =>
        refine .rref i ver off b ?_ fun acc ec cs h => hcur acc ec cs (htk i _ h).2
        rcases hle with h | ⟨acc, ec, ver', cs, h, h2⟩
        · exact .inl (htk2 i _ hi h)
        · exact .inr ⟨acc, ec, ver', cs, htk2 i _ hi h, h2⟩
    | mp i hi => intro h; cases h with
      | mp i es h => exact .mp i es (htk2 i _ hi h)
    | it i hi => intro h; cases h with
      | it i x h => exact .it i x (htk2 i _ hi h)
    | agg cs hc ih => intro h; cases h with
      | agg cs vs hl hf h => exact .agg cs vs hl hf fun i m v h1 h2 => ih m (List.mem_of_getElem? h1) v (h i m v h1 h2)
    | fn f cs hc ih => intro h; cases h with
      | fn f cs vs hlt hl h => exact .fn f cs vs hlt hl fun i m v h1 h2 => ih m (List.mem_of_getElem? h1) v (h i m v h1 h2)
      | fnB f g cs vs hg hl h => exact .fnB f _ cs vs hg hl fun i m v h1 h2 => ih m (List.mem_of_getElem? h1) v (h i m v h1 h2)
    | tup cs hc ih => intro h; cases h with
      | tup cs vs hl h => exact .tup cs vs hl fun i m v h1 h2 => ih m (List.mem_of_getElem? h1) v (h i m v h1 h2)
    | undef => intro h; exact .undef v
  have hob : ∀ (b : Nat) ob, ObB n ob → ObOk σ b ob → ObOk τ b ob := by
    intro b ob hb h1
    exact ObOk.down (σ := τ) (τ := σ) (ρ := fun i => i) (n := n) rfl (fun m v hm hv => hRM m v hm (by rw [renM_id] at hv; exact hv)) hb (by rw [renOb_id]; exact h1)
  have hlt : ∀ (i : Nat) ob, X.s0.H[i]? = some ob → i < n := fun i ob h => by have := lt_of_get h; omega
  have hmo := hi.mono
  refine ⟨τ, lam, rfl, rfl, hi.defers, hi.size, ?_, ?_, ?_, ?_, ?_, ?_, ?_, ?_⟩
  · intro t v hv
    obtain ⟨h1, h2⟩ := hs t v hv
    obtain ⟨u, h3, h4⟩ := hi.slot t v h1
    refine ⟨u, h3, ?_⟩
    cases h4 with
    | m h => exact .m (hRM _ _ h2 h)
    | loc t off => exact .loc t off
    | tl _ _ _ _ _ _ _ _ => exact h2.elim
  · intro t cs ht
    obtain ⟨h1, h2⟩ := hbx t cs ht
    exact hob _ (.box cs) h2 (hi.box t cs h1)
  · intro t u cs ds ht hu
    exact hi.binj t u cs ds (hbx t cs ht).1 (hbx u ds hu).1
  · intro t cs ht
    exact hi.bsep t cs (hbx t cs ht).1
  · intro t cs ht
    exact hi.bnew t cs (hbx t cs ht).1
  · refine ⟨?_, ?_, fun b o => Iff.rfl, ?_, ?_⟩
    · intro i ob h1
      exact hob _ ob (hH ob (List.mem_of_getElem? h1)) (hi.hinv.obj i ob (htk i ob h1).2)
    · intro i j x y h1 h2
      exact hi.hinv.inj i j x y (htk i x h1).2 (htk j y h2).2
    · intro i ob h1 h2 o h3
      exact hi.hinv.sep i ob (htk i ob h1).2 h2 o (hOof _ _ h3)
    · exact fun b o h1 => hi.hinv.old b o (hOof b o h1)
  · refine ⟨?_, ?_, ?_, ?_, ?_, ?_, fun i hi => let ⟨ob, h1⟩ := hmo.has i _ hi; ⟨ob, htk2 i _ (hlt i _ hi) h1⟩⟩
    · intro b o v h1 h2
      have h3 := hmo.cell b o v h1 h2
      exact ⟨h3.1, hO b o h3.2⟩
    · intro i cs h
      obtain ⟨⟨cs', h1⟩, h2⟩ := hmo.box i cs h
      exact ⟨⟨cs', htk2 i _ (hlt i _ h) h1⟩, h2⟩
    · intro i cs h
      obtain ⟨⟨cs', h1⟩, h2⟩ := hmo.map i cs h
      exact ⟨⟨cs', htk2 i _ (hlt i _ h) h1⟩, h2⟩
    · intro i cs h
      obtain ⟨⟨cs', h1⟩, h2⟩ := hmo.iter i cs h
      exact ⟨⟨cs', htk2 i _ (hlt i _ h) h1⟩, h2⟩
    · intro i h
      exact htk2 i _ (hlt i _ h) (hmo.dead i h)
    · intro i acc ec ver cs h
      rcases hmo.row i acc ec ver cs h with h1 | ⟨acc', ver', cs', h1, h2, h3⟩
      · exact .inl (htk2 i _ (hlt i _ h) h1)
      · exact .inr ⟨acc', ver', cs', htk2 i _ (hlt i _ h) h1, h2, h3⟩
  · refine ⟨hi.blk.os, hi.blk.output, hi.blk.tape, hi.blk.size, hi.blk.blk, ?_⟩
    intro i ob h hl
    exact hi.blk.loc i ob (htk i ob h).2 hl

def keepsB (n : Nat) (sl : List (Nat × V)) : List (Nat × V) → Prop
  | [] => True
  | (t, v) :: r => (get sl t = some v ∧ VB n v) ∧ keepsB n sl r
theorem keepsB_get {n : Nat} {sl : List (Nat × V)} : ∀ {sl' : List (Nat × V)}, keepsB n sl sl' → ∀ t v, get sl' t = some v → get sl t = some v ∧ VB n v
  | [], _, t, v, h => by simp [get] at h
  | (k, x) :: r, hk, t, v, h => by
    rw [get_cons] at h
    by_cases e : k = t
    · rw [if_pos e] at h; injection h with h; subst h; subst e; exact hk.1
    · rw [if_neg e] at h; exact keepsB_get hk.2 t v h
/-- the end of a round, in which all that is not needed is forgotten -/
theorem againT {X : Ctx} {I : Nat → St → Prop} {k k' : Nat} {sl sl' : List (Nat × V)} {bx : List (Nat × List M)} {H H' : Hp} (n : Nat) (hb : X.s0.H.length ≤ n) (hn : n ≤ H.length) (hk : k' < k) (hI : I k' ⟨sl', [], H'⟩) (hT : H.take n = H') (hH : HB n H') (hs : keepsB n sl sl') :
    ∃ k' s'', k' < k ∧ I k' s'' ∧ ∀ a w, Inv X ⟨sl, bx, H⟩ a w → Inv X s'' a w :=
  ⟨k', _, hk, hI, fun _ _ hi => by subst hT; exact hi.trim n hb hn (keepsB_get hs) (by intro t cs h; simp [get] at h) hH⟩
theorem TC.trim {X : Ctx} {c : Code} {q : Exit → St → Prop} {sl sl' : List (Nat × V)} {bx : List (Nat × List M)} {H H' : Hp} (n : Nat) (hb : X.s0.H.length ≤ n) (hn : n ≤ H.length) (hT : H.take n = H') (hH : HB n H') (hs : keepsB n sl sl')
    (k : TC X c ⟨sl', [], H'⟩ q) : TC X c ⟨sl, bx, H⟩ q :=
  fun a w hi => k a w (by subst hT; exact hi.trim n hb hn (keepsB_get hs) (by intro t cs h; simp [get] at h) hH)

/-- a row that is not written any more -/
theorem Inv.freezeRow {X : Ctx} {sl : List (Nat × V)} {bx : List (Nat × List M)} {H : Hp} {a : Act} {w : World} {j ec ver : Nat} {cs : List M} (hH : H[j]? = some (.row false ec ver cs)) (h : Inv X ⟨sl, bx, H⟩ a w) :
    Inv X ⟨sl, bx, H.set j (.row true ec ver cs)⟩ a w := by
  obtain ⟨σ, lam, rfl, hi⟩ := h
  have hH' : σ.H[j]? = some (.row false ec ver cs) := by rw [hi.hH]; exact hH
  have hok := hi.hinv.obj j _ hH'
  obtain ⟨τ, g1, g2, g3, g4, g5⟩ := hi.updObj (j := j) (b' := σ.l j) (ob := .row false ec ver cs) (ob' := .row true ec ver cs) (w' := σ.w) hH trivial rfl rfl rfl (Nat.le_refl _)
    (fun c _ _ => rfl) (.inl rfl) (fun o v ho hc => absurd (Or.inl rfl) ho) ⟨rfl, .inr ⟨rfl, rfl, rfl, fun arr T h => ⟨arr, h, rfl⟩⟩⟩ (by
      intro τ hm hw' _ _
      obtain ⟨h0, arr, T, cap, n, h1, h2, h3, h4, h5⟩ := hok
      exact ⟨h0, arr, T, cap, n, by rw [hw']; exact h1, h2, h3, h4, fun i m v a b => ⟨(h5 i m v a b).1.mono hm, (h5 i m v a b).2⟩⟩)
  exact ⟨τ, lam, g1, g5⟩
theorem TC.freezeRow {X : Ctx} {c : Code} {q : Exit → St → Prop} {sl : List (Nat × V)} {bx : List (Nat × List M)} {H : Hp} (j : Nat) {ec ver : Nat} {cs : List M} (hH : H[j]? = some (.row false ec ver cs))
    (k : TC X c ⟨sl, bx, H.set j (.row true ec ver cs)⟩ q) : TC X c ⟨sl, bx, H⟩ q := fun a w hi => k a w (hi.freezeRow hH)

/-- cells of rows -/
theorem flatM_eq (rows : List (List D)) : flatM rows = (rows.flatten).map .d := by induction rows with
  | nil => rfl
  | cons r l ih => simp [flatM]
theorem flat_read {n : Nat} : ∀ {rows : List (List D)} {i off : Nat} {r : List D} {v : D}, (∀ r ∈ rows, r.length = n) → rows[i]? = some r → r[off]? = some v → (flatM rows)[i * n + off]? = some (.d v)
  | [], i, off, r, v, hl, hi, hv => by simp at hi
  | q :: rs, 0, off, r, v, hl, hi, hv => by
    simp at hi; subst hi
    have hlt : off < q.length := by rcases Nat.lt_or_ge off q.length with h | h; exact h; simp [List.getElem?_eq_none h] at hv
    rw [flatM_eq, List.flatten_cons, List.map_append, Nat.zero_mul, Nat.zero_add, List.getElem?_append_left (by simpa using hlt)]
    simp [hv]
  | q :: rs, i + 1, off, r, v, hl, hi, hv => by
    simp at hi
    have := flat_read (rows := rs) (fun r hr => hl r (List.mem_cons_of_mem _ hr)) hi hv
    have hq : q.length = n := hl q (by simp)
    have e : (i + 1) * n + off = q.length + (i * n + off) := by rw [hq, Nat.succ_mul]; omega
    rw [e, flatM_eq, List.flatten_cons, List.map_append, List.getElem?_append_right (by simp)]
    rw [flatM_eq] at this
    simpa using this
theorem flat_sub {n : Nat} : ∀ {rows : List (List D)} {i : Nat} {r : List D}, (∀ r ∈ rows, r.length = n) → rows[i]? = some r → ((flatM rows).drop (i * n)).take n = r.map .d
  | [], i, r, hl, hi => by simp at hi
  | q :: rs, 0, r, hl, hi => by
    simp at hi; subst hi
    have hq : q.length = n := hl q (by simp)
    rw [flatM_eq]
    simp [← hq]
  | q :: rs, i + 1, r, hl, hi => by
    simp at hi
    have := flat_sub (rows := rs) (fun r hr => hl r (List.mem_cons_of_mem _ hr)) hi
    have hq : q.length = n := hl q (by simp)
    have e : (i + 1) * n = (q.map M.d).length + i * n := by rw [List.length_map, hq, Nat.succ_mul]; omega
    rw [flatM_eq, List.flatten_cons, List.map_append, e, ← List.drop_drop, List.drop_left]
    rw [flatM_eq] at this
    exact this
theorem allD_map (r : List D) : allD (r.map .d) = some r := by induction r with
  | nil => rfl
  | cons a r ih => simp [allD, ih]
theorem flat_length {n : Nat} {rows : List (List D)} (hl : ∀ r ∈ rows, r.length = n) : (flatM rows).length = rows.length * n := flatM_length hl
theorem flat_le {n : Nat} {rows : List (List D)} {i : Nat} {r : List D} (hl : ∀ r ∈ rows, r.length = n) (hi : rows[i]? = some r) : i * n + n ≤ (flatM rows).length := by
  rw [flat_length hl]
  have : i < rows.length := by rcases Nat.lt_or_ge i rows.length with h | h; exact h; simp [List.getElem?_eq_none h] at hi
  have h2 := Nat.mul_le_mul_right n (show i + 1 ≤ rows.length from this)
  rw [Nat.succ_mul] at h2
  exact h2
theorem flat_write {n : Nat} : ∀ {rows : List (List D)} {i off : Nat} {r : List D} (v : D), (∀ r ∈ rows, r.length = n) → rows[i]? = some r → off < n → writeAt (flatM rows) (i * n + off) [.d v] = some (flatM (rows.set i (r.set off v)))
  | rows, i, off, r, v, hl, hi, ho => by
    have hle := flat_le hl hi
    have hb : Nat.ble (i * n + off + [M.d v].length) (flatM rows).length = true := Nat.ble_eq_true_of_le (by simp; omega)
    rw [writeAt, hb, cond_true]
    congr 1
    have hrn : r.length = n := hl r (List.mem_of_getElem? hi)
    have hset : (flatM rows).take (i * n + off) ++ [M.d v] ++ (flatM rows).drop (i * n + off + [M.d v].length) = (flatM rows).set (i * n + off) (.d v) := by
      rw [List.set_eq_take_append_cons_drop, if_pos (by omega)]; simp
    rw [hset]
    clear hset hb hle
    induction rows generalizing i with
    | nil => simp at hi
    | cons q rs ih =>
      have hq : q.length = n := hl q (by simp)
      cases i with
      | zero =>
        simp at hi; subst hi
        simp only [List.set_cons_zero, flatM_eq, List.flatten_cons, List.map_append]
        rw [List.set_append_left _ _ (by simp; omega)]
        simp [List.map_set]
      | succ i =>
        simp at hi
        have := ih i (fun r hr => hl r (List.mem_cons_of_mem _ hr)) hi
        simp only [List.set_cons_succ, flatM_eq, List.flatten_cons, List.map_append] at this ⊢
        rw [List.set_append_right _ _ (by simp; rw [hq, Nat.succ_mul]; omega), ← this]
        congr 2
        simp
        rw [hq, Nat.succ_mul]; omega
end Go.Mt

set_option linter.unusedVariables false
namespace Go.Mt

theorem flat_writeRow {n : Nat} {rows : List (List D)} {i : Nat} {r : List D} (y : List D) (hl : ∀ r ∈ rows, r.length = n) (hi : rows[i]? = some r) (hy : y.length = n) : writeAt (flatM rows) (i * n) (y.map .d) = some (flatM (rows.set i y)) := by
  have hle := flat_le hl hi
  have hb : Nat.ble (i * n + (y.map M.d).length) (flatM rows).length = true := Nat.ble_eq_true_of_le (by simp; omega)
  rw [writeAt, hb, cond_true]
  congr 1
  clear hb hle
  induction rows generalizing i with
  | nil => simp at hi
  | cons q rs ih =>
    have hq : q.length = n := hl q (by simp)
    cases i with
    | zero =>
      have e : (y.map M.d).length = (q.map M.d).length := by simp [hy, hq]
      simp only [List.set_cons_zero, flatM_eq, List.flatten_cons, List.map_append, Nat.zero_mul, List.take_zero, List.nil_append, Nat.zero_add]
      rw [e, List.drop_left]
    | succ i =>
      simp at hi
      have := ih (fun r hr => hl r (List.mem_cons_of_mem _ hr)) hi
      have e : (i + 1) * n = (q.map M.d).length + i * n := by rw [List.length_map, hq, Nat.succ_mul]; omega
      simp only [List.set_cons_succ, flatM_eq, List.flatten_cons, List.map_append] at this ⊢
      rw [e, List.take_length_add_append, Nat.add_assoc, ← List.drop_drop, List.drop_left, List.append_assoc, List.append_assoc, ← this, List.append_assoc]

def app0M (H : Hp) (rows : List (List D)) : M := match rows with
  | [] => .d (.sl [])
  | _ :: r => .rsl H.length 0 (r.length + 1)
def app0H (H : Hp) (ec : Nat) (rows : List (List D)) : Hp := match rows with
  | [] => H
  | q :: r => H ++ [.row true ec 0 (flatM (q :: r))]
def app1H (H : Hp) (ec : Nat) (r1 r2 : List (List D)) : Hp := match r1, r2 with
  | [], [] => H
  | [], q :: r => H ++ [.row true ec 0 (flatM (q :: r))]
  | q :: r, r2 => H ++ [.row true ec 1 (flatM (q :: r) ++ flatM r2)]
theorem app0H_take (H : Hp) (ec : Nat) (r1 : List (List D)) : (app0H H ec r1).take H.length = H := by cases r1 <;> simp [app0H]
theorem app1H_take (H : Hp) (ec : Nat) (r1 r2 : List (List D)) : (app1H H ec r1 r2).take H.length = H := by cases r1 <;> cases r2 <;> simp [app1H]
theorem app1H_len (H : Hp) (ec : Nat) (r1 r2 : List (List D)) : H.length ≤ (app1H H ec r1 r2).length := by cases r1 <;> cases r2 <;> simp [app1H]


theorem get_mem {α : Type} : ∀ {l : List (Nat × α)} {t : Nat} {v : α}, get l t = some v → (t, v) ∈ l
  | [], t, v, h => by simp [get] at h
  | (k, x) :: r, t, v, h => by
    rw [get_cons] at h
    by_cases e : k = t
    · rw [if_pos e] at h; injection h with h; subst h; subst e; simp
    · rw [if_neg e] at h; exact List.mem_cons_of_mem _ (get_mem h)
/-- objects that nothing needs are forgotten -/
theorem TC.trimB {X : Ctx} {c : Code} {q : Exit → St → Prop} {sl sl' : List (Nat × V)} {bx : List (Nat × List M)} {H H' : Hp} (n : Nat) (hb : X.s0.H.length ≤ n) (hn : n ≤ H.length) (hT : H.take n = H') (hH : HB n H') (hs : keepsB n sl sl') (hbx : (bx.all fun p => mbbs n p.2) = true)
    (k : TC X c ⟨sl', bx, H'⟩ q) : TC X c ⟨sl, bx, H⟩ q :=
  fun a w hi => k a w (by subst hT; exact hi.trim n hb hn (keepsB_get hs) (by intro t cs h; exact ⟨h, mbbs_ok (List.all_eq_true.1 hbx _ (get_mem h))⟩) hH)
end Go.Mt

set_option linter.unusedVariables false
namespace Go.Mt
variable {X : Ctx} {ops : Array Oper} {rest : List Oper} {post : St → Prop} {sl : List (Nat × V)} {bx : List (Nat × List M)} {H : Hp} {d ty : Nat} {pos : String} {af : Array Edge}
/-- a variable of the frame that is handed on by its address: an object of the heap -/
theorem t_allocH {T : Nat} {cs : List M} [hz : TyZc X.P T cs] (hn : Nat.blt d X.n = true) (k : TL X ops rest ⟨(d, .m (.ref H.length 0)) :: sl, bx, H ++ [Ob.box cs]⟩ post) :
    TL X ops (⟨some d, .alloc T, ty, pos, af, none⟩ :: rest) ⟨sl, bx, H⟩ post := by
  obtain ⟨z, h1, h2⟩ := hz.h
  subst h2
  exact TL.o1 rfl rfl hn op_allocH k
end Go.Mt
