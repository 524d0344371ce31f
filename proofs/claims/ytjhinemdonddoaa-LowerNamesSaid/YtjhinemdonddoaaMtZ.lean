import Derived.Test.YtjhinemdonddoaaMtY
set_option linter.unusedVariables false
set_option linter.unusedSimpArgs false
namespace Go.Mt

section mk
variable {X : Ctx} {st : St} {dst : Option Nat} {ty : Nat} {pos : String} {af : Array Edge} {g : Option (Nat × Bool)}
theorem op_makeSlice {T e n nb len : Nat} {x y : Operand} {k1 k2 : IntKind} {z : D} [ht : TySlice X.P T e] [hs : TySz X.P e n] [hb : TyB X.P e nb] [hz : TyZ X.P e z] (hn : Nat.blt 0 n = true) (hzl : (dcells z).length = n)
    (hx : st.ev x = some (.m (.d (.int k1 len)))) (hy : st.ev y = some (.m (.d (.int k2 len)))) (hroom : len * nb ≤ 140737488355328) (hmax : len ≤ 140737488355328) :
    OpT X ⟨dst, .makeSlice T x y, ty, pos, af, g⟩ st (eqp (.m (.rsl st.H.length 0 len)) ⟨st.sl, st.bx, st.H ++ [.row false n 0 (zlist n len (dcells z))]⟩) := by
  intro a σ lam hi
  have hn' := blt_lt hn
  have h1 := hi.evint hx
  have h2 := hi.evint hy
  obtain ⟨inf, i1, i2, i3⟩ := bytes_run hs.size hb.bytes
  obtain ⟨v, hz1, hz2⟩ := (tyZero_of hz.zero).run
  have hvc : RMc σ ((dcells z).map .d) v.cells := (RM.d (dOfVal_rep hz2) : RM σ (.d z) v).cells rfl
  have hvs : v.cells.size = n := by rw [hvc.1]; simpa using hzl
  have hc : RMc σ (zlist n len (dcells z)) ((Array.range (len * n)).map fun i => v.cells[i % v.cells.size]!) := by
    refine ⟨by simp [zlist], fun i m u hm hu => ?_⟩
    have hi' : i < len * n := by
      rcases Nat.lt_or_ge i (len * n) with h | h
      · exact h
      · rw [Array.getElem?_eq_none (by simpa using h)] at hu; cases hu
    have hmod : i % n < n := Nat.mod_lt _ hn'
    have hmd : i % n < (dcells z).length := by omega
    simp [zlist, hi', hzl] at hm
    simp [hi', hvs] at hu
    have hlt : i % n < v.cells.size := by omega
    subst hm; subst hu
    refine hvc.2 (i % n) _ _ ?_ ?_
    · simp [List.getElem?_eq_getElem hmd]
    · simp [hlt]
  obtain ⟨τ, g1, g2, g3, g4, g5⟩ := hi.newObj (.row false n 0 (zlist n len (dcells z))) (.cells ((Array.range (len * n)).map fun i => v.cells[i % v.cells.size]!) e (0, 0)) (by
    intro τ hm hw
    refine ⟨hn', _, e, len, len, by rw [hw]; exact push_self _ _, by simp, Nat.le_refl _, ⟨by simp [zlist], hmax⟩, ?_⟩
    intro k m u hm' hu
    exact ⟨(hc.2 k m u hm' hu).1.mono hm, (hc.2 k m u hm' hu).2⟩)
  refine OpRun.value (u := .slice (some ⟨σ.w.heap.size, 0, none⟩) len len) (w' := τ.w) ?_ ⟨_, _, τ, lam, ⟨rfl, rfl⟩, rfl, g5, ?_⟩
  · have hti : ∀ w : World, (typeInfo e).run X.P w = .ok inf w := fun w => by simp [typeInfo, program, Sem.run, i1]
    have hund : ∀ w : World, (underlying T).run X.P w = .ok (.slice e) w := fun w => by simp [underlying, program, Sem.run, ht.u]
    have hwrap : IntKind.i64.wrap (len : Int) = len := IntWalk.i64_in _ ⟨by omega, by omega⟩
    have hbig : ¬ ((inf.bytes : Int) * (len : Int) > 2 ^ 48) := by
      rw [i3]
      have : ((len * nb : Nat) : Int) ≤ 140737488355328 := by omega
      rw [Int.natCast_mul, Int.mul_comm] at this
      omega
    have hnneg : ¬ ((len : Int) < 0) := by omega
    have hroom' : ¬ (len * inf.bytes > roomBytes) := by rw [i3]; unfold roomBytes; omega
    by_cases h0 : len * n = 0
    · have hl0 : len = 0 := by
        rcases Nat.mul_eq_zero.1 h0 with h | h
        · exact h
        · omega
      subst hl0
      have e0 : Array.range 0 = (#[] : Array Nat) := by decide
      have w0 : IntKind.i64.wrap 0 = 0 := by decide
      simp only [execOp, Instr.makeSlice, h1, h2, asInt, asIntOf]
      simp [hund, hti, w0, size_run hs.size, askRoom, roomBytes, newRow, newObj, Sem.run, g1, e0]
    · simp only [execOp, Instr.makeSlice, h1, h2, asInt, asIntOf]
      simp [hund, hti, hwrap, size_run hs.size, askRoom, newRow, newObj, Sem.run, g1, hbig, hnneg, hroom', h0, hz1]
      first | done | omega | (split <;> first | rfl | omega)
  · have hHe : σ.H.length = st.H.length := by rw [hi.hH]
    have g2' : τ.l st.H.length = σ.w.heap.size := by rw [← hHe]; exact g2
    refine .m (.rsl _ 0 len _ len (.inr ⟨false, n, 0, zlist n len (dcells z), by rw [g3]; simp, Nat.le_refl _⟩) ?_)
    intro acc' ec' cs' hh
    rw [g3] at hh
    simp at hh
    obtain ⟨e1, e2, e3⟩ := hh
    subst e1; subst e2; subst e3
    exact ⟨by rw [g2'], by simp [zlist], _, e, by rw [g2', g1]; exact push_self _ _, by simp⟩
end mk

section rules
variable {X : Ctx} {ops : Array Oper} {rest : List Oper} {post : St → Prop} {postF : List Ef → St → Prop} {sl : List (Nat × V)} {bx : List (Nat × List M)} {H : Hp} {d ty : Nat} {pos : String} {af : Array Edge}

theorem StepF.heapW {o : Oper} {v : V} {H' : Hp} {st : St} (hg : o.guard = none) (hd : o.dst = some d) (hn : d < X.n)
    (h : ∀ st2, Ag ops o ⟨some d, v, [], [], none, true, some H'⟩ st st2 → OpT X o st2 (eqp v ⟨st2.sl, st2.bx, H'⟩)) : StepF X ops o ⟨some d, v, [], [], none, true, some H'⟩ st :=
  fun st2 ag => (h st2 ag).opS hg hd hn
theorem StepF.heapW0 {o : Oper} {v : V} {H' : Hp} {st : St} (hg : o.guard = none) (hd : o.dst = none)
    (h : ∀ st2, Ag ops o ⟨none, v, [], [], none, true, some H'⟩ st st2 → OpT X o st2 (eqp v ⟨st2.sl, st2.bx, H'⟩)) : StepF X ops o ⟨none, v, [], [], none, true, some H'⟩ st :=
  fun st2 ag => (h st2 ag).opS0 hg hd

theorem t_loadRc {T : Nat} {x : Operand} {i off : Nat} {cs : List M} {m : M} [ht : TyCell X.P T] (hn : Nat.blt d X.n = true) (hx : evs sl x = some (.m (.ref i off))) (hH : H[i]? = some (.box cs)) (hr : cs[off]? = some m) (k : TL X ops rest ⟨(d, (.m m)) :: sl, bx, H⟩ post) : TL X ops (⟨some d, .load T x, ty, pos, af, none⟩ :: rest) ⟨sl, bx, H⟩ post :=
  TL.o1 rfl rfl hn (op_loadR hx hH (by simp [readAt, ht.cell, hr])) k
theorem f_loadRc {T : Nat} {x : Operand} {i off : Nat} {cs : List M} {m : M} [ht : TyCell X.P T] (hn : Nat.blt d X.n = true) (hx : evs sl x = some (.m (.ref i off))) (hH : H[i]? = some (.box cs)) (hr : cs[off]? = some m) (k : TF X ops rest ⟨(d, (.m m)) :: sl, bx, H⟩ fun ees zz => postF (⟨some d, (.m m), [], [], none, true, none⟩ :: ees) zz) : TF X ops (⟨some d, .load T x, ty, pos, af, none⟩ :: rest) ⟨sl, bx, H⟩ postF :=
  TF.cons (e := ⟨some d, (.m m), [], [], none, true, none⟩) (StepF.quiet rfl rfl (blt_lt hn) fun st2 ag => op_loadR ((ag.ev (x := x) (by simp [Op.operands, Call.operands])).trans hx) (by rw [ag.H rfl]; exact hH) (by simp [readAt, ht.cell, hr])) rfl k
theorem t_loadRa {T n : Nat} {x : Operand} {i off : Nat} {cs cs2 : List M} {ds : List D} [ht : TyAgg X.P T n] (hn : Nat.blt d X.n = true) (hx : evs sl x = some (.m (.ref i off))) (hH : H[i]? = some (.box cs)) (hs : sub cs off n = some cs2) (hr : allD cs2 = some ds) (k : TL X ops rest ⟨(d, (.m (.d (.agg ds)))) :: sl, bx, H⟩ post) : TL X ops (⟨some d, .load T x, ty, pos, af, none⟩ :: rest) ⟨sl, bx, H⟩ post :=
  TL.o1 rfl rfl hn (op_loadR hx hH (by simp [readAt, ht.agg, ht.size, Nat.ble_eq_true_of_le (sub_eq hs).1, pack, (sub_eq hs).2, hr])) k
theorem f_loadRa {T n : Nat} {x : Operand} {i off : Nat} {cs cs2 : List M} {ds : List D} [ht : TyAgg X.P T n] (hn : Nat.blt d X.n = true) (hx : evs sl x = some (.m (.ref i off))) (hH : H[i]? = some (.box cs)) (hs : sub cs off n = some cs2) (hr : allD cs2 = some ds) (k : TF X ops rest ⟨(d, (.m (.d (.agg ds)))) :: sl, bx, H⟩ fun ees zz => postF (⟨some d, (.m (.d (.agg ds))), [], [], none, true, none⟩ :: ees) zz) : TF X ops (⟨some d, .load T x, ty, pos, af, none⟩ :: rest) ⟨sl, bx, H⟩ postF :=
  TF.cons (e := ⟨some d, (.m (.d (.agg ds))), [], [], none, true, none⟩) (StepF.quiet rfl rfl (blt_lt hn) fun st2 ag => op_loadR ((ag.ev (x := x) (by simp [Op.operands, Call.operands])).trans hx) (by rw [ag.H rfl]; exact hH) (by simp [readAt, ht.agg, ht.size, Nat.ble_eq_true_of_le (sub_eq hs).1, pack, (sub_eq hs).2, hr])) rfl k
theorem t_loadWc {T : Nat} {x : Operand} {i ver off ec : Nat} {acc : Bool} {cs : List M} {m : M} [ht : TyCell X.P T] (hn : Nat.blt d X.n = true) (hx : evs sl x = some (.m (.rref i ver off))) (hH : H[i]? = some (.row acc ec ver cs)) (hr : cs[off]? = some m) (k : TL X ops rest ⟨(d, (.m m)) :: sl, bx, H⟩ post) : TL X ops (⟨some d, .load T x, ty, pos, af, none⟩ :: rest) ⟨sl, bx, H⟩ post :=
  TL.o1 rfl rfl hn (op_loadW hx hH (by simp [readAt, ht.cell, hr])) k
theorem f_loadWc {T : Nat} {x : Operand} {i ver off ec : Nat} {acc : Bool} {cs : List M} {m : M} [ht : TyCell X.P T] (hn : Nat.blt d X.n = true) (hx : evs sl x = some (.m (.rref i ver off))) (hH : H[i]? = some (.row acc ec ver cs)) (hr : cs[off]? = some m) (k : TF X ops rest ⟨(d, (.m m)) :: sl, bx, H⟩ fun ees zz => postF (⟨some d, (.m m), [], [], none, true, none⟩ :: ees) zz) : TF X ops (⟨some d, .load T x, ty, pos, af, none⟩ :: rest) ⟨sl, bx, H⟩ postF :=
  TF.cons (e := ⟨some d, (.m m), [], [], none, true, none⟩) (StepF.quiet rfl rfl (blt_lt hn) fun st2 ag => op_loadW ((ag.ev (x := x) (by simp [Op.operands, Call.operands])).trans hx) (by rw [ag.H rfl]; exact hH) (by simp [readAt, ht.cell, hr])) rfl k
theorem t_loadWa {T n : Nat} {x : Operand} {i ver off ec : Nat} {acc : Bool} {cs cs2 : List M} {ds : List D} [ht : TyAgg X.P T n] (hn : Nat.blt d X.n = true) (hx : evs sl x = some (.m (.rref i ver off))) (hH : H[i]? = some (.row acc ec ver cs)) (hs : (cs.drop off).take n = cs2) (hle : off + n ≤ cs.length) (hr : allD cs2 = some ds) (k : TL X ops rest ⟨(d, (.m (.d (.agg ds)))) :: sl, bx, H⟩ post) : TL X ops (⟨some d, .load T x, ty, pos, af, none⟩ :: rest) ⟨sl, bx, H⟩ post :=
  TL.o1 rfl rfl hn (op_loadW hx hH (by simp [readAt, ht.agg, ht.size, Nat.ble_eq_true_of_le hle, pack, hs, hr])) k
theorem f_loadWa {T n : Nat} {x : Operand} {i ver off ec : Nat} {acc : Bool} {cs cs2 : List M} {ds : List D} [ht : TyAgg X.P T n] (hn : Nat.blt d X.n = true) (hx : evs sl x = some (.m (.rref i ver off))) (hH : H[i]? = some (.row acc ec ver cs)) (hs : (cs.drop off).take n = cs2) (hle : off + n ≤ cs.length) (hr : allD cs2 = some ds) (k : TF X ops rest ⟨(d, (.m (.d (.agg ds)))) :: sl, bx, H⟩ fun ees zz => postF (⟨some d, (.m (.d (.agg ds))), [], [], none, true, none⟩ :: ees) zz) : TF X ops (⟨some d, .load T x, ty, pos, af, none⟩ :: rest) ⟨sl, bx, H⟩ postF :=
  TF.cons (e := ⟨some d, (.m (.d (.agg ds))), [], [], none, true, none⟩) (StepF.quiet rfl rfl (blt_lt hn) fun st2 ag => op_loadW ((ag.ev (x := x) (by simp [Op.operands, Call.operands])).trans hx) (by rw [ag.H rfl]; exact hH) (by simp [readAt, ht.agg, ht.size, Nat.ble_eq_true_of_le hle, pack, hs, hr])) rfl k
theorem t_indexR {t e ec : Nat} {x y : Operand} {j ver len : Nat} {acc : Bool} {cs : List M} {kk : IntKind} {i : Int} [ht : TySlice X.P t e] [hs : TySz X.P e ec] (hn : Nat.blt d X.n = true) (hx : evs sl x = some (.m (.rsl j ver len))) (hy : evs sl y = some (.m (.d (.int kk i)))) (hH : H[j]? = some (.row acc ec ver cs)) (h0 : 0 ≤ i) (hlt : i < len) (k : TL X ops rest ⟨(d, (.m (.rref j ver (i.toNat * ec)))) :: sl, bx, H⟩ post) : TL X ops (⟨some d, .indexAddr t x y, ty, pos, af, none⟩ :: rest) ⟨sl, bx, H⟩ post :=
  TL.o1 rfl rfl hn (op_indexR hx hy hH h0 hlt) k
theorem f_indexR {t e ec : Nat} {x y : Operand} {j ver len : Nat} {acc : Bool} {cs : List M} {kk : IntKind} {i : Int} [ht : TySlice X.P t e] [hs : TySz X.P e ec] (hn : Nat.blt d X.n = true) (hx : evs sl x = some (.m (.rsl j ver len))) (hy : evs sl y = some (.m (.d (.int kk i)))) (hH : H[j]? = some (.row acc ec ver cs)) (h0 : 0 ≤ i) (hlt : i < len) (k : TF X ops rest ⟨(d, (.m (.rref j ver (i.toNat * ec)))) :: sl, bx, H⟩ fun ees zz => postF (⟨some d, (.m (.rref j ver (i.toNat * ec))), [], [], none, true, none⟩ :: ees) zz) : TF X ops (⟨some d, .indexAddr t x y, ty, pos, af, none⟩ :: rest) ⟨sl, bx, H⟩ postF :=
  TF.cons (e := ⟨some d, (.m (.rref j ver (i.toNat * ec))), [], [], none, true, none⟩) (StepF.quiet rfl rfl (blt_lt hn) fun st2 ag => op_indexR ((ag.ev (x := x) (by simp [Op.operands, Call.operands])).trans hx) ((ag.ev (x := y) (by simp [Op.operands, Call.operands])).trans hy) (by rw [ag.H rfl]; exact hH) h0 hlt) rfl k
theorem t_lenR {t e : Nat} {x : Operand} {j ver len : Nat} [ht : TySlice X.P t e] (hn : Nat.blt d X.n = true) (hx : evs sl x = some (.m (.rsl j ver len))) (k : TL X ops rest ⟨(d, (.m (.d (.int .i64 len)))) :: sl, bx, H⟩ post) : TL X ops (⟨some d, .call ⟨.builtin .len, #[x], #[t]⟩, ty, pos, af, none⟩ :: rest) ⟨sl, bx, H⟩ post :=
  TL.o1 rfl rfl hn (op_lenR hx) k
theorem f_lenR {t e : Nat} {x : Operand} {j ver len : Nat} [ht : TySlice X.P t e] (hn : Nat.blt d X.n = true) (hx : evs sl x = some (.m (.rsl j ver len))) (k : TF X ops rest ⟨(d, (.m (.d (.int .i64 len)))) :: sl, bx, H⟩ fun ees zz => postF (⟨some d, (.m (.d (.int .i64 len))), [], [], none, true, none⟩ :: ees) zz) : TF X ops (⟨some d, .call ⟨.builtin .len, #[x], #[t]⟩, ty, pos, af, none⟩ :: rest) ⟨sl, bx, H⟩ postF :=
  TF.cons (e := ⟨some d, (.m (.d (.int .i64 len))), [], [], none, true, none⟩) (StepF.quiet rfl rfl (blt_lt hn) fun st2 ag => op_lenR ((ag.ev (x := x) (by simp [Op.operands, Call.operands])).trans hx)) rfl k
theorem t_lookup2 {T e : Nat} {x y : Operand} {i : Nat} {kk : ByteArray} {es : List (D × M)} {z : D} [ht : TyMapS X.P T e] [hz : TyZ X.P e z] (hn : Nat.blt d X.n = true) (hx : evs sl x = some (.m (.mp i))) (hy : evs sl y = some (.m (.d (.str kk)))) (hH : H[i]? = some (.map es)) (hk : strKeys es = true) (k : TL X ops rest ⟨(d, (.m (match lookM kk es with | some m => .tup [m, .d (.bool true)] | none => .tup [.d z, .d (.bool false)]))) :: sl, bx, H⟩ post) : TL X ops (⟨some d, .lookup T x y true, ty, pos, af, none⟩ :: rest) ⟨sl, bx, H⟩ post :=
  TL.o1 rfl rfl hn (op_lookup2 hx hy hH hk) k
theorem f_lookup2 {T e : Nat} {x y : Operand} {i : Nat} {kk : ByteArray} {es : List (D × M)} {z : D} [ht : TyMapS X.P T e] [hz : TyZ X.P e z] (hn : Nat.blt d X.n = true) (hx : evs sl x = some (.m (.mp i))) (hy : evs sl y = some (.m (.d (.str kk)))) (hH : H[i]? = some (.map es)) (hk : strKeys es = true) (k : TF X ops rest ⟨(d, (.m (match lookM kk es with | some m => .tup [m, .d (.bool true)] | none => .tup [.d z, .d (.bool false)]))) :: sl, bx, H⟩ fun ees zz => postF (⟨some d, (.m (match lookM kk es with | some m => .tup [m, .d (.bool true)] | none => .tup [.d z, .d (.bool false)])), [], [], none, true, none⟩ :: ees) zz) : TF X ops (⟨some d, .lookup T x y true, ty, pos, af, none⟩ :: rest) ⟨sl, bx, H⟩ postF :=
  TF.cons (e := ⟨some d, (.m (match lookM kk es with | some m => .tup [m, .d (.bool true)] | none => .tup [.d z, .d (.bool false)])), [], [], none, true, none⟩) (StepF.quiet rfl rfl (blt_lt hn) fun st2 ag => op_lookup2 ((ag.ev (x := x) (by simp [Op.operands, Call.operands])).trans hx) ((ag.ev (x := y) (by simp [Op.operands, Call.operands])).trans hy) (by rw [ag.H rfl]; exact hH) hk) rfl k
theorem t_lookup1 {T e : Nat} {x y : Operand} {i : Nat} {kk : ByteArray} {es : List (D × M)} {z : D} [ht : TyMapS X.P T e] [hz : TyZ X.P e z] (hn : Nat.blt d X.n = true) (hx : evs sl x = some (.m (.mp i))) (hy : evs sl y = some (.m (.d (.str kk)))) (hH : H[i]? = some (.map es)) (hk : strKeys es = true) (k : TL X ops rest ⟨(d, (.m (match lookM kk es with | some m => m | none => .d z))) :: sl, bx, H⟩ post) : TL X ops (⟨some d, .lookup T x y false, ty, pos, af, none⟩ :: rest) ⟨sl, bx, H⟩ post :=
  TL.o1 rfl rfl hn (op_lookup1 hx hy hH hk) k
theorem f_lookup1 {T e : Nat} {x y : Operand} {i : Nat} {kk : ByteArray} {es : List (D × M)} {z : D} [ht : TyMapS X.P T e] [hz : TyZ X.P e z] (hn : Nat.blt d X.n = true) (hx : evs sl x = some (.m (.mp i))) (hy : evs sl y = some (.m (.d (.str kk)))) (hH : H[i]? = some (.map es)) (hk : strKeys es = true) (k : TF X ops rest ⟨(d, (.m (match lookM kk es with | some m => m | none => .d z))) :: sl, bx, H⟩ fun ees zz => postF (⟨some d, (.m (match lookM kk es with | some m => m | none => .d z)), [], [], none, true, none⟩ :: ees) zz) : TF X ops (⟨some d, .lookup T x y false, ty, pos, af, none⟩ :: rest) ⟨sl, bx, H⟩ postF :=
  TF.cons (e := ⟨some d, (.m (match lookM kk es with | some m => m | none => .d z)), [], [], none, true, none⟩) (StepF.quiet rfl rfl (blt_lt hn) fun st2 ag => op_lookup1 ((ag.ev (x := x) (by simp [Op.operands, Call.operands])).trans hx) ((ag.ev (x := y) (by simp [Op.operands, Call.operands])).trans hy) (by rw [ag.H rfl]; exact hH) hk) rfl k
theorem t_max {t1 t2 : Nat} {x y : Operand} {kk : IntKind} {m n : Int} (hn : Nat.blt d X.n = true) (hx : evs sl x = some (.m (.d (.int kk m)))) (hy : evs sl y = some (.m (.d (.int kk n)))) (k : TL X ops rest ⟨(d, (.m (.d (.int kk (if n > m then n else m))))) :: sl, bx, H⟩ post) : TL X ops (⟨some d, .call ⟨.builtin .max, #[x, y], #[t1, t2]⟩, ty, pos, af, none⟩ :: rest) ⟨sl, bx, H⟩ post :=
  TL.o1 rfl rfl hn (op_max hx hy) k
theorem f_max {t1 t2 : Nat} {x y : Operand} {kk : IntKind} {m n : Int} (hn : Nat.blt d X.n = true) (hx : evs sl x = some (.m (.d (.int kk m)))) (hy : evs sl y = some (.m (.d (.int kk n)))) (k : TF X ops rest ⟨(d, (.m (.d (.int kk (if n > m then n else m))))) :: sl, bx, H⟩ fun ees zz => postF (⟨some d, (.m (.d (.int kk (if n > m then n else m)))), [], [], none, true, none⟩ :: ees) zz) : TF X ops (⟨some d, .call ⟨.builtin .max, #[x, y], #[t1, t2]⟩, ty, pos, af, none⟩ :: rest) ⟨sl, bx, H⟩ postF :=
  TF.cons (e := ⟨some d, (.m (.d (.int kk (if n > m then n else m)))), [], [], none, true, none⟩) (StepF.quiet rfl rfl (blt_lt hn) fun st2 ag => op_max ((ag.ev (x := x) (by simp [Op.operands, Call.operands])).trans hx) ((ag.ev (x := y) (by simp [Op.operands, Call.operands])).trans hy)) rfl k
theorem t_min {t1 t2 : Nat} {x y : Operand} {kk : IntKind} {m n : Int} (hn : Nat.blt d X.n = true) (hx : evs sl x = some (.m (.d (.int kk m)))) (hy : evs sl y = some (.m (.d (.int kk n)))) (k : TL X ops rest ⟨(d, (.m (.d (.int kk (if n < m then n else m))))) :: sl, bx, H⟩ post) : TL X ops (⟨some d, .call ⟨.builtin .min, #[x, y], #[t1, t2]⟩, ty, pos, af, none⟩ :: rest) ⟨sl, bx, H⟩ post :=
  TL.o1 rfl rfl hn (op_min hx hy) k
theorem f_min {t1 t2 : Nat} {x y : Operand} {kk : IntKind} {m n : Int} (hn : Nat.blt d X.n = true) (hx : evs sl x = some (.m (.d (.int kk m)))) (hy : evs sl y = some (.m (.d (.int kk n)))) (k : TF X ops rest ⟨(d, (.m (.d (.int kk (if n < m then n else m))))) :: sl, bx, H⟩ fun ees zz => postF (⟨some d, (.m (.d (.int kk (if n < m then n else m)))), [], [], none, true, none⟩ :: ees) zz) : TF X ops (⟨some d, .call ⟨.builtin .min, #[x, y], #[t1, t2]⟩, ty, pos, af, none⟩ :: rest) ⟨sl, bx, H⟩ postF :=
  TF.cons (e := ⟨some d, (.m (.d (.int kk (if n < m then n else m)))), [], [], none, true, none⟩) (StepF.quiet rfl rfl (blt_lt hn) fun st2 ag => op_min ((ag.ev (x := x) (by simp [Op.operands, Call.operands])).trans hx) ((ag.ev (x := y) (by simp [Op.operands, Call.operands])).trans hy)) rfl k
theorem t_convI {s t : Nat} {x : Operand} {kk k2 k0 : IntKind} {n : Int} [hs : TyInt X.P s k0] [ht : TyInt X.P t k2] (hn : Nat.blt d X.n = true) (hx : evs sl x = some (.m (.d (.int kk n)))) (k : TL X ops rest ⟨(d, (.m (.d (.int k2 (k2.wrap n))))) :: sl, bx, H⟩ post) : TL X ops (⟨some d, .convert s t x, ty, pos, af, none⟩ :: rest) ⟨sl, bx, H⟩ post :=
  TL.o1 rfl rfl hn (op_convI hx) k
theorem f_convI {s t : Nat} {x : Operand} {kk k2 k0 : IntKind} {n : Int} [hs : TyInt X.P s k0] [ht : TyInt X.P t k2] (hn : Nat.blt d X.n = true) (hx : evs sl x = some (.m (.d (.int kk n)))) (k : TF X ops rest ⟨(d, (.m (.d (.int k2 (k2.wrap n))))) :: sl, bx, H⟩ fun ees zz => postF (⟨some d, (.m (.d (.int k2 (k2.wrap n)))), [], [], none, true, none⟩ :: ees) zz) : TF X ops (⟨some d, .convert s t x, ty, pos, af, none⟩ :: rest) ⟨sl, bx, H⟩ postF :=
  TF.cons (e := ⟨some d, (.m (.d (.int k2 (k2.wrap n)))), [], [], none, true, none⟩) (StepF.quiet rfl rfl (blt_lt hn) fun st2 ag => op_convI ((ag.ev (x := x) (by simp [Op.operands, Call.operands])).trans hx)) rfl k
theorem t_boxH {T : Nat} {x : Operand} {m : M} {cs : List M} (hn : Nat.blt d X.n = true) (hx : evs sl x = some (.m m)) (hc : cellsO m = some cs) (k : TL X ops rest ⟨(d, (.m (.ref H.length 0))) :: sl, bx, H ++ [Ob.box cs]⟩ post) : TL X ops (⟨some d, .box T x, ty, pos, af, none⟩ :: rest) ⟨sl, bx, H⟩ post :=
  TL.o1 rfl rfl hn ((by rw [← (cellsO_eq hc).1]; exact op_boxH hx (cellsO_eq hc).2)) k
theorem f_boxH {T : Nat} {x : Operand} {m : M} {cs : List M} (hn : Nat.blt d X.n = true) (hx : evs sl x = some (.m m)) (hc : cellsO m = some cs) (k : TF X ops rest ⟨(d, (.m (.ref H.length 0))) :: sl, bx, H ++ [Ob.box cs]⟩ fun ees zz => postF (⟨some d, (.m (.ref H.length 0)), [], [], none, true, some (H ++ [Ob.box cs])⟩ :: ees) zz) : TF X ops (⟨some d, .box T x, ty, pos, af, none⟩ :: rest) ⟨sl, bx, H⟩ postF :=
  TF.cons (e := ⟨some d, (.m (.ref H.length 0)), [], [], none, true, some (H ++ [Ob.box cs])⟩) (StepF.heapW rfl rfl (blt_lt hn) fun st2 ag => (by have hst := ag.H rfl; simp only at hst; have := (op_boxH (X := X) (st := st2) (dst := some d) (ty := ty) (pos := pos) (af := af) (g := none) (T := T) ((ag.ev (x := x) (by simp [Op.operands, Call.operands])).trans hx) (cellsO_eq hc).2); rw [hst] at this; rw [(cellsO_eq hc).1] at this; exact this)) rfl k
theorem t_makeMap {T : Nat} (hn : Nat.blt d X.n = true)  (k : TL X ops rest ⟨(d, (.m (.mp H.length))) :: sl, bx, H ++ [Ob.map []]⟩ post) : TL X ops (⟨some d, .makeMap T none, ty, pos, af, none⟩ :: rest) ⟨sl, bx, H⟩ post :=
  TL.o1 rfl rfl hn (op_makeMap) k
theorem f_makeMap {T : Nat} (hn : Nat.blt d X.n = true)  (k : TF X ops rest ⟨(d, (.m (.mp H.length))) :: sl, bx, H ++ [Ob.map []]⟩ fun ees zz => postF (⟨some d, (.m (.mp H.length)), [], [], none, true, some (H ++ [Ob.map []])⟩ :: ees) zz) : TF X ops (⟨some d, .makeMap T none, ty, pos, af, none⟩ :: rest) ⟨sl, bx, H⟩ postF :=
  TF.cons (e := ⟨some d, (.m (.mp H.length)), [], [], none, true, some (H ++ [Ob.map []])⟩) (StepF.heapW rfl rfl (blt_lt hn) fun st2 ag => (by have hst := ag.H rfl; simp only at hst; have := (op_makeMap (X := X) (st := st2) (dst := some d) (ty := ty) (pos := pos) (af := af) (g := none) (T := T)); rw [hst] at this; exact this)) rfl k
theorem t_makeSlice {T e n nb len : Nat} {x y : Operand} {k1 k2 : IntKind} {z : D} [ht : TySlice X.P T e] [hs : TySz X.P e n] [hb : TyB X.P e nb] [hz : TyZ X.P e z] (hn : Nat.blt d X.n = true) (hx : evs sl x = some (.m (.d (.int k1 len)))) (hy : evs sl y = some (.m (.d (.int k2 len)))) (h0 : Nat.blt 0 n = true) (hzl : (dcells z).length = n) (hroom : len * nb ≤ 140737488355328) (hmax : len ≤ 140737488355328) (k : TL X ops rest ⟨(d, (.m (.rsl H.length 0 len))) :: sl, bx, H ++ [Ob.row false n 0 (zlist n len (dcells z))]⟩ post) : TL X ops (⟨some d, .makeSlice T x y, ty, pos, af, none⟩ :: rest) ⟨sl, bx, H⟩ post :=
  TL.o1 rfl rfl hn (op_makeSlice h0 hzl hx hy hroom hmax) k
theorem f_makeSlice {T e n nb len : Nat} {x y : Operand} {k1 k2 : IntKind} {z : D} [ht : TySlice X.P T e] [hs : TySz X.P e n] [hb : TyB X.P e nb] [hz : TyZ X.P e z] (hn : Nat.blt d X.n = true) (hx : evs sl x = some (.m (.d (.int k1 len)))) (hy : evs sl y = some (.m (.d (.int k2 len)))) (h0 : Nat.blt 0 n = true) (hzl : (dcells z).length = n) (hroom : len * nb ≤ 140737488355328) (hmax : len ≤ 140737488355328) (k : TF X ops rest ⟨(d, (.m (.rsl H.length 0 len))) :: sl, bx, H ++ [Ob.row false n 0 (zlist n len (dcells z))]⟩ fun ees zz => postF (⟨some d, (.m (.rsl H.length 0 len)), [], [], none, true, some (H ++ [Ob.row false n 0 (zlist n len (dcells z))])⟩ :: ees) zz) : TF X ops (⟨some d, .makeSlice T x y, ty, pos, af, none⟩ :: rest) ⟨sl, bx, H⟩ postF :=
  TF.cons (e := ⟨some d, (.m (.rsl H.length 0 len)), [], [], none, true, some (H ++ [Ob.row false n 0 (zlist n len (dcells z))])⟩) (StepF.heapW rfl rfl (blt_lt hn) fun st2 ag => (by have hst := ag.H rfl; simp only at hst; have := (op_makeSlice (X := X) (st := st2) (dst := some d) (ty := ty) (pos := pos) (af := af) (g := none) (T := T) h0 hzl ((ag.ev (x := x) (by simp [Op.operands, Call.operands])).trans hx) ((ag.ev (x := y) (by simp [Op.operands, Call.operands])).trans hy) hroom hmax); rw [hst] at this; exact this)) rfl k
theorem t_append0 {T e n nb : Nat} {x y : Operand} {rows : List (List D)} {z : D} (acc : Bool) [ht : TySlice X.P T e] [hs : TySz X.P e n] [hb : TyB X.P e nb] [hz : TyZ X.P e z] (hn : Nat.blt d X.n = true) (hx : evs sl x = some (.m (.d (.sl [])))) (hy : evs sl y = some (.m (.d (.sl rows)))) (h0 : Nat.blt 0 n = true) (hzl : (dcells z).length = n) (hr : rows ≠ []) (hl : ∀ r ∈ rows, r.length = n) (hroom : rows.length * nb ≤ 140737488355328) (k : TL X ops rest ⟨(d, (.m (.rsl H.length 0 rows.length))) :: sl, bx, H ++ [Ob.row acc n 0 (flatM rows)]⟩ post) : TL X ops (⟨some d, .call ⟨.builtin .append, #[x, y], #[T, T]⟩, ty, pos, af, none⟩ :: rest) ⟨sl, bx, H⟩ post :=
  TL.o1 rfl rfl hn (op_append0 acc h0 hzl hx hy hr hl hroom) k
theorem f_append0 {T e n nb : Nat} {x y : Operand} {rows : List (List D)} {z : D} (acc : Bool) [ht : TySlice X.P T e] [hs : TySz X.P e n] [hb : TyB X.P e nb] [hz : TyZ X.P e z] (hn : Nat.blt d X.n = true) (hx : evs sl x = some (.m (.d (.sl [])))) (hy : evs sl y = some (.m (.d (.sl rows)))) (h0 : Nat.blt 0 n = true) (hzl : (dcells z).length = n) (hr : rows ≠ []) (hl : ∀ r ∈ rows, r.length = n) (hroom : rows.length * nb ≤ 140737488355328) (k : TF X ops rest ⟨(d, (.m (.rsl H.length 0 rows.length))) :: sl, bx, H ++ [Ob.row acc n 0 (flatM rows)]⟩ fun ees zz => postF (⟨some d, (.m (.rsl H.length 0 rows.length)), [], [], none, true, some (H ++ [Ob.row acc n 0 (flatM rows)])⟩ :: ees) zz) : TF X ops (⟨some d, .call ⟨.builtin .append, #[x, y], #[T, T]⟩, ty, pos, af, none⟩ :: rest) ⟨sl, bx, H⟩ postF :=
  TF.cons (e := ⟨some d, (.m (.rsl H.length 0 rows.length)), [], [], none, true, some (H ++ [Ob.row acc n 0 (flatM rows)])⟩) (StepF.heapW rfl rfl (blt_lt hn) fun st2 ag => (by have hst := ag.H rfl; simp only at hst; have := (op_append0 (X := X) (st := st2) (dst := some d) (ty := ty) (pos := pos) (af := af) (g := none) (T := T) acc h0 hzl ((ag.ev (x := x) (by simp [Op.operands, Call.operands])).trans hx) ((ag.ev (x := y) (by simp [Op.operands, Call.operands])).trans hy) hr hl hroom); rw [hst] at this; exact this)) rfl k
theorem t_appendR {T e n nb : Nat} {x y : Operand} {rows : List (List D)} {z : D} {j ver len : Nat} {acc : Bool} {cs : List M} [ht : TySlice X.P T e] [hs : TySz X.P e n] [hb : TyB X.P e nb] [hz : TyZ X.P e z] (hn : Nat.blt d X.n = true) (hx : evs sl x = some (.m (.rsl j ver len))) (hy : evs sl y = some (.m (.d (.sl rows)))) (hH : H[j]? = some (.row acc n ver cs)) (hzl : (dcells z).length = n) (hl : ∀ r ∈ rows, r.length = n) (hroom : (len + rows.length) * nb ≤ 140737488355328) (hmax : len + rows.length ≤ 140737488355328) (k : TL X ops rest ⟨(d, (.m (.rsl j (ver + 1) (len + rows.length)))) :: sl, bx, H.set j (Ob.row acc n (ver + 1) (cs ++ flatM rows))⟩ post) : TL X ops (⟨some d, .call ⟨.builtin .append, #[x, y], #[T, T]⟩, ty, pos, af, none⟩ :: rest) ⟨sl, bx, H⟩ post :=
  TL.o1 rfl rfl hn (op_appendR hzl hx hy hH hl hroom hmax) k
theorem f_appendR {T e n nb : Nat} {x y : Operand} {rows : List (List D)} {z : D} {j ver len : Nat} {acc : Bool} {cs : List M} [ht : TySlice X.P T e] [hs : TySz X.P e n] [hb : TyB X.P e nb] [hz : TyZ X.P e z] (hn : Nat.blt d X.n = true) (hx : evs sl x = some (.m (.rsl j ver len))) (hy : evs sl y = some (.m (.d (.sl rows)))) (hH : H[j]? = some (.row acc n ver cs)) (hzl : (dcells z).length = n) (hl : ∀ r ∈ rows, r.length = n) (hroom : (len + rows.length) * nb ≤ 140737488355328) (hmax : len + rows.length ≤ 140737488355328) (k : TF X ops rest ⟨(d, (.m (.rsl j (ver + 1) (len + rows.length)))) :: sl, bx, H.set j (Ob.row acc n (ver + 1) (cs ++ flatM rows))⟩ fun ees zz => postF (⟨some d, (.m (.rsl j (ver + 1) (len + rows.length))), [], [], none, true, some (H.set j (Ob.row acc n (ver + 1) (cs ++ flatM rows)))⟩ :: ees) zz) : TF X ops (⟨some d, .call ⟨.builtin .append, #[x, y], #[T, T]⟩, ty, pos, af, none⟩ :: rest) ⟨sl, bx, H⟩ postF :=
  TF.cons (e := ⟨some d, (.m (.rsl j (ver + 1) (len + rows.length))), [], [], none, true, some (H.set j (Ob.row acc n (ver + 1) (cs ++ flatM rows)))⟩) (StepF.heapW rfl rfl (blt_lt hn) fun st2 ag => (by have hst := ag.H rfl; simp only at hst; have := (op_appendR (X := X) (st := st2) (dst := some d) (ty := ty) (pos := pos) (af := af) (g := none) (T := T) hzl ((ag.ev (x := x) (by simp [Op.operands, Call.operands])).trans hx) ((ag.ev (x := y) (by simp [Op.operands, Call.operands])).trans hy) (by rw [ag.H rfl]; exact hH) hl hroom hmax); rw [hst] at this; exact this)) rfl k
theorem t_storeR {T n : Nat} {x y : Operand} {i off : Nat} {cs new cs2 : List M} {m : M} [hs : TySz X.P T n] (hx : evs sl x = some (.m (.ref i off))) (hy : evs sl y = some (.m m)) (hH : H[i]? = some (.box cs)) (hc : cellsO m = some new) (hl : Nat.beq new.length n = true) (hw : wr cs off new = some cs2) (k : TL X ops rest ⟨sl, bx, H.set i (Ob.box cs2)⟩ post) : TL X ops (⟨none, .store T x y, ty, pos, af, none⟩ :: rest) ⟨sl, bx, H⟩ post :=
  TL.op01 rfl rfl (op_storeR hx hy hH (by rw [(cellsO_eq hc).1]; exact Nat.eq_of_beq_eq_true hl) (cellsO_eq hc).2 (by rw [(cellsO_eq hc).1]; exact wr_eq hw)) k
theorem f_storeR {T n : Nat} {x y : Operand} {i off : Nat} {cs new cs2 : List M} {m : M} [hs : TySz X.P T n] (hx : evs sl x = some (.m (.ref i off))) (hy : evs sl y = some (.m m)) (hH : H[i]? = some (.box cs)) (hc : cellsO m = some new) (hl : Nat.beq new.length n = true) (hw : wr cs off new = some cs2) (k : TF X ops rest ⟨sl, bx, H.set i (Ob.box cs2)⟩ fun ees zz => postF (⟨none, .m .undef, [], [], none, true, some (H.set i (Ob.box cs2))⟩ :: ees) zz) : TF X ops (⟨none, .store T x y, ty, pos, af, none⟩ :: rest) ⟨sl, bx, H⟩ postF :=
  TF.cons (e := ⟨none, .m .undef, [], [], none, true, some (H.set i (Ob.box cs2))⟩) (StepF.heapW0 rfl rfl fun st2 ag => (by have hst := ag.H rfl; simp only at hst; have := (op_storeR (X := X) (st := st2) (dst := none) (ty := ty) (pos := pos) (af := af) (g := none) (T := T) ((ag.ev (x := x) (by simp [Op.operands, Call.operands])).trans hx) ((ag.ev (x := y) (by simp [Op.operands, Call.operands])).trans hy) (by rw [ag.H rfl]; exact hH) (by rw [(cellsO_eq hc).1]; exact Nat.eq_of_beq_eq_true hl) (cellsO_eq hc).2 (by rw [(cellsO_eq hc).1]; exact wr_eq hw)); rw [hst] at this; exact this)) rfl k
theorem t_storeW {T n : Nat} {x y : Operand} {i ver off ec : Nat} {cs new cs2 : List M} {m : M} [hs : TySz X.P T n] (hx : evs sl x = some (.m (.rref i ver off))) (hy : evs sl y = some (.m m)) (hH : H[i]? = some (.row false ec ver cs)) (hc : cellsO m = some new) (hl : Nat.beq new.length n = true) (hw : writeAt cs off new = some cs2) (k : TL X ops rest ⟨sl, bx, H.set i (Ob.row false ec ver cs2)⟩ post) : TL X ops (⟨none, .store T x y, ty, pos, af, none⟩ :: rest) ⟨sl, bx, H⟩ post :=
  TL.op01 rfl rfl (op_storeW hx hy hH (by rw [(cellsO_eq hc).1]; exact Nat.eq_of_beq_eq_true hl) (cellsO_eq hc).2 (by rw [(cellsO_eq hc).1]; exact hw)) k
theorem f_storeW {T n : Nat} {x y : Operand} {i ver off ec : Nat} {cs new cs2 : List M} {m : M} [hs : TySz X.P T n] (hx : evs sl x = some (.m (.rref i ver off))) (hy : evs sl y = some (.m m)) (hH : H[i]? = some (.row false ec ver cs)) (hc : cellsO m = some new) (hl : Nat.beq new.length n = true) (hw : writeAt cs off new = some cs2) (k : TF X ops rest ⟨sl, bx, H.set i (Ob.row false ec ver cs2)⟩ fun ees zz => postF (⟨none, .m .undef, [], [], none, true, some (H.set i (Ob.row false ec ver cs2))⟩ :: ees) zz) : TF X ops (⟨none, .store T x y, ty, pos, af, none⟩ :: rest) ⟨sl, bx, H⟩ postF :=
  TF.cons (e := ⟨none, .m .undef, [], [], none, true, some (H.set i (Ob.row false ec ver cs2))⟩) (StepF.heapW0 rfl rfl fun st2 ag => (by have hst := ag.H rfl; simp only at hst; have := (op_storeW (X := X) (st := st2) (dst := none) (ty := ty) (pos := pos) (af := af) (g := none) (T := T) ((ag.ev (x := x) (by simp [Op.operands, Call.operands])).trans hx) ((ag.ev (x := y) (by simp [Op.operands, Call.operands])).trans hy) (by rw [ag.H rfl]; exact hH) (by rw [(cellsO_eq hc).1]; exact Nat.eq_of_beq_eq_true hl) (cellsO_eq hc).2 (by rw [(cellsO_eq hc).1]; exact hw)); rw [hst] at this; exact this)) rfl k
theorem t_mapUpdate {T e : Nat} {x y z : Operand} {i : Nat} {kk : ByteArray} {es : List (D × M)} {m : M} [ht : TyMapS X.P T e] (hx : evs sl x = some (.m (.mp i))) (hy : evs sl y = some (.m (.d (.str kk)))) (hz : evs sl z = some (.m m)) (hH : H[i]? = some (.map es)) (hk : strKeys es = true) (k : TL X ops rest ⟨sl, bx, H.set i (Ob.map (updM kk m es))⟩ post) : TL X ops (⟨none, .mapUpdate T x y z, ty, pos, af, none⟩ :: rest) ⟨sl, bx, H⟩ post :=
  TL.op01 rfl rfl (op_mapUpdate hx hy hz hH hk) k
theorem f_mapUpdate {T e : Nat} {x y z : Operand} {i : Nat} {kk : ByteArray} {es : List (D × M)} {m : M} [ht : TyMapS X.P T e] (hx : evs sl x = some (.m (.mp i))) (hy : evs sl y = some (.m (.d (.str kk)))) (hz : evs sl z = some (.m m)) (hH : H[i]? = some (.map es)) (hk : strKeys es = true) (k : TF X ops rest ⟨sl, bx, H.set i (Ob.map (updM kk m es))⟩ fun ees zz => postF (⟨none, .m .undef, [], [], none, true, some (H.set i (Ob.map (updM kk m es)))⟩ :: ees) zz) : TF X ops (⟨none, .mapUpdate T x y z, ty, pos, af, none⟩ :: rest) ⟨sl, bx, H⟩ postF :=
  TF.cons (e := ⟨none, .m .undef, [], [], none, true, some (H.set i (Ob.map (updM kk m es)))⟩) (StepF.heapW0 rfl rfl fun st2 ag => (by have hst := ag.H rfl; simp only at hst; have := (op_mapUpdate (X := X) (st := st2) (dst := none) (ty := ty) (pos := pos) (af := af) (g := none) (T := T) ((ag.ev (x := x) (by simp [Op.operands, Call.operands])).trans hx) ((ag.ev (x := y) (by simp [Op.operands, Call.operands])).trans hy) ((ag.ev (x := z) (by simp [Op.operands, Call.operands])).trans hz) (by rw [ag.H rfl]; exact hH) hk); rw [hst] at this; exact this)) rfl k

/-- a call over the heap, in a region that draws: what it gives is known -/
theorem f_callR {f : Nat} {args : List Operand} {tys : Array Nat} {ms : List M} {r : M} {H' : Hp} [hf : IsFn X.P f] (h : CT X.P f ms H fun r' h' => r' = r ∧ h' = H') (hn : Nat.blt d X.n = true) (ha : evMs sl args = some ms)
    (k : TF X ops rest ⟨(d, .m r) :: sl, bx, H'⟩ fun es zz => postF (⟨some d, .m r, [], [], none, true, some H'⟩ :: es) zz) : TF X ops (⟨some d, .call ⟨.value (.func f), args.toArray, tys⟩, ty, pos, af, none⟩ :: rest) ⟨sl, bx, H⟩ postF := by
  refine TF.cons (e := ⟨some d, .m r, [], [], none, true, some H'⟩) (StepF.heapW rfl rfl (blt_lt hn) fun st2 ag => ?_) rfl k
  have hst := ag.H rfl
  simp only at hst
  have h1 := op_callR (X := X) (st := st2) (dst := some d) (ty := ty) (pos := pos) (af := af) (g := none) (tys := tys) (args := args) (f := f) (ms := ms) (post := fun r' h' => r' = r ∧ h' = H') (by rw [ag.evMs (fun x hx => by simp [Op.operands, Call.operands]; exact .inr hx), evMs_eq]; exact ha) (by rw [hst]; exact h)
  intro a σ lam hi
  have h2 := h1 a σ lam hi
  have hp : ∀ v s, (∃ r0 h0, v = V.m r0 ∧ (r0 = r ∧ h0 = H') ∧ s = (⟨st2.sl, st2.bx, h0⟩ : St)) → eqp (.m r) ⟨st2.sl, st2.bx, H'⟩ v s := by rintro v s ⟨r0, h0, rfl, ⟨rfl, rfl⟩, rfl⟩; exact ⟨rfl, rfl⟩
  unfold OpRun at h2 ⊢
  generalize (execOp a.eval _).run X.P σ.w = z at *
  cases z with
  | ok y w' =>
    cases y <;> simp only at h2 ⊢ <;> first
      | (obtain ⟨v, s, σ', l', h1, h2⟩ := h2; exact ⟨v, s, σ', l', hp _ _ h1, h2⟩)
      | exact h2.mono fun e w'' ⟨u, he, v, s, σ', l', h1, h2⟩ => ⟨u, he, v, s, σ', l', hp _ _ h1, h2⟩
      | exact h2
  | halt y w' => exact h2
/-- a call that only reads the heap -/
theorem f_callRo {f : Nat} {args : List Operand} {tys : Array Nat} {ms : List M} {r : M} [hf : IsFn X.P f] (h : CT X.P f ms H fun r' h' => r' = r ∧ h' = H) (hn : Nat.blt d X.n = true) (ha : evMs sl args = some ms)
    (k : TF X ops rest ⟨(d, .m r) :: sl, bx, H⟩ fun es zz => postF (⟨some d, .m r, [], [], none, true, none⟩ :: es) zz) : TF X ops (⟨some d, .call ⟨.value (.func f), args.toArray, tys⟩, ty, pos, af, none⟩ :: rest) ⟨sl, bx, H⟩ postF := by
  refine TF.cons (e := ⟨some d, .m r, [], [], none, true, none⟩) (StepF.quiet rfl rfl (blt_lt hn) fun st2 ag => ?_) rfl k
  have hst := ag.H rfl
  simp only at hst
  have h1 := op_callR (X := X) (st := st2) (dst := some d) (ty := ty) (pos := pos) (af := af) (g := none) (tys := tys) (args := args) (f := f) (ms := ms) (post := fun r' h' => r' = r ∧ h' = H) (by rw [ag.evMs (fun x hx => by simp [Op.operands, Call.operands]; exact .inr hx), evMs_eq]; exact ha) (by rw [hst]; exact h)
  intro a σ lam hi
  have h2 := h1 a σ lam hi
  have hp : ∀ v s, (∃ r0 h0, v = V.m r0 ∧ (r0 = r ∧ h0 = H) ∧ s = (⟨st2.sl, st2.bx, h0⟩ : St)) → eqp (.m r) st2 v s := by rintro v s ⟨r0, h0, rfl, ⟨rfl, rfl⟩, rfl⟩; exact ⟨rfl, by rw [← hst]⟩
  unfold OpRun at h2 ⊢
  generalize (execOp a.eval _).run X.P σ.w = z at *
  cases z with
  | ok y w' =>
    cases y <;> simp only at h2 ⊢ <;> first
      | (obtain ⟨v, s, σ', l', h1, h2⟩ := h2; exact ⟨v, s, σ', l', hp _ _ h1, h2⟩)
      | exact h2.mono fun e w'' ⟨u, he, v, s, σ', l', h1, h2⟩ => ⟨u, he, v, s, σ', l', hp _ _ h1, h2⟩
      | exact h2
  | halt y w' => exact h2
end rules
end Go.Mt
