import Derived.Test.YtjhinemdonddoaaMtN
set_option linter.unusedVariables false
set_option linter.unusedSimpArgs false
namespace Go.Mt

section rules
variable {X : Ctx} {ops : Array Oper} {rest : List Oper} {post : List Ef → St → Prop} {sl : List (Nat × V)} {bx : List (Nat × List M)} {H : Hp} {d ty : Nat} {pos : String} {af : Array Edge}

theorem Ag.ev {o : Oper} {e : Ef} {st st2 : St} (h : Ag ops o e st st2) {x : Operand} (hx : x ∈ o.op.operands.toList) : st2.ev x = st.ev x := by
  cases x with
  | tmp t =>
    refine h.sl t ?_
    unfold Oper.looksAt
    refine List.mem_append.2 (.inl ?_)
    rw [List.mem_filterMap]
    exact ⟨.tmp t, hx, rfl⟩
  | _ => rfl

theorem OpT.opS {o : Oper} {st st' : St} {v : V} (hg : o.guard = none) (hd : o.dst = some d) (hn : d < X.n) (h : OpT X o st (eqp v st')) : OpS X ops o st ⟨(d, v) :: st'.sl, st'.bx, st'.H⟩ := by
  rintro a w ⟨σ, lam, rfl, hi⟩ K Q hK
  rw [if_pos (by simp [Region.wanted, hg])]
  refine (h a σ lam hi).wp ?_
  rintro u w' ⟨v', s', σ', lam', ⟨rfl, rfl⟩, rfl, h3, h4⟩
  rw [hd]
  exact hK _ _ ⟨σ', lam', rfl, h3.set hn h4⟩
theorem OpT.opS0 {o : Oper} {st st' : St} {v : V} (hg : o.guard = none) (hd : o.dst = none) (h : OpT X o st (eqp v st')) : OpS X ops o st st' := by
  rintro a w ⟨σ, lam, rfl, hi⟩ K Q hK
  rw [if_pos (by simp [Region.wanted, hg])]
  refine (h a σ lam hi).wp ?_
  rintro u w' ⟨v', s', σ', lam', ⟨rfl, rfl⟩, rfl, h3, h4⟩
  rw [hd]
  exact hK _ _ ⟨σ', lam', rfl, h3⟩

theorem StepF.quiet {o : Oper} {v : V} {rb : List Nat} {rh : Bool} {st : St} (hg : o.guard = none) (hd : o.dst = some d) (hn : d < X.n)
    (h : ∀ st2, Ag ops o ⟨some d, v, rb, [], none, rh, none⟩ st st2 → OpT X o st2 (eqp v st2)) : StepF X ops o ⟨some d, v, rb, [], none, rh, none⟩ st :=
  fun st2 ag => (h st2 ag).opS hg hd hn

theorem StepF.writes {o : Oper} {v : V} {rb : List Nat} {wb : List (Nat × List M)} {st : St} (hg : o.guard = none) (hd : o.dst = none)
    (h : ∀ st2, Ag ops o ⟨none, v, rb, wb, none, false, none⟩ st st2 → OpT X o st2 (eqp v ⟨st2.sl, wb ++ st2.bx, st2.H⟩)) : StepF X ops o ⟨none, v, rb, wb, none, false, none⟩ st :=
  fun st2 ag => (h st2 ag).opS0 hg hd

theorem f_guard_yes {dst : Option Nat} {op : Op} {j g : Nat} {w : Bool} {post : List Ef → St → Prop} (hj : (ops[j]?).bind (·.dst) = some g) (hb : get sl g = some (.m (.d (.bool w))))
    (k : TF X ops (⟨dst, op, ty, pos, af, none⟩ :: rest) ⟨sl, bx, H⟩ post) : TF X ops (⟨dst, op, ty, pos, af, some (j, w)⟩ :: rest) ⟨sl, bx, H⟩ post := by
  obtain ⟨es, st', hr, hp⟩ := k
  cases hr with
  | cons h hd hk =>
    rename_i e es
    refine ⟨e :: es, st', .cons ?_ hd hk, hp⟩
    intro st2 ag
    have hg2 : get st2.sl g = some (.m (.d (.bool w))) := by
      rw [← hb]
      refine ag.sl g ?_
      unfold Oper.looksAt
      refine List.mem_append.2 (.inr ?_)
      simp [hj]
    have hsub : Ag ops ⟨dst, op, ty, pos, af, none⟩ e ⟨sl, bx, H⟩ st2 :=
      ⟨fun t ht => ag.sl t (by
        unfold Oper.looksAt at ht ⊢
        simp only [List.append_nil] at ht
        exact List.mem_append.2 (.inl ht)), ag.bx, ag.H, ag.nw⟩
    have h1 := h st2 hsub
    rintro a w' ⟨σ, lam, hσ, hi⟩ K Q hK
    have h2 := h1 a w' ⟨σ, lam, hσ, hi⟩ K Q hK
    have hw : wants ops ⟨dst, op, ty, pos, af, some (j, w)⟩ st2 = some true := by simp [wants, hj, hg2]
    rw [if_pos (hi.wanted hw)]
    rw [if_pos (by simp [Region.wanted])] at h2
    have ee : execOp a.eval ⟨dst, op, ty, pos, af, some (j, w)⟩ = execOp a.eval ⟨dst, op, ty, pos, af, none⟩ := by cases op <;> rfl
    unfold Oper.wp at h2 ⊢
    rw [ee]; exact h2
theorem f_guard_no {op : Op} {j g : Nat} {w b : Bool} {post : List Ef → St → Prop} (hn : Nat.blt d X.n = true) (hj : (ops[j]?).bind (·.dst) = some g) (hb : get sl g = some (.m (.d (.bool b)))) (hbw : (b == w) = false)
    (k : TF X ops rest ⟨(d, .m (.tup [])) :: sl, bx, H⟩ fun es zz => post (⟨some d, .m (.tup []), [], [], none, false, none⟩ :: es) zz) : TF X ops (⟨some d, op, ty, pos, af, some (j, w)⟩ :: rest) ⟨sl, bx, H⟩ post := by
  refine TF.cons (e := ⟨some d, .m (.tup []), [], [], none, false, none⟩) ?_ rfl k
  intro st2 ag
  have hg2 : get st2.sl g = some (.m (.d (.bool b))) := by
    rw [← hb]
    refine ag.sl g ?_
    unfold Oper.looksAt
    refine List.mem_append.2 (.inr ?_)
    simp [hj]
  rintro a w' ⟨σ, lam, hσ, hi⟩ K Q hK
  have hw : wants ops ⟨some d, op, ty, pos, af, some (j, w)⟩ st2 = some false := by simp [wants, hj, hg2, hbw]
  rw [if_neg (by rw [hi.wanted hw]; simp)]
  exact hK _ _ ⟨σ, lam, hσ, hi.set (blt_lt hn) (.m (.tup [] #[] rfl (by intro i m v h; simp at h)))⟩
theorem f_guard_un {op : Op} {j g : Nat} {w : Bool} {post : List Ef → St → Prop} (hn : Nat.blt d X.n = true) (hj : (ops[j]?).bind (·.dst) = some g) (hb : get sl g = some (.m (.tup [])))
    (k : TF X ops rest ⟨(d, .m (.tup [])) :: sl, bx, H⟩ fun es zz => post (⟨some d, .m (.tup []), [], [], none, false, none⟩ :: es) zz) : TF X ops (⟨some d, op, ty, pos, af, some (j, w)⟩ :: rest) ⟨sl, bx, H⟩ post := by
  refine TF.cons (e := ⟨some d, .m (.tup []), [], [], none, false, none⟩) ?_ rfl k
  intro st2 ag
  have hg2 : get st2.sl g = some (.m (.tup [])) := by
    rw [← hb]
    refine ag.sl g ?_
    unfold Oper.looksAt
    refine List.mem_append.2 (.inr ?_)
    simp [hj]
  rintro a w' ⟨σ, lam, hσ, hi⟩ K Q hK
  have hw : wants ops ⟨some d, op, ty, pos, af, some (j, w)⟩ st2 = some false := by simp [wants, hj, hg2]
  rw [if_neg (by rw [hi.wanted hw]; simp)]
  exact hK _ _ ⟨σ, lam, hσ, hi.set (blt_lt hn) (.m (.tup [] #[] rfl (by intro i m v h; simp at h)))⟩

theorem f_move {x : Operand} {v : V} (hn : Nat.blt d X.n = true) (hx : evs sl x = some v) (k : TF X ops rest ⟨(d, v) :: sl, bx, H⟩ fun es zz => post (⟨some d, v, [], [], none, false, none⟩ :: es) zz) :
    TF X ops (⟨some d, .move x, ty, pos, af, none⟩ :: rest) ⟨sl, bx, H⟩ post :=
  TF.cons (e := ⟨some d, v, [], [], none, false, none⟩) (StepF.quiet rfl rfl (blt_lt hn) fun st2 ag => op_move ((ag.ev (x := x) (by simp [Op.operands, Call.operands])).trans hx)) rfl k
theorem f_assign {x : Operand} {v : V} (hn : Nat.blt d X.n = true) (hx : evs sl x = some v) (k : TF X ops rest ⟨(d, v) :: sl, bx, H⟩ fun es zz => post (⟨some d, v, [], [], none, false, none⟩ :: es) zz) :
    TF X ops (⟨some d, .assign x, ty, pos, af, none⟩ :: rest) ⟨sl, bx, H⟩ post :=
  TF.cons (e := ⟨some d, v, [], [], none, false, none⟩) (StepF.quiet rfl rfl (blt_lt hn) fun st2 ag => op_assign ((ag.ev (x := x) (by simp [Op.operands, Call.operands])).trans hx)) rfl k
theorem f_pick {c x y : Operand} {b : Bool} {v : V} (hn : Nat.blt d X.n = true) (hc : evs sl c = some (.m (.d (.bool b)))) (hx : evs sl (bif b then x else y) = some v) (k : TF X ops rest ⟨(d, v) :: sl, bx, H⟩ fun es zz => post (⟨some d, v, [], [], none, false, none⟩ :: es) zz) :
    TF X ops (⟨some d, .pick c x y, ty, pos, af, none⟩ :: rest) ⟨sl, bx, H⟩ post := by
  refine TF.cons (e := ⟨some d, v, [], [], none, false, none⟩) (StepF.quiet rfl rfl (blt_lt hn) fun st2 ag => ?_) rfl k
  cases b
  · exact op_pick_f ((ag.ev (x := c) (by simp [Op.operands])).trans hc) ((ag.ev (x := y) (by simp [Op.operands])).trans hx)
  · exact op_pick_t ((ag.ev (x := c) (by simp [Op.operands])).trans hc) ((ag.ev (x := x) (by simp [Op.operands])).trans hx)
theorem f_int {op : BinOp} {xt yt : Nat} {x y : Operand} {kk : IntKind} {m n : Int} {r : D} (hn : Nat.blt d X.n = true) (hx : evs sl x = some (.m (.d (.int kk m)))) (hy : evs sl y = some (.m (.d (.int kk n)))) (hr : intBin op kk m n = some r) (k : TF X ops rest ⟨(d, (.m (.d r))) :: sl, bx, H⟩ fun es zz => post (⟨some d, (.m (.d r)), [], [], none, false, none⟩ :: es) zz) :
    TF X ops (⟨some d, .binOp op xt x y yt, ty, pos, af, none⟩ :: rest) ⟨sl, bx, H⟩ post :=
  TF.cons (e := ⟨some d, (.m (.d r)), [], [], none, false, none⟩) (StepF.quiet rfl rfl (blt_lt hn) fun st2 ag => op_int ((ag.ev (x := x) (by simp [Op.operands, Call.operands])).trans hx) ((ag.ev (x := y) (by simp [Op.operands, Call.operands])).trans hy) hr) rfl k
theorem f_add64 {xt yt : Nat} {x y : Operand} {m n : Int} (hn : Nat.blt d X.n = true) (hx : evs sl x = some (.m (.d (.int .i64 m)))) (hy : evs sl y = some (.m (.d (.int .i64 n)))) (hr : -9223372036854775808 ≤ m + n ∧ m + n ≤ 9223372036854775807) (k : TF X ops rest ⟨(d, (.m (.d (.int .i64 (m + n))))) :: sl, bx, H⟩ fun es zz => post (⟨some d, (.m (.d (.int .i64 (m + n)))), [], [], none, false, none⟩ :: es) zz) :
    TF X ops (⟨some d, .binOp .add xt x y yt, ty, pos, af, none⟩ :: rest) ⟨sl, bx, H⟩ post :=
  TF.cons (e := ⟨some d, (.m (.d (.int .i64 (m + n)))), [], [], none, false, none⟩) (StepF.quiet rfl rfl (blt_lt hn) fun st2 ag => op_int ((ag.ev (x := x) (by simp [Op.operands, Call.operands])).trans hx) ((ag.ev (x := y) (by simp [Op.operands, Call.operands])).trans hy) (by simp [intBin, show IntKind.i64.wrap (m + n) = m + n from IntWalk.i64_in _ hr])) rfl k
theorem f_sub64 {xt yt : Nat} {x y : Operand} {m n : Int} (hn : Nat.blt d X.n = true) (hx : evs sl x = some (.m (.d (.int .i64 m)))) (hy : evs sl y = some (.m (.d (.int .i64 n)))) (hr : -9223372036854775808 ≤ m - n ∧ m - n ≤ 9223372036854775807) (k : TF X ops rest ⟨(d, (.m (.d (.int .i64 (m - n))))) :: sl, bx, H⟩ fun es zz => post (⟨some d, (.m (.d (.int .i64 (m - n)))), [], [], none, false, none⟩ :: es) zz) :
    TF X ops (⟨some d, .binOp .sub xt x y yt, ty, pos, af, none⟩ :: rest) ⟨sl, bx, H⟩ post :=
  TF.cons (e := ⟨some d, (.m (.d (.int .i64 (m - n)))), [], [], none, false, none⟩) (StepF.quiet rfl rfl (blt_lt hn) fun st2 ag => op_int ((ag.ev (x := x) (by simp [Op.operands, Call.operands])).trans hx) ((ag.ev (x := y) (by simp [Op.operands, Call.operands])).trans hy) (by simp [intBin, show IntKind.i64.wrap (m - n) = m - n from IntWalk.i64_in _ hr])) rfl k
theorem f_quo {xt yt : Nat} {x y : Operand} {kk : IntKind} {m n : Int} (hn : Nat.blt d X.n = true) (hx : evs sl x = some (.m (.d (.int kk m)))) (hy : evs sl y = some (.m (.d (.int kk n)))) (hr : (n == 0) = false) (k : TF X ops rest ⟨(d, (.m (.d (.int kk (kk.wrap (m.tdiv n)))))) :: sl, bx, H⟩ fun es zz => post (⟨some d, (.m (.d (.int kk (kk.wrap (m.tdiv n))))), [], [], none, false, none⟩ :: es) zz) :
    TF X ops (⟨some d, .binOp .quo xt x y yt, ty, pos, af, none⟩ :: rest) ⟨sl, bx, H⟩ post :=
  TF.cons (e := ⟨some d, (.m (.d (.int kk (kk.wrap (m.tdiv n))))), [], [], none, false, none⟩) (StepF.quiet rfl rfl (blt_lt hn) fun st2 ag => op_quo ((ag.ev (x := x) (by simp [Op.operands, Call.operands])).trans hx) ((ag.ev (x := y) (by simp [Op.operands, Call.operands])).trans hy) hr) rfl k
theorem f_rem {xt yt : Nat} {x y : Operand} {kk : IntKind} {m n : Int} (hn : Nat.blt d X.n = true) (hx : evs sl x = some (.m (.d (.int kk m)))) (hy : evs sl y = some (.m (.d (.int kk n)))) (hr : (n == 0) = false) (k : TF X ops rest ⟨(d, (.m (.d (.int kk (m.tmod n))))) :: sl, bx, H⟩ fun es zz => post (⟨some d, (.m (.d (.int kk (m.tmod n)))), [], [], none, false, none⟩ :: es) zz) :
    TF X ops (⟨some d, .binOp .rem xt x y yt, ty, pos, af, none⟩ :: rest) ⟨sl, bx, H⟩ post :=
  TF.cons (e := ⟨some d, (.m (.d (.int kk (m.tmod n)))), [], [], none, false, none⟩) (StepF.quiet rfl rfl (blt_lt hn) fun st2 ag => op_rem ((ag.ev (x := x) (by simp [Op.operands, Call.operands])).trans hx) ((ag.ev (x := y) (by simp [Op.operands, Call.operands])).trans hy) hr) rfl k
theorem f_not {x : Operand} {xt : Nat} {b : Bool} (hn : Nat.blt d X.n = true) (hx : evs sl x = some (.m (.d (.bool b)))) (k : TF X ops rest ⟨(d, (.m (.d (.bool (!b))))) :: sl, bx, H⟩ fun es zz => post (⟨some d, (.m (.d (.bool (!b)))), [], [], none, false, none⟩ :: es) zz) :
    TF X ops (⟨some d, .unOp .not xt x, ty, pos, af, none⟩ :: rest) ⟨sl, bx, H⟩ post :=
  TF.cons (e := ⟨some d, (.m (.d (.bool (!b)))), [], [], none, false, none⟩) (StepF.quiet rfl rfl (blt_lt hn) fun st2 ag => op_not ((ag.ev (x := x) (by simp [Op.operands, Call.operands])).trans hx)) rfl k
theorem f_streq {x y : Operand} {xt yt : Nat} {s u : ByteArray} (hn : Nat.blt d X.n = true) (hx : evs sl x = some (.m (.d (.str s)))) (hy : evs sl y = some (.m (.d (.str u)))) (k : TF X ops rest ⟨(d, (.m (.d (.bool (decide (s = u)))))) :: sl, bx, H⟩ fun es zz => post (⟨some d, (.m (.d (.bool (decide (s = u))))), [], [], none, false, none⟩ :: es) zz) :
    TF X ops (⟨some d, .binOp .eql xt x y yt, ty, pos, af, none⟩ :: rest) ⟨sl, bx, H⟩ post :=
  TF.cons (e := ⟨some d, (.m (.d (.bool (decide (s = u))))), [], [], none, false, none⟩) (StepF.quiet rfl rfl (blt_lt hn) fun st2 ag => op_streq ((ag.ev (x := x) (by simp [Op.operands, Call.operands])).trans hx) ((ag.ev (x := y) (by simp [Op.operands, Call.operands])).trans hy)) rfl k
theorem f_strne {x y : Operand} {xt yt : Nat} {s u : ByteArray} (hn : Nat.blt d X.n = true) (hx : evs sl x = some (.m (.d (.str s)))) (hy : evs sl y = some (.m (.d (.str u)))) (k : TF X ops rest ⟨(d, (.m (.d (.bool (!decide (s = u)))))) :: sl, bx, H⟩ fun es zz => post (⟨some d, (.m (.d (.bool (!decide (s = u))))), [], [], none, false, none⟩ :: es) zz) :
    TF X ops (⟨some d, .binOp .neq xt x y yt, ty, pos, af, none⟩ :: rest) ⟨sl, bx, H⟩ post :=
  TF.cons (e := ⟨some d, (.m (.d (.bool (!decide (s = u))))), [], [], none, false, none⟩) (StepF.quiet rfl rfl (blt_lt hn) fun st2 ag => op_strne ((ag.ev (x := x) (by simp [Op.operands, Call.operands])).trans hx) ((ag.ev (x := y) (by simp [Op.operands, Call.operands])).trans hy)) rfl k
theorem f_stradd {x y : Operand} {xt yt : Nat} {s u : ByteArray} (hn : Nat.blt d X.n = true) (hx : evs sl x = some (.m (.d (.str s)))) (hy : evs sl y = some (.m (.d (.str u)))) (hs : s.size + u.size ≤ 9223372036854775807) (k : TF X ops rest ⟨(d, (.m (.d (.str (s ++ u))))) :: sl, bx, H⟩ fun es zz => post (⟨some d, (.m (.d (.str (s ++ u)))), [], [], none, false, none⟩ :: es) zz) :
    TF X ops (⟨some d, .binOp .add xt x y yt, ty, pos, af, none⟩ :: rest) ⟨sl, bx, H⟩ post :=
  TF.cons (e := ⟨some d, (.m (.d (.str (s ++ u)))), [], [], none, false, none⟩) (StepF.quiet rfl rfl (blt_lt hn) fun st2 ag => op_stradd ((ag.ev (x := x) (by simp [Op.operands, Call.operands])).trans hx) ((ag.ev (x := y) (by simp [Op.operands, Call.operands])).trans hy) hs) rfl k
theorem f_box {t : Nat} {x : Operand} {v : D} (hn : Nat.blt d X.n = true) (hx : evs sl x = some (.m (.d v))) (k : TF X ops rest ⟨(d, (.m (.d (.pim (dcells v) 0)))) :: sl, bx, H⟩ fun es zz => post (⟨some d, (.m (.d (.pim (dcells v) 0))), [], [], none, false, none⟩ :: es) zz) :
    TF X ops (⟨some d, .box t x, ty, pos, af, none⟩ :: rest) ⟨sl, bx, H⟩ post :=
  TF.cons (e := ⟨some d, (.m (.d (.pim (dcells v) 0))), [], [], none, false, none⟩) (StepF.quiet rfl rfl (blt_lt hn) fun st2 ag => op_box ((ag.ev (x := x) (by simp [Op.operands, Call.operands])).trans hx)) rfl k
theorem f_fieldD {s f : Nat} {x : Operand} {cs : List D} {off o : Nat} [hf : TyField X.P s f o] (hn : Nat.blt d X.n = true) (hx : evs sl x = some (.m (.d (.pim cs off)))) (k : TF X ops rest ⟨(d, (.m (.d (.pim cs (off + o))))) :: sl, bx, H⟩ fun es zz => post (⟨some d, (.m (.d (.pim cs (off + o)))), [], [], none, false, none⟩ :: es) zz) :
    TF X ops (⟨some d, .fieldAddr s x f, ty, pos, af, none⟩ :: rest) ⟨sl, bx, H⟩ post :=
  TF.cons (e := ⟨some d, (.m (.d (.pim cs (off + o)))), [], [], none, false, none⟩) (StepF.quiet rfl rfl (blt_lt hn) fun st2 ag => op_fieldD ((ag.ev (x := x) (by simp [Op.operands, Call.operands])).trans hx)) rfl k
theorem f_fieldL {s f : Nat} {x : Operand} {t off o : Nat} [hf : TyField X.P s f o] (hn : Nat.blt d X.n = true) (hx : evs sl x = some (.loc t off)) (k : TF X ops rest ⟨(d, (.loc t (off + o))) :: sl, bx, H⟩ fun es zz => post (⟨some d, (.loc t (off + o)), [], [], none, false, none⟩ :: es) zz) :
    TF X ops (⟨some d, .fieldAddr s x f, ty, pos, af, none⟩ :: rest) ⟨sl, bx, H⟩ post :=
  TF.cons (e := ⟨some d, (.loc t (off + o)), [], [], none, false, none⟩) (StepF.quiet rfl rfl (blt_lt hn) fun st2 ag => op_fieldL ((ag.ev (x := x) (by simp [Op.operands, Call.operands])).trans hx)) rfl k
theorem f_fieldR {s f : Nat} {x : Operand} {i off o : Nat} [hf : TyField X.P s f o] (hn : Nat.blt d X.n = true) (hx : evs sl x = some (.m (.ref i off))) (k : TF X ops rest ⟨(d, (.m (.ref i (off + o)))) :: sl, bx, H⟩ fun es zz => post (⟨some d, (.m (.ref i (off + o))), [], [], none, false, none⟩ :: es) zz) :
    TF X ops (⟨some d, .fieldAddr s x f, ty, pos, af, none⟩ :: rest) ⟨sl, bx, H⟩ post :=
  TF.cons (e := ⟨some d, (.m (.ref i (off + o))), [], [], none, false, none⟩) (StepF.quiet rfl rfl (blt_lt hn) fun st2 ag => op_fieldR ((ag.ev (x := x) (by simp [Op.operands, Call.operands])).trans hx)) rfl k
theorem f_fieldW {s f : Nat} {x : Operand} {i ver off o : Nat} [hf : TyField X.P s f o] (hn : Nat.blt d X.n = true) (hx : evs sl x = some (.m (.rref i ver off))) (k : TF X ops rest ⟨(d, (.m (.rref i ver (off + o)))) :: sl, bx, H⟩ fun es zz => post (⟨some d, (.m (.rref i ver (off + o))), [], [], none, false, none⟩ :: es) zz) :
    TF X ops (⟨some d, .fieldAddr s x f, ty, pos, af, none⟩ :: rest) ⟨sl, bx, H⟩ post :=
  TF.cons (e := ⟨some d, (.m (.rref i ver (off + o))), [], [], none, false, none⟩) (StepF.quiet rfl rfl (blt_lt hn) fun st2 ag => op_fieldW ((ag.ev (x := x) (by simp [Op.operands, Call.operands])).trans hx)) rfl k
theorem f_loadDc {t : Nat} {x : Operand} {cs : List D} {off : Nat} {v : D} [ht : TyCell X.P t] (hn : Nat.blt d X.n = true) (hx : evs sl x = some (.m (.d (.pim cs off)))) (hr : cs[off]? = some v) (k : TF X ops rest ⟨(d, (.m (.d v))) :: sl, bx, H⟩ fun es zz => post (⟨some d, (.m (.d v)), [], [], none, false, none⟩ :: es) zz) :
    TF X ops (⟨some d, .load t x, ty, pos, af, none⟩ :: rest) ⟨sl, bx, H⟩ post :=
  TF.cons (e := ⟨some d, (.m (.d v)), [], [], none, false, none⟩) (StepF.quiet rfl rfl (blt_lt hn) fun st2 ag => op_loadDc ((ag.ev (x := x) (by simp [Op.operands, Call.operands])).trans hx) hr) rfl k
theorem f_loadDw {t n : Nat} {x : Operand} {cs : List D} [ht : TyAgg X.P t n] (hn : Nat.blt d X.n = true) (hx : evs sl x = some (.m (.d (.pim cs 0)))) (hr : cs.length = n) (k : TF X ops rest ⟨(d, (.m (.d (.agg cs)))) :: sl, bx, H⟩ fun es zz => post (⟨some d, (.m (.d (.agg cs))), [], [], none, false, none⟩ :: es) zz) :
    TF X ops (⟨some d, .load t x, ty, pos, af, none⟩ :: rest) ⟨sl, bx, H⟩ post :=
  TF.cons (e := ⟨some d, (.m (.d (.agg cs))), [], [], none, false, none⟩) (StepF.quiet rfl rfl (blt_lt hn) fun st2 ag => op_loadDw ((ag.ev (x := x) (by simp [Op.operands, Call.operands])).trans hx) hr) rfl k
theorem f_loadDa {t n : Nat} {x : Operand} {cs ds : List D} {off : Nat} [ht : TyAgg X.P t n] (hn : Nat.blt d X.n = true) (hx : evs sl x = some (.m (.d (.pim cs off)))) (hr : sub cs off n = some ds) (k : TF X ops rest ⟨(d, (.m (.d (.agg ds)))) :: sl, bx, H⟩ fun es zz => post (⟨some d, (.m (.d (.agg ds))), [], [], none, false, none⟩ :: es) zz) :
    TF X ops (⟨some d, .load t x, ty, pos, af, none⟩ :: rest) ⟨sl, bx, H⟩ post :=
  TF.cons (e := ⟨some d, (.m (.d (.agg ds))), [], [], none, false, none⟩) (StepF.quiet rfl rfl (blt_lt hn) fun st2 ag => op_loadDa ((ag.ev (x := x) (by simp [Op.operands, Call.operands])).trans hx) (Nat.ble_eq_true_of_le (sub_eq hr).1) (sub_eq hr).2) rfl k
theorem f_loadLc {T : Nat} {x : Operand} {t off : Nat} {cs : List M} {m : M} [ht : TyCell X.P T] (hn : Nat.blt d X.n = true) (hx : evs sl x = some (.loc t off)) (hb : get bx t = some cs) (hr : cs[off]? = some m) (k : TF X ops rest ⟨(d, (.m m)) :: sl, bx, H⟩ fun es zz => post (⟨some d, (.m m), [t], [], none, false, none⟩ :: es) zz) :
    TF X ops (⟨some d, .load T x, ty, pos, af, none⟩ :: rest) ⟨sl, bx, H⟩ post :=
  TF.cons (e := ⟨some d, (.m m), [t], [], none, false, none⟩) (StepF.quiet rfl rfl (blt_lt hn) fun st2 ag => op_loadLc ((ag.ev (x := x) (by simp [Op.operands, Call.operands])).trans hx) ((ag.bx t (by simp)).trans hb) hr) rfl k
theorem f_loadLa {T n : Nat} {x : Operand} {t off : Nat} {cs cs2 : List M} {ds : List D} [ht : TyAgg X.P T n] (hn : Nat.blt d X.n = true) (hx : evs sl x = some (.loc t off)) (hb : get bx t = some cs) (hs : sub cs off n = some cs2) (hr : allD cs2 = some ds) (k : TF X ops rest ⟨(d, (.m (.d (.agg ds)))) :: sl, bx, H⟩ fun es zz => post (⟨some d, (.m (.d (.agg ds))), [t], [], none, false, none⟩ :: es) zz) :
    TF X ops (⟨some d, .load T x, ty, pos, af, none⟩ :: rest) ⟨sl, bx, H⟩ post :=
  TF.cons (e := ⟨some d, (.m (.d (.agg ds))), [t], [], none, false, none⟩) (StepF.quiet rfl rfl (blt_lt hn) fun st2 ag => op_loadLa ((ag.ev (x := x) (by simp [Op.operands, Call.operands])).trans hx) ((ag.bx t (by simp)).trans hb) (Nat.ble_eq_true_of_le (sub_eq hs).1) (by rw [(sub_eq hs).2]; exact hr)) rfl k
theorem f_nilCheck {x : Operand} {v : V} (hn : Nat.blt d X.n = true) (hx : evs sl x = some v) (hv : ptrOk v = true) (k : TF X ops rest ⟨(d, v) :: sl, bx, H⟩ fun es zz => post (⟨some d, v, [], [], none, false, none⟩ :: es) zz) :
    TF X ops (⟨some d, .nilCheck x, ty, pos, af, none⟩ :: rest) ⟨sl, bx, H⟩ post :=
  TF.cons (e := ⟨some d, v, [], [], none, false, none⟩) (StepF.quiet rfl rfl (blt_lt hn) fun st2 ag => op_nilCheck ((ag.ev (x := x) (by simp [Op.operands, Call.operands])).trans hx) hv) rfl k
theorem f_lenS {t e : Nat} {x : Operand} {v : D} {n : Nat} [ht : TySlice X.P t e] (hn : Nat.blt d X.n = true) (hx : evs sl x = some (.m (.d v))) (hl : slLen v = some n) (k : TF X ops rest ⟨(d, (.m (.d (.int .i64 n)))) :: sl, bx, H⟩ fun es zz => post (⟨some d, (.m (.d (.int .i64 n))), [], [], none, false, none⟩ :: es) zz) :
    TF X ops (⟨some d, .call ⟨.builtin .len, #[x], #[t]⟩, ty, pos, af, none⟩ :: rest) ⟨sl, bx, H⟩ post :=
  TF.cons (e := ⟨some d, (.m (.d (.int .i64 n))), [], [], none, false, none⟩) (StepF.quiet rfl rfl (blt_lt hn) fun st2 ag => op_lenS ((ag.ev (x := x) (by simp [Op.operands, Call.operands])).trans hx) hl) rfl k
theorem f_lenT {t : Nat} {x : Operand} {s : ByteArray} [ht : TyStr X.P t] (hn : Nat.blt d X.n = true) (hx : evs sl x = some (.m (.d (.str s)))) (k : TF X ops rest ⟨(d, (.m (.d (.int .i64 s.size)))) :: sl, bx, H⟩ fun es zz => post (⟨some d, (.m (.d (.int .i64 s.size))), [], [], none, false, none⟩ :: es) zz) :
    TF X ops (⟨some d, .call ⟨.builtin .len, #[x], #[t]⟩, ty, pos, af, none⟩ :: rest) ⟨sl, bx, H⟩ post :=
  TF.cons (e := ⟨some d, (.m (.d (.int .i64 s.size))), [], [], none, false, none⟩) (StepF.quiet rfl rfl (blt_lt hn) fun st2 ag => op_lenT ((ag.ev (x := x) (by simp [Op.operands, Call.operands])).trans hx)) rfl k
theorem f_indexD {t e n : Nat} {x y : Operand} {rows : List (List D)} {r : List D} {kk : IntKind} {i : Int} [ht : TySlice X.P t e] [hs : TySz X.P e n] (hn : Nat.blt d X.n = true) (hx : evs sl x = some (.m (.d (.sl rows)))) (hy : evs sl y = some (.m (.d (.int kk i)))) (h0 : 0 ≤ i) (hr : rows[i.toNat]? = some r) (hl : r.length = n) (k : TF X ops rest ⟨(d, (.m (.d (.pim r 0)))) :: sl, bx, H⟩ fun es zz => post (⟨some d, (.m (.d (.pim r 0))), [], [], none, false, none⟩ :: es) zz) :
    TF X ops (⟨some d, .indexAddr t x y, ty, pos, af, none⟩ :: rest) ⟨sl, bx, H⟩ post :=
  TF.cons (e := ⟨some d, (.m (.d (.pim r 0))), [], [], none, false, none⟩) (StepF.quiet rfl rfl (blt_lt hn) fun st2 ag => op_indexD ((ag.ev (x := x) (by simp [Op.operands, Call.operands])).trans hx) ((ag.ev (x := y) (by simp [Op.operands, Call.operands])).trans hy) h0 hr hl) rfl k
theorem f_extract {x : Operand} {i : Nat} {vs : List M} {m : M} (hn : Nat.blt d X.n = true) (hx : evs sl x = some (.m (.tup vs))) (hm : vs[i]? = some m) (k : TF X ops rest ⟨(d, (.m m)) :: sl, bx, H⟩ fun es zz => post (⟨some d, (.m m), [], [], none, false, none⟩ :: es) zz) :
    TF X ops (⟨some d, .extract x i, ty, pos, af, none⟩ :: rest) ⟨sl, bx, H⟩ post :=
  TF.cons (e := ⟨some d, (.m m), [], [], none, false, none⟩) (StepF.quiet rfl rfl (blt_lt hn) fun st2 ag => op_extract ((ag.ev (x := x) (by simp [Op.operands, Call.operands])).trans hx) hm) rfl k
theorem Ag.evDs {o : Oper} {e : Ef} {st st2 : St} (h : Ag ops o e st st2) : ∀ {xs : List Operand}, (∀ x ∈ xs, x ∈ o.op.operands.toList) → st2.evDs xs = st.evDs xs
  | [], _ => rfl
  | x :: r, hx => by
    simp only [St.evDs]
    rw [h.ev (hx x (by simp)), h.evDs (fun y hy => hx y (by simp [hy]))]
theorem Ag.evMs {o : Oper} {e : Ef} {st st2 : St} (h : Ag ops o e st st2) : ∀ {xs : List Operand}, (∀ x ∈ xs, x ∈ o.op.operands.toList) → st2.evMs xs = st.evMs xs
  | [], _ => rfl
  | x :: r, hx => by
    simp only [St.evMs]
    rw [h.ev (hx x (by simp)), h.evMs (fun y hy => hx y (by simp [hy]))]
theorem Ag.evParts {o : Oper} {e : Ef} {st st2 : St} (h : Ag ops o e st st2) : ∀ {xs : List (Nat × Operand)}, (∀ p ∈ xs, p.2 ∈ o.op.operands.toList) → Mt.evParts st2 xs = Mt.evParts st xs
  | [], _ => rfl
  | (i, x) :: r, hx => by
    simp only [Mt.evParts]
    rw [h.ev (hx (i, x) (by simp)), h.evParts (fun y hy => hx y (by simp [hy]))]
theorem f_call1 {f : Nat} {args : List Operand} {tys : Array Nat} {ds : List D} {r : D} [hf : IsFn X.P f] (h : PT X.P f ds (· = [r])) (hn : Nat.blt d X.n = true) (ha : evDs sl args = some ds) (k : TF X ops rest ⟨(d, .m (.d r)) :: sl, bx, H⟩ fun es zz => post (⟨some d, .m (.d r), [], [], none, false, none⟩ :: es) zz) :
    TF X ops (⟨some d, .call ⟨.value (.func f), args.toArray, tys⟩, ty, pos, af, none⟩ :: rest) ⟨sl, bx, H⟩ post :=
  TF.cons (e := ⟨some d, .m (.d r), [], [], none, false, none⟩) (StepF.quiet rfl rfl (blt_lt hn) fun st2 ag => op_call1 (by rw [ag.evDs (fun x hx => by simp [Op.operands, Call.operands]; exact .inr hx), evDs_eq]; exact ha) h) rfl k
theorem f_callv {x : Operand} {f : Nat} {caps : List D} {args : List Operand} {tys : Array Nat} {ds : List D} {r : D} [hf : IsFn X.P f] (h : PT X.P f (ds ++ caps) (· = [r])) (hn : Nat.blt d X.n = true) (hx : evs sl x = some (.m (.d (.fn f caps)))) (ha : evDs sl args = some ds)
    (k : TF X ops rest ⟨(d, .m (.d r)) :: sl, bx, H⟩ fun es zz => post (⟨some d, .m (.d r), [], [], none, false, none⟩ :: es) zz) : TF X ops (⟨some d, .call ⟨.value x, args.toArray, tys⟩, ty, pos, af, none⟩ :: rest) ⟨sl, bx, H⟩ post := by
  refine TF.cons (e := ⟨some d, .m (.d r), [], [], none, false, none⟩) (StepF.quiet rfl rfl (blt_lt hn) fun st2 ag => ?_) rfl k
  have h1 := op_callv (X := X) (st := st2) (dst := some d) (ty := ty) (pos := pos) (af := af) (g := none) (tys := tys) ((ag.ev (x := x) (by simp [Op.operands, Call.operands])).trans hx) (by rw [ag.evDs (fun x hx => by simp [Op.operands, Call.operands]; exact .inr hx), evDs_eq]; exact ha) h
  intro a σ lam hi
  have h2 := h1 a σ lam hi
  have hp : ∀ v s, callp st2 (· = [r]) v s → eqp (.m (.d r)) st2 v s := by rintro v s ⟨r', rfl, rfl, rfl⟩; exact ⟨rfl, rfl⟩
  unfold OpRun at h2 ⊢
  generalize (execOp a.eval _).run X.P σ.w = z at *
  cases z with
  | ok y w' =>
    cases y <;> simp only at h2 ⊢ <;> first
      | (obtain ⟨v, s, σ', l', h1, h2⟩ := h2; exact ⟨v, s, σ', l', hp _ _ h1, h2⟩)
      | exact h2.mono fun e w'' ⟨u, he, v, s, σ', l', h1, h2⟩ => ⟨u, he, v, s, σ', l', hp _ _ h1, h2⟩
      | exact h2
  | halt y w' => exact h2
theorem f_makeFunc {f : Nat} {caps : List Operand} {ds : List D} (hn : Nat.blt d X.n = true) (ha : evDs sl caps = some ds) (k : TF X ops rest ⟨(d, .m (.d (.fn f ds))) :: sl, bx, H⟩ fun es zz => post (⟨some d, .m (.d (.fn f ds)), [], [], none, false, none⟩ :: es) zz) :
    TF X ops (⟨some d, .makeFunc (.func f) #[] caps.toArray, ty, pos, af, none⟩ :: rest) ⟨sl, bx, H⟩ post :=
  TF.cons (e := ⟨some d, .m (.d (.fn f ds)), [], [], none, false, none⟩) (StepF.quiet rfl rfl (blt_lt hn) fun st2 ag => op_makeFunc (by rw [ag.evDs (fun x hx => by simpa [Op.operands] using hx), evDs_eq]; exact ha)) rfl k
theorem f_build {T : Nat} {parts : List (Nat × Operand)} {ps : List (Nat × Nat)} {z : List D} {zs : List M} {ms : List (Nat × M)} {cs : List M} {ds : List D} [ht : TyStruct X.P T ps z] (hn : Nat.blt d X.n = true) (he : evPartsO sl parts = some ms) (hz : mapD z = some zs)
    (hf : fillO ps zs ms = some cs) (hd : allD cs = some ds) (k : TF X ops rest ⟨(d, .m (.d (.agg ds))) :: sl, bx, H⟩ fun es zz => post (⟨some d, .m (.d (.agg ds)), [], [], none, false, none⟩ :: es) zz) : TF X ops (⟨some d, .build T parts.toArray, ty, pos, af, none⟩ :: rest) ⟨sl, bx, H⟩ post := by
  refine TF.cons (e := ⟨some d, .m (.d (.agg ds)), [], [], none, false, none⟩) (StepF.quiet rfl rfl (blt_lt hn) fun st2 ag => ?_) rfl k
  have h1 := op_build (X := X) (dst := some d) (ty := ty) (pos := pos) (af := af) (g := none) (st := st2) (T := T) (parts := parts) (ms := ms) (by rw [ag.evParts (fun p hp => by simp [Op.operands]; exact ⟨_, hp⟩), evPartsO_eq]; exact he) (by rw [← mapD_eq hz]; exact fillO_eq hf)
  have : pack cs = .d (.agg ds) := by simp [pack, hd]
  rw [this] at h1
  exact h1
theorem f_buildSlice {T e n len : Nat} {parts : List (Nat × Operand)} {z : D} {ms : List (Nat × M)} {rows : List (List D)} [ht : TySlice X.P T e] [hs : TySz X.P e n] [hz : TyZ X.P e z] (hn : Nat.blt d X.n = true) (h0 : Nat.blt 0 n = true) (hzl : Nat.beq (dcells z).length n = true)
    (hle : Nat.ble (len * n) 16777216 = true) (he : evPartsO sl parts = some ms) (hr : rowsO 0 ms = some rows) (hlen : Nat.beq rows.length len = true) (hl : lenAll n rows = true)
    (k : TF X ops rest ⟨(d, .m (.d (.sl rows))) :: sl, bx, H⟩ fun es zz => post (⟨some d, .m (.d (.sl rows)), [], [], none, false, none⟩ :: es) zz) : TF X ops (⟨some d, .buildSlice T len parts.toArray, ty, pos, af, none⟩ :: rest) ⟨sl, bx, H⟩ post := by
  refine TF.cons (e := ⟨some d, .m (.d (.sl rows)), [], [], none, false, none⟩) (StepF.quiet rfl rfl (blt_lt hn) fun st2 ag => ?_) rfl k
  exact op_buildSliceAll h0 hzl hle (by rw [ag.evParts (fun p hp => by simp [Op.operands]; exact ⟨_, hp⟩), evPartsO_eq]; exact he) hr hlen hl
theorem get_clearLoc_eq {sl : List (Nat × V)} {d : Nat} (h : ∀ t o, get sl t ≠ some (.loc d o)) : ∀ t v, get sl t = some v → get (clearLoc d sl) t = some v := by
  have : ∀ (l : List (Nat × V)) (t : Nat) (v : V), get l t = some v → (∀ o, v ≠ .loc d o) → get (clearLoc d l) t = some v := by
    intro l
    induction l with
    | nil => intro t v h; simp [get] at h
    | cons x l ih =>
      intro t v hg hv
      obtain ⟨j, u⟩ := x
      cases u with
      | m m =>
        unfold clearLoc
        rcases get_cons_eq hg with ⟨rfl, rfl⟩ | ⟨h1, h2⟩
        · simp [get_cons]
        · rw [get_cons, if_neg (fun e => h1 e.symm)]; exact ih t v h2 hv
      | loc u o =>
        unfold clearLoc
        cases hb : Nat.beq u d with
        | false =>
          rcases get_cons_eq hg with ⟨rfl, rfl⟩ | ⟨h1, h2⟩
          · simp [get_cons]
          · simp only [cond_false]; rw [get_cons, if_neg (fun e => h1 e.symm)]; exact ih t v h2 hv
        | true =>
          have := Nat.eq_of_beq_eq_true hb
          subst this
          rcases get_cons_eq hg with ⟨rfl, rfl⟩ | ⟨h1, h2⟩
          · exact absurd rfl (hv o)
          · simp only [cond_true]; rw [get_cons, if_neg (fun e => h1 e.symm)]; exact ih t v h2 hv
  intro t v hg
  exact this sl t v hg (fun o ho => h t o (by rw [hg, ho]))
theorem f_alloc {T : Nat} {cs : List M} [hz : TyZc X.P T cs] (hn : Nat.blt d X.n = true) (k : TF X ops rest ⟨(d, .loc d 0) :: sl, (d, cs) :: bx, H⟩ fun es zz => post (⟨some d, .loc d 0, [], [(d, cs)], some d, false, none⟩ :: es) zz) :
    TF X ops (⟨some d, .alloc T, ty, pos, af, none⟩ :: rest) ⟨sl, bx, H⟩ post := by
  refine TF.cons (e := ⟨some d, .loc d 0, [], [(d, cs)], some d, false, none⟩) ?_ rfl k
  intro st2 ag
  obtain ⟨z, h1, h2⟩ := hz.h
  subst h2
  have h3 := (op_alloc (X := X) (st := st2) (d := d) (T := T) (ty := ty) (pos := pos) (af := af) (g := none)).opS (ops := ops) rfl rfl (blt_lt hn)
  intro a w hi K Q hK
  refine h3 a w hi K Q fun a' w' hi' => hK a' w' ?_
  have hcl := get_clearLoc_eq (ag.nw d rfl)
  refine hi'.weak (fun t v hv => ?_) (fun _ => rfl)
  rcases get_cons_eq hv with ⟨rfl, rfl⟩ | ⟨h5, h6⟩
  · simp [get_cons]
  · rw [get_cons, if_neg (fun e => h5 e.symm)]; exact hcl t v h6
theorem f_storeL {T n : Nat} {x y : Operand} {t off : Nat} {cs new cs2 : List M} {m : M} [hs : TySz X.P T n] (hx : evs sl x = some (.loc t off)) (hy : evs sl y = some (.m m)) (hb : get bx t = some cs) (hc : cellsO m = some new)
    (hl : Nat.beq new.length n = true) (hw : wr cs off new = some cs2) (k : TF X ops rest ⟨sl, (t, cs2) :: bx, H⟩ fun es zz => post (⟨none, .m .undef, [], [(t, cs2)], none, false, none⟩ :: es) zz) : TF X ops (⟨none, .store T x y, ty, pos, af, none⟩ :: rest) ⟨sl, bx, H⟩ post := by
  obtain ⟨h1, h2⟩ := cellsO_eq hc
  subst h1
  exact TF.cons (e := ⟨none, .m .undef, [], [(t, cs2)], none, false, none⟩) (StepF.writes rfl rfl fun st2 ag => op_storeL ((ag.ev (x := x) (by simp [Op.operands])).trans hx) ((ag.ev (x := y) (by simp [Op.operands])).trans hy) ((ag.bx t (by simp)).trans hb) (Nat.eq_of_beq_eq_true hl) h2 (wr_eq hw)) rfl k

end rules
end Go.Mt
