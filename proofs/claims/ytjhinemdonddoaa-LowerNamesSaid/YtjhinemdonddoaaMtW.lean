import Derived.Test.YtjhinemdonddoaaMtV
set_option linter.unusedVariables false
namespace Go.Mt

class TyBoo (P : Program) (t : Nat) : Prop where
  u : P.underlying t = some .bool

theorem equal_bool {P : Program} {w : World} {t : Nat} (h : P.underlying t = some .bool) (a b : Bool) : (Op.equal t (.bool a) (.bool b)).run P w = .ok (a == b) w := by
  have hund : (underlying t).run P w = .ok .bool w := by simp [underlying, program, Sem.run, h]
  simp only [Op.equal, Op.maxDepth]
  rw [Op.equalIn]
  simp [hund]

section ops
variable {X : Ctx} {st : St} {dst : Option Nat} {ty : Nat} {pos : String} {af : Array Edge} {g : Option (Nat × Bool)}
theorem op_beq {x y : Operand} {xt yt : Nat} {b c : Bool} [ht : TyBoo X.P xt] (hx : st.ev x = some (.m (.d (.bool b)))) (hy : st.ev y = some (.m (.d (.bool c)))) :
    OpT X ⟨dst, .binOp .eql xt x y yt, ty, pos, af, g⟩ st (eqp (.m (.d (.bool (b == c)))) st) := by
  refine OpT.quiet fun a σ lam hi => ?_
  exact ⟨_, by simp [execOp, hi.evbool hx, hi.evbool hy, eqGuard, binOp, equal_bool ht.u], .m (.d (.bool _))⟩
theorem op_bne {x y : Operand} {xt yt : Nat} {b c : Bool} [ht : TyBoo X.P xt] (hx : st.ev x = some (.m (.d (.bool b)))) (hy : st.ev y = some (.m (.d (.bool c)))) :
    OpT X ⟨dst, .binOp .neq xt x y yt, ty, pos, af, g⟩ st (eqp (.m (.d (.bool (!(b == c))))) st) := by
  refine OpT.quiet fun a σ lam hi => ?_
  exact ⟨_, by simp [execOp, hi.evbool hx, hi.evbool hy, eqGuard, binOp, equal_bool ht.u], .m (.d (.bool _))⟩
end ops
section rules
variable {X : Ctx} {ops : Array Oper} {rest : List Oper} {post : St → Prop} {postF : List Ef → St → Prop} {sl : List (Nat × V)} {bx : List (Nat × List M)} {H : Hp} {d ty : Nat} {pos : String} {af : Array Edge}
theorem t_beq {x y : Operand} {xt yt : Nat} {b c : Bool} [ht : TyBoo X.P xt] (hn : Nat.blt d X.n = true) (hx : evs sl x = some (.m (.d (.bool b)))) (hy : evs sl y = some (.m (.d (.bool c))))
    (k : TL X ops rest ⟨(d, .m (.d (.bool (b == c)))) :: sl, bx, H⟩ post) : TL X ops (⟨some d, .binOp .eql xt x y yt, ty, pos, af, none⟩ :: rest) ⟨sl, bx, H⟩ post :=
  TL.o1 rfl rfl hn (op_beq hx hy) k
theorem t_bne {x y : Operand} {xt yt : Nat} {b c : Bool} [ht : TyBoo X.P xt] (hn : Nat.blt d X.n = true) (hx : evs sl x = some (.m (.d (.bool b)))) (hy : evs sl y = some (.m (.d (.bool c))))
    (k : TL X ops rest ⟨(d, .m (.d (.bool (!(b == c))))) :: sl, bx, H⟩ post) : TL X ops (⟨some d, .binOp .neq xt x y yt, ty, pos, af, none⟩ :: rest) ⟨sl, bx, H⟩ post :=
  TL.o1 rfl rfl hn (op_bne hx hy) k
theorem f_beq {x y : Operand} {xt yt : Nat} {b c : Bool} [ht : TyBoo X.P xt] (hn : Nat.blt d X.n = true) (hx : evs sl x = some (.m (.d (.bool b)))) (hy : evs sl y = some (.m (.d (.bool c))))
    (k : TF X ops rest ⟨(d, .m (.d (.bool (b == c)))) :: sl, bx, H⟩ fun ees zz => postF (⟨some d, .m (.d (.bool (b == c))), [], [], none, false, none⟩ :: ees) zz) : TF X ops (⟨some d, .binOp .eql xt x y yt, ty, pos, af, none⟩ :: rest) ⟨sl, bx, H⟩ postF :=
  TF.cons (e := ⟨some d, .m (.d (.bool (b == c))), [], [], none, false, none⟩) (StepF.quiet rfl rfl (blt_lt hn) fun st2 ag => op_beq ((ag.ev (x := x) (by simp [Op.operands])).trans hx) ((ag.ev (x := y) (by simp [Op.operands])).trans hy)) rfl k
theorem f_bne {x y : Operand} {xt yt : Nat} {b c : Bool} [ht : TyBoo X.P xt] (hn : Nat.blt d X.n = true) (hx : evs sl x = some (.m (.d (.bool b)))) (hy : evs sl y = some (.m (.d (.bool c))))
    (k : TF X ops rest ⟨(d, .m (.d (.bool (!(b == c))))) :: sl, bx, H⟩ fun ees zz => postF (⟨some d, .m (.d (.bool (!(b == c)))), [], [], none, false, none⟩ :: ees) zz) : TF X ops (⟨some d, .binOp .neq xt x y yt, ty, pos, af, none⟩ :: rest) ⟨sl, bx, H⟩ postF :=
  TF.cons (e := ⟨some d, .m (.d (.bool (!(b == c)))), [], [], none, false, none⟩) (StepF.quiet rfl rfl (blt_lt hn) fun st2 ag => op_bne ((ag.ev (x := x) (by simp [Op.operands])).trans hx) ((ag.ev (x := y) (by simp [Op.operands])).trans hy)) rfl k
end rules
end Go.Mt
