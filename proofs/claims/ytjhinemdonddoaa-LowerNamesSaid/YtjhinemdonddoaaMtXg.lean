import Derived.Test.YtjhinemdonddoaaMtXf
import Derived.Test.YtjhinemdonddoaaMtW
set_option linter.unusedVariables false
namespace Go.Mt
variable {X : Ctx} {ops : Array Oper} {rest : List Oper} {post : St → Prop} {sl : List (Nat × V)} {bx : List (Nat × List M)} {H : Hp} {d ty : Nat} {pos : String} {af : Array Edge}
/-- a variable of the frame that is handed on by its address: an object of the heap -/
theorem t_allocH {T : Nat} {cs : List M} [hz : TyZc X.P T cs] (hn : Nat.blt d X.n = true) (k : TL X ops rest ⟨(d, .m (.ref H.length 0)) :: sl, bx, H ++ [Ob.box cs]⟩ post) :
    TL X ops (⟨some d, .alloc T, ty, pos, af, none⟩ :: rest) ⟨sl, bx, H⟩ post := by
  obtain ⟨z, h1, h2⟩ := hz.h
  subst h2
  exact TL.o1 rfl rfl hn op_allocH k
end Go.Mt
