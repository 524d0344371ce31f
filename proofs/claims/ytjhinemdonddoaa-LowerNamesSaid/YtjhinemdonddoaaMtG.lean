import Derived.Test.YtjhinemdonddoaaMtF
set_option linter.unusedVariables false
namespace Go.Mt

def St.evMs (st : St) : List Operand → Option (List M)
  | [] => some []
  | x :: r => match st.ev x, St.evMs st r with
    | some (.m m), some ms => some (m :: ms)
    | _, _ => none
def St.evDs (st : St) : List Operand → Option (List D)
  | [] => some []
  | x :: r => match st.ev x, St.evDs st r with
    | some (.m (.d d)), some ds => some (d :: ds)
    | _, _ => none

section ops
variable {X : Ctx} {st : St} {dst : Option Nat} {ty : Nat} {pos : String} {af : Array Edge} {g : Option (Nat × Bool)}

theorem FInv.evMs {σ : Sg} {lam : Nat → Nat} {a : Act} (hi : FInv X σ lam st a) : ∀ {xs : List Operand} {ms : List M}, st.evMs xs = some ms → RMs σ ms (xs.map a.eval).toArray
  | [], ms, h => by simp [St.evMs] at h; subst h; exact ⟨rfl, by simp⟩
  | x :: r, ms, h => by
    simp only [St.evMs] at h
    split at h
    · rename_i m ms' h1 h2
      injection h with h; subst h
      have h3 := hi.evMs h2
      have h4 := hi.ev h1
      refine ⟨by simpa using h3.1, fun i m' v hm hv => ?_⟩
      cases i with
      | zero => simp at hm hv; subst hm; subst hv; cases h4 with | m h => exact h
      | succ i => simp at hm hv; exact h3.2 i m' v hm (by simpa using hv)
    · cases h
theorem FInv.evDs {σ : Sg} {lam : Nat → Nat} {a : Act} (hi : FInv X σ lam st a) : ∀ {xs : List Operand} {ds : List D}, st.evDs xs = some ds → Reps σ.O σ.w ds (xs.map a.eval).toArray
  | [], ms, h => by simp [St.evDs] at h; subst h; exact ⟨rfl, by simp⟩
  | x :: r, ms, h => by
    simp only [St.evDs] at h
    split at h
    · rename_i m ms' h1 h2
      injection h with h; subst h
      have h3 := hi.evDs h2
      have h4 := hi.evd h1
      refine ⟨by simpa using h3.1, fun i m' v hm hv => ?_⟩
      cases i with
      | zero => simp at hm hv; subst hm; subst hv; exact h4
      | succ i => simp at hm hv; exact h3.2 i m' v hm (by simpa using hv)
    · cases h

class IsFn (P : Program) (f : Nat) : Prop where
  run : ∀ (args : Array Value) (w : World), (callFunc f args).run P w = .ok (.enter f args) w

/-- the post of a call of data -/
def callp (st : St) (post : List D → Prop) : V → St → Prop := fun v s => ∃ r, v = .m (tupM (r.map .d)) ∧ post r ∧ s = st

theorem OpT.callD {o : Oper} {f : Nat} {ds : List D} {post : List D → Prop} (h : PT X.P f ds post)
    (hr : ∀ a σ lam, FInv X σ lam st a → ∃ vs, (execOp a.eval o).run X.P σ.w = .ok (.enter f vs) σ.w ∧ Reps σ.O σ.w ds vs) : OpT X o st (callp st post) := by
  intro a σ lam hi
  obtain ⟨vs, h1, h2⟩ := hr a σ lam hi
  refine OpRun.enter h1 ((h σ.O σ.w vs hi.hinv.oold h2).mono ?_)
  rintro e w' ⟨v, r, rfl, hp, he, hv⟩
  refine ⟨v, rfl, _, st, { σ with w := w' }, lam, ⟨r, rfl, hp, rfl⟩, rfl, hi.ext he, .m ?_⟩
  exact hv.mono' fun b o v h1 h2 => ⟨h1, h2⟩

theorem op_call {f : Nat} {args : List Operand} {tys : Array Nat} {ds : List D} {post : List D → Prop} [hf : IsFn X.P f] (ha : st.evDs args = some ds) (h : PT X.P f ds post) :
    OpT X ⟨dst, .call ⟨.value (.func f), args.toArray, tys⟩, ty, pos, af, g⟩ st (callp st post) := by
  refine OpT.callD h fun a σ lam hi => ⟨(args.map a.eval).toArray, ?_, hi.evDs ha⟩
  simp only [execOp, resolve, Act.eval, Deferred.ofValue, invoke]
  simp [hf.run]

theorem op_call1 {f : Nat} {args : List Operand} {tys : Array Nat} {ds : List D} {r : D} [hf : IsFn X.P f] (ha : st.evDs args = some ds) (h : PT X.P f ds (· = [r])) :
    OpT X ⟨dst, .call ⟨.value (.func f), args.toArray, tys⟩, ty, pos, af, g⟩ st (eqp (.m (.d r)) st) := by
  intro a σ lam hi
  have := op_call (dst := dst) (ty := ty) (pos := pos) (af := af) (g := g) (tys := tys) ha h a σ lam hi
  unfold OpRun at this ⊢
  generalize (execOp a.eval _).run X.P σ.w = z at *
  have hp : ∀ v s, callp st (· = [r]) v s → eqp (.m (.d r)) st v s := by
    rintro v s ⟨r', rfl, rfl, rfl⟩; exact ⟨rfl, rfl⟩
  cases z with
  | ok x w' =>
    cases x <;> simp only at this ⊢ <;> first
      | (obtain ⟨v, s, σ', l', h1, h2⟩ := this; exact ⟨v, s, σ', l', hp _ _ h1, h2⟩)
      | exact this.mono fun e w'' ⟨u, he, v, s, σ', l', h1, h2⟩ => ⟨u, he, v, s, σ', l', hp _ _ h1, h2⟩
      | exact this
  | halt x w' => exact this

/-- a call of a closure over data -/
theorem op_callv {x : Operand} {f : Nat} {caps : List D} {args : List Operand} {tys : Array Nat} {ds : List D} {post : List D → Prop} (hx : st.ev x = some (.m (.d (.fn f caps)))) [hf : IsFn X.P f] (ha : st.evDs args = some ds)
    (h : PT X.P f (ds ++ caps) post) : OpT X ⟨dst, .call ⟨.value x, args.toArray, tys⟩, ty, pos, af, g⟩ st (callp st post) := by
  refine OpT.callD h fun a σ lam hi => ?_
  have h1 := hi.evd hx
  have h2 := hi.evDs ha
  generalize hu : a.eval x = u at h1
  cases h1 with
  | fn f cs vs hl hh =>
    refine ⟨(args.map a.eval).toArray ++ vs, ?_, ?_⟩
    · simp only [execOp, resolve, hu, Deferred.ofValue, invoke]
      simp [hf.run]
    · refine ⟨by have := h2.1; simp at this; simp [this, hl], fun i d v hd hv => ?_⟩
      have hl2 : (args.map a.eval).toArray.size = ds.length := h2.1
      rcases Nat.lt_or_ge i ds.length with hlt | hge
      · rw [List.getElem?_append_left hlt] at hd
        rw [Array.getElem?_append_left (by omega)] at hv
        exact h2.2 i d v hd hv
      · rw [List.getElem?_append_right hge] at hd
        rw [Array.getElem?_append_right (by omega), hl2] at hv
        exact hh _ d v hd hv

theorem op_makeFunc {f : Nat} {caps : List Operand} {ds : List D} (ha : st.evDs caps = some ds) :
    OpT X ⟨dst, .makeFunc (.func f) #[] caps.toArray, ty, pos, af, g⟩ st (eqp (.m (.d (.fn f ds))) st) := by
  refine OpT.quiet fun a σ lam hi => ?_
  have h := hi.evDs ha
  exact ⟨.func (.func f) #[] (caps.map a.eval).toArray, by simp [execOp, Instr.makeFunc], .m (.d (.fn f ds _ h.1 h.2))⟩

theorem sep_of_hinv {σ : Sg} {Oo : Nat → Nat → Prop} (h : HInv σ Oo) {b : Nat} (hb : Oo b 0) : ∀ (i : Nat) ob, σ.H[i]? = some ob → ob.live → σ.l i ≠ b := by
  intro i ob h1 h2 he
  exact h.sep i ob h1 h2 0 (by rw [he]; exact hb)

/-- a call over the heap -/
theorem OpT.callR {o : Oper} {f : Nat} {ms : List M} {post : M → Hp → Prop} (h : CT X.P f ms st.H post)
    (hr : ∀ a σ lam, FInv X σ lam st a → ∃ vs, (execOp a.eval o).run X.P σ.w = .ok (.enter f vs) σ.w ∧ RMs σ ms vs) :
    OpT X o st (fun v s => ∃ r H', v = .m r ∧ post r H' ∧ s = ⟨st.sl, st.bx, H'⟩) := by
  intro a σ lam hi
  obtain ⟨vs, h1, h2⟩ := hr a σ lam hi
  refine OpRun.enter h1 ((h σ _ vs hi.hinv hi.hH h2).mono ?_)
  rintro e w' ⟨v, r, σ', rfl, rfl, hp, hi', hv, hm, hb⟩
  refine ⟨v, rfl, .m r, ⟨st.sl, st.bx, σ'.H⟩, σ', lam, ⟨r, σ'.H, rfl, hp, rfl⟩, rfl, ?_, .m hv⟩
  refine ⟨rfl, hi.defers, hi.size, fun t v h3 => let ⟨u, h4, h5⟩ := hi.slot t v h3; ⟨u, h4, h5.mono hm⟩, ?_, hi.binj, hi.bsep, hi.bnew, hi', hi.mono.trans hm, hi.blk.trans hb⟩
  intro t cs h3
  have hlt := (hi.box t cs h3).lt trivial
  have hne := sep_of_hinv hi.hinv (b := lam t) (.inr ⟨t, cs, h3, rfl⟩)
  refine (hi.box t cs h3).keep hm fun x hx => ?_
  rw [hb.blk _ hlt hne]; exact hx

theorem op_callR {f : Nat} {args : List Operand} {tys : Array Nat} {ms : List M} {post : M → Hp → Prop} [hf : IsFn X.P f] (ha : st.evMs args = some ms) (h : CT X.P f ms st.H post) :
    OpT X ⟨dst, .call ⟨.value (.func f), args.toArray, tys⟩, ty, pos, af, g⟩ st (fun v s => ∃ r H', v = .m r ∧ post r H' ∧ s = ⟨st.sl, st.bx, H'⟩) := by
  refine OpT.callR h fun a σ lam hi => ⟨(args.map a.eval).toArray, ?_, hi.evMs ha⟩
  simp only [execOp, resolve, Act.eval, Deferred.ofValue, invoke]
  simp [hf.run]

end ops
end Go.Mt
