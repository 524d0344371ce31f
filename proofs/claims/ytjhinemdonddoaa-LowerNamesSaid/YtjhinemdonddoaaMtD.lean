import Derived.Test.YtjhinemdonddoaaMtC
import Derived.WalkKit
set_option linter.unusedVariables false
namespace Go.Mt

def OpRun (P : Program) (o : Oper) (ρ : Operand → Value) (w : World) (post : Value → World → Prop) : Prop :=
  match (execOp ρ o).run P w with
  | .ok (.value u) w' => post u w'
  | .ok .skip w' => post undef w'
  | .ok (.enter f args) w' => Calls P f args w' fun e w'' => ∃ u, e = .returned u ∧ post u w''
  | _ => False

theorem OpRun.value {P : Program} {o : Oper} {ρ : Operand → Value} {w w' : World} {u : Value} {post : Value → World → Prop}
    (h : (execOp ρ o).run P w = .ok (.value u) w') (hp : post u w') : OpRun P o ρ w post := by
  unfold OpRun; rw [h]; exact hp
theorem OpRun.skip {P : Program} {o : Oper} {ρ : Operand → Value} {w w' : World} {post : Value → World → Prop}
    (h : (execOp ρ o).run P w = .ok .skip w') (hp : post undef w') : OpRun P o ρ w post := by
  unfold OpRun; rw [h]; exact hp
theorem OpRun.enter {P : Program} {o : Oper} {ρ : Operand → Value} {w w' : World} {f : Nat} {args : Array Value} {post : Value → World → Prop}
    (h : (execOp ρ o).run P w = .ok (.enter f args) w') (hp : Calls P f args w' fun e w'' => ∃ u, e = .returned u ∧ post u w'') : OpRun P o ρ w post := by
  unfold OpRun; rw [h]; exact hp

theorem OpRun.wp {P : Program} {o : Oper} {a : Act} {w : World} {post : Value → World → Prop} {next : Act → World → Prop} {Q : Exit → Act → World → Prop}
    (h : OpRun P o a.eval w post) (hn : ∀ u w', post u w' → next (a.put o.dst u) w') : o.wp P a w next Q := by
  unfold OpRun at h
  unfold Oper.wp
  generalize (execOp a.eval o).run P w = r at *
  cases r with
  | ok x w' =>
    cases x <;> simp only [Oper.upon] at h ⊢ <;>
      first
        | exact hn _ _ h
        | exact h.elim
        | exact Calls.mono h (fun e w'' ⟨u, he, hu⟩ => by subst he; exact hn _ _ hu)
  | halt x w' => simp at h

def OpT (X : Ctx) (o : Oper) (st : St) (post : V → St → Prop) : Prop :=
  ∀ a σ lam, FInv X σ lam st a → OpRun X.P o a.eval σ.w fun u w' => ∃ v st' σ' lam', post v st' ∧ σ'.w = w' ∧ FInv X σ' lam' st' a ∧ RV σ' lam' v u

def wants (ops : Array Oper) (o : Oper) (st : St) : Option Bool :=
  match o.guard with
  | none => some true
  | some (j, want) => match (ops[j]?).bind (·.dst) with
    | some g => match get st.sl g with
      | some (.m (.d (.bool b))) => some (b == want)
      | some (.m (.tup [])) => some false
      | _ => none
    | none => none

theorem get_cons {α : Type} (k t : Nat) (v : α) (l : List (Nat × α)) : get ((k, v) :: l) t = if k = t then some v else get l t := by
  show (bif Nat.beq k t then some v else get l t) = _
  by_cases h : k = t
  · subst h; simp
  · have : Nat.beq k t = false := by rw [← Bool.not_eq_true]; intro e; exact h (Nat.eq_of_beq_eq_true e)
    rw [this, if_neg h]; rfl

theorem FInv.set {X : Ctx} {σ : Sg} {lam : Nat → Nat} {sl : List (Nat × V)} {bx : List (Nat × List M)} {H : Hp} {a : Act} {d : Nat} {v : V} {u : Value}
    (h : FInv X σ lam ⟨sl, bx, H⟩ a) (hd : d < X.n) (hv : RV σ lam v u) : FInv X σ lam ⟨(d, v) :: sl, bx, H⟩ (a.put (some d) u) := by
  refine ⟨h.hH, h.defers, ?_, ?_, h.box, h.binj, h.bsep, h.bnew, h.hinv, h.mono, h.blk⟩
  · simp [Act.put, h.size]
  · intro t x hx
    simp only [get_cons] at hx
    by_cases e : d = t
    · subst e
      simp at hx; subst hx
      refine ⟨u, ?_, hv⟩
      simp [Act.put, h.size, hd]
    · rw [if_neg e] at hx
      obtain ⟨u', h1, h2⟩ := h.slot t x hx
      refine ⟨u', ?_, h2⟩
      simp [Act.put, Array.getElem?_setIfInBounds_ne e, h1]

theorem FInv.wanted {X : Ctx} {σ : Sg} {lam : Nat → Nat} {st : St} {a : Act} (h : FInv X σ lam st a) {ops : Array Oper} {o : Oper} {b : Bool}
    (hw : wants ops o st = some b) : Region.wanted o (yielded ops a.tmps) = b := by
  unfold wants at hw
  unfold Region.wanted
  split at hw
  · rename_i hg; simp only [hg]; injection hw with e
  · rename_i j want hg
    simp only [hg]
    split at hw
    · rename_i g hgd
      split at hw
      · rename_i b' hb
        obtain ⟨u, h1, h2⟩ := h.slot _ _ hb
        cases h2 with
        | m h3 => cases h3 with
          | d h4 => cases h4 with
            | bool b' =>
              injection hw with e
              subst e
              simp only [yielded, hgd, Option.bind_some, h1]
              cases b' <;> cases want <;> rfl
      · rename_i hb
        obtain ⟨u, h1, h2⟩ := h.slot _ _ hb
        cases h2 with
        | m h3 => cases h3 with
          | tup cs vs hl hh =>
            injection hw with e
            subst e
            simp only [yielded, hgd, Option.bind_some, h1]
            cases want <;> rfl
      · cases hw
    · cases hw

theorem blt_lt {a b : Nat} (h : Nat.blt a b = true) : a < b := by rw [Nat.blt_eq] at h; exact h

/-- one operation, carried out -/
theorem TL.op {X : Ctx} {ops : Array Oper} {o : Oper} {rest : List Oper} {st : St} {post : St → Prop} {post' : V → St → Prop} {d : Nat}
    (hw : wants ops o st = some true) (hd : o.dst = some d) (hn : Nat.blt d X.n = true) (h : OpT X o st post')
    (k : ∀ v s, post' v s → TL X ops rest ⟨(d, v) :: s.sl, s.bx, s.H⟩ post) : TL X ops (o :: rest) st post := by
  rintro a w ⟨σ, lam, rfl, hi⟩
  unfold wpList
  rw [if_pos (hi.wanted hw)]
  refine .inl ((h a σ lam hi).wp ?_)
  rintro u w' ⟨v, s, σ', lam', h1, h2, h3, h4⟩
  rw [hd]
  exact k v s h1 _ _ ⟨σ', lam', h2, h3.set (blt_lt hn) h4⟩

/-- one operation without a slot, carried out -/
theorem TL.op0 {X : Ctx} {ops : Array Oper} {o : Oper} {rest : List Oper} {st : St} {post : St → Prop} {post' : V → St → Prop}
    (hw : wants ops o st = some true) (hd : o.dst = none) (h : OpT X o st post')
    (k : ∀ v s, post' v s → TL X ops rest s post) : TL X ops (o :: rest) st post := by
  rintro a w ⟨σ, lam, rfl, hi⟩
  unfold wpList
  rw [if_pos (hi.wanted hw)]
  refine .inl ((h a σ lam hi).wp ?_)
  rintro u w' ⟨v, s, σ', lam', h1, h2, h3, h4⟩
  rw [hd]
  exact k v s h1 _ _ ⟨σ', lam', h2, h3⟩

/-- one operation whose guard says no -/
theorem TL.skip {X : Ctx} {ops : Array Oper} {o : Oper} {rest : List Oper} {st : St} {post : St → Prop} {d : Nat}
    (hw : wants ops o st = some false) (hd : o.dst = some d) (hn : Nat.blt d X.n = true)
    (k : TL X ops rest ⟨(d, .m (.tup [])) :: st.sl, st.bx, st.H⟩ post) : TL X ops (o :: rest) st post := by
  intro a w ⟨σ, lam, hσ, hi⟩
  unfold wpList
  rw [if_neg (by rw [hi.wanted hw]; simp)]
  rw [hd]
  exact k _ _ ⟨σ, lam, hσ, hi.set (blt_lt hn) (.m (.tup [] #[] rfl (by intro i m v h; simp at h)))⟩

theorem TL.nil {X : Ctx} {ops : Array Oper} {st : St} {post : St → Prop} (h : post st) : TL X ops [] st post :=
  fun a w hi => ⟨rfl, st, h, hi⟩

/-- the post of a deterministic operation -/
def eqp (v : V) (st : St) : V → St → Prop := fun v' s' => v' = v ∧ s' = st

theorem TL.op1 {X : Ctx} {ops : Array Oper} {o : Oper} {rest : List Oper} {st : St} {post : St → Prop} {v : V} {s : St} {d : Nat}
    (hw : wants ops o st = some true) (hd : o.dst = some d) (hn : Nat.blt d X.n = true) (h : OpT X o st (eqp v s))
    (k : TL X ops rest ⟨(d, v) :: s.sl, s.bx, s.H⟩ post) : TL X ops (o :: rest) st post :=
  TL.op hw hd hn h fun v' s' ⟨h1, h2⟩ => by subst h1; subst h2; exact k
theorem TL.op01 {X : Ctx} {ops : Array Oper} {o : Oper} {rest : List Oper} {st : St} {post : St → Prop} {v : V} {s : St}
    (hw : wants ops o st = some true) (hd : o.dst = none) (h : OpT X o st (eqp v s))
    (k : TL X ops rest s post) : TL X ops (o :: rest) st post :=
  TL.op0 hw hd h fun v' s' ⟨h1, h2⟩ => by subst h1; subst h2; exact k

theorem OpT.quiet {X : Ctx} {o : Oper} {st : St} {v : V} (h : ∀ a σ lam, FInv X σ lam st a → ∃ u, (execOp a.eval o).run X.P σ.w = .ok (.value u) σ.w ∧ RV σ lam v u) :
    OpT X o st (eqp v st) := by
  intro a σ lam hi
  obtain ⟨u, h1, h2⟩ := h a σ lam hi
  exact OpRun.value h1 ⟨v, st, σ, lam, ⟨rfl, rfl⟩, rfl, hi, h2⟩

theorem dOfCell_rep {O : Nat → Nat → Prop} {w : World} {v : Value} {d : D} (h : dOfCell v = some d) : Rep O w d v := by
  unfold dOfCell at h
  split at h <;> first
    | (injection h with h; subst h; constructor)
    | cases h

theorem dOfCells_rep {O : Nat → Nat → Prop} {w : World} : ∀ {vs : List Value} {ds : List D}, dOfCells vs = some ds →
    vs.length = ds.length ∧ ∀ (i : Nat) d v, ds[i]? = some d → vs[i]? = some v → Rep O w d v
  | [], ds, h => by simp [dOfCells] at h; subst h; simp
  | v :: r, ds, h => by
    simp only [dOfCells] at h
    split at h
    · rename_i d ds' h1 h2
      injection h with h; subst h
      obtain ⟨h3, h4⟩ := dOfCells_rep (O := O) (w := w) h2
      refine ⟨by simp [h3], fun i d' v' hd hv => ?_⟩
      cases i with
      | zero => simp at hd hv; subst hd; subst hv; exact dOfCell_rep h1
      | succ i => simp at hd hv; exact h4 i d' v' hd hv
    · cases h

theorem dOfCell_flat {v : Value} {d : D} (h : dOfCell v = some d) : flat v = true := by
  unfold dOfCell at h
  split at h <;> first | rfl | cases h
theorem dOfCells_flat : ∀ {vs : List Value} {ds : List D}, dOfCells vs = some ds → ∀ (i : Nat) (v : Value), vs[i]? = some v → flat v = true
  | [], ds, h, i, v, hv => by simp at hv
  | x :: r, ds, h, i, v, hv => by
    simp only [dOfCells] at h
    split at h
    · rename_i d ds' h1 h2
      cases i with
      | zero => simp at hv; subst hv; exact dOfCell_flat h1
      | succ i => simp at hv; exact dOfCells_flat h2 i v hv
    · cases h

theorem dOfVal_rep {O : Nat → Nat → Prop} {w : World} {v : Value} {d : D} (h : dOfVal v = some d) : Rep O w d v := by
  unfold dOfVal at h
  split at h
  · rename_i cs
    cases hc : dOfCells cs.toList with
    | none => simp [hc] at h
    | some ds =>
      simp [hc] at h; subst h
      obtain ⟨h3, h4⟩ := dOfCells_rep (O := O) (w := w) hc
      exact .agg ds cs (by simpa using h3) (fun i v hv => dOfCells_flat hc i v (by simpa using hv)) (fun i d v hd hv => h4 i d v hd (by simpa using hv))
  · exact dOfCell_rep h

theorem FInv.ev {X : Ctx} {σ : Sg} {lam : Nat → Nat} {st : St} {a : Act} (h : FInv X σ lam st a) {x : Operand} {v : V} (hx : st.ev x = some v) :
    RV σ lam v (a.eval x) := by
  cases x with
  | tmp t =>
    obtain ⟨u, h1, h2⟩ := h.slot t v hx
    have : a.eval (.tmp t) = u := by simp [Act.eval, h1]
    rw [this]; exact h2
  | const c =>
    simp only [St.ev, evs] at hx
    cases hc : dOfVal c with
    | none => simp [hc] at hx
    | some d => simp [hc] at hx; subst hx; exact .m (.d (dOfVal_rep hc))
  | func f =>
    simp only [St.ev, evs] at hx
    injection hx with hx; subst hx
    exact .m (.d (.fn f [] #[] rfl (by simp)))
  | global g => simp [St.ev, evs] at hx

section ops
variable {X : Ctx} {st : St} {dst : Option Nat} {ty : Nat} {pos : String} {af : Array Edge} {g : Option (Nat × Bool)}

theorem op_move {x : Operand} {v : V} (hx : st.ev x = some v) : OpT X ⟨dst, .move x, ty, pos, af, g⟩ st (eqp v st) :=
  OpT.quiet fun a σ lam hi => ⟨_, by simp [execOp], hi.ev hx⟩
theorem op_assign {x : Operand} {v : V} (hx : st.ev x = some v) : OpT X ⟨dst, .assign x, ty, pos, af, g⟩ st (eqp v st) :=
  OpT.quiet fun a σ lam hi => ⟨_, by simp [execOp], hi.ev hx⟩

theorem FInv.evd {σ : Sg} {lam : Nat → Nat} {a : Act} (h : FInv X σ lam st a) {x : Operand} {d : D} (hx : st.ev x = some (.m (.d d))) :
    Rep σ.O σ.w d (a.eval x) := by
  have := h.ev hx
  cases this with
  | m h => cases h with
    | d h => exact h
theorem FInv.evbool {σ : Sg} {lam : Nat → Nat} {a : Act} (h : FInv X σ lam st a) {x : Operand} {b : Bool} (hx : st.ev x = some (.m (.d (.bool b)))) :
    a.eval x = .bool b := by
  have := h.evd hx
  generalize a.eval x = u at *
  cases this; rfl
theorem FInv.evint {σ : Sg} {lam : Nat → Nat} {a : Act} (h : FInv X σ lam st a) {x : Operand} {k : IntKind} {n : Int} (hx : st.ev x = some (.m (.d (.int k n)))) :
    a.eval x = .int k n := by
  have := h.evd hx
  generalize a.eval x = u at *
  cases this; rfl
theorem FInv.evstr {σ : Sg} {lam : Nat → Nat} {a : Act} (h : FInv X σ lam st a) {x : Operand} {s : ByteArray} (hx : st.ev x = some (.m (.d (.str s)))) :
    a.eval x = .string s := by
  have := h.evd hx
  generalize a.eval x = u at *
  cases this; rfl

theorem op_pick_t {c x y : Operand} {v : V} (hc : st.ev c = some (.m (.d (.bool true)))) (hx : st.ev x = some v) :
    OpT X ⟨dst, .pick c x y, ty, pos, af, g⟩ st (eqp v st) :=
  OpT.quiet fun a σ lam hi => ⟨_, by simp [execOp, hi.evbool hc, asBool], hi.ev hx⟩
theorem op_pick_f {c x y : Operand} {v : V} (hc : st.ev c = some (.m (.d (.bool false)))) (hx : st.ev y = some v) :
    OpT X ⟨dst, .pick c x y, ty, pos, af, g⟩ st (eqp v st) :=
  OpT.quiet fun a σ lam hi => ⟨_, by simp [execOp, hi.evbool hc, asBool], hi.ev hx⟩

/-- integer operators that cannot fail -/
def intBin : BinOp → IntKind → Int → Int → Option D
  | .add, k, a, b => some (.int k (k.wrap (a + b)))
  | .sub, k, a, b => some (.int k (k.wrap (a - b)))
  | .mul, k, a, b => some (.int k (k.wrap (a * b)))
  | .eql, _, a, b => some (.bool (a == b))
  | .neq, _, a, b => some (.bool (a != b))
  | .lss, _, a, b => some (.bool (decide (a < b)))
  | .leq, _, a, b => some (.bool (decide (a ≤ b)))
  | .gtr, _, a, b => some (.bool (decide (a > b)))
  | .geq, _, a, b => some (.bool (decide (a ≥ b)))
  | _, _, _, _ => none

theorem op_int {op : BinOp} {xt yt : Nat} {x y : Operand} {k : IntKind} {m n : Int} {r : D} (hx : st.ev x = some (.m (.d (.int k m)))) (hy : st.ev y = some (.m (.d (.int k n))))
    (hr : intBin op k m n = some r) : OpT X ⟨dst, .binOp op xt x y yt, ty, pos, af, g⟩ st (eqp (.m (.d r)) st) := by
  refine OpT.quiet fun a σ lam hi => ?_
  have h1 := hi.evint hx
  have h2 := hi.evint hy
  cases op <;> simp only [intBin] at hr <;> first | (injection hr with hr; subst hr; refine ⟨_, by simp [execOp, h1, h2, eqGuard, binOp, Op.intArith, Op.intCmp]; rfl, ?_⟩; exact .m (.d (by constructor))) | cases hr

theorem op_quo {xt yt : Nat} {x y : Operand} {k : IntKind} {m n : Int} (hx : st.ev x = some (.m (.d (.int k m)))) (hy : st.ev y = some (.m (.d (.int k n))))
    (hn : (n == 0) = false) : OpT X ⟨dst, .binOp .quo xt x y yt, ty, pos, af, g⟩ st (eqp (.m (.d (.int k (k.wrap (m.tdiv n))))) st) := by
  refine OpT.quiet fun a σ lam hi => ?_
  have h1 := hi.evint hx
  have h2 := hi.evint hy
  have h3 : ¬ n = 0 := by simpa using hn
  exact ⟨_, by simp [execOp, h1, h2, eqGuard, binOp, Op.intDiv, h3]; rfl, .m (.d (by constructor))⟩
theorem op_rem {xt yt : Nat} {x y : Operand} {k : IntKind} {m n : Int} (hx : st.ev x = some (.m (.d (.int k m)))) (hy : st.ev y = some (.m (.d (.int k n))))
    (hn : (n == 0) = false) : OpT X ⟨dst, .binOp .rem xt x y yt, ty, pos, af, g⟩ st (eqp (.m (.d (.int k (m.tmod n)))) st) := by
  refine OpT.quiet fun a σ lam hi => ?_
  have h1 := hi.evint hx
  have h2 := hi.evint hy
  have h3 : ¬ n = 0 := by simpa using hn
  exact ⟨_, by simp [execOp, h1, h2, eqGuard, binOp, Op.intDiv, h3]; rfl, .m (.d (by constructor))⟩

theorem op_not {x : Operand} {xt : Nat} {b : Bool} (hx : st.ev x = some (.m (.d (.bool b)))) : OpT X ⟨dst, .unOp .not xt x, ty, pos, af, g⟩ st (eqp (.m (.d (.bool (!b)))) st) := by
  refine OpT.quiet fun a σ lam hi => ?_
  have h1 := hi.evbool hx
  exact ⟨_, by simp [execOp, h1, Op.unary]; rfl, .m (.d (by constructor))⟩
theorem op_neg {x : Operand} {xt : Nat} {k : IntKind} {n : Int} (hx : st.ev x = some (.m (.d (.int k n)))) : OpT X ⟨dst, .unOp .neg xt x, ty, pos, af, g⟩ st (eqp (.m (.d (.int k (k.wrap (-n))))) st) := by
  refine OpT.quiet fun a σ lam hi => ?_
  have h1 := hi.evint hx
  exact ⟨_, by simp [execOp, h1, Op.unary, Op.intArith]; rfl, .m (.d (by constructor))⟩

theorem ba_toList_beq (a b : ByteArray) : (a.toList == b.toList) = decide (a = b) := by
  rw [Bool.eq_iff_iff]
  simp
  constructor
  · intro h
    have : a.data.toList = b.data.toList := by
      rw [ByteArray.toList_eq, ByteArray.toList_eq] at h; exact h
    cases a; cases b; simp at this; simp [this]
  · rintro rfl; rfl

/-- string operators that cannot fail -/
def strBin : BinOp → ByteArray → ByteArray → Option D
  | .eql, a, b => some (.bool (decide (a = b)))
  | .neq, a, b => some (.bool (!decide (a = b)))
  | .lss, a, b => some (.bool (Op.bytesLess a.toList b.toList))
  | _, _, _ => none
end ops
end Go.Mt
