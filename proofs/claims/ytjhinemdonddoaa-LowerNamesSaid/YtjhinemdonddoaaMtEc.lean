import Derived.Test.YtjhinemdonddoaaMtEb
set_option linter.unusedVariables false
set_option linter.unusedSimpArgs false
namespace Go.Mt

/-- where a new object is laid: behind all others, or where one is free -/
def Place (H : Hp) (ob : Ob) (n : Nat) (H' : Hp) : Prop := (n = H.length ∧ H' = H ++ [ob]) ∨ (H[n]? = some .free ∧ H' = H.set n ob)

theorem FInv.fillObj {X : Ctx} {σ : Sg} {lam : Nat → Nat} {st : St} {a : Act} (hi : FInv X σ lam st a) (ob : Ob) (x : Obj) (j : Nat) (hj : st.H[j]? = some .free)
    (hok : ∀ τ : Sg, Mono σ τ → τ.w = { σ.w with heap := σ.w.heap.push x } → ObOk τ σ.w.heap.size ob) :
    ∃ τ : Sg, τ.w = { σ.w with heap := σ.w.heap.push x } ∧ τ.l j = σ.w.heap.size ∧ τ.H = st.H.set j ob ∧ Mono σ τ ∧ FInv X τ lam ⟨st.sl, st.bx, st.H.set j ob⟩ a := by
  have hj' : σ.H[j]? = some .free := by rw [hi.hH]; exact hj
  have hjl : j < σ.H.length := by rcases Nat.lt_or_ge j σ.H.length with h | h; exact h; simp [List.getElem?_eq_none h] at hj'
  let b := σ.w.heap.size
  let w' : World := { σ.w with heap := σ.w.heap.push x }
  let l' : Nat → Nat := fun i => if i = j then b else σ.l i
  let τ : Sg := ⟨w', fun c o => σ.O c o ∨ (c = b ∧ ob.owns o), l', σ.H.set j ob⟩
  have hext : ExtW σ.w w' := ExtW.alloc _ _
  have hidx : ∀ (i : Nat) o, σ.H[i]? = some o → o ≠ .free → (σ.H.set j ob)[i]? = some o ∧ l' i = σ.l i := by
    intro i o h hne
    have hij : i ≠ j := by rintro rfl; rw [hj'] at h; injection h with h; exact hne h.symm
    exact ⟨by rw [List.getElem?_set_ne (Ne.symm hij)]; exact h, by simp [l', hij]⟩
  have hself : (σ.H.set j ob)[j]? = some ob := by simp [hjl]
  have hidx2 : ∀ (i : Nat) o, (σ.H.set j ob)[i]? = some o → (σ.H[i]? = some o ∧ l' i = σ.l i ∧ i ≠ j) ∨ (i = j ∧ o = ob) := by
    intro i o h
    by_cases e : i = j
    · subst e; rw [hself] at h; injection h with h; exact .inr ⟨rfl, h.symm⟩
    · rw [List.getElem?_set_ne (Ne.symm e)] at h
      exact .inl ⟨h, by simp [l', e], e⟩
  have hmono : Mono σ τ := by
    refine ⟨fun c o v h1 h2 => ⟨hext.cell h1, ?_⟩, fun i cs h => ⟨⟨cs, (hidx i _ h (by simp)).1⟩, (hidx i _ h (by simp)).2⟩, fun i cs h => ⟨⟨cs, (hidx i _ h (by simp)).1⟩, (hidx i _ h (by simp)).2⟩, fun i h => (hidx i _ h (by simp)).1,
      fun i acc ec ver cs h => .inr ⟨acc, ver, cs, (hidx i _ h (by simp)).1, Nat.le_refl _, fun _ => ⟨(hidx i _ h (by simp)).2, rfl, fun arr T ha => ⟨arr, hext.heap ha, rfl⟩⟩⟩, fun i h => ?_⟩
    · rintro (h3 | ⟨h3, _⟩)
      · exact h2 h3
      · have := lt_of_cellv h1; omega
    · by_cases e : i = j
      · subst e; exact ⟨_, hself⟩
      · exact ⟨.free, by show (σ.H.set j ob)[i]? = _; rw [List.getElem?_set_ne (Ne.symm e)]; exact h⟩
  have hlt : ∀ (i : Nat) o, σ.H[i]? = some o → o.live → σ.l i < b := fun i o h1 h2 => (hi.hinv.obj i o h1).lt h2
  have hnew : ObOk τ b ob := hok τ hmono rfl
  have hll : l' j = b := by simp [l']
  have hinv : HInv τ (Oof X.Oout lam st.bx) := by
    refine ⟨?_, ?_, ?_, ?_, fun c o h => Nat.lt_of_lt_of_le (hi.hinv.old c o h) hext.size⟩
    · intro i o h
      rcases hidx2 i o h with ⟨h1, h2, _⟩ | ⟨rfl, rfl⟩
      · show ObOk τ (l' i) o
        rw [h2]; exact (hi.hinv.obj i o h1).keep hmono fun x hx => hext.heap hx
      · show ObOk τ (l' _) o
        rw [hll]; exact hnew
    · intro i k x y h1 h2 h3 h4 h5
      change l' i = l' k at h5
      rcases hidx2 i x h1 with ⟨h6, h7, _⟩ | ⟨rfl, rfl⟩ <;> rcases hidx2 k y h2 with ⟨h8, h9, _⟩ | ⟨rfl, rfl⟩
      · rw [h7, h9] at h5; exact hi.hinv.inj i k x y h6 h8 h3 h4 h5
      · rw [h7, hll] at h5; have := hlt i x h6 h3; omega
      · rw [h9, hll] at h5; have := hlt k y h8 h4; omega
      · rfl
    · intro c o
      show (σ.O c o ∨ (c = b ∧ ob.owns o)) ↔ _
      rw [hi.hinv.own]
      constructor
      · rintro ((h | ⟨i, x, h1, h2, h3⟩) | ⟨rfl, h2⟩)
        · exact .inl h
        · have hne : x ≠ .free := by rintro rfl; exact h3
          exact .inr ⟨i, x, (hidx i x h1 hne).1, (by show l' i = c; rw [(hidx i x h1 hne).2]; exact h2), h3⟩
        · exact .inr ⟨j, ob, hself, hll, h2⟩
      · rintro (h | ⟨i, x, h1, h2, h3⟩)
        · exact .inl (.inl h)
        · rcases hidx2 i x h1 with ⟨h6, h7, _⟩ | ⟨rfl, rfl⟩
          · exact .inl (.inr ⟨i, x, h6, by rw [← h7]; exact h2, h3⟩)
          · exact .inr ⟨by rw [← h2]; exact hll, h3⟩
    · intro i o h1 h2 oo h3
      rcases hidx2 i o h1 with ⟨h6, h7, _⟩ | ⟨rfl, rfl⟩
      · exact hi.hinv.sep i o h6 h2 oo (by rw [← h7]; exact h3)
      · have h4 : Oof X.Oout lam st.bx b oo := by rw [← hll]; exact h3
        have := hi.hinv.old _ _ h4
        exact Nat.lt_irrefl _ this
  have hblk : Blk σ τ := by
    refine ⟨rfl, rfl, rfl, hext.size, fun c hc _ => hext.blk c hc, ?_⟩
    intro i o h1 h2
    rcases hidx2 i o h1 with ⟨h6, h7, _⟩ | ⟨rfl, rfl⟩
    · exact .inr ⟨o, h6, h2, h7⟩
    · exact .inl (by show _ ≤ l' _; rw [hll]; exact Nat.le_refl _)
  have hH : τ.H = st.H.set j ob := by show σ.H.set j ob = _; rw [hi.hH]
  refine ⟨τ, rfl, hll, hH, hmono, ?_⟩
  have := hi.heap hmono hinv (fun t cs h => hext.blk _ ((hi.box t cs h).lt trivial)) hblk
  rw [hH] at this
  exact this

theorem FInv.place {X : Ctx} {σ : Sg} {lam : Nat → Nat} {st : St} {a : Act} (hi : FInv X σ lam st a) {ob : Ob} {n : Nat} {H' : Hp} (hp : Place st.H ob n H') (x : Obj)
    (hok : ∀ τ : Sg, Mono σ τ → τ.w = { σ.w with heap := σ.w.heap.push x } → ObOk τ σ.w.heap.size ob) :
    ∃ τ : Sg, τ.w = { σ.w with heap := σ.w.heap.push x } ∧ τ.l n = σ.w.heap.size ∧ τ.H[n]? = some ob ∧ Mono σ τ ∧ FInv X τ lam ⟨st.sl, st.bx, H'⟩ a := by
  rcases hp with ⟨rfl, rfl⟩ | ⟨hf, rfl⟩
  · obtain ⟨τ, h1, h2, h3, h4, h5⟩ := hi.newObj ob x hok
    exact ⟨τ, h1, by rw [← hi.hH]; exact h2, by rw [h3]; simp, h4, h5⟩
  · obtain ⟨τ, h1, h2, h3, h4, h5⟩ := hi.fillObj ob x n hf hok
    have hl : n < st.H.length := by rcases Nat.lt_or_ge n st.H.length with h | h; exact h; simp [List.getElem?_eq_none h] at hf
    exact ⟨τ, h1, h2, by rw [h3]; simp [hl], h4, h5⟩

section ops
variable {X : Ctx} {st : St} {dst : Option Nat} {ty : Nat} {pos : String} {af : Array Edge} {g : Option (Nat × Bool)} {pn : Nat} {H' : Hp}

theorem op_boxP {T : Nat} {x : Operand} {m : M} (hx : st.ev x = some (.m m)) (hok : m.okc = true) (hp : Place st.H (.box (cellsOf m)) pn H') :
    OpT X ⟨dst, .box T x, ty, pos, af, g⟩ st (eqp (.m (.ref pn 0)) ⟨st.sl, st.bx, H'⟩) := by
  intro a σ lam hi
  have h := hi.ev hx
  cases h with
  | m h =>
    have hc := h.cells hok
    obtain ⟨τ, h1, h2, h3, h4, h5⟩ := hi.place hp (.cells (a.eval x).cells T (0, 0)) (by
      intro τ hm hw
      exact ⟨_, T, by rw [hw]; simp, hc.mono hm⟩)
    refine OpRun.value (u := .pointer (some ⟨σ.w.heap.size, 0, none⟩)) (w' := { σ.w with heap := σ.w.heap.push (.cells (a.eval x).cells T (0, 0)) }) ?_ ⟨_, _, τ, lam, ⟨rfl, rfl⟩, h1, h5, ?_⟩
    · simp [execOp, Instr.box, newVar, newRow, newObj, Sem.run]
    · rw [← h2]
      exact .m (.ref _ 0 (cellsOf m) h3)

theorem op_allocP {T : Nat} {z : D} [hz : TyZero X.P T z] (hp : Place st.H (.box ((dcells z).map .d)) pn H') :
    OpT X ⟨dst, .alloc T, ty, pos, af, g⟩ st (eqp (.m (.ref pn 0)) ⟨st.sl, st.bx, H'⟩) := by
  intro a σ lam hi
  obtain ⟨v, hz1, hz2⟩ := hz.run
  have hr : RM σ (.d z) v := .d (dOfVal_rep hz2)
  have hc : RMc σ ((dcells z).map .d) v.cells := hr.cells rfl
  obtain ⟨τ, h1, h2, h3, h4, h5⟩ := hi.place hp (.cells v.cells T (0, 0)) (by
    intro τ hm hw
    exact ⟨_, T, by rw [hw]; simp, hc.mono hm⟩)
  refine OpRun.value (u := .pointer (some ⟨σ.w.heap.size, 0, none⟩)) (w' := { σ.w with heap := σ.w.heap.push (.cells v.cells T (0, 0)) }) ?_ ⟨_, _, τ, lam, ⟨rfl, rfl⟩, h1, h5, ?_⟩
  · simp [execOp, Instr.alloc, hz1, newVar, newRow, newObj, Sem.run]
  · rw [← h2]
    exact .m (.ref _ 0 ((dcells z).map .d) h3)

theorem op_makeMapP {T : Nat} (hp : Place st.H (.map []) pn H') :
    OpT X ⟨dst, .makeMap T none, ty, pos, af, g⟩ st (eqp (.m (.mp pn)) ⟨st.sl, st.bx, H'⟩) := by
  intro a σ lam hi
  obtain ⟨τ, h1, h2, h3, h4, h5⟩ := hi.place hp (.map #[] 0) (by
    intro τ hm hw
    exact ⟨#[], 0, by rw [hw]; simp, rfl, by simp⟩)
  refine OpRun.value (u := .map (some σ.w.heap.size)) (w' := { σ.w with heap := σ.w.heap.push (.map #[] 0) }) ?_ ⟨_, _, τ, lam, ⟨rfl, rfl⟩, h1, h5, ?_⟩
  · simp [execOp, Instr.makeMap, newObj, Sem.run]
  · rw [← h2]
    exact .m (.mp _ [] h3)

end ops
end Go.Mt
