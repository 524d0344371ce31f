import Derived.Test.YtjhinemdonddoaaMtO
set_option linter.unusedVariables false
namespace Go.Mt

theorem FInv.heap {X : Ctx} {σ τ : Sg} {lam : Nat → Nat} {st : St} {a : Act} (hi : FInv X σ lam st a) (hm : Mono σ τ) (hh : HInv τ (Oof X.Oout lam st.bx))
    (hb : ∀ t cs, get st.bx t = some cs → τ.w.heap[lam t]? = σ.w.heap[lam t]?) (hk : Blk σ τ) : FInv X τ lam ⟨st.sl, st.bx, τ.H⟩ a :=
  ⟨rfl, hi.defers, hi.size, fun t v h3 => let ⟨u, h4, h5⟩ := hi.slot t v h3; ⟨u, h4, h5.mono hm⟩, fun t cs h => (hi.box t cs h).keep hm (fun x hx => by rw [hb t cs h]; exact hx), hi.binj, hi.bsep, hi.bnew, hh, hi.mono.trans hm, hi.blk.trans hk⟩

theorem FInv.boxNe {X : Ctx} {σ : Sg} {lam : Nat → Nat} {st : St} {a : Act} (hi : FInv X σ lam st a) {t : Nat} {cs : List M} (h : get st.bx t = some cs) {i : Nat} {ob : Ob} (h1 : σ.H[i]? = some ob) (h2 : ob.live) : lam t ≠ σ.l i :=
  fun e => sep_of_hinv hi.hinv (b := lam t) (.inr ⟨t, cs, h, rfl⟩) i ob h1 h2 e.symm

/-- a new object of the heap -/
theorem FInv.newObj {X : Ctx} {σ : Sg} {lam : Nat → Nat} {st : St} {a : Act} (hi : FInv X σ lam st a) (ob : Ob) (x : Obj)
    (hok : ∀ τ : Sg, Mono σ τ → τ.w = { σ.w with heap := σ.w.heap.push x } → ObOk τ σ.w.heap.size ob) :
    ∃ τ : Sg, τ.w = { σ.w with heap := σ.w.heap.push x } ∧ τ.l σ.H.length = σ.w.heap.size ∧ τ.H = st.H ++ [ob] ∧ Mono σ τ ∧ FInv X τ lam ⟨st.sl, st.bx, st.H ++ [ob]⟩ a := by
  let b := σ.w.heap.size
  let w' : World := { σ.w with heap := σ.w.heap.push x }
  let l' : Nat → Nat := fun i => if i = σ.H.length then b else σ.l i
  let τ : Sg := ⟨w', fun c o => σ.O c o ∨ (c = b ∧ ob.owns o), l', σ.H ++ [ob]⟩
  have hext : ExtW σ.w w' := ExtW.alloc _ _
  have hidx : ∀ (i : Nat) o, σ.H[i]? = some o → (σ.H ++ [ob])[i]? = some o ∧ l' i = σ.l i := by
    intro i o h
    have hlt : i < σ.H.length := by rcases Nat.lt_or_ge i σ.H.length with h' | h'; exact h'; simp [List.getElem?_eq_none h'] at h
    exact ⟨by rw [List.getElem?_append_left hlt]; exact h, by simp [l', show i ≠ σ.H.length by omega]⟩
  have hidx2 : ∀ (i : Nat) o, (σ.H ++ [ob])[i]? = some o → (σ.H[i]? = some o ∧ l' i = σ.l i) ∨ (i = σ.H.length ∧ o = ob) := by
    intro i o h
    rcases Nat.lt_or_ge i σ.H.length with h' | h'
    · rw [List.getElem?_append_left h'] at h; exact .inl ⟨h, (hidx i o h).2⟩
    · rw [List.getElem?_append_right h'] at h
      have : i - σ.H.length = 0 := by
        rcases Nat.eq_zero_or_pos (i - σ.H.length) with h0 | h0
        · exact h0
        · rw [List.getElem?_eq_none (by simp; omega)] at h; cases h
      rw [this] at h
      simp at h
      exact .inr ⟨by omega, h.symm⟩
  have hmono : Mono σ τ := by
    refine ⟨fun c o v h1 h2 => ⟨hext.cell h1, ?_⟩, fun i cs h => ⟨⟨cs, (hidx i _ h).1⟩, (hidx i _ h).2⟩, fun i cs h => ⟨⟨cs, (hidx i _ h).1⟩, (hidx i _ h).2⟩, fun i h => (hidx i _ h).1,
      fun i acc ec ver cs h => .inr ⟨acc, ver, cs, (hidx i _ h).1, Nat.le_refl _, fun _ => ⟨(hidx i _ h).2, rfl, fun arr T ha => ⟨arr, hext.heap ha, rfl⟩⟩⟩, fun i h => ⟨_, (hidx i _ h).1⟩⟩
    rintro (h3 | ⟨h3, _⟩)
    · exact h2 h3
    · have := lt_of_cellv h1; omega
  have hlt : ∀ (i : Nat) o, σ.H[i]? = some o → o.live → σ.l i < b := fun i o h1 h2 => (hi.hinv.obj i o h1).lt h2
  have hnew : ObOk τ b ob := hok τ hmono rfl
  have hll : l' σ.H.length = b := by simp [l']
  have hinv : HInv τ (Oof X.Oout lam st.bx) := by
    refine ⟨?_, ?_, ?_, ?_, fun c o h => Nat.lt_of_lt_of_le (hi.hinv.old c o h) hext.size⟩
    · intro i o h
      rcases hidx2 i o h with ⟨h1, h2⟩ | ⟨rfl, rfl⟩
      · show ObOk τ (l' i) o
        rw [h2]; exact (hi.hinv.obj i o h1).keep hmono fun x hx => hext.heap hx
      · show ObOk τ (l' _) o
        rw [hll]; exact hnew
    · intro i j x y h1 h2 h3 h4 h5
      change l' i = l' j at h5
      rcases hidx2 i x h1 with ⟨h6, h7⟩ | ⟨rfl, rfl⟩ <;> rcases hidx2 j y h2 with ⟨h8, h9⟩ | ⟨rfl, rfl⟩
      · rw [h7, h9] at h5; exact hi.hinv.inj i j x y h6 h8 h3 h4 h5
      · rw [h7, hll] at h5; have := hlt i x h6 h3; omega
      · rw [h9, hll] at h5; have := hlt j y h8 h4; omega
      · rfl
    · intro c o
      show (σ.O c o ∨ (c = b ∧ ob.owns o)) ↔ _
      rw [hi.hinv.own]
      constructor
      · rintro ((h | ⟨i, x, h1, h2, h3⟩) | ⟨rfl, h2⟩)
        · exact .inl h
        · exact .inr ⟨i, x, (hidx i x h1).1, (by show l' i = c; rw [(hidx i x h1).2]; exact h2), h3⟩
        · exact .inr ⟨σ.H.length, ob, by simp [τ], hll, h2⟩
      · rintro (h | ⟨i, x, h1, h2, h3⟩)
        · exact .inl (.inl h)
        · rcases hidx2 i x h1 with ⟨h6, h7⟩ | ⟨rfl, rfl⟩
          · exact .inl (.inr ⟨i, x, h6, by rw [← h7]; exact h2, h3⟩)
          · exact .inr ⟨by rw [← h2]; exact hll, h3⟩
    · intro i o h1 h2 oo h3
      rcases hidx2 i o h1 with ⟨h6, h7⟩ | ⟨rfl, rfl⟩
      · exact hi.hinv.sep i o h6 h2 oo (by rw [← h7]; exact h3)
      · have h4 : Oof X.Oout lam st.bx b oo := by rw [← hll]; exact h3
        have := hi.hinv.old _ _ h4
        exact Nat.lt_irrefl _ this
  have hblk : Blk σ τ := by
    refine ⟨rfl, rfl, rfl, hext.size, fun c hc _ => hext.blk c hc, ?_⟩
    intro i o h1 h2
    rcases hidx2 i o h1 with ⟨h6, h7⟩ | ⟨rfl, rfl⟩
    · exact .inr ⟨o, h6, h2, h7⟩
    · exact .inl (by show _ ≤ l' _; rw [hll]; exact Nat.le_refl _)
  have hH : τ.H = st.H ++ [ob] := by show σ.H ++ [ob] = _; rw [hi.hH]
  refine ⟨τ, rfl, hll, hH, hmono, ?_⟩
  have := hi.heap hmono hinv (fun t cs h => hext.blk _ ((hi.box t cs h).lt trivial)) hblk
  rw [hH] at this
  exact this

/-- may an object turn into another one? (same: its block stays; sz: as large as it was) -/
def turns (same sz : Prop) : Ob → Ob → Prop
  | .box _, .box _ => same
  | .map _, .map _ => same
  | .row _ _ _ _, .dead => True
  | .row _ ec ver cs, .row _ ec' ver' cs' => ec' = ec ∧ (ver < ver' ∨ (ver' = ver ∧ cs'.length = cs.length ∧ same ∧ sz))
  | _, _ => False

/-- an object of the heap turns -/
theorem FInv.updObj {X : Ctx} {σ : Sg} {lam : Nat → Nat} {st : St} {a : Act} (hi : FInv X σ lam st a) {j b' : Nat} {ob ob' : Ob} {w' : World} (hj : st.H[j]? = some ob) (hl : ob.live)
    (hos : w'.os = σ.w.os) (hout : w'.output = σ.w.output) (htape : w'.tape = σ.w.tape) (hsize : σ.w.heap.size ≤ w'.heap.size)
    (hblk : ∀ c, c < σ.w.heap.size → c ≠ σ.l j → w'.heap[c]? = σ.w.heap[c]?) (hb' : b' = σ.l j ∨ σ.w.heap.size ≤ b')
    (hcell : ∀ o v, ¬ ob.owns o → cellv σ.w (σ.l j) o = some v → cellv w' (σ.l j) o = some v ∧ (b' = σ.l j → ¬ ob'.owns o))
    (hturn : turns (b' = σ.l j) (∀ arr T, σ.w.heap[σ.l j]? = some (.cells arr T (0, 0)) → ∃ arr', w'.heap[σ.l j]? = some (.cells arr' T (0, 0)) ∧ arr'.size = arr.size) ob ob')
    (hok : ∀ τ : Sg, Mono σ τ → τ.w = w' → τ.l j = b' → τ.H = st.H.set j ob' → ObOk τ b' ob') :
    ∃ τ : Sg, τ.w = w' ∧ τ.l j = b' ∧ τ.H = st.H.set j ob' ∧ Mono σ τ ∧ FInv X τ lam ⟨st.sl, st.bx, st.H.set j ob'⟩ a := by
  have hHe := hi.hH
  have hj' : σ.H[j]? = some ob := by rw [hHe]; exact hj
  have hjl : j < σ.H.length := by rcases Nat.lt_or_ge j σ.H.length with h | h; exact h; simp [List.getElem?_eq_none h] at hj'
  let l' : Nat → Nat := fun i => if i = j then b' else σ.l i
  let H' := σ.H.set j ob'
  let Oo := Oof X.Oout lam st.bx
  let τ : Sg := ⟨w', fun c o => Oo c o ∨ ∃ (i : Nat) (x : Ob), H'[i]? = some x ∧ l' i = c ∧ x.owns o, l', H'⟩
  have hne : ∀ (i : Nat) x, i ≠ j → σ.H[i]? = some x → H'[i]? = some x ∧ l' i = σ.l i := by
    intro i x hij h
    exact ⟨by show (σ.H.set j ob')[i]? = _; rw [List.getElem?_set_ne (Ne.symm hij)]; exact h, by simp [l', hij]⟩
  have hself : H'[j]? = some ob' ∧ l' j = b' := ⟨by show (σ.H.set j ob')[j]? = _; simp [hjl], by simp [l']⟩
  have hinvert : ∀ (i : Nat) x, H'[i]? = some x → (i ≠ j ∧ σ.H[i]? = some x ∧ l' i = σ.l i) ∨ (i = j ∧ x = ob') := by
    intro i x h
    by_cases e : i = j
    · subst e; rw [hself.1] at h; injection h with h; exact .inr ⟨rfl, h.symm⟩
    · have : σ.H[i]? = some x := by
        have h2 : (σ.H.set j ob')[i]? = some x := h
        rw [List.getElem?_set_ne (Ne.symm e)] at h2; exact h2
      exact .inl ⟨e, this, (hne i x e this).2⟩
  have hlt : ∀ (i : Nat) o, σ.H[i]? = some o → o.live → σ.l i < σ.w.heap.size := fun i o h1 h2 => (hi.hinv.obj i o h1).lt h2
  have hlj := hlt j ob hj' hl
  have hdiff : ∀ (i : Nat) x, i ≠ j → σ.H[i]? = some x → x.live → σ.l i ≠ σ.l j := fun i x e h1 h2 h3 => e (hi.hinv.inj i j x ob h1 hj' h2 hl h3)
  have hmono : Mono σ τ := by
    refine ⟨?_, ?_, ?_, ?_, ?_, ?_⟩
    · intro c o v h1 h2
      have hc := lt_of_cellv h1
      have hnot : (c ≠ σ.l j ∨ (b' = σ.l j → ¬ ob'.owns o)) → ¬ (Oo c o ∨ ∃ (i : Nat) (x : Ob), H'[i]? = some x ∧ l' i = c ∧ x.owns o) := by
        rintro hor (h3 | ⟨i, x, h3, h4, h5⟩)
        · exact h2 ((hi.hinv.own c o).2 (.inl h3))
        · rcases hinvert i x h3 with ⟨e, h6, h7⟩ | ⟨rfl, rfl⟩
          · exact h2 ((hi.hinv.own c o).2 (.inr ⟨i, x, h6, by rw [← h7]; exact h4, h5⟩))
          · rw [hself.2] at h4
            rcases hb' with hb' | hb'
            · rcases hor with hor | hor
              · exact hor (by rw [← h4]; exact hb')
              · exact hor hb' h5
            · omega
      by_cases e : c = σ.l j
      · subst e
        have hno : ¬ ob.owns o := fun h => h2 ((hi.hinv.own _ o).2 (.inr ⟨j, ob, hj', rfl, h⟩))
        obtain ⟨h3, h4⟩ := hcell o v hno h1
        exact ⟨h3, hnot (.inr h4)⟩
      · exact ⟨by rw [cellv_of_blk (hblk c hc e)]; exact h1, hnot (.inl e)⟩
    · intro i cs h
      by_cases e : i = j
      · subst e
        rw [hj'] at h; injection h with h; subst h
        cases ob' with
        | box cs' => exact ⟨⟨cs', hself.1⟩, by show l' i = _; rw [hself.2]; exact hturn⟩
        | _ => exact hturn.elim
      · exact ⟨⟨cs, (hne i _ e h).1⟩, (hne i _ e h).2⟩
    · intro i cs h
      by_cases e : i = j
      · subst e
        rw [hj'] at h; injection h with h; subst h
        cases ob' with
        | map cs' => exact ⟨⟨cs', hself.1⟩, by show l' i = _; rw [hself.2]; exact hturn⟩
        | _ => exact hturn.elim
      · exact ⟨⟨cs, (hne i _ e h).1⟩, (hne i _ e h).2⟩
    · intro i h
      by_cases e : i = j
      · subst e; rw [hj'] at h; injection h with h; subst h; exact hl.elim
      · exact (hne i _ e h).1
    · intro i acc ec ver cs h
      by_cases e : i = j
      · subst e
        rw [hj'] at h; injection h with h; subst h
        cases ob' with
        | dead => exact .inl hself.1
        | row acc' ec' ver' cs' =>
          obtain ⟨e1, h2⟩ := hturn
          subst e1
          refine .inr ⟨acc', ver', cs', hself.1, ?_, ?_⟩
          · rcases h2 with h2 | ⟨h2, _⟩ <;> omega
          · intro hv
            rcases h2 with h2 | ⟨_, h3, h4, h5⟩
            · omega
            · exact ⟨by show l' i = _; rw [hself.2]; exact h4, h3, h5⟩
        | _ => exact hturn.elim
      · refine .inr ⟨acc, ver, cs, (hne i _ e h).1, Nat.le_refl _, fun _ => ⟨(hne i _ e h).2, rfl, fun arr T ha => ⟨arr, ?_, rfl⟩⟩⟩
        show w'.heap[σ.l i]? = _
        rw [hblk _ (hlt i _ h trivial) (hdiff i _ e h trivial)]; exact ha
    · intro i h
      by_cases e : i = j
      · subst e; exact ⟨_, hself.1⟩
      · exact ⟨_, (hne i _ e h).1⟩
  have hHset : τ.H = st.H.set j ob' := by show σ.H.set j ob' = _; rw [hHe]
  have hnew : ObOk τ b' ob' := hok τ hmono rfl hself.2 hHset
  have hOoj : ∀ o, ¬ Oo (σ.l j) o := fun o => hi.hinv.sep j ob hj' hl o
  have hinv : HInv τ Oo := by
    refine ⟨?_, ?_, fun c o => Iff.rfl, ?_, fun c o h => Nat.lt_of_lt_of_le (hi.hinv.old c o h) hsize⟩
    · intro i x h
      rcases hinvert i x h with ⟨e, h6, h7⟩ | ⟨rfl, rfl⟩
      · show ObOk τ (l' i) x
        rw [h7]
        by_cases hx : x.live
        · refine (hi.hinv.obj i x h6).keep hmono fun y hy => ?_
          show w'.heap[_]? = _
          rw [hblk _ (hlt i x h6 hx) (hdiff i x e h6 hx)]; exact hy
        · cases x <;> first | trivial | exact (hx trivial).elim
      · show ObOk τ (l' i) x
        rw [hself.2]; exact hnew
    · intro i k x y h1 h2 h3 h4 h5
      change l' i = l' k at h5
      rcases hinvert i x h1 with ⟨e, h6, h7⟩ | ⟨rfl, rfl⟩ <;> rcases hinvert k y h2 with ⟨e', h8, h9⟩ | ⟨rfl, rfl⟩
      · rw [h7, h9] at h5; exact hi.hinv.inj i k x y h6 h8 h3 h4 h5
      · rw [h7, hself.2] at h5
        rcases hb' with hb' | hb'
        · exact absurd (h5.trans hb') (hdiff i x e h6 h3)
        · have := hlt i x h6 h3; omega
      · rw [h9, hself.2] at h5
        rcases hb' with hb' | hb'
        · exact absurd (h5.symm.trans hb') (hdiff k y e' h8 h4)
        · have := hlt k y h8 h4; omega
      · rfl
    · intro i x h1 h2 o h3
      rcases hinvert i x h1 with ⟨e, h6, h7⟩ | ⟨rfl, rfl⟩
      · exact hi.hinv.sep i x h6 h2 o (by rw [← h7]; exact h3)
      · have h4 : Oo b' o := by rw [← hself.2]; exact h3
        rcases hb' with hb' | hb'
        · exact hOoj o (by rw [← hb']; exact h4)
        · have := hi.hinv.old _ _ h4; omega
  have hbk : Blk σ τ := by
    refine ⟨hos, hout, htape, hsize, fun c hc hn => hblk c hc (fun e => hn j ob hj' hl e.symm), ?_⟩
    intro i x h1 h2
    rcases hinvert i x h1 with ⟨e, h6, h7⟩ | ⟨rfl, rfl⟩
    · exact .inr ⟨x, h6, h2, h7⟩
    · rcases hb' with hb' | hb'
      · exact .inr ⟨ob, hj', hl, by show l' i = _; rw [hself.2]; exact hb'⟩
      · exact .inl (by show _ ≤ l' i; rw [hself.2]; exact hb')
  refine ⟨τ, rfl, hself.2, hHset, hmono, ?_⟩
  have := hi.heap hmono hinv (fun t cs h => hblk _ ((hi.box t cs h).lt trivial) (hi.boxNe h hj' hl)) hbk
  rw [hHset] at this
  exact this

end Go.Mt
