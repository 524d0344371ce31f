import Derived.Test.YtjhinemdonddoaaMtXa
set_option linter.unusedVariables false
namespace Go.Mt

theorem lt_of_get {H : Hp} {i : Nat} {ob : Ob} (h : H[i]? = some ob) : i < H.length := by
  rcases Nat.lt_or_ge i H.length with h1 | h1
  · exact h1
  · simp [List.getElem?_eq_none h1] at h

/-- A contract on a small heap serves in a greater one, in which the small one's objects lie anywhere. -/
theorem CT.frame {P : Program} {f : Nat} {ms : List M} {H K : Hp} {post : M → Hp → Prop} (ρ : Nat → Nat) (hρ : ∀ i j, i < H.length → j < H.length → ρ i = ρ j → i = j)
    (hK : ∀ (i : Nat) ob, H[i]? = some ob → K[ρ i]? = some (renOb ρ ob)) (hB : HB H.length H) (hms : ∀ m ∈ ms, MB H.length m)
    (h : CT P f ms H fun r k => k.length = H.length ∧ post r k) :
    CT P f (renMs ρ ms) K fun r k => ∃ r0 H', post r0 H' ∧ H'.length = H.length ∧ r = renM ρ r0 ∧ k.length = K.length ∧ (∀ (i : Nat) ob, H'[i]? = some ob → k[ρ i]? = some (renOb ρ ob)) ∧ ∀ j, (∀ i, i < H.length → ρ i ≠ j) → k[j]? = K[j]? := by
  intro σ Oo vs hinv hH hvs
  have hKl : ∀ i, i < H.length → ρ i < K.length := by
    intro i hi
    have := hK i H[i] (by simp [hi])
    exact lt_of_get this
  let Oo' : Nat → Nat → Prop := fun b o => Oo b o ∨ ∃ (j : Nat) (ob : Ob), (∀ i, i < H.length → ρ i ≠ j) ∧ σ.H[j]? = some ob ∧ σ.l j = b ∧ ob.owns o
  let σs : Sg := ⟨σ.w, σ.O, fun i => σ.l (ρ i), H⟩
  have hhide : Hides ρ H.length σs σ := ⟨rfl, fun _ _ h => h, fun i hi => ⟨H[i], by simp [σs, hi]⟩, fun i ob h1 => by rw [hH]; exact hK i ob h1, fun i ob h1 => rfl⟩
  have hdown : ∀ m v, MB H.length m → RM σ (renM ρ m) v → RM σs m v := fun m v hb hr => RM.down hhide hb hr
  have hinvs : HInv σs Oo' := by
    refine ⟨?_, ?_, ?_, ?_, ?_⟩
    · intro i ob hi
      have h1 : σ.H[ρ i]? = some (renOb ρ ob) := by rw [hH]; exact hK i ob hi
      exact ObOk.down (σ := σs) (τ := σ) (ρ := ρ) rfl hdown (hB ob (List.mem_of_getElem? hi)) (hinv.obj (ρ i) _ h1)
    · intro i j x y hi hj hx hy he
      have h1 : σ.H[ρ i]? = some (renOb ρ x) := by rw [hH]; exact hK i x hi
      have h2 : σ.H[ρ j]? = some (renOb ρ y) := by rw [hH]; exact hK j y hj
      exact hρ i j (lt_of_get hi) (lt_of_get hj) (hinv.inj _ _ _ _ h1 h2 ((renOb_live ρ x).2 hx) ((renOb_live ρ y).2 hy) he)
    · intro b o
      show σ.O b o ↔ _
      rw [hinv.own]
      constructor
      · rintro (h1 | ⟨j, ob, h1, h2, h3⟩)
        · exact .inl (.inl h1)
        · by_cases hj : ∃ i, i < H.length ∧ ρ i = j
          · obtain ⟨i, hi, rfl⟩ := hj
            have h4 := hK i H[i] (by simp [hi])
            rw [hH, h4] at h1
            injection h1 with h1
            subst h1
            exact .inr ⟨i, H[i], by simp [σs, hi], h2, (renOb_owns ρ _ o).1 h3⟩
          · exact .inl (.inr ⟨j, ob, fun i hi he => hj ⟨i, hi, he⟩, h1, h2, h3⟩)
      · rintro ((h1 | ⟨j, ob, h0, h1, h2, h3⟩) | ⟨i, ob, h1, h2, h3⟩)
        · exact .inl h1
        · exact .inr ⟨j, ob, h1, h2, h3⟩
        · exact .inr ⟨ρ i, renOb ρ ob, by rw [hH]; exact hK i ob h1, h2, (renOb_owns ρ _ o).2 h3⟩
    · intro i ob hi hl o
      have h1 : σ.H[ρ i]? = some (renOb ρ ob) := by rw [hH]; exact hK i ob hi
      rintro (h2 | ⟨j, ob2, h0, h2, h3, h4⟩)
      · exact hinv.sep _ _ h1 ((renOb_live ρ ob).2 hl) o h2
      · exact h0 i (lt_of_get hi) (hinv.inj _ _ _ _ h1 h2 ((renOb_live ρ ob).2 hl) (Ob.live_of_owns h4) h3.symm)
    · rintro b o (h1 | ⟨j, ob2, h0, h2, h3, h4⟩)
      · exact hinv.old b o h1
      · rw [← h3]; exact (hinv.obj j ob2 h2).lt (Ob.live_of_owns h4)
  have hmss : RMs σs ms vs := by
    refine ⟨by rw [hvs.1, renMs_length], fun i m v hm hv => ?_⟩
    exact hdown m v (hms m (List.mem_of_getElem? hm)) (hvs.2 i (renM ρ m) v (by rw [renMs_get, hm]; rfl) hv)
  refine (h σs Oo' vs hinvs rfl hmss).mono ?_
  rintro e w' ⟨v, r0, σ', he, hw', ⟨hlen, hpost⟩, hinv', hr, hmono, hblk⟩
  classical
  let inv : Nat → Option Nat := fun j => if h : ∃ i, i < H.length ∧ ρ i = j then some h.choose else none
  have inv1 : ∀ i, i < H.length → inv (ρ i) = some i := by
    intro i hi
    have hex : ∃ i', i' < H.length ∧ ρ i' = ρ i := ⟨i, hi, rfl⟩
    show (if h : ∃ i', i' < H.length ∧ ρ i' = ρ i then some h.choose else none) = some i
    rw [dif_pos hex]
    have := hex.choose_spec
    rw [hρ _ _ this.1 hi this.2]
  have inv2 : ∀ j, (∀ i, i < H.length → ρ i ≠ j) → inv j = none := by
    intro j hj
    show (if h : ∃ i', i' < H.length ∧ ρ i' = j then some h.choose else none) = none
    rw [dif_neg]
    rintro ⟨i, hi, he⟩
    exact hj i hi he
  have inv3 : ∀ j, (∃ i, i < H.length ∧ ρ i = j ∧ inv j = some i) ∨ ((∀ i, i < H.length → ρ i ≠ j) ∧ inv j = none) := by
    intro j
    by_cases hj : ∃ i, i < H.length ∧ ρ i = j
    · obtain ⟨i, hi, rfl⟩ := hj
      exact .inl ⟨i, hi, rfl, inv1 i hi⟩
    · have h1 : ∀ i, i < H.length → ρ i ≠ j := fun i hi he => hj ⟨i, hi, he⟩
      exact .inr ⟨h1, inv2 j h1⟩
  let K' : Hp := (List.range K.length).map fun j => match inv j with
    | some i => renOb ρ (σ'.H.getD i .dead)
    | none => K.getD j .dead
  let l' : Nat → Nat := fun j => match inv j with
    | some i => σ'.l i
    | none => σ.l j
  have k1 : ∀ (i : Nat) ob, σ'.H[i]? = some ob → K'[ρ i]? = some (renOb ρ ob) := by
    intro i ob hi
    have hil : i < H.length := by rw [← hlen]; exact lt_of_get hi
    simp [K', hKl i hil, inv1 i hil, hi]
  have k2 : ∀ j, (∀ i, i < H.length → ρ i ≠ j) → K'[j]? = K[j]? := by
    intro j hj
    by_cases hjl : j < K.length
    · simp [K', hjl, inv2 j hj]
    · simp [K', hjl]
  have k3 : ∀ (i : Nat), i < H.length → l' (ρ i) = σ'.l i := by
    intro i hi; show (match inv (ρ i) with | some i => σ'.l i | none => σ.l (ρ i)) = _; rw [inv1 i hi]
  have k4 : ∀ j, (∀ i, i < H.length → ρ i ≠ j) → l' j = σ.l j := by
    intro j hj; show (match inv j with | some i => σ'.l i | none => σ.l j) = _; rw [inv2 j hj]
  let τ : Sg := ⟨σ'.w, σ'.O, l', K'⟩
  have hsee : Sees ρ H.length σ' τ := ⟨rfl, fun _ _ h => h, fun i ob hi => by rw [← hlen]; exact lt_of_get hi, k1, fun i ob hi => k3 i (by rw [← hlen]; exact lt_of_get hi)⟩
  have hup : ∀ m v, RM σ' m v → RM τ (renM ρ m) v := fun m v hr => hr.up hsee
  -- the objects of the greater heap
  have kinv : ∀ (j : Nat) ob, K'[j]? = some ob → (∃ i ob0, i < H.length ∧ ρ i = j ∧ σ'.H[i]? = some ob0 ∧ ob = renOb ρ ob0) ∨ ((∀ i, i < H.length → ρ i ≠ j) ∧ σ.H[j]? = some ob) := by
    intro j ob hj
    rcases inv3 j with ⟨i, hi, rfl, _⟩ | ⟨h1, _⟩
    · have hi' : i < σ'.H.length := by rw [hlen]; exact hi
      have := k1 i σ'.H[i] (by simp [hi'])
      rw [this] at hj
      injection hj with hj
      exact .inl ⟨i, σ'.H[i], hi, rfl, by simp [hi'], hj.symm⟩
    · rw [k2 j h1] at hj
      exact .inr ⟨h1, by rw [hH]; exact hj⟩
  have hsep : ∀ (j : Nat) ob, (∀ i, i < H.length → ρ i ≠ j) → σ.H[j]? = some ob → ob.live → ∀ (i : Nat) x, H[i]? = some x → x.live → σ.l (ρ i) ≠ σ.l j := by
    intro j ob hj h1 hl i x hi hx he
    have h2 : σ.H[ρ i]? = some (renOb ρ x) := by rw [hH]; exact hK i x hi
    exact hj i (lt_of_get hi) (hinv.inj _ _ _ _ h2 h1 ((renOb_live ρ x).2 hx) hl he)
  have hkeep : ∀ (j : Nat) ob, (∀ i, i < H.length → ρ i ≠ j) → σ.H[j]? = some ob → ob.live → σ'.w.heap[σ.l j]? = σ.w.heap[σ.l j]? := by
    intro j ob hj h1 hl
    refine hblk.blk (σ.l j) ((hinv.obj j ob h1).lt hl) ?_
    intro i x hi hx
    exact hsep j ob hj h1 hl i x hi hx
  have hmonoτ : Mono σ τ := by
    refine ⟨hmono.cell, ?_, ?_, ?_, ?_, ?_⟩
    · intro j cs hj
      rcases inv3 j with ⟨i, hi, rfl, _⟩ | ⟨h1, _⟩
      · have h2 := hK i H[i] (by simp [hi])
        rw [hH, h2] at hj
        injection hj with hj
        cases hx : H[i] with
        | box c0 =>
          obtain ⟨⟨c1, h3⟩, h4⟩ := hmono.box i c0 (by show H[i]? = _; simp [hi, hx])
          exact ⟨⟨_, k1 i _ h3⟩, by show l' (ρ i) = _; rw [k3 i hi]; exact h4⟩
        | _ => rw [hx] at hj; simp [renOb] at hj
      · exact ⟨⟨cs, by show K'[j]? = _; rw [k2 j h1, ← hH]; exact hj⟩, k4 j h1⟩
    · intro j cs hj
      rcases inv3 j with ⟨i, hi, rfl, _⟩ | ⟨h1, _⟩
      · have h2 := hK i H[i] (by simp [hi])
        rw [hH, h2] at hj
        injection hj with hj
        cases hx : H[i] with
        | map c0 =>
          obtain ⟨⟨c1, h3⟩, h4⟩ := hmono.map i c0 (by show H[i]? = _; simp [hi, hx])
          exact ⟨⟨_, k1 i _ h3⟩, by show l' (ρ i) = _; rw [k3 i hi]; exact h4⟩
        | _ => rw [hx] at hj; simp [renOb] at hj
      · exact ⟨⟨cs, by show K'[j]? = _; rw [k2 j h1, ← hH]; exact hj⟩, k4 j h1⟩
    · intro j hj
      rcases inv3 j with ⟨i, hi, rfl, _⟩ | ⟨h1, _⟩
      · have h2 := hK i H[i] (by simp [hi])
        rw [hH, h2] at hj
        injection hj with hj
        cases hx : H[i] with
        | dead =>
          have h3 := hmono.dead i (by show H[i]? = _; simp [hi, hx])
          exact k1 i _ h3
        | _ => rw [hx] at hj; simp [renOb] at hj
      · show K'[j]? = _; rw [k2 j h1, ← hH]; exact hj
    · intro j acc ec ver cs hj
      rcases inv3 j with ⟨i, hi, rfl, _⟩ | ⟨h1, _⟩
      · have h2 := hK i H[i] (by simp [hi])
        rw [hH, h2] at hj
        injection hj with hj
        cases hx : H[i] with
        | row a0 e0 v0 c0 =>
          rw [hx] at hj
          simp only [renOb] at hj
          cases hj
          rcases hmono.row i _ _ _ c0 (by show H[i]? = _; rw [List.getElem?_eq_getElem hi, hx]) with h3 | ⟨a1, v1, c1, h3, h4, h5⟩
          · exact .inl (k1 i _ h3)
          · refine .inr ⟨a1, v1, _, k1 i _ h3, h4, fun hv => ?_⟩
            obtain ⟨y1, y2, y3⟩ := h5 hv
            exact ⟨by show l' (ρ i) = _; rw [k3 i hi]; exact y1, by rw [renMs_length, renMs_length]; exact y2, y3⟩
        | _ => rw [hx] at hj; simp [renOb] at hj
      · refine .inr ⟨acc, ver, cs, by show K'[j]? = _; rw [k2 j h1, ← hH]; exact hj, Nat.le_refl _, fun _ => ⟨k4 j h1, rfl, fun arr T ha => ?_⟩⟩
        exact ⟨arr, by rw [← hkeep j _ h1 hj trivial] at ha; exact ha, rfl⟩
    · intro j hj
      rcases inv3 j with ⟨i, hi, rfl, _⟩ | ⟨h1, _⟩
      · obtain ⟨ob, h3⟩ := hmono.has i H[i] (by show H[i]? = _; simp [hi])
        exact ⟨_, k1 i _ h3⟩
      · exact ⟨_, by show K'[j]? = _; rw [k2 j h1, ← hH]; exact hj⟩
  have hobk : ∀ (j : Nat) ob, (∀ i, i < H.length → ρ i ≠ j) → σ.H[j]? = some ob → ObOk τ (σ.l j) ob := by
    intro j ob hj h1
    by_cases hl : ob.live
    · exact (hinv.obj j ob h1).keep hmonoτ (fun x hx => by show σ'.w.heap[σ.l j]? = _; rw [hkeep j ob hj h1 hl]; exact hx)
    · cases ob <;> first | trivial | exact absurd trivial hl
  refine ⟨v, renM ρ r0, τ, he, hw', ⟨r0, σ'.H, hpost, hlen, rfl, by simp [τ, K'], k1, k2⟩, ?_, hup _ _ hr, hmonoτ, ?_⟩
  · refine ⟨?_, ?_, ?_, ?_, ?_⟩
    · intro j ob hj
      rcases kinv j ob hj with ⟨i, ob0, hi, rfl, h2, rfl⟩ | ⟨h1, h2⟩
      · show ObOk τ (l' (ρ i)) _
        rw [k3 i hi]
        exact ObOk.up (σ := σ') (τ := τ) (ρ := ρ) rfl hup (hinv'.obj i ob0 h2)
      · show ObOk τ (l' j) _
        rw [k4 j h1]
        exact hobk j ob h1 h2
    · intro j1 j2 x y h1 h2 hx hy he
      have he' : l' j1 = l' j2 := he
      rcases kinv j1 x h1 with ⟨i1, x0, hi1, rfl, hx0, rfl⟩ | ⟨hn1, hx1⟩
      · rcases kinv j2 y h2 with ⟨i2, y0, hi2, rfl, hy0, rfl⟩ | ⟨hn2, hy1⟩
        · rw [k3 i1 hi1, k3 i2 hi2] at he'
          rw [hinv'.inj _ _ _ _ hx0 hy0 ((renOb_live ρ _).1 hx) ((renOb_live ρ _).1 hy) he']
        · exfalso
          rw [k3 i1 hi1, k4 j2 hn2] at he'
          rcases hblk.loc i1 x0 hx0 ((renOb_live ρ _).1 hx) with h3 | ⟨ob', h3, h4, h5⟩
          · have := (hinv.obj j2 y hy1).lt hy
            have h6 : σs.w.heap.size = σ.w.heap.size := rfl
            omega
          · exact hsep j2 y hn2 hy1 hy i1 ob' h3 h4 (h5.symm.trans he')
      · rcases kinv j2 y h2 with ⟨i2, y0, hi2, rfl, hy0, rfl⟩ | ⟨hn2, hy1⟩
        · exfalso
          rw [k4 j1 hn1, k3 i2 hi2] at he'
          rcases hblk.loc i2 y0 hy0 ((renOb_live ρ _).1 hy) with h3 | ⟨ob', h3, h4, h5⟩
          · have := (hinv.obj j1 x hx1).lt hx
            have h6 : σs.w.heap.size = σ.w.heap.size := rfl
            omega
          · exact hsep j1 x hn1 hx1 hx i2 ob' h3 h4 (h5.symm.trans he'.symm)
        · rw [k4 j1 hn1, k4 j2 hn2] at he'
          exact hinv.inj _ _ _ _ hx1 hy1 hx hy he'
    · intro b o
      show σ'.O b o ↔ _
      rw [hinv'.own]
      constructor
      · rintro ((h1 | ⟨j, ob, h0, h1, h2, h3⟩) | ⟨i, ob, h1, h2, h3⟩)
        · exact .inl h1
        · exact .inr ⟨j, ob, by show K'[j]? = _; rw [k2 j h0, ← hH]; exact h1, by show l' j = b; rw [k4 j h0]; exact h2, h3⟩
        · have hi : i < H.length := by rw [← hlen]; exact lt_of_get h1
          exact .inr ⟨ρ i, renOb ρ ob, k1 i ob h1, by show l' (ρ i) = b; rw [k3 i hi]; exact h2, (renOb_owns ρ _ o).2 h3⟩
      · rintro (h1 | ⟨j, ob, h1, h2, h3⟩)
        · exact .inl (.inl h1)
        · have h2' : l' j = b := h2
          rcases kinv j ob h1 with ⟨i, ob0, hi, rfl, h4, rfl⟩ | ⟨h4, h5⟩
          · rw [k3 i hi] at h2'
            exact .inr ⟨i, ob0, h4, h2', (renOb_owns ρ _ o).1 h3⟩
          · rw [k4 j h4] at h2'
            exact .inl (.inr ⟨j, ob, h4, h5, h2', h3⟩)
    · intro j ob hj hl o ho
      rcases kinv j ob hj with ⟨i, ob0, hi, rfl, h4, rfl⟩ | ⟨h4, h5⟩
      · have h6 : Oo (σ'.l i) o := by rw [← k3 i hi]; exact ho
        exact hinv'.sep i ob0 h4 ((renOb_live ρ _).1 hl) o (.inl h6)
      · have h6 : Oo (σ.l j) o := by rw [← k4 j h4]; exact ho
        exact hinv.sep j ob h5 hl o h6
    · exact fun b o h1 => hinv'.old b o (.inl h1)
  · refine ⟨hblk.os, hblk.output, hblk.tape, hblk.size, ?_, ?_⟩
    · intro b hb hn
      refine hblk.blk b hb ?_
      intro i ob hi hl
      exact hn (ρ i) (renOb ρ ob) (by rw [hH]; exact hK i ob hi) ((renOb_live ρ _).2 hl)
    · intro j ob hj hl
      rcases kinv j ob hj with ⟨i, ob0, hi, rfl, h4, rfl⟩ | ⟨h4, h5⟩
      · rcases hblk.loc i ob0 h4 ((renOb_live ρ _).1 hl) with h6 | ⟨ob', h6, h7, h8⟩
        · exact .inl (by show _ ≤ l' (ρ i); rw [k3 i hi]; exact h6)
        · exact .inr ⟨renOb ρ ob', by rw [hH]; exact hK i ob' h6, (renOb_live ρ _).2 h7, by show l' (ρ i) = _; rw [k3 i hi]; exact h8⟩
      · exact .inr ⟨ob, h5, hl, k4 j h4⟩
end Go.Mt
