import Derived.Test.YtjhinemdonddoaaMtXc
set_option linter.unusedVariables false
namespace Go.Mt
theorem get_del_some {α : Type} : ∀ {l : List (Nat × α)} {t u : Nat} {v : α}, get (del l t) u = some v → u ≠ t ∧ get l u = some v
  | [], t, u, v, h => by simp [del, get] at h
  | (k, x) :: r, t, u, v, h => by
    rw [del] at h
    cases hb : Nat.beq k t with
    | true =>
      rw [hb, cond_true] at h
      obtain ⟨h1, h2⟩ := get_del_some h
      refine ⟨h1, ?_⟩
      rw [get_cons, if_neg]
      · exact h2
      · intro e; exact h1 (e.symm.trans (Nat.eq_of_beq_eq_true hb))
    | false =>
      rw [hb, cond_false, get_cons] at h
      rw [get_cons]
      by_cases e : k = u
      · rw [if_pos e] at h ⊢
        refine ⟨fun e2 => ?_, h⟩
        subst e; subst e2
        simp at hb
      · rw [if_neg e] at h ⊢
        exact get_del_some h

/-- a variable of the frame's own that is not written any more: data -/
theorem FInv.freeze {X : Ctx} {σ : Sg} {lam : Nat → Nat} {st : St} {a : Act} (hi : FInv X σ lam st a) {t : Nat} {ds : List D} (hb : get st.bx t = some (ds.map .d)) (hs : get st.sl t = some (.loc t 0)) :
    ∃ τ : Sg, τ.w = σ.w ∧ FInv X τ lam ⟨(t, .m (.d (.pim ds 0))) :: st.sl, del st.bx t, st.H⟩ a := by
  let O' : Nat → Nat → Prop := fun b o => Oof X.Oout lam (del st.bx t) b o ∨ ∃ (i : Nat) (ob : Ob), σ.H[i]? = some ob ∧ σ.l i = b ∧ ob.owns o
  let τ : Sg := ⟨σ.w, O', σ.l, σ.H⟩
  have hOof : ∀ b o, Oof X.Oout lam (del st.bx t) b o → Oof X.Oout lam st.bx b o := by
    rintro b o (h | ⟨u, cs, h1, h2⟩)
    · exact .inl h
    · exact .inr ⟨u, cs, (get_del_some h1).2, h2⟩
  have hO : ∀ b o, ¬ σ.O b o → ¬ τ.O b o := by
    intro b o h1 h2
    apply h1
    rw [hi.hinv.own]
    rcases h2 with h2 | h2
    · exact .inl (hOof b o h2)
    · exact .inr h2
  have hm : Mono σ τ := ⟨fun b o v h1 h2 => ⟨h1, hO b o h2⟩, fun _ cs h => ⟨⟨cs, h⟩, rfl⟩, fun _ es h => ⟨⟨es, h⟩, rfl⟩, fun _ h => h,
    fun _ acc ec ver cs h => .inr ⟨acc, ver, cs, h, Nat.le_refl _, fun _ => ⟨rfl, rfl, fun arr T h => ⟨arr, h, rfl⟩⟩⟩, fun _ h => ⟨_, h⟩⟩
  obtain ⟨arr, T, h1, h2, h3⟩ := hi.box t _ hb
  have hno : ∀ o, ¬ O' (lam t) o := by
    rintro o ((h | ⟨u, cs, h4, h5⟩) | ⟨i, ob, h4, h5, h6⟩)
    · exact hi.bsep t _ hb o h
    · obtain ⟨h6, h7⟩ := get_del_some h4
      exact h6 (hi.binj u t _ _ h7 hb h5)
    · exact hi.hinv.sep i ob h4 (Ob.live_of_owns h6) o (.inr ⟨t, _, hb, h5.symm⟩)
  refine ⟨τ, rfl, hi.hH, hi.defers, hi.size, ?_, ?_, ?_, ?_, ?_, ?_, hi.mono.trans hm, ⟨hi.blk.os, hi.blk.output, hi.blk.tape, hi.blk.size, hi.blk.blk, hi.blk.loc⟩⟩
  · intro u v hu
    rw [get_cons] at hu
    by_cases e : t = u
    · subst e
      rw [if_pos rfl] at hu
      injection hu with hu
      subst hu
      obtain ⟨x, h4, h5⟩ := hi.slot t _ hs
      refine ⟨x, h4, ?_⟩
      cases h5 with
      | loc u off =>
        have harr : ∀ i, i < ds.length → i < arr.size := by intro i hlt; rw [h2]; simpa using hlt
        have hsome : ∀ i, (hlt : i < ds.length) → arr[i]? = some (arr.getD i undef) := by intro i hlt; simp [harr i hlt]
        refine .m (.d (.pim ds 0 (lam t) 0 (fun i => arr.getD i undef) ?_ ?_ ?_))
        · intro i hlt
          refine ⟨?_, hno _⟩
          simp [cellv, World.cell?, τ, h1, harr i hlt]
        · intro i hlt
          exact (h3 i (.d ds[i]) _ (by simp [hlt]) (hsome i hlt)).2
        · intro i d hd
          have hlt : i < ds.length := by rcases Nat.lt_or_ge i ds.length with h | h; exact h; simp [List.getElem?_eq_none h] at hd
          have h6 := (h3 i (.d d) _ (by simp [hd]) (hsome i hlt)).1.mono hm
          cases h6 with
          | d h => exact h
    · rw [if_neg e] at hu
      obtain ⟨x, h4, h5⟩ := hi.slot u v hu
      exact ⟨x, h4, h5.mono hm⟩
  · intro u cs hu
    exact (hi.box u cs (get_del_some hu).2).keep hm (fun x hx => hx)
  · intro u v cs ds' hu hv
    exact hi.binj u v cs ds' (get_del_some hu).2 (get_del_some hv).2
  · intro u cs hu
    exact hi.bsep u cs (get_del_some hu).2
  · intro u cs hu
    exact hi.bnew u cs (get_del_some hu).2
  · refine ⟨fun i ob h => (hi.hinv.obj i ob h).keep hm (fun x hx => hx), hi.hinv.inj, fun b o => Iff.rfl, fun i ob h hl o ho => hi.hinv.sep i ob h hl o (hOof _ _ ho), fun b o ho => hi.hinv.old b o (hOof _ _ ho)⟩

theorem TC.freeze {X : Ctx} {c : Code} {q : Exit → St → Prop} (t : Nat) {ds : List D} {sl : List (Nat × V)} {bx : List (Nat × List M)} {H : Hp} (hb : get bx t = some (ds.map .d)) (hs : get sl t = some (.loc t 0))
    (k : TC X c ⟨(t, .m (.d (.pim ds 0))) :: sl, del bx t, H⟩ q) : TC X c ⟨sl, bx, H⟩ q := by
  rintro a w ⟨σ, lam, rfl, hi⟩
  obtain ⟨τ, h1, h2⟩ := hi.freeze hb hs
  exact k a _ ⟨τ, lam, h1, h2⟩
theorem TL.freeze {X : Ctx} {ops : Array Oper} {l : List Oper} {q : St → Prop} (t : Nat) {ds : List D} {sl : List (Nat × V)} {bx : List (Nat × List M)} {H : Hp} (hb : get bx t = some (ds.map .d)) (hs : get sl t = some (.loc t 0))
    (k : TL X ops l ⟨(t, .m (.d (.pim ds 0))) :: sl, del bx t, H⟩ q) : TL X ops l ⟨sl, bx, H⟩ q := by
  rintro a w ⟨σ, lam, rfl, hi⟩
  obtain ⟨τ, h1, h2⟩ := hi.freeze hb hs
  exact k a _ ⟨τ, lam, h1, h2⟩
end Go.Mt
