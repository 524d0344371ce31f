import Derived.Test.YtjhinemdonddoaaMtXb
set_option linter.unusedVariables false
namespace Go.Mt

mutual
def mbb (n : Nat) : M → Bool
  | .d _ => true
  | .ref i _ => Nat.blt i n
  | .rsl i _ _ => Nat.blt i n
  | .rref i _ _ => Nat.blt i n
  | .mp i => Nat.blt i n
  | .agg cs => mbbs n cs
  | .fn _ cs => mbbs n cs
  | .tup cs => mbbs n cs
  | .undef => true
def mbbs (n : Nat) : List M → Bool
  | [] => true
  | m :: r => mbb n m && mbbs n r
end
mutual
theorem mbb_ok {n : Nat} : ∀ {m : M}, mbb n m = true → MB n m
  | .d x, _ => .d x
  | .ref i off, h => .ref i off (blt_lt h)
  | .rsl i v l, h => .rsl i v l (blt_lt h)
  | .rref i v l, h => .rref i v l (blt_lt h)
  | .mp i, h => .mp i (blt_lt h)
  | .agg cs, h => .agg cs (mbbs_ok (by simpa [mbb] using h))
  | .fn f cs, h => .fn f cs (mbbs_ok (by simpa [mbb] using h))
  | .tup cs, h => .tup cs (mbbs_ok (by simpa [mbb] using h))
  | .undef, _ => .undef
theorem mbbs_ok {n : Nat} : ∀ {l : List M}, mbbs n l = true → ∀ m ∈ l, MB n m
  | [], _ => by simp
  | a :: r, h => by
    rw [mbbs, Bool.and_eq_true] at h
    intro m hm
    rcases List.mem_cons.1 hm with e | hm
    · rw [e]; exact mbb_ok h.1
    · exact mbbs_ok h.2 m hm
end
def obb (n : Nat) : Ob → Bool
  | .box cs => mbbs n cs
  | .row _ _ _ cs => mbbs n cs
  | .map es => es.all fun e => mbb n e.2
  | .dead => true
  | .free => true
theorem obb_ok {n : Nat} {ob : Ob} (h : obb n ob = true) : ObB n ob := by
  cases ob with
  | box cs => exact mbbs_ok h
  | row a e v cs => exact mbbs_ok h
  | map es => intro e he; exact mbb_ok (List.all_eq_true.1 h e he)
  | dead => trivial
  | free => trivial
theorem hbb_ok {n : Nat} {H : Hp} (h : H.all (obb n) = true) : HB n H := fun ob hob => obb_ok (List.all_eq_true.1 h ob hob)

mutual
theorem renM_id : ∀ m : M, renM (fun i => i) m = m
  | .d x => by rw [renM]
  | .ref i off => by rw [renM]
  | .rsl i v l => by rw [renM]
  | .rref i v l => by rw [renM]
  | .mp i => by rw [renM]
  | .agg cs => by rw [renM, renMs_id cs]
  | .fn f cs => by rw [renM, renMs_id cs]
  | .tup cs => by rw [renM, renMs_id cs]
  | .undef => by rw [renM]
theorem renMs_id : ∀ l : List M, renMs (fun i => i) l = l
  | [] => by rw [renMs]
  | m :: r => by rw [renMs, renM_id m, renMs_id r]
end
theorem renOb_id (ob : Ob) : renOb (fun i => i) ob = ob := by
  cases ob with
  | box cs => simp [renOb, renMs_id]
  | row a e v cs => simp [renOb, renMs_id]
  | map es => simp [renOb, renM_id]
  | dead => rfl
  | free => rfl

/-- the rest of the heap lies behind -/
theorem CT.suffix {P : Program} {f : Nat} {ms : List M} {H : Hp} {post : M → Hp → Prop} (F : Hp) (hB : HB H.length H) (hms : ∀ m ∈ ms, MB H.length m)
    (h : CT P f ms H fun r k => k.length = H.length ∧ post r k) : CT P f ms (H ++ F) fun r k => ∃ H', k = H' ++ F ∧ H'.length = H.length ∧ post r H' := by
  have h2 := CT.frame (K := H ++ F) (fun i => i) (fun i j _ _ h => h) (fun i ob hi => by rw [renOb_id, List.getElem?_append_left (lt_of_get hi)]; exact hi) hB hms h
  rw [renMs_id] at h2
  refine h2.mono ?_
  rintro r k ⟨r0, H', hp, hl, rfl, hkl, h3, h4⟩
  rw [renM_id]
  refine ⟨H', ?_, hl, hp⟩
  apply List.ext_getElem?
  intro i
  rcases Nat.lt_or_ge i H.length with hi | hi
  · have h5 := h3 i H'[i] (by simp [hl, hi])
    rw [renOb_id] at h5
    rw [h5, List.getElem?_append_left (by omega)]
    simp [hl, hi]
  · rw [h4 i (fun j hj he => by omega), List.getElem?_append_right hi, List.getElem?_append_right (by omega), hl]

/-- what is new and nobody refers to is forgotten -/
theorem CT.drop {P : Program} {f : Nat} {ms : List M} {H : Hp} {post : M → Hp → Prop} (n : Nat) (hn : H.length ≤ n)
    (h : CT P f ms H fun r k => n ≤ k.length ∧ MB n r ∧ HB n (k.take n) ∧ post r (k.take n)) : CT P f ms H post := by
  intro σ Oo vs hinv hH hvs
  refine (h σ Oo vs hinv hH hvs).mono ?_
  rintro e w' ⟨v, r, σ', he, hw', ⟨hkl, hr, hB, hp⟩, hinv', hrv, hmono, hblk⟩
  let τ : Sg := ⟨σ'.w, fun b o => Oo b o ∨ ∃ (i : Nat) (ob : Ob), (σ'.H.take n)[i]? = some ob ∧ σ'.l i = b ∧ ob.owns o, σ'.l, σ'.H.take n⟩
  have htk : ∀ (i : Nat) ob, (σ'.H.take n)[i]? = some ob → i < n ∧ σ'.H[i]? = some ob := by
    intro i ob hi
    rw [List.getElem?_take] at hi
    split at hi
    · exact ⟨by assumption, hi⟩
    · cases hi
  have htk2 : ∀ (i : Nat) ob, i < n → σ'.H[i]? = some ob → (σ'.H.take n)[i]? = some ob := by
    intro i ob hi h
    rw [List.getElem?_take, if_pos hi]; exact h
  have hO : ∀ b o, ¬ σ'.O b o → ¬ τ.O b o := by
    intro b o h1 h2
    apply h1
    rw [hinv'.own]
    rcases h2 with h2 | ⟨i, ob, h2, h3, h4⟩
    · exact .inl h2
    · exact .inr ⟨i, ob, (htk i ob h2).2, h3, h4⟩
  have hhide : Hides (fun i => i) n τ σ' → True := fun _ => trivial
  have hRM : ∀ m v, MB n m → RM σ' m v → RM τ m v := by
    intro m v hm
    induction hm generalizing v with
    | d x => intro h; cases h with
      | d h => exact .d (h.mono fun b o v h1 h2 => ⟨h1, hO b o h2⟩)
    | ref i off hi => intro h; cases h with
      | ref i off cs h => exact .ref i off cs (htk2 i _ hi h)
    | rsl i ver len hi => intro h; cases h with
      | rsl i ver len a cap hle hcur =>
        refine .rsl i ver len a cap ?_ fun acc ec cs h => hcur acc ec cs (htk i _ h).2
        rcases hle with h | ⟨acc, ec, ver', cs, h, h2⟩
        · exact .inl (htk2 i _ hi h)
        · exact .inr ⟨acc, ec, ver', cs, htk2 i _ hi h, h2⟩
    | rref i ver off hi => intro h; cases h with
      | rref i ver off b hle hcur =>
        refine .rref i ver off b ?_ fun acc ec cs h => hcur acc ec cs (htk i _ h).2
        rcases hle with h | ⟨acc, ec, ver', cs, h, h2⟩
        · exact .inl (htk2 i _ hi h)
        · exact .inr ⟨acc, ec, ver', cs, htk2 i _ hi h, h2⟩
    | mp i hi => intro h; cases h with
      | mp i es h => exact .mp i es (htk2 i _ hi h)
    | agg cs hc ih => intro h; cases h with
      | agg cs vs hl hf h => exact .agg cs vs hl hf fun i m v h1 h2 => ih m (List.mem_of_getElem? h1) v (h i m v h1 h2)
    | fn f cs hc ih => intro h; cases h with
      | fn f cs vs hl h => exact .fn f cs vs hl fun i m v h1 h2 => ih m (List.mem_of_getElem? h1) v (h i m v h1 h2)
    | tup cs hc ih => intro h; cases h with
      | tup cs vs hl h => exact .tup cs vs hl fun i m v h1 h2 => ih m (List.mem_of_getElem? h1) v (h i m v h1 h2)
    | undef => intro h; exact .undef v
  have hobs : ∀ (i : Nat) ob, (σ'.H.take n)[i]? = some ob → ObOk τ (σ'.l i) ob := by
    intro i ob hi
    have h1 := hinv'.obj i ob (htk i ob hi).2
    have h2 := hB ob (List.mem_of_getElem? hi)
    refine ObOk.down (σ := τ) (τ := σ') (ρ := fun i => i) (n := n) rfl (fun m v hm hv => hRM m v hm (by rw [renM_id] at hv; exact hv)) h2 (by rw [renOb_id]; exact h1)
  refine ⟨v, r, τ, he, hw', hp, ?_, hRM r v hr hrv, ?_, ?_⟩
  · refine ⟨hobs, ?_, fun b o => Iff.rfl, ?_, hinv'.old⟩
    · intro i j x y hi hj
      exact hinv'.inj i j x y (htk i x hi).2 (htk j y hj).2
    · intro i ob hi
      exact hinv'.sep i ob (htk i ob hi).2
  · have hlt : ∀ (i : Nat) ob, σ.H[i]? = some ob → i < n := by
      intro i ob hi
      rw [hH] at hi
      have := lt_of_get hi
      omega
    refine ⟨?_, ?_, ?_, ?_, ?_, fun i hi => let ⟨ob, h1⟩ := hmono.has i _ hi; ⟨ob, htk2 i _ (hlt i _ hi) h1⟩⟩
    · intro b o v h1 h2
      have h3 := hmono.cell b o v h1 h2
      exact ⟨h3.1, hO b o h3.2⟩
    · intro i cs hi
      obtain ⟨⟨cs', h1⟩, h2⟩ := hmono.box i cs hi
      exact ⟨⟨cs', htk2 i _ (hlt i _ hi) h1⟩, h2⟩
    · intro i cs hi
      obtain ⟨⟨cs', h1⟩, h2⟩ := hmono.map i cs hi
      exact ⟨⟨cs', htk2 i _ (hlt i _ hi) h1⟩, h2⟩
    · intro i hi
      exact htk2 i _ (hlt i _ hi) (hmono.dead i hi)
    · intro i acc ec ver cs hi
      rcases hmono.row i acc ec ver cs hi with h1 | ⟨acc', ver', cs', h1, h2, h3⟩
      · exact .inl (htk2 i _ (hlt i _ hi) h1)
      · exact .inr ⟨acc', ver', cs', htk2 i _ (hlt i _ hi) h1, h2, h3⟩
  · refine ⟨hblk.os, hblk.output, hblk.tape, hblk.size, hblk.blk, ?_⟩
    intro i ob hi hl
    exact hblk.loc i ob (htk i ob hi).2 hl

/-- a function of data, called while a heap is there -/
theorem CT.of_PT {P : Program} {f : Nat} {ds : List D} {post : List D → Prop} {H : Hp} (h : PT P f ds post) : CT P f (ds.map .d) H fun r k => (∃ d, r = tupM (d.map .d) ∧ post d) ∧ k = H := by
  intro σ Oo vs hinv hH hvs
  refine (h σ.O σ.w vs hinv.oold ⟨by simpa using hvs.1, fun i d v h1 h2 => ?_⟩).mono ?_
  · have := hvs.2 i (.d d) v (by simp [h1]) h2
    cases this with
    | d h => exact h
  · rintro e w' ⟨v, r, he, hp, hext, hr⟩
    refine ⟨v, _, { σ with w := w' }, he, rfl, ⟨⟨r, rfl, hp⟩, hH⟩, ?_, hr.mono' (fun b o v h1 h2 => ⟨h1, h2⟩), Mono.ext hext, ?_⟩
    · exact hinv.ext hext
    · exact Blk.ext hext
end Go.Mt
