import Derived.Test.YtjhinemdonddoaaMtX
set_option linter.unusedVariables false
namespace Go.Mt

/-- refers to objects below n alone -/
inductive MB (n : Nat) : M → Prop where
  | d (x : D) : MB n (.d x)
  | ref (i off : Nat) (h : i < n) : MB n (.ref i off)
  | rsl (i ver len : Nat) (h : i < n) : MB n (.rsl i ver len)
  | rref (i ver off : Nat) (h : i < n) : MB n (.rref i ver off)
  | mp (i : Nat) (h : i < n) : MB n (.mp i)
  | agg (cs : List M) (h : ∀ m ∈ cs, MB n m) : MB n (.agg cs)
  | fn (f : Nat) (cs : List M) (h : ∀ m ∈ cs, MB n m) : MB n (.fn f cs)
  | tup (cs : List M) (h : ∀ m ∈ cs, MB n m) : MB n (.tup cs)
  | undef : MB n .undef
def ObB (n : Nat) : Ob → Prop
  | .box cs => ∀ m ∈ cs, MB n m
  | .row _ _ _ cs => ∀ m ∈ cs, MB n m
  | .map es => ∀ e ∈ es, MB n e.2
  | .dead => True
  | .free => True
def HB (n : Nat) (H : Hp) : Prop := ∀ ob ∈ H, ObB n ob

mutual
def renM (ρ : Nat → Nat) : M → M
  | .d x => .d x
  | .ref i off => .ref (ρ i) off
  | .rsl i ver len => .rsl (ρ i) ver len
  | .rref i ver off => .rref (ρ i) ver off
  | .mp i => .mp (ρ i)
  | .agg cs => .agg (renMs ρ cs)
  | .fn f cs => .fn f (renMs ρ cs)
  | .tup cs => .tup (renMs ρ cs)
  | .undef => .undef
def renMs (ρ : Nat → Nat) : List M → List M
  | [] => []
  | m :: r => renM ρ m :: renMs ρ r
end
theorem renMs_map (ρ : Nat → Nat) (l : List M) : renMs ρ l = l.map (renM ρ) := by induction l with
  | nil => rfl
  | cons a r ih => simp [renMs, ih]
theorem renMs_get (ρ : Nat → Nat) (l : List M) (i : Nat) : (renMs ρ l)[i]? = (l[i]?).map (renM ρ) := by rw [renMs_map]; simp
theorem renMs_length (ρ : Nat → Nat) (l : List M) : (renMs ρ l).length = l.length := by rw [renMs_map]; simp
def renOb (ρ : Nat → Nat) : Ob → Ob
  | .box cs => .box (renMs ρ cs)
  | .row acc ec ver cs => .row acc ec ver (renMs ρ cs)
  | .map es => .map (es.map fun e => (e.1, renM ρ e.2))
  | .dead => .dead
  | .free => .free
theorem renOb_live (ρ : Nat → Nat) (ob : Ob) : (renOb ρ ob).live ↔ ob.live := by cases ob <;> simp [renOb, Ob.live]
theorem renOb_owns (ρ : Nat → Nat) (ob : Ob) (o : Nat) : (renOb ρ ob).owns o ↔ ob.owns o := by cases ob <;> simp [renOb, Ob.owns, renMs_length]

/-- one view of a world seen in another: the object i of σ is the object ρ i of τ -/
structure Sees (ρ : Nat → Nat) (n : Nat) (σ τ : Sg) : Prop where
  w : σ.w = τ.w
  O : ∀ b o, ¬ σ.O b o → ¬ τ.O b o
  len : ∀ (i : Nat) ob, σ.H[i]? = some ob → i < n
  ob : ∀ (i : Nat) ob, σ.H[i]? = some ob → τ.H[ρ i]? = some (renOb ρ ob)
  l : ∀ (i : Nat) ob, σ.H[i]? = some ob → τ.l (ρ i) = σ.l i

theorem RM.up {ρ : Nat → Nat} {n : Nat} {σ τ : Sg} (hs : Sees ρ n σ τ) {m : M} {v : Value} (h : RM σ m v) : RM τ (renM ρ m) v := by
  induction h with
  | d h => rw [renM]; exact .d (h.mono fun b o v h1 h2 => ⟨by rw [← hs.w]; exact h1, hs.O b o h2⟩)
  | ref i off cs h =>
    rw [renM, ← hs.l i _ h]
    exact .ref (ρ i) off _ (hs.ob i _ h)
  | rsl i ver len a cap hle hcur =>
    rw [renM]
    have hany : ∃ ob, σ.H[i]? = some ob := by
      rcases hle with h | ⟨acc, ec, ver', cs, h, _⟩
      · exact ⟨_, h⟩
      · exact ⟨_, h⟩
    obtain ⟨ob, hob⟩ := hany
    refine .rsl _ ver len a cap ?_ ?_
    · rcases hle with h | ⟨acc, ec, ver', cs, h, h2⟩
      · exact .inl (hs.ob i _ h)
      · exact .inr ⟨acc, ec, ver', _, hs.ob i _ h, h2⟩
    · intro acc ec cs ht
      rw [hs.ob i _ hob] at ht
      injection ht with ht
      cases ob <;> simp only [renOb] at ht <;> cases ht
      obtain ⟨y1, y2, y3⟩ := hcur _ _ _ hob
      rw [hs.l i _ hob, renMs_length, ← hs.w]
      exact ⟨y1, y2, y3⟩
  | rref i ver off b hle hcur =>
    rw [renM]
    have hany : ∃ ob, σ.H[i]? = some ob := by
      rcases hle with h | ⟨acc, ec, ver', cs, h, _⟩
      · exact ⟨_, h⟩
      · exact ⟨_, h⟩
    obtain ⟨ob, hob⟩ := hany
    refine .rref _ ver off b ?_ ?_
    · rcases hle with h | ⟨acc, ec, ver', cs, h, h2⟩
      · exact .inl (hs.ob i _ h)
      · exact .inr ⟨acc, ec, ver', _, hs.ob i _ h, h2⟩
    · intro acc ec cs ht
      rw [hs.ob i _ hob] at ht
      injection ht with ht
      cases ob <;> simp only [renOb] at ht <;> cases ht
      rw [hs.l i _ hob]
      exact hcur _ _ _ hob
  | mp i es h =>
    rw [renM, ← hs.l i _ h]
    exact .mp (ρ i) _ (hs.ob i _ h)
  | agg cs vs hl hf h ih =>
    rw [renM]
    refine .agg _ vs (by rw [renMs_length]; exact hl) hf fun i m v hm hv => ?_
    rw [renMs_get] at hm
    obtain ⟨m0, h1, rfl⟩ := Option.map_eq_some_iff.1 hm
    exact ih i m0 v h1 hv
  | fn f cs vs hl h ih =>
    rw [renM]
    refine .fn f _ vs (by rw [renMs_length]; exact hl) fun i m v hm hv => ?_
    rw [renMs_get] at hm
    obtain ⟨m0, h1, rfl⟩ := Option.map_eq_some_iff.1 hm
    exact ih i m0 v h1 hv
  | tup cs vs hl h ih =>
    rw [renM]
    refine .tup _ vs (by rw [renMs_length]; exact hl) fun i m v hm hv => ?_
    rw [renMs_get] at hm
    obtain ⟨m0, h1, rfl⟩ := Option.map_eq_some_iff.1 hm
    exact ih i m0 v h1 hv
  | undef v => rw [renM]; exact .undef v

/-- the other way round: what is below n -/
structure Hides (ρ : Nat → Nat) (n : Nat) (σ τ : Sg) : Prop where
  w : σ.w = τ.w
  O : ∀ b o, ¬ τ.O b o → ¬ σ.O b o
  has : ∀ i : Nat, i < n → ∃ ob, σ.H[i]? = some ob
  ob : ∀ (i : Nat) ob, σ.H[i]? = some ob → τ.H[ρ i]? = some (renOb ρ ob)
  l : ∀ (i : Nat) ob, σ.H[i]? = some ob → τ.l (ρ i) = σ.l i

theorem RM.down {ρ : Nat → Nat} {n : Nat} {σ τ : Sg} (hs : Hides ρ n σ τ) {m : M} (hb : MB n m) : ∀ {v : Value}, RM τ (renM ρ m) v → RM σ m v := by
  induction hb with
  | d x =>
    intro v h
    rw [renM] at h
    cases h with
    | d h => exact .d (h.mono fun b o v h1 h2 => ⟨by rw [hs.w]; exact h1, hs.O b o h2⟩)
  | ref i off h =>
    intro v hh
    rw [renM] at hh
    obtain ⟨ob, hob⟩ := hs.has i h
    cases hh with
    | ref i' off cs h =>
      rw [hs.ob i _ hob] at h
      injection h with h
      cases ob <;> simp only [renOb] at h <;> cases h
      rw [hs.l i _ hob]
      exact .ref i off _ hob
  | rsl i ver len h =>
    intro v hh
    rw [renM] at hh
    obtain ⟨ob, hob⟩ := hs.has i h
    have hτ := hs.ob i _ hob
    cases hh with
    | rsl i' ver len a cap hle hcur =>
      refine .rsl i ver len a cap ?_ ?_
      · rw [hτ] at hle
        cases ob with
        | dead => exact .inl hob
        | free => rcases hle with h | ⟨acc2, ec2, ver2, cs2, h, h2⟩ <;> simp [renOb] at h
        | row acc ec ver' cs =>
          rcases hle with h | ⟨acc2, ec2, ver2, cs2, h, h2⟩
          · simp [renOb] at h
          · simp only [renOb] at h
            injection h with h; injection h with e1 e2 e3 e4
            exact .inr ⟨acc, ec, ver', cs, hob, by omega⟩
        | box cs => rcases hle with h | ⟨acc2, ec2, ver2, cs2, h, h2⟩ <;> simp [renOb] at h
        | map cs => rcases hle with h | ⟨acc2, ec2, ver2, cs2, h, h2⟩ <;> simp [renOb] at h
      · intro acc ec cs ht
        rw [hob] at ht
        injection ht with ht
        subst ht
        obtain ⟨y1, y2, y3⟩ := hcur acc ec (renMs ρ cs) hτ
        rw [hs.l i _ hob] at y1 y3
        rw [renMs_length] at y2
        rw [hs.w]
        exact ⟨y1, y2, y3⟩
  | rref i ver off h =>
    intro v hh
    rw [renM] at hh
    obtain ⟨ob, hob⟩ := hs.has i h
    have hτ := hs.ob i _ hob
    cases hh with
    | rref i' ver off b hle hcur =>
      refine .rref i ver off b ?_ ?_
      · rw [hτ] at hle
        cases ob with
        | dead => exact .inl hob
        | free => rcases hle with h | ⟨acc2, ec2, ver2, cs2, h, h2⟩ <;> simp [renOb] at h
        | row acc ec ver' cs =>
          rcases hle with h | ⟨acc2, ec2, ver2, cs2, h, h2⟩
          · simp [renOb] at h
          · simp only [renOb] at h
            injection h with h; injection h with e1 e2 e3 e4
            exact .inr ⟨acc, ec, ver', cs, hob, by omega⟩
        | box cs => rcases hle with h | ⟨acc2, ec2, ver2, cs2, h, h2⟩ <;> simp [renOb] at h
        | map cs => rcases hle with h | ⟨acc2, ec2, ver2, cs2, h, h2⟩ <;> simp [renOb] at h
      · intro acc ec cs ht
        rw [hob] at ht
        injection ht with ht
        subst ht
        rw [← hs.l i _ hob]
        exact hcur acc ec (renMs ρ cs) hτ
  | mp i h =>
    intro v hh
    rw [renM] at hh
    obtain ⟨ob, hob⟩ := hs.has i h
    cases hh with
    | mp i' es h =>
      rw [hs.ob i _ hob] at h
      injection h with h
      cases ob <;> simp only [renOb] at h <;> cases h
      rw [hs.l i _ hob]
      exact .mp i _ hob
  | agg cs h ih =>
    intro v hh
    rw [renM] at hh
    cases hh with
    | agg cs' vs hl hf h2 =>
      refine .agg cs vs (by rw [renMs_length] at hl; exact hl) hf fun i m v hm hv => ?_
      exact ih m (List.mem_of_getElem? hm) (h2 i (renM ρ m) v (by rw [renMs_get, hm]; rfl) hv)
  | fn f cs h ih =>
    intro v hh
    rw [renM] at hh
    cases hh with
    | fn f' cs' vs hl h2 =>
      refine .fn f cs vs (by rw [renMs_length] at hl; exact hl) fun i m v hm hv => ?_
      exact ih m (List.mem_of_getElem? hm) (h2 i (renM ρ m) v (by rw [renMs_get, hm]; rfl) hv)
  | tup cs h ih =>
    intro v hh
    rw [renM] at hh
    cases hh with
    | tup cs' vs hl h2 =>
      refine .tup cs vs (by rw [renMs_length] at hl; exact hl) fun i m v hm hv => ?_
      exact ih m (List.mem_of_getElem? hm) (h2 i (renM ρ m) v (by rw [renMs_get, hm]; rfl) hv)
  | undef => intro v h; exact .undef v

/-- an object, seen from a view to another -/
theorem ObOk.up {ρ : Nat → Nat} {σ τ : Sg} (hw : σ.w = τ.w) (hr : ∀ m v, RM σ m v → RM τ (renM ρ m) v) {b : Nat} {ob : Ob} (h : ObOk σ b ob) : ObOk τ b (renOb ρ ob) := by
  cases ob with
  | box cs =>
    obtain ⟨arr, T, h1, h2, h3⟩ := h
    refine ⟨arr, T, by rw [← hw]; exact h1, by rw [renMs_length]; exact h2, fun i m v hm hv => ?_⟩
    rw [renMs_get] at hm
    obtain ⟨m0, h4, rfl⟩ := Option.map_eq_some_iff.1 hm
    exact ⟨hr _ _ (h3 i m0 v h4 hv).1, (h3 i m0 v h4 hv).2⟩
  | row acc ec ver cs =>
    obtain ⟨h0, arr, T, cap, n, h1, h2, h3, ⟨h4, h5⟩, h6⟩ := h
    refine ⟨h0, arr, T, cap, n, by rw [← hw]; exact h1, h2, h3, ⟨by rw [renMs_length]; exact h4, h5⟩, fun i m v hm hv => ?_⟩
    rw [renMs_get] at hm
    obtain ⟨m0, h7, rfl⟩ := Option.map_eq_some_iff.1 hm
    exact ⟨hr _ _ (h6 i m0 v h7 hv).1, (h6 i m0 v h7 hv).2⟩
  | map es =>
    obtain ⟨ents, c, h1, h2, h3⟩ := h
    refine ⟨ents, c, by rw [← hw]; exact h1, by simpa using h2, fun i e u he hu => ?_⟩
    rw [List.getElem?_map] at he
    obtain ⟨e0, h4, rfl⟩ := Option.map_eq_some_iff.1 he
    exact ⟨(h3 i e0 u h4 hu).1, hr _ _ (h3 i e0 u h4 hu).2⟩
  | dead => trivial
  | free => trivial
theorem ObOk.down {ρ : Nat → Nat} {n : Nat} {σ τ : Sg} (hw : σ.w = τ.w) (hr : ∀ m v, MB n m → RM τ (renM ρ m) v → RM σ m v) {b : Nat} {ob : Ob} (hb : ObB n ob) (h : ObOk τ b (renOb ρ ob)) : ObOk σ b ob := by
  cases ob with
  | box cs =>
    obtain ⟨arr, T, h1, h2, h3⟩ := h
    refine ⟨arr, T, by rw [hw]; exact h1, by rw [renMs_length] at h2; exact h2, fun i m v hm hv => ?_⟩
    have h4 := h3 i (renM ρ m) v (by rw [renMs_get, hm]; rfl) hv
    exact ⟨hr _ _ (hb m (List.mem_of_getElem? hm)) h4.1, h4.2⟩
  | row acc ec ver cs =>
    obtain ⟨h0, arr, T, cap, k, h1, h2, h3, ⟨h4, h5⟩, h6⟩ := h
    refine ⟨h0, arr, T, cap, k, by rw [hw]; exact h1, h2, h3, ⟨by rw [renMs_length] at h4; exact h4, h5⟩, fun i m v hm hv => ?_⟩
    have h7 := h6 i (renM ρ m) v (by rw [renMs_get, hm]; rfl) hv
    exact ⟨hr _ _ (hb m (List.mem_of_getElem? hm)) h7.1, h7.2⟩
  | map es =>
    obtain ⟨ents, c, h1, h2, h3⟩ := h
    refine ⟨ents, c, by rw [hw]; exact h1, by simpa using h2, fun i e u he hu => ?_⟩
    have h4 := h3 i (e.1, renM ρ e.2) u (by rw [List.getElem?_map, he]; rfl) hu
    exact ⟨h4.1, hr _ _ (hb e (List.mem_of_getElem? he)) h4.2⟩
  | dead => trivial
  | free => trivial
end Go.Mt
