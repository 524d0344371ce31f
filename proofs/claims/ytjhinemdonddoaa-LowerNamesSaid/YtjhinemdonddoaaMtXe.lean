import Derived.Test.YtjhinemdonddoaaMtXd
set_option linter.unusedVariables false
namespace Go.Mt

def VB (n : Nat) : V → Prop
  | .m m => MB n m
  | .loc _ _ => True
def vbb (n : Nat) : V → Bool
  | .m m => mbb n m
  | .loc _ _ => true
theorem vbb_ok {n : Nat} {v : V} (h : vbb n v = true) : VB n v := by cases v <;> first | exact mbb_ok h | trivial

theorem Inv.base {X : Ctx} {st : St} {a : Act} {w : World} (h : Inv X st a w) : X.s0.H.length ≤ st.H.length := by
  obtain ⟨σ, lam, rfl, hi⟩ := h
  have hm := hi.mono
  rw [← hi.hH]
  rcases Nat.lt_or_ge σ.H.length X.s0.H.length with h1 | h1
  · exfalso
    have hx : X.s0.H[σ.H.length]? = some X.s0.H[σ.H.length] := by simp [h1]
    have hno : σ.H[σ.H.length]? = none := by simp
    cases hob : X.s0.H[σ.H.length] with
    | box cs => rw [hob] at hx; obtain ⟨⟨cs', h2⟩, _⟩ := hm.box _ _ hx; rw [hno] at h2; cases h2
    | map cs => rw [hob] at hx; obtain ⟨⟨cs', h2⟩, _⟩ := hm.map _ _ hx; rw [hno] at h2; cases h2
    | dead => rw [hob] at hx; have h2 := hm.dead _ hx; rw [hno] at h2; cases h2
    | free => rw [hob] at hx; obtain ⟨_, h2⟩ := hm.free _ hx; rw [hno] at h2; cases h2
    | row a e v c =>
      rw [hob] at hx
      rcases hm.row _ _ _ _ _ hx with h2 | ⟨_, _, _, h2, _⟩ <;> (rw [hno] at h2; cases h2)
  · exact h1
theorem TC.base {X : Ctx} {c : Code} {q : Exit → St → Prop} {st : St} (k : X.s0.H.length ≤ st.H.length → TC X c st q) : TC X c st q :=
  fun a w hi => k hi.base a w hi

/-- slots, variables and objects that nothing needs are forgotten -/
theorem Inv.trim {X : Ctx} {sl sl' : List (Nat × V)} {bx bx' : List (Nat × List M)} {H : Hp} {a : Act} {w : World} (n : Nat) (hb : X.s0.H.length ≤ n) (hn : n ≤ H.length) (hs : ∀ t v, get sl' t = some v → get sl t = some v ∧ VB n v)
    (hbx : ∀ t cs, get bx' t = some cs → get bx t = some cs ∧ ∀ m ∈ cs, MB n m) (hH : HB n (H.take n)) (h : Inv X ⟨sl, bx, H⟩ a w) : Inv X ⟨sl', bx', H.take n⟩ a w := by
  obtain ⟨σ, lam, rfl, hi⟩ := h
  have hHe : σ.H = H := hi.hH
  let O' : Nat → Nat → Prop := fun b o => Oof X.Oout lam bx' b o ∨ ∃ (i : Nat) (ob : Ob), (H.take n)[i]? = some ob ∧ σ.l i = b ∧ ob.owns o
  let τ : Sg := ⟨σ.w, O', σ.l, H.take n⟩
  have htk : ∀ (i : Nat) ob, (H.take n)[i]? = some ob → i < n ∧ σ.H[i]? = some ob := by
    intro i ob hi
    rw [List.getElem?_take] at hi
    split at hi
    · exact ⟨by assumption, by rw [hHe]; exact hi⟩
    · cases hi
  have htk2 : ∀ (i : Nat) ob, i < n → σ.H[i]? = some ob → (H.take n)[i]? = some ob := by
    intro i ob hi h
    rw [List.getElem?_take, if_pos hi, ← hHe]; exact h
  have hOof : ∀ b o, Oof X.Oout lam bx' b o → Oof X.Oout lam bx b o := by
    rintro b o (h | ⟨u, cs, h1, h2⟩)
    · exact .inl h
    · exact .inr ⟨u, cs, (hbx u cs h1).1, h2⟩
  have hO : ∀ b o, ¬ σ.O b o → ¬ τ.O b o := by
    intro b o h1 h2
    apply h1
    rw [hi.hinv.own]
    rcases h2 with h2 | ⟨i, ob, h2, h3, h4⟩
    · exact .inl (hOof b o h2)
    · exact .inr ⟨i, ob, (htk i ob h2).2, h3, h4⟩
  have hRM : ∀ m v, MB n m → RM σ m v → RM τ m v := by
    intro m v hm
    induction hm generalizing v with
    | d x => intro h; cases h with
      | d h => exact .d (h.mono fun b o v h1 h2 => ⟨h1, hO b o h2⟩)
    | ref i off hi => intro h; cases h with
      | ref i off cs h => exact .ref i off cs (htk2 i _ hi h)
    | rsl i ver len hi => intro h; cases h with
      | rsl i ver len a cap hle hcur =>
        refine .rsl i ver len a cap ?_ fun acc ec cs h => hcur acc ec cs (htk i _ h).2
        rcases hle with h | ⟨acc, ec, ver', cs, h, h2⟩
        · exact .inl (htk2 i _ hi h)
        · exact .inr ⟨acc, ec, ver', cs, htk2 i _ hi h, h2⟩
    | rref i ver off hi => intro h; cases h with
      | rref i ver off b hle hcur =>
        refine .rref i ver off b ?_ fun acc ec cs h => hcur acc ec cs (htk i _ h).2
        rcases hle with h | ⟨acc, ec, ver', cs, h, h2⟩
        · exact .inl (htk2 i _ hi h)
        · exact .inr ⟨acc, ec, ver', cs, htk2 i _ hi h, h2⟩
    | mp i hi => intro h; cases h with
      | mp i es h => exact .mp i es (htk2 i _ hi h)
    | agg cs hc ih => intro h; cases h with
      | agg cs vs hl hf h => exact .agg cs vs hl hf fun i m v h1 h2 => ih m (List.mem_of_getElem? h1) v (h i m v h1 h2)
    | fn f cs hc ih => intro h; cases h with
      | fn f cs vs hl h => exact .fn f cs vs hl fun i m v h1 h2 => ih m (List.mem_of_getElem? h1) v (h i m v h1 h2)
    | tup cs hc ih => intro h; cases h with
      | tup cs vs hl h => exact .tup cs vs hl fun i m v h1 h2 => ih m (List.mem_of_getElem? h1) v (h i m v h1 h2)
    | undef => intro h; exact .undef v
  have hob : ∀ (b : Nat) ob, ObB n ob → ObOk σ b ob → ObOk τ b ob := by
    intro b ob hb h1
    exact ObOk.down (σ := τ) (τ := σ) (ρ := fun i => i) (n := n) rfl (fun m v hm hv => hRM m v hm (by rw [renM_id] at hv; exact hv)) hb (by rw [renOb_id]; exact h1)
  have hlt : ∀ (i : Nat) ob, X.s0.H[i]? = some ob → i < n := fun i ob h => by have := lt_of_get h; omega
  have hmo := hi.mono
  refine ⟨τ, lam, rfl, rfl, hi.defers, hi.size, ?_, ?_, ?_, ?_, ?_, ?_, ?_, ?_⟩
  · intro t v hv
    obtain ⟨h1, h2⟩ := hs t v hv
    obtain ⟨u, h3, h4⟩ := hi.slot t v h1
    refine ⟨u, h3, ?_⟩
    cases h4 with
    | m h => exact .m (hRM _ _ h2 h)
    | loc t off => exact .loc t off
  · intro t cs ht
    obtain ⟨h1, h2⟩ := hbx t cs ht
    exact hob _ (.box cs) h2 (hi.box t cs h1)
  · intro t u cs ds ht hu
    exact hi.binj t u cs ds (hbx t cs ht).1 (hbx u ds hu).1
  · intro t cs ht
    exact hi.bsep t cs (hbx t cs ht).1
  · intro t cs ht
    exact hi.bnew t cs (hbx t cs ht).1
  · refine ⟨?_, ?_, fun b o => Iff.rfl, ?_, ?_⟩
    · intro i ob h1
      exact hob _ ob (hH ob (List.mem_of_getElem? h1)) (hi.hinv.obj i ob (htk i ob h1).2)
    · intro i j x y h1 h2
      exact hi.hinv.inj i j x y (htk i x h1).2 (htk j y h2).2
    · intro i ob h1 h2 o h3
      exact hi.hinv.sep i ob (htk i ob h1).2 h2 o (hOof _ _ h3)
    · exact fun b o h1 => hi.hinv.old b o (hOof b o h1)
  · refine ⟨?_, ?_, ?_, ?_, ?_, fun i hi => let ⟨ob, h1⟩ := hmo.has i _ hi; ⟨ob, htk2 i _ (hlt i _ hi) h1⟩⟩
    · intro b o v h1 h2
      have h3 := hmo.cell b o v h1 h2
      exact ⟨h3.1, hO b o h3.2⟩
    · intro i cs h
      obtain ⟨⟨cs', h1⟩, h2⟩ := hmo.box i cs h
      exact ⟨⟨cs', htk2 i _ (hlt i _ h) h1⟩, h2⟩
    · intro i cs h
      obtain ⟨⟨cs', h1⟩, h2⟩ := hmo.map i cs h
      exact ⟨⟨cs', htk2 i _ (hlt i _ h) h1⟩, h2⟩
    · intro i h
      exact htk2 i _ (hlt i _ h) (hmo.dead i h)
    · intro i acc ec ver cs h
      rcases hmo.row i acc ec ver cs h with h1 | ⟨acc', ver', cs', h1, h2, h3⟩
      · exact .inl (htk2 i _ (hlt i _ h) h1)
      · exact .inr ⟨acc', ver', cs', htk2 i _ (hlt i _ h) h1, h2, h3⟩
  · refine ⟨hi.blk.os, hi.blk.output, hi.blk.tape, hi.blk.size, hi.blk.blk, ?_⟩
    intro i ob h hl
    exact hi.blk.loc i ob (htk i ob h).2 hl

def keepsB (n : Nat) (sl : List (Nat × V)) : List (Nat × V) → Prop
  | [] => True
  | (t, v) :: r => (get sl t = some v ∧ VB n v) ∧ keepsB n sl r
theorem keepsB_get {n : Nat} {sl : List (Nat × V)} : ∀ {sl' : List (Nat × V)}, keepsB n sl sl' → ∀ t v, get sl' t = some v → get sl t = some v ∧ VB n v
  | [], _, t, v, h => by simp [get] at h
  | (k, x) :: r, hk, t, v, h => by
    rw [get_cons] at h
    by_cases e : k = t
    · rw [if_pos e] at h; injection h with h; subst h; subst e; exact hk.1
    · rw [if_neg e] at h; exact keepsB_get hk.2 t v h
/-- the end of a round, in which all that is not needed is forgotten -/
theorem againT {X : Ctx} {I : Nat → St → Prop} {k k' : Nat} {sl sl' : List (Nat × V)} {bx : List (Nat × List M)} {H H' : Hp} (n : Nat) (hb : X.s0.H.length ≤ n) (hn : n ≤ H.length) (hk : k' < k) (hI : I k' ⟨sl', [], H'⟩) (hT : H.take n = H') (hH : HB n H') (hs : keepsB n sl sl') :
    ∃ k' s'', k' < k ∧ I k' s'' ∧ ∀ a w, Inv X ⟨sl, bx, H⟩ a w → Inv X s'' a w :=
  ⟨k', _, hk, hI, fun _ _ hi => by subst hT; exact hi.trim n hb hn (keepsB_get hs) (by intro t cs h; simp [get] at h) hH⟩
theorem TC.trim {X : Ctx} {c : Code} {q : Exit → St → Prop} {sl sl' : List (Nat × V)} {bx : List (Nat × List M)} {H H' : Hp} (n : Nat) (hb : X.s0.H.length ≤ n) (hn : n ≤ H.length) (hT : H.take n = H') (hH : HB n H') (hs : keepsB n sl sl')
    (k : TC X c ⟨sl', [], H'⟩ q) : TC X c ⟨sl, bx, H⟩ q :=
  fun a w hi => k a w (by subst hT; exact hi.trim n hb hn (keepsB_get hs) (by intro t cs h; simp [get] at h) hH)

/-- a row that is not written any more -/
theorem Inv.freezeRow {X : Ctx} {sl : List (Nat × V)} {bx : List (Nat × List M)} {H : Hp} {a : Act} {w : World} {j ec ver : Nat} {cs : List M} (hH : H[j]? = some (.row false ec ver cs)) (h : Inv X ⟨sl, bx, H⟩ a w) :
    Inv X ⟨sl, bx, H.set j (.row true ec ver cs)⟩ a w := by
  obtain ⟨σ, lam, rfl, hi⟩ := h
  have hH' : σ.H[j]? = some (.row false ec ver cs) := by rw [hi.hH]; exact hH
  have hok := hi.hinv.obj j _ hH'
  obtain ⟨τ, g1, g2, g3, g4, g5⟩ := hi.updObj (j := j) (b' := σ.l j) (ob := .row false ec ver cs) (ob' := .row true ec ver cs) (w' := σ.w) hH trivial rfl rfl rfl (Nat.le_refl _)
    (fun c _ _ => rfl) (.inl rfl) (fun o v ho hc => absurd (Or.inl rfl) ho) ⟨rfl, .inr ⟨rfl, rfl, rfl, fun arr T h => ⟨arr, h, rfl⟩⟩⟩ (by
      intro τ hm hw' _ _
      obtain ⟨h0, arr, T, cap, n, h1, h2, h3, h4, h5⟩ := hok
      exact ⟨h0, arr, T, cap, n, by rw [hw']; exact h1, h2, h3, h4, fun i m v a b => ⟨(h5 i m v a b).1.mono hm, (h5 i m v a b).2⟩⟩)
  exact ⟨τ, lam, g1, g5⟩
theorem TC.freezeRow {X : Ctx} {c : Code} {q : Exit → St → Prop} {sl : List (Nat × V)} {bx : List (Nat × List M)} {H : Hp} (j : Nat) {ec ver : Nat} {cs : List M} (hH : H[j]? = some (.row false ec ver cs))
    (k : TC X c ⟨sl, bx, H.set j (.row true ec ver cs)⟩ q) : TC X c ⟨sl, bx, H⟩ q := fun a w hi => k a w (hi.freezeRow hH)

/-- cells of rows -/
theorem flatM_eq (rows : List (List D)) : flatM rows = (rows.flatten).map .d := by induction rows with
  | nil => rfl
  | cons r l ih => simp [flatM]
theorem flat_read {n : Nat} : ∀ {rows : List (List D)} {i off : Nat} {r : List D} {v : D}, (∀ r ∈ rows, r.length = n) → rows[i]? = some r → r[off]? = some v → (flatM rows)[i * n + off]? = some (.d v)
  | [], i, off, r, v, hl, hi, hv => by simp at hi
  | q :: rs, 0, off, r, v, hl, hi, hv => by
    simp at hi; subst hi
    have hlt : off < q.length := by rcases Nat.lt_or_ge off q.length with h | h; exact h; simp [List.getElem?_eq_none h] at hv
    rw [flatM_eq, List.flatten_cons, List.map_append, Nat.zero_mul, Nat.zero_add, List.getElem?_append_left (by simpa using hlt)]
    simp [hv]
  | q :: rs, i + 1, off, r, v, hl, hi, hv => by
    simp at hi
    have := flat_read (rows := rs) (fun r hr => hl r (List.mem_cons_of_mem _ hr)) hi hv
    have hq : q.length = n := hl q (by simp)
    have e : (i + 1) * n + off = q.length + (i * n + off) := by rw [hq, Nat.succ_mul]; omega
    rw [e, flatM_eq, List.flatten_cons, List.map_append, List.getElem?_append_right (by simp)]
    rw [flatM_eq] at this
    simpa using this
theorem flat_sub {n : Nat} : ∀ {rows : List (List D)} {i : Nat} {r : List D}, (∀ r ∈ rows, r.length = n) → rows[i]? = some r → ((flatM rows).drop (i * n)).take n = r.map .d
  | [], i, r, hl, hi => by simp at hi
  | q :: rs, 0, r, hl, hi => by
    simp at hi; subst hi
    have hq : q.length = n := hl q (by simp)
    rw [flatM_eq]
    simp [← hq]
  | q :: rs, i + 1, r, hl, hi => by
    simp at hi
    have := flat_sub (rows := rs) (fun r hr => hl r (List.mem_cons_of_mem _ hr)) hi
    have hq : q.length = n := hl q (by simp)
    have e : (i + 1) * n = (q.map M.d).length + i * n := by rw [List.length_map, hq, Nat.succ_mul]; omega
    rw [flatM_eq, List.flatten_cons, List.map_append, e, ← List.drop_drop, List.drop_left]
    rw [flatM_eq] at this
    exact this
theorem allD_map (r : List D) : allD (r.map .d) = some r := by induction r with
  | nil => rfl
  | cons a r ih => simp [allD, ih]
theorem flat_length {n : Nat} {rows : List (List D)} (hl : ∀ r ∈ rows, r.length = n) : (flatM rows).length = rows.length * n := flatM_length hl
theorem flat_le {n : Nat} {rows : List (List D)} {i : Nat} {r : List D} (hl : ∀ r ∈ rows, r.length = n) (hi : rows[i]? = some r) : i * n + n ≤ (flatM rows).length := by
  rw [flat_length hl]
  have : i < rows.length := by rcases Nat.lt_or_ge i rows.length with h | h; exact h; simp [List.getElem?_eq_none h] at hi
  have h2 := Nat.mul_le_mul_right n (show i + 1 ≤ rows.length from this)
  rw [Nat.succ_mul] at h2
  exact h2
theorem flat_write {n : Nat} : ∀ {rows : List (List D)} {i off : Nat} {r : List D} (v : D), (∀ r ∈ rows, r.length = n) → rows[i]? = some r → off < n → writeAt (flatM rows) (i * n + off) [.d v] = some (flatM (rows.set i (r.set off v)))
  | rows, i, off, r, v, hl, hi, ho => by
    have hle := flat_le hl hi
    have hb : Nat.ble (i * n + off + [M.d v].length) (flatM rows).length = true := Nat.ble_eq_true_of_le (by simp; omega)
    rw [writeAt, hb, cond_true]
    congr 1
    have hrn : r.length = n := hl r (List.mem_of_getElem? hi)
    have hset : (flatM rows).take (i * n + off) ++ [M.d v] ++ (flatM rows).drop (i * n + off + [M.d v].length) = (flatM rows).set (i * n + off) (.d v) := by
      rw [List.set_eq_take_append_cons_drop, if_pos (by omega)]; simp
    rw [hset]
    clear hset hb hle
    induction rows generalizing i with
    | nil => simp at hi
    | cons q rs ih =>
      have hq : q.length = n := hl q (by simp)
      cases i with
      | zero =>
        simp at hi; subst hi
        simp only [List.set_cons_zero, flatM_eq, List.flatten_cons, List.map_append]
        rw [List.set_append_left _ _ (by simp; omega)]
        simp [List.map_set]
      | succ i =>
        simp at hi
        have := ih i (fun r hr => hl r (List.mem_cons_of_mem _ hr)) hi
        simp only [List.set_cons_succ, flatM_eq, List.flatten_cons, List.map_append] at this ⊢
        rw [List.set_append_right _ _ (by simp; rw [hq, Nat.succ_mul]; omega), ← this]
        congr 2
        simp
        rw [hq, Nat.succ_mul]; omega
end Go.Mt
