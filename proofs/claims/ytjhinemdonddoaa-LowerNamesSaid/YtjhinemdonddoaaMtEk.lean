import Derived.Test.YtjhinemdonddoaaMtEj
set_option linter.unusedVariables false
set_option linter.unusedSimpArgs false
namespace Go.Mt

section
variable {X : Ctx} {ops : Array Oper} {C : Cfg}

theorem looks_op {o : Oper} {x : Operand} {t : Nat} (hx : x ∈ o.op.operands.toList) (ht : x = .tmp t) : t ∈ o.looksAt ops := by
  unfold Oper.looksAt
  refine List.mem_append.2 (.inl ?_)
  rw [List.mem_filterMap]
  exact ⟨x, hx, by subst ht; rfl⟩

theorem Ag.ev2 {N : Nat} {o : Oper} {e : Fine.Ef} {st st2 : St} (h : Fine.Ag N ops o e st st2) {x : Operand} (hx : x ∈ o.op.operands.toList) : st2.ev x = evs st.sl x := by
  cases x with
  | tmp t => exact h.sl t (looks_op hx rfl)
  | _ => rfl

theorem Ag.wants2 {N : Nat} {o : Oper} {e : Fine.Ef} {st st2 : St} {b : Bool} (h : Fine.Ag N ops o e st st2) (hw : wantsE ops o st.sl = some b) : wants ops o st2 = some b := by
  have hw' := wantsE_eq hw
  rw [← hw']
  unfold wants
  cases hg : o.guard with
  | none => rfl
  | some jw =>
    obtain ⟨j, want⟩ := jw
    dsimp only
    cases hgg : (ops[j]?).bind (·.dst) with
    | none => rfl
    | some gg =>
      dsimp only
      have : get st2.sl gg = get st.sl gg := by
        refine h.sl gg ?_
        unfold Oper.looksAt
        refine List.mem_append.2 (.inr ?_)
        simp [hg, hgg]
      rw [this]

theorem OpS.weak {o : Oper} {st s s' : St} (h : OpS X ops o st s) (hw : ∀ a w, Inv X s a w → Inv X s' a w) : OpS X ops o st s' :=
  fun a w hi K Q hK => h a w hi K Q fun a' w' hi' => hK a' w' (hw a' w' hi')

theorem get_clear {d : Nat} : ∀ {l : List (Nat × V)} {t : Nat} {v : V}, get l t = some v → (∀ o, v ≠ .loc d o) → get (clearLoc d l) t = some v := by
  intro l
  induction l with
  | nil => intro t v h; simp [get] at h
  | cons p l ih =>
    intro t v h hv
    obtain ⟨k, u⟩ := p
    rw [get_cons] at h
    cases u with
    | m m =>
      simp only [clearLoc]
      rw [get_cons]
      by_cases e : k = t
      · rw [if_pos e] at h ⊢; exact h
      · rw [if_neg e] at h ⊢; exact ih h hv
    | loc u oo =>
      simp only [clearLoc]
      by_cases e : k = t
      · rw [if_pos e] at h
        injection h with h; subst h
        have hne : Nat.beq u d = false := by
          rw [← Bool.not_eq_true]; intro hb
          exact hv oo (by rw [Nat.eq_of_beq_eq_true hb])
        simp only [hne, cond_false]
        rw [get_cons, if_pos e]
      · rw [if_neg e] at h
        have := ih h hv
        cases hb : Nat.beq u d <;> simp only [cond_true, cond_false] <;> rw [get_cons, if_neg e] <;> exact this

theorem app_val {N : Nat} {d : Option Nat} {v : V} {rb : List Nat} {rh : Fine.Rh} {st : St} (h : N ≤ st.H.length) : Fine.Ef.app N ⟨d, v, rb, [], none, rh, [], none⟩ st = putv d v st := by
  unfold Fine.Ef.app putv
  simp only [List.nil_append, front_nil h]
  cases d <;> rfl

theorem ix_get {N : Nat} {H H2 : Hp} {i : Nat} {ob : Ob} (hH : H[i]? = some ob) (hi : i < N) (hl : N ≤ H2.length) (he : H2.getD i .dead = H.getD i .dead) : H2[i]? = some ob := by
  have h2 : i < H2.length := by omega
  rw [List.getD_eq_getElem?_getD, List.getD_eq_getElem?_getD, hH, List.getElem?_eq_getElem h2] at he
  rw [List.getElem?_eq_getElem h2]
  simpa using he

theorem all_eq {N : Nat} {H H2 : Hp} (hl : N ≤ H.length) (hl2 : N ≤ H2.length) (h : (∀ i, i < N → H2.getD i .dead = H.getD i .dead) ∧ H2.drop N = H.drop N) : H2 = H := Fine.hp_ext hl2 hl h.1 h.2

theorem set_tail {N i : Nat} {H : Hp} {ob : Ob} (h : N ≤ H.length) (hi : N ≤ i) : Fine.front N H [] ++ (H.set i ob).drop N = H.set i ob := by
  refine Fine.hp_ext (N := N) (by simp [Fine.front_length]) (by simp; exact h) ?_ (Fine.front_drop _ _ _ _)
  intro j hj
  rw [Fine.front_get _ _ _ _ _ hj]
  have : get ([] : List (Nat × Ob)) j = none := rfl
  rw [this, List.getD_eq_getElem?_getD, List.getD_eq_getElem?_getD, List.getElem?_set_ne (by omega)]

theorem get_filterMap {H' : Hp} {N : Nat} : ∀ {us : List Nat} {i : Nat}, get (us.filterMap (fun i => bif Nat.blt i N then (match H'[i]? with | some ob => some (i, ob) | none => none) else none)) i = if i ∈ us ∧ i < N then H'[i]? else none
  | [], i => by simp [get]
  | u :: r, i => by
    have ih := get_filterMap (H' := H') (N := N) (us := r) (i := i)
    rw [List.filterMap_cons]
    cases hb : Nat.blt u N with
    | false =>
      simp only [cond_false]
      rw [ih]
      have hu : ¬ u < N := by intro h; rw [← Nat.blt_eq] at h; rw [h] at hb; cases hb
      by_cases e : i = u
      · subst e; simp [hu]
      · simp [e]
    | true =>
      have hu := blt_lt hb
      cases hH : H'[u]? with
      | none =>
        simp only [cond_true, hH]
        rw [ih]
        by_cases e : i = u
        · subst e; simp [hH]
        · simp [e]
      | some ob =>
        simp only [cond_true, hH]
        rw [get_cons]
        by_cases e : u = i
        · subst e; simp [hH, hu]
        · rw [if_neg e, ih]
          have : ¬ i = u := fun h => e h.symm
          simp [this]

theorem call_front {N : Nat} {H H' : Hp} {us : List Nat} (hN : N ≤ H.length) (hf : Frm H H' us) :
    Fine.front N H (us.filterMap (fun i => bif Nat.blt i N then (match H'[i]? with | some ob => some (i, ob) | none => none) else none)) ++ H'.drop N = H' := by
  refine Fine.hp_ext (N := N) (by simp [Fine.front_length]) (Nat.le_trans hN hf.1) ?_ (Fine.front_drop _ _ _ _)
  intro j hj
  rw [Fine.front_get _ _ _ _ _ hj, get_filterMap]
  have hjl : j < H'.length := by have := hf.1; omega
  by_cases hu : j ∈ us
  · simp [hu, hj, List.getD_eq_getElem?_getD, List.getElem?_eq_getElem hjl]
  · have := hf.2 j (by omega) hu
    simp [hu, List.getD_eq_getElem?_getD, this]

theorem efD_ok {N k k' : Nat} {o : Oper} {st s : St} {dn : Dn} {e : Fine.Ef} (hN : N ≤ st.H.length) (ha : ∀ st2, (∀ x ∈ o.op.operands.toList, st2.ev x = evs st.sl x) → OpA X o st2 dn) (h : efD o.dst N k st dn = .ok (e, s, k')) :
    e.d = o.dst ∧ putv o.dst e.v s = e.app N st ∧ N ≤ s.H.length ∧ ∀ st2, Fine.Ag N ops o e st st2 → wants ops o st2 = some true → (∀ t, o.dst = some t → t < X.n) → OpS X ops o st2 (e.app N st2) := by
  have fin : ∀ (e : Fine.Ef) (st2 s2 : St), OpT X o st2 (eqp e.v s2) → putv o.dst e.v s2 = e.app N st2 → wants ops o st2 = some true → (∀ t, o.dst = some t → t < X.n) → OpS X ops o st2 (e.app N st2) := by
    intro e st2 s2 h1 h2 h3 h4
    rw [← h2]
    exact opS_of h3 h4 h1
  unfold efD at h
  cases dn with
  | val w =>
    simp only at h; injection h with h; injection h with e1 e2; injection e2 with e2 e3; subst e1; subst e2; subst e3
    exact ⟨rfl, (app_val hN).symm, hN, fun st2 ag => fin _ st2 st2 (ha st2 (fun x hx => Ag.ev2 ag hx)) (app_val ag.len).symm⟩
  | ld t f =>
    simp only at h
    split at h
    · rename_i cs hb
      split at h
      · rename_i w hk
        injection h with h; injection h with e1 e2; injection e2 with e2 e3; subst e1; subst e2; subst e3
        exact ⟨rfl, (app_val hN).symm, hN, fun st2 ag => fin _ st2 st2 (ha st2 (fun x hx => Ag.ev2 ag hx) cs w (by rw [ag.bx t (by simp)]; exact hb) hk) (app_val ag.len).symm⟩
      · cases h
    · cases h
  | st t f =>
    simp only at h
    split at h
    · rename_i cs hb
      split at h
      · rename_i cs' hk
        injection h with h; injection h with e1 e2; injection e2 with e2 e3; subst e1; subst e2; subst e3
        have key : ∀ z : St, N ≤ z.H.length → putv o.dst (.m .undef) ⟨z.sl, (t, cs') :: z.bx, z.H⟩ = Fine.Ef.app N ⟨o.dst, .m .undef, [], [(t, cs')], none, .no, [], none⟩ z := by
          intro z hz
          unfold Fine.Ef.app putv
          simp only [front_nil hz]
          cases o.dst <;> rfl
        exact ⟨rfl, key st hN, hN, fun st2 ag => fin _ st2 _ (ha st2 (fun x hx => Ag.ev2 ag hx) cs cs' (by rw [ag.bx t (by simp)]; exact hb) hk) (key st2 ag.len)⟩
      · cases h
    · cases h
  | nw cs =>
    simp only at h
    split at h
    · rename_i dd hd
      injection h with h; injection h with e1 e2; injection e2 with e2 e3; subst e1; subst e2; subst e3
      have key : ∀ z : St, N ≤ z.H.length → putv o.dst (.loc dd 0) ⟨z.sl, (dd, cs) :: z.bx, z.H⟩ = Fine.Ef.app N ⟨o.dst, .loc dd 0, [], [(dd, cs)], some dd, .no, [], none⟩ z := by
        intro z hz
        unfold Fine.Ef.app putv
        simp only [front_nil hz]
        cases o.dst <;> rfl
      refine ⟨rfl, key st hN, hN, fun st2 ag hw hdn => ?_⟩
      have h1 := opS_of hw hdn (ha st2 (fun x hx => Ag.ev2 ag hx) dd hd)
      refine OpS.weak h1 fun a w hi => ?_
      rw [← key st2 ag.len]
      unfold putv at hi ⊢
      rw [hd] at hi ⊢
      refine Inv.weak hi (fun t v hv => ?_) (fun _ => rfl)
      rw [get_cons] at hv ⊢
      by_cases e : dd = t
      · rw [if_pos e] at hv ⊢; exact hv
      · rw [if_neg e] at hv ⊢
        exact get_clear hv fun oo h => ag.nw dd rfl t oo (by rw [hv, h])
    · cases h
  | rd i f =>
    simp only at h
    split at h
    · rename_i ob hH
      split at h
      · rename_i w hk
        injection h with h; injection h with e1 e2; injection e2 with e2 e3; subst e1; subst e2; subst e3
        refine ⟨rfl, (app_val hN).symm, hN, fun st2 ag => fin _ st2 st2 (ha st2 (fun x hx => Ag.ev2 ag hx) ob w ?_ hk) (app_val ag.len).symm⟩
        cases hb : Nat.blt i N with
        | true =>
          have := ag.ix [i] (by simp [hb]) i (by simp)
          exact ix_get hH (blt_lt hb) ag.len this
        | false =>
          have := ag.all (by simp [hb])
          rw [all_eq hN ag.len this]; exact hH
      · cases h
    · cases h
  | rda f =>
    simp only at h
    split at h
    · rename_i w hk
      injection h with h; injection h with e1 e2; injection e2 with e2 e3; subst e1; subst e2; subst e3
      refine ⟨rfl, (app_val hN).symm, hN, fun st2 ag => fin _ st2 st2 (ha st2 (fun x hx => Ag.ev2 ag hx) w ?_) (app_val ag.len).symm⟩
      have := ag.all rfl
      rw [all_eq hN ag.len this]; exact hk
    · cases h
  | up all i f =>
    simp only at h
    split at h
    · rename_i ob hH
      split at h
      · rename_i w ob' hk
        cases hb : Nat.blt i N with
        | true =>
          simp only [hb, cond_true] at h
          injection h with h; injection h with e1 e2; injection e2 with e2 e3; subst e1; subst e2; subst e3
          have key : ∀ (rh : Fine.Rh) (z : St), N ≤ z.H.length → putv o.dst w ⟨z.sl, z.bx, z.H.set i ob'⟩ = Fine.Ef.app N ⟨o.dst, w, [], [], none, rh, [(i, ob')], none⟩ z := by
            intro rh z hz
            unfold Fine.Ef.app putv
            simp only [front_set hz (blt_lt hb)]
            cases o.dst <;> rfl
          refine ⟨rfl, key _ st hN, by simpa using hN, fun st2 ag => fin _ st2 ⟨st2.sl, st2.bx, st2.H.set i ob'⟩ ?_ (key _ st2 ag.len)⟩
          cases all with
          | true =>
            have := all_eq hN ag.len (ag.all rfl)
            exact ha st2 (fun x hx => Ag.ev2 ag hx) ob w ob' (by rw [this]; exact hH) (by rw [this]; exact hk)
          | false =>
            have := ag.ix [i] rfl i (by simp)
            exact ha st2 (fun x hx => Ag.ev2 ag hx) ob w ob' (ix_get hH (blt_lt hb) ag.len this) hk
        | false =>
          simp only [hb, cond_false] at h
          injection h with h; injection h with e1 e2; injection e2 with e2 e3; subst e1; subst e2; subst e3
          have hi : N ≤ i := by rcases Nat.lt_or_ge i N with h | h; rw [← Nat.blt_eq] at h; rw [h] at hb; cases hb; exact h
          have key : ∀ z : St, z.H = st.H → putv o.dst w ⟨z.sl, z.bx, z.H.set i ob'⟩ = Fine.Ef.app N ⟨o.dst, w, [], [], none, .all, [], some ((st.H.set i ob').drop N)⟩ z := by
            intro z hz
            unfold Fine.Ef.app putv
            simp only [hz, set_tail hN hi]
            cases o.dst <;> rfl
          refine ⟨rfl, key st rfl, by simpa using hN, fun st2 ag => fin _ st2 ⟨st2.sl, st2.bx, st2.H.set i ob'⟩ ?_ ?_⟩
          · have := all_eq hN ag.len (ag.all rfl)
            exact ha st2 (fun x hx => Ag.ev2 ag hx) ob w ob' (by rw [this]; exact hH) (by rw [this]; exact hk)
          · exact key st2 (all_eq hN ag.len (ag.all rfl))
      · cases h
    · cases h
  | al all f mk =>
    simp only at h
    split at h
    · rename_i ob hk
      split at h
      · rename_i hH
        replace h := bif_ok h; obtain ⟨hb, h⟩ := h
        injection h with h; injection h with e1 e2; injection e2 with e2 e3; subst e1; subst e2; subst e3
        have key : ∀ (rh : Fine.Rh) (z : St), N ≤ z.H.length → putv o.dst (mk k) ⟨z.sl, z.bx, z.H.set k ob⟩ = Fine.Ef.app N ⟨o.dst, mk k, [], [], none, rh, [(k, ob)], none⟩ z := by
          intro rh z hz
          unfold Fine.Ef.app putv
          simp only [front_set hz (blt_lt hb)]
          cases o.dst <;> rfl
        refine ⟨rfl, key _ st hN, by simpa using hN, fun st2 ag => fin _ st2 ⟨st2.sl, st2.bx, st2.H.set k ob⟩ ?_ (key _ st2 ag.len)⟩
        cases all with
        | true =>
          have := all_eq hN ag.len (ag.all rfl)
          exact ha st2 (fun x hx => Ag.ev2 ag hx) ob k _ (by rw [this]; exact hk) (.inr ⟨by rw [this]; exact hH, rfl⟩)
        | false =>
          have := ag.ix [k] rfl k (by simp)
          exact ha st2 (fun x hx => Ag.ev2 ag hx) ob k _ hk (.inr ⟨ix_get hH (blt_lt hb) ag.len this, rfl⟩)
      · cases h
    · cases h
  | cl f =>
    simp only at h
    split at h
    · rename_i w H' us0 hk
      injection h with h; injection h with e1 e2; injection e2 with e2 e3; subst e1; subst e2; subst e3
      obtain ⟨h1, h2⟩ := ha st (fun x hx => rfl) w H' us0 hk
      have key : ∀ z : St, z.H = st.H → putv o.dst w ⟨z.sl, z.bx, H'⟩ = Fine.Ef.app N ⟨o.dst, w, [], [], none, .all, us0.filterMap (fun i => bif Nat.blt i N then (match H'[i]? with | some ob => some (i, ob) | none => none) else none), some (H'.drop N)⟩ z := by
        intro z hz
        unfold Fine.Ef.app putv
        simp only [hz, call_front hN h2]
        cases o.dst <;> rfl
      refine ⟨rfl, key st rfl, Nat.le_trans hN h2.1, fun st2 ag => fin _ st2 ⟨st2.sl, st2.bx, H'⟩ ?_ ?_⟩
      · have := all_eq hN ag.len (ag.all rfl)
        exact (ha st2 (fun x hx => Ag.ev2 ag hx) w H' us0 (by rw [this]; exact hk)).1
      · exact key st2 (all_eq hN ag.len (ag.all rfl))
    · cases h
end
end Go.Mt
