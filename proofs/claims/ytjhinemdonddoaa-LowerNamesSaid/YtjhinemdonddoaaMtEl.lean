import Derived.Test.YtjhinemdonddoaaMtEk
set_option linter.unusedVariables false
set_option linter.unusedSimpArgs false
namespace Go.Mt

section
variable {X : Ctx} {C : Cfg}

/-- which objects an effect leaves -/
theorem app_frame {B N : Nat} {H0 : Hp} {e : Fine.Ef} {st : St} {ws : List Nat} (hBN : B ≤ N) (h : FrB B H0 st.H ws) : FrB B H0 (e.app N st).H (efW B e ws) := by
  have htl : ∃ tl, (e.app N st).H = Fine.front N st.H e.wh ++ tl := ⟨_, rfl⟩
  obtain ⟨tl, htl⟩ := htl
  rw [htl]
  unfold efW
  refine ⟨by simp [Fine.front_length]; omega, fun i hi hn => ?_⟩
  have hiN : i < N := by omega
  have hnw : i ∉ e.wh.map (·.1) := fun hm => hn (new_addWs hi hm)
  have hnws : i ∉ ws := fun hm => hn (mem_addWs hm)
  have hg := Fine.front_get N st.H e.wh tl i hiN
  have hgn : get e.wh i = none := by
    have := get_some_iff e.wh i
    cases hq : get e.wh i with
    | none => rfl
    | some v =>
      rw [hq] at this
      exact absurd (has_iff.1 this.symm) hnw
  rw [hgn] at hg
  dsimp only at hg
  have hl1 : i < (Fine.front N st.H e.wh ++ tl).length := by rw [List.length_append, Fine.front_length]; omega
  have hl2 : i < st.H.length := by have := h.1; omega
  rw [List.getD_eq_getElem?_getD, List.getD_eq_getElem?_getD, List.getElem?_eq_getElem hl1, List.getElem?_eq_getElem hl2] at hg
  have h2 := h.2 i hi hnws
  rw [List.getElem?_eq_getElem hl2] at h2
  rw [List.getElem?_eq_getElem hl1, ← h2]
  simpa using hg

theorem evOpD_ok {ops : Array Oper} (hC : CfgOk C) (hP : C.P = X.P) {N k k' : Nat} {o : Oper} {st s : St} {e : Fine.Ef} (hN : N ≤ st.H.length) (h : evOpD C X.n N ops o st k = .ok (e, s, k')) :
    s = e.app N st ∧ e.d = o.dst ∧ N ≤ s.H.length ∧ Fine.StepF N X ops o e st := by
  unfold evOpD at h
  split at h
  · rename_i hw
    split at h
    · rename_i dn hdn
      split at h
      · rename_i e1 s1 k1 hs
        split at h
        · rename_i s2 hp
          injection h with h; injection h with e1 e2; injection e2 with e2 e3; subst e1; subst e2; subst e3
          obtain ⟨rfl, hd⟩ := putS_ok hp
          obtain ⟨dst, op, ty, pos, af, g⟩ := o
          obtain ⟨h1, h2, h3, h4⟩ := efD_ok (X := X) (ops := ops) hN (fun st2 hev => den_sound hC hP hev hdn) hs
          refine ⟨h2, h1, ?_, fun st2 ag => h4 st2 ag (Ag.wants2 ag hw) hd⟩
          unfold putv
          cases dst <;> exact h3
        · cases h
      · cases h
    · cases h
  · rename_i hw
    split at h
    · rename_i s2 hp
      injection h with h; injection h with e1 e2; injection e2 with e2 e3; subst e1; subst e2; subst e3
      obtain ⟨rfl, hd⟩ := putS_ok hp
      refine ⟨(app_val hN).symm, rfl, ?_, fun st2 ag => ?_⟩
      · unfold putv
        cases o.dst <;> exact hN
      · rw [app_val ag.len]
        exact opS_skip (Ag.wants2 ag hw) hd
    · cases h
  · cases h

theorem evDraw_ok {ops : Array Oper} (hC : CfgOk C) (hP : C.P = X.P) {N B : Nat} (hBN : B ≤ N) : ∀ {l : List Oper} {i k : Nat} {st s : St} {es : List Fine.Ef}, N ≤ st.H.length → evDraw C X.n N ops i l st k = .ok (es, s) →
    Fine.RunF N X ops l st es s ∧ ∀ H0 ws, FrB B H0 st.H ws → FrB B H0 s.H (es.foldl (fun us e => efW B e us) ws)
  | [], i, k, st, s, es, hN, h => by
    simp only [evDraw] at h
    injection h with h; injection h with e1 e2; subst e1; subst e2
    exact ⟨.nil st, fun _ _ h => h⟩
  | o :: r, i, k, st, s, es, hN, h => by
    simp only [evDraw] at h
    split at h
    · rename_i e s1 k1 h1
      split at h
      · rename_i es2 s2 h2
        injection h with h; injection h with e1 e2; subst e1; subst e2
        obtain ⟨h3, h4, h5, h6⟩ := evOpD_ok hC hP hN h1
        obtain ⟨h7, h8⟩ := evDraw_ok hC hP hBN h5 h2
        subst h3
        refine ⟨.cons h6 h4 h7, fun H0 ws hf => ?_⟩
        exact h8 H0 _ (app_frame hBN hf)
      · cases h
    · cases h

def toExit : Ex → Exit
  | .nrm => .normal
  | .exit id => .exit id
  | .ret => .ret

theorem fresh_get {sl : List (Nat × V)} : ∀ {ks acc : List (Nat × V)}, (∀ t v, get acc t = some v → get sl t = some v) → ∀ t v, get (fresh sl ks acc) t = some v → get sl t = some v
  | [], acc, h, t, v, hv => h t v hv
  | (k, u) :: r, acc, h, t, v, hv => by
    simp only [fresh] at hv
    split at hv
    · exact fresh_get h t v hv
    · split at hv
      · rename_i w hw
        refine fresh_get (ks := r) (acc := (k, w) :: acc) ?_ t v hv
        intro t' v' h'
        rw [get_cons] at h'
        by_cases e : k = t'
        · rw [if_pos e] at h'; injection h' with h'; subst h'; subst e; exact hw
        · rw [if_neg e] at h'; exact h t' v' h'
      · exact fresh_get h t v hv

theorem freshB_get {bx : List (Nat × List M)} : ∀ {ks acc : List (Nat × List M)}, (∀ t v, get acc t = some v → get bx t = some v) → ∀ t, (get acc t ≠ none ∨ get ks t ≠ none ∨ get bx t = none) → get (freshB bx ks acc) t = get bx t
  | [], acc, h, t, ht => by
    simp only [freshB]
    cases hq : get acc t with
    | some v => exact (h t v hq).symm
    | none =>
      rcases ht with ht | ht | ht
      · exact absurd hq ht
      · simp [get] at ht
      · exact ht.symm
  | (k, u) :: r, acc, h, t, ht => by
    simp only [freshB]
    split
    · rename_i w hw
      refine freshB_get h t ?_
      rcases ht with ht | ht | ht
      · exact .inl ht
      · rw [get_cons] at ht
        by_cases e : k = t
        · subst e; left; rw [hw]; simp
        · rw [if_neg e] at ht; exact .inr (.inl ht)
      · exact .inr (.inr ht)
    · rename_i hn
      split
      · rename_i w hw
        refine freshB_get (ks := r) (acc := (k, w) :: acc) ?_ t ?_
        · intro t' v' h'
          rw [get_cons] at h'
          by_cases e : k = t'
          · rw [if_pos e] at h'; injection h' with h'; subst h'; subst e; exact hw
          · rw [if_neg e] at h'; exact h t' v' h'
        · by_cases e : k = t
          · left; rw [get_cons, if_pos e]; simp
          · rcases ht with ht | ht | ht
            · left; rw [get_cons, if_neg e]; exact ht
            · rw [get_cons, if_neg e] at ht; exact .inr (.inl ht)
            · exact .inr (.inr ht)
      · rename_i hw
        refine freshB_get h t ?_
        rcases ht with ht | ht | ht
        · exact .inl ht
        · rw [get_cons] at ht
          by_cases e : k = t
          · subst e; exact .inr (.inr hw)
          · rw [if_neg e] at ht; exact .inr (.inl ht)
        · exact .inr (.inr ht)
theorem freshB_all (bx : List (Nat × List M)) (t : Nat) : get (freshB bx bx []) t = get bx t := by
  refine freshB_get (by intro t v h; simp [get] at h) t ?_
  cases h : get bx t with
  | none => exact .inr (.inr rfl)
  | some v => right; left; simp

theorem Inv.fresh {ks : List (Nat × V)} {s : St} {a : Act} {w : World} (h : Inv X s a w) : Inv X ⟨Go.Mt.fresh s.sl ks [], freshB s.bx s.bx [], s.H⟩ a w :=
  Inv.weak h (fun t v hv => fresh_get (by intro t v h; simp [get] at h) t v hv) (freshB_all s.bx)

/-- what a piece of code does, as the reckoner says -/
def CodeOk (X : Ctx) (B : Nat) (c : Code) (f : St → List Nat → R (Ex × St × List Nat)) : Prop :=
  ∀ st ws ex s us, f st ws = .ok (ex, s, us) → (∀ post : Exit → St → Prop, post (toExit ex) s → TC X c st post) ∧ ∀ H0, FrB B H0 st.H ws → FrB B H0 s.H us

theorem iter_ok {B : Nat} {c : Code} {f : St → List Nat → R (Ex × St × List Nat)} (hf : CodeOk X B c f) (ks : List (Nat × V)) (n : Nat) : CodeOk X B (.loop c) fun st ws => iter f ks n st ws := by
  intro st ws ex s us h
  dsimp only at h
  constructor
  · intro post hp
    refine TC.loop' (fun k z => ∃ vs, iter f ks k z vs = .ok (ex, s, us)) n st ⟨ws, h⟩ (fun _ _ h => h) ?_
    rintro k z ⟨vs, hz⟩
    cases k with
    | zero => simp [iter] at hz
    | succ k =>
      simp only [iter] at hz
      split at hz
      · rename_i s1 us1 h1
        refine (hf _ _ _ _ _ h1).1 _ ?_
        exact ⟨k, _, Nat.lt_succ_self k, ⟨us1, hz⟩, fun a w hi => Inv.fresh hi⟩
      · rename_i e1 s1 us1 hne h1
        injection hz with hz; injection hz with e1 e2; injection e2 with e2 e3; subst e1; subst e2; subst e3
        refine (hf _ _ _ _ _ h1).1 _ ?_
        rename Ex => exx
        cases exx with
        | nrm => exact absurd rfl hne
        | exit id => exact hp
        | ret => exact hp
      · cases hz
  · intro H0 hF
    have key : ∀ n st ws, iter f ks n st ws = .ok (ex, s, us) → FrB B H0 st.H ws → FrB B H0 s.H us := by
      intro n
      induction n with
      | zero => intro st ws h; simp [iter] at h
      | succ n ih =>
        intro st ws h hF
        simp only [iter] at h
        split at h
        · rename_i s1 us1 h1
          exact ih _ _ h ((hf _ _ _ _ _ h1).2 H0 hF)
        · rename_i e1 s1 us1 hne h1
          injection h with h; injection h with e1 e2; injection e2 with e2 e3; subst e1; subst e2; subst e3
          exact (hf _ _ _ _ _ h1).2 H0 hF
        · cases h
    exact key n st ws h hF

theorem evC_ok (hC : CfgOk C) (hP : C.P = X.P) {B rounds : Nat} : ∀ (c : Code), CodeOk X B c (evC C X.n B rounds c) := by
  intro c
  induction c with
  | skip =>
    intro st ws ex s us h
    simp only [evC] at h
    injection h with h; injection h with e1 e2; injection e2 with e2 e3; subst e1; subst e2; subst e3
    exact ⟨fun post hp => TC.skip hp, fun _ h => h⟩
  | region id ops draw =>
    intro st ws ex s us h
    cases draw with
    | false =>
      simp only [evC] at h
      split at h
      · rename_i s1 us1 h1
        injection h with h; injection h with e1 e2; injection e2 with e2 e3; subst e1; subst e2; subst e3
        obtain ⟨h2, h3⟩ := evOps_ok hC hP h1
        exact ⟨fun post hp => TC.region (ops := ops.toList) (h2 _ hp), h3⟩
      · cases h
    | true =>
      simp only [evC] at h
      split at h
      · rename_i es s1 h1
        replace h := bif_ok h; obtain ⟨hc, h⟩ := h
        simp only [Bool.and_eq_true] at hc
        injection h with h; injection h with e1 e2; injection e2 with e2 e3; subst e1; subst e2; subst e3
        have hN : st.H.length + lays ops.toList ≤ (st.H ++ List.replicate (lays ops.toList) Ob.free).length := by simp
        constructor
        · intro post hp
          obtain ⟨h2, _⟩ := evDraw_ok (B := 0) hC hP (Nat.zero_le _) hN h1
          refine TC.pad (lays ops.toList) ?_
          exact Fine.draw (ops := ops.toList) (by rw [← hP]; exact hc.2) hN h2 hc.1 hp
        · intro H0 hF
          obtain ⟨_, h3⟩ := evDraw_ok (B := B) hC hP (by have := hF.1; omega) hN h1
          exact h3 H0 ws hF.app
      · cases h
  | seq a b iha ihb =>
    intro st ws ex s us h
    simp only [evC] at h
    split at h
    · rename_i s1 us1 h1
      obtain ⟨h2, h3⟩ := iha _ _ _ _ _ h1
      obtain ⟨h4, h5⟩ := ihb _ _ _ _ _ h
      exact ⟨fun post hp => TC.seq (h2 _ (h4 post hp)), fun H0 hF => h5 H0 (h3 H0 hF)⟩
    · rename_i e1 s1 us1 hne h1
      injection h with h; injection h with e1 e2; injection e2 with e2 e3; subst e1; subst e2; subst e3
      obtain ⟨h2, h3⟩ := iha _ _ _ _ _ h1
      refine ⟨fun post hp => TC.seq (h2 _ ?_), h3⟩
      rename Ex => exx
      cases exx with
      | nrm => exact absurd rfl hne
      | exit id => exact hp
      | ret => exact hp
    · cases h
  | cond c a b iha ihb =>
    intro st ws ex s us h
    simp only [evC] at h
    split at h
    · rename_i z hz
      cases z with
      | true =>
        simp only [cond_true] at h
        obtain ⟨h2, h3⟩ := iha _ _ _ _ _ h
        exact ⟨fun post hp => TC.cond (st := st) hz (fun _ => h2 post hp) (fun h => by cases h), h3⟩
      | false =>
        simp only [cond_false] at h
        obtain ⟨h2, h3⟩ := ihb _ _ _ _ _ h
        exact ⟨fun post hp => TC.cond (st := st) hz (fun h => by cases h) (fun _ => h2 post hp), h3⟩
    · cases h
  | block id a ih =>
    intro st ws ex s us h
    simp only [evC] at h
    split at h
    · rename_i i s1 us1 h1
      obtain ⟨h2, h3⟩ := ih _ _ _ _ _ h1
      cases hb : Nat.beq i id with
      | true =>
        rw [hb] at h
        simp only [cond_true] at h
        injection h with h; injection h with e1 e2; injection e2 with e2 e3; subst e1; subst e2; subst e3
        have := Nat.eq_of_beq_eq_true hb
        subst this
        exact ⟨fun post hp => TC.block (h2 _ (by simp only [toExit, inBlk, if_true]; exact hp)), h3⟩
      | false =>
        rw [hb] at h
        simp only [cond_false] at h
        injection h with h; injection h with e1 e2; injection e2 with e2 e3; subst e1; subst e2; subst e3
        have hne : ¬ i = id := by rintro rfl; simp at hb
        exact ⟨fun post hp => TC.block (h2 _ (by simp only [toExit, inBlk, if_neg hne]; exact hp)), h3⟩
    · rename_i e1 s1 us1 hne h1
      injection h with h; injection h with e1 e2; injection e2 with e2 e3; subst e1; subst e2; subst e3
      obtain ⟨h2, h3⟩ := ih _ _ _ _ _ h1
      refine ⟨fun post hp => TC.block (h2 _ ?_), h3⟩
      rename Ex => exx
      cases exx with
      | nrm => exact hp
      | exit id => exact absurd rfl (hne _)
      | ret => exact hp
    · cases h
  | loop a ih =>
    intro st ws ex s us h
    simp only [evC] at h
    obtain ⟨h2, h3⟩ := iter_ok ih st.sl rounds _ _ _ _ _ h
    refine ⟨fun post hp a w hi => h2 post hp a w (Inv.fresh hi), h3⟩
  | exit id =>
    intro st ws ex s us h
    simp only [evC] at h
    injection h with h; injection h with e1 e2; injection e2 with e2 e3; subst e1; subst e2; subst e3
    exact ⟨fun post hp => TC.exit hp, fun _ h => h⟩
  | ret =>
    intro st ws ex s us h
    simp only [evC] at h
    injection h with h; injection h with e1 e2; injection e2 with e2 e3; subst e1; subst e2; subst e3
    exact ⟨fun post hp => TC.ret hp, fun _ h => h⟩
  | _ => intro st ws ex s us h; simp [evC] at h

end

end Go.Mt
