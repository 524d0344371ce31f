import Derived.Test.YtjhinemdonddoaaMtEg
set_option linter.unusedVariables false
set_option linter.unusedSimpArgs false
namespace Go.Mt

theorem bif_ok {α : Type} {c : Bool} {a : R α} {w : List Nat} {x : α} (h : (bif c then a else .no w) = .ok x) : c = true ∧ a = .ok x := by
  cases c
  · cases h
  · exact ⟨rfl, h⟩
theorem ofO_ok {α : Type} {o : Option α} {w : Nat} {x : α} (h : ofO w o = .ok x) : o = some x := by
  cases o with
  | none => cases h
  | some y => simp only [ofO] at h; injection h with h; rw [h]

/-- what a call leaves as it was -/
def Frm (H H' : Hp) (us : List Nat) : Prop := H.length ≤ H'.length ∧ ∀ i, i < H.length → i ∉ us → H'[i]? = H[i]?

structure CfgOk (C : Cfg) : Prop where
  call : ∀ f ms H r H' us, C.call f ms H = .ok (r, H', us) → CT C.P f ms H (fun a b => a = r ∧ b = H') ∧ Frm H H' us
  pure : ∀ f ds rs, C.pure f ds = .ok rs → PT C.P f ds (· = rs)
  sum : ∀ f ds rs, C.sum f ds = some rs → PT C.P f ds (· = rs)

/-- an operation does what is said -/
def OpA (X : Ctx) (o : Oper) (st : St) : Dn → Prop
  | .val v => OpT X o st (eqp v st)
  | .ld t k => ∀ cs v, get st.bx t = some cs → k cs = .ok v → OpT X o st (eqp v st)
  | .st t k => ∀ cs cs', get st.bx t = some cs → k cs = .ok cs' → OpT X o st (eqp (.m .undef) ⟨st.sl, (t, cs') :: st.bx, st.H⟩)
  | .nw cs => ∀ d, o.dst = some d → OpT X o st (eqp (.loc d 0) ⟨clearLoc d st.sl, (d, cs) :: st.bx, st.H⟩)
  | .rd i k => ∀ ob v, st.H[i]? = some ob → k ob = .ok v → OpT X o st (eqp v st)
  | .rda k => ∀ v, k st.H = .ok v → OpT X o st (eqp v st)
  | .up all i k => ∀ ob v ob', st.H[i]? = some ob → k (bif all then st.H else []) ob = .ok (v, ob') → OpT X o st (eqp v ⟨st.sl, st.bx, st.H.set i ob'⟩)
  | .al all k mk => ∀ ob n H', k (bif all then st.H else []) = .ok ob → Place st.H ob n H' → OpT X o st (eqp (mk n) ⟨st.sl, st.bx, H'⟩)
  | .cl k => ∀ v H' us, k st.H = .ok (v, H', us) → OpT X o st (eqp v ⟨st.sl, st.bx, H'⟩) ∧ Frm st.H H' us

theorem isFn_of {P : Program} {f : Nat} (h : isFnB P f = true) : IsFn P f := by
  unfold isFnB at h
  split at h
  · rename_i fn hf
    simp only [Bool.and_eq_true, Bool.not_eq_true'] at h
    refine ⟨fun args w => ?_⟩
    unfold callFunc
    have hb : fn.body.isNone = false := by cases hb : fn.body with
      | none => rw [hb] at h; simp at h
      | some b => rfl
    have hn : ¬ fn.name = "runtime.NumGoroutine" := by simpa using h.1
    have hb' : ¬ fn.body = none := by intro e; rw [e] at hb; cases hb
    simp [program, Sem.run, hf, hn, hb']
  · cases h

section
variable {X : Ctx} {st : St} {dst : Option Nat} {ty : Nat} {pos : String} {af : Array Edge} {g : Option (Nat × Bool)} {C : Cfg}

theorem tySliceE_of {P : Program} {t e : Nat} (h : tySliceE P t = some e) : TySlice P t e := by
  unfold tySliceE at h
  split at h
  · rename_i e' hu; injection h with h; subst h; exact ⟨hu⟩
  · cases h
theorem tyIsStr_of {P : Program} {t : Nat} (h : tyIsStr P t = true) : TyStr P t := by
  unfold tyIsStr at h
  split at h
  · rename_i hu; exact ⟨hu⟩
  · cases h
theorem tyIntE_of {P : Program} {t : Nat} {k : IntKind} (h : tyIntE P t = some k) : TyInt P t k := by
  unfold tyIntE at h
  split at h
  · rename_i e' hu; injection h with h; subst h; exact ⟨hu⟩
  · cases h
theorem tyMapE_of {P : Program} {t e : Nat} (h : tyMapE P t = some e) : TyMapS P t e := by
  unfold tyMapE at h
  split at h
  · rename_i k e' hu
    cases hs : tyIsStr P k with
    | false => simp [hs] at h
    | true => simp [hs] at h; subst h; exact ⟨k, hu, (tyIsStr_of hs).u⟩
  · cases h
theorem tyFieldE_of {P : Program} {s f o : Nat} (h : tyFieldE P s f = some o) : TyField P s f o := by
  refine tyField_of ?_
  unfold tyFieldE at h
  unfold tyFieldOk
  split at h
  · rename_i fields hu
    rw [hu]
    simp only
    split at h
    · rename_i fd hfd
      rw [hfd]
      simp only
      split at h
      · rename_i n hn
        rw [hn]
        simp only
        cases h0 : (n == 0) with
        | true => simp [h0] at h
        | false => simp [h0] at h; subst h; simp [bne, h0]
      · cases h
    · cases h
  · cases h

theorem evL_eq {ev : Operand → Option V} : ∀ {xs : List Operand} {ms : List M}, (∀ x ∈ xs, st.ev x = ev x) → evL ev xs = some ms → st.evMs xs = some ms
  | [], ms, _, h => by simp [evL] at h; subst h; rfl
  | x :: r, ms, hx, h => by
    simp only [evL] at h
    split at h
    · rename_i m hm
      split at h
      · rename_i ms' hms
        injection h with h; subst h
        have h1 := hx x (by simp)
        rw [hm] at h1
        have h2 := evL_eq (fun y hy => hx y (by simp [hy])) hms
        simp [St.evMs, h1, h2]
      · cases h
    · cases h
theorem partsL_eq {ev : Operand → Option V} : ∀ {xs : List (Nat × Operand)} {ms : List (Nat × M)}, (∀ x ∈ xs, st.ev x.2 = ev x.2) → partsL ev xs = some ms → evParts st xs = some ms
  | [], ms, _, h => by simp [partsL] at h; subst h; rfl
  | (i, x) :: r, ms, hx, h => by
    simp only [partsL] at h
    split at h
    · rename_i m hm
      split at h
      · rename_i ms' hms
        injection h with h; subst h
        have h1 := hx (i, x) (by simp)
        rw [hm] at h1
        have h2 := partsL_eq (fun y hy => hx y (by simp [hy])) hms
        simp only at h1
        simp [Mt.evParts, h1, h2]
      · cases h
    · cases h

theorem kindEqB_eq {a b : IntKind} (h : kindEqB a b = true) : a = b := by unfold kindEqB at h; exact of_decide_eq_true h

theorem binD_sound {op : BinOp} {xt yt : Nat} {x y : Operand} {a b r : D} (hx : st.ev x = some (.m (.d a))) (hy : st.ev y = some (.m (.d b))) (h : binD op a b = .ok r) :
    OpT X ⟨dst, .binOp op xt x y yt, ty, pos, af, g⟩ st (eqp (.m (.d r)) st) := by
  unfold binD at h
  split at h
  · rename_i k m k' n
    split at h
    · cases hn : decide (n < 0) with
      | true => simp [hn] at h
      | false => simp only [hn, cond_false] at h; injection h with h; subst h; exact op_shl hx hy (of_decide_eq_false hn)
    · cases hn : decide (n < 0) with
      | true => simp [hn] at h
      | false => simp only [hn, cond_false] at h; injection h with h; subst h; exact op_shr hx hy (of_decide_eq_false hn)
    · cases hk : kindEqB k k' with
      | false => simp [hk] at h
      | true =>
        have := kindEqB_eq hk; subst this
        simp only [hk, cond_true] at h
        cases hn : (n == 0) with
        | true => simp only [hn, cond_true] at h; cases h
        | false => simp only [hn, cond_false] at h; injection h with h; subst h; exact op_quo hx hy hn
    · cases hk : kindEqB k k' with
      | false => simp [hk] at h
      | true =>
        have := kindEqB_eq hk; subst this
        simp only [hk, cond_true] at h
        cases hn : (n == 0) with
        | true => simp only [hn, cond_true] at h; cases h
        | false => simp only [hn, cond_false] at h; injection h with h; subst h; exact op_rem hx hy hn
    · cases hk : kindEqB k k' with
      | false => simp [hk] at h
      | true => have := kindEqB_eq hk; subst this; simp only [hk, cond_true] at h; injection h with h; subst h; exact op_and hx hy
    · cases hk : kindEqB k k' with
      | false => simp [hk] at h
      | true => have := kindEqB_eq hk; subst this; simp only [hk, cond_true] at h; injection h with h; subst h; exact op_or hx hy
    · cases hk : kindEqB k k' with
      | false => simp [hk] at h
      | true => have := kindEqB_eq hk; subst this; simp only [hk, cond_true] at h; injection h with h; subst h; exact op_xor hx hy
    · cases hk : kindEqB k k' with
      | false => simp [hk] at h
      | true =>
        have := kindEqB_eq hk; subst this
        simp only [hk, cond_true] at h
        cases hi : intBin op k m n with
        | none => simp [hi, ofO] at h
        | some r' => simp only [hi, ofO] at h; injection h with h; subst h; exact op_int hx hy hi
  · rename_i s u
    split at h
    · injection h with h; subst h; rw [strEqB_eq]; exact op_streq hx hy
    · injection h with h; subst h; rw [strEqB_eq]; exact op_strne hx hy
    · cases hb : Nat.ble (s.size + u.size) 9223372036854775807 with
      | false => simp [hb] at h
      | true => simp only [hb, cond_true] at h; injection h with h; subst h; rw [catB_eq]; exact op_stradd hx hy (Nat.le_of_ble_eq_true hb)
    · injection h with h; subst h; exact op_strlss hx hy
    · cases h
  · cases h

theorem denBin_sound {op : BinOp} {xt yt : Nat} {x y : Operand} {v u : V} {dn : Dn} (hx : st.ev x = some v) (hy : st.ev y = some u) (h : denBin X.P op xt (nilText y) (nilTextS y) v u = .ok dn) :
    OpA X ⟨dst, .binOp op xt x y yt, ty, pos, af, g⟩ st dn := by
  unfold denBin at h
  split at h
  · split at h
    · rename_i a b
      split at h
      · cases h
      · split at h
        · rename_i r hr; injection h with h; subst h; exact binD_sound hx hy hr
        · cases h
    · cases h
  · rename_i hk
    have hu : X.P.underlying xt = some .bool := by
      unfold tyRef at hk
      split at hk <;> first | assumption | cases hk
    have : TyBoo X.P xt := ⟨hu⟩
    split at h
    · split at h
      · injection h with h; subst h; exact op_beq hx hy
      · injection h with h; subst h; exact op_bne hx hy
      · cases h
    · cases h
  · rename_i hk
    replace h := bif_ok h; obtain ⟨hyc, h⟩ := h
    have hyy : y = .const .nilIface := by
      unfold nilText at hyc
      split at hyc
      · rfl
      · cases hyc
    subst hyy
    split at h
    · rename_i z hz
      split at h
      · injection h with h; subst h; exact op_nilI (op := .eql) (.inl rfl) hk hx hz
      · injection h with h; subst h; exact op_nilI (op := .neq) (.inr rfl) hk hx hz
      · cases h
    · cases h
  · rename_i hk
    replace h := bif_ok h; obtain ⟨hyc, h⟩ := h
    have hyy : y = .const (.slice none 0 0) := by
      unfold nilTextS at hyc
      split at hyc
      · rfl
      · cases hyc
    subst hyy
    split at h
    · split at h
      · injection h with h; subst h; exact op_nilS (op := .eql) (.inl rfl) hk fun a σ lam hi => sl_cons hi hx
      · injection h with h; subst h; exact op_nilS (op := .neq) (.inr rfl) hk fun a σ lam hi => sl_cons hi hx
      · cases h
    · injection h with h; subst h
      intro ob w hH hk2
      dsimp only at hk2
      split at hk2
      · replace hk2 := bif_ok hk2; obtain ⟨hv, hk2⟩ := hk2
        have := Nat.eq_of_beq_eq_true hv
        subst this
        split at hk2
        · injection hk2 with hk2; subst hk2; exact op_nilS (op := .eql) (.inl rfl) hk fun a σ lam hi => sl_row hi hx hH
        · injection hk2 with hk2; subst hk2; exact op_nilS (op := .neq) (.inr rfl) hk fun a σ lam hi => sl_row hi hx hH
        · cases hk2
      · cases hk2
    · cases h
  · rename_i k hk0 hk4 hk5 hk6
    have hk' : tyRef X.P xt = 1 ∨ tyRef X.P xt = 2 ∨ tyRef X.P xt = 3 := by
      unfold tyRef at hk0 hk4 hk5 hk6 ⊢
      split <;> simp_all
    split at h
    · rename_i z h1 h2
      split at h
      · injection h with h; subst h; exact op_nil (op := .eql) (.inl rfl) rfl hk' hx hy h1 h2
      · injection h with h; subst h; exact op_nil (op := .neq) (.inr rfl) rfl hk' hx hy h1 h2
      · cases h
    · split at h
      · replace h := bif_ok h; obtain ⟨hp, h⟩ := h
        split at h
        · injection h with h; subst h; exact op_ptreq (op := .eql) (.inl rfl) hp hx hy
        · injection h with h; subst h; exact op_ptreq (op := .neq) (.inr rfl) hp hx hy
        · cases h
      · cases h

theorem allD_view {H : Hp} : ∀ {ms : List M} {ds : List D}, allD ms = some ds → viewL (viewD H) ms = some ds
  | [], ds, h => by simp [allD] at h; subst h; rfl
  | m :: r, ds, h => by
    cases m with
    | d x =>
      simp only [allD, Option.map_eq_some_iff] at h
      obtain ⟨ds', h1, rfl⟩ := h
      have : viewD H (.d x) = some x := rfl
      simp [viewL, this, allD_view h1]
    | _ => simp [allD] at h

theorem denCall_sound (hC : CfgOk C) (hP : C.P = X.P) {c : Call} {f : Nat} {ms : List M} {dn : Dn} (he : IsFn X.P f → Enters X st c f ms) (h : denCall C f ms = .ok dn) :
    OpA X ⟨dst, .call c, ty, pos, af, g⟩ st dn := by
  unfold denCall at h
  cases hf : isFnB C.P f with
  | false => simp [hf] at h
  | true =>
    have hfn : IsFn X.P f := by rw [← hP]; exact isFn_of hf
    replace he := he hfn
    simp only [hf, cond_true] at h
    cases hh : (C.heapF f || toHeap.anyHeap ms) with
    | true =>
      simp only [hh, cond_true] at h
      have hcl : OpA X ⟨dst, .call c, ty, pos, af, g⟩ st (.cl fun H => match C.call f ms H with | .ok (m, H', us) => .ok (.m m, H', us) | .no w => .no w) := by
        intro v H' us hk
        dsimp only at hk
        split at hk
        · rename_i m H1 us1 hc
          injection hk with hk; injection hk with e1 e2; injection e2 with e2 e3
          subst e1; subst e2; subst e3
          obtain ⟨h1, h2⟩ := hC.call _ _ _ _ _ _ hc
          rw [hP] at h1
          exact ⟨op_enterR he h1, h2⟩
        · cases hk
      split at h
      · rename_i ds hds
        split at h
        · rename_i rs hrs
          injection h with h; subst h
          have := hC.sum _ _ _ hrs
          rw [hP] at this
          exact op_enterD he (allD_view hds) this
        · injection h with h; subst h; exact hcl
      · injection h with h; subst h; exact hcl
    | false =>
      simp only [hh, cond_false] at h
      split at h
      · rename_i ds hds
        split at h
        · rename_i rs hrs
          injection h with h; subst h
          have := hC.pure _ _ _ hrs
          rw [hP] at this
          exact op_enterD he (allD_view hds) this
        · cases h
      · injection h with h; subst h
        intro v hk
        dsimp only at hk
        split at hk
        · rename_i ds hds
          split at hk
          · rename_i rs hrs
            injection hk with hk; subst hk
            have := hC.pure _ _ _ hrs
            rw [hP] at this
            exact op_enterD he hds this
          · cases hk
        · cases hk

theorem denLoad_sound (hP : C.P = X.P) {T : Nat} {x : Operand} {v : V} {dn : Dn} (hx : st.ev x = some v) (h : denLoad C T v = .ok dn) : OpA X ⟨dst, .load T x, ty, pos, af, g⟩ st dn := by
  unfold denLoad at h
  rw [hP] at h
  split at h
  · split at h
    · rename_i d hr; injection h with h; subst h; exact op_loadD hx hr
    · cases h
  · injection h with h; subst h
    intro cs v hb hk
    dsimp only at hk
    split at hk
    · rename_i m hr; injection hk with hk; subst hk; exact op_loadL hx hb hr
    · cases hk
  · injection h with h; subst h
    intro ob v hH hk
    dsimp only at hk
    split at hk
    · split at hk
      · rename_i m hr; injection hk with hk; subst hk; exact op_loadR hx hH hr
      · cases hk
    · cases hk
  · injection h with h; subst h
    intro ob v hH hk
    dsimp only at hk
    split at hk
    · rename_i acc ec ver' cs
      replace hk := bif_ok hk; obtain ⟨hb, hk⟩ := hk
      have := Nat.eq_of_beq_eq_true hb
      subst this
      split at hk
      · rename_i m hr; injection hk with hk; subst hk; exact op_loadW hx hH hr
      · cases hk
    · cases hk
  · cases h

theorem denStore_sound (hP : C.P = X.P) {T : Nat} {x y : Operand} {v : V} {m : M} {dn : Dn} (hx : st.ev x = some v) (hy : st.ev y = some (.m m)) (h : denStore C T v m = .ok dn) : OpA X ⟨dst, .store T x y, ty, pos, af, g⟩ st dn := by
  unfold denStore at h
  rw [hP] at h
  split at h
  · rename_i n new hsz hc
    replace h := bif_ok h; obtain ⟨hn, h⟩ := h
    have : TySz X.P T n := ⟨hsz⟩
    obtain ⟨h1, h2⟩ := cellsO_eq hc
    subst h1
    have hn' := Nat.eq_of_beq_eq_true hn
    split at h
    · injection h with h; subst h
      intro cs cs' hb hk
      dsimp only at hk
      exact op_storeL hx hy hb hn' h2 (wr_eq (ofO_ok hk))
    · injection h with h; subst h
      intro ob v ob' hH hk
      dsimp only at hk
      split at hk
      · split at hk
        · rename_i cs' hw
          injection hk with hk; injection hk with e1 e2; subst e1; subst e2
          exact op_storeR hx hy hH hn' h2 (wr_eq hw)
        · cases hk
      · cases hk
    · injection h with h; subst h
      intro ob v ob' hH hk
      dsimp only at hk
      split at hk
      · replace hk := bif_ok hk; obtain ⟨hb, hk⟩ := hk
        have := Nat.eq_of_beq_eq_true hb
        subst this
        split at hk
        · rename_i cs' hw
          injection hk with hk; injection hk with e1 e2; subst e1; subst e2
          exact op_storeW hx hy hH hn' h2 (wr_eq hw)
        · cases hk
      · cases hk
    · cases h
  · cases h

theorem allP_rows {k : Nat} {ms : List (Nat × M)} {rows : List (List D)} (h : rowsO k ms = some rows) : True := trivial

theorem denBuildSlice_sound (hP : C.P = X.P) {d T len : Nat} {parts : List (Nat × Operand)} {ms : List (Nat × M)} {dn : Dn} (he : evParts st parts = some ms) (h : denBuildSlice C d T len ms = .ok dn) : OpA X ⟨dst, .buildSlice T len parts.toArray, ty, pos, af, g⟩ st dn := by
  unfold denBuildSlice at h
  rw [hP] at h
  split at h
  · cases h
  · rename_i e hsl
    have := tySliceE_of hsl
    split at h
    · rename_i n z hsz hz
      have : TySz X.P e n := ⟨hsz⟩
      have : TyZ X.P e z := ⟨hz⟩
      replace h := bif_ok h; obtain ⟨hc, h⟩ := h
      simp only [Bool.and_eq_true] at hc
      obtain ⟨⟨hn, hzl⟩, hle⟩ := hc
      cases hh : (Nat.beq (C.hint d) 1 || heapP ms) with
      | true =>
        simp only [hh, cond_true] at h
        injection h with h; subst h
        intro ob nn H' hk hp
        dsimp only at hk
        split at hk
        · rename_i cs hf
          injection hk with hk; subst hk
          exact op_buildSliceP hn (Nat.eq_of_beq_eq_true hzl) hle he hf hp
        · cases hk
      | false =>
        simp only [hh, cond_false] at h
        cases ha : allP ms with
        | true =>
          simp only [ha, cond_true] at h
          split at h
          · rename_i rows hr
            replace h := bif_ok h; obtain ⟨hc, h⟩ := h
            simp only [Bool.and_eq_true] at hc
            injection h with h; subst h
            exact op_buildSliceV hn hzl hle (fun a σ lam hi => hi.evParts he) hr hc.1 hc.2
          · cases h
        | false =>
          simp only [ha, cond_false] at h
          injection h with h; subst h
          intro v hk
          dsimp only at hk
          split at hk
          · rename_i qs hq
            split at hk
            · rename_i rows hr
              replace hk := bif_ok hk; obtain ⟨hc, hk⟩ := hk
              simp only [Bool.and_eq_true] at hc
              injection hk with hk; subst hk
              exact op_buildSliceV hn hzl hle (fun a σ lam hi => hi.partsV he hq) hr hc.1 hc.2
            · cases hk
          · cases hk
    · cases h

theorem srcO_D {H : Hp} {n : Nat} {m : M} (h : isD m = true) : srcO H n m = srcO [] n m := by
  cases m with
  | d x => cases x <;> rfl
  | _ => cases h

theorem src_bif {H : Hp} {n : Nat} {m : M} {r : List M × Nat} (h : srcO (bif !isD m then H else []) n m = some r) : srcO H n m = some r := by
  cases hd : isD m with
  | true => rw [hd] at h; rw [srcO_D hd]; exact h
  | false => rw [hd] at h; exact h

theorem room {k nb : Nat} (h1 : Nat.ble nb 1000000 = true) (h2 : Nat.ble k 100000000 = true) : k * nb ≤ 140737488355328 ∧ k ≤ 140737488355328 := by
  have a := Nat.le_of_ble_eq_true h1
  have b := Nat.le_of_ble_eq_true h2
  have := Nat.mul_le_mul b a
  omega

theorem denAppend_sound (hP : C.P = X.P) {d T U : Nat} {x y : Operand} {mx my : M} {dn : Dn} (hx : st.ev x = some (.m mx)) (hy : st.ev y = some (.m my)) (h : denAppend C d T U mx my = .ok dn) : OpA X ⟨dst, .call ⟨.builtin .append, #[x, y], #[T, U]⟩, ty, pos, af, g⟩ st dn := by
  unfold denAppend at h
  rw [hP] at h
  split at h
  · cases h
  · rename_i e hsl
    have := tySliceE_of hsl
    split at h
    · rename_i n nb z hsz hnb hz
      have : TySz X.P e n := ⟨hsz⟩
      have : TyB X.P e nb := ⟨hnb⟩
      have : TyZ X.P e z := ⟨hz⟩
      replace h := bif_ok h; obtain ⟨hc, h⟩ := h
      simp only [Bool.and_eq_true] at hc
      obtain ⟨⟨hn, hzl⟩, hnb1⟩ := hc
      have hzl' := Nat.eq_of_beq_eq_true hzl
      cases hTU : Nat.beq T U with
      | true =>
        have := Nat.eq_of_beq_eq_true hTU
        subst this
        simp only [hTU, cond_true] at h
        split at h
        · injection h with h; subst h
          intro v hk
          dsimp only at hk
          split at hk
          · rename_i cs hs
            injection hk with hk; subst hk
            exact op_append00S hn hx hy hs
          · cases hk
        · rename_i len hlen
          injection h with h; subst h
          intro ob nn H' hk hp
          dsimp only at hk
          split at hk
          · rename_i cs k hs
            replace hk := bif_ok hk; obtain ⟨hc, hk⟩ := hk
            simp only [Bool.and_eq_true] at hc
            injection hk with hk; subst hk
            have e1 := Nat.eq_of_beq_eq_true hc.1
            subst e1
            exact op_append0S _ hn hzl' hx hy (src_bif hs) (by omega) (room hnb1 hc.2).1 hp
          · cases hk
        · rename_i j ver len k2 hlen
          injection h with h; subst h
          intro ob v ob' hH hk
          dsimp only at hk
          split at hk
          · rename_i cs2 k acc n' ver' cs hs
            replace hk := bif_ok hk; obtain ⟨hc, hk⟩ := hk
            simp only [Bool.and_eq_true] at hc
            injection hk with hk; injection hk with e1 e2; subst e1; subst e2
            have e1 := Nat.eq_of_beq_eq_true hc.1.1
            have e2 := Nat.eq_of_beq_eq_true hc.1.2
            subst e1; subst e2
            exact op_appendRS hzl' hx hy (src_bif hs) hH (room hnb1 hc.2).1 (room hnb1 hc.2).2
          · cases hk
        · cases h
      | false =>
        simp only [hTU, cond_false] at h
        split at h
        · rename_i kk kk2 len hk1
          have := tyIntE_of hk1
          replace h := bif_ok h; obtain ⟨hc, h⟩ := h
          simp only [Bool.and_eq_true] at hc
          injection h with h; subst h
          intro ob nn H' hk hp
          dsimp only at hk
          injection hk with hk; subst hk
          have e0 := kindEqB_eq hc.1.1
          subst e0
          exact op_appendZP hn hzl' hx hy (blt_lt hc.1.2) (room hnb1 hc.2).1 (room hnb1 hc.2).2 hp
        · cases h
    · cases h
end
end Go.Mt
