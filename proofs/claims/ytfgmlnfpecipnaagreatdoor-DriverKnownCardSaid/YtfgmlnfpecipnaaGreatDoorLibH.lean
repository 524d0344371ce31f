/- Part of a library of triples over an abstract heap, and of a reckoner that is proved sound over it. -/
import Derived.Test.YtfgmlnfpecipnaaGreatDoorLibG
set_option linter.unusedVariables false
set_option linter.unusedSimpArgs false
namespace Go.Mt

theorem bif_ok {α : Type} {c : Bool} {a : R α} {w : List Nat} {x : α} (h : (bif c then a else .no w) = .ok x) : c = true ∧ a = .ok x := by
  cases c
  · cases h
  · exact ⟨rfl, h⟩
theorem ofO_ok {α : Type} {o : Option α} {w : Nat} {x : α} (h : ofO w o = .ok x) : o = some x := by
  cases o with
  | none => cases h
  | some y => simp only [ofO] at h; injection h with h; rw [h]

/-- what a call leaves as it was -/
def Frm (H H' : Hp) (us : List Nat) : Prop := H.length ≤ H'.length ∧ ∀ i, i < H.length → i ∉ us → H'[i]? = H[i]?

structure CfgOk (C : Cfg) : Prop where
  call : ∀ f ms H r H' us, C.call f ms H = .ok (r, H', us) → CT C.P f ms H (fun a b => a = r ∧ b = H') ∧ Frm H H' us
  pure : ∀ f ds rs, C.pure f ds = .ok rs → PT C.P f ds (· = rs)
  sum : ∀ f ds rs, C.sum f ds = some rs → PT C.P f ds (· = rs)

/-- an operation does what is said -/
def OpA (X : Ctx) (o : Oper) (st : St) : Dn → Prop
  | .val v => OpT X o st (eqp v st)
  | .ld t k => ∀ cs v, get st.bx t = some cs → k cs = .ok v → OpT X o st (eqp v st)
  | .st t k => ∀ cs cs', get st.bx t = some cs → k cs = .ok cs' → OpT X o st (eqp (.m .undef) ⟨st.sl, (t, cs') :: st.bx, st.H⟩)
  | .nw cs => ∀ d, o.dst = some d → OpT X o st (eqp (.loc d 0) ⟨clearLoc d st.sl, (d, cs) :: st.bx, st.H⟩)
  | .rd i k => ∀ ob v, st.H[i]? = some ob → k ob = .ok v → OpT X o st (eqp v st)
  | .rda k => ∀ v, k st.H = .ok v → OpT X o st (eqp v st)
  | .up all i k => ∀ ob v ob', st.H[i]? = some ob → k (bif all then st.H else []) ob = .ok (v, ob') → OpT X o st (eqp v ⟨st.sl, st.bx, st.H.set i ob'⟩)
  | .al all k mk => ∀ ob n H', k (bif all then st.H else []) = .ok ob → Place st.H ob n H' → OpT X o st (eqp (mk n) ⟨st.sl, st.bx, H'⟩)
  | .cl k => ∀ v H' us, k st.H = .ok (v, H', us) → OpT X o st (eqp v ⟨st.sl, st.bx, H'⟩) ∧ Frm st.H H' us

theorem isFn_of {P : Program} {f : Nat} (h : isFnB P f = true) : IsFn P f := by
  unfold isFnB at h
  split at h
  · rename_i fn hf
    simp only [Bool.and_eq_true, Bool.not_eq_true'] at h
    refine ⟨fun args w => ?_⟩
    unfold callFunc
    have hb : fn.body.isNone = false := by cases hb : fn.body with
      | none => rw [hb] at h; simp at h
      | some b => rfl
    have hn : ¬ fn.name = "runtime.NumGoroutine" := by simpa using h.1
    have hb' : ¬ fn.body = none := by intro e; rw [e] at hb; cases hb
    simp [program, Sem.run, hf, hn, hb']
  · cases h

section
variable {X : Ctx} {st : St} {dst : Option Nat} {ty : Nat} {pos : String} {af : Array Edge} {g : Option (Nat × Bool)} {C : Cfg}

theorem tySliceE_of {P : Program} {t e : Nat} (h : tySliceE P t = some e) : TySlice P t e := by
  unfold tySliceE at h
  split at h
  · rename_i e' hu; injection h with h; subst h; exact ⟨hu⟩
  · cases h
theorem tyIsStr_of {P : Program} {t : Nat} (h : tyIsStr P t = true) : TyStr P t := by
  unfold tyIsStr at h
  split at h
  · rename_i hu; exact ⟨hu⟩
  · cases h
theorem tyIntE_of {P : Program} {t : Nat} {k : IntKind} (h : tyIntE P t = some k) : TyInt P t k := by
  unfold tyIntE at h
  split at h
  · rename_i e' hu; injection h with h; subst h; exact ⟨hu⟩
  · cases h
theorem tyMapE_of {P : Program} {t e : Nat} (h : tyMapE P t = some e) : TyMapS P t e := by
  unfold tyMapE at h
  split at h
  · rename_i k e' hu
    cases hs : tyIsStr P k with
    | false => simp [hs] at h
    | true => simp [hs] at h; subst h; exact ⟨k, hu, (tyIsStr_of hs).u⟩
  · cases h
theorem tyFieldE_of {P : Program} {s f o : Nat} (h : tyFieldE P s f = some o) : TyField P s f o := by
  refine tyField_of ?_
  unfold tyFieldE at h
  unfold tyFieldOk
  split at h
  · rename_i fields hu
    rw [hu]
    simp only
    split at h
    · rename_i fd hfd
      rw [hfd]
      simp only
      split at h
      · rename_i n hn
        rw [hn]
        simp only
        cases h0 : (n == 0) with
        | true => simp [h0] at h
        | false => simp [h0] at h; subst h; simp [bne, h0]
      · cases h
    · cases h
  · cases h

theorem evL_eq {ev : Operand → Option V} : ∀ {xs : List Operand} {ms : List M}, (∀ x ∈ xs, st.ev x = ev x) → evL ev xs = some ms → st.evMs xs = some ms
  | [], ms, _, h => by simp [evL] at h; subst h; rfl
  | x :: r, ms, hx, h => by
    simp only [evL] at h
    split at h
    · rename_i m hm
      split at h
      · rename_i ms' hms
        injection h with h; subst h
        have h1 := hx x (by simp)
        rw [hm] at h1
        have h2 := evL_eq (fun y hy => hx y (by simp [hy])) hms
        simp [St.evMs, h1, h2]
      · cases h
    · cases h
theorem partsL_eq {ev : Operand → Option V} : ∀ {xs : List (Nat × Operand)} {ms : List (Nat × M)}, (∀ x ∈ xs, st.ev x.2 = ev x.2) → partsL ev xs = some ms → evParts st xs = some ms
  | [], ms, _, h => by simp [partsL] at h; subst h; rfl
  | (i, x) :: r, ms, hx, h => by
    simp only [partsL] at h
    split at h
    · rename_i m hm
      split at h
      · rename_i ms' hms
        injection h with h; subst h
        have h1 := hx (i, x) (by simp)
        rw [hm] at h1
        have h2 := partsL_eq (fun y hy => hx y (by simp [hy])) hms
        simp only at h1
        simp [Mt.evParts, h1, h2]
      · cases h
    · cases h

theorem kindEqB_eq {a b : IntKind} (h : kindEqB a b = true) : a = b := by unfold kindEqB at h; exact of_decide_eq_true h

theorem binD_sound {op : BinOp} {xt yt : Nat} {x y : Operand} {a b r : D} (hx : st.ev x = some (.m (.d a))) (hy : st.ev y = some (.m (.d b))) (h : binD op a b = .ok r) :
    OpT X ⟨dst, .binOp op xt x y yt, ty, pos, af, g⟩ st (eqp (.m (.d r)) st) := by
  unfold binD at h
  split at h
  · rename_i k m k' n
    split at h
    · cases hn : decide (n < 0) with
      | true => simp [hn] at h
      | false => simp only [hn, cond_false] at h; injection h with h; subst h; exact op_shl hx hy (of_decide_eq_false hn)
    · cases hn : decide (n < 0) with
      | true => simp [hn] at h
      | false => simp only [hn, cond_false] at h; injection h with h; subst h; exact op_shr hx hy (of_decide_eq_false hn)
    · cases hk : kindEqB k k' with
      | false => simp [hk] at h
      | true =>
        have := kindEqB_eq hk; subst this
        simp only [hk, cond_true] at h
        cases hn : (n == 0) with
        | true => simp only [hn, cond_true] at h; cases h
        | false => simp only [hn, cond_false] at h; injection h with h; subst h; exact op_quo hx hy hn
    · cases hk : kindEqB k k' with
      | false => simp [hk] at h
      | true =>
        have := kindEqB_eq hk; subst this
        simp only [hk, cond_true] at h
        cases hn : (n == 0) with
        | true => simp only [hn, cond_true] at h; cases h
        | false => simp only [hn, cond_false] at h; injection h with h; subst h; exact op_rem hx hy hn
    · cases hk : kindEqB k k' with
      | false => simp [hk] at h
      | true => have := kindEqB_eq hk; subst this; simp only [hk, cond_true] at h; injection h with h; subst h; exact op_and hx hy
    · cases hk : kindEqB k k' with
      | false => simp [hk] at h
      | true => have := kindEqB_eq hk; subst this; simp only [hk, cond_true] at h; injection h with h; subst h; exact op_or hx hy
    · cases hk : kindEqB k k' with
      | false => simp [hk] at h
      | true => have := kindEqB_eq hk; subst this; simp only [hk, cond_true] at h; injection h with h; subst h; exact op_xor hx hy
    · cases hk : kindEqB k k' with
      | false => simp [hk] at h
      | true =>
        have := kindEqB_eq hk; subst this
        simp only [hk, cond_true] at h
        cases hi : intBin op k m n with
        | none => simp [hi, ofO] at h
        | some r' => simp only [hi, ofO] at h; injection h with h; subst h; exact op_int hx hy hi
  · rename_i s u
    split at h
    · injection h with h; subst h; rw [strEqB_eq]; exact op_streq hx hy
    · injection h with h; subst h; rw [strEqB_eq]; exact op_strne hx hy
    · cases hb : Nat.ble (s.size + u.size) 9223372036854775807 with
      | false => simp [hb] at h
      | true => simp only [hb, cond_true] at h; injection h with h; subst h; rw [catB_eq]; exact op_stradd hx hy (Nat.le_of_ble_eq_true hb)
    · injection h with h; subst h; exact op_strlss hx hy
    · cases h
  · cases h

theorem denBin_sound {op : BinOp} {xt yt : Nat} {x y : Operand} {v u : V} {dn : Dn} (hx : st.ev x = some v) (hy : st.ev y = some u) (h : denBin X.P op xt (nilText y) (nilTextS y) v u = .ok dn) :
    OpA X ⟨dst, .binOp op xt x y yt, ty, pos, af, g⟩ st dn := by
  unfold denBin at h
  split at h
  · split at h
    · rename_i a b
      split at h
      · cases h
      · replace h := bif_ok h; obtain ⟨hkn, h⟩ := h
        have : TyKN X.P xt := ⟨hkn⟩
        split at h
        · injection h with h; subst h; rw [strEqB_eq]; exact op_eqKN hx hy
        · injection h with h; subst h; rw [strEqB_eq]; exact op_neKN hx hy
        · cases h
      · split at h
        · rename_i r hr; injection h with h; subst h; exact binD_sound hx hy hr
        · cases h
    · cases h
  · rename_i hk
    have hu : X.P.underlying xt = some .bool := by
      unfold tyRef at hk
      split at hk <;> first | assumption | cases hk
    have : TyBoo X.P xt := ⟨hu⟩
    split at h
    · split at h
      · injection h with h; subst h; exact op_beq hx hy
      · injection h with h; subst h; exact op_bne hx hy
      · cases h
    · cases h
  · rename_i hk
    replace h := bif_ok h; obtain ⟨hyc, h⟩ := h
    have hyy : y = .const .nilIface := by
      unfold nilText at hyc
      split at hyc
      · rfl
      · cases hyc
    subst hyy
    split at h
    · rename_i z hz
      split at h
      · injection h with h; subst h; exact op_nilI (op := .eql) (.inl rfl) hk hx hz
      · injection h with h; subst h; exact op_nilI (op := .neq) (.inr rfl) hk hx hz
      · cases h
    · cases h
  · rename_i hk
    replace h := bif_ok h; obtain ⟨hyc, h⟩ := h
    have hyy : y = .const (.slice none 0 0) := by
      unfold nilTextS at hyc
      split at hyc
      · rfl
      · cases hyc
    subst hyy
    split at h
    · split at h
      · injection h with h; subst h; exact op_nilS (op := .eql) (.inl rfl) hk fun a σ lam hi => sl_cons hi hx
      · injection h with h; subst h; exact op_nilS (op := .neq) (.inr rfl) hk fun a σ lam hi => sl_cons hi hx
      · cases h
    · injection h with h; subst h
      intro ob w hH hk2
      dsimp only at hk2
      split at hk2
      · replace hk2 := bif_ok hk2; obtain ⟨hv, hk2⟩ := hk2
        have := Nat.eq_of_beq_eq_true hv
        subst this
        split at hk2
        · injection hk2 with hk2; subst hk2; exact op_nilS (op := .eql) (.inl rfl) hk fun a σ lam hi => sl_row hi hx hH
        · injection hk2 with hk2; subst hk2; exact op_nilS (op := .neq) (.inr rfl) hk fun a σ lam hi => sl_row hi hx hH
        · cases hk2
      · cases hk2
    · cases h
  · rename_i k hk0 hk4 hk5 hk6
    have hk' : tyRef X.P xt = 1 ∨ tyRef X.P xt = 2 ∨ tyRef X.P xt = 3 := by
      unfold tyRef at hk0 hk4 hk5 hk6 ⊢
      split <;> simp_all
    split at h
    · rename_i z h1 h2
      split at h
      · injection h with h; subst h; exact op_nil (op := .eql) (.inl rfl) rfl hk' hx hy h1 h2
      · injection h with h; subst h; exact op_nil (op := .neq) (.inr rfl) rfl hk' hx hy h1 h2
      · cases h
    · split at h
      · replace h := bif_ok h; obtain ⟨hp, h⟩ := h
        split at h
        · injection h with h; subst h; exact op_ptreq (op := .eql) (.inl rfl) hp hx hy
        · injection h with h; subst h; exact op_ptreq (op := .neq) (.inr rfl) hp hx hy
        · cases h
      · cases h

theorem allD_view {H : Hp} : ∀ {ms : List M} {ds : List D}, allD ms = some ds → viewL (viewD H) ms = some ds
  | [], ds, h => by simp [allD] at h; subst h; rfl
  | m :: r, ds, h => by
    cases m with
    | d x =>
      simp only [allD, Option.map_eq_some_iff] at h
      obtain ⟨ds', h1, rfl⟩ := h
      have : viewD H (.d x) = some x := rfl
      simp [viewL, this, allD_view h1]
    | _ => simp [allD] at h

theorem denCall_sound (hC : CfgOk C) (hP : C.P = X.P) {c : Call} {f : Nat} {ms : List M} {dn : Dn} (he : IsFn X.P f → Enters X st c f ms) (h : denCall C.P C f ms = .ok dn) :
    OpA X ⟨dst, .call c, ty, pos, af, g⟩ st dn := by
  unfold denCall at h
  cases hf : isFnB C.P f with
  | false => simp [hf] at h
  | true =>
    have hfn : IsFn X.P f := by rw [← hP]; exact isFn_of hf
    replace he := he hfn
    simp only [hf, cond_true] at h
    cases hh : (C.heapF f || toHeap.anyHeap ms) with
    | true =>
      simp only [hh, cond_true] at h
      have hcl : OpA X ⟨dst, .call c, ty, pos, af, g⟩ st (.cl fun H => match C.call f ms H with | .ok (m, H', us) => .ok (.m m, H', us) | .no w => .no w) := by
        intro v H' us hk
        dsimp only at hk
        split at hk
        · rename_i m H1 us1 hc
          injection hk with hk; injection hk with e1 e2; injection e2 with e2 e3
          subst e1; subst e2; subst e3
          obtain ⟨h1, h2⟩ := hC.call _ _ _ _ _ _ hc
          rw [hP] at h1
          exact ⟨op_enterR he h1, h2⟩
        · cases hk
      split at h
      · rename_i ds hds
        split at h
        · rename_i rs hrs
          injection h with h; subst h
          have := hC.sum _ _ _ hrs
          rw [hP] at this
          exact op_enterD he (allD_view hds) this
        · injection h with h; subst h; exact hcl
      · injection h with h; subst h; exact hcl
    | false =>
      simp only [hh, cond_false] at h
      split at h
      · rename_i ds hds
        split at h
        · rename_i rs hrs
          injection h with h; subst h
          have := hC.pure _ _ _ hrs
          rw [hP] at this
          exact op_enterD he (allD_view hds) this
        · cases h
      · injection h with h; subst h
        intro v hk
        dsimp only at hk
        split at hk
        · rename_i ds hds
          split at hk
          · rename_i rs hrs
            injection hk with hk; subst hk
            have := hC.pure _ _ _ hrs
            rw [hP] at this
            exact op_enterD he hds this
          · cases hk
        · cases hk

theorem denLoad_sound (hP : C.P = X.P) {T : Nat} {x : Operand} {v : V} {dn : Dn} (hx : st.ev x = some v) (h : denLoad C.P C T v = .ok dn) : OpA X ⟨dst, .load T x, ty, pos, af, g⟩ st dn := by
  unfold denLoad at h
  rw [hP] at h
  split at h
  · split at h
    · rename_i d hr; injection h with h; subst h; exact op_loadD hx hr
    · cases h
  · injection h with h; subst h
    intro cs v hb hk
    dsimp only at hk
    split at hk
    · rename_i m hr; injection hk with hk; subst hk; exact op_loadL hx hb hr
    · cases hk
  · injection h with h; subst h
    intro ob v hH hk
    dsimp only at hk
    split at hk
    · split at hk
      · rename_i m hr; injection hk with hk; subst hk; exact op_loadR hx hH hr
      · cases hk
    · cases hk
  · injection h with h; subst h
    intro ob v hH hk
    dsimp only at hk
    split at hk
    · rename_i acc ec ver' cs
      replace hk := bif_ok hk; obtain ⟨hb, hk⟩ := hk
      have := Nat.eq_of_beq_eq_true hb
      subst this
      split at hk
      · rename_i m hr; injection hk with hk; subst hk; exact op_loadW hx hH hr
      · cases hk
    · cases hk
  · cases h

theorem denStore_sound (hP : C.P = X.P) {T : Nat} {x y : Operand} {v : V} {m : M} {dn : Dn} (hx : st.ev x = some v) (hy : st.ev y = some (.m m)) (h : denStore C.P C T v m = .ok dn) : OpA X ⟨dst, .store T x y, ty, pos, af, g⟩ st dn := by
  unfold denStore at h
  rw [hP] at h
  split at h
  · rename_i n new hsz hc
    replace h := bif_ok h; obtain ⟨hn, h⟩ := h
    have : TySz X.P T n := ⟨hsz⟩
    obtain ⟨h1, h2⟩ := cellsO_eq hc
    subst h1
    have hn' := Nat.eq_of_beq_eq_true hn
    split at h
    · injection h with h; subst h
      intro cs cs' hb hk
      dsimp only at hk
      exact op_storeL hx hy hb hn' h2 (wr_eq (ofO_ok hk))
    · injection h with h; subst h
      intro ob v ob' hH hk
      dsimp only at hk
      split at hk
      · split at hk
        · rename_i cs' hw
          injection hk with hk; injection hk with e1 e2; subst e1; subst e2
          exact op_storeR hx hy hH hn' h2 (wr_eq hw)
        · cases hk
      · cases hk
    · injection h with h; subst h
      intro ob v ob' hH hk
      dsimp only at hk
      split at hk
      · replace hk := bif_ok hk; obtain ⟨hb, hk⟩ := hk
        have := Nat.eq_of_beq_eq_true hb
        subst this
        split at hk
        · rename_i cs' hw
          injection hk with hk; injection hk with e1 e2; subst e1; subst e2
          exact op_storeW hx hy hH hn' h2 (wr_eq hw)
        · cases hk
      · cases hk
    · cases h
  · cases h

theorem allP_rows {k : Nat} {ms : List (Nat × M)} {rows : List (List D)} (h : rowsO k ms = some rows) : True := trivial

theorem denBuildSlice_sound (hP : C.P = X.P) {d T len : Nat} {parts : List (Nat × Operand)} {ms : List (Nat × M)} {dn : Dn} (he : evParts st parts = some ms) (h : denBuildSlice C.P C d T len ms = .ok dn) : OpA X ⟨dst, .buildSlice T len parts.toArray, ty, pos, af, g⟩ st dn := by
  unfold denBuildSlice at h
  rw [hP] at h
  split at h
  · cases h
  · rename_i e hsl
    have := tySliceE_of hsl
    split at h
    · rename_i n z hsz hz
      have : TySz X.P e n := ⟨hsz⟩
      have : TyZ X.P e z := ⟨hz⟩
      replace h := bif_ok h; obtain ⟨hc, h⟩ := h
      simp only [Bool.and_eq_true] at hc
      obtain ⟨⟨hn, hzl⟩, hle⟩ := hc
      cases hh : (Nat.beq (C.hint d) 1 || heapP ms) with
      | true =>
        simp only [hh, cond_true] at h
        injection h with h; subst h
        intro ob nn H' hk hp
        dsimp only at hk
        split at hk
        · rename_i cs hf
          injection hk with hk; subst hk
          exact op_buildSliceP hn (Nat.eq_of_beq_eq_true hzl) hle he hf hp
        · cases hk
      | false =>
        simp only [hh, cond_false] at h
        cases ha : allP ms with
        | true =>
          simp only [ha, cond_true] at h
          split at h
          · rename_i rows hr
            replace h := bif_ok h; obtain ⟨hc, h⟩ := h
            simp only [Bool.and_eq_true] at hc
            injection h with h; subst h
            exact op_buildSliceV hn hzl hle (fun a σ lam hi => hi.evParts he) hr hc.1 hc.2
          · cases h
        | false =>
          simp only [ha, cond_false] at h
          injection h with h; subst h
          intro v hk
          dsimp only at hk
          split at hk
          · rename_i qs hq
            split at hk
            · rename_i rows hr
              replace hk := bif_ok hk; obtain ⟨hc, hk⟩ := hk
              simp only [Bool.and_eq_true] at hc
              injection hk with hk; subst hk
              exact op_buildSliceV hn hzl hle (fun a σ lam hi => hi.partsV he hq) hr hc.1 hc.2
            · cases hk
          · cases hk
    · cases h

theorem srcO_D {H : Hp} {n : Nat} {m : M} (h : isD m = true) : srcO H n m = srcO [] n m := by
  cases m with
  | d x => cases x <;> rfl
  | _ => cases h

theorem src_bif {H : Hp} {n : Nat} {m : M} {r : List M × Nat} (h : srcO (bif !isD m then H else []) n m = some r) : srcO H n m = some r := by
  cases hd : isD m with
  | true => rw [hd] at h; rw [srcO_D hd]; exact h
  | false => rw [hd] at h; exact h

theorem room {k nb : Nat} (h1 : Nat.ble nb 1000000 = true) (h2 : Nat.ble k 100000000 = true) : k * nb ≤ 140737488355328 ∧ k ≤ 140737488355328 := by
  have a := Nat.le_of_ble_eq_true h1
  have b := Nat.le_of_ble_eq_true h2
  have := Nat.mul_le_mul b a
  omega

theorem denAppend_sound (hP : C.P = X.P) {d T U : Nat} {x y : Operand} {mx my : M} {dn : Dn} (hx : st.ev x = some (.m mx)) (hy : st.ev y = some (.m my)) (h : denAppend C.P C d T U mx my = .ok dn) : OpA X ⟨dst, .call ⟨.builtin .append, #[x, y], #[T, U]⟩, ty, pos, af, g⟩ st dn := by
  unfold denAppend at h
  rw [hP] at h
  split at h
  · cases h
  · rename_i e hsl
    have := tySliceE_of hsl
    split at h
    · rename_i n nb z hsz hnb hz
      have : TySz X.P e n := ⟨hsz⟩
      have : TyB X.P e nb := ⟨hnb⟩
      have : TyZ X.P e z := ⟨hz⟩
      replace h := bif_ok h; obtain ⟨hc, h⟩ := h
      simp only [Bool.and_eq_true] at hc
      obtain ⟨⟨hn, hzl⟩, hnb1⟩ := hc
      have hzl' := Nat.eq_of_beq_eq_true hzl
      cases hTU : Nat.beq T U with
      | true =>
        have := Nat.eq_of_beq_eq_true hTU
        subst this
        simp only [hTU, cond_true] at h
        split at h
        · injection h with h; subst h
          intro v hk
          dsimp only at hk
          split at hk
          · rename_i cs hs
            injection hk with hk; subst hk
            exact op_append00S hn hx hy hs
          · cases hk
        · rename_i len hlen
          injection h with h; subst h
          intro ob nn H' hk hp
          dsimp only at hk
          split at hk
          · rename_i cs k hs
            replace hk := bif_ok hk; obtain ⟨hc, hk⟩ := hk
            simp only [Bool.and_eq_true] at hc
            injection hk with hk; subst hk
            have e1 := Nat.eq_of_beq_eq_true hc.1
            subst e1
            exact op_append0S _ hn hzl' hx hy (src_bif hs) (by omega) (room hnb1 hc.2).1 hp
          · cases hk
        · rename_i j ver len k2 hlen
          injection h with h; subst h
          intro ob v ob' hH hk
          dsimp only at hk
          split at hk
          · rename_i cs2 k acc n' ver' cs hs
            replace hk := bif_ok hk; obtain ⟨hc, hk⟩ := hk
            simp only [Bool.and_eq_true] at hc
            injection hk with hk; injection hk with e1 e2; subst e1; subst e2
            have e1 := Nat.eq_of_beq_eq_true hc.1.1
            have e2 := Nat.eq_of_beq_eq_true hc.1.2
            subst e1; subst e2
            exact op_appendRS hzl' hx hy (src_bif hs) hH (room hnb1 hc.2).1 (room hnb1 hc.2).2
          · cases hk
        · cases h
      | false =>
        simp only [hTU, cond_false] at h
        split at h
        · rename_i kk kk2 len hk1
          have := tyIntE_of hk1
          replace h := bif_ok h; obtain ⟨hc, h⟩ := h
          simp only [Bool.and_eq_true] at hc
          injection h with h; subst h
          intro ob nn H' hk hp
          dsimp only at hk
          injection hk with hk; subst hk
          have e0 := kindEqB_eq hc.1.1
          subst e0
          exact op_appendZP hn hzl' hx hy (blt_lt hc.1.2) (room hnb1 hc.2).1 (room hnb1 hc.2).2 hp
        · cases h
    · cases h
end
end Go.Mt

set_option linter.unusedVariables false
set_option linter.unusedSimpArgs false
namespace Go.Mt

section
variable {X : Ctx} {st : St} {dst : Option Nat} {ty : Nat} {pos : String} {af : Array Edge} {g : Option (Nat × Bool)} {C : Cfg}

theorem bound_some {ev : Operand → Option V} {o : Option Operand} {n : Nat} (h : bound ev o = some (some n)) : ∃ y k, o = some y ∧ ev y = some (.m (.d (.int k (.ofNat n)))) := by
  unfold bound at h
  cases o with
  | none => simp at h
  | some y =>
    dsimp only at h
    split at h
    · rename_i k i hy
      injection h with h; injection h with h; subst h
      exact ⟨y, k, rfl, hy⟩
    · cases h
theorem bound_none {ev : Operand → Option V} {o : Option Operand} (h : bound ev o = some none) : o = none := by
  unfold bound at h
  cases o with
  | none => rfl
  | some y =>
    dsimp only at h
    split at h <;> simp at h

theorem denSlice_sound (hP : C.P = X.P) {T : Nat} {x : Operand} {lo hi mx : Option Operand} {l h k : Option Nat} {m : M} {dn : Dn} (hx : st.ev x = some (.m m)) (hl : bound st.ev lo = some l) (hh : bound st.ev hi = some h) (hm : bound st.ev mx = some k)
    (hd : denSlice C.P C T m l h k = .ok dn) : OpA X ⟨dst, .slice T x lo hi mx, ty, pos, af, g⟩ st dn := by
  unfold denSlice at hd
  rw [hP] at hd
  split at hd
  · split at hd
    · rename_i e hsl
      have := tySliceE_of hsl
      split at hd
      · rename_i n hsz
        have : TySz X.P e n := ⟨hsz⟩
        replace hd := bif_ok hd; obtain ⟨hc, hd⟩ := hd
        injection hd with hd; subst hd
        have := bound_none hl
        subst this
        obtain ⟨y, kk, rfl, hy⟩ := bound_some hh
        obtain ⟨z, kk', rfl, hz⟩ := bound_some hm
        exact op_slice00 hx hc hy hz
      · cases hd
    · cases hd
  · have := bound_none hm
    subst this
    split at hd
    · rename_i s
      replace hd := bif_ok hd; obtain ⟨hts, hd⟩ := hd
      have := tyIsStr_of hts
      dsimp only at hd
      replace hd := bif_ok hd; obtain ⟨hc, hd⟩ := hd
      simp only [Bool.and_eq_true] at hc
      injection hd with hd; subst hd
      exact op_sliceT hx hl hh (Nat.le_of_ble_eq_true hc.1) (Nat.le_of_ble_eq_true hc.2)
    · split at hd
      · cases hd
      · rename_i e hsl
        have := tySliceE_of hsl
        split at hd
        · cases hd
        · rename_i n hsz
          have : TySz X.P e n := ⟨hsz⟩
          split at hd
          · split at hd
            · rename_i j ver len _ i
              injection hd with hd; subst hd
              intro ob v ob' hH hk
              dsimp only at hk
              split at hk
              · replace hk := bif_ok hk; obtain ⟨hc, hk⟩ := hk
                simp only [Bool.and_eq_true] at hc
                injection hk with hk; injection hk with e1 e2; subst e1; subst e2
                have e1 := Nat.eq_of_beq_eq_true hc.1.1
                have e2 := Nat.eq_of_beq_eq_true hc.1.2
                subst e1; subst e2
                have := bound_none hl
                subst this
                obtain ⟨y, kk, rfl, hy⟩ := bound_some hh
                have := op_sliceR (X := X) (dst := dst) (ty := ty) (pos := pos) (af := af) (g := g) (t := T) false hx hy hH (by simp) (by have := Nat.le_of_ble_eq_true hc.2; simp; omega)
                simpa using this
              · cases hk
            · cases hd
          · split at hd
            · injection hd with hd; subst hd
              have := bound_none hl
              subst this
              obtain ⟨y, kk, rfl, hy⟩ := bound_some hh
              exact op_slice0 (n := n) hx (by rw [hy]; rfl)
            · cases hd
          · rename_i rows hne1 hne
            dsimp only at hd
            replace hd := bif_ok hd; obtain ⟨hc, hd⟩ := hd
            simp only [Bool.and_eq_true] at hc
            have hs := op_sliceD (X := X) (dst := dst) (ty := ty) (pos := pos) (af := af) (g := g) (t := T) hx hl hh (by rintro rfl; first | exact hne rfl | exact hne1 rfl | simp_all) (Nat.le_of_ble_eq_true hc.1.1) (Nat.le_of_ble_eq_true hc.1.2) (lenAll_eq hc.2)
            split at hd
            · rename_i hq; injection hd with hd; subst hd; rw [hq] at hs; exact hs
            · rename_i r hq hne2
              injection hd with hd; subst hd
              split at hs
              · rename_i hq2; exact absurd hq2 hne2
              · exact hs
          · cases hd

theorem evMs_one {x : Operand} {ms : List M} (h : st.evMs [x] = some ms) : ∃ m, ms = [m] ∧ st.ev x = some (.m m) := by
  simp only [St.evMs] at h
  split at h
  · rename_i m ms' h1 h2
    injection h2 with h2; subst h2
    injection h with h; subst h
    exact ⟨m, rfl, h1⟩
  · cases h
theorem evMs_cons {x : Operand} {r : List Operand} {ms : List M} (h : st.evMs (x :: r) = some ms) : ∃ m ms', ms = m :: ms' ∧ st.ev x = some (.m m) ∧ st.evMs r = some ms' := by
  simp only [St.evMs] at h
  split at h
  · rename_i m ms' h1 h2
    injection h with h; subst h
    exact ⟨m, ms', rfl, h1, h2⟩
  · cases h
theorem evMs_nil {ms : List M} (h : st.evMs [] = some ms) : ms = [] := by simp [St.evMs] at h; exact h
theorem evMs_len : ∀ {xs : List Operand} {ms : List M}, st.evMs xs = some ms → ms.length = xs.length
  | [], ms, h => by rw [evMs_nil h]; rfl
  | x :: r, ms, h => by
    obtain ⟨m, ms', rfl, _, h2⟩ := evMs_cons h
    simp [evMs_len h2]

theorem denBuiltin_sound (hP : C.P = X.P) {b : Builtin} {args : List Operand} {ms : List M} {tys : List Nat} {dn : Dn} (he : st.evMs args = some ms) (h : denBuiltin C.P C dst b ms tys = .ok dn) :
    OpA X ⟨dst, .call ⟨.builtin b, args.toArray, tys.toArray⟩, ty, pos, af, g⟩ st dn := by
  unfold denBuiltin at h
  rw [hP] at h
  have one : ∀ m, ms = [m] → ∃ x, args = [x] ∧ st.ev x = some (.m m) := by
    intro m hm
    subst hm
    have hl := evMs_len he
    match args, hl with
    | [x], _ =>
      obtain ⟨m', h1, h2⟩ := evMs_one he
      injection h1 with h1; subst h1
      exact ⟨x, rfl, h2⟩
  have two : ∀ m n, ms = [m, n] → ∃ x y, args = [x, y] ∧ st.ev x = some (.m m) ∧ st.ev y = some (.m n) := by
    intro m n hm
    subst hm
    have hl := evMs_len he
    match args, hl with
    | [x, y], _ =>
      obtain ⟨m', ms', h1, h2, h3⟩ := evMs_cons he
      injection h1 with h1 h1'; subst h1; subst h1'
      obtain ⟨n', h4, h5⟩ := evMs_one h3
      injection h4 with h4; subst h4
      exact ⟨x, y, rfl, h2, h5⟩
  split at h
  · obtain ⟨x, rfl, hx⟩ := one _ rfl
    replace h := bif_ok h; obtain ⟨hc, h⟩ := h
    have := tyIsStr_of hc
    injection h with h; subst h
    exact op_lenT hx
  · obtain ⟨x, rfl, hx⟩ := one _ rfl
    split at h
    · rename_i e hs
      have := tySliceE_of hs
      injection h with h; subst h
      exact op_lenR hx
    · cases h
  · obtain ⟨x, rfl, hx⟩ := one _ rfl
    split at h
    · rename_i e n hs hn
      have := tySliceE_of hs
      injection h with h; subst h
      exact op_lenS hx hn
    · cases h
  · obtain ⟨x, rfl, hx⟩ := one _ rfl
    split at h
    · rename_i e hs
      have := tySliceE_of hs
      injection h with h; subst h
      exact op_cap0 hx
    · cases h
  · obtain ⟨x, y, rfl, hx, hy⟩ := two _ _ rfl
    replace h := bif_ok h; obtain ⟨hc, h⟩ := h
    have := kindEqB_eq hc; subst this
    injection h with h; subst h
    exact op_max hx hy
  · obtain ⟨x, y, rfl, hx, hy⟩ := two _ _ rfl
    replace h := bif_ok h; obtain ⟨hc, h⟩ := h
    have := kindEqB_eq hc; subst this
    injection h with h; subst h
    exact op_min hx hy
  · obtain ⟨x, y, rfl, hx, hy⟩ := two _ _ rfl
    exact denAppend_sound hP hx hy (by rw [hP]; exact h)
  · obtain ⟨x, rfl, hx⟩ := one _ rfl
    replace h := bif_ok h; obtain ⟨hc, h⟩ := h
    injection h with h; subst h
    intro ob v ob' hH hk
    dsimp only at hk
    split at hk
    · injection hk with hk; injection hk with e1 e2; subst e1; subst e2
      exact op_clear (Nat.eq_of_beq_eq_true hc) hx hH
    · cases hk
  · cases h

theorem den_sound (hC : CfgOk C) (hP : C.P = X.P) {op : Op} {ev : Operand → Option V} {dn : Dn} (hev : ∀ x ∈ op.operands.toList, st.ev x = ev x) (h : den C.P C dst op ev = .ok dn) : OpA X ⟨dst, op, ty, pos, af, g⟩ st dn := by
  unfold den at h
  split at h
  -- move
  · rename_i x
    have hx := hev x (by simp [Op.operands])
    split at h
    · rename_i v hv; rw [hv] at hx; injection h with h; subst h; exact op_move hx
    · cases h
  -- assign
  · rename_i x
    have hx := hev x (by simp [Op.operands])
    split at h
    · rename_i v hv; rw [hv] at hx; injection h with h; subst h; exact op_assign hx
    · cases h
  -- pick
  · rename_i c x y
    have hc := hev c (by simp [Op.operands])
    have hx := hev x (by simp [Op.operands])
    have hy := hev y (by simp [Op.operands])
    split at h
    · rename_i b hb
      rw [hb] at hc
      split at h
      · rename_i v hv
        injection h with h; subst h
        cases b with
        | true => exact op_pick_t hc (hx.trans hv)
        | false => exact op_pick_f hc (hy.trans hv)
      · cases h
    · cases h
  -- alloc
  · rename_i T
    split at h
    · rename_i z hz
      rw [hP] at hz
      have : TyZero X.P T z := tyZero_of hz
      cases hh : Nat.beq (C.hint (dst.getD 0)) 1 with
      | true =>
        simp only [hh, cond_true] at h
        injection h with h; subst h
        intro ob n H' hk hp
        dsimp only at hk
        injection hk with hk; subst hk
        exact op_allocP hp
      | false =>
        simp only [hh, cond_false] at h
        injection h with h; subst h
        intro d hd
        have hd' : dst = some d := hd
        subst hd'
        exact op_alloc
    · cases h
  -- box
  · rename_i T x
    have hx := hev x (by simp [Op.operands])
    split at h
    · rename_i m hm
      rw [hm] at hx
      split at h
      · rename_i cs hcs
        obtain ⟨e1, e2⟩ := cellsO_eq hcs
        cases hh : Nat.beq (C.hint (dst.getD 0)) 1 with
        | true =>
          simp only [hh, cond_true] at h
          injection h with h; subst h
          intro ob n H' hk hp
          dsimp only at hk
          injection hk with hk; subst hk
          exact op_boxP hx e2 (by rw [e1]; exact hp)
        | false =>
          simp only [hh, cond_false] at h
          cases hh2 : Nat.beq (C.hint (dst.getD 0)) 2 with
          | true =>
            simp only [hh2, cond_true] at h
            split at h
            · injection h with h; subst h; exact op_box hx
            · cases h
          | false =>
            simp only [hh2, cond_false] at h
            injection h with h; subst h
            intro d hd
            have hd' : dst = some d := hd
            subst hd'
            have := op_boxL (X := X) (T := T) (d := d) (ty := ty) (pos := pos) (af := af) (g := g) hx e2
            rw [e1] at this
            exact this
      · cases h
    · cases h
  -- build
  · rename_i T parts
    split at h
    · rename_i ms ps z hms hps hz
      rw [hP] at hps hz
      have : TyStruct X.P T ps z := ⟨hps, hz⟩
      have he := partsL_eq (st := st) (fun p hp => hev p.2 (by simp only [Op.operands, List.mem_map]; exact ⟨p, hp, rfl⟩)) hms
      split at h
      · rename_i cs hcs
        injection h with h; subst h
        have := op_build (X := X) (T := T) (dst := dst) (ty := ty) (pos := pos) (af := af) (g := g) he (fillO_eq hcs)
        exact this
      · cases h
    · rename_i ms z hms hnp hz
      rw [hP] at hz
      have he := partsL_eq (st := st) (fun p hp => hev p.2 (by simp only [Op.operands, List.mem_map]; exact ⟨p, hp, rfl⟩)) hms
      split at h
      · rename_i len e hA
        rw [hP] at hA
        split at h
        · rename_i n hsz
          rw [hP] at hsz
          have : TySz X.P e n := ⟨hsz⟩
          split at h
          · rename_i cs hcs
            injection h with h; subst h
            exact op_buildArr (X := X) (parts := parts.toList) (tyArr_eq hA) hz he hcs
          · cases h
        · cases h
      · cases h
    · cases h
  -- buildSlice
  · rename_i T len parts
    split at h
    · rename_i ms hms
      have he := partsL_eq (st := st) (fun p hp => hev p.2 (by simp only [Op.operands, List.mem_map]; exact ⟨p, hp, rfl⟩)) hms
      exact denBuildSlice_sound hP he h
    · cases h
  -- load of a global
  · rename_i T gl
    injection h with h; subst h
    intro v hv
    dsimp only at hv
    split at hv
    · rename_i g' k m tt r hH
      replace hv := bif_ok hv; obtain ⟨hg, hv⟩ := hv
      have := Nat.eq_of_beq_eq_true hg
      subst this
      split at hv
      · rename_i r' hr
        injection hv with hv; subst hv
        exact op_loadG (i := 0) (k := k) (m := m) (tt := tt) (by rw [hH]; rfl) (by rw [hP] at hr; exact hr)
      · cases hv
    · cases hv
  -- load
  · rename_i T x hng
    have hx := hev x (by simp [Op.operands])
    split at h
    · rename_i v hv; rw [hv] at hx; exact denLoad_sound hP hx h
    · cases h
  -- store
  · rename_i T x y
    have hx := hev x (by simp [Op.operands])
    have hy := hev y (by simp [Op.operands])
    split at h
    · rename_i v m hv hm; rw [hv] at hx; rw [hm] at hy; exact denStore_sound hP hx hy h
    · cases h
  -- nilCheck
  · rename_i x
    have hx := hev x (by simp [Op.operands])
    split at h
    · rename_i v hv
      rw [hv] at hx
      replace h := bif_ok h; obtain ⟨hc, h⟩ := h
      injection h with h; subst h
      exact op_nilCheck hx hc
    · cases h
  -- binOp
  · rename_i o xt x y yt
    have hx := hev x (by simp [Op.operands])
    have hy := hev y (by simp [Op.operands])
    split at h
    · rename_i v u hv hu
      rw [hv] at hx; rw [hu] at hy
      rw [hP] at h
      exact denBin_sound hx hy h
    · cases h
  -- not, neg
  · rename_i o xt x
    have hx := hev x (by simp [Op.operands])
    split at h
    · rename_i b hb; rw [hb] at hx; injection h with h; subst h; exact op_not hx
    · rename_i k n hb; rw [hb] at hx; injection h with h; subst h; exact op_neg hx
    · cases h
  -- convert
  · rename_i s t x
    have hx := hev x (by simp [Op.operands])
    split at h
    · rename_i k n hn
      rw [hn] at hx
      split at h
      · rename_i k0 k' h1 h2
        rw [hP] at h1 h2
        have := tyIntE_of h1
        have := tyIntE_of h2
        injection h with h; subst h
        exact op_convI hx
      · cases h
    · rename_i m hne hm
      rw [hm] at hx
      split at h
      · rename_i e hs
        rw [hP] at hs
        have := tySliceE_of hs
        replace h := bif_ok h; obtain ⟨hc, h⟩ := h
        rw [hP] at hc
        have := tyIsStr_of hc
        split at h
        · rename_i hk
          rw [hP] at hk
          have := tyIntE_of hk
          injection h with h; subst h
          intro v hk
          dsimp only at hk
          split at hk
          · rename_i rows hv
            split at hk
            · rename_i ns hb
              injection hk with hk; subst hk
              exact op_b2sV hx hv hb
            · cases hk
          · cases hk
        · cases h
      · cases h
    · cases h
  -- makeInterface
  · rename_i xt x
    have hx := hev x (by simp [Op.operands])
    split at h
    · rename_i d hd
      rw [hd] at hx; rw [hP] at h
      replace h := bif_ok h; obtain ⟨hc, h⟩ := h
      injection h with h; subst h
      exact op_makeIface hc hx
    · cases h
  -- makeFunc
  · rename_i fn first caps
    split at h
    · rename_i f hfirst
      have hf0 : first = #[] := by cases first; simpa using hfirst
      subst hf0
      split at h
      · rename_i ms hms
        have he := evL_eq (st := st) (fun x hx => hev x (by simpa [Op.operands] using hx)) hms
        split at h
        · rename_i ds hds
          injection h with h; subst h
          have hD : st.evDs caps.toList = some ds := by
            have key : ∀ (xs : List Operand) (ms : List M) (ds : List D), st.evMs xs = some ms → allD ms = some ds → st.evDs xs = some ds := by
              intro xs
              induction xs with
              | nil => intro ms ds h1 h2; rw [evMs_nil h1] at h2; simp [allD] at h2; subst h2; rfl
              | cons x r ih =>
                intro ms ds h1 h2
                obtain ⟨m, ms', rfl, h3, h4⟩ := evMs_cons h1
                cases m with
                | d d =>
                  simp only [allD, Option.map_eq_some_iff] at h2
                  obtain ⟨ds', h5, rfl⟩ := h2
                  simp [St.evDs, h3, ih _ _ h4 h5]
                | _ => simp [allD] at h2
            exact key _ _ _ he hds
          exact op_makeFunc (caps := caps.toList) hD
        · replace h := bif_ok h; obtain ⟨hlt, h⟩ := h
          injection h with h; subst h
          exact op_makeFuncM (caps := caps.toList) he (blt_lt hlt)
      · cases h
    · rename_i f x r hfirst
      split at h
      · rename_i ms hcaps hms
        injection h with h; subst h
        have hc0 : caps = #[] := by cases caps; simpa using hcaps
        subst hc0
        have he := evL_eq (st := st) (xs := first.toList) (fun y hy => hev y (by simp [Op.operands]; simpa using hy)) (by rw [hfirst]; exact hms)
        exact op_makeFuncB (firsts := first.toList) he
      · cases h
    · cases h
  -- makeMap
  · rename_i T r
    split at h
    · cases h
    · injection h with h; subst h
      intro ob n H' hk hp
      dsimp only at hk
      injection hk with hk; subst hk
      exact op_makeMapP hp
  -- range
  · rename_i T x
    have hx := hev x (by simp [Op.operands])
    replace h := bif_ok h; obtain ⟨ht, h⟩ := h
    rw [hP] at ht
    split at h
    · rename_i i h1
      rw [h1] at hx
      injection h with h; subst h
      intro ob n H' hk hp
      dsimp only at hk
      injection hk with hk; subst hk
      exact op_rangeP (Nat.eq_of_beq_eq_true ht) hx (.inr ⟨i, rfl⟩) hp
    · rename_i h1
      rw [h1] at hx
      injection h with h; subst h
      intro ob n H' hk hp
      dsimp only at hk
      injection hk with hk; subst hk
      exact op_rangeP (Nat.eq_of_beq_eq_true ht) hx (.inl rfl) hp
    · cases h
  -- next
  · rename_i x s
    have hx := hev x (by simp [Op.operands])
    split at h
    · rename_i i h1
      rw [h1] at hx
      injection h with h; subst h
      intro v hk
      dsimp only at hk
      replace hk := bif_ok hk; obtain ⟨hn, hk⟩ := hk
      injection hk with hk; subst hk
      exact op_nextOver hx hn
    · cases h
  -- makeSlice
  · rename_i T x y
    have hx := hev x (by simp [Op.operands])
    have hy := hev y (by simp [Op.operands])
    split at h
    · rename_i k1 l k2 c e h1 h2 h3
      rw [h1] at hx; rw [h2] at hy
      rw [hP] at h3
      have := tySliceE_of h3
      split at h
      · rename_i n nb z hsz hnb hz
        rw [hP] at hsz hnb hz
        have : TySz X.P e n := ⟨hsz⟩
        have : TyB X.P e nb := ⟨hnb⟩
        have : TyZ X.P e z := ⟨hz⟩
        replace h := bif_ok h; obtain ⟨hc, h⟩ := h
        simp only [Bool.and_eq_true] at hc
        obtain ⟨⟨⟨⟨hlc, hn⟩, hzl⟩, hnb1⟩, hl1⟩ := hc
        have e1 := Nat.eq_of_beq_eq_true hlc
        subst e1
        injection h with h; subst h
        intro ob nn H' hk hp
        dsimp only at hk
        injection hk with hk; subst hk
        exact op_makeSliceP hn (Nat.eq_of_beq_eq_true hzl) hx hy (room hnb1 hl1).1 (room hnb1 hl1).2 hp
      · cases h
    · cases h
  -- slice
  · rename_i T x lo hi mx
    have hx := hev x (by simp [Op.operands])
    have hb : ∀ (o : Option Operand) l, (∀ y, o = some y → st.ev y = ev y) → bound ev o = some l → bound st.ev o = some l := by
      intro o l hy hl
      unfold bound at hl ⊢
      cases o with
      | none => exact hl
      | some y => dsimp only at hl ⊢; rw [hy y rfl]; exact hl
    split at h
    · rename_i m l hh k hm hl hh2 hk
      rw [hm] at hx
      exact denSlice_sound hP hx (hb lo _ (fun y hy => hev y (by simp [Op.operands, hy])) hl) (hb hi _ (fun y hy => hev y (by simp [Op.operands, hy])) hh2) (hb mx _ (fun y hy => hev y (by simp [Op.operands, hy])) hk) h
    · cases h
  -- fieldAddr
  · rename_i s x f
    have hx := hev x (by simp [Op.operands])
    split at h
    · rename_i cs off o hv ho
      rw [hv] at hx; rw [hP] at ho
      have := tyFieldE_of ho
      injection h with h; subst h; exact op_fieldD hx
    · rename_i t off o hv ho
      rw [hv] at hx; rw [hP] at ho
      have := tyFieldE_of ho
      injection h with h; subst h; exact op_fieldL hx
    · rename_i i off o hv ho
      rw [hv] at hx; rw [hP] at ho
      have := tyFieldE_of ho
      injection h with h; subst h; exact op_fieldR hx
    · rename_i i ver off o hv ho
      rw [hv] at hx; rw [hP] at ho
      have := tyFieldE_of ho
      injection h with h; subst h; exact op_fieldW hx
    · cases h
  -- field
  · rename_i s x f
    have hx := hev x (by simp [Op.operands])
    split at h
    · rename_i m hm
      rw [hm] at hx
      split at h
      · rename_i ft off cs hft hcs
        rw [hP] at hft
        split at h
        · rename_i r hr
          rw [hP] at hr
          injection h with h; subst h
          exact op_field hx hft hcs hr
        · cases h
      · cases h
    · cases h
  -- indexAddr
  · rename_i T x y
    have hx := hev x (by simp [Op.operands])
    have hy := hev y (by simp [Op.operands])
    split at h
    · rename_i len e hA
      rw [hP] at hA
      split at h
      · rename_i v k i n h1 h2 h3
        rw [h1] at hx; rw [h2] at hy; rw [hP] at h3
        have : TySz X.P e n := ⟨h3⟩
        split at h
        · rename_i u hu
          replace h := bif_ok h; obtain ⟨hc, h⟩ := h
          injection h with h; subst h
          exact op_indexA (tyArr_eq hA) hx hy (blt_lt hc) hu
        · cases h
      · cases h
    split at h
    · rename_i rows k i e h1 h2 h3
      rw [h1] at hx; rw [h2] at hy; rw [hP] at h3
      have := tySliceE_of h3
      split at h
      · rename_i n r hsz hr
        rw [hP] at hsz
        have : TySz X.P e n := ⟨hsz⟩
        replace h := bif_ok h; obtain ⟨hc, h⟩ := h
        injection h with h; subst h
        exact op_indexD hx hy (by simp) (by simpa using hr) (Nat.eq_of_beq_eq_true hc)
      · cases h
    · rename_i j ver len k i e h1 h2 h3
      rw [h1] at hx; rw [h2] at hy; rw [hP] at h3
      have := tySliceE_of h3
      split at h
      · rename_i n hsz
        rw [hP] at hsz
        have : TySz X.P e n := ⟨hsz⟩
        injection h with h; subst h
        intro ob v hH hk
        dsimp only at hk
        split at hk
        · replace hk := bif_ok hk; obtain ⟨hc, hk⟩ := hk
          simp only [Bool.and_eq_true] at hc
          injection hk with hk; subst hk
          have e1 := Nat.eq_of_beq_eq_true hc.1.1
          have e2 := Nat.eq_of_beq_eq_true hc.1.2
          subst e1; subst e2
          have := op_indexR (X := X) (t := T) (dst := dst) (ty := ty) (pos := pos) (af := af) (g := g) hx hy hH (by simp) (by have := blt_lt hc.2; simp; omega)
          simpa using this
        · cases hk
      · cases h
    · cases h
  -- lookup
  · rename_i T x y ok
    have hx := hev x (by simp [Op.operands])
    have hy := hev y (by simp [Op.operands])
    split at h
    · rename_i i k e h1 h2 h3
      rw [h1] at hx; rw [h2] at hy; rw [hP] at h3
      have := tyMapE_of h3
      split at h
      · rename_i z hz
        rw [hP] at hz
        have : TyZ X.P e z := ⟨hz⟩
        injection h with h; subst h
        intro ob v hH hk
        dsimp only at hk
        split at hk
        · rename_i es
          replace hk := bif_ok hk; obtain ⟨hc, hk⟩ := hk
          rw [lookE_eq] at hk
          cases ok with
          | true =>
            simp only [cond_true] at hk
            injection hk with hk; subst hk
            exact op_lookup2 hx hy hH hc
          | false =>
            simp only [cond_false] at hk
            injection hk with hk; subst hk
            exact op_lookup1 hx hy hH hc
        · cases hk
      · cases h
    · rename_i i j o h1 h2
      rw [h1] at hx; rw [h2] at hy
      split at h
      · rename_i e he
        rw [hP] at he
        obtain ⟨kt, g1, g2⟩ := tyMapP_ex he
        split at h
        · rename_i z hz
          rw [hP] at hz
          have : TyZ X.P e z := ⟨hz⟩
          injection h with h; subst h
          intro ob v hH hk
          dsimp only at hk
          split at hk
          · replace hk := bif_ok hk; obtain ⟨hc, hk⟩ := hk
            injection hk with hk; subst hk
            exact op_lookupP g1 g2 hx hy hH hc
          · cases hk
        · cases h
      · cases h
    · rename_i k e h1 h2 h3
      rw [h1] at hx; rw [h2] at hy; rw [hP] at h3
      have := tyMapE_of h3
      split at h
      · rename_i z hz
        rw [hP] at hz
        have : TyZ X.P e z := ⟨hz⟩
        injection h with h; subst h
        exact op_lookupNil hx hy
      · cases h
    · cases h
  -- index
  · rename_i T x y
    have hx := hev x (by simp [Op.operands])
    have hy := hev y (by simp [Op.operands])
    split at h
    · rename_i s k i h1 h2
      rw [h1] at hx; rw [h2] at hy
      replace h := bif_ok h; obtain ⟨hc, h⟩ := h
      rw [hP] at hc
      have := tyIsStr_of hc
      split at h
      · rename_i b hb
        injection h with h; subst h
        exact op_index hx hy hb
      · cases h
    · rename_i m k i hne h1 h2
      rw [h1] at hx; rw [h2] at hy
      split at h
      · rename_i len e cs hA hcs
        rw [hP] at hA
        split at h
        · rename_i n hsz
          rw [hP] at hsz
          have : TySz X.P e n := ⟨hsz⟩
          replace h := bif_ok h; obtain ⟨hc, h⟩ := h
          split at h
          · rename_i r hr
            rw [hP] at hr
            injection h with h; subst h
            exact op_indexArr (tyArr_eq hA) hx hy hcs (blt_lt hc) hr
          · cases h
        · cases h
      · cases h
    · cases h
  -- mapUpdate
  · rename_i T x y z
    have hx := hev x (by simp [Op.operands])
    have hy := hev y (by simp [Op.operands])
    have hz := hev z (by simp [Op.operands])
    split at h
    · rename_i i k m h1 h2 h3
      rw [h1] at hx; rw [h2] at hy; rw [h3] at hz
      split at h
      · rename_i e he
        rw [hP] at he
        have := tyMapE_of he
        injection h with h; subst h
        intro ob v ob' hH hk
        dsimp only at hk
        split at hk
        · replace hk := bif_ok hk; obtain ⟨hc, hk⟩ := hk
          injection hk with hk; injection hk with e1 e2; subst e1; subst e2
          rw [updE_eq]
          exact op_mapUpdate hx hy hz hH hc
        · cases hk
      · cases h
    · rename_i i j o m h1 h2 h3
      rw [h1] at hx; rw [h2] at hy; rw [h3] at hz
      split at h
      · rename_i e he
        rw [hP] at he
        obtain ⟨kt, g1, g2⟩ := tyMapP_ex he
        injection h with h; subst h
        intro ob v ob' hH hk
        dsimp only at hk
        split at hk
        · replace hk := bif_ok hk; obtain ⟨hc, hk⟩ := hk
          injection hk with hk; injection hk with e1 e2; subst e1; subst e2
          exact op_mapUpdateP g1 g2 hx hy hz hH hc
        · cases hk
      · cases h
    · cases h
  -- extract
  · rename_i x i
    have hx := hev x (by simp [Op.operands])
    split at h
    · rename_i vs hv
      rw [hv] at hx
      split at h
      · rename_i m hm; injection h with h; subst h; exact op_extract hx hm
      · cases h
    · cases h
  -- call
  · rename_i c
    obtain ⟨callee, args, tys⟩ := c
    dsimp only at h
    split at h
    · rename_i b
      have hargs : ∀ x ∈ args.toList, st.ev x = ev x := fun x hx => hev x (by simp [Op.operands, Call.operands]; simpa using hx)
      split at h
      · rename_i ms hms
        exact denBuiltin_sound (args := args.toList) (tys := tys.toList) hP (evL_eq hargs hms) h
      · cases h
    · rename_i f
      have hargs : ∀ x ∈ args.toList, st.ev x = ev x := fun x hx => hev x (by simp [Op.operands, Call.operands]; right; simpa using hx)
      split at h
      · rename_i ms hms
        exact denCall_sound hC hP (fun hf => enters_func (args := args.toList) (evL_eq hargs hms)) h
      · cases h
    · rename_i x hne
      have hargs : ∀ x ∈ args.toList, st.ev x = ev x := fun x hx => hev x (by simp [Op.operands, Call.operands]; right; simpa using hx)
      have hx := hev x (by simp [Op.operands, Call.operands])
      split at h
      · rename_i f cs ms hv hms
        rw [hv] at hx
        exact denCall_sound hC hP (fun hf => enters_fnD (args := args.toList) hx (evL_eq hargs hms)) h
      · rename_i f cs ms hv hms
        rw [hv] at hx
        cases hb : Nat.blt f 1024 with
        | true =>
          rw [hb] at h
          exact denCall_sound hC hP (fun hf => enters_fnM (args := args.toList) hx (evL_eq hargs hms) (blt_lt hb)) h
        | false =>
          rw [hb] at h
          have hge : 1024 ≤ f := by rcases Nat.lt_or_ge f 1024 with h1 | h1; rw [← Nat.blt_eq] at h1; rw [h1] at hb; cases hb; exact h1
          exact denCall_sound hC hP (fun hf => enters_fnB (args := args.toList) hx (evL_eq hargs hms) (by omega)) h
      · cases h
    · cases h
  · cases h
end
end Go.Mt

set_option linter.unusedVariables false
set_option linter.unusedSimpArgs false
namespace Go.Mt

section
variable {X : Ctx} {ops : Array Oper} {C : Cfg}

def putv (d : Option Nat) (v : V) (s : St) : St := match d with
  | some t => ⟨(t, v) :: s.sl, s.bx, s.H⟩
  | none => s

theorem putS_ok {n : Nat} {d : Option Nat} {v : V} {s s' : St} (h : putS n d v s = .ok s') : s' = putv d v s ∧ ∀ t, d = some t → t < n := by
  unfold putS at h
  cases d with
  | none => simp only at h; injection h with h; exact ⟨h.symm, by simp⟩
  | some t =>
    simp only at h
    replace h := bif_ok h; obtain ⟨hc, h⟩ := h
    injection h with h
    exact ⟨h.symm, fun u hu => by injection hu with hu; subst hu; exact blt_lt hc⟩

theorem wantsE_eq {o : Oper} {st : St} {b : Bool} (h : wantsE ops o st.sl = some b) : wants ops o st = some b := by
  unfold wantsE at h
  simp only [getF_eq] at h
  unfold wants
  split at h
  · rename_i hg; simp only [hg]; exact h
  · rename_i j want hg
    simp only [hg]
    split at h
    · rename_i q hq
      simp only [hq, Option.bind_some]
      split at h
      · rename_i gg hgg
        simp only [hgg]
        split at h
        · rename_i b' hb; simp only [hb]; exact h
        · rename_i hb; simp only [hb]; exact h
        · cases h
      · cases h
    · cases h

theorem opS_of {o : Oper} {st s : St} {v : V} (hw : wants ops o st = some true) (hd : ∀ t, o.dst = some t → t < X.n) (h : OpT X o st (eqp v s)) : OpS X ops o st (putv o.dst v s) := by
  rintro a w ⟨σ, lam, rfl, hi⟩ K Q hK
  rw [if_pos (hi.wanted hw)]
  refine (h a σ lam hi).wp ?_
  rintro u w' ⟨v', s', σ', lam', ⟨rfl, rfl⟩, rfl, h3, h4⟩
  cases hdd : o.dst with
  | none => exact hK _ _ ⟨σ', lam', rfl, by unfold putv; rw [hdd]; exact h3⟩
  | some t => exact hK _ _ ⟨σ', lam', rfl, by unfold putv; rw [hdd]; exact h3.set (hd t hdd) h4⟩
theorem opS_skip {o : Oper} {st : St} (hw : wants ops o st = some false) (hd : ∀ t, o.dst = some t → t < X.n) : OpS X ops o st (putv o.dst (.m (.tup [])) st) := by
  rintro a w ⟨σ, lam, rfl, hi⟩ K Q hK
  rw [if_neg (by rw [hi.wanted hw]; simp)]
  cases hdd : o.dst with
  | none => exact hK _ _ ⟨σ, lam, rfl, by unfold putv; rw [hdd]; exact hi⟩
  | some t => exact hK _ _ ⟨σ, lam, rfl, by unfold putv; rw [hdd]; exact hi.set (hd t hdd) (.m (.tup [] #[] rfl (by intro i m v h; simp at h)))⟩

theorem TL.ofS {o : Oper} {rest : List Oper} {st s : St} {post : St → Prop} (h : OpS X ops o st s) (k : TL X ops rest s post) : TL X ops (o :: rest) st post := by
  intro a w hi
  unfold wpList
  have h1 := h a w hi (fun a' w' => wpList X.P ops (fun e a' w' => e = .normal ∧ ∃ st', post st' ∧ Inv X st' a' w') rest a' w') (fun e a' w' => e = .normal ∧ ∃ st', post st' ∧ Inv X st' a' w') (fun a' w' hi' => k a' w' hi')
  split
  · rename_i hw; rw [if_pos hw] at h1; exact .inl h1
  · rename_i hw; rw [if_neg hw] at h1; exact h1

theorem noLoc_clear {d : Nat} : ∀ {l : List (Nat × V)}, noLoc d l = true → clearLoc d l = l := by
  intro l
  induction l with
  | nil => intro _; rfl
  | cons x l ih =>
    obtain ⟨k, v⟩ := x
    cases v with
    | m m => intro h; simp only [noLoc] at h; simp [clearLoc, ih h]
    | tl e1 e2 e3 e4 => intro h; simp only [noLoc] at h; simp [clearLoc, ih h]
    | loc u o => intro h; simp only [noLoc, Bool.and_eq_true, Bool.not_eq_true'] at h; simp [clearLoc, h.1, ih h.2]

/-- the old objects, but those that are listed, are as they were -/
def FrB (B : Nat) (H0 H : Hp) (ws : List Nat) : Prop := B ≤ H.length ∧ ∀ i, i < B → i ∉ ws → H[i]? = H0[i]?

theorem mem_addW {B i j : Nat} {ws : List Nat} (h : j ∈ ws) : j ∈ addW B i ws := by
  unfold addW
  cases (Nat.blt i B && !has ws i) <;> simp [h]
theorem self_addW {B i : Nat} {ws : List Nat} (h : i < B) : i ∈ addW B i ws := by
  unfold addW
  have : Nat.blt i B = true := by rw [Nat.blt_eq]; exact h
  cases hh : has ws i with
  | true => simp [this]; exact has_iff.1 hh
  | false => simp [this]
theorem mem_addWs {B j : Nat} : ∀ {us ws : List Nat}, j ∈ ws → j ∈ addWs B us ws
  | [], ws, h => h
  | i :: r, ws, h => mem_addWs (us := r) (mem_addW h)
theorem new_addWs {B j : Nat} (hj : j < B) : ∀ {us ws : List Nat}, j ∈ us → j ∈ addWs B us ws
  | i :: r, ws, h => by
    simp only [List.mem_cons] at h
    rcases h with rfl | h
    · exact mem_addWs (us := r) (self_addW hj)
    · exact new_addWs hj (us := r) h

theorem FrB.set {B i : Nat} {H0 H : Hp} {ws : List Nat} {ob : Ob} (h : FrB B H0 H ws) : FrB B H0 (H.set i ob) (addW B i ws) := by
  refine ⟨by simp [h.1], fun j hj hn => ?_⟩
  have hji : j ≠ i := by rintro rfl; exact hn (self_addW hj)
  rw [List.getElem?_set_ne (Ne.symm hji)]
  exact h.2 j hj fun hm => hn (mem_addW hm)
theorem FrB.app {B : Nat} {H0 H : Hp} {ws : List Nat} {l : Hp} (h : FrB B H0 H ws) : FrB B H0 (H ++ l) ws := by
  refine ⟨by have := h.1; simp; omega, fun j hj hn => ?_⟩
  rw [List.getElem?_append_left (by have := h.1; omega)]
  exact h.2 j hj hn
theorem FrB.call {B : Nat} {H0 H H' : Hp} {us ws : List Nat} (h : FrB B H0 H ws) (hf : Frm H H' us) : FrB B H0 H' (addWs B us ws) := by
  refine ⟨Nat.le_trans h.1 hf.1, fun j hj hn => ?_⟩
  rw [hf.2 j (Nat.lt_of_lt_of_le hj h.1) fun hm => hn (new_addWs hj hm)]
  exact h.2 j hj fun hm => hn (mem_addWs hm)

theorem stepD_ok {o : Oper} {B : Nat} {st s : St} {ws us : List Nat} {dn : Dn} {v : V} (ha : OpA X o st dn) (h : stepD o.dst B st ws dn = .ok (v, s, us)) :
    OpT X o st (eqp v s) ∧ ∀ H0, FrB B H0 st.H ws → FrB B H0 s.H us := by
  unfold stepD at h
  cases dn with
  | val w => simp only at h; injection h with h; injection h with e1 e2; injection e2 with e2 e3; subst e1; subst e2; subst e3; exact ⟨ha, fun _ h => h⟩
  | ld t k =>
    simp only [getF_eq, nthF_eq, setF_eq, lenF_eq, appF_eq] at h
    split at h
    · rename_i cs hb
      split at h
      · rename_i w hk
        injection h with h; injection h with e1 e2; injection e2 with e2 e3; subst e1; subst e2; subst e3
        exact ⟨ha _ _ hb hk, fun _ h => h⟩
      · cases h
    · cases h
  | st t k =>
    simp only [getF_eq, nthF_eq, setF_eq, lenF_eq, appF_eq] at h
    split at h
    · rename_i cs hb
      split at h
      · rename_i cs' hk
        injection h with h; injection h with e1 e2; injection e2 with e2 e3; subst e1; subst e2; subst e3
        exact ⟨ha _ _ hb hk, fun _ h => h⟩
      · cases h
    · cases h
  | nw cs =>
    simp only at h
    split at h
    · rename_i dd hd
      replace h := bif_ok h; obtain ⟨hc, h⟩ := h
      injection h with h; injection h with e1 e2; injection e2 with e2 e3; subst e1; subst e2; subst e3
      have := ha dd hd
      rw [noLoc_clear hc] at this
      exact ⟨this, fun _ h => h⟩
    · cases h
  | rd i k =>
    simp only [getF_eq, nthF_eq, setF_eq, lenF_eq, appF_eq] at h
    split at h
    · rename_i ob hH
      split at h
      · rename_i w hk
        injection h with h; injection h with e1 e2; injection e2 with e2 e3; subst e1; subst e2; subst e3
        exact ⟨ha _ _ hH hk, fun _ h => h⟩
      · cases h
    · cases h
  | rda k =>
    simp only at h
    split at h
    · rename_i w hk
      injection h with h; injection h with e1 e2; injection e2 with e2 e3; subst e1; subst e2; subst e3
      exact ⟨ha _ hk, fun _ h => h⟩
    · cases h
  | up all i k =>
    simp only [getF_eq, nthF_eq, setF_eq, lenF_eq, appF_eq] at h
    split at h
    · rename_i ob hH
      split at h
      · rename_i w ob' hk
        injection h with h; injection h with e1 e2; injection e2 with e2 e3; subst e1; subst e2; subst e3
        exact ⟨ha _ _ _ hH hk, fun _ h => h.set⟩
      · cases h
    · cases h
  | al all k mk =>
    simp only [getF_eq, nthF_eq, setF_eq, lenF_eq, appF_eq] at h
    split at h
    · rename_i ob hk
      injection h with h; injection h with e1 e2; injection e2 with e2 e3; subst e1; subst e2; subst e3
      exact ⟨ha _ _ _ hk (.inl ⟨rfl, rfl⟩), fun _ h => h.app⟩
    · cases h
  | cl k =>
    simp only at h
    split at h
    · rename_i w H' us0 hk
      injection h with h; injection h with e1 e2; injection e2 with e2 e3; subst e1; subst e2; subst e3
      obtain ⟨h1, h2⟩ := ha _ _ _ hk
      exact ⟨h1, fun _ h => h.call h2⟩
    · cases h

theorem evOp_ok (hC : CfgOk C) (hP : C.P = X.P) {B : Nat} {o : Oper} {st s : St} {ws us : List Nat} (h : evOp C.P C X.n B ops o st ws = .ok (s, us)) :
    OpS X ops o st s ∧ ∀ H0, FrB B H0 st.H ws → FrB B H0 s.H us := by
  unfold evOp at h
  simp only [evsF_eq] at h
  split at h
  · rename_i hw
    split at h
    · rename_i dn hdn
      split at h
      · rename_i v s1 us1 hs
        split at h
        · rename_i s2 hp
          injection h with h; injection h with e1 e2; subst e1; subst e2
          obtain ⟨rfl, hd⟩ := putS_ok hp
          obtain ⟨dst, op, ty, pos, af, g⟩ := o
          have ha : OpA X ⟨dst, op, ty, pos, af, g⟩ st dn := den_sound hC hP (fun x hx => rfl) hdn
          obtain ⟨h1, h2⟩ := stepD_ok ha hs
          refine ⟨opS_of (wantsE_eq hw) hd h1, fun H0 h3 => ?_⟩
          have := h2 H0 h3
          unfold putv
          cases dst <;> exact this
        · cases h
      · cases h
    · cases h
  · rename_i hw
    split at h
    · rename_i s2 hp
      injection h with h; injection h with e1 e2; subst e1; subst e2
      obtain ⟨rfl, hd⟩ := putS_ok hp
      refine ⟨opS_skip (wantsE_eq hw) hd, fun H0 h3 => ?_⟩
      unfold putv
      cases o.dst <;> exact h3
    · cases h
  · cases h

theorem evOps_ok (hC : CfgOk C) (hP : C.P = X.P) {B : Nat} : ∀ {l : List Oper} {i : Nat} {st s : St} {ws us : List Nat}, evOps C.P C X.n B ops i l st ws = .ok (s, us) →
    (∀ post : St → Prop, post s → TL X ops l st post) ∧ ∀ H0, FrB B H0 st.H ws → FrB B H0 s.H us
  | [], i, st, s, ws, us, h => by
    simp only [evOps] at h
    injection h with h; injection h with e1 e2; subst e1; subst e2
    exact ⟨fun post hp => TL.nil hp, fun _ h => h⟩
  | o :: r, i, st, s, ws, us, h => by
    simp only [evOps] at h
    split at h
    · rename_i s1 us1 h1
      obtain ⟨h2, h3⟩ := evOp_ok hC hP h1
      obtain ⟨h4, h5⟩ := evOps_ok hC hP h
      exact ⟨fun post hp => TL.ofS h2 (h4 post hp), fun H0 hf => h5 H0 (h3 H0 hf)⟩
    · cases h

/-- free places behind the heap -/
theorem FInv.pad {σ : Sg} {lam : Nat → Nat} {st : St} {a : Act} (hi : FInv X σ lam st a) (k : Nat) : ∃ τ : Sg, τ.w = σ.w ∧ FInv X τ lam ⟨st.sl, st.bx, st.H ++ List.replicate k .free⟩ a := by
  let H' := σ.H ++ List.replicate k Ob.free
  let τ : Sg := ⟨σ.w, σ.O, σ.l, H'⟩
  have hfw : ∀ (i : Nat) ob, σ.H[i]? = some ob → H'[i]? = some ob := by
    intro i ob h
    have hlt : i < σ.H.length := lt_of_get h
    show (σ.H ++ List.replicate k Ob.free)[i]? = _
    rw [List.getElem?_append_left hlt]; exact h
  have hbw : ∀ (i : Nat) ob, H'[i]? = some ob → ob.live → σ.H[i]? = some ob := by
    intro i ob h hl
    have h' : (σ.H ++ List.replicate k Ob.free)[i]? = some ob := h
    rcases Nat.lt_or_ge i σ.H.length with hlt | hge
    · rw [List.getElem?_append_left hlt] at h'; exact h'
    · rw [List.getElem?_append_right hge, List.getElem?_replicate] at h'
      split at h'
      · injection h' with h'; subst h'; exact hl.elim
      · cases h'
  have hm : Mono σ τ := ⟨fun b o v h1 h2 => ⟨h1, h2⟩, fun i cs h => ⟨⟨cs, hfw i _ h⟩, rfl⟩, fun i cs h => ⟨⟨cs, hfw i _ h⟩, rfl⟩, fun i cs h => ⟨⟨cs, hfw i _ h⟩, rfl⟩, fun i h => hfw i _ h,
    fun i acc ec ver cs h => .inr ⟨acc, ver, cs, hfw i _ h, Nat.le_refl _, fun _ => ⟨rfl, rfl, fun arr T ha => ⟨arr, ha, rfl⟩⟩⟩, fun i h => ⟨_, hfw i _ h⟩⟩
  have hinv : HInv τ (Oof X.Oout lam st.bx) := by
    refine ⟨?_, ?_, ?_, ?_, hi.hinv.old⟩
    · intro i ob h
      by_cases hl : ob.live
      · exact (hi.hinv.obj i ob (hbw i ob h hl)).keep hm fun x hx => hx
      · cases ob <;> first | trivial | exact absurd trivial hl
    · intro i j x y h1 h2 h3 h4 h5
      exact hi.hinv.inj i j x y (hbw i x h1 h3) (hbw j y h2 h4) h3 h4 h5
    · intro b o
      show σ.O b o ↔ _
      rw [hi.hinv.own]
      constructor
      · rintro (h | ⟨i, x, h1, h2, h3⟩)
        · exact .inl h
        · exact .inr ⟨i, x, hfw i x h1, h2, h3⟩
      · rintro (h | ⟨i, x, h1, h2, h3⟩)
        · exact .inl h
        · exact .inr ⟨i, x, hbw i x h1 (Ob.live_of_owns h3), h2, h3⟩
    · intro i ob h1 h2 o h3
      exact hi.hinv.sep i ob (hbw i ob h1 h2) h2 o h3
  have hblk : Blk σ τ := ⟨rfl, rfl, rfl, Nat.le_refl _, fun _ _ _ => rfl, fun i ob h hl => .inr ⟨ob, hbw i ob h hl, hl, rfl⟩⟩
  have := hi.heap hm hinv (fun t cs h => rfl) hblk
  refine ⟨τ, rfl, ?_⟩
  have hH : τ.H = st.H ++ List.replicate k .free := by show σ.H ++ _ = _; rw [hi.hH]
  rw [hH] at this
  exact this
theorem TC.pad {c : Code} {st : St} {post : Exit → St → Prop} (k : Nat) (h : TC X c ⟨st.sl, st.bx, st.H ++ List.replicate k .free⟩ post) : TC X c st post := by
  rintro a w ⟨σ, lam, rfl, hi⟩
  obtain ⟨τ, h1, h2⟩ := hi.pad k
  rw [← h1]
  exact h a _ ⟨τ, lam, rfl, h2⟩

theorem front_nil {N : Nat} {H : Hp} (h : N ≤ H.length) : Fine.front N H [] ++ H.drop N = H := by
  refine Fine.hp_ext (N := N) (by simp [Fine.front_length]) h ?_ (Fine.front_drop _ _ _ _)
  intro i hi
  rw [Fine.front_get _ _ _ _ _ hi]
  rfl
theorem front_set {N i : Nat} {H : Hp} {ob : Ob} (h : N ≤ H.length) (hi : i < N) : Fine.front N H [(i, ob)] ++ H.drop N = H.set i ob := by
  refine Fine.hp_ext (N := N) (by simp [Fine.front_length]) (by simp; exact h) ?_ ?_
  · intro j hj
    rw [Fine.front_get _ _ _ _ _ hj]
    by_cases e : i = j
    · subst e
      simp [get_cons, List.getD_eq_getElem?_getD, show i < H.length by omega]
    · have hg : get [(i, ob)] j = none := by rw [get_cons, if_neg e]; rfl
      rw [hg]
      simp [List.getD_eq_getElem?_getD, List.getElem?_set_ne e]
  · rw [Fine.front_drop, List.drop_set_of_lt hi]
end
end Go.Mt
