import Derived.Test.YtjhinemdonddoaaMtEh
set_option linter.unusedVariables false
set_option linter.unusedSimpArgs false
namespace Go.Mt

section
variable {X : Ctx} {st : St} {dst : Option Nat} {ty : Nat} {pos : String} {af : Array Edge} {g : Option (Nat × Bool)} {C : Cfg}

theorem bound_some {ev : Operand → Option V} {o : Option Operand} {n : Nat} (h : bound ev o = some (some n)) : ∃ y k, o = some y ∧ ev y = some (.m (.d (.int k (.ofNat n)))) := by
  unfold bound at h
  cases o with
  | none => simp at h
  | some y =>
    dsimp only at h
    split at h
    · rename_i k i hy
      injection h with h; injection h with h; subst h
      exact ⟨y, k, rfl, hy⟩
    · cases h
theorem bound_none {ev : Operand → Option V} {o : Option Operand} (h : bound ev o = some none) : o = none := by
  unfold bound at h
  cases o with
  | none => rfl
  | some y =>
    dsimp only at h
    split at h <;> simp at h

theorem denSlice_sound (hP : C.P = X.P) {T : Nat} {x : Operand} {lo hi mx : Option Operand} {l h k : Option Nat} {m : M} {dn : Dn} (hx : st.ev x = some (.m m)) (hl : bound st.ev lo = some l) (hh : bound st.ev hi = some h) (hm : bound st.ev mx = some k)
    (hd : denSlice C T m l h k = .ok dn) : OpA X ⟨dst, .slice T x lo hi mx, ty, pos, af, g⟩ st dn := by
  unfold denSlice at hd
  rw [hP] at hd
  split at hd
  · split at hd
    · rename_i e hsl
      have := tySliceE_of hsl
      split at hd
      · rename_i n hsz
        have : TySz X.P e n := ⟨hsz⟩
        replace hd := bif_ok hd; obtain ⟨hc, hd⟩ := hd
        injection hd with hd; subst hd
        have := bound_none hl
        subst this
        obtain ⟨y, kk, rfl, hy⟩ := bound_some hh
        obtain ⟨z, kk', rfl, hz⟩ := bound_some hm
        exact op_slice00 hx hc hy hz
      · cases hd
    · cases hd
  · have := bound_none hm
    subst this
    split at hd
    · rename_i s
      replace hd := bif_ok hd; obtain ⟨hts, hd⟩ := hd
      have := tyIsStr_of hts
      dsimp only at hd
      replace hd := bif_ok hd; obtain ⟨hc, hd⟩ := hd
      simp only [Bool.and_eq_true] at hc
      injection hd with hd; subst hd
      exact op_sliceT hx hl hh (Nat.le_of_ble_eq_true hc.1) (Nat.le_of_ble_eq_true hc.2)
    · split at hd
      · cases hd
      · rename_i e hsl
        have := tySliceE_of hsl
        split at hd
        · cases hd
        · rename_i n hsz
          have : TySz X.P e n := ⟨hsz⟩
          split at hd
          · split at hd
            · rename_i j ver len _ i
              injection hd with hd; subst hd
              intro ob v ob' hH hk
              dsimp only at hk
              split at hk
              · replace hk := bif_ok hk; obtain ⟨hc, hk⟩ := hk
                simp only [Bool.and_eq_true] at hc
                injection hk with hk; injection hk with e1 e2; subst e1; subst e2
                have e1 := Nat.eq_of_beq_eq_true hc.1.1
                have e2 := Nat.eq_of_beq_eq_true hc.1.2
                subst e1; subst e2
                have := bound_none hl
                subst this
                obtain ⟨y, kk, rfl, hy⟩ := bound_some hh
                have := op_sliceR (X := X) (dst := dst) (ty := ty) (pos := pos) (af := af) (g := g) (t := T) false hx hy hH (by simp) (by have := Nat.le_of_ble_eq_true hc.2; simp; omega)
                simpa using this
              · cases hk
            · cases hd
          · split at hd
            · injection hd with hd; subst hd
              have := bound_none hl
              subst this
              obtain ⟨y, kk, rfl, hy⟩ := bound_some hh
              exact op_slice0 (n := n) hx (by rw [hy]; rfl)
            · cases hd
          · rename_i rows hne1 hne
            dsimp only at hd
            replace hd := bif_ok hd; obtain ⟨hc, hd⟩ := hd
            simp only [Bool.and_eq_true] at hc
            have hs := op_sliceD (X := X) (dst := dst) (ty := ty) (pos := pos) (af := af) (g := g) (t := T) hx hl hh (by rintro rfl; first | exact hne rfl | exact hne1 rfl | simp_all) (Nat.le_of_ble_eq_true hc.1.1) (Nat.le_of_ble_eq_true hc.1.2) (lenAll_eq hc.2)
            split at hd
            · rename_i hq; injection hd with hd; subst hd; rw [hq] at hs; exact hs
            · rename_i r hq hne2
              injection hd with hd; subst hd
              split at hs
              · rename_i hq2; exact absurd hq2 hne2
              · exact hs
          · cases hd

theorem evMs_one {x : Operand} {ms : List M} (h : st.evMs [x] = some ms) : ∃ m, ms = [m] ∧ st.ev x = some (.m m) := by
  simp only [St.evMs] at h
  split at h
  · rename_i m ms' h1 h2
    injection h2 with h2; subst h2
    injection h with h; subst h
    exact ⟨m, rfl, h1⟩
  · cases h
theorem evMs_cons {x : Operand} {r : List Operand} {ms : List M} (h : st.evMs (x :: r) = some ms) : ∃ m ms', ms = m :: ms' ∧ st.ev x = some (.m m) ∧ st.evMs r = some ms' := by
  simp only [St.evMs] at h
  split at h
  · rename_i m ms' h1 h2
    injection h with h; subst h
    exact ⟨m, ms', rfl, h1, h2⟩
  · cases h
theorem evMs_nil {ms : List M} (h : st.evMs [] = some ms) : ms = [] := by simp [St.evMs] at h; exact h
theorem evMs_len : ∀ {xs : List Operand} {ms : List M}, st.evMs xs = some ms → ms.length = xs.length
  | [], ms, h => by rw [evMs_nil h]; rfl
  | x :: r, ms, h => by
    obtain ⟨m, ms', rfl, _, h2⟩ := evMs_cons h
    simp [evMs_len h2]

theorem denBuiltin_sound (hP : C.P = X.P) {b : Builtin} {args : List Operand} {ms : List M} {tys : List Nat} {dn : Dn} (he : st.evMs args = some ms) (h : denBuiltin C dst b ms tys = .ok dn) :
    OpA X ⟨dst, .call ⟨.builtin b, args.toArray, tys.toArray⟩, ty, pos, af, g⟩ st dn := by
  unfold denBuiltin at h
  rw [hP] at h
  have one : ∀ m, ms = [m] → ∃ x, args = [x] ∧ st.ev x = some (.m m) := by
    intro m hm
    subst hm
    have hl := evMs_len he
    match args, hl with
    | [x], _ =>
      obtain ⟨m', h1, h2⟩ := evMs_one he
      injection h1 with h1; subst h1
      exact ⟨x, rfl, h2⟩
  have two : ∀ m n, ms = [m, n] → ∃ x y, args = [x, y] ∧ st.ev x = some (.m m) ∧ st.ev y = some (.m n) := by
    intro m n hm
    subst hm
    have hl := evMs_len he
    match args, hl with
    | [x, y], _ =>
      obtain ⟨m', ms', h1, h2, h3⟩ := evMs_cons he
      injection h1 with h1 h1'; subst h1; subst h1'
      obtain ⟨n', h4, h5⟩ := evMs_one h3
      injection h4 with h4; subst h4
      exact ⟨x, y, rfl, h2, h5⟩
  split at h
  · obtain ⟨x, rfl, hx⟩ := one _ rfl
    replace h := bif_ok h; obtain ⟨hc, h⟩ := h
    have := tyIsStr_of hc
    injection h with h; subst h
    exact op_lenT hx
  · obtain ⟨x, rfl, hx⟩ := one _ rfl
    split at h
    · rename_i e hs
      have := tySliceE_of hs
      injection h with h; subst h
      exact op_lenR hx
    · cases h
  · obtain ⟨x, rfl, hx⟩ := one _ rfl
    split at h
    · rename_i e n hs hn
      have := tySliceE_of hs
      injection h with h; subst h
      exact op_lenS hx hn
    · cases h
  · obtain ⟨x, rfl, hx⟩ := one _ rfl
    split at h
    · rename_i e hs
      have := tySliceE_of hs
      injection h with h; subst h
      exact op_cap0 hx
    · cases h
  · obtain ⟨x, y, rfl, hx, hy⟩ := two _ _ rfl
    replace h := bif_ok h; obtain ⟨hc, h⟩ := h
    have := kindEqB_eq hc; subst this
    injection h with h; subst h
    exact op_max hx hy
  · obtain ⟨x, y, rfl, hx, hy⟩ := two _ _ rfl
    replace h := bif_ok h; obtain ⟨hc, h⟩ := h
    have := kindEqB_eq hc; subst this
    injection h with h; subst h
    exact op_min hx hy
  · obtain ⟨x, y, rfl, hx, hy⟩ := two _ _ rfl
    exact denAppend_sound hP hx hy h
  · cases h

theorem den_sound (hC : CfgOk C) (hP : C.P = X.P) {op : Op} {ev : Operand → Option V} {dn : Dn} (hev : ∀ x ∈ op.operands.toList, st.ev x = ev x) (h : den C dst op ev = .ok dn) : OpA X ⟨dst, op, ty, pos, af, g⟩ st dn := by
  unfold den at h
  split at h
  -- move
  · rename_i x
    have hx := hev x (by simp [Op.operands])
    split at h
    · rename_i v hv; rw [hv] at hx; injection h with h; subst h; exact op_move hx
    · cases h
  -- assign
  · rename_i x
    have hx := hev x (by simp [Op.operands])
    split at h
    · rename_i v hv; rw [hv] at hx; injection h with h; subst h; exact op_assign hx
    · cases h
  -- pick
  · rename_i c x y
    have hc := hev c (by simp [Op.operands])
    have hx := hev x (by simp [Op.operands])
    have hy := hev y (by simp [Op.operands])
    split at h
    · rename_i b hb
      rw [hb] at hc
      split at h
      · rename_i v hv
        injection h with h; subst h
        cases b with
        | true => exact op_pick_t hc (hx.trans hv)
        | false => exact op_pick_f hc (hy.trans hv)
      · cases h
    · cases h
  -- alloc
  · rename_i T
    split at h
    · rename_i z hz
      rw [hP] at hz
      have : TyZero X.P T z := tyZero_of hz
      cases hh : Nat.beq (C.hint (dst.getD 0)) 1 with
      | true =>
        simp only [hh, cond_true] at h
        injection h with h; subst h
        intro ob n H' hk hp
        dsimp only at hk
        injection hk with hk; subst hk
        exact op_allocP hp
      | false =>
        simp only [hh, cond_false] at h
        injection h with h; subst h
        intro d hd
        have hd' : dst = some d := hd
        subst hd'
        exact op_alloc
    · cases h
  -- box
  · rename_i T x
    have hx := hev x (by simp [Op.operands])
    split at h
    · rename_i m hm
      rw [hm] at hx
      split at h
      · rename_i cs hcs
        obtain ⟨e1, e2⟩ := cellsO_eq hcs
        cases hh : Nat.beq (C.hint (dst.getD 0)) 1 with
        | true =>
          simp only [hh, cond_true] at h
          injection h with h; subst h
          intro ob n H' hk hp
          dsimp only at hk
          injection hk with hk; subst hk
          exact op_boxP hx e2 (by rw [e1]; exact hp)
        | false =>
          simp only [hh, cond_false] at h
          cases hh2 : Nat.beq (C.hint (dst.getD 0)) 2 with
          | true =>
            simp only [hh2, cond_true] at h
            split at h
            · injection h with h; subst h; exact op_box hx
            · cases h
          | false =>
            simp only [hh2, cond_false] at h
            injection h with h; subst h
            intro d hd
            have hd' : dst = some d := hd
            subst hd'
            have := op_boxL (X := X) (T := T) (d := d) (ty := ty) (pos := pos) (af := af) (g := g) hx e2
            rw [e1] at this
            exact this
      · cases h
    · cases h
  -- build
  · rename_i T parts
    split at h
    · rename_i ms ps z hms hps hz
      rw [hP] at hps hz
      have : TyStruct X.P T ps z := ⟨hps, hz⟩
      have he := partsL_eq (st := st) (fun p hp => hev p.2 (by simp only [Op.operands, List.mem_map]; exact ⟨p, hp, rfl⟩)) hms
      split at h
      · rename_i cs hcs
        injection h with h; subst h
        have := op_build (X := X) (T := T) (dst := dst) (ty := ty) (pos := pos) (af := af) (g := g) he (fillO_eq hcs)
        exact this
      · cases h
    · rename_i ms z hms hnp hz
      rw [hP] at hz
      have he := partsL_eq (st := st) (fun p hp => hev p.2 (by simp only [Op.operands, List.mem_map]; exact ⟨p, hp, rfl⟩)) hms
      split at h
      · rename_i len e hA
        rw [hP] at hA
        split at h
        · rename_i n hsz
          rw [hP] at hsz
          have : TySz X.P e n := ⟨hsz⟩
          split at h
          · rename_i cs hcs
            injection h with h; subst h
            exact op_buildArr (X := X) (parts := parts.toList) (tyArr_eq hA) hz he hcs
          · cases h
        · cases h
      · cases h
    · cases h
  -- buildSlice
  · rename_i T len parts
    split at h
    · rename_i ms hms
      have he := partsL_eq (st := st) (fun p hp => hev p.2 (by simp only [Op.operands, List.mem_map]; exact ⟨p, hp, rfl⟩)) hms
      exact denBuildSlice_sound hP he h
    · cases h
  -- load
  · rename_i T x
    have hx := hev x (by simp [Op.operands])
    split at h
    · rename_i v hv; rw [hv] at hx; exact denLoad_sound hP hx h
    · cases h
  -- store
  · rename_i T x y
    have hx := hev x (by simp [Op.operands])
    have hy := hev y (by simp [Op.operands])
    split at h
    · rename_i v m hv hm; rw [hv] at hx; rw [hm] at hy; exact denStore_sound hP hx hy h
    · cases h
  -- nilCheck
  · rename_i x
    have hx := hev x (by simp [Op.operands])
    split at h
    · rename_i v hv
      rw [hv] at hx
      replace h := bif_ok h; obtain ⟨hc, h⟩ := h
      injection h with h; subst h
      exact op_nilCheck hx hc
    · cases h
  -- binOp
  · rename_i o xt x y yt
    have hx := hev x (by simp [Op.operands])
    have hy := hev y (by simp [Op.operands])
    split at h
    · rename_i v u hv hu
      rw [hv] at hx; rw [hu] at hy
      rw [hP] at h
      exact denBin_sound hx hy h
    · cases h
  -- not, neg
  · rename_i o xt x
    have hx := hev x (by simp [Op.operands])
    split at h
    · rename_i b hb; rw [hb] at hx; injection h with h; subst h; exact op_not hx
    · rename_i k n hb; rw [hb] at hx; injection h with h; subst h; exact op_neg hx
    · cases h
  -- convert
  · rename_i s t x
    have hx := hev x (by simp [Op.operands])
    split at h
    · rename_i k n hn
      rw [hn] at hx
      split at h
      · rename_i k0 k' h1 h2
        rw [hP] at h1 h2
        have := tyIntE_of h1
        have := tyIntE_of h2
        injection h with h; subst h
        exact op_convI hx
      · cases h
    · rename_i m hne hm
      rw [hm] at hx
      split at h
      · rename_i e hs
        rw [hP] at hs
        have := tySliceE_of hs
        replace h := bif_ok h; obtain ⟨hc, h⟩ := h
        rw [hP] at hc
        have := tyIsStr_of hc
        split at h
        · rename_i hk
          rw [hP] at hk
          have := tyIntE_of hk
          injection h with h; subst h
          intro v hk
          dsimp only at hk
          split at hk
          · rename_i rows hv
            split at hk
            · rename_i ns hb
              injection hk with hk; subst hk
              exact op_b2sV hx hv hb
            · cases hk
          · cases hk
        · cases h
      · cases h
    · cases h
  -- makeFunc
  · rename_i fn first caps
    split at h
    · rename_i f hfirst
      have hf0 : first = #[] := by cases first; simpa using hfirst
      subst hf0
      split at h
      · rename_i ms hms
        have he := evL_eq (st := st) (fun x hx => hev x (by simpa [Op.operands] using hx)) hms
        split at h
        · rename_i ds hds
          injection h with h; subst h
          have hD : st.evDs caps.toList = some ds := by
            have key : ∀ (xs : List Operand) (ms : List M) (ds : List D), st.evMs xs = some ms → allD ms = some ds → st.evDs xs = some ds := by
              intro xs
              induction xs with
              | nil => intro ms ds h1 h2; rw [evMs_nil h1] at h2; simp [allD] at h2; subst h2; rfl
              | cons x r ih =>
                intro ms ds h1 h2
                obtain ⟨m, ms', rfl, h3, h4⟩ := evMs_cons h1
                cases m with
                | d d =>
                  simp only [allD, Option.map_eq_some_iff] at h2
                  obtain ⟨ds', h5, rfl⟩ := h2
                  simp [St.evDs, h3, ih _ _ h4 h5]
                | _ => simp [allD] at h2
            exact key _ _ _ he hds
          exact op_makeFunc (caps := caps.toList) hD
        · injection h with h; subst h
          exact op_makeFuncM (caps := caps.toList) he
      · cases h
    · cases h
  -- makeMap
  · rename_i T r
    split at h
    · cases h
    · injection h with h; subst h
      intro ob n H' hk hp
      dsimp only at hk
      injection hk with hk; subst hk
      exact op_makeMapP hp
  -- makeSlice
  · rename_i T x y
    have hx := hev x (by simp [Op.operands])
    have hy := hev y (by simp [Op.operands])
    split at h
    · rename_i k1 l k2 c e h1 h2 h3
      rw [h1] at hx; rw [h2] at hy
      rw [hP] at h3
      have := tySliceE_of h3
      split at h
      · rename_i n nb z hsz hnb hz
        rw [hP] at hsz hnb hz
        have : TySz X.P e n := ⟨hsz⟩
        have : TyB X.P e nb := ⟨hnb⟩
        have : TyZ X.P e z := ⟨hz⟩
        replace h := bif_ok h; obtain ⟨hc, h⟩ := h
        simp only [Bool.and_eq_true] at hc
        obtain ⟨⟨⟨⟨hlc, hn⟩, hzl⟩, hnb1⟩, hl1⟩ := hc
        have e1 := Nat.eq_of_beq_eq_true hlc
        subst e1
        injection h with h; subst h
        intro ob nn H' hk hp
        dsimp only at hk
        injection hk with hk; subst hk
        exact op_makeSliceP hn (Nat.eq_of_beq_eq_true hzl) hx hy (room hnb1 hl1).1 (room hnb1 hl1).2 hp
      · cases h
    · cases h
  -- slice
  · rename_i T x lo hi mx
    have hx := hev x (by simp [Op.operands])
    have hb : ∀ (o : Option Operand) l, (∀ y, o = some y → st.ev y = ev y) → bound ev o = some l → bound st.ev o = some l := by
      intro o l hy hl
      unfold bound at hl ⊢
      cases o with
      | none => exact hl
      | some y => dsimp only at hl ⊢; rw [hy y rfl]; exact hl
    split at h
    · rename_i m l hh k hm hl hh2 hk
      rw [hm] at hx
      exact denSlice_sound hP hx (hb lo _ (fun y hy => hev y (by simp [Op.operands, hy])) hl) (hb hi _ (fun y hy => hev y (by simp [Op.operands, hy])) hh2) (hb mx _ (fun y hy => hev y (by simp [Op.operands, hy])) hk) h
    · cases h
  -- fieldAddr
  · rename_i s x f
    have hx := hev x (by simp [Op.operands])
    split at h
    · rename_i cs off o hv ho
      rw [hv] at hx; rw [hP] at ho
      have := tyFieldE_of ho
      injection h with h; subst h; exact op_fieldD hx
    · rename_i t off o hv ho
      rw [hv] at hx; rw [hP] at ho
      have := tyFieldE_of ho
      injection h with h; subst h; exact op_fieldL hx
    · rename_i i off o hv ho
      rw [hv] at hx; rw [hP] at ho
      have := tyFieldE_of ho
      injection h with h; subst h; exact op_fieldR hx
    · rename_i i ver off o hv ho
      rw [hv] at hx; rw [hP] at ho
      have := tyFieldE_of ho
      injection h with h; subst h; exact op_fieldW hx
    · cases h
  -- field
  · rename_i s x f
    have hx := hev x (by simp [Op.operands])
    split at h
    · rename_i m hm
      rw [hm] at hx
      split at h
      · rename_i ft off cs hft hcs
        rw [hP] at hft
        split at h
        · rename_i r hr
          rw [hP] at hr
          injection h with h; subst h
          exact op_field hx hft hcs hr
        · cases h
      · cases h
    · cases h
  -- indexAddr
  · rename_i T x y
    have hx := hev x (by simp [Op.operands])
    have hy := hev y (by simp [Op.operands])
    split at h
    · rename_i len e hA
      rw [hP] at hA
      split at h
      · rename_i v k i n h1 h2 h3
        rw [h1] at hx; rw [h2] at hy; rw [hP] at h3
        have : TySz X.P e n := ⟨h3⟩
        split at h
        · rename_i u hu
          replace h := bif_ok h; obtain ⟨hc, h⟩ := h
          injection h with h; subst h
          exact op_indexA (tyArr_eq hA) hx hy (blt_lt hc) hu
        · cases h
      · cases h
    split at h
    · rename_i rows k i e h1 h2 h3
      rw [h1] at hx; rw [h2] at hy; rw [hP] at h3
      have := tySliceE_of h3
      split at h
      · rename_i n r hsz hr
        rw [hP] at hsz
        have : TySz X.P e n := ⟨hsz⟩
        replace h := bif_ok h; obtain ⟨hc, h⟩ := h
        injection h with h; subst h
        exact op_indexD hx hy (by simp) (by simpa using hr) (Nat.eq_of_beq_eq_true hc)
      · cases h
    · rename_i j ver len k i e h1 h2 h3
      rw [h1] at hx; rw [h2] at hy; rw [hP] at h3
      have := tySliceE_of h3
      split at h
      · rename_i n hsz
        rw [hP] at hsz
        have : TySz X.P e n := ⟨hsz⟩
        injection h with h; subst h
        intro ob v hH hk
        dsimp only at hk
        split at hk
        · replace hk := bif_ok hk; obtain ⟨hc, hk⟩ := hk
          simp only [Bool.and_eq_true] at hc
          injection hk with hk; subst hk
          have e1 := Nat.eq_of_beq_eq_true hc.1.1
          have e2 := Nat.eq_of_beq_eq_true hc.1.2
          subst e1; subst e2
          have := op_indexR (X := X) (t := T) (dst := dst) (ty := ty) (pos := pos) (af := af) (g := g) hx hy hH (by simp) (by have := blt_lt hc.2; simp; omega)
          simpa using this
        · cases hk
      · cases h
    · cases h
  -- lookup
  · rename_i T x y ok
    have hx := hev x (by simp [Op.operands])
    have hy := hev y (by simp [Op.operands])
    split at h
    · rename_i i k e h1 h2 h3
      rw [h1] at hx; rw [h2] at hy; rw [hP] at h3
      have := tyMapE_of h3
      split at h
      · rename_i z hz
        rw [hP] at hz
        have : TyZ X.P e z := ⟨hz⟩
        injection h with h; subst h
        intro ob v hH hk
        dsimp only at hk
        split at hk
        · rename_i es
          replace hk := bif_ok hk; obtain ⟨hc, hk⟩ := hk
          rw [lookE_eq] at hk
          cases ok with
          | true =>
            simp only [cond_true] at hk
            injection hk with hk; subst hk
            exact op_lookup2 hx hy hH hc
          | false =>
            simp only [cond_false] at hk
            injection hk with hk; subst hk
            exact op_lookup1 hx hy hH hc
        · cases hk
      · cases h
    · rename_i k e h1 h2 h3
      rw [h1] at hx; rw [h2] at hy; rw [hP] at h3
      have := tyMapE_of h3
      split at h
      · rename_i z hz
        rw [hP] at hz
        have : TyZ X.P e z := ⟨hz⟩
        injection h with h; subst h
        exact op_lookupNil hx hy
      · cases h
    · cases h
  -- index
  · rename_i T x y
    have hx := hev x (by simp [Op.operands])
    have hy := hev y (by simp [Op.operands])
    split at h
    · rename_i s k i h1 h2
      rw [h1] at hx; rw [h2] at hy
      replace h := bif_ok h; obtain ⟨hc, h⟩ := h
      rw [hP] at hc
      have := tyIsStr_of hc
      split at h
      · rename_i b hb
        injection h with h; subst h
        exact op_index hx hy hb
      · cases h
    · rename_i m k i hne h1 h2
      rw [h1] at hx; rw [h2] at hy
      split at h
      · rename_i len e cs hA hcs
        rw [hP] at hA
        split at h
        · rename_i n hsz
          rw [hP] at hsz
          have : TySz X.P e n := ⟨hsz⟩
          replace h := bif_ok h; obtain ⟨hc, h⟩ := h
          split at h
          · rename_i r hr
            rw [hP] at hr
            injection h with h; subst h
            exact op_indexArr (tyArr_eq hA) hx hy hcs (blt_lt hc) hr
          · cases h
        · cases h
      · cases h
    · cases h
  -- mapUpdate
  · rename_i T x y z
    have hx := hev x (by simp [Op.operands])
    have hy := hev y (by simp [Op.operands])
    have hz := hev z (by simp [Op.operands])
    split at h
    · rename_i i k m h1 h2 h3
      rw [h1] at hx; rw [h2] at hy; rw [h3] at hz
      split at h
      · rename_i e he
        rw [hP] at he
        have := tyMapE_of he
        injection h with h; subst h
        intro ob v ob' hH hk
        dsimp only at hk
        split at hk
        · replace hk := bif_ok hk; obtain ⟨hc, hk⟩ := hk
          injection hk with hk; injection hk with e1 e2; subst e1; subst e2
          rw [updE_eq]
          exact op_mapUpdate hx hy hz hH hc
        · cases hk
      · cases h
    · cases h
  -- extract
  · rename_i x i
    have hx := hev x (by simp [Op.operands])
    split at h
    · rename_i vs hv
      rw [hv] at hx
      split at h
      · rename_i m hm; injection h with h; subst h; exact op_extract hx hm
      · cases h
    · cases h
  -- call
  · rename_i c
    obtain ⟨callee, args, tys⟩ := c
    dsimp only at h
    split at h
    · rename_i b
      have hargs : ∀ x ∈ args.toList, st.ev x = ev x := fun x hx => hev x (by simp [Op.operands, Call.operands]; simpa using hx)
      split at h
      · rename_i ms hms
        exact denBuiltin_sound (args := args.toList) (tys := tys.toList) hP (evL_eq hargs hms) h
      · cases h
    · rename_i f
      have hargs : ∀ x ∈ args.toList, st.ev x = ev x := fun x hx => hev x (by simp [Op.operands, Call.operands]; right; simpa using hx)
      split at h
      · rename_i ms hms
        exact denCall_sound hC hP (fun hf => enters_func (args := args.toList) (evL_eq hargs hms)) h
      · cases h
    · rename_i x hne
      have hargs : ∀ x ∈ args.toList, st.ev x = ev x := fun x hx => hev x (by simp [Op.operands, Call.operands]; right; simpa using hx)
      have hx := hev x (by simp [Op.operands, Call.operands])
      split at h
      · rename_i f cs ms hv hms
        rw [hv] at hx
        exact denCall_sound hC hP (fun hf => enters_fnD (args := args.toList) hx (evL_eq hargs hms)) h
      · rename_i f cs ms hv hms
        rw [hv] at hx
        exact denCall_sound hC hP (fun hf => enters_fnM (args := args.toList) hx (evL_eq hargs hms)) h
      · cases h
    · cases h
  · cases h
end
end Go.Mt
