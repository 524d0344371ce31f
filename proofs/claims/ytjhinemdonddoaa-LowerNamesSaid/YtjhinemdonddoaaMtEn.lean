import Derived.Test.YtjhinemdonddoaaMtEl
import Derived.Defers
import Derived.Recover
set_option linter.unusedVariables false
set_option linter.unusedSimpArgs false
namespace Go.Mt

section
variable {X : Ctx} {C : Cfg}

/-- operations in the order of the text, and what comes behind them -/
theorem evOps_K {ops : Array Oper} (hC : CfgOk C) (hP : C.P = X.P) {B : Nat} {l' : List Oper} {Q : Exit → Act → World → Prop} : ∀ {l : List Oper} {i : Nat} {st s : St} {ws us : List Nat}, evOps C X.n B ops i l st ws = .ok (s, us) →
    (∀ a w, Inv X s a w → wpList X.P ops Q l' a w) → ∀ a w, Inv X st a w → wpList X.P ops Q (l ++ l') a w
  | [], i, st, s, ws, us, h, hk, a, w, hi => by
    simp only [evOps] at h
    injection h with h; injection h with e1 e2; subst e1; subst e2
    exact hk a w hi
  | o :: r, i, st, s, ws, us, h, hk, a, w, hi => by
    simp only [evOps] at h
    split at h
    · rename_i s1 us1 h1
      obtain ⟨h2, _⟩ := evOp_ok hC hP h1
      have h3 := h2 a w hi (wpList X.P ops Q (r ++ l')) Q (fun a' w' hi' => evOps_K hC hP h hk a' w' hi')
      rw [List.cons_append]
      unfold wpList
      split
      · rename_i hw; rw [if_pos hw] at h3; exact .inl h3
      · rename_i hw; rw [if_neg hw] at h3; exact h3
    · cases h

theorem deferOf_eq {c : Code} {ops : Array Oper} {l : List Oper} {x : Operand} (h : deferOf c = some (ops, l, x)) :
    ∃ id tys ty pos af, c = .region id ops false ∧ ops.toList = l ++ [⟨none, .defer ⟨.value x, #[], tys⟩, ty, pos, af, none⟩] := by
  unfold deferOf at h
  split at h
  · rename_i id ops'
    split at h
    · rename_i y args tys ty pos af r hr
      split at h
      · rename_i ha
        injection h with h; injection h with e1 e2; injection e2 with e2 e3
        subst e1; subst e2; subst e3
        have ha' : args = #[] := by cases args; simpa using ha
        subst ha'
        refine ⟨id, tys, ty, pos, af, rfl, ?_⟩
        have := congrArg List.reverse hr
        simpa using this
      · cases h
    · cases h
  · cases h

/-- the invariant, with what is deferred -/
def IP (X : Ctx) : Option (Nat × List M) → St → Act → World → Prop
  | none, st, a, w => Inv X st a w
  | some (g, caps), st, a, w => ∃ σd vs, Mono X.s0 σd ∧ Blk X.s0 σd ∧ RMs σd caps vs ∧ Inv ⟨X.P, X.n, σd, X.Oout, [⟨.fn (.func g) vs, #[]⟩]⟩ st a w

theorem evT_leaf {n B rounds : Nat} {c : Code} {st : St} {ws : List Nat} {p : Option (Nat × List M)} (hns : ∀ a b, c ≠ .seq a b) : evT C n B rounds c st ws p = (match deferOf c with
    | some (ops, l, x) => (match p with
      | some _ => .no [460]
      | none => (match evOps C n B ops 0 l st ws with
        | .ok (s, us) => (match evs s.sl x with
          | some (.m (.fn g caps)) => (match s.bx with
            | [] => bif isFnB C.P g then .ok (.nrm, s, us, some (g, caps)) else .no [461]
            | _ => .no [462])
          | _ => .no [463])
        | .no w => .no w))
    | none => (match evC C n B rounds c st ws with
      | .ok (e, s, us) => .ok (e, s, us, p)
      | .no w => .no w)) := by
  cases c <;> first | rfl | exact absurd rfl (hns _ _)

/-- what code does that may defer -/
def TOk (X : Ctx) (B : Nat) (c : Code) (f : St → List Nat → Option (Nat × List M) → R (Ex × St × List Nat × Option (Nat × List M))) : Prop :=
  ∀ st ws p ex s us q, f st ws p = .ok (ex, s, us, q) → (∀ a w, IP X p st a w → c.wp X.P (fun e a' w' => e = toExit ex ∧ IP X q s a' w') a w) ∧ ∀ H0, FrB B H0 st.H ws → FrB B H0 s.H us

theorem leaf_ok (hC : CfgOk C) (hP : C.P = X.P) (hdf : X.df = []) {B rounds : Nat} {c : Code} (hns : ∀ a b, c ≠ .seq a b) : TOk X B c (evT C X.n B rounds c) := by
  intro st ws p ex s us q h
  rw [evT_leaf hns] at h
  split at h
  · rename_i ops l x hdo
    split at h
    · cases h
    · split at h
      · rename_i s1 us1 h1
        split at h
        · rename_i g caps hx
          split at h
          · rename_i hbx
            replace h := bif_ok h; obtain ⟨hfn, h⟩ := h
            injection h with h; injection h with e1 e2; injection e2 with e2 e3; injection e3 with e3 e4
            subst e1; subst e2; subst e3; subst e4
            obtain ⟨id, tys, ty, pos, af, rfl, hops⟩ := deferOf_eq hdo
            refine ⟨fun a w hi => ?_, (evOps_ok hC hP h1).2⟩
            have key : wpList X.P ops (fun e a' w' => e = toExit .nrm ∧ IP X (some (g, caps)) s1 a' w') ops.toList a w := by
              rw [hops]
              refine evOps_K hC hP h1 ?_ a w hi
              rintro a w ⟨σ, lam, rfl, hi⟩
              unfold wpList
              rw [if_pos (by simp [Region.wanted])]
              left
              have hv := hi.ev (x := x) hx
              generalize hu : a.eval x = u at hv
              cases hv with
              | m hv => cases hv with
                | fn g caps vs hl hh =>
                  unfold Oper.wp
                  have hex : (execOp a.eval ⟨none, .defer ⟨.value x, #[], tys⟩, ty, pos, af, none⟩).run X.P σ.w = .ok (.defer ⟨.fn (.func g) vs, #[]⟩) σ.w := by
                    simp [execOp, resolve, hu, Deferred.ofValue]
                  rw [hex, Oper.upon_defer]
                  refine wpList_nil ⟨rfl, σ, vs, hi.mono, hi.blk, ⟨hl, hh⟩, σ, lam, rfl, ?_⟩
                  refine ⟨hi.hH, by simp [Act.put, hi.defers, hdf], hi.size, hi.slot, hi.box, hi.binj, hi.bsep, fun t cs ht => ?_, hi.hinv, Mono.refl _, Blk.refl _⟩
                  rw [hbx] at ht; simp [get] at ht
            have := wp_region_lit (P := X.P) (id := id) (l := ops.toList) (Q := fun e a' w' => e = toExit .nrm ∧ IP X (some (g, caps)) s1 a' w') (a := a) (w := w) (by simpa using key)
            simpa using this
          · cases h
        · cases h
      · cases h
  · split at h
    · rename_i exx s1 us1 h1
      injection h with h; injection h with e1 e2; injection e2 with e2 e3; injection e3 with e3 e4
      subst e1; subst e2; subst e3; subst e4
      refine ⟨fun a w hi => ?_, (evC_ok (X := X) hC hP c _ _ _ _ _ h1).2⟩
      cases p with
      | none =>
        refine wp_mono ((evC_ok (X := X) hC hP c _ _ _ _ _ h1).1 (fun e s' => e = toExit exx ∧ s' = s1) ⟨rfl, rfl⟩ a w hi) ?_
        rintro e a' w' ⟨st', ⟨rfl, rfl⟩, h3⟩
        exact ⟨rfl, h3⟩
      | some gc =>
        obtain ⟨g, caps⟩ := gc
        obtain ⟨σd, vs, m1, m2, m3, m4⟩ := hi
        refine wp_mono ((evC_ok (X := ⟨X.P, X.n, σd, X.Oout, [⟨.fn (.func g) vs, #[]⟩]⟩) hC hP c _ _ _ _ _ h1).1 (fun e s' => e = toExit exx ∧ s' = s1) ⟨rfl, rfl⟩ a w m4) ?_
        rintro e a' w' ⟨st', ⟨rfl, rfl⟩, h3⟩
        exact ⟨rfl, σd, vs, m1, m2, m3, h3⟩
    · cases h

theorem evT_ok (hC : CfgOk C) (hP : C.P = X.P) (hdf : X.df = []) {B rounds : Nat} : ∀ c : Code, TOk X B c (evT C X.n B rounds c) := by
  intro c
  induction c with
  | seq a b iha ihb =>
    intro st ws p ex s us q h
    simp only [evT] at h
    split at h
    · rename_i s1 us1 q1 h1
      obtain ⟨h2, h3⟩ := iha _ _ _ _ _ _ _ h1
      obtain ⟨h4, h5⟩ := ihb _ _ _ _ _ _ _ h
      refine ⟨fun a w hi => wp_seq (wp_mono (h2 a w hi) ?_), fun H0 hF => h5 H0 (h3 H0 hF)⟩
      rintro e a' w' ⟨rfl, hi'⟩
      exact h4 a' w' hi'
    · rename_i e1 s1 us1 q1 hne h1
      injection h with h; injection h with e1 e2; injection e2 with e2 e3; injection e3 with e3 e4
      subst e1; subst e2; subst e3; subst e4
      obtain ⟨h2, h3⟩ := iha _ _ _ _ _ _ _ h1
      refine ⟨fun a w hi => wp_seq (wp_mono (h2 a w hi) ?_), h3⟩
      rintro e a' w' ⟨rfl, hi'⟩
      rename Ex => exx
      cases exx with
      | nrm => exact absurd rfl hne
      | exit id => exact ⟨rfl, hi'⟩
      | ret => exact ⟨rfl, hi'⟩
    · cases h
  | _ => exact leaf_ok hC hP hdf (by intro a b h; cases h)

theorem wpS_mono {P : Program} {c : Code} {Q Q' : Exit → Act → List Frame → World → Prop} {a : Act} {cs : List Frame} {w : World} (h : c.wpS P Q a cs w) (hq : ∀ e a cs w, Q e a cs w → Q' e a cs w) : c.wpS P Q' a cs w :=
  fun b k hb hr => let ⟨e, a', cs', w', q, r⟩ := h b k hb hr; ⟨e, a', cs', w', hq _ _ _ _ q, r⟩

theorem evRec_ok (hC : CfgOk C) (hP : C.P = X.P) {B rounds : Nat} : ∀ (c : Code) (st : St) (ws : List Nat) (ex : Ex) (s : St) (us : List Nat), evRec C X.n B rounds c st ws = .ok (ex, s, us) →
    (∀ (c0 : Frame) (cs : List Frame), c0.mode = .returning → ∀ a w, Inv X st a w → c.wpS X.P (fun e a' cs' w' => e = toExit ex ∧ cs' = c0 :: cs ∧ Inv X s a' w') a (c0 :: cs) w) ∧ ∀ H0, FrB B H0 st.H ws → FrB B H0 s.H us := by
  intro c
  induction c with
  | seq a b iha ihb =>
    intro st ws ex s us h
    simp only [evRec] at h
    split at h
    · rename_i s1 us1 h1
      obtain ⟨h2, h3⟩ := iha _ _ _ _ _ h1
      obtain ⟨h4, h5⟩ := evC_ok (X := X) hC hP b _ _ _ _ _ h
      refine ⟨fun c0 cs hm a' w hi => wpS_seq (wpS_mono (h2 c0 cs hm a' w hi) ?_), fun H0 hF => h5 H0 (h3 H0 hF)⟩
      rintro e a' cs' w' ⟨rfl, rfl, hi'⟩
      refine wpS_of_wp (wp_mono (h4 (fun e s' => e = toExit ex ∧ s' = s) ⟨rfl, rfl⟩ a' w' hi') ?_)
      rintro e a' w' ⟨st', ⟨rfl, rfl⟩, h6⟩
      exact ⟨rfl, rfl, h6⟩
    · rename_i e1 s1 us1 hne h1
      injection h with h; injection h with e1 e2; injection e2 with e2 e3; subst e1; subst e2; subst e3
      obtain ⟨h2, h3⟩ := iha _ _ _ _ _ h1
      refine ⟨fun c0 cs hm a' w hi => wpS_seq (wpS_mono (h2 c0 cs hm a' w hi) ?_), h3⟩
      rintro e a' cs' w' ⟨rfl, rfl, hi'⟩
      rename Ex => exx
      cases exx with
      | nrm => exact absurd rfl hne
      | exit id => exact ⟨rfl, rfl, hi'⟩
      | ret => exact ⟨rfl, rfl, hi'⟩
    · cases h
  | region id ops draw =>
    intro st ws ex s us h
    cases draw with
    | true => simp [evRec] at h
    | false =>
      simp only [evRec] at h
      split at h
      · rename_i d args tys ty pos af hops
        replace h := bif_ok h; obtain ⟨hd, h⟩ := h
        injection h with h; injection h with e1 e2; injection e2 with e2 e3; subst e1; subst e2; subst e3
        refine ⟨fun c0 cs hm a w hi => ?_, fun _ h => h⟩
        obtain ⟨σ, lam, rfl, hi⟩ := hi
        refine wpS_region ?_
        have hsz : ops = #[⟨some d, .call ⟨.builtin .recover, args, tys⟩, ty, pos, af, none⟩] := by cases ops; simpa using hops
        subst hsz
        have hr : recoverD (c0 :: cs) = none := by simp [recoverD, hm]
        have hex : (execOp a.eval ⟨some d, .call ⟨.builtin .recover, args, tys⟩, ty, pos, af, none⟩).run X.P σ.w = .ok .recover σ.w := by
          simp [execOp, resolve, invoke, builtin]
        simp only [List.size_toArray, List.length_cons, List.length_nil, Nat.zero_add, List.range_one, wpOpsS]
        simp only [List.getElem?_toArray, List.getElem?_cons_zero, Region.wanted, if_true, hex, hr]
        exact ⟨by first | rfl | trivial, by first | rfl | trivial, σ, lam, rfl, hi.set (blt_lt hd) (.m (.d .nili))⟩
      · cases h
  | _ => intro st ws ex s us h; simp [evRec] at h

/-- the frame at its start -/
theorem FInv.enter {P : Program} {n : Nat} {ms : List M} {σ : Sg} {Oo : Nat → Nat → Prop} {vs : Array Value} (hinv : HInv σ Oo) (hms : RMs σ ms vs) (hn : ms.length ≤ n) :
    FInv ⟨P, n, σ, Oo, []⟩ σ (fun _ => 0) ⟨enumV 0 ms, [], σ.H⟩ { tmps := vs ++ Array.replicate (n - vs.size) undef, defers := [] } := by
  refine ⟨rfl, rfl, ?_, ?_, by simp [get], by simp [get], by simp [get], by simp [get], ?_, Mono.refl _, Blk.refl _⟩
  · have := hms.1; simp; omega
  · intro t v hv
    obtain ⟨_, m, h2, rfl⟩ := get_enumV ms 0 t v hv
    simp at h2
    have hlt : t < vs.size := by
      rw [hms.1]; rcases Nat.lt_or_ge t ms.length with h | h; exact h; simp [List.getElem?_eq_none h] at h2
    exact ⟨vs[t], by simp [Array.getElem?_append, hlt], .m (hms.2 t m _ h2 (by simp [hlt]))⟩
  · exact ⟨hinv.obj, hinv.inj, fun b o => by rw [hinv.own]; simp [Oof, get], fun i ob h1 h2 o h3 => hinv.sep i ob h1 h2 o (by simpa [Oof, get] using h3), fun b o h3 => hinv.old b o (by simpa [Oof, get] using h3)⟩

/-- the frame goes: its own variables are forgotten -/
theorem FInv.leave {σ : Sg} {lam : Nat → Nat} {st : St} {a : Act} (hi : FInv X σ lam st a) : ∃ τ : Sg, τ.w = σ.w ∧ τ.H = st.H ∧ HInv τ X.Oout ∧ Mono X.s0 τ ∧ Blk X.s0 τ ∧ ∀ m v, RM σ m v → RM τ m v := by
  let τ : Sg := { σ with O := fun b o => X.Oout b o ∨ ∃ (i : Nat) (ob : Ob), σ.H[i]? = some ob ∧ σ.l i = b ∧ ob.owns o }
  have hmono : Mono σ τ := by
    refine ⟨fun b o v h5 h6 => ⟨h5, fun h7 => h6 ?_⟩, fun i cs h5 => ⟨⟨cs, h5⟩, rfl⟩, fun i cs h5 => ⟨⟨cs, h5⟩, rfl⟩, fun i h5 => h5, fun i acc ec ver cs h5 => .inr ⟨acc, ver, cs, h5, Nat.le_refl _, fun _ => ⟨rfl, rfl, fun arr T h6 => ⟨arr, h6, rfl⟩⟩⟩, fun _ h => ⟨_, h⟩⟩
    rw [hi.hinv.own]
    rcases h7 with h7 | h7
    · exact .inl (.inl h7)
    · exact .inr h7
  refine ⟨τ, rfl, hi.hH, ?_, hi.mono.trans hmono, ⟨hi.blk.os, hi.blk.output, hi.blk.tape, hi.blk.size, hi.blk.blk, hi.blk.loc⟩, fun m v h => h.mono hmono⟩
  exact ⟨fun i ob h5 => (hi.hinv.obj i ob h5).keep hmono (fun x hx => hx), hi.hinv.inj, fun b o => Iff.rfl, fun i ob h5 h6 o h7 => hi.hinv.sep i ob h5 h6 o (.inl h7), fun b o h7 => hi.hinv.old b o (.inl h7)⟩

theorem evDef_ok (hC : CfgOk C) {rounds g : Nat} {caps : List M} {H H' : Hp} {us : List Nat} (h : evDef C rounds g caps H = .ok (H', us)) :
    IsFn C.P g ∧ Frm H H' us ∧ ∀ (σ : Sg) (Oo : Nat → Nat → Prop) (vs : Array Value), HInv σ Oo → σ.H = H → RMs σ caps vs →
      CallsD C.P g vs .returning σ.w fun e u' w' => u' = .returning ∧ ∃ v σ', e = .returned v ∧ σ'.w = w' ∧ σ'.H = H' ∧ HInv σ' Oo ∧ Mono σ σ' ∧ Blk σ σ' := by
  unfold evDef at h
  split at h
  · rename_i fd hfd
    split at h
    · rename_i c hc
      replace h := bif_ok h; obtain ⟨hle, h⟩ := h
      simp only [Bool.and_eq_true] at hle
      have hisf := isFn_of hle.2
      replace hle := Nat.le_of_ble_eq_true hle.1
      have fin : ∀ ex s us1, (ex = .nrm ∨ ex = .ret) → evRec C fd.ntmps H.length rounds c ⟨enumV 0 caps, [], H⟩ [] = .ok (ex, s, us1) → ∀ m, resM C.P fd s = some m → IsFn C.P g ∧ Frm H s.H us1 ∧
          ∀ (σ : Sg) (Oo : Nat → Nat → Prop) (vs : Array Value), HInv σ Oo → σ.H = H → RMs σ caps vs →
          CallsD C.P g vs .returning σ.w fun e u' w' => u' = .returning ∧ ∃ v σ', e = .returned v ∧ σ'.w = w' ∧ σ'.H = s.H ∧ HInv σ' Oo ∧ Mono σ σ' ∧ Blk σ σ' := by
        intro ex s us1 hex hev m hm
        have key := fun (s0 : Sg) (Oo : Nat → Nat → Prop) => evRec_ok (X := ⟨C.P, fd.ntmps, s0, Oo, []⟩) (C := C) hC rfl (B := H.length) (rounds := rounds) c _ _ _ _ _ hev
        refine ⟨hisf, (key ⟨default, fun _ _ => False, fun _ => 0, []⟩ (fun _ _ => False)).2 H ⟨Nat.le_refl _, fun _ _ _ => rfl⟩, ?_⟩
        intro σ Oo vs hinv hH hvs
        refine callsD_of_wpS hfd hc fun c0 cs hm0 => ?_
        have h0 := FInv.enter (P := C.P) (n := fd.ntmps) hinv hvs hle
        rw [hH] at h0
        have h1 := (key σ Oo).1 c0 cs hm0 _ σ.w ⟨σ, _, rfl, h0⟩
        refine wpS_mono h1 ?_
        rintro e a' cs' w' ⟨rfl, rfl, σ', lam', rfl, hi'⟩
        have hres : a'.defers = [] ∧ ∃ u', c0 :: cs = { c0 with mode := u' } :: cs ∧ ∃ v, (results fd a'.tmps).run C.P σ'.w = .ok v σ'.w ∧ (u' = FrameMode.returning ∧ ∃ v' τ, Ending.returned v = .returned v' ∧ τ.w = σ'.w ∧ τ.H = s.H ∧ HInv τ Oo ∧ Mono σ τ ∧ Blk σ τ) := by
          obtain ⟨u, h3, _⟩ := resM_run hi' hm
          obtain ⟨τ, t1, t2, t3, t4, t5, _⟩ := hi'.leave
          exact ⟨hi'.defers, .returning, by cases c0; simp at hm0; subst hm0; rfl, u, h3, rfl, u, τ, rfl, t1, t2, t3, t4, t5⟩
        rcases hex with rfl | rfl
        · exact hres
        · exact hres
      split at h
      · rename_i s us1 hev
        split at h
        · rename_i m hm
          injection h with h; injection h with e1 e2; subst e1; subst e2
          exact fin _ _ _ (.inl rfl) hev _ hm
        · cases h
      · rename_i s us1 hev
        split at h
        · rename_i m hm
          injection h with h; injection h with e1 e2; subst e1; subst e2
          exact fin _ _ _ (.inr rfl) hev _ hm
        · cases h
      · cases h
      · cases h
    · cases h
  · cases h
end

theorem rat_ok {α : Type} {n : Nat} {r : R α} {x : α} (h : R.at n r = .ok x) : r = .ok x := by
  cases r with
  | ok a => exact h
  | no w => cases h

theorem evFn_ok {P : Program} {sums : Nat → List D → Option (List D)} (hsums : ∀ f ds rs, sums f ds = some rs → PT P f ds (· = rs)) {heapF : Nat → Bool} {hint : Nat → Nat → Nat} {rounds : Nat} : ∀ {k f : Nat} {ms : List M} {H : Hp} {r : M} {H' : Hp} {us : List Nat}, evFn P sums heapF hint rounds k f ms H = .ok (r, H', us) →
    CT P f ms H (fun a b => a = r ∧ b = H') ∧ Frm H H' us := by
  intro k
  induction k with
  | zero => intro f ms H r H' us h; simp [evFn] at h
  | succ k ih =>
    intro f ms H r H' us h
    simp only [evFn] at h
    split at h
    · rename_i fn hfn
      split at h
      · rename_i c hc
        replace h := bif_ok h; obtain ⟨hle, h⟩ := h
        replace hle := Nat.le_of_ble_eq_true hle
        have hC : ∀ hn, CfgOk (cfgOf P sums heapF (evFn P sums heapF hint rounds k) hn) := by
          intro hn
          refine ⟨fun f ms H r H' us h => ih h, fun f ds rs h => ?_, fun f ds rs h => hsums _ _ _ h⟩
          dsimp only [cfgOf] at h
          split at h
          · rename_i rs' hs
            injection h with h; subst h
            exact hsums _ _ _ hs
          · split at h
            · rename_i m H1 us1 h1
              exact PT.of_view (ih h1).1 (ofO_ok h)
            · cases h
        have fin : ∀ ex s us1 p hn, (ex = .nrm ∨ ex = .ret) → evT (cfgOf P sums heapF (evFn P sums heapF hint rounds k) (hint f)) fn.ntmps H.length rounds c ⟨enumV 0 ms, [], H⟩ [] none = .ok (ex, s, us1, p) →
            evEnd (cfgOf P sums heapF (evFn P sums heapF hint rounds k) hn) rounds fn H.length s us1 p = .ok (r, H', us) → CT P f ms H (fun a b => a = r ∧ b = H') ∧ Frm H H' us := by
          intro ex s us1 p hn hex hev hend
          have key := fun (s0 : Sg) (Oo : Nat → Nat → Prop) => evT_ok (X := ⟨P, fn.ntmps, s0, Oo, []⟩) (C := cfgOf P sums heapF (evFn P sums heapF hint rounds k) (hint f)) (hC _) rfl rfl (B := H.length) (rounds := rounds) c _ _ _ _ _ _ _ hev
          have hfr := (key ⟨default, fun _ _ => False, fun _ => 0, []⟩ (fun _ _ => False)).2 H ⟨Nat.le_refl _, fun _ _ _ => rfl⟩
          unfold evEnd at hend
          cases p with
          | none =>
            dsimp only at hend
            split at hend
            · rename_i m hm
              injection hend with hend; injection hend with e1 e2; injection e2 with e2 e3; subst e1; subst e2; subst e3
              refine ⟨?_, hfr⟩
              intro σ Oo vs hinv hH hms
              refine calls_of_wp_defers hfn hc ?_
              have h0 := FInv.enter (P := P) (n := fn.ntmps) hinv hms hle
              rw [hH] at h0
              refine wp_mono ((key σ Oo).1 _ σ.w ⟨σ, _, rfl, h0⟩) ?_
              rintro e a' w' ⟨rfl, σ', lam', rfl, hi'⟩
              have hl : Leaves P fn a'.tmps (fun e w' => ∃ v r σ', e = .returned v ∧ σ'.w = w' ∧ (r = m ∧ σ'.H = s.H) ∧ HInv σ' Oo ∧ RM σ' r v ∧ Mono σ σ' ∧ Blk σ σ') a'.defers .returning σ'.w := by
                rw [show a'.defers = [] from hi'.defers]
                obtain ⟨u, h3, h4⟩ := resM_run hi' hm
                obtain ⟨τ, t1, t2, t3, t4, t5, t6⟩ := hi'.leave
                exact ⟨u, h3, u, m, τ, rfl, t1, ⟨rfl, t2⟩, t3, t6 _ _ h4, t4, t5⟩
              rcases hex with rfl | rfl
              · exact hl
              · exact hl
            · cases hend
          | some gc =>
            obtain ⟨g, caps⟩ := gc
            dsimp only at hend
            split at hend
            · rename_i H3 us3 hdef
              split at hend
              · rename_i m hm
                injection hend with hend; injection hend with e1 e2; injection e2 with e2 e3; subst e1; subst e2; subst e3
                obtain ⟨hfnB, hf3, hcall⟩ := evDef_ok (hC hn) hdef
                replace hfnB : IsFn P g := hfnB
                refine ⟨?_, FrB.call hfr hf3⟩
                intro σ Oo vs hinv hH hms
                refine calls_of_wp_defers hfn hc ?_
                have h0 := FInv.enter (P := P) (n := fn.ntmps) hinv hms hle
                rw [hH] at h0
                refine wp_mono ((key σ Oo).1 _ σ.w ⟨σ, _, rfl, h0⟩) ?_
                rintro e a' w' ⟨rfl, σd, ds, m1, m2, m3, σ', lam', rfl, hi'⟩
                have hl : Leaves P fn a'.tmps (fun e w' => ∃ v r σ', e = .returned v ∧ σ'.w = w' ∧ (r = m ∧ σ'.H = H3) ∧ HInv σ' Oo ∧ RM σ' r v ∧ Mono σ σ' ∧ Blk σ σ') a'.defers .returning σ'.w := by
                  rw [show a'.defers = [⟨.fn (.func g) ds, #[]⟩] from hi'.defers]
                  refine leaves_cons (f := g) (args := ds) (by simp) (by simp [invoke, hfnB.run]) ?_
                  refine (hcall σ' _ ds hi'.hinv hi'.hH (m3.mono hi'.mono)).mono ?_
                  rintro e u' w3 ⟨rfl, v3, σ3, rfl, rfl, hH3, hinv3, hm3, hb3⟩
                  have hi3 : FInv ⟨P, fn.ntmps, σd, Oo, [⟨.fn (.func g) ds, #[]⟩]⟩ σ3 lam' ⟨s.sl, s.bx, H3⟩ a' := by
                    refine ⟨hH3, hi'.defers, hi'.size, fun t v h3 => let ⟨u, h4, h5⟩ := hi'.slot t v h3; ⟨u, h4, h5.mono hm3⟩, ?_, hi'.binj, hi'.bsep, hi'.bnew, hinv3, hi'.mono.trans hm3, hi'.blk.trans hb3⟩
                    intro t cs h3
                    have hlt := (hi'.box t cs h3).lt trivial
                    have hne := sep_of_hinv hi'.hinv (b := lam' t) (.inr ⟨t, cs, h3, rfl⟩)
                    refine (hi'.box t cs h3).keep hm3 fun x hx => ?_
                    rw [hb3.blk _ hlt hne]; exact hx
                  obtain ⟨u, h3, h4⟩ := resM_run hi3 hm
                  obtain ⟨τ, t1, t2, t3, t4, t5, t6⟩ := hi3.leave
                  exact ⟨u, h3, u, m, τ, rfl, t1, ⟨rfl, t2⟩, t3, t6 _ _ h4, m1.trans t4, m2.trans t5⟩
                rcases hex with rfl | rfl
                · exact hl
                · exact hl
              · cases hend
            · cases hend
        split at h
        · rename_i s us1 p hev
          exact fin _ _ _ _ _ (.inl rfl) hev (rat_ok h)
        · rename_i s us1 p hev
          exact fin _ _ _ _ _ (.inr rfl) hev (rat_ok h)
        · cases h
        · cases h
      · cases h
    · cases h

/-- a function of data, by its run -/
theorem PT.of_run {P : Program} {sums : Nat → List D → Option (List D)} (hsums : ∀ f ds rs, sums f ds = some rs → PT P f ds (· = rs)) {heapF : Nat → Bool} {hint : Nat → Nat → Nat} {rounds k f : Nat} {ds rs : List D} {m : M} {H' : Hp} {us : List Nat} (h : evFn P sums heapF hint rounds k f (ds.map .d) [] = .ok (m, H', us)) (hv : viewR (H'.map fz) m = some rs) : PT P f ds (· = rs) :=
  PT.of_view (evFn_ok hsums h).1 hv
/-- does a run of a function without parameters answer yes? -/
def runTrue (P : Program) (sums : Nat → List D → Option (List D)) (heapF : Nat → Bool) (hint : Nat → Nat → Nat) (rounds k f : Nat) : Bool :=
  match evFn P sums heapF hint rounds k f [] [] with
  | .ok (.d (.bool true), _, _) => true
  | _ => false
theorem PT.of_runTrue {P : Program} {sums : Nat → List D → Option (List D)} (hsums : ∀ f ds rs, sums f ds = some rs → PT P f ds (· = rs)) {heapF : Nat → Bool} {hint : Nat → Nat → Nat} {rounds k f : Nat} (h : runTrue P sums heapF hint rounds k f = true) : PT P f [] (· = [.bool true]) := by
  unfold runTrue at h
  split at h
  · rename_i H us hr
    exact PT.of_run hsums (ds := []) hr rfl
  · cases h
def noSums (_ : Nat) (_ : List D) : Option (List D) := none
theorem noSums_ok {P : Program} : ∀ f ds rs, noSums f ds = some rs → PT P f ds (· = rs) := by intro f ds rs h; cases h
end Go.Mt
