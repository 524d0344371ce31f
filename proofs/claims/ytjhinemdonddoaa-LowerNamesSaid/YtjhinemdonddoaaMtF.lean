import Derived.Test.YtjhinemdonddoaaMtE
set_option linter.unusedVariables false
namespace Go.Mt

theorem TC.cond {X : Ctx} {st : St} {post : Exit → St → Prop} {c : Operand} {x y : Code} {b : Bool} (hc : st.ev c = some (.m (.d (.bool b))))
    (ht : b = true → TC X x st post) (hf : b = false → TC X y st post) : TC X (.cond c x y) st post := by
  rintro a w ⟨σ, lam, rfl, hi⟩
  refine wp_cond (hi.evbool hc) ?_
  cases b
  · exact hf rfl a _ ⟨σ, lam, rfl, hi⟩
  · exact ht rfl a _ ⟨σ, lam, rfl, hi⟩

def tupM : List M → M
  | [m] => m
  | ms => .tup ms

/-- What a function does, over the heap. -/
def CT (P : Program) (f : Nat) (ms : List M) (H : Hp) (post : M → Hp → Prop) : Prop :=
  ∀ (σ : Sg) (Oo : Nat → Nat → Prop) (vs : Array Value), HInv σ Oo → σ.H = H → RMs σ ms vs → Calls P f vs σ.w fun e w' => ∃ v r σ', e = .returned v ∧ σ'.w = w' ∧ post r σ'.H ∧ HInv σ' Oo ∧ RM σ' r v ∧ Mono σ σ' ∧ Blk σ σ'

/-- What a function of data does. -/
def PT (P : Program) (f : Nat) (ds : List D) (post : List D → Prop) : Prop :=
  ∀ (O : Nat → Nat → Prop) (w : World) (vs : Array Value), (∀ b o, O b o → b < w.heap.size) → Reps O w ds vs → Calls P f vs w fun e w' => ∃ v r, e = .returned v ∧ post r ∧ ExtW w w' ∧ RM ⟨w', O, fun _ => 0, []⟩ (tupM (r.map .d)) v

theorem PT.mono {P : Program} {f : Nat} {ds : List D} {post post' : List D → Prop} (h : PT P f ds post) (hp : ∀ r, post r → post' r) : PT P f ds post' :=
  fun O w vs h1 h2 => (h O w vs h1 h2).mono fun e w' ⟨v, r, a, b, c, d⟩ => ⟨v, r, a, hp r b, c, d⟩
theorem CT.mono {P : Program} {f : Nat} {ms : List M} {H : Hp} {post post' : M → Hp → Prop} (h : CT P f ms H post) (hp : ∀ r H', post r H' → post' r H') : CT P f ms H post' :=
  fun σ Oo vs h1 h2 h3 => (h σ Oo vs h1 h2 h3).mono fun e w' ⟨v, r, σ', a, b, c, d⟩ => ⟨v, r, σ', a, b, hp _ _ c, d⟩

/-- a value without references, in a state that owns less -/
theorem RM.mono' {σ τ : Sg} {ds : List D} {v : Value} (h : RM σ (tupM (ds.map .d)) v) (hc : ∀ b o v, cellv σ.w b o = some v → ¬ σ.O b o → cellv τ.w b o = some v ∧ ¬ τ.O b o) :
    RM τ (tupM (ds.map .d)) v := by
  match ds, h with
  | [], h => cases h with
    | tup cs vs hl h => exact .tup _ _ hl (by simp)
  | [x], h => cases h with
    | d h => exact .d (h.mono hc)
  | x1 :: x2 :: xs, h => cases h with
    | tup cs vs hl hh =>
      refine .tup _ _ hl fun i m v hm hv => ?_
      have h1 := hh i m v hm hv
      have hm' : ((x1 :: x2 :: xs).map M.d)[i]? = some m := hm
      simp only [List.getElem?_map, Option.map_eq_some_iff] at hm'
      obtain ⟨d, _, rfl⟩ := hm'
      cases h1 with
      | d h1 => exact .d (h1.mono hc)

theorem PT.of_CT {P : Program} {f : Nat} {ds : List D} {post : List D → Prop} (h : CT P f (ds.map .d) [] fun r _ => ∃ d, r = tupM (d.map .d) ∧ post d) : PT P f ds post := by
  intro O w vs hO hv
  let σ : Sg := ⟨w, O, fun _ => 0, []⟩
  have hinv : HInv σ O := ⟨by simp [σ], by simp [σ], by simp [σ], by simp [σ], hO⟩
  have hms : RMs σ (ds.map .d) vs := by
    refine ⟨by simp [hv.1], fun i m v h1 h2 => ?_⟩
    simp only [List.getElem?_map, Option.map_eq_some_iff] at h1
    obtain ⟨d, hd, rfl⟩ := h1
    exact .d (hv.2 i d v hd h2)
  refine (h σ O vs hinv rfl hms).mono ?_
  rintro e w' ⟨v, r, σ', he, hw, ⟨d, hrd, hp⟩, hi', hr, hm, hb⟩
  subst hrd
  subst hw
  refine ⟨v, d, he, hp, ⟨hb.os, hb.output, hb.tape, hb.size, fun b h1 => hb.blk b h1 (by simp [σ])⟩, ?_⟩
  refine hr.mono' ?_
  exact fun b o v h1 h2 => ⟨h1, fun h3 => h2 ((hi'.own b o).2 (.inl h3))⟩

def enumV (i : Nat) : List M → List (Nat × V)
  | [] => []
  | m :: r => (i, .m m) :: enumV (i + 1) r

theorem get_enumV : ∀ (ms : List M) (i t : Nat) (v : V), get (enumV i ms) t = some v → i ≤ t ∧ ∃ m, ms[t - i]? = some m ∧ v = .m m
  | [], i, t, v, h => by simp [enumV, get] at h
  | m :: r, i, t, v, h => by
    simp only [enumV, get_cons] at h
    by_cases e : i = t
    · subst e; simp at h; subst h; exact ⟨Nat.le_refl _, m, by simp, rfl⟩
    · rw [if_neg e] at h
      obtain ⟨h1, m', h2, h3⟩ := get_enumV r (i + 1) t v h
      refine ⟨by omega, m', ?_, h3⟩
      have : t - i = (t - (i + 1)) + 1 := by omega
      rw [this]; simpa using h2

/-- a result, read off the state -/
def resOne (P : Program) (st : St) : ResultVar → Option M
  | .tmp t => match get st.sl t with
    | some (.m m) => some m
    | _ => none
  | .cell t T => match get st.sl t with
    | some (.loc u off) => match get st.bx u with
      | some cs => readAt P T cs off
      | none => none
    | some (.m (.d (.pim cs off))) => (readD P T cs off).map .d
    | some (.m (.ref i off)) => match st.H[i]? with
      | some (.box cs) => readAt P T cs off
      | _ => none
    | _ => none
def resAll (P : Program) (st : St) : List ResultVar → Option (List M)
  | [] => some []
  | r :: rs => match resOne P st r, resAll P st rs with
    | some m, some ms => some (m :: ms)
    | _, _ => none
def resM (P : Program) (fn : Func) (st : St) : Option M := (resAll P st fn.results.toList).map tupM

theorem allD_spec : ∀ {cs : List M} {ds : List D}, allD cs = some ds → cs = ds.map .d
  | [], ds, h => by simp [allD] at h; subst h; rfl
  | m :: r, ds, h => by
    cases m <;> simp only [allD] at h <;> try (cases h; done)
    rename_i x
    cases hr : allD r with
    | none => simp [hr] at h
    | some ds' => simp [hr] at h; subst h; simp [allD_spec hr]

theorem RMs.allD {σ : Sg} {cs : List M} {ds : List D} {vs : Array Value} (h : RMs σ cs vs) (hd : allD cs = some ds) : Reps σ.O σ.w ds vs := by
  have := allD_spec hd
  subst this
  refine ⟨by simpa using h.1, fun i d v h1 h2 => ?_⟩
  have := h.2 i (.d d) v (by simp [h1]) h2
  cases this with
  | d h => exact h

theorem RMc.flat {σ : Sg} {cs : List M} {vs : Array Value} (h : RMc σ cs vs) : ∀ (i : Nat) (v : Value), vs[i]? = some v → flat v = true := by
  intro i v hv
  have hi : i < cs.length := by
    rw [← h.1]; rcases Nat.lt_or_ge i vs.size with h | h; exact h; simp [Array.getElem?_eq_none h] at hv
  exact (h.2 i cs[i] v (by simp [hi]) hv).2

/-- a load out of a block whose cells are known -/
theorem loadM_run {P : Program} {σ : Sg} {t b off : Nat} {cs : List M} {arr : Array Value} {T : Nat} {fz : Nat × Nat} {m : M} (hr : readAt P t cs off = some m)
    (hb : σ.w.heap[b]? = some (.cells arr T fz)) (hsz : cs.length ≤ arr.size) (h : ∀ (i : Nat) (m : M) (v : Value), cs[i]? = some m → arr[i]? = some v → RM σ m v ∧ flat v = true) :
    ∃ u, (loadVar t ⟨b, off, none⟩).run P σ.w = .ok u σ.w ∧ RM σ m u := by
  have hcell : ∀ i, i < arr.size → cellv σ.w b i = some (arr.getD i undef) := by
    intro i hi; simp [cellv, World.cell?, hb, hi]
  unfold readAt at hr
  split at hr
  · rename_i n h1 h2
    cases hbl : Nat.ble (off + n) cs.length with
    | false => simp [hbl] at hr
    | true =>
      simp only [hbl, cond_true, Option.some.injEq] at hr
      subst hr
      have hle : off + n ≤ cs.length := Nat.le_of_ble_eq_true hbl
      have hty : TyAgg P t n := ⟨h1, h2⟩
      have hsz2 : (arr.extract off (off + n)).size = n := by simp; omega
      have hl : (loadCellsFrom ⟨b, off, none⟩ 0 n #[]).run P σ.w = .ok (arr.extract off (off + n)) σ.w := by
        refine loadCells_run n 0 _ (by omega) (by simp) ?_
        intro j hj
        rw [hsz2] at hj
        rw [hcell _ (by omega)]
        have hlt : j < min (off + n) arr.size - off := by omega
        have : off + j < arr.size := by omega
        simp [hlt, this]
      have hms : RMc σ ((cs.drop off).take n) (arr.extract off (off + n)) := by
        refine ⟨by rw [hsz2]; simp; omega, fun i m v hm hv => ?_⟩
        have hi : i < n := by
          rcases Nat.lt_or_ge i n with h | h
          · exact h
          · rw [Array.getElem?_eq_none (by omega)] at hv; cases hv
        rw [take_drop_getElem? cs off n i hi] at hm
        refine h _ _ _ hm ?_
        rw [Array.getElem?_extract] at hv
        split at hv
        · exact hv
        · cases hv
      refine ⟨.agg (arr.extract off (off + n)), by simp [loadVar, hty.run, size_run h2, loadCells, hl], ?_⟩
      unfold pack
      split
      · rename_i ds hd
        have hms' := hms
        have := RMs.allD ⟨hms.1, fun i m v a b => (hms.2 i m v a b).1⟩ hd
        exact .d (.agg ds _ this.1 (hms.flat) this.2)
      · exact .agg _ _ hms.1 hms.flat (fun i m v a b => (hms.2 i m v a b).1)
  · rename_i h1
    have hty : TyCell P t := ⟨h1⟩
    have hlt : off < cs.length := by
      rcases Nat.lt_or_ge off cs.length with h | h
      · exact h
      · simp [List.getElem?_eq_none h] at hr
    have hc : σ.w.cell? ⟨b, off, none⟩ = some (arr.getD off undef) := hcell off (by omega)
    refine ⟨arr.getD off undef, by simp [loadVar, hty.run, hc], (h off m _ hr (by simp [show off < arr.size by omega])).1⟩
  · cases hr

def resSem (tmps : Array Value) : ResultVar → Sem Value
  | .tmp t => pure (tmps.getD t undef)
  | .cell a t => do loadVar t (← asAddr (tmps.getD a undef))

theorem resOne_run {X : Ctx} {σ : Sg} {lam : Nat → Nat} {st : St} {a : Act} (hi : FInv X σ lam st a) {r : ResultVar} {m : M} (h : resOne X.P st r = some m) :
    ∃ u, (resSem a.tmps r).run X.P σ.w = .ok u σ.w ∧ RM σ m u := by
  unfold resOne at h
  split at h
  · rename_i t
    split at h
    · rename_i m' hg
      injection h with h; subst h
      obtain ⟨u, h1, h2⟩ := hi.slot t _ hg
      cases h2 with
      | m h2 => exact ⟨u, by simp [resSem, h1], h2⟩
    · cases h
  · rename_i t T
    split at h
    · rename_i u off hg
      split at h
      · rename_i cs hb
        obtain ⟨x, h1, h2⟩ := hi.slot t _ hg
        cases h2 with
        | loc u off =>
          obtain ⟨arr, TT, h3, h4⟩ := hi.box u cs hb
          obtain ⟨v, h5, h6⟩ := loadM_run h h3 (by rw [h4.1]; exact Nat.le_refl _) h4.2
          exact ⟨v, by simp [resSem, h1, asAddr, h5], h6⟩
      · cases h
    · rename_i cs off hg
      obtain ⟨x, h1, h2⟩ := hi.slot t _ hg
      cases h2 with
      | m h2 => cases h2 with
        | d h2 => cases h2 with
          | pim cs off b o val hcell hflat hrep =>
            cases hr : readD X.P T cs off with
            | none => simp [hr] at h
            | some d =>
              simp [hr] at h; subst h
              obtain ⟨v, h5, h6⟩ := loadD_run hr hcell hflat hrep
              refine ⟨v, ?_, .d h6⟩
              simp only [Instr.loadAt, Instr.sureAddr] at h5
              simpa [resSem, h1, asAddr] using h5
    · rename_i i off hg
      split at h
      · rename_i cs hH
        obtain ⟨x, h1, h2⟩ := hi.slot t _ hg
        cases h2 with
        | m h2 => cases h2 with
          | ref i off cs0 hh =>
            obtain ⟨arr, TT, h3, h4⟩ := hi.hinv.obj i (.box cs) (by rw [hi.hH]; exact hH)
            obtain ⟨v, h5, h6⟩ := loadM_run h h3 (by rw [h4.1]; exact Nat.le_refl _) h4.2
            exact ⟨v, by simp [resSem, h1, asAddr, h5], h6⟩
      · cases h
    · cases h

theorem resAll_run {X : Ctx} {σ : Sg} {lam : Nat → Nat} {st : St} {a : Act} (hi : FInv X σ lam st a) : ∀ {rs : List ResultVar} {ms : List M}, resAll X.P st rs = some ms →
    ∃ us : List Value, (rs.mapM (resSem a.tmps)).run X.P σ.w = .ok us σ.w ∧ RMs σ ms us.toArray
  | [], ms, h => by simp [resAll] at h; subst h; exact ⟨[], by simp, rfl, by simp⟩
  | r :: rs, ms, h => by
    simp only [resAll] at h
    split at h
    · rename_i m ms' h1 h2
      injection h with h; subst h
      obtain ⟨u, h3, h4⟩ := resOne_run hi h1
      obtain ⟨us, h5, h6⟩ := resAll_run hi h2
      refine ⟨u :: us, ?_, ?_⟩
      · rw [List.mapM_cons]
        simp only [Sem.run_bind, Sem.run_pure]
        rw [h3]; simp only [Result.andThen_ok]; rw [h5]; simp
      · refine ⟨by simpa using h6.1, fun i m' v hm hv => ?_⟩
        cases i with
        | zero => simp at hm hv; subst hm; subst hv; exact h4
        | succ i => simp at hm hv; exact h6.2 i m' v hm (by simpa using hv)
    · cases h

theorem resM_run {X : Ctx} {σ : Sg} {lam : Nat → Nat} {st : St} {a : Act} (hi : FInv X σ lam st a) {fn : Func} {m : M} (h : resM X.P fn st = some m) :
    ∃ u, (results fn a.tmps).run X.P σ.w = .ok u σ.w ∧ RM σ m u := by
  unfold resM at h
  cases hr : resAll X.P st fn.results.toList with
  | none => simp [hr] at h
  | some ms =>
    simp [hr] at h
    subst h
    obtain ⟨us, h1, h2⟩ := resAll_run hi hr
    have hlen : us.length = ms.length := by simpa using h2.1
    have hrun : (results fn a.tmps).run X.P σ.w = .ok (if h : us.toArray.size = 1 then us.toArray[0] else .tuple us.toArray) σ.w := by
      have hf : results fn a.tmps = (do let vs ← fn.results.mapM (resSem a.tmps); pure (if h : vs.size = 1 then vs[0] else .tuple vs)) := by
        unfold results
        congr 1
      rw [hf, Array.mapM_eq_mapM_toList]
      simp only [Sem.run_bind, Functor.map]
      simp only [Sem.run_bind']
      rw [h1]
      simp
    rw [hrun]
    match ms, us, h2, hlen with
    | [], [], h2, _ => exact ⟨_, rfl, by rw [dif_neg (by simp)]; exact .tup [] #[] rfl (by simp)⟩
    | [m], [u], h2, _ => exact ⟨_, rfl, by simp [tupM]; exact h2.2 0 m u (by simp) (by simp)⟩
    | m1 :: m2 :: ms, u1 :: u2 :: us, h2, _ =>
      refine ⟨_, rfl, ?_⟩
      rw [dif_neg (by simp)]
      exact .tup _ _ h2.1 h2.2

def retPost (P : Program) (fn : Func) (post : M → Hp → Prop) : Exit → St → Prop
  | .normal, s => ∃ m, resM P fn s = some m ∧ post m s.H
  | .ret, s => ∃ m, resM P fn s = some m ∧ post m s.H
  | _, _ => False

theorem CT.of_body {P : Program} {f : Nat} {fn : Func} {c : Code} {ms : List M} {H : Hp} {post : M → Hp → Prop} (hf : P.funcs[f]? = some fn) (hb : fn.body = some c)
    {n : Nat} (hnt : fn.ntmps = n) (hn : Nat.ble ms.length n = true) (h : ∀ (s0 : Sg) (Oout : Nat → Nat → Prop), TC ⟨P, n, s0, Oout, []⟩ c ⟨enumV 0 ms, [], H⟩ (retPost P fn post)) : CT P f ms H post := by
  subst hnt
  replace hn := Nat.le_of_ble_eq_true hn
  intro σ Oo vs hinv hH hms
  refine calls_of_wp hf hb ?_
  let X : Ctx := ⟨P, fn.ntmps, σ, Oo, []⟩
  have hoof : ∀ b o, Oof Oo (fun _ => 0) [] b o ↔ Oo b o := by intro b o; simp [Oof, get]
  have h0 : FInv X σ (fun _ => 0) ⟨enumV 0 ms, [], H⟩ { tmps := vs ++ Array.replicate (fn.ntmps - vs.size) undef, defers := [] } := by
    refine ⟨hH, rfl, ?_, ?_, by simp [get], by simp [get], by simp [get], by simp [get], ?_, Mono.refl _, Blk.refl _⟩
    · have := hms.1; simp [X]; omega
    · intro t v hv
      obtain ⟨_, m, h2, rfl⟩ := get_enumV ms 0 t v hv
      simp at h2
      have hlt : t < vs.size := by
        rw [hms.1]; rcases Nat.lt_or_ge t ms.length with h | h; exact h; simp [List.getElem?_eq_none h] at h2
      exact ⟨vs[t], by simp [Array.getElem?_append, hlt], .m (hms.2 t m _ h2 (by simp [hlt]))⟩
    · exact ⟨hinv.obj, hinv.inj, fun b o => by rw [hinv.own]; simp [Oof, get, X], fun i ob h1 h2 o h3 => hinv.sep i ob h1 h2 o (by simpa [Oof, get] using h3), fun b o h3 => hinv.old b o (by simpa [Oof, get] using h3)⟩
  have hbody := h σ Oo _ σ.w ⟨σ, fun _ => 0, rfl, h0⟩
  refine wp_mono hbody ?_
  rintro e a' w' ⟨st', hpost, σ', lam', rfl, hi'⟩
  have fin : (∃ m, resM P fn st' = some m ∧ post m st'.H) → a'.defers = [] ∧ ∃ v, (results fn a'.tmps).run P σ'.w = .ok v σ'.w ∧ ∃ v' r σ'', Ending.returned v = .returned v' ∧ σ''.w = σ'.w ∧ post r σ''.H ∧ HInv σ'' Oo ∧ RM σ'' r v' ∧ Mono σ σ'' ∧ Blk σ σ'' := by
    rintro ⟨m, h1, h2⟩
    obtain ⟨u, h3, h4⟩ := resM_run hi' h1
    have hmono : Mono σ' { σ' with O := fun b o => Oo b o ∨ ∃ (i : Nat) (ob : Ob), σ'.H[i]? = some ob ∧ σ'.l i = b ∧ ob.owns o } := by
      refine ⟨fun b o v h5 h6 => ⟨h5, fun h7 => h6 ?_⟩, fun i cs h5 => ⟨⟨cs, h5⟩, rfl⟩, fun i cs h5 => ⟨⟨cs, h5⟩, rfl⟩, fun i h5 => h5, fun i acc ec ver cs h5 => .inr ⟨acc, ver, cs, h5, Nat.le_refl _, fun _ => ⟨rfl, rfl, fun arr T h6 => ⟨arr, h6, rfl⟩⟩⟩, fun _ h => ⟨_, h⟩⟩
      rw [hi'.hinv.own]
      rcases h7 with h7 | h7
      · exact .inl (.inl h7)
      · exact .inr h7
    refine ⟨hi'.defers, u, h3, u, m, { σ' with O := fun b o => Oo b o ∨ ∃ (i : Nat) (ob : Ob), σ'.H[i]? = some ob ∧ σ'.l i = b ∧ ob.owns o }, rfl, rfl, by rw [show σ'.H = st'.H from hi'.hH]; exact h2, ?_, ?_, ?_, ?_⟩
    · exact ⟨fun i ob h5 => (hi'.hinv.obj i ob h5).keep hmono (fun x hx => hx), hi'.hinv.inj, fun b o => Iff.rfl, fun i ob h5 h6 o h7 => hi'.hinv.sep i ob h5 h6 o (.inl h7), fun b o h7 => hi'.hinv.old b o (.inl h7)⟩
    · exact h4.mono hmono
    · exact hi'.mono.trans hmono
    · exact ⟨hi'.blk.os, hi'.blk.output, hi'.blk.tape, hi'.blk.size, hi'.blk.blk, hi'.blk.loc⟩
  cases e with
  | normal => exact fin hpost
  | ret => exact fin hpost
  | _ => exact hpost.elim

end Go.Mt
