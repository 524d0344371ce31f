import Derived.Test.YtjhinemdonddoaaMtEe
set_option linter.unusedVariables false
set_option linter.unusedSimpArgs false
namespace Go.Mt

section ops
variable {X : Ctx} {st : St} {dst : Option Nat} {ty : Nat} {pos : String} {af : Array Edge} {g : Option (Nat × Bool)} {pn : Nat} {H' : Hp}

def PartsOk (σ : Sg) (a : Act) (xs : List (Nat × Operand)) (ms : List (Nat × M)) : Prop :=
  ms.length = (xs.map fun p => (p.1, a.eval p.2)).length ∧ ∀ (k : Nat) p q, ms[k]? = some p → (xs.map fun p => (p.1, a.eval p.2))[k]? = some q → p.1 = q.1 ∧ RM σ p.2 q.2

theorem viewP_spec {H : Hp} : ∀ {ms qs : List (Nat × M)}, viewP H ms = some qs → qs.length = ms.length ∧ ∀ (k : Nat) p q, ms[k]? = some p → qs[k]? = some q → p.1 = q.1 ∧ ∃ d, q.2 = .d d ∧ viewD H p.2 = some d
  | [], qs, h => by simp [viewP] at h; subst h; simp
  | (i, m) :: r, qs, h => by
    simp only [viewP] at h
    split at h
    · rename_i d hd
      split at h
      · rename_i qs' hqs
        injection h with h; subst h
        obtain ⟨h1, h2⟩ := viewP_spec hqs
        refine ⟨by simp [h1], fun k p q hp hq => ?_⟩
        cases k with
        | zero => simp at hp hq; subst hp; subst hq; exact ⟨rfl, d, rfl, hd⟩
        | succ k => simp at hp hq; exact h2 k p q hp hq
      · cases h
    · cases h

theorem FInv.partsV {σ : Sg} {lam : Nat → Nat} {a : Act} (hi : FInv X σ lam st a) {xs : List (Nat × Operand)} {ms qs : List (Nat × M)} (he : Mt.evParts st xs = some ms) (hv : viewP st.H ms = some qs) : PartsOk σ a xs qs := by
  obtain ⟨h1, h2⟩ := hi.evParts he
  obtain ⟨h3, h4⟩ := viewP_spec hv
  refine ⟨by rw [h3, h1], fun k p q hp hq => ?_⟩
  have hk : k < ms.length := by rw [← h3]; rcases Nat.lt_or_ge k qs.length with h | h; exact h; simp [List.getElem?_eq_none h] at hp
  obtain ⟨e1, d, e2, e3⟩ := h4 k ms[k] p (by simp [hk]) hp
  obtain ⟨f1, f2⟩ := h2 k ms[k] q (by simp [hk]) hq
  refine ⟨by rw [← e1]; exact f1, ?_⟩
  rw [e2]
  exact .d (f2.viewD hi.hinv (by rw [hi.hH]; exact e3))

theorem op_buildSliceG {T e n len : Nat} {parts : List (Nat × Operand)} {z : D} {ms : List (Nat × M)} {cs : List M} {rows : List (List D)} [ht : TySlice X.P T e] [hs : TySz X.P e n] [hz : TyZ X.P e z]
    (hn : Nat.blt 0 n = true) (hzl : (dcells z).length = n) (hle : Nat.ble (len * n) 16777216 = true) (hparts : ∀ a σ lam, FInv X σ lam st a → PartsOk σ a parts ms)
    (hf : fillM (fun i => some (i * n, n)) (zlist n len (dcells z)) ms = some cs) (hch : chunk n len cs = some rows) :
    OpT X ⟨dst, .buildSlice T len parts.toArray, ty, pos, af, g⟩ st (eqp (.m (.d (.sl rows))) st) := by
  refine OpT.grow fun a σ lam hi => ?_
  have hn' := blt_lt hn
  have hle' := Nat.le_of_ble_eq_true hle
  obtain ⟨h1, h2⟩ := hparts a σ lam hi
  obtain ⟨v, hz1, hz2⟩ := (tyZero_of hz.zero).run
  have hvc : RMc σ ((dcells z).map .d) v.cells := (RM.d (dOfVal_rep hz2) : RM σ (.d z) v).cells rfl
  have hvs : v.cells.size = n := by rw [hvc.1]; simpa using hzl
  have hc : RMc σ (zlist n len (dcells z)) ((Array.range (len * n)).map fun i => v.cells[i % v.cells.size]!) := by
    refine ⟨by simp [zlist], fun i m u hm hu => ?_⟩
    have hi' : i < len * n := by
      rcases Nat.lt_or_ge i (len * n) with h | h
      · exact h
      · rw [Array.getElem?_eq_none (by simpa using h)] at hu; cases hu
    have hmod : i % n < n := Nat.mod_lt _ hn'
    have hmd : i % n < (dcells z).length := by omega
    simp [zlist, hi', hzl] at hm
    simp [hi', hvs] at hu
    have hlt : i % n < v.cells.size := by omega
    subst hm; subst hu
    refine hvc.2 (i % n) _ _ ?_ ?_
    · simp [List.getElem?_eq_getElem hmd]
    · simp [hlt]
  obtain ⟨arr', h3, h4⟩ := fill_run hc h1 h2 hf
  have hlen : cs.length = len * n := by
    have hfl : ∀ {ps : List (Nat × M)} {a b : List M}, fillM (fun i => some (i * n, n)) a ps = some b → b.length = a.length := by
      intro ps
      induction ps with
      | nil => intro a b h; simp [fillM] at h; subst h; rfl
      | cons p ps ih =>
        intro a b h
        obtain ⟨i, m⟩ := p
        unfold fillM at h
        simp only at h
        cases hb : (Nat.beq (cellsOf m).length n && m.okc) with
        | false => simp [hb] at h
        | true =>
          simp only [hb, cond_true] at h
          split at h
          · rename_i a1 hw
            rw [ih h]
            unfold writeAt at hw
            cases hb2 : Nat.ble (i * n + (cellsOf m).length) a.length with
            | false => simp [hb2] at hw
            | true =>
              simp only [hb2, cond_true, Option.some.injEq] at hw
              subst hw
              have := Nat.le_of_ble_eq_true hb2
              simp; omega
          · cases h
    rw [hfl hf]; simp [zlist]
  obtain ⟨h5, h6, h7⟩ := chunk_spec hch hlen
  have hasz : arr'.size = len * n := by rw [h4.1, hlen]
  refine ⟨.slice (some ⟨σ.w.heap.size, 0, none⟩) len len, { σ.w with heap := σ.w.heap.push (.cells arr' e (0, 0)) }, ?_, ExtW.alloc _ _, .m (.d (Rep.newsl hn' hi.hinv.oold h5 h6 hasz (by have := Nat.le_mul_of_pos_right len hn'; omega) ?_))⟩
  · have : (Array.map (fun x : Nat × Operand => match x with | (i, x) => (i, a.eval x)) parts.toArray).toList = parts.map fun p => (p.1, a.eval p.2) := by simp
    have h24 : ¬ (len * n > 2 ^ 24) := by omega
    by_cases hln : len * n = 0
    · have hle0 : len = 0 := by
        rcases Nat.mul_eq_zero.1 hln with h | h
        · exact h
        · omega
      subst hle0
      have harr : ((Array.range (0 * n)).map fun i => v.cells[i % v.cells.size]!) = #[] := by simp
      rw [harr] at h3
      simp only [execOp, Instr.buildSlice, Sem.run_bind, underlying, program, Sem.run, ht.u, Sem.run_pure, Result.andThen_ok, size_run hs.size, Sem.run_ite, hln, if_true, this]
      have e0 : Array.range 0 = (#[] : Array Nat) := by decide
      simp only [e0, Array.map_empty]
      rw [h3]
      simp [newRow, newObj, Sem.run]
    · simp only [execOp, Instr.buildSlice, Sem.run_bind, underlying, program, Sem.run, ht.u, Sem.run_pure, Result.andThen_ok, size_run hs.size, Sem.run_ite, h24, if_false, hln, hz1, this]
      rw [h3]
      simp [newRow, newObj, Sem.run]
  · intro i j r d u hr hd hu
    have := h4.2 _ _ u (h7 i j r d hr hd) hu
    refine ⟨?_, this.2⟩
    cases this.1 with
    | d h => exact h

theorem op_buildSliceV {T e n len : Nat} {parts : List (Nat × Operand)} {z : D} {ms : List (Nat × M)} {rows : List (List D)} [ht : TySlice X.P T e] [hs : TySz X.P e n] [hz : TyZ X.P e z] (h0 : Nat.blt 0 n = true) (hzl : Nat.beq (dcells z).length n = true)
    (hle : Nat.ble (len * n) 16777216 = true) (hparts : ∀ a σ lam, FInv X σ lam st a → PartsOk σ a parts ms) (hr : rowsO 0 ms = some rows) (hlen : Nat.beq rows.length len = true) (hl : lenAll n rows = true) :
    OpT X ⟨dst, .buildSlice T len parts.toArray, ty, pos, af, g⟩ st (eqp (.m (.d (.sl rows))) st) := by
  have hlen' := Nat.eq_of_beq_eq_true hlen
  have hl' := lenAll_eq hl
  have hzl' := Nat.eq_of_beq_eq_true hzl
  have hrm : rows.length = ms.length := by
    have : ∀ {ms : List (Nat × M)} {k : Nat} {rows : List (List D)}, rowsO k ms = some rows → rows.length = ms.length := by
      intro ms
      induction ms with
      | nil => intro k rows h; simp [rowsO] at h; subst h; rfl
      | cons p r ih =>
        intro k rows h
        obtain ⟨i, m⟩ := p
        cases m with
        | d d =>
          simp only [rowsO] at h
          cases hb : Nat.beq i k with
          | false => simp [hb] at h
          | true =>
            simp only [hb, cond_true] at h
            split at h
            · rename_i rs hr; injection h with h; subst h; simp [ih hr]
            · cases h
        | _ => simp [rowsO] at h
    exact this hr
  obtain ⟨h1, h2⟩ := rows_fill (blt_lt h0) (k := 0) (pre := []) (suf := zlist n len (dcells z)) hr hl' (by simp) (by simp [zlist]; rw [← hlen', hrm])
  simp only [List.nil_append] at h1
  have hch : chunk n len (rows.map fun r => r.map M.d).flatten = some rows := by rw [← hlen']; exact chunk_flat hl'
  exact op_buildSliceG h0 hzl' hle hparts h1 hch
theorem op_buildSliceP {T e n len : Nat} {parts : List (Nat × Operand)} {z : D} {ms : List (Nat × M)} {cs : List M} [ht : TySlice X.P T e] [hs : TySz X.P e n] [hz : TyZ X.P e z]
    (hn : Nat.blt 0 n = true) (hzl : (dcells z).length = n) (hle : Nat.ble (len * n) 16777216 = true) (he : evParts st parts = some ms)
    (hf : fillM (fun i => some (i * n, n)) (zlist n len (dcells z)) ms = some cs) (hp : Place st.H (.row false n 0 cs) pn H') :
    OpT X ⟨dst, .buildSlice T len parts.toArray, ty, pos, af, g⟩ st (eqp (.m (.rsl pn 0 len)) ⟨st.sl, st.bx, H'⟩) := by
  intro a σ lam hi
  have hn' := blt_lt hn
  have hle' := Nat.le_of_ble_eq_true hle
  obtain ⟨h1, h2⟩ := hi.evParts he
  obtain ⟨v, hz1, hz2⟩ := (tyZero_of hz.zero).run
  have hvc : RMc σ ((dcells z).map .d) v.cells := (RM.d (dOfVal_rep hz2) : RM σ (.d z) v).cells rfl
  have hvs : v.cells.size = n := by rw [hvc.1]; simpa using hzl
  have hc : RMc σ (zlist n len (dcells z)) ((Array.range (len * n)).map fun i => v.cells[i % v.cells.size]!) := by
    refine ⟨by simp [zlist], fun i m u hm hu => ?_⟩
    have hi' : i < len * n := by
      rcases Nat.lt_or_ge i (len * n) with h | h
      · exact h
      · rw [Array.getElem?_eq_none (by simpa using h)] at hu; cases hu
    have hmod : i % n < n := Nat.mod_lt _ hn'
    have hmd : i % n < (dcells z).length := by omega
    simp [zlist, hi', hzl] at hm
    simp [hi', hvs] at hu
    have hlt : i % n < v.cells.size := by omega
    subst hm; subst hu
    refine hvc.2 (i % n) _ _ ?_ ?_
    · simp [List.getElem?_eq_getElem hmd]
    · simp [hlt]
  obtain ⟨arr', h3, h4⟩ := fill_run hc h1 h2 hf
  have hlen : cs.length = len * n := by
    have hfl : ∀ {ps : List (Nat × M)} {a b : List M}, fillM (fun i => some (i * n, n)) a ps = some b → b.length = a.length := by
      intro ps
      induction ps with
      | nil => intro a b h; simp [fillM] at h; subst h; rfl
      | cons p ps ih =>
        intro a b h
        obtain ⟨i, m⟩ := p
        unfold fillM at h
        simp only at h
        cases hb : (Nat.beq (cellsOf m).length n && m.okc) with
        | false => simp [hb] at h
        | true =>
          simp only [hb, cond_true] at h
          split at h
          · rename_i a1 hw
            rw [ih h]
            unfold writeAt at hw
            cases hb2 : Nat.ble (i * n + (cellsOf m).length) a.length with
            | false => simp [hb2] at hw
            | true =>
              simp only [hb2, cond_true, Option.some.injEq] at hw
              subst hw
              have := Nat.le_of_ble_eq_true hb2
              simp; omega
          · cases h
    rw [hfl hf]; simp [zlist]
  have hasz : arr'.size = len * n := by rw [h4.1, hlen]
  have hlenmax : len ≤ 140737488355328 := by have := Nat.le_mul_of_pos_right len hn'; omega
  obtain ⟨τ, g1, g2, g3, g4, g5⟩ := hi.place hp (.cells arr' e (0, 0)) (by
    intro τ hm hw
    refine ⟨hn', arr', e, len, len, by rw [hw]; exact push_self _ _, hasz, Nat.le_refl _, ⟨hlen, hlenmax⟩, ?_⟩
    intro k m u hm' hu
    exact ⟨(h4.2 k m u hm' hu).1.mono hm, (h4.2 k m u hm' hu).2⟩)
  refine OpRun.value (u := .slice (some ⟨σ.w.heap.size, 0, none⟩) len len) (w' := τ.w) ?_ ⟨_, _, τ, lam, ⟨rfl, rfl⟩, rfl, g5, ?_⟩
  · have : (Array.map (fun x : Nat × Operand => match x with | (i, x) => (i, a.eval x)) parts.toArray).toList = parts.map fun p => (p.1, a.eval p.2) := by simp
    have h24 : ¬ (len * n > 2 ^ 24) := by omega
    by_cases hln : len * n = 0
    · have hle0 : len = 0 := by
        rcases Nat.mul_eq_zero.1 hln with h | h
        · exact h
        · omega
      subst hle0
      have harr : ((Array.range (0 * n)).map fun i => v.cells[i % v.cells.size]!) = #[] := by simp
      rw [harr] at h3
      simp only [execOp, Instr.buildSlice, Sem.run_bind, underlying, program, Sem.run, ht.u, Sem.run_pure, Result.andThen_ok, size_run hs.size, Sem.run_ite, hln, if_true, this]
      have e0 : Array.range 0 = (#[] : Array Nat) := by decide
      simp only [e0, Array.map_empty]
      rw [h3]
      simp [newRow, newObj, Sem.run, g1]
    · simp only [execOp, Instr.buildSlice, Sem.run_bind, underlying, program, Sem.run, ht.u, Sem.run_pure, Result.andThen_ok, size_run hs.size, Sem.run_ite, h24, if_false, hln, hz1, this]
      rw [h3]
      simp [newRow, newObj, Sem.run, g1]
  · refine .m (.rsl _ 0 len _ len (.inr ⟨false, n, 0, cs, g3, Nat.le_refl _⟩) ?_)
    intro acc' ec' cs' hh
    rw [g3] at hh
    simp at hh
    obtain ⟨e1, e2, e3⟩ := hh
    subst e1; subst e2; subst e3
    exact ⟨by rw [g2], hlen, _, e, by rw [g2, g1]; exact push_self _ _, hasz⟩

theorem op_b2sV {s t e : Nat} {x : Operand} {rows : List (List D)} {ns : List Int} [hs : TySlice X.P s e] [he : TyInt X.P e .u8] [ht : TyStr X.P t] {mx : M} (hx : st.ev x = some (.m mx)) (hvx : viewD st.H mx = some (.sl rows)) (hb : bytesO rows = some ns) :
    OpT X ⟨dst, .convert s t x, ty, pos, af, g⟩ st (eqp (.m (.d (.str (strOfNums ns)))) st) := by
  have := bytesO_eq hb
  subst this
  refine OpT.quiet fun a σ lam hi => ?_
  have h := hi.evdv hx hvx
  generalize hu : a.eval x = u at h
  refine ⟨.string (strOfNums ns), ?_, .m (.d (.str _))⟩
  generalize hr : (ns.map fun n => [D.int .u8 n]) = rows at h
  cases h with
  | slnil ad =>
    have : ns = [] := by simpa using hr
    subst this
    cases ad with
    | none =>
      have := run_convert_bytes_nil (P := X.P) σ.w s e hs.u he.u 0 0 t ht.u
      simp [execOp, hu, this, strOfNums]
      rfl
    | some ad =>
      have h1 : (loadCells ad 0).run X.P σ.w = .ok #[] σ.w := by simp [loadCells, loadCellsFrom]
      simp only [execOp, hu, Sem.run_bind]
      rw [run_convert_bytes_string σ.w s t e (some ad) 0 0 hs.u he.u ht.u, run_bytesToString σ.w ad 0 0 [] (by simpa using h1)]
      simp [strOfNums, ByteArray.empty, ByteArray.emptyWithCapacity]
      rfl
  | sl rows b o cap ec val h0 hcap hmax hec hcell hflat hrep =>
    subst hr
    have hlen : (ns.map fun n => [D.int .u8 n]).length = ns.length := by simp
    have hec1 : ec = 1 := by
      cases ns with
      | nil => simp at h0
      | cons n ns => rw [← hec [.int .u8 n] (by simp)]; rfl
    subst hec1
    have := run_convert_bytes_arg (P := X.P) σ.w s e hs.u he.u b o ns.length cap ns rfl (by
      intro i hi
      have h1 := (hcell i 0 (by simpa using hi) (by omega)).1
      have h2 := hrep i 0 [.int .u8 ns[i]] (.int .u8 ns[i]) (by simp [hi]) rfl
      have : val i 0 = .int .u8 ns[i] := by generalize val i 0 = q at h2; cases h2; rfl
      rw [this] at h1
      simp at h1
      simpa [hi] using h1) t ht.u
    simp [execOp, hu, this]

theorem op_makeFuncM {f : Nat} {caps : List Operand} {ms : List M} (ha : st.evMs caps = some ms) :
    OpT X ⟨dst, .makeFunc (.func f) #[] caps.toArray, ty, pos, af, g⟩ st (eqp (.m (.fn f ms)) st) := by
  refine OpT.quiet fun a σ lam hi => ?_
  have h := hi.evMs ha
  exact ⟨.func (.func f) #[] (caps.map a.eval).toArray, by simp [execOp, Instr.makeFunc], .m (.fn f ms _ h.1 h.2)⟩

theorem viewArgs {σ : Sg} {Oo : Nat → Nat → Prop} (hi : HInv σ Oo) {ms : List M} {ds : List D} {vs : Array Value} (h : RMs σ ms vs) (hv : viewL (viewD σ.H) ms = some ds) : Reps σ.O σ.w ds vs := by
  obtain ⟨h1, h2⟩ := viewL_spec hv
  refine ⟨by rw [h.1, h1], fun i d v hd hvv => ?_⟩
  have hk : i < ms.length := by rw [← h1]; rcases Nat.lt_or_ge i ds.length with h | h; exact h; simp [List.getElem?_eq_none h] at hd
  exact (h.2 i ms[i] v (by simp [hk]) hvv).viewD hi (h2 i ms[i] d (by simp [hk]) hd)

theorem rms_append {σ : Sg} {ms ns : List M} {vs us : Array Value} (h : RMs σ ms vs) (k : RMs σ ns us) : RMs σ (ms ++ ns) (vs ++ us) := by
  refine ⟨by simp [h.1, k.1], fun i m v hm hv => ?_⟩
  have hl := h.1
  rcases Nat.lt_or_ge i ms.length with hlt | hge
  · rw [List.getElem?_append_left hlt] at hm
    rw [Array.getElem?_append_left (by omega)] at hv
    exact h.2 i m v hm hv
  · rw [List.getElem?_append_right hge] at hm
    rw [Array.getElem?_append_right (by omega), hl] at hv
    exact k.2 _ m v hm hv

/-- what a callee's operand and arguments enter -/
def Enters (X : Ctx) (st : St) (c : Call) (f : Nat) (ms : List M) : Prop :=
  ∀ (dst : Option Nat) (ty : Nat) (pos : String) (af : Array Edge) (g : Option (Nat × Bool)) (a : Act) (σ : Sg) (lam : Nat → Nat), FInv X σ lam st a → ∃ vs, (execOp a.eval ⟨dst, .call c, ty, pos, af, g⟩).run X.P σ.w = .ok (.enter f vs) σ.w ∧ RMs σ ms vs

theorem enters_func {f : Nat} {args : List Operand} {tys : Array Nat} {ms : List M} [hf : IsFn X.P f] (ha : st.evMs args = some ms) : Enters X st ⟨.value (.func f), args.toArray, tys⟩ f ms := by
  intro dst ty pos af g a σ lam hi
  refine ⟨(args.map a.eval).toArray, ?_, hi.evMs ha⟩
  simp only [execOp, resolve, Act.eval, Deferred.ofValue, invoke]
  simp [hf.run]
theorem enters_fnM {x : Operand} {f : Nat} {caps : List M} {args : List Operand} {tys : Array Nat} {ms : List M} [hf : IsFn X.P f] (hx : st.ev x = some (.m (.fn f caps))) (ha : st.evMs args = some ms) : Enters X st ⟨.value x, args.toArray, tys⟩ f (ms ++ caps) := by
  intro dst ty pos af g a σ lam hi
  have h1 := hi.ev hx
  have h2 := hi.evMs ha
  generalize hu : a.eval x = u at h1
  cases h1 with
  | m h1 => cases h1 with
    | fn f cs vs hl hh =>
      refine ⟨(args.map a.eval).toArray ++ vs, ?_, rms_append h2 ⟨hl, hh⟩⟩
      simp only [execOp, resolve, hu, Deferred.ofValue, invoke]
      simp [hf.run]
theorem enters_fnD {x : Operand} {f : Nat} {caps : List D} {args : List Operand} {tys : Array Nat} {ms : List M} [hf : IsFn X.P f] (hx : st.ev x = some (.m (.d (.fn f caps)))) (ha : st.evMs args = some ms) : Enters X st ⟨.value x, args.toArray, tys⟩ f (ms ++ caps.map .d) := by
  intro dst ty pos af g a σ lam hi
  have h1 := hi.evd hx
  have h2 := hi.evMs ha
  generalize hu : a.eval x = u at h1
  cases h1 with
  | fn f cs vs hl hh =>
    refine ⟨(args.map a.eval).toArray ++ vs, ?_, rms_append h2 ⟨by simp [hl], fun i m v hm hv => ?_⟩⟩
    · simp only [execOp, resolve, hu, Deferred.ofValue, invoke]
      simp [hf.run]
    · simp only [List.getElem?_map, Option.map_eq_some_iff] at hm
      obtain ⟨d, hd, rfl⟩ := hm
      exact .d (hh i d v hd hv)

theorem OpT.weaken {o : Oper} {p q : V → St → Prop} (h : OpT X o st p) (hpq : ∀ v s, p v s → q v s) : OpT X o st q := by
  intro a σ lam hi
  have := h a σ lam hi
  unfold OpRun at this ⊢
  generalize (execOp a.eval o).run X.P σ.w = z at *
  cases z with
  | ok x w' =>
    cases x <;> simp only at this ⊢ <;> first
      | (obtain ⟨v, s, σ', l', h1, h2⟩ := this; exact ⟨v, s, σ', l', hpq _ _ h1, h2⟩)
      | exact this.mono fun e w'' ⟨u, he, v, s, σ', l', h1, h2⟩ => ⟨u, he, v, s, σ', l', hpq _ _ h1, h2⟩
      | exact this
  | halt x w' => exact this

theorem op_enterR {c : Call} {f : Nat} {ms : List M} {r : M} {H1 : Hp} (he : Enters X st c f ms) (h : CT X.P f ms st.H fun a b => a = r ∧ b = H1) :
    OpT X ⟨dst, .call c, ty, pos, af, g⟩ st (eqp (.m r) ⟨st.sl, st.bx, H1⟩) :=
  (OpT.callR h (he dst ty pos af g)).weaken (by rintro v s ⟨r', H', rfl, ⟨rfl, rfl⟩, rfl⟩; exact ⟨rfl, rfl⟩)
theorem op_enterD {c : Call} {f : Nat} {ms : List M} {ds rs : List D} (he : Enters X st c f ms) (hv : viewL (viewD st.H) ms = some ds) (h : PT X.P f ds (· = rs)) :
    OpT X ⟨dst, .call c, ty, pos, af, g⟩ st (eqp (.m (tupM (rs.map .d))) st) := by
  refine (OpT.callD (ds := ds) h fun a σ lam hi => ?_).weaken (by rintro v s ⟨r', rfl, rfl, rfl⟩; exact ⟨rfl, rfl⟩)
  obtain ⟨vs, h1, h2⟩ := he dst ty pos af g a σ lam hi
  exact ⟨vs, h1, viewArgs hi.hinv h2 (by rw [hi.hH]; exact hv)⟩

theorem op_shl {xt yt : Nat} {x y : Operand} {k k' : IntKind} {m n : Int} (hx : st.ev x = some (.m (.d (.int k m)))) (hy : st.ev y = some (.m (.d (.int k' n)))) (hn : ¬ n < 0) :
    OpT X ⟨dst, .binOp .shl xt x y yt, ty, pos, af, g⟩ st (eqp (.m (.d (.int k (k.wrap (m * 2 ^ (min n.toNat k.bits)))))) st) := by
  refine OpT.quiet fun a σ lam hi => ?_
  have h1 := hi.evint hx
  have h2 := hi.evint hy
  exact ⟨.int k (k.wrap (m * 2 ^ (min n.toNat k.bits))), by simp [execOp, h1, h2, eqGuard, binOp, Op.shift, hn], .m (.d (by constructor))⟩
theorem op_shr {xt yt : Nat} {x y : Operand} {k k' : IntKind} {m n : Int} (hx : st.ev x = some (.m (.d (.int k m)))) (hy : st.ev y = some (.m (.d (.int k' n)))) (hn : ¬ n < 0) :
    OpT X ⟨dst, .binOp .shr xt x y yt, ty, pos, af, g⟩ st (eqp (.m (.d (.int k (m.fdiv (2 ^ (min n.toNat k.bits)))))) st) := by
  refine OpT.quiet fun a σ lam hi => ?_
  have h1 := hi.evint hx
  have h2 := hi.evint hy
  exact ⟨.int k (m.fdiv (2 ^ (min n.toNat k.bits))), by simp [execOp, h1, h2, eqGuard, binOp, Op.shift, hn], .m (.d (by constructor))⟩
theorem op_and {xt yt : Nat} {x y : Operand} {k : IntKind} {m n : Int} (hx : st.ev x = some (.m (.d (.int k m)))) (hy : st.ev y = some (.m (.d (.int k n)))) :
    OpT X ⟨dst, .binOp .and xt x y yt, ty, pos, af, g⟩ st (eqp (.m (.d (.int k (k.wrap (BitVec.ofInt k.bits m &&& BitVec.ofInt k.bits n).toNat)))) st) := by
  refine OpT.quiet fun a σ lam hi => ?_
  have h1 := hi.evint hx
  have h2 := hi.evint hy
  exact ⟨.int k (k.wrap (BitVec.ofInt k.bits m &&& BitVec.ofInt k.bits n).toNat), by simp [execOp, h1, h2, eqGuard, binOp, Op.intBits], .m (.d (by constructor))⟩
theorem op_or {xt yt : Nat} {x y : Operand} {k : IntKind} {m n : Int} (hx : st.ev x = some (.m (.d (.int k m)))) (hy : st.ev y = some (.m (.d (.int k n)))) :
    OpT X ⟨dst, .binOp .or xt x y yt, ty, pos, af, g⟩ st (eqp (.m (.d (.int k (k.wrap (BitVec.ofInt k.bits m ||| BitVec.ofInt k.bits n).toNat)))) st) := by
  refine OpT.quiet fun a σ lam hi => ?_
  have h1 := hi.evint hx
  have h2 := hi.evint hy
  exact ⟨.int k (k.wrap (BitVec.ofInt k.bits m ||| BitVec.ofInt k.bits n).toNat), by simp [execOp, h1, h2, eqGuard, binOp, Op.intBits], .m (.d (by constructor))⟩
theorem op_xor {xt yt : Nat} {x y : Operand} {k : IntKind} {m n : Int} (hx : st.ev x = some (.m (.d (.int k m)))) (hy : st.ev y = some (.m (.d (.int k n)))) :
    OpT X ⟨dst, .binOp .xor xt x y yt, ty, pos, af, g⟩ st (eqp (.m (.d (.int k (k.wrap (BitVec.ofInt k.bits m ^^^ BitVec.ofInt k.bits n).toNat)))) st) := by
  refine OpT.quiet fun a σ lam hi => ?_
  have h1 := hi.evint hx
  have h2 := hi.evint hy
  exact ⟨.int k (k.wrap (BitVec.ofInt k.bits m ^^^ BitVec.ofInt k.bits n).toNat), by simp [execOp, h1, h2, eqGuard, binOp, Op.intBits], .m (.d (by constructor))⟩
theorem op_strlss {xt yt : Nat} {x y : Operand} {s u : ByteArray} (hx : st.ev x = some (.m (.d (.str s)))) (hy : st.ev y = some (.m (.d (.str u)))) :
    OpT X ⟨dst, .binOp .lss xt x y yt, ty, pos, af, g⟩ st (eqp (.m (.d (.bool (Op.bytesLess s.toList u.toList)))) st) := by
  refine OpT.quiet fun a σ lam hi => ?_
  have h1 := hi.evstr hx
  have h2 := hi.evstr hy
  exact ⟨_, by simp [execOp, h1, h2, eqGuard, binOp, Op.stringOp]; rfl, .m (.d (by constructor))⟩
end ops
end Go.Mt
