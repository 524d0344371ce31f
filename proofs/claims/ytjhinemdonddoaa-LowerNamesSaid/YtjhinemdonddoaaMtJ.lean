import Derived.Test.YtjhinemdonddoaaMtI
set_option linter.unusedVariables false
namespace Go.Mt

theorem foldl_zipIdx_write : ∀ (vs : List Value) (k off : Nat) (arr : Array Value),
    (vs.zipIdx k).foldl (fun cs (x : Value × Nat) => cs.setIfInBounds (off + x.2) x.1) arr = arrWrite arr (off + k) vs
  | [], k, off, arr => rfl
  | v :: r, k, off, arr => by
    rw [List.zipIdx_cons, List.foldl_cons, foldl_zipIdx_write r (k + 1) off]
    rfl

def fillM (place : Nat → Option (Nat × Nat)) (cs : List M) : List (Nat × M) → Option (List M)
  | [] => some cs
  | (i, m) :: r => match place i with
    | some (off, size) => bif (Nat.beq (cellsOf m).length size && m.okc) then (match writeAt cs off (cellsOf m) with
      | some cs' => fillM place cs' r
      | none => none) else none
    | none => none

theorem fill_run {σ : Sg} {place : Nat → Option (Nat × Nat)} : ∀ {parts : List (Nat × M)} {vs : List (Nat × Value)} {cs cs' : List M} {arr : Array Value}, RMc σ cs arr →
    parts.length = vs.length → (∀ (k : Nat) p q, parts[k]? = some p → vs[k]? = some q → p.1 = q.1 ∧ RM σ p.2 q.2) → fillM place cs parts = some cs' →
    ∃ arr', Instr.fill place arr vs = some arr' ∧ RMc σ cs' arr'
  | [], [], cs, cs', arr, h, _, _, hf => by simp [fillM] at hf; subst hf; exact ⟨arr, rfl, h⟩
  | p :: ps, q :: qs, cs, cs', arr, h, hl, hp, hf => by
    obtain ⟨i, m⟩ := p
    obtain ⟨j, v⟩ := q
    obtain ⟨e1, e2⟩ := hp 0 _ _ rfl rfl
    simp at e1 e2
    subst e1
    unfold fillM at hf
    split at hf
    · rename_i off size hpl
      cases hb : (Nat.beq (cellsOf m).length size && m.okc) with
      | false => simp [hb] at hf
      | true =>
        simp only [hb, cond_true] at hf
        simp only [Bool.and_eq_true] at hb
        have hsz := Nat.eq_of_beq_eq_true hb.1
        split at hf
        · rename_i cs1 hw
          have hc := e2.cells hb.2
          obtain ⟨h5, h6, h7⟩ := h.write hc hw
          obtain ⟨arr', h8, h9⟩ := fill_run h5 (by simpa using hl) (fun k p q a b => hp (k + 1) p q (by simpa using a) (by simpa using b)) hf
          refine ⟨arr', ?_, h9⟩
          unfold Instr.fill
          simp only [hpl]
          have hs1 : v.cells.size = size := by rw [hc.1, hsz]
          have hs2 : ¬ (off + v.cells.size > arr.size) := by rw [hc.1, h.1]; omega
          rw [if_neg (by simp [hs1]; rw [hs1] at hs2; omega)]
          have : v.cells.zipIdx.foldl (fun cs (x : Value × Nat) => cs.setIfInBounds (off + x.2) x.1) arr = arrWrite arr off v.cells.toList := by
            rw [← Array.foldl_toList, Array.toList_zipIdx, foldl_zipIdx_write]; rfl
          rw [← this] at h8
          exact h8
        · cases hf
    · cases hf
  | [], _ :: _, _, _, _, _, hl, _, _ => by simp at hl
  | _ :: _, [], _, _, _, _, hl, _, _ => by simp at hl

def tyPlaces (P : Program) (t : Nat) : Option (List (Nat × Nat)) :=
  match P.underlying t with
  | some (.struct fields) => fields.toList.mapM fun f => (tySize P f.type).map fun n => (f.offset, n)
  | _ => none

class TyStruct (P : Program) (t : Nat) (places : outParam (List (Nat × Nat))) (z : outParam (List D)) : Prop where
  places : tyPlaces P t = some places
  zero : tyZero P t = some (.agg z)

theorem mapM_places {P : Program} {w : World} : ∀ {fs : List Field} {ps : List (Nat × Nat)}, (fs.mapM fun f => (tySize P f.type).map fun n => (f.offset, n)) = some ps →
    (fs.mapM fun f => (do pure (f.offset, ← sizeOf f.type) : Sem (Nat × Nat))).run P w = .ok ps w
  | [], ps, h => by simp at h; subst h; simp
  | f :: fs, ps, h => by
    rw [List.mapM_cons] at h
    cases hs : tySize P f.type with
    | none => simp [hs] at h
    | some n =>
      simp only [hs, Option.map_some, Option.bind_eq_bind, Option.bind_some] at h
      cases hr : (fs.mapM fun f => (tySize P f.type).map fun n => (f.offset, n)) with
      | none => simp [hr] at h
      | some ps' =>
        simp [hr] at h
        subst h
        rw [List.mapM_cons]
        simp only [Sem.run_bind, size_run hs, Result.andThen_ok, Sem.run_pure, mapM_places hr]

def evParts (st : St) : List (Nat × Operand) → Option (List (Nat × M))
  | [] => some []
  | (i, x) :: r => match st.ev x, evParts st r with
    | some (.m m), some ms => some ((i, m) :: ms)
    | _, _ => none

section ops
variable {X : Ctx} {st : St} {dst : Option Nat} {ty : Nat} {pos : String} {af : Array Edge} {g : Option (Nat × Bool)}

theorem FInv.evParts {σ : Sg} {lam : Nat → Nat} {a : Act} (hi : FInv X σ lam st a) : ∀ {xs : List (Nat × Operand)} {ms : List (Nat × M)}, evParts st xs = some ms →
    ms.length = (xs.map fun p => (p.1, a.eval p.2)).length ∧ ∀ (k : Nat) p q, ms[k]? = some p → (xs.map fun p => (p.1, a.eval p.2))[k]? = some q → p.1 = q.1 ∧ RM σ p.2 q.2
  | [], ms, h => by simp [Mt.evParts] at h; subst h; simp
  | (i, x) :: r, ms, h => by
    simp only [Mt.evParts] at h
    split at h
    · rename_i m ms' h1 h2
      injection h with h; subst h
      obtain ⟨h3, h5⟩ := hi.evParts h2
      have h4 := hi.ev h1
      refine ⟨by simpa using h3, fun k p q hp hq => ?_⟩
      cases k with
      | zero => simp at hp hq; subst hp; subst hq; cases h4 with | m h => exact ⟨rfl, h⟩
      | succ k => simp at hp; exact h5 k p q hp (by simpa using hq)
    · cases h

theorem op_build {T : Nat} {parts : List (Nat × Operand)} {ps : List (Nat × Nat)} {z : List D} {ms : List (Nat × M)} {cs : List M} [ht : TyStruct X.P T ps z] (he : evParts st parts = some ms)
    (hf : fillM (fun i => ps[i]?) (z.map .d) ms = some cs) : OpT X ⟨dst, .build T parts.toArray, ty, pos, af, g⟩ st (eqp (.m (pack cs)) st) := by
  refine OpT.quiet fun a σ lam hi => ?_
  obtain ⟨h1, h2⟩ := hi.evParts he
  have hz : ∃ v, (∀ w, (zeroValue T).run X.P w = .ok v w) ∧ dOfVal v = some (.agg z) := (tyZero_of ht.zero).run
  obtain ⟨v, hz1, hz2⟩ := hz
  have hc : RMc σ (z.map .d) v.cells := (RM.d (dOfVal_rep hz2) : RM σ (.d (.agg z)) v).cells rfl
  obtain ⟨arr', h3, h4⟩ := fill_run hc h1 h2 hf
  refine ⟨.agg arr', ?_, .m ?_⟩
  · have hp := ht.places
    unfold tyPlaces at hp
    split at hp
    · rename_i fields hu
      have hm := mapM_places (w := σ.w) hp
      have hm2 : (fields.mapM fun f => (do pure (f.offset, ← sizeOf f.type) : Sem (Nat × Nat))).run X.P σ.w = .ok ps.toArray σ.w := by
        rw [Array.mapM_eq_mapM_toList]
        simp only [Functor.map, Sem.run_bind']
        rw [hm]; rfl
      simp only [execOp, Instr.build]
      simp only [Sem.run_bind, hz1, Result.andThen_ok, underlying, program, Sem.run, hu, Sem.run_pure]
      simp only [hm2, Result.andThen_ok]
      have : (Array.map (fun x : Nat × Operand => match x with | (i, x) => (i, a.eval x)) parts.toArray).toList = parts.map fun p => (p.1, a.eval p.2) := by simp
      simp only [this]
      have hpl : (fun i : Nat => ps.toArray[i]?) = fun i : Nat => ps[i]? := by funext i; simp
      rw [hpl, h3]
      simp
    · cases hp
  · unfold pack
    split
    · rename_i ds hd
      have := RMs.allD ⟨h4.1, fun i m v a b => (h4.2 i m v a b).1⟩ hd
      exact .d (.agg ds _ this.1 h4.flat this.2)
    · exact .agg _ _ h4.1 h4.flat (fun i m v a b => (h4.2 i m v a b).1)


def zlist (n len : Nat) (z : List D) : List M := (List.range (len * n)).map fun i => .d (z.getD (i % z.length) default)

theorem chunk_spec {n : Nat} : ∀ {k : Nat} {cs : List M} {rows : List (List D)}, chunk n k cs = some rows → cs.length = k * n →
    rows.length = k ∧ (∀ r ∈ rows, r.length = n) ∧ ∀ (i j : Nat) r d, rows[i]? = some r → r[j]? = some d → cs[i * n + j]? = some (.d d)
  | 0, [], rows, h, _ => by simp [chunk] at h; subst h; simp
  | 0, _ :: _, rows, h, _ => by simp [chunk] at h
  | k + 1, cs, rows, h, hl => by
    unfold chunk at h
    split at h
    · rename_i r rs h1 h2
      injection h with h; subst h
      have hl' : (cs.drop n).length = k * n := by simp [hl, Nat.succ_mul]
      obtain ⟨h3, h4, h5⟩ := chunk_spec h2 hl'
      have h6 := allD_spec h1
      have hrl : r.length = n := by
        have := congrArg List.length h6
        simp at this
        rw [hl, Nat.succ_mul] at this
        omega
      refine ⟨by simp [h3], ?_, ?_⟩
      · intro x hx
        simp at hx
        rcases hx with rfl | hx
        · exact hrl
        · exact h4 x hx
      · intro i j x d hx hd
        cases i with
        | zero =>
          simp at hx; subst hx
          have hj : j < n := by rw [← hrl]; rcases Nat.lt_or_ge j r.length with h | h; exact h; simp [List.getElem?_eq_none h] at hd
          have : (cs.take n)[j]? = some (.d d) := by rw [h6]; simp [hd]
          rw [List.getElem?_take_of_lt hj] at this
          simpa using this
        | succ i =>
          simp at hx
          have := h5 i j x d hx hd
          rw [List.getElem?_drop] at this
          have e : (i + 1) * n + j = n + (i * n + j) := by rw [Nat.succ_mul]; omega
          rw [e]; exact this
    · cases h

/-- data in a fresh block as a slice -/
theorem Rep.newsl {O : Nat → Nat → Prop} {w : World} {n k T : Nat} {rows : List (List D)} {arr : Array Value} (hn : 0 < n) (hO : ∀ b o, O b o → b < w.heap.size) (hk : rows.length = k) (hrl : ∀ r ∈ rows, r.length = n)
    (hsz : arr.size = k * n) (hmax : k ≤ 140737488355328) (h : ∀ (i j : Nat) r d v, rows[i]? = some r → r[j]? = some d → arr[i * n + j]? = some v → Rep O w d v ∧ flat v = true) :
    Rep O { w with heap := w.heap.push (.cells arr T (0, 0)) } (.sl rows) (.slice (some ⟨w.heap.size, 0, none⟩) k k) := by
  subst hk
  by_cases h0 : rows = []
  · subst h0; exact .slnil _
  · have hlt : ∀ i j, i < rows.length → j < n → i * n + j < arr.size := by
      intro i j hi hj
      rw [hsz]
      calc i * n + j < i * n + n := by omega
        _ = (i + 1) * n := by rw [Nat.succ_mul]
        _ ≤ rows.length * n := Nat.mul_le_mul_right _ hi
    refine .sl rows w.heap.size 0 rows.length n (fun i j => arr.getD (i * n + j) undef) h0 (Nat.le_refl _) hmax hrl ?_ ?_ ?_
    · intro i j hi hj
      refine ⟨?_, fun hh => by have := hO _ _ hh; omega⟩
      rw [Nat.zero_add, cellv_new]
      simp [hlt i j hi hj]
    · intro i j hi hj
      have hr : rows[i].length = n := hrl _ (List.getElem_mem hi)
      exact (h i j rows[i] (rows[i])[j] _ (by simp [hi]) (by simp [hr, hj]) (by simp [hlt i j hi hj])).2
    · intro i j r d hr hd
      have hi : i < rows.length := by rcases Nat.lt_or_ge i rows.length with h | h; exact h; simp [List.getElem?_eq_none h] at hr
      have hj : j < n := by
        rw [← hrl r (List.mem_of_getElem? hr)]; rcases Nat.lt_or_ge j r.length with h | h; exact h; simp [List.getElem?_eq_none h] at hd
      have := (h i j r d (arr.getD (i * n + j) undef) hr hd (by simp [hlt i j hi hj])).1
      exact this.mono fun b o v h1 h2 => ⟨(ExtW.alloc w _).cell h1, h2⟩

theorem op_buildSlice {T e n len : Nat} {parts : List (Nat × Operand)} {z : D} {ms : List (Nat × M)} {cs : List M} {rows : List (List D)} [ht : TySlice X.P T e] [hs : TySz X.P e n] [hz : TyZ X.P e z]
    (hn : Nat.blt 0 n = true) (hzl : (dcells z).length = n) (hle : Nat.ble (len * n) 16777216 = true) (he : evParts st parts = some ms)
    (hf : fillM (fun i => some (i * n, n)) (zlist n len (dcells z)) ms = some cs) (hch : chunk n len cs = some rows) :
    OpT X ⟨dst, .buildSlice T len parts.toArray, ty, pos, af, g⟩ st (eqp (.m (.d (.sl rows))) st) := by
  refine OpT.grow fun a σ lam hi => ?_
  have hn' := blt_lt hn
  have hle' := Nat.le_of_ble_eq_true hle
  obtain ⟨h1, h2⟩ := hi.evParts he
  obtain ⟨v, hz1, hz2⟩ := (tyZero_of hz.zero).run
  have hvc : RMc σ ((dcells z).map .d) v.cells := (RM.d (dOfVal_rep hz2) : RM σ (.d z) v).cells rfl
  have hvs : v.cells.size = n := by rw [hvc.1]; simpa using hzl
  have hc : RMc σ (zlist n len (dcells z)) ((Array.range (len * n)).map fun i => v.cells[i % v.cells.size]!) := by
    refine ⟨by simp [zlist], fun i m u hm hu => ?_⟩
    have hi' : i < len * n := by
      rcases Nat.lt_or_ge i (len * n) with h | h
      · exact h
      · rw [Array.getElem?_eq_none (by simpa using h)] at hu; cases hu
    have hmod : i % n < n := Nat.mod_lt _ hn'
    have hmd : i % n < (dcells z).length := by omega
    simp [zlist, hi', hzl] at hm
    simp [hi', hvs] at hu
    have hlt : i % n < v.cells.size := by omega
    subst hm; subst hu
    refine hvc.2 (i % n) _ _ ?_ ?_
    · simp [List.getElem?_eq_getElem hmd]
    · simp [hlt]
  obtain ⟨arr', h3, h4⟩ := fill_run hc h1 h2 hf
  have hlen : cs.length = len * n := by
    have hfl : ∀ {ps : List (Nat × M)} {a b : List M}, fillM (fun i => some (i * n, n)) a ps = some b → b.length = a.length := by
      intro ps
      induction ps with
      | nil => intro a b h; simp [fillM] at h; subst h; rfl
      | cons p ps ih =>
        intro a b h
        obtain ⟨i, m⟩ := p
        unfold fillM at h
        simp only at h
        cases hb : (Nat.beq (cellsOf m).length n && m.okc) with
        | false => simp [hb] at h
        | true =>
          simp only [hb, cond_true] at h
          split at h
          · rename_i a1 hw
            rw [ih h]
            unfold writeAt at hw
            cases hb2 : Nat.ble (i * n + (cellsOf m).length) a.length with
            | false => simp [hb2] at hw
            | true =>
              simp only [hb2, cond_true, Option.some.injEq] at hw
              subst hw
              have := Nat.le_of_ble_eq_true hb2
              simp; omega
          · cases h
    rw [hfl hf]; simp [zlist]
  obtain ⟨h5, h6, h7⟩ := chunk_spec hch hlen
  have hasz : arr'.size = len * n := by rw [h4.1, hlen]
  refine ⟨.slice (some ⟨σ.w.heap.size, 0, none⟩) len len, { σ.w with heap := σ.w.heap.push (.cells arr' e (0, 0)) }, ?_, ExtW.alloc _ _, .m (.d (Rep.newsl hn' hi.hinv.oold h5 h6 hasz (by have := Nat.le_mul_of_pos_right len hn'; omega) ?_))⟩
  · have : (Array.map (fun x : Nat × Operand => match x with | (i, x) => (i, a.eval x)) parts.toArray).toList = parts.map fun p => (p.1, a.eval p.2) := by simp
    have h24 : ¬ (len * n > 2 ^ 24) := by omega
    by_cases hln : len * n = 0
    · have hle0 : len = 0 := by
        rcases Nat.mul_eq_zero.1 hln with h | h
        · exact h
        · omega
      subst hle0
      have harr : ((Array.range (0 * n)).map fun i => v.cells[i % v.cells.size]!) = #[] := by simp
      rw [harr] at h3
      simp only [execOp, Instr.buildSlice, Sem.run_bind, underlying, program, Sem.run, ht.u, Sem.run_pure, Result.andThen_ok, size_run hs.size, Sem.run_ite, hln, if_true, this]
      have e0 : Array.range 0 = (#[] : Array Nat) := by decide
      simp only [e0, Array.map_empty]
      rw [h3]
      simp [newRow, newObj, Sem.run]
    · simp only [execOp, Instr.buildSlice, Sem.run_bind, underlying, program, Sem.run, ht.u, Sem.run_pure, Result.andThen_ok, size_run hs.size, Sem.run_ite, h24, if_false, hln, hz1, this]
      rw [h3]
      simp [newRow, newObj, Sem.run]
  · intro i j r d u hr hd hu
    have := h4.2 _ _ u (h7 i j r d hr hd) hu
    refine ⟨?_, this.2⟩
    cases this.1 with
    | d h => exact h

end ops
end Go.Mt
