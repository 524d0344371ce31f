import Derived.Test.YtjhinemdonddoaaMtR
set_option linter.unusedVariables false
namespace Go.Mt

theorem growBy_le (newLen : Nat) (h : 256 ≤ newLen) : ∀ r c, 256 ≤ c → c ≤ 2 * newLen → Builtin.growBy newLen r c ≤ 2 * newLen
  | 0, c, _, h2 => h2
  | r + 1, c, h1, h2 => by
    unfold Builtin.growBy
    split
    · exact h2
    · exact growBy_le newLen h r _ (by omega) (by omega)
theorem nextcap_le {need cap : Nat} (h : cap < need) : Builtin.nextslicecap need cap ≤ 2 * need := by
  unfold Builtin.nextslicecap
  split
  · omega
  · split
    · omega
    · exact growBy_le need (by omega) 4 cap (by omega) (by omega)

theorem push_self (h : Array Obj) (x : Obj) : (h.push x)[h.size]? = some x := by simp
theorem set_get {α : Type} {l : List α} {j : Nat} {x y : α} (h : l[j]? = some x) : (l.set j y)[j]? = some y := by
  have : j < l.length := by rcases Nat.lt_or_ge j l.length with h' | h'; exact h'; simp [List.getElem?_eq_none h'] at h
  simp [this]

theorem zeroCells_size (z : Array Value) (n : Nat) : (Builtin.zeroCells z n).size = n * z.size := by simp [Builtin.zeroCells]

/-- the cells of a slice of data, as append takes them -/
theorem Rep.firstCells {P : Program} {O : Nat → Nat → Prop} {w : World} {rows : List (List D)} {v : Value} {n : Nat} (hn : 0 < n) (h : Rep O w (.sl rows) v) (hl : ∀ r ∈ rows, r.length = n) :
    ∃ vs : Array Value, (∀ w' : World, (Builtin.lenOf v).run P w' = .ok rows.length w') ∧ (∀ w' : World, w'.heap = w.heap → (Builtin.firstCells n rows.length v).run P w' = .ok vs w') ∧ vs.size = rows.length * n ∧
      ∀ (i j : Nat) r d, rows[i]? = some r → r[j]? = some d → ∃ u, vs[i * n + j]? = some u ∧ Rep O w d u ∧ flat u = true := by
  cases h with
  | slnil a =>
    cases a with
    | none => exact ⟨#[], fun _ => by simp [Builtin.lenOf], fun _ _ => by simp [Builtin.firstCells], by simp, by simp⟩
    | some a => exact ⟨#[], fun _ => by simp [Builtin.lenOf], fun _ _ => by simp [Builtin.firstCells, loadCells, loadCellsFrom], by simp, by simp⟩
  | sl rows b o cap ec val h0 hcap hmax hec hcell hflat hrep =>
    have hec' : ec = n := by
      cases rows with
      | nil => exact absurd rfl h0
      | cons r rs => rw [← hec r (by simp)]; exact hl r (by simp)
    subst hec'
    let vs : Array Value := ((List.range (rows.length * ec)).map fun k => val (k / ec) (k % ec)).toArray
    have hsz : vs.size = rows.length * ec := by simp [vs]
    have hdm : ∀ k, k < rows.length * ec → k / ec < rows.length ∧ k % ec < ec ∧ k / ec * ec + k % ec = k := by
      intro k hk
      refine ⟨(Nat.div_lt_iff_lt_mul hn).2 hk, Nat.mod_lt _ hn, ?_⟩
      have := Nat.div_add_mod k ec; rw [Nat.mul_comm] at this; exact this
    refine ⟨vs, fun _ => by simp [Builtin.lenOf], ?_, hsz, ?_⟩
    · intro w' hw'
      simp only [Builtin.firstCells, loadCells]
      refine loadCells_run _ 0 _ (by omega) (by simp) ?_
      intro k hk
      rw [hsz] at hk
      obtain ⟨h1, h2, h3⟩ := hdm k hk
      have : vs.getD k undef = val (k / ec) (k % ec) := by simp [vs, hk]
      rw [this]
      have := (hcell _ _ h1 h2).1
      rw [h3] at this
      rw [cellv_of_blk (w := w) (by rw [hw'])]
      exact this
    · intro i j r d hr hd
      have hi : i < rows.length := by rcases Nat.lt_or_ge i rows.length with h | h; exact h; simp [List.getElem?_eq_none h] at hr
      have hj : j < ec := by
        rw [← hec r (List.mem_of_getElem? hr)]; rcases Nat.lt_or_ge j r.length with h | h; exact h; simp [List.getElem?_eq_none h] at hd
      have hk : i * ec + j < rows.length * ec := by
        calc i * ec + j < i * ec + ec := by omega
          _ = (i + 1) * ec := by rw [Nat.succ_mul]
          _ ≤ rows.length * ec := Nat.mul_le_mul_right _ hi
      refine ⟨val i j, ?_, hrep i j r d hr hd, hflat i j hi hj⟩
      have e1 : (i * ec + j) / ec = i := by rw [Nat.mul_comm, Nat.mul_add_div hn, Nat.div_eq_of_lt hj]; omega
      have e2 : (i * ec + j) % ec = j := by rw [Nat.mul_comm, Nat.mul_add_mod, Nat.mod_eq_of_lt hj]
      simp [vs, hk, e1, e2]

/-- rows of data as cells -/
def flatM (rows : List (List D)) : List M := (rows.map fun r => r.map M.d).flatten
theorem flatM_length {n : Nat} : ∀ {rows : List (List D)}, (∀ r ∈ rows, r.length = n) → (flatM rows).length = rows.length * n
  | [], _ => by simp [flatM]
  | r :: rs, h => by
    have := flatM_length (n := n) (rows := rs) (fun r hr => h r (by simp [hr]))
    unfold flatM at *
    simp only [List.map_cons, List.flatten_cons, List.length_append, List.length_map, this, h r (by simp), List.length_cons, Nat.succ_mul]
    omega
theorem flatM_get {n : Nat} (hn : 0 < n) : ∀ {rows : List (List D)} {k : Nat} {m : M}, (∀ r ∈ rows, r.length = n) → (flatM rows)[k]? = some m → ∃ i j r d, k = i * n + j ∧ rows[i]? = some r ∧ r[j]? = some d ∧ m = .d d
  | [], k, m, _, h => by simp [flatM] at h
  | r :: rs, k, m, hl, h => by
    have hr : r.length = n := hl r (by simp)
    have h' : ((r.map M.d) ++ flatM rs)[k]? = some m := by simpa [flatM] using h
    rcases Nat.lt_or_ge k n with hk | hk
    · rw [List.getElem?_append_left (by simp [hr, hk])] at h'
      simp only [List.getElem?_map, Option.map_eq_some_iff] at h'
      obtain ⟨d, hd, rfl⟩ := h'
      exact ⟨0, k, r, d, by simp, by simp, hd, rfl⟩
    · rw [List.getElem?_append_right (by simp [hr, hk])] at h'
      simp only [List.length_map, hr] at h'
      obtain ⟨i, j, r', d, h1, h2, h3, h4⟩ := flatM_get hn (fun r hr => hl r (by simp [hr])) h'
      exact ⟨i + 1, j, r', d, by rw [Nat.succ_mul]; omega, by simpa using h2, h3, h4⟩

class TyB (P : Program) (t : Nat) (n : outParam Nat) : Prop where
  bytes : tyBytes P t = some n
theorem bytes_run {P : Program} {t n b : Nat} (h : tySize P t = some n) (h2 : tyBytes P t = some b) : ∃ i : TypeInfo, P.info? t = some i ∧ i.size = n ∧ i.bytes = b := by
  unfold tySize at h
  unfold tyBytes at h2
  cases hu : P.info? t with
  | none => simp [hu] at h
  | some i => simp [hu] at h h2; exact ⟨i, rfl, h, h2⟩

section ops
variable {X : Ctx} {st : St} {dst : Option Nat} {ty : Nat} {pos : String} {af : Array Edge} {g : Option (Nat × Bool)}

/-- append to a slice that is nil: a new row -/
theorem op_append0 {T e n nb : Nat} {x y : Operand} {rows : List (List D)} {z : D} (acc : Bool) [ht : TySlice X.P T e] [hs : TySz X.P e n] [hb : TyB X.P e nb] [hz : TyZ X.P e z] (hn : Nat.blt 0 n = true) (hzl : (dcells z).length = n)
    (hx : st.ev x = some (.m (.d (.sl [])))) (hy : st.ev y = some (.m (.d (.sl rows)))) (hr : rows ≠ []) (hl : ∀ r ∈ rows, r.length = n) (hroom : rows.length * nb ≤ 140737488355328) :
    OpT X ⟨dst, .call ⟨.builtin .append, #[x, y], #[T, T]⟩, ty, pos, af, g⟩ st (eqp (.m (.rsl st.H.length 0 rows.length)) ⟨st.sl, st.bx, st.H ++ [.row acc n 0 (flatM rows)]⟩) := by
  intro a σ lam hi
  have hn' := blt_lt hn
  have h1 := hi.evd hx
  have h2 := hi.evd hy
  obtain ⟨inf, i1, i2, i3⟩ := bytes_run hs.size hb.bytes
  obtain ⟨zv, hz1, hz2⟩ := (tyZero_of hz.zero).run
  have hzc : zv.cells.size = n := by have := (dOfVal_rep (O := σ.O) (w := σ.w) hz2).cells.1; omega
  obtain ⟨vs, v1, v2, v3, v4⟩ := h2.firstCells (P := X.P) hn' hl
  have hlen : 0 < rows.length := by cases rows; exact absurd rfl hr; simp
  have hrmax : rows.length ≤ 140737488355328 := by
    have h3 := h2
    generalize a.eval y = q at h3
    cases h3 with
    | slnil a => simp
    | sl rows b o cap ec val h0 hcap hmax hec hcell hflat hrep => exact hmax
  generalize hu : a.eval x = u at h1
  generalize hw : a.eval y = wv at h2 v1 v2
  cases h1 with
  | slnil ad =>
    let cap := rows.length + σ.w.tape σ.w.drawn (.appendCap rows.length 0 e) % (2 ^ 63 - rows.length)
    let arr := vs ++ Builtin.zeroCells zv.cells (cap - rows.length)
    have hcap : rows.length ≤ cap := Nat.le_add_right _ _
    have harr : arr.size = cap * n := by
      simp only [arr, Array.size_append, zeroCells_size, v3, hzc]
      rw [← Nat.add_mul]; congr 1; omega
    have hd : FInv X { σ with w := σ.w.drew } lam st a := hi.ext (ExtW.drew _)
    have hmd : Mono σ { σ with w := σ.w.drew } := Mono.ext (ExtW.drew _)
    obtain ⟨τ, g1, g2, g3, g4, g5⟩ := hd.newObj (.row acc n 0 (flatM rows)) (.cells arr e (0, 0)) (by
      intro τ hm hw
      refine ⟨hn', arr, e, cap, rows.length, by rw [hw]; exact push_self _ _, harr, hcap, ⟨flatM_length hl, hrmax⟩, ?_⟩
      intro k m v hm' hv
      obtain ⟨i, j, r, d, rfl, e2, e3, rfl⟩ := flatM_get hn' hl hm'
      obtain ⟨u, u1, u2, u3⟩ := v4 i j r d e2 e3
      have hlt : i * n + j < vs.size := by rcases Nat.lt_or_ge (i * n + j) vs.size with h | h; exact h; simp [Array.getElem?_eq_none h] at u1
      have : arr[i * n + j]? = some u := by simp only [arr]; rw [Array.getElem?_append_left hlt]; exact u1
      rw [this] at hv; injection hv with hv; subst hv
      exact ⟨((RM.d u2 : RM σ (.d d) u).mono hmd).mono hm, u3⟩)
    refine OpRun.value (u := .slice (some ⟨σ.w.heap.size, 0, none⟩) rows.length cap) (w' := τ.w) ?_ ⟨_, _, τ, lam, ⟨rfl, rfl⟩, rfl, g5, ?_⟩
    · have c1 : ¬ rows.length ≤ 0 := by omega
      have c2 : ¬ (((rows.length : Nat) : Int) > IntKind.i64.max ∧ nb = 0) := by
        rintro ⟨h1, h2⟩
        have : ((rows.length : Nat) : Int) ≤ 140737488355328 := by
          have := hi.evd hy
          rw [hw] at this
          cases this with
          | slnil a => simp at hlen
          | sl rows b o cap ec val h0 hcap hmax hec hcell hflat hrep => omega
        have h3 : IntKind.i64.max = 9223372036854775807 := by decide
        omega
      have c3 : ¬ (Builtin.nextslicecap rows.length 0 * nb > 2 ^ 48) := by
        have h1 := nextcap_le (need := rows.length) (cap := 0) (by omega)
        have := Nat.mul_le_mul_right nb h1
        rw [Nat.mul_assoc] at this
        omega
      have hold : (Builtin.firstCells n 0 (.slice ad 0 0)).run X.P σ.w.drew = .ok #[] σ.w.drew := by
        cases ad <;> simp [Builtin.firstCells, loadCells, loadCellsFrom]
      have hti : ∀ w : World, (typeInfo e).run X.P w = .ok inf w := fun w => by simp [typeInfo, program, Sem.run, i1]
      have hund : ∀ w : World, (underlying T).run X.P w = .ok (.slice e) w := fun w => by simp [underlying, program, Sem.run, ht.u]
      simp only [execOp, resolve, invoke, builtin, Builtin.append_]
      simp only [Sem.run_bind, Sem.run_pure, Result.andThen_ok, List.map_toArray, List.map_cons, List.map_nil, hu, hw]
      simp [hund, hti, size_run hs.size]
      have hcut : (Question.appendCap rows.length 0 e).cut (σ.w.tape σ.w.drawn (Question.appendCap rows.length 0 e)) = cap := rfl
      have hforced : (Question.appendCap rows.length 0 e).forced = false := rfl
      have hv2 := v2 σ.w.drew rfl
      have c1' : ¬ rows.length = 0 := by omega
      have c2' : ¬ (9223372036854775807 < ((rows.length : Nat) : Int) ∧ inf.bytes = 0) := by
        rintro ⟨h1, h2⟩
        have h3 : IntKind.i64.max = 9223372036854775807 := by decide
        exact c2 ⟨by omega, by omega⟩
      have c3' : ¬ (281474976710656 < Builtin.nextslicecap rows.length 0 * inf.bytes) := by rw [i3]; omega
      simp only [v1, c1', c2', c3', hforced, Result.andThen_ok, if_false, Bool.false_eq_true]
      rw [hold]
      simp only [Result.andThen_ok]
      rw [hv2]
      simp only [Result.andThen_ok, hz1, hcut]
      simp [newRow, newObj, Sem.run, g1, arr]
    · have hHe : σ.H.length = st.H.length := by rw [hi.hH]
      have g2' : τ.l st.H.length = σ.w.heap.size := by rw [← hHe]; exact g2
      refine .m (.rsl _ 0 rows.length _ cap (.inr ⟨acc, n, 0, flatM rows, by rw [g3]; simp, Nat.le_refl _⟩) ?_)
      intro acc' ec' cs' hh
      rw [g3] at hh
      simp at hh
      obtain ⟨e1, e2, e3⟩ := hh
      subst e1; subst e2; subst e3
      exact ⟨by rw [g2'], flatM_length hl, arr, e, by rw [g2', g1]; exact push_self _ _, harr⟩
  | sl rows b o cap ec val h0 hcap hmax hec hcell hflat hrep => exact absurd rfl h0


theorem loadRow_run {P : Program} {w : World} {b k T : Nat} {arr : Array Value} {fz : Nat × Nat} (h : w.heap[b]? = some (.cells arr T fz)) (hk : k ≤ arr.size) : (loadCells ⟨b, 0, none⟩ k).run P w = .ok (arr.extract 0 k) w := by
  unfold loadCells
  have hsz : (arr.extract 0 k).size = k := by simp; omega
  refine loadCells_run k 0 _ (by omega) (by simp) ?_
  intro i hi
  rw [hsz] at hi
  have h1 : i < arr.size := by omega
  have h2 : i < min k arr.size := by omega
  simp [cellv, World.cell?, h, h1, h2]

/-- append to a row of the heap -/
theorem op_appendR {T e n nb : Nat} {x y : Operand} {rows : List (List D)} {z : D} {j ver len : Nat} {acc : Bool} {cs : List M} [ht : TySlice X.P T e] [hs : TySz X.P e n] [hb : TyB X.P e nb] [hz : TyZ X.P e z] (hzl : (dcells z).length = n)
    (hx : st.ev x = some (.m (.rsl j ver len))) (hy : st.ev y = some (.m (.d (.sl rows)))) (hH : st.H[j]? = some (.row acc n ver cs)) (hl : ∀ r ∈ rows, r.length = n) (hroom : (len + rows.length) * nb ≤ 140737488355328) (hmax : len + rows.length ≤ 140737488355328) :
    OpT X ⟨dst, .call ⟨.builtin .append, #[x, y], #[T, T]⟩, ty, pos, af, g⟩ st (eqp (.m (.rsl j (ver + 1) (len + rows.length))) ⟨st.sl, st.bx, st.H.set j (.row acc n (ver + 1) (cs ++ flatM rows))⟩) := by
  intro a σ lam hi
  have h1 := hi.ev hx
  have h2 := hi.evd hy
  have hH' : σ.H[j]? = some (.row acc n ver cs) := by rw [hi.hH]; exact hH
  obtain ⟨inf, i1, i2, i3⟩ := bytes_run hs.size hb.bytes
  obtain ⟨zv, hz1, hz2⟩ := (tyZero_of hz.zero).run
  have hzc : zv.cells.size = n := by have := (dOfVal_rep (O := σ.O) (w := σ.w) hz2).cells.1; omega
  obtain ⟨hn', arr, TT, cap0, nn, h3, h4, h5, ⟨h6, hmax0⟩, h7⟩ := hi.hinv.obj j _ hH'
  obtain ⟨vs, v1, v2, v3, v4⟩ := h2.firstCells (P := X.P) hn' hl
  generalize hu : a.eval x = u at h1
  generalize hw : a.eval y = wv at h2 v1 v2
  have hti : ∀ w : World, (typeInfo e).run X.P w = .ok inf w := fun w => by simp [typeInfo, program, Sem.run, i1]
  have hund : ∀ w : World, (underlying T).run X.P w = .ok (.slice e) w := fun w => by simp [underlying, program, Sem.run, ht.u]
  have hfl := flatM_length hl
  cases h1 with
  | m h1 => cases h1 with
    | rsl j ver len ad cap hle hcur =>
      obtain ⟨e1, e2, arr1, T1, e3, e4⟩ := hcur acc n cs hH'
      subst e1
      rw [h3] at e3
      injection e3 with e3; injection e3 with e5 e6
      subst e5; subst e6
      have hcap : cap0 = cap := Nat.eq_of_mul_eq_mul_right hn' (by rw [← h4, ← e4])
      subst hcap
      have hnl : nn = len := Nat.eq_of_mul_eq_mul_right hn' (by rw [← h6, ← e2])
      subst hnl
      have hcs' : (cs ++ flatM rows).length = (nn + rows.length) * n := by rw [List.length_append, e2, hfl, Nat.add_mul]
      have newcell : ∀ (k : Nat) (m : M), (cs ++ flatM rows)[k]? = some m → (k < cs.length ∧ cs[k]? = some m) ∨ (cs.length ≤ k ∧ ∃ u, vs[k - cs.length]? = some u ∧ RM σ m u ∧ flat u = true) := by
        intro k m hm
        rcases Nat.lt_or_ge k cs.length with hk | hk
        · rw [List.getElem?_append_left hk] at hm; exact .inl ⟨hk, hm⟩
        · rw [List.getElem?_append_right hk] at hm
          obtain ⟨i, j', r, d, e7, e8, e9, rfl⟩ := flatM_get hn' hl hm
          obtain ⟨u, u1, u2, u3⟩ := v4 i j' r d e8 e9
          exact .inr ⟨hk, u, by rw [e7]; exact u1, .d u2, u3⟩
      have hvfl : ∀ v ∈ vs.toList, flat v = true := by
        intro v hv
        obtain ⟨k, hk⟩ := List.mem_iff_getElem?.1 hv
        have hkl : k < vs.size := by rcases Nat.lt_or_ge k vs.size with h | h; exact h; simp [Array.getElem?_eq_none h] at hk
        have hk2 : k < rows.length * n := by omega
        have hi1 : k / n < rows.length := (Nat.div_lt_iff_lt_mul hn').2 hk2
        have hr : rows[k / n].length = n := hl _ (List.getElem_mem hi1)
        have hm1 : k % n < n := Nat.mod_lt _ hn'
        obtain ⟨u, u1, u2, u3⟩ := v4 (k / n) (k % n) rows[k / n] (rows[k / n])[k % n] (by simp [hi1]) (by simp [hr, hm1])
        have e7 : k / n * n + k % n = k := by have := Nat.div_add_mod k n; rw [Nat.mul_comm] at this; exact this
        rw [e7] at u1
        have : vs[k]? = some v := by simpa using hk
        rw [u1] at this; injection this with this; subst this; exact u3
      by_cases hroomcap : nn + rows.length ≤ cap0
      · -- in place
        have hfit : nn * n + vs.toList.length ≤ arr.size := by
          rw [h4]; simp [v3]; rw [← Nat.add_mul]; exact Nat.mul_le_mul_right _ hroomcap
        have hst := storeCells_run (P := X.P) (off := nn * n) vs.toList 0 σ.w arr h3 (by simpa using hfit) hvfl
        simp only [Nat.add_zero] at hst
        have hlt := lt_of_heap h3
        have hget : ∀ k, (arrWrite arr (nn * n) vs.toList)[k]? = if nn * n ≤ k ∧ k < nn * n + vs.toList.length then vs.toList[k - nn * n]? else arr[k]? := fun k => arrWrite_get _ _ _ _ hfit
        obtain ⟨τ, g1, g2, g3, g4, g5⟩ := hi.updObj (j := j) (b' := σ.l j) (ob := .row acc n ver cs) (ob' := .row acc n (ver + 1) (cs ++ flatM rows)) (w' := setBlk σ.w (σ.l j) (.cells (arrWrite arr (nn * n) vs.toList) TT (0, 0))) hH trivial rfl rfl rfl (by rw [setBlk_size]; exact Nat.le_refl _)
          (fun c _ hc => setBlk_ne hc) (.inl rfl) (by
            intro o v ho hc
            have ho1 : acc = true ∧ o < cs.length := by
              simp only [Ob.owns, not_or, Nat.not_le] at ho
              refine ⟨?_, ho.2⟩
              cases acc
              · exact absurd rfl ho.1
              · rfl
            refine ⟨?_, fun _ hh => ?_⟩
            · simp only [cellv, World.cell?, setBlk_get hlt]
              simp only [cellv, World.cell?, h3] at hc
              simp at hc ⊢
              rw [hget, if_neg (by omega)]
              exact hc
            · simp only [Ob.owns] at hh
              rcases hh with hh | hh
              · rw [ho1.1] at hh; cases hh
              · rw [hcs', Nat.add_mul] at hh; omega) ⟨rfl, .inl (by omega)⟩ (by
            intro τ hm hw' _ _
            refine ⟨hn', _, TT, cap0, nn + rows.length, by rw [hw']; exact setBlk_get hlt, by rw [arrWrite_size]; exact h4, hroomcap, ⟨hcs', hmax⟩, ?_⟩
            intro k m v hm' hv
            rw [hget] at hv
            rcases newcell k m hm' with ⟨hk, hc⟩ | ⟨hk, u, u1, u2, u3⟩
            · rw [if_neg (by omega)] at hv
              exact ⟨(h7 k m v hc hv).1.mono hm, (h7 k m v hc hv).2⟩
            · have hkl : k - cs.length < vs.size := by rcases Nat.lt_or_ge (k - cs.length) vs.size with h | h; exact h; simp [Array.getElem?_eq_none h] at u1
              rw [if_pos (by simp; omega)] at hv
              have : vs.toList[k - nn * n]? = some u := by rw [← e2]; simpa using u1
              rw [this] at hv; injection hv with hv; subst hv
              exact ⟨u2.mono hm, u3⟩)
        refine OpRun.value (u := .slice (some ⟨σ.l j, 0, none⟩) (nn + rows.length) cap0) (w' := τ.w) ?_ ⟨_, _, τ, lam, ⟨rfl, rfl⟩, rfl, g5, ?_⟩
        · simp only [execOp, resolve, invoke, builtin, Builtin.append_]
          simp only [Sem.run_bind, Sem.run_pure, Result.andThen_ok, List.map_toArray, List.map_cons, List.map_nil, hu, hw]
          simp [hund, hti, size_run hs.size, v1, hroomcap, v2 σ.w rfl, addr_add, hst, g1]
        · refine .m (.rsl j (ver + 1) (nn + rows.length) _ cap0 (.inr ⟨acc, n, ver + 1, cs ++ flatM rows, by rw [g3]; exact set_get hH, Nat.le_refl _⟩) ?_)
          intro acc' ec' cs2 hh
          rw [g3] at hh
          have hjl : j < st.H.length := by rcases Nat.lt_or_ge j st.H.length with h | h; exact h; simp [List.getElem?_eq_none h] at hH
          simp [hjl] at hh
          obtain ⟨f1, f2, f3⟩ := hh
          subst f1; subst f2; subst f3
          exact ⟨by rw [g2], hcs', _, TT, by rw [g2, g1]; exact setBlk_get hlt, by rw [arrWrite_size]; exact h4⟩
      · -- a new block
        let need := nn + rows.length
        let cap := need + σ.w.tape σ.w.drawn (.appendCap need cap0 e) % (2 ^ 63 - need)
        let arr2 := arr.extract 0 (nn * n) ++ vs ++ Builtin.zeroCells zv.cells (cap - need)
        have hcapn : need ≤ cap := Nat.le_add_right _ _
        have hle0 : nn * n ≤ arr.size := by rw [h4]; exact Nat.mul_le_mul_right _ h5
        have hexs : (arr.extract 0 (nn * n)).size = nn * n := by simp; omega
        have harr2 : arr2.size = cap * n := by
          simp only [arr2, Array.size_append, zeroCells_size, v3, hzc, hexs]
          rw [← Nat.add_mul, ← Nat.add_mul]; congr 1; omega
        have hd : FInv X { σ with w := σ.w.drew } lam st a := hi.ext (ExtW.drew _)
        have hmd : Mono σ { σ with w := σ.w.drew } := Mono.ext (ExtW.drew _)
        let w' : World := { σ.w.drew with heap := σ.w.drew.heap.push (.cells arr2 e (0, 0)) }
        have hext : ExtW σ.w.drew w' := ExtW.alloc _ _
        have hg2 : ∀ k, k < cs.length → arr2[k]? = arr[k]? := by
          intro k hk
          simp only [arr2]
          rw [Array.append_assoc, Array.getElem?_append_left (by omega), Array.getElem?_extract, if_pos (by omega)]; simp
        have hg3 : ∀ k, cs.length ≤ k → k - cs.length < vs.size → arr2[k]? = vs[k - cs.length]? := by
          intro k hk hk2
          simp only [arr2]
          rw [Array.append_assoc, Array.getElem?_append_right (by omega), Array.getElem?_append_left (by omega), hexs, e2]
        obtain ⟨τ, g1, g2, g3, g4, g5⟩ := hd.updObj (j := j) (b' := σ.w.heap.size) (ob := .row acc n ver cs) (ob' := .row acc n (ver + 1) (cs ++ flatM rows)) (w' := w') hH trivial rfl rfl rfl hext.size
          (fun c hc _ => hext.blk c hc) (.inr (Nat.le_refl _)) (by
            intro o v ho hc
            exact ⟨hext.cell hc, fun hh => by have := lt_of_heap h3; exact absurd hh (by show ¬ σ.w.heap.size = σ.l j; omega)⟩) ⟨rfl, .inl (by omega)⟩ (by
            intro τ hm hw2 _ _
            refine ⟨hn', arr2, e, cap, need, by rw [hw2]; exact push_self _ _, harr2, hcapn, ⟨hcs', hmax⟩, ?_⟩
            intro k m v hm' hv
            rcases newcell k m hm' with ⟨hk, hc⟩ | ⟨hk, u, u1, u2, u3⟩
            · rw [hg2 k hk] at hv
              exact ⟨((h7 k m v hc hv).1.mono hmd).mono hm, (h7 k m v hc hv).2⟩
            · have hkl : k - cs.length < vs.size := by rcases Nat.lt_or_ge (k - cs.length) vs.size with h | h; exact h; simp [Array.getElem?_eq_none h] at u1
              rw [hg3 k hk hkl, u1] at hv; injection hv with hv; subst hv
              exact ⟨(u2.mono hmd).mono hm, u3⟩)
        refine OpRun.value (u := .slice (some ⟨σ.w.heap.size, 0, none⟩) need cap) (w' := τ.w) ?_ ⟨_, _, τ, lam, ⟨rfl, rfl⟩, rfl, g5, ?_⟩
        · have c2' : ¬ (9223372036854775807 < (((nn + rows.length : Nat) : Nat) : Int) ∧ inf.bytes = 0) := by rintro ⟨h, _⟩; omega
          have c3' : ¬ (281474976710656 < Builtin.nextslicecap (nn + rows.length) cap0 * inf.bytes) := by
            rw [i3]
            have h1 := nextcap_le (need := nn + rows.length) (cap := cap0) (by omega)
            have := Nat.mul_le_mul_right nb h1
            rw [Nat.mul_assoc] at this
            omega
          have hcut : (Question.appendCap (nn + rows.length) cap0 e).cut (σ.w.tape σ.w.drawn (Question.appendCap (nn + rows.length) cap0 e)) = cap := rfl
          have hforced : (Question.appendCap (nn + rows.length) cap0 e).forced = false := rfl
          have hv2 := v2 σ.w.drew rfl
          have hold : (Builtin.firstCells n nn (.slice (some ⟨σ.l j, 0, none⟩) nn cap0)).run X.P σ.w.drew = .ok (arr.extract 0 (nn * n)) σ.w.drew := by
            simp only [Builtin.firstCells]
            exact loadRow_run (w := σ.w.drew) h3 hle0
          simp only [execOp, resolve, invoke, builtin, Builtin.append_]
          simp only [Sem.run_bind, Sem.run_pure, Result.andThen_ok, List.map_toArray, List.map_cons, List.map_nil, hu, hw]
          simp [hund, hti, size_run hs.size]
          simp only [v1, Result.andThen_ok]
          rw [if_neg hroomcap]
          have c2'' : ¬ (9223372036854775807 < (nn : Int) + (rows.length : Int) ∧ inf.bytes = 0) := by rintro ⟨h, _⟩; omega
          simp only [c2'', c3', hforced, if_false, Bool.false_eq_true]
          rw [hold]
          simp only [Result.andThen_ok]
          rw [hv2]
          simp only [Result.andThen_ok, hz1, hcut]
          simp [newRow, newObj, Sem.run, g1, arr2, w', need]
          rfl
        · refine .m (.rsl j (ver + 1) need _ cap (.inr ⟨acc, n, ver + 1, cs ++ flatM rows, by rw [g3]; exact set_get hH, Nat.le_refl _⟩) ?_)
          intro acc' ec' cs2 hh
          rw [g3] at hh
          have hjl : j < st.H.length := by rcases Nat.lt_or_ge j st.H.length with h | h; exact h; simp [List.getElem?_eq_none h] at hH
          simp [hjl] at hh
          obtain ⟨f1, f2, f3⟩ := hh
          subst f1; subst f2; subst f3
          exact ⟨by rw [g2], hcs', arr2, e, by rw [g2, g1]; exact push_self _ _, harr2⟩

end ops
end Go.Mt
