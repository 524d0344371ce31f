import Derived.Test.YtjhinemdonddoaaMtG
set_option linter.unusedVariables false
namespace Go.Mt

/-- a block, set anew -/
def setBlk (w : World) (b : Nat) (x : Obj) : World := { w with heap := w.heap.setIfInBounds b x }

theorem setBlk_get {w : World} {b : Nat} {x : Obj} (hb : b < w.heap.size) : (setBlk w b x).heap[b]? = some x := by simp [setBlk, hb]
theorem setBlk_ne {w : World} {b c : Nat} {x : Obj} (h : c ≠ b) : (setBlk w b x).heap[c]? = w.heap[c]? := by
  simp [setBlk, Array.getElem?_setIfInBounds_ne (Ne.symm h)]
theorem setBlk_size {w : World} {b : Nat} {x : Obj} : (setBlk w b x).heap.size = w.heap.size := by simp [setBlk]
theorem setBlk_setBlk {w : World} {b : Nat} {x y : Obj} : setBlk (setBlk w b x) b y = setBlk w b y := by
  unfold setBlk
  congr 1
  apply Array.ext_getElem?
  intro i
  by_cases h : i = b
  · subst h; simp [Array.getElem?_setIfInBounds]
  · simp [Array.getElem?_setIfInBounds_ne (Ne.symm h)]
theorem setBlk_same {w : World} {b : Nat} {x : Obj} (h : w.heap[b]? = some x) : setBlk w b x = w := by
  unfold setBlk
  have : w.heap.setIfInBounds b x = w.heap := by
    apply Array.ext_getElem?
    intro i
    by_cases e : i = b
    · subst e; rw [Array.getElem?_setIfInBounds_self]; split <;> simp_all
    · simp [Array.getElem?_setIfInBounds_ne (Ne.symm e)]
  rw [this]

theorem setCell_eq {w : World} {b o : Nat} {v : Value} {arr : Array Value} {T : Nat} (h : w.heap[b]? = some (.cells arr T (0, 0))) :
    w.setCell ⟨b, o, none⟩ v = setBlk w b (.cells (arr.setIfInBounds o v) T (0, 0)) := by
  unfold World.setCell setBlk
  congr 1
  apply Array.ext_getElem?
  intro i
  have hb := lt_of_heap h
  by_cases e : i = b
  · subst e
    simp only [Array.getElem?_modify, if_true, h, Option.map_some, Array.getElem?_setIfInBounds_self, hb]
    simp
  · simp [Array.getElem?_setIfInBounds_ne (Ne.symm e), Array.getElem?_modify, Ne.symm e]

def arrWrite (arr : Array Value) (off : Nat) : List Value → Array Value
  | [] => arr
  | v :: r => arrWrite (arr.setIfInBounds off v) (off + 1) r

theorem arrWrite_size : ∀ (vs : List Value) (arr : Array Value) (off : Nat), (arrWrite arr off vs).size = arr.size
  | [], arr, off => rfl
  | v :: r, arr, off => by simp [arrWrite, arrWrite_size r]
theorem arrWrite_get : ∀ (vs : List Value) (arr : Array Value) (off k : Nat), off + vs.length ≤ arr.size →
    (arrWrite arr off vs)[k]? = if off ≤ k ∧ k < off + vs.length then vs[k - off]? else arr[k]?
  | [], arr, off, k, h => by simp [arrWrite]; intro h1 h2; omega
  | v :: r, arr, off, k, h => by
    simp at h
    rw [arrWrite, arrWrite_get r _ (off + 1) k (by simp; omega)]
    by_cases e : k = off
    · subst e
      simp
      have h2 : k < arr.size := by omega
      simp [h2]
      intro h3; omega
    · by_cases e2 : off + 1 ≤ k ∧ k < off + 1 + r.length
      · have h3 : off ≤ k ∧ k < off + (v :: r).length := by simp; omega
        rw [if_pos e2, if_pos h3]
        have : k - off = (k - (off + 1)) + 1 := by omega
        rw [this]; simp
      · have h3 : ¬ (off ≤ k ∧ k < off + (v :: r).length) := by simp; omega
        rw [if_neg e2, if_neg h3]
        simp [Array.getElem?_setIfInBounds_ne (Ne.symm e)]

theorem store_run {P : Program} {w : World} {b o : Nat} {v : Value} {arr : Array Value} {T : Nat} (h : w.heap[b]? = some (.cells arr T (0, 0))) (ho : o < arr.size) (hf : flat v = true) :
    (store ⟨b, o, none⟩ v).run P w = .ok () (setBlk w b (.cells (arr.setIfInBounds o v) T (0, 0))) := by
  have hc : w.cell? ⟨b, o, none⟩ = some arr[o] := by simp [World.cell?, h, ho]
  have hz : w.frozen? ⟨b, o, none⟩ = false := by simp [World.frozen?, h]
  unfold store
  cases v <;> simp [flat] at hf <;> simp [Sem.run, hc, hz, setCell_eq h]

theorem storeCells_run {P : Program} {b off T : Nat} : ∀ (vs : List Value) (i : Nat) (w : World) (arr : Array Value), w.heap[b]? = some (.cells arr T (0, 0)) → off + i + vs.length ≤ arr.size → (∀ v ∈ vs, flat v = true) →
    (storeCells ⟨b, off, none⟩ vs i).run P w = .ok () (setBlk w b (.cells (arrWrite arr (off + i) vs) T (0, 0)))
  | [], i, w, arr, h, _, _ => by simp [storeCells, arrWrite, setBlk_same h]
  | v :: r, i, w, arr, h, hs, hf => by
    simp at hs
    have h1 := store_run (P := P) (o := off + i) h (by omega) (hf v (by simp))
    rw [storeCells]
    simp only [Sem.run_bind, addr_add]
    rw [h1]
    simp only [Result.andThen_ok]
    have hb : (setBlk w b (.cells (arr.setIfInBounds (off + i) v) T (0, 0))).heap[b]? = some (.cells (arr.setIfInBounds (off + i) v) T (0, 0)) := setBlk_get (lt_of_heap h)
    rw [storeCells_run r (i + 1) _ _ hb (by simp; omega) (fun v hv => hf v (by simp [hv]))]
    rw [setBlk_setBlk]
    rfl

theorem storeVar_run {P : Program} {w : World} {b off T t : Nat} {arr : Array Value} {v : Value} (h : w.heap[b]? = some (.cells arr T (0, 0))) (hs : tySize P t = some v.cells.size) (hl : off + v.cells.size ≤ arr.size)
    (hf : ∀ (i : Nat) u, v.cells[i]? = some u → flat u = true) :
    (storeVar t ⟨b, off, none⟩ v).run P w = .ok () (setBlk w b (.cells (arrWrite arr off v.cells.toList) T (0, 0))) := by
  unfold storeVar
  simp only [Sem.run_bind, size_run hs, Result.andThen_ok]
  simp
  have := storeCells_run (P := P) (off := off) v.cells.toList 0 w arr h (by simpa using hl) (by
    intro u hu
    obtain ⟨i, hi⟩ := List.mem_iff_getElem?.1 hu
    exact hf i u (by simpa using hi))
  simpa using this

/-- cells, written over others -/
theorem RMc.write {σ : Sg} {cs new cs' : List M} {arr : Array Value} {vs : Array Value} {off : Nat} (h : RMc σ cs arr) (hn : RMc σ new vs) (hw : writeAt cs off new = some cs') :
    RMc σ cs' (arrWrite arr off vs.toList) ∧ off + new.length ≤ cs.length ∧ cs'.length = cs.length := by
  unfold writeAt at hw
  cases hb : Nat.ble (off + new.length) cs.length with
  | false => simp [hb] at hw
  | true =>
    simp only [hb, cond_true, Option.some.injEq] at hw
    subst hw
    have hle := Nat.le_of_ble_eq_true hb
    have hl1 := h.1
    have hl2 := hn.1
    refine ⟨⟨?_, ?_⟩, hle, ?_⟩
    · rw [arrWrite_size, h.1]; simp; omega
    · intro i m v hm hv
      rw [arrWrite_get _ _ _ _ (by simp; omega)] at hv
      simp only [Array.length_toList, hl2] at hv
      by_cases e : off ≤ i ∧ i < off + new.length
      · rw [if_pos e] at hv
        rw [List.append_assoc, List.getElem?_append_right (by simp; omega), List.getElem?_append_left (by simp; omega)] at hm
        have : i - (List.take off cs).length = i - off := by simp; omega
        rw [this] at hm
        exact hn.2 _ _ _ hm (by simpa using hv)
      · rw [if_neg e] at hv
        refine h.2 i m v ?_ hv
        rw [List.append_assoc] at hm
        rcases Nat.lt_or_ge i off with h3 | h3
        · rw [List.getElem?_append_left (by simp; omega), List.getElem?_take_of_lt h3] at hm; exact hm
        · rw [List.getElem?_append_right (by simp; omega), List.getElem?_append_right (by simp; omega), List.getElem?_drop] at hm
          have : off + new.length + (i - (List.take off cs).length - new.length) = i := by simp; omega
          rw [this] at hm; exact hm
    · simp; omega

/-- a block of which only owned cells turn -/
theorem Mono.setBlk {σ : Sg} {b T : Nat} {arr arr' : Array Value} (h : σ.w.heap[b]? = some (.cells arr T (0, 0))) (hs : arr'.size = arr.size) (hO : ∀ o, ¬ σ.O b o → arr'[o]? = arr[o]?) :
    Mono σ { σ with w := setBlk σ.w b (.cells arr' T (0, 0)) } := by
  have hlt := lt_of_heap h
  refine ⟨?_, fun i cs h1 => ⟨⟨cs, h1⟩, rfl⟩, fun i cs h1 => ⟨⟨cs, h1⟩, rfl⟩, fun i h1 => h1, ?_, fun _ h => ⟨_, h⟩⟩
  · intro c o v hc hn
    refine ⟨?_, hn⟩
    by_cases e : c = b
    · subst e
      simp only [cellv, World.cell?, h] at hc
      simp only [cellv, World.cell?, setBlk_get hlt]
      simp at hc ⊢
      rw [hO o hn]; exact hc
    · rw [cellv_of_blk (setBlk_ne e)]; exact hc
  · intro i acc ec ver cs h1
    refine .inr ⟨acc, ver, cs, h1, Nat.le_refl _, fun _ => ⟨rfl, rfl, fun ar T' ha => ?_⟩⟩
    by_cases e : σ.l i = b
    · rw [e] at ha ⊢
      rw [h] at ha
      injection ha with ha; injection ha with e1 e2
      subst e1; subst e2
      exact ⟨arr', setBlk_get hlt, hs⟩
    · exact ⟨ar, by rw [setBlk_ne e]; exact ha, rfl⟩

section ops
variable {X : Ctx} {st : St} {dst : Option Nat} {ty : Nat} {pos : String} {af : Array Edge} {g : Option (Nat × Bool)}

theorem op_loadL {T : Nat} {x : Operand} {t off : Nat} {cs : List M} {m : M} (hx : st.ev x = some (.loc t off)) (hb : get st.bx t = some cs) (hr : readAt X.P T cs off = some m) :
    OpT X ⟨dst, .load T x, ty, pos, af, g⟩ st (eqp (.m m) st) := by
  refine OpT.quiet fun a σ lam hi => ?_
  have h := hi.ev hx
  generalize hu : a.eval x = u at h
  cases h with
  | loc t off =>
    obtain ⟨arr, TT, h3, h4⟩ := hi.box t cs hb
    obtain ⟨v, h5, h6⟩ := loadM_run hr h3 (by rw [h4.1]; exact Nat.le_refl _) h4.2
    exact ⟨v, by simp [execOp, hu, Instr.loadAt, Instr.sureAddr, h5], .m h6⟩

/-- one cell -/
theorem op_loadLc {T : Nat} {x : Operand} {t off : Nat} {cs : List M} {m : M} [ht : TyCell X.P T] (hx : st.ev x = some (.loc t off)) (hb : get st.bx t = some cs) (hr : cs[off]? = some m) :
    OpT X ⟨dst, .load T x, ty, pos, af, g⟩ st (eqp (.m m) st) :=
  op_loadL hx hb (by simp [readAt, ht.cell, hr])
theorem op_loadLa {T n : Nat} {x : Operand} {t off : Nat} {cs : List M} {ds : List D} [ht : TyAgg X.P T n] (hx : st.ev x = some (.loc t off)) (hb : get st.bx t = some cs) (hn : Nat.ble (off + n) cs.length = true)
    (hr : allD ((cs.drop off).take n) = some ds) : OpT X ⟨dst, .load T x, ty, pos, af, g⟩ st (eqp (.m (.d (.agg ds))) st) :=
  op_loadL hx hb (by simp [readAt, ht.agg, ht.size, hn, pack, hr])

theorem get_cons_eq {α : Type} {l : List (Nat × α)} {k t : Nat} {v w : α} (h : get ((k, v) :: l) t = some w) : (t = k ∧ w = v) ∨ (t ≠ k ∧ get l t = some w) := by
  rw [get_cons] at h
  by_cases e : k = t
  · rw [if_pos e] at h; injection h with h; exact .inl ⟨e.symm, h.symm⟩
  · rw [if_neg e] at h; exact .inr ⟨fun h => e h.symm, h⟩

/-- the frame's own variable t turns -/
theorem FInv.setBox {σ : Sg} {lam : Nat → Nat} {a : Act} {t T : Nat} {cs cs' : List M} {arr arr' : Array Value} (hi : FInv X σ lam st a) (hb : get st.bx t = some cs) (h : σ.w.heap[lam t]? = some (.cells arr T (0, 0)))
    (hs : arr'.size = arr.size) (hc : RMc { σ with w := setBlk σ.w (lam t) (.cells arr' T (0, 0)) } cs' arr') :
    FInv X { σ with w := setBlk σ.w (lam t) (.cells arr' T (0, 0)) } lam ⟨st.sl, (t, cs') :: st.bx, st.H⟩ a := by
  have hown : ∀ o, σ.O (lam t) o := fun o => (hi.hinv.own _ _).2 (.inl (.inr ⟨t, cs, hb, rfl⟩))
  have hmono : Mono σ { σ with w := setBlk σ.w (lam t) (.cells arr' T (0, 0)) } := Mono.setBlk h hs (fun o ho => (ho (hown o)).elim)
  have hoof : ∀ b o, Oof X.Oout lam ((t, cs') :: st.bx) b o ↔ Oof X.Oout lam st.bx b o := by
    intro b o
    constructor
    · rintro (h1 | ⟨u, ds, h1, h2⟩)
      · exact .inl h1
      · rcases get_cons_eq h1 with ⟨rfl, rfl⟩ | ⟨h3, h4⟩
        · exact .inr ⟨u, cs, hb, h2⟩
        · exact .inr ⟨u, ds, h4, h2⟩
    · rintro (h1 | ⟨u, ds, h1, h2⟩)
      · exact .inl h1
      · by_cases e : t = u
        · subst e; exact .inr ⟨t, cs', by simp [get_cons], h2⟩
        · exact .inr ⟨u, ds, by simp [get_cons, e, h1], h2⟩
  have hne := sep_of_hinv hi.hinv (b := lam t) (.inr ⟨t, cs, hb, rfl⟩)
  have hdom : ∀ u ds, get ((t, cs') :: st.bx) u = some ds → ∃ ds', get st.bx u = some ds' := by
    intro u ds h1
    rcases get_cons_eq h1 with ⟨rfl, rfl⟩ | ⟨h3, h4⟩
    · exact ⟨cs, hb⟩
    · exact ⟨ds, h4⟩
  refine ⟨hi.hH, hi.defers, hi.size, fun u v h3 => let ⟨z, h4, h5⟩ := hi.slot u v h3; ⟨z, h4, h5.mono hmono⟩, ?_, ?_, ?_, ?_, ?_, hi.mono.trans hmono, ?_⟩
  · intro u ds h1
    rcases get_cons_eq h1 with ⟨rfl, rfl⟩ | ⟨h3, h4⟩
    · exact ⟨arr', T, setBlk_get (lt_of_heap h), hc⟩
    · refine (hi.box u ds h4).keep hmono fun x hx => ?_
      rw [setBlk_ne (fun e => h3 (hi.binj u t ds cs h4 hb e))]; exact hx
  · intro u v ds es h1 h2 h3
    obtain ⟨_, h4⟩ := hdom u ds h1
    obtain ⟨_, h5⟩ := hdom v es h2
    exact hi.binj u v _ _ h4 h5 h3
  · intro u ds h1
    obtain ⟨_, h4⟩ := hdom u ds h1
    exact hi.bsep u _ h4
  · intro u ds h1
    obtain ⟨_, h4⟩ := hdom u ds h1
    exact hi.bnew u _ h4
  · refine ⟨?_, hi.hinv.inj, fun b o => by rw [hoof]; exact hi.hinv.own b o, fun i ob h1 h2 o h3 => hi.hinv.sep i ob h1 h2 o ((hoof _ _).1 h3), fun b o h3 => by show b < (setBlk _ _ _).heap.size; rw [setBlk_size]; exact hi.hinv.old b o ((hoof _ _).1 h3)⟩
    intro i ob h1
    by_cases hl : ob.live
    · refine (hi.hinv.obj i ob h1).keep hmono fun x hx => ?_
      rw [setBlk_ne (hne i ob h1 hl)]; exact hx
    · cases ob <;> first | trivial | exact (hl trivial).elim
  · refine ⟨hi.blk.os, hi.blk.output, hi.blk.tape, by show _ ≤ (setBlk _ _ _).heap.size; rw [setBlk_size]; exact hi.blk.size, ?_, hi.blk.loc⟩
    intro b hb1 hb2
    rw [setBlk_ne ?_]
    · exact hi.blk.blk b hb1 hb2
    · intro e
      have := hi.bnew t cs hb
      omega

theorem op_storeL {T n : Nat} {x y : Operand} {t off : Nat} {cs cs' : List M} {m : M} (hx : st.ev x = some (.loc t off)) (hy : st.ev y = some (.m m)) (hb : get st.bx t = some cs)
    [hs : TySz X.P T n] (hn : (cellsOf m).length = n) (hok : m.okc = true) (hw : writeAt cs off (cellsOf m) = some cs') :
    OpT X ⟨dst, .store T x y, ty, pos, af, g⟩ st (eqp (.m .undef) ⟨st.sl, (t, cs') :: st.bx, st.H⟩) := by
  intro a σ lam hi
  have h := hi.ev hx
  have h2 := hi.ev hy
  generalize hu : a.eval x = u at h
  cases h with
  | loc t off =>
    cases h2 with
    | m h2 =>
      obtain ⟨arr, TT, h3, h4⟩ := hi.box t cs hb
      have hc := h2.cells hok
      have hown : ∀ o, σ.O (lam t) o := fun o => (hi.hinv.own _ _).2 (.inl (.inr ⟨t, cs, hb, rfl⟩))
      obtain ⟨h5, h6, h7⟩ := h4.write hc hw
      have hsz : (a.eval y).cells.size = n := by rw [hc.1, hn]
      have hrun := storeVar_run (P := X.P) (t := T) (off := off) h3 (by rw [hs.size, hsz]) (by rw [h4.1, hc.1]; exact h6) hc.flat
      refine OpRun.skip (by simp only [execOp, hu, Instr.storeAt, Instr.sureAddr]; simp [hrun]; rfl) ?_
      have hmono : Mono σ { σ with w := setBlk σ.w (lam t) (.cells (arrWrite arr off (a.eval y).cells.toList) TT (0, 0)) } := Mono.setBlk h3 (arrWrite_size _ _ _) (fun o ho => (ho (hown o)).elim)
      exact ⟨.m .undef, _, { σ with w := setBlk σ.w (lam t) (.cells (arrWrite arr off (a.eval y).cells.toList) TT (0, 0)) }, lam, ⟨rfl, rfl⟩, rfl, hi.setBox hb h3 (arrWrite_size _ _ _) (h5.mono hmono), .m (.undef _)⟩

end ops
end Go.Mt
