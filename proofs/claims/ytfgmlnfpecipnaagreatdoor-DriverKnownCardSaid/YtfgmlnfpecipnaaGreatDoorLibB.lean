/- Part of a library of triples over an abstract heap, and of a reckoner that is proved sound over it. -/
import Derived.Test.YtfgmlnfpecipnaaGreatDoorLibA
set_option linter.unusedVariables false
namespace Go.Mt

def St.evMs (st : St) : List Operand → Option (List M)
  | [] => some []
  | x :: r => match st.ev x, St.evMs st r with
    | some (.m m), some ms => some (m :: ms)
    | _, _ => none
def St.evDs (st : St) : List Operand → Option (List D)
  | [] => some []
  | x :: r => match st.ev x, St.evDs st r with
    | some (.m (.d d)), some ds => some (d :: ds)
    | _, _ => none

section ops
variable {X : Ctx} {st : St} {dst : Option Nat} {ty : Nat} {pos : String} {af : Array Edge} {g : Option (Nat × Bool)}

theorem FInv.evMs {σ : Sg} {lam : Nat → Nat} {a : Act} (hi : FInv X σ lam st a) : ∀ {xs : List Operand} {ms : List M}, st.evMs xs = some ms → RMs σ ms (xs.map a.eval).toArray
  | [], ms, h => by simp [St.evMs] at h; subst h; exact ⟨rfl, by simp⟩
  | x :: r, ms, h => by
    simp only [St.evMs] at h
    split at h
    · rename_i m ms' h1 h2
      injection h with h; subst h
      have h3 := hi.evMs h2
      have h4 := hi.ev h1
      refine ⟨by simpa using h3.1, fun i m' v hm hv => ?_⟩
      cases i with
      | zero => simp at hm hv; subst hm; subst hv; cases h4 with | m h => exact h
      | succ i => simp at hm hv; exact h3.2 i m' v hm (by simpa using hv)
    · cases h
theorem FInv.evDs {σ : Sg} {lam : Nat → Nat} {a : Act} (hi : FInv X σ lam st a) : ∀ {xs : List Operand} {ds : List D}, st.evDs xs = some ds → Reps σ.O σ.w ds (xs.map a.eval).toArray
  | [], ms, h => by simp [St.evDs] at h; subst h; exact ⟨rfl, by simp⟩
  | x :: r, ms, h => by
    simp only [St.evDs] at h
    split at h
    · rename_i m ms' h1 h2
      injection h with h; subst h
      have h3 := hi.evDs h2
      have h4 := hi.evd h1
      refine ⟨by simpa using h3.1, fun i m' v hm hv => ?_⟩
      cases i with
      | zero => simp at hm hv; subst hm; subst hv; exact h4
      | succ i => simp at hm hv; exact h3.2 i m' v hm (by simpa using hv)
    · cases h

class IsFn (P : Program) (f : Nat) : Prop where
  run : ∀ (args : Array Value) (w : World), (callFunc f args).run P w = .ok (.enter f args) w

/-- the post of a call of data -/
def callp (st : St) (post : List D → Prop) : V → St → Prop := fun v s => ∃ r, v = .m (tupM (r.map .d)) ∧ post r ∧ s = st

theorem OpT.callD {o : Oper} {f : Nat} {ds : List D} {post : List D → Prop} (h : PT X.P f ds post)
    (hr : ∀ a σ lam, FInv X σ lam st a → ∃ vs, (execOp a.eval o).run X.P σ.w = .ok (.enter f vs) σ.w ∧ Reps σ.O σ.w ds vs) : OpT X o st (callp st post) := by
  intro a σ lam hi
  obtain ⟨vs, h1, h2⟩ := hr a σ lam hi
  refine OpRun.enter h1 ((h σ.O σ.w vs hi.hinv.oold h2).mono ?_)
  rintro e w' ⟨v, r, rfl, hp, he, hv⟩
  refine ⟨v, rfl, _, st, { σ with w := w' }, lam, ⟨r, rfl, hp, rfl⟩, rfl, hi.ext he, .m ?_⟩
  exact hv.mono' fun b o v h1 h2 => ⟨h1, h2⟩

theorem op_call {f : Nat} {args : List Operand} {tys : Array Nat} {ds : List D} {post : List D → Prop} [hf : IsFn X.P f] (ha : st.evDs args = some ds) (h : PT X.P f ds post) :
    OpT X ⟨dst, .call ⟨.value (.func f), args.toArray, tys⟩, ty, pos, af, g⟩ st (callp st post) := by
  refine OpT.callD h fun a σ lam hi => ⟨(args.map a.eval).toArray, ?_, hi.evDs ha⟩
  simp only [execOp, resolve, Act.eval, Deferred.ofValue, invoke]
  simp [hf.run]

theorem op_call1 {f : Nat} {args : List Operand} {tys : Array Nat} {ds : List D} {r : D} [hf : IsFn X.P f] (ha : st.evDs args = some ds) (h : PT X.P f ds (· = [r])) :
    OpT X ⟨dst, .call ⟨.value (.func f), args.toArray, tys⟩, ty, pos, af, g⟩ st (eqp (.m (.d r)) st) := by
  intro a σ lam hi
  have := op_call (dst := dst) (ty := ty) (pos := pos) (af := af) (g := g) (tys := tys) ha h a σ lam hi
  unfold OpRun at this ⊢
  generalize (execOp a.eval _).run X.P σ.w = z at *
  have hp : ∀ v s, callp st (· = [r]) v s → eqp (.m (.d r)) st v s := by
    rintro v s ⟨r', rfl, rfl, rfl⟩; exact ⟨rfl, rfl⟩
  cases z with
  | ok x w' =>
    cases x <;> simp only at this ⊢ <;> first
      | (obtain ⟨v, s, σ', l', h1, h2⟩ := this; exact ⟨v, s, σ', l', hp _ _ h1, h2⟩)
      | exact this.mono fun e w'' ⟨u, he, v, s, σ', l', h1, h2⟩ => ⟨u, he, v, s, σ', l', hp _ _ h1, h2⟩
      | exact this
  | halt x w' => exact this

/-- a call of a closure over data -/
theorem op_callv {x : Operand} {f : Nat} {caps : List D} {args : List Operand} {tys : Array Nat} {ds : List D} {post : List D → Prop} (hx : st.ev x = some (.m (.d (.fn f caps)))) [hf : IsFn X.P f] (ha : st.evDs args = some ds)
    (h : PT X.P f (ds ++ caps) post) : OpT X ⟨dst, .call ⟨.value x, args.toArray, tys⟩, ty, pos, af, g⟩ st (callp st post) := by
  refine OpT.callD h fun a σ lam hi => ?_
  have h1 := hi.evd hx
  have h2 := hi.evDs ha
  generalize hu : a.eval x = u at h1
  cases h1 with
  | fn f cs vs hl hh =>
    refine ⟨(args.map a.eval).toArray ++ vs, ?_, ?_⟩
    · simp only [execOp, resolve, hu, Deferred.ofValue, invoke]
      simp [hf.run]
    · refine ⟨by have := h2.1; simp at this; simp [this, hl], fun i d v hd hv => ?_⟩
      have hl2 : (args.map a.eval).toArray.size = ds.length := h2.1
      rcases Nat.lt_or_ge i ds.length with hlt | hge
      · rw [List.getElem?_append_left hlt] at hd
        rw [Array.getElem?_append_left (by omega)] at hv
        exact h2.2 i d v hd hv
      · rw [List.getElem?_append_right hge] at hd
        rw [Array.getElem?_append_right (by omega), hl2] at hv
        exact hh _ d v hd hv

theorem op_makeFunc {f : Nat} {caps : List Operand} {ds : List D} (ha : st.evDs caps = some ds) :
    OpT X ⟨dst, .makeFunc (.func f) #[] caps.toArray, ty, pos, af, g⟩ st (eqp (.m (.d (.fn f ds))) st) := by
  refine OpT.quiet fun a σ lam hi => ?_
  have h := hi.evDs ha
  exact ⟨.func (.func f) #[] (caps.map a.eval).toArray, by simp [execOp, Instr.makeFunc], .m (.d (.fn f ds _ h.1 h.2))⟩

theorem sep_of_hinv {σ : Sg} {Oo : Nat → Nat → Prop} (h : HInv σ Oo) {b : Nat} (hb : Oo b 0) : ∀ (i : Nat) ob, σ.H[i]? = some ob → ob.live → σ.l i ≠ b := by
  intro i ob h1 h2 he
  exact h.sep i ob h1 h2 0 (by rw [he]; exact hb)

/-- a call over the heap -/
theorem OpT.callR {o : Oper} {f : Nat} {ms : List M} {post : M → Hp → Prop} (h : CT X.P f ms st.H post)
    (hr : ∀ a σ lam, FInv X σ lam st a → ∃ vs, (execOp a.eval o).run X.P σ.w = .ok (.enter f vs) σ.w ∧ RMs σ ms vs) :
    OpT X o st (fun v s => ∃ r H', v = .m r ∧ post r H' ∧ s = ⟨st.sl, st.bx, H'⟩) := by
  intro a σ lam hi
  obtain ⟨vs, h1, h2⟩ := hr a σ lam hi
  refine OpRun.enter h1 ((h σ _ vs hi.hinv hi.hH h2).mono ?_)
  rintro e w' ⟨v, r, σ', rfl, rfl, hp, hi', hv, hm, hb⟩
  refine ⟨v, rfl, .m r, ⟨st.sl, st.bx, σ'.H⟩, σ', lam, ⟨r, σ'.H, rfl, hp, rfl⟩, rfl, ?_, .m hv⟩
  refine ⟨rfl, hi.defers, hi.size, fun t v h3 => let ⟨u, h4, h5⟩ := hi.slot t v h3; ⟨u, h4, h5.mono hm⟩, ?_, hi.binj, hi.bsep, hi.bnew, hi', hi.mono.trans hm, hi.blk.trans hb⟩
  intro t cs h3
  have hlt := (hi.box t cs h3).lt trivial
  have hne := sep_of_hinv hi.hinv (b := lam t) (.inr ⟨t, cs, h3, rfl⟩)
  refine (hi.box t cs h3).keep hm fun x hx => ?_
  rw [hb.blk _ hlt hne]; exact hx

theorem op_callR {f : Nat} {args : List Operand} {tys : Array Nat} {ms : List M} {post : M → Hp → Prop} [hf : IsFn X.P f] (ha : st.evMs args = some ms) (h : CT X.P f ms st.H post) :
    OpT X ⟨dst, .call ⟨.value (.func f), args.toArray, tys⟩, ty, pos, af, g⟩ st (fun v s => ∃ r H', v = .m r ∧ post r H' ∧ s = ⟨st.sl, st.bx, H'⟩) := by
  refine OpT.callR h fun a σ lam hi => ⟨(args.map a.eval).toArray, ?_, hi.evMs ha⟩
  simp only [execOp, resolve, Act.eval, Deferred.ofValue, invoke]
  simp [hf.run]

end ops
end Go.Mt

set_option linter.unusedVariables false
namespace Go.Mt

/-- a block, set anew -/
def setBlk (w : World) (b : Nat) (x : Obj) : World := { w with heap := w.heap.setIfInBounds b x }

theorem setBlk_get {w : World} {b : Nat} {x : Obj} (hb : b < w.heap.size) : (setBlk w b x).heap[b]? = some x := by simp [setBlk, hb]
theorem setBlk_ne {w : World} {b c : Nat} {x : Obj} (h : c ≠ b) : (setBlk w b x).heap[c]? = w.heap[c]? := by
  simp [setBlk, Array.getElem?_setIfInBounds_ne (Ne.symm h)]
theorem setBlk_size {w : World} {b : Nat} {x : Obj} : (setBlk w b x).heap.size = w.heap.size := by simp [setBlk]
theorem setBlk_setBlk {w : World} {b : Nat} {x y : Obj} : setBlk (setBlk w b x) b y = setBlk w b y := by
  unfold setBlk
  congr 1
  apply Array.ext_getElem?
  intro i
  by_cases h : i = b
  · subst h; simp [Array.getElem?_setIfInBounds]
  · simp [Array.getElem?_setIfInBounds_ne (Ne.symm h)]
theorem setBlk_same {w : World} {b : Nat} {x : Obj} (h : w.heap[b]? = some x) : setBlk w b x = w := by
  unfold setBlk
  have : w.heap.setIfInBounds b x = w.heap := by
    apply Array.ext_getElem?
    intro i
    by_cases e : i = b
    · subst e; rw [Array.getElem?_setIfInBounds_self]; split <;> simp_all
    · simp [Array.getElem?_setIfInBounds_ne (Ne.symm e)]
  rw [this]

theorem setCell_eq {w : World} {b o : Nat} {v : Value} {arr : Array Value} {T : Nat} (h : w.heap[b]? = some (.cells arr T (0, 0))) :
    w.setCell ⟨b, o, none⟩ v = setBlk w b (.cells (arr.setIfInBounds o v) T (0, 0)) := by
  unfold World.setCell setBlk
  congr 1
  apply Array.ext_getElem?
  intro i
  have hb := lt_of_heap h
  by_cases e : i = b
  · subst e
    simp only [Array.getElem?_modify, if_true, h, Option.map_some, Array.getElem?_setIfInBounds_self, hb]
    simp
  · simp [Array.getElem?_setIfInBounds_ne (Ne.symm e), Array.getElem?_modify, Ne.symm e]

def arrWrite (arr : Array Value) (off : Nat) : List Value → Array Value
  | [] => arr
  | v :: r => arrWrite (arr.setIfInBounds off v) (off + 1) r

theorem arrWrite_size : ∀ (vs : List Value) (arr : Array Value) (off : Nat), (arrWrite arr off vs).size = arr.size
  | [], arr, off => rfl
  | v :: r, arr, off => by simp [arrWrite, arrWrite_size r]
theorem arrWrite_get : ∀ (vs : List Value) (arr : Array Value) (off k : Nat), off + vs.length ≤ arr.size →
    (arrWrite arr off vs)[k]? = if off ≤ k ∧ k < off + vs.length then vs[k - off]? else arr[k]?
  | [], arr, off, k, h => by simp [arrWrite]; intro h1 h2; omega
  | v :: r, arr, off, k, h => by
    simp at h
    rw [arrWrite, arrWrite_get r _ (off + 1) k (by simp; omega)]
    by_cases e : k = off
    · subst e
      simp
      have h2 : k < arr.size := by omega
      simp [h2]
      intro h3; omega
    · by_cases e2 : off + 1 ≤ k ∧ k < off + 1 + r.length
      · have h3 : off ≤ k ∧ k < off + (v :: r).length := by simp; omega
        rw [if_pos e2, if_pos h3]
        have : k - off = (k - (off + 1)) + 1 := by omega
        rw [this]; simp
      · have h3 : ¬ (off ≤ k ∧ k < off + (v :: r).length) := by simp; omega
        rw [if_neg e2, if_neg h3]
        simp [Array.getElem?_setIfInBounds_ne (Ne.symm e)]

theorem store_run {P : Program} {w : World} {b o : Nat} {v : Value} {arr : Array Value} {T : Nat} (h : w.heap[b]? = some (.cells arr T (0, 0))) (ho : o < arr.size) (hf : flat v = true) :
    (store ⟨b, o, none⟩ v).run P w = .ok () (setBlk w b (.cells (arr.setIfInBounds o v) T (0, 0))) := by
  have hc : w.cell? ⟨b, o, none⟩ = some arr[o] := by simp [World.cell?, h, ho]
  have hz : w.frozen? ⟨b, o, none⟩ = false := by simp [World.frozen?, h]
  unfold store
  cases v <;> simp [flat] at hf <;> simp [Sem.run, hc, hz, setCell_eq h]

theorem storeCells_run {P : Program} {b off T : Nat} : ∀ (vs : List Value) (i : Nat) (w : World) (arr : Array Value), w.heap[b]? = some (.cells arr T (0, 0)) → off + i + vs.length ≤ arr.size → (∀ v ∈ vs, flat v = true) →
    (storeCells ⟨b, off, none⟩ vs i).run P w = .ok () (setBlk w b (.cells (arrWrite arr (off + i) vs) T (0, 0)))
  | [], i, w, arr, h, _, _ => by simp [storeCells, arrWrite, setBlk_same h]
  | v :: r, i, w, arr, h, hs, hf => by
    simp at hs
    have h1 := store_run (P := P) (o := off + i) h (by omega) (hf v (by simp))
    rw [storeCells]
    simp only [Sem.run_bind, addr_add]
    rw [h1]
    simp only [Result.andThen_ok]
    have hb : (setBlk w b (.cells (arr.setIfInBounds (off + i) v) T (0, 0))).heap[b]? = some (.cells (arr.setIfInBounds (off + i) v) T (0, 0)) := setBlk_get (lt_of_heap h)
    rw [storeCells_run r (i + 1) _ _ hb (by simp; omega) (fun v hv => hf v (by simp [hv]))]
    rw [setBlk_setBlk]
    rfl

theorem storeVar_run {P : Program} {w : World} {b off T t : Nat} {arr : Array Value} {v : Value} (h : w.heap[b]? = some (.cells arr T (0, 0))) (hs : tySize P t = some v.cells.size) (hl : off + v.cells.size ≤ arr.size)
    (hf : ∀ (i : Nat) u, v.cells[i]? = some u → flat u = true) :
    (storeVar t ⟨b, off, none⟩ v).run P w = .ok () (setBlk w b (.cells (arrWrite arr off v.cells.toList) T (0, 0))) := by
  unfold storeVar
  simp only [Sem.run_bind, size_run hs, Result.andThen_ok]
  simp
  have := storeCells_run (P := P) (off := off) v.cells.toList 0 w arr h (by simpa using hl) (by
    intro u hu
    obtain ⟨i, hi⟩ := List.mem_iff_getElem?.1 hu
    exact hf i u (by simpa using hi))
  simpa using this

/-- cells, written over others -/
theorem RMc.write {σ : Sg} {cs new cs' : List M} {arr : Array Value} {vs : Array Value} {off : Nat} (h : RMc σ cs arr) (hn : RMc σ new vs) (hw : writeAt cs off new = some cs') :
    RMc σ cs' (arrWrite arr off vs.toList) ∧ off + new.length ≤ cs.length ∧ cs'.length = cs.length := by
  unfold writeAt at hw
  cases hb : Nat.ble (off + new.length) cs.length with
  | false => simp [hb] at hw
  | true =>
    simp only [hb, cond_true, Option.some.injEq] at hw
    subst hw
    have hle := Nat.le_of_ble_eq_true hb
    have hl1 := h.1
    have hl2 := hn.1
    refine ⟨⟨?_, ?_⟩, hle, ?_⟩
    · rw [arrWrite_size, h.1]; simp; omega
    · intro i m v hm hv
      rw [arrWrite_get _ _ _ _ (by simp; omega)] at hv
      simp only [Array.length_toList, hl2] at hv
      by_cases e : off ≤ i ∧ i < off + new.length
      · rw [if_pos e] at hv
        rw [List.append_assoc, List.getElem?_append_right (by simp; omega), List.getElem?_append_left (by simp; omega)] at hm
        have : i - (List.take off cs).length = i - off := by simp; omega
        rw [this] at hm
        exact hn.2 _ _ _ hm (by simpa using hv)
      · rw [if_neg e] at hv
        refine h.2 i m v ?_ hv
        rw [List.append_assoc] at hm
        rcases Nat.lt_or_ge i off with h3 | h3
        · rw [List.getElem?_append_left (by simp; omega), List.getElem?_take_of_lt h3] at hm; exact hm
        · rw [List.getElem?_append_right (by simp; omega), List.getElem?_append_right (by simp; omega), List.getElem?_drop] at hm
          have : off + new.length + (i - (List.take off cs).length - new.length) = i := by simp; omega
          rw [this] at hm; exact hm
    · simp; omega

/-- a block of which only owned cells turn -/
theorem Mono.setBlk {σ : Sg} {b T : Nat} {arr arr' : Array Value} (h : σ.w.heap[b]? = some (.cells arr T (0, 0))) (hs : arr'.size = arr.size) (hO : ∀ o, ¬ σ.O b o → arr'[o]? = arr[o]?) :
    Mono σ { σ with w := setBlk σ.w b (.cells arr' T (0, 0)) } := by
  have hlt := lt_of_heap h
  refine ⟨?_, fun i cs h1 => ⟨⟨cs, h1⟩, rfl⟩, fun i cs h1 => ⟨⟨cs, h1⟩, rfl⟩, fun i cs h1 => ⟨⟨cs, h1⟩, rfl⟩, fun i h1 => h1, ?_, fun _ h => ⟨_, h⟩⟩
  · intro c o v hc hn
    refine ⟨?_, hn⟩
    by_cases e : c = b
    · subst e
      simp only [cellv, World.cell?, h] at hc
      simp only [cellv, World.cell?, setBlk_get hlt]
      simp at hc ⊢
      rw [hO o hn]; exact hc
    · rw [cellv_of_blk (setBlk_ne e)]; exact hc
  · intro i acc ec ver cs h1
    refine .inr ⟨acc, ver, cs, h1, Nat.le_refl _, fun _ => ⟨rfl, rfl, fun ar T' ha => ?_⟩⟩
    by_cases e : σ.l i = b
    · rw [e] at ha ⊢
      rw [h] at ha
      injection ha with ha; injection ha with e1 e2
      subst e1; subst e2
      exact ⟨arr', setBlk_get hlt, hs⟩
    · exact ⟨ar, by rw [setBlk_ne e]; exact ha, rfl⟩

section ops
variable {X : Ctx} {st : St} {dst : Option Nat} {ty : Nat} {pos : String} {af : Array Edge} {g : Option (Nat × Bool)}

theorem op_loadL {T : Nat} {x : Operand} {t off : Nat} {cs : List M} {m : M} (hx : st.ev x = some (.loc t off)) (hb : get st.bx t = some cs) (hr : readAt X.P T cs off = some m) :
    OpT X ⟨dst, .load T x, ty, pos, af, g⟩ st (eqp (.m m) st) := by
  refine OpT.quiet fun a σ lam hi => ?_
  have h := hi.ev hx
  generalize hu : a.eval x = u at h
  cases h with
  | loc t off =>
    obtain ⟨arr, TT, h3, h4⟩ := hi.box t cs hb
    obtain ⟨v, h5, h6⟩ := loadM_run hr h3 (by rw [h4.1]; exact Nat.le_refl _) h4.2
    exact ⟨v, by simp [execOp, hu, Instr.loadAt, Instr.sureAddr, h5], .m h6⟩

/-- one cell -/
theorem op_loadLc {T : Nat} {x : Operand} {t off : Nat} {cs : List M} {m : M} [ht : TyCell X.P T] (hx : st.ev x = some (.loc t off)) (hb : get st.bx t = some cs) (hr : cs[off]? = some m) :
    OpT X ⟨dst, .load T x, ty, pos, af, g⟩ st (eqp (.m m) st) :=
  op_loadL hx hb (by simp [readAt, ht.cell, hr])
theorem op_loadLa {T n : Nat} {x : Operand} {t off : Nat} {cs : List M} {ds : List D} [ht : TyAgg X.P T n] (hx : st.ev x = some (.loc t off)) (hb : get st.bx t = some cs) (hn : Nat.ble (off + n) cs.length = true)
    (hr : allD ((cs.drop off).take n) = some ds) : OpT X ⟨dst, .load T x, ty, pos, af, g⟩ st (eqp (.m (.d (.agg ds))) st) :=
  op_loadL hx hb (by simp [readAt, ht.agg, ht.size, hn, pack, hr])

theorem get_cons_eq {α : Type} {l : List (Nat × α)} {k t : Nat} {v w : α} (h : get ((k, v) :: l) t = some w) : (t = k ∧ w = v) ∨ (t ≠ k ∧ get l t = some w) := by
  rw [get_cons] at h
  by_cases e : k = t
  · rw [if_pos e] at h; injection h with h; exact .inl ⟨e.symm, h.symm⟩
  · rw [if_neg e] at h; exact .inr ⟨fun h => e h.symm, h⟩

/-- the frame's own variable t turns -/
theorem FInv.setBox {σ : Sg} {lam : Nat → Nat} {a : Act} {t T : Nat} {cs cs' : List M} {arr arr' : Array Value} (hi : FInv X σ lam st a) (hb : get st.bx t = some cs) (h : σ.w.heap[lam t]? = some (.cells arr T (0, 0)))
    (hs : arr'.size = arr.size) (hc : RMc { σ with w := setBlk σ.w (lam t) (.cells arr' T (0, 0)) } cs' arr') :
    FInv X { σ with w := setBlk σ.w (lam t) (.cells arr' T (0, 0)) } lam ⟨st.sl, (t, cs') :: st.bx, st.H⟩ a := by
  have hown : ∀ o, σ.O (lam t) o := fun o => (hi.hinv.own _ _).2 (.inl (.inr ⟨t, cs, hb, rfl⟩))
  have hmono : Mono σ { σ with w := setBlk σ.w (lam t) (.cells arr' T (0, 0)) } := Mono.setBlk h hs (fun o ho => (ho (hown o)).elim)
  have hoof : ∀ b o, Oof X.Oout lam ((t, cs') :: st.bx) b o ↔ Oof X.Oout lam st.bx b o := by
    intro b o
    constructor
    · rintro (h1 | ⟨u, ds, h1, h2⟩)
      · exact .inl h1
      · rcases get_cons_eq h1 with ⟨rfl, rfl⟩ | ⟨h3, h4⟩
        · exact .inr ⟨u, cs, hb, h2⟩
        · exact .inr ⟨u, ds, h4, h2⟩
    · rintro (h1 | ⟨u, ds, h1, h2⟩)
      · exact .inl h1
      · by_cases e : t = u
        · subst e; exact .inr ⟨t, cs', by simp [get_cons], h2⟩
        · exact .inr ⟨u, ds, by simp [get_cons, e, h1], h2⟩
  have hne := sep_of_hinv hi.hinv (b := lam t) (.inr ⟨t, cs, hb, rfl⟩)
  have hdom : ∀ u ds, get ((t, cs') :: st.bx) u = some ds → ∃ ds', get st.bx u = some ds' := by
    intro u ds h1
    rcases get_cons_eq h1 with ⟨rfl, rfl⟩ | ⟨h3, h4⟩
    · exact ⟨cs, hb⟩
    · exact ⟨ds, h4⟩
  refine ⟨hi.hH, hi.defers, hi.size, fun u v h3 => let ⟨z, h4, h5⟩ := hi.slot u v h3; ⟨z, h4, h5.mono hmono⟩, ?_, ?_, ?_, ?_, ?_, hi.mono.trans hmono, ?_⟩
  · intro u ds h1
    rcases get_cons_eq h1 with ⟨rfl, rfl⟩ | ⟨h3, h4⟩
    · exact ⟨arr', T, setBlk_get (lt_of_heap h), hc⟩
    · refine (hi.box u ds h4).keep hmono fun x hx => ?_
      rw [setBlk_ne (fun e => h3 (hi.binj u t ds cs h4 hb e))]; exact hx
  · intro u v ds es h1 h2 h3
    obtain ⟨_, h4⟩ := hdom u ds h1
    obtain ⟨_, h5⟩ := hdom v es h2
    exact hi.binj u v _ _ h4 h5 h3
  · intro u ds h1
    obtain ⟨_, h4⟩ := hdom u ds h1
    exact hi.bsep u _ h4
  · intro u ds h1
    obtain ⟨_, h4⟩ := hdom u ds h1
    exact hi.bnew u _ h4
  · refine ⟨?_, hi.hinv.inj, fun b o => by rw [hoof]; exact hi.hinv.own b o, fun i ob h1 h2 o h3 => hi.hinv.sep i ob h1 h2 o ((hoof _ _).1 h3), fun b o h3 => by show b < (setBlk _ _ _).heap.size; rw [setBlk_size]; exact hi.hinv.old b o ((hoof _ _).1 h3)⟩
    intro i ob h1
    by_cases hl : ob.live
    · refine (hi.hinv.obj i ob h1).keep hmono fun x hx => ?_
      rw [setBlk_ne (hne i ob h1 hl)]; exact hx
    · cases ob <;> first | trivial | exact (hl trivial).elim
  · refine ⟨hi.blk.os, hi.blk.output, hi.blk.tape, by show _ ≤ (setBlk _ _ _).heap.size; rw [setBlk_size]; exact hi.blk.size, ?_, hi.blk.loc⟩
    intro b hb1 hb2
    rw [setBlk_ne ?_]
    · exact hi.blk.blk b hb1 hb2
    · intro e
      have := hi.bnew t cs hb
      omega

theorem op_storeL {T n : Nat} {x y : Operand} {t off : Nat} {cs cs' : List M} {m : M} (hx : st.ev x = some (.loc t off)) (hy : st.ev y = some (.m m)) (hb : get st.bx t = some cs)
    [hs : TySz X.P T n] (hn : (cellsOf m).length = n) (hok : m.okc = true) (hw : writeAt cs off (cellsOf m) = some cs') :
    OpT X ⟨dst, .store T x y, ty, pos, af, g⟩ st (eqp (.m .undef) ⟨st.sl, (t, cs') :: st.bx, st.H⟩) := by
  intro a σ lam hi
  have h := hi.ev hx
  have h2 := hi.ev hy
  generalize hu : a.eval x = u at h
  cases h with
  | loc t off =>
    cases h2 with
    | m h2 =>
      obtain ⟨arr, TT, h3, h4⟩ := hi.box t cs hb
      have hc := h2.cells hok
      have hown : ∀ o, σ.O (lam t) o := fun o => (hi.hinv.own _ _).2 (.inl (.inr ⟨t, cs, hb, rfl⟩))
      obtain ⟨h5, h6, h7⟩ := h4.write hc hw
      have hsz : (a.eval y).cells.size = n := by rw [hc.1, hn]
      have hrun := storeVar_run (P := X.P) (t := T) (off := off) h3 (by rw [hs.size, hsz]) (by rw [h4.1, hc.1]; exact h6) hc.flat
      refine OpRun.skip (by simp only [execOp, hu, Instr.storeAt, Instr.sureAddr]; simp [hrun]; rfl) ?_
      have hmono : Mono σ { σ with w := setBlk σ.w (lam t) (.cells (arrWrite arr off (a.eval y).cells.toList) TT (0, 0)) } := Mono.setBlk h3 (arrWrite_size _ _ _) (fun o ho => (ho (hown o)).elim)
      exact ⟨.m .undef, _, { σ with w := setBlk σ.w (lam t) (.cells (arrWrite arr off (a.eval y).cells.toList) TT (0, 0)) }, lam, ⟨rfl, rfl⟩, rfl, hi.setBox hb h3 (arrWrite_size _ _ _) (h5.mono hmono), .m (.undef _)⟩

end ops
end Go.Mt

set_option linter.unusedVariables false
namespace Go.Mt

/-- the first entry of each slot decides: no address of variable t is left -/
def noLoc (t : Nat) : List (Nat × V) → Bool
  | [] => true
  | (_, .loc u _) :: r => !Nat.beq u t && noLoc t r
  | _ :: r => noLoc t r
theorem noLoc_get : ∀ {l : List (Nat × V)} {t k o : Nat}, noLoc t l = true → get l k ≠ some (.loc t o) := by
  intro l
  induction l with
  | nil => intro t k o _ h; simp [get] at h
  | cons x l ih =>
    intro t k o hn h
    obtain ⟨j, u⟩ := x
    cases u with
    | m m =>
      rcases get_cons_eq h with ⟨rfl, h2⟩ | ⟨h1, h2⟩
      · cases h2
      · exact ih hn h2
    | tl a b c d =>
      rcases get_cons_eq h with ⟨rfl, h2⟩ | ⟨h1, h2⟩
      · cases h2
      · exact ih hn h2
    | loc u o' =>
      simp only [noLoc, Bool.and_eq_true, Bool.not_eq_true'] at hn
      rcases get_cons_eq h with ⟨rfl, h2⟩ | ⟨h1, h2⟩
      · injection h2 with e1 e2; subst e1; simp at hn
      · exact ih hn.2 h2
def clearLoc (t : Nat) : List (Nat × V) → List (Nat × V)
  | [] => []
  | (k, .loc u o) :: r => bif Nat.beq u t then (k, .m .undef) :: clearLoc t r else (k, .loc u o) :: clearLoc t r
  | (k, .m m) :: r => (k, .m m) :: clearLoc t r
  | (k, .tl a b c d) :: r => (k, .tl a b c d) :: clearLoc t r
theorem get_clearLoc : ∀ {l : List (Nat × V)} {t k : Nat} {v : V}, get (clearLoc t l) k = some v → (v = .m .undef ∧ ∃ u, get l k = some u) ∨ (get l k = some v ∧ ∀ o, v ≠ .loc t o) := by
  intro l
  induction l with
  | nil => intro t k v h; simp [clearLoc, get] at h
  | cons x l ih =>
    intro t k v h
    obtain ⟨j, u⟩ := x
    cases u with
    | m m =>
      unfold clearLoc at h
      rcases get_cons_eq h with ⟨rfl, rfl⟩ | ⟨h1, h2⟩
      · exact .inr ⟨by simp [get_cons], fun o h => by cases h⟩
      · rw [get_cons, if_neg (fun e => h1 e.symm)]; exact ih h2
    | tl a b c d =>
      unfold clearLoc at h
      rcases get_cons_eq h with ⟨rfl, rfl⟩ | ⟨h1, h2⟩
      · exact .inr ⟨by simp [get_cons], fun o h => by cases h⟩
      · rw [get_cons, if_neg (fun e => h1 e.symm)]; exact ih h2
    | loc u o =>
      unfold clearLoc at h
      cases hb : Nat.beq u t with
      | false =>
        rw [hb] at h
        rcases get_cons_eq h with ⟨rfl, rfl⟩ | ⟨h1, h2⟩
        · exact .inr ⟨by simp [get_cons], fun o' h => by injection h with e1 e2; subst e1; simp at hb⟩
        · rw [get_cons, if_neg (fun e => h1 e.symm)]; exact ih h2
      | true =>
        rw [hb] at h
        rcases get_cons_eq h with ⟨rfl, rfl⟩ | ⟨h1, h2⟩
        · exact .inl ⟨rfl, .loc u o, by simp [get_cons]⟩
        · rw [get_cons, if_neg (fun e => h1 e.symm)]; exact ih h2

section ops
variable {X : Ctx} {st : St} {dst : Option Nat} {ty : Nat} {pos : String} {af : Array Edge} {g : Option (Nat × Bool)}

/-- a new variable of the frame's own, in slot d -/
theorem FInv.newBox {σ : Sg} {lam : Nat → Nat} {a : Act} {d T : Nat} {cs : List M} {arr : Array Value} (hi : FInv X σ lam st a) (hc : RMc σ cs arr) :
    ∃ σ' lam', σ'.w = { σ.w with heap := σ.w.heap.push (.cells arr T (0, 0)) } ∧ lam' d = σ.w.heap.size ∧ FInv X σ' lam' ⟨clearLoc d st.sl, (d, cs) :: st.bx, st.H⟩ a := by
  let b := σ.w.heap.size
  let w' : World := { σ.w with heap := σ.w.heap.push (.cells arr T (0, 0)) }
  let lam' : Nat → Nat := fun u => if u = d then b else lam u
  have hext : ExtW σ.w w' := ExtW.alloc _ _
  let O' : Nat → Nat → Prop := fun c o => Oof X.Oout lam' ((d, cs) :: st.bx) c o ∨ ∃ (i : Nat) (ob : Ob), σ.H[i]? = some ob ∧ σ.l i = c ∧ ob.owns o
  let σ' : Sg := ⟨w', O', σ.l, σ.H⟩
  have hlamlt : ∀ u ds, get st.bx u = some ds → lam u < b := fun u ds h => (hi.box u ds h).lt trivial
  have hOO : ∀ c o, c < b → O' c o → σ.O c o := by
    intro c o hcb h
    rw [hi.hinv.own]
    rcases h with (h | ⟨u, ds, h1, h2⟩) | h
    · exact .inl (.inl h)
    · rcases get_cons_eq h1 with ⟨rfl, rfl⟩ | ⟨h3, h4⟩
      · simp [lam'] at h2; omega
      · simp [lam', h3] at h2; exact .inl (.inr ⟨u, ds, h4, h2⟩)
    · exact .inr h
  have hmono : Mono σ σ' := by
    refine ⟨fun c o v h1 h2 => ⟨hext.cell h1, fun h3 => h2 (hOO c o (lt_of_cellv h1) h3)⟩, fun i cs h1 => ⟨⟨cs, h1⟩, rfl⟩, fun i cs h1 => ⟨⟨cs, h1⟩, rfl⟩, fun i cs h1 => ⟨⟨cs, h1⟩, rfl⟩, fun i h1 => h1,
      fun i acc ec ver cs h1 => .inr ⟨acc, ver, cs, h1, Nat.le_refl _, fun _ => ⟨rfl, rfl, fun arr T ha => ⟨arr, hext.heap ha, rfl⟩⟩⟩, fun _ h => ⟨_, h⟩⟩
  have hl : ∀ (i : Nat) ob, σ.H[i]? = some ob → ob.live → σ.l i < b := fun i ob h1 h2 => (hi.hinv.obj i ob h1).lt h2
  refine ⟨σ', lam', rfl, by simp [lam', b], ?_⟩
  refine ⟨hi.hH, hi.defers, hi.size, ?_, ?_, ?_, ?_, ?_, ?_, hi.mono.trans hmono, ?_⟩
  · intro t v h
    rcases get_clearLoc h with ⟨rfl, u, h1⟩ | ⟨h1, h2⟩
    · obtain ⟨z, h3, _⟩ := hi.slot t u h1
      exact ⟨z, h3, .m (.undef _)⟩
    · obtain ⟨z, h3, h4⟩ := hi.slot t v h1
      refine ⟨z, h3, ?_⟩
      cases h4 with
      | m h4 => exact .m (h4.mono hmono)
      | tl i e1 e2 e3 e4 e5 e6 e7 => exact RV.mono (lam := lam') hmono (.tl i e1 e2 e3 e4 e5 e6 e7)
      | loc u o =>
        have hne : u ≠ d := by rintro rfl; exact h2 o rfl
        have : lam' u = lam u := by simp [lam', hne]
        rw [← this]; exact .loc u o
  · intro u ds h1
    rcases get_cons_eq h1 with ⟨rfl, rfl⟩ | ⟨h3, h4⟩
    · refine ⟨arr, T, ?_, hc.mono hmono⟩
      simp [lam', σ', w', b]
    · have : lam' u = lam u := by simp [lam', h3]
      rw [this]
      exact (hi.box u ds h4).keep hmono fun x hx => hext.heap hx
  · intro u v ds es h1 h2 h3
    rcases get_cons_eq h1 with ⟨rfl, rfl⟩ | ⟨h4, h5⟩ <;> rcases get_cons_eq h2 with ⟨rfl, rfl⟩ | ⟨h6, h7⟩
    · rfl
    · simp [lam', h6] at h3; have := hlamlt v es h7; omega
    · simp [lam', h4] at h3; have := hlamlt u ds h5; omega
    · simp [lam', h4, h6] at h3; exact hi.binj u v ds es h5 h7 h3
  · intro u ds h1 o h2
    rcases get_cons_eq h1 with ⟨rfl, rfl⟩ | ⟨h4, h5⟩
    · simp [lam'] at h2
      have := hi.hinv.old _ _ (.inl h2)
      simp [b] at this
    · simp [lam', h4] at h2; exact hi.bsep u ds h5 o h2
  · intro u ds h1
    rcases get_cons_eq h1 with ⟨rfl, rfl⟩ | ⟨h4, h5⟩
    · simp [lam']; exact hi.blk.size
    · simp [lam', h4]; exact hi.bnew u ds h5
  · refine ⟨fun i ob h1 => (hi.hinv.obj i ob h1).keep hmono fun x hx => hext.heap hx, hi.hinv.inj, fun c o => Iff.rfl, ?_, ?_⟩
    · intro i ob h1 h2 o h3
      have hlt := hl i ob h1 h2
      rcases h3 with h3 | ⟨u, ds, h3, h4⟩
      · exact hi.hinv.sep i ob h1 h2 o (.inl h3)
      · rcases get_cons_eq h3 with ⟨rfl, rfl⟩ | ⟨h5, h6⟩
        · simp [lam'] at h4; change b = σ.l i at h4; omega
        · simp [lam', h5] at h4; exact hi.hinv.sep i ob h1 h2 o (.inr ⟨u, ds, h6, h4⟩)
    · intro c o h3
      have hw : w'.heap.size = b + 1 := by simp [w', b]
      show c < w'.heap.size
      rcases h3 with h3 | ⟨u, ds, h3, h4⟩
      · have := hi.hinv.old c o (.inl h3); omega
      · rcases get_cons_eq h3 with ⟨rfl, rfl⟩ | ⟨h5, h6⟩
        · simp [lam'] at h4; omega
        · simp [lam', h5] at h4; have := hlamlt u ds h6; omega
  · refine hi.blk.trans ⟨rfl, rfl, rfl, hext.size, fun c hc _ => hext.blk c hc, fun i ob h1 h2 => .inr ⟨ob, h1, h2, rfl⟩⟩

class TyZero (P : Program) (t : Nat) (z : outParam D) : Prop where
  run : ∃ v, (∀ w, (zeroValue t).run P w = .ok v w) ∧ dOfVal v = some z
theorem tyZero_of {P : Program} {t : Nat} {z : D} (h : tyZero P t = some z) : TyZero P t z := by
  unfold tyZero at h
  split at h
  · rename_i i hi
    split at h
    · rename_i v hv
      exact ⟨v, fun w => by simp [zeroValue, typeInfo, program, Sem.run, hi, hv], h⟩
    · cases h
  · cases h

theorem op_alloc {T d : Nat} {z : D} [hz : TyZero X.P T z] :
    OpT X ⟨some d, .alloc T, ty, pos, af, g⟩ st (eqp (.loc d 0) ⟨clearLoc d st.sl, (d, (dcells z).map .d) :: st.bx, st.H⟩) := by
  intro a σ lam hi
  obtain ⟨v, h1, h2⟩ := hz.run
  have hr : RM σ (.d z) v := .d (dOfVal_rep h2)
  have hc := hr.cells rfl
  obtain ⟨σ', lam', h3, h4, h5⟩ := hi.newBox (d := d) (T := T) hc
  refine OpRun.value (u := .pointer (some ⟨σ.w.heap.size, 0, none⟩)) (w' := { σ.w with heap := σ.w.heap.push (.cells v.cells T (0, 0)) }) ?_ ⟨.loc d 0, _, σ', lam', ⟨rfl, rfl⟩, h3, h5, ?_⟩
  · simp [execOp, Instr.alloc, h1, newVar, newRow, newObj, Sem.run]
  · rw [← h4]; exact .loc d 0

/-- a variable of the frame's own out of a value -/
theorem op_boxL {T d : Nat} {x : Operand} {m : M} (hx : st.ev x = some (.m m)) (hok : m.okc = true) :
    OpT X ⟨some d, .box T x, ty, pos, af, g⟩ st (eqp (.loc d 0) ⟨clearLoc d st.sl, (d, cellsOf m) :: st.bx, st.H⟩) := by
  intro a σ lam hi
  have h := hi.ev hx
  cases h with
  | m h =>
    have hc := h.cells hok
    obtain ⟨σ', lam', h3, h4, h5⟩ := hi.newBox (d := d) (T := T) hc
    refine OpRun.value (u := .pointer (some ⟨σ.w.heap.size, 0, none⟩)) (w' := { σ.w with heap := σ.w.heap.push (.cells (a.eval x).cells T (0, 0)) }) ?_ ⟨.loc d 0, _, σ', lam', ⟨rfl, rfl⟩, h3, h5, ?_⟩
    · simp [execOp, Instr.box, newVar, newRow, newObj, Sem.run]
    · rw [← h4]; exact .loc d 0

end ops
end Go.Mt

set_option linter.unusedVariables false
namespace Go.Mt

theorem foldl_zipIdx_write : ∀ (vs : List Value) (k off : Nat) (arr : Array Value),
    (vs.zipIdx k).foldl (fun cs (x : Value × Nat) => cs.setIfInBounds (off + x.2) x.1) arr = arrWrite arr (off + k) vs
  | [], k, off, arr => rfl
  | v :: r, k, off, arr => by
    rw [List.zipIdx_cons, List.foldl_cons, foldl_zipIdx_write r (k + 1) off]
    rfl

def fillM (place : Nat → Option (Nat × Nat)) (cs : List M) : List (Nat × M) → Option (List M)
  | [] => some cs
  | (i, m) :: r => match place i with
    | some (off, size) => bif (Nat.beq (cellsOf m).length size && m.okc) then (match writeAt cs off (cellsOf m) with
      | some cs' => fillM place cs' r
      | none => none) else none
    | none => none

theorem fill_run {σ : Sg} {place : Nat → Option (Nat × Nat)} : ∀ {parts : List (Nat × M)} {vs : List (Nat × Value)} {cs cs' : List M} {arr : Array Value}, RMc σ cs arr →
    parts.length = vs.length → (∀ (k : Nat) p q, parts[k]? = some p → vs[k]? = some q → p.1 = q.1 ∧ RM σ p.2 q.2) → fillM place cs parts = some cs' →
    ∃ arr', Instr.fill place arr vs = some arr' ∧ RMc σ cs' arr'
  | [], [], cs, cs', arr, h, _, _, hf => by simp [fillM] at hf; subst hf; exact ⟨arr, rfl, h⟩
  | p :: ps, q :: qs, cs, cs', arr, h, hl, hp, hf => by
    obtain ⟨i, m⟩ := p
    obtain ⟨j, v⟩ := q
    obtain ⟨e1, e2⟩ := hp 0 _ _ rfl rfl
    simp at e1 e2
    subst e1
    unfold fillM at hf
    split at hf
    · rename_i off size hpl
      cases hb : (Nat.beq (cellsOf m).length size && m.okc) with
      | false => simp [hb] at hf
      | true =>
        simp only [hb, cond_true] at hf
        simp only [Bool.and_eq_true] at hb
        have hsz := Nat.eq_of_beq_eq_true hb.1
        split at hf
        · rename_i cs1 hw
          have hc := e2.cells hb.2
          obtain ⟨h5, h6, h7⟩ := h.write hc hw
          obtain ⟨arr', h8, h9⟩ := fill_run h5 (by simpa using hl) (fun k p q a b => hp (k + 1) p q (by simpa using a) (by simpa using b)) hf
          refine ⟨arr', ?_, h9⟩
          unfold Instr.fill
          simp only [hpl]
          have hs1 : v.cells.size = size := by rw [hc.1, hsz]
          have hs2 : ¬ (off + v.cells.size > arr.size) := by rw [hc.1, h.1]; omega
          rw [if_neg (by simp [hs1]; rw [hs1] at hs2; omega)]
          have : v.cells.zipIdx.foldl (fun cs (x : Value × Nat) => cs.setIfInBounds (off + x.2) x.1) arr = arrWrite arr off v.cells.toList := by
            rw [← Array.foldl_toList, Array.toList_zipIdx, foldl_zipIdx_write]; rfl
          rw [← this] at h8
          exact h8
        · cases hf
    · cases hf
  | [], _ :: _, _, _, _, _, hl, _, _ => by simp at hl
  | _ :: _, [], _, _, _, _, hl, _, _ => by simp at hl

def tyPlaces (P : Program) (t : Nat) : Option (List (Nat × Nat)) :=
  match P.underlying t with
  | some (.struct fields) => fields.toList.mapM fun f => (tySize P f.type).map fun n => (f.offset, n)
  | _ => none

class TyStruct (P : Program) (t : Nat) (places : outParam (List (Nat × Nat))) (z : outParam (List D)) : Prop where
  places : tyPlaces P t = some places
  zero : tyZero P t = some (.agg z)

theorem mapM_places {P : Program} {w : World} : ∀ {fs : List Field} {ps : List (Nat × Nat)}, (fs.mapM fun f => (tySize P f.type).map fun n => (f.offset, n)) = some ps →
    (fs.mapM fun f => (do pure (f.offset, ← sizeOf f.type) : Sem (Nat × Nat))).run P w = .ok ps w
  | [], ps, h => by simp at h; subst h; simp
  | f :: fs, ps, h => by
    rw [List.mapM_cons] at h
    cases hs : tySize P f.type with
    | none => simp [hs] at h
    | some n =>
      simp only [hs, Option.map_some, Option.bind_eq_bind, Option.bind_some] at h
      cases hr : (fs.mapM fun f => (tySize P f.type).map fun n => (f.offset, n)) with
      | none => simp [hr] at h
      | some ps' =>
        simp [hr] at h
        subst h
        rw [List.mapM_cons]
        simp only [Sem.run_bind, size_run hs, Result.andThen_ok, Sem.run_pure, mapM_places hr]

def evParts (st : St) : List (Nat × Operand) → Option (List (Nat × M))
  | [] => some []
  | (i, x) :: r => match st.ev x, evParts st r with
    | some (.m m), some ms => some ((i, m) :: ms)
    | _, _ => none

section ops
variable {X : Ctx} {st : St} {dst : Option Nat} {ty : Nat} {pos : String} {af : Array Edge} {g : Option (Nat × Bool)}

theorem FInv.evParts {σ : Sg} {lam : Nat → Nat} {a : Act} (hi : FInv X σ lam st a) : ∀ {xs : List (Nat × Operand)} {ms : List (Nat × M)}, evParts st xs = some ms →
    ms.length = (xs.map fun p => (p.1, a.eval p.2)).length ∧ ∀ (k : Nat) p q, ms[k]? = some p → (xs.map fun p => (p.1, a.eval p.2))[k]? = some q → p.1 = q.1 ∧ RM σ p.2 q.2
  | [], ms, h => by simp [Mt.evParts] at h; subst h; simp
  | (i, x) :: r, ms, h => by
    simp only [Mt.evParts] at h
    split at h
    · rename_i m ms' h1 h2
      injection h with h; subst h
      obtain ⟨h3, h5⟩ := hi.evParts h2
      have h4 := hi.ev h1
      refine ⟨by simpa using h3, fun k p q hp hq => ?_⟩
      cases k with
      | zero => simp at hp hq; subst hp; subst hq; cases h4 with | m h => exact ⟨rfl, h⟩
      | succ k => simp at hp; exact h5 k p q hp (by simpa using hq)
    · cases h

theorem op_build {T : Nat} {parts : List (Nat × Operand)} {ps : List (Nat × Nat)} {z : List D} {ms : List (Nat × M)} {cs : List M} [ht : TyStruct X.P T ps z] (he : evParts st parts = some ms)
    (hf : fillM (fun i => ps[i]?) (z.map .d) ms = some cs) : OpT X ⟨dst, .build T parts.toArray, ty, pos, af, g⟩ st (eqp (.m (pack cs)) st) := by
  refine OpT.quiet fun a σ lam hi => ?_
  obtain ⟨h1, h2⟩ := hi.evParts he
  have hz : ∃ v, (∀ w, (zeroValue T).run X.P w = .ok v w) ∧ dOfVal v = some (.agg z) := (tyZero_of ht.zero).run
  obtain ⟨v, hz1, hz2⟩ := hz
  have hc : RMc σ (z.map .d) v.cells := (RM.d (dOfVal_rep hz2) : RM σ (.d (.agg z)) v).cells rfl
  obtain ⟨arr', h3, h4⟩ := fill_run hc h1 h2 hf
  refine ⟨.agg arr', ?_, .m ?_⟩
  · have hp := ht.places
    unfold tyPlaces at hp
    split at hp
    · rename_i fields hu
      have hm := mapM_places (w := σ.w) hp
      have hm2 : (fields.mapM fun f => (do pure (f.offset, ← sizeOf f.type) : Sem (Nat × Nat))).run X.P σ.w = .ok ps.toArray σ.w := by
        rw [Array.mapM_eq_mapM_toList]
        simp only [Functor.map, Sem.run_bind']
        rw [hm]; rfl
      simp only [execOp, Instr.build]
      simp only [Sem.run_bind, hz1, Result.andThen_ok, underlying, program, Sem.run, hu, Sem.run_pure]
      simp only [hm2, Result.andThen_ok]
      have : (Array.map (fun x : Nat × Operand => match x with | (i, x) => (i, a.eval x)) parts.toArray).toList = parts.map fun p => (p.1, a.eval p.2) := by simp
      simp only [this]
      have hpl : (fun i : Nat => ps.toArray[i]?) = fun i : Nat => ps[i]? := by funext i; simp
      rw [hpl, h3]
      simp
    · cases hp
  · unfold pack
    split
    · rename_i ds hd
      have := RMs.allD ⟨h4.1, fun i m v a b => (h4.2 i m v a b).1⟩ hd
      exact .d (.agg ds _ this.1 h4.flat this.2)
    · exact .agg _ _ h4.1 h4.flat (fun i m v a b => (h4.2 i m v a b).1)


def zlist (n len : Nat) (z : List D) : List M := (List.range (len * n)).map fun i => .d (z.getD (i % z.length) default)

theorem chunk_spec {n : Nat} : ∀ {k : Nat} {cs : List M} {rows : List (List D)}, chunk n k cs = some rows → cs.length = k * n →
    rows.length = k ∧ (∀ r ∈ rows, r.length = n) ∧ ∀ (i j : Nat) r d, rows[i]? = some r → r[j]? = some d → cs[i * n + j]? = some (.d d)
  | 0, [], rows, h, _ => by simp [chunk] at h; subst h; simp
  | 0, _ :: _, rows, h, _ => by simp [chunk] at h
  | k + 1, cs, rows, h, hl => by
    unfold chunk at h
    split at h
    · rename_i r rs h1 h2
      injection h with h; subst h
      have hl' : (cs.drop n).length = k * n := by simp [hl, Nat.succ_mul]
      obtain ⟨h3, h4, h5⟩ := chunk_spec h2 hl'
      have h6 := allD_spec h1
      have hrl : r.length = n := by
        have := congrArg List.length h6
        simp at this
        rw [hl, Nat.succ_mul] at this
        omega
      refine ⟨by simp [h3], ?_, ?_⟩
      · intro x hx
        simp at hx
        rcases hx with rfl | hx
        · exact hrl
        · exact h4 x hx
      · intro i j x d hx hd
        cases i with
        | zero =>
          simp at hx; subst hx
          have hj : j < n := by rw [← hrl]; rcases Nat.lt_or_ge j r.length with h | h; exact h; simp [List.getElem?_eq_none h] at hd
          have : (cs.take n)[j]? = some (.d d) := by rw [h6]; simp [hd]
          rw [List.getElem?_take_of_lt hj] at this
          simpa using this
        | succ i =>
          simp at hx
          have := h5 i j x d hx hd
          rw [List.getElem?_drop] at this
          have e : (i + 1) * n + j = n + (i * n + j) := by rw [Nat.succ_mul]; omega
          rw [e]; exact this
    · cases h

/-- data in a fresh block as a slice -/
theorem Rep.newsl {O : Nat → Nat → Prop} {w : World} {n k T : Nat} {rows : List (List D)} {arr : Array Value} (hn : 0 < n) (hO : ∀ b o, O b o → b < w.heap.size) (hk : rows.length = k) (hrl : ∀ r ∈ rows, r.length = n)
    (hsz : arr.size = k * n) (hmax : k ≤ 140737488355328) (h : ∀ (i j : Nat) r d v, rows[i]? = some r → r[j]? = some d → arr[i * n + j]? = some v → Rep O w d v ∧ flat v = true) :
    Rep O { w with heap := w.heap.push (.cells arr T (0, 0)) } (.sl rows) (.slice (some ⟨w.heap.size, 0, none⟩) k k) := by
  subst hk
  by_cases h0 : rows = []
  · subst h0; exact .slnil _
  · have hlt : ∀ i j, i < rows.length → j < n → i * n + j < arr.size := by
      intro i j hi hj
      rw [hsz]
      calc i * n + j < i * n + n := by omega
        _ = (i + 1) * n := by rw [Nat.succ_mul]
        _ ≤ rows.length * n := Nat.mul_le_mul_right _ hi
    refine .sl rows w.heap.size 0 rows.length n (fun i j => arr.getD (i * n + j) undef) h0 (Nat.le_refl _) hmax hrl ?_ ?_ ?_
    · intro i j hi hj
      refine ⟨?_, fun hh => by have := hO _ _ hh; omega⟩
      rw [Nat.zero_add, cellv_new]
      simp [hlt i j hi hj]
    · intro i j hi hj
      have hr : rows[i].length = n := hrl _ (List.getElem_mem hi)
      exact (h i j rows[i] (rows[i])[j] _ (by simp [hi]) (by simp [hr, hj]) (by simp [hlt i j hi hj])).2
    · intro i j r d hr hd
      have hi : i < rows.length := by rcases Nat.lt_or_ge i rows.length with h | h; exact h; simp [List.getElem?_eq_none h] at hr
      have hj : j < n := by
        rw [← hrl r (List.mem_of_getElem? hr)]; rcases Nat.lt_or_ge j r.length with h | h; exact h; simp [List.getElem?_eq_none h] at hd
      have := (h i j r d (arr.getD (i * n + j) undef) hr hd (by simp [hlt i j hi hj])).1
      exact this.mono fun b o v h1 h2 => ⟨(ExtW.alloc w _).cell h1, h2⟩

theorem op_buildSlice {T e n len : Nat} {parts : List (Nat × Operand)} {z : D} {ms : List (Nat × M)} {cs : List M} {rows : List (List D)} [ht : TySlice X.P T e] [hs : TySz X.P e n] [hz : TyZ X.P e z]
    (hn : Nat.blt 0 n = true) (hzl : (dcells z).length = n) (hle : Nat.ble (len * n) 16777216 = true) (he : evParts st parts = some ms)
    (hf : fillM (fun i => some (i * n, n)) (zlist n len (dcells z)) ms = some cs) (hch : chunk n len cs = some rows) :
    OpT X ⟨dst, .buildSlice T len parts.toArray, ty, pos, af, g⟩ st (eqp (.m (.d (.sl rows))) st) := by
  refine OpT.grow fun a σ lam hi => ?_
  have hn' := blt_lt hn
  have hle' := Nat.le_of_ble_eq_true hle
  obtain ⟨h1, h2⟩ := hi.evParts he
  obtain ⟨v, hz1, hz2⟩ := (tyZero_of hz.zero).run
  have hvc : RMc σ ((dcells z).map .d) v.cells := (RM.d (dOfVal_rep hz2) : RM σ (.d z) v).cells rfl
  have hvs : v.cells.size = n := by rw [hvc.1]; simpa using hzl
  have hc : RMc σ (zlist n len (dcells z)) ((Array.range (len * n)).map fun i => v.cells[i % v.cells.size]!) := by
    refine ⟨by simp [zlist], fun i m u hm hu => ?_⟩
    have hi' : i < len * n := by
      rcases Nat.lt_or_ge i (len * n) with h | h
      · exact h
      · rw [Array.getElem?_eq_none (by simpa using h)] at hu; cases hu
    have hmod : i % n < n := Nat.mod_lt _ hn'
    have hmd : i % n < (dcells z).length := by omega
    simp [zlist, hi', hzl] at hm
    simp [hi', hvs] at hu
    have hlt : i % n < v.cells.size := by omega
    subst hm; subst hu
    refine hvc.2 (i % n) _ _ ?_ ?_
    · simp [List.getElem?_eq_getElem hmd]
    · simp [hlt]
  obtain ⟨arr', h3, h4⟩ := fill_run hc h1 h2 hf
  have hlen : cs.length = len * n := by
    have hfl : ∀ {ps : List (Nat × M)} {a b : List M}, fillM (fun i => some (i * n, n)) a ps = some b → b.length = a.length := by
      intro ps
      induction ps with
      | nil => intro a b h; simp [fillM] at h; subst h; rfl
      | cons p ps ih =>
        intro a b h
        obtain ⟨i, m⟩ := p
        unfold fillM at h
        simp only at h
        cases hb : (Nat.beq (cellsOf m).length n && m.okc) with
        | false => simp [hb] at h
        | true =>
          simp only [hb, cond_true] at h
          split at h
          · rename_i a1 hw
            rw [ih h]
            unfold writeAt at hw
            cases hb2 : Nat.ble (i * n + (cellsOf m).length) a.length with
            | false => simp [hb2] at hw
            | true =>
              simp only [hb2, cond_true, Option.some.injEq] at hw
              subst hw
              have := Nat.le_of_ble_eq_true hb2
              simp; omega
          · cases h
    rw [hfl hf]; simp [zlist]
  obtain ⟨h5, h6, h7⟩ := chunk_spec hch hlen
  have hasz : arr'.size = len * n := by rw [h4.1, hlen]
  refine ⟨.slice (some ⟨σ.w.heap.size, 0, none⟩) len len, { σ.w with heap := σ.w.heap.push (.cells arr' e (0, 0)) }, ?_, ExtW.alloc _ _, .m (.d (Rep.newsl hn' hi.hinv.oold h5 h6 hasz (by have := Nat.le_mul_of_pos_right len hn'; omega) ?_))⟩
  · have : (Array.map (fun x : Nat × Operand => match x with | (i, x) => (i, a.eval x)) parts.toArray).toList = parts.map fun p => (p.1, a.eval p.2) := by simp
    have h24 : ¬ (len * n > 2 ^ 24) := by omega
    by_cases hln : len * n = 0
    · have hle0 : len = 0 := by
        rcases Nat.mul_eq_zero.1 hln with h | h
        · exact h
        · omega
      subst hle0
      have harr : ((Array.range (0 * n)).map fun i => v.cells[i % v.cells.size]!) = #[] := by simp
      rw [harr] at h3
      simp only [execOp, Instr.buildSlice, Sem.run_bind, underlying, program, Sem.run, ht.u, Sem.run_pure, Result.andThen_ok, size_run hs.size, Sem.run_ite, hln, if_true, this]
      have e0 : Array.range 0 = (#[] : Array Nat) := by decide
      simp only [e0, Array.map_empty]
      rw [h3]
      simp [newRow, newObj, Sem.run]
    · simp only [execOp, Instr.buildSlice, Sem.run_bind, underlying, program, Sem.run, ht.u, Sem.run_pure, Result.andThen_ok, size_run hs.size, Sem.run_ite, h24, if_false, hln, hz1, this]
      rw [h3]
      simp [newRow, newObj, Sem.run]
  · intro i j r d u hr hd hu
    have := h4.2 _ _ u (h7 i j r d hr hd) hu
    refine ⟨?_, this.2⟩
    cases this.1 with
    | d h => exact h

end ops
end Go.Mt

set_option linter.unusedVariables false
namespace Go.Mt

/-- list functions that reckon their results out -/
def wr : List M → Nat → List M → Option (List M)
  | cs, 0, [] => some cs
  | _ :: cs, 0, n :: new => match wr cs 0 new with
    | some r => some (n :: r)
    | none => none
  | c :: cs, off + 1, new => match wr cs off new with
    | some r => some (c :: r)
    | none => none
  | _, _, _ => none

theorem wr_eq : ∀ {cs : List M} {off : Nat} {new cs' : List M}, wr cs off new = some cs' → writeAt cs off new = some cs'
  | cs, 0, [], cs', h => by
    simp [wr] at h; subst h
    have : Nat.ble 0 cs.length = true := Nat.ble_eq_true_of_le (Nat.zero_le _)
    simp [writeAt, this]
  | c :: cs, 0, n :: new, cs', h => by
    simp only [wr] at h
    cases hr : wr cs 0 new with
    | none => simp [hr] at h
    | some r =>
      simp [hr] at h; subst h
      have ih := wr_eq hr
      unfold writeAt at ih ⊢
      cases hb : Nat.ble (0 + new.length) cs.length with
      | false => rw [hb] at ih; cases ih
      | true =>
        have h1 := Nat.le_of_ble_eq_true hb
        have hb2 : Nat.ble (0 + (n :: new).length) (c :: cs).length = true := Nat.ble_eq_true_of_le (by simp; omega)
        simp only [hb, cond_true, Option.some.injEq] at ih
        simp only [hb2, cond_true, Option.some.injEq]
        simp at ih ⊢
        exact ih
  | c :: cs, off + 1, new, cs', h => by
    have h' : (match wr cs off new with | some r => some (c :: r) | none => none) = some cs' := by
      cases new <;> simpa [wr] using h
    cases hr : wr cs off new with
    | none => simp [hr] at h'
    | some r =>
      simp [hr] at h'; subst h'
      have ih := wr_eq hr
      unfold writeAt at ih ⊢
      cases hb : Nat.ble (off + new.length) cs.length with
      | false => simp [hb] at ih
      | true =>
        have h1 := Nat.le_of_ble_eq_true hb
        have hb2 : Nat.ble (off + 1 + new.length) (c :: cs).length = true := Nat.ble_eq_true_of_le (by simp; omega)
        simp only [hb, cond_true, Option.some.injEq] at ih
        simp only [hb2, cond_true, Option.some.injEq]
        have e : off + 1 + new.length = (off + new.length) + 1 := by omega
        rw [e, List.take_succ_cons, List.drop_succ_cons, List.cons_append, List.cons_append, ih]
  | [], 0, _ :: _, cs', h => by simp [wr] at h
  | [], _ + 1, new, cs', h => by cases new <;> simp [wr] at h

def sub {α : Type} : List α → Nat → Nat → Option (List α)
  | _, 0, 0 => some []
  | c :: cs, 0, n + 1 => match sub cs 0 n with
    | some r => some (c :: r)
    | none => none
  | _ :: cs, off + 1, n => sub cs off n
  | [], _, _ => none
theorem sub_eq {α : Type} : ∀ {cs : List α} {off n : Nat} {ds : List α}, sub cs off n = some ds → off + n ≤ cs.length ∧ (cs.drop off).take n = ds
  | cs, 0, 0, ds, h => by simp [sub] at h; subst h; simp
  | c :: cs, 0, n + 1, ds, h => by
    simp only [sub] at h
    cases hr : sub cs 0 n with
    | none => simp [hr] at h
    | some r =>
      simp [hr] at h; subst h
      obtain ⟨h1, h2⟩ := sub_eq hr
      refine ⟨by simp; omega, ?_⟩
      simp at h2 ⊢; exact h2
  | c :: cs, off + 1, n, ds, h => by
    have h' : sub cs off n = some ds := by cases n <;> simpa [sub] using h
    obtain ⟨h1, h2⟩ := sub_eq h'
    exact ⟨by simp; omega, by simpa using h2⟩
  | [], 0, n + 1, ds, h => by simp [sub] at h
  | [], off + 1, n, ds, h => by cases n <;> simp [sub] at h

def mapD : List D → Option (List M)
  | [] => some []
  | d :: r => match mapD r with
    | some ms => some (.d d :: ms)
    | none => none
theorem mapD_eq : ∀ {ds : List D} {ms : List M}, mapD ds = some ms → ms = ds.map .d
  | [], ms, h => by simp [mapD] at h; subst h; rfl
  | d :: r, ms, h => by
    simp only [mapD] at h
    cases hr : mapD r with
    | none => simp [hr] at h
    | some x => simp [hr] at h; subst h; simp [mapD_eq hr]
def cellsO : M → Option (List M)
  | .d (.agg ds) => mapD ds
  | .agg cs => some cs
  | .undef => none
  | .tup _ => none
  | m => some [m]
theorem cellsO_eq {m : M} {cs : List M} (h : cellsO m = some cs) : cellsOf m = cs ∧ m.okc = true := by
  unfold cellsO at h
  split at h
  · rename_i ds; rw [mapD_eq h]; exact ⟨rfl, rfl⟩
  · injection h with h; subst h; exact ⟨rfl, rfl⟩
  · cases h
  · cases h
  · rename_i h1 h2 h3 h4
    injection h with h; subst h
    cases m with
    | d x => cases x <;> first | exact ⟨rfl, rfl⟩ | exact absurd rfl (h1 _)
    | undef => exact absurd rfl h3
    | tup vs => exact absurd rfl (h4 _)
    | agg cs => exact absurd rfl (h2 _)
    | _ => exact ⟨rfl, rfl⟩

def fillO (ps : List (Nat × Nat)) (cs : List M) : List (Nat × M) → Option (List M)
  | [] => some cs
  | (i, m) :: r => match ps[i]?, cellsO m with
    | some (off, size), some new => bif Nat.beq new.length size then (match wr cs off new with
      | some cs' => fillO ps cs' r
      | none => none) else none
    | _, _ => none
theorem fillO_eq {ps : List (Nat × Nat)} : ∀ {parts : List (Nat × M)} {cs cs' : List M}, fillO ps cs parts = some cs' → fillM (fun i => ps[i]?) cs parts = some cs'
  | [], cs, cs', h => by simpa [fillO, fillM] using h
  | (i, m) :: r, cs, cs', h => by
    simp only [fillO] at h
    split at h
    · rename_i off size new h1 h2
      obtain ⟨h3, h4⟩ := cellsO_eq h2
      cases hb : Nat.beq new.length size with
      | false => simp [hb] at h
      | true =>
        simp only [hb, cond_true] at h
        split at h
        · rename_i cs1 hw
          simp only [fillM, h1, h3, h4, hb, Bool.and_self, cond_true, wr_eq hw]
          exact fillO_eq h
        · cases h
    · cases h

/-- the elements of a slice literal, all of them, in order -/
def rowsO : Nat → List (Nat × M) → Option (List (List D))
  | _, [] => some []
  | k, (i, .d d) :: r => bif Nat.beq i k then (match rowsO (k + 1) r with
    | some rs => some (dcells d :: rs)
    | none => none) else none
  | _, _ => none

def evPartsO (sl : List (Nat × V)) : List (Nat × Operand) → Option (List (Nat × M))
  | [] => some []
  | (i, x) :: r => match evs sl x, evPartsO sl r with
    | some (.m m), some ms => some ((i, m) :: ms)
    | _, _ => none
theorem evPartsO_eq {sl : List (Nat × V)} {bx : List (Nat × List M)} {H : Hp} : ∀ {ps : List (Nat × Operand)}, evParts ⟨sl, bx, H⟩ ps = evPartsO sl ps
  | [] => rfl
  | (i, x) :: r => by simp only [evParts, evPartsO, evPartsO_eq (ps := r)]; rfl

theorem rows_fill {n : Nat} (hn : 0 < n) : ∀ {ms : List (Nat × M)} {k : Nat} {rows : List (List D)} {pre suf : List M}, rowsO k ms = some rows → (∀ r ∈ rows, r.length = n) → pre.length = k * n → suf.length = ms.length * n →
    fillM (fun i => some (i * n, n)) (pre ++ suf) ms = some (pre ++ (rows.map fun r => r.map M.d).flatten) ∧ rows.length = ms.length
  | [], k, rows, pre, suf, h, _, _, hs => by
    simp [rowsO] at h; subst h
    simp at hs; subst hs
    simp [fillM]
  | (i, m) :: r, k, rows, pre, suf, h, hl, hp, hs => by
    cases m with
    | d d =>
      simp only [rowsO] at h
      cases hb : Nat.beq i k with
      | false => simp [hb] at h
      | true =>
        have := Nat.eq_of_beq_eq_true hb
        subst this
        simp only [hb, cond_true] at h
        split at h
        · rename_i rs hr
          injection h with h; subst h
          have hdl : (dcells d).length = n := hl _ (by simp)
          have hsl : n ≤ suf.length := by rw [hs]; simp [Nat.succ_mul]
          have hcl : (cellsOf (.d d)).length = n := by simp [cellsOf, hdl]
          have hw : writeAt (pre ++ suf) (i * n) (cellsOf (.d d)) = some ((pre ++ cellsOf (.d d)) ++ suf.drop n) := by
            unfold writeAt
            have hble : Nat.ble (i * n + (cellsOf (.d d)).length) (pre ++ suf).length = true := Nat.ble_eq_true_of_le (by simp [hcl]; omega)
            rw [hble]
            have e1 : List.take (i * n) (pre ++ suf) = pre := by rw [← hp]; simp
            have e2 : List.drop (i * n + n) (pre ++ suf) = List.drop n suf := by
              rw [← hp, List.drop_append, List.drop_eq_nil_of_le (by omega)]; simp
            simp only [cond_true, hcl, e1, e2]
          obtain ⟨h1, h2⟩ := rows_fill hn (k := i + 1) (pre := pre ++ cellsOf (.d d)) (suf := suf.drop n) hr (fun r hr => hl r (by simp [hr])) (by simp [hp, hcl, Nat.succ_mul]) (by simp [hs, Nat.succ_mul])
          refine ⟨?_, by simp [h2]⟩
          unfold fillM
          have hbe : Nat.beq (cellsOf (.d d)).length n = true := by rw [hcl]; exact Nat.beq_refl n
          simp only [hbe, M.okc, Bool.and_self, cond_true, hw]
          rw [h1]
          simp [cellsOf]
        · cases h
    | _ => simp [rowsO] at h

theorem chunk_flat {n : Nat} : ∀ {rows : List (List D)}, (∀ r ∈ rows, r.length = n) → chunk n rows.length (rows.map fun r => r.map M.d).flatten = some rows
  | [], _ => rfl
  | r :: rs, h => by
    have hr : r.length = n := h r (by simp)
    have had : ∀ l : List D, allD (l.map .d) = some l := by
      intro l; induction l with
      | nil => rfl
      | cons x l ih => simp [allD, ih]
    have ih := chunk_flat (n := n) (rows := rs) (fun r hr => h r (by simp [hr]))
    show chunk n (rs.length + 1) ((r.map M.d) ++ (rs.map fun r => r.map M.d).flatten) = _
    unfold chunk
    have e1 : ((r.map M.d) ++ (rs.map fun r => r.map M.d).flatten).take n = r.map M.d := by
      rw [List.take_append_of_le_length (by simp [hr])]; rw [List.take_of_length_le (by simp [hr])]
    have e2 : ((r.map M.d) ++ (rs.map fun r => r.map M.d).flatten).drop n = (rs.map fun r => r.map M.d).flatten := by
      rw [List.drop_append_of_le_length (by simp [hr])]; rw [List.drop_of_length_le (by simp [hr])]; rfl
    rw [e1, e2, had, ih]

def lenAll (n : Nat) : List (List D) → Bool
  | [] => true
  | r :: rs => Nat.beq r.length n && lenAll n rs
theorem lenAll_eq {n : Nat} : ∀ {rows : List (List D)}, lenAll n rows = true → ∀ r ∈ rows, r.length = n
  | [], _, r, hr => by cases hr
  | x :: rs, h, r, hr => by
    simp only [lenAll, Bool.and_eq_true] at h
    cases hr with
    | head => exact Nat.eq_of_beq_eq_true h.1
    | tail _ hr => exact lenAll_eq h.2 r hr

def evDs (sl : List (Nat × V)) : List Operand → Option (List D)
  | [] => some []
  | x :: r => match evs sl x, evDs sl r with
    | some (.m (.d d)), some ds => some (d :: ds)
    | _, _ => none
def evMs (sl : List (Nat × V)) : List Operand → Option (List M)
  | [] => some []
  | x :: r => match evs sl x, evMs sl r with
    | some (.m m), some ds => some (m :: ds)
    | _, _ => none
theorem evDs_eq {sl : List (Nat × V)} {bx : List (Nat × List M)} {H : Hp} : ∀ {ps : List Operand}, (⟨sl, bx, H⟩ : St).evDs ps = evDs sl ps
  | [] => rfl
  | x :: r => by simp only [St.evDs, evDs, evDs_eq (ps := r)]; rfl
theorem evMs_eq {sl : List (Nat × V)} {bx : List (Nat × List M)} {H : Hp} : ∀ {ps : List Operand}, (⟨sl, bx, H⟩ : St).evMs ps = evMs sl ps
  | [] => rfl
  | x :: r => by simp only [St.evMs, evMs, evMs_eq (ps := r)]; rfl

section rules
variable {X : Ctx} {ops : Array Oper} {rest : List Oper} {post : St → Prop} {sl : List (Nat × V)} {bx : List (Nat × List M)} {H : Hp} {d ty : Nat} {pos : String} {af : Array Edge}

theorem TL.o1 {o : Oper} {v : V} {sl' : List (Nat × V)} {bx' : List (Nat × List M)} {H' : Hp} (hg : o.guard = none) (hd : o.dst = some d) (hn : Nat.blt d X.n = true) (h : OpT X o ⟨sl, bx, H⟩ (eqp v ⟨sl', bx', H'⟩))
    (k : TL X ops rest ⟨(d, v) :: sl', bx', H'⟩ post) : TL X ops (o :: rest) ⟨sl, bx, H⟩ post :=
  TL.op1 (by simp [wants, hg]) hd hn h k

theorem t_guard_yes {dst : Option Nat} {op : Op} {j : Nat} {w : Bool} (hw : wants ops ⟨dst, op, ty, pos, af, some (j, w)⟩ ⟨sl, bx, H⟩ = some true)
    (k : TL X ops (⟨dst, op, ty, pos, af, none⟩ :: rest) ⟨sl, bx, H⟩ post) : TL X ops (⟨dst, op, ty, pos, af, some (j, w)⟩ :: rest) ⟨sl, bx, H⟩ post := by
  rintro a w' ⟨σ, lam, hσ, hi⟩
  have := k a w' ⟨σ, lam, hσ, hi⟩
  unfold wpList at this ⊢
  rw [if_pos (hi.wanted hw)]
  rw [if_pos (by simp [Region.wanted])] at this
  have e : ∀ g : Option (Nat × Bool), execOp a.eval ⟨dst, op, ty, pos, af, g⟩ = execOp a.eval ⟨dst, op, ty, pos, af, none⟩ := by
    intro g; cases op <;> rfl
  rcases this with this | ⟨h1, h2⟩
  · left
    unfold Oper.wp at this ⊢
    rw [e]; exact this
  · right
    refine ⟨?_, h2⟩
    unfold Oper.asks at h1 ⊢
    rw [e]; exact h1
theorem t_guard_no {op : Op} {j : Nat} {w : Bool} (hw : wants ops ⟨some d, op, ty, pos, af, some (j, w)⟩ ⟨sl, bx, H⟩ = some false) (hn : Nat.blt d X.n = true)
    (k : TL X ops rest ⟨(d, .m (.tup [])) :: sl, bx, H⟩ post) : TL X ops (⟨some d, op, ty, pos, af, some (j, w)⟩ :: rest) ⟨sl, bx, H⟩ post :=
  TL.skip hw rfl hn k

theorem t_move {x : Operand} {v : V} (hn : Nat.blt d X.n = true) (hx : evs sl x = some v) (k : TL X ops rest ⟨(d, v) :: sl, bx, H⟩ post) : TL X ops (⟨some d, .move x, ty, pos, af, none⟩ :: rest) ⟨sl, bx, H⟩ post :=
  TL.o1 rfl rfl hn (op_move hx) k
theorem t_assign {x : Operand} {v : V} (hn : Nat.blt d X.n = true) (hx : evs sl x = some v) (k : TL X ops rest ⟨(d, v) :: sl, bx, H⟩ post) : TL X ops (⟨some d, .assign x, ty, pos, af, none⟩ :: rest) ⟨sl, bx, H⟩ post :=
  TL.o1 rfl rfl hn (op_assign hx) k
theorem t_pick {c x y : Operand} {b : Bool} {v : V} (hn : Nat.blt d X.n = true) (hc : evs sl c = some (.m (.d (.bool b)))) (hx : evs sl (bif b then x else y) = some v) (k : TL X ops rest ⟨(d, v) :: sl, bx, H⟩ post) :
    TL X ops (⟨some d, .pick c x y, ty, pos, af, none⟩ :: rest) ⟨sl, bx, H⟩ post := by
  cases b
  · exact TL.o1 rfl rfl hn (op_pick_f hc hx) k
  · exact TL.o1 rfl rfl hn (op_pick_t hc hx) k
theorem t_int {op : BinOp} {xt yt : Nat} {x y : Operand} {kk : IntKind} {m n : Int} {r : D} (hn : Nat.blt d X.n = true) (hx : evs sl x = some (.m (.d (.int kk m)))) (hy : evs sl y = some (.m (.d (.int kk n))))
    (hr : intBin op kk m n = some r) (k : TL X ops rest ⟨(d, .m (.d r)) :: sl, bx, H⟩ post) : TL X ops (⟨some d, .binOp op xt x y yt, ty, pos, af, none⟩ :: rest) ⟨sl, bx, H⟩ post :=
  TL.o1 rfl rfl hn (op_int hx hy hr) k
theorem t_add64 {xt yt : Nat} {x y : Operand} {m n : Int} (hn : Nat.blt d X.n = true) (hx : evs sl x = some (.m (.d (.int .i64 m)))) (hy : evs sl y = some (.m (.d (.int .i64 n))))
    (hr : -9223372036854775808 ≤ m + n ∧ m + n ≤ 9223372036854775807) (k : TL X ops rest ⟨(d, .m (.d (.int .i64 (m + n)))) :: sl, bx, H⟩ post) : TL X ops (⟨some d, .binOp .add xt x y yt, ty, pos, af, none⟩ :: rest) ⟨sl, bx, H⟩ post := by
  refine t_int hn hx hy (r := .int .i64 (m + n)) ?_ k
  have : IntKind.i64.wrap (m + n) = m + n := IntWalk.i64_in _ hr
  simp [intBin, this]
theorem t_sub64 {xt yt : Nat} {x y : Operand} {m n : Int} (hn : Nat.blt d X.n = true) (hx : evs sl x = some (.m (.d (.int .i64 m)))) (hy : evs sl y = some (.m (.d (.int .i64 n))))
    (hr : -9223372036854775808 ≤ m - n ∧ m - n ≤ 9223372036854775807) (k : TL X ops rest ⟨(d, .m (.d (.int .i64 (m - n)))) :: sl, bx, H⟩ post) : TL X ops (⟨some d, .binOp .sub xt x y yt, ty, pos, af, none⟩ :: rest) ⟨sl, bx, H⟩ post := by
  refine t_int hn hx hy (r := .int .i64 (m - n)) ?_ k
  have : IntKind.i64.wrap (m - n) = m - n := IntWalk.i64_in _ hr
  simp [intBin, this]
theorem t_quo {xt yt : Nat} {x y : Operand} {kk : IntKind} {m n : Int} (hn : Nat.blt d X.n = true) (hx : evs sl x = some (.m (.d (.int kk m)))) (hy : evs sl y = some (.m (.d (.int kk n))))
    (hr : (n == 0) = false) (k : TL X ops rest ⟨(d, .m (.d (.int kk (kk.wrap (m.tdiv n))))) :: sl, bx, H⟩ post) : TL X ops (⟨some d, .binOp .quo xt x y yt, ty, pos, af, none⟩ :: rest) ⟨sl, bx, H⟩ post :=
  TL.o1 rfl rfl hn (op_quo hx hy hr) k
theorem t_rem {xt yt : Nat} {x y : Operand} {kk : IntKind} {m n : Int} (hn : Nat.blt d X.n = true) (hx : evs sl x = some (.m (.d (.int kk m)))) (hy : evs sl y = some (.m (.d (.int kk n))))
    (hr : (n == 0) = false) (k : TL X ops rest ⟨(d, .m (.d (.int kk (m.tmod n)))) :: sl, bx, H⟩ post) : TL X ops (⟨some d, .binOp .rem xt x y yt, ty, pos, af, none⟩ :: rest) ⟨sl, bx, H⟩ post :=
  TL.o1 rfl rfl hn (op_rem hx hy hr) k
theorem t_not {x : Operand} {xt : Nat} {b : Bool} (hn : Nat.blt d X.n = true) (hx : evs sl x = some (.m (.d (.bool b)))) (k : TL X ops rest ⟨(d, .m (.d (.bool (!b)))) :: sl, bx, H⟩ post) :
    TL X ops (⟨some d, .unOp .not xt x, ty, pos, af, none⟩ :: rest) ⟨sl, bx, H⟩ post :=
  TL.o1 rfl rfl hn (op_not hx) k
theorem t_streq {x y : Operand} {xt yt : Nat} {s u : ByteArray} (hn : Nat.blt d X.n = true) (hx : evs sl x = some (.m (.d (.str s)))) (hy : evs sl y = some (.m (.d (.str u)))) (k : TL X ops rest ⟨(d, .m (.d (.bool (decide (s = u))))) :: sl, bx, H⟩ post) :
    TL X ops (⟨some d, .binOp .eql xt x y yt, ty, pos, af, none⟩ :: rest) ⟨sl, bx, H⟩ post :=
  TL.o1 rfl rfl hn (op_streq hx hy) k
theorem t_strne {x y : Operand} {xt yt : Nat} {s u : ByteArray} (hn : Nat.blt d X.n = true) (hx : evs sl x = some (.m (.d (.str s)))) (hy : evs sl y = some (.m (.d (.str u)))) (k : TL X ops rest ⟨(d, .m (.d (.bool (!decide (s = u))))) :: sl, bx, H⟩ post) :
    TL X ops (⟨some d, .binOp .neq xt x y yt, ty, pos, af, none⟩ :: rest) ⟨sl, bx, H⟩ post :=
  TL.o1 rfl rfl hn (op_strne hx hy) k
theorem t_stradd {x y : Operand} {xt yt : Nat} {s u : ByteArray} (hn : Nat.blt d X.n = true) (hx : evs sl x = some (.m (.d (.str s)))) (hy : evs sl y = some (.m (.d (.str u)))) (hs : s.size + u.size ≤ 9223372036854775807) (k : TL X ops rest ⟨(d, .m (.d (.str (s ++ u)))) :: sl, bx, H⟩ post) :
    TL X ops (⟨some d, .binOp .add xt x y yt, ty, pos, af, none⟩ :: rest) ⟨sl, bx, H⟩ post :=
  TL.o1 rfl rfl hn (op_stradd hx hy hs) k
theorem t_box {t : Nat} {x : Operand} {v : D} (hn : Nat.blt d X.n = true) (hx : evs sl x = some (.m (.d v))) (k : TL X ops rest ⟨(d, .m (.d (.pim (dcells v) 0))) :: sl, bx, H⟩ post) :
    TL X ops (⟨some d, .box t x, ty, pos, af, none⟩ :: rest) ⟨sl, bx, H⟩ post :=
  TL.o1 rfl rfl hn (op_box hx) k
theorem t_fieldD {s f : Nat} {x : Operand} {cs : List D} {off o : Nat} (hn : Nat.blt d X.n = true) (hx : evs sl x = some (.m (.d (.pim cs off)))) [hf : TyField X.P s f o] (k : TL X ops rest ⟨(d, .m (.d (.pim cs (off + o)))) :: sl, bx, H⟩ post) :
    TL X ops (⟨some d, .fieldAddr s x f, ty, pos, af, none⟩ :: rest) ⟨sl, bx, H⟩ post :=
  TL.o1 rfl rfl hn (op_fieldD hx) k
theorem t_fieldL {s f : Nat} {x : Operand} {t off o : Nat} (hn : Nat.blt d X.n = true) (hx : evs sl x = some (.loc t off)) [hf : TyField X.P s f o] (k : TL X ops rest ⟨(d, .loc t (off + o)) :: sl, bx, H⟩ post) :
    TL X ops (⟨some d, .fieldAddr s x f, ty, pos, af, none⟩ :: rest) ⟨sl, bx, H⟩ post :=
  TL.o1 rfl rfl hn (op_fieldL hx) k
theorem t_fieldR {s f : Nat} {x : Operand} {i off o : Nat} (hn : Nat.blt d X.n = true) (hx : evs sl x = some (.m (.ref i off))) [hf : TyField X.P s f o] (k : TL X ops rest ⟨(d, .m (.ref i (off + o))) :: sl, bx, H⟩ post) :
    TL X ops (⟨some d, .fieldAddr s x f, ty, pos, af, none⟩ :: rest) ⟨sl, bx, H⟩ post :=
  TL.o1 rfl rfl hn (op_fieldR hx) k
theorem t_fieldW {s f : Nat} {x : Operand} {i ver off o : Nat} (hn : Nat.blt d X.n = true) (hx : evs sl x = some (.m (.rref i ver off))) [hf : TyField X.P s f o] (k : TL X ops rest ⟨(d, .m (.rref i ver (off + o))) :: sl, bx, H⟩ post) :
    TL X ops (⟨some d, .fieldAddr s x f, ty, pos, af, none⟩ :: rest) ⟨sl, bx, H⟩ post :=
  TL.o1 rfl rfl hn (op_fieldW hx) k
theorem t_loadDc {t : Nat} {x : Operand} {cs : List D} {off : Nat} {v : D} [ht : TyCell X.P t] (hn : Nat.blt d X.n = true) (hx : evs sl x = some (.m (.d (.pim cs off)))) (hr : cs[off]? = some v) (k : TL X ops rest ⟨(d, .m (.d v)) :: sl, bx, H⟩ post) :
    TL X ops (⟨some d, .load t x, ty, pos, af, none⟩ :: rest) ⟨sl, bx, H⟩ post :=
  TL.o1 rfl rfl hn (op_loadDc hx hr) k
theorem t_loadDw {t n : Nat} {x : Operand} {cs : List D} [ht : TyAgg X.P t n] (hn : Nat.blt d X.n = true) (hx : evs sl x = some (.m (.d (.pim cs 0)))) (hr : cs.length = n) (k : TL X ops rest ⟨(d, .m (.d (.agg cs))) :: sl, bx, H⟩ post) :
    TL X ops (⟨some d, .load t x, ty, pos, af, none⟩ :: rest) ⟨sl, bx, H⟩ post :=
  TL.o1 rfl rfl hn (op_loadDw hx hr) k
theorem t_loadDa {t n : Nat} {x : Operand} {cs ds : List D} {off : Nat} [ht : TyAgg X.P t n] (hn : Nat.blt d X.n = true) (hx : evs sl x = some (.m (.d (.pim cs off)))) (hr : sub cs off n = some ds) (k : TL X ops rest ⟨(d, .m (.d (.agg ds))) :: sl, bx, H⟩ post) :
    TL X ops (⟨some d, .load t x, ty, pos, af, none⟩ :: rest) ⟨sl, bx, H⟩ post :=
  TL.o1 rfl rfl hn (op_loadDa hx (Nat.ble_eq_true_of_le (sub_eq hr).1) (sub_eq hr).2) k
theorem t_loadLc {T : Nat} {x : Operand} {t off : Nat} {cs : List M} {m : M} [ht : TyCell X.P T] (hn : Nat.blt d X.n = true) (hx : evs sl x = some (.loc t off)) (hb : get bx t = some cs) (hr : cs[off]? = some m) (k : TL X ops rest ⟨(d, .m m) :: sl, bx, H⟩ post) :
    TL X ops (⟨some d, .load T x, ty, pos, af, none⟩ :: rest) ⟨sl, bx, H⟩ post :=
  TL.o1 rfl rfl hn (op_loadLc hx hb hr) k
theorem t_loadLa {T n : Nat} {x : Operand} {t off : Nat} {cs cs' : List M} {ds : List D} [ht : TyAgg X.P T n] (hn : Nat.blt d X.n = true) (hx : evs sl x = some (.loc t off)) (hb : get bx t = some cs) (hs : sub cs off n = some cs')
    (hr : allD cs' = some ds) (k : TL X ops rest ⟨(d, .m (.d (.agg ds))) :: sl, bx, H⟩ post) : TL X ops (⟨some d, .load T x, ty, pos, af, none⟩ :: rest) ⟨sl, bx, H⟩ post :=
  TL.o1 rfl rfl hn (op_loadLa hx hb (Nat.ble_eq_true_of_le (sub_eq hs).1) (by rw [(sub_eq hs).2]; exact hr)) k
theorem t_nilCheck {x : Operand} {v : V} (hn : Nat.blt d X.n = true) (hx : evs sl x = some v) (hv : ptrOk v = true)
    (k : TL X ops rest ⟨(d, v) :: sl, bx, H⟩ post) : TL X ops (⟨some d, .nilCheck x, ty, pos, af, none⟩ :: rest) ⟨sl, bx, H⟩ post :=
  TL.o1 rfl rfl hn (op_nilCheck hx hv) k
theorem t_lenS {t e : Nat} {x : Operand} {v : D} {n : Nat} [ht : TySlice X.P t e] (hn : Nat.blt d X.n = true) (hx : evs sl x = some (.m (.d v))) (hl : slLen v = some n)
    (k : TL X ops rest ⟨(d, .m (.d (.int .i64 n))) :: sl, bx, H⟩ post) : TL X ops (⟨some d, .call ⟨.builtin .len, #[x], #[t]⟩, ty, pos, af, none⟩ :: rest) ⟨sl, bx, H⟩ post :=
  TL.o1 rfl rfl hn (op_lenS hx hl) k
theorem t_lenT {t : Nat} {x : Operand} {s : ByteArray} [ht : TyStr X.P t] (hn : Nat.blt d X.n = true) (hx : evs sl x = some (.m (.d (.str s)))) (k : TL X ops rest ⟨(d, .m (.d (.int .i64 s.size))) :: sl, bx, H⟩ post) :
    TL X ops (⟨some d, .call ⟨.builtin .len, #[x], #[t]⟩, ty, pos, af, none⟩ :: rest) ⟨sl, bx, H⟩ post :=
  TL.o1 rfl rfl hn (op_lenT hx) k
theorem t_indexD {t e n : Nat} {x y : Operand} {rows : List (List D)} {r : List D} {kk : IntKind} {i : Int} [ht : TySlice X.P t e] [hs : TySz X.P e n] (hn : Nat.blt d X.n = true) (hx : evs sl x = some (.m (.d (.sl rows)))) (hy : evs sl y = some (.m (.d (.int kk i))))
    (h0 : 0 ≤ i) (hr : rows[i.toNat]? = some r) (hl : r.length = n) (k : TL X ops rest ⟨(d, .m (.d (.pim r 0))) :: sl, bx, H⟩ post) : TL X ops (⟨some d, .indexAddr t x y, ty, pos, af, none⟩ :: rest) ⟨sl, bx, H⟩ post :=
  TL.o1 rfl rfl hn (op_indexD hx hy h0 hr hl) k
theorem t_extract {x : Operand} {i : Nat} {vs : List M} {m : M} (hn : Nat.blt d X.n = true) (hx : evs sl x = some (.m (.tup vs))) (hm : vs[i]? = some m) (k : TL X ops rest ⟨(d, .m m) :: sl, bx, H⟩ post) :
    TL X ops (⟨some d, .extract x i, ty, pos, af, none⟩ :: rest) ⟨sl, bx, H⟩ post :=
  TL.o1 rfl rfl hn (op_extract hx hm) k
theorem t_call1 {f : Nat} {args : List Operand} {tys : Array Nat} {ds : List D} {r : D} [hf : IsFn X.P f] (h : PT X.P f ds (· = [r])) (hn : Nat.blt d X.n = true) (ha : evDs sl args = some ds) (k : TL X ops rest ⟨(d, .m (.d r)) :: sl, bx, H⟩ post) :
    TL X ops (⟨some d, .call ⟨.value (.func f), args.toArray, tys⟩, ty, pos, af, none⟩ :: rest) ⟨sl, bx, H⟩ post :=
  TL.o1 rfl rfl hn (op_call1 (by rw [evDs_eq]; exact ha) h) k
theorem t_call {f : Nat} {args : List Operand} {tys : Array Nat} {ds : List D} {q : List D → Prop} [hf : IsFn X.P f] (h : PT X.P f ds q) (hn : Nat.blt d X.n = true) (ha : evDs sl args = some ds)
    (k : ∀ r, q r → TL X ops rest ⟨(d, .m (tupM (r.map .d))) :: sl, bx, H⟩ post) :
    TL X ops (⟨some d, .call ⟨.value (.func f), args.toArray, tys⟩, ty, pos, af, none⟩ :: rest) ⟨sl, bx, H⟩ post :=
  TL.op rfl rfl hn (op_call (by rw [evDs_eq]; exact ha) h) (by rintro v s ⟨r, rfl, hq, rfl⟩; exact k r hq)
theorem t_callv {x : Operand} {f : Nat} {caps : List D} {args : List Operand} {tys : Array Nat} {ds : List D} {r : D} [hf : IsFn X.P f] (h : PT X.P f (ds ++ caps) (· = [r])) (hn : Nat.blt d X.n = true) (hx : evs sl x = some (.m (.d (.fn f caps)))) (ha : evDs sl args = some ds)
    (k : TL X ops rest ⟨(d, .m (.d r)) :: sl, bx, H⟩ post) : TL X ops (⟨some d, .call ⟨.value x, args.toArray, tys⟩, ty, pos, af, none⟩ :: rest) ⟨sl, bx, H⟩ post :=
  TL.op rfl rfl hn (op_callv hx (by rw [evDs_eq]; exact ha) h) (by rintro v s ⟨r', rfl, rfl, rfl⟩; exact k)
theorem t_callR {f : Nat} {args : List Operand} {tys : Array Nat} {ms : List M} {q : M → Hp → Prop} [hf : IsFn X.P f] (h : CT X.P f ms H q) (hn : Nat.blt d X.n = true) (ha : evMs sl args = some ms)
    (k : ∀ r H', q r H' → TL X ops rest ⟨(d, .m r) :: sl, bx, H'⟩ post) :
    TL X ops (⟨some d, .call ⟨.value (.func f), args.toArray, tys⟩, ty, pos, af, none⟩ :: rest) ⟨sl, bx, H⟩ post :=
  TL.op rfl rfl hn (op_callR (by rw [evMs_eq]; exact ha) h) (by rintro v s ⟨r, H', rfl, hq, rfl⟩; exact k r H' hq)
theorem t_makeFunc {f : Nat} {caps : List Operand} {ds : List D} (hn : Nat.blt d X.n = true) (ha : evDs sl caps = some ds) (k : TL X ops rest ⟨(d, .m (.d (.fn f ds))) :: sl, bx, H⟩ post) :
    TL X ops (⟨some d, .makeFunc (.func f) #[] caps.toArray, ty, pos, af, none⟩ :: rest) ⟨sl, bx, H⟩ post :=
  TL.o1 rfl rfl hn (op_makeFunc (by rw [evDs_eq]; exact ha)) k
theorem t_build {T : Nat} {parts : List (Nat × Operand)} {ps : List (Nat × Nat)} {z : List D} {zs : List M} {ms : List (Nat × M)} {cs : List M} {ds : List D} [ht : TyStruct X.P T ps z] (hn : Nat.blt d X.n = true) (he : evPartsO sl parts = some ms) (hz : mapD z = some zs)
    (hf : fillO ps zs ms = some cs) (hd : allD cs = some ds) (k : TL X ops rest ⟨(d, .m (.d (.agg ds))) :: sl, bx, H⟩ post) : TL X ops (⟨some d, .build T parts.toArray, ty, pos, af, none⟩ :: rest) ⟨sl, bx, H⟩ post := by
  have h1 := op_build (X := X) (dst := some d) (ty := ty) (pos := pos) (af := af) (g := none) (st := ⟨sl, bx, H⟩) (T := T) (by rw [evPartsO_eq]; exact he) (by rw [← mapD_eq hz]; exact fillO_eq hf)
  have : pack cs = .d (.agg ds) := by simp [pack, hd]
  rw [this] at h1
  exact TL.o1 rfl rfl hn h1 k
theorem t_buildM {T : Nat} {parts : List (Nat × Operand)} {ps : List (Nat × Nat)} {z : List D} {zs : List M} {ms : List (Nat × M)} {cs : List M} [ht : TyStruct X.P T ps z] (hn : Nat.blt d X.n = true) (he : evPartsO sl parts = some ms) (hz : mapD z = some zs)
    (hf : fillO ps zs ms = some cs) (hd : allD cs = none) (k : TL X ops rest ⟨(d, .m (.agg cs)) :: sl, bx, H⟩ post) : TL X ops (⟨some d, .build T parts.toArray, ty, pos, af, none⟩ :: rest) ⟨sl, bx, H⟩ post := by
  have h1 := op_build (X := X) (dst := some d) (ty := ty) (pos := pos) (af := af) (g := none) (st := ⟨sl, bx, H⟩) (T := T) (by rw [evPartsO_eq]; exact he) (by rw [← mapD_eq hz]; exact fillO_eq hf)
  have : pack cs = .agg cs := by simp [pack, hd]
  rw [this] at h1
  exact TL.o1 rfl rfl hn h1 k
theorem op_buildSliceAll {st : St} {dst : Option Nat} {g : Option (Nat × Bool)} {T e n len : Nat} {parts : List (Nat × Operand)} {z : D} {ms : List (Nat × M)} {rows : List (List D)} [ht : TySlice X.P T e] [hs : TySz X.P e n] [hz : TyZ X.P e z] (h0 : Nat.blt 0 n = true) (hzl : Nat.beq (dcells z).length n = true)
    (hle : Nat.ble (len * n) 16777216 = true) (he : evParts st parts = some ms) (hr : rowsO 0 ms = some rows) (hlen : Nat.beq rows.length len = true) (hl : lenAll n rows = true) :
    OpT X ⟨dst, .buildSlice T len parts.toArray, ty, pos, af, g⟩ st (eqp (.m (.d (.sl rows))) st) := by
  have hlen' := Nat.eq_of_beq_eq_true hlen
  have hl' := lenAll_eq hl
  have hzl' := Nat.eq_of_beq_eq_true hzl
  have hrm : rows.length = ms.length := by
    have : ∀ {ms : List (Nat × M)} {k : Nat} {rows : List (List D)}, rowsO k ms = some rows → rows.length = ms.length := by
      intro ms
      induction ms with
      | nil => intro k rows h; simp [rowsO] at h; subst h; rfl
      | cons p r ih =>
        intro k rows h
        obtain ⟨i, m⟩ := p
        cases m with
        | d d =>
          simp only [rowsO] at h
          cases hb : Nat.beq i k with
          | false => simp [hb] at h
          | true =>
            simp only [hb, cond_true] at h
            split at h
            · rename_i rs hr; injection h with h; subst h; simp [ih hr]
            · cases h
        | _ => simp [rowsO] at h
    exact this hr
  obtain ⟨h1, h2⟩ := rows_fill (blt_lt h0) (k := 0) (pre := []) (suf := zlist n len (dcells z)) hr hl' (by simp) (by simp [zlist]; rw [← hlen', hrm])
  simp only [List.nil_append] at h1
  have hch : chunk n len (rows.map fun r => r.map M.d).flatten = some rows := by rw [← hlen']; exact chunk_flat hl'
  exact op_buildSlice h0 hzl' hle he h1 hch
theorem t_buildSlice {T e n len : Nat} {parts : List (Nat × Operand)} {z : D} {ms : List (Nat × M)} {rows : List (List D)} [ht : TySlice X.P T e] [hs : TySz X.P e n] [hz : TyZ X.P e z] (hn : Nat.blt d X.n = true) (h0 : Nat.blt 0 n = true) (hzl : Nat.beq (dcells z).length n = true)
    (hle : Nat.ble (len * n) 16777216 = true) (he : evPartsO sl parts = some ms) (hr : rowsO 0 ms = some rows) (hlen : Nat.beq rows.length len = true) (hl : lenAll n rows = true)
    (k : TL X ops rest ⟨(d, .m (.d (.sl rows))) :: sl, bx, H⟩ post) : TL X ops (⟨some d, .buildSlice T len parts.toArray, ty, pos, af, none⟩ :: rest) ⟨sl, bx, H⟩ post :=
  TL.o1 rfl rfl hn (op_buildSliceAll h0 hzl hle (by rw [evPartsO_eq]; exact he) hr hlen hl) k

class TyZc (P : Program) (t : Nat) (cs : outParam (List M)) : Prop where
  h : ∃ z, TyZero P t z ∧ (dcells z).map .d = cs
theorem t_alloc {T : Nat} {cs : List M} [hz : TyZc X.P T cs] (hn : Nat.blt d X.n = true) (hl : noLoc d sl = true) (k : TL X ops rest ⟨(d, .loc d 0) :: sl, (d, cs) :: bx, H⟩ post) :
    TL X ops (⟨some d, .alloc T, ty, pos, af, none⟩ :: rest) ⟨sl, bx, H⟩ post := by
  obtain ⟨z, h1, h2⟩ := hz.h
  subst h2
  have h3 := op_alloc (X := X) (st := ⟨sl, bx, H⟩) (d := d) (T := T) (ty := ty) (pos := pos) (af := af) (g := none)
  have e : clearLoc d sl = sl := by
    have : ∀ l : List (Nat × V), noLoc d l = true → clearLoc d l = l := by
      intro l
      induction l with
      | nil => intro _; rfl
      | cons x l ih =>
        obtain ⟨k, v⟩ := x
        cases v with
        | m m => intro h; simp only [noLoc] at h; simp [clearLoc, ih h]
        | tl e1 e2 e3 e4 => intro h; simp only [noLoc] at h; simp [clearLoc, ih h]
        | loc u o => intro h; simp only [noLoc, Bool.and_eq_true, Bool.not_eq_true'] at h; simp [clearLoc, h.1, ih h.2]
    exact this sl hl
  simp only [e] at h3
  exact TL.o1 rfl rfl hn h3 k
theorem t_boxL {T : Nat} {x : Operand} {m : M} {cs : List M} (hn : Nat.blt d X.n = true) (hl : noLoc d sl = true) (hx : evs sl x = some (.m m)) (hc : cellsO m = some cs) (k : TL X ops rest ⟨(d, .loc d 0) :: sl, (d, cs) :: bx, H⟩ post) :
    TL X ops (⟨some d, .box T x, ty, pos, af, none⟩ :: rest) ⟨sl, bx, H⟩ post := by
  obtain ⟨h1, h2⟩ := cellsO_eq hc
  have h3 := op_boxL (X := X) (st := ⟨sl, bx, H⟩) (d := d) (T := T) (ty := ty) (pos := pos) (af := af) (g := none) hx h2
  have e : clearLoc d sl = sl := by
    have : ∀ l : List (Nat × V), noLoc d l = true → clearLoc d l = l := by
      intro l
      induction l with
      | nil => intro _; rfl
      | cons x l ih =>
        obtain ⟨k, v⟩ := x
        cases v with
        | m m => intro h; simp only [noLoc] at h; simp [clearLoc, ih h]
        | tl e1 e2 e3 e4 => intro h; simp only [noLoc] at h; simp [clearLoc, ih h]
        | loc u o => intro h; simp only [noLoc, Bool.and_eq_true, Bool.not_eq_true'] at h; simp [clearLoc, h.1, ih h.2]
    exact this sl hl
  simp only [e, h1] at h3
  exact TL.o1 rfl rfl hn h3 k
theorem t_storeL {T n : Nat} {x y : Operand} {t off : Nat} {cs new cs' : List M} {m : M} [hs : TySz X.P T n] (hx : evs sl x = some (.loc t off)) (hy : evs sl y = some (.m m)) (hb : get bx t = some cs) (hc : cellsO m = some new)
    (hl : Nat.beq new.length n = true) (hw : wr cs off new = some cs') (k : TL X ops rest ⟨sl, (t, cs') :: bx, H⟩ post) : TL X ops (⟨none, .store T x y, ty, pos, af, none⟩ :: rest) ⟨sl, bx, H⟩ post := by
  obtain ⟨h1, h2⟩ := cellsO_eq hc
  subst h1
  exact TL.op01 rfl rfl (op_storeL hx hy hb (Nat.eq_of_beq_eq_true hl) h2 (wr_eq hw)) k

/-- fewer slots are known -/
theorem Inv.weak {sl' : List (Nat × V)} {bx' : List (Nat × List M)} {a : Act} {w : World} (h : Inv X ⟨sl, bx, H⟩ a w) (hs : ∀ t v, get sl' t = some v → get sl t = some v)
    (hb : ∀ t, get bx' t = get bx t) : Inv X ⟨sl', bx', H⟩ a w := by
  obtain ⟨σ, lam, h1, hi⟩ := h
  refine ⟨σ, lam, h1, hi.hH, hi.defers, hi.size, fun t v h => hi.slot t v (hs t v h), fun t cs h => hi.box t cs (by rw [← hb]; exact h), fun t u cs ds h h' => hi.binj t u cs ds (by rw [← hb]; exact h) (by rw [← hb]; exact h'),
    fun t cs h => hi.bsep t cs (by rw [← hb]; exact h), fun t cs h => hi.bnew t cs (by rw [← hb]; exact h), ?_, hi.mono, hi.blk⟩
  have e : ∀ b o, Oof X.Oout lam bx' b o ↔ Oof X.Oout lam bx b o := by intro b o; simp [Oof, hb]
  exact ⟨hi.hinv.obj, hi.hinv.inj, fun b o => by rw [e]; exact hi.hinv.own b o, fun i ob h1 h2 o h3 => hi.hinv.sep i ob h1 h2 o ((e _ _).1 h3), fun b o h3 => hi.hinv.old b o ((e _ _).1 h3)⟩

/-- does a list of slots say no more than another one? -/
def keeps (sl sl' : List (Nat × V)) : Prop := (sl'.map fun p => get sl p.1) = sl'.map fun p => some p.2
theorem kc {sl r : List (Nat × V)} {t : Nat} {v : V} (h : get sl t = some v) (k : keeps sl r) : keeps sl ((t, v) :: r) := by
  show get sl t :: _ = some v :: _
  rw [h]; exact congrArg _ k
theorem keeps_get {sl : List (Nat × V)} : ∀ {sl' : List (Nat × V)}, keeps sl sl' → ∀ t v, get sl' t = some v → get sl t = some v
  | [], _, t, v, h => by simp [get] at h
  | (k, u) :: r, hk, t, v, h => by
    injection hk with h1 h2
    rcases get_cons_eq h with ⟨rfl, rfl⟩ | ⟨h3, h4⟩
    · exact h1
    · exact keeps_get h2 t v h4

end rules
theorem TC.weak {X : Ctx} {c : Code} {sl sl' : List (Nat × V)} {bx : List (Nat × List M)} {H : Hp} {post : Exit → St → Prop} (h : TC X c ⟨sl', bx, H⟩ post) (hk : keeps sl sl') : TC X c ⟨sl, bx, H⟩ post :=
  fun a w hi => h a w (hi.weak (keeps_get hk) (fun _ => rfl))

/-- a loop, its head given as slots -/
theorem TC.loop' {X : Ctx} {c : Code} {st : St} {post : Exit → St → Prop} (I : Nat → St → Prop) (k0 : Nat) (s0 : St) (h0 : I k0 s0) (hw : ∀ a w, Inv X st a w → Inv X s0 a w)
    (round : ∀ k s, I k s → TC X c s (after post fun s' => ∃ k' s'', k' < k ∧ I k' s'' ∧ ∀ a w, Inv X s' a w → Inv X s'' a w)) : TC X (.loop c) st post := by
  intro a w hi
  have hi' := hw a w hi
  refine wp_loop_ghost (fun k a w => ∃ s, I k s ∧ Inv X s a w) k0 ⟨s0, h0, hi'⟩ ?_
  rintro k a w ⟨s, h1, h2⟩
  refine wp_mono (round k s h1 a w h2) ?_
  intro e a' w' ⟨s', h3, h4⟩
  cases e with
  | normal => obtain ⟨k', s'', h5, h6, h7⟩ := h3; exact ⟨k', h5, s'', h6, h7 _ _ h4⟩
  | _ => exact ⟨s', h3, h4⟩
end Go.Mt

set_option linter.unusedVariables false
namespace Go.Mt

/-- What an operation does: its slot and value; the variables that it reads and writes; does it read the heap; the heap behind it. -/
structure Ef where
  d : Option Nat
  v : V
  rb : List Nat
  wb : List (Nat × List M)
  nw : Option Nat
  rh : Bool
  wh : Option Hp

def Ef.app (e : Ef) (st : St) : St :=
  ⟨match e.d with | some d => (d, e.v) :: st.sl | none => st.sl, e.wb ++ st.bx, match e.wh with | some h => h | none => st.H⟩

def OpS (X : Ctx) (ops : Array Oper) (o : Oper) (st st' : St) : Prop :=
  ∀ a w, Inv X st a w → ∀ (K : Act → World → Prop) (Q : Exit → Act → World → Prop), (∀ a' w', Inv X st' a' w' → K a' w') →
    if Region.wanted o (yielded ops a.tmps) then o.wp X.P a w K Q else K (a.put o.dst undef) w

structure Ag (ops : Array Oper) (o : Oper) (e : Ef) (st st2 : St) : Prop where
  sl : ∀ t ∈ o.looksAt ops, get st2.sl t = get st.sl t
  bx : ∀ t ∈ e.rb ++ e.wb.map (·.1), get st2.bx t = get st.bx t
  H : (e.rh || e.wh.isSome) = true → st2.H = st.H
  nw : ∀ d, e.nw = some d → ∀ t o, get st2.sl t ≠ some (.loc d o)

def StepF (X : Ctx) (ops : Array Oper) (o : Oper) (e : Ef) (st : St) : Prop := ∀ st2, Ag ops o e st st2 → OpS X ops o st2 (e.app st2)

inductive RunF (X : Ctx) (ops : Array Oper) : List Oper → St → List Ef → St → Prop where
  | nil (st : St) : RunF X ops [] st [] st
  | cons {o : Oper} {os : List Oper} {st st' : St} {e : Ef} {es : List Ef} (h : StepF X ops o e st) (hd : e.d = o.dst) (k : RunF X ops os (e.app st) es st') : RunF X ops (o :: os) st (e :: es) st'

def TF (X : Ctx) (ops : Array Oper) (l : List Oper) (st : St) (post : List Ef → St → Prop) : Prop := ∃ es st', RunF X ops l st es st' ∧ post es st'

theorem TF.nil {X : Ctx} {ops : Array Oper} {st : St} {post : List Ef → St → Prop} (h : post [] st) : TF X ops [] st post := ⟨[], st, .nil st, h⟩
theorem TF.cons {X : Ctx} {ops : Array Oper} {o : Oper} {rest : List Oper} {st : St} {e : Ef} {post : List Ef → St → Prop} (h : StepF X ops o e st) (hd : e.d = o.dst)
    (k : TF X ops rest (e.app st) fun es s => post (e :: es) s) : TF X ops (o :: rest) st post := by
  obtain ⟨es, st', h1, h2⟩ := k
  exact ⟨e :: es, st', .cons h hd h1, h2⟩

/-- which operations surely come ahead of each one -/
def befs (ops : List Oper) : List (List Nat) :=
  ops.foldl (fun acc o => acc ++ [(o.after.toList.filter (Region.binds .any)).flatMap fun e => e.on :: acc.getD e.on []]) []

def has (l : List Nat) (i : Nat) : Bool := l.any fun x => Nat.beq x i
def slotsOf (ops : Array Oper) (o : Oper) : List Nat := o.looksAt ops ++ o.dst.toList
def confl (ops : Array Oper) (x y : Oper) (e f : Ef) : Bool :=
  (match x.dst with | some d => has (slotsOf ops y) d | none => false) || (match y.dst with | some d => has (slotsOf ops x) d | none => false) ||
  (e.wb.any fun p => has (f.rb ++ f.wb.map (·.1)) p.1) || (f.wb.any fun p => has (e.rb ++ e.wb.map (·.1)) p.1) ||
  (e.wh.isSome && (f.rh || f.wh.isSome)) || (f.wh.isSome && e.rh) ||
  (match e.nw, f.v with | some d, .loc u _ => Nat.beq u d | _, _ => false)
def stale (e f : Ef) : Bool := match f.nw, e.v with
  | some d, .loc u _ => Nat.beq u d
  | _, _ => false

def edgesOk : Nat → List Oper → Bool
  | _, [] => true
  | j, o :: r => (o.after.toList.all fun e => !Region.binds .any e || Nat.blt e.on j) && edgesOk (j + 1) r
def pairsOk1 (ops : Array Oper) (x : Oper) (e : Ef) (i : Nat) : List Oper → List Ef → List (List Nat) → Bool
  | y :: ys, f :: fs, b :: bs => (!confl ops x y e f || has b i) && !stale e f && pairsOk1 ops x e i ys fs bs
  | _, _, _ => true
def pairsOk (ops : Array Oper) : Nat → List Oper → List Ef → List (List Nat) → Bool
  | i, x :: xs, e :: es, b :: bs => pairsOk1 ops x e i xs es bs && pairsOk ops (i + 1) xs es bs
  | _, _, _, _ => true
def noStale (sl : List (Nat × V)) : List Ef → Bool
  | [] => true
  | e :: es => (match e.nw with | some d => noLoc d sl | none => true) && noStale sl es
def orderOk (ops : List Oper) (sl : List (Nat × V)) (es : List Ef) : Bool :=
  edgesOk 0 ops && pairsOk ops.toArray 0 ops es (befs ops) && noStale sl es

theorem has_iff {l : List Nat} {i : Nat} : has l i = true ↔ i ∈ l := by
  unfold has
  rw [List.any_eq_true]
  constructor
  · rintro ⟨x, h1, h2⟩; rw [← Nat.eq_of_beq_eq_true h2]; exact h1
  · intro h; exact ⟨i, h, Nat.beq_refl i⟩

/-- the state behind those of the first k operations that are listed -/
def S (st : St) (es : List Ef) (listed : Nat → Bool) : Nat → St
  | 0 => st
  | k + 1 => match es[k]? with
    | some e => bif listed k then e.app (S st es listed k) else S st es listed k
    | none => S st es listed k

/-- a part of the state that some operations write -/
structure Part (α : Type) (es : List Ef) where
  r : St → α
  W : Nat → Bool
  c : Nat → α
  keep : ∀ k e s, es[k]? = some e → W k = false → r (e.app s) = r s
  write : ∀ k e s, es[k]? = some e → W k = true → r (e.app s) = c k

section parts
variable {α : Type} {es : List Ef} (p : Part α es) {st : St}

theorem S_all_of (L L' : Nat → Bool) : ∀ n, (∀ k, k < n → p.W k = true → L k = L' k) → p.r (S st es L n) = p.r (S st es L' n)
  | 0, _ => rfl
  | n + 1, h => by
    have ih := S_all_of L L' n (fun k hk => h k (by omega))
    simp only [S]
    cases he : es[n]? with
    | none => exact ih
    | some e =>
      simp only
      cases hw : p.W n with
      | false =>
        cases hl : L n <;> cases hl' : L' n <;> simp only [cond_true, cond_false] <;> (try rw [p.keep n e _ he hw]) <;> (try rw [p.keep n e _ he hw]) <;> exact ih
      | true =>
        have := h n (by omega) hw
        rw [this]
        cases hl' : L' n <;> simp only [cond_true, cond_false]
        · exact ih
        · rw [p.write n e _ he hw, p.write n e _ he hw]

theorem S_stop (L : Nat → Bool) (i : Nat) : ∀ n, i ≤ n → (∀ k, i ≤ k → k < n → p.W k = true → L k = false) → p.r (S st es L n) = p.r (S st es L i)
  | 0, h0, _ => by
    have : i = 0 := by omega
    subst this; rfl
  | n + 1, h0, h => by
    by_cases e : i = n + 1
    · subst e; rfl
    · have ih := S_stop L i n (by omega) (fun k h1 h2 => h k h1 (by omega))
      simp only [S]
      cases he : es[n]? with
      | none => exact ih
      | some e =>
        simp only
        cases hl : L n with
        | false => exact ih
        | true =>
          simp only [cond_true]
          cases hw : p.W n with
          | false => rw [p.keep n e _ he hw]; exact ih
          | true => rw [h n (by omega) (by omega) hw] at hl; cases hl

/-- what operation i finds is what it finds in the order of the text -/
theorem S_agree (L : Nat → Bool) (i m : Nat) (hi : i ≤ m) (h1 : ∀ k, k < i → p.W k = true → L k = true) (h2 : ∀ k, i ≤ k → k < m → p.W k = true → L k = false) :
    p.r (S st es L m) = p.r (S st es (fun _ => true) i) :=
  (S_stop p L i m hi h2).trans (S_all_of p L _ i fun k hk hw => h1 k hk hw)

/-- operation i, behind the others that are listed -/
theorem S_put (L : Nat → Bool) (i m : Nat) (hi : i < m) (e : Ef) (he : es[i]? = some e) (hL : L i = false) (h2 : p.W i = true → ∀ k, i < k → k < m → p.W k = true → L k = false) :
    p.r (S st es (fun k => if k = i then true else L k) m) = p.r (e.app (S st es L m)) := by
  cases hw : p.W i with
  | true =>
    rw [p.write i e _ he hw]
    have := S_stop p (st := st) (fun k => if k = i then true else L k) (i + 1) m (by omega) (fun k h3 h4 h5 => by
      have : k ≠ i := by omega
      simp [this]; exact h2 hw k (by omega) h4 h5)
    rw [this]
    simp only [S, he, if_true, cond_true]
    exact p.write i e _ he hw
  | false =>
    rw [p.keep i e _ he hw]
    exact S_all_of p _ _ m fun k hk hwk => by
      have : k ≠ i := by rintro rfl; rw [hw] at hwk; cases hwk
      simp [this]
end parts

def slotPart (es : List Ef) (t : Nat) : Part (Option V) es where
  r s := get s.sl t
  W k := match es[k]? with
    | some e => match e.d with | some d => Nat.beq d t | none => false
    | none => false
  c k := match es[k]? with | some e => some e.v | none => none
  keep k e s he hw := by
    simp only [he] at hw
    unfold Ef.app
    cases hd : e.d with
    | none => rfl
    | some d =>
      simp only [hd] at hw
      have : d ≠ t := by rintro rfl; simp at hw
      simp [get_cons, this]
  write k e s he hw := by
    simp only [he] at hw ⊢
    unfold Ef.app
    cases hd : e.d with
    | none => simp [hd] at hw
    | some d =>
      simp only [hd] at hw
      have := Nat.eq_of_beq_eq_true hw
      subst this
      simp [get_cons]

theorem get_append {α : Type} (l r : List (Nat × α)) (t : Nat) : get (l ++ r) t = match get l t with | some v => some v | none => get r t := by
  induction l with
  | nil => rfl
  | cons x l ih =>
    obtain ⟨k, v⟩ := x
    rw [List.cons_append, get_cons, get_cons]
    by_cases e : k = t
    · simp [e]
    · simp [e, ih]
theorem get_some_iff {α : Type} (l : List (Nat × α)) (t : Nat) : (get l t).isSome = has (l.map (·.1)) t := by
  induction l with
  | nil => rfl
  | cons x l ih =>
    obtain ⟨k, v⟩ := x
    rw [get_cons]
    by_cases e : k = t
    · subst e; simp [has]
    · have : Nat.beq k t = false := by rw [← Bool.not_eq_true]; intro h; exact e (Nat.eq_of_beq_eq_true h)
      simp only [e, if_false, ih, has, List.map_cons, List.any_cons, this, Bool.false_or]

def boxPart (es : List Ef) (t : Nat) : Part (Option (List M)) es where
  r s := get s.bx t
  W k := match es[k]? with
    | some e => has (e.wb.map (·.1)) t
    | none => false
  c k := match es[k]? with | some e => get e.wb t | none => none
  keep k e s he hw := by
    simp only [he] at hw
    have h := get_some_iff e.wb t
    rw [hw] at h
    show get (e.wb ++ s.bx) t = _
    rw [get_append]
    cases hg : get e.wb t with
    | none => rfl
    | some v => rw [hg] at h; cases h
  write k e s he hw := by
    simp only [he] at hw ⊢
    have h := get_some_iff e.wb t
    rw [hw] at h
    show get (e.wb ++ s.bx) t = _
    rw [get_append]
    cases hg : get e.wb t with
    | none => rw [hg] at h; cases h
    | some v => rfl

def heapPart (es : List Ef) : Part Hp es where
  r s := s.H
  W k := match es[k]? with
    | some e => e.wh.isSome
    | none => false
  c k := match es[k]? with | some e => (match e.wh with | some h => h | none => []) | none => []
  keep k e s he hw := by
    simp only [he] at hw
    unfold Ef.app
    cases hh : e.wh with
    | none => rfl
    | some h => rw [hh] at hw; cases hw
  write k e s he hw := by
    simp only [he] at hw ⊢
    unfold Ef.app
    cases hh : e.wh with
    | none => rw [hh] at hw; cases hw
    | some h => rfl

theorem befs_length : ∀ (ops : List Oper), (befs ops).length = ops.length := by
  have : ∀ (ops : List Oper) (acc : List (List Nat)), (ops.foldl (fun acc o => acc ++ [(o.after.toList.filter (Region.binds .any)).flatMap fun e => e.on :: acc.getD e.on []]) acc).length = acc.length + ops.length := by
    intro ops
    induction ops with
    | nil => intro acc; simp
    | cons o ops ih => intro acc; rw [List.foldl_cons, ih]; simp; omega
  intro ops; unfold befs; rw [this]; simp

theorem befs_mem {ops : List Oper} {j i : Nat} {o : Oper} {b : List Nat} (ho : ops[j]? = some o) (hb : (befs ops)[j]? = some b) (hi : i ∈ b) :
    ∃ e ∈ o.after.toList, Region.binds .any e = true ∧ (e.on = i ∨ ∃ b', (befs ops)[e.on]? = some b' ∧ e.on < j ∧ i ∈ b') := by
  have key : ∀ (ops : List Oper) (acc : List (List Nat)) (j : Nat) (o : Oper) (b : List Nat), ops[j]? = some o →
      (ops.foldl (fun acc o => acc ++ [(o.after.toList.filter (Region.binds .any)).flatMap fun e => e.on :: acc.getD e.on []]) acc)[acc.length + j]? = some b →
      ∃ acc' : List (List Nat), acc'.length = acc.length + j ∧ (∀ k, k < acc.length + j → acc'[k]? = (ops.foldl (fun acc o => acc ++ [(o.after.toList.filter (Region.binds .any)).flatMap fun e => e.on :: acc.getD e.on []]) acc)[k]?) ∧
        b = (o.after.toList.filter (Region.binds .any)).flatMap fun e => e.on :: acc'.getD e.on [] := by
    have pre : ∀ (ops : List Oper) (acc : List (List Nat)) (k : Nat), k < acc.length →
        (ops.foldl (fun acc o => acc ++ [(o.after.toList.filter (Region.binds .any)).flatMap fun e => e.on :: acc.getD e.on []]) acc)[k]? = acc[k]? := by
      intro ops
      induction ops with
      | nil => intro acc k _; rfl
      | cons o ops ih =>
        intro acc k hk
        rw [List.foldl_cons, ih _ k (by simp; omega), List.getElem?_append_left hk]
    intro ops
    induction ops with
    | nil => intro acc j o b h; simp at h
    | cons x ops ih =>
      intro acc j o b h hb
      cases j with
      | zero =>
        simp at h; subst h
        rw [List.foldl_cons, pre _ _ _ (by simp)] at hb
        simp at hb
        refine ⟨acc, by simp, ?_, hb.symm⟩
        intro k hk
        rw [List.foldl_cons, pre _ _ _ (by simp; omega), List.getElem?_append_left (by omega)]
      | succ j =>
        rw [List.foldl_cons] at hb ⊢
        have e : acc.length + (j + 1) = (acc ++ [(x.after.toList.filter (Region.binds .any)).flatMap fun e => e.on :: acc.getD e.on []]).length + j := by simp; omega
        rw [e] at hb ⊢
        exact ih _ j o b (by simpa using h) hb
  obtain ⟨acc', h1, h2, h3⟩ := key ops [] j o b ho (by simpa [befs] using hb)
  subst h3
  rw [List.mem_flatMap] at hi
  obtain ⟨e, he, hi⟩ := hi
  rw [List.mem_filter] at he
  refine ⟨e, he.1, he.2, ?_⟩
  simp only [List.mem_cons] at hi
  rcases hi with hi | hi
  · exact .inl hi.symm
  · right
    have hlt : e.on < acc'.length := by
      rcases Nat.lt_or_ge e.on acc'.length with h | h
      · exact h
      · simp [List.getElem?_eq_none h] at hi
    have : acc'[e.on]? = (befs ops)[e.on]? := by
      have := h2 e.on (by simp at h1 ⊢; omega)
      simpa [befs] using this
    refine ⟨acc'[e.on], by rw [← this]; simp [hlt], by simp at h1; omega, ?_⟩
    simpa [List.getD, hlt] using hi

end Go.Mt
