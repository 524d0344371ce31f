import Derived.Test.YtjhinemdonddoaaMtD
set_option linter.unusedVariables false
namespace Go.Mt

/-- w' has all that w had, and more. -/
structure ExtW (w w' : World) : Prop where
  os : w'.os = w.os
  output : w'.output = w.output
  tape : w'.tape = w.tape
  size : w.heap.size ≤ w'.heap.size
  blk : ∀ b, b < w.heap.size → w'.heap[b]? = w.heap[b]?

theorem ExtW.refl (w : World) : ExtW w w := ⟨rfl, rfl, rfl, Nat.le_refl _, fun _ _ => rfl⟩
theorem ExtW.trans {a b c : World} (h : ExtW a b) (k : ExtW b c) : ExtW a c :=
  ⟨k.os.trans h.os, k.output.trans h.output, k.tape.trans h.tape, Nat.le_trans h.size k.size, fun i hi => (k.blk i (Nat.lt_of_lt_of_le hi h.size)).trans (h.blk i hi)⟩
theorem ExtW.alloc (w : World) (o : Obj) : ExtW w { w with heap := w.heap.push o } :=
  ⟨rfl, rfl, rfl, by simp, fun b hb => by simp [Array.getElem?_push]; omega⟩
theorem ExtW.drew (w : World) : ExtW w { w with drawn := w.drawn + 1 } := ⟨rfl, rfl, rfl, Nat.le_refl _, fun _ _ => rfl⟩

theorem lt_of_heap {w : World} {b : Nat} {x : Obj} (h : w.heap[b]? = some x) : b < w.heap.size := by
  rcases Nat.lt_or_ge b w.heap.size with h' | h'
  · exact h'
  · simp [Array.getElem?_eq_none h'] at h
theorem lt_of_cellv {w : World} {b o : Nat} {v : Value} (h : cellv w b o = some v) : b < w.heap.size := by
  unfold cellv World.cell? at h
  cases hb : w.heap[b]? with
  | none => simp [hb] at h
  | some x => exact lt_of_heap hb
theorem cellv_of_blk {w w' : World} {b o : Nat} (h : w'.heap[b]? = w.heap[b]?) : cellv w' b o = cellv w b o := by
  unfold cellv World.cell?; rw [h]
theorem ExtW.cell {w w' : World} (h : ExtW w w') {b o : Nat} {v : Value} (hc : cellv w b o = some v) : cellv w' b o = some v := by
  rw [cellv_of_blk (h.blk b (lt_of_cellv hc))]; exact hc
theorem ExtW.heap {w w' : World} (h : ExtW w w') {b : Nat} {x : Obj} (hc : w.heap[b]? = some x) : w'.heap[b]? = some x := by
  rw [h.blk b (lt_of_heap hc)]; exact hc

theorem Mono.ext {σ : Sg} {w' : World} (h : ExtW σ.w w') : Mono σ { σ with w := w' } :=
  ⟨fun b o v h1 h2 => ⟨h.cell h1, h2⟩, fun i cs h1 => ⟨⟨cs, h1⟩, rfl⟩, fun i cs h1 => ⟨⟨cs, h1⟩, rfl⟩, fun i h1 => h1,
   fun i acc ec ver cs h1 => .inr ⟨acc, ver, cs, h1, Nat.le_refl _, fun _ => ⟨rfl, rfl, fun arr T ha => ⟨arr, h.heap ha, rfl⟩⟩⟩, fun _ h => ⟨_, h⟩⟩

theorem ObOk.keep {σ τ : Sg} (hm : Mono σ τ) {b b' : Nat} {ob : Ob} (hb : ∀ x, σ.w.heap[b]? = some x → τ.w.heap[b']? = some x) (h : ObOk σ b ob) : ObOk τ b' ob := by
  cases ob with
  | box cs => obtain ⟨arr, T, h1, h2⟩ := h; exact ⟨arr, T, hb _ h1, h2.mono hm⟩
  | row acc ec ver cs => obtain ⟨h0, arr, T, cap, n, h1, h2, h3, h4, h5⟩ := h; exact ⟨h0, arr, T, cap, n, hb _ h1, h2, h3, h4, fun i m v a b => ⟨(h5 i m v a b).1.mono hm, (h5 i m v a b).2⟩⟩
  | map es => obtain ⟨e, c, h1, h2, h3⟩ := h; exact ⟨e, c, hb _ h1, h2, fun i e u a b => ⟨(h3 i e u a b).1, (h3 i e u a b).2.mono hm⟩⟩
  | dead => trivial
  | free => trivial

theorem HInv.ext {σ : Sg} {Oo : Nat → Nat → Prop} {w' : World} (hi : HInv σ Oo) (h : ExtW σ.w w') : HInv { σ with w := w' } Oo :=
  ⟨fun i ob h1 => (hi.obj i ob h1).keep (Mono.ext h) (fun x hx => h.heap hx), hi.inj, hi.own, hi.sep, fun b o hb => Nat.lt_of_lt_of_le (hi.old b o hb) h.size⟩

theorem Blk.ext {σ : Sg} {w' : World} (h : ExtW σ.w w') : Blk σ { σ with w := w' } :=
  ⟨h.os, h.output, h.tape, h.size, fun b hb _ => h.blk b hb, fun i ob h1 h2 => .inr ⟨ob, h1, h2, rfl⟩⟩

theorem FInv.ext {X : Ctx} {σ : Sg} {lam : Nat → Nat} {st : St} {a : Act} {w' : World} (hi : FInv X σ lam st a) (h : ExtW σ.w w') :
    FInv X { σ with w := w' } lam st a :=
  ⟨hi.hH, hi.defers, hi.size, fun t v h1 => let ⟨u, h2, h3⟩ := hi.slot t v h1; ⟨u, h2, h3.mono (Mono.ext h)⟩,
   fun t cs h1 => (hi.box t cs h1).keep (Mono.ext h) (fun x hx => h.heap hx), hi.binj, hi.bsep, hi.bnew, hi.hinv.ext h,
   hi.mono.trans (Mono.ext h), hi.blk.trans (Blk.ext h)⟩

/-- An operation that makes memory and hands back a value. -/
theorem OpT.grow {X : Ctx} {o : Oper} {st : St} {v : V} (h : ∀ a σ lam, FInv X σ lam st a → ∃ u w', (execOp a.eval o).run X.P σ.w = .ok (.value u) w' ∧ ExtW σ.w w' ∧ RV { σ with w := w' } lam v u) :
    OpT X o st (eqp v st) := by
  intro a σ lam hi
  obtain ⟨u, w', h1, h2, h3⟩ := h a σ lam hi
  exact OpRun.value h1 ⟨v, st, { σ with w := w' }, lam, ⟨rfl, rfl⟩, rfl, hi.ext h2, h3⟩

def Reps (O : Nat → Nat → Prop) (w : World) (ds : List D) (vs : Array Value) : Prop :=
  vs.size = ds.length ∧ ∀ (i : Nat) (d : D) (v : Value), ds[i]? = some d → vs[i]? = some v → Rep O w d v
def Repc (O : Nat → Nat → Prop) (w : World) (ds : List D) (vs : Array Value) : Prop :=
  vs.size = ds.length ∧ ∀ (i : Nat) (d : D) (v : Value), ds[i]? = some d → vs[i]? = some v → Rep O w d v ∧ flat v = true

theorem Rep.cells {O : Nat → Nat → Prop} {w : World} {d : D} {v : Value} (h : Rep O w d v) : Repc O w (dcells d) v.cells := by
  cases h with
  | agg cs vs hl hf h => exact ⟨hl, fun i d v h1 h2 => ⟨h i d v h1 h2, hf i v h2⟩⟩
  | _ =>
    refine ⟨rfl, fun i d' v' h1 h2 => ?_⟩
    cases i with
    | zero => simp [dcells, Value.cells] at h1 h2; subst h1; subst h2; exact ⟨by constructor <;> assumption, rfl⟩
    | succ i => simp [dcells] at h1

/-- may its cells be stored? -/
def M.okc : M → Bool
  | .undef => false
  | .tup _ => false
  | _ => true

theorem RM.cells {σ : Sg} {m : M} {v : Value} (h : RM σ m v) (hu : m.okc = true) : RMc σ (cellsOf m) v.cells := by
  have one : ∀ (m : M) (v : Value), RM σ m v → flat v = true → RMc σ [m] #[v] := by
    intro m v h hf
    refine ⟨rfl, fun i m' v' h1 h2 => ?_⟩
    cases i with
    | zero => simp at h1 h2; subst h1; subst h2; exact ⟨h, hf⟩
    | succ i => simp at h1
  cases h with
  | d h =>
    have hc := h.cells
    refine ⟨by simp [cellsOf, hc.1], fun i m v h1 h2 => ?_⟩
    simp only [cellsOf, List.getElem?_map, Option.map_eq_some_iff] at h1
    obtain ⟨d, hd, rfl⟩ := h1
    exact ⟨.d (hc.2 i d v hd h2).1, (hc.2 i d v hd h2).2⟩
  | agg cs vs hl hf h => exact ⟨hl, fun i d v h1 h2 => ⟨h i d v h1 h2, hf i v h2⟩⟩
  | ref i off cs h => exact one _ _ (.ref i off cs h) rfl
  | rsl i ver len a cap h1 h2 => exact one _ _ (.rsl i ver len a cap h1 h2) rfl
  | rref i ver off b h1 h2 => exact one _ _ (.rref i ver off b h1 h2) rfl
  | mp i es h => exact one _ _ (.mp i es h) rfl
  | fn f cs vs hl h => exact one _ _ (.fn f cs vs hl h) rfl
  | tup cs vs hl h => simp [M.okc] at hu
  | undef v => simp [M.okc] at hu

theorem cellv_new (w : World) (arr : Array Value) (T : Nat) (fz : Nat × Nat) (i : Nat) : cellv { w with heap := w.heap.push (.cells arr T fz) } w.heap.size i = arr[i]? := by
  simp [cellv, World.cell?]

/-- a pointer to a fresh block -/
theorem Rep.newpim {O : Nat → Nat → Prop} {w : World} {ds : List D} {arr : Array Value} {T : Nat} (hO : ∀ b o, O b o → b < w.heap.size) (h : Repc O w ds arr) :
    Rep O { w with heap := w.heap.push (.cells arr T (0, 0)) } (.pim ds 0) (.pointer (some ⟨w.heap.size, 0, none⟩)) := by
  refine Rep.pim ds 0 w.heap.size 0 (fun i => arr.getD i undef) ?_ ?_ ?_
  · intro i hi
    refine ⟨?_, fun hh => by have := hO _ _ hh; omega⟩
    rw [Nat.zero_add, cellv_new]
    have : i < arr.size := by rw [h.1]; exact hi
    simp [this]
  · intro i hi
    have h2 : i < arr.size := by rw [h.1]; exact hi
    have h3 : arr[i]? = some (arr.getD i undef) := by simp [h2]
    exact (h.2 i ds[i] _ (by simp [hi]) h3).2
  · intro i d hd
    have hi : i < arr.size := by rw [h.1]; rcases Nat.lt_or_ge i ds.length with h | h; exact h; simp [List.getElem?_eq_none h] at hd
    have := (h.2 i d (arr.getD i undef) hd (by simp [hi])).1
    exact this.mono fun b o v h1 h2 => ⟨(ExtW.alloc w _).cell h1, h2⟩

section ops
variable {X : Ctx} {st : St} {dst : Option Nat} {ty : Nat} {pos : String} {af : Array Edge} {g : Option (Nat × Bool)}

theorem op_box {t : Nat} {x : Operand} {d : D} (hx : st.ev x = some (.m (.d d))) :
    OpT X ⟨dst, .box t x, ty, pos, af, g⟩ st (eqp (.m (.d (.pim (dcells d) 0))) st) := by
  refine OpT.grow fun a σ lam hi => ?_
  have h := (hi.evd hx).cells
  exact ⟨_, _, by simp [execOp, Instr.box, newVar, newRow, newObj, Sem.run]; rfl, ExtW.alloc _ _, .m (.d (Rep.newpim hi.hinv.oold h))⟩

class TyAgg (P : Program) (t : Nat) (n : outParam Nat) : Prop where
  agg : tyAgg P t = some true
  size : tySize P t = some n
class TySz (P : Program) (t : Nat) (n : outParam Nat) : Prop where
  size : tySize P t = some n
class TyZ (P : Program) (t : Nat) (z : outParam D) : Prop where
  zero : tyZero P t = some z
class TyCell (P : Program) (t : Nat) : Prop where
  cell : tyAgg P t = some false

theorem TyCell.run {P : Program} {t : Nat} (h : TyCell P t) (w : World) : (isAgg t).run P w = .ok false w := by
  have := h.cell
  unfold tyAgg at this
  unfold isAgg underlying
  simp [program, Sem.run]
  cases hu : P.underlying t with
  | none => simp [hu] at this
  | some d => cases d <;> simp_all
theorem TyAgg.run {P : Program} {t n : Nat} (h : TyAgg P t n) (w : World) : (isAgg t).run P w = .ok true w := by
  have := h.agg
  unfold tyAgg at this
  unfold isAgg underlying
  simp [program, Sem.run]
  cases hu : P.underlying t with
  | none => simp [hu] at this
  | some d => cases d <;> simp_all
theorem size_run {P : Program} {t n : Nat} (h : tySize P t = some n) (w : World) : (sizeOf t).run P w = .ok n w := by
  unfold tySize at h
  unfold sizeOf typeInfo
  simp [program, Sem.run]
  cases hu : P.info? t with
  | none => simp [hu] at h
  | some d => simp [hu] at h; simp [h]

theorem addr_add (b o n : Nat) : (⟨b, o, none⟩ : Addr).add n = ⟨b, o + n, none⟩ := by
  unfold Addr.add; split
  · rename_i h; subst h; rfl
  · rfl

theorem load_cell_run {P : Program} {w : World} {b o : Nat} {v : Value} (h : cellv w b o = some v) : (load ⟨b, o, none⟩).run P w = .ok v w := by
  unfold cellv at h
  simp [h]

theorem loadCells_run {P : Program} {w : World} {b o : Nat} {vs : Array Value} : ∀ (n i : Nat) (acc : Array Value), i + n = vs.size → acc = vs.extract 0 i →
    (∀ j, j < vs.size → cellv w b (o + j) = some (vs.getD j undef)) → (loadCellsFrom ⟨b, o, none⟩ i n acc).run P w = .ok vs w
  | 0, i, acc, hi, ha, _ => by
    have : i = vs.size := by omega
    subst this
    simp [loadCellsFrom, ha]
  | n + 1, i, acc, hi, ha, hc => by
    have hlt : i < vs.size := by omega
    rw [loadCellsFrom]
    simp only [addr_add, Sem.run_bind, load_cell_run (hc i hlt), Result.andThen_ok]
    refine loadCells_run n (i + 1) _ (by omega) ?_ hc
    rw [ha]
    apply Array.ext_getElem?
    intro k
    simp [Array.getElem?_push, Array.getElem?_extract]
    have : i ≤ vs.size := by omega
    rcases Nat.lt_trichotomy k i with h | h | h
    · have h1 : k < min i vs.size := by omega
      have h2 : ¬ k = min i vs.size := by omega
      have h3 : k < min (i + 1) vs.size := by omega
      simp [h2, h1, h3]
    · subst h
      simp [Nat.min_eq_left this, hlt]
      omega
    · have h2 : ¬ k = min i vs.size := by omega
      have h3 : ¬ k < min (i + 1) vs.size := by omega
      have h4 : ¬ k < min i vs.size := by omega
      simp [h2, h3, h4]


theorem take_drop_getElem? {α : Type} (l : List α) (off n i : Nat) (hi : i < n) : ((l.drop off).take n)[i]? = l[off + i]? := by
  rw [List.getElem?_take_of_lt hi, List.getElem?_drop]

/-- a load of data out of memory that does not change -/
theorem loadD_run {P : Program} {O : Nat → Nat → Prop} {w : World} {t b o off : Nat} {cs : List D} {val : Nat → Value} {d : D} (hr : readD P t cs off = some d)
    (hcell : ∀ i, i < cs.length → cellv w b (o + i) = some (val i) ∧ ¬ O b (o + i)) (hflat : ∀ i, i < cs.length → flat (val i) = true) (hrep : ∀ i d, cs[i]? = some d → Rep O w d (val i)) :
    ∃ u, (Instr.loadAt t (.pointer (some ⟨b, o + off, none⟩))).run P w = .ok u w ∧ Rep O w d u := by
  unfold readD at hr
  split at hr
  · rename_i n h1 h2
    cases hb : Nat.ble (off + n) cs.length with
    | false => simp [hb] at hr
    | true =>
      simp only [hb, cond_true, Option.some.injEq] at hr
      subst hr
      have hle : off + n ≤ cs.length := Nat.le_of_ble_eq_true hb
      have hty : TyAgg P t n := ⟨h1, h2⟩
      let vs : Array Value := ((List.range n).map fun i => val (off + i)).toArray
      have hsz : vs.size = n := by simp [vs]
      have hl : (loadCellsFrom ⟨b, o + off, none⟩ 0 n #[]).run P w = .ok vs w := by
        refine loadCells_run n 0 _ (by omega) (by simp) ?_
        intro j hj
        rw [hsz] at hj
        have : vs.getD j undef = val (off + j) := by simp [vs, hj]
        rw [this, Nat.add_assoc]
        exact (hcell (off + j) (by omega)).1
      refine ⟨.agg vs, ?_, .agg _ vs ?_ ?_ ?_⟩
      · simp [Instr.loadAt, Instr.sureAddr, loadVar, hty.run, size_run h2, loadCells, hl]
      · simp [hsz]; omega
      · intro i v hv
        have hi : i < n := by
          rcases Nat.lt_or_ge i n with h | h
          · exact h
          · simp [Array.getElem?_eq_none (show vs.size ≤ i by omega)] at hv
        have : v = val (off + i) := by simp [vs, hi] at hv; exact hv.symm
        subst this
        exact hflat _ (by omega)
      · intro i d v hd hv
        have hi : i < n := by
          rcases Nat.lt_or_ge i n with h | h
          · exact h
          · simp [Array.getElem?_eq_none (show vs.size ≤ i by omega)] at hv
        rw [take_drop_getElem? cs off n i hi] at hd
        have : v = val (off + i) := by simp [vs, hi] at hv; exact hv.symm
        subst this
        exact hrep _ _ hd
  · rename_i h1
    have hty : TyCell P t := ⟨h1⟩
    have hlt : off < cs.length := by
      rcases Nat.lt_or_ge off cs.length with h | h
      · exact h
      · simp [List.getElem?_eq_none h] at hr
    refine ⟨val off, ?_, hrep off d hr⟩
    have hc : w.cell? ⟨b, o + off, none⟩ = some (val off) := (hcell off hlt).1
    simp [Instr.loadAt, Instr.sureAddr, loadVar, hty.run, hc]
  · cases hr

theorem op_loadD {t : Nat} {x : Operand} {cs : List D} {off : Nat} {d : D} (hx : st.ev x = some (.m (.d (.pim cs off)))) (hr : readD X.P t cs off = some d) :
    OpT X ⟨dst, .load t x, ty, pos, af, g⟩ st (eqp (.m (.d d)) st) := by
  refine OpT.quiet fun a σ lam hi => ?_
  have h := hi.evd hx
  generalize hu : a.eval x = u at h
  cases h with
  | pim cs off b o val hcell hflat hrep =>
    obtain ⟨u, h1, h2⟩ := loadD_run hr hcell hflat hrep
    exact ⟨u, by simp [execOp, hu, h1], .m (.d h2)⟩

/-- one cell -/
theorem op_loadDc {t : Nat} {x : Operand} {cs : List D} {off : Nat} {d : D} [ht : TyCell X.P t] (hx : st.ev x = some (.m (.d (.pim cs off)))) (hr : cs[off]? = some d) :
    OpT X ⟨dst, .load t x, ty, pos, af, g⟩ st (eqp (.m (.d d)) st) :=
  op_loadD hx (by simp [readD, ht.cell, hr])
/-- a struct, whole -/
theorem op_loadDw {t n : Nat} {x : Operand} {cs : List D} [ht : TyAgg X.P t n] (hx : st.ev x = some (.m (.d (.pim cs 0)))) (hr : cs.length = n) :
    OpT X ⟨dst, .load t x, ty, pos, af, g⟩ st (eqp (.m (.d (.agg cs))) st) := by
  refine op_loadD hx ?_
  subst hr
  simp only [readD, ht.agg, ht.size, Nat.zero_add]
  have : Nat.ble cs.length cs.length = true := Nat.ble_eq_true_of_le (Nat.le_refl _)
  simp [this]
/-- a struct within a struct -/
theorem op_loadDa {t n : Nat} {x : Operand} {cs ds : List D} {off : Nat} [ht : TyAgg X.P t n] (hx : st.ev x = some (.m (.d (.pim cs off)))) (hb : Nat.ble (off + n) cs.length = true) (hr : (cs.drop off).take n = ds) :
    OpT X ⟨dst, .load t x, ty, pos, af, g⟩ st (eqp (.m (.d (.agg ds))) st) := by
  refine op_loadD hx ?_
  simp [readD, ht.agg, ht.size, hb, hr]

class TyField (P : Program) (s f : Nat) (off : outParam Nat) : Prop where
  run : ∀ (b o : Nat) (w : World), (Instr.fieldAt s (.pointer (some ⟨b, o, none⟩)) f).run P w = .ok (.pointer (some ⟨b, o + off, none⟩)) w

def tyFieldOk (P : Program) (s f off : Nat) : Bool :=
  match P.underlying s with
  | some (.struct fields) => match fields[f]? with
    | some fd => match tySize P fd.type with
      | some n => n != 0 && fd.offset == off
      | none => false
    | none => false
  | _ => false
theorem tyField_of {P : Program} {s f off : Nat} (h : tyFieldOk P s f off = true) : TyField P s f off := by
  constructor
  intro b o w
  unfold tyFieldOk at h
  split at h
  · rename_i fields hf
    split at h
    · rename_i fd hfd
      split at h
      · rename_i n hn
        simp at h
        simp [Instr.fieldAt, underlying, program, Sem.run, hf, hfd, Instr.sureAddr, fieldPlace, size_run hn, h.1, addr_add, h.2]
      · cases h
    · cases h
  · cases h

theorem op_fieldD {s f : Nat} {x : Operand} {cs : List D} {off o : Nat} (hx : st.ev x = some (.m (.d (.pim cs off)))) [hf : TyField X.P s f o] :
    OpT X ⟨dst, .fieldAddr s x f, ty, pos, af, g⟩ st (eqp (.m (.d (.pim cs (off + o)))) st) := by
  refine OpT.quiet fun a σ lam hi => ?_
  have h := hi.evd hx
  generalize hu : a.eval x = u at h
  cases h with
  | pim cs off b oo val hcell hflat hrep =>
    refine ⟨_, by simp only [execOp, hu]; simp [hf.run]; rfl, .m (.d ?_)⟩
    rw [Nat.add_assoc]
    exact .pim cs (off + o) b oo val hcell hflat hrep
theorem op_fieldL {s f : Nat} {x : Operand} {t off o : Nat} (hx : st.ev x = some (.loc t off)) [hf : TyField X.P s f o] :
    OpT X ⟨dst, .fieldAddr s x f, ty, pos, af, g⟩ st (eqp (.loc t (off + o)) st) := by
  refine OpT.quiet fun a σ lam hi => ?_
  have h := hi.ev hx
  generalize hu : a.eval x = u at h
  cases h with
  | loc t off => exact ⟨_, by simp only [execOp, hu]; simp [hf.run], .loc t (off + o)⟩
theorem op_fieldR {s f : Nat} {x : Operand} {i off o : Nat} (hx : st.ev x = some (.m (.ref i off))) [hf : TyField X.P s f o] :
    OpT X ⟨dst, .fieldAddr s x f, ty, pos, af, g⟩ st (eqp (.m (.ref i (off + o))) st) := by
  refine OpT.quiet fun a σ lam hi => ?_
  have h := hi.ev hx
  generalize hu : a.eval x = u at h
  cases h with
  | m h => cases h with
    | ref i off cs hh => exact ⟨_, by simp only [execOp, hu]; simp [hf.run], .m (.ref i (off + o) cs hh)⟩
theorem op_fieldW {s f : Nat} {x : Operand} {i ver off o : Nat} (hx : st.ev x = some (.m (.rref i ver off))) [hf : TyField X.P s f o] :
    OpT X ⟨dst, .fieldAddr s x f, ty, pos, af, g⟩ st (eqp (.m (.rref i ver (off + o))) st) := by
  refine OpT.quiet fun a σ lam hi => ?_
  have h := hi.ev hx
  generalize hu : a.eval x = u at h
  cases h with
  | m h => cases h with
    | rref i ver off b h1 h2 => exact ⟨_, by simp only [execOp, hu]; simp [hf.run], .m (.rref i ver (off + o) b h1 h2)⟩

def ptrOk : V → Bool
  | .m (.d (.pim _ _)) => true
  | .m (.ref _ _) => true
  | .m (.rref _ _ _) => true
  | .loc _ _ => true
  | .m (.d (.fn _ _)) => true
  | .m (.fn _ _) => true
  | _ => false
theorem op_nilCheck {x : Operand} {v : V} (hx : st.ev x = some v) (hv : ptrOk v = true) :
    OpT X ⟨dst, .nilCheck x, ty, pos, af, g⟩ st (eqp v st) := by
  refine OpT.quiet fun a σ lam hi => ?_
  have h := hi.ev hx
  refine ⟨a.eval x, ?_, h⟩
  generalize hu : a.eval x = u at h
  cases h with
  | loc t off => simp [execOp, hu]
  | m h => cases h with
    | d h => cases h <;> simp [ptrOk] at hv <;> simp [execOp, hu]
    | _ => first | (simp [ptrOk] at hv; done) | simp [execOp, hu]

/-- slices as data -/
def slLen : D → Option Nat
  | .sl rows => some rows.length
  | .slz => some 0
  | _ => none

class TySlice (P : Program) (t : Nat) (e : outParam Nat) : Prop where
  u : P.underlying t = some (.slice e)
class TyStr (P : Program) (t : Nat) : Prop where
  u : P.underlying t = some .string

theorem op_lenS {t e : Nat} {x : Operand} {d : D} {n : Nat} (hx : st.ev x = some (.m (.d d))) [ht : TySlice X.P t e] (hn : slLen d = some n) :
    OpT X ⟨dst, .call ⟨.builtin .len, #[x], #[t]⟩, ty, pos, af, g⟩ st (eqp (.m (.d (.int .i64 n))) st) := by
  refine OpT.quiet fun a σ lam hi => ?_
  have h := hi.evd hx
  generalize hu : a.eval x = u at h
  refine ⟨.int .i64 n, ?_, .m (.d (.int _ _))⟩
  cases h <;> simp [slLen] at hn <;> subst hn <;> simp [execOp, resolve, invoke, builtin, Builtin.len_, underlying, program, Sem.run, ht.u, hu, goInt]
theorem op_lenT {t : Nat} {x : Operand} {s : ByteArray} (hx : st.ev x = some (.m (.d (.str s)))) [ht : TyStr X.P t] :
    OpT X ⟨dst, .call ⟨.builtin .len, #[x], #[t]⟩, ty, pos, af, g⟩ st (eqp (.m (.d (.int .i64 s.size))) st) := by
  refine OpT.quiet fun a σ lam hi => ?_
  have h := hi.evstr hx
  exact ⟨.int .i64 s.size, by simp [execOp, resolve, invoke, builtin, Builtin.len_, underlying, program, Sem.run, ht.u, h, goInt], .m (.d (.int _ _))⟩

theorem op_indexD {t e n : Nat} {x y : Operand} {rows : List (List D)} {r : List D} {k : IntKind} {i : Int} (hx : st.ev x = some (.m (.d (.sl rows)))) (hy : st.ev y = some (.m (.d (.int k i))))
    [ht : TySlice X.P t e] [hs : TySz X.P e n] (h0 : 0 ≤ i) (hr : rows[i.toNat]? = some r) (hn : r.length = n) :
    OpT X ⟨dst, .indexAddr t x y, ty, pos, af, g⟩ st (eqp (.m (.d (.pim r 0))) st) := by
  refine OpT.quiet fun a σ lam hi => ?_
  have h := hi.evd hx
  have h2 := hi.evint hy
  generalize hu : a.eval x = u at h
  have hlt : i.toNat < rows.length := by
    rcases Nat.lt_or_ge i.toNat rows.length with h | h
    · exact h
    · simp [List.getElem?_eq_none h] at hr
  cases h with
  | slnil a => simp at hlt
  | sl rows b o cap ec val hne hcap hmax hec hcell hflat hrep =>
    have hmem : r ∈ rows := List.mem_of_getElem? hr
    have hec' : ec = n := by rw [← hec r hmem]; exact hn
    subst hec'
    have hb : i < (rows.length : Int) := by omega
    refine ⟨.pointer (some ⟨b, o + i.toNat * ec + 0, none⟩), ?_, .m (.d (.pim r 0 b (o + i.toNat * ec) (fun j => val i.toNat j) ?_ ?_ ?_))⟩
    · simp [execOp, hu, h2, Instr.indexAt, asIntOf, underlying, program, Sem.run, ht.u, size_run hs.size, h0, hb, addr_add]
    · intro j hj
      have := hcell i.toNat j hlt (by omega)
      simpa [Nat.add_assoc] using this
    · intro j hj
      exact hflat i.toNat j hlt (by omega)
    · intro j d hd
      exact hrep i.toNat j r d hr hd

/-- a list in a slot is no longer than memory -/
theorem TC.short {c : Code} {post : Exit → St → Prop} {x : Operand} {rows : List (List D)} (hx : st.ev x = some (.m (.d (.sl rows)))) (h : rows.length ≤ 140737488355328 → TC X c st post) : TC X c st post := by
  intro a w hi
  refine h ?_ a w hi
  obtain ⟨σ, lam, _, hi⟩ := hi
  have h1 := hi.evd hx
  generalize a.eval x = u at h1
  cases h1 with
  | slnil a => simp
  | sl rows b o cap ec val hne hcap hmax hec hcell hflat hrep => exact hmax
theorem TL.short {ops : Array Oper} {l : List Oper} {post : St → Prop} {x : Operand} {rows : List (List D)} (hx : st.ev x = some (.m (.d (.sl rows)))) (h : rows.length ≤ 140737488355328 → TL X ops l st post) : TL X ops l st post := by
  intro a w hi
  refine h ?_ a w hi
  obtain ⟨σ, lam, _, hi⟩ := hi
  have h1 := hi.evd hx
  generalize a.eval x = u at h1
  cases h1 with
  | slnil a => simp
  | sl rows b o cap ec val hne hcap hmax hec hcell hflat hrep => exact hmax

theorem op_streq {x y : Operand} {xt yt : Nat} {s u : ByteArray} (hx : st.ev x = some (.m (.d (.str s)))) (hy : st.ev y = some (.m (.d (.str u)))) :
    OpT X ⟨dst, .binOp .eql xt x y yt, ty, pos, af, g⟩ st (eqp (.m (.d (.bool (decide (s = u))))) st) := by
  refine OpT.quiet fun a σ lam hi => ?_
  exact ⟨_, by simp only [execOp, hi.evstr hx, hi.evstr hy, eqGuard, binOp, Op.stringOp, ba_toList_beq]; simp, .m (.d (.bool _))⟩
theorem op_strne {x y : Operand} {xt yt : Nat} {s u : ByteArray} (hx : st.ev x = some (.m (.d (.str s)))) (hy : st.ev y = some (.m (.d (.str u)))) :
    OpT X ⟨dst, .binOp .neq xt x y yt, ty, pos, af, g⟩ st (eqp (.m (.d (.bool (!decide (s = u))))) st) := by
  refine OpT.quiet fun a σ lam hi => ?_
  exact ⟨_, by simp only [execOp, hi.evstr hx, hi.evstr hy, eqGuard, binOp, Op.stringOp, ba_toList_beq]; simp, .m (.d (.bool _))⟩
theorem op_stradd {x y : Operand} {xt yt : Nat} {s u : ByteArray} (hx : st.ev x = some (.m (.d (.str s)))) (hy : st.ev y = some (.m (.d (.str u)))) (hs : s.size + u.size ≤ 9223372036854775807) :
    OpT X ⟨dst, .binOp .add xt x y yt, ty, pos, af, g⟩ st (eqp (.m (.d (.str (s ++ u)))) st) := by
  refine OpT.quiet fun a σ lam hi => ?_
  have : ¬ ((s.size + u.size : Nat) : Int) > IntKind.i64.max := by
    have : IntKind.i64.max = 9223372036854775807 := by decide
    omega
  exact ⟨_, by simp only [execOp, hi.evstr hx, hi.evstr hy, eqGuard, binOp, Op.stringOp]; simp only [if_neg this]; simp, .m (.d (.str _))⟩

theorem op_extract {x : Operand} {i : Nat} {vs : List M} {m : M} (hx : st.ev x = some (.m (.tup vs))) (hm : vs[i]? = some m) :
    OpT X ⟨dst, .extract x i, ty, pos, af, g⟩ st (eqp (.m m) st) := by
  refine OpT.quiet fun a σ lam hi => ?_
  have h := hi.ev hx
  generalize hu : a.eval x = u at h
  cases h with
  | m h => cases h with
    | tup cs vs' hl hh =>
      have hi' : i < vs'.size := by
        rw [hl]; rcases Nat.lt_or_ge i vs.length with h | h; exact h; simp [List.getElem?_eq_none h] at hm
      exact ⟨vs'[i], by simp [execOp, hu, Instr.extract, hi'], .m (hh i m _ hm (by simp [hi']))⟩
end ops
end Go.Mt
