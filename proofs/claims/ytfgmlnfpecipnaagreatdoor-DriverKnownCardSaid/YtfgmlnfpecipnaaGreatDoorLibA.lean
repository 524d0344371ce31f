/- Part of a library of triples over an abstract heap, and of a reckoner that is proved sound over it. -/
import Derived.Tactics
import Derived.Orders
import Derived.Deep.LoopGhost
import Derived.Below
import Derived.WalkKit
set_option linter.unusedVariables false
namespace Go.Mt

/-- Pure data: no reference to changing memory. -/
inductive D where
  | int (k : IntKind) (n : Int)
  | bool (b : Bool)
  | str (s : ByteArray)
  | sl (rows : List (List D))
  | slz
  | agg (cs : List D)
  | pim (cs : List D) (off : Nat)
  | fn (f : Nat) (cap : List D)
  | nilp | nilf | nili | nilm
  | ifc (t : Nat) (d : D)
  deriving Inhabited

/-- Values that may refer to the abstract heap. -/
inductive M where
  | d (x : D)
  | ref (i off : Nat)
  | rsl (i ver len : Nat)
  | rref (i ver off : Nat)
  | mp (i : Nat)
  | it (i : Nat)
  | agg (cs : List M)
  | fn (f : Nat) (cap : List M)
  | tup (vs : List M)
  | undef
  deriving Inhabited

/-- What a slot holds: a value, or the address of a variable of the frame's own. -/
inductive V where
  | m (x : M)
  | loc (t off : Nat)
  | tl (j ver off len : Nat)
  deriving Inhabited

inductive Ob where
  | box (cs : List M)
  | row (acc : Bool) (ec ver : Nat) (cs : List M)
  | map (es : List (D × M))
  | iter (x : M)
  | dead
  | free
  deriving Inhabited

abbrev Hp := List Ob

def get {α : Type} : List (Nat × α) → Nat → Option α
  | [], _ => none
  | (k, v) :: r, t => bif Nat.beq k t then some v else get r t
def del {α : Type} : List (Nat × α) → Nat → List (Nat × α)
  | [], _ => []
  | (k, v) :: r, t => bif Nat.beq k t then del r t else (k, v) :: del r t
def put {α : Type} (l : List (Nat × α)) (t : Nat) (v : α) : List (Nat × α) := (t, v) :: del l t

/-- An abstract state of a running function: its slots, its own variables in memory, the heap. -/
structure St where
  sl : List (Nat × V)
  bx : List (Nat × List M)
  H : Hp

def tyAgg (P : Program) (t : Nat) : Option Bool :=
  match P.underlying t with
  | some (.struct _) => some true
  | some (.array _ _) => some true
  | some _ => some false
  | none => none
def tySize (P : Program) (t : Nat) : Option Nat := (P.info? t).map (·.size)
def tyBytes (P : Program) (t : Nat) : Option Nat := (P.info? t).map (·.bytes)

def dOfCell : Value → Option D
  | .int k n => some (.int k n)
  | .bool b => some (.bool b)
  | .string s => some (.str s)
  | .slice none 0 0 => some (.sl [])
  | .pointer none => some .nilp
  | .nilFunc => some .nilf
  | .nilIface => some .nili
  | .map none => some .nilm
  | _ => none
def dOfCells : List Value → Option (List D)
  | [] => some []
  | v :: r => match dOfCell v, dOfCells r with
    | some d, some ds => some (d :: ds)
    | _, _ => none
def dOfVal : Value → Option D
  | .agg cs => match dOfCells cs.toList with
    | some ds => some (.agg ds)
    | none => none
  | v => dOfCell v
def tyZero (P : Program) (t : Nat) : Option D :=
  match P.info? t with
  | some i => match i.zero with
    | some v => dOfVal v
    | none => none
  | none => none

/-- A slot's value under an operand. -/
def evs (sl : List (Nat × V)) : Operand → Option V
  | .tmp t => get sl t
  | .const v => match dOfVal v with
    | some d => some (.m (.d d))
    | none => none
  | .func f => some (.m (.d (.fn f [])))
  | .global _ => none
def St.ev (s : St) (x : Operand) : Option V := evs s.sl x

def dcells : D → List D
  | .agg cs => cs
  | d => [d]
def cellsOf : M → List M
  | .d x => (dcells x).map .d
  | .agg cs => cs
  | m => [m]
def allD : List M → Option (List D)
  | [] => some []
  | .d x :: r => (allD r).map (x :: ·)
  | _ => none
def pack (cs : List M) : M :=
  match allD cs with
  | some ds => .d (.agg ds)
  | none => .agg cs
/-- the variable of type t at offset off of a row of cells -/
def readAt (P : Program) (t : Nat) (cs : List M) (off : Nat) : Option M :=
  match tyAgg P t, tySize P t with
  | some true, some n => bif Nat.ble (off + n) cs.length then some (pack ((cs.drop off).take n)) else none
  | some false, _ => cs[off]?
  | _, _ => none
def readD (P : Program) (t : Nat) (cs : List D) (off : Nat) : Option D :=
  match tyAgg P t, tySize P t with
  | some true, some n => bif Nat.ble (off + n) cs.length then some (.agg ((cs.drop off).take n)) else none
  | some false, _ => cs[off]?
  | _, _ => none
def writeAt (cs : List M) (off : Nat) (new : List M) : Option (List M) :=
  bif Nat.ble (off + new.length) cs.length then some (cs.take off ++ new ++ cs.drop (off + new.length)) else none

def chunk (ec : Nat) : Nat → List M → Option (List (List D))
  | 0, [] => some []
  | 0, _ => none
  | n + 1, cs => match allD (cs.take ec), chunk ec n (cs.drop ec) with
    | some r, some rs => some (r :: rs)
    | _, _ => none

/-- a value of one cell -/
def flat : Value → Bool
  | .agg _ => false
  | .tuple _ => false
  | _ => true

end Go.Mt

set_option linter.unusedVariables false
namespace Go.Mt

abbrev cellv (w : World) (b o : Nat) : Option Value := w.cell? ⟨b, o, none⟩

/-- Data d stands as value v in world w, in cells that O does not own. -/
inductive Rep (O : Nat → Nat → Prop) (w : World) : D → Value → Prop where
  | int (k : IntKind) (n : Int) : Rep O w (.int k n) (.int k n)
  | bool (b : Bool) : Rep O w (.bool b) (.bool b)
  | str (s : ByteArray) : Rep O w (.str s) (.string s)
  | slnil (a : Option Addr) : Rep O w (.sl []) (.slice a 0 0)
  | sl (rows : List (List D)) (b o cap ec : Nat) (val : Nat → Nat → Value) (h0 : rows ≠ []) (hcap : rows.length ≤ cap) (hmax : rows.length ≤ 140737488355328)
      (hec : ∀ r ∈ rows, r.length = ec)
      (hcell : ∀ i j, i < rows.length → j < ec → cellv w b (o + (i * ec + j)) = some (val i j) ∧ ¬ O b (o + (i * ec + j)))
      (hflat : ∀ i j, i < rows.length → j < ec → flat (val i j) = true)
      (hrep : ∀ i j r d, rows[i]? = some r → r[j]? = some d → Rep O w d (val i j)) :
      Rep O w (.sl rows) (.slice (some ⟨b, o, none⟩) rows.length cap)
  | slz (a : Option Addr) (cap : Nat) : Rep O w .slz (.slice a 0 cap)
  | agg (cs : List D) (vs : Array Value) (hl : vs.size = cs.length) (hf : ∀ (i : Nat) (v : Value), vs[i]? = some v → flat v = true) (h : ∀ (i : Nat) (d : D) (v : Value), cs[i]? = some d → vs[i]? = some v → Rep O w d v) : Rep O w (.agg cs) (.agg vs)
  | pim (cs : List D) (off b o : Nat) (val : Nat → Value)
      (hcell : ∀ i, i < cs.length → cellv w b (o + i) = some (val i) ∧ ¬ O b (o + i))
      (hflat : ∀ i, i < cs.length → flat (val i) = true)
      (hrep : ∀ i d, cs[i]? = some d → Rep O w d (val i)) : Rep O w (.pim cs off) (.pointer (some ⟨b, o + off, none⟩))
  | fn (f : Nat) (cs : List D) (vs : Array Value) (hl : vs.size = cs.length) (h : ∀ (i : Nat) (d : D) (v : Value), cs[i]? = some d → vs[i]? = some v → Rep O w d v) : Rep O w (.fn f cs) (.func (.func f) #[] vs)
  | nilp : Rep O w .nilp (.pointer none)
  | nilf : Rep O w .nilf .nilFunc
  | nili : Rep O w .nili .nilIface
  | nilm : Rep O w .nilm (.map none)
  | ifc (t : Nat) (d : D) (v : Value) (h : Rep O w d v) : Rep O w (.ifc t d) (.iface t v)

/-- What data reads, stays. -/
theorem Rep.mono {O O' : Nat → Nat → Prop} {w w' : World} (hc : ∀ b o v, cellv w b o = some v → ¬ O b o → cellv w' b o = some v ∧ ¬ O' b o)
    {d : D} {v : Value} (h : Rep O w d v) : Rep O' w' d v := by
  induction h with
  | int k n => exact .int k n
  | bool b => exact .bool b
  | str s => exact .str s
  | slnil a => exact .slnil a
  | sl rows b o cap ec val h0 hcap hmax hec hcell hflat hrep ih =>
    exact .sl rows b o cap ec val h0 hcap hmax hec (fun i j hi hj => hc _ _ _ (hcell i j hi hj).1 (hcell i j hi hj).2) hflat ih
  | slz a cap => exact .slz a cap
  | agg cs vs hl hf h ih => exact .agg cs vs hl hf ih
  | pim cs off b o val hcell hflat hrep ih => exact .pim cs off b o val (fun i hi => hc _ _ _ (hcell i hi).1 (hcell i hi).2) hflat ih
  | fn f cs vs hl h ih => exact .fn f cs vs hl ih
  | nilp => exact .nilp
  | nilf => exact .nilf
  | nili => exact .nili
  | nilm => exact .nilm
  | ifc t d v h ih => exact .ifc t d v ih

/-- A world, who owns which cells, where the heap's objects lie. -/
structure Sg where
  w : World
  O : Nat → Nat → Prop
  l : Nat → Nat
  H : Hp

inductive RM (σ : Sg) : M → Value → Prop where
  | d {x : D} {v : Value} (h : Rep σ.O σ.w x v) : RM σ (.d x) v
  | ref (i off : Nat) (cs : List M) (h : σ.H[i]? = some (.box cs)) : RM σ (.ref i off) (.pointer (some ⟨σ.l i, off, none⟩))
  | rsl (i ver len : Nat) (a : Option Addr) (cap : Nat)
      (hle : σ.H[i]? = some .dead ∨ ∃ acc ec ver' cs, σ.H[i]? = some (.row acc ec ver' cs) ∧ ver ≤ ver')
      (hcur : ∀ acc ec cs, σ.H[i]? = some (.row acc ec ver cs) → a = some ⟨σ.l i, 0, none⟩ ∧ cs.length = len * ec ∧ ∃ arr T, σ.w.heap[σ.l i]? = some (.cells arr T (0, 0)) ∧ arr.size = cap * ec) :
      RM σ (.rsl i ver len) (.slice a len cap)
  | rref (i ver off b : Nat)
      (hle : σ.H[i]? = some .dead ∨ ∃ acc ec ver' cs, σ.H[i]? = some (.row acc ec ver' cs) ∧ ver ≤ ver')
      (hcur : ∀ acc ec cs, σ.H[i]? = some (.row acc ec ver cs) → b = σ.l i) : RM σ (.rref i ver off) (.pointer (some ⟨b, off, none⟩))
  | mp (i : Nat) (es : List (D × M)) (h : σ.H[i]? = some (.map es)) : RM σ (.mp i) (.map (some (σ.l i)))
  | it (i : Nat) (x : M) (h : σ.H[i]? = some (.iter x)) : RM σ (.it i) (.pointer (some ⟨σ.l i, 0, none⟩))
  | agg (cs : List M) (vs : Array Value) (hl : vs.size = cs.length) (hf : ∀ (i : Nat) (v : Value), vs[i]? = some v → flat v = true) (h : ∀ (i : Nat) (m : M) (v : Value), cs[i]? = some m → vs[i]? = some v → RM σ m v) : RM σ (.agg cs) (.agg vs)
  | fn (f : Nat) (cs : List M) (vs : Array Value) (hlt : f < 1024) (hl : vs.size = cs.length) (h : ∀ (i : Nat) (m : M) (v : Value), cs[i]? = some m → vs[i]? = some v → RM σ m v) : RM σ (.fn f cs) (.func (.func f) #[] vs)
  | fnB (f g : Nat) (cs : List M) (vs : Array Value) (hg : g = f + 1024) (hl : vs.size = cs.length) (h : ∀ (i : Nat) (m : M) (v : Value), cs[i]? = some m → vs[i]? = some v → RM σ m v) : RM σ (.fn g cs) (.func (.func f) vs #[])
  | tup (cs : List M) (vs : Array Value) (hl : vs.size = cs.length) (h : ∀ (i : Nat) (m : M) (v : Value), cs[i]? = some m → vs[i]? = some v → RM σ m v) : RM σ (.tup cs) (.tuple vs)
  | undef (v : Value) : RM σ .undef v

/-- What values refer to, stays. -/
structure Mono (σ τ : Sg) : Prop where
  cell : ∀ b o v, cellv σ.w b o = some v → ¬ σ.O b o → cellv τ.w b o = some v ∧ ¬ τ.O b o
  box : ∀ (i : Nat) cs, σ.H[i]? = some (.box cs) → (∃ cs', τ.H[i]? = some (.box cs')) ∧ τ.l i = σ.l i
  map : ∀ (i : Nat) es, σ.H[i]? = some (.map es) → (∃ es', τ.H[i]? = some (.map es')) ∧ τ.l i = σ.l i
  iter : ∀ (i : Nat) x, σ.H[i]? = some (.iter x) → (∃ x', τ.H[i]? = some (.iter x')) ∧ τ.l i = σ.l i
  dead : ∀ i : Nat, σ.H[i]? = some .dead → τ.H[i]? = some .dead
  row : ∀ (i : Nat) acc ec ver cs, σ.H[i]? = some (.row acc ec ver cs) → τ.H[i]? = some .dead ∨ ∃ acc' ver' cs', τ.H[i]? = some (.row acc' ec ver' cs') ∧ ver ≤ ver' ∧
    (ver' = ver → τ.l i = σ.l i ∧ cs'.length = cs.length ∧ ∀ arr T, σ.w.heap[σ.l i]? = some (.cells arr T (0, 0)) → ∃ arr', τ.w.heap[σ.l i]? = some (.cells arr' T (0, 0)) ∧ arr'.size = arr.size)
  free : ∀ i : Nat, σ.H[i]? = some .free → ∃ ob, τ.H[i]? = some ob

theorem Mono.refl (σ : Sg) : Mono σ σ :=
  ⟨fun _ _ _ h h' => ⟨h, h'⟩, fun _ cs h => ⟨⟨cs, h⟩, rfl⟩, fun _ es h => ⟨⟨es, h⟩, rfl⟩, fun _ x h => ⟨⟨x, h⟩, rfl⟩, fun _ h => h,
   fun _ acc ec ver cs h => .inr ⟨acc, ver, cs, h, Nat.le_refl _, fun _ => ⟨rfl, rfl, fun arr T h => ⟨arr, h, rfl⟩⟩⟩, fun _ h => ⟨_, h⟩⟩

/-- an object stays an object -/
theorem Mono.has {σ τ : Sg} (h : Mono σ τ) (i : Nat) (ob : Ob) (hi : σ.H[i]? = some ob) : ∃ ob', τ.H[i]? = some ob' := by
  cases ob with
  | box cs => obtain ⟨⟨cs', a⟩, _⟩ := h.box i cs hi; exact ⟨_, a⟩
  | map cs => obtain ⟨⟨cs', a⟩, _⟩ := h.map i cs hi; exact ⟨_, a⟩
  | iter cs => obtain ⟨⟨cs', a⟩, _⟩ := h.iter i cs hi; exact ⟨_, a⟩
  | dead => exact ⟨_, h.dead i hi⟩
  | free => exact h.free i hi
  | row acc ec ver cs =>
    rcases h.row i acc ec ver cs hi with a | ⟨_, _, _, a, _⟩
    · exact ⟨_, a⟩
    · exact ⟨_, a⟩

theorem Mono.trans {σ τ υ : Sg} (h : Mono σ τ) (k : Mono τ υ) : Mono σ υ := by
  refine ⟨?_, ?_, ?_, ?_, ?_, ?_, fun i h1 => let ⟨ob, h2⟩ := h.free i h1; k.has i ob h2⟩
  · intro b o v h1 h2
    obtain ⟨a1, a2⟩ := h.cell b o v h1 h2
    exact k.cell b o v a1 a2
  · intro i cs h1
    obtain ⟨⟨cs', a1⟩, a2⟩ := h.box i cs h1
    obtain ⟨a3, a4⟩ := k.box i cs' a1
    exact ⟨a3, a4.trans a2⟩
  · intro i cs h1
    obtain ⟨⟨cs', a1⟩, a2⟩ := h.map i cs h1
    obtain ⟨a3, a4⟩ := k.map i cs' a1
    exact ⟨a3, a4.trans a2⟩
  · intro i cs h1
    obtain ⟨⟨cs', a1⟩, a2⟩ := h.iter i cs h1
    obtain ⟨a3, a4⟩ := k.iter i cs' a1
    exact ⟨a3, a4.trans a2⟩
  · exact fun i h1 => k.dead i (h.dead i h1)
  · intro i acc ec ver cs h1
    rcases h.row i acc ec ver cs h1 with h2 | ⟨acc', ver', cs', h2, h3, h4⟩
    · exact .inl (k.dead i h2)
    · rcases k.row i acc' ec ver' cs' h2 with h5 | ⟨acc2, ver2, cs2, h5, h6, h7⟩
      · exact .inl h5
      · refine .inr ⟨acc2, ver2, cs2, h5, Nat.le_trans h3 h6, fun he => ?_⟩
        have e1 : ver' = ver := by omega
        have e2 : ver2 = ver' := by omega
        obtain ⟨x1, x2, x3⟩ := h4 e1
        obtain ⟨y1, y2, y3⟩ := h7 e2
        refine ⟨y1.trans x1, y2.trans x2, fun arr T ha => ?_⟩
        obtain ⟨arr1, z1, z2⟩ := x3 arr T ha
        rw [x1] at y3
        obtain ⟨arr2, z3, z4⟩ := y3 arr1 T z1
        exact ⟨arr2, z3, z4.trans z2⟩

theorem RM.mono {σ τ : Sg} (hm : Mono σ τ) {m : M} {v : Value} (h : RM σ m v) : RM τ m v := by
  have hlek : ∀ (i ver : Nat), (σ.H[i]? = some .dead ∨ ∃ acc ec ver' cs, σ.H[i]? = some (.row acc ec ver' cs) ∧ ver ≤ ver') →
      (τ.H[i]? = some .dead ∨ ∃ acc ec ver' cs, τ.H[i]? = some (.row acc ec ver' cs) ∧ ver ≤ ver') := by
    intro i ver h
    rcases h with h | ⟨acc, ec, ver', cs, h1, h2⟩
    · exact .inl (hm.dead i h)
    · rcases hm.row i acc ec ver' cs h1 with h3 | ⟨acc2, ver2, cs2, h3, h4, _⟩
      · exact .inl h3
      · exact .inr ⟨acc2, ec, ver2, cs2, h3, Nat.le_trans h2 h4⟩
  have hcurk : ∀ (i ver : Nat) acc ec cs, (σ.H[i]? = some .dead ∨ ∃ acc ec ver' cs, σ.H[i]? = some (.row acc ec ver' cs) ∧ ver ≤ ver') → τ.H[i]? = some (.row acc ec ver cs) →
      ∃ acc0 cs0, σ.H[i]? = some (.row acc0 ec ver cs0) ∧ τ.l i = σ.l i ∧ cs.length = cs0.length ∧ ∀ arr T, σ.w.heap[σ.l i]? = some (.cells arr T (0, 0)) → ∃ arr', τ.w.heap[σ.l i]? = some (.cells arr' T (0, 0)) ∧ arr'.size = arr.size := by
    intro i ver acc ec cs hle ht
    rcases hle with h | ⟨acc1, ec1, ver1, cs1, h1, h2⟩
    · have := hm.dead i h; rw [this] at ht; cases ht
    · rcases hm.row i acc1 ec1 ver1 cs1 h1 with h3 | ⟨acc2, ver2, cs2, h3, h4, h5⟩
      · rw [h3] at ht; cases ht
      · rw [h3] at ht
        injection ht with ht
        injection ht with e1 e2 e3 e4
        subst e1; subst e2; subst e4; subst e3
        have e : ver1 = ver2 := by omega
        subst e
        obtain ⟨x1, x2, x3⟩ := h5 rfl
        exact ⟨acc1, cs1, h1, x1, x2, x3⟩
  induction h with
  | d h => exact .d (h.mono hm.cell)
  | ref i off cs h =>
    obtain ⟨⟨cs', h1⟩, h2⟩ := hm.box i cs h
    rw [← h2]
    exact .ref i off cs' h1
  | rsl i ver len a cap hle hcur =>
    refine .rsl i ver len a cap (hlek i ver hle) fun acc ec cs ht => ?_
    obtain ⟨acc0, cs0, h1, h2, h3, h4⟩ := hcurk i ver acc ec cs hle ht
    obtain ⟨y1, y2, arr, T, y3, y4⟩ := hcur acc0 ec cs0 h1
    obtain ⟨arr', y5, y6⟩ := h4 arr T y3
    rw [h2]
    exact ⟨y1, h3.trans y2, arr', T, y5, y6.trans y4⟩
  | rref i ver off b hle hcur =>
    refine .rref i ver off b (hlek i ver hle) fun acc ec cs ht => ?_
    obtain ⟨acc0, cs0, h1, h2, h3, h4⟩ := hcurk i ver acc ec cs hle ht
    rw [h2]
    exact hcur acc0 ec cs0 h1
  | mp i es h =>
    obtain ⟨⟨es', h1⟩, h2⟩ := hm.map i es h
    rw [← h2]
    exact .mp i es' h1
  | it i x h =>
    obtain ⟨⟨x', h1⟩, h2⟩ := hm.iter i x h
    rw [← h2]
    exact .it i x' h1
  | agg cs vs hl hf h ih => exact .agg cs vs hl hf ih
  | fn f cs vs hlt hl h ih => exact .fn f cs vs hlt hl ih
  | fnB f g cs vs hg hl h ih => exact .fnB f g cs vs hg hl ih
  | tup cs vs hl h ih => exact .tup cs vs hl ih
  | undef v => exact .undef v

end Go.Mt

set_option linter.unusedVariables false
namespace Go.Mt

def RMs (σ : Sg) (ms : List M) (vs : Array Value) : Prop :=
  vs.size = ms.length ∧ ∀ (i : Nat) (m : M) (v : Value), ms[i]? = some m → vs[i]? = some v → RM σ m v

theorem RMs.mono {σ τ : Sg} (hm : Mono σ τ) {ms : List M} {vs : Array Value} (h : RMs σ ms vs) : RMs τ ms vs :=
  ⟨h.1, fun i m v h1 h2 => (h.2 i m v h1 h2).mono hm⟩

/-- cells, one by one -/
def RMc (σ : Sg) (ms : List M) (vs : Array Value) : Prop :=
  vs.size = ms.length ∧ ∀ (i : Nat) (m : M) (v : Value), ms[i]? = some m → vs[i]? = some v → RM σ m v ∧ flat v = true
theorem RMc.mono {σ τ : Sg} (hm : Mono σ τ) {ms : List M} {vs : Array Value} (h : RMc σ ms vs) : RMc τ ms vs :=
  ⟨h.1, fun i m v h1 h2 => ⟨(h.2 i m v h1 h2).1.mono hm, (h.2 i m v h1 h2).2⟩⟩

def Ob.live : Ob → Prop
  | .dead => False
  | .free => False
  | _ => True
def Ob.owns : Ob → Nat → Prop
  | .box _, _ => True
  | .map _, _ => True
  | .iter _, _ => True
  | .row acc _ _ cs, o => acc = false ∨ cs.length ≤ o
  | .dead, _ => False
  | .free, _ => False

theorem Ob.live_of_owns {ob : Ob} {o : Nat} (h : ob.owns o) : ob.live := by cases ob <;> first | trivial | exact h

def keyVal : D → Option Value
  | .str s => some (.string s)
  | .int k n => some (.int k n)
  | _ => none

/-- an entry of a map: by its key; keyed by a pointer; with its birth -/
def EntOk (σ : Sg) (e : D × M) (u : MapEntry) : Prop := (keyVal e.1 = some u.key ∧ RM σ e.2 u.val) ∨ (e.1 = .nilp ∧ RM σ e.2 (.tuple #[u.key, u.val])) ∨ (e.1 = .nilm ∧ RM σ e.2 (.tuple #[u.key, u.val, .int .i64 u.born]))
/-- births are ahead of the clock, and unlike -/
def BornOk (ents : Array MapEntry) (clock : Nat) : Prop := (∀ (i : Nat) u, ents[i]? = some u → u.born < clock) ∧ ∀ (i j : Nat) u v, ents[i]? = some u → ents[j]? = some v → u.born = v.born → i = j
theorem BornOk.push {ents : Array MapEntry} {clock : Nat} {k v : Value} (h : BornOk ents clock) : BornOk (ents.push { key := k, val := v, born := clock }) (clock + 1) := by
  refine ⟨fun i u hu => ?_, fun i j u v hu hv e => ?_⟩
  · rw [Array.getElem?_push] at hu
    split at hu
    · injection hu with hu; subst hu; exact Nat.lt_succ_self _
    · exact Nat.lt_succ_of_lt (h.1 i u hu)
  · rw [Array.getElem?_push] at hu hv
    split at hu <;> split at hv
    · omega
    · injection hu with hu; subst hu; have := h.1 j v hv; simp only at e; omega
    · injection hv with hv; subst hv; have := h.1 i u hu; simp only at e; omega
    · exact h.2 i j u v hu hv e
theorem BornOk.modify {ents : Array MapEntry} {clock n : Nat} {f : MapEntry → MapEntry} (h : BornOk ents clock) (hf : ∀ e, (f e).born = e.born) : BornOk (ents.modify n f) clock := by
  have key : ∀ (i : Nat) u, (ents.modify n f)[i]? = some u → ∃ u0, ents[i]? = some u0 ∧ u.born = u0.born := by
    intro i u hu
    rw [Array.getElem?_modify] at hu
    split at hu
    · obtain ⟨u0, h1, rfl⟩ := Option.map_eq_some_iff.1 hu
      exact ⟨u0, h1, hf u0⟩
    · exact ⟨u, hu, rfl⟩
  refine ⟨fun i u hu => ?_, fun i j u v hu hv e => ?_⟩
  · obtain ⟨u0, h1, h2⟩ := key i u hu
    rw [h2]; exact h.1 i u0 h1
  · obtain ⟨u0, h1, h2⟩ := key i u hu
    obtain ⟨v0, h3, h4⟩ := key j v hv
    exact h.2 i j u0 v0 h1 h3 (by rw [← h2, ← h4]; exact e)
/-- what an iterator over a map went over -/
def iterVal (om : Option Nat) (since : Nat) (seen : Array Nat) : Value := .tuple (#[.map om, .int .i64 since] ++ seen.map fun b => .int .i64 b)

theorem EntOk.up {σ τ : Sg} {e : D × M} {m : M} {u : MapEntry} (h : EntOk σ e u) (hr : ∀ v, RM σ e.2 v → RM τ m v) : EntOk τ (e.1, m) u := by
  rcases h with ⟨h1, h2⟩ | ⟨h1, h2⟩ | ⟨h1, h2⟩
  · exact .inl ⟨h1, hr _ h2⟩
  · exact .inr (.inl ⟨h1, hr _ h2⟩)
  · exact .inr (.inr ⟨h1, hr _ h2⟩)

def ObOk (σ : Sg) (b : Nat) : Ob → Prop
  | .box cs => ∃ arr T, σ.w.heap[b]? = some (.cells arr T (0, 0)) ∧ RMc σ cs arr
  | .row acc ec ver cs => 0 < ec ∧ ∃ arr T cap n, σ.w.heap[b]? = some (.cells arr T (0, 0)) ∧ arr.size = cap * ec ∧ n ≤ cap ∧ (cs.length = n * ec ∧ n ≤ 140737488355328) ∧
      ∀ (i : Nat) (m : M) (v : Value), cs[i]? = some m → arr[i]? = some v → RM σ m v ∧ flat v = true
  | .map es => ∃ ents clock, σ.w.heap[b]? = some (.map ents clock) ∧ ents.size = es.length ∧ (∀ (i : Nat) e u, es[i]? = some e → ents[i]? = some u → EntOk σ e u) ∧ BornOk ents clock
  | .iter x => (∃ om since seen last, σ.w.heap[b]? = some (.mapIter om since seen last) ∧ ((seen = #[] ∧ RM σ x (.map om)) ∨ (RM σ x (iterVal om since seen) ∧ since ≤ last))) ∨
      ∃ k m T, σ.w.heap[b]? = some (.cells #[.int k m] T (0, 0)) ∧ RM σ x (.tuple #[.int .i64 b, .int k m, .int .i64 (T : Nat)])
  | .dead => True
  | .free => True

/-- The heap's objects stand; Oo: who else owns cells. -/
structure HInv (σ : Sg) (Oo : Nat → Nat → Prop) : Prop where
  obj : ∀ (i : Nat) ob, σ.H[i]? = some ob → ObOk σ (σ.l i) ob
  inj : ∀ (i j : Nat) x y, σ.H[i]? = some x → σ.H[j]? = some y → x.live → y.live → σ.l i = σ.l j → i = j
  own : ∀ b o, σ.O b o ↔ Oo b o ∨ ∃ (i : Nat) (ob : Ob), σ.H[i]? = some ob ∧ σ.l i = b ∧ ob.owns o
  sep : ∀ (i : Nat) ob, σ.H[i]? = some ob → ob.live → ∀ o, ¬ Oo (σ.l i) o
  old : ∀ b o, Oo b o → b < σ.w.heap.size

theorem ObOk.lt {σ : Sg} {b : Nat} {ob : Ob} (h : ObOk σ b ob) (hl : ob.live) : b < σ.w.heap.size := by
  have key : ∀ x : Obj, σ.w.heap[b]? = some x → b < σ.w.heap.size := by
    intro x hx
    rcases Nat.lt_or_ge b σ.w.heap.size with h | h
    · exact h
    · simp [Array.getElem?_eq_none h] at hx
  cases ob with
  | box cs => obtain ⟨arr, T, h1, _⟩ := h; exact key _ h1
  | row acc ec ver cs => obtain ⟨_, arr, T, cap, n, h1, _⟩ := h; exact key _ h1
  | map es => obtain ⟨e, c, h1, _⟩ := h; exact key _ h1
  | iter x => rcases h with ⟨_, _, _, _, h1, _⟩ | ⟨_, _, _, h1, _⟩ <;> exact key _ h1
  | dead => exact hl.elim
  | free => exact hl.elim

theorem HInv.oold {σ : Sg} {Oo : Nat → Nat → Prop} (h : HInv σ Oo) : ∀ b o, σ.O b o → b < σ.w.heap.size := by
  intro b o hb
  rcases (h.own b o).1 hb with h1 | ⟨i, ob, h1, h2, h3⟩
  · exact h.old b o h1
  · rw [← h2]; exact (h.obj i ob h1).lt (Ob.live_of_owns h3)

/-- What lay there before and is no object of the heap is as it was. -/
structure Blk (σ τ : Sg) : Prop where
  os : τ.w.os = σ.w.os
  output : τ.w.output = σ.w.output
  tape : τ.w.tape = σ.w.tape
  size : σ.w.heap.size ≤ τ.w.heap.size
  blk : ∀ b, b < σ.w.heap.size → (∀ (i : Nat) ob, σ.H[i]? = some ob → ob.live → σ.l i ≠ b) → τ.w.heap[b]? = σ.w.heap[b]?
  loc : ∀ (i : Nat) ob, τ.H[i]? = some ob → ob.live → σ.w.heap.size ≤ τ.l i ∨ ∃ ob', σ.H[i]? = some ob' ∧ ob'.live ∧ τ.l i = σ.l i

theorem Blk.refl (σ : Sg) : Blk σ σ := ⟨rfl, rfl, rfl, Nat.le_refl _, fun _ _ _ => rfl, fun i ob h hl => .inr ⟨ob, h, hl, rfl⟩⟩

theorem Blk.trans {σ τ υ : Sg} (h : Blk σ τ) (k : Blk τ υ) : Blk σ υ := by
  refine ⟨k.os.trans h.os, k.output.trans h.output, k.tape.trans h.tape, Nat.le_trans h.size k.size, ?_, ?_⟩
  · intro b hb hn
    rw [k.blk b (Nat.lt_of_lt_of_le hb h.size) ?_, h.blk b hb hn]
    intro i ob hi hl he
    rcases h.loc i ob hi hl with h1 | ⟨ob', h1, h2, h3⟩
    · omega
    · exact hn i ob' h1 h2 (by rw [← h3]; exact he)
  · intro i ob hi hl
    rcases k.loc i ob hi hl with h1 | ⟨ob', h1, h2, h3⟩
    · exact .inl (Nat.le_trans h.size h1)
    · rcases h.loc i ob' h1 h2 with h4 | ⟨ob2, h4, h5, h6⟩
      · exact .inl (by rw [h3]; exact h4)
      · exact .inr ⟨ob2, h4, h5, h3.trans h6⟩

inductive RV (σ : Sg) (lam : Nat → Nat) : V → Value → Prop where
  | m {x : M} {v : Value} (h : RM σ x v) : RV σ lam (.m x) v
  | loc (t off : Nat) : RV σ lam (.loc t off) (.pointer (some ⟨lam t, off, none⟩))
  | tl (i ver off len : Nat) (a : Option Addr) (cap : Nat)
      (hle : σ.H[i]? = some .dead ∨ ∃ acc ec ver' cs, σ.H[i]? = some (.row acc ec ver' cs) ∧ ver ≤ ver')
      (hcur : ∀ acc ec cs, σ.H[i]? = some (.row acc ec ver cs) → (cap ≠ 0 → a = some ⟨σ.l i, off * ec, none⟩) ∧ cs.length = (off + len) * ec ∧ ∃ arr T, σ.w.heap[σ.l i]? = some (.cells arr T (0, 0)) ∧ arr.size = (off + cap) * ec) :
      RV σ lam (.tl i ver off len) (.slice a len cap)

theorem RV.mono {σ τ : Sg} {lam : Nat → Nat} (hm : Mono σ τ) {x : V} {v : Value} (h : RV σ lam x v) : RV τ lam x v := by
  cases h with
  | m h => exact .m (h.mono hm)
  | loc t off => exact .loc t off
  | tl i ver off len ad cap hle hcur =>
    refine .tl i ver off len ad cap ?_ fun acc ec cs ht => ?_
    · rcases hle with h | ⟨acc, ec, ver', cs, h1, h2⟩
      · exact .inl (hm.dead i h)
      · rcases hm.row i acc ec ver' cs h1 with h3 | ⟨acc2, ver2, cs2, h3, h4, _⟩
        · exact .inl h3
        · exact .inr ⟨acc2, ec, ver2, cs2, h3, Nat.le_trans h2 h4⟩
    · rcases hle with h | ⟨acc1, ec1, ver1, cs1, h1, h2⟩
      · have := hm.dead i h; rw [this] at ht; cases ht
      · rcases hm.row i acc1 ec1 ver1 cs1 h1 with h3 | ⟨acc2, ver2, cs2, h3, h4, h5⟩
        · rw [h3] at ht; cases ht
        · rw [h3] at ht
          injection ht with ht
          injection ht with e1 e2 e3 e4
          subst e1; subst e2; subst e4; subst e3
          have e : ver1 = ver2 := by omega
          subst e
          obtain ⟨x1, x2, x3⟩ := h5 rfl
          obtain ⟨y1, y2, arr, T, y3, y4⟩ := hcur acc1 ec1 cs1 h1
          obtain ⟨arr', y5, y6⟩ := x3 arr T y3
          rw [x1]
          exact ⟨y1, x2.trans y2, arr', T, y5, y6.trans y4⟩

def Oof (Oout : Nat → Nat → Prop) (lam : Nat → Nat) (bx : List (Nat × List M)) (b o : Nat) : Prop :=
  Oout b o ∨ ∃ t cs, get bx t = some cs ∧ lam t = b

structure Ctx where
  P : Program
  n : Nat
  s0 : Sg
  Oout : Nat → Nat → Prop
  df : List Deferred

/-- The invariant of a running function. -/
structure FInv (X : Ctx) (σ : Sg) (lam : Nat → Nat) (st : St) (a : Act) : Prop where
  hH : σ.H = st.H
  defers : a.defers = X.df
  size : a.tmps.size = X.n
  slot : ∀ t v, get st.sl t = some v → ∃ u, a.tmps[t]? = some u ∧ RV σ lam v u
  box : ∀ t cs, get st.bx t = some cs → ObOk σ (lam t) (.box cs)
  binj : ∀ t u cs ds, get st.bx t = some cs → get st.bx u = some ds → lam t = lam u → t = u
  bsep : ∀ t cs, get st.bx t = some cs → ∀ o, ¬ X.Oout (lam t) o
  bnew : ∀ t cs, get st.bx t = some cs → X.s0.w.heap.size ≤ lam t
  hinv : HInv σ (Oof X.Oout lam st.bx)
  mono : Mono X.s0 σ
  blk : Blk X.s0 σ

def Inv (X : Ctx) (st : St) (a : Act) (w : World) : Prop := ∃ σ lam, σ.w = w ∧ FInv X σ lam st a

/-- The triple over code. -/
def TC (X : Ctx) (c : Code) (st : St) (post : Exit → St → Prop) : Prop :=
  ∀ a w, Inv X st a w → c.wp X.P (fun e a' w' => ∃ st', post e st' ∧ Inv X st' a' w') a w

def TL (X : Ctx) (ops : Array Oper) (l : List Oper) (st : St) (post : St → Prop) : Prop :=
  ∀ a w, Inv X st a w → wpList X.P ops (fun e a' w' => e = .normal ∧ ∃ st', post st' ∧ Inv X st' a' w') l a w

def after (post : Exit → St → Prop) (k : St → Prop) : Exit → St → Prop
  | .normal, s => k s
  | e, s => post e s

section code
variable {X : Ctx} {st : St} {post : Exit → St → Prop}

theorem TC.mono {c : Code} {post' : Exit → St → Prop} (h : TC X c st post) (hp : ∀ e s, post e s → post' e s) : TC X c st post' :=
  fun a w hi => wp_mono (h a w hi) fun e a' w' ⟨s, h1, h2⟩ => ⟨s, hp _ _ h1, h2⟩

theorem TC.seq {x y : Code} (h : TC X x st (after post fun s => TC X y s post)) : TC X (.seq x y) st post := by
  intro a w hi
  refine wp_seq (wp_mono (h a w hi) ?_)
  intro e a' w' ⟨s, h1, h2⟩
  cases e with
  | normal => exact h1 a' w' h2
  | _ => exact ⟨s, h1, h2⟩

theorem TC.skip (h : post .normal st) : TC X .skip st post := fun a w hi => wp_skip ⟨st, h, hi⟩
theorem TC.exit {id : Nat} (h : post (.exit id) st) : TC X (.exit id) st post := fun a w hi => wp_exit ⟨st, h, hi⟩
theorem TC.ret (h : post .ret st) : TC X .ret st post := fun a w hi => wp_ret ⟨st, h, hi⟩

def inBlk (id : Nat) (post : Exit → St → Prop) : Exit → St → Prop
  | .exit i, s => if i = id then post .normal s else post (.exit i) s
  | e, s => post e s

theorem TC.block {id : Nat} {c : Code} (h : TC X c st (inBlk id post)) : TC X (.block id c) st post := by
  intro a w hi
  refine wp_block (wp_mono (h a w hi) ?_)
  intro e a' w' ⟨s, h1, h2⟩
  cases e with
  | exit i =>
    simp only [inBlk] at h1
    simp only [Exit.inBlock]
    by_cases he : i = id
    · rw [if_pos he] at h1 ⊢; exact ⟨s, h1, h2⟩
    · rw [if_neg he] at h1 ⊢; exact ⟨s, h1, h2⟩
  | _ => exact ⟨s, h1, h2⟩

theorem TC.loop {c : Code} (I : Nat → St → Prop) (k0 : Nat) (h0 : I k0 st)
    (round : ∀ k s, I k s → TC X c s (after post fun s' => ∃ k', k' < k ∧ I k' s')) : TC X (.loop c) st post := by
  intro a w hi
  refine wp_loop_ghost (fun k a w => ∃ s, I k s ∧ Inv X s a w) k0 ⟨st, h0, hi⟩ ?_
  rintro k a w ⟨s, h1, h2⟩
  refine wp_mono (round k s h1 a w h2) ?_
  intro e a' w' ⟨s', h3, h4⟩
  cases e with
  | normal => obtain ⟨k', h5, h6⟩ := h3; exact ⟨k', h5, s', h6, h4⟩
  | _ => exact ⟨s', h3, h4⟩

theorem TC.region {id : Nat} {ops : List Oper} (h : TL X ops.toArray ops st (post .normal)) : TC X (.region id ops.toArray false) st post := by
  intro a w hi
  refine wp_region_lit ?_
  have key : ∀ l a w, wpList X.P ops.toArray (fun e a' w' => e = .normal ∧ ∃ st', post .normal st' ∧ Inv X st' a' w') l a w →
      wpList X.P ops.toArray (fun e a' w' => ∃ st', post e st' ∧ Inv X st' a' w') l a w := by
    have hq : ∀ (e : Exit) a w, (e = .normal ∧ ∃ st', post .normal st' ∧ Inv X st' a w) → ∃ st', post e st' ∧ Inv X st' a w := by
      rintro e a w ⟨rfl, h⟩; exact h
    have hlet : ∀ (Q Q' : Exit → Act → World → Prop), (∀ e a w, Q e a w → Q' e a w) → LetsOut Q → LetsOut Q' := fun Q Q' h ⟨a, w, q⟩ => ⟨a, w, h _ _ _ q⟩
    have up : ∀ (o : Oper) (a : Act) (w : World) (next next' : Act → World → Prop) (Q Q' : Exit → Act → World → Prop), (∀ a w, next a w → next' a w) → (∀ e a w, Q e a w → Q' e a w) → o.wp X.P a w next Q → o.wp X.P a w next' Q' := by
      intro o a w next next' Q Q' hn hq h
      unfold Oper.wp at *
      generalize (execOp a.eval o).run X.P w = r at *
      cases r with
      | ok x w' =>
        cases x <;> simp only [Oper.upon] at h ⊢ <;>
          first
            | exact hn _ _ h
            | exact Calls.mono h (fun e w'' he => by cases e <;> first | exact hn _ _ he | exact hq _ _ _ he | exact hlet _ _ hq he)
            | exact Rows.mono h (fun _ _ he => hn _ _ he)
            | exact h
      | halt x w' => cases x <;> simp only [Oper.upon] at h ⊢ <;> first | exact hq _ _ _ h | exact h
    intro l
    induction l with
    | nil => intro a w h; exact hq _ _ _ h
    | cons o l ih =>
      intro a w h
      unfold wpList at h ⊢
      split
      · rename_i hw
        rw [if_pos hw] at h
        rcases h with h | ⟨h1, h2⟩
        · exact .inl (up o a w _ _ _ _ ih hq h)
        · exact .inr ⟨h1, hlet _ _ hq h2⟩
      · rename_i hw
        rw [if_neg hw] at h
        exact ih _ _ h
  exact key _ _ _ (h a w hi)

end code
end Go.Mt

set_option linter.unusedVariables false
namespace Go.Mt

def OpRun (P : Program) (o : Oper) (ρ : Operand → Value) (w : World) (post : Value → World → Prop) : Prop :=
  match (execOp ρ o).run P w with
  | .ok (.value u) w' => post u w'
  | .ok .skip w' => post undef w'
  | .ok (.enter f args) w' => Calls P f args w' fun e w'' => ∃ u, e = .returned u ∧ post u w''
  | _ => False

theorem OpRun.value {P : Program} {o : Oper} {ρ : Operand → Value} {w w' : World} {u : Value} {post : Value → World → Prop}
    (h : (execOp ρ o).run P w = .ok (.value u) w') (hp : post u w') : OpRun P o ρ w post := by
  unfold OpRun; rw [h]; exact hp
theorem OpRun.skip {P : Program} {o : Oper} {ρ : Operand → Value} {w w' : World} {post : Value → World → Prop}
    (h : (execOp ρ o).run P w = .ok .skip w') (hp : post undef w') : OpRun P o ρ w post := by
  unfold OpRun; rw [h]; exact hp
theorem OpRun.enter {P : Program} {o : Oper} {ρ : Operand → Value} {w w' : World} {f : Nat} {args : Array Value} {post : Value → World → Prop}
    (h : (execOp ρ o).run P w = .ok (.enter f args) w') (hp : Calls P f args w' fun e w'' => ∃ u, e = .returned u ∧ post u w'') : OpRun P o ρ w post := by
  unfold OpRun; rw [h]; exact hp

theorem OpRun.wp {P : Program} {o : Oper} {a : Act} {w : World} {post : Value → World → Prop} {next : Act → World → Prop} {Q : Exit → Act → World → Prop}
    (h : OpRun P o a.eval w post) (hn : ∀ u w', post u w' → next (a.put o.dst u) w') : o.wp P a w next Q := by
  unfold OpRun at h
  unfold Oper.wp
  generalize (execOp a.eval o).run P w = r at *
  cases r with
  | ok x w' =>
    cases x <;> simp only [Oper.upon] at h ⊢ <;>
      first
        | exact hn _ _ h
        | exact h.elim
        | exact Calls.mono h (fun e w'' ⟨u, he, hu⟩ => by subst he; exact hn _ _ hu)
  | halt x w' => simp at h

def OpT (X : Ctx) (o : Oper) (st : St) (post : V → St → Prop) : Prop :=
  ∀ a σ lam, FInv X σ lam st a → OpRun X.P o a.eval σ.w fun u w' => ∃ v st' σ' lam', post v st' ∧ σ'.w = w' ∧ FInv X σ' lam' st' a ∧ RV σ' lam' v u

def wants (ops : Array Oper) (o : Oper) (st : St) : Option Bool :=
  match o.guard with
  | none => some true
  | some (j, want) => match (ops[j]?).bind (·.dst) with
    | some g => match get st.sl g with
      | some (.m (.d (.bool b))) => some (b == want)
      | some (.m (.tup [])) => some false
      | _ => none
    | none => none

theorem get_cons {α : Type} (k t : Nat) (v : α) (l : List (Nat × α)) : get ((k, v) :: l) t = if k = t then some v else get l t := by
  show (bif Nat.beq k t then some v else get l t) = _
  by_cases h : k = t
  · subst h; simp
  · have : Nat.beq k t = false := by rw [← Bool.not_eq_true]; intro e; exact h (Nat.eq_of_beq_eq_true e)
    rw [this, if_neg h]; rfl

theorem FInv.set {X : Ctx} {σ : Sg} {lam : Nat → Nat} {sl : List (Nat × V)} {bx : List (Nat × List M)} {H : Hp} {a : Act} {d : Nat} {v : V} {u : Value}
    (h : FInv X σ lam ⟨sl, bx, H⟩ a) (hd : d < X.n) (hv : RV σ lam v u) : FInv X σ lam ⟨(d, v) :: sl, bx, H⟩ (a.put (some d) u) := by
  refine ⟨h.hH, h.defers, ?_, ?_, h.box, h.binj, h.bsep, h.bnew, h.hinv, h.mono, h.blk⟩
  · simp [Act.put, h.size]
  · intro t x hx
    simp only [get_cons] at hx
    by_cases e : d = t
    · subst e
      simp at hx; subst hx
      refine ⟨u, ?_, hv⟩
      simp [Act.put, h.size, hd]
    · rw [if_neg e] at hx
      obtain ⟨u', h1, h2⟩ := h.slot t x hx
      refine ⟨u', ?_, h2⟩
      simp [Act.put, Array.getElem?_setIfInBounds_ne e, h1]

theorem FInv.wanted {X : Ctx} {σ : Sg} {lam : Nat → Nat} {st : St} {a : Act} (h : FInv X σ lam st a) {ops : Array Oper} {o : Oper} {b : Bool}
    (hw : wants ops o st = some b) : Region.wanted o (yielded ops a.tmps) = b := by
  unfold wants at hw
  unfold Region.wanted
  split at hw
  · rename_i hg; simp only [hg]; injection hw with e
  · rename_i j want hg
    simp only [hg]
    split at hw
    · rename_i g hgd
      split at hw
      · rename_i b' hb
        obtain ⟨u, h1, h2⟩ := h.slot _ _ hb
        cases h2 with
        | m h3 => cases h3 with
          | d h4 => cases h4 with
            | bool b' =>
              injection hw with e
              subst e
              simp only [yielded, hgd, Option.bind_some, h1]
              cases b' <;> cases want <;> rfl
      · rename_i hb
        obtain ⟨u, h1, h2⟩ := h.slot _ _ hb
        cases h2 with
        | m h3 => cases h3 with
          | tup cs vs hl hh =>
            injection hw with e
            subst e
            simp only [yielded, hgd, Option.bind_some, h1]
            cases want <;> rfl
      · cases hw
    · cases hw

theorem blt_lt {a b : Nat} (h : Nat.blt a b = true) : a < b := by rw [Nat.blt_eq] at h; exact h

/-- one operation, carried out -/
theorem TL.op {X : Ctx} {ops : Array Oper} {o : Oper} {rest : List Oper} {st : St} {post : St → Prop} {post' : V → St → Prop} {d : Nat}
    (hw : wants ops o st = some true) (hd : o.dst = some d) (hn : Nat.blt d X.n = true) (h : OpT X o st post')
    (k : ∀ v s, post' v s → TL X ops rest ⟨(d, v) :: s.sl, s.bx, s.H⟩ post) : TL X ops (o :: rest) st post := by
  rintro a w ⟨σ, lam, rfl, hi⟩
  unfold wpList
  rw [if_pos (hi.wanted hw)]
  refine .inl ((h a σ lam hi).wp ?_)
  rintro u w' ⟨v, s, σ', lam', h1, h2, h3, h4⟩
  rw [hd]
  exact k v s h1 _ _ ⟨σ', lam', h2, h3.set (blt_lt hn) h4⟩

/-- one operation without a slot, carried out -/
theorem TL.op0 {X : Ctx} {ops : Array Oper} {o : Oper} {rest : List Oper} {st : St} {post : St → Prop} {post' : V → St → Prop}
    (hw : wants ops o st = some true) (hd : o.dst = none) (h : OpT X o st post')
    (k : ∀ v s, post' v s → TL X ops rest s post) : TL X ops (o :: rest) st post := by
  rintro a w ⟨σ, lam, rfl, hi⟩
  unfold wpList
  rw [if_pos (hi.wanted hw)]
  refine .inl ((h a σ lam hi).wp ?_)
  rintro u w' ⟨v, s, σ', lam', h1, h2, h3, h4⟩
  rw [hd]
  exact k v s h1 _ _ ⟨σ', lam', h2, h3⟩

/-- one operation whose guard says no -/
theorem TL.skip {X : Ctx} {ops : Array Oper} {o : Oper} {rest : List Oper} {st : St} {post : St → Prop} {d : Nat}
    (hw : wants ops o st = some false) (hd : o.dst = some d) (hn : Nat.blt d X.n = true)
    (k : TL X ops rest ⟨(d, .m (.tup [])) :: st.sl, st.bx, st.H⟩ post) : TL X ops (o :: rest) st post := by
  intro a w ⟨σ, lam, hσ, hi⟩
  unfold wpList
  rw [if_neg (by rw [hi.wanted hw]; simp)]
  rw [hd]
  exact k _ _ ⟨σ, lam, hσ, hi.set (blt_lt hn) (.m (.tup [] #[] rfl (by intro i m v h; simp at h)))⟩

theorem TL.nil {X : Ctx} {ops : Array Oper} {st : St} {post : St → Prop} (h : post st) : TL X ops [] st post :=
  fun a w hi => ⟨rfl, st, h, hi⟩

/-- the post of a deterministic operation -/
def eqp (v : V) (st : St) : V → St → Prop := fun v' s' => v' = v ∧ s' = st

theorem TL.op1 {X : Ctx} {ops : Array Oper} {o : Oper} {rest : List Oper} {st : St} {post : St → Prop} {v : V} {s : St} {d : Nat}
    (hw : wants ops o st = some true) (hd : o.dst = some d) (hn : Nat.blt d X.n = true) (h : OpT X o st (eqp v s))
    (k : TL X ops rest ⟨(d, v) :: s.sl, s.bx, s.H⟩ post) : TL X ops (o :: rest) st post :=
  TL.op hw hd hn h fun v' s' ⟨h1, h2⟩ => by subst h1; subst h2; exact k
theorem TL.op01 {X : Ctx} {ops : Array Oper} {o : Oper} {rest : List Oper} {st : St} {post : St → Prop} {v : V} {s : St}
    (hw : wants ops o st = some true) (hd : o.dst = none) (h : OpT X o st (eqp v s))
    (k : TL X ops rest s post) : TL X ops (o :: rest) st post :=
  TL.op0 hw hd h fun v' s' ⟨h1, h2⟩ => by subst h1; subst h2; exact k

theorem OpT.quiet {X : Ctx} {o : Oper} {st : St} {v : V} (h : ∀ a σ lam, FInv X σ lam st a → ∃ u, (execOp a.eval o).run X.P σ.w = .ok (.value u) σ.w ∧ RV σ lam v u) :
    OpT X o st (eqp v st) := by
  intro a σ lam hi
  obtain ⟨u, h1, h2⟩ := h a σ lam hi
  exact OpRun.value h1 ⟨v, st, σ, lam, ⟨rfl, rfl⟩, rfl, hi, h2⟩

theorem dOfCell_rep {O : Nat → Nat → Prop} {w : World} {v : Value} {d : D} (h : dOfCell v = some d) : Rep O w d v := by
  unfold dOfCell at h
  split at h <;> first
    | (injection h with h; subst h; constructor)
    | cases h

theorem dOfCells_rep {O : Nat → Nat → Prop} {w : World} : ∀ {vs : List Value} {ds : List D}, dOfCells vs = some ds →
    vs.length = ds.length ∧ ∀ (i : Nat) d v, ds[i]? = some d → vs[i]? = some v → Rep O w d v
  | [], ds, h => by simp [dOfCells] at h; subst h; simp
  | v :: r, ds, h => by
    simp only [dOfCells] at h
    split at h
    · rename_i d ds' h1 h2
      injection h with h; subst h
      obtain ⟨h3, h4⟩ := dOfCells_rep (O := O) (w := w) h2
      refine ⟨by simp [h3], fun i d' v' hd hv => ?_⟩
      cases i with
      | zero => simp at hd hv; subst hd; subst hv; exact dOfCell_rep h1
      | succ i => simp at hd hv; exact h4 i d' v' hd hv
    · cases h

theorem dOfCell_flat {v : Value} {d : D} (h : dOfCell v = some d) : flat v = true := by
  unfold dOfCell at h
  split at h <;> first | rfl | cases h
theorem dOfCells_flat : ∀ {vs : List Value} {ds : List D}, dOfCells vs = some ds → ∀ (i : Nat) (v : Value), vs[i]? = some v → flat v = true
  | [], ds, h, i, v, hv => by simp at hv
  | x :: r, ds, h, i, v, hv => by
    simp only [dOfCells] at h
    split at h
    · rename_i d ds' h1 h2
      cases i with
      | zero => simp at hv; subst hv; exact dOfCell_flat h1
      | succ i => simp at hv; exact dOfCells_flat h2 i v hv
    · cases h

theorem dOfVal_rep {O : Nat → Nat → Prop} {w : World} {v : Value} {d : D} (h : dOfVal v = some d) : Rep O w d v := by
  unfold dOfVal at h
  split at h
  · rename_i cs
    cases hc : dOfCells cs.toList with
    | none => simp [hc] at h
    | some ds =>
      simp [hc] at h; subst h
      obtain ⟨h3, h4⟩ := dOfCells_rep (O := O) (w := w) hc
      exact .agg ds cs (by simpa using h3) (fun i v hv => dOfCells_flat hc i v (by simpa using hv)) (fun i d v hd hv => h4 i d v hd (by simpa using hv))
  · exact dOfCell_rep h

theorem FInv.ev {X : Ctx} {σ : Sg} {lam : Nat → Nat} {st : St} {a : Act} (h : FInv X σ lam st a) {x : Operand} {v : V} (hx : st.ev x = some v) :
    RV σ lam v (a.eval x) := by
  cases x with
  | tmp t =>
    obtain ⟨u, h1, h2⟩ := h.slot t v hx
    have : a.eval (.tmp t) = u := by simp [Act.eval, h1]
    rw [this]; exact h2
  | const c =>
    simp only [St.ev, evs] at hx
    cases hc : dOfVal c with
    | none => simp [hc] at hx
    | some d => simp [hc] at hx; subst hx; exact .m (.d (dOfVal_rep hc))
  | func f =>
    simp only [St.ev, evs] at hx
    injection hx with hx; subst hx
    exact .m (.d (.fn f [] #[] rfl (by simp)))
  | global g => simp [St.ev, evs] at hx

section ops
variable {X : Ctx} {st : St} {dst : Option Nat} {ty : Nat} {pos : String} {af : Array Edge} {g : Option (Nat × Bool)}

theorem op_move {x : Operand} {v : V} (hx : st.ev x = some v) : OpT X ⟨dst, .move x, ty, pos, af, g⟩ st (eqp v st) :=
  OpT.quiet fun a σ lam hi => ⟨_, by simp [execOp], hi.ev hx⟩
theorem op_assign {x : Operand} {v : V} (hx : st.ev x = some v) : OpT X ⟨dst, .assign x, ty, pos, af, g⟩ st (eqp v st) :=
  OpT.quiet fun a σ lam hi => ⟨_, by simp [execOp], hi.ev hx⟩

theorem FInv.evd {σ : Sg} {lam : Nat → Nat} {a : Act} (h : FInv X σ lam st a) {x : Operand} {d : D} (hx : st.ev x = some (.m (.d d))) :
    Rep σ.O σ.w d (a.eval x) := by
  have := h.ev hx
  cases this with
  | m h => cases h with
    | d h => exact h
theorem FInv.evbool {σ : Sg} {lam : Nat → Nat} {a : Act} (h : FInv X σ lam st a) {x : Operand} {b : Bool} (hx : st.ev x = some (.m (.d (.bool b)))) :
    a.eval x = .bool b := by
  have := h.evd hx
  generalize a.eval x = u at *
  cases this; rfl
theorem FInv.evint {σ : Sg} {lam : Nat → Nat} {a : Act} (h : FInv X σ lam st a) {x : Operand} {k : IntKind} {n : Int} (hx : st.ev x = some (.m (.d (.int k n)))) :
    a.eval x = .int k n := by
  have := h.evd hx
  generalize a.eval x = u at *
  cases this; rfl
theorem FInv.evstr {σ : Sg} {lam : Nat → Nat} {a : Act} (h : FInv X σ lam st a) {x : Operand} {s : ByteArray} (hx : st.ev x = some (.m (.d (.str s)))) :
    a.eval x = .string s := by
  have := h.evd hx
  generalize a.eval x = u at *
  cases this; rfl

theorem op_pick_t {c x y : Operand} {v : V} (hc : st.ev c = some (.m (.d (.bool true)))) (hx : st.ev x = some v) :
    OpT X ⟨dst, .pick c x y, ty, pos, af, g⟩ st (eqp v st) :=
  OpT.quiet fun a σ lam hi => ⟨_, by simp [execOp, hi.evbool hc, asBool], hi.ev hx⟩
theorem op_pick_f {c x y : Operand} {v : V} (hc : st.ev c = some (.m (.d (.bool false)))) (hx : st.ev y = some v) :
    OpT X ⟨dst, .pick c x y, ty, pos, af, g⟩ st (eqp v st) :=
  OpT.quiet fun a σ lam hi => ⟨_, by simp [execOp, hi.evbool hc, asBool], hi.ev hx⟩

/-- integer operators that cannot fail -/
def intBin : BinOp → IntKind → Int → Int → Option D
  | .add, k, a, b => some (.int k (k.wrap (a + b)))
  | .sub, k, a, b => some (.int k (k.wrap (a - b)))
  | .mul, k, a, b => some (.int k (k.wrap (a * b)))
  | .eql, _, a, b => some (.bool (a == b))
  | .neq, _, a, b => some (.bool (a != b))
  | .lss, _, a, b => some (.bool (decide (a < b)))
  | .leq, _, a, b => some (.bool (decide (a ≤ b)))
  | .gtr, _, a, b => some (.bool (decide (a > b)))
  | .geq, _, a, b => some (.bool (decide (a ≥ b)))
  | _, _, _, _ => none

theorem op_int {op : BinOp} {xt yt : Nat} {x y : Operand} {k : IntKind} {m n : Int} {r : D} (hx : st.ev x = some (.m (.d (.int k m)))) (hy : st.ev y = some (.m (.d (.int k n))))
    (hr : intBin op k m n = some r) : OpT X ⟨dst, .binOp op xt x y yt, ty, pos, af, g⟩ st (eqp (.m (.d r)) st) := by
  refine OpT.quiet fun a σ lam hi => ?_
  have h1 := hi.evint hx
  have h2 := hi.evint hy
  cases op <;> simp only [intBin] at hr <;> first | (injection hr with hr; subst hr; refine ⟨_, by simp [execOp, h1, h2, eqGuard, binOp, Op.intArith, Op.intCmp]; rfl, ?_⟩; exact .m (.d (by constructor))) | cases hr

theorem op_quo {xt yt : Nat} {x y : Operand} {k : IntKind} {m n : Int} (hx : st.ev x = some (.m (.d (.int k m)))) (hy : st.ev y = some (.m (.d (.int k n))))
    (hn : (n == 0) = false) : OpT X ⟨dst, .binOp .quo xt x y yt, ty, pos, af, g⟩ st (eqp (.m (.d (.int k (k.wrap (m.tdiv n))))) st) := by
  refine OpT.quiet fun a σ lam hi => ?_
  have h1 := hi.evint hx
  have h2 := hi.evint hy
  have h3 : ¬ n = 0 := by simpa using hn
  exact ⟨_, by simp [execOp, h1, h2, eqGuard, binOp, Op.intDiv, h3]; rfl, .m (.d (by constructor))⟩
theorem op_rem {xt yt : Nat} {x y : Operand} {k : IntKind} {m n : Int} (hx : st.ev x = some (.m (.d (.int k m)))) (hy : st.ev y = some (.m (.d (.int k n))))
    (hn : (n == 0) = false) : OpT X ⟨dst, .binOp .rem xt x y yt, ty, pos, af, g⟩ st (eqp (.m (.d (.int k (m.tmod n)))) st) := by
  refine OpT.quiet fun a σ lam hi => ?_
  have h1 := hi.evint hx
  have h2 := hi.evint hy
  have h3 : ¬ n = 0 := by simpa using hn
  exact ⟨_, by simp [execOp, h1, h2, eqGuard, binOp, Op.intDiv, h3]; rfl, .m (.d (by constructor))⟩

theorem op_not {x : Operand} {xt : Nat} {b : Bool} (hx : st.ev x = some (.m (.d (.bool b)))) : OpT X ⟨dst, .unOp .not xt x, ty, pos, af, g⟩ st (eqp (.m (.d (.bool (!b)))) st) := by
  refine OpT.quiet fun a σ lam hi => ?_
  have h1 := hi.evbool hx
  exact ⟨_, by simp [execOp, h1, Op.unary]; rfl, .m (.d (by constructor))⟩
theorem op_neg {x : Operand} {xt : Nat} {k : IntKind} {n : Int} (hx : st.ev x = some (.m (.d (.int k n)))) : OpT X ⟨dst, .unOp .neg xt x, ty, pos, af, g⟩ st (eqp (.m (.d (.int k (k.wrap (-n))))) st) := by
  refine OpT.quiet fun a σ lam hi => ?_
  have h1 := hi.evint hx
  exact ⟨_, by simp [execOp, h1, Op.unary, Op.intArith]; rfl, .m (.d (by constructor))⟩

theorem ba_toList_beq (a b : ByteArray) : (a.toList == b.toList) = decide (a = b) := by
  rw [Bool.eq_iff_iff]
  simp
  constructor
  · intro h
    have : a.data.toList = b.data.toList := by
      rw [ByteArray.toList_eq, ByteArray.toList_eq] at h; exact h
    cases a; cases b; simp at this; simp [this]
  · rintro rfl; rfl

/-- string operators that cannot fail -/
def strBin : BinOp → ByteArray → ByteArray → Option D
  | .eql, a, b => some (.bool (decide (a = b)))
  | .neq, a, b => some (.bool (!decide (a = b)))
  | .lss, a, b => some (.bool (Op.bytesLess a.toList b.toList))
  | _, _, _ => none
end ops
end Go.Mt

set_option linter.unusedVariables false
namespace Go.Mt

/-- w' has all that w had, and more. -/
structure ExtW (w w' : World) : Prop where
  os : w'.os = w.os
  output : w'.output = w.output
  tape : w'.tape = w.tape
  size : w.heap.size ≤ w'.heap.size
  blk : ∀ b, b < w.heap.size → w'.heap[b]? = w.heap[b]?

theorem ExtW.refl (w : World) : ExtW w w := ⟨rfl, rfl, rfl, Nat.le_refl _, fun _ _ => rfl⟩
theorem ExtW.trans {a b c : World} (h : ExtW a b) (k : ExtW b c) : ExtW a c :=
  ⟨k.os.trans h.os, k.output.trans h.output, k.tape.trans h.tape, Nat.le_trans h.size k.size, fun i hi => (k.blk i (Nat.lt_of_lt_of_le hi h.size)).trans (h.blk i hi)⟩
theorem ExtW.alloc (w : World) (o : Obj) : ExtW w { w with heap := w.heap.push o } :=
  ⟨rfl, rfl, rfl, by simp, fun b hb => by simp [Array.getElem?_push]; omega⟩
theorem ExtW.drew (w : World) : ExtW w { w with drawn := w.drawn + 1 } := ⟨rfl, rfl, rfl, Nat.le_refl _, fun _ _ => rfl⟩

theorem lt_of_heap {w : World} {b : Nat} {x : Obj} (h : w.heap[b]? = some x) : b < w.heap.size := by
  rcases Nat.lt_or_ge b w.heap.size with h' | h'
  · exact h'
  · simp [Array.getElem?_eq_none h'] at h
theorem lt_of_cellv {w : World} {b o : Nat} {v : Value} (h : cellv w b o = some v) : b < w.heap.size := by
  unfold cellv World.cell? at h
  cases hb : w.heap[b]? with
  | none => simp [hb] at h
  | some x => exact lt_of_heap hb
theorem cellv_of_blk {w w' : World} {b o : Nat} (h : w'.heap[b]? = w.heap[b]?) : cellv w' b o = cellv w b o := by
  unfold cellv World.cell?; rw [h]
theorem ExtW.cell {w w' : World} (h : ExtW w w') {b o : Nat} {v : Value} (hc : cellv w b o = some v) : cellv w' b o = some v := by
  rw [cellv_of_blk (h.blk b (lt_of_cellv hc))]; exact hc
theorem ExtW.heap {w w' : World} (h : ExtW w w') {b : Nat} {x : Obj} (hc : w.heap[b]? = some x) : w'.heap[b]? = some x := by
  rw [h.blk b (lt_of_heap hc)]; exact hc

theorem Mono.ext {σ : Sg} {w' : World} (h : ExtW σ.w w') : Mono σ { σ with w := w' } :=
  ⟨fun b o v h1 h2 => ⟨h.cell h1, h2⟩, fun i cs h1 => ⟨⟨cs, h1⟩, rfl⟩, fun i cs h1 => ⟨⟨cs, h1⟩, rfl⟩, fun i cs h1 => ⟨⟨cs, h1⟩, rfl⟩, fun i h1 => h1,
   fun i acc ec ver cs h1 => .inr ⟨acc, ver, cs, h1, Nat.le_refl _, fun _ => ⟨rfl, rfl, fun arr T ha => ⟨arr, h.heap ha, rfl⟩⟩⟩, fun _ h => ⟨_, h⟩⟩

theorem ObOk.keep {σ τ : Sg} (hm : Mono σ τ) {b : Nat} {ob : Ob} (hb : ∀ x, σ.w.heap[b]? = some x → τ.w.heap[b]? = some x) (h : ObOk σ b ob) : ObOk τ b ob := by
  cases ob with
  | box cs => obtain ⟨arr, T, h1, h2⟩ := h; exact ⟨arr, T, hb _ h1, h2.mono hm⟩
  | row acc ec ver cs => obtain ⟨h0, arr, T, cap, n, h1, h2, h3, h4, h5⟩ := h; exact ⟨h0, arr, T, cap, n, hb _ h1, h2, h3, h4, fun i m v a b => ⟨(h5 i m v a b).1.mono hm, (h5 i m v a b).2⟩⟩
  | map es => obtain ⟨e, c, h1, h2, h3, h4⟩ := h; exact ⟨e, c, hb _ h1, h2, fun i e u a b => (h3 i e u a b).up fun v hv => hv.mono hm, h4⟩
  | iter x => 
    rcases h with ⟨om, s, se, l, h1, h2⟩ | ⟨k, m, T, h1, h2⟩
    · exact .inl ⟨om, s, se, l, hb _ h1, h2.imp (fun h => ⟨h.1, h.2.mono hm⟩) fun h => ⟨h.1.mono hm, h.2⟩⟩
    · exact .inr ⟨k, m, T, hb _ h1, h2.mono hm⟩
  | dead => trivial
  | free => trivial

theorem HInv.ext {σ : Sg} {Oo : Nat → Nat → Prop} {w' : World} (hi : HInv σ Oo) (h : ExtW σ.w w') : HInv { σ with w := w' } Oo :=
  ⟨fun i ob h1 => (hi.obj i ob h1).keep (Mono.ext h) (fun x hx => h.heap hx), hi.inj, hi.own, hi.sep, fun b o hb => Nat.lt_of_lt_of_le (hi.old b o hb) h.size⟩

theorem Blk.ext {σ : Sg} {w' : World} (h : ExtW σ.w w') : Blk σ { σ with w := w' } :=
  ⟨h.os, h.output, h.tape, h.size, fun b hb _ => h.blk b hb, fun i ob h1 h2 => .inr ⟨ob, h1, h2, rfl⟩⟩

theorem FInv.ext {X : Ctx} {σ : Sg} {lam : Nat → Nat} {st : St} {a : Act} {w' : World} (hi : FInv X σ lam st a) (h : ExtW σ.w w') :
    FInv X { σ with w := w' } lam st a :=
  ⟨hi.hH, hi.defers, hi.size, fun t v h1 => let ⟨u, h2, h3⟩ := hi.slot t v h1; ⟨u, h2, h3.mono (Mono.ext h)⟩,
   fun t cs h1 => (hi.box t cs h1).keep (Mono.ext h) (fun x hx => h.heap hx), hi.binj, hi.bsep, hi.bnew, hi.hinv.ext h,
   hi.mono.trans (Mono.ext h), hi.blk.trans (Blk.ext h)⟩

/-- An operation that makes memory and hands back a value. -/
theorem OpT.grow {X : Ctx} {o : Oper} {st : St} {v : V} (h : ∀ a σ lam, FInv X σ lam st a → ∃ u w', (execOp a.eval o).run X.P σ.w = .ok (.value u) w' ∧ ExtW σ.w w' ∧ RV { σ with w := w' } lam v u) :
    OpT X o st (eqp v st) := by
  intro a σ lam hi
  obtain ⟨u, w', h1, h2, h3⟩ := h a σ lam hi
  exact OpRun.value h1 ⟨v, st, { σ with w := w' }, lam, ⟨rfl, rfl⟩, rfl, hi.ext h2, h3⟩

def Reps (O : Nat → Nat → Prop) (w : World) (ds : List D) (vs : Array Value) : Prop :=
  vs.size = ds.length ∧ ∀ (i : Nat) (d : D) (v : Value), ds[i]? = some d → vs[i]? = some v → Rep O w d v
def Repc (O : Nat → Nat → Prop) (w : World) (ds : List D) (vs : Array Value) : Prop :=
  vs.size = ds.length ∧ ∀ (i : Nat) (d : D) (v : Value), ds[i]? = some d → vs[i]? = some v → Rep O w d v ∧ flat v = true

theorem Rep.cells {O : Nat → Nat → Prop} {w : World} {d : D} {v : Value} (h : Rep O w d v) : Repc O w (dcells d) v.cells := by
  cases h with
  | agg cs vs hl hf h => exact ⟨hl, fun i d v h1 h2 => ⟨h i d v h1 h2, hf i v h2⟩⟩
  | _ =>
    refine ⟨rfl, fun i d' v' h1 h2 => ?_⟩
    cases i with
    | zero => simp [dcells, Value.cells] at h1 h2; subst h1; subst h2; exact ⟨by constructor <;> assumption, rfl⟩
    | succ i => simp [dcells] at h1

/-- may its cells be stored? -/
def M.okc : M → Bool
  | .undef => false
  | .tup _ => false
  | _ => true

theorem RM.cells {σ : Sg} {m : M} {v : Value} (h : RM σ m v) (hu : m.okc = true) : RMc σ (cellsOf m) v.cells := by
  have one : ∀ (m : M) (v : Value), RM σ m v → flat v = true → RMc σ [m] #[v] := by
    intro m v h hf
    refine ⟨rfl, fun i m' v' h1 h2 => ?_⟩
    cases i with
    | zero => simp at h1 h2; subst h1; subst h2; exact ⟨h, hf⟩
    | succ i => simp at h1
  cases h with
  | d h =>
    have hc := h.cells
    refine ⟨by simp [cellsOf, hc.1], fun i m v h1 h2 => ?_⟩
    simp only [cellsOf, List.getElem?_map, Option.map_eq_some_iff] at h1
    obtain ⟨d, hd, rfl⟩ := h1
    exact ⟨.d (hc.2 i d v hd h2).1, (hc.2 i d v hd h2).2⟩
  | agg cs vs hl hf h => exact ⟨hl, fun i d v h1 h2 => ⟨h i d v h1 h2, hf i v h2⟩⟩
  | ref i off cs h => exact one _ _ (.ref i off cs h) rfl
  | rsl i ver len a cap h1 h2 => exact one _ _ (.rsl i ver len a cap h1 h2) rfl
  | rref i ver off b h1 h2 => exact one _ _ (.rref i ver off b h1 h2) rfl
  | mp i es h => exact one _ _ (.mp i es h) rfl
  | it i x h => exact one _ _ (.it i x h) rfl
  | fn f cs vs hlt hl h => exact one _ _ (.fn f cs vs hlt hl h) rfl
  | fnB f g cs vs hg hl h => exact one _ _ (.fnB f g cs vs hg hl h) rfl
  | tup cs vs hl h => simp [M.okc] at hu
  | undef v => simp [M.okc] at hu

theorem cellv_new (w : World) (arr : Array Value) (T : Nat) (fz : Nat × Nat) (i : Nat) : cellv { w with heap := w.heap.push (.cells arr T fz) } w.heap.size i = arr[i]? := by
  simp [cellv, World.cell?]

/-- a pointer to a fresh block -/
theorem Rep.newpim {O : Nat → Nat → Prop} {w : World} {ds : List D} {arr : Array Value} {T : Nat} (hO : ∀ b o, O b o → b < w.heap.size) (h : Repc O w ds arr) :
    Rep O { w with heap := w.heap.push (.cells arr T (0, 0)) } (.pim ds 0) (.pointer (some ⟨w.heap.size, 0, none⟩)) := by
  refine Rep.pim ds 0 w.heap.size 0 (fun i => arr.getD i undef) ?_ ?_ ?_
  · intro i hi
    refine ⟨?_, fun hh => by have := hO _ _ hh; omega⟩
    rw [Nat.zero_add, cellv_new]
    have : i < arr.size := by rw [h.1]; exact hi
    simp [this]
  · intro i hi
    have h2 : i < arr.size := by rw [h.1]; exact hi
    have h3 : arr[i]? = some (arr.getD i undef) := by simp [h2]
    exact (h.2 i ds[i] _ (by simp [hi]) h3).2
  · intro i d hd
    have hi : i < arr.size := by rw [h.1]; rcases Nat.lt_or_ge i ds.length with h | h; exact h; simp [List.getElem?_eq_none h] at hd
    have := (h.2 i d (arr.getD i undef) hd (by simp [hi])).1
    exact this.mono fun b o v h1 h2 => ⟨(ExtW.alloc w _).cell h1, h2⟩

section ops
variable {X : Ctx} {st : St} {dst : Option Nat} {ty : Nat} {pos : String} {af : Array Edge} {g : Option (Nat × Bool)}

theorem op_box {t : Nat} {x : Operand} {d : D} (hx : st.ev x = some (.m (.d d))) :
    OpT X ⟨dst, .box t x, ty, pos, af, g⟩ st (eqp (.m (.d (.pim (dcells d) 0))) st) := by
  refine OpT.grow fun a σ lam hi => ?_
  have h := (hi.evd hx).cells
  exact ⟨_, _, by simp [execOp, Instr.box, newVar, newRow, newObj, Sem.run]; rfl, ExtW.alloc _ _, .m (.d (Rep.newpim hi.hinv.oold h))⟩

class TyAgg (P : Program) (t : Nat) (n : outParam Nat) : Prop where
  agg : tyAgg P t = some true
  size : tySize P t = some n
class TySz (P : Program) (t : Nat) (n : outParam Nat) : Prop where
  size : tySize P t = some n
class TyZ (P : Program) (t : Nat) (z : outParam D) : Prop where
  zero : tyZero P t = some z
class TyCell (P : Program) (t : Nat) : Prop where
  cell : tyAgg P t = some false

theorem TyCell.run {P : Program} {t : Nat} (h : TyCell P t) (w : World) : (isAgg t).run P w = .ok false w := by
  have := h.cell
  unfold tyAgg at this
  unfold isAgg underlying
  simp [program, Sem.run]
  cases hu : P.underlying t with
  | none => simp [hu] at this
  | some d => cases d <;> simp_all
theorem TyAgg.run {P : Program} {t n : Nat} (h : TyAgg P t n) (w : World) : (isAgg t).run P w = .ok true w := by
  have := h.agg
  unfold tyAgg at this
  unfold isAgg underlying
  simp [program, Sem.run]
  cases hu : P.underlying t with
  | none => simp [hu] at this
  | some d => cases d <;> simp_all
theorem size_run {P : Program} {t n : Nat} (h : tySize P t = some n) (w : World) : (sizeOf t).run P w = .ok n w := by
  unfold tySize at h
  unfold sizeOf typeInfo
  simp [program, Sem.run]
  cases hu : P.info? t with
  | none => simp [hu] at h
  | some d => simp [hu] at h; simp [h]

theorem addr_add (b o n : Nat) : (⟨b, o, none⟩ : Addr).add n = ⟨b, o + n, none⟩ := by
  unfold Addr.add; split
  · rename_i h; subst h; rfl
  · rfl

theorem load_cell_run {P : Program} {w : World} {b o : Nat} {v : Value} (h : cellv w b o = some v) : (load ⟨b, o, none⟩).run P w = .ok v w := by
  unfold cellv at h
  simp [h]

theorem loadCells_run {P : Program} {w : World} {b o : Nat} {vs : Array Value} : ∀ (n i : Nat) (acc : Array Value), i + n = vs.size → acc = vs.extract 0 i →
    (∀ j, j < vs.size → cellv w b (o + j) = some (vs.getD j undef)) → (loadCellsFrom ⟨b, o, none⟩ i n acc).run P w = .ok vs w
  | 0, i, acc, hi, ha, _ => by
    have : i = vs.size := by omega
    subst this
    simp [loadCellsFrom, ha]
  | n + 1, i, acc, hi, ha, hc => by
    have hlt : i < vs.size := by omega
    rw [loadCellsFrom]
    simp only [addr_add, Sem.run_bind, load_cell_run (hc i hlt), Result.andThen_ok]
    refine loadCells_run n (i + 1) _ (by omega) ?_ hc
    rw [ha]
    apply Array.ext_getElem?
    intro k
    simp [Array.getElem?_push, Array.getElem?_extract]
    have : i ≤ vs.size := by omega
    rcases Nat.lt_trichotomy k i with h | h | h
    · have h1 : k < min i vs.size := by omega
      have h2 : ¬ k = min i vs.size := by omega
      have h3 : k < min (i + 1) vs.size := by omega
      simp [h2, h1, h3]
    · subst h
      simp [Nat.min_eq_left this, hlt]
      omega
    · have h2 : ¬ k = min i vs.size := by omega
      have h3 : ¬ k < min (i + 1) vs.size := by omega
      have h4 : ¬ k < min i vs.size := by omega
      simp [h2, h3, h4]


theorem take_drop_getElem? {α : Type} (l : List α) (off n i : Nat) (hi : i < n) : ((l.drop off).take n)[i]? = l[off + i]? := by
  rw [List.getElem?_take_of_lt hi, List.getElem?_drop]

/-- a load of data out of memory that does not change -/
theorem loadD_run {P : Program} {O : Nat → Nat → Prop} {w : World} {t b o off : Nat} {cs : List D} {val : Nat → Value} {d : D} (hr : readD P t cs off = some d)
    (hcell : ∀ i, i < cs.length → cellv w b (o + i) = some (val i) ∧ ¬ O b (o + i)) (hflat : ∀ i, i < cs.length → flat (val i) = true) (hrep : ∀ i d, cs[i]? = some d → Rep O w d (val i)) :
    ∃ u, (Instr.loadAt t (.pointer (some ⟨b, o + off, none⟩))).run P w = .ok u w ∧ Rep O w d u := by
  unfold readD at hr
  split at hr
  · rename_i n h1 h2
    cases hb : Nat.ble (off + n) cs.length with
    | false => simp [hb] at hr
    | true =>
      simp only [hb, cond_true, Option.some.injEq] at hr
      subst hr
      have hle : off + n ≤ cs.length := Nat.le_of_ble_eq_true hb
      have hty : TyAgg P t n := ⟨h1, h2⟩
      let vs : Array Value := ((List.range n).map fun i => val (off + i)).toArray
      have hsz : vs.size = n := by simp [vs]
      have hl : (loadCellsFrom ⟨b, o + off, none⟩ 0 n #[]).run P w = .ok vs w := by
        refine loadCells_run n 0 _ (by omega) (by simp) ?_
        intro j hj
        rw [hsz] at hj
        have : vs.getD j undef = val (off + j) := by simp [vs, hj]
        rw [this, Nat.add_assoc]
        exact (hcell (off + j) (by omega)).1
      refine ⟨.agg vs, ?_, .agg _ vs ?_ ?_ ?_⟩
      · simp [Instr.loadAt, Instr.sureAddr, loadVar, hty.run, size_run h2, loadCells, hl]
      · simp [hsz]; omega
      · intro i v hv
        have hi : i < n := by
          rcases Nat.lt_or_ge i n with h | h
          · exact h
          · simp [Array.getElem?_eq_none (show vs.size ≤ i by omega)] at hv
        have : v = val (off + i) := by simp [vs, hi] at hv; exact hv.symm
        subst this
        exact hflat _ (by omega)
      · intro i d v hd hv
        have hi : i < n := by
          rcases Nat.lt_or_ge i n with h | h
          · exact h
          · simp [Array.getElem?_eq_none (show vs.size ≤ i by omega)] at hv
        rw [take_drop_getElem? cs off n i hi] at hd
        have : v = val (off + i) := by simp [vs, hi] at hv; exact hv.symm
        subst this
        exact hrep _ _ hd
  · rename_i h1
    have hty : TyCell P t := ⟨h1⟩
    have hlt : off < cs.length := by
      rcases Nat.lt_or_ge off cs.length with h | h
      · exact h
      · simp [List.getElem?_eq_none h] at hr
    refine ⟨val off, ?_, hrep off d hr⟩
    have hc : w.cell? ⟨b, o + off, none⟩ = some (val off) := (hcell off hlt).1
    simp [Instr.loadAt, Instr.sureAddr, loadVar, hty.run, hc]
  · cases hr

theorem op_loadD {t : Nat} {x : Operand} {cs : List D} {off : Nat} {d : D} (hx : st.ev x = some (.m (.d (.pim cs off)))) (hr : readD X.P t cs off = some d) :
    OpT X ⟨dst, .load t x, ty, pos, af, g⟩ st (eqp (.m (.d d)) st) := by
  refine OpT.quiet fun a σ lam hi => ?_
  have h := hi.evd hx
  generalize hu : a.eval x = u at h
  cases h with
  | pim cs off b o val hcell hflat hrep =>
    obtain ⟨u, h1, h2⟩ := loadD_run hr hcell hflat hrep
    exact ⟨u, by simp [execOp, hu, h1], .m (.d h2)⟩

/-- one cell -/
theorem op_loadDc {t : Nat} {x : Operand} {cs : List D} {off : Nat} {d : D} [ht : TyCell X.P t] (hx : st.ev x = some (.m (.d (.pim cs off)))) (hr : cs[off]? = some d) :
    OpT X ⟨dst, .load t x, ty, pos, af, g⟩ st (eqp (.m (.d d)) st) :=
  op_loadD hx (by simp [readD, ht.cell, hr])
/-- a struct, whole -/
theorem op_loadDw {t n : Nat} {x : Operand} {cs : List D} [ht : TyAgg X.P t n] (hx : st.ev x = some (.m (.d (.pim cs 0)))) (hr : cs.length = n) :
    OpT X ⟨dst, .load t x, ty, pos, af, g⟩ st (eqp (.m (.d (.agg cs))) st) := by
  refine op_loadD hx ?_
  subst hr
  simp only [readD, ht.agg, ht.size, Nat.zero_add]
  have : Nat.ble cs.length cs.length = true := Nat.ble_eq_true_of_le (Nat.le_refl _)
  simp [this]
/-- a struct within a struct -/
theorem op_loadDa {t n : Nat} {x : Operand} {cs ds : List D} {off : Nat} [ht : TyAgg X.P t n] (hx : st.ev x = some (.m (.d (.pim cs off)))) (hb : Nat.ble (off + n) cs.length = true) (hr : (cs.drop off).take n = ds) :
    OpT X ⟨dst, .load t x, ty, pos, af, g⟩ st (eqp (.m (.d (.agg ds))) st) := by
  refine op_loadD hx ?_
  simp [readD, ht.agg, ht.size, hb, hr]

class TyField (P : Program) (s f : Nat) (off : outParam Nat) : Prop where
  run : ∀ (b o : Nat) (w : World), (Instr.fieldAt s (.pointer (some ⟨b, o, none⟩)) f).run P w = .ok (.pointer (some ⟨b, o + off, none⟩)) w

def tyFieldOk (P : Program) (s f off : Nat) : Bool :=
  match P.underlying s with
  | some (.struct fields) => match fields[f]? with
    | some fd => match tySize P fd.type with
      | some n => n != 0 && fd.offset == off
      | none => false
    | none => false
  | _ => false
theorem tyField_of {P : Program} {s f off : Nat} (h : tyFieldOk P s f off = true) : TyField P s f off := by
  constructor
  intro b o w
  unfold tyFieldOk at h
  split at h
  · rename_i fields hf
    split at h
    · rename_i fd hfd
      split at h
      · rename_i n hn
        simp at h
        simp [Instr.fieldAt, underlying, program, Sem.run, hf, hfd, Instr.sureAddr, fieldPlace, size_run hn, h.1, addr_add, h.2]
      · cases h
    · cases h
  · cases h

theorem op_fieldD {s f : Nat} {x : Operand} {cs : List D} {off o : Nat} (hx : st.ev x = some (.m (.d (.pim cs off)))) [hf : TyField X.P s f o] :
    OpT X ⟨dst, .fieldAddr s x f, ty, pos, af, g⟩ st (eqp (.m (.d (.pim cs (off + o)))) st) := by
  refine OpT.quiet fun a σ lam hi => ?_
  have h := hi.evd hx
  generalize hu : a.eval x = u at h
  cases h with
  | pim cs off b oo val hcell hflat hrep =>
    refine ⟨_, by simp only [execOp, hu]; simp [hf.run]; rfl, .m (.d ?_)⟩
    rw [Nat.add_assoc]
    exact .pim cs (off + o) b oo val hcell hflat hrep
theorem op_fieldL {s f : Nat} {x : Operand} {t off o : Nat} (hx : st.ev x = some (.loc t off)) [hf : TyField X.P s f o] :
    OpT X ⟨dst, .fieldAddr s x f, ty, pos, af, g⟩ st (eqp (.loc t (off + o)) st) := by
  refine OpT.quiet fun a σ lam hi => ?_
  have h := hi.ev hx
  generalize hu : a.eval x = u at h
  cases h with
  | loc t off => exact ⟨_, by simp only [execOp, hu]; simp [hf.run], .loc t (off + o)⟩
theorem op_fieldR {s f : Nat} {x : Operand} {i off o : Nat} (hx : st.ev x = some (.m (.ref i off))) [hf : TyField X.P s f o] :
    OpT X ⟨dst, .fieldAddr s x f, ty, pos, af, g⟩ st (eqp (.m (.ref i (off + o))) st) := by
  refine OpT.quiet fun a σ lam hi => ?_
  have h := hi.ev hx
  generalize hu : a.eval x = u at h
  cases h with
  | m h => cases h with
    | ref i off cs hh => exact ⟨_, by simp only [execOp, hu]; simp [hf.run], .m (.ref i (off + o) cs hh)⟩
theorem op_fieldW {s f : Nat} {x : Operand} {i ver off o : Nat} (hx : st.ev x = some (.m (.rref i ver off))) [hf : TyField X.P s f o] :
    OpT X ⟨dst, .fieldAddr s x f, ty, pos, af, g⟩ st (eqp (.m (.rref i ver (off + o))) st) := by
  refine OpT.quiet fun a σ lam hi => ?_
  have h := hi.ev hx
  generalize hu : a.eval x = u at h
  cases h with
  | m h => cases h with
    | rref i ver off b h1 h2 => exact ⟨_, by simp only [execOp, hu]; simp [hf.run], .m (.rref i ver (off + o) b h1 h2)⟩

def ptrOk : V → Bool
  | .m (.d (.pim _ _)) => true
  | .m (.ref _ _) => true
  | .m (.rref _ _ _) => true
  | .loc _ _ => true
  | .m (.d (.fn _ _)) => true
  | .m (.fn _ _) => true
  | _ => false
theorem op_nilCheck {x : Operand} {v : V} (hx : st.ev x = some v) (hv : ptrOk v = true) :
    OpT X ⟨dst, .nilCheck x, ty, pos, af, g⟩ st (eqp v st) := by
  refine OpT.quiet fun a σ lam hi => ?_
  have h := hi.ev hx
  refine ⟨a.eval x, ?_, h⟩
  generalize hu : a.eval x = u at h
  cases h with
  | loc t off => simp [execOp, hu]
  | tl _ _ _ _ _ _ _ _ => simp [ptrOk] at hv
  | m h => cases h with
    | d h => cases h <;> simp [ptrOk] at hv <;> simp [execOp, hu]
    | _ => first | (simp [ptrOk] at hv; done) | simp [execOp, hu]

/-- slices as data -/
def slLen : D → Option Nat
  | .sl rows => some rows.length
  | .slz => some 0
  | _ => none

class TySlice (P : Program) (t : Nat) (e : outParam Nat) : Prop where
  u : P.underlying t = some (.slice e)
class TyStr (P : Program) (t : Nat) : Prop where
  u : P.underlying t = some .string

theorem op_lenS {t e : Nat} {x : Operand} {d : D} {n : Nat} (hx : st.ev x = some (.m (.d d))) [ht : TySlice X.P t e] (hn : slLen d = some n) :
    OpT X ⟨dst, .call ⟨.builtin .len, #[x], #[t]⟩, ty, pos, af, g⟩ st (eqp (.m (.d (.int .i64 n))) st) := by
  refine OpT.quiet fun a σ lam hi => ?_
  have h := hi.evd hx
  generalize hu : a.eval x = u at h
  refine ⟨.int .i64 n, ?_, .m (.d (.int _ _))⟩
  cases h <;> simp [slLen] at hn <;> subst hn <;> simp [execOp, resolve, invoke, builtin, Builtin.len_, underlying, program, Sem.run, ht.u, hu, goInt]
theorem op_lenT {t : Nat} {x : Operand} {s : ByteArray} (hx : st.ev x = some (.m (.d (.str s)))) [ht : TyStr X.P t] :
    OpT X ⟨dst, .call ⟨.builtin .len, #[x], #[t]⟩, ty, pos, af, g⟩ st (eqp (.m (.d (.int .i64 s.size))) st) := by
  refine OpT.quiet fun a σ lam hi => ?_
  have h := hi.evstr hx
  exact ⟨.int .i64 s.size, by simp [execOp, resolve, invoke, builtin, Builtin.len_, underlying, program, Sem.run, ht.u, h, goInt], .m (.d (.int _ _))⟩

theorem op_indexD {t e n : Nat} {x y : Operand} {rows : List (List D)} {r : List D} {k : IntKind} {i : Int} (hx : st.ev x = some (.m (.d (.sl rows)))) (hy : st.ev y = some (.m (.d (.int k i))))
    [ht : TySlice X.P t e] [hs : TySz X.P e n] (h0 : 0 ≤ i) (hr : rows[i.toNat]? = some r) (hn : r.length = n) :
    OpT X ⟨dst, .indexAddr t x y, ty, pos, af, g⟩ st (eqp (.m (.d (.pim r 0))) st) := by
  refine OpT.quiet fun a σ lam hi => ?_
  have h := hi.evd hx
  have h2 := hi.evint hy
  generalize hu : a.eval x = u at h
  have hlt : i.toNat < rows.length := by
    rcases Nat.lt_or_ge i.toNat rows.length with h | h
    · exact h
    · simp [List.getElem?_eq_none h] at hr
  cases h with
  | slnil a => simp at hlt
  | sl rows b o cap ec val hne hcap hmax hec hcell hflat hrep =>
    have hmem : r ∈ rows := List.mem_of_getElem? hr
    have hec' : ec = n := by rw [← hec r hmem]; exact hn
    subst hec'
    have hb : i < (rows.length : Int) := by omega
    refine ⟨.pointer (some ⟨b, o + i.toNat * ec + 0, none⟩), ?_, .m (.d (.pim r 0 b (o + i.toNat * ec) (fun j => val i.toNat j) ?_ ?_ ?_))⟩
    · simp [execOp, hu, h2, Instr.indexAt, asIntOf, underlying, program, Sem.run, ht.u, size_run hs.size, h0, hb, addr_add]
    · intro j hj
      have := hcell i.toNat j hlt (by omega)
      simpa [Nat.add_assoc] using this
    · intro j hj
      exact hflat i.toNat j hlt (by omega)
    · intro j d hd
      exact hrep i.toNat j r d hr hd

/-- a list in a slot is no longer than memory -/
theorem TC.short {c : Code} {post : Exit → St → Prop} {x : Operand} {rows : List (List D)} (hx : st.ev x = some (.m (.d (.sl rows)))) (h : rows.length ≤ 140737488355328 → TC X c st post) : TC X c st post := by
  intro a w hi
  refine h ?_ a w hi
  obtain ⟨σ, lam, _, hi⟩ := hi
  have h1 := hi.evd hx
  generalize a.eval x = u at h1
  cases h1 with
  | slnil a => simp
  | sl rows b o cap ec val hne hcap hmax hec hcell hflat hrep => exact hmax
theorem TL.short {ops : Array Oper} {l : List Oper} {post : St → Prop} {x : Operand} {rows : List (List D)} (hx : st.ev x = some (.m (.d (.sl rows)))) (h : rows.length ≤ 140737488355328 → TL X ops l st post) : TL X ops l st post := by
  intro a w hi
  refine h ?_ a w hi
  obtain ⟨σ, lam, _, hi⟩ := hi
  have h1 := hi.evd hx
  generalize a.eval x = u at h1
  cases h1 with
  | slnil a => simp
  | sl rows b o cap ec val hne hcap hmax hec hcell hflat hrep => exact hmax

theorem op_streq {x y : Operand} {xt yt : Nat} {s u : ByteArray} (hx : st.ev x = some (.m (.d (.str s)))) (hy : st.ev y = some (.m (.d (.str u)))) :
    OpT X ⟨dst, .binOp .eql xt x y yt, ty, pos, af, g⟩ st (eqp (.m (.d (.bool (decide (s = u))))) st) := by
  refine OpT.quiet fun a σ lam hi => ?_
  exact ⟨_, by simp only [execOp, hi.evstr hx, hi.evstr hy, eqGuard, binOp, Op.stringOp, ba_toList_beq]; simp, .m (.d (.bool _))⟩
theorem op_strne {x y : Operand} {xt yt : Nat} {s u : ByteArray} (hx : st.ev x = some (.m (.d (.str s)))) (hy : st.ev y = some (.m (.d (.str u)))) :
    OpT X ⟨dst, .binOp .neq xt x y yt, ty, pos, af, g⟩ st (eqp (.m (.d (.bool (!decide (s = u))))) st) := by
  refine OpT.quiet fun a σ lam hi => ?_
  exact ⟨_, by simp only [execOp, hi.evstr hx, hi.evstr hy, eqGuard, binOp, Op.stringOp, ba_toList_beq]; simp, .m (.d (.bool _))⟩
theorem op_stradd {x y : Operand} {xt yt : Nat} {s u : ByteArray} (hx : st.ev x = some (.m (.d (.str s)))) (hy : st.ev y = some (.m (.d (.str u)))) (hs : s.size + u.size ≤ 9223372036854775807) :
    OpT X ⟨dst, .binOp .add xt x y yt, ty, pos, af, g⟩ st (eqp (.m (.d (.str (s ++ u)))) st) := by
  refine OpT.quiet fun a σ lam hi => ?_
  have : ¬ ((s.size + u.size : Nat) : Int) > IntKind.i64.max := by
    have : IntKind.i64.max = 9223372036854775807 := by decide
    omega
  exact ⟨_, by simp only [execOp, hi.evstr hx, hi.evstr hy, eqGuard, binOp, Op.stringOp]; simp only [if_neg this]; simp, .m (.d (.str _))⟩

theorem op_extract {x : Operand} {i : Nat} {vs : List M} {m : M} (hx : st.ev x = some (.m (.tup vs))) (hm : vs[i]? = some m) :
    OpT X ⟨dst, .extract x i, ty, pos, af, g⟩ st (eqp (.m m) st) := by
  refine OpT.quiet fun a σ lam hi => ?_
  have h := hi.ev hx
  generalize hu : a.eval x = u at h
  cases h with
  | m h => cases h with
    | tup cs vs' hl hh =>
      have hi' : i < vs'.size := by
        rw [hl]; rcases Nat.lt_or_ge i vs.length with h | h; exact h; simp [List.getElem?_eq_none h] at hm
      exact ⟨vs'[i], by simp [execOp, hu, Instr.extract, hi'], .m (hh i m _ hm (by simp [hi']))⟩
end ops
end Go.Mt

set_option linter.unusedVariables false
namespace Go.Mt

theorem TC.cond {X : Ctx} {st : St} {post : Exit → St → Prop} {c : Operand} {x y : Code} {b : Bool} (hc : st.ev c = some (.m (.d (.bool b))))
    (ht : b = true → TC X x st post) (hf : b = false → TC X y st post) : TC X (.cond c x y) st post := by
  rintro a w ⟨σ, lam, rfl, hi⟩
  refine wp_cond (hi.evbool hc) ?_
  cases b
  · exact hf rfl a _ ⟨σ, lam, rfl, hi⟩
  · exact ht rfl a _ ⟨σ, lam, rfl, hi⟩

def tupM : List M → M
  | [m] => m
  | ms => .tup ms

/-- What a function does, over the heap. -/
def CT (P : Program) (f : Nat) (ms : List M) (H : Hp) (post : M → Hp → Prop) : Prop :=
  ∀ (σ : Sg) (Oo : Nat → Nat → Prop) (vs : Array Value), HInv σ Oo → σ.H = H → RMs σ ms vs → Calls P f vs σ.w fun e w' => ∃ v r σ', e = .returned v ∧ σ'.w = w' ∧ post r σ'.H ∧ HInv σ' Oo ∧ RM σ' r v ∧ Mono σ σ' ∧ Blk σ σ'

/-- What a function of data does. -/
def PT (P : Program) (f : Nat) (ds : List D) (post : List D → Prop) : Prop :=
  ∀ (O : Nat → Nat → Prop) (w : World) (vs : Array Value), (∀ b o, O b o → b < w.heap.size) → Reps O w ds vs → Calls P f vs w fun e w' => ∃ v r, e = .returned v ∧ post r ∧ ExtW w w' ∧ RM ⟨w', O, fun _ => 0, []⟩ (tupM (r.map .d)) v

theorem PT.mono {P : Program} {f : Nat} {ds : List D} {post post' : List D → Prop} (h : PT P f ds post) (hp : ∀ r, post r → post' r) : PT P f ds post' :=
  fun O w vs h1 h2 => (h O w vs h1 h2).mono fun e w' ⟨v, r, a, b, c, d⟩ => ⟨v, r, a, hp r b, c, d⟩
theorem CT.mono {P : Program} {f : Nat} {ms : List M} {H : Hp} {post post' : M → Hp → Prop} (h : CT P f ms H post) (hp : ∀ r H', post r H' → post' r H') : CT P f ms H post' :=
  fun σ Oo vs h1 h2 h3 => (h σ Oo vs h1 h2 h3).mono fun e w' ⟨v, r, σ', a, b, c, d⟩ => ⟨v, r, σ', a, b, hp _ _ c, d⟩

/-- a value without references, in a state that owns less -/
theorem RM.mono' {σ τ : Sg} {ds : List D} {v : Value} (h : RM σ (tupM (ds.map .d)) v) (hc : ∀ b o v, cellv σ.w b o = some v → ¬ σ.O b o → cellv τ.w b o = some v ∧ ¬ τ.O b o) :
    RM τ (tupM (ds.map .d)) v := by
  match ds, h with
  | [], h => cases h with
    | tup cs vs hl h => exact .tup _ _ hl (by simp)
  | [x], h => cases h with
    | d h => exact .d (h.mono hc)
  | x1 :: x2 :: xs, h => cases h with
    | tup cs vs hl hh =>
      refine .tup _ _ hl fun i m v hm hv => ?_
      have h1 := hh i m v hm hv
      have hm' : ((x1 :: x2 :: xs).map M.d)[i]? = some m := hm
      simp only [List.getElem?_map, Option.map_eq_some_iff] at hm'
      obtain ⟨d, _, rfl⟩ := hm'
      cases h1 with
      | d h1 => exact .d (h1.mono hc)

theorem PT.of_CT {P : Program} {f : Nat} {ds : List D} {post : List D → Prop} (h : CT P f (ds.map .d) [] fun r _ => ∃ d, r = tupM (d.map .d) ∧ post d) : PT P f ds post := by
  intro O w vs hO hv
  let σ : Sg := ⟨w, O, fun _ => 0, []⟩
  have hinv : HInv σ O := ⟨by simp [σ], by simp [σ], by simp [σ], by simp [σ], hO⟩
  have hms : RMs σ (ds.map .d) vs := by
    refine ⟨by simp [hv.1], fun i m v h1 h2 => ?_⟩
    simp only [List.getElem?_map, Option.map_eq_some_iff] at h1
    obtain ⟨d, hd, rfl⟩ := h1
    exact .d (hv.2 i d v hd h2)
  refine (h σ O vs hinv rfl hms).mono ?_
  rintro e w' ⟨v, r, σ', he, hw, ⟨d, hrd, hp⟩, hi', hr, hm, hb⟩
  subst hrd
  subst hw
  refine ⟨v, d, he, hp, ⟨hb.os, hb.output, hb.tape, hb.size, fun b h1 => hb.blk b h1 (by simp [σ])⟩, ?_⟩
  refine hr.mono' ?_
  exact fun b o v h1 h2 => ⟨h1, fun h3 => h2 ((hi'.own b o).2 (.inl h3))⟩

def enumV (i : Nat) : List M → List (Nat × V)
  | [] => []
  | m :: r => (i, .m m) :: enumV (i + 1) r

theorem get_enumV : ∀ (ms : List M) (i t : Nat) (v : V), get (enumV i ms) t = some v → i ≤ t ∧ ∃ m, ms[t - i]? = some m ∧ v = .m m
  | [], i, t, v, h => by simp [enumV, get] at h
  | m :: r, i, t, v, h => by
    simp only [enumV, get_cons] at h
    by_cases e : i = t
    · subst e; simp at h; subst h; exact ⟨Nat.le_refl _, m, by simp, rfl⟩
    · rw [if_neg e] at h
      obtain ⟨h1, m', h2, h3⟩ := get_enumV r (i + 1) t v h
      refine ⟨by omega, m', ?_, h3⟩
      have : t - i = (t - (i + 1)) + 1 := by omega
      rw [this]; simpa using h2

/-- a result, read off the state -/
def resOne (P : Program) (st : St) : ResultVar → Option M
  | .tmp t => match get st.sl t with
    | some (.m m) => some m
    | _ => none
  | .cell t T => match get st.sl t with
    | some (.loc u off) => match get st.bx u with
      | some cs => readAt P T cs off
      | none => none
    | some (.m (.d (.pim cs off))) => (readD P T cs off).map .d
    | some (.m (.ref i off)) => match st.H[i]? with
      | some (.box cs) => readAt P T cs off
      | _ => none
    | _ => none
def resAll (P : Program) (st : St) : List ResultVar → Option (List M)
  | [] => some []
  | r :: rs => match resOne P st r, resAll P st rs with
    | some m, some ms => some (m :: ms)
    | _, _ => none
def resM (P : Program) (fn : Func) (st : St) : Option M := (resAll P st fn.results.toList).map tupM

theorem allD_spec : ∀ {cs : List M} {ds : List D}, allD cs = some ds → cs = ds.map .d
  | [], ds, h => by simp [allD] at h; subst h; rfl
  | m :: r, ds, h => by
    cases m <;> simp only [allD] at h <;> try (cases h; done)
    rename_i x
    cases hr : allD r with
    | none => simp [hr] at h
    | some ds' => simp [hr] at h; subst h; simp [allD_spec hr]

theorem RMs.allD {σ : Sg} {cs : List M} {ds : List D} {vs : Array Value} (h : RMs σ cs vs) (hd : allD cs = some ds) : Reps σ.O σ.w ds vs := by
  have := allD_spec hd
  subst this
  refine ⟨by simpa using h.1, fun i d v h1 h2 => ?_⟩
  have := h.2 i (.d d) v (by simp [h1]) h2
  cases this with
  | d h => exact h

theorem RMc.flat {σ : Sg} {cs : List M} {vs : Array Value} (h : RMc σ cs vs) : ∀ (i : Nat) (v : Value), vs[i]? = some v → flat v = true := by
  intro i v hv
  have hi : i < cs.length := by
    rw [← h.1]; rcases Nat.lt_or_ge i vs.size with h | h; exact h; simp [Array.getElem?_eq_none h] at hv
  exact (h.2 i cs[i] v (by simp [hi]) hv).2

/-- a load out of a block whose cells are known -/
theorem loadM_run {P : Program} {σ : Sg} {t b off : Nat} {cs : List M} {arr : Array Value} {T : Nat} {fz : Nat × Nat} {m : M} (hr : readAt P t cs off = some m)
    (hb : σ.w.heap[b]? = some (.cells arr T fz)) (hsz : cs.length ≤ arr.size) (h : ∀ (i : Nat) (m : M) (v : Value), cs[i]? = some m → arr[i]? = some v → RM σ m v ∧ flat v = true) :
    ∃ u, (loadVar t ⟨b, off, none⟩).run P σ.w = .ok u σ.w ∧ RM σ m u := by
  have hcell : ∀ i, i < arr.size → cellv σ.w b i = some (arr.getD i undef) := by
    intro i hi; simp [cellv, World.cell?, hb, hi]
  unfold readAt at hr
  split at hr
  · rename_i n h1 h2
    cases hbl : Nat.ble (off + n) cs.length with
    | false => simp [hbl] at hr
    | true =>
      simp only [hbl, cond_true, Option.some.injEq] at hr
      subst hr
      have hle : off + n ≤ cs.length := Nat.le_of_ble_eq_true hbl
      have hty : TyAgg P t n := ⟨h1, h2⟩
      have hsz2 : (arr.extract off (off + n)).size = n := by simp; omega
      have hl : (loadCellsFrom ⟨b, off, none⟩ 0 n #[]).run P σ.w = .ok (arr.extract off (off + n)) σ.w := by
        refine loadCells_run n 0 _ (by omega) (by simp) ?_
        intro j hj
        rw [hsz2] at hj
        rw [hcell _ (by omega)]
        have hlt : j < min (off + n) arr.size - off := by omega
        have : off + j < arr.size := by omega
        simp [hlt, this]
      have hms : RMc σ ((cs.drop off).take n) (arr.extract off (off + n)) := by
        refine ⟨by rw [hsz2]; simp; omega, fun i m v hm hv => ?_⟩
        have hi : i < n := by
          rcases Nat.lt_or_ge i n with h | h
          · exact h
          · rw [Array.getElem?_eq_none (by omega)] at hv; cases hv
        rw [take_drop_getElem? cs off n i hi] at hm
        refine h _ _ _ hm ?_
        rw [Array.getElem?_extract] at hv
        split at hv
        · exact hv
        · cases hv
      refine ⟨.agg (arr.extract off (off + n)), by simp [loadVar, hty.run, size_run h2, loadCells, hl], ?_⟩
      unfold pack
      split
      · rename_i ds hd
        have hms' := hms
        have := RMs.allD ⟨hms.1, fun i m v a b => (hms.2 i m v a b).1⟩ hd
        exact .d (.agg ds _ this.1 (hms.flat) this.2)
      · exact .agg _ _ hms.1 hms.flat (fun i m v a b => (hms.2 i m v a b).1)
  · rename_i h1
    have hty : TyCell P t := ⟨h1⟩
    have hlt : off < cs.length := by
      rcases Nat.lt_or_ge off cs.length with h | h
      · exact h
      · simp [List.getElem?_eq_none h] at hr
    have hc : σ.w.cell? ⟨b, off, none⟩ = some (arr.getD off undef) := hcell off (by omega)
    refine ⟨arr.getD off undef, by simp [loadVar, hty.run, hc], (h off m _ hr (by simp [show off < arr.size by omega])).1⟩
  · cases hr

def resSem (tmps : Array Value) : ResultVar → Sem Value
  | .tmp t => pure (tmps.getD t undef)
  | .cell a t => do loadVar t (← asAddr (tmps.getD a undef))

theorem resOne_run {X : Ctx} {σ : Sg} {lam : Nat → Nat} {st : St} {a : Act} (hi : FInv X σ lam st a) {r : ResultVar} {m : M} (h : resOne X.P st r = some m) :
    ∃ u, (resSem a.tmps r).run X.P σ.w = .ok u σ.w ∧ RM σ m u := by
  unfold resOne at h
  split at h
  · rename_i t
    split at h
    · rename_i m' hg
      injection h with h; subst h
      obtain ⟨u, h1, h2⟩ := hi.slot t _ hg
      cases h2 with
      | m h2 => exact ⟨u, by simp [resSem, h1], h2⟩
    · cases h
  · rename_i t T
    split at h
    · rename_i u off hg
      split at h
      · rename_i cs hb
        obtain ⟨x, h1, h2⟩ := hi.slot t _ hg
        cases h2 with
        | loc u off =>
          obtain ⟨arr, TT, h3, h4⟩ := hi.box u cs hb
          obtain ⟨v, h5, h6⟩ := loadM_run h h3 (by rw [h4.1]; exact Nat.le_refl _) h4.2
          exact ⟨v, by simp [resSem, h1, asAddr, h5], h6⟩
      · cases h
    · rename_i cs off hg
      obtain ⟨x, h1, h2⟩ := hi.slot t _ hg
      cases h2 with
      | m h2 => cases h2 with
        | d h2 => cases h2 with
          | pim cs off b o val hcell hflat hrep =>
            cases hr : readD X.P T cs off with
            | none => simp [hr] at h
            | some d =>
              simp [hr] at h; subst h
              obtain ⟨v, h5, h6⟩ := loadD_run hr hcell hflat hrep
              refine ⟨v, ?_, .d h6⟩
              simp only [Instr.loadAt, Instr.sureAddr] at h5
              simpa [resSem, h1, asAddr] using h5
    · rename_i i off hg
      split at h
      · rename_i cs hH
        obtain ⟨x, h1, h2⟩ := hi.slot t _ hg
        cases h2 with
        | m h2 => cases h2 with
          | ref i off cs0 hh =>
            obtain ⟨arr, TT, h3, h4⟩ := hi.hinv.obj i (.box cs) (by rw [hi.hH]; exact hH)
            obtain ⟨v, h5, h6⟩ := loadM_run h h3 (by rw [h4.1]; exact Nat.le_refl _) h4.2
            exact ⟨v, by simp [resSem, h1, asAddr, h5], h6⟩
      · cases h
    · cases h

theorem resAll_run {X : Ctx} {σ : Sg} {lam : Nat → Nat} {st : St} {a : Act} (hi : FInv X σ lam st a) : ∀ {rs : List ResultVar} {ms : List M}, resAll X.P st rs = some ms →
    ∃ us : List Value, (rs.mapM (resSem a.tmps)).run X.P σ.w = .ok us σ.w ∧ RMs σ ms us.toArray
  | [], ms, h => by simp [resAll] at h; subst h; exact ⟨[], by simp, rfl, by simp⟩
  | r :: rs, ms, h => by
    simp only [resAll] at h
    split at h
    · rename_i m ms' h1 h2
      injection h with h; subst h
      obtain ⟨u, h3, h4⟩ := resOne_run hi h1
      obtain ⟨us, h5, h6⟩ := resAll_run hi h2
      refine ⟨u :: us, ?_, ?_⟩
      · rw [List.mapM_cons]
        simp only [Sem.run_bind, Sem.run_pure]
        rw [h3]; simp only [Result.andThen_ok]; rw [h5]; simp
      · refine ⟨by simpa using h6.1, fun i m' v hm hv => ?_⟩
        cases i with
        | zero => simp at hm hv; subst hm; subst hv; exact h4
        | succ i => simp at hm hv; exact h6.2 i m' v hm (by simpa using hv)
    · cases h

theorem resM_run {X : Ctx} {σ : Sg} {lam : Nat → Nat} {st : St} {a : Act} (hi : FInv X σ lam st a) {fn : Func} {m : M} (h : resM X.P fn st = some m) :
    ∃ u, (results fn a.tmps).run X.P σ.w = .ok u σ.w ∧ RM σ m u := by
  unfold resM at h
  cases hr : resAll X.P st fn.results.toList with
  | none => simp [hr] at h
  | some ms =>
    simp [hr] at h
    subst h
    obtain ⟨us, h1, h2⟩ := resAll_run hi hr
    have hlen : us.length = ms.length := by simpa using h2.1
    have hrun : (results fn a.tmps).run X.P σ.w = .ok (if h : us.toArray.size = 1 then us.toArray[0] else .tuple us.toArray) σ.w := by
      have hf : results fn a.tmps = (do let vs ← fn.results.mapM (resSem a.tmps); pure (if h : vs.size = 1 then vs[0] else .tuple vs)) := by
        unfold results
        congr 1
      rw [hf, Array.mapM_eq_mapM_toList]
      simp only [Sem.run_bind, Functor.map]
      simp only [Sem.run_bind']
      rw [h1]
      simp
    rw [hrun]
    match ms, us, h2, hlen with
    | [], [], h2, _ => exact ⟨_, rfl, by rw [dif_neg (by simp)]; exact .tup [] #[] rfl (by simp)⟩
    | [m], [u], h2, _ => exact ⟨_, rfl, by simp [tupM]; exact h2.2 0 m u (by simp) (by simp)⟩
    | m1 :: m2 :: ms, u1 :: u2 :: us, h2, _ =>
      refine ⟨_, rfl, ?_⟩
      rw [dif_neg (by simp)]
      exact .tup _ _ h2.1 h2.2

def retPost (P : Program) (fn : Func) (post : M → Hp → Prop) : Exit → St → Prop
  | .normal, s => ∃ m, resM P fn s = some m ∧ post m s.H
  | .ret, s => ∃ m, resM P fn s = some m ∧ post m s.H
  | _, _ => False

theorem CT.of_body {P : Program} {f : Nat} {fn : Func} {c : Code} {ms : List M} {H : Hp} {post : M → Hp → Prop} (hf : P.funcs[f]? = some fn) (hb : fn.body = some c)
    {n : Nat} (hnt : fn.ntmps = n) (hn : Nat.ble ms.length n = true) (h : ∀ (s0 : Sg) (Oout : Nat → Nat → Prop), TC ⟨P, n, s0, Oout, []⟩ c ⟨enumV 0 ms, [], H⟩ (retPost P fn post)) : CT P f ms H post := by
  subst hnt
  replace hn := Nat.le_of_ble_eq_true hn
  intro σ Oo vs hinv hH hms
  refine calls_of_wp hf hb ?_
  let X : Ctx := ⟨P, fn.ntmps, σ, Oo, []⟩
  have hoof : ∀ b o, Oof Oo (fun _ => 0) [] b o ↔ Oo b o := by intro b o; simp [Oof, get]
  have h0 : FInv X σ (fun _ => 0) ⟨enumV 0 ms, [], H⟩ { tmps := vs ++ Array.replicate (fn.ntmps - vs.size) undef, defers := [] } := by
    refine ⟨hH, rfl, ?_, ?_, by simp [get], by simp [get], by simp [get], by simp [get], ?_, Mono.refl _, Blk.refl _⟩
    · have := hms.1; simp [X]; omega
    · intro t v hv
      obtain ⟨_, m, h2, rfl⟩ := get_enumV ms 0 t v hv
      simp at h2
      have hlt : t < vs.size := by
        rw [hms.1]; rcases Nat.lt_or_ge t ms.length with h | h; exact h; simp [List.getElem?_eq_none h] at h2
      exact ⟨vs[t], by simp [Array.getElem?_append, hlt], .m (hms.2 t m _ h2 (by simp [hlt]))⟩
    · exact ⟨hinv.obj, hinv.inj, fun b o => by rw [hinv.own]; simp [Oof, get, X], fun i ob h1 h2 o h3 => hinv.sep i ob h1 h2 o (by simpa [Oof, get] using h3), fun b o h3 => hinv.old b o (by simpa [Oof, get] using h3)⟩
  have hbody := h σ Oo _ σ.w ⟨σ, fun _ => 0, rfl, h0⟩
  refine wp_mono hbody ?_
  rintro e a' w' ⟨st', hpost, σ', lam', rfl, hi'⟩
  have fin : (∃ m, resM P fn st' = some m ∧ post m st'.H) → a'.defers = [] ∧ ∃ v, (results fn a'.tmps).run P σ'.w = .ok v σ'.w ∧ ∃ v' r σ'', Ending.returned v = .returned v' ∧ σ''.w = σ'.w ∧ post r σ''.H ∧ HInv σ'' Oo ∧ RM σ'' r v' ∧ Mono σ σ'' ∧ Blk σ σ'' := by
    rintro ⟨m, h1, h2⟩
    obtain ⟨u, h3, h4⟩ := resM_run hi' h1
    have hmono : Mono σ' { σ' with O := fun b o => Oo b o ∨ ∃ (i : Nat) (ob : Ob), σ'.H[i]? = some ob ∧ σ'.l i = b ∧ ob.owns o } := by
      refine ⟨fun b o v h5 h6 => ⟨h5, fun h7 => h6 ?_⟩, fun i cs h5 => ⟨⟨cs, h5⟩, rfl⟩, fun i cs h5 => ⟨⟨cs, h5⟩, rfl⟩, fun i cs h5 => ⟨⟨cs, h5⟩, rfl⟩, fun i h5 => h5, fun i acc ec ver cs h5 => .inr ⟨acc, ver, cs, h5, Nat.le_refl _, fun _ => ⟨rfl, rfl, fun arr T h6 => ⟨arr, h6, rfl⟩⟩⟩, fun _ h => ⟨_, h⟩⟩
      rw [hi'.hinv.own]
      rcases h7 with h7 | h7
      · exact .inl (.inl h7)
      · exact .inr h7
    refine ⟨hi'.defers, u, h3, u, m, { σ' with O := fun b o => Oo b o ∨ ∃ (i : Nat) (ob : Ob), σ'.H[i]? = some ob ∧ σ'.l i = b ∧ ob.owns o }, rfl, rfl, by rw [show σ'.H = st'.H from hi'.hH]; exact h2, ?_, ?_, ?_, ?_⟩
    · exact ⟨fun i ob h5 => (hi'.hinv.obj i ob h5).keep hmono (fun x hx => hx), hi'.hinv.inj, fun b o => Iff.rfl, fun i ob h5 h6 o h7 => hi'.hinv.sep i ob h5 h6 o (.inl h7), fun b o h7 => hi'.hinv.old b o (.inl h7)⟩
    · exact h4.mono hmono
    · exact hi'.mono.trans hmono
    · exact ⟨hi'.blk.os, hi'.blk.output, hi'.blk.tape, hi'.blk.size, hi'.blk.blk, hi'.blk.loc⟩
  cases e with
  | normal => exact fin hpost
  | ret => exact fin hpost
  | _ => exact hpost.elim

end Go.Mt
