import Derived.Test.YtjhinemdonddoaaMtA
set_option linter.unusedVariables false
namespace Go.Mt

abbrev cellv (w : World) (b o : Nat) : Option Value := w.cell? ⟨b, o, none⟩

/-- Data d stands as value v in world w, in cells that O does not own. -/
inductive Rep (O : Nat → Nat → Prop) (w : World) : D → Value → Prop where
  | int (k : IntKind) (n : Int) : Rep O w (.int k n) (.int k n)
  | bool (b : Bool) : Rep O w (.bool b) (.bool b)
  | str (s : ByteArray) : Rep O w (.str s) (.string s)
  | slnil (a : Option Addr) : Rep O w (.sl []) (.slice a 0 0)
  | sl (rows : List (List D)) (b o cap ec : Nat) (val : Nat → Nat → Value) (h0 : rows ≠ []) (hcap : rows.length ≤ cap) (hmax : rows.length ≤ 140737488355328)
      (hec : ∀ r ∈ rows, r.length = ec)
      (hcell : ∀ i j, i < rows.length → j < ec → cellv w b (o + (i * ec + j)) = some (val i j) ∧ ¬ O b (o + (i * ec + j)))
      (hflat : ∀ i j, i < rows.length → j < ec → flat (val i j) = true)
      (hrep : ∀ i j r d, rows[i]? = some r → r[j]? = some d → Rep O w d (val i j)) :
      Rep O w (.sl rows) (.slice (some ⟨b, o, none⟩) rows.length cap)
  | slz (a : Option Addr) (cap : Nat) : Rep O w .slz (.slice a 0 cap)
  | agg (cs : List D) (vs : Array Value) (hl : vs.size = cs.length) (hf : ∀ (i : Nat) (v : Value), vs[i]? = some v → flat v = true) (h : ∀ (i : Nat) (d : D) (v : Value), cs[i]? = some d → vs[i]? = some v → Rep O w d v) : Rep O w (.agg cs) (.agg vs)
  | pim (cs : List D) (off b o : Nat) (val : Nat → Value)
      (hcell : ∀ i, i < cs.length → cellv w b (o + i) = some (val i) ∧ ¬ O b (o + i))
      (hflat : ∀ i, i < cs.length → flat (val i) = true)
      (hrep : ∀ i d, cs[i]? = some d → Rep O w d (val i)) : Rep O w (.pim cs off) (.pointer (some ⟨b, o + off, none⟩))
  | fn (f : Nat) (cs : List D) (vs : Array Value) (hl : vs.size = cs.length) (h : ∀ (i : Nat) (d : D) (v : Value), cs[i]? = some d → vs[i]? = some v → Rep O w d v) : Rep O w (.fn f cs) (.func (.func f) #[] vs)
  | nilp : Rep O w .nilp (.pointer none)
  | nilf : Rep O w .nilf .nilFunc
  | nili : Rep O w .nili .nilIface
  | nilm : Rep O w .nilm (.map none)
  | ifc (t : Nat) (d : D) (v : Value) (h : Rep O w d v) : Rep O w (.ifc t d) (.iface t v)

/-- What data reads, stays. -/
theorem Rep.mono {O O' : Nat → Nat → Prop} {w w' : World} (hc : ∀ b o v, cellv w b o = some v → ¬ O b o → cellv w' b o = some v ∧ ¬ O' b o)
    {d : D} {v : Value} (h : Rep O w d v) : Rep O' w' d v := by
  induction h with
  | int k n => exact .int k n
  | bool b => exact .bool b
  | str s => exact .str s
  | slnil a => exact .slnil a
  | sl rows b o cap ec val h0 hcap hmax hec hcell hflat hrep ih =>
    exact .sl rows b o cap ec val h0 hcap hmax hec (fun i j hi hj => hc _ _ _ (hcell i j hi hj).1 (hcell i j hi hj).2) hflat ih
  | slz a cap => exact .slz a cap
  | agg cs vs hl hf h ih => exact .agg cs vs hl hf ih
  | pim cs off b o val hcell hflat hrep ih => exact .pim cs off b o val (fun i hi => hc _ _ _ (hcell i hi).1 (hcell i hi).2) hflat ih
  | fn f cs vs hl h ih => exact .fn f cs vs hl ih
  | nilp => exact .nilp
  | nilf => exact .nilf
  | nili => exact .nili
  | nilm => exact .nilm
  | ifc t d v h ih => exact .ifc t d v ih

/-- A world, who owns which cells, where the heap's objects lie. -/
structure Sg where
  w : World
  O : Nat → Nat → Prop
  l : Nat → Nat
  H : Hp

inductive RM (σ : Sg) : M → Value → Prop where
  | d {x : D} {v : Value} (h : Rep σ.O σ.w x v) : RM σ (.d x) v
  | ref (i off : Nat) (cs : List M) (h : σ.H[i]? = some (.box cs)) : RM σ (.ref i off) (.pointer (some ⟨σ.l i, off, none⟩))
  | rsl (i ver len : Nat) (a : Option Addr) (cap : Nat)
      (hle : σ.H[i]? = some .dead ∨ ∃ acc ec ver' cs, σ.H[i]? = some (.row acc ec ver' cs) ∧ ver ≤ ver')
      (hcur : ∀ acc ec cs, σ.H[i]? = some (.row acc ec ver cs) → a = some ⟨σ.l i, 0, none⟩ ∧ cs.length = len * ec ∧ ∃ arr T, σ.w.heap[σ.l i]? = some (.cells arr T (0, 0)) ∧ arr.size = cap * ec) :
      RM σ (.rsl i ver len) (.slice a len cap)
  | rref (i ver off b : Nat)
      (hle : σ.H[i]? = some .dead ∨ ∃ acc ec ver' cs, σ.H[i]? = some (.row acc ec ver' cs) ∧ ver ≤ ver')
      (hcur : ∀ acc ec cs, σ.H[i]? = some (.row acc ec ver cs) → b = σ.l i) : RM σ (.rref i ver off) (.pointer (some ⟨b, off, none⟩))
  | mp (i : Nat) (es : List (D × M)) (h : σ.H[i]? = some (.map es)) : RM σ (.mp i) (.map (some (σ.l i)))
  | agg (cs : List M) (vs : Array Value) (hl : vs.size = cs.length) (hf : ∀ (i : Nat) (v : Value), vs[i]? = some v → flat v = true) (h : ∀ (i : Nat) (m : M) (v : Value), cs[i]? = some m → vs[i]? = some v → RM σ m v) : RM σ (.agg cs) (.agg vs)
  | fn (f : Nat) (cs : List M) (vs : Array Value) (hl : vs.size = cs.length) (h : ∀ (i : Nat) (m : M) (v : Value), cs[i]? = some m → vs[i]? = some v → RM σ m v) : RM σ (.fn f cs) (.func (.func f) #[] vs)
  | tup (cs : List M) (vs : Array Value) (hl : vs.size = cs.length) (h : ∀ (i : Nat) (m : M) (v : Value), cs[i]? = some m → vs[i]? = some v → RM σ m v) : RM σ (.tup cs) (.tuple vs)
  | undef (v : Value) : RM σ .undef v

/-- What values refer to, stays. -/
structure Mono (σ τ : Sg) : Prop where
  cell : ∀ b o v, cellv σ.w b o = some v → ¬ σ.O b o → cellv τ.w b o = some v ∧ ¬ τ.O b o
  box : ∀ (i : Nat) cs, σ.H[i]? = some (.box cs) → (∃ cs', τ.H[i]? = some (.box cs')) ∧ τ.l i = σ.l i
  map : ∀ (i : Nat) es, σ.H[i]? = some (.map es) → (∃ es', τ.H[i]? = some (.map es')) ∧ τ.l i = σ.l i
  dead : ∀ i : Nat, σ.H[i]? = some .dead → τ.H[i]? = some .dead
  row : ∀ (i : Nat) acc ec ver cs, σ.H[i]? = some (.row acc ec ver cs) → τ.H[i]? = some .dead ∨ ∃ acc' ver' cs', τ.H[i]? = some (.row acc' ec ver' cs') ∧ ver ≤ ver' ∧
    (ver' = ver → τ.l i = σ.l i ∧ cs'.length = cs.length ∧ ∀ arr T, σ.w.heap[σ.l i]? = some (.cells arr T (0, 0)) → ∃ arr', τ.w.heap[σ.l i]? = some (.cells arr' T (0, 0)) ∧ arr'.size = arr.size)
  free : ∀ i : Nat, σ.H[i]? = some .free → ∃ ob, τ.H[i]? = some ob

theorem Mono.refl (σ : Sg) : Mono σ σ :=
  ⟨fun _ _ _ h h' => ⟨h, h'⟩, fun _ cs h => ⟨⟨cs, h⟩, rfl⟩, fun _ es h => ⟨⟨es, h⟩, rfl⟩, fun _ h => h,
   fun _ acc ec ver cs h => .inr ⟨acc, ver, cs, h, Nat.le_refl _, fun _ => ⟨rfl, rfl, fun arr T h => ⟨arr, h, rfl⟩⟩⟩, fun _ h => ⟨_, h⟩⟩

/-- an object stays an object -/
theorem Mono.has {σ τ : Sg} (h : Mono σ τ) (i : Nat) (ob : Ob) (hi : σ.H[i]? = some ob) : ∃ ob', τ.H[i]? = some ob' := by
  cases ob with
  | box cs => obtain ⟨⟨cs', a⟩, _⟩ := h.box i cs hi; exact ⟨_, a⟩
  | map cs => obtain ⟨⟨cs', a⟩, _⟩ := h.map i cs hi; exact ⟨_, a⟩
  | dead => exact ⟨_, h.dead i hi⟩
  | free => exact h.free i hi
  | row acc ec ver cs =>
    rcases h.row i acc ec ver cs hi with a | ⟨_, _, _, a, _⟩
    · exact ⟨_, a⟩
    · exact ⟨_, a⟩

theorem Mono.trans {σ τ υ : Sg} (h : Mono σ τ) (k : Mono τ υ) : Mono σ υ := by
  refine ⟨?_, ?_, ?_, ?_, ?_, fun i h1 => let ⟨ob, h2⟩ := h.free i h1; k.has i ob h2⟩
  · intro b o v h1 h2
    obtain ⟨a1, a2⟩ := h.cell b o v h1 h2
    exact k.cell b o v a1 a2
  · intro i cs h1
    obtain ⟨⟨cs', a1⟩, a2⟩ := h.box i cs h1
    obtain ⟨a3, a4⟩ := k.box i cs' a1
    exact ⟨a3, a4.trans a2⟩
  · intro i cs h1
    obtain ⟨⟨cs', a1⟩, a2⟩ := h.map i cs h1
    obtain ⟨a3, a4⟩ := k.map i cs' a1
    exact ⟨a3, a4.trans a2⟩
  · exact fun i h1 => k.dead i (h.dead i h1)
  · intro i acc ec ver cs h1
    rcases h.row i acc ec ver cs h1 with h2 | ⟨acc', ver', cs', h2, h3, h4⟩
    · exact .inl (k.dead i h2)
    · rcases k.row i acc' ec ver' cs' h2 with h5 | ⟨acc2, ver2, cs2, h5, h6, h7⟩
      · exact .inl h5
      · refine .inr ⟨acc2, ver2, cs2, h5, Nat.le_trans h3 h6, fun he => ?_⟩
        have e1 : ver' = ver := by omega
        have e2 : ver2 = ver' := by omega
        obtain ⟨x1, x2, x3⟩ := h4 e1
        obtain ⟨y1, y2, y3⟩ := h7 e2
        refine ⟨y1.trans x1, y2.trans x2, fun arr T ha => ?_⟩
        obtain ⟨arr1, z1, z2⟩ := x3 arr T ha
        rw [x1] at y3
        obtain ⟨arr2, z3, z4⟩ := y3 arr1 T z1
        exact ⟨arr2, z3, z4.trans z2⟩

theorem RM.mono {σ τ : Sg} (hm : Mono σ τ) {m : M} {v : Value} (h : RM σ m v) : RM τ m v := by
  have hlek : ∀ (i ver : Nat), (σ.H[i]? = some .dead ∨ ∃ acc ec ver' cs, σ.H[i]? = some (.row acc ec ver' cs) ∧ ver ≤ ver') →
      (τ.H[i]? = some .dead ∨ ∃ acc ec ver' cs, τ.H[i]? = some (.row acc ec ver' cs) ∧ ver ≤ ver') := by
    intro i ver h
    rcases h with h | ⟨acc, ec, ver', cs, h1, h2⟩
    · exact .inl (hm.dead i h)
    · rcases hm.row i acc ec ver' cs h1 with h3 | ⟨acc2, ver2, cs2, h3, h4, _⟩
      · exact .inl h3
      · exact .inr ⟨acc2, ec, ver2, cs2, h3, Nat.le_trans h2 h4⟩
  have hcurk : ∀ (i ver : Nat) acc ec cs, (σ.H[i]? = some .dead ∨ ∃ acc ec ver' cs, σ.H[i]? = some (.row acc ec ver' cs) ∧ ver ≤ ver') → τ.H[i]? = some (.row acc ec ver cs) →
      ∃ acc0 cs0, σ.H[i]? = some (.row acc0 ec ver cs0) ∧ τ.l i = σ.l i ∧ cs.length = cs0.length ∧ ∀ arr T, σ.w.heap[σ.l i]? = some (.cells arr T (0, 0)) → ∃ arr', τ.w.heap[σ.l i]? = some (.cells arr' T (0, 0)) ∧ arr'.size = arr.size := by
    intro i ver acc ec cs hle ht
    rcases hle with h | ⟨acc1, ec1, ver1, cs1, h1, h2⟩
    · have := hm.dead i h; rw [this] at ht; cases ht
    · rcases hm.row i acc1 ec1 ver1 cs1 h1 with h3 | ⟨acc2, ver2, cs2, h3, h4, h5⟩
      · rw [h3] at ht; cases ht
      · rw [h3] at ht
        injection ht with ht
        injection ht with e1 e2 e3 e4
        subst e1; subst e2; subst e4; subst e3
        have e : ver1 = ver2 := by omega
        subst e
        obtain ⟨x1, x2, x3⟩ := h5 rfl
        exact ⟨acc1, cs1, h1, x1, x2, x3⟩
  induction h with
  | d h => exact .d (h.mono hm.cell)
  | ref i off cs h =>
    obtain ⟨⟨cs', h1⟩, h2⟩ := hm.box i cs h
    rw [← h2]
    exact .ref i off cs' h1
  | rsl i ver len a cap hle hcur =>
    refine .rsl i ver len a cap (hlek i ver hle) fun acc ec cs ht => ?_
    obtain ⟨acc0, cs0, h1, h2, h3, h4⟩ := hcurk i ver acc ec cs hle ht
    obtain ⟨y1, y2, arr, T, y3, y4⟩ := hcur acc0 ec cs0 h1
    obtain ⟨arr', y5, y6⟩ := h4 arr T y3
    rw [h2]
    exact ⟨y1, h3.trans y2, arr', T, y5, y6.trans y4⟩
  | rref i ver off b hle hcur =>
    refine .rref i ver off b (hlek i ver hle) fun acc ec cs ht => ?_
    obtain ⟨acc0, cs0, h1, h2, h3, h4⟩ := hcurk i ver acc ec cs hle ht
    rw [h2]
    exact hcur acc0 ec cs0 h1
  | mp i es h =>
    obtain ⟨⟨es', h1⟩, h2⟩ := hm.map i es h
    rw [← h2]
    exact .mp i es' h1
  | agg cs vs hl hf h ih => exact .agg cs vs hl hf ih
  | fn f cs vs hl h ih => exact .fn f cs vs hl ih
  | tup cs vs hl h ih => exact .tup cs vs hl ih
  | undef v => exact .undef v

end Go.Mt
