import Derived.Test.YtjhinemdonddoaaMtB
set_option linter.unusedVariables false
namespace Go.Mt

def RMs (σ : Sg) (ms : List M) (vs : Array Value) : Prop :=
  vs.size = ms.length ∧ ∀ (i : Nat) (m : M) (v : Value), ms[i]? = some m → vs[i]? = some v → RM σ m v

theorem RMs.mono {σ τ : Sg} (hm : Mono σ τ) {ms : List M} {vs : Array Value} (h : RMs σ ms vs) : RMs τ ms vs :=
  ⟨h.1, fun i m v h1 h2 => (h.2 i m v h1 h2).mono hm⟩

/-- cells, one by one -/
def RMc (σ : Sg) (ms : List M) (vs : Array Value) : Prop :=
  vs.size = ms.length ∧ ∀ (i : Nat) (m : M) (v : Value), ms[i]? = some m → vs[i]? = some v → RM σ m v ∧ flat v = true
theorem RMc.mono {σ τ : Sg} (hm : Mono σ τ) {ms : List M} {vs : Array Value} (h : RMc σ ms vs) : RMc τ ms vs :=
  ⟨h.1, fun i m v h1 h2 => ⟨(h.2 i m v h1 h2).1.mono hm, (h.2 i m v h1 h2).2⟩⟩

def Ob.live : Ob → Prop
  | .dead => False
  | .free => False
  | _ => True
def Ob.owns : Ob → Nat → Prop
  | .box _, _ => True
  | .map _, _ => True
  | .row acc _ _ cs, o => acc = false ∨ cs.length ≤ o
  | .dead, _ => False
  | .free, _ => False

theorem Ob.live_of_owns {ob : Ob} {o : Nat} (h : ob.owns o) : ob.live := by cases ob <;> first | trivial | exact h

def keyVal : D → Option Value
  | .str s => some (.string s)
  | .int k n => some (.int k n)
  | _ => none

def EntOk (σ : Sg) (e : D × M) (u : MapEntry) : Prop := keyVal e.1 = some u.key ∧ RM σ e.2 u.val

def ObOk (σ : Sg) (b : Nat) : Ob → Prop
  | .box cs => ∃ arr T, σ.w.heap[b]? = some (.cells arr T (0, 0)) ∧ RMc σ cs arr
  | .row acc ec ver cs => 0 < ec ∧ ∃ arr T cap n, σ.w.heap[b]? = some (.cells arr T (0, 0)) ∧ arr.size = cap * ec ∧ n ≤ cap ∧ (cs.length = n * ec ∧ n ≤ 140737488355328) ∧
      ∀ (i : Nat) (m : M) (v : Value), cs[i]? = some m → arr[i]? = some v → RM σ m v ∧ flat v = true
  | .map es => ∃ ents clock, σ.w.heap[b]? = some (.map ents clock) ∧ ents.size = es.length ∧ ∀ (i : Nat) e u, es[i]? = some e → ents[i]? = some u → EntOk σ e u
  | .dead => True
  | .free => True

/-- The heap's objects stand; Oo: who else owns cells. -/
structure HInv (σ : Sg) (Oo : Nat → Nat → Prop) : Prop where
  obj : ∀ (i : Nat) ob, σ.H[i]? = some ob → ObOk σ (σ.l i) ob
  inj : ∀ (i j : Nat) x y, σ.H[i]? = some x → σ.H[j]? = some y → x.live → y.live → σ.l i = σ.l j → i = j
  own : ∀ b o, σ.O b o ↔ Oo b o ∨ ∃ (i : Nat) (ob : Ob), σ.H[i]? = some ob ∧ σ.l i = b ∧ ob.owns o
  sep : ∀ (i : Nat) ob, σ.H[i]? = some ob → ob.live → ∀ o, ¬ Oo (σ.l i) o
  old : ∀ b o, Oo b o → b < σ.w.heap.size

theorem ObOk.lt {σ : Sg} {b : Nat} {ob : Ob} (h : ObOk σ b ob) (hl : ob.live) : b < σ.w.heap.size := by
  have key : ∀ x : Obj, σ.w.heap[b]? = some x → b < σ.w.heap.size := by
    intro x hx
    rcases Nat.lt_or_ge b σ.w.heap.size with h | h
    · exact h
    · simp [Array.getElem?_eq_none h] at hx
  cases ob with
  | box cs => obtain ⟨arr, T, h1, _⟩ := h; exact key _ h1
  | row acc ec ver cs => obtain ⟨_, arr, T, cap, n, h1, _⟩ := h; exact key _ h1
  | map es => obtain ⟨e, c, h1, _⟩ := h; exact key _ h1
  | dead => exact hl.elim
  | free => exact hl.elim

theorem HInv.oold {σ : Sg} {Oo : Nat → Nat → Prop} (h : HInv σ Oo) : ∀ b o, σ.O b o → b < σ.w.heap.size := by
  intro b o hb
  rcases (h.own b o).1 hb with h1 | ⟨i, ob, h1, h2, h3⟩
  · exact h.old b o h1
  · rw [← h2]; exact (h.obj i ob h1).lt (Ob.live_of_owns h3)

/-- What lay there before and is no object of the heap is as it was. -/
structure Blk (σ τ : Sg) : Prop where
  os : τ.w.os = σ.w.os
  output : τ.w.output = σ.w.output
  tape : τ.w.tape = σ.w.tape
  size : σ.w.heap.size ≤ τ.w.heap.size
  blk : ∀ b, b < σ.w.heap.size → (∀ (i : Nat) ob, σ.H[i]? = some ob → ob.live → σ.l i ≠ b) → τ.w.heap[b]? = σ.w.heap[b]?
  loc : ∀ (i : Nat) ob, τ.H[i]? = some ob → ob.live → σ.w.heap.size ≤ τ.l i ∨ ∃ ob', σ.H[i]? = some ob' ∧ ob'.live ∧ τ.l i = σ.l i

theorem Blk.refl (σ : Sg) : Blk σ σ := ⟨rfl, rfl, rfl, Nat.le_refl _, fun _ _ _ => rfl, fun i ob h hl => .inr ⟨ob, h, hl, rfl⟩⟩

theorem Blk.trans {σ τ υ : Sg} (h : Blk σ τ) (k : Blk τ υ) : Blk σ υ := by
  refine ⟨k.os.trans h.os, k.output.trans h.output, k.tape.trans h.tape, Nat.le_trans h.size k.size, ?_, ?_⟩
  · intro b hb hn
    rw [k.blk b (Nat.lt_of_lt_of_le hb h.size) ?_, h.blk b hb hn]
    intro i ob hi hl he
    rcases h.loc i ob hi hl with h1 | ⟨ob', h1, h2, h3⟩
    · omega
    · exact hn i ob' h1 h2 (by rw [← h3]; exact he)
  · intro i ob hi hl
    rcases k.loc i ob hi hl with h1 | ⟨ob', h1, h2, h3⟩
    · exact .inl (Nat.le_trans h.size h1)
    · rcases h.loc i ob' h1 h2 with h4 | ⟨ob2, h4, h5, h6⟩
      · exact .inl (by rw [h3]; exact h4)
      · exact .inr ⟨ob2, h4, h5, h3.trans h6⟩

inductive RV (σ : Sg) (lam : Nat → Nat) : V → Value → Prop where
  | m {x : M} {v : Value} (h : RM σ x v) : RV σ lam (.m x) v
  | loc (t off : Nat) : RV σ lam (.loc t off) (.pointer (some ⟨lam t, off, none⟩))

theorem RV.mono {σ τ : Sg} {lam : Nat → Nat} (hm : Mono σ τ) {x : V} {v : Value} (h : RV σ lam x v) : RV τ lam x v := by
  cases h with
  | m h => exact .m (h.mono hm)
  | loc t off => exact .loc t off

def Oof (Oout : Nat → Nat → Prop) (lam : Nat → Nat) (bx : List (Nat × List M)) (b o : Nat) : Prop :=
  Oout b o ∨ ∃ t cs, get bx t = some cs ∧ lam t = b

structure Ctx where
  P : Program
  n : Nat
  s0 : Sg
  Oout : Nat → Nat → Prop
  df : List Deferred

/-- The invariant of a running function. -/
structure FInv (X : Ctx) (σ : Sg) (lam : Nat → Nat) (st : St) (a : Act) : Prop where
  hH : σ.H = st.H
  defers : a.defers = X.df
  size : a.tmps.size = X.n
  slot : ∀ t v, get st.sl t = some v → ∃ u, a.tmps[t]? = some u ∧ RV σ lam v u
  box : ∀ t cs, get st.bx t = some cs → ObOk σ (lam t) (.box cs)
  binj : ∀ t u cs ds, get st.bx t = some cs → get st.bx u = some ds → lam t = lam u → t = u
  bsep : ∀ t cs, get st.bx t = some cs → ∀ o, ¬ X.Oout (lam t) o
  bnew : ∀ t cs, get st.bx t = some cs → X.s0.w.heap.size ≤ lam t
  hinv : HInv σ (Oof X.Oout lam st.bx)
  mono : Mono X.s0 σ
  blk : Blk X.s0 σ

def Inv (X : Ctx) (st : St) (a : Act) (w : World) : Prop := ∃ σ lam, σ.w = w ∧ FInv X σ lam st a

/-- The triple over code. -/
def TC (X : Ctx) (c : Code) (st : St) (post : Exit → St → Prop) : Prop :=
  ∀ a w, Inv X st a w → c.wp X.P (fun e a' w' => ∃ st', post e st' ∧ Inv X st' a' w') a w

def TL (X : Ctx) (ops : Array Oper) (l : List Oper) (st : St) (post : St → Prop) : Prop :=
  ∀ a w, Inv X st a w → wpList X.P ops (fun e a' w' => e = .normal ∧ ∃ st', post st' ∧ Inv X st' a' w') l a w

def after (post : Exit → St → Prop) (k : St → Prop) : Exit → St → Prop
  | .normal, s => k s
  | e, s => post e s

section code
variable {X : Ctx} {st : St} {post : Exit → St → Prop}

theorem TC.mono {c : Code} {post' : Exit → St → Prop} (h : TC X c st post) (hp : ∀ e s, post e s → post' e s) : TC X c st post' :=
  fun a w hi => wp_mono (h a w hi) fun e a' w' ⟨s, h1, h2⟩ => ⟨s, hp _ _ h1, h2⟩

theorem TC.seq {x y : Code} (h : TC X x st (after post fun s => TC X y s post)) : TC X (.seq x y) st post := by
  intro a w hi
  refine wp_seq (wp_mono (h a w hi) ?_)
  intro e a' w' ⟨s, h1, h2⟩
  cases e with
  | normal => exact h1 a' w' h2
  | _ => exact ⟨s, h1, h2⟩

theorem TC.skip (h : post .normal st) : TC X .skip st post := fun a w hi => wp_skip ⟨st, h, hi⟩
theorem TC.exit {id : Nat} (h : post (.exit id) st) : TC X (.exit id) st post := fun a w hi => wp_exit ⟨st, h, hi⟩
theorem TC.ret (h : post .ret st) : TC X .ret st post := fun a w hi => wp_ret ⟨st, h, hi⟩

def inBlk (id : Nat) (post : Exit → St → Prop) : Exit → St → Prop
  | .exit i, s => if i = id then post .normal s else post (.exit i) s
  | e, s => post e s

theorem TC.block {id : Nat} {c : Code} (h : TC X c st (inBlk id post)) : TC X (.block id c) st post := by
  intro a w hi
  refine wp_block (wp_mono (h a w hi) ?_)
  intro e a' w' ⟨s, h1, h2⟩
  cases e with
  | exit i =>
    simp only [inBlk] at h1
    simp only [Exit.inBlock]
    by_cases he : i = id
    · rw [if_pos he] at h1 ⊢; exact ⟨s, h1, h2⟩
    · rw [if_neg he] at h1 ⊢; exact ⟨s, h1, h2⟩
  | _ => exact ⟨s, h1, h2⟩

theorem TC.loop {c : Code} (I : Nat → St → Prop) (k0 : Nat) (h0 : I k0 st)
    (round : ∀ k s, I k s → TC X c s (after post fun s' => ∃ k', k' < k ∧ I k' s')) : TC X (.loop c) st post := by
  intro a w hi
  refine wp_loop_ghost (fun k a w => ∃ s, I k s ∧ Inv X s a w) k0 ⟨st, h0, hi⟩ ?_
  rintro k a w ⟨s, h1, h2⟩
  refine wp_mono (round k s h1 a w h2) ?_
  intro e a' w' ⟨s', h3, h4⟩
  cases e with
  | normal => obtain ⟨k', h5, h6⟩ := h3; exact ⟨k', h5, s', h6, h4⟩
  | _ => exact ⟨s', h3, h4⟩

theorem TC.region {id : Nat} {ops : List Oper} (h : TL X ops.toArray ops st (post .normal)) : TC X (.region id ops.toArray false) st post := by
  intro a w hi
  refine wp_region_lit ?_
  have key : ∀ l a w, wpList X.P ops.toArray (fun e a' w' => e = .normal ∧ ∃ st', post .normal st' ∧ Inv X st' a' w') l a w →
      wpList X.P ops.toArray (fun e a' w' => ∃ st', post e st' ∧ Inv X st' a' w') l a w := by
    have hq : ∀ (e : Exit) a w, (e = .normal ∧ ∃ st', post .normal st' ∧ Inv X st' a w) → ∃ st', post e st' ∧ Inv X st' a w := by
      rintro e a w ⟨rfl, h⟩; exact h
    have hlet : ∀ (Q Q' : Exit → Act → World → Prop), (∀ e a w, Q e a w → Q' e a w) → LetsOut Q → LetsOut Q' := fun Q Q' h ⟨a, w, q⟩ => ⟨a, w, h _ _ _ q⟩
    have up : ∀ (o : Oper) (a : Act) (w : World) (next next' : Act → World → Prop) (Q Q' : Exit → Act → World → Prop), (∀ a w, next a w → next' a w) → (∀ e a w, Q e a w → Q' e a w) → o.wp X.P a w next Q → o.wp X.P a w next' Q' := by
      intro o a w next next' Q Q' hn hq h
      unfold Oper.wp at *
      generalize (execOp a.eval o).run X.P w = r at *
      cases r with
      | ok x w' =>
        cases x <;> simp only [Oper.upon] at h ⊢ <;>
          first
            | exact hn _ _ h
            | exact Calls.mono h (fun e w'' he => by cases e <;> first | exact hn _ _ he | exact hq _ _ _ he | exact hlet _ _ hq he)
            | exact Rows.mono h (fun _ _ he => hn _ _ he)
            | exact h
      | halt x w' => cases x <;> simp only [Oper.upon] at h ⊢ <;> first | exact hq _ _ _ h | exact h
    intro l
    induction l with
    | nil => intro a w h; exact hq _ _ _ h
    | cons o l ih =>
      intro a w h
      unfold wpList at h ⊢
      split
      · rename_i hw
        rw [if_pos hw] at h
        rcases h with h | ⟨h1, h2⟩
        · exact .inl (up o a w _ _ _ _ ih hq h)
        · exact .inr ⟨h1, hlet _ _ hq h2⟩
      · rename_i hw
        rw [if_neg hw] at h
        exact ih _ _ h
  exact key _ _ _ (h a w hi)

end code
end Go.Mt
