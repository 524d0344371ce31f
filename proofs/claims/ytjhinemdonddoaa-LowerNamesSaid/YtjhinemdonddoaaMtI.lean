import Derived.Test.YtjhinemdonddoaaMtH
set_option linter.unusedVariables false
namespace Go.Mt

/-- the first entry of each slot decides: no address of variable t is left -/
def noLoc (t : Nat) : List (Nat × V) → Bool
  | [] => true
  | (_, .loc u _) :: r => !Nat.beq u t && noLoc t r
  | _ :: r => noLoc t r
theorem noLoc_get : ∀ {l : List (Nat × V)} {t k o : Nat}, noLoc t l = true → get l k ≠ some (.loc t o) := by
  intro l
  induction l with
  | nil => intro t k o _ h; simp [get] at h
  | cons x l ih =>
    intro t k o hn h
    obtain ⟨j, u⟩ := x
    cases u with
    | m m =>
      rcases get_cons_eq h with ⟨rfl, h2⟩ | ⟨h1, h2⟩
      · cases h2
      · exact ih hn h2
    | loc u o' =>
      simp only [noLoc, Bool.and_eq_true, Bool.not_eq_true'] at hn
      rcases get_cons_eq h with ⟨rfl, h2⟩ | ⟨h1, h2⟩
      · injection h2 with e1 e2; subst e1; simp at hn
      · exact ih hn.2 h2
def clearLoc (t : Nat) : List (Nat × V) → List (Nat × V)
  | [] => []
  | (k, .loc u o) :: r => bif Nat.beq u t then (k, .m .undef) :: clearLoc t r else (k, .loc u o) :: clearLoc t r
  | (k, .m m) :: r => (k, .m m) :: clearLoc t r
theorem get_clearLoc : ∀ {l : List (Nat × V)} {t k : Nat} {v : V}, get (clearLoc t l) k = some v → (v = .m .undef ∧ ∃ u, get l k = some u) ∨ (get l k = some v ∧ ∀ o, v ≠ .loc t o) := by
  intro l
  induction l with
  | nil => intro t k v h; simp [clearLoc, get] at h
  | cons x l ih =>
    intro t k v h
    obtain ⟨j, u⟩ := x
    cases u with
    | m m =>
      unfold clearLoc at h
      rcases get_cons_eq h with ⟨rfl, rfl⟩ | ⟨h1, h2⟩
      · exact .inr ⟨by simp [get_cons], fun o h => by cases h⟩
      · rw [get_cons, if_neg (fun e => h1 e.symm)]; exact ih h2
    | loc u o =>
      unfold clearLoc at h
      cases hb : Nat.beq u t with
      | false =>
        rw [hb] at h
        rcases get_cons_eq h with ⟨rfl, rfl⟩ | ⟨h1, h2⟩
        · exact .inr ⟨by simp [get_cons], fun o' h => by injection h with e1 e2; subst e1; simp at hb⟩
        · rw [get_cons, if_neg (fun e => h1 e.symm)]; exact ih h2
      | true =>
        rw [hb] at h
        rcases get_cons_eq h with ⟨rfl, rfl⟩ | ⟨h1, h2⟩
        · exact .inl ⟨rfl, .loc u o, by simp [get_cons]⟩
        · rw [get_cons, if_neg (fun e => h1 e.symm)]; exact ih h2

section ops
variable {X : Ctx} {st : St} {dst : Option Nat} {ty : Nat} {pos : String} {af : Array Edge} {g : Option (Nat × Bool)}

/-- a new variable of the frame's own, in slot d -/
theorem FInv.newBox {σ : Sg} {lam : Nat → Nat} {a : Act} {d T : Nat} {cs : List M} {arr : Array Value} (hi : FInv X σ lam st a) (hc : RMc σ cs arr) :
    ∃ σ' lam', σ'.w = { σ.w with heap := σ.w.heap.push (.cells arr T (0, 0)) } ∧ lam' d = σ.w.heap.size ∧ FInv X σ' lam' ⟨clearLoc d st.sl, (d, cs) :: st.bx, st.H⟩ a := by
  let b := σ.w.heap.size
  let w' : World := { σ.w with heap := σ.w.heap.push (.cells arr T (0, 0)) }
  let lam' : Nat → Nat := fun u => if u = d then b else lam u
  have hext : ExtW σ.w w' := ExtW.alloc _ _
  let O' : Nat → Nat → Prop := fun c o => Oof X.Oout lam' ((d, cs) :: st.bx) c o ∨ ∃ (i : Nat) (ob : Ob), σ.H[i]? = some ob ∧ σ.l i = c ∧ ob.owns o
  let σ' : Sg := ⟨w', O', σ.l, σ.H⟩
  have hlamlt : ∀ u ds, get st.bx u = some ds → lam u < b := fun u ds h => (hi.box u ds h).lt trivial
  have hOO : ∀ c o, c < b → O' c o → σ.O c o := by
    intro c o hcb h
    rw [hi.hinv.own]
    rcases h with (h | ⟨u, ds, h1, h2⟩) | h
    · exact .inl (.inl h)
    · rcases get_cons_eq h1 with ⟨rfl, rfl⟩ | ⟨h3, h4⟩
      · simp [lam'] at h2; omega
      · simp [lam', h3] at h2; exact .inl (.inr ⟨u, ds, h4, h2⟩)
    · exact .inr h
  have hmono : Mono σ σ' := by
    refine ⟨fun c o v h1 h2 => ⟨hext.cell h1, fun h3 => h2 (hOO c o (lt_of_cellv h1) h3)⟩, fun i cs h1 => ⟨⟨cs, h1⟩, rfl⟩, fun i cs h1 => ⟨⟨cs, h1⟩, rfl⟩, fun i h1 => h1,
      fun i acc ec ver cs h1 => .inr ⟨acc, ver, cs, h1, Nat.le_refl _, fun _ => ⟨rfl, rfl, fun arr T ha => ⟨arr, hext.heap ha, rfl⟩⟩⟩, fun _ h => ⟨_, h⟩⟩
  have hl : ∀ (i : Nat) ob, σ.H[i]? = some ob → ob.live → σ.l i < b := fun i ob h1 h2 => (hi.hinv.obj i ob h1).lt h2
  refine ⟨σ', lam', rfl, by simp [lam', b], ?_⟩
  refine ⟨hi.hH, hi.defers, hi.size, ?_, ?_, ?_, ?_, ?_, ?_, hi.mono.trans hmono, ?_⟩
  · intro t v h
    rcases get_clearLoc h with ⟨rfl, u, h1⟩ | ⟨h1, h2⟩
    · obtain ⟨z, h3, _⟩ := hi.slot t u h1
      exact ⟨z, h3, .m (.undef _)⟩
    · obtain ⟨z, h3, h4⟩ := hi.slot t v h1
      refine ⟨z, h3, ?_⟩
      cases h4 with
      | m h4 => exact .m (h4.mono hmono)
      | loc u o =>
        have hne : u ≠ d := by rintro rfl; exact h2 o rfl
        have : lam' u = lam u := by simp [lam', hne]
        rw [← this]; exact .loc u o
  · intro u ds h1
    rcases get_cons_eq h1 with ⟨rfl, rfl⟩ | ⟨h3, h4⟩
    · refine ⟨arr, T, ?_, hc.mono hmono⟩
      simp [lam', σ', w', b]
    · have : lam' u = lam u := by simp [lam', h3]
      rw [this]
      exact (hi.box u ds h4).keep hmono fun x hx => hext.heap hx
  · intro u v ds es h1 h2 h3
    rcases get_cons_eq h1 with ⟨rfl, rfl⟩ | ⟨h4, h5⟩ <;> rcases get_cons_eq h2 with ⟨rfl, rfl⟩ | ⟨h6, h7⟩
    · rfl
    · simp [lam', h6] at h3; have := hlamlt v es h7; omega
    · simp [lam', h4] at h3; have := hlamlt u ds h5; omega
    · simp [lam', h4, h6] at h3; exact hi.binj u v ds es h5 h7 h3
  · intro u ds h1 o h2
    rcases get_cons_eq h1 with ⟨rfl, rfl⟩ | ⟨h4, h5⟩
    · simp [lam'] at h2
      have := hi.hinv.old _ _ (.inl h2)
      simp [b] at this
    · simp [lam', h4] at h2; exact hi.bsep u ds h5 o h2
  · intro u ds h1
    rcases get_cons_eq h1 with ⟨rfl, rfl⟩ | ⟨h4, h5⟩
    · simp [lam']; exact hi.blk.size
    · simp [lam', h4]; exact hi.bnew u ds h5
  · refine ⟨fun i ob h1 => (hi.hinv.obj i ob h1).keep hmono fun x hx => hext.heap hx, hi.hinv.inj, fun c o => Iff.rfl, ?_, ?_⟩
    · intro i ob h1 h2 o h3
      have hlt := hl i ob h1 h2
      rcases h3 with h3 | ⟨u, ds, h3, h4⟩
      · exact hi.hinv.sep i ob h1 h2 o (.inl h3)
      · rcases get_cons_eq h3 with ⟨rfl, rfl⟩ | ⟨h5, h6⟩
        · simp [lam'] at h4; change b = σ.l i at h4; omega
        · simp [lam', h5] at h4; exact hi.hinv.sep i ob h1 h2 o (.inr ⟨u, ds, h6, h4⟩)
    · intro c o h3
      have hw : w'.heap.size = b + 1 := by simp [w', b]
      show c < w'.heap.size
      rcases h3 with h3 | ⟨u, ds, h3, h4⟩
      · have := hi.hinv.old c o (.inl h3); omega
      · rcases get_cons_eq h3 with ⟨rfl, rfl⟩ | ⟨h5, h6⟩
        · simp [lam'] at h4; omega
        · simp [lam', h5] at h4; have := hlamlt u ds h6; omega
  · refine hi.blk.trans ⟨rfl, rfl, rfl, hext.size, fun c hc _ => hext.blk c hc, fun i ob h1 h2 => .inr ⟨ob, h1, h2, rfl⟩⟩

class TyZero (P : Program) (t : Nat) (z : outParam D) : Prop where
  run : ∃ v, (∀ w, (zeroValue t).run P w = .ok v w) ∧ dOfVal v = some z
theorem tyZero_of {P : Program} {t : Nat} {z : D} (h : tyZero P t = some z) : TyZero P t z := by
  unfold tyZero at h
  split at h
  · rename_i i hi
    split at h
    · rename_i v hv
      exact ⟨v, fun w => by simp [zeroValue, typeInfo, program, Sem.run, hi, hv], h⟩
    · cases h
  · cases h

theorem op_alloc {T d : Nat} {z : D} [hz : TyZero X.P T z] :
    OpT X ⟨some d, .alloc T, ty, pos, af, g⟩ st (eqp (.loc d 0) ⟨clearLoc d st.sl, (d, (dcells z).map .d) :: st.bx, st.H⟩) := by
  intro a σ lam hi
  obtain ⟨v, h1, h2⟩ := hz.run
  have hr : RM σ (.d z) v := .d (dOfVal_rep h2)
  have hc := hr.cells rfl
  obtain ⟨σ', lam', h3, h4, h5⟩ := hi.newBox (d := d) (T := T) hc
  refine OpRun.value (u := .pointer (some ⟨σ.w.heap.size, 0, none⟩)) (w' := { σ.w with heap := σ.w.heap.push (.cells v.cells T (0, 0)) }) ?_ ⟨.loc d 0, _, σ', lam', ⟨rfl, rfl⟩, h3, h5, ?_⟩
  · simp [execOp, Instr.alloc, h1, newVar, newRow, newObj, Sem.run]
  · rw [← h4]; exact .loc d 0

/-- a variable of the frame's own out of a value -/
theorem op_boxL {T d : Nat} {x : Operand} {m : M} (hx : st.ev x = some (.m m)) (hok : m.okc = true) :
    OpT X ⟨some d, .box T x, ty, pos, af, g⟩ st (eqp (.loc d 0) ⟨clearLoc d st.sl, (d, cellsOf m) :: st.bx, st.H⟩) := by
  intro a σ lam hi
  have h := hi.ev hx
  cases h with
  | m h =>
    have hc := h.cells hok
    obtain ⟨σ', lam', h3, h4, h5⟩ := hi.newBox (d := d) (T := T) hc
    refine OpRun.value (u := .pointer (some ⟨σ.w.heap.size, 0, none⟩)) (w' := { σ.w with heap := σ.w.heap.push (.cells (a.eval x).cells T (0, 0)) }) ?_ ⟨.loc d 0, _, σ', lam', ⟨rfl, rfl⟩, h3, h5, ?_⟩
    · simp [execOp, Instr.box, newVar, newRow, newObj, Sem.run]
    · rw [← h4]; exact .loc d 0

end ops
end Go.Mt
