import Derived.Test.YtjhinemdonddoaaMtK
set_option linter.unusedVariables false
namespace Go.Mt

/-- What an operation does: its slot and value; the variables that it reads and writes; does it read the heap; the heap behind it. -/
structure Ef where
  d : Option Nat
  v : V
  rb : List Nat
  wb : List (Nat × List M)
  nw : Option Nat
  rh : Bool
  wh : Option Hp

def Ef.app (e : Ef) (st : St) : St :=
  ⟨match e.d with | some d => (d, e.v) :: st.sl | none => st.sl, e.wb ++ st.bx, match e.wh with | some h => h | none => st.H⟩

def OpS (X : Ctx) (ops : Array Oper) (o : Oper) (st st' : St) : Prop :=
  ∀ a w, Inv X st a w → ∀ (K : Act → World → Prop) (Q : Exit → Act → World → Prop), (∀ a' w', Inv X st' a' w' → K a' w') →
    if Region.wanted o (yielded ops a.tmps) then o.wp X.P a w K Q else K (a.put o.dst undef) w

structure Ag (ops : Array Oper) (o : Oper) (e : Ef) (st st2 : St) : Prop where
  sl : ∀ t ∈ o.looksAt ops, get st2.sl t = get st.sl t
  bx : ∀ t ∈ e.rb ++ e.wb.map (·.1), get st2.bx t = get st.bx t
  H : (e.rh || e.wh.isSome) = true → st2.H = st.H
  nw : ∀ d, e.nw = some d → ∀ t o, get st2.sl t ≠ some (.loc d o)

def StepF (X : Ctx) (ops : Array Oper) (o : Oper) (e : Ef) (st : St) : Prop := ∀ st2, Ag ops o e st st2 → OpS X ops o st2 (e.app st2)

inductive RunF (X : Ctx) (ops : Array Oper) : List Oper → St → List Ef → St → Prop where
  | nil (st : St) : RunF X ops [] st [] st
  | cons {o : Oper} {os : List Oper} {st st' : St} {e : Ef} {es : List Ef} (h : StepF X ops o e st) (hd : e.d = o.dst) (k : RunF X ops os (e.app st) es st') : RunF X ops (o :: os) st (e :: es) st'

def TF (X : Ctx) (ops : Array Oper) (l : List Oper) (st : St) (post : List Ef → St → Prop) : Prop := ∃ es st', RunF X ops l st es st' ∧ post es st'

theorem TF.nil {X : Ctx} {ops : Array Oper} {st : St} {post : List Ef → St → Prop} (h : post [] st) : TF X ops [] st post := ⟨[], st, .nil st, h⟩
theorem TF.cons {X : Ctx} {ops : Array Oper} {o : Oper} {rest : List Oper} {st : St} {e : Ef} {post : List Ef → St → Prop} (h : StepF X ops o e st) (hd : e.d = o.dst)
    (k : TF X ops rest (e.app st) fun es s => post (e :: es) s) : TF X ops (o :: rest) st post := by
  obtain ⟨es, st', h1, h2⟩ := k
  exact ⟨e :: es, st', .cons h hd h1, h2⟩

/-- which operations surely come ahead of each one -/
def befs (ops : List Oper) : List (List Nat) :=
  ops.foldl (fun acc o => acc ++ [(o.after.toList.filter (Region.binds .any)).flatMap fun e => e.on :: acc.getD e.on []]) []

def has (l : List Nat) (i : Nat) : Bool := l.any fun x => Nat.beq x i
def slotsOf (ops : Array Oper) (o : Oper) : List Nat := o.looksAt ops ++ o.dst.toList
def confl (ops : Array Oper) (x y : Oper) (e f : Ef) : Bool :=
  (match x.dst with | some d => has (slotsOf ops y) d | none => false) || (match y.dst with | some d => has (slotsOf ops x) d | none => false) ||
  (e.wb.any fun p => has (f.rb ++ f.wb.map (·.1)) p.1) || (f.wb.any fun p => has (e.rb ++ e.wb.map (·.1)) p.1) ||
  (e.wh.isSome && (f.rh || f.wh.isSome)) || (f.wh.isSome && e.rh) ||
  (match e.nw, f.v with | some d, .loc u _ => Nat.beq u d | _, _ => false)
def stale (e f : Ef) : Bool := match f.nw, e.v with
  | some d, .loc u _ => Nat.beq u d
  | _, _ => false

def edgesOk : Nat → List Oper → Bool
  | _, [] => true
  | j, o :: r => (o.after.toList.all fun e => !Region.binds .any e || Nat.blt e.on j) && edgesOk (j + 1) r
def pairsOk1 (ops : Array Oper) (x : Oper) (e : Ef) (i : Nat) : List Oper → List Ef → List (List Nat) → Bool
  | y :: ys, f :: fs, b :: bs => (!confl ops x y e f || has b i) && !stale e f && pairsOk1 ops x e i ys fs bs
  | _, _, _ => true
def pairsOk (ops : Array Oper) : Nat → List Oper → List Ef → List (List Nat) → Bool
  | i, x :: xs, e :: es, b :: bs => pairsOk1 ops x e i xs es bs && pairsOk ops (i + 1) xs es bs
  | _, _, _, _ => true
def noStale (sl : List (Nat × V)) : List Ef → Bool
  | [] => true
  | e :: es => (match e.nw with | some d => noLoc d sl | none => true) && noStale sl es
def orderOk (ops : List Oper) (sl : List (Nat × V)) (es : List Ef) : Bool :=
  edgesOk 0 ops && pairsOk ops.toArray 0 ops es (befs ops) && noStale sl es

theorem has_iff {l : List Nat} {i : Nat} : has l i = true ↔ i ∈ l := by
  unfold has
  rw [List.any_eq_true]
  constructor
  · rintro ⟨x, h1, h2⟩; rw [← Nat.eq_of_beq_eq_true h2]; exact h1
  · intro h; exact ⟨i, h, Nat.beq_refl i⟩

/-- the state behind those of the first k operations that are listed -/
def S (st : St) (es : List Ef) (listed : Nat → Bool) : Nat → St
  | 0 => st
  | k + 1 => match es[k]? with
    | some e => bif listed k then e.app (S st es listed k) else S st es listed k
    | none => S st es listed k

/-- a part of the state that some operations write -/
structure Part (α : Type) (es : List Ef) where
  r : St → α
  W : Nat → Bool
  c : Nat → α
  keep : ∀ k e s, es[k]? = some e → W k = false → r (e.app s) = r s
  write : ∀ k e s, es[k]? = some e → W k = true → r (e.app s) = c k

section parts
variable {α : Type} {es : List Ef} (p : Part α es) {st : St}

theorem S_all_of (L L' : Nat → Bool) : ∀ n, (∀ k, k < n → p.W k = true → L k = L' k) → p.r (S st es L n) = p.r (S st es L' n)
  | 0, _ => rfl
  | n + 1, h => by
    have ih := S_all_of L L' n (fun k hk => h k (by omega))
    simp only [S]
    cases he : es[n]? with
    | none => exact ih
    | some e =>
      simp only
      cases hw : p.W n with
      | false =>
        cases hl : L n <;> cases hl' : L' n <;> simp only [cond_true, cond_false] <;> (try rw [p.keep n e _ he hw]) <;> (try rw [p.keep n e _ he hw]) <;> exact ih
      | true =>
        have := h n (by omega) hw
        rw [this]
        cases hl' : L' n <;> simp only [cond_true, cond_false]
        · exact ih
        · rw [p.write n e _ he hw, p.write n e _ he hw]

theorem S_stop (L : Nat → Bool) (i : Nat) : ∀ n, i ≤ n → (∀ k, i ≤ k → k < n → p.W k = true → L k = false) → p.r (S st es L n) = p.r (S st es L i)
  | 0, h0, _ => by have : i = 0 := by omega
                   subst this; rfl
  | n + 1, h0, h => by
    by_cases e : i = n + 1
    · subst e; rfl
    · have ih := S_stop L i n (by omega) (fun k h1 h2 => h k h1 (by omega))
      simp only [S]
      cases he : es[n]? with
      | none => exact ih
      | some e =>
        simp only
        cases hl : L n with
        | false => exact ih
        | true =>
          simp only [cond_true]
          cases hw : p.W n with
          | false => rw [p.keep n e _ he hw]; exact ih
          | true => rw [h n (by omega) (by omega) hw] at hl; cases hl

/-- what operation i finds is what it finds in the order of the text -/
theorem S_agree (L : Nat → Bool) (i m : Nat) (hi : i ≤ m) (h1 : ∀ k, k < i → p.W k = true → L k = true) (h2 : ∀ k, i ≤ k → k < m → p.W k = true → L k = false) :
    p.r (S st es L m) = p.r (S st es (fun _ => true) i) :=
  (S_stop p L i m hi h2).trans (S_all_of p L _ i fun k hk hw => h1 k hk hw)

/-- operation i, behind the others that are listed -/
theorem S_put (L : Nat → Bool) (i m : Nat) (hi : i < m) (e : Ef) (he : es[i]? = some e) (hL : L i = false) (h2 : p.W i = true → ∀ k, i < k → k < m → p.W k = true → L k = false) :
    p.r (S st es (fun k => if k = i then true else L k) m) = p.r (e.app (S st es L m)) := by
  cases hw : p.W i with
  | true =>
    rw [p.write i e _ he hw]
    have := S_stop p (st := st) (fun k => if k = i then true else L k) (i + 1) m (by omega) (fun k h3 h4 h5 => by
      have : k ≠ i := by omega
      simp [this]; exact h2 hw k (by omega) h4 h5)
    rw [this]
    simp only [S, he, if_true, cond_true]
    exact p.write i e _ he hw
  | false =>
    rw [p.keep i e _ he hw]
    exact S_all_of p _ _ m fun k hk hwk => by
      have : k ≠ i := by rintro rfl; rw [hw] at hwk; cases hwk
      simp [this]
end parts

def slotPart (es : List Ef) (t : Nat) : Part (Option V) es where
  r s := get s.sl t
  W k := match es[k]? with
    | some e => match e.d with | some d => Nat.beq d t | none => false
    | none => false
  c k := match es[k]? with | some e => some e.v | none => none
  keep k e s he hw := by
    simp only [he] at hw
    unfold Ef.app
    cases hd : e.d with
    | none => rfl
    | some d =>
      simp only [hd] at hw
      have : d ≠ t := by rintro rfl; simp at hw
      simp [get_cons, this]
  write k e s he hw := by
    simp only [he] at hw ⊢
    unfold Ef.app
    cases hd : e.d with
    | none => simp [hd] at hw
    | some d =>
      simp only [hd] at hw
      have := Nat.eq_of_beq_eq_true hw
      subst this
      simp [get_cons]

theorem get_append {α : Type} (l r : List (Nat × α)) (t : Nat) : get (l ++ r) t = match get l t with | some v => some v | none => get r t := by
  induction l with
  | nil => rfl
  | cons x l ih =>
    obtain ⟨k, v⟩ := x
    rw [List.cons_append, get_cons, get_cons]
    by_cases e : k = t
    · simp [e]
    · simp [e, ih]
theorem get_some_iff {α : Type} (l : List (Nat × α)) (t : Nat) : (get l t).isSome = has (l.map (·.1)) t := by
  induction l with
  | nil => rfl
  | cons x l ih =>
    obtain ⟨k, v⟩ := x
    rw [get_cons]
    by_cases e : k = t
    · subst e; simp [has]
    · have : Nat.beq k t = false := by rw [← Bool.not_eq_true]; intro h; exact e (Nat.eq_of_beq_eq_true h)
      simp only [e, if_false, ih, has, List.map_cons, List.any_cons, this, Bool.false_or]

def boxPart (es : List Ef) (t : Nat) : Part (Option (List M)) es where
  r s := get s.bx t
  W k := match es[k]? with
    | some e => has (e.wb.map (·.1)) t
    | none => false
  c k := match es[k]? with | some e => get e.wb t | none => none
  keep k e s he hw := by
    simp only [he] at hw
    have h := get_some_iff e.wb t
    rw [hw] at h
    show get (e.wb ++ s.bx) t = _
    rw [get_append]
    cases hg : get e.wb t with
    | none => rfl
    | some v => rw [hg] at h; cases h
  write k e s he hw := by
    simp only [he] at hw ⊢
    have h := get_some_iff e.wb t
    rw [hw] at h
    show get (e.wb ++ s.bx) t = _
    rw [get_append]
    cases hg : get e.wb t with
    | none => rw [hg] at h; cases h
    | some v => rfl

def heapPart (es : List Ef) : Part Hp es where
  r s := s.H
  W k := match es[k]? with
    | some e => e.wh.isSome
    | none => false
  c k := match es[k]? with | some e => (match e.wh with | some h => h | none => []) | none => []
  keep k e s he hw := by
    simp only [he] at hw
    unfold Ef.app
    cases hh : e.wh with
    | none => rfl
    | some h => rw [hh] at hw; cases hw
  write k e s he hw := by
    simp only [he] at hw ⊢
    unfold Ef.app
    cases hh : e.wh with
    | none => rw [hh] at hw; cases hw
    | some h => rfl

theorem befs_length : ∀ (ops : List Oper), (befs ops).length = ops.length := by
  have : ∀ (ops : List Oper) (acc : List (List Nat)), (ops.foldl (fun acc o => acc ++ [(o.after.toList.filter (Region.binds .any)).flatMap fun e => e.on :: acc.getD e.on []]) acc).length = acc.length + ops.length := by
    intro ops
    induction ops with
    | nil => intro acc; simp
    | cons o ops ih => intro acc; rw [List.foldl_cons, ih]; simp; omega
  intro ops; unfold befs; rw [this]; simp

theorem befs_mem {ops : List Oper} {j i : Nat} {o : Oper} {b : List Nat} (ho : ops[j]? = some o) (hb : (befs ops)[j]? = some b) (hi : i ∈ b) :
    ∃ e ∈ o.after.toList, Region.binds .any e = true ∧ (e.on = i ∨ ∃ b', (befs ops)[e.on]? = some b' ∧ e.on < j ∧ i ∈ b') := by
  have key : ∀ (ops : List Oper) (acc : List (List Nat)) (j : Nat) (o : Oper) (b : List Nat), ops[j]? = some o →
      (ops.foldl (fun acc o => acc ++ [(o.after.toList.filter (Region.binds .any)).flatMap fun e => e.on :: acc.getD e.on []]) acc)[acc.length + j]? = some b →
      ∃ acc' : List (List Nat), acc'.length = acc.length + j ∧ (∀ k, k < acc.length + j → acc'[k]? = (ops.foldl (fun acc o => acc ++ [(o.after.toList.filter (Region.binds .any)).flatMap fun e => e.on :: acc.getD e.on []]) acc)[k]?) ∧
        b = (o.after.toList.filter (Region.binds .any)).flatMap fun e => e.on :: acc'.getD e.on [] := by
    have pre : ∀ (ops : List Oper) (acc : List (List Nat)) (k : Nat), k < acc.length →
        (ops.foldl (fun acc o => acc ++ [(o.after.toList.filter (Region.binds .any)).flatMap fun e => e.on :: acc.getD e.on []]) acc)[k]? = acc[k]? := by
      intro ops
      induction ops with
      | nil => intro acc k _; rfl
      | cons o ops ih =>
        intro acc k hk
        rw [List.foldl_cons, ih _ k (by simp; omega), List.getElem?_append_left hk]
    intro ops
    induction ops with
    | nil => intro acc j o b h; simp at h
    | cons x ops ih =>
      intro acc j o b h hb
      cases j with
      | zero =>
        simp at h; subst h
        rw [List.foldl_cons, pre _ _ _ (by simp)] at hb
        simp at hb
        refine ⟨acc, by simp, ?_, hb.symm⟩
        intro k hk
        rw [List.foldl_cons, pre _ _ _ (by simp; omega), List.getElem?_append_left (by omega)]
      | succ j =>
        rw [List.foldl_cons] at hb ⊢
        have e : acc.length + (j + 1) = (acc ++ [(x.after.toList.filter (Region.binds .any)).flatMap fun e => e.on :: acc.getD e.on []]).length + j := by simp; omega
        rw [e] at hb ⊢
        exact ih _ j o b (by simpa using h) hb
  obtain ⟨acc', h1, h2, h3⟩ := key ops [] j o b ho (by simpa [befs] using hb)
  subst h3
  rw [List.mem_flatMap] at hi
  obtain ⟨e, he, hi⟩ := hi
  rw [List.mem_filter] at he
  refine ⟨e, he.1, he.2, ?_⟩
  simp only [List.mem_cons] at hi
  rcases hi with hi | hi
  · exact .inl hi.symm
  · right
    have hlt : e.on < acc'.length := by
      rcases Nat.lt_or_ge e.on acc'.length with h | h
      · exact h
      · simp [List.getElem?_eq_none h] at hi
    have : acc'[e.on]? = (befs ops)[e.on]? := by
      have := h2 e.on (by simp at h1 ⊢; omega)
      simpa [befs] using this
    refine ⟨acc'[e.on], by rw [← this]; simp [hlt], by simp at h1; omega, ?_⟩
    simpa [List.getD, hlt] using hi

end Go.Mt
