import Derived.Test.YtjhinemdonddoaaMtXg
set_option linter.unusedVariables false
set_option linter.unusedSimpArgs false
namespace Go.Mt.Fine

/-- which part of the heap an operation reads -/
inductive Rh where
  | no
  | ix (l : List Nat)
  | all

/-- What an operation does, object by object: its slot and value; the variables that it reads and writes; the objects that it reads; those that it sets (among the first N); what stands behind the first N. -/
structure Ef where
  d : Option Nat
  v : V
  rb : List Nat
  wb : List (Nat × List M)
  nw : Option Nat
  rh : Rh
  wh : List (Nat × Ob)
  tl : Option Hp

def front (N : Nat) (H : Hp) (wh : List (Nat × Ob)) : Hp := (List.range N).map fun i => match get wh i with | some ob => ob | none => H.getD i .dead
def Ef.app (N : Nat) (e : Ef) (st : St) : St :=
  ⟨match e.d with | some d => (d, e.v) :: st.sl | none => st.sl, e.wb ++ st.bx, front N st.H e.wh ++ (match e.tl with | some t => t | none => st.H.drop N)⟩

theorem front_length (N : Nat) (H : Hp) (wh : List (Nat × Ob)) : (front N H wh).length = N := by simp [front]
theorem front_get (N : Nat) (H : Hp) (wh : List (Nat × Ob)) (t : Hp) (i : Nat) (hi : i < N) : (front N H wh ++ t).getD i .dead = match get wh i with | some ob => ob | none => H.getD i .dead := by
  have h1 : i < (front N H wh).length := by rw [front_length]; exact hi
  have h2 : i < (front N H wh ++ t).length := by rw [List.length_append]; omega
  rw [List.getD_eq_getElem?_getD, List.getElem?_append_left h1]
  simp [front, hi]
theorem front_drop (N : Nat) (H : Hp) (wh : List (Nat × Ob)) (t : Hp) : (front N H wh ++ t).drop N = t := by
  have h := front_length N H wh
  rw [List.drop_append_of_le_length (by omega)]
  simp [h]

structure Ag (N : Nat) (ops : Array Oper) (o : Oper) (e : Ef) (st st2 : St) : Prop where
  sl : ∀ t ∈ o.looksAt ops, get st2.sl t = get st.sl t
  bx : ∀ t ∈ e.rb ++ e.wb.map (·.1), get st2.bx t = get st.bx t
  ix : ∀ l, e.rh = .ix l → ∀ i ∈ l, st2.H.getD i .dead = st.H.getD i .dead
  all : e.rh = .all → (∀ i, i < N → st2.H.getD i .dead = st.H.getD i .dead) ∧ st2.H.drop N = st.H.drop N
  len : N ≤ st2.H.length
  nw : ∀ d, e.nw = some d → ∀ t o, get st2.sl t ≠ some (.loc d o)

def StepF (N : Nat) (X : Ctx) (ops : Array Oper) (o : Oper) (e : Ef) (st : St) : Prop := ∀ st2, Ag N ops o e st st2 → OpS X ops o st2 (e.app N st2)

inductive RunF (N : Nat) (X : Ctx) (ops : Array Oper) : List Oper → St → List Ef → St → Prop where
  | nil (st : St) : RunF N X ops [] st [] st
  | cons {o : Oper} {os : List Oper} {st st' : St} {e : Ef} {es : List Ef} (h : StepF N X ops o e st) (hd : e.d = o.dst) (k : RunF N X ops os (e.app N st) es st') : RunF N X ops (o :: os) st (e :: es) st'

def hconf (e f : Ef) : Bool := match f.rh with
  | .no => false
  | .ix l => e.wh.any fun p => has l p.1
  | .all => (e.wh.any fun p => Nat.ble 0 p.1) || e.tl.isSome
def okE (N : Nat) (e : Ef) : Bool :=
  (match e.rh with
  | .no => (match e.wh with | [] => true | _ => false) && e.tl.isNone
  | .ix l => (e.wh.all fun p => has l p.1) && (l.all fun i => Nat.blt i N) && e.tl.isNone
  | .all => e.wh.all fun p => Nat.blt p.1 N)
def confl (ops : Array Oper) (x y : Oper) (e f : Ef) : Bool :=
  (match x.dst with | some d => has (slotsOf ops y) d | none => false) || (match y.dst with | some d => has (slotsOf ops x) d | none => false) ||
  (e.wb.any fun p => has (f.rb ++ f.wb.map (·.1)) p.1) || (f.wb.any fun p => has (e.rb ++ e.wb.map (·.1)) p.1) ||
  hconf e f || hconf f e ||
  (match e.nw, f.v with | some d, .loc u _ => Nat.beq u d | _, _ => false)
def stale (e f : Ef) : Bool := match f.nw, e.v with
  | some d, .loc u _ => Nat.beq u d
  | _, _ => false

def pairsOk1 (ops : Array Oper) (x : Oper) (e : Ef) (i : Nat) : List Oper → List Ef → List (List Nat) → Bool
  | y :: ys, f :: fs, b :: bs => (!confl ops x y e f || has b i) && !stale e f && pairsOk1 ops x e i ys fs bs
  | _, _, _ => true
def pairsOk (ops : Array Oper) : Nat → List Oper → List Ef → List (List Nat) → Bool
  | i, x :: xs, e :: es, b :: bs => pairsOk1 ops x e i xs es bs && pairsOk ops (i + 1) xs es bs
  | _, _, _, _ => true
def noStale (sl : List (Nat × V)) : List Ef → Bool
  | [] => true
  | e :: es => (match e.nw with | some d => noLoc d sl | none => true) && noStale sl es
def orderOk (N : Nat) (ops : List Oper) (sl : List (Nat × V)) (es : List Ef) : Bool :=
  edgesOk 0 ops && pairsOk ops.toArray 0 ops es (befs ops) && noStale sl es && es.all (okE N)

/-- the state behind those of the first k operations that are listed -/
def S (N : Nat) (st : St) (es : List Ef) (listed : Nat → Bool) : Nat → St
  | 0 => st
  | k + 1 => match es[k]? with
    | some e => bif listed k then e.app N (S N st es listed k) else S N st es listed k
    | none => S N st es listed k

/-- a part of the state that some operations write -/
structure Part (N : Nat) (α : Type) (es : List Ef) where
  r : St → α
  W : Nat → Bool
  c : Nat → α
  keep : ∀ k e s, es[k]? = some e → W k = false → r (e.app N s) = r s
  write : ∀ k e s, es[k]? = some e → W k = true → r (e.app N s) = c k

section parts
variable {N : Nat} {α : Type} {es : List Ef} (p : Part N α es) {st : St}

theorem S_all_of (L L' : Nat → Bool) : ∀ n, (∀ k, k < n → p.W k = true → L k = L' k) → p.r (S N st es L n) = p.r (S N st es L' n)
  | 0, _ => rfl
  | n + 1, h => by
    have ih := S_all_of L L' n (fun k hk => h k (by omega))
    simp only [S]
    cases he : es[n]? with
    | none => exact ih
    | some e =>
      simp only
      cases hw : p.W n with
      | false =>
        cases hl : L n <;> cases hl' : L' n <;> simp only [cond_true, cond_false] <;> (try rw [p.keep n e _ he hw]) <;> (try rw [p.keep n e _ he hw]) <;> exact ih
      | true =>
        have := h n (by omega) hw
        rw [this]
        cases hl' : L' n <;> simp only [cond_true, cond_false]
        · exact ih
        · rw [p.write n e _ he hw, p.write n e _ he hw]

theorem S_stop (L : Nat → Bool) (i : Nat) : ∀ n, i ≤ n → (∀ k, i ≤ k → k < n → p.W k = true → L k = false) → p.r (S N st es L n) = p.r (S N st es L i)
  | 0, h0, _ => by have : i = 0 := by omega
                   subst this; rfl
  | n + 1, h0, h => by
    by_cases e : i = n + 1
    · subst e; rfl
    · have ih := S_stop L i n (by omega) (fun k h1 h2 => h k h1 (by omega))
      simp only [S]
      cases he : es[n]? with
      | none => exact ih
      | some e =>
        simp only
        cases hl : L n with
        | false => exact ih
        | true =>
          simp only [cond_true]
          cases hw : p.W n with
          | false => rw [p.keep n e _ he hw]; exact ih
          | true => rw [h n (by omega) (by omega) hw] at hl; cases hl

/-- what operation i finds is what it finds in the order of the text -/
theorem S_agree (L : Nat → Bool) (i m : Nat) (hi : i ≤ m) (h1 : ∀ k, k < i → p.W k = true → L k = true) (h2 : ∀ k, i ≤ k → k < m → p.W k = true → L k = false) :
    p.r (S N st es L m) = p.r (S N st es (fun _ => true) i) :=
  (S_stop p L i m hi h2).trans (S_all_of p L _ i fun k hk hw => h1 k hk hw)

/-- operation i, behind the others that are listed -/
theorem S_put (L : Nat → Bool) (i m : Nat) (hi : i < m) (e : Ef) (he : es[i]? = some e) (hL : L i = false) (h2 : p.W i = true → ∀ k, i < k → k < m → p.W k = true → L k = false) :
    p.r (S N st es (fun k => if k = i then true else L k) m) = p.r (e.app N (S N st es L m)) := by
  cases hw : p.W i with
  | true =>
    rw [p.write i e _ he hw]
    have := S_stop p (st := st) (fun k => if k = i then true else L k) (i + 1) m (by omega) (fun k h3 h4 h5 => by
      have : k ≠ i := by omega
      simp [this]; exact h2 hw k (by omega) h4 h5)
    rw [this]
    simp only [S, he, if_true, cond_true]
    exact p.write i e _ he hw
  | false =>
    rw [p.keep i e _ he hw]
    exact S_all_of p _ _ m fun k hk hwk => by
      have : k ≠ i := by rintro rfl; rw [hw] at hwk; cases hwk
      simp [this]
end parts

section parts2
variable {N : Nat}
def slotPart (es : List Ef) (t : Nat) : Part N (Option V) es where
  r s := get s.sl t
  W k := match es[k]? with
    | some e => match e.d with | some d => Nat.beq d t | none => false
    | none => false
  c k := match es[k]? with | some e => some e.v | none => none
  keep k e s he hw := by
    simp only [he] at hw
    unfold Ef.app
    cases hd : e.d with
    | none => rfl
    | some d =>
      simp only [hd] at hw
      have : d ≠ t := by rintro rfl; simp at hw
      simp [get_cons, this]
  write k e s he hw := by
    simp only [he] at hw ⊢
    unfold Ef.app
    cases hd : e.d with
    | none => simp [hd] at hw
    | some d =>
      simp only [hd] at hw
      have := Nat.eq_of_beq_eq_true hw
      subst this
      simp [get_cons]

def boxPart (es : List Ef) (t : Nat) : Part N (Option (List M)) es where
  r s := get s.bx t
  W k := match es[k]? with
    | some e => has (e.wb.map (·.1)) t
    | none => false
  c k := match es[k]? with | some e => get e.wb t | none => none
  keep k e s he hw := by
    simp only [he] at hw
    have h := get_some_iff e.wb t
    rw [hw] at h
    show get (e.wb ++ s.bx) t = _
    rw [get_append]
    cases hg : get e.wb t with
    | none => rfl
    | some v => rw [hg] at h; cases h
  write k e s he hw := by
    simp only [he] at hw ⊢
    have h := get_some_iff e.wb t
    rw [hw] at h
    show get (e.wb ++ s.bx) t = _
    rw [get_append]
    cases hg : get e.wb t with
    | none => rw [hg] at h; cases h
    | some v => rfl

def ixPart (es : List Ef) (i : Nat) (hi : i < N) : Part N Ob es where
  r s := s.H.getD i .dead
  W k := match es[k]? with
    | some e => has (e.wh.map (·.1)) i
    | none => false
  c k := match es[k]? with | some e => (get e.wh i).getD .dead | none => .dead
  keep k e s he hw := by
    simp only [he] at hw
    have h := get_some_iff e.wh i
    rw [hw] at h
    unfold Ef.app
    rw [front_get _ _ _ _ _ hi]
    cases hg : get e.wh i with
    | none => rfl
    | some v => rw [hg] at h; cases h
  write k e s he hw := by
    simp only [he] at hw ⊢
    have h := get_some_iff e.wh i
    rw [hw] at h
    unfold Ef.app
    rw [front_get _ _ _ _ _ hi]
    cases hg : get e.wh i with
    | none => rw [hg] at h; cases h
    | some v => rfl
def tlPart (es : List Ef) : Part N Hp es where
  r s := s.H.drop N
  W k := match es[k]? with
    | some e => e.tl.isSome
    | none => false
  c k := match es[k]? with | some e => e.tl.getD [] | none => []
  keep k e s he hw := by
    simp only [he] at hw
    unfold Ef.app
    rw [front_drop]
    cases hh : e.tl with
    | none => rfl
    | some h => rw [hh] at hw; cases hw
  write k e s he hw := by
    simp only [he] at hw ⊢
    unfold Ef.app
    rw [front_drop]
    cases hh : e.tl with
    | none => rw [hh] at hw; cases hw
    | some h => rfl
theorem S_len (st : St) (es : List Ef) (L : Nat → Bool) (h : N ≤ st.H.length) : ∀ n, N ≤ (S N st es L n).H.length
  | 0 => h
  | n + 1 => by
    simp only [S]
    cases he : es[n]? with
    | none => exact S_len st es L h n
    | some e =>
      cases hl : L n with
      | false => exact S_len st es L h n
      | true => simp [Ef.app, front_length]
theorem hp_ext {A B : Hp} (ha : N ≤ A.length) (hb : N ≤ B.length) (h1 : ∀ i, i < N → A.getD i .dead = B.getD i .dead) (h2 : A.drop N = B.drop N) : A = B := by
  rw [← List.take_append_drop N A, ← List.take_append_drop N B, h2]
  congr 1
  apply List.ext_getElem
  · simp; omega
  · intro i h3 h4
    simp at h3 h4
    have := h1 i (by omega)
    rw [List.getD_eq_getElem?_getD, List.getD_eq_getElem?_getD, List.getElem?_eq_getElem (by omega), List.getElem?_eq_getElem (by omega)] at this
    simpa using this

theorem pairsOk1_spec {opsA : Array Oper} {x : Oper} {e : Ef} {i : Nat} : ∀ {ys : List Oper} {fs : List Ef} {bs : List (List Nat)}, pairsOk1 opsA x e i ys fs bs = true →
    ∀ (j : Nat) y f b, ys[j]? = some y → fs[j]? = some f → bs[j]? = some b → (confl opsA x y e f = true → i ∈ b) ∧ stale e f = false
  | [], _, _, _, j, y, f, b, hy, _, _ => by simp at hy
  | _ :: _, [], _, _, j, y, f, b, _, hf, _ => by simp at hf
  | _ :: _, _ :: _, [], _, j, y, f, b, _, _, hb => by simp at hb
  | y0 :: ys, f0 :: fs, b0 :: bs, h, j, y, f, b, hy, hf, hb => by
    simp only [pairsOk1, Bool.and_eq_true, Bool.or_eq_true, Bool.not_eq_true'] at h
    cases j with
    | zero =>
      simp at hy hf hb; subst hy; subst hf; subst hb
      refine ⟨fun hc => ?_, h.1.2⟩
      rcases h.1.1 with h1 | h1
      · rw [h1] at hc; cases hc
      · exact has_iff.1 h1
    | succ j => simp at hy hf hb; exact pairsOk1_spec h.2 j y f b hy hf hb
theorem pairsOk_spec {opsA : Array Oper} : ∀ {xs : List Oper} {es : List Ef} {bs : List (List Nat)} {n : Nat}, pairsOk opsA n xs es bs = true →
    ∀ (i j : Nat) x e y f b, i < j → xs[i]? = some x → es[i]? = some e → xs[j]? = some y → es[j]? = some f → bs[j]? = some b → (confl opsA x y e f = true → n + i ∈ b) ∧ stale e f = false
  | [], _, _, n, _, i, j, x, e, y, f, b, _, hx, _, _, _, _ => by simp at hx
  | _ :: _, [], _, n, _, i, j, x, e, y, f, b, _, _, he, _, _, _ => by simp at he
  | _ :: _, _ :: _, [], n, _, i, j, x, e, y, f, b, _, _, _, _, _, hb => by simp at hb
  | x0 :: xs, e0 :: es, b0 :: bs, n, h, i, j, x, e, y, f, b, hij, hx, he, hy, hf, hb => by
    simp only [pairsOk, Bool.and_eq_true] at h
    cases j with
    | zero => omega
    | succ j =>
      cases i with
      | zero =>
        simp at hx he hy hf hb; subst hx; subst he
        exact pairsOk1_spec h.1 j y f b hy hf hb
      | succ i =>
        simp at hx he hy hf hb
        have := pairsOk_spec h.2 i j x e y f b (by omega) hx he hy hf hb
        rw [show n + (i + 1) = n + 1 + i by omega]
        exact this
theorem foldl_take_S (st : St) (es : List Ef) : ∀ k, S N st es (fun _ => true) k = (es.take k).foldl (fun s e => e.app N s) st
  | 0 => rfl
  | k + 1 => by
    simp only [S]
    cases he : es[k]? with
    | none =>
      have hle : es.length ≤ k := by rcases Nat.lt_or_ge k es.length with h | h; simp [List.getElem?_eq_getElem h] at he; exact h
      rw [foldl_take_S st es k, List.take_of_length_le hle, List.take_of_length_le (by omega)]
    | some e =>
      simp only [cond_true]
      rw [foldl_take_S st es k]
      have hlt : k < es.length := by rcases Nat.lt_or_ge k es.length with h | h; exact h; simp [List.getElem?_eq_none h] at he
      rw [List.take_succ_eq_append_getElem hlt, List.foldl_append]
      have : es[k] = e := by simpa [List.getElem?_eq_getElem hlt] using he
      rw [this]; rfl

theorem RunF.spec {X : Ctx} {opsA : Array Oper} {l : List Oper} {st st' : St} {es : List Ef} (h : RunF N X opsA l st es st') :
    es.length = l.length ∧ st' = es.foldl (fun s e => e.app N s) st ∧ ∀ (i : Nat) o e, l[i]? = some o → es[i]? = some e → StepF N X opsA o e ((es.take i).foldl (fun s e => e.app N s) st) ∧ e.d = o.dst := by
  induction h with
  | nil st => exact ⟨rfl, rfl, by simp⟩
  | cons h hd k ih =>
    obtain ⟨h1, h2, h3⟩ := ih
    refine ⟨by simp [h1], h2, fun i o e ho he => ?_⟩
    cases i with
    | zero => simp at ho he; subst ho; subst he; exact ⟨h, hd⟩
    | succ i => simp at ho he; exact h3 i o e ho he

theorem draw {X : Ctx} {id : Nat} {ops : List Oper} {st st' : St} {es : List Ef} {post : Exit → St → Prop} (hm : X.P.follows .mixedOrders = true) (hN : N ≤ st.H.length)
    (hrun : RunF N X ops.toArray ops st es st') (hok : orderOk N ops st.sl es = true) (hpost : post .normal st') : TC X (.region id ops.toArray true) st post := by
  obtain ⟨hlen, hst', hstep⟩ := hrun.spec
  simp only [orderOk, Bool.and_eq_true] at hok
  obtain ⟨⟨⟨hedge, hpairs⟩, hstale⟩, hokE⟩ := hok
  have hE := edgesOk_spec hedge
  have hP := pairsOk_spec hpairs
  have hall : st' = S N st es (fun _ => true) ops.length := by rw [foldl_take_S, List.take_of_length_le (by omega), hst']
  have hesd : ∀ (k : Nat) e, es[k]? = some e → ∃ o b, ops[k]? = some o ∧ (befs ops)[k]? = some b ∧ e.d = o.dst ∧ k < ops.length := by
    intro k e he
    have hk : k < es.length := by rcases Nat.lt_or_ge k es.length with h | h; exact h; simp [List.getElem?_eq_none h] at he
    have ho : ops[k]? = some ops[k] := by simp [show k < ops.length by omega]
    have hb : k < (befs ops).length := by rw [befs_length]; omega
    exact ⟨ops[k], (befs ops)[k], ho, by simp [hb], (hstep k _ e ho he).2, by omega⟩
  have hns : ∀ (k : Nat) e d, es[k]? = some e → e.nw = some d → noLoc d st.sl = true := by
    have : ∀ (l : List Ef), noStale st.sl l = true → ∀ (k : Nat) e d, l[k]? = some e → e.nw = some d → noLoc d st.sl = true := by
      intro l
      induction l with
      | nil => intro _ k e d h; simp at h
      | cons x l ih =>
        intro hl k e d he hd
        simp only [noStale, Bool.and_eq_true] at hl
        cases k with
        | zero => simp at he; subst he; simpa [hd] using hl.1
        | succ k => simp at he; exact ih hl.2 k e d he hd
    exact this es hstale
  intro a w hi
  refine wp_region_any hm ?_
  -- the invariant
  have main : ∀ (fuel : Nat) (listed : Array Bool) (a : Act) (w : World), listed.size = ops.length → cnt ops.length (fun k => listed.getD k false) = fuel →
      (∀ j b, listed.getD j false = true → (befs ops)[j]? = some b → ∀ i ∈ b, listed.getD i false = true) →
      Inv X (S N st es (fun k => listed.getD k false) ops.length) a w →
      wpAny X.P .any ops.toArray (fun e a' w' => ∃ st', post e st' ∧ Inv X st' a' w') fuel listed a w := by
    intro fuel
    induction fuel with
    | zero =>
      intro listed a w hsz hc hcl hinv
      have hz := cnt_zero hc
      refine ⟨?_, st', hpost, ?_⟩
      · unfold Region.ready
        rw [List.filter_eq_nil_iff]
        intro i hi
        simp at hi
        have h1 := hz i hi
        have h2 : i < listed.size := by omega
        simp [h2] at h1
        simp [h2, h1]
      · have e : S N st es (fun k => listed.getD k false) ops.length = st' := by
          rw [hall]
          have : ∀ n, n ≤ ops.length → S N st es (fun k => listed.getD k false) n = S N st es (fun _ => true) n := by
            intro n
            induction n with
            | zero => intro _; rfl
            | succ n ih =>
              intro hn
              simp only [S, ih (by omega), hz n (by omega)]
          exact this _ (Nat.le_refl _)
        rw [← e]; exact hinv
    | succ fuel ih =>
      intro listed a w hsz hc hcl hinv
      have mem_ready : ∀ i, i ∈ Region.ready .any ops.toArray listed ↔ i < ops.length ∧ listed.getD i true = false ∧ ∃ o, ops[i]? = some o ∧ ∀ e ∈ o.after.toList, Region.binds .any e = true → listed.getD e.on false = true := by
        intro i
        unfold Region.ready
        rw [List.mem_filter]
        simp only [List.mem_range, List.size_toArray, Bool.and_eq_true, Bool.not_eq_true', List.getElem?_toArray]
        constructor
        · rintro ⟨h1, h2, h3⟩
          refine ⟨h1, h2, ops[i], by simp [h1], ?_⟩
          simp [h1] at h3
          intro e he hb
          have he' : e ∈ ops[i].after := by simpa using he
          obtain ⟨n, hn, rfl⟩ := Array.mem_iff_getElem.1 he'
          rcases h3 n hn with h4 | h4
          · rw [h4] at hb; cases hb
          · simpa using h4
        · rintro ⟨h1, h2, o, h3, h4⟩
          refine ⟨h1, h2, ?_⟩
          have : ops[i] = o := by simpa [h1] using h3
          simp [h1, this]
          intro n hn
          cases hb : Region.binds .any o.after[n] with
          | false => exact .inl rfl
          | true => right; simpa using h4 o.after[n] (by simp) hb
      refine ⟨?_, ?_⟩
      · intro hr
        obtain ⟨i, h1, h2, h3⟩ := cnt_pos (m := ops.length) (f := fun k => listed.getD k false) (by omega)
        have : i ∈ Region.ready .any ops.toArray listed := by
          rw [mem_ready]
          have hls : i < listed.size := by omega
          refine ⟨h1, by simp [hls] at h2 ⊢; exact h2, ops[i], by simp [h1], ?_⟩
          intro e he hb
          have := hE i ops[i] (by simp [h1]) e he hb
          exact h3 e.on (by omega)
        rw [hr] at this; cases this
      · intro i hir
        obtain ⟨hi1, hi2, o, ho, hedges⟩ := (mem_ready i).1 hir
        have hls : i < listed.size := by omega
        have hLi : listed.getD i false = false := by simp [hls] at hi2 ⊢; exact hi2
        have hel : i < es.length := by omega
        obtain ⟨e, he⟩ : ∃ e, es[i]? = some e := ⟨es[i], by simp [hel]⟩
        have hbl : i < (befs ops).length := by rw [befs_length]; exact hi1
        obtain ⟨bi, hbi⟩ : ∃ b, (befs ops)[i]? = some b := ⟨(befs ops)[i], by simp [hbl]⟩
        -- what comes ahead of i is done
        have ahead : ∀ k, k ∈ bi → listed.getD k false = true := by
          intro k hk
          obtain ⟨ed, h1, h2, h3⟩ := befs_mem ho hbi hk
          have h4 := hedges ed h1 h2
          rcases h3 with h3 | ⟨b', h5, _, h6⟩
          · rw [← h3]; exact h4
          · exact hcl _ b' h4 h5 k h6
        have early : ∀ (k : Nat) f, k < i → es[k]? = some f → ∀ x, ops[k]? = some x → confl ops.toArray x o f e = true → listed.getD k false = true := by
          intro k f hk hf x hx hc
          have := (hP k i x f o e bi hk hx hf ho he hbi).1 hc
          simp at this
          exact ahead k this
        have late : ∀ (k : Nat) f, i < k → es[k]? = some f → ∀ x, ops[k]? = some x → confl ops.toArray o x e f = true → listed.getD k false = false := by
          intro k f hk hf x hx hc
          obtain ⟨_, b, _, hb, _, _⟩ := hesd k f hf
          have := (hP i k o e x f b hk ho he hx hf hb).1 hc
          simp at this
          cases hl : listed.getD k false with
          | false => rfl
          | true => rw [hcl k b hl hb i this] at hLi; cases hLi
        obtain ⟨hstepi, hedi⟩ := hstep i o e ho he
        have hSi : (es.take i).foldl (fun s e => e.app N s) st = S N st es (fun _ => true) i := (foldl_take_S st es i).symm
        rw [hSi] at hstepi
        have hWslot : ∀ t k, (slotPart (N := N) es t).W k = true → ∃ f x, es[k]? = some f ∧ ops[k]? = some x ∧ f.d = some t ∧ x.dst = some t := by
          intro t k hw
          simp only [slotPart] at hw
          split at hw
          · rename_i f hf
            split at hw
            · rename_i d hd
              have := Nat.eq_of_beq_eq_true hw
              subst this
              obtain ⟨x, b, hx, _, hxd, _⟩ := hesd k f hf
              exact ⟨f, x, hf, hx, hd, by rw [← hxd]; exact hd⟩
            · cases hw
          · cases hw
        have hWbox : ∀ t k, (boxPart (N := N) es t).W k = true → ∃ f x, es[k]? = some f ∧ ops[k]? = some x ∧ t ∈ f.wb.map (·.1) := by
          intro t k hw
          simp only [boxPart] at hw
          split at hw
          · rename_i f hf
            obtain ⟨x, b, hx, _, _, _⟩ := hesd k f hf
            exact ⟨f, x, hf, hx, has_iff.1 hw⟩
          · cases hw
        have hWix : ∀ (j : Nat) (hj : j < N) k, (ixPart es j hj).W k = true → ∃ f x, es[k]? = some f ∧ ops[k]? = some x ∧ j ∈ f.wh.map (·.1) := by
          intro j hj k hw
          simp only [ixPart] at hw
          split at hw
          · rename_i f hf
            obtain ⟨x, b, hx, _, _, _⟩ := hesd k f hf
            exact ⟨f, x, hf, hx, has_iff.1 hw⟩
          · cases hw
        have hWtl : ∀ k, (tlPart (N := N) es).W k = true → ∃ f x, es[k]? = some f ∧ ops[k]? = some x ∧ f.tl.isSome = true := by
          intro k hw
          simp only [tlPart] at hw
          split at hw
          · rename_i f hf
            obtain ⟨x, b, hx, _, _, _⟩ := hesd k f hf
            exact ⟨f, x, hf, hx, hw⟩
          · cases hw
        have hokk : ∀ (k : Nat) f, es[k]? = some f → okE N f = true := fun k f hf => List.all_eq_true.1 hokE f (List.mem_of_getElem? hf)
        have anyix : ∀ (l : List (Nat × Ob)) (r : List Nat) (t : Nat), t ∈ l.map (·.1) → t ∈ r → (l.any fun p => has r p.1) = true := by
          intro l r t h1 h2
          rw [List.any_eq_true]
          obtain ⟨p, hp, rfl⟩ := List.mem_map.1 h1
          exact ⟨p, hp, has_iff.2 h2⟩
        have anyall : ∀ (l : List (Nat × Ob)) (t : Nat), t ∈ l.map (·.1) → (l.any fun p => Nat.ble 0 p.1) = true := by
          intro l t h1
          rw [List.any_eq_true]
          obtain ⟨p, hp, rfl⟩ := List.mem_map.1 h1
          exact ⟨p, hp, by simp⟩
        -- who writes an object that another one writes
        have wix : ∀ (j : Nat) (f g : Ef), okE N g = true → j ∈ f.wh.map (·.1) → j ∈ g.wh.map (·.1) → hconf f g = true := by
          intro j f g hg h1 h2
          unfold okE at hg
          unfold hconf
          obtain ⟨p, hp, rfl⟩ := List.mem_map.1 h2
          cases hr : g.rh with
          | no => rw [hr] at hg; simp at hg; cases hw : g.wh with
            | nil => rw [hw] at hp; cases hp
            | cons => rw [hw] at hg; simp at hg
          | ix l =>
            rw [hr] at hg
            simp only [Bool.and_eq_true, List.all_eq_true] at hg
            exact anyix f.wh l _ h1 (has_iff.1 (hg.1.1 p hp))
          | all => simp only; rw [anyall f.wh _ h1]; rfl
        have wtl : ∀ (f g : Ef), okE N g = true → f.tl.isSome = true → g.tl.isSome = true → hconf f g = true := by
          intro f g hg h1 h2
          unfold okE at hg
          unfold hconf
          cases hr : g.rh with
          | no => rw [hr] at hg; cases ht : g.tl with
            | none => rw [ht] at h2; cases h2
            | some t => rw [ht] at hg; simp at hg
          | ix l => rw [hr] at hg; cases ht : g.tl with
            | none => rw [ht] at h2; cases h2
            | some t => rw [ht] at hg; simp at hg
          | all => simp only; rw [h1]; simp
        have anyhas : ∀ (l : List (Nat × List M)) (r : List Nat) (t : Nat), t ∈ l.map (·.1) → t ∈ r → (l.any fun p => has r p.1) = true := by
          intro l r t h1 h2
          rw [List.any_eq_true]
          obtain ⟨p, hp, rfl⟩ := List.mem_map.1 h1
          exact ⟨p, hp, has_iff.2 h2⟩
        have hag : Ag N ops.toArray o e (S N st es (fun _ => true) i) (S N st es (fun k => listed.getD k false) ops.length) := by
          refine ⟨?_, ?_, ?_, ?_, S_len _ _ _ hN _, ?_⟩
          · intro t ht
            refine S_agree (slotPart es t) _ i ops.length (by omega) ?_ ?_
            · intro k hk hw
              obtain ⟨f, x, hf, hx, _, hxd⟩ := hWslot t k hw
              refine early k f hk hf x hx ?_
              have : has (slotsOf ops.toArray o) t = true := has_iff.2 (by simp [slotsOf, ht])
              simp [confl, hxd, this]
            · intro k hk hk2 hw
              by_cases hki : k = i
              · rw [hki]; exact hLi
              · obtain ⟨f, x, hf, hx, _, hxd⟩ := hWslot t k hw
                refine late k f (by omega) hf x hx ?_
                have : has (slotsOf ops.toArray o) t = true := has_iff.2 (by simp [slotsOf, ht])
                simp [confl, hxd, this]
          · intro t ht
            refine S_agree (boxPart es t) _ i ops.length (by omega) ?_ ?_
            · intro k hk hw
              obtain ⟨f, x, hf, hx, hft⟩ := hWbox t k hw
              refine early k f hk hf x hx ?_
              have := anyhas f.wb _ t hft ht
              simp [confl, this]
            · intro k hk hk2 hw
              by_cases hki : k = i
              · rw [hki]; exact hLi
              · obtain ⟨f, x, hf, hx, hft⟩ := hWbox t k hw
                refine late k f (by omega) hf x hx ?_
                have := anyhas f.wb _ t hft ht
                simp [confl, this]
          · intro l hl j hj
            have hjN : j < N := by
              have := hokk i e he
              unfold okE at this
              rw [hl] at this
              simp only [Bool.and_eq_true, List.all_eq_true] at this
              exact blt_lt (this.1.2 j hj)
            refine S_agree (ixPart es j hjN) _ i ops.length (by omega) ?_ ?_
            · intro k hk hw
              obtain ⟨f, x, hf, hx, hft⟩ := hWix j hjN k hw
              refine early k f hk hf x hx ?_
              have : hconf f e = true := by unfold hconf; rw [hl]; exact anyix f.wh l j hft hj
              simp [confl, this]
            · intro k hk hk2 hw
              by_cases hki : k = i
              · rw [hki]; exact hLi
              · obtain ⟨f, x, hf, hx, hft⟩ := hWix j hjN k hw
                refine late k f (by omega) hf x hx ?_
                have : hconf f e = true := by unfold hconf; rw [hl]; exact anyix f.wh l j hft hj
                simp [confl, this]
          · intro hl
            refine ⟨fun j hjN => ?_, ?_⟩
            · refine S_agree (ixPart es j hjN) _ i ops.length (by omega) ?_ ?_
              · intro k hk hw
                obtain ⟨f, x, hf, hx, hft⟩ := hWix j hjN k hw
                refine early k f hk hf x hx ?_
                have : hconf f e = true := by unfold hconf; rw [hl]; simp only; rw [anyall f.wh j hft]; rfl
                simp [confl, this]
              · intro k hk hk2 hw
                by_cases hki : k = i
                · rw [hki]; exact hLi
                · obtain ⟨f, x, hf, hx, hft⟩ := hWix j hjN k hw
                  refine late k f (by omega) hf x hx ?_
                  have : hconf f e = true := by unfold hconf; rw [hl]; simp only; rw [anyall f.wh j hft]; rfl
                  simp [confl, this]
            · refine S_agree (tlPart es) _ i ops.length (by omega) ?_ ?_
              · intro k hk hw
                obtain ⟨f, x, hf, hx, hft⟩ := hWtl k hw
                refine early k f hk hf x hx ?_
                have : hconf f e = true := by unfold hconf; rw [hl]; simp [hft]
                simp [confl, this]
              · intro k hk hk2 hw
                by_cases hki : k = i
                · rw [hki]; exact hLi
                · obtain ⟨f, x, hf, hx, hft⟩ := hWtl k hw
                  refine late k f (by omega) hf x hx ?_
                  have : hconf f e = true := by unfold hconf; rw [hl]; simp [hft]
                  simp [confl, this]
          · intro d hd t oo hg
            -- no stale address
            have key : ∀ n, n ≤ ops.length → get (S N st es (fun k => listed.getD k false) n).sl t = some (.loc d oo) → False := by
              intro n
              induction n with
              | zero =>
                intro _ hg
                exact noLoc_get (hns i e d he hd) hg
              | succ n ihn =>
                intro hn hg
                simp only [S] at hg
                cases hen : es[n]? with
                | none => simp only [hen] at hg; exact ihn (by omega) hg
                | some f =>
                  simp only [hen] at hg
                  cases hl : listed.getD n false with
                  | false => rw [hl] at hg; exact ihn (by omega) hg
                  | true =>
                    rw [hl] at hg
                    simp only [cond_true, Ef.app] at hg
                    obtain ⟨x, b, hx, hb, hxd, _⟩ := hesd n f hen
                    cases hfd : f.d with
                    | none => simp only [hfd] at hg; exact ihn (by omega) hg
                    | some d' =>
                      simp only [hfd] at hg
                      rcases get_cons_eq hg with ⟨_, h2⟩ | ⟨_, h2⟩
                      · have hne : n ≠ i := by rintro rfl; rw [hl] at hLi; cases hLi
                        rcases Nat.lt_or_gt_of_ne hne with hlt | hgt
                        · have := (hP n i x f o e bi hlt hx hen ho he hbi).2
                          simp [stale, hd, ← h2] at this
                        · have := late n f hgt hen x hx (by simp [confl, hd, ← h2])
                          rw [this] at hl; cases hl
                      · exact ihn (by omega) h2
            exact key _ (Nat.le_refl _) hg
        have hops := hstepi _ hag
        -- the operation
        have hnext : ∀ a' w', Inv X (e.app N (S N st es (fun k => listed.getD k false) ops.length)) a' w' → wpAny X.P .any ops.toArray (fun e a' w' => ∃ st', post e st' ∧ Inv X st' a' w') fuel (listed.setIfInBounds i true) a' w' := by
          intro a' w' hinv'
          have hfun : (fun k => (listed.setIfInBounds i true).getD k false) = fun k => if k = i then true else listed.getD k false := by
            funext k
            by_cases hk : k = i
            · subst hk; simp [hls]
            · simp [hk, Array.getElem?_setIfInBounds_ne (Ne.symm hk)]
          refine ih _ a' w' (by simp [hsz]) ?_ ?_ ?_
          · rw [hfun]
            have := cnt_set (m := ops.length) (f := fun k => listed.getD k false) hi1 hLi
            omega
          · intro j b hj hb k hk
            have hj' : (if j = i then true else listed.getD j false) = true := by rw [← congrFun hfun j]; exact hj
            have goal : (if k = i then true else listed.getD k false) = true := by
              by_cases hki : k = i
              · simp [hki]
              · rw [if_neg hki]
                by_cases hji : j = i
                · subst hji
                  rw [hbi] at hb; injection hb with hb; subst hb
                  exact ahead k hk
                · rw [if_neg hji] at hj'
                  exact hcl j b hj' hb k hk
            rw [← congrFun hfun k] at goal; exact goal
          · rw [hfun]
            have g1 : ∀ t, get (S N st es (fun k => if k = i then true else listed.getD k false) ops.length).sl t = get (e.app N (S N st es (fun k => listed.getD k false) ops.length)).sl t := by
              intro t
              refine S_put (slotPart es t) _ i ops.length hi1 e he hLi ?_
              intro hwi k hk hk2 hwk
              obtain ⟨f, x, hf, hx, _, hxd⟩ := hWslot t k hwk
              obtain ⟨f', x', hf', hx', _, hxd'⟩ := hWslot t i hwi
              rw [ho] at hx'; injection hx' with hx'; subst hx'
              refine late k f hk hf x hx ?_
              have : has (slotsOf ops.toArray o) t = true := has_iff.2 (by simp [slotsOf, hxd'])
              simp [confl, hxd, this]
            have g2 : ∀ t, get (S N st es (fun k => if k = i then true else listed.getD k false) ops.length).bx t = get (e.app N (S N st es (fun k => listed.getD k false) ops.length)).bx t := by
              intro t
              refine S_put (boxPart es t) _ i ops.length hi1 e he hLi ?_
              intro hwi k hk hk2 hwk
              obtain ⟨f, x, hf, hx, hft⟩ := hWbox t k hwk
              obtain ⟨f', x', hf', hx', hft'⟩ := hWbox t i hwi
              rw [he] at hf'; injection hf' with hf'; subst hf'
              refine late k f hk hf x hx ?_
              have := anyhas f.wb (e.rb ++ e.wb.map (·.1)) t hft (List.mem_append.2 (.inr hft'))
              simp [confl, this]
            have g3 : (S N st es (fun k => if k = i then true else listed.getD k false) ops.length).H = (e.app N (S N st es (fun k => listed.getD k false) ops.length)).H := by
              refine hp_ext (N := N) (S_len _ _ _ hN _) (by simp [Ef.app, front_length]) ?_ ?_
              · intro j hjN
                refine S_put (ixPart es j hjN) _ i ops.length hi1 e he hLi ?_
                intro hwi k hk hk2 hwk
                obtain ⟨f, x, hf, hx, hft⟩ := hWix j hjN k hwk
                obtain ⟨f', x', hf', hx', hft'⟩ := hWix j hjN i hwi
                rw [he] at hf'; injection hf' with hf'; subst hf'
                refine late k f hk hf x hx ?_
                have := wix j f e (hokk i e he) hft hft'
                simp [confl, this]
              · refine S_put (tlPart es) _ i ops.length hi1 e he hLi ?_
                intro hwi k hk hk2 hwk
                obtain ⟨f, x, hf, hx, hft⟩ := hWtl k hwk
                obtain ⟨f', x', hf', hx', hft'⟩ := hWtl i hwi
                rw [he] at hf'; injection hf' with hf'; subst hf'
                refine late k f hk hf x hx ?_
                have := wtl f e (hokk i e he) hft hft'
                simp [confl, this]
            have := Inv.weak (X := X) (sl := (e.app N (S N st es (fun k => listed.getD k false) ops.length)).sl) (bx := (e.app N (S N st es (fun k => listed.getD k false) ops.length)).bx) (H := (e.app N (S N st es (fun k => listed.getD k false) ops.length)).H)
              (sl' := (S N st es (fun k => if k = i then true else listed.getD k false) ops.length).sl) (bx' := (S N st es (fun k => if k = i then true else listed.getD k false) ops.length).bx) hinv'
              (fun t v hv => by rw [← g1]; exact hv) g2
            rw [← g3] at this
            exact this
        have := hops a w hinv (wpAny X.P .any ops.toArray (fun e a' w' => ∃ st', post e st' ∧ Inv X st' a' w') fuel (listed.setIfInBounds i true)) (fun e a' w' => ∃ st', post e st' ∧ Inv X st' a' w') hnext
        unfold wpOp
        have hopi : ops.toArray[i]? = some o := by simpa using ho
        simp only [hopi]
        split
        · rename_i hw; rw [if_pos hw] at this; exact .inl this
        · rename_i hw; rw [if_neg hw] at this; exact this
  refine main _ _ a _ (by simp) ?_ ?_ ?_
  · have : ∀ n, cnt n (fun k => (Array.replicate ops.toArray.size false).getD k false) = n := by
      intro n
      induction n with
      | zero => rfl
      | succ n ih =>
        simp only [cnt, ih]
        have : (Array.replicate ops.toArray.size false).getD n false = false := by simp [Array.getElem?_replicate]; split <;> rfl
        rw [this]; rfl
    simpa using this ops.length
  · intro j b hj
    have : (Array.replicate ops.toArray.size false).getD j false = false := by simp [Array.getElem?_replicate]; split <;> rfl
    rw [this] at hj; cases hj
  · have hz : ∀ n, S N st es (fun k => (Array.replicate ops.toArray.size false).getD k false) n = st := by
      intro n
      induction n with
      | zero => rfl
      | succ n ih =>
        have : (Array.replicate ops.toArray.size false).getD n false = false := by simp [Array.getElem?_replicate]; split <;> rfl
        simp only [S, ih, this]
        cases es[n]? <;> rfl
    rw [hz]
    obtain ⟨σ, lam, rfl, hi⟩ := hi
    exact ⟨{ σ with w := { σ.w with drawn := σ.w.drawn + 1 } }, lam, rfl, hi.ext (ExtW.drew _)⟩

end parts2
end Go.Mt.Fine
