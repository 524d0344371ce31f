/- Part of a library of triples over an abstract heap, and of a reckoner that is proved sound over it. -/
import Derived.Test.YtfgmlnfpecipnaaGreatDoorLibE
set_option linter.unusedVariables false
set_option linter.unusedSimpArgs false
namespace Go.Mt.Fine

/-- which part of the heap an operation reads -/
inductive Rh where
  | no
  | ix (l : List Nat)
  | all

/-- What an operation does, object by object: its slot and value; the variables that it reads and writes; the objects that it reads; those that it sets (among the first N); what stands behind the first N. -/
structure Ef where
  d : Option Nat
  v : V
  rb : List Nat
  wb : List (Nat × List M)
  nw : Option Nat
  rh : Rh
  wh : List (Nat × Ob)
  tl : Option Hp

def front (N : Nat) (H : Hp) (wh : List (Nat × Ob)) : Hp := (List.range N).map fun i => match get wh i with | some ob => ob | none => H.getD i .dead
def Ef.app (N : Nat) (e : Ef) (st : St) : St :=
  ⟨match e.d with | some d => (d, e.v) :: st.sl | none => st.sl, e.wb ++ st.bx, front N st.H e.wh ++ (match e.tl with | some t => t | none => st.H.drop N)⟩

theorem front_length (N : Nat) (H : Hp) (wh : List (Nat × Ob)) : (front N H wh).length = N := by simp [front]
theorem front_get (N : Nat) (H : Hp) (wh : List (Nat × Ob)) (t : Hp) (i : Nat) (hi : i < N) : (front N H wh ++ t).getD i .dead = match get wh i with | some ob => ob | none => H.getD i .dead := by
  have h1 : i < (front N H wh).length := by rw [front_length]; exact hi
  have h2 : i < (front N H wh ++ t).length := by rw [List.length_append]; omega
  rw [List.getD_eq_getElem?_getD, List.getElem?_append_left h1]
  simp [front, hi]
theorem front_drop (N : Nat) (H : Hp) (wh : List (Nat × Ob)) (t : Hp) : (front N H wh ++ t).drop N = t := by
  have h := front_length N H wh
  rw [List.drop_append_of_le_length (by omega)]
  simp [h]

structure Ag (N : Nat) (ops : Array Oper) (o : Oper) (e : Ef) (st st2 : St) : Prop where
  sl : ∀ t ∈ o.looksAt ops, get st2.sl t = get st.sl t
  bx : ∀ t ∈ e.rb ++ e.wb.map (·.1), get st2.bx t = get st.bx t
  ix : ∀ l, e.rh = .ix l → ∀ i ∈ l, st2.H.getD i .dead = st.H.getD i .dead
  all : e.rh = .all → (∀ i, i < N → st2.H.getD i .dead = st.H.getD i .dead) ∧ st2.H.drop N = st.H.drop N
  len : N ≤ st2.H.length
  nw : ∀ d, e.nw = some d → ∀ t o, get st2.sl t ≠ some (.loc d o)

def StepF (N : Nat) (X : Ctx) (ops : Array Oper) (o : Oper) (e : Ef) (st : St) : Prop := ∀ st2, Ag N ops o e st st2 → OpS X ops o st2 (e.app N st2)

inductive RunF (N : Nat) (X : Ctx) (ops : Array Oper) : List Oper → St → List Ef → St → Prop where
  | nil (st : St) : RunF N X ops [] st [] st
  | cons {o : Oper} {os : List Oper} {st st' : St} {e : Ef} {es : List Ef} (h : StepF N X ops o e st) (hd : e.d = o.dst) (k : RunF N X ops os (e.app N st) es st') : RunF N X ops (o :: os) st (e :: es) st'

def hconf (e f : Ef) : Bool := match f.rh with
  | .no => false
  | .ix l => e.wh.any fun p => has l p.1
  | .all => (e.wh.any fun p => Nat.ble 0 p.1) || e.tl.isSome
def okE (N : Nat) (e : Ef) : Bool :=
  (match e.rh with
  | .no => (match e.wh with | [] => true | _ => false) && e.tl.isNone
  | .ix l => (e.wh.all fun p => has l p.1) && (l.all fun i => Nat.blt i N) && e.tl.isNone
  | .all => e.wh.all fun p => Nat.blt p.1 N)
def confl (ops : Array Oper) (x y : Oper) (e f : Ef) : Bool :=
  (match x.dst with | some d => has (slotsOf ops y) d | none => false) || (match y.dst with | some d => has (slotsOf ops x) d | none => false) ||
  (e.wb.any fun p => has (f.rb ++ f.wb.map (·.1)) p.1) || (f.wb.any fun p => has (e.rb ++ e.wb.map (·.1)) p.1) ||
  hconf e f || hconf f e ||
  (match e.nw, f.v with | some d, .loc u _ => Nat.beq u d | _, _ => false)
def stale (e f : Ef) : Bool := match f.nw, e.v with
  | some d, .loc u _ => Nat.beq u d
  | _, _ => false

def pairsOk1 (ops : Array Oper) (x : Oper) (e : Ef) (i : Nat) : List Oper → List Ef → List (List Nat) → Bool
  | y :: ys, f :: fs, b :: bs => (!confl ops x y e f || has b i) && !stale e f && pairsOk1 ops x e i ys fs bs
  | _, _, _ => true
def pairsOk (ops : Array Oper) : Nat → List Oper → List Ef → List (List Nat) → Bool
  | i, x :: xs, e :: es, b :: bs => pairsOk1 ops x e i xs es bs && pairsOk ops (i + 1) xs es bs
  | _, _, _, _ => true
def noStale (sl : List (Nat × V)) : List Ef → Bool
  | [] => true
  | e :: es => (match e.nw with | some d => noLoc d sl | none => true) && noStale sl es
def orderOk (N : Nat) (ops : List Oper) (sl : List (Nat × V)) (es : List Ef) : Bool :=
  edgesOk 0 ops && pairsOk ops.toArray 0 ops es (befs ops) && noStale sl es && es.all (okE N)

/-- the state behind those of the first k operations that are listed -/
def S (N : Nat) (st : St) (es : List Ef) (listed : Nat → Bool) : Nat → St
  | 0 => st
  | k + 1 => match es[k]? with
    | some e => bif listed k then e.app N (S N st es listed k) else S N st es listed k
    | none => S N st es listed k

/-- a part of the state that some operations write -/
structure Part (N : Nat) (α : Type) (es : List Ef) where
  r : St → α
  W : Nat → Bool
  c : Nat → α
  keep : ∀ k e s, es[k]? = some e → W k = false → r (e.app N s) = r s
  write : ∀ k e s, es[k]? = some e → W k = true → r (e.app N s) = c k

section parts
variable {N : Nat} {α : Type} {es : List Ef} (p : Part N α es) {st : St}

theorem S_all_of (L L' : Nat → Bool) : ∀ n, (∀ k, k < n → p.W k = true → L k = L' k) → p.r (S N st es L n) = p.r (S N st es L' n)
  | 0, _ => rfl
  | n + 1, h => by
    have ih := S_all_of L L' n (fun k hk => h k (by omega))
    simp only [S]
    cases he : es[n]? with
    | none => exact ih
    | some e =>
      simp only
      cases hw : p.W n with
      | false =>
        cases hl : L n <;> cases hl' : L' n <;> simp only [cond_true, cond_false] <;> (try rw [p.keep n e _ he hw]) <;> (try rw [p.keep n e _ he hw]) <;> exact ih
      | true =>
        have := h n (by omega) hw
        rw [this]
        cases hl' : L' n <;> simp only [cond_true, cond_false]
        · exact ih
        · rw [p.write n e _ he hw, p.write n e _ he hw]

theorem S_stop (L : Nat → Bool) (i : Nat) : ∀ n, i ≤ n → (∀ k, i ≤ k → k < n → p.W k = true → L k = false) → p.r (S N st es L n) = p.r (S N st es L i)
  | 0, h0, _ => by
    have : i = 0 := by omega
    subst this; rfl
  | n + 1, h0, h => by
    by_cases e : i = n + 1
    · subst e; rfl
    · have ih := S_stop L i n (by omega) (fun k h1 h2 => h k h1 (by omega))
      simp only [S]
      cases he : es[n]? with
      | none => exact ih
      | some e =>
        simp only
        cases hl : L n with
        | false => exact ih
        | true =>
          simp only [cond_true]
          cases hw : p.W n with
          | false => rw [p.keep n e _ he hw]; exact ih
          | true => rw [h n (by omega) (by omega) hw] at hl; cases hl

/-- what operation i finds is what it finds in the order of the text -/
theorem S_agree (L : Nat → Bool) (i m : Nat) (hi : i ≤ m) (h1 : ∀ k, k < i → p.W k = true → L k = true) (h2 : ∀ k, i ≤ k → k < m → p.W k = true → L k = false) :
    p.r (S N st es L m) = p.r (S N st es (fun _ => true) i) :=
  (S_stop p L i m hi h2).trans (S_all_of p L _ i fun k hk hw => h1 k hk hw)

/-- operation i, behind the others that are listed -/
theorem S_put (L : Nat → Bool) (i m : Nat) (hi : i < m) (e : Ef) (he : es[i]? = some e) (hL : L i = false) (h2 : p.W i = true → ∀ k, i < k → k < m → p.W k = true → L k = false) :
    p.r (S N st es (fun k => if k = i then true else L k) m) = p.r (e.app N (S N st es L m)) := by
  cases hw : p.W i with
  | true =>
    rw [p.write i e _ he hw]
    have := S_stop p (st := st) (fun k => if k = i then true else L k) (i + 1) m (by omega) (fun k h3 h4 h5 => by
      have : k ≠ i := by omega
      simp [this]; exact h2 hw k (by omega) h4 h5)
    rw [this]
    simp only [S, he, if_true, cond_true]
    exact p.write i e _ he hw
  | false =>
    rw [p.keep i e _ he hw]
    exact S_all_of p _ _ m fun k hk hwk => by
      have : k ≠ i := by rintro rfl; rw [hw] at hwk; cases hwk
      simp [this]
end parts

section parts2
variable {N : Nat}
def slotPart (es : List Ef) (t : Nat) : Part N (Option V) es where
  r s := get s.sl t
  W k := match es[k]? with
    | some e => match e.d with | some d => Nat.beq d t | none => false
    | none => false
  c k := match es[k]? with | some e => some e.v | none => none
  keep k e s he hw := by
    simp only [he] at hw
    unfold Ef.app
    cases hd : e.d with
    | none => rfl
    | some d =>
      simp only [hd] at hw
      have : d ≠ t := by rintro rfl; simp at hw
      simp [get_cons, this]
  write k e s he hw := by
    simp only [he] at hw ⊢
    unfold Ef.app
    cases hd : e.d with
    | none => simp [hd] at hw
    | some d =>
      simp only [hd] at hw
      have := Nat.eq_of_beq_eq_true hw
      subst this
      simp [get_cons]

def boxPart (es : List Ef) (t : Nat) : Part N (Option (List M)) es where
  r s := get s.bx t
  W k := match es[k]? with
    | some e => has (e.wb.map (·.1)) t
    | none => false
  c k := match es[k]? with | some e => get e.wb t | none => none
  keep k e s he hw := by
    simp only [he] at hw
    have h := get_some_iff e.wb t
    rw [hw] at h
    show get (e.wb ++ s.bx) t = _
    rw [get_append]
    cases hg : get e.wb t with
    | none => rfl
    | some v => rw [hg] at h; cases h
  write k e s he hw := by
    simp only [he] at hw ⊢
    have h := get_some_iff e.wb t
    rw [hw] at h
    show get (e.wb ++ s.bx) t = _
    rw [get_append]
    cases hg : get e.wb t with
    | none => rw [hg] at h; cases h
    | some v => rfl

def ixPart (es : List Ef) (i : Nat) (hi : i < N) : Part N Ob es where
  r s := s.H.getD i .dead
  W k := match es[k]? with
    | some e => has (e.wh.map (·.1)) i
    | none => false
  c k := match es[k]? with | some e => (get e.wh i).getD .dead | none => .dead
  keep k e s he hw := by
    simp only [he] at hw
    have h := get_some_iff e.wh i
    rw [hw] at h
    unfold Ef.app
    rw [front_get _ _ _ _ _ hi]
    cases hg : get e.wh i with
    | none => rfl
    | some v => rw [hg] at h; cases h
  write k e s he hw := by
    simp only [he] at hw ⊢
    have h := get_some_iff e.wh i
    rw [hw] at h
    unfold Ef.app
    rw [front_get _ _ _ _ _ hi]
    cases hg : get e.wh i with
    | none => rw [hg] at h; cases h
    | some v => rfl
def tlPart (es : List Ef) : Part N Hp es where
  r s := s.H.drop N
  W k := match es[k]? with
    | some e => e.tl.isSome
    | none => false
  c k := match es[k]? with | some e => e.tl.getD [] | none => []
  keep k e s he hw := by
    simp only [he] at hw
    unfold Ef.app
    rw [front_drop]
    cases hh : e.tl with
    | none => rfl
    | some h => rw [hh] at hw; cases hw
  write k e s he hw := by
    simp only [he] at hw ⊢
    unfold Ef.app
    rw [front_drop]
    cases hh : e.tl with
    | none => rw [hh] at hw; cases hw
    | some h => rfl
theorem S_len (st : St) (es : List Ef) (L : Nat → Bool) (h : N ≤ st.H.length) : ∀ n, N ≤ (S N st es L n).H.length
  | 0 => h
  | n + 1 => by
    simp only [S]
    cases he : es[n]? with
    | none => exact S_len st es L h n
    | some e =>
      cases hl : L n with
      | false => exact S_len st es L h n
      | true => simp [Ef.app, front_length]
theorem hp_ext {A B : Hp} (ha : N ≤ A.length) (hb : N ≤ B.length) (h1 : ∀ i, i < N → A.getD i .dead = B.getD i .dead) (h2 : A.drop N = B.drop N) : A = B := by
  rw [← List.take_append_drop N A, ← List.take_append_drop N B, h2]
  congr 1
  apply List.ext_getElem
  · simp; omega
  · intro i h3 h4
    simp at h3 h4
    have := h1 i (by omega)
    rw [List.getD_eq_getElem?_getD, List.getD_eq_getElem?_getD, List.getElem?_eq_getElem (by omega), List.getElem?_eq_getElem (by omega)] at this
    simpa using this

theorem pairsOk1_spec {opsA : Array Oper} {x : Oper} {e : Ef} {i : Nat} : ∀ {ys : List Oper} {fs : List Ef} {bs : List (List Nat)}, pairsOk1 opsA x e i ys fs bs = true →
    ∀ (j : Nat) y f b, ys[j]? = some y → fs[j]? = some f → bs[j]? = some b → (confl opsA x y e f = true → i ∈ b) ∧ stale e f = false
  | [], _, _, _, j, y, f, b, hy, _, _ => by simp at hy
  | _ :: _, [], _, _, j, y, f, b, _, hf, _ => by simp at hf
  | _ :: _, _ :: _, [], _, j, y, f, b, _, _, hb => by simp at hb
  | y0 :: ys, f0 :: fs, b0 :: bs, h, j, y, f, b, hy, hf, hb => by
    simp only [pairsOk1, Bool.and_eq_true, Bool.or_eq_true, Bool.not_eq_true'] at h
    cases j with
    | zero =>
      simp at hy hf hb; subst hy; subst hf; subst hb
      refine ⟨fun hc => ?_, h.1.2⟩
      rcases h.1.1 with h1 | h1
      · rw [h1] at hc; cases hc
      · exact has_iff.1 h1
    | succ j => simp at hy hf hb; exact pairsOk1_spec h.2 j y f b hy hf hb
theorem pairsOk_spec {opsA : Array Oper} : ∀ {xs : List Oper} {es : List Ef} {bs : List (List Nat)} {n : Nat}, pairsOk opsA n xs es bs = true →
    ∀ (i j : Nat) x e y f b, i < j → xs[i]? = some x → es[i]? = some e → xs[j]? = some y → es[j]? = some f → bs[j]? = some b → (confl opsA x y e f = true → n + i ∈ b) ∧ stale e f = false
  | [], _, _, n, _, i, j, x, e, y, f, b, _, hx, _, _, _, _ => by simp at hx
  | _ :: _, [], _, n, _, i, j, x, e, y, f, b, _, _, he, _, _, _ => by simp at he
  | _ :: _, _ :: _, [], n, _, i, j, x, e, y, f, b, _, _, _, _, _, hb => by simp at hb
  | x0 :: xs, e0 :: es, b0 :: bs, n, h, i, j, x, e, y, f, b, hij, hx, he, hy, hf, hb => by
    simp only [pairsOk, Bool.and_eq_true] at h
    cases j with
    | zero => omega
    | succ j =>
      cases i with
      | zero =>
        simp at hx he hy hf hb; subst hx; subst he
        exact pairsOk1_spec h.1 j y f b hy hf hb
      | succ i =>
        simp at hx he hy hf hb
        have := pairsOk_spec h.2 i j x e y f b (by omega) hx he hy hf hb
        rw [show n + (i + 1) = n + 1 + i by omega]
        exact this
theorem foldl_take_S (st : St) (es : List Ef) : ∀ k, S N st es (fun _ => true) k = (es.take k).foldl (fun s e => e.app N s) st
  | 0 => rfl
  | k + 1 => by
    simp only [S]
    cases he : es[k]? with
    | none =>
      have hle : es.length ≤ k := by rcases Nat.lt_or_ge k es.length with h | h; simp [List.getElem?_eq_getElem h] at he; exact h
      rw [foldl_take_S st es k, List.take_of_length_le hle, List.take_of_length_le (by omega)]
    | some e =>
      simp only [cond_true]
      rw [foldl_take_S st es k]
      have hlt : k < es.length := by rcases Nat.lt_or_ge k es.length with h | h; exact h; simp [List.getElem?_eq_none h] at he
      rw [List.take_succ_eq_append_getElem hlt, List.foldl_append]
      have : es[k] = e := by simpa [List.getElem?_eq_getElem hlt] using he
      rw [this]; rfl

theorem RunF.spec {X : Ctx} {opsA : Array Oper} {l : List Oper} {st st' : St} {es : List Ef} (h : RunF N X opsA l st es st') :
    es.length = l.length ∧ st' = es.foldl (fun s e => e.app N s) st ∧ ∀ (i : Nat) o e, l[i]? = some o → es[i]? = some e → StepF N X opsA o e ((es.take i).foldl (fun s e => e.app N s) st) ∧ e.d = o.dst := by
  induction h with
  | nil st => exact ⟨rfl, rfl, by simp⟩
  | cons h hd k ih =>
    obtain ⟨h1, h2, h3⟩ := ih
    refine ⟨by simp [h1], h2, fun i o e ho he => ?_⟩
    cases i with
    | zero => simp at ho he; subst ho; subst he; exact ⟨h, hd⟩
    | succ i => simp at ho he; exact h3 i o e ho he

theorem draw {X : Ctx} {id : Nat} {ops : List Oper} {st st' : St} {es : List Ef} {post : Exit → St → Prop} (hm : X.P.follows .mixedOrders = true) (hN : N ≤ st.H.length)
    (hrun : RunF N X ops.toArray ops st es st') (hok : orderOk N ops st.sl es = true) (hpost : post .normal st') : TC X (.region id ops.toArray true) st post := by
  obtain ⟨hlen, hst', hstep⟩ := hrun.spec
  simp only [orderOk, Bool.and_eq_true] at hok
  obtain ⟨⟨⟨hedge, hpairs⟩, hstale⟩, hokE⟩ := hok
  have hE := edgesOk_spec hedge
  have hP := pairsOk_spec hpairs
  have hall : st' = S N st es (fun _ => true) ops.length := by rw [foldl_take_S, List.take_of_length_le (by omega), hst']
  have hesd : ∀ (k : Nat) e, es[k]? = some e → ∃ o b, ops[k]? = some o ∧ (befs ops)[k]? = some b ∧ e.d = o.dst ∧ k < ops.length := by
    intro k e he
    have hk : k < es.length := by rcases Nat.lt_or_ge k es.length with h | h; exact h; simp [List.getElem?_eq_none h] at he
    have ho : ops[k]? = some ops[k] := by simp [show k < ops.length by omega]
    have hb : k < (befs ops).length := by rw [befs_length]; omega
    exact ⟨ops[k], (befs ops)[k], ho, by simp [hb], (hstep k _ e ho he).2, by omega⟩
  have hns : ∀ (k : Nat) e d, es[k]? = some e → e.nw = some d → noLoc d st.sl = true := by
    have : ∀ (l : List Ef), noStale st.sl l = true → ∀ (k : Nat) e d, l[k]? = some e → e.nw = some d → noLoc d st.sl = true := by
      intro l
      induction l with
      | nil => intro _ k e d h; simp at h
      | cons x l ih =>
        intro hl k e d he hd
        simp only [noStale, Bool.and_eq_true] at hl
        cases k with
        | zero => simp at he; subst he; simpa [hd] using hl.1
        | succ k => simp at he; exact ih hl.2 k e d he hd
    exact this es hstale
  intro a w hi
  refine wp_region_any hm ?_
  -- the invariant
  have main : ∀ (fuel : Nat) (listed : Array Bool) (a : Act) (w : World), listed.size = ops.length → cnt ops.length (fun k => listed.getD k false) = fuel →
      (∀ j b, listed.getD j false = true → (befs ops)[j]? = some b → ∀ i ∈ b, listed.getD i false = true) →
      Inv X (S N st es (fun k => listed.getD k false) ops.length) a w →
      wpAny X.P .any ops.toArray (fun e a' w' => ∃ st', post e st' ∧ Inv X st' a' w') fuel listed a w := by
    intro fuel
    induction fuel with
    | zero =>
      intro listed a w hsz hc hcl hinv
      have hz := cnt_zero hc
      refine ⟨?_, st', hpost, ?_⟩
      · unfold Region.ready
        rw [List.filter_eq_nil_iff]
        intro i hi
        simp at hi
        have h1 := hz i hi
        have h2 : i < listed.size := by omega
        simp [h2] at h1
        simp [h2, h1]
      · have e : S N st es (fun k => listed.getD k false) ops.length = st' := by
          rw [hall]
          have : ∀ n, n ≤ ops.length → S N st es (fun k => listed.getD k false) n = S N st es (fun _ => true) n := by
            intro n
            induction n with
            | zero => intro _; rfl
            | succ n ih =>
              intro hn
              simp only [S, ih (by omega), hz n (by omega)]
          exact this _ (Nat.le_refl _)
        rw [← e]; exact hinv
    | succ fuel ih =>
      intro listed a w hsz hc hcl hinv
      have mem_ready : ∀ i, i ∈ Region.ready .any ops.toArray listed ↔ i < ops.length ∧ listed.getD i true = false ∧ ∃ o, ops[i]? = some o ∧ ∀ e ∈ o.after.toList, Region.binds .any e = true → listed.getD e.on false = true := by
        intro i
        unfold Region.ready
        rw [List.mem_filter]
        simp only [List.mem_range, List.size_toArray, Bool.and_eq_true, Bool.not_eq_true', List.getElem?_toArray]
        constructor
        · rintro ⟨h1, h2, h3⟩
          refine ⟨h1, h2, ops[i], by simp [h1], ?_⟩
          simp [h1] at h3
          intro e he hb
          have he' : e ∈ ops[i].after := by simpa using he
          obtain ⟨n, hn, rfl⟩ := Array.mem_iff_getElem.1 he'
          rcases h3 n hn with h4 | h4
          · rw [h4] at hb; cases hb
          · simpa using h4
        · rintro ⟨h1, h2, o, h3, h4⟩
          refine ⟨h1, h2, ?_⟩
          have : ops[i] = o := by simpa [h1] using h3
          simp [h1, this]
          intro n hn
          cases hb : Region.binds .any o.after[n] with
          | false => exact .inl rfl
          | true => right; simpa using h4 o.after[n] (by simp) hb
      refine ⟨?_, ?_⟩
      · intro hr
        obtain ⟨i, h1, h2, h3⟩ := cnt_pos (m := ops.length) (f := fun k => listed.getD k false) (by omega)
        have : i ∈ Region.ready .any ops.toArray listed := by
          rw [mem_ready]
          have hls : i < listed.size := by omega
          refine ⟨h1, by simp [hls] at h2 ⊢; exact h2, ops[i], by simp [h1], ?_⟩
          intro e he hb
          have := hE i ops[i] (by simp [h1]) e he hb
          exact h3 e.on (by omega)
        rw [hr] at this; cases this
      · intro i hir
        obtain ⟨hi1, hi2, o, ho, hedges⟩ := (mem_ready i).1 hir
        have hls : i < listed.size := by omega
        have hLi : listed.getD i false = false := by simp [hls] at hi2 ⊢; exact hi2
        have hel : i < es.length := by omega
        obtain ⟨e, he⟩ : ∃ e, es[i]? = some e := ⟨es[i], by simp [hel]⟩
        have hbl : i < (befs ops).length := by rw [befs_length]; exact hi1
        obtain ⟨bi, hbi⟩ : ∃ b, (befs ops)[i]? = some b := ⟨(befs ops)[i], by simp [hbl]⟩
        -- what comes ahead of i is done
        have ahead : ∀ k, k ∈ bi → listed.getD k false = true := by
          intro k hk
          obtain ⟨ed, h1, h2, h3⟩ := befs_mem ho hbi hk
          have h4 := hedges ed h1 h2
          rcases h3 with h3 | ⟨b', h5, _, h6⟩
          · rw [← h3]; exact h4
          · exact hcl _ b' h4 h5 k h6
        have early : ∀ (k : Nat) f, k < i → es[k]? = some f → ∀ x, ops[k]? = some x → confl ops.toArray x o f e = true → listed.getD k false = true := by
          intro k f hk hf x hx hc
          have := (hP k i x f o e bi hk hx hf ho he hbi).1 hc
          simp at this
          exact ahead k this
        have late : ∀ (k : Nat) f, i < k → es[k]? = some f → ∀ x, ops[k]? = some x → confl ops.toArray o x e f = true → listed.getD k false = false := by
          intro k f hk hf x hx hc
          obtain ⟨_, b, _, hb, _, _⟩ := hesd k f hf
          have := (hP i k o e x f b hk ho he hx hf hb).1 hc
          simp at this
          cases hl : listed.getD k false with
          | false => rfl
          | true => rw [hcl k b hl hb i this] at hLi; cases hLi
        obtain ⟨hstepi, hedi⟩ := hstep i o e ho he
        have hSi : (es.take i).foldl (fun s e => e.app N s) st = S N st es (fun _ => true) i := (foldl_take_S st es i).symm
        rw [hSi] at hstepi
        have hWslot : ∀ t k, (slotPart (N := N) es t).W k = true → ∃ f x, es[k]? = some f ∧ ops[k]? = some x ∧ f.d = some t ∧ x.dst = some t := by
          intro t k hw
          simp only [slotPart] at hw
          split at hw
          · rename_i f hf
            split at hw
            · rename_i d hd
              have := Nat.eq_of_beq_eq_true hw
              subst this
              obtain ⟨x, b, hx, _, hxd, _⟩ := hesd k f hf
              exact ⟨f, x, hf, hx, hd, by rw [← hxd]; exact hd⟩
            · cases hw
          · cases hw
        have hWbox : ∀ t k, (boxPart (N := N) es t).W k = true → ∃ f x, es[k]? = some f ∧ ops[k]? = some x ∧ t ∈ f.wb.map (·.1) := by
          intro t k hw
          simp only [boxPart] at hw
          split at hw
          · rename_i f hf
            obtain ⟨x, b, hx, _, _, _⟩ := hesd k f hf
            exact ⟨f, x, hf, hx, has_iff.1 hw⟩
          · cases hw
        have hWix : ∀ (j : Nat) (hj : j < N) k, (ixPart es j hj).W k = true → ∃ f x, es[k]? = some f ∧ ops[k]? = some x ∧ j ∈ f.wh.map (·.1) := by
          intro j hj k hw
          simp only [ixPart] at hw
          split at hw
          · rename_i f hf
            obtain ⟨x, b, hx, _, _, _⟩ := hesd k f hf
            exact ⟨f, x, hf, hx, has_iff.1 hw⟩
          · cases hw
        have hWtl : ∀ k, (tlPart (N := N) es).W k = true → ∃ f x, es[k]? = some f ∧ ops[k]? = some x ∧ f.tl.isSome = true := by
          intro k hw
          simp only [tlPart] at hw
          split at hw
          · rename_i f hf
            obtain ⟨x, b, hx, _, _, _⟩ := hesd k f hf
            exact ⟨f, x, hf, hx, hw⟩
          · cases hw
        have hokk : ∀ (k : Nat) f, es[k]? = some f → okE N f = true := fun k f hf => List.all_eq_true.1 hokE f (List.mem_of_getElem? hf)
        have anyix : ∀ (l : List (Nat × Ob)) (r : List Nat) (t : Nat), t ∈ l.map (·.1) → t ∈ r → (l.any fun p => has r p.1) = true := by
          intro l r t h1 h2
          rw [List.any_eq_true]
          obtain ⟨p, hp, rfl⟩ := List.mem_map.1 h1
          exact ⟨p, hp, has_iff.2 h2⟩
        have anyall : ∀ (l : List (Nat × Ob)) (t : Nat), t ∈ l.map (·.1) → (l.any fun p => Nat.ble 0 p.1) = true := by
          intro l t h1
          rw [List.any_eq_true]
          obtain ⟨p, hp, rfl⟩ := List.mem_map.1 h1
          exact ⟨p, hp, by simp⟩
        -- who writes an object that another one writes
        have wix : ∀ (j : Nat) (f g : Ef), okE N g = true → j ∈ f.wh.map (·.1) → j ∈ g.wh.map (·.1) → hconf f g = true := by
          intro j f g hg h1 h2
          unfold okE at hg
          unfold hconf
          obtain ⟨p, hp, rfl⟩ := List.mem_map.1 h2
          cases hr : g.rh with
          | no => rw [hr] at hg; simp at hg; cases hw : g.wh with
            | nil => rw [hw] at hp; cases hp
            | cons => rw [hw] at hg; simp at hg
          | ix l =>
            rw [hr] at hg
            simp only [Bool.and_eq_true, List.all_eq_true] at hg
            exact anyix f.wh l _ h1 (has_iff.1 (hg.1.1 p hp))
          | all => simp only; rw [anyall f.wh _ h1]; rfl
        have wtl : ∀ (f g : Ef), okE N g = true → f.tl.isSome = true → g.tl.isSome = true → hconf f g = true := by
          intro f g hg h1 h2
          unfold okE at hg
          unfold hconf
          cases hr : g.rh with
          | no => rw [hr] at hg; cases ht : g.tl with
            | none => rw [ht] at h2; cases h2
            | some t => rw [ht] at hg; simp at hg
          | ix l => rw [hr] at hg; cases ht : g.tl with
            | none => rw [ht] at h2; cases h2
            | some t => rw [ht] at hg; simp at hg
          | all => simp only; rw [h1]; simp
        have anyhas : ∀ (l : List (Nat × List M)) (r : List Nat) (t : Nat), t ∈ l.map (·.1) → t ∈ r → (l.any fun p => has r p.1) = true := by
          intro l r t h1 h2
          rw [List.any_eq_true]
          obtain ⟨p, hp, rfl⟩ := List.mem_map.1 h1
          exact ⟨p, hp, has_iff.2 h2⟩
        have hag : Ag N ops.toArray o e (S N st es (fun _ => true) i) (S N st es (fun k => listed.getD k false) ops.length) := by
          refine ⟨?_, ?_, ?_, ?_, S_len _ _ _ hN _, ?_⟩
          · intro t ht
            refine S_agree (slotPart es t) _ i ops.length (by omega) ?_ ?_
            · intro k hk hw
              obtain ⟨f, x, hf, hx, _, hxd⟩ := hWslot t k hw
              refine early k f hk hf x hx ?_
              have : has (slotsOf ops.toArray o) t = true := has_iff.2 (by simp [slotsOf, ht])
              simp [confl, hxd, this]
            · intro k hk hk2 hw
              by_cases hki : k = i
              · rw [hki]; exact hLi
              · obtain ⟨f, x, hf, hx, _, hxd⟩ := hWslot t k hw
                refine late k f (by omega) hf x hx ?_
                have : has (slotsOf ops.toArray o) t = true := has_iff.2 (by simp [slotsOf, ht])
                simp [confl, hxd, this]
          · intro t ht
            refine S_agree (boxPart es t) _ i ops.length (by omega) ?_ ?_
            · intro k hk hw
              obtain ⟨f, x, hf, hx, hft⟩ := hWbox t k hw
              refine early k f hk hf x hx ?_
              have := anyhas f.wb _ t hft ht
              simp [confl, this]
            · intro k hk hk2 hw
              by_cases hki : k = i
              · rw [hki]; exact hLi
              · obtain ⟨f, x, hf, hx, hft⟩ := hWbox t k hw
                refine late k f (by omega) hf x hx ?_
                have := anyhas f.wb _ t hft ht
                simp [confl, this]
          · intro l hl j hj
            have hjN : j < N := by
              have := hokk i e he
              unfold okE at this
              rw [hl] at this
              simp only [Bool.and_eq_true, List.all_eq_true] at this
              exact blt_lt (this.1.2 j hj)
            refine S_agree (ixPart es j hjN) _ i ops.length (by omega) ?_ ?_
            · intro k hk hw
              obtain ⟨f, x, hf, hx, hft⟩ := hWix j hjN k hw
              refine early k f hk hf x hx ?_
              have : hconf f e = true := by unfold hconf; rw [hl]; exact anyix f.wh l j hft hj
              simp [confl, this]
            · intro k hk hk2 hw
              by_cases hki : k = i
              · rw [hki]; exact hLi
              · obtain ⟨f, x, hf, hx, hft⟩ := hWix j hjN k hw
                refine late k f (by omega) hf x hx ?_
                have : hconf f e = true := by unfold hconf; rw [hl]; exact anyix f.wh l j hft hj
                simp [confl, this]
          · intro hl
            refine ⟨fun j hjN => ?_, ?_⟩
            · refine S_agree (ixPart es j hjN) _ i ops.length (by omega) ?_ ?_
              · intro k hk hw
                obtain ⟨f, x, hf, hx, hft⟩ := hWix j hjN k hw
                refine early k f hk hf x hx ?_
                have : hconf f e = true := by unfold hconf; rw [hl]; simp only; rw [anyall f.wh j hft]; rfl
                simp [confl, this]
              · intro k hk hk2 hw
                by_cases hki : k = i
                · rw [hki]; exact hLi
                · obtain ⟨f, x, hf, hx, hft⟩ := hWix j hjN k hw
                  refine late k f (by omega) hf x hx ?_
                  have : hconf f e = true := by unfold hconf; rw [hl]; simp only; rw [anyall f.wh j hft]; rfl
                  simp [confl, this]
            · refine S_agree (tlPart es) _ i ops.length (by omega) ?_ ?_
              · intro k hk hw
                obtain ⟨f, x, hf, hx, hft⟩ := hWtl k hw
                refine early k f hk hf x hx ?_
                have : hconf f e = true := by unfold hconf; rw [hl]; simp [hft]
                simp [confl, this]
              · intro k hk hk2 hw
                by_cases hki : k = i
                · rw [hki]; exact hLi
                · obtain ⟨f, x, hf, hx, hft⟩ := hWtl k hw
                  refine late k f (by omega) hf x hx ?_
                  have : hconf f e = true := by unfold hconf; rw [hl]; simp [hft]
                  simp [confl, this]
          · intro d hd t oo hg
            -- no stale address
            have key : ∀ n, n ≤ ops.length → get (S N st es (fun k => listed.getD k false) n).sl t = some (.loc d oo) → False := by
              intro n
              induction n with
              | zero =>
                intro _ hg
                exact noLoc_get (hns i e d he hd) hg
              | succ n ihn =>
                intro hn hg
                simp only [S] at hg
                cases hen : es[n]? with
                | none => simp only [hen] at hg; exact ihn (by omega) hg
                | some f =>
                  simp only [hen] at hg
                  cases hl : listed.getD n false with
                  | false => rw [hl] at hg; exact ihn (by omega) hg
                  | true =>
                    rw [hl] at hg
                    simp only [cond_true, Ef.app] at hg
                    obtain ⟨x, b, hx, hb, hxd, _⟩ := hesd n f hen
                    cases hfd : f.d with
                    | none => simp only [hfd] at hg; exact ihn (by omega) hg
                    | some d' =>
                      simp only [hfd] at hg
                      rcases get_cons_eq hg with ⟨_, h2⟩ | ⟨_, h2⟩
                      · have hne : n ≠ i := by rintro rfl; rw [hl] at hLi; cases hLi
                        rcases Nat.lt_or_gt_of_ne hne with hlt | hgt
                        · have := (hP n i x f o e bi hlt hx hen ho he hbi).2
                          simp [stale, hd, ← h2] at this
                        · have := late n f hgt hen x hx (by simp [confl, hd, ← h2])
                          rw [this] at hl; cases hl
                      · exact ihn (by omega) h2
            exact key _ (Nat.le_refl _) hg
        have hops := hstepi _ hag
        -- the operation
        have hnext : ∀ a' w', Inv X (e.app N (S N st es (fun k => listed.getD k false) ops.length)) a' w' → wpAny X.P .any ops.toArray (fun e a' w' => ∃ st', post e st' ∧ Inv X st' a' w') fuel (listed.setIfInBounds i true) a' w' := by
          intro a' w' hinv'
          have hfun : (fun k => (listed.setIfInBounds i true).getD k false) = fun k => if k = i then true else listed.getD k false := by
            funext k
            by_cases hk : k = i
            · subst hk; simp [hls]
            · simp [hk, Array.getElem?_setIfInBounds_ne (Ne.symm hk)]
          refine ih _ a' w' (by simp [hsz]) ?_ ?_ ?_
          · rw [hfun]
            have := cnt_set (m := ops.length) (f := fun k => listed.getD k false) hi1 hLi
            omega
          · intro j b hj hb k hk
            have hj' : (if j = i then true else listed.getD j false) = true := by rw [← congrFun hfun j]; exact hj
            have goal : (if k = i then true else listed.getD k false) = true := by
              by_cases hki : k = i
              · simp [hki]
              · rw [if_neg hki]
                by_cases hji : j = i
                · subst hji
                  rw [hbi] at hb; injection hb with hb; subst hb
                  exact ahead k hk
                · rw [if_neg hji] at hj'
                  exact hcl j b hj' hb k hk
            rw [← congrFun hfun k] at goal; exact goal
          · rw [hfun]
            have g1 : ∀ t, get (S N st es (fun k => if k = i then true else listed.getD k false) ops.length).sl t = get (e.app N (S N st es (fun k => listed.getD k false) ops.length)).sl t := by
              intro t
              refine S_put (slotPart es t) _ i ops.length hi1 e he hLi ?_
              intro hwi k hk hk2 hwk
              obtain ⟨f, x, hf, hx, _, hxd⟩ := hWslot t k hwk
              obtain ⟨f', x', hf', hx', _, hxd'⟩ := hWslot t i hwi
              rw [ho] at hx'; injection hx' with hx'; subst hx'
              refine late k f hk hf x hx ?_
              have : has (slotsOf ops.toArray o) t = true := has_iff.2 (by simp [slotsOf, hxd'])
              simp [confl, hxd, this]
            have g2 : ∀ t, get (S N st es (fun k => if k = i then true else listed.getD k false) ops.length).bx t = get (e.app N (S N st es (fun k => listed.getD k false) ops.length)).bx t := by
              intro t
              refine S_put (boxPart es t) _ i ops.length hi1 e he hLi ?_
              intro hwi k hk hk2 hwk
              obtain ⟨f, x, hf, hx, hft⟩ := hWbox t k hwk
              obtain ⟨f', x', hf', hx', hft'⟩ := hWbox t i hwi
              rw [he] at hf'; injection hf' with hf'; subst hf'
              refine late k f hk hf x hx ?_
              have := anyhas f.wb (e.rb ++ e.wb.map (·.1)) t hft (List.mem_append.2 (.inr hft'))
              simp [confl, this]
            have g3 : (S N st es (fun k => if k = i then true else listed.getD k false) ops.length).H = (e.app N (S N st es (fun k => listed.getD k false) ops.length)).H := by
              refine hp_ext (N := N) (S_len _ _ _ hN _) (by simp [Ef.app, front_length]) ?_ ?_
              · intro j hjN
                refine S_put (ixPart es j hjN) _ i ops.length hi1 e he hLi ?_
                intro hwi k hk hk2 hwk
                obtain ⟨f, x, hf, hx, hft⟩ := hWix j hjN k hwk
                obtain ⟨f', x', hf', hx', hft'⟩ := hWix j hjN i hwi
                rw [he] at hf'; injection hf' with hf'; subst hf'
                refine late k f hk hf x hx ?_
                have := wix j f e (hokk i e he) hft hft'
                simp [confl, this]
              · refine S_put (tlPart es) _ i ops.length hi1 e he hLi ?_
                intro hwi k hk hk2 hwk
                obtain ⟨f, x, hf, hx, hft⟩ := hWtl k hwk
                obtain ⟨f', x', hf', hx', hft'⟩ := hWtl i hwi
                rw [he] at hf'; injection hf' with hf'; subst hf'
                refine late k f hk hf x hx ?_
                have := wtl f e (hokk i e he) hft hft'
                simp [confl, this]
            have := Inv.weak (X := X) (sl := (e.app N (S N st es (fun k => listed.getD k false) ops.length)).sl) (bx := (e.app N (S N st es (fun k => listed.getD k false) ops.length)).bx) (H := (e.app N (S N st es (fun k => listed.getD k false) ops.length)).H)
              (sl' := (S N st es (fun k => if k = i then true else listed.getD k false) ops.length).sl) (bx' := (S N st es (fun k => if k = i then true else listed.getD k false) ops.length).bx) hinv'
              (fun t v hv => by rw [← g1]; exact hv) g2
            rw [← g3] at this
            exact this
        have := hops a w hinv (wpAny X.P .any ops.toArray (fun e a' w' => ∃ st', post e st' ∧ Inv X st' a' w') fuel (listed.setIfInBounds i true)) (fun e a' w' => ∃ st', post e st' ∧ Inv X st' a' w') hnext
        unfold wpOp
        have hopi : ops.toArray[i]? = some o := by simpa using ho
        simp only [hopi]
        split
        · rename_i hw; rw [if_pos hw] at this; exact .inl this
        · rename_i hw; rw [if_neg hw] at this; exact this
  refine main _ _ a _ (by simp) ?_ ?_ ?_
  · have : ∀ n, cnt n (fun k => (Array.replicate ops.toArray.size false).getD k false) = n := by
      intro n
      induction n with
      | zero => rfl
      | succ n ih =>
        simp only [cnt, ih]
        have : (Array.replicate ops.toArray.size false).getD n false = false := by simp [Array.getElem?_replicate]; split <;> rfl
        rw [this]; rfl
    simpa using this ops.length
  · intro j b hj
    have : (Array.replicate ops.toArray.size false).getD j false = false := by simp [Array.getElem?_replicate]; split <;> rfl
    rw [this] at hj; cases hj
  · have hz : ∀ n, S N st es (fun k => (Array.replicate ops.toArray.size false).getD k false) n = st := by
      intro n
      induction n with
      | zero => rfl
      | succ n ih =>
        have : (Array.replicate ops.toArray.size false).getD n false = false := by simp [Array.getElem?_replicate]; split <;> rfl
        simp only [S, ih, this]
        cases es[n]? <;> rfl
    rw [hz]
    obtain ⟨σ, lam, rfl, hi⟩ := hi
    exact ⟨{ σ with w := { σ.w with drawn := σ.w.drawn + 1 } }, lam, rfl, hi.ext (ExtW.drew _)⟩

end parts2
end Go.Mt.Fine

set_option linter.unusedVariables false
set_option linter.unusedSimpArgs false
namespace Go.Mt

/-- where a new object is laid: behind all others, or where one is free -/
def Place (H : Hp) (ob : Ob) (n : Nat) (H' : Hp) : Prop := (n = H.length ∧ H' = H ++ [ob]) ∨ (H[n]? = some .free ∧ H' = H.set n ob)

theorem FInv.fillObj {X : Ctx} {σ : Sg} {lam : Nat → Nat} {st : St} {a : Act} (hi : FInv X σ lam st a) (ob : Ob) (x : Obj) (j : Nat) (hj : st.H[j]? = some .free)
    (hok : ∀ τ : Sg, Mono σ τ → τ.w = { σ.w with heap := σ.w.heap.push x } → ObOk τ σ.w.heap.size ob) :
    ∃ τ : Sg, τ.w = { σ.w with heap := σ.w.heap.push x } ∧ τ.l j = σ.w.heap.size ∧ τ.H = st.H.set j ob ∧ Mono σ τ ∧ FInv X τ lam ⟨st.sl, st.bx, st.H.set j ob⟩ a := by
  have hj' : σ.H[j]? = some .free := by rw [hi.hH]; exact hj
  have hjl : j < σ.H.length := by rcases Nat.lt_or_ge j σ.H.length with h | h; exact h; simp [List.getElem?_eq_none h] at hj'
  let b := σ.w.heap.size
  let w' : World := { σ.w with heap := σ.w.heap.push x }
  let l' : Nat → Nat := fun i => if i = j then b else σ.l i
  let τ : Sg := ⟨w', fun c o => σ.O c o ∨ (c = b ∧ ob.owns o), l', σ.H.set j ob⟩
  have hext : ExtW σ.w w' := ExtW.alloc _ _
  have hidx : ∀ (i : Nat) o, σ.H[i]? = some o → o ≠ .free → (σ.H.set j ob)[i]? = some o ∧ l' i = σ.l i := by
    intro i o h hne
    have hij : i ≠ j := by rintro rfl; rw [hj'] at h; injection h with h; exact hne h.symm
    exact ⟨by rw [List.getElem?_set_ne (Ne.symm hij)]; exact h, by simp [l', hij]⟩
  have hself : (σ.H.set j ob)[j]? = some ob := by simp [hjl]
  have hidx2 : ∀ (i : Nat) o, (σ.H.set j ob)[i]? = some o → (σ.H[i]? = some o ∧ l' i = σ.l i ∧ i ≠ j) ∨ (i = j ∧ o = ob) := by
    intro i o h
    by_cases e : i = j
    · subst e; rw [hself] at h; injection h with h; exact .inr ⟨rfl, h.symm⟩
    · rw [List.getElem?_set_ne (Ne.symm e)] at h
      exact .inl ⟨h, by simp [l', e], e⟩
  have hmono : Mono σ τ := by
    refine ⟨fun c o v h1 h2 => ⟨hext.cell h1, ?_⟩, fun i cs h => ⟨⟨cs, (hidx i _ h (by simp)).1⟩, (hidx i _ h (by simp)).2⟩, fun i cs h => ⟨⟨cs, (hidx i _ h (by simp)).1⟩, (hidx i _ h (by simp)).2⟩, fun i cs h => ⟨⟨cs, (hidx i _ h (by simp)).1⟩, (hidx i _ h (by simp)).2⟩, fun i h => (hidx i _ h (by simp)).1,
      fun i acc ec ver cs h => .inr ⟨acc, ver, cs, (hidx i _ h (by simp)).1, Nat.le_refl _, fun _ => ⟨(hidx i _ h (by simp)).2, rfl, fun arr T ha => ⟨arr, hext.heap ha, rfl⟩⟩⟩, fun i h => ?_⟩
    · rintro (h3 | ⟨h3, _⟩)
      · exact h2 h3
      · have := lt_of_cellv h1; omega
    · by_cases e : i = j
      · subst e; exact ⟨_, hself⟩
      · exact ⟨.free, by show (σ.H.set j ob)[i]? = _; rw [List.getElem?_set_ne (Ne.symm e)]; exact h⟩
  have hlt : ∀ (i : Nat) o, σ.H[i]? = some o → o.live → σ.l i < b := fun i o h1 h2 => (hi.hinv.obj i o h1).lt h2
  have hnew : ObOk τ b ob := hok τ hmono rfl
  have hll : l' j = b := by simp [l']
  have hinv : HInv τ (Oof X.Oout lam st.bx) := by
    refine ⟨?_, ?_, ?_, ?_, fun c o h => Nat.lt_of_lt_of_le (hi.hinv.old c o h) hext.size⟩
    · intro i o h
      rcases hidx2 i o h with ⟨h1, h2, _⟩ | ⟨rfl, rfl⟩
      · show ObOk τ (l' i) o
        rw [h2]; exact (hi.hinv.obj i o h1).keep hmono fun x hx => hext.heap hx
      · show ObOk τ (l' _) o
        rw [hll]; exact hnew
    · intro i k x y h1 h2 h3 h4 h5
      change l' i = l' k at h5
      rcases hidx2 i x h1 with ⟨h6, h7, _⟩ | ⟨rfl, rfl⟩ <;> rcases hidx2 k y h2 with ⟨h8, h9, _⟩ | ⟨rfl, rfl⟩
      · rw [h7, h9] at h5; exact hi.hinv.inj i k x y h6 h8 h3 h4 h5
      · rw [h7, hll] at h5; have := hlt i x h6 h3; omega
      · rw [h9, hll] at h5; have := hlt k y h8 h4; omega
      · rfl
    · intro c o
      show (σ.O c o ∨ (c = b ∧ ob.owns o)) ↔ _
      rw [hi.hinv.own]
      constructor
      · rintro ((h | ⟨i, x, h1, h2, h3⟩) | ⟨rfl, h2⟩)
        · exact .inl h
        · have hne : x ≠ .free := by rintro rfl; exact h3
          exact .inr ⟨i, x, (hidx i x h1 hne).1, (by show l' i = c; rw [(hidx i x h1 hne).2]; exact h2), h3⟩
        · exact .inr ⟨j, ob, hself, hll, h2⟩
      · rintro (h | ⟨i, x, h1, h2, h3⟩)
        · exact .inl (.inl h)
        · rcases hidx2 i x h1 with ⟨h6, h7, _⟩ | ⟨rfl, rfl⟩
          · exact .inl (.inr ⟨i, x, h6, by rw [← h7]; exact h2, h3⟩)
          · exact .inr ⟨by rw [← h2]; exact hll, h3⟩
    · intro i o h1 h2 oo h3
      rcases hidx2 i o h1 with ⟨h6, h7, _⟩ | ⟨rfl, rfl⟩
      · exact hi.hinv.sep i o h6 h2 oo (by rw [← h7]; exact h3)
      · have h4 : Oof X.Oout lam st.bx b oo := by rw [← hll]; exact h3
        have := hi.hinv.old _ _ h4
        exact Nat.lt_irrefl _ this
  have hblk : Blk σ τ := by
    refine ⟨rfl, rfl, rfl, hext.size, fun c hc _ => hext.blk c hc, ?_⟩
    intro i o h1 h2
    rcases hidx2 i o h1 with ⟨h6, h7, _⟩ | ⟨rfl, rfl⟩
    · exact .inr ⟨o, h6, h2, h7⟩
    · exact .inl (by show _ ≤ l' _; rw [hll]; exact Nat.le_refl _)
  have hH : τ.H = st.H.set j ob := by show σ.H.set j ob = _; rw [hi.hH]
  refine ⟨τ, rfl, hll, hH, hmono, ?_⟩
  have := hi.heap hmono hinv (fun t cs h => hext.blk _ ((hi.box t cs h).lt trivial)) hblk
  rw [hH] at this
  exact this

theorem FInv.place {X : Ctx} {σ : Sg} {lam : Nat → Nat} {st : St} {a : Act} (hi : FInv X σ lam st a) {ob : Ob} {n : Nat} {H' : Hp} (hp : Place st.H ob n H') (x : Obj)
    (hok : ∀ τ : Sg, Mono σ τ → τ.w = { σ.w with heap := σ.w.heap.push x } → ObOk τ σ.w.heap.size ob) :
    ∃ τ : Sg, τ.w = { σ.w with heap := σ.w.heap.push x } ∧ τ.l n = σ.w.heap.size ∧ τ.H[n]? = some ob ∧ Mono σ τ ∧ FInv X τ lam ⟨st.sl, st.bx, H'⟩ a := by
  rcases hp with ⟨rfl, rfl⟩ | ⟨hf, rfl⟩
  · obtain ⟨τ, h1, h2, h3, h4, h5⟩ := hi.newObj ob x hok
    exact ⟨τ, h1, by rw [← hi.hH]; exact h2, by rw [h3]; simp, h4, h5⟩
  · obtain ⟨τ, h1, h2, h3, h4, h5⟩ := hi.fillObj ob x n hf hok
    have hl : n < st.H.length := by rcases Nat.lt_or_ge n st.H.length with h | h; exact h; simp [List.getElem?_eq_none h] at hf
    exact ⟨τ, h1, h2, by rw [h3]; simp [hl], h4, h5⟩

section ops
variable {X : Ctx} {st : St} {dst : Option Nat} {ty : Nat} {pos : String} {af : Array Edge} {g : Option (Nat × Bool)} {pn : Nat} {H' : Hp}

theorem op_boxP {T : Nat} {x : Operand} {m : M} (hx : st.ev x = some (.m m)) (hok : m.okc = true) (hp : Place st.H (.box (cellsOf m)) pn H') :
    OpT X ⟨dst, .box T x, ty, pos, af, g⟩ st (eqp (.m (.ref pn 0)) ⟨st.sl, st.bx, H'⟩) := by
  intro a σ lam hi
  have h := hi.ev hx
  cases h with
  | m h =>
    have hc := h.cells hok
    obtain ⟨τ, h1, h2, h3, h4, h5⟩ := hi.place hp (.cells (a.eval x).cells T (0, 0)) (by
      intro τ hm hw
      exact ⟨_, T, by rw [hw]; simp, hc.mono hm⟩)
    refine OpRun.value (u := .pointer (some ⟨σ.w.heap.size, 0, none⟩)) (w' := { σ.w with heap := σ.w.heap.push (.cells (a.eval x).cells T (0, 0)) }) ?_ ⟨_, _, τ, lam, ⟨rfl, rfl⟩, h1, h5, ?_⟩
    · simp [execOp, Instr.box, newVar, newRow, newObj, Sem.run]
    · rw [← h2]
      exact .m (.ref _ 0 (cellsOf m) h3)

theorem op_allocP {T : Nat} {z : D} [hz : TyZero X.P T z] (hp : Place st.H (.box ((dcells z).map .d)) pn H') :
    OpT X ⟨dst, .alloc T, ty, pos, af, g⟩ st (eqp (.m (.ref pn 0)) ⟨st.sl, st.bx, H'⟩) := by
  intro a σ lam hi
  obtain ⟨v, hz1, hz2⟩ := hz.run
  have hr : RM σ (.d z) v := .d (dOfVal_rep hz2)
  have hc : RMc σ ((dcells z).map .d) v.cells := hr.cells rfl
  obtain ⟨τ, h1, h2, h3, h4, h5⟩ := hi.place hp (.cells v.cells T (0, 0)) (by
    intro τ hm hw
    exact ⟨_, T, by rw [hw]; simp, hc.mono hm⟩)
  refine OpRun.value (u := .pointer (some ⟨σ.w.heap.size, 0, none⟩)) (w' := { σ.w with heap := σ.w.heap.push (.cells v.cells T (0, 0)) }) ?_ ⟨_, _, τ, lam, ⟨rfl, rfl⟩, h1, h5, ?_⟩
  · simp [execOp, Instr.alloc, hz1, newVar, newRow, newObj, Sem.run]
  · rw [← h2]
    exact .m (.ref _ 0 ((dcells z).map .d) h3)

theorem op_makeMapP {T : Nat} (hp : Place st.H (.map []) pn H') :
    OpT X ⟨dst, .makeMap T none, ty, pos, af, g⟩ st (eqp (.m (.mp pn)) ⟨st.sl, st.bx, H'⟩) := by
  intro a σ lam hi
  obtain ⟨τ, h1, h2, h3, h4, h5⟩ := hi.place hp (.map #[] 0) (by
    intro τ hm hw
    exact ⟨#[], 0, by rw [hw]; simp, rfl, by simp, by simp [BornOk]⟩)
  refine OpRun.value (u := .map (some σ.w.heap.size)) (w' := { σ.w with heap := σ.w.heap.push (.map #[] 0) }) ?_ ⟨_, _, τ, lam, ⟨rfl, rfl⟩, h1, h5, ?_⟩
  · simp [execOp, Instr.makeMap, newObj, Sem.run]
  · rw [← h2]
    exact .m (.mp _ [] h3)

end ops
end Go.Mt

set_option linter.unusedVariables false
set_option linter.unusedSimpArgs false
namespace Go.Mt

def viewL (f : M → Option D) : List M → Option (List D)
  | [] => some []
  | m :: r => match f m with
    | some d => match viewL f r with
      | some ds => some (d :: ds)
      | none => none
    | none => none
def chunkD (ec : Nat) : Nat → List D → Option (List (List D))
  | 0, l => match l with
    | [] => some []
    | _ => none
  | n + 1, l => match sub l 0 ec with
    | some r => match chunkD ec n (l.drop ec) with
      | some rs => some (r :: rs)
      | none => none
    | none => none
/-- a value of the heap as data, to a depth -/
def viewM (H : Hp) : Nat → M → Option D
  | 0, m => match m with
    | .d x => some x
    | _ => none
  | n + 1, m => match m with
    | .d x => some x
    | .rsl i ver len => bif Nat.beq len 0 then some .slz else
      match H[i]? with
      | some (.row true ec v cs) => bif (Nat.beq v ver && Nat.blt 0 ec) then
          (match viewL (viewM H n) cs with
          | some ds => match chunkD ec len ds with
            | some rows => some (.sl rows)
            | none => none
          | none => none) else none
      | _ => none
    | .agg cs => match viewL (viewM H n) cs with | some ds => some (.agg ds) | none => none
    | .fn f cs => bif Nat.blt f 1024 then (match viewL (viewM H n) cs with | some ds => some (.fn f ds) | none => none) else none
    | _ => none
def viewD (H : Hp) (m : M) : Option D := viewM H 9 m

theorem viewL_spec {f : M → Option D} : ∀ {ms : List M} {ds : List D}, viewL f ms = some ds → ds.length = ms.length ∧ ∀ (i : Nat) m d, ms[i]? = some m → ds[i]? = some d → f m = some d
  | [], ds, h => by simp [viewL] at h; subst h; simp
  | m :: r, ds, h => by
    simp only [viewL] at h
    split at h
    · rename_i d hd
      split at h
      · rename_i ds' hds
        injection h with h; subst h
        obtain ⟨h1, h2⟩ := viewL_spec hds
        refine ⟨by simp [h1], fun i m' d' hm hd' => ?_⟩
        cases i with
        | zero => simp at hm hd'; subst hm; subst hd'; exact hd
        | succ i => simp at hm hd'; exact h2 i m' d' hm hd'
      · cases h
    · cases h

theorem chunkD_eq {ec : Nat} : ∀ {n : Nat} {l : List D} {rows : List (List D)}, chunkD ec n l = some rows → chunk ec n (l.map .d) = some rows
  | 0, l, rows, h => by
    unfold chunkD at h
    cases l with
    | nil => simp at h; subst h; rfl
    | cons => cases h
  | n + 1, l, rows, h => by
    unfold chunkD at h
    split at h
    · rename_i r hr
      split at h
      · rename_i rs hrs
        injection h with h; subst h
        have h1 := chunkD_eq hrs
        obtain ⟨h2, h3⟩ := sub_eq hr
        unfold chunk
        rw [List.map_drop] at h1
        rw [h1]
        have : allD ((l.map M.d).take ec) = some r := by
          rw [← List.map_take]
          simp only [List.drop_zero] at h3
          rw [h3, allD_map]
        rw [this]
      · cases h
    · cases h

theorem RM.viewM {σ : Sg} {Oo : Nat → Nat → Prop} (hi : HInv σ Oo) : ∀ (n : Nat) {m : M} {d : D} {v : Value}, RM σ m v → viewM σ.H n m = some d → Rep σ.O σ.w d v := by
  intro n
  induction n with
  | zero =>
    intro m d v h hv
    unfold Go.Mt.viewM at hv
    cases h with
    | d h => simp at hv; subst hv; exact h
    | _ => cases hv
  | succ n ih =>
    intro m d v h hv
    unfold Go.Mt.viewM at hv
    cases h with
    | d h => simp at hv; subst hv; exact h
    | rsl i ver len ad cap hle hcur =>
      simp only at hv
      cases h0 : Nat.beq len 0 with
      | true =>
        rw [h0] at hv
        simp at hv; subst hv
        have := Nat.eq_of_beq_eq_true h0
        subst this
        exact .slz ad cap
      | false =>
      rw [h0] at hv
      simp only [cond_false] at hv
      have hlen0 : 0 < len := by rcases Nat.eq_zero_or_pos len with h | h; subst h; cases h0; exact h
      split at hv
      · rename_i ec v cs hH'
        cases hb : (Nat.beq v ver && Nat.blt 0 ec) with
        | false => simp [hb] at hv
        | true =>
          simp only [hb, cond_true] at hv
          simp only [Bool.and_eq_true] at hb
          have e0 := Nat.eq_of_beq_eq_true hb.1
          subst e0
          split at hv
          · rename_i ds hds
            split at hv
            · rename_i rows hcd
              injection hv with hv; subst hv
              have hc := chunkD_eq hcd
              obtain ⟨q1, q2⟩ := viewL_spec hds
              obtain ⟨e1, e2, arr, T, e3, e4⟩ := hcur true ec cs hH'
              subst e1
              obtain ⟨hec, arr1, T1, cap1, n1, h3, h4, h5, ⟨h6, hmax⟩, h7⟩ := hi.obj i _ hH'
              rw [e3] at h3; injection h3 with h3; injection h3 with e5 e6; subst e5; subst e6
              have hcap : cap1 = cap := Nat.eq_of_mul_eq_mul_right hec (by rw [← h4, ← e4])
              subst hcap
              have hnl : n1 = len := Nat.eq_of_mul_eq_mul_right hec (by rw [← h6, ← e2])
              subst hnl
              obtain ⟨k1, k2, k3⟩ := chunk_spec hc (by simp [q1, e2])
              have hne : rows ≠ [] := by rintro rfl; simp at k1; omega
              have hnotown : ∀ o, o < cs.length → ¬ σ.O (σ.l i) o := by
                intro o ho hO
                rcases (hi.own _ _).1 hO with h8 | ⟨k, ob, h8, h9, h10⟩
                · exact hi.sep i _ hH' trivial o h8
                · have := hi.inj k i ob _ h8 hH' (Ob.live_of_owns h10) trivial h9
                  subst this
                  rw [hH'] at h8; injection h8 with h8; subst h8
                  simp only [Ob.owns] at h10
                  rcases h10 with h10 | h10
                  · cases h10
                  · omega
              have hbound : ∀ i j, i < rows.length → j < ec → i * ec + j < cs.length := by
                intro i j hi hj
                rw [e2, ← k1]
                calc i * ec + j < i * ec + ec := by omega
                  _ = (i + 1) * ec := by rw [Nat.succ_mul]
                  _ ≤ rows.length * ec := Nat.mul_le_mul_right _ hi
              have hsz : cs.length ≤ arr.size := by rw [e2, e4]; exact Nat.mul_le_mul_right _ h5
              have hds' : ∀ (k : Nat) (d : D), (ds.map M.d)[k]? = some (M.d d) → ∃ m, cs[k]? = some m ∧ Go.Mt.viewM σ.H n m = some d := by
                intro k d hk
                simp only [List.getElem?_map, Option.map_eq_some_iff] at hk
                obtain ⟨d', hk, e⟩ := hk
                injection e with e; subst e
                have hlt : k < cs.length := by rw [← q1]; rcases Nat.lt_or_ge k ds.length with h | h; exact h; simp [List.getElem?_eq_none h] at hk
                exact ⟨cs[k], by simp [hlt], q2 k _ _ (by simp [hlt]) hk⟩
              have hcellsD : ∀ i j, i < rows.length → j < ec → ∃ (r : List D) (d : D), rows[i]? = some r ∧ r[j]? = some d ∧ (ds.map M.d)[i * ec + j]? = some (M.d d) := by
                intro i j hi hj
                have hr : rows[i].length = ec := k2 _ (List.getElem_mem hi)
                have g1 : rows[i]? = some rows[i] := by simp [hi]
                have g2 : rows[i][j]? = some ((rows[i])[j]'(by rw [hr]; exact hj)) := by simp [hr, hj]
                exact ⟨rows[i], _, g1, g2, k3 i j _ _ g1 g2⟩
              have := Rep.sl (O := σ.O) (w := σ.w) rows (σ.l i) 0 cap1 ec (fun i j => arr.getD (i * ec + j) Go.undef) hne (by omega) (by omega) k2 ?_ ?_ ?_
              · rw [k1] at this; exact this
              · intro i' j hi' hj
                rw [Nat.zero_add]
                refine ⟨?_, hnotown _ (hbound i' j hi' hj)⟩
                have := hbound i' j hi' hj
                simp [cellv, World.cell?, e3, show i' * ec + j < arr.size by omega]
              · intro i' j hi' hj
                obtain ⟨r, d, _, _, hcd⟩ := hcellsD i' j hi' hj
                obtain ⟨m, hm, _⟩ := hds' _ _ hcd
                have hlt := hbound i' j hi' hj
                exact (h7 _ _ (arr.getD (i' * ec + j) Go.undef) hm (by simp [show i' * ec + j < arr.size by omega])).2
              · intro i' j r d hr hd
                have hcd := k3 i' j r d hr hd
                obtain ⟨m, hm, hvm⟩ := hds' _ _ hcd
                have hlt : i' * ec + j < cs.length := by rcases Nat.lt_or_ge (i' * ec + j) cs.length with h | h; exact h; simp [List.getElem?_eq_none h] at hm
                have := (h7 _ _ (arr.getD (i' * ec + j) Go.undef) hm (by simp [show i' * ec + j < arr.size by omega])).1
                exact ih this hvm
            · cases hv
          · cases hv
      · cases hv
    | agg cs vs hl hf hh =>
      simp only at hv
      split at hv
      · rename_i ds hds
        injection hv with hv; subst hv
        obtain ⟨q1, q2⟩ := viewL_spec hds
        refine .agg ds vs (by rw [hl, q1]) hf fun i d v hd hv => ?_
        have hlt : i < cs.length := by rw [← q1]; rcases Nat.lt_or_ge i ds.length with h | h; exact h; simp [List.getElem?_eq_none h] at hd
        exact ih (hh i cs[i] v (by simp [hlt]) hv) (q2 i cs[i] d (by simp [hlt]) hd)
      · cases hv
    | fnB f g cs vs hg hl hh =>
      exfalso
      have : Nat.blt g 1024 = false := by rw [← Bool.not_eq_true]; intro e; have := blt_lt e; omega
      simp [this] at hv
    | fn f cs vs hlt hl hh =>
      simp only at hv
      have hb : Nat.blt f 1024 = true := by rw [Nat.blt_eq]; exact hlt
      rw [hb] at hv
      simp only [cond_true] at hv
      split at hv
      · rename_i ds hds
        injection hv with hv; subst hv
        obtain ⟨q1, q2⟩ := viewL_spec hds
        refine .fn f ds vs (by rw [hl, q1]) fun i d v hd hv => ?_
        have hlt : i < cs.length := by rw [← q1]; rcases Nat.lt_or_ge i ds.length with h | h; exact h; simp [List.getElem?_eq_none h] at hd
        exact ih (hh i cs[i] v (by simp [hlt]) hv) (q2 i cs[i] d (by simp [hlt]) hd)
      · cases hv
    | _ => simp at hv

theorem RM.viewD {σ : Sg} {Oo : Nat → Nat → Prop} (hi : HInv σ Oo) {m : M} {d : D} {v : Value} (h : RM σ m v) (hv : viewD σ.H m = some d) : Rep σ.O σ.w d v := h.viewM hi 9 hv

theorem FInv.evdv {X : Ctx} {st : St} {σ : Sg} {lam : Nat → Nat} {a : Act} (h : FInv X σ lam st a) {x : Operand} {m : M} {d : D} (hx : st.ev x = some (.m m)) (hv : viewD st.H m = some d) : Rep σ.O σ.w d (a.eval x) := by
  have h1 := h.ev hx
  cases h1 with
  | m h1 => exact h1.viewD h.hinv (by rw [h.hH]; exact hv)

/-- all rows are read alone from now on -/
def fz : Ob → Ob
  | .row _ ec v cs => .row true ec v cs
  | o => o
theorem fz_get (H : Hp) (i : Nat) : (H.map fz)[i]? = (H[i]?).map fz := by simp
theorem fz_live (ob : Ob) : (fz ob).live ↔ ob.live := by cases ob <;> simp [fz, Ob.live]
theorem fz_owns (ob : Ob) (o : Nat) (h : (fz ob).owns o) : ob.owns o := by
  cases ob with
  | row acc ec v cs => simp only [fz, Ob.owns] at h ⊢; rcases h with h | h; cases h; exact .inr h
  | _ => exact h

theorem HInv.fz {σ : Sg} {Oo : Nat → Nat → Prop} (hi : HInv σ Oo) : ∃ τ : Sg, τ.w = σ.w ∧ τ.H = σ.H.map fz ∧ HInv τ Oo ∧ Mono σ τ := by
  let τ : Sg := ⟨σ.w, fun b o => Oo b o ∨ ∃ (i : Nat) (ob : Ob), (σ.H.map Go.Mt.fz)[i]? = some ob ∧ σ.l i = b ∧ ob.owns o, σ.l, σ.H.map Go.Mt.fz⟩
  have hinvert : ∀ (i : Nat) ob, (σ.H.map Go.Mt.fz)[i]? = some ob → ∃ ob0, σ.H[i]? = some ob0 ∧ ob = Go.Mt.fz ob0 := by
    intro i ob h
    rw [fz_get] at h
    obtain ⟨ob0, h1, h2⟩ := Option.map_eq_some_iff.1 h
    exact ⟨ob0, h1, h2.symm⟩
  have hfw : ∀ (i : Nat) ob, σ.H[i]? = some ob → (σ.H.map Go.Mt.fz)[i]? = some (Go.Mt.fz ob) := by intro i ob h; rw [fz_get, h]; rfl
  have hO : ∀ b o, τ.O b o → σ.O b o := by
    rintro b o (h | ⟨i, ob, h1, h2, h3⟩)
    · exact (hi.own b o).2 (.inl h)
    · obtain ⟨ob0, h4, rfl⟩ := hinvert i ob h1
      exact (hi.own b o).2 (.inr ⟨i, ob0, h4, h2, fz_owns _ _ h3⟩)
  have hm : Mono σ τ := by
    refine ⟨fun b o v h1 h2 => ⟨h1, fun h3 => h2 (hO b o h3)⟩, fun i cs h => ⟨⟨cs, hfw i _ h⟩, rfl⟩, fun i cs h => ⟨⟨cs, hfw i _ h⟩, rfl⟩, fun i cs h => ⟨⟨cs, hfw i _ h⟩, rfl⟩, fun i h => hfw i _ h, ?_, fun i h => ⟨_, hfw i _ h⟩⟩
    intro i acc ec ver cs h
    exact .inr ⟨true, ver, cs, hfw i _ h, Nat.le_refl _, fun _ => ⟨rfl, rfl, fun arr T ha => ⟨arr, ha, rfl⟩⟩⟩
  refine ⟨τ, rfl, rfl, ⟨?_, ?_, fun b o => Iff.rfl, ?_, hi.old⟩, hm⟩
  · intro i ob h
    obtain ⟨ob0, h1, rfl⟩ := hinvert i ob h
    have h2 := (hi.obj i ob0 h1).keep hm (fun x hx => hx)
    cases ob0 with
    | row acc ec v cs => exact h2
    | _ => exact h2
  · intro i j x y h1 h2 h3 h4 h5
    obtain ⟨x0, g1, rfl⟩ := hinvert i x h1
    obtain ⟨y0, g2, rfl⟩ := hinvert j y h2
    exact hi.inj i j x0 y0 g1 g2 ((fz_live _).1 h3) ((fz_live _).1 h4) h5
  · intro i ob h1 h2 o h3
    obtain ⟨ob0, g1, rfl⟩ := hinvert i ob h1
    exact hi.sep i ob0 g1 ((fz_live _).1 h2) o h3

/-- results as data -/
def viewR (H : Hp) : M → Option (List D)
  | .tup ms => match ms with
    | [_] => none
    | _ => viewL (viewD H) ms
  | m => match viewD H m with
    | some d => some [d]
    | none => none

theorem RM.viewR {σ : Sg} {Oo : Nat → Nat → Prop} (hi : HInv σ Oo) {m : M} {ds : List D} {v : Value} (h : RM σ m v) (hv : viewR σ.H m = some ds) : RM σ (tupM (ds.map .d)) v := by
  have one : ∀ m, (match Go.Mt.viewD σ.H m with | some z => some [z] | none => none) = some ds → RM σ m v → RM σ (tupM (ds.map .d)) v := by
    intro m hv h
    split at hv
    · rename_i d hd
      injection hv with hv; subst hv
      exact .d (h.viewD hi hd)
    · cases hv
  cases m with
  | tup ms =>
    cases h with
    | tup cs vs hl hh =>
      unfold Go.Mt.viewR at hv
      simp only at hv
      split at hv
      · cases hv
      · rename_i hne
        obtain ⟨q1, q2⟩ := viewL_spec hv
        have key : RM σ (.tup (ds.map .d)) (.tuple vs) := by
          refine .tup _ _ (by simp [hl, q1]) fun i m' v' hm hv' => ?_
          simp only [List.getElem?_map, Option.map_eq_some_iff] at hm
          obtain ⟨d, hd, rfl⟩ := hm
          have hlt : i < ms.length := by rw [← q1]; rcases Nat.lt_or_ge i ds.length with h | h; exact h; simp [List.getElem?_eq_none h] at hd
          exact .d ((hh i ms[i] v' (by simp [hlt]) hv').viewD hi (q2 i ms[i] d (by simp [hlt]) hd))
        match ds, q1, key with
        | [], _, key => exact key
        | [x], q1, key =>
          exfalso
          match ms, q1, hne with
          | [a], _, hne => exact hne a rfl
        | x :: y :: r, _, key => exact key
  | _ => exact one _ (by exact hv) h

theorem PT.of_view {P : Program} {f : Nat} {ds rs : List D} {m : M} {H1 : Hp} (h : CT P f (ds.map .d) [] fun r H' => r = m ∧ H' = H1) (hv : viewR (H1.map fz) m = some rs) : PT P f ds (· = rs) := by
  intro O w vs hO hvs
  let σ : Sg := ⟨w, O, fun _ => 0, []⟩
  have hinv : HInv σ O := ⟨by simp [σ], by simp [σ], by simp [σ], by simp [σ], hO⟩
  have hms : RMs σ (ds.map .d) vs := by
    refine ⟨by simp [hvs.1], fun i m v h1 h2 => ?_⟩
    simp only [List.getElem?_map, Option.map_eq_some_iff] at h1
    obtain ⟨d, hd, rfl⟩ := h1
    exact .d (hvs.2 i d v hd h2)
  refine (h σ O vs hinv rfl hms).mono ?_
  rintro e w' ⟨v, r, σ', he, hw, ⟨hrm, hH'⟩, hi', hr, hm, hb⟩
  subst hw
  subst hrm
  obtain ⟨τ, t1, t2, t3, t4⟩ := hi'.fz
  have h1 : RM τ (tupM (rs.map .d)) v := (hr.mono t4).viewR t3 (by rw [t2, hH']; exact hv)
  refine ⟨v, rs, he, rfl, ⟨hb.os, hb.output, hb.tape, hb.size, fun b h1 => hb.blk b h1 (by simp [σ])⟩, ?_⟩
  refine h1.mono' ?_
  intro b o v h2 h3
  refine ⟨by rw [← t1]; exact h2, fun h4 => h3 ((t3.own b o).2 (.inl h4))⟩

/-- the cells of a slice that is to be appended, as append takes them -/
def Src (P : Program) (σ : Sg) (n : Nat) (v : Value) (cs : List M) (len : Nat) : Prop :=
  (∀ w' : World, (Builtin.lenOf v).run P w' = .ok len w') ∧ cs.length = len * n ∧ len ≤ 140737488355328 ∧ ∃ vs : Array Value, (∀ w' : World, w'.heap = σ.w.heap → (Builtin.firstCells n len v).run P w' = .ok vs w') ∧ vs.size = len * n ∧
    ∀ (k : Nat) (m : M), cs[k]? = some m → ∃ u, vs[k]? = some u ∧ RM σ m u ∧ flat u = true

def srcO (H : Hp) (n : Nat) : M → Option (List M × Nat)
  | .d (.sl rows) => bif lenAll n rows then some (flatM rows, rows.length) else none
  | .d .slz => some ([], 0)
  | .rsl i ver len => match H[i]? with
    | some (.row _ n' ver' cs) => bif (Nat.beq n n' && Nat.beq ver ver') then some (cs, len) else none
    | _ => none
  | _ => none

theorem src_of {P : Program} {σ : Sg} {Oo : Nat → Nat → Prop} (hi : HInv σ Oo) {n : Nat} (hn : 0 < n) {m : M} {v : Value} {cs : List M} {len : Nat} (h : RM σ m v) (hs : srcO σ.H n m = some (cs, len)) : Src P σ n v cs len := by
  unfold srcO at hs
  split at hs
  · rename_i rows
    cases hl : lenAll n rows with
    | false => simp [hl] at hs
    | true =>
      simp only [hl, cond_true] at hs
      injection hs with hs; injection hs with e1 e2
      subst e1; subst e2
      have hl' := lenAll_eq hl
      cases h with
      | d h =>
        obtain ⟨vs, v1, v2, v3, v4⟩ := h.firstCells (P := P) hn hl'
        have hmax : rows.length ≤ 140737488355328 := by
          cases h with
          | slnil a => simp
          | sl rows b o cap ec val h0 hcap hmax hec hcell hflat hrep => exact hmax
        refine ⟨v1, flatM_length hl', hmax, vs, v2, v3, fun k m hm => ?_⟩
        obtain ⟨i, j, r, d, rfl, e2, e3, rfl⟩ := flatM_get hn hl' hm
        obtain ⟨u, u1, u2, u3⟩ := v4 i j r d e2 e3
        exact ⟨u, u1, .d u2, u3⟩
  · injection hs with hs; injection hs with e1 e2
    subst e1; subst e2
    cases h with
    | d h => cases h with
      | slz a cap =>
        cases a with
        | none => exact ⟨fun _ => by simp [Builtin.lenOf], by simp, by simp, #[], fun _ _ => by simp [Builtin.firstCells], by simp, by simp⟩
        | some a => exact ⟨fun _ => by simp [Builtin.lenOf], by simp, by simp, #[], fun _ _ => by simp [Builtin.firstCells, loadCells, loadCellsFrom], by simp, by simp⟩
  · rename_i i ver len'
    split at hs
    · rename_i acc n' ver' cs' hH
      cases hb : (Nat.beq n n' && Nat.beq ver ver') with
      | false => simp [hb] at hs
      | true =>
        simp only [hb, cond_true] at hs
        injection hs with hs; injection hs with e1 e2
        subst e1; subst e2
        simp only [Bool.and_eq_true] at hb
        have e3 := Nat.eq_of_beq_eq_true hb.1
        have e4 := Nat.eq_of_beq_eq_true hb.2
        subst e3; subst e4
        cases h with
        | rsl i ver len ad cap hle hcur =>
          obtain ⟨e1, e2, arr1, T1, e3, e4⟩ := hcur acc n cs' hH
          subst e1
          obtain ⟨hn', arr, TT, cap0, nn, h3, h4, h5, ⟨h6, hmax0⟩, h7⟩ := hi.obj i _ hH
          have hnl : nn = len' := Nat.eq_of_mul_eq_mul_right hn' (by rw [← h6, ← e2])
          subst hnl
          have hle0 : nn * n ≤ arr.size := by rw [h4]; exact Nat.mul_le_mul_right _ h5
          refine ⟨fun _ => by simp [Builtin.lenOf], e2, hmax0, arr.extract 0 (nn * n), fun w' hw' => ?_, by simp; omega, fun k m hm => ?_⟩
          · simp only [Builtin.firstCells]
            exact loadRow_run (w := w') (by rw [hw']; exact h3) hle0
          · have hk : k < cs'.length := by rcases Nat.lt_or_ge k cs'.length with h | h; exact h; simp [List.getElem?_eq_none h] at hm
            have hka : k < arr.size := by omega
            refine ⟨arr[k], ?_, h7 k m arr[k] hm (by simp [hka])⟩
            rw [Array.getElem?_extract, if_pos (by omega)]
            simp [hka]
    · cases hs
  · cases hs

theorem FInv.src {X : Ctx} {st : St} {σ : Sg} {lam : Nat → Nat} {a : Act} (h : FInv X σ lam st a) {x : Operand} {m : M} {n : Nat} (hn : 0 < n) {cs : List M} {len : Nat} (hx : st.ev x = some (.m m)) (hv : srcO st.H n m = some (cs, len)) : Src X.P σ n (a.eval x) cs len := by
  have h1 := h.ev hx
  cases h1 with
  | m h1 => exact src_of h.hinv hn h1 (by rw [h.hH]; exact hv)

section ops
variable {X : Ctx} {st : St} {dst : Option Nat} {ty : Nat} {pos : String} {af : Array Edge} {g : Option (Nat × Bool)} {pn : Nat} {H' : Hp}
theorem op_append0S {T e n nb : Nat} {x y : Operand} {cs2 : List M} {k2 : Nat} {z : D} (acc : Bool) [ht : TySlice X.P T e] [hs : TySz X.P e n] [hb : TyB X.P e nb] [hz : TyZ X.P e z] (hn : Nat.blt 0 n = true) (hzl : (dcells z).length = n)
    (hx : st.ev x = some (.m (.d (.sl [])))) {my : M} (hy : st.ev y = some (.m my)) (hv : srcO st.H n my = some (cs2, k2)) (hr : 0 < k2) (hroom : k2 * nb ≤ 140737488355328) (hp : Place st.H (.row acc n 0 cs2) pn H') :
    OpT X ⟨dst, .call ⟨.builtin .append, #[x, y], #[T, T]⟩, ty, pos, af, g⟩ st (eqp (.m (.rsl pn 0 k2)) ⟨st.sl, st.bx, H'⟩) := by
  intro a σ lam hi
  have hn' := blt_lt hn
  have h1 := hi.evd hx
  obtain ⟨inf, i1, i2, i3⟩ := bytes_run hs.size hb.bytes
  obtain ⟨zv, hz1, hz2⟩ := (tyZero_of hz.zero).run
  have hzc : zv.cells.size = n := by have := (dOfVal_rep (O := σ.O) (w := σ.w) hz2).cells.1; omega
  obtain ⟨v1, hfl, hrmax, vs, v2, v3, v4⟩ := hi.src hn' hy hv
  have hlen := hr
  generalize hu : a.eval x = u at h1
  generalize hw : a.eval y = wv at v1 v2
  cases h1 with
  | slnil ad =>
    let cap := k2 + σ.w.tape σ.w.drawn (.appendCap k2 0 e) % (2 ^ 63 - k2)
    let arr := vs ++ Builtin.zeroCells zv.cells (cap - k2)
    have hcap : k2 ≤ cap := Nat.le_add_right _ _
    have harr : arr.size = cap * n := by
      simp only [arr, Array.size_append, zeroCells_size, v3, hzc]
      rw [← Nat.add_mul]; congr 1; omega
    have hd : FInv X { σ with w := σ.w.drew } lam st a := hi.ext (ExtW.drew _)
    have hmd : Mono σ { σ with w := σ.w.drew } := Mono.ext (ExtW.drew _)
    obtain ⟨τ, g1, g2, g3, g4, g5⟩ := hd.place hp (.cells arr e (0, 0)) (by
      intro τ hm hw
      refine ⟨hn', arr, e, cap, k2, by rw [hw]; exact push_self _ _, harr, hcap, ⟨hfl, hrmax⟩, ?_⟩
      intro k m v hm' hv
      obtain ⟨u, u1, u2, u3⟩ := v4 k m hm'
      have hlt : k < vs.size := by rcases Nat.lt_or_ge k vs.size with h | h; exact h; simp [Array.getElem?_eq_none h] at u1
      have : arr[k]? = some u := by simp only [arr]; rw [Array.getElem?_append_left hlt]; exact u1
      rw [this] at hv; injection hv with hv; subst hv
      exact ⟨(u2.mono hmd).mono hm, u3⟩)
    refine OpRun.value (u := .slice (some ⟨σ.w.heap.size, 0, none⟩) k2 cap) (w' := τ.w) ?_ ⟨_, _, τ, lam, ⟨rfl, rfl⟩, rfl, g5, ?_⟩
    · have c1 : ¬ k2 ≤ 0 := by omega
      have c2 : ¬ (((k2 : Nat) : Int) > IntKind.i64.max ∧ nb = 0) := by
        rintro ⟨h1, h2⟩
        have : ((k2 : Nat) : Int) ≤ 140737488355328 := by omega
        have h3 : IntKind.i64.max = 9223372036854775807 := by decide
        omega
      have c3 : ¬ (Builtin.nextslicecap k2 0 * nb > 2 ^ 48) := by
        have h1 := nextcap_le (need := k2) (cap := 0) (by omega)
        have := Nat.mul_le_mul_right nb h1
        rw [Nat.mul_assoc] at this
        omega
      have hold : (Builtin.firstCells n 0 (.slice ad 0 0)).run X.P σ.w.drew = .ok #[] σ.w.drew := by
        cases ad <;> simp [Builtin.firstCells, loadCells, loadCellsFrom]
      have hti : ∀ w : World, (typeInfo e).run X.P w = .ok inf w := fun w => by simp [typeInfo, program, Sem.run, i1]
      have hund : ∀ w : World, (underlying T).run X.P w = .ok (.slice e) w := fun w => by simp [underlying, program, Sem.run, ht.u]
      simp only [execOp, resolve, invoke, builtin, Builtin.append_]
      simp only [Sem.run_bind, Sem.run_pure, Result.andThen_ok, List.map_toArray, List.map_cons, List.map_nil, hu, hw]
      simp [hund, hti, size_run hs.size]
      have hcut : (Question.appendCap k2 0 e).cut (σ.w.tape σ.w.drawn (Question.appendCap k2 0 e)) = cap := rfl
      have hforced : (Question.appendCap k2 0 e).forced = false := rfl
      have hv2 := v2 σ.w.drew rfl
      have c1' : ¬ k2 = 0 := by omega
      have c2' : ¬ (9223372036854775807 < ((k2 : Nat) : Int) ∧ inf.bytes = 0) := by
        rintro ⟨h1, h2⟩
        have h3 : IntKind.i64.max = 9223372036854775807 := by decide
        exact c2 ⟨by omega, by omega⟩
      have c3' : ¬ (281474976710656 < Builtin.nextslicecap k2 0 * inf.bytes) := by rw [i3]; omega
      simp only [v1, c1', c2', c3', hforced, Result.andThen_ok, if_false, Bool.false_eq_true]
      rw [hold]
      simp only [Result.andThen_ok]
      rw [hv2]
      simp only [Result.andThen_ok, hz1, hcut]
      simp [newRow, newObj, Sem.run, g1, arr]
    · have g2' := g2
      refine .m (.rsl _ 0 k2 _ cap (.inr ⟨acc, n, 0, cs2, g3, Nat.le_refl _⟩) ?_)
      intro acc' ec' cs' hh
      rw [g3] at hh
      simp at hh
      obtain ⟨e1, e2, e3⟩ := hh
      subst e1; subst e2; subst e3
      exact ⟨by rw [g2']; rfl, hfl, arr, e, by rw [g2', g1]; exact push_self _ _, harr⟩
  | sl rows b o cap ec val h0 hcap hmax hec hcell hflat hrep => exact absurd rfl h0


theorem op_append00S {T e n : Nat} {x y : Operand} {cs2 : List M} {my : M} [ht : TySlice X.P T e] [hs : TySz X.P e n] (hn : Nat.blt 0 n = true)
    (hx : st.ev x = some (.m (.d (.sl [])))) (hy : st.ev y = some (.m my)) (hv : srcO st.H n my = some (cs2, 0)) :
    OpT X ⟨dst, .call ⟨.builtin .append, #[x, y], #[T, T]⟩, ty, pos, af, g⟩ st (eqp (.m (.d (.sl []))) st) := by
  refine OpT.quiet fun a σ lam hi => ?_
  have hn' := blt_lt hn
  have h1 := hi.evd hx
  obtain ⟨v1, hfl, hrmax, vs, v2, v3, v4⟩ := hi.src hn' hy hv
  have hund : ∀ w : World, (underlying T).run X.P w = .ok (.slice e) w := fun w => by simp [underlying, program, Sem.run, ht.u]
  generalize hu : a.eval x = u at h1
  generalize hw : a.eval y = wv at v1 v2
  have hvs : vs = #[] := by
    have : vs.size = 0 := by rw [v3]; simp
    exact Array.eq_empty_of_size_eq_zero this
  subst hvs
  cases h1 with
  | slnil ad =>
    refine ⟨.slice ad 0 0, ?_, .m (.d (.slnil ad))⟩
    simp only [execOp, resolve, invoke, builtin, Builtin.append_]
    simp only [Sem.run_bind, Sem.run_pure, Result.andThen_ok, List.map_toArray, List.map_cons, List.map_nil, hu, hw]
    cases ad <;> simp [hund, size_run hs.size, v1, v2 σ.w rfl, storeCells]
  | sl rows b o cap ec val h0 hcap hmax hec hcell hflat hrep => exact absurd rfl h0

theorem op_appendZP {T U e n nb len : Nat} {x y : Operand} {k : IntKind} {z : D} [ht : TySlice X.P T e] [hu : TyInt X.P U k] [hs : TySz X.P e n] [hb : TyB X.P e nb] [hz : TyZ X.P e z] (hn : Nat.blt 0 n = true) (hzl : (dcells z).length = n)
    (hx : st.ev x = some (.m (.d (.sl [])))) (hy : st.ev y = some (.m (.d (.int k len)))) (hl : 0 < len) (hroom : len * nb ≤ 140737488355328) (hmax : len ≤ 140737488355328) (hp : Place st.H (.row false n 0 (List.replicate (len * n) .undef)) pn H') :
    OpT X ⟨dst, .call ⟨.builtin .append, #[x, y], #[T, U]⟩, ty, pos, af, g⟩ st (eqp (.m (.rsl pn 0 len)) ⟨st.sl, st.bx, H'⟩) := by
  intro a σ lam hi
  have hn' := blt_lt hn
  have h1 := hi.evd hx
  have h2 := hi.evint hy
  obtain ⟨inf, i1, i2, i3⟩ := bytes_run hs.size hb.bytes
  obtain ⟨zv, hz1, hz2⟩ := (tyZero_of hz.zero).run
  have hvc : RMc σ ((dcells z).map .d) zv.cells := (RM.d (dOfVal_rep hz2) : RM σ (.d z) zv).cells rfl
  have hzc : zv.cells.size = n := by rw [hvc.1]; simpa using hzl
  have hzf : ∀ (i : Nat) (v : Value), zv.cells[i]? = some v → flat v = true := by
    intro i v hv
    have hi' : i < zv.cells.size := by rcases Nat.lt_or_ge i zv.cells.size with h | h; exact h; simp [Array.getElem?_eq_none h] at hv
    have hd : i < (dcells z).length := by omega
    exact (hvc.2 i (.d (dcells z)[i]) v (by simp [hd]) hv).2
  generalize hu' : a.eval x = u at h1
  cases h1 with
  | sl rows b o cap ec val h0 hcap hmax hec hcell hflat hrep => exact absurd rfl h0
  | slnil ad =>
    let cap := len + σ.w.tape σ.w.drawn (.appendCap len 0 e) % (2 ^ 63 - len)
    let arr := Builtin.zeroCells zv.cells len ++ Builtin.zeroCells zv.cells (cap - len)
    have hcap : len ≤ cap := Nat.le_add_right _ _
    have harr : arr.size = cap * n := by
      simp only [arr, Array.size_append, zeroCells_size, hzc]
      rw [← Nat.add_mul]; congr 1; omega
    have hd : FInv X { σ with w := σ.w.drew } lam st a := hi.ext (ExtW.drew _)
    have hmd : Mono σ { σ with w := σ.w.drew } := Mono.ext (ExtW.drew _)
    have hrl : (List.replicate (len * n) M.undef).length = len * n := by simp
    obtain ⟨τ, g1, g2, g3, g4, g5⟩ := hd.place hp (.cells arr e (0, 0)) (by
      intro τ hm hw
      refine ⟨hn', arr, e, cap, len, by rw [hw]; exact push_self _ _, harr, hcap, ⟨hrl, hmax⟩, ?_⟩
      intro k m v hm' hv
      have hm2 : m = .undef := by
        rw [List.getElem?_replicate] at hm'
        split at hm'
        · injection hm' with h; exact h.symm
        · cases hm'
      subst hm2
      refine ⟨.undef _, ?_⟩
      simp only [arr, Array.getElem?_append] at hv
      split at hv
      · exact zc_flat (by omega) hzf _ _ hv
      · exact zc_flat (by omega) hzf _ _ hv)
    refine OpRun.value (u := .slice (some ⟨σ.w.heap.size, 0, none⟩) len cap) (w' := τ.w) ?_ ⟨_, _, τ, lam, ⟨rfl, rfl⟩, rfl, g5, ?_⟩
    · have hti : ∀ w : World, (typeInfo e).run X.P w = .ok inf w := fun w => by simp [typeInfo, program, Sem.run, i1]
      have hund : ∀ w : World, (underlying T).run X.P w = .ok (.slice e) w := fun w => by simp [underlying, program, Sem.run, ht.u]
      have hund2 : ∀ w : World, (underlying U).run X.P w = .ok (.int k) w := fun w => by simp [underlying, program, Sem.run, hu.u]
      have hwrap : IntKind.i64.wrap (len : Int) = len := IntWalk.i64_in _ ⟨by omega, by omega⟩
      have hbig : ¬ ((len : Int) * (inf.bytes : Int) > 2 ^ 48) := by
        rw [i3]
        have : ((len * nb : Nat) : Int) ≤ 140737488355328 := by omega
        rw [Int.natCast_mul] at this
        omega
      have hbig' : ¬ (281474976710656 < (len : Int) * (inf.bytes : Int)) := by omega
      have hnneg : ¬ ((len : Int) < 0) := by omega
      have c1 : ¬ len = 0 := by omega
      have c2 : ¬ (9223372036854775807 < ((len : Nat) : Int)) := by omega
      have c3 : ¬ (281474976710656 < Builtin.nextslicecap len 0 * inf.bytes) := by
        rw [i3]
        have h1 := nextcap_le (need := len) (cap := 0) (by omega)
        have := Nat.mul_le_mul_right nb h1
        rw [Nat.mul_assoc] at this
        omega
      have c4 : ¬ len * n = 0 := by
        intro h
        rcases Nat.mul_eq_zero.1 h with h | h <;> omega
      have hold : (Builtin.firstCells n 0 (.slice ad 0 0)).run X.P σ.w.drew = .ok #[] σ.w.drew := by
        cases ad <;> simp [Builtin.firstCells, loadCells, loadCellsFrom]
      have hcut : (Question.appendCap len 0 e).cut (σ.w.tape σ.w.drawn (Question.appendCap len 0 e)) = cap := rfl
      have hforced : (Question.appendCap len 0 e).forced = false := rfl
      simp only [execOp, resolve, invoke, builtin, Builtin.append_]
      simp only [Sem.run_bind, Sem.run_pure, Result.andThen_ok, List.map_toArray, List.map_cons, List.map_nil, hu', h2]
      simp [hund, hund2, hti, size_run hs.size, asInt, asIntOf, hwrap, hbig', hnneg, c1, c2, c3, c4]
      simp only [hforced, if_false, Bool.false_eq_true]
      rw [hold]
      simp only [Result.andThen_ok, hz1, hcut]
      simp [newRow, newObj, Sem.run, g1, arr]
    · have g2' := g2
      refine .m (.rsl _ 0 len _ cap (.inr ⟨false, n, 0, List.replicate (len * n) .undef, g3, Nat.le_refl _⟩) ?_)
      intro acc' ec' cs' hh
      rw [g3] at hh
      simp at hh
      obtain ⟨e1, e2, e3⟩ := hh
      subst e1; subst e2; subst e3
      exact ⟨by rw [g2']; rfl, hrl, arr, e, by rw [g2', g1]; exact push_self _ _, harr⟩
theorem op_makeSliceP {T e n nb len : Nat} {x y : Operand} {k1 k2 : IntKind} {z : D} [ht : TySlice X.P T e] [hs : TySz X.P e n] [hb : TyB X.P e nb] [hz : TyZ X.P e z] (hn : Nat.blt 0 n = true) (hzl : (dcells z).length = n)
    (hx : st.ev x = some (.m (.d (.int k1 len)))) (hy : st.ev y = some (.m (.d (.int k2 len)))) (hroom : len * nb ≤ 140737488355328) (hmax : len ≤ 140737488355328) (hp : Place st.H (.row false n 0 (zlist n len (dcells z))) pn H') :
    OpT X ⟨dst, .makeSlice T x y, ty, pos, af, g⟩ st (eqp (.m (.rsl pn 0 len)) ⟨st.sl, st.bx, H'⟩) := by
  intro a σ lam hi
  have hn' := blt_lt hn
  have h1 := hi.evint hx
  have h2 := hi.evint hy
  obtain ⟨inf, i1, i2, i3⟩ := bytes_run hs.size hb.bytes
  obtain ⟨v, hz1, hz2⟩ := (tyZero_of hz.zero).run
  have hvc : RMc σ ((dcells z).map .d) v.cells := (RM.d (dOfVal_rep hz2) : RM σ (.d z) v).cells rfl
  have hvs : v.cells.size = n := by rw [hvc.1]; simpa using hzl
  have hc : RMc σ (zlist n len (dcells z)) ((Array.range (len * n)).map fun i => v.cells[i % v.cells.size]!) := by
    refine ⟨by simp [zlist], fun i m u hm hu => ?_⟩
    have hi' : i < len * n := by
      rcases Nat.lt_or_ge i (len * n) with h | h
      · exact h
      · rw [Array.getElem?_eq_none (by simpa using h)] at hu; cases hu
    have hmod : i % n < n := Nat.mod_lt _ hn'
    have hmd : i % n < (dcells z).length := by omega
    simp [zlist, hi', hzl] at hm
    simp [hi', hvs] at hu
    have hlt : i % n < v.cells.size := by omega
    subst hm; subst hu
    refine hvc.2 (i % n) _ _ ?_ ?_
    · simp [List.getElem?_eq_getElem hmd]
    · simp [hlt]
  obtain ⟨τ, g1, g2, g3, g4, g5⟩ := hi.place hp (.cells ((Array.range (len * n)).map fun i => v.cells[i % v.cells.size]!) e (0, 0)) (by
    intro τ hm hw
    refine ⟨hn', _, e, len, len, by rw [hw]; exact push_self _ _, by simp, Nat.le_refl _, ⟨by simp [zlist], hmax⟩, ?_⟩
    intro k m u hm' hu
    exact ⟨(hc.2 k m u hm' hu).1.mono hm, (hc.2 k m u hm' hu).2⟩)
  refine OpRun.value (u := .slice (some ⟨σ.w.heap.size, 0, none⟩) len len) (w' := τ.w) ?_ ⟨_, _, τ, lam, ⟨rfl, rfl⟩, rfl, g5, ?_⟩
  · have hti : ∀ w : World, (typeInfo e).run X.P w = .ok inf w := fun w => by simp [typeInfo, program, Sem.run, i1]
    have hund : ∀ w : World, (underlying T).run X.P w = .ok (.slice e) w := fun w => by simp [underlying, program, Sem.run, ht.u]
    have hwrap : IntKind.i64.wrap (len : Int) = len := IntWalk.i64_in _ ⟨by omega, by omega⟩
    have hbig : ¬ ((inf.bytes : Int) * (len : Int) > 2 ^ 48) := by
      rw [i3]
      have : ((len * nb : Nat) : Int) ≤ 140737488355328 := by omega
      rw [Int.natCast_mul, Int.mul_comm] at this
      omega
    have hnneg : ¬ ((len : Int) < 0) := by omega
    have hroom' : ¬ (len * inf.bytes > roomBytes) := by rw [i3]; unfold roomBytes; omega
    by_cases h0 : len * n = 0
    · have hl0 : len = 0 := by
        rcases Nat.mul_eq_zero.1 h0 with h | h
        · exact h
        · omega
      subst hl0
      have e0 : Array.range 0 = (#[] : Array Nat) := by decide
      have w0 : IntKind.i64.wrap 0 = 0 := by decide
      simp only [execOp, Instr.makeSlice, h1, h2, asInt, asIntOf]
      simp [hund, hti, w0, size_run hs.size, askRoom, roomBytes, newRow, newObj, Sem.run, g1, e0]
    · simp only [execOp, Instr.makeSlice, h1, h2, asInt, asIntOf]
      simp [hund, hti, hwrap, size_run hs.size, askRoom, newRow, newObj, Sem.run, g1, hbig, hnneg, hroom', h0, hz1]
      first | done | omega | (split <;> first | rfl | omega)
  · have g2' := g2
    refine .m (.rsl _ 0 len _ len (.inr ⟨false, n, 0, zlist n len (dcells z), g3, Nat.le_refl _⟩) ?_)
    intro acc' ec' cs' hh
    rw [g3] at hh
    simp at hh
    obtain ⟨e1, e2, e3⟩ := hh
    subst e1; subst e2; subst e3
    exact ⟨by rw [g2'], by simp [zlist], _, e, by rw [g2', g1]; exact push_self _ _, by simp⟩
/-- append to a row of the heap -/
theorem op_appendRS {T e n nb : Nat} {x y : Operand} {cs2 : List M} {k2 : Nat} {z : D} {j ver len : Nat} {acc : Bool} {cs : List M} [ht : TySlice X.P T e] [hs : TySz X.P e n] [hb : TyB X.P e nb] [hz : TyZ X.P e z] (hzl : (dcells z).length = n)
    (hx : st.ev x = some (.m (.rsl j ver len))) {my : M} (hy : st.ev y = some (.m my)) (hv : srcO st.H n my = some (cs2, k2)) (hH : st.H[j]? = some (.row acc n ver cs)) (hroom : (len + k2) * nb ≤ 140737488355328) (hmax : len + k2 ≤ 140737488355328) :
    OpT X ⟨dst, .call ⟨.builtin .append, #[x, y], #[T, T]⟩, ty, pos, af, g⟩ st (eqp (.m (.rsl j (ver + 1) (len + k2))) ⟨st.sl, st.bx, st.H.set j (.row acc n (ver + 1) (cs ++ cs2))⟩) := by
  intro a σ lam hi
  have h1 := hi.ev hx
  have hH' : σ.H[j]? = some (.row acc n ver cs) := by rw [hi.hH]; exact hH
  obtain ⟨inf, i1, i2, i3⟩ := bytes_run hs.size hb.bytes
  obtain ⟨zv, hz1, hz2⟩ := (tyZero_of hz.zero).run
  have hzc : zv.cells.size = n := by have := (dOfVal_rep (O := σ.O) (w := σ.w) hz2).cells.1; omega
  obtain ⟨hn', arr, TT, cap0, nn, h3, h4, h5, ⟨h6, hmax0⟩, h7⟩ := hi.hinv.obj j _ hH'
  obtain ⟨v1, hfl, hrmax, vs, v2, v3, v4⟩ := hi.src hn' hy hv
  generalize hu : a.eval x = u at h1
  generalize hw : a.eval y = wv at v1 v2
  have hti : ∀ w : World, (typeInfo e).run X.P w = .ok inf w := fun w => by simp [typeInfo, program, Sem.run, i1]
  have hund : ∀ w : World, (underlying T).run X.P w = .ok (.slice e) w := fun w => by simp [underlying, program, Sem.run, ht.u]
  cases h1 with
  | m h1 => cases h1 with
    | rsl j ver len ad cap hle hcur =>
      obtain ⟨e1, e2, arr1, T1, e3, e4⟩ := hcur acc n cs hH'
      subst e1
      rw [h3] at e3
      injection e3 with e3; injection e3 with e5 e6
      subst e5; subst e6
      have hcap : cap0 = cap := Nat.eq_of_mul_eq_mul_right hn' (by rw [← h4, ← e4])
      subst hcap
      have hnl : nn = len := Nat.eq_of_mul_eq_mul_right hn' (by rw [← h6, ← e2])
      subst hnl
      have hcs' : (cs ++ cs2).length = (nn + k2) * n := by rw [List.length_append, e2, hfl, Nat.add_mul]
      have newcell : ∀ (k : Nat) (m : M), (cs ++ cs2)[k]? = some m → (k < cs.length ∧ cs[k]? = some m) ∨ (cs.length ≤ k ∧ ∃ u, vs[k - cs.length]? = some u ∧ RM σ m u ∧ flat u = true) := by
        intro k m hm
        rcases Nat.lt_or_ge k cs.length with hk | hk
        · rw [List.getElem?_append_left hk] at hm; exact .inl ⟨hk, hm⟩
        · rw [List.getElem?_append_right hk] at hm
          obtain ⟨u, u1, u2, u3⟩ := v4 _ m hm
          exact .inr ⟨hk, u, u1, u2, u3⟩
      have hvfl : ∀ v ∈ vs.toList, flat v = true := by
        intro v hv
        obtain ⟨k, hk⟩ := List.mem_iff_getElem?.1 hv
        have hkl : k < vs.size := by rcases Nat.lt_or_ge k vs.size with h | h; exact h; simp [Array.getElem?_eq_none h] at hk
        have hk2 : k < cs2.length := by omega
        obtain ⟨u, u1, u2, u3⟩ := v4 k cs2[k] (by simp [hk2])
        have : vs[k]? = some v := by simpa using hk
        rw [u1] at this; injection this with this; subst this; exact u3
      by_cases hroomcap : nn + k2 ≤ cap0
      · -- in place
        have hfit : nn * n + vs.toList.length ≤ arr.size := by
          rw [h4]; simp [v3]; rw [← Nat.add_mul]; exact Nat.mul_le_mul_right _ hroomcap
        have hst := storeCells_run (P := X.P) (off := nn * n) vs.toList 0 σ.w arr h3 (by simpa using hfit) hvfl
        simp only [Nat.add_zero] at hst
        have hlt := lt_of_heap h3
        have hget : ∀ k, (arrWrite arr (nn * n) vs.toList)[k]? = if nn * n ≤ k ∧ k < nn * n + vs.toList.length then vs.toList[k - nn * n]? else arr[k]? := fun k => arrWrite_get _ _ _ _ hfit
        obtain ⟨τ, g1, g2, g3, g4, g5⟩ := hi.updObj (j := j) (b' := σ.l j) (ob := .row acc n ver cs) (ob' := .row acc n (ver + 1) (cs ++ cs2)) (w' := setBlk σ.w (σ.l j) (.cells (arrWrite arr (nn * n) vs.toList) TT (0, 0))) hH trivial rfl rfl rfl (by rw [setBlk_size]; exact Nat.le_refl _)
          (fun c _ hc => setBlk_ne hc) (.inl rfl) (by
            intro o v ho hc
            have ho1 : acc = true ∧ o < cs.length := by
              simp only [Ob.owns, not_or, Nat.not_le] at ho
              refine ⟨?_, ho.2⟩
              cases acc
              · exact absurd rfl ho.1
              · rfl
            refine ⟨?_, fun _ hh => ?_⟩
            · simp only [cellv, World.cell?, setBlk_get hlt]
              simp only [cellv, World.cell?, h3] at hc
              simp at hc ⊢
              rw [hget, if_neg (by omega)]
              exact hc
            · simp only [Ob.owns] at hh
              rcases hh with hh | hh
              · rw [ho1.1] at hh; cases hh
              · rw [hcs', Nat.add_mul] at hh; omega) ⟨rfl, .inl (by omega)⟩ (by
            intro τ hm hw' _ _
            refine ⟨hn', _, TT, cap0, nn + k2, by rw [hw']; exact setBlk_get hlt, by rw [arrWrite_size]; exact h4, hroomcap, ⟨hcs', hmax⟩, ?_⟩
            intro k m v hm' hv
            rw [hget] at hv
            rcases newcell k m hm' with ⟨hk, hc⟩ | ⟨hk, u, u1, u2, u3⟩
            · rw [if_neg (by omega)] at hv
              exact ⟨(h7 k m v hc hv).1.mono hm, (h7 k m v hc hv).2⟩
            · have hkl : k - cs.length < vs.size := by rcases Nat.lt_or_ge (k - cs.length) vs.size with h | h; exact h; simp [Array.getElem?_eq_none h] at u1
              rw [if_pos (by simp; omega)] at hv
              have : vs.toList[k - nn * n]? = some u := by rw [← e2]; simpa using u1
              rw [this] at hv; injection hv with hv; subst hv
              exact ⟨u2.mono hm, u3⟩)
        refine OpRun.value (u := .slice (some ⟨σ.l j, 0, none⟩) (nn + k2) cap0) (w' := τ.w) ?_ ⟨_, _, τ, lam, ⟨rfl, rfl⟩, rfl, g5, ?_⟩
        · simp only [execOp, resolve, invoke, builtin, Builtin.append_]
          simp only [Sem.run_bind, Sem.run_pure, Result.andThen_ok, List.map_toArray, List.map_cons, List.map_nil, hu, hw]
          simp [hund, hti, size_run hs.size, v1, hroomcap, v2 σ.w rfl, addr_add, hst, g1]
        · refine .m (.rsl j (ver + 1) (nn + k2) _ cap0 (.inr ⟨acc, n, ver + 1, cs ++ cs2, by rw [g3]; exact set_get hH, Nat.le_refl _⟩) ?_)
          intro acc' ec' cs3 hh
          rw [g3] at hh
          have hjl : j < st.H.length := by rcases Nat.lt_or_ge j st.H.length with h | h; exact h; simp [List.getElem?_eq_none h] at hH
          simp [hjl] at hh
          obtain ⟨f1, f2, f3⟩ := hh
          subst f1; subst f2; subst f3
          exact ⟨by rw [g2], hcs', _, TT, by rw [g2, g1]; exact setBlk_get hlt, by rw [arrWrite_size]; exact h4⟩
      · -- a new block
        let need := nn + k2
        let cap := need + σ.w.tape σ.w.drawn (.appendCap need cap0 e) % (2 ^ 63 - need)
        let arr2 := arr.extract 0 (nn * n) ++ vs ++ Builtin.zeroCells zv.cells (cap - need)
        have hcapn : need ≤ cap := Nat.le_add_right _ _
        have hle0 : nn * n ≤ arr.size := by rw [h4]; exact Nat.mul_le_mul_right _ h5
        have hexs : (arr.extract 0 (nn * n)).size = nn * n := by simp; omega
        have harr2 : arr2.size = cap * n := by
          simp only [arr2, Array.size_append, zeroCells_size, v3, hzc, hexs]
          rw [← Nat.add_mul, ← Nat.add_mul]; congr 1; omega
        have hd : FInv X { σ with w := σ.w.drew } lam st a := hi.ext (ExtW.drew _)
        have hmd : Mono σ { σ with w := σ.w.drew } := Mono.ext (ExtW.drew _)
        let w' : World := { σ.w.drew with heap := σ.w.drew.heap.push (.cells arr2 e (0, 0)) }
        have hext : ExtW σ.w.drew w' := ExtW.alloc _ _
        have hg2 : ∀ k, k < cs.length → arr2[k]? = arr[k]? := by
          intro k hk
          simp only [arr2]
          rw [Array.append_assoc, Array.getElem?_append_left (by omega), Array.getElem?_extract, if_pos (by omega)]; simp
        have hg3 : ∀ k, cs.length ≤ k → k - cs.length < vs.size → arr2[k]? = vs[k - cs.length]? := by
          intro k hk hk2
          simp only [arr2]
          rw [Array.append_assoc, Array.getElem?_append_right (by omega), Array.getElem?_append_left (by omega), hexs, e2]
        obtain ⟨τ, g1, g2, g3, g4, g5⟩ := hd.updObj (j := j) (b' := σ.w.heap.size) (ob := .row acc n ver cs) (ob' := .row acc n (ver + 1) (cs ++ cs2)) (w' := w') hH trivial rfl rfl rfl hext.size
          (fun c hc _ => hext.blk c hc) (.inr (Nat.le_refl _)) (by
            intro o v ho hc
            exact ⟨hext.cell hc, fun hh => by have := lt_of_heap h3; exact absurd hh (by show ¬ σ.w.heap.size = σ.l j; omega)⟩) ⟨rfl, .inl (by omega)⟩ (by
            intro τ hm hw2 _ _
            refine ⟨hn', arr2, e, cap, need, by rw [hw2]; exact push_self _ _, harr2, hcapn, ⟨hcs', hmax⟩, ?_⟩
            intro k m v hm' hv
            rcases newcell k m hm' with ⟨hk, hc⟩ | ⟨hk, u, u1, u2, u3⟩
            · rw [hg2 k hk] at hv
              exact ⟨((h7 k m v hc hv).1.mono hmd).mono hm, (h7 k m v hc hv).2⟩
            · have hkl : k - cs.length < vs.size := by rcases Nat.lt_or_ge (k - cs.length) vs.size with h | h; exact h; simp [Array.getElem?_eq_none h] at u1
              rw [hg3 k hk hkl, u1] at hv; injection hv with hv; subst hv
              exact ⟨(u2.mono hmd).mono hm, u3⟩)
        refine OpRun.value (u := .slice (some ⟨σ.w.heap.size, 0, none⟩) need cap) (w' := τ.w) ?_ ⟨_, _, τ, lam, ⟨rfl, rfl⟩, rfl, g5, ?_⟩
        · have c2' : ¬ (9223372036854775807 < (((nn + k2 : Nat) : Nat) : Int) ∧ inf.bytes = 0) := by rintro ⟨h, _⟩; omega
          have c3' : ¬ (281474976710656 < Builtin.nextslicecap (nn + k2) cap0 * inf.bytes) := by
            rw [i3]
            have h1 := nextcap_le (need := nn + k2) (cap := cap0) (by omega)
            have := Nat.mul_le_mul_right nb h1
            rw [Nat.mul_assoc] at this
            omega
          have hcut : (Question.appendCap (nn + k2) cap0 e).cut (σ.w.tape σ.w.drawn (Question.appendCap (nn + k2) cap0 e)) = cap := rfl
          have hforced : (Question.appendCap (nn + k2) cap0 e).forced = false := rfl
          have hv2 := v2 σ.w.drew rfl
          have hold : (Builtin.firstCells n nn (.slice (some ⟨σ.l j, 0, none⟩) nn cap0)).run X.P σ.w.drew = .ok (arr.extract 0 (nn * n)) σ.w.drew := by
            simp only [Builtin.firstCells]
            exact loadRow_run (w := σ.w.drew) h3 hle0
          simp only [execOp, resolve, invoke, builtin, Builtin.append_]
          simp only [Sem.run_bind, Sem.run_pure, Result.andThen_ok, List.map_toArray, List.map_cons, List.map_nil, hu, hw]
          simp [hund, hti, size_run hs.size]
          simp only [v1, Result.andThen_ok]
          rw [if_neg hroomcap]
          have c2'' : ¬ (9223372036854775807 < (nn : Int) + (k2 : Int) ∧ inf.bytes = 0) := by rintro ⟨h, _⟩; omega
          simp only [c2'', c3', hforced, if_false, Bool.false_eq_true]
          rw [hold]
          simp only [Result.andThen_ok]
          rw [hv2]
          simp only [Result.andThen_ok, hz1, hcut]
          simp [newRow, newObj, Sem.run, g1, arr2, w', need]
          rfl
        · refine .m (.rsl j (ver + 1) need _ cap (.inr ⟨acc, n, ver + 1, cs ++ cs2, by rw [g3]; exact set_get hH, Nat.le_refl _⟩) ?_)
          intro acc' ec' cs3 hh
          rw [g3] at hh
          have hjl : j < st.H.length := by rcases Nat.lt_or_ge j st.H.length with h | h; exact h; simp [List.getElem?_eq_none h] at hH
          simp [hjl] at hh
          obtain ⟨f1, f2, f3⟩ := hh
          subst f1; subst f2; subst f3
          exact ⟨by rw [g2], hcs', arr2, e, by rw [g2, g1]; exact push_self _ _, harr2⟩

end ops
theorem src_sl {H : Hp} {n : Nat} : ∀ {rows : List (List D)}, (∀ r ∈ rows, r.length = n) → srcO H n (.d (.sl rows)) = some (flatM rows, rows.length) := by
  intro rows h
  have : lenAll n rows = true := by
    induction rows with
    | nil => rfl
    | cons r rs ih => simp only [lenAll, Bool.and_eq_true]; exact ⟨by rw [h r List.mem_cons_self]; exact Nat.beq_refl n, ih fun q hq => h q (List.mem_cons_of_mem _ hq)⟩
  show (bif lenAll n rows then some (flatM rows, rows.length) else none) = _
  rw [this]; rfl
section ops
variable {X : Ctx} {st : St} {dst : Option Nat} {ty : Nat} {pos : String} {af : Array Edge} {g : Option (Nat × Bool)}
theorem op_append0 {T e n nb : Nat} {x y : Operand} {rows : List (List D)} {z : D} (acc : Bool) [ht : TySlice X.P T e] [hs : TySz X.P e n] [hb : TyB X.P e nb] [hz : TyZ X.P e z] (hn : Nat.blt 0 n = true) (hzl : (dcells z).length = n)
    (hx : st.ev x = some (.m (.d (.sl [])))) (hy : st.ev y = some (.m (.d (.sl rows)))) (hr : rows ≠ []) (hl : ∀ r ∈ rows, r.length = n) (hroom : rows.length * nb ≤ 140737488355328) :
    OpT X ⟨dst, .call ⟨.builtin .append, #[x, y], #[T, T]⟩, ty, pos, af, g⟩ st (eqp (.m (.rsl st.H.length 0 rows.length)) ⟨st.sl, st.bx, st.H ++ [.row acc n 0 (flatM rows)]⟩) :=
  op_append0S acc hn hzl hx hy (src_sl hl) (List.length_pos_iff.2 hr) hroom (.inl ⟨rfl, rfl⟩)
theorem op_appendR {T e n nb : Nat} {x y : Operand} {rows : List (List D)} {z : D} {j ver len : Nat} {acc : Bool} {cs : List M} [ht : TySlice X.P T e] [hs : TySz X.P e n] [hb : TyB X.P e nb] [hz : TyZ X.P e z] (hzl : (dcells z).length = n)
    (hx : st.ev x = some (.m (.rsl j ver len))) (hy : st.ev y = some (.m (.d (.sl rows)))) (hH : st.H[j]? = some (.row acc n ver cs)) (hl : ∀ r ∈ rows, r.length = n) (hroom : (len + rows.length) * nb ≤ 140737488355328) (hmax : len + rows.length ≤ 140737488355328) :
    OpT X ⟨dst, .call ⟨.builtin .append, #[x, y], #[T, T]⟩, ty, pos, af, g⟩ st (eqp (.m (.rsl j (ver + 1) (len + rows.length))) ⟨st.sl, st.bx, st.H.set j (.row acc n (ver + 1) (cs ++ flatM rows))⟩) :=
  op_appendRS hzl hx hy (src_sl hl) hH hroom hmax
end ops
section rules
variable {X : Ctx} {ops : Array Oper} {rest : List Oper} {post : St → Prop} {postF : List Ef → St → Prop} {sl : List (Nat × V)} {bx : List (Nat × List M)} {H : Hp} {d ty : Nat} {pos : String} {af : Array Edge}
theorem t_append0 {T e n nb : Nat} {x y : Operand} {rows : List (List D)} {z : D} (acc : Bool) [ht : TySlice X.P T e] [hs : TySz X.P e n] [hb : TyB X.P e nb] [hz : TyZ X.P e z] (hn : Nat.blt d X.n = true) (hx : evs sl x = some (.m (.d (.sl [])))) (hy : evs sl y = some (.m (.d (.sl rows)))) (h0 : Nat.blt 0 n = true) (hzl : (dcells z).length = n) (hr : rows ≠ []) (hl : ∀ r ∈ rows, r.length = n) (hroom : rows.length * nb ≤ 140737488355328) (k : TL X ops rest ⟨(d, (.m (.rsl H.length 0 rows.length))) :: sl, bx, H ++ [Ob.row acc n 0 (flatM rows)]⟩ post) : TL X ops (⟨some d, .call ⟨.builtin .append, #[x, y], #[T, T]⟩, ty, pos, af, none⟩ :: rest) ⟨sl, bx, H⟩ post :=
  TL.o1 rfl rfl hn (op_append0 acc h0 hzl hx hy hr hl hroom) k
theorem f_append0 {T e n nb : Nat} {x y : Operand} {rows : List (List D)} {z : D} (acc : Bool) [ht : TySlice X.P T e] [hs : TySz X.P e n] [hb : TyB X.P e nb] [hz : TyZ X.P e z] (hn : Nat.blt d X.n = true) (hx : evs sl x = some (.m (.d (.sl [])))) (hy : evs sl y = some (.m (.d (.sl rows)))) (h0 : Nat.blt 0 n = true) (hzl : (dcells z).length = n) (hr : rows ≠ []) (hl : ∀ r ∈ rows, r.length = n) (hroom : rows.length * nb ≤ 140737488355328) (k : TF X ops rest ⟨(d, (.m (.rsl H.length 0 rows.length))) :: sl, bx, H ++ [Ob.row acc n 0 (flatM rows)]⟩ fun ees zz => postF (⟨some d, (.m (.rsl H.length 0 rows.length)), [], [], none, true, some (H ++ [Ob.row acc n 0 (flatM rows)])⟩ :: ees) zz) : TF X ops (⟨some d, .call ⟨.builtin .append, #[x, y], #[T, T]⟩, ty, pos, af, none⟩ :: rest) ⟨sl, bx, H⟩ postF :=
  TF.cons (e := ⟨some d, (.m (.rsl H.length 0 rows.length)), [], [], none, true, some (H ++ [Ob.row acc n 0 (flatM rows)])⟩) (StepF.heapW rfl rfl (blt_lt hn) fun st2 ag => (by have hst := ag.H rfl; simp only at hst; have := (op_append0 (X := X) (st := st2) (dst := some d) (ty := ty) (pos := pos) (af := af) (g := none) (T := T) acc h0 hzl ((ag.ev (x := x) (by simp [Op.operands, Call.operands])).trans hx) ((ag.ev (x := y) (by simp [Op.operands, Call.operands])).trans hy) hr hl hroom); rw [hst] at this; exact this)) rfl k
theorem t_appendR {T e n nb : Nat} {x y : Operand} {rows : List (List D)} {z : D} {j ver len : Nat} {acc : Bool} {cs : List M} [ht : TySlice X.P T e] [hs : TySz X.P e n] [hb : TyB X.P e nb] [hz : TyZ X.P e z] (hn : Nat.blt d X.n = true) (hx : evs sl x = some (.m (.rsl j ver len))) (hy : evs sl y = some (.m (.d (.sl rows)))) (hH : H[j]? = some (.row acc n ver cs)) (hzl : (dcells z).length = n) (hl : ∀ r ∈ rows, r.length = n) (hroom : (len + rows.length) * nb ≤ 140737488355328) (hmax : len + rows.length ≤ 140737488355328) (k : TL X ops rest ⟨(d, (.m (.rsl j (ver + 1) (len + rows.length)))) :: sl, bx, H.set j (Ob.row acc n (ver + 1) (cs ++ flatM rows))⟩ post) : TL X ops (⟨some d, .call ⟨.builtin .append, #[x, y], #[T, T]⟩, ty, pos, af, none⟩ :: rest) ⟨sl, bx, H⟩ post :=
  TL.o1 rfl rfl hn (op_appendR hzl hx hy hH hl hroom hmax) k
theorem f_appendR {T e n nb : Nat} {x y : Operand} {rows : List (List D)} {z : D} {j ver len : Nat} {acc : Bool} {cs : List M} [ht : TySlice X.P T e] [hs : TySz X.P e n] [hb : TyB X.P e nb] [hz : TyZ X.P e z] (hn : Nat.blt d X.n = true) (hx : evs sl x = some (.m (.rsl j ver len))) (hy : evs sl y = some (.m (.d (.sl rows)))) (hH : H[j]? = some (.row acc n ver cs)) (hzl : (dcells z).length = n) (hl : ∀ r ∈ rows, r.length = n) (hroom : (len + rows.length) * nb ≤ 140737488355328) (hmax : len + rows.length ≤ 140737488355328) (k : TF X ops rest ⟨(d, (.m (.rsl j (ver + 1) (len + rows.length)))) :: sl, bx, H.set j (Ob.row acc n (ver + 1) (cs ++ flatM rows))⟩ fun ees zz => postF (⟨some d, (.m (.rsl j (ver + 1) (len + rows.length))), [], [], none, true, some (H.set j (Ob.row acc n (ver + 1) (cs ++ flatM rows)))⟩ :: ees) zz) : TF X ops (⟨some d, .call ⟨.builtin .append, #[x, y], #[T, T]⟩, ty, pos, af, none⟩ :: rest) ⟨sl, bx, H⟩ postF :=
  TF.cons (e := ⟨some d, (.m (.rsl j (ver + 1) (len + rows.length))), [], [], none, true, some (H.set j (Ob.row acc n (ver + 1) (cs ++ flatM rows)))⟩) (StepF.heapW rfl rfl (blt_lt hn) fun st2 ag => (by have hst := ag.H rfl; simp only at hst; have := (op_appendR (X := X) (st := st2) (dst := some d) (ty := ty) (pos := pos) (af := af) (g := none) (T := T) hzl ((ag.ev (x := x) (by simp [Op.operands, Call.operands])).trans hx) ((ag.ev (x := y) (by simp [Op.operands, Call.operands])).trans hy) (by rw [ag.H rfl]; exact hH) hl hroom hmax); rw [hst] at this; exact this)) rfl k
end rules
section walk
variable {X : Ctx} {ops : Array Oper} {rest : List Oper} {post : St → Prop} {sl : List (Nat × V)} {bx : List (Nat × List M)} {H : Hp} {d : Nat} {ty : Nat} {pos : String} {af : Array Edge}
/-- append to nothing -/
theorem t_app0 {T e n nb : Nat} {x y : Operand} {rows : List (List D)} {z : D} [ht : TySlice X.P T e] [hs : TySz X.P e n] [hb : TyB X.P e nb] [hz : TyZ X.P e z] (hn : Nat.blt d X.n = true) (hx : evs sl x = some (.m (.d (.sl [])))) (hy : evs sl y = some (.m (.d (.sl rows)))) (h0 : Nat.blt 0 n = true) (hzl : (dcells z).length = n)
    (hl : ∀ r ∈ rows, r.length = n) (hroom : rows.length * nb ≤ 140737488355328) (k : TL X ops rest ⟨(d, .m (app0M H rows)) :: sl, bx, app0H H n rows⟩ post) :
    TL X ops (⟨some d, .call ⟨.builtin .append, #[x, y], #[T, T]⟩, ty, pos, af, none⟩ :: rest) ⟨sl, bx, H⟩ post := by
  cases rows with
  | nil => exact t_append00 hn hx hy k
  | cons q r => exact t_append0 true hn hx hy h0 hzl (by simp) hl hroom k
/-- append to what was appended to nothing, read as data -/
theorem t_app1 {T e n nb : Nat} {x y : Operand} {r1 r2 : List (List D)} {z : D} [ht : TySlice X.P T e] [hs : TySz X.P e n] [hb : TyB X.P e nb] [hz : TyZ X.P e z] (hn : Nat.blt d X.n = true) (hx : evs sl x = some (.m (app0M H r1))) (hy : evs sl y = some (.m (.d (.sl r2)))) (h0 : Nat.blt 0 n = true) (hzl : (dcells z).length = n)
    (hl1 : ∀ r ∈ r1, r.length = n) (hl2 : ∀ r ∈ r2, r.length = n) (hroom : (r1.length + r2.length) * nb ≤ 140737488355328) (hmax : r1.length + r2.length ≤ 140737488355328) (k : TL X ops rest ⟨(d, .m (.d (.sl (r1 ++ r2)))) :: sl, bx, app1H H n r1 r2⟩ post) :
    TL X ops (⟨some d, .call ⟨.builtin .append, #[x, y], #[T, T]⟩, ty, pos, af, none⟩ :: rest) ⟨sl, bx, app0H H n r1⟩ post := by
  have drop2 : ∀ (u v : V) (H' : Hp), TL X ops rest ⟨(d, v) :: sl, bx, H'⟩ post → TL X ops rest ⟨(d, v) :: (d, u) :: sl, bx, H'⟩ post := by
    intro u v H' h a w hi
    refine h a w (hi.weak ?_ (fun _ => rfl))
    intro t x hx
    rw [get_cons] at hx ⊢
    by_cases e : d = t
    · rw [if_pos e] at hx ⊢; exact hx
    · rw [if_neg e] at hx ⊢; rw [get_cons, if_neg e]; exact hx
  cases r1 with
  | nil =>
    cases r2 with
    | nil => exact t_append00 hn hx hy k
    | cons q r =>
      refine t_append0 true hn hx hy h0 hzl (by simp) hl2 (by simpa using hroom) ?_
      refine TL.viewSlot d (by rw [get_cons, if_pos rfl]; rfl) (Acc.view (n := n) (i := H.length) (rs := q :: r) (.inr ⟨by simp, 0, rfl, by simp [app0H]⟩) hl2) ?_
      exact drop2 _ _ _ k
  | cons q r =>
    refine t_appendR (acc := true) (cs := flatM (q :: r)) hn hx hy (by simp [app0H]) hzl hl2 hroom hmax ?_
    have e : (app0H H n (q :: r)).set H.length (.row true n (0 + 1) (flatM (q :: r) ++ flatM r2)) = app1H H n (q :: r) r2 := by simp [app0H, app1H]
    rw [e]
    refine TL.viewSlot d (by rw [get_cons, if_pos rfl]) (Acc.view (n := n) (i := H.length) (rs := q :: r ++ r2) (.inr ⟨by simp, 1, by simp; omega, by simp [app1H, flatM]⟩) (by
      intro r' hr'
      rcases List.mem_append.1 hr' with h | h
      · exact hl1 r' h
      · exact hl2 r' h)) ?_
    exact drop2 _ _ _ k
end walk
end Go.Mt

/- Lists, looked up and written by their recursors: the kernel reckons these some ten times faster. -/
set_option linter.unusedVariables false
namespace Go.Mt
noncomputable def getF {α : Type} (l : List (Nat × α)) (t : Nat) : Option α := List.rec (motive := fun _ => Option α) none (fun p _ ih => Bool.rec (motive := fun _ => Option α) ih (some p.2) (Nat.beq p.1 t)) l
noncomputable def nthF {α : Type} (l : List α) : Nat → Option α := List.rec (motive := fun _ => Nat → Option α) (fun _ => none) (fun a _ ih n => Nat.rec (motive := fun _ => Option α) (some a) (fun m _ => ih m) n) l
noncomputable def setF {α : Type} (l : List α) (n : Nat) (x : α) : List α := List.rec (motive := fun _ => Nat → List α) (fun _ => []) (fun a r ih n => Nat.rec (motive := fun _ => List α) (x :: r) (fun m _ => a :: ih m) n) l n
noncomputable def lenF {α : Type} (l : List α) : Nat := List.rec (motive := fun _ => Nat → Nat) (fun n => n) (fun _ _ ih n => ih (Nat.succ n)) l 0
noncomputable def appF {α : Type} (l r : List α) : List α := List.rec (motive := fun _ => List α) r (fun a _ ih => a :: ih) l
noncomputable def hasF (l : List Nat) (t : Nat) : Bool := List.rec (motive := fun _ => Bool) false (fun p _ ih => Bool.rec (motive := fun _ => Bool) ih true (Nat.beq p t)) l
theorem getF_eq {α : Type} (l : List (Nat × α)) (t : Nat) : getF l t = get l t := by
  induction l with
  | nil => rfl
  | cons p r ih =>
    show Bool.rec (motive := fun _ => Option α) (getF r t) (some p.2) (Nat.beq p.1 t) = _
    rw [ih]
    simp only [get]
    cases Nat.beq p.1 t <;> rfl
theorem nthF_eq {α : Type} (l : List α) (n : Nat) : nthF l n = l[n]? := by
  induction l generalizing n with
  | nil => rfl
  | cons a r ih => cases n with
    | zero => rfl
    | succ n => exact ih n
theorem setF_eq {α : Type} (l : List α) (n : Nat) (x : α) : setF l n x = l.set n x := by
  unfold setF
  induction l generalizing n with
  | nil => rfl
  | cons a r ih => cases n with
    | zero => rfl
    | succ n => exact congrArg (a :: ·) (ih n)
theorem lenF_aux {α : Type} (l : List α) (n : Nat) : List.rec (motive := fun _ => Nat → Nat) (fun n => n) (fun _ _ ih n => ih (Nat.succ n)) l n = n + l.length := by
  induction l generalizing n with
  | nil => rfl
  | cons a r ih => exact (ih (n + 1)).trans (by simp; omega)
theorem lenF_eq {α : Type} (l : List α) : lenF l = l.length := by
  have := lenF_aux l 0
  rw [Nat.zero_add] at this
  exact this
theorem appF_eq {α : Type} (l r : List α) : appF l r = l ++ r := by
  induction l with
  | nil => rfl
  | cons a l ih => exact congrArg (a :: ·) ih
theorem hasF_eq (l : List Nat) (t : Nat) : hasF l t = has l t := by
  induction l with
  | nil => rfl
  | cons p r ih =>
    show Bool.rec (motive := fun _ => Bool) (hasF r t) true (Nat.beq p t) = _
    rw [ih]
    show _ = (Nat.beq p t || r.any fun x => Nat.beq x t)
    cases Nat.beq p t <;> rfl
noncomputable def takeF {α : Type} (n : Nat) (l : List α) : List α := Nat.rec (motive := fun _ => List α → List α) (fun _ => []) (fun _ ih l => List.casesOn (motive := fun _ => List α) l [] (fun a r => a :: ih r)) n l
theorem takeF_eq {α : Type} (n : Nat) (l : List α) : takeF n l = l.take n := by
  unfold takeF
  induction n generalizing l with
  | zero => rfl
  | succ n ih => cases l with
    | nil => rfl
    | cons a r => exact congrArg (a :: ·) (ih r)
noncomputable def evsF (sl : List (Nat × V)) : Operand → Option V
  | .tmp t => getF sl t
  | .const v => match dOfVal v with
    | some d => some (.m (.d d))
    | none => none
  | .func f => some (.m (.d (.fn f [])))
  | .global _ => none
theorem evsF_eq (sl : List (Nat × V)) : evsF sl = evs sl := by
  funext x
  cases x <;> first | rfl | exact getF_eq _ _

namespace Fine
/-- the part of the check that hangs on the text alone -/
noncomputable def statc (ops : Array Oper) (x y : Oper) : Bool := (match x.dst with | some d => hasF (slotsOf ops y) d | none => false) || (match y.dst with | some d => hasF (slotsOf ops x) d | none => false)
noncomputable def statRow (ops : Array Oper) (x : Oper) (i : Nat) : List Oper → List (List Nat) → Bool
  | y :: ys, b :: bs => bif statc ops x y then (bif hasF b i then statRow ops x i ys bs else false) else statRow ops x i ys bs
  | _, _ => true
noncomputable def statPairs (ops : Array Oper) : Nat → List Oper → List (List Nat) → Bool
  | i, x :: xs, _ :: bs => statRow ops x i xs bs && statPairs ops (i + 1) xs bs
  | _, _, _ => true
noncomputable def statOk (ops : List Oper) : Bool := edgesOk 0 ops && statPairs ops.toArray 0 ops (befs ops)
/-- an effect on its slot alone -/
def triv (e : Ef) : Bool := match e with
  | ⟨_, .m _, [], [], none, .no, [], none⟩ => true
  | _ => false
def nts : Nat → List Ef → List (List Nat) → List (Nat × Ef × List Nat)
  | i, e :: es, b :: bs => bif triv e then nts (i + 1) es bs else (i, e, b) :: nts (i + 1) es bs
  | _, _, _ => []
def dync (e f : Ef) : Bool :=
  (e.wb.any fun p => has (f.rb ++ f.wb.map (·.1)) p.1) || (f.wb.any fun p => has (e.rb ++ e.wb.map (·.1)) p.1) ||
  hconf e f || hconf f e || (match e.nw, f.v with | some d, .loc u _ => Nat.beq u d | _, _ => false)
def dynRow (i : Nat) (e : Ef) : List (Nat × Ef × List Nat) → Bool
  | [] => true
  | (_, f, b) :: r => (!dync e f || has b i) && !stale e f && dynRow i e r
def dynPairs : List (Nat × Ef × List Nat) → Bool
  | [] => true
  | (i, e, _) :: r => dynRow i e r && dynPairs r
def noStaleN (sl : List (Nat × V)) : List (Nat × Ef × List Nat) → Bool
  | [] => true
  | (_, e, _) :: r => (match e.nw with | some d => noLoc d sl | none => true) && noStaleN sl r
def okN (N : Nat) : List (Nat × Ef × List Nat) → Bool
  | [] => true
  | (_, e, _) :: r => okE N e && okN N r
def ordF (N : Nat) (sl : List (Nat × V)) (ns : List (Nat × Ef × List Nat)) : Bool := dynPairs ns && (noStaleN sl ns && okN N ns)
noncomputable def orderOkF (N : Nat) (ops : List Oper) (sl : List (Nat × V)) (es : List Ef) : Bool := bif statOk ops then ordF N sl (nts 0 es (befs ops)) else false

theorem triv_eq {e : Ef} (h : triv e = true) : ∃ d m, e = ⟨d, .m m, [], [], none, .no, [], none⟩ := by
  unfold triv at h
  split at h
  · exact ⟨_, _, rfl⟩
  · cases h
theorem confl_eq (ops : Array Oper) (x y : Oper) (e f : Ef) : confl ops x y e f = (statc ops x y || dync e f) := by
  unfold confl statc dync
  simp only [Bool.or_assoc, hasF_eq] <;> rfl
theorem dync_l {e f : Ef} (h : triv e = true) : dync e f = false ∧ stale e f = false := by
  obtain ⟨d, m, rfl⟩ := triv_eq h
  unfold dync hconf stale
  constructor
  · simp only [List.map_nil, List.append_nil, List.any_nil, Bool.false_or, Option.isSome_none, Bool.or_false]
    have : ∀ p : Nat, has [] p = false := fun p => rfl
    simp only [this]
    cases f.rh <;> simp [List.any_eq_true]
  · cases f.nw <;> rfl
theorem dync_r {e f : Ef} (h : triv f = true) : dync e f = false ∧ stale e f = false := by
  obtain ⟨d, m, rfl⟩ := triv_eq h
  unfold dync hconf stale
  constructor
  · simp only [List.map_nil, List.append_nil, List.any_nil, Bool.false_or, Option.isSome_none, Bool.or_false]
    have : ∀ p : Nat, has [] p = false := fun p => rfl
    simp only [this]
    cases e.rh <;> cases e.nw <;> simp [List.any_eq_true]
  · rfl
theorem row_ok {ops : Array Oper} {x : Oper} {e : Ef} {i : Nat} : ∀ {ys : List Oper} {fs : List Ef} {bs : List (List Nat)} {j : Nat}, statRow ops x i ys bs = true → (triv e = true ∨ dynRow i e (nts j fs bs) = true) → pairsOk1 ops x e i ys fs bs = true
  | [], _, _, _, _, _ => by unfold pairsOk1; rfl
  | _ :: _, [], _, _, _, _ => by unfold pairsOk1; rfl
  | _ :: _, _ :: _, [], _, _, _ => by unfold pairsOk1; rfl
  | y :: ys, f :: fs, b :: bs, j, hs, hd => by
    have hs : (statc ops x y = true → has b i = true) ∧ statRow ops x i ys bs = true := by
      simp only [statRow, hasF_eq] at hs
      cases h1 : statc ops x y with
      | false => rw [h1] at hs; exact ⟨fun h => (by cases h), hs⟩
      | true =>
        rw [h1] at hs
        cases h2 : has b i with
        | false => rw [h2] at hs; cases hs
        | true => rw [h2] at hs; exact ⟨fun _ => rfl, hs⟩
    simp only [pairsOk1, Bool.and_eq_true]
    have key : (dync e f = true → has b i = true) ∧ stale e f = false ∧ (triv e = true ∨ dynRow i e (nts (j + 1) fs bs) = true) := by
      rcases hd with hd | hd
      · obtain ⟨h1, h2⟩ := dync_l (f := f) hd
        exact ⟨fun h => (by rw [h1] at h; cases h), h2, .inl hd⟩
      · simp only [nts] at hd
        cases ht : triv f with
        | true =>
          rw [ht] at hd
          obtain ⟨h1, h2⟩ := dync_r (e := e) ht
          exact ⟨fun h => (by rw [h1] at h; cases h), h2, .inr hd⟩
        | false =>
          rw [ht] at hd
          simp only [cond_false, dynRow, Bool.and_eq_true, Bool.or_eq_true, Bool.not_eq_true'] at hd
          refine ⟨fun h => ?_, hd.1.2, .inr hd.2⟩
          rcases hd.1.1 with h1 | h1
          · rw [h1] at h; cases h
          · exact h1
    refine ⟨⟨?_, by rw [key.2.1]; rfl⟩, row_ok hs.2 key.2.2⟩
    rw [confl_eq]
    cases h1 : statc ops x y with
    | true =>
      simp [hs.1 h1]
    | false =>
      cases h2 : dync e f with
      | true => simp [key.1 h2]
      | false => rfl
theorem pairs_ok {ops : Array Oper} : ∀ {xs : List Oper} {es : List Ef} {bs : List (List Nat)} {i : Nat}, statPairs ops i xs bs = true → dynPairs (nts i es bs) = true → pairsOk ops i xs es bs = true
  | [], _, _, _, _, _ => by unfold pairsOk; rfl
  | _ :: _, [], _, _, _, _ => by unfold pairsOk; rfl
  | _ :: _, _ :: _, [], _, _, _ => by unfold pairsOk; rfl
  | x :: xs, e :: es, b :: bs, i, hs, hd => by
    simp only [statPairs, Bool.and_eq_true] at hs
    simp only [pairsOk, Bool.and_eq_true]
    simp only [nts] at hd
    cases ht : triv e with
    | true =>
      rw [ht] at hd
      exact ⟨row_ok (j := i + 1) hs.1 (.inl ht), pairs_ok hs.2 hd⟩
    | false =>
      rw [ht] at hd
      simp only [cond_false, dynPairs, Bool.and_eq_true] at hd
      exact ⟨row_ok hs.1 (.inr hd.1), pairs_ok hs.2 hd.2⟩
theorem noStaleN_ok {sl : List (Nat × V)} : ∀ {es : List Ef} {bs : List (List Nat)} {i : Nat}, es.length = bs.length → noStaleN sl (nts i es bs) = true → noStale sl es = true
  | [], _, _, _, _ => rfl
  | e :: es, [], _, hl, _ => by simp at hl
  | e :: es, b :: bs, i, hl, h => by
    simp only [nts] at h
    simp only [noStale, Bool.and_eq_true]
    cases ht : triv e with
    | true =>
      rw [ht] at h
      obtain ⟨d, m, rfl⟩ := triv_eq ht
      exact ⟨rfl, noStaleN_ok (by simpa using hl) h⟩
    | false =>
      rw [ht] at h
      simp only [cond_false, noStaleN, Bool.and_eq_true] at h
      exact ⟨h.1, noStaleN_ok (by simpa using hl) h.2⟩
theorem okN_ok {N : Nat} : ∀ {es : List Ef} {bs : List (List Nat)} {i : Nat}, es.length = bs.length → okN N (nts i es bs) = true → es.all (okE N) = true
  | [], _, _, _, _ => rfl
  | e :: es, [], _, hl, _ => by simp at hl
  | e :: es, b :: bs, i, hl, h => by
    simp only [nts] at h
    simp only [List.all_cons, Bool.and_eq_true]
    cases ht : triv e with
    | true =>
      rw [ht] at h
      obtain ⟨d, m, rfl⟩ := triv_eq ht
      exact ⟨rfl, okN_ok (by simpa using hl) h⟩
    | false =>
      rw [ht] at h
      simp only [cond_false, okN, Bool.and_eq_true] at h
      exact ⟨h.1, okN_ok (by simpa using hl) h.2⟩
theorem orderOkF_ok {N : Nat} {ops : List Oper} {sl : List (Nat × V)} {es : List Ef} (hl : es.length = ops.length) (h : orderOkF N ops sl es = true) : orderOk N ops sl es = true := by
  unfold orderOkF at h
  cases hs : statOk ops with
  | false => rw [hs] at h; cases h
  | true =>
    rw [hs] at h
    simp only [cond_true, ordF, Bool.and_eq_true] at h
    simp only [statOk, Bool.and_eq_true] at hs
    have hb : es.length = (befs ops).length := by rw [befs_length, hl]
    simp only [orderOk, Bool.and_eq_true]
    exact ⟨⟨⟨hs.1, pairs_ok hs.2 h.1⟩, noStaleN_ok hb h.2.1⟩, okN_ok hb h.2.2⟩
end Fine
end Go.Mt

/- Equality of structs of a number and a text; values in interfaces; a global variable that holds an integer. -/
set_option linter.unusedVariables false
set_option linter.unusedSimpArgs false
namespace Go.Mt

def isU8 (P : Program) (t : Nat) : Bool := match P.underlying t with
  | some (.int .u8) => true
  | _ => false
def isStr (P : Program) (t : Nat) : Bool := match P.underlying t with
  | some .string => true
  | _ => false
def knB (P : Program) (t : Nat) : Bool := match P.underlying t with
  | some (.struct fs) => match fs.toList with
    | [f1, f2] => !decide (f1.name = "_") && !decide (f2.name = "_") && Nat.beq f1.offset 0 && Nat.beq f2.offset 1 && isU8 P f1.type && isStr P f2.type && !P.stoodInHeld t && !P.eqGuardType P.depth t
    | _ => false
  | _ => false
class TyKN (P : Program) (t : Nat) : Prop where
  b : knB P t = true
theorem TyKN.u {P : Program} {t : Nat} (h : TyKN P t) : (∃ f1 f2 : Field, P.underlying t = some (.struct #[f1, f2]) ∧ (f1.name = "_") = False ∧ (f2.name = "_") = False ∧ f1.offset = 0 ∧ f2.offset = 1 ∧ P.underlying f1.type = some (.int .u8) ∧ P.underlying f2.type = some .string) ∧ P.stoodInHeld t = false ∧ P.eqGuardType P.depth t = false := by
  have hb := h.b
  unfold knB at hb
  split at hb
  · rename_i fs hu
    split at hb
    · rename_i f1 f2 hl
      simp only [Bool.and_eq_true, Bool.not_eq_true', decide_eq_false_iff_not] at hb
      obtain ⟨⟨⟨⟨⟨⟨⟨h1, h2⟩, h3⟩, h4⟩, h5⟩, h6⟩, h7⟩, h8⟩ := hb
      have e : fs = #[f1, f2] := by rw [← hl]
      refine ⟨⟨f1, f2, by rw [hu, e], eq_false h1, eq_false h2, Nat.eq_of_beq_eq_true h3, Nat.eq_of_beq_eq_true h4, ?_, ?_⟩, h7, h8⟩
      · unfold isU8 at h5; split at h5
        · assumption
        · cases h5
      · unfold isStr at h6; split at h6
        · assumption
        · cases h6
    · cases hb
  · cases hb

theorem equal_kn {P : Program} {w : World} {t : Nat} (h : TyKN P t) (k1 k2 : Int) (s1 s2 : ByteArray) :
    (Op.equal t (.agg #[.int .u8 k1, .string s1]) (.agg #[.int .u8 k2, .string s2])).run P w = .ok (decide (k1 = k2) && decide (s1 = s2)) w := by
  obtain ⟨⟨f1, f2, h1, h2, h3, h4, h5, h6, h7⟩, hst, hg⟩ := h.u
  have hund : (underlying t).run P w = .ok (.struct #[f1, f2]) w := by simp [underlying, program, Sem.run, h1]
  have hu1 : (underlying f1.type).run P w = .ok (.int .u8) w := by simp [underlying, program, Sem.run, h6]
  have hu2 : (underlying f2.type).run P w = .ok .string w := by simp [underlying, program, Sem.run, h7]
  have hp : (program).run P w = .ok P w := by simp [program, Sem.run]
  have e1 : ∀ a b : Int, (Op.equalIn 9999 f1.type (.int .u8 a) (.int .u8 b)).run P w = .ok (decide (a = b)) w := by
    intro a b
    rw [Op.equalIn]
    simp [hu1]
    by_cases hab : a = b <;> simp [hab]
  have e2 : ∀ a b : ByteArray, (Op.equalIn 9999 f2.type (.string a) (.string b)).run P w = .ok (decide (a = b)) w := by
    intro a b
    rw [Op.equalIn]
    simp [hu2, ba_beq]
  have p1 : ∀ a : Int, ∀ s : ByteArray, (part f1.type #[.int .u8 a, .string s] f1.offset).run P w = .ok (.int .u8 a) w := by
    intro a s
    simp [part, isAgg, hu1, h4]
  have p2 : ∀ a : Int, ∀ s : ByteArray, (part f2.type #[.int .u8 a, .string s] f2.offset).run P w = .ok (.string s) w := by
    intro a s
    simp [part, isAgg, hu2, h5]
  simp only [Op.equal, Op.maxDepth]
  rw [Op.equalIn]
  simp [hund, hp, hst, h2, h3, p1, p2, e1, e2]
  by_cases hk : k1 = k2 <;> by_cases hs : s1 = s2 <;> simp [hk, hs, p1, p2, e1, e2, h2, h3]
theorem rep_kn {O : Nat → Nat → Prop} {w : World} {k : Int} {s : ByteArray} {v : Value} (h : Rep O w (.agg [.int .u8 k, .str s]) v) : v = .agg #[.int .u8 k, .string s] := by
  cases h with
  | agg _ vs hl hf hr =>
    obtain ⟨l⟩ := vs
    match l, hl with
    | [a, b], _ =>
      have h1 := hr 0 _ a rfl rfl
      have h2 := hr 1 _ b rfl rfl
      cases h1; cases h2; rfl
section
variable {X : Ctx} {st : St} {dst : Option Nat} {ty : Nat} {pos : String} {af : Array Edge} {g : Option (Nat × Bool)}
theorem op_eqKN {x y : Operand} {xt yt : Nat} {k1 k2 : Int} {s1 s2 : ByteArray} [ht : TyKN X.P xt] (hx : st.ev x = some (.m (.d (.agg [.int .u8 k1, .str s1])))) (hy : st.ev y = some (.m (.d (.agg [.int .u8 k2, .str s2])))) :
    OpT X ⟨dst, .binOp .eql xt x y yt, ty, pos, af, g⟩ st (eqp (.m (.d (.bool (decide (k1 = k2) && decide (s1 = s2))))) st) := by
  refine OpT.quiet fun a σ lam hi => ?_
  have h1 := rep_kn (hi.evd hx)
  have h2 := rep_kn (hi.evd hy)
  have hp : (program).run X.P σ.w = .ok X.P σ.w := by simp [program, Sem.run]
  have he := equal_kn (w := σ.w) ht k1 k2 s1 s2
  exact ⟨_, by simp [execOp, h1, h2, eqGuard, hp, ht.u.2.2, binOp, he], .m (.d (.bool _))⟩
end

section
variable {X : Ctx} {st : St} {dst : Option Nat} {ty : Nat} {pos : String} {af : Array Edge} {g : Option (Nat × Bool)}
theorem op_neKN {x y : Operand} {xt yt : Nat} {k1 k2 : Int} {s1 s2 : ByteArray} [ht : TyKN X.P xt] (hx : st.ev x = some (.m (.d (.agg [.int .u8 k1, .str s1])))) (hy : st.ev y = some (.m (.d (.agg [.int .u8 k2, .str s2])))) :
    OpT X ⟨dst, .binOp .neq xt x y yt, ty, pos, af, g⟩ st (eqp (.m (.d (.bool (!(decide (k1 = k2) && decide (s1 = s2)))))) st) := by
  refine OpT.quiet fun a σ lam hi => ?_
  have h1 := rep_kn (hi.evd hx)
  have h2 := rep_kn (hi.evd hy)
  have hp : (program).run X.P σ.w = .ok X.P σ.w := by simp [program, Sem.run]
  have he := equal_kn (w := σ.w) ht k1 k2 s1 s2
  exact ⟨_, by simp [execOp, h1, h2, eqGuard, hp, ht.u.2.2, binOp, he], .m (.d (.bool _))⟩
/-- may a value of this type be put into an interface? -/
def ifaceable (P : Program) (t : Nat) : Bool := match P.underlying t with
  | some (.interface _) => false
  | some _ => true
  | none => false
theorem op_makeIface {xt : Nat} {x : Operand} {d : D} (ht : ifaceable X.P xt = true) (hx : st.ev x = some (.m (.d d))) :
    OpT X ⟨dst, .makeInterface xt x, ty, pos, af, g⟩ st (eqp (.m (.d (.ifc xt d))) st) := by
  refine OpT.quiet fun a σ lam hi => ?_
  have h1 := hi.evd hx
  refine ⟨.iface xt (a.eval x), ?_, .m (.d (.ifc _ _ _ h1))⟩
  unfold ifaceable at ht
  split at ht
  · cases ht
  · rename_i u hne hu
    have hund : (underlying xt).run X.P σ.w = .ok u σ.w := by simp [underlying, program, Sem.run, hu]
    simp only [execOp, Instr.makeInterface]
    simp [hund]
  · cases ht
/-- the object of a global variable that holds an integer: which one, and the integer -/
def globM (g : Nat) (k : IntKind) (m : Int) (T : Nat) : M := .tup [.d (.int .i64 g), .d (.int k m), .d (.int .i64 T)]
theorem op_loadG {T gl i tt : Nat} {k : IntKind} {m : Int} {r : M} (hH : st.H[i]? = some (.iter (globM gl k m tt))) (hr : readAt X.P T [.d (.int k m)] 0 = some r) :
    OpT X ⟨dst, .load T (.global gl), ty, pos, af, g⟩ st (eqp (.m r) st) := by
  refine OpT.quiet fun a σ lam hi => ?_
  have hob := hi.hinv.obj i (.iter (globM gl k m tt)) (by rw [hi.hH]; exact hH)
  have key : ∀ k' m' T', σ.w.heap[σ.l i]? = some (.cells #[.int k' m'] T' (0, 0)) → RM σ (globM gl k m tt) (.tuple #[.int .i64 (σ.l i), .int k' m', .int .i64 (T' : Nat)]) → ∃ u, (execOp a.eval ⟨dst, .load T (.global gl), ty, pos, af, g⟩).run X.P σ.w = .ok (.value u) σ.w ∧ RV σ lam (.m r) u := by
    intro k' m' T' h1 h2
    have h3 : σ.l i = gl ∧ k' = k ∧ m' = m := by
      cases h2 with
      | tup cs vs hl h =>
        have a1 := h 0 (.d (.int .i64 gl)) (.int .i64 (σ.l i)) rfl rfl
        have a2 := h 1 (.d (.int k m)) (.int k' m') rfl rfl
        cases a1 with
        | d a1 =>
          cases a2 with
          | d a2 =>
            generalize hq : (σ.l i : Int) = q at a1
            cases a1
            cases a2
            exact ⟨by omega, rfl, rfl⟩
    obtain ⟨e1, rfl, rfl⟩ := h3
    have hc : RMc σ [.d (.int k' m')] #[.int k' m'] := ⟨rfl, fun n x v hx hv => by
      match n with
      | 0 => simp at hx hv; subst hx; subst hv; exact ⟨.d (.int _ _), rfl⟩
      | n + 1 => simp at hx⟩
    obtain ⟨v, h5, h6⟩ := loadM_run hr h1 (by simp) hc.2
    rw [e1] at h5
    exact ⟨v, by simp [execOp, Act.eval, Instr.loadAt, Instr.sureAddr, h5], .m h6⟩
  rcases hob with ⟨om, since, seen, last, h1, h2⟩ | ⟨k', m', T', h1, h2⟩
  · exfalso
    rcases h2 with ⟨_, h2⟩ | ⟨h2, _⟩
    · cases h2
    · unfold globM iterVal at h2
      cases h2 with
      | tup cs vs hl h =>
        have hz : (#[Value.map om, .int .i64 since] ++ seen.map fun b => .int .i64 b)[0]? = some (.map om) := by rw [Array.getElem?_append_left (by simp)]; rfl
        have a1 := h 0 (.d (.int .i64 gl)) (.map om) rfl hz
        cases a1 with
        | d a1 => cases a1
  · exact key k' m' T' h1 h2
end
end Go.Mt
