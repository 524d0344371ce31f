/- Part of a library of triples over an abstract heap, and of a reckoner that is proved sound over it. -/
import Derived.Test.YtfgmlnfpecipnaaGreatDoorLibB
set_option linter.unusedVariables false
namespace Go.Mt

theorem pairsOk1_spec {opsA : Array Oper} {x : Oper} {e : Ef} {i : Nat} : ∀ {ys : List Oper} {fs : List Ef} {bs : List (List Nat)}, pairsOk1 opsA x e i ys fs bs = true →
    ∀ (j : Nat) y f b, ys[j]? = some y → fs[j]? = some f → bs[j]? = some b → (confl opsA x y e f = true → i ∈ b) ∧ stale e f = false
  | [], _, _, _, j, y, f, b, hy, _, _ => by simp at hy
  | _ :: _, [], _, _, j, y, f, b, _, hf, _ => by simp at hf
  | _ :: _, _ :: _, [], _, j, y, f, b, _, _, hb => by simp at hb
  | y0 :: ys, f0 :: fs, b0 :: bs, h, j, y, f, b, hy, hf, hb => by
    simp only [pairsOk1, Bool.and_eq_true, Bool.or_eq_true, Bool.not_eq_true'] at h
    cases j with
    | zero =>
      simp at hy hf hb; subst hy; subst hf; subst hb
      refine ⟨fun hc => ?_, h.1.2⟩
      rcases h.1.1 with h1 | h1
      · rw [h1] at hc; cases hc
      · exact has_iff.1 h1
    | succ j => simp at hy hf hb; exact pairsOk1_spec h.2 j y f b hy hf hb
theorem pairsOk_spec {opsA : Array Oper} : ∀ {xs : List Oper} {es : List Ef} {bs : List (List Nat)} {n : Nat}, pairsOk opsA n xs es bs = true →
    ∀ (i j : Nat) x e y f b, i < j → xs[i]? = some x → es[i]? = some e → xs[j]? = some y → es[j]? = some f → bs[j]? = some b → (confl opsA x y e f = true → n + i ∈ b) ∧ stale e f = false
  | [], _, _, n, _, i, j, x, e, y, f, b, _, hx, _, _, _, _ => by simp at hx
  | _ :: _, [], _, n, _, i, j, x, e, y, f, b, _, _, he, _, _, _ => by simp at he
  | _ :: _, _ :: _, [], n, _, i, j, x, e, y, f, b, _, _, _, _, _, hb => by simp at hb
  | x0 :: xs, e0 :: es, b0 :: bs, n, h, i, j, x, e, y, f, b, hij, hx, he, hy, hf, hb => by
    simp only [pairsOk, Bool.and_eq_true] at h
    cases j with
    | zero => omega
    | succ j =>
      cases i with
      | zero =>
        simp at hx he hy hf hb; subst hx; subst he
        exact pairsOk1_spec h.1 j y f b hy hf hb
      | succ i =>
        simp at hx he hy hf hb
        have := pairsOk_spec h.2 i j x e y f b (by omega) hx he hy hf hb
        rw [show n + (i + 1) = n + 1 + i by omega]
        exact this
theorem edgesOk_spec : ∀ {ops : List Oper} {n : Nat}, edgesOk n ops = true → ∀ (j : Nat) o, ops[j]? = some o → ∀ e ∈ o.after.toList, Region.binds .any e = true → e.on < n + j
  | [], n, _, j, o, ho, _, _, _ => by simp at ho
  | x :: r, n, h, j, o, ho, e, he, hb => by
    simp only [edgesOk, Bool.and_eq_true, List.all_eq_true, Bool.or_eq_true, Bool.not_eq_true'] at h
    cases j with
    | zero =>
      simp at ho; subst ho
      rcases h.1 e he with h1 | h1
      · rw [h1] at hb; cases hb
      · have := blt_lt h1; omega
    | succ j => simp at ho; have := edgesOk_spec h.2 j o ho e he hb; omega

theorem foldl_take_S (st : St) (es : List Ef) : ∀ k, S st es (fun _ => true) k = (es.take k).foldl (fun s e => e.app s) st
  | 0 => rfl
  | k + 1 => by
    simp only [S]
    cases he : es[k]? with
    | none =>
      have hle : es.length ≤ k := by rcases Nat.lt_or_ge k es.length with h | h; simp [List.getElem?_eq_getElem h] at he; exact h
      rw [foldl_take_S st es k, List.take_of_length_le hle, List.take_of_length_le (by omega)]
    | some e =>
      simp only [cond_true]
      rw [foldl_take_S st es k]
      have hlt : k < es.length := by rcases Nat.lt_or_ge k es.length with h | h; exact h; simp [List.getElem?_eq_none h] at he
      rw [List.take_succ_eq_append_getElem hlt, List.foldl_append]
      have : es[k] = e := by simpa [List.getElem?_eq_getElem hlt] using he
      rw [this]; rfl

theorem RunF.spec {X : Ctx} {opsA : Array Oper} {l : List Oper} {st st' : St} {es : List Ef} (h : RunF X opsA l st es st') :
    es.length = l.length ∧ st' = es.foldl (fun s e => e.app s) st ∧ ∀ (i : Nat) o e, l[i]? = some o → es[i]? = some e → StepF X opsA o e ((es.take i).foldl (fun s e => e.app s) st) ∧ e.d = o.dst := by
  induction h with
  | nil st => exact ⟨rfl, rfl, by simp⟩
  | cons h hd k ih =>
    obtain ⟨h1, h2, h3⟩ := ih
    refine ⟨by simp [h1], h2, fun i o e ho he => ?_⟩
    cases i with
    | zero => simp at ho he; subst ho; subst he; exact ⟨h, hd⟩
    | succ i => simp at ho he; exact h3 i o e ho he

def cnt : Nat → (Nat → Bool) → Nat
  | 0, _ => 0
  | k + 1, f => cnt k f + (bif f k then 0 else 1)
theorem cnt_congr : ∀ {m : Nat} {f g : Nat → Bool}, (∀ k, k < m → f k = g k) → cnt m f = cnt m g
  | 0, _, _, _ => rfl
  | m + 1, f, g, h => by simp only [cnt]; rw [cnt_congr (fun k hk => h k (by omega)), h m (by omega)]
theorem cnt_zero : ∀ {m : Nat} {f : Nat → Bool}, cnt m f = 0 → ∀ k, k < m → f k = true
  | 0, f, _, k, hk => by omega
  | m + 1, f, h, k, hk => by
    simp only [cnt] at h
    cases hf : f m with
    | false => simp [hf] at h
    | true =>
      simp [hf] at h
      by_cases e : k = m
      · rw [e]; exact hf
      · exact cnt_zero h k (by omega)
theorem cnt_pos : ∀ {m : Nat} {f : Nat → Bool}, 0 < cnt m f → ∃ i, i < m ∧ f i = false ∧ ∀ k, k < i → f k = true
  | 0, f, h => by simp [cnt] at h
  | m + 1, f, h => by
    by_cases h0 : 0 < cnt m f
    · obtain ⟨i, h1, h2, h3⟩ := cnt_pos h0; exact ⟨i, by omega, h2, h3⟩
    · have h1 : cnt m f = 0 := by omega
      simp only [cnt, h1] at h
      cases hf : f m with
      | false => exact ⟨m, by omega, hf, cnt_zero h1⟩
      | true => simp [hf] at h
theorem cnt_set : ∀ {m : Nat} {f : Nat → Bool} {i : Nat}, i < m → f i = false → cnt m (fun k => if k = i then true else f k) + 1 = cnt m f
  | 0, f, i, h, _ => by omega
  | m + 1, f, i, h, hf => by
    simp only [cnt]
    by_cases e : i = m
    · subst e
      have : cnt i (fun k => if k = i then true else f k) = cnt i f := cnt_congr fun k hk => by simp [show k ≠ i by omega]
      simp only [this, if_true, hf, cond_true, cond_false, Nat.add_zero]
    · have := cnt_set (m := m) (f := f) (i := i) (by omega) hf
      have h2 : m ≠ i := by omega
      simp only [h2, if_false]
      omega

def StepFI (X : Ctx) (I : Hp → Prop) (ops : Array Oper) (o : Oper) (e : Ef) (st : St) : Prop := ∀ st2, Ag ops o e st st2 → I st2.H → OpS X ops o st2 (e.app st2)
inductive RunFI (X : Ctx) (I : Hp → Prop) (ops : Array Oper) : List Oper → St → List Ef → St → Prop where
  | nil (st : St) : RunFI X I ops [] st [] st
  | cons {o : Oper} {os : List Oper} {st st' : St} {e : Ef} {es : List Ef} (h : StepFI X I ops o e st) (hd : e.d = o.dst) (k : RunFI X I ops os (e.app st) es st') : RunFI X I ops (o :: os) st (e :: es) st'
def TFI (X : Ctx) (I : Hp → Prop) (ops : Array Oper) (l : List Oper) (st : St) (post : List Ef → St → Prop) : Prop := ∃ es st', RunFI X I ops l st es st' ∧ post es st'
theorem RunFI.spec {X : Ctx} {I : Hp → Prop} {opsA : Array Oper} {l : List Oper} {st st' : St} {es : List Ef} (h : RunFI X I opsA l st es st') :
    es.length = l.length ∧ st' = es.foldl (fun s e => e.app s) st ∧ ∀ (i : Nat) o e, l[i]? = some o → es[i]? = some e → StepFI X I opsA o e ((es.take i).foldl (fun s e => e.app s) st) ∧ e.d = o.dst := by
  induction h with
  | nil st => exact ⟨rfl, rfl, by simp⟩
  | cons h hd k ih =>
    obtain ⟨h1, h2, h3⟩ := ih
    refine ⟨by simp [h1], h2, fun i o e ho he => ?_⟩
    cases i with
    | zero => simp at ho he; subst ho; subst he; exact ⟨h, hd⟩
    | succ i => simp at ho he; exact h3 i o e ho he
/-- all others come ahead of it -/
def lastOf (ops : List Oper) (k : Nat) : Bool := match (befs ops)[k]? with
  | some b => (List.range ops.length).all fun i => Nat.beq i k || has b i
  | none => false
theorem lastOf_mem {ops : List Oper} {k : Nat} (h : lastOf ops k = true) (i : Nat) (hi : i < ops.length) (hne : i ≠ k) : ∃ b, (befs ops)[k]? = some b ∧ i ∈ b := by
  unfold lastOf at h
  split at h
  · rename_i b hb
    rw [List.all_eq_true] at h
    have := h i (List.mem_range.2 hi)
    rw [Bool.or_eq_true] at this
    rcases this with h1 | h1
    · exact absurd (Nat.eq_of_beq_eq_true h1) hne
    · exact ⟨b, hb, has_iff.1 h1⟩
  · cases h
def AllWhK (I : Hp → Prop) (ops : List Oper) : Nat → List Ef → Prop
  | _, [] => True
  | k, e :: r => (match e.wh with | none => True | some h => I h ∨ lastOf ops k = true) ∧ AllWhK I ops (k + 1) r
theorem AllWhK.memN {I : Hp → Prop} {ops : List Oper} : ∀ {es : List Ef} {n : Nat}, AllWhK I ops n es → ∀ (k : Nat) f, es[k]? = some f → ∀ h, f.wh = some h → I h ∨ lastOf ops (n + k) = true
  | [], _, _, k, f, hk, _, _ => by simp at hk
  | a :: r, n, ⟨h1, h2⟩, k, f, hk, h, hh => by
    cases k with
    | zero => simp at hk; subst hk; rw [hh] at h1; exact h1
    | succ k =>
      simp at hk
      have := h2.memN k f hk h hh
      rwa [show n + 1 + k = n + (k + 1) by omega] at this
theorem AllWhK.mem {I : Hp → Prop} {ops : List Oper} {es : List Ef} (h : AllWhK I ops 0 es) (k : Nat) (f : Ef) (hk : es[k]? = some f) (H : Hp) (hh : f.wh = some H) : I H ∨ lastOf ops k = true := by
  have := h.memN k f hk H hh
  rwa [Nat.zero_add] at this
theorem S_heapK {st : St} {es : List Ef} (I : Hp → Prop) (h0 : I st.H) {L : Nat → Bool} (hs : ∀ (k : Nat) f h, es[k]? = some f → L k = true → f.wh = some h → I h) : ∀ n, I (S st es L n).H
  | 0 => h0
  | n + 1 => by
    simp only [S]
    have ih := S_heapK I h0 hs n
    cases he : es[n]? with
    | none => exact ih
    | some e =>
      simp only
      cases hL : L n with
      | false => exact ih
      | true =>
        simp only [cond_true, Ef.app]
        cases hw : e.wh with
        | none => exact ih
        | some h => exact hs n e h he hL hw
theorem TC.drawK {X : Ctx} {id : Nat} {ops : List Oper} {st : St} {post : Exit → St → Prop} (I : Hp → Prop) (hI0 : I st.H) (hm : X.P.follows .mixedOrders = true)
    (h : TFI X I ops.toArray ops st fun es st' => orderOk ops st.sl es = true ∧ AllWhK I ops 0 es ∧ post .normal st') : TC X (.region id ops.toArray true) st post := by
  obtain ⟨es, st', hrun, hok, hIs, hpost⟩ := h
  obtain ⟨hlen, hst', hstep⟩ := hrun.spec
  simp only [orderOk, Bool.and_eq_true] at hok
  obtain ⟨⟨hedge, hpairs⟩, hstale⟩ := hok
  have hE := edgesOk_spec hedge
  have hP := pairsOk_spec hpairs
  have hall : st' = S st es (fun _ => true) ops.length := by rw [foldl_take_S, List.take_of_length_le (by omega), hst']
  have hesd : ∀ (k : Nat) e, es[k]? = some e → ∃ o b, ops[k]? = some o ∧ (befs ops)[k]? = some b ∧ e.d = o.dst ∧ k < ops.length := by
    intro k e he
    have hk : k < es.length := by rcases Nat.lt_or_ge k es.length with h | h; exact h; simp [List.getElem?_eq_none h] at he
    have ho : ops[k]? = some ops[k] := by simp [show k < ops.length by omega]
    have hb : k < (befs ops).length := by rw [befs_length]; omega
    exact ⟨ops[k], (befs ops)[k], ho, by simp [hb], (hstep k _ e ho he).2, by omega⟩
  have hns : ∀ (k : Nat) e d, es[k]? = some e → e.nw = some d → noLoc d st.sl = true := by
    have : ∀ (l : List Ef), noStale st.sl l = true → ∀ (k : Nat) e d, l[k]? = some e → e.nw = some d → noLoc d st.sl = true := by
      intro l
      induction l with
      | nil => intro _ k e d h; simp at h
      | cons x l ih =>
        intro hl k e d he hd
        simp only [noStale, Bool.and_eq_true] at hl
        cases k with
        | zero => simp at he; subst he; simpa [hd] using hl.1
        | succ k => simp at he; exact ih hl.2 k e d he hd
    exact this es hstale
  intro a w hi
  refine wp_region_any hm ?_
  -- the invariant
  have main : ∀ (fuel : Nat) (listed : Array Bool) (a : Act) (w : World), listed.size = ops.length → cnt ops.length (fun k => listed.getD k false) = fuel →
      (∀ j b, listed.getD j false = true → (befs ops)[j]? = some b → ∀ i ∈ b, listed.getD i false = true) →
      Inv X (S st es (fun k => listed.getD k false) ops.length) a w →
      wpAny X.P .any ops.toArray (fun e a' w' => ∃ st', post e st' ∧ Inv X st' a' w') fuel listed a w := by
    intro fuel
    induction fuel with
    | zero =>
      intro listed a w hsz hc hcl hinv
      have hz := cnt_zero hc
      refine ⟨?_, st', hpost, ?_⟩
      · unfold Region.ready
        rw [List.filter_eq_nil_iff]
        intro i hi
        simp at hi
        have h1 := hz i hi
        have h2 : i < listed.size := by omega
        simp [h2] at h1
        simp [h2, h1]
      · have e : S st es (fun k => listed.getD k false) ops.length = st' := by
          rw [hall]
          have : ∀ n, n ≤ ops.length → S st es (fun k => listed.getD k false) n = S st es (fun _ => true) n := by
            intro n
            induction n with
            | zero => intro _; rfl
            | succ n ih =>
              intro hn
              simp only [S, ih (by omega), hz n (by omega)]
          exact this _ (Nat.le_refl _)
        rw [← e]; exact hinv
    | succ fuel ih =>
      intro listed a w hsz hc hcl hinv
      have mem_ready : ∀ i, i ∈ Region.ready .any ops.toArray listed ↔ i < ops.length ∧ listed.getD i true = false ∧ ∃ o, ops[i]? = some o ∧ ∀ e ∈ o.after.toList, Region.binds .any e = true → listed.getD e.on false = true := by
        intro i
        unfold Region.ready
        rw [List.mem_filter]
        simp only [List.mem_range, List.size_toArray, Bool.and_eq_true, Bool.not_eq_true', List.getElem?_toArray]
        constructor
        · rintro ⟨h1, h2, h3⟩
          refine ⟨h1, h2, ops[i], by simp [h1], ?_⟩
          simp [h1] at h3
          intro e he hb
          have he' : e ∈ ops[i].after := by simpa using he
          obtain ⟨n, hn, rfl⟩ := Array.mem_iff_getElem.1 he'
          rcases h3 n hn with h4 | h4
          · rw [h4] at hb; cases hb
          · simpa using h4
        · rintro ⟨h1, h2, o, h3, h4⟩
          refine ⟨h1, h2, ?_⟩
          have : ops[i] = o := by simpa [h1] using h3
          simp [h1, this]
          intro n hn
          cases hb : Region.binds .any o.after[n] with
          | false => exact .inl rfl
          | true => right; simpa using h4 o.after[n] (by simp) hb
      refine ⟨?_, ?_⟩
      · intro hr
        obtain ⟨i, h1, h2, h3⟩ := cnt_pos (m := ops.length) (f := fun k => listed.getD k false) (by omega)
        have : i ∈ Region.ready .any ops.toArray listed := by
          rw [mem_ready]
          have hls : i < listed.size := by omega
          refine ⟨h1, by simp [hls] at h2 ⊢; exact h2, ops[i], by simp [h1], ?_⟩
          intro e he hb
          have := hE i ops[i] (by simp [h1]) e he hb
          exact h3 e.on (by omega)
        rw [hr] at this; cases this
      · intro i hir
        obtain ⟨hi1, hi2, o, ho, hedges⟩ := (mem_ready i).1 hir
        have hls : i < listed.size := by omega
        have hLi : listed.getD i false = false := by simp [hls] at hi2 ⊢; exact hi2
        have hel : i < es.length := by omega
        obtain ⟨e, he⟩ : ∃ e, es[i]? = some e := ⟨es[i], by simp [hel]⟩
        have hbl : i < (befs ops).length := by rw [befs_length]; exact hi1
        obtain ⟨bi, hbi⟩ : ∃ b, (befs ops)[i]? = some b := ⟨(befs ops)[i], by simp [hbl]⟩
        -- what comes ahead of i is done
        have ahead : ∀ k, k ∈ bi → listed.getD k false = true := by
          intro k hk
          obtain ⟨ed, h1, h2, h3⟩ := befs_mem ho hbi hk
          have h4 := hedges ed h1 h2
          rcases h3 with h3 | ⟨b', h5, _, h6⟩
          · rw [← h3]; exact h4
          · exact hcl _ b' h4 h5 k h6
        have early : ∀ (k : Nat) f, k < i → es[k]? = some f → ∀ x, ops[k]? = some x → confl ops.toArray x o f e = true → listed.getD k false = true := by
          intro k f hk hf x hx hc
          have := (hP k i x f o e bi hk hx hf ho he hbi).1 hc
          simp at this
          exact ahead k this
        have late : ∀ (k : Nat) f, i < k → es[k]? = some f → ∀ x, ops[k]? = some x → confl ops.toArray o x e f = true → listed.getD k false = false := by
          intro k f hk hf x hx hc
          obtain ⟨_, b, _, hb, _, _⟩ := hesd k f hf
          have := (hP i k o e x f b hk ho he hx hf hb).1 hc
          simp at this
          cases hl : listed.getD k false with
          | false => rfl
          | true => rw [hcl k b hl hb i this] at hLi; cases hLi
        obtain ⟨hstepi, hedi⟩ := hstep i o e ho he
        have hSi : (es.take i).foldl (fun s e => e.app s) st = S st es (fun _ => true) i := (foldl_take_S st es i).symm
        rw [hSi] at hstepi
        have hWslot : ∀ t k, (slotPart es t).W k = true → ∃ f x, es[k]? = some f ∧ ops[k]? = some x ∧ f.d = some t ∧ x.dst = some t := by
          intro t k hw
          simp only [slotPart] at hw
          split at hw
          · rename_i f hf
            split at hw
            · rename_i d hd
              have := Nat.eq_of_beq_eq_true hw
              subst this
              obtain ⟨x, b, hx, _, hxd, _⟩ := hesd k f hf
              exact ⟨f, x, hf, hx, hd, by rw [← hxd]; exact hd⟩
            · cases hw
          · cases hw
        have hWbox : ∀ t k, (boxPart es t).W k = true → ∃ f x, es[k]? = some f ∧ ops[k]? = some x ∧ t ∈ f.wb.map (·.1) := by
          intro t k hw
          simp only [boxPart] at hw
          split at hw
          · rename_i f hf
            obtain ⟨x, b, hx, _, _, _⟩ := hesd k f hf
            exact ⟨f, x, hf, hx, has_iff.1 hw⟩
          · cases hw
        have hWheap : ∀ k, (heapPart es).W k = true → ∃ f x, es[k]? = some f ∧ ops[k]? = some x ∧ f.wh.isSome = true := by
          intro k hw
          simp only [heapPart] at hw
          split at hw
          · rename_i f hf
            obtain ⟨x, b, hx, _, _, _⟩ := hesd k f hf
            exact ⟨f, x, hf, hx, hw⟩
          · cases hw
        have anyhas : ∀ (l : List (Nat × List M)) (r : List Nat) (t : Nat), t ∈ l.map (·.1) → t ∈ r → (l.any fun p => has r p.1) = true := by
          intro l r t h1 h2
          rw [List.any_eq_true]
          obtain ⟨p, hp, rfl⟩ := List.mem_map.1 h1
          exact ⟨p, hp, has_iff.2 h2⟩
        have hag : Ag ops.toArray o e (S st es (fun _ => true) i) (S st es (fun k => listed.getD k false) ops.length) := by
          refine ⟨?_, ?_, ?_, ?_⟩
          · intro t ht
            refine S_agree (slotPart es t) _ i ops.length (by omega) ?_ ?_
            · intro k hk hw
              obtain ⟨f, x, hf, hx, _, hxd⟩ := hWslot t k hw
              refine early k f hk hf x hx ?_
              have : has (slotsOf ops.toArray o) t = true := has_iff.2 (by simp [slotsOf, ht])
              simp [confl, hxd, this]
            · intro k hk hk2 hw
              by_cases hki : k = i
              · rw [hki]; exact hLi
              · obtain ⟨f, x, hf, hx, _, hxd⟩ := hWslot t k hw
                refine late k f (by omega) hf x hx ?_
                have : has (slotsOf ops.toArray o) t = true := has_iff.2 (by simp [slotsOf, ht])
                simp [confl, hxd, this]
          · intro t ht
            refine S_agree (boxPart es t) _ i ops.length (by omega) ?_ ?_
            · intro k hk hw
              obtain ⟨f, x, hf, hx, hft⟩ := hWbox t k hw
              refine early k f hk hf x hx ?_
              have := anyhas f.wb _ t hft ht
              simp [confl, this]
            · intro k hk hk2 hw
              by_cases hki : k = i
              · rw [hki]; exact hLi
              · obtain ⟨f, x, hf, hx, hft⟩ := hWbox t k hw
                refine late k f (by omega) hf x hx ?_
                have := anyhas f.wb _ t hft ht
                simp [confl, this]
          · intro hrh
            refine S_agree (heapPart es) _ i ops.length (by omega) ?_ ?_
            · intro k hk hw
              obtain ⟨f, x, hf, hx, hfw⟩ := hWheap k hw
              refine early k f hk hf x hx ?_
              simp only [Bool.or_eq_true] at hrh
              rcases hrh with hrh | hrh <;> simp [confl, hfw, hrh]
            · intro k hk hk2 hw
              by_cases hki : k = i
              · rw [hki]; exact hLi
              · obtain ⟨f, x, hf, hx, hfw⟩ := hWheap k hw
                refine late k f (by omega) hf x hx ?_
                simp only [Bool.or_eq_true] at hrh
                rcases hrh with hrh | hrh <;> simp [confl, hfw, hrh]
          · intro d hd t oo hg
            -- no stale address
            have key : ∀ n, n ≤ ops.length → get (S st es (fun k => listed.getD k false) n).sl t = some (.loc d oo) → False := by
              intro n
              induction n with
              | zero =>
                intro _ hg
                exact noLoc_get (hns i e d he hd) hg
              | succ n ihn =>
                intro hn hg
                simp only [S] at hg
                cases hen : es[n]? with
                | none => simp only [hen] at hg; exact ihn (by omega) hg
                | some f =>
                  simp only [hen] at hg
                  cases hl : listed.getD n false with
                  | false => rw [hl] at hg; exact ihn (by omega) hg
                  | true =>
                    rw [hl] at hg
                    simp only [cond_true, Ef.app] at hg
                    obtain ⟨x, b, hx, hb, hxd, _⟩ := hesd n f hen
                    cases hfd : f.d with
                    | none => simp only [hfd] at hg; exact ihn (by omega) hg
                    | some d' =>
                      simp only [hfd] at hg
                      rcases get_cons_eq hg with ⟨_, h2⟩ | ⟨_, h2⟩
                      · have hne : n ≠ i := by rintro rfl; rw [hl] at hLi; cases hLi
                        rcases Nat.lt_or_gt_of_ne hne with hlt | hgt
                        · have := (hP n i x f o e bi hlt hx hen ho he hbi).2
                          simp [stale, hd, ← h2] at this
                        · have := late n f hgt hen x hx (by simp [confl, hd, ← h2])
                          rw [this] at hl; cases hl
                      · exact ihn (by omega) h2
            exact key _ (Nat.le_refl _) hg
        have hops := hstepi _ hag (S_heapK I hI0 (fun k f h hk hL hw => (hIs.mem k f hk h hw).resolve_right fun hl => by
          have hki : k ≠ i := by rintro rfl; rw [hLi] at hL; cases hL
          obtain ⟨b, hb, hbi⟩ := lastOf_mem hl i hi1 (Ne.symm hki)
          have := hcl k b hL hb i hbi
          rw [hLi] at this; cases this) _)
        -- the operation
        have hnext : ∀ a' w', Inv X (e.app (S st es (fun k => listed.getD k false) ops.length)) a' w' → wpAny X.P .any ops.toArray (fun e a' w' => ∃ st', post e st' ∧ Inv X st' a' w') fuel (listed.setIfInBounds i true) a' w' := by
          intro a' w' hinv'
          have hfun : (fun k => (listed.setIfInBounds i true).getD k false) = fun k => if k = i then true else listed.getD k false := by
            funext k
            by_cases hk : k = i
            · subst hk; simp [hls]
            · simp [hk, Array.getElem?_setIfInBounds_ne (Ne.symm hk)]
          refine ih _ a' w' (by simp [hsz]) ?_ ?_ ?_
          · rw [hfun]
            have := cnt_set (m := ops.length) (f := fun k => listed.getD k false) hi1 hLi
            omega
          · intro j b hj hb k hk
            have hj' : (if j = i then true else listed.getD j false) = true := by rw [← congrFun hfun j]; exact hj
            have goal : (if k = i then true else listed.getD k false) = true := by
              by_cases hki : k = i
              · simp [hki]
              · rw [if_neg hki]
                by_cases hji : j = i
                · subst hji
                  rw [hbi] at hb; injection hb with hb; subst hb
                  exact ahead k hk
                · rw [if_neg hji] at hj'
                  exact hcl j b hj' hb k hk
            rw [← congrFun hfun k] at goal; exact goal
          · rw [hfun]
            have g1 : ∀ t, get (S st es (fun k => if k = i then true else listed.getD k false) ops.length).sl t = get (e.app (S st es (fun k => listed.getD k false) ops.length)).sl t := by
              intro t
              refine S_put (slotPart es t) _ i ops.length hi1 e he hLi ?_
              intro hwi k hk hk2 hwk
              obtain ⟨f, x, hf, hx, _, hxd⟩ := hWslot t k hwk
              obtain ⟨f', x', hf', hx', _, hxd'⟩ := hWslot t i hwi
              rw [ho] at hx'; injection hx' with hx'; subst hx'
              refine late k f hk hf x hx ?_
              have : has (slotsOf ops.toArray o) t = true := has_iff.2 (by simp [slotsOf, hxd'])
              simp [confl, hxd, this]
            have g2 : ∀ t, get (S st es (fun k => if k = i then true else listed.getD k false) ops.length).bx t = get (e.app (S st es (fun k => listed.getD k false) ops.length)).bx t := by
              intro t
              refine S_put (boxPart es t) _ i ops.length hi1 e he hLi ?_
              intro hwi k hk hk2 hwk
              obtain ⟨f, x, hf, hx, hft⟩ := hWbox t k hwk
              obtain ⟨f', x', hf', hx', hft'⟩ := hWbox t i hwi
              rw [he] at hf'; injection hf' with hf'; subst hf'
              refine late k f hk hf x hx ?_
              have := anyhas f.wb (e.rb ++ e.wb.map (·.1)) t hft (List.mem_append.2 (.inr hft'))
              simp [confl, this]
            have g3 : (S st es (fun k => if k = i then true else listed.getD k false) ops.length).H = (e.app (S st es (fun k => listed.getD k false) ops.length)).H := by
              refine S_put (heapPart es) _ i ops.length hi1 e he hLi ?_
              intro hwi k hk hk2 hwk
              obtain ⟨f, x, hf, hx, hfw⟩ := hWheap k hwk
              obtain ⟨f', x', hf', hx', hfw'⟩ := hWheap i hwi
              rw [he] at hf'; injection hf' with hf'; subst hf'
              refine late k f hk hf x hx ?_
              simp [confl, hfw, hfw']
            have := Inv.weak (X := X) (sl := (e.app (S st es (fun k => listed.getD k false) ops.length)).sl) (bx := (e.app (S st es (fun k => listed.getD k false) ops.length)).bx) (H := (e.app (S st es (fun k => listed.getD k false) ops.length)).H)
              (sl' := (S st es (fun k => if k = i then true else listed.getD k false) ops.length).sl) (bx' := (S st es (fun k => if k = i then true else listed.getD k false) ops.length).bx) hinv'
              (fun t v hv => by rw [← g1]; exact hv) g2
            rw [← g3] at this
            exact this
        have := hops a w hinv (wpAny X.P .any ops.toArray (fun e a' w' => ∃ st', post e st' ∧ Inv X st' a' w') fuel (listed.setIfInBounds i true)) (fun e a' w' => ∃ st', post e st' ∧ Inv X st' a' w') hnext
        unfold wpOp
        have hopi : ops.toArray[i]? = some o := by simpa using ho
        simp only [hopi]
        split
        · rename_i hw; rw [if_pos hw] at this; exact .inl this
        · rename_i hw; rw [if_neg hw] at this; exact this
  refine main _ _ a _ (by simp) ?_ ?_ ?_
  · have : ∀ n, cnt n (fun k => (Array.replicate ops.toArray.size false).getD k false) = n := by
      intro n
      induction n with
      | zero => rfl
      | succ n ih =>
        simp only [cnt, ih]
        have : (Array.replicate ops.toArray.size false).getD n false = false := by simp [Array.getElem?_replicate]; split <;> rfl
        rw [this]; rfl
    simpa using this ops.length
  · intro j b hj
    have : (Array.replicate ops.toArray.size false).getD j false = false := by simp [Array.getElem?_replicate]; split <;> rfl
    rw [this] at hj; cases hj
  · have hz : ∀ n, S st es (fun k => (Array.replicate ops.toArray.size false).getD k false) n = st := by
      intro n
      induction n with
      | zero => rfl
      | succ n ih =>
        have : (Array.replicate ops.toArray.size false).getD n false = false := by simp [Array.getElem?_replicate]; split <;> rfl
        simp only [S, ih, this]
        cases es[n]? <;> rfl
    rw [hz]
    obtain ⟨σ, lam, rfl, hi⟩ := hi
    exact ⟨{ σ with w := { σ.w with drawn := σ.w.drawn + 1 } }, lam, rfl, hi.ext (ExtW.drew _)⟩


theorem RunF.fi {X : Ctx} {I : Hp → Prop} {ops : Array Oper} {l : List Oper} {st st' : St} {es : List Ef} (h : RunF X ops l st es st') : RunFI X I ops l st es st' := by
  induction h with
  | nil st => exact .nil st
  | cons h hd k ih => exact .cons (fun st2 ag _ => h st2 ag) hd ih
theorem AllWhK.all {I : Hp → Prop} {ops : List Oper} : ∀ {es : List Ef} {n : Nat}, (∀ e ∈ es, ∀ h, e.wh = some h → I h) → AllWhK I ops n es
  | [], _, _ => trivial
  | e :: r, n, h => ⟨by split; trivial; rename_i hw; exact .inl (h e List.mem_cons_self _ hw), AllWhK.all fun f hf => h f (List.mem_cons_of_mem _ hf)⟩
theorem TC.draw {X : Ctx} {id : Nat} {ops : List Oper} {st : St} {post : Exit → St → Prop} (hm : X.P.follows .mixedOrders = true)
    (h : TF X ops.toArray ops st fun es st' => orderOk ops st.sl es = true ∧ post .normal st') : TC X (.region id ops.toArray true) st post := by
  obtain ⟨es, st', hrun, hok, hpost⟩ := h
  exact TC.drawK (fun _ => True) trivial hm ⟨es, st', hrun.fi, hok, .all fun _ _ _ _ => trivial, hpost⟩
end Go.Mt

set_option linter.unusedVariables false
set_option linter.unusedSimpArgs false
namespace Go.Mt

section rules
variable {X : Ctx} {ops : Array Oper} {rest : List Oper} {post : List Ef → St → Prop} {sl : List (Nat × V)} {bx : List (Nat × List M)} {H : Hp} {d ty : Nat} {pos : String} {af : Array Edge}

theorem Ag.ev {o : Oper} {e : Ef} {st st2 : St} (h : Ag ops o e st st2) {x : Operand} (hx : x ∈ o.op.operands.toList) : st2.ev x = st.ev x := by
  cases x with
  | tmp t =>
    refine h.sl t ?_
    unfold Oper.looksAt
    refine List.mem_append.2 (.inl ?_)
    rw [List.mem_filterMap]
    exact ⟨.tmp t, hx, rfl⟩
  | _ => rfl

theorem OpT.opS {o : Oper} {st st' : St} {v : V} (hg : o.guard = none) (hd : o.dst = some d) (hn : d < X.n) (h : OpT X o st (eqp v st')) : OpS X ops o st ⟨(d, v) :: st'.sl, st'.bx, st'.H⟩ := by
  rintro a w ⟨σ, lam, rfl, hi⟩ K Q hK
  rw [if_pos (by simp [Region.wanted, hg])]
  refine (h a σ lam hi).wp ?_
  rintro u w' ⟨v', s', σ', lam', ⟨rfl, rfl⟩, rfl, h3, h4⟩
  rw [hd]
  exact hK _ _ ⟨σ', lam', rfl, h3.set hn h4⟩
theorem OpT.opS0 {o : Oper} {st st' : St} {v : V} (hg : o.guard = none) (hd : o.dst = none) (h : OpT X o st (eqp v st')) : OpS X ops o st st' := by
  rintro a w ⟨σ, lam, rfl, hi⟩ K Q hK
  rw [if_pos (by simp [Region.wanted, hg])]
  refine (h a σ lam hi).wp ?_
  rintro u w' ⟨v', s', σ', lam', ⟨rfl, rfl⟩, rfl, h3, h4⟩
  rw [hd]
  exact hK _ _ ⟨σ', lam', rfl, h3⟩

theorem StepF.quiet {o : Oper} {v : V} {rb : List Nat} {rh : Bool} {st : St} (hg : o.guard = none) (hd : o.dst = some d) (hn : d < X.n)
    (h : ∀ st2, Ag ops o ⟨some d, v, rb, [], none, rh, none⟩ st st2 → OpT X o st2 (eqp v st2)) : StepF X ops o ⟨some d, v, rb, [], none, rh, none⟩ st :=
  fun st2 ag => (h st2 ag).opS hg hd hn

theorem StepF.writes {o : Oper} {v : V} {rb : List Nat} {wb : List (Nat × List M)} {st : St} (hg : o.guard = none) (hd : o.dst = none)
    (h : ∀ st2, Ag ops o ⟨none, v, rb, wb, none, false, none⟩ st st2 → OpT X o st2 (eqp v ⟨st2.sl, wb ++ st2.bx, st2.H⟩)) : StepF X ops o ⟨none, v, rb, wb, none, false, none⟩ st :=
  fun st2 ag => (h st2 ag).opS0 hg hd

theorem f_guard_yes {dst : Option Nat} {op : Op} {j g : Nat} {w : Bool} {post : List Ef → St → Prop} (hj : (ops[j]?).bind (·.dst) = some g) (hb : get sl g = some (.m (.d (.bool w))))
    (k : TF X ops (⟨dst, op, ty, pos, af, none⟩ :: rest) ⟨sl, bx, H⟩ post) : TF X ops (⟨dst, op, ty, pos, af, some (j, w)⟩ :: rest) ⟨sl, bx, H⟩ post := by
  obtain ⟨es, st', hr, hp⟩ := k
  cases hr with
  | cons h hd hk =>
    rename_i e es
    refine ⟨e :: es, st', .cons ?_ hd hk, hp⟩
    intro st2 ag
    have hg2 : get st2.sl g = some (.m (.d (.bool w))) := by
      rw [← hb]
      refine ag.sl g ?_
      unfold Oper.looksAt
      refine List.mem_append.2 (.inr ?_)
      simp [hj]
    have hsub : Ag ops ⟨dst, op, ty, pos, af, none⟩ e ⟨sl, bx, H⟩ st2 :=
      ⟨fun t ht => ag.sl t (by
        unfold Oper.looksAt at ht ⊢
        simp only [List.append_nil] at ht
        exact List.mem_append.2 (.inl ht)), ag.bx, ag.H, ag.nw⟩
    have h1 := h st2 hsub
    rintro a w' ⟨σ, lam, hσ, hi⟩ K Q hK
    have h2 := h1 a w' ⟨σ, lam, hσ, hi⟩ K Q hK
    have hw : wants ops ⟨dst, op, ty, pos, af, some (j, w)⟩ st2 = some true := by simp [wants, hj, hg2]
    rw [if_pos (hi.wanted hw)]
    rw [if_pos (by simp [Region.wanted])] at h2
    have ee : execOp a.eval ⟨dst, op, ty, pos, af, some (j, w)⟩ = execOp a.eval ⟨dst, op, ty, pos, af, none⟩ := by cases op <;> rfl
    unfold Oper.wp at h2 ⊢
    rw [ee]; exact h2
theorem f_guard_no {op : Op} {j g : Nat} {w b : Bool} {post : List Ef → St → Prop} (hn : Nat.blt d X.n = true) (hj : (ops[j]?).bind (·.dst) = some g) (hb : get sl g = some (.m (.d (.bool b)))) (hbw : (b == w) = false)
    (k : TF X ops rest ⟨(d, .m (.tup [])) :: sl, bx, H⟩ fun es zz => post (⟨some d, .m (.tup []), [], [], none, false, none⟩ :: es) zz) : TF X ops (⟨some d, op, ty, pos, af, some (j, w)⟩ :: rest) ⟨sl, bx, H⟩ post := by
  refine TF.cons (e := ⟨some d, .m (.tup []), [], [], none, false, none⟩) ?_ rfl k
  intro st2 ag
  have hg2 : get st2.sl g = some (.m (.d (.bool b))) := by
    rw [← hb]
    refine ag.sl g ?_
    unfold Oper.looksAt
    refine List.mem_append.2 (.inr ?_)
    simp [hj]
  rintro a w' ⟨σ, lam, hσ, hi⟩ K Q hK
  have hw : wants ops ⟨some d, op, ty, pos, af, some (j, w)⟩ st2 = some false := by simp [wants, hj, hg2, hbw]
  rw [if_neg (by rw [hi.wanted hw]; simp)]
  exact hK _ _ ⟨σ, lam, hσ, hi.set (blt_lt hn) (.m (.tup [] #[] rfl (by intro i m v h; simp at h)))⟩
theorem f_guard_un {op : Op} {j g : Nat} {w : Bool} {post : List Ef → St → Prop} (hn : Nat.blt d X.n = true) (hj : (ops[j]?).bind (·.dst) = some g) (hb : get sl g = some (.m (.tup [])))
    (k : TF X ops rest ⟨(d, .m (.tup [])) :: sl, bx, H⟩ fun es zz => post (⟨some d, .m (.tup []), [], [], none, false, none⟩ :: es) zz) : TF X ops (⟨some d, op, ty, pos, af, some (j, w)⟩ :: rest) ⟨sl, bx, H⟩ post := by
  refine TF.cons (e := ⟨some d, .m (.tup []), [], [], none, false, none⟩) ?_ rfl k
  intro st2 ag
  have hg2 : get st2.sl g = some (.m (.tup [])) := by
    rw [← hb]
    refine ag.sl g ?_
    unfold Oper.looksAt
    refine List.mem_append.2 (.inr ?_)
    simp [hj]
  rintro a w' ⟨σ, lam, hσ, hi⟩ K Q hK
  have hw : wants ops ⟨some d, op, ty, pos, af, some (j, w)⟩ st2 = some false := by simp [wants, hj, hg2]
  rw [if_neg (by rw [hi.wanted hw]; simp)]
  exact hK _ _ ⟨σ, lam, hσ, hi.set (blt_lt hn) (.m (.tup [] #[] rfl (by intro i m v h; simp at h)))⟩

theorem f_move {x : Operand} {v : V} (hn : Nat.blt d X.n = true) (hx : evs sl x = some v) (k : TF X ops rest ⟨(d, v) :: sl, bx, H⟩ fun es zz => post (⟨some d, v, [], [], none, false, none⟩ :: es) zz) :
    TF X ops (⟨some d, .move x, ty, pos, af, none⟩ :: rest) ⟨sl, bx, H⟩ post :=
  TF.cons (e := ⟨some d, v, [], [], none, false, none⟩) (StepF.quiet rfl rfl (blt_lt hn) fun st2 ag => op_move ((ag.ev (x := x) (by simp [Op.operands, Call.operands])).trans hx)) rfl k
theorem f_assign {x : Operand} {v : V} (hn : Nat.blt d X.n = true) (hx : evs sl x = some v) (k : TF X ops rest ⟨(d, v) :: sl, bx, H⟩ fun es zz => post (⟨some d, v, [], [], none, false, none⟩ :: es) zz) :
    TF X ops (⟨some d, .assign x, ty, pos, af, none⟩ :: rest) ⟨sl, bx, H⟩ post :=
  TF.cons (e := ⟨some d, v, [], [], none, false, none⟩) (StepF.quiet rfl rfl (blt_lt hn) fun st2 ag => op_assign ((ag.ev (x := x) (by simp [Op.operands, Call.operands])).trans hx)) rfl k
theorem f_pick {c x y : Operand} {b : Bool} {v : V} (hn : Nat.blt d X.n = true) (hc : evs sl c = some (.m (.d (.bool b)))) (hx : evs sl (bif b then x else y) = some v) (k : TF X ops rest ⟨(d, v) :: sl, bx, H⟩ fun es zz => post (⟨some d, v, [], [], none, false, none⟩ :: es) zz) :
    TF X ops (⟨some d, .pick c x y, ty, pos, af, none⟩ :: rest) ⟨sl, bx, H⟩ post := by
  refine TF.cons (e := ⟨some d, v, [], [], none, false, none⟩) (StepF.quiet rfl rfl (blt_lt hn) fun st2 ag => ?_) rfl k
  cases b
  · exact op_pick_f ((ag.ev (x := c) (by simp [Op.operands])).trans hc) ((ag.ev (x := y) (by simp [Op.operands])).trans hx)
  · exact op_pick_t ((ag.ev (x := c) (by simp [Op.operands])).trans hc) ((ag.ev (x := x) (by simp [Op.operands])).trans hx)
theorem f_int {op : BinOp} {xt yt : Nat} {x y : Operand} {kk : IntKind} {m n : Int} {r : D} (hn : Nat.blt d X.n = true) (hx : evs sl x = some (.m (.d (.int kk m)))) (hy : evs sl y = some (.m (.d (.int kk n)))) (hr : intBin op kk m n = some r) (k : TF X ops rest ⟨(d, (.m (.d r))) :: sl, bx, H⟩ fun es zz => post (⟨some d, (.m (.d r)), [], [], none, false, none⟩ :: es) zz) :
    TF X ops (⟨some d, .binOp op xt x y yt, ty, pos, af, none⟩ :: rest) ⟨sl, bx, H⟩ post :=
  TF.cons (e := ⟨some d, (.m (.d r)), [], [], none, false, none⟩) (StepF.quiet rfl rfl (blt_lt hn) fun st2 ag => op_int ((ag.ev (x := x) (by simp [Op.operands, Call.operands])).trans hx) ((ag.ev (x := y) (by simp [Op.operands, Call.operands])).trans hy) hr) rfl k
theorem f_add64 {xt yt : Nat} {x y : Operand} {m n : Int} (hn : Nat.blt d X.n = true) (hx : evs sl x = some (.m (.d (.int .i64 m)))) (hy : evs sl y = some (.m (.d (.int .i64 n)))) (hr : -9223372036854775808 ≤ m + n ∧ m + n ≤ 9223372036854775807) (k : TF X ops rest ⟨(d, (.m (.d (.int .i64 (m + n))))) :: sl, bx, H⟩ fun es zz => post (⟨some d, (.m (.d (.int .i64 (m + n)))), [], [], none, false, none⟩ :: es) zz) :
    TF X ops (⟨some d, .binOp .add xt x y yt, ty, pos, af, none⟩ :: rest) ⟨sl, bx, H⟩ post :=
  TF.cons (e := ⟨some d, (.m (.d (.int .i64 (m + n)))), [], [], none, false, none⟩) (StepF.quiet rfl rfl (blt_lt hn) fun st2 ag => op_int ((ag.ev (x := x) (by simp [Op.operands, Call.operands])).trans hx) ((ag.ev (x := y) (by simp [Op.operands, Call.operands])).trans hy) (by simp [intBin, show IntKind.i64.wrap (m + n) = m + n from IntWalk.i64_in _ hr])) rfl k
theorem f_sub64 {xt yt : Nat} {x y : Operand} {m n : Int} (hn : Nat.blt d X.n = true) (hx : evs sl x = some (.m (.d (.int .i64 m)))) (hy : evs sl y = some (.m (.d (.int .i64 n)))) (hr : -9223372036854775808 ≤ m - n ∧ m - n ≤ 9223372036854775807) (k : TF X ops rest ⟨(d, (.m (.d (.int .i64 (m - n))))) :: sl, bx, H⟩ fun es zz => post (⟨some d, (.m (.d (.int .i64 (m - n)))), [], [], none, false, none⟩ :: es) zz) :
    TF X ops (⟨some d, .binOp .sub xt x y yt, ty, pos, af, none⟩ :: rest) ⟨sl, bx, H⟩ post :=
  TF.cons (e := ⟨some d, (.m (.d (.int .i64 (m - n)))), [], [], none, false, none⟩) (StepF.quiet rfl rfl (blt_lt hn) fun st2 ag => op_int ((ag.ev (x := x) (by simp [Op.operands, Call.operands])).trans hx) ((ag.ev (x := y) (by simp [Op.operands, Call.operands])).trans hy) (by simp [intBin, show IntKind.i64.wrap (m - n) = m - n from IntWalk.i64_in _ hr])) rfl k
theorem f_quo {xt yt : Nat} {x y : Operand} {kk : IntKind} {m n : Int} (hn : Nat.blt d X.n = true) (hx : evs sl x = some (.m (.d (.int kk m)))) (hy : evs sl y = some (.m (.d (.int kk n)))) (hr : (n == 0) = false) (k : TF X ops rest ⟨(d, (.m (.d (.int kk (kk.wrap (m.tdiv n)))))) :: sl, bx, H⟩ fun es zz => post (⟨some d, (.m (.d (.int kk (kk.wrap (m.tdiv n))))), [], [], none, false, none⟩ :: es) zz) :
    TF X ops (⟨some d, .binOp .quo xt x y yt, ty, pos, af, none⟩ :: rest) ⟨sl, bx, H⟩ post :=
  TF.cons (e := ⟨some d, (.m (.d (.int kk (kk.wrap (m.tdiv n))))), [], [], none, false, none⟩) (StepF.quiet rfl rfl (blt_lt hn) fun st2 ag => op_quo ((ag.ev (x := x) (by simp [Op.operands, Call.operands])).trans hx) ((ag.ev (x := y) (by simp [Op.operands, Call.operands])).trans hy) hr) rfl k
theorem f_rem {xt yt : Nat} {x y : Operand} {kk : IntKind} {m n : Int} (hn : Nat.blt d X.n = true) (hx : evs sl x = some (.m (.d (.int kk m)))) (hy : evs sl y = some (.m (.d (.int kk n)))) (hr : (n == 0) = false) (k : TF X ops rest ⟨(d, (.m (.d (.int kk (m.tmod n))))) :: sl, bx, H⟩ fun es zz => post (⟨some d, (.m (.d (.int kk (m.tmod n)))), [], [], none, false, none⟩ :: es) zz) :
    TF X ops (⟨some d, .binOp .rem xt x y yt, ty, pos, af, none⟩ :: rest) ⟨sl, bx, H⟩ post :=
  TF.cons (e := ⟨some d, (.m (.d (.int kk (m.tmod n)))), [], [], none, false, none⟩) (StepF.quiet rfl rfl (blt_lt hn) fun st2 ag => op_rem ((ag.ev (x := x) (by simp [Op.operands, Call.operands])).trans hx) ((ag.ev (x := y) (by simp [Op.operands, Call.operands])).trans hy) hr) rfl k
theorem f_not {x : Operand} {xt : Nat} {b : Bool} (hn : Nat.blt d X.n = true) (hx : evs sl x = some (.m (.d (.bool b)))) (k : TF X ops rest ⟨(d, (.m (.d (.bool (!b))))) :: sl, bx, H⟩ fun es zz => post (⟨some d, (.m (.d (.bool (!b)))), [], [], none, false, none⟩ :: es) zz) :
    TF X ops (⟨some d, .unOp .not xt x, ty, pos, af, none⟩ :: rest) ⟨sl, bx, H⟩ post :=
  TF.cons (e := ⟨some d, (.m (.d (.bool (!b)))), [], [], none, false, none⟩) (StepF.quiet rfl rfl (blt_lt hn) fun st2 ag => op_not ((ag.ev (x := x) (by simp [Op.operands, Call.operands])).trans hx)) rfl k
theorem f_streq {x y : Operand} {xt yt : Nat} {s u : ByteArray} (hn : Nat.blt d X.n = true) (hx : evs sl x = some (.m (.d (.str s)))) (hy : evs sl y = some (.m (.d (.str u)))) (k : TF X ops rest ⟨(d, (.m (.d (.bool (decide (s = u)))))) :: sl, bx, H⟩ fun es zz => post (⟨some d, (.m (.d (.bool (decide (s = u))))), [], [], none, false, none⟩ :: es) zz) :
    TF X ops (⟨some d, .binOp .eql xt x y yt, ty, pos, af, none⟩ :: rest) ⟨sl, bx, H⟩ post :=
  TF.cons (e := ⟨some d, (.m (.d (.bool (decide (s = u))))), [], [], none, false, none⟩) (StepF.quiet rfl rfl (blt_lt hn) fun st2 ag => op_streq ((ag.ev (x := x) (by simp [Op.operands, Call.operands])).trans hx) ((ag.ev (x := y) (by simp [Op.operands, Call.operands])).trans hy)) rfl k
theorem f_strne {x y : Operand} {xt yt : Nat} {s u : ByteArray} (hn : Nat.blt d X.n = true) (hx : evs sl x = some (.m (.d (.str s)))) (hy : evs sl y = some (.m (.d (.str u)))) (k : TF X ops rest ⟨(d, (.m (.d (.bool (!decide (s = u)))))) :: sl, bx, H⟩ fun es zz => post (⟨some d, (.m (.d (.bool (!decide (s = u))))), [], [], none, false, none⟩ :: es) zz) :
    TF X ops (⟨some d, .binOp .neq xt x y yt, ty, pos, af, none⟩ :: rest) ⟨sl, bx, H⟩ post :=
  TF.cons (e := ⟨some d, (.m (.d (.bool (!decide (s = u))))), [], [], none, false, none⟩) (StepF.quiet rfl rfl (blt_lt hn) fun st2 ag => op_strne ((ag.ev (x := x) (by simp [Op.operands, Call.operands])).trans hx) ((ag.ev (x := y) (by simp [Op.operands, Call.operands])).trans hy)) rfl k
theorem f_stradd {x y : Operand} {xt yt : Nat} {s u : ByteArray} (hn : Nat.blt d X.n = true) (hx : evs sl x = some (.m (.d (.str s)))) (hy : evs sl y = some (.m (.d (.str u)))) (hs : s.size + u.size ≤ 9223372036854775807) (k : TF X ops rest ⟨(d, (.m (.d (.str (s ++ u))))) :: sl, bx, H⟩ fun es zz => post (⟨some d, (.m (.d (.str (s ++ u)))), [], [], none, false, none⟩ :: es) zz) :
    TF X ops (⟨some d, .binOp .add xt x y yt, ty, pos, af, none⟩ :: rest) ⟨sl, bx, H⟩ post :=
  TF.cons (e := ⟨some d, (.m (.d (.str (s ++ u)))), [], [], none, false, none⟩) (StepF.quiet rfl rfl (blt_lt hn) fun st2 ag => op_stradd ((ag.ev (x := x) (by simp [Op.operands, Call.operands])).trans hx) ((ag.ev (x := y) (by simp [Op.operands, Call.operands])).trans hy) hs) rfl k
theorem f_box {t : Nat} {x : Operand} {v : D} (hn : Nat.blt d X.n = true) (hx : evs sl x = some (.m (.d v))) (k : TF X ops rest ⟨(d, (.m (.d (.pim (dcells v) 0)))) :: sl, bx, H⟩ fun es zz => post (⟨some d, (.m (.d (.pim (dcells v) 0))), [], [], none, false, none⟩ :: es) zz) :
    TF X ops (⟨some d, .box t x, ty, pos, af, none⟩ :: rest) ⟨sl, bx, H⟩ post :=
  TF.cons (e := ⟨some d, (.m (.d (.pim (dcells v) 0))), [], [], none, false, none⟩) (StepF.quiet rfl rfl (blt_lt hn) fun st2 ag => op_box ((ag.ev (x := x) (by simp [Op.operands, Call.operands])).trans hx)) rfl k
theorem f_fieldD {s f : Nat} {x : Operand} {cs : List D} {off o : Nat} [hf : TyField X.P s f o] (hn : Nat.blt d X.n = true) (hx : evs sl x = some (.m (.d (.pim cs off)))) (k : TF X ops rest ⟨(d, (.m (.d (.pim cs (off + o))))) :: sl, bx, H⟩ fun es zz => post (⟨some d, (.m (.d (.pim cs (off + o)))), [], [], none, false, none⟩ :: es) zz) :
    TF X ops (⟨some d, .fieldAddr s x f, ty, pos, af, none⟩ :: rest) ⟨sl, bx, H⟩ post :=
  TF.cons (e := ⟨some d, (.m (.d (.pim cs (off + o)))), [], [], none, false, none⟩) (StepF.quiet rfl rfl (blt_lt hn) fun st2 ag => op_fieldD ((ag.ev (x := x) (by simp [Op.operands, Call.operands])).trans hx)) rfl k
theorem f_fieldL {s f : Nat} {x : Operand} {t off o : Nat} [hf : TyField X.P s f o] (hn : Nat.blt d X.n = true) (hx : evs sl x = some (.loc t off)) (k : TF X ops rest ⟨(d, (.loc t (off + o))) :: sl, bx, H⟩ fun es zz => post (⟨some d, (.loc t (off + o)), [], [], none, false, none⟩ :: es) zz) :
    TF X ops (⟨some d, .fieldAddr s x f, ty, pos, af, none⟩ :: rest) ⟨sl, bx, H⟩ post :=
  TF.cons (e := ⟨some d, (.loc t (off + o)), [], [], none, false, none⟩) (StepF.quiet rfl rfl (blt_lt hn) fun st2 ag => op_fieldL ((ag.ev (x := x) (by simp [Op.operands, Call.operands])).trans hx)) rfl k
theorem f_fieldR {s f : Nat} {x : Operand} {i off o : Nat} [hf : TyField X.P s f o] (hn : Nat.blt d X.n = true) (hx : evs sl x = some (.m (.ref i off))) (k : TF X ops rest ⟨(d, (.m (.ref i (off + o)))) :: sl, bx, H⟩ fun es zz => post (⟨some d, (.m (.ref i (off + o))), [], [], none, false, none⟩ :: es) zz) :
    TF X ops (⟨some d, .fieldAddr s x f, ty, pos, af, none⟩ :: rest) ⟨sl, bx, H⟩ post :=
  TF.cons (e := ⟨some d, (.m (.ref i (off + o))), [], [], none, false, none⟩) (StepF.quiet rfl rfl (blt_lt hn) fun st2 ag => op_fieldR ((ag.ev (x := x) (by simp [Op.operands, Call.operands])).trans hx)) rfl k
theorem f_fieldW {s f : Nat} {x : Operand} {i ver off o : Nat} [hf : TyField X.P s f o] (hn : Nat.blt d X.n = true) (hx : evs sl x = some (.m (.rref i ver off))) (k : TF X ops rest ⟨(d, (.m (.rref i ver (off + o)))) :: sl, bx, H⟩ fun es zz => post (⟨some d, (.m (.rref i ver (off + o))), [], [], none, false, none⟩ :: es) zz) :
    TF X ops (⟨some d, .fieldAddr s x f, ty, pos, af, none⟩ :: rest) ⟨sl, bx, H⟩ post :=
  TF.cons (e := ⟨some d, (.m (.rref i ver (off + o))), [], [], none, false, none⟩) (StepF.quiet rfl rfl (blt_lt hn) fun st2 ag => op_fieldW ((ag.ev (x := x) (by simp [Op.operands, Call.operands])).trans hx)) rfl k
theorem f_loadDc {t : Nat} {x : Operand} {cs : List D} {off : Nat} {v : D} [ht : TyCell X.P t] (hn : Nat.blt d X.n = true) (hx : evs sl x = some (.m (.d (.pim cs off)))) (hr : cs[off]? = some v) (k : TF X ops rest ⟨(d, (.m (.d v))) :: sl, bx, H⟩ fun es zz => post (⟨some d, (.m (.d v)), [], [], none, false, none⟩ :: es) zz) :
    TF X ops (⟨some d, .load t x, ty, pos, af, none⟩ :: rest) ⟨sl, bx, H⟩ post :=
  TF.cons (e := ⟨some d, (.m (.d v)), [], [], none, false, none⟩) (StepF.quiet rfl rfl (blt_lt hn) fun st2 ag => op_loadDc ((ag.ev (x := x) (by simp [Op.operands, Call.operands])).trans hx) hr) rfl k
theorem f_loadDw {t n : Nat} {x : Operand} {cs : List D} [ht : TyAgg X.P t n] (hn : Nat.blt d X.n = true) (hx : evs sl x = some (.m (.d (.pim cs 0)))) (hr : cs.length = n) (k : TF X ops rest ⟨(d, (.m (.d (.agg cs)))) :: sl, bx, H⟩ fun es zz => post (⟨some d, (.m (.d (.agg cs))), [], [], none, false, none⟩ :: es) zz) :
    TF X ops (⟨some d, .load t x, ty, pos, af, none⟩ :: rest) ⟨sl, bx, H⟩ post :=
  TF.cons (e := ⟨some d, (.m (.d (.agg cs))), [], [], none, false, none⟩) (StepF.quiet rfl rfl (blt_lt hn) fun st2 ag => op_loadDw ((ag.ev (x := x) (by simp [Op.operands, Call.operands])).trans hx) hr) rfl k
theorem f_loadDa {t n : Nat} {x : Operand} {cs ds : List D} {off : Nat} [ht : TyAgg X.P t n] (hn : Nat.blt d X.n = true) (hx : evs sl x = some (.m (.d (.pim cs off)))) (hr : sub cs off n = some ds) (k : TF X ops rest ⟨(d, (.m (.d (.agg ds)))) :: sl, bx, H⟩ fun es zz => post (⟨some d, (.m (.d (.agg ds))), [], [], none, false, none⟩ :: es) zz) :
    TF X ops (⟨some d, .load t x, ty, pos, af, none⟩ :: rest) ⟨sl, bx, H⟩ post :=
  TF.cons (e := ⟨some d, (.m (.d (.agg ds))), [], [], none, false, none⟩) (StepF.quiet rfl rfl (blt_lt hn) fun st2 ag => op_loadDa ((ag.ev (x := x) (by simp [Op.operands, Call.operands])).trans hx) (Nat.ble_eq_true_of_le (sub_eq hr).1) (sub_eq hr).2) rfl k
theorem f_loadLc {T : Nat} {x : Operand} {t off : Nat} {cs : List M} {m : M} [ht : TyCell X.P T] (hn : Nat.blt d X.n = true) (hx : evs sl x = some (.loc t off)) (hb : get bx t = some cs) (hr : cs[off]? = some m) (k : TF X ops rest ⟨(d, (.m m)) :: sl, bx, H⟩ fun es zz => post (⟨some d, (.m m), [t], [], none, false, none⟩ :: es) zz) :
    TF X ops (⟨some d, .load T x, ty, pos, af, none⟩ :: rest) ⟨sl, bx, H⟩ post :=
  TF.cons (e := ⟨some d, (.m m), [t], [], none, false, none⟩) (StepF.quiet rfl rfl (blt_lt hn) fun st2 ag => op_loadLc ((ag.ev (x := x) (by simp [Op.operands, Call.operands])).trans hx) ((ag.bx t (by simp)).trans hb) hr) rfl k
theorem f_loadLa {T n : Nat} {x : Operand} {t off : Nat} {cs cs2 : List M} {ds : List D} [ht : TyAgg X.P T n] (hn : Nat.blt d X.n = true) (hx : evs sl x = some (.loc t off)) (hb : get bx t = some cs) (hs : sub cs off n = some cs2) (hr : allD cs2 = some ds) (k : TF X ops rest ⟨(d, (.m (.d (.agg ds)))) :: sl, bx, H⟩ fun es zz => post (⟨some d, (.m (.d (.agg ds))), [t], [], none, false, none⟩ :: es) zz) :
    TF X ops (⟨some d, .load T x, ty, pos, af, none⟩ :: rest) ⟨sl, bx, H⟩ post :=
  TF.cons (e := ⟨some d, (.m (.d (.agg ds))), [t], [], none, false, none⟩) (StepF.quiet rfl rfl (blt_lt hn) fun st2 ag => op_loadLa ((ag.ev (x := x) (by simp [Op.operands, Call.operands])).trans hx) ((ag.bx t (by simp)).trans hb) (Nat.ble_eq_true_of_le (sub_eq hs).1) (by rw [(sub_eq hs).2]; exact hr)) rfl k
theorem f_nilCheck {x : Operand} {v : V} (hn : Nat.blt d X.n = true) (hx : evs sl x = some v) (hv : ptrOk v = true) (k : TF X ops rest ⟨(d, v) :: sl, bx, H⟩ fun es zz => post (⟨some d, v, [], [], none, false, none⟩ :: es) zz) :
    TF X ops (⟨some d, .nilCheck x, ty, pos, af, none⟩ :: rest) ⟨sl, bx, H⟩ post :=
  TF.cons (e := ⟨some d, v, [], [], none, false, none⟩) (StepF.quiet rfl rfl (blt_lt hn) fun st2 ag => op_nilCheck ((ag.ev (x := x) (by simp [Op.operands, Call.operands])).trans hx) hv) rfl k
theorem f_lenS {t e : Nat} {x : Operand} {v : D} {n : Nat} [ht : TySlice X.P t e] (hn : Nat.blt d X.n = true) (hx : evs sl x = some (.m (.d v))) (hl : slLen v = some n) (k : TF X ops rest ⟨(d, (.m (.d (.int .i64 n)))) :: sl, bx, H⟩ fun es zz => post (⟨some d, (.m (.d (.int .i64 n))), [], [], none, false, none⟩ :: es) zz) :
    TF X ops (⟨some d, .call ⟨.builtin .len, #[x], #[t]⟩, ty, pos, af, none⟩ :: rest) ⟨sl, bx, H⟩ post :=
  TF.cons (e := ⟨some d, (.m (.d (.int .i64 n))), [], [], none, false, none⟩) (StepF.quiet rfl rfl (blt_lt hn) fun st2 ag => op_lenS ((ag.ev (x := x) (by simp [Op.operands, Call.operands])).trans hx) hl) rfl k
theorem f_lenT {t : Nat} {x : Operand} {s : ByteArray} [ht : TyStr X.P t] (hn : Nat.blt d X.n = true) (hx : evs sl x = some (.m (.d (.str s)))) (k : TF X ops rest ⟨(d, (.m (.d (.int .i64 s.size)))) :: sl, bx, H⟩ fun es zz => post (⟨some d, (.m (.d (.int .i64 s.size))), [], [], none, false, none⟩ :: es) zz) :
    TF X ops (⟨some d, .call ⟨.builtin .len, #[x], #[t]⟩, ty, pos, af, none⟩ :: rest) ⟨sl, bx, H⟩ post :=
  TF.cons (e := ⟨some d, (.m (.d (.int .i64 s.size))), [], [], none, false, none⟩) (StepF.quiet rfl rfl (blt_lt hn) fun st2 ag => op_lenT ((ag.ev (x := x) (by simp [Op.operands, Call.operands])).trans hx)) rfl k
theorem f_indexD {t e n : Nat} {x y : Operand} {rows : List (List D)} {r : List D} {kk : IntKind} {i : Int} [ht : TySlice X.P t e] [hs : TySz X.P e n] (hn : Nat.blt d X.n = true) (hx : evs sl x = some (.m (.d (.sl rows)))) (hy : evs sl y = some (.m (.d (.int kk i)))) (h0 : 0 ≤ i) (hr : rows[i.toNat]? = some r) (hl : r.length = n) (k : TF X ops rest ⟨(d, (.m (.d (.pim r 0)))) :: sl, bx, H⟩ fun es zz => post (⟨some d, (.m (.d (.pim r 0))), [], [], none, false, none⟩ :: es) zz) :
    TF X ops (⟨some d, .indexAddr t x y, ty, pos, af, none⟩ :: rest) ⟨sl, bx, H⟩ post :=
  TF.cons (e := ⟨some d, (.m (.d (.pim r 0))), [], [], none, false, none⟩) (StepF.quiet rfl rfl (blt_lt hn) fun st2 ag => op_indexD ((ag.ev (x := x) (by simp [Op.operands, Call.operands])).trans hx) ((ag.ev (x := y) (by simp [Op.operands, Call.operands])).trans hy) h0 hr hl) rfl k
theorem f_extract {x : Operand} {i : Nat} {vs : List M} {m : M} (hn : Nat.blt d X.n = true) (hx : evs sl x = some (.m (.tup vs))) (hm : vs[i]? = some m) (k : TF X ops rest ⟨(d, (.m m)) :: sl, bx, H⟩ fun es zz => post (⟨some d, (.m m), [], [], none, false, none⟩ :: es) zz) :
    TF X ops (⟨some d, .extract x i, ty, pos, af, none⟩ :: rest) ⟨sl, bx, H⟩ post :=
  TF.cons (e := ⟨some d, (.m m), [], [], none, false, none⟩) (StepF.quiet rfl rfl (blt_lt hn) fun st2 ag => op_extract ((ag.ev (x := x) (by simp [Op.operands, Call.operands])).trans hx) hm) rfl k
theorem Ag.evDs {o : Oper} {e : Ef} {st st2 : St} (h : Ag ops o e st st2) : ∀ {xs : List Operand}, (∀ x ∈ xs, x ∈ o.op.operands.toList) → st2.evDs xs = st.evDs xs
  | [], _ => rfl
  | x :: r, hx => by
    simp only [St.evDs]
    rw [h.ev (hx x (by simp)), h.evDs (fun y hy => hx y (by simp [hy]))]
theorem Ag.evMs {o : Oper} {e : Ef} {st st2 : St} (h : Ag ops o e st st2) : ∀ {xs : List Operand}, (∀ x ∈ xs, x ∈ o.op.operands.toList) → st2.evMs xs = st.evMs xs
  | [], _ => rfl
  | x :: r, hx => by
    simp only [St.evMs]
    rw [h.ev (hx x (by simp)), h.evMs (fun y hy => hx y (by simp [hy]))]
theorem Ag.evParts {o : Oper} {e : Ef} {st st2 : St} (h : Ag ops o e st st2) : ∀ {xs : List (Nat × Operand)}, (∀ p ∈ xs, p.2 ∈ o.op.operands.toList) → Mt.evParts st2 xs = Mt.evParts st xs
  | [], _ => rfl
  | (i, x) :: r, hx => by
    simp only [Mt.evParts]
    rw [h.ev (hx (i, x) (by simp)), h.evParts (fun y hy => hx y (by simp [hy]))]
theorem f_call1 {f : Nat} {args : List Operand} {tys : Array Nat} {ds : List D} {r : D} [hf : IsFn X.P f] (h : PT X.P f ds (· = [r])) (hn : Nat.blt d X.n = true) (ha : evDs sl args = some ds) (k : TF X ops rest ⟨(d, .m (.d r)) :: sl, bx, H⟩ fun es zz => post (⟨some d, .m (.d r), [], [], none, false, none⟩ :: es) zz) :
    TF X ops (⟨some d, .call ⟨.value (.func f), args.toArray, tys⟩, ty, pos, af, none⟩ :: rest) ⟨sl, bx, H⟩ post :=
  TF.cons (e := ⟨some d, .m (.d r), [], [], none, false, none⟩) (StepF.quiet rfl rfl (blt_lt hn) fun st2 ag => op_call1 (by rw [ag.evDs (fun x hx => by simp [Op.operands, Call.operands]; exact .inr hx), evDs_eq]; exact ha) h) rfl k
theorem f_callv {x : Operand} {f : Nat} {caps : List D} {args : List Operand} {tys : Array Nat} {ds : List D} {r : D} [hf : IsFn X.P f] (h : PT X.P f (ds ++ caps) (· = [r])) (hn : Nat.blt d X.n = true) (hx : evs sl x = some (.m (.d (.fn f caps)))) (ha : evDs sl args = some ds)
    (k : TF X ops rest ⟨(d, .m (.d r)) :: sl, bx, H⟩ fun es zz => post (⟨some d, .m (.d r), [], [], none, false, none⟩ :: es) zz) : TF X ops (⟨some d, .call ⟨.value x, args.toArray, tys⟩, ty, pos, af, none⟩ :: rest) ⟨sl, bx, H⟩ post := by
  refine TF.cons (e := ⟨some d, .m (.d r), [], [], none, false, none⟩) (StepF.quiet rfl rfl (blt_lt hn) fun st2 ag => ?_) rfl k
  have h1 := op_callv (X := X) (st := st2) (dst := some d) (ty := ty) (pos := pos) (af := af) (g := none) (tys := tys) ((ag.ev (x := x) (by simp [Op.operands, Call.operands])).trans hx) (by rw [ag.evDs (fun x hx => by simp [Op.operands, Call.operands]; exact .inr hx), evDs_eq]; exact ha) h
  intro a σ lam hi
  have h2 := h1 a σ lam hi
  have hp : ∀ v s, callp st2 (· = [r]) v s → eqp (.m (.d r)) st2 v s := by rintro v s ⟨r', rfl, rfl, rfl⟩; exact ⟨rfl, rfl⟩
  unfold OpRun at h2 ⊢
  generalize (execOp a.eval _).run X.P σ.w = z at *
  cases z with
  | ok y w' =>
    cases y <;> simp only at h2 ⊢ <;> first
      | (obtain ⟨v, s, σ', l', h1, h2⟩ := h2; exact ⟨v, s, σ', l', hp _ _ h1, h2⟩)
      | exact h2.mono fun e w'' ⟨u, he, v, s, σ', l', h1, h2⟩ => ⟨u, he, v, s, σ', l', hp _ _ h1, h2⟩
      | exact h2
  | halt y w' => exact h2
theorem f_makeFunc {f : Nat} {caps : List Operand} {ds : List D} (hn : Nat.blt d X.n = true) (ha : evDs sl caps = some ds) (k : TF X ops rest ⟨(d, .m (.d (.fn f ds))) :: sl, bx, H⟩ fun es zz => post (⟨some d, .m (.d (.fn f ds)), [], [], none, false, none⟩ :: es) zz) :
    TF X ops (⟨some d, .makeFunc (.func f) #[] caps.toArray, ty, pos, af, none⟩ :: rest) ⟨sl, bx, H⟩ post :=
  TF.cons (e := ⟨some d, .m (.d (.fn f ds)), [], [], none, false, none⟩) (StepF.quiet rfl rfl (blt_lt hn) fun st2 ag => op_makeFunc (by rw [ag.evDs (fun x hx => by simpa [Op.operands] using hx), evDs_eq]; exact ha)) rfl k
theorem f_build {T : Nat} {parts : List (Nat × Operand)} {ps : List (Nat × Nat)} {z : List D} {zs : List M} {ms : List (Nat × M)} {cs : List M} {ds : List D} [ht : TyStruct X.P T ps z] (hn : Nat.blt d X.n = true) (he : evPartsO sl parts = some ms) (hz : mapD z = some zs)
    (hf : fillO ps zs ms = some cs) (hd : allD cs = some ds) (k : TF X ops rest ⟨(d, .m (.d (.agg ds))) :: sl, bx, H⟩ fun es zz => post (⟨some d, .m (.d (.agg ds)), [], [], none, false, none⟩ :: es) zz) : TF X ops (⟨some d, .build T parts.toArray, ty, pos, af, none⟩ :: rest) ⟨sl, bx, H⟩ post := by
  refine TF.cons (e := ⟨some d, .m (.d (.agg ds)), [], [], none, false, none⟩) (StepF.quiet rfl rfl (blt_lt hn) fun st2 ag => ?_) rfl k
  have h1 := op_build (X := X) (dst := some d) (ty := ty) (pos := pos) (af := af) (g := none) (st := st2) (T := T) (parts := parts) (ms := ms) (by rw [ag.evParts (fun p hp => by simp [Op.operands]; exact ⟨_, hp⟩), evPartsO_eq]; exact he) (by rw [← mapD_eq hz]; exact fillO_eq hf)
  have : pack cs = .d (.agg ds) := by simp [pack, hd]
  rw [this] at h1
  exact h1
theorem f_buildSlice {T e n len : Nat} {parts : List (Nat × Operand)} {z : D} {ms : List (Nat × M)} {rows : List (List D)} [ht : TySlice X.P T e] [hs : TySz X.P e n] [hz : TyZ X.P e z] (hn : Nat.blt d X.n = true) (h0 : Nat.blt 0 n = true) (hzl : Nat.beq (dcells z).length n = true)
    (hle : Nat.ble (len * n) 16777216 = true) (he : evPartsO sl parts = some ms) (hr : rowsO 0 ms = some rows) (hlen : Nat.beq rows.length len = true) (hl : lenAll n rows = true)
    (k : TF X ops rest ⟨(d, .m (.d (.sl rows))) :: sl, bx, H⟩ fun es zz => post (⟨some d, .m (.d (.sl rows)), [], [], none, false, none⟩ :: es) zz) : TF X ops (⟨some d, .buildSlice T len parts.toArray, ty, pos, af, none⟩ :: rest) ⟨sl, bx, H⟩ post := by
  refine TF.cons (e := ⟨some d, .m (.d (.sl rows)), [], [], none, false, none⟩) (StepF.quiet rfl rfl (blt_lt hn) fun st2 ag => ?_) rfl k
  exact op_buildSliceAll h0 hzl hle (by rw [ag.evParts (fun p hp => by simp [Op.operands]; exact ⟨_, hp⟩), evPartsO_eq]; exact he) hr hlen hl
theorem get_clearLoc_eq {sl : List (Nat × V)} {d : Nat} (h : ∀ t o, get sl t ≠ some (.loc d o)) : ∀ t v, get sl t = some v → get (clearLoc d sl) t = some v := by
  have : ∀ (l : List (Nat × V)) (t : Nat) (v : V), get l t = some v → (∀ o, v ≠ .loc d o) → get (clearLoc d l) t = some v := by
    intro l
    induction l with
    | nil => intro t v h; simp [get] at h
    | cons x l ih =>
      intro t v hg hv
      obtain ⟨j, u⟩ := x
      cases u with
      | m m =>
        unfold clearLoc
        rcases get_cons_eq hg with ⟨rfl, rfl⟩ | ⟨h1, h2⟩
        · simp [get_cons]
        · rw [get_cons, if_neg (fun e => h1 e.symm)]; exact ih t v h2 hv
      | tl e1 e2 e3 e4 =>
        unfold clearLoc
        rcases get_cons_eq hg with ⟨rfl, rfl⟩ | ⟨h1, h2⟩
        · simp [get_cons]
        · rw [get_cons, if_neg (fun e => h1 e.symm)]; exact ih t v h2 hv
      | loc u o =>
        unfold clearLoc
        cases hb : Nat.beq u d with
        | false =>
          rcases get_cons_eq hg with ⟨rfl, rfl⟩ | ⟨h1, h2⟩
          · simp [get_cons]
          · simp only [cond_false]; rw [get_cons, if_neg (fun e => h1 e.symm)]; exact ih t v h2 hv
        | true =>
          have := Nat.eq_of_beq_eq_true hb
          subst this
          rcases get_cons_eq hg with ⟨rfl, rfl⟩ | ⟨h1, h2⟩
          · exact absurd rfl (hv o)
          · simp only [cond_true]; rw [get_cons, if_neg (fun e => h1 e.symm)]; exact ih t v h2 hv
  intro t v hg
  exact this sl t v hg (fun o ho => h t o (by rw [hg, ho]))
theorem f_alloc {T : Nat} {cs : List M} [hz : TyZc X.P T cs] (hn : Nat.blt d X.n = true) (k : TF X ops rest ⟨(d, .loc d 0) :: sl, (d, cs) :: bx, H⟩ fun es zz => post (⟨some d, .loc d 0, [], [(d, cs)], some d, false, none⟩ :: es) zz) :
    TF X ops (⟨some d, .alloc T, ty, pos, af, none⟩ :: rest) ⟨sl, bx, H⟩ post := by
  refine TF.cons (e := ⟨some d, .loc d 0, [], [(d, cs)], some d, false, none⟩) ?_ rfl k
  intro st2 ag
  obtain ⟨z, h1, h2⟩ := hz.h
  subst h2
  have h3 := (op_alloc (X := X) (st := st2) (d := d) (T := T) (ty := ty) (pos := pos) (af := af) (g := none)).opS (ops := ops) rfl rfl (blt_lt hn)
  intro a w hi K Q hK
  refine h3 a w hi K Q fun a' w' hi' => hK a' w' ?_
  have hcl := get_clearLoc_eq (ag.nw d rfl)
  refine hi'.weak (fun t v hv => ?_) (fun _ => rfl)
  rcases get_cons_eq hv with ⟨rfl, rfl⟩ | ⟨h5, h6⟩
  · simp [get_cons]
  · rw [get_cons, if_neg (fun e => h5 e.symm)]; exact hcl t v h6
theorem f_storeL {T n : Nat} {x y : Operand} {t off : Nat} {cs new cs2 : List M} {m : M} [hs : TySz X.P T n] (hx : evs sl x = some (.loc t off)) (hy : evs sl y = some (.m m)) (hb : get bx t = some cs) (hc : cellsO m = some new)
    (hl : Nat.beq new.length n = true) (hw : wr cs off new = some cs2) (k : TF X ops rest ⟨sl, (t, cs2) :: bx, H⟩ fun es zz => post (⟨none, .m .undef, [], [(t, cs2)], none, false, none⟩ :: es) zz) : TF X ops (⟨none, .store T x y, ty, pos, af, none⟩ :: rest) ⟨sl, bx, H⟩ post := by
  obtain ⟨h1, h2⟩ := cellsO_eq hc
  subst h1
  exact TF.cons (e := ⟨none, .m .undef, [], [(t, cs2)], none, false, none⟩) (StepF.writes rfl rfl fun st2 ag => op_storeL ((ag.ev (x := x) (by simp [Op.operands])).trans hx) ((ag.ev (x := y) (by simp [Op.operands])).trans hy) ((ag.bx t (by simp)).trans hb) (Nat.eq_of_beq_eq_true hl) h2 (wr_eq hw)) rfl k

end rules
end Go.Mt

set_option linter.unusedVariables false
namespace Go.Mt

theorem FInv.heap {X : Ctx} {σ τ : Sg} {lam : Nat → Nat} {st : St} {a : Act} (hi : FInv X σ lam st a) (hm : Mono σ τ) (hh : HInv τ (Oof X.Oout lam st.bx))
    (hb : ∀ t cs, get st.bx t = some cs → τ.w.heap[lam t]? = σ.w.heap[lam t]?) (hk : Blk σ τ) : FInv X τ lam ⟨st.sl, st.bx, τ.H⟩ a :=
  ⟨rfl, hi.defers, hi.size, fun t v h3 => let ⟨u, h4, h5⟩ := hi.slot t v h3; ⟨u, h4, h5.mono hm⟩, fun t cs h => (hi.box t cs h).keep hm (fun x hx => by rw [hb t cs h]; exact hx), hi.binj, hi.bsep, hi.bnew, hh, hi.mono.trans hm, hi.blk.trans hk⟩

theorem FInv.boxNe {X : Ctx} {σ : Sg} {lam : Nat → Nat} {st : St} {a : Act} (hi : FInv X σ lam st a) {t : Nat} {cs : List M} (h : get st.bx t = some cs) {i : Nat} {ob : Ob} (h1 : σ.H[i]? = some ob) (h2 : ob.live) : lam t ≠ σ.l i :=
  fun e => sep_of_hinv hi.hinv (b := lam t) (.inr ⟨t, cs, h, rfl⟩) i ob h1 h2 e.symm

/-- a new object of the heap -/
theorem FInv.newObj {X : Ctx} {σ : Sg} {lam : Nat → Nat} {st : St} {a : Act} (hi : FInv X σ lam st a) (ob : Ob) (x : Obj)
    (hok : ∀ τ : Sg, Mono σ τ → τ.w = { σ.w with heap := σ.w.heap.push x } → ObOk τ σ.w.heap.size ob) :
    ∃ τ : Sg, τ.w = { σ.w with heap := σ.w.heap.push x } ∧ τ.l σ.H.length = σ.w.heap.size ∧ τ.H = st.H ++ [ob] ∧ Mono σ τ ∧ FInv X τ lam ⟨st.sl, st.bx, st.H ++ [ob]⟩ a := by
  let b := σ.w.heap.size
  let w' : World := { σ.w with heap := σ.w.heap.push x }
  let l' : Nat → Nat := fun i => if i = σ.H.length then b else σ.l i
  let τ : Sg := ⟨w', fun c o => σ.O c o ∨ (c = b ∧ ob.owns o), l', σ.H ++ [ob]⟩
  have hext : ExtW σ.w w' := ExtW.alloc _ _
  have hidx : ∀ (i : Nat) o, σ.H[i]? = some o → (σ.H ++ [ob])[i]? = some o ∧ l' i = σ.l i := by
    intro i o h
    have hlt : i < σ.H.length := by rcases Nat.lt_or_ge i σ.H.length with h' | h'; exact h'; simp [List.getElem?_eq_none h'] at h
    exact ⟨by rw [List.getElem?_append_left hlt]; exact h, by simp [l', show i ≠ σ.H.length by omega]⟩
  have hidx2 : ∀ (i : Nat) o, (σ.H ++ [ob])[i]? = some o → (σ.H[i]? = some o ∧ l' i = σ.l i) ∨ (i = σ.H.length ∧ o = ob) := by
    intro i o h
    rcases Nat.lt_or_ge i σ.H.length with h' | h'
    · rw [List.getElem?_append_left h'] at h; exact .inl ⟨h, (hidx i o h).2⟩
    · rw [List.getElem?_append_right h'] at h
      have : i - σ.H.length = 0 := by
        rcases Nat.eq_zero_or_pos (i - σ.H.length) with h0 | h0
        · exact h0
        · rw [List.getElem?_eq_none (by simp; omega)] at h; cases h
      rw [this] at h
      simp at h
      exact .inr ⟨by omega, h.symm⟩
  have hmono : Mono σ τ := by
    refine ⟨fun c o v h1 h2 => ⟨hext.cell h1, ?_⟩, fun i cs h => ⟨⟨cs, (hidx i _ h).1⟩, (hidx i _ h).2⟩, fun i cs h => ⟨⟨cs, (hidx i _ h).1⟩, (hidx i _ h).2⟩, fun i cs h => ⟨⟨cs, (hidx i _ h).1⟩, (hidx i _ h).2⟩, fun i h => (hidx i _ h).1,
      fun i acc ec ver cs h => .inr ⟨acc, ver, cs, (hidx i _ h).1, Nat.le_refl _, fun _ => ⟨(hidx i _ h).2, rfl, fun arr T ha => ⟨arr, hext.heap ha, rfl⟩⟩⟩, fun i h => ⟨_, (hidx i _ h).1⟩⟩
    rintro (h3 | ⟨h3, _⟩)
    · exact h2 h3
    · have := lt_of_cellv h1; omega
  have hlt : ∀ (i : Nat) o, σ.H[i]? = some o → o.live → σ.l i < b := fun i o h1 h2 => (hi.hinv.obj i o h1).lt h2
  have hnew : ObOk τ b ob := hok τ hmono rfl
  have hll : l' σ.H.length = b := by simp [l']
  have hinv : HInv τ (Oof X.Oout lam st.bx) := by
    refine ⟨?_, ?_, ?_, ?_, fun c o h => Nat.lt_of_lt_of_le (hi.hinv.old c o h) hext.size⟩
    · intro i o h
      rcases hidx2 i o h with ⟨h1, h2⟩ | ⟨rfl, rfl⟩
      · show ObOk τ (l' i) o
        rw [h2]; exact (hi.hinv.obj i o h1).keep hmono fun x hx => hext.heap hx
      · show ObOk τ (l' _) o
        rw [hll]; exact hnew
    · intro i j x y h1 h2 h3 h4 h5
      change l' i = l' j at h5
      rcases hidx2 i x h1 with ⟨h6, h7⟩ | ⟨rfl, rfl⟩ <;> rcases hidx2 j y h2 with ⟨h8, h9⟩ | ⟨rfl, rfl⟩
      · rw [h7, h9] at h5; exact hi.hinv.inj i j x y h6 h8 h3 h4 h5
      · rw [h7, hll] at h5; have := hlt i x h6 h3; omega
      · rw [h9, hll] at h5; have := hlt j y h8 h4; omega
      · rfl
    · intro c o
      show (σ.O c o ∨ (c = b ∧ ob.owns o)) ↔ _
      rw [hi.hinv.own]
      constructor
      · rintro ((h | ⟨i, x, h1, h2, h3⟩) | ⟨rfl, h2⟩)
        · exact .inl h
        · exact .inr ⟨i, x, (hidx i x h1).1, (by show l' i = c; rw [(hidx i x h1).2]; exact h2), h3⟩
        · exact .inr ⟨σ.H.length, ob, by simp [τ], hll, h2⟩
      · rintro (h | ⟨i, x, h1, h2, h3⟩)
        · exact .inl (.inl h)
        · rcases hidx2 i x h1 with ⟨h6, h7⟩ | ⟨rfl, rfl⟩
          · exact .inl (.inr ⟨i, x, h6, by rw [← h7]; exact h2, h3⟩)
          · exact .inr ⟨by rw [← h2]; exact hll, h3⟩
    · intro i o h1 h2 oo h3
      rcases hidx2 i o h1 with ⟨h6, h7⟩ | ⟨rfl, rfl⟩
      · exact hi.hinv.sep i o h6 h2 oo (by rw [← h7]; exact h3)
      · have h4 : Oof X.Oout lam st.bx b oo := by rw [← hll]; exact h3
        have := hi.hinv.old _ _ h4
        exact Nat.lt_irrefl _ this
  have hblk : Blk σ τ := by
    refine ⟨rfl, rfl, rfl, hext.size, fun c hc _ => hext.blk c hc, ?_⟩
    intro i o h1 h2
    rcases hidx2 i o h1 with ⟨h6, h7⟩ | ⟨rfl, rfl⟩
    · exact .inr ⟨o, h6, h2, h7⟩
    · exact .inl (by show _ ≤ l' _; rw [hll]; exact Nat.le_refl _)
  have hH : τ.H = st.H ++ [ob] := by show σ.H ++ [ob] = _; rw [hi.hH]
  refine ⟨τ, rfl, hll, hH, hmono, ?_⟩
  have := hi.heap hmono hinv (fun t cs h => hext.blk _ ((hi.box t cs h).lt trivial)) hblk
  rw [hH] at this
  exact this

/-- may an object turn into another one? (same: its block stays; sz: as large as it was) -/
def turns (same sz : Prop) : Ob → Ob → Prop
  | .box _, .box _ => same
  | .map _, .map _ => same
  | .iter _, .iter _ => same
  | .row _ _ _ _, .dead => True
  | .row _ ec ver cs, .row _ ec' ver' cs' => ec' = ec ∧ (ver < ver' ∨ (ver' = ver ∧ cs'.length = cs.length ∧ same ∧ sz))
  | _, _ => False

/-- an object of the heap turns -/
theorem FInv.updObj {X : Ctx} {σ : Sg} {lam : Nat → Nat} {st : St} {a : Act} (hi : FInv X σ lam st a) {j b' : Nat} {ob ob' : Ob} {w' : World} (hj : st.H[j]? = some ob) (hl : ob.live)
    (hos : w'.os = σ.w.os) (hout : w'.output = σ.w.output) (htape : w'.tape = σ.w.tape) (hsize : σ.w.heap.size ≤ w'.heap.size)
    (hblk : ∀ c, c < σ.w.heap.size → c ≠ σ.l j → w'.heap[c]? = σ.w.heap[c]?) (hb' : b' = σ.l j ∨ σ.w.heap.size ≤ b')
    (hcell : ∀ o v, ¬ ob.owns o → cellv σ.w (σ.l j) o = some v → cellv w' (σ.l j) o = some v ∧ (b' = σ.l j → ¬ ob'.owns o))
    (hturn : turns (b' = σ.l j) (∀ arr T, σ.w.heap[σ.l j]? = some (.cells arr T (0, 0)) → ∃ arr', w'.heap[σ.l j]? = some (.cells arr' T (0, 0)) ∧ arr'.size = arr.size) ob ob')
    (hok : ∀ τ : Sg, Mono σ τ → τ.w = w' → τ.l j = b' → τ.H = st.H.set j ob' → ObOk τ b' ob') :
    ∃ τ : Sg, τ.w = w' ∧ τ.l j = b' ∧ τ.H = st.H.set j ob' ∧ Mono σ τ ∧ FInv X τ lam ⟨st.sl, st.bx, st.H.set j ob'⟩ a := by
  have hHe := hi.hH
  have hj' : σ.H[j]? = some ob := by rw [hHe]; exact hj
  have hjl : j < σ.H.length := by rcases Nat.lt_or_ge j σ.H.length with h | h; exact h; simp [List.getElem?_eq_none h] at hj'
  let l' : Nat → Nat := fun i => if i = j then b' else σ.l i
  let H' := σ.H.set j ob'
  let Oo := Oof X.Oout lam st.bx
  let τ : Sg := ⟨w', fun c o => Oo c o ∨ ∃ (i : Nat) (x : Ob), H'[i]? = some x ∧ l' i = c ∧ x.owns o, l', H'⟩
  have hne : ∀ (i : Nat) x, i ≠ j → σ.H[i]? = some x → H'[i]? = some x ∧ l' i = σ.l i := by
    intro i x hij h
    exact ⟨by show (σ.H.set j ob')[i]? = _; rw [List.getElem?_set_ne (Ne.symm hij)]; exact h, by simp [l', hij]⟩
  have hself : H'[j]? = some ob' ∧ l' j = b' := ⟨by show (σ.H.set j ob')[j]? = _; simp [hjl], by simp [l']⟩
  have hinvert : ∀ (i : Nat) x, H'[i]? = some x → (i ≠ j ∧ σ.H[i]? = some x ∧ l' i = σ.l i) ∨ (i = j ∧ x = ob') := by
    intro i x h
    by_cases e : i = j
    · subst e; rw [hself.1] at h; injection h with h; exact .inr ⟨rfl, h.symm⟩
    · have : σ.H[i]? = some x := by
        have h2 : (σ.H.set j ob')[i]? = some x := h
        rw [List.getElem?_set_ne (Ne.symm e)] at h2; exact h2
      exact .inl ⟨e, this, (hne i x e this).2⟩
  have hlt : ∀ (i : Nat) o, σ.H[i]? = some o → o.live → σ.l i < σ.w.heap.size := fun i o h1 h2 => (hi.hinv.obj i o h1).lt h2
  have hlj := hlt j ob hj' hl
  have hdiff : ∀ (i : Nat) x, i ≠ j → σ.H[i]? = some x → x.live → σ.l i ≠ σ.l j := fun i x e h1 h2 h3 => e (hi.hinv.inj i j x ob h1 hj' h2 hl h3)
  have hmono : Mono σ τ := by
    refine ⟨?_, ?_, ?_, ?_, ?_, ?_, ?_⟩
    · intro c o v h1 h2
      have hc := lt_of_cellv h1
      have hnot : (c ≠ σ.l j ∨ (b' = σ.l j → ¬ ob'.owns o)) → ¬ (Oo c o ∨ ∃ (i : Nat) (x : Ob), H'[i]? = some x ∧ l' i = c ∧ x.owns o) := by
        rintro hor (h3 | ⟨i, x, h3, h4, h5⟩)
        · exact h2 ((hi.hinv.own c o).2 (.inl h3))
        · rcases hinvert i x h3 with ⟨e, h6, h7⟩ | ⟨rfl, rfl⟩
          · exact h2 ((hi.hinv.own c o).2 (.inr ⟨i, x, h6, by rw [← h7]; exact h4, h5⟩))
          · rw [hself.2] at h4
            rcases hb' with hb' | hb'
            · rcases hor with hor | hor
              · exact hor (by rw [← h4]; exact hb')
              · exact hor hb' h5
            · omega
      by_cases e : c = σ.l j
      · subst e
        have hno : ¬ ob.owns o := fun h => h2 ((hi.hinv.own _ o).2 (.inr ⟨j, ob, hj', rfl, h⟩))
        obtain ⟨h3, h4⟩ := hcell o v hno h1
        exact ⟨h3, hnot (.inr h4)⟩
      · exact ⟨by rw [cellv_of_blk (hblk c hc e)]; exact h1, hnot (.inl e)⟩
    · intro i cs h
      by_cases e : i = j
      · subst e
        rw [hj'] at h; injection h with h; subst h
        cases ob' with
        | box cs' => exact ⟨⟨cs', hself.1⟩, by show l' i = _; rw [hself.2]; exact hturn⟩
        | _ => exact hturn.elim
      · exact ⟨⟨cs, (hne i _ e h).1⟩, (hne i _ e h).2⟩
    · intro i cs h
      by_cases e : i = j
      · subst e
        rw [hj'] at h; injection h with h; subst h
        cases ob' with
        | map cs' => exact ⟨⟨cs', hself.1⟩, by show l' i = _; rw [hself.2]; exact hturn⟩
        | _ => exact hturn.elim
      · exact ⟨⟨cs, (hne i _ e h).1⟩, (hne i _ e h).2⟩
    · intro i cs h
      by_cases e : i = j
      · subst e
        rw [hj'] at h; injection h with h; subst h
        cases ob' with
        | iter cs' => exact ⟨⟨cs', hself.1⟩, by show l' i = _; rw [hself.2]; exact hturn⟩
        | _ => exact hturn.elim
      · exact ⟨⟨cs, (hne i _ e h).1⟩, (hne i _ e h).2⟩
    · intro i h
      by_cases e : i = j
      · subst e; rw [hj'] at h; injection h with h; subst h; exact hl.elim
      · exact (hne i _ e h).1
    · intro i acc ec ver cs h
      by_cases e : i = j
      · subst e
        rw [hj'] at h; injection h with h; subst h
        cases ob' with
        | dead => exact .inl hself.1
        | row acc' ec' ver' cs' =>
          obtain ⟨e1, h2⟩ := hturn
          subst e1
          refine .inr ⟨acc', ver', cs', hself.1, ?_, ?_⟩
          · rcases h2 with h2 | ⟨h2, _⟩ <;> omega
          · intro hv
            rcases h2 with h2 | ⟨_, h3, h4, h5⟩
            · omega
            · exact ⟨by show l' i = _; rw [hself.2]; exact h4, h3, h5⟩
        | _ => exact hturn.elim
      · refine .inr ⟨acc, ver, cs, (hne i _ e h).1, Nat.le_refl _, fun _ => ⟨(hne i _ e h).2, rfl, fun arr T ha => ⟨arr, ?_, rfl⟩⟩⟩
        show w'.heap[σ.l i]? = _
        rw [hblk _ (hlt i _ h trivial) (hdiff i _ e h trivial)]; exact ha
    · intro i h
      by_cases e : i = j
      · subst e; exact ⟨_, hself.1⟩
      · exact ⟨_, (hne i _ e h).1⟩
  have hHset : τ.H = st.H.set j ob' := by show σ.H.set j ob' = _; rw [hHe]
  have hnew : ObOk τ b' ob' := hok τ hmono rfl hself.2 hHset
  have hOoj : ∀ o, ¬ Oo (σ.l j) o := fun o => hi.hinv.sep j ob hj' hl o
  have hinv : HInv τ Oo := by
    refine ⟨?_, ?_, fun c o => Iff.rfl, ?_, fun c o h => Nat.lt_of_lt_of_le (hi.hinv.old c o h) hsize⟩
    · intro i x h
      rcases hinvert i x h with ⟨e, h6, h7⟩ | ⟨rfl, rfl⟩
      · show ObOk τ (l' i) x
        rw [h7]
        by_cases hx : x.live
        · refine (hi.hinv.obj i x h6).keep hmono fun y hy => ?_
          show w'.heap[_]? = _
          rw [hblk _ (hlt i x h6 hx) (hdiff i x e h6 hx)]; exact hy
        · cases x <;> first | trivial | exact (hx trivial).elim
      · show ObOk τ (l' i) x
        rw [hself.2]; exact hnew
    · intro i k x y h1 h2 h3 h4 h5
      change l' i = l' k at h5
      rcases hinvert i x h1 with ⟨e, h6, h7⟩ | ⟨rfl, rfl⟩ <;> rcases hinvert k y h2 with ⟨e', h8, h9⟩ | ⟨rfl, rfl⟩
      · rw [h7, h9] at h5; exact hi.hinv.inj i k x y h6 h8 h3 h4 h5
      · rw [h7, hself.2] at h5
        rcases hb' with hb' | hb'
        · exact absurd (h5.trans hb') (hdiff i x e h6 h3)
        · have := hlt i x h6 h3; omega
      · rw [h9, hself.2] at h5
        rcases hb' with hb' | hb'
        · exact absurd (h5.symm.trans hb') (hdiff k y e' h8 h4)
        · have := hlt k y h8 h4; omega
      · rfl
    · intro i x h1 h2 o h3
      rcases hinvert i x h1 with ⟨e, h6, h7⟩ | ⟨rfl, rfl⟩
      · exact hi.hinv.sep i x h6 h2 o (by rw [← h7]; exact h3)
      · have h4 : Oo b' o := by rw [← hself.2]; exact h3
        rcases hb' with hb' | hb'
        · exact hOoj o (by rw [← hb']; exact h4)
        · have := hi.hinv.old _ _ h4; omega
  have hbk : Blk σ τ := by
    refine ⟨hos, hout, htape, hsize, fun c hc hn => hblk c hc (fun e => hn j ob hj' hl e.symm), ?_⟩
    intro i x h1 h2
    rcases hinvert i x h1 with ⟨e, h6, h7⟩ | ⟨rfl, rfl⟩
    · exact .inr ⟨x, h6, h2, h7⟩
    · rcases hb' with hb' | hb'
      · exact .inr ⟨ob, hj', hl, by show l' i = _; rw [hself.2]; exact hb'⟩
      · exact .inl (by show _ ≤ l' i; rw [hself.2]; exact hb')
  refine ⟨τ, rfl, hself.2, hHset, hmono, ?_⟩
  have := hi.heap hmono hinv (fun t cs h => hblk _ ((hi.box t cs h).lt trivial) (hi.boxNe h hj' hl)) hbk
  rw [hHset] at this
  exact this

end Go.Mt

set_option linter.unusedVariables false
namespace Go.Mt

section ops
variable {X : Ctx} {st : St} {dst : Option Nat} {ty : Nat} {pos : String} {af : Array Edge} {g : Option (Nat × Bool)}

theorem op_boxH {T : Nat} {x : Operand} {m : M} (hx : st.ev x = some (.m m)) (hok : m.okc = true) :
    OpT X ⟨dst, .box T x, ty, pos, af, g⟩ st (eqp (.m (.ref st.H.length 0)) ⟨st.sl, st.bx, st.H ++ [.box (cellsOf m)]⟩) := by
  intro a σ lam hi
  have h := hi.ev hx
  cases h with
  | m h =>
    have hc := h.cells hok
    obtain ⟨τ, h1, h2, h3, h4, h5⟩ := hi.newObj (.box (cellsOf m)) (.cells (a.eval x).cells T (0, 0)) (by
      intro τ hm hw
      exact ⟨_, T, by rw [hw]; simp, hc.mono hm⟩)
    refine OpRun.value (u := .pointer (some ⟨σ.w.heap.size, 0, none⟩)) (w' := { σ.w with heap := σ.w.heap.push (.cells (a.eval x).cells T (0, 0)) }) ?_ ⟨_, _, τ, lam, ⟨rfl, rfl⟩, h1, h5, ?_⟩
    · simp [execOp, Instr.box, newVar, newRow, newObj, Sem.run]
    · rw [← h2, hi.hH]
      exact .m (.ref _ 0 (cellsOf m) (by rw [h3]; simp))

theorem op_allocH {T : Nat} {z : D} [hz : TyZero X.P T z] :
    OpT X ⟨dst, .alloc T, ty, pos, af, g⟩ st (eqp (.m (.ref st.H.length 0)) ⟨st.sl, st.bx, st.H ++ [.box ((dcells z).map .d)]⟩) := by
  intro a σ lam hi
  obtain ⟨v, hz1, hz2⟩ := hz.run
  have hr : RM σ (.d z) v := .d (dOfVal_rep hz2)
  have hc : RMc σ ((dcells z).map .d) v.cells := hr.cells rfl
  obtain ⟨τ, h1, h2, h3, h4, h5⟩ := hi.newObj (.box ((dcells z).map .d)) (.cells v.cells T (0, 0)) (by
    intro τ hm hw
    exact ⟨_, T, by rw [hw]; simp, hc.mono hm⟩)
  refine OpRun.value (u := .pointer (some ⟨σ.w.heap.size, 0, none⟩)) (w' := { σ.w with heap := σ.w.heap.push (.cells v.cells T (0, 0)) }) ?_ ⟨_, _, τ, lam, ⟨rfl, rfl⟩, h1, h5, ?_⟩
  · simp [execOp, Instr.alloc, hz1, newVar, newRow, newObj, Sem.run]
  · rw [← h2, hi.hH]
    exact .m (.ref _ 0 ((dcells z).map .d) (by rw [h3]; simp))

theorem op_makeMap {T : Nat} :
    OpT X ⟨dst, .makeMap T none, ty, pos, af, g⟩ st (eqp (.m (.mp st.H.length)) ⟨st.sl, st.bx, st.H ++ [.map []]⟩) := by
  intro a σ lam hi
  obtain ⟨τ, h1, h2, h3, h4, h5⟩ := hi.newObj (.map []) (.map #[] 0) (by
    intro τ hm hw
    exact ⟨#[], 0, by rw [hw]; simp, rfl, by simp, by simp [BornOk]⟩)
  refine OpRun.value (u := .map (some σ.w.heap.size)) (w' := { σ.w with heap := σ.w.heap.push (.map #[] 0) }) ?_ ⟨_, _, τ, lam, ⟨rfl, rfl⟩, h1, h5, ?_⟩
  · simp [execOp, Instr.makeMap, newObj, Sem.run]
  · rw [← h2, hi.hH]
    exact .m (.mp _ [] (by rw [h3]; simp))

theorem op_loadR {T : Nat} {x : Operand} {i off : Nat} {cs : List M} {m : M} (hx : st.ev x = some (.m (.ref i off))) (hH : st.H[i]? = some (.box cs)) (hr : readAt X.P T cs off = some m) :
    OpT X ⟨dst, .load T x, ty, pos, af, g⟩ st (eqp (.m m) st) := by
  refine OpT.quiet fun a σ lam hi => ?_
  have h := hi.ev hx
  generalize hu : a.eval x = u at h
  cases h with
  | m h => cases h with
    | ref i off cs' hh =>
      obtain ⟨arr, TT, h3, h4⟩ := hi.hinv.obj i (.box cs) (by rw [hi.hH]; exact hH)
      obtain ⟨v, h5, h6⟩ := loadM_run hr h3 (by rw [h4.1]; exact Nat.le_refl _) h4.2
      exact ⟨v, by simp [execOp, hu, Instr.loadAt, Instr.sureAddr, h5], .m h6⟩

theorem op_loadW {T : Nat} {x : Operand} {i ver off : Nat} {acc : Bool} {ec : Nat} {cs : List M} {m : M} (hx : st.ev x = some (.m (.rref i ver off))) (hH : st.H[i]? = some (.row acc ec ver cs)) (hr : readAt X.P T cs off = some m) :
    OpT X ⟨dst, .load T x, ty, pos, af, g⟩ st (eqp (.m m) st) := by
  refine OpT.quiet fun a σ lam hi => ?_
  have h := hi.ev hx
  generalize hu : a.eval x = u at h
  cases h with
  | m h => cases h with
    | rref i ver off b hle hcur =>
      have hH' : σ.H[i]? = some (.row acc ec ver cs) := by rw [hi.hH]; exact hH
      have hb := hcur acc ec cs hH'
      subst hb
      obtain ⟨_, arr, TT, cap, n, h3, h4, h5, ⟨h6, _⟩, h7⟩ := hi.hinv.obj i _ hH'
      obtain ⟨v, h8, h9⟩ := loadM_run hr h3 (by rw [h4, h6]; exact Nat.mul_le_mul_right _ h5) h7
      exact ⟨v, by simp [execOp, hu, Instr.loadAt, Instr.sureAddr, h8], .m h9⟩

theorem op_storeR {T n : Nat} {x y : Operand} {i off : Nat} {cs cs' : List M} {m : M} [hs : TySz X.P T n] (hx : st.ev x = some (.m (.ref i off))) (hy : st.ev y = some (.m m)) (hH : st.H[i]? = some (.box cs))
    (hn : (cellsOf m).length = n) (hok : m.okc = true) (hw : writeAt cs off (cellsOf m) = some cs') :
    OpT X ⟨dst, .store T x y, ty, pos, af, g⟩ st (eqp (.m .undef) ⟨st.sl, st.bx, st.H.set i (.box cs')⟩) := by
  intro a σ lam hi
  have h := hi.ev hx
  have h2 := hi.ev hy
  generalize hu : a.eval x = u at h
  cases h with
  | m h => cases h with
    | ref i off cs0 hh =>
      cases h2 with
      | m h2 =>
        have hH' : σ.H[i]? = some (.box cs) := by rw [hi.hH]; exact hH
        obtain ⟨arr, TT, h3, h4⟩ := hi.hinv.obj i _ hH'
        have hc := h2.cells hok
        obtain ⟨h5, h6, h7⟩ := h4.write hc hw
        have hsz : (a.eval y).cells.size = n := by rw [hc.1, hn]
        have hrun := storeVar_run (P := X.P) (t := T) (off := off) h3 (by rw [hs.size, hsz]) (by rw [h4.1, hc.1]; exact h6) hc.flat
        have hlt := lt_of_heap h3
        obtain ⟨τ, g1, g2, g3, g4, g5⟩ := hi.updObj (j := i) (b' := σ.l i) (ob := .box cs) (ob' := .box cs') (w' := setBlk σ.w (σ.l i) (.cells (arrWrite arr off (a.eval y).cells.toList) TT (0, 0))) hH trivial rfl rfl rfl (by rw [setBlk_size]; exact Nat.le_refl _)
          (fun c _ hc => setBlk_ne hc) (.inl rfl) (fun o v ho => (ho trivial).elim) rfl (by
            intro τ hm hw _ _
            exact ⟨_, TT, by rw [hw]; exact setBlk_get hlt, h5.mono hm⟩)
        refine OpRun.skip (by simp only [execOp, hu, Instr.storeAt, Instr.sureAddr]; simp [hrun]; rfl) ?_
        exact ⟨.m .undef, _, τ, lam, ⟨rfl, rfl⟩, g1, g5, .m (.undef _)⟩

/-- prefix of a row, written over -/
theorem row_write {σ : Sg} {cs new cs' : List M} {arr : Array Value} {vs : Array Value} {off : Nat} (hle : cs.length ≤ arr.size) (h : ∀ (i : Nat) (m : M) (v : Value), cs[i]? = some m → arr[i]? = some v → RM σ m v ∧ flat v = true)
    (hn : RMc σ new vs) (hw : writeAt cs off new = some cs') :
    (∀ (i : Nat) (m : M) (v : Value), cs'[i]? = some m → (arrWrite arr off vs.toList)[i]? = some v → RM σ m v ∧ flat v = true) ∧ off + new.length ≤ cs.length ∧ cs'.length = cs.length := by
  have hpre : RMc σ cs (arr.extract 0 cs.length) := by
    refine ⟨by simp; omega, fun i m v hm hv => ?_⟩
    rw [Array.getElem?_extract] at hv
    split at hv
    · simp at hv; exact h i m v hm hv
    · cases hv
  obtain ⟨h1, h2, h3⟩ := hpre.write hn hw
  refine ⟨fun i m v hm hv => ?_, h2, h3⟩
  have hi : i < cs.length := by rw [← h3]; rcases Nat.lt_or_ge i cs'.length with h | h; exact h; simp [List.getElem?_eq_none h] at hm
  refine h1.2 i m v hm ?_
  have hl2 := hn.1
  rw [arrWrite_get _ _ _ _ (by simp; omega)] at hv ⊢
  split
  · rename_i hc; rw [if_pos hc] at hv; exact hv
  · rename_i hc; rw [if_neg hc] at hv
    rw [Array.getElem?_extract, if_pos (by omega)]
    simpa using hv

theorem op_storeW {T n : Nat} {x y : Operand} {i ver off ec : Nat} {cs cs' : List M} {m : M} [hs : TySz X.P T n] (hx : st.ev x = some (.m (.rref i ver off))) (hy : st.ev y = some (.m m)) (hH : st.H[i]? = some (.row false ec ver cs))
    (hn : (cellsOf m).length = n) (hok : m.okc = true) (hw : writeAt cs off (cellsOf m) = some cs') :
    OpT X ⟨dst, .store T x y, ty, pos, af, g⟩ st (eqp (.m .undef) ⟨st.sl, st.bx, st.H.set i (.row false ec ver cs')⟩) := by
  intro a σ lam hi
  have h := hi.ev hx
  have h2 := hi.ev hy
  generalize hu : a.eval x = u at h
  cases h with
  | m h => cases h with
    | rref i ver off b hle hcur =>
      cases h2 with
      | m h2 =>
        have hH' : σ.H[i]? = some (.row false ec ver cs) := by rw [hi.hH]; exact hH
        have hb := hcur false ec cs hH'
        subst hb
        obtain ⟨hec, arr, TT, cap, nn, h3, h4, h5, ⟨h6, hmax⟩, h7⟩ := hi.hinv.obj i _ hH'
        have hc := h2.cells hok
        have hle2 : cs.length ≤ arr.size := by rw [h4, h6]; exact Nat.mul_le_mul_right _ h5
        obtain ⟨k1, k2, k3⟩ := row_write hle2 h7 hc hw
        have hsz : (a.eval y).cells.size = n := by rw [hc.1, hn]
        have hrun := storeVar_run (P := X.P) (t := T) (off := off) h3 (by rw [hs.size, hsz]) (by rw [hc.1]; omega) hc.flat
        have hlt := lt_of_heap h3
        obtain ⟨τ, g1, g2, g3, g4, g5⟩ := hi.updObj (j := i) (b' := σ.l i) (ob := .row false ec ver cs) (ob' := .row false ec ver cs') (w' := setBlk σ.w (σ.l i) (.cells (arrWrite arr off (a.eval y).cells.toList) TT (0, 0))) hH trivial rfl rfl rfl (by rw [setBlk_size]; exact Nat.le_refl _)
          (fun c _ hc => setBlk_ne hc) (.inl rfl) (fun o v ho => (ho (.inl rfl)).elim) ⟨rfl, .inr ⟨rfl, k3, rfl, fun ar T' ha => by
            rw [h3] at ha; injection ha with ha; injection ha with e1 e2; subst e1; subst e2
            exact ⟨_, setBlk_get hlt, arrWrite_size _ _ _⟩⟩⟩ (by
            intro τ hm hw _ _
            exact ⟨hec, _, TT, cap, nn, by rw [hw]; exact setBlk_get hlt, by rw [arrWrite_size]; exact h4, h5, ⟨by rw [k3]; exact h6, hmax⟩, fun i m v a b => ⟨(k1 i m v a b).1.mono hm, (k1 i m v a b).2⟩⟩)
        refine OpRun.skip (by simp only [execOp, hu, Instr.storeAt, Instr.sureAddr]; simp [hrun]; rfl) ?_
        exact ⟨.m .undef, _, τ, lam, ⟨rfl, rfl⟩, g1, g5, .m (.undef _)⟩

theorem op_indexR {t e ec : Nat} {x y : Operand} {j ver len : Nat} {acc : Bool} {cs : List M} {k : IntKind} {i : Int} [ht : TySlice X.P t e] [hs : TySz X.P e ec] (hx : st.ev x = some (.m (.rsl j ver len))) (hy : st.ev y = some (.m (.d (.int k i))))
    (hH : st.H[j]? = some (.row acc ec ver cs)) (h0 : 0 ≤ i) (hlt : i < len) :
    OpT X ⟨dst, .indexAddr t x y, ty, pos, af, g⟩ st (eqp (.m (.rref j ver (i.toNat * ec))) st) := by
  refine OpT.quiet fun a σ lam hi => ?_
  have h := hi.ev hx
  have h2 := hi.evint hy
  generalize hu : a.eval x = u at h
  cases h with
  | m h => cases h with
    | rsl j ver len ad cap hle hcur =>
      have hH' : σ.H[j]? = some (.row acc ec ver cs) := by rw [hi.hH]; exact hH
      obtain ⟨e1, e2, arr, TT, e3, e4⟩ := hcur acc ec cs hH'
      subst e1
      refine ⟨.pointer (some ⟨σ.l j, i.toNat * ec, none⟩), ?_, .m (.rref j ver _ _ hle fun _ _ _ _ => rfl)⟩
      simp [execOp, hu, h2, Instr.indexAt, asIntOf, underlying, program, Sem.run, ht.u, size_run hs.size, h0, hlt, addr_add]

theorem op_lenR {t e : Nat} {x : Operand} {j ver len : Nat} [ht : TySlice X.P t e] (hx : st.ev x = some (.m (.rsl j ver len))) :
    OpT X ⟨dst, .call ⟨.builtin .len, #[x], #[t]⟩, ty, pos, af, g⟩ st (eqp (.m (.d (.int .i64 len))) st) := by
  refine OpT.quiet fun a σ lam hi => ?_
  have h := hi.ev hx
  generalize hu : a.eval x = u at h
  refine ⟨.int .i64 len, ?_, .m (.d (.int _ _))⟩
  cases h with
  | m h => cases h with
    | rsl j ver len ad cap hle hcur =>
      simp [execOp, resolve, invoke, builtin, Builtin.len_, underlying, program, Sem.run, ht.u, hu, goInt]

end ops
end Go.Mt

set_option linter.unusedVariables false
namespace Go.Mt

theorem growBy_le (newLen : Nat) (h : 256 ≤ newLen) : ∀ r c, 256 ≤ c → c ≤ 2 * newLen → Builtin.growBy newLen r c ≤ 2 * newLen
  | 0, c, _, h2 => h2
  | r + 1, c, h1, h2 => by
    unfold Builtin.growBy
    split
    · exact h2
    · exact growBy_le newLen h r _ (by omega) (by omega)
theorem nextcap_le {need cap : Nat} (h : cap < need) : Builtin.nextslicecap need cap ≤ 2 * need := by
  unfold Builtin.nextslicecap
  split
  · omega
  · split
    · omega
    · exact growBy_le need (by omega) 4 cap (by omega) (by omega)

theorem push_self (h : Array Obj) (x : Obj) : (h.push x)[h.size]? = some x := by simp
theorem set_get {α : Type} {l : List α} {j : Nat} {x y : α} (h : l[j]? = some x) : (l.set j y)[j]? = some y := by
  have : j < l.length := by rcases Nat.lt_or_ge j l.length with h' | h'; exact h'; simp [List.getElem?_eq_none h'] at h
  simp [this]

theorem zeroCells_size (z : Array Value) (n : Nat) : (Builtin.zeroCells z n).size = n * z.size := by simp [Builtin.zeroCells]

/-- the cells of a slice of data, as append takes them -/
theorem Rep.firstCells {P : Program} {O : Nat → Nat → Prop} {w : World} {rows : List (List D)} {v : Value} {n : Nat} (hn : 0 < n) (h : Rep O w (.sl rows) v) (hl : ∀ r ∈ rows, r.length = n) :
    ∃ vs : Array Value, (∀ w' : World, (Builtin.lenOf v).run P w' = .ok rows.length w') ∧ (∀ w' : World, w'.heap = w.heap → (Builtin.firstCells n rows.length v).run P w' = .ok vs w') ∧ vs.size = rows.length * n ∧
      ∀ (i j : Nat) r d, rows[i]? = some r → r[j]? = some d → ∃ u, vs[i * n + j]? = some u ∧ Rep O w d u ∧ flat u = true := by
  cases h with
  | slnil a =>
    cases a with
    | none => exact ⟨#[], fun _ => by simp [Builtin.lenOf], fun _ _ => by simp [Builtin.firstCells], by simp, by simp⟩
    | some a => exact ⟨#[], fun _ => by simp [Builtin.lenOf], fun _ _ => by simp [Builtin.firstCells, loadCells, loadCellsFrom], by simp, by simp⟩
  | sl rows b o cap ec val h0 hcap hmax hec hcell hflat hrep =>
    have hec' : ec = n := by
      cases rows with
      | nil => exact absurd rfl h0
      | cons r rs => rw [← hec r (by simp)]; exact hl r (by simp)
    subst hec'
    let vs : Array Value := ((List.range (rows.length * ec)).map fun k => val (k / ec) (k % ec)).toArray
    have hsz : vs.size = rows.length * ec := by simp [vs]
    have hdm : ∀ k, k < rows.length * ec → k / ec < rows.length ∧ k % ec < ec ∧ k / ec * ec + k % ec = k := by
      intro k hk
      refine ⟨(Nat.div_lt_iff_lt_mul hn).2 hk, Nat.mod_lt _ hn, ?_⟩
      have := Nat.div_add_mod k ec; rw [Nat.mul_comm] at this; exact this
    refine ⟨vs, fun _ => by simp [Builtin.lenOf], ?_, hsz, ?_⟩
    · intro w' hw'
      simp only [Builtin.firstCells, loadCells]
      refine loadCells_run _ 0 _ (by omega) (by simp) ?_
      intro k hk
      rw [hsz] at hk
      obtain ⟨h1, h2, h3⟩ := hdm k hk
      have : vs.getD k undef = val (k / ec) (k % ec) := by simp [vs, hk]
      rw [this]
      have := (hcell _ _ h1 h2).1
      rw [h3] at this
      rw [cellv_of_blk (w := w) (by rw [hw'])]
      exact this
    · intro i j r d hr hd
      have hi : i < rows.length := by rcases Nat.lt_or_ge i rows.length with h | h; exact h; simp [List.getElem?_eq_none h] at hr
      have hj : j < ec := by
        rw [← hec r (List.mem_of_getElem? hr)]; rcases Nat.lt_or_ge j r.length with h | h; exact h; simp [List.getElem?_eq_none h] at hd
      have hk : i * ec + j < rows.length * ec := by
        calc i * ec + j < i * ec + ec := by omega
          _ = (i + 1) * ec := by rw [Nat.succ_mul]
          _ ≤ rows.length * ec := Nat.mul_le_mul_right _ hi
      refine ⟨val i j, ?_, hrep i j r d hr hd, hflat i j hi hj⟩
      have e1 : (i * ec + j) / ec = i := by rw [Nat.mul_comm, Nat.mul_add_div hn, Nat.div_eq_of_lt hj]; omega
      have e2 : (i * ec + j) % ec = j := by rw [Nat.mul_comm, Nat.mul_add_mod, Nat.mod_eq_of_lt hj]
      simp [vs, hk, e1, e2]

/-- rows of data as cells -/
def flatM (rows : List (List D)) : List M := (rows.map fun r => r.map M.d).flatten
theorem flatM_length {n : Nat} : ∀ {rows : List (List D)}, (∀ r ∈ rows, r.length = n) → (flatM rows).length = rows.length * n
  | [], _ => by simp [flatM]
  | r :: rs, h => by
    have := flatM_length (n := n) (rows := rs) (fun r hr => h r (by simp [hr]))
    unfold flatM at *
    simp only [List.map_cons, List.flatten_cons, List.length_append, List.length_map, this, h r (by simp), List.length_cons, Nat.succ_mul]
    omega
theorem flatM_get {n : Nat} (hn : 0 < n) : ∀ {rows : List (List D)} {k : Nat} {m : M}, (∀ r ∈ rows, r.length = n) → (flatM rows)[k]? = some m → ∃ i j r d, k = i * n + j ∧ rows[i]? = some r ∧ r[j]? = some d ∧ m = .d d
  | [], k, m, _, h => by simp [flatM] at h
  | r :: rs, k, m, hl, h => by
    have hr : r.length = n := hl r (by simp)
    have h' : ((r.map M.d) ++ flatM rs)[k]? = some m := by simpa [flatM] using h
    rcases Nat.lt_or_ge k n with hk | hk
    · rw [List.getElem?_append_left (by simp [hr, hk])] at h'
      simp only [List.getElem?_map, Option.map_eq_some_iff] at h'
      obtain ⟨d, hd, rfl⟩ := h'
      exact ⟨0, k, r, d, by simp, by simp, hd, rfl⟩
    · rw [List.getElem?_append_right (by simp [hr, hk])] at h'
      simp only [List.length_map, hr] at h'
      obtain ⟨i, j, r', d, h1, h2, h3, h4⟩ := flatM_get hn (fun r hr => hl r (by simp [hr])) h'
      exact ⟨i + 1, j, r', d, by rw [Nat.succ_mul]; omega, by simpa using h2, h3, h4⟩

class TyB (P : Program) (t : Nat) (n : outParam Nat) : Prop where
  bytes : tyBytes P t = some n
theorem bytes_run {P : Program} {t n b : Nat} (h : tySize P t = some n) (h2 : tyBytes P t = some b) : ∃ i : TypeInfo, P.info? t = some i ∧ i.size = n ∧ i.bytes = b := by
  unfold tySize at h
  unfold tyBytes at h2
  cases hu : P.info? t with
  | none => simp [hu] at h
  | some i => simp [hu] at h h2; exact ⟨i, rfl, h, h2⟩

section ops
variable {X : Ctx} {st : St} {dst : Option Nat} {ty : Nat} {pos : String} {af : Array Edge} {g : Option (Nat × Bool)}

theorem loadRow_run {P : Program} {w : World} {b k T : Nat} {arr : Array Value} {fz : Nat × Nat} (h : w.heap[b]? = some (.cells arr T fz)) (hk : k ≤ arr.size) : (loadCells ⟨b, 0, none⟩ k).run P w = .ok (arr.extract 0 k) w := by
  unfold loadCells
  have hsz : (arr.extract 0 k).size = k := by simp; omega
  refine loadCells_run k 0 _ (by omega) (by simp) ?_
  intro i hi
  rw [hsz] at hi
  have h1 : i < arr.size := by omega
  have h2 : i < min k arr.size := by omega
  simp [cellv, World.cell?, h, h1, h2]

end ops
end Go.Mt
