import Derived.Test.YtjhinemdonddoaaMtL
set_option linter.unusedVariables false
namespace Go.Mt

theorem pairsOk1_spec {opsA : Array Oper} {x : Oper} {e : Ef} {i : Nat} : ∀ {ys : List Oper} {fs : List Ef} {bs : List (List Nat)}, pairsOk1 opsA x e i ys fs bs = true →
    ∀ (j : Nat) y f b, ys[j]? = some y → fs[j]? = some f → bs[j]? = some b → (confl opsA x y e f = true → i ∈ b) ∧ stale e f = false
  | [], _, _, _, j, y, f, b, hy, _, _ => by simp at hy
  | _ :: _, [], _, _, j, y, f, b, _, hf, _ => by simp at hf
  | _ :: _, _ :: _, [], _, j, y, f, b, _, _, hb => by simp at hb
  | y0 :: ys, f0 :: fs, b0 :: bs, h, j, y, f, b, hy, hf, hb => by
    simp only [pairsOk1, Bool.and_eq_true, Bool.or_eq_true, Bool.not_eq_true'] at h
    cases j with
    | zero =>
      simp at hy hf hb; subst hy; subst hf; subst hb
      refine ⟨fun hc => ?_, h.1.2⟩
      rcases h.1.1 with h1 | h1
      · rw [h1] at hc; cases hc
      · exact has_iff.1 h1
    | succ j => simp at hy hf hb; exact pairsOk1_spec h.2 j y f b hy hf hb
theorem pairsOk_spec {opsA : Array Oper} : ∀ {xs : List Oper} {es : List Ef} {bs : List (List Nat)} {n : Nat}, pairsOk opsA n xs es bs = true →
    ∀ (i j : Nat) x e y f b, i < j → xs[i]? = some x → es[i]? = some e → xs[j]? = some y → es[j]? = some f → bs[j]? = some b → (confl opsA x y e f = true → n + i ∈ b) ∧ stale e f = false
  | [], _, _, n, _, i, j, x, e, y, f, b, _, hx, _, _, _, _ => by simp at hx
  | _ :: _, [], _, n, _, i, j, x, e, y, f, b, _, _, he, _, _, _ => by simp at he
  | _ :: _, _ :: _, [], n, _, i, j, x, e, y, f, b, _, _, _, _, _, hb => by simp at hb
  | x0 :: xs, e0 :: es, b0 :: bs, n, h, i, j, x, e, y, f, b, hij, hx, he, hy, hf, hb => by
    simp only [pairsOk, Bool.and_eq_true] at h
    cases j with
    | zero => omega
    | succ j =>
      cases i with
      | zero =>
        simp at hx he hy hf hb; subst hx; subst he
        exact pairsOk1_spec h.1 j y f b hy hf hb
      | succ i =>
        simp at hx he hy hf hb
        have := pairsOk_spec h.2 i j x e y f b (by omega) hx he hy hf hb
        rw [show n + (i + 1) = n + 1 + i by omega]
        exact this
theorem edgesOk_spec : ∀ {ops : List Oper} {n : Nat}, edgesOk n ops = true → ∀ (j : Nat) o, ops[j]? = some o → ∀ e ∈ o.after.toList, Region.binds .any e = true → e.on < n + j
  | [], n, _, j, o, ho, _, _, _ => by simp at ho
  | x :: r, n, h, j, o, ho, e, he, hb => by
    simp only [edgesOk, Bool.and_eq_true, List.all_eq_true, Bool.or_eq_true, Bool.not_eq_true'] at h
    cases j with
    | zero =>
      simp at ho; subst ho
      rcases h.1 e he with h1 | h1
      · rw [h1] at hb; cases hb
      · have := blt_lt h1; omega
    | succ j => simp at ho; have := edgesOk_spec h.2 j o ho e he hb; omega

theorem foldl_take_S (st : St) (es : List Ef) : ∀ k, S st es (fun _ => true) k = (es.take k).foldl (fun s e => e.app s) st
  | 0 => rfl
  | k + 1 => by
    simp only [S]
    cases he : es[k]? with
    | none =>
      have hle : es.length ≤ k := by rcases Nat.lt_or_ge k es.length with h | h; simp [List.getElem?_eq_getElem h] at he; exact h
      rw [foldl_take_S st es k, List.take_of_length_le hle, List.take_of_length_le (by omega)]
    | some e =>
      simp only [cond_true]
      rw [foldl_take_S st es k]
      have hlt : k < es.length := by rcases Nat.lt_or_ge k es.length with h | h; exact h; simp [List.getElem?_eq_none h] at he
      rw [List.take_succ_eq_append_getElem hlt, List.foldl_append]
      have : es[k] = e := by simpa [List.getElem?_eq_getElem hlt] using he
      rw [this]; rfl

theorem RunF.spec {X : Ctx} {opsA : Array Oper} {l : List Oper} {st st' : St} {es : List Ef} (h : RunF X opsA l st es st') :
    es.length = l.length ∧ st' = es.foldl (fun s e => e.app s) st ∧ ∀ (i : Nat) o e, l[i]? = some o → es[i]? = some e → StepF X opsA o e ((es.take i).foldl (fun s e => e.app s) st) ∧ e.d = o.dst := by
  induction h with
  | nil st => exact ⟨rfl, rfl, by simp⟩
  | cons h hd k ih =>
    obtain ⟨h1, h2, h3⟩ := ih
    refine ⟨by simp [h1], h2, fun i o e ho he => ?_⟩
    cases i with
    | zero => simp at ho he; subst ho; subst he; exact ⟨h, hd⟩
    | succ i => simp at ho he; exact h3 i o e ho he

def cnt : Nat → (Nat → Bool) → Nat
  | 0, _ => 0
  | k + 1, f => cnt k f + (bif f k then 0 else 1)
theorem cnt_congr : ∀ {m : Nat} {f g : Nat → Bool}, (∀ k, k < m → f k = g k) → cnt m f = cnt m g
  | 0, _, _, _ => rfl
  | m + 1, f, g, h => by simp only [cnt]; rw [cnt_congr (fun k hk => h k (by omega)), h m (by omega)]
theorem cnt_zero : ∀ {m : Nat} {f : Nat → Bool}, cnt m f = 0 → ∀ k, k < m → f k = true
  | 0, f, _, k, hk => by omega
  | m + 1, f, h, k, hk => by
    simp only [cnt] at h
    cases hf : f m with
    | false => simp [hf] at h
    | true =>
      simp [hf] at h
      by_cases e : k = m
      · rw [e]; exact hf
      · exact cnt_zero h k (by omega)
theorem cnt_pos : ∀ {m : Nat} {f : Nat → Bool}, 0 < cnt m f → ∃ i, i < m ∧ f i = false ∧ ∀ k, k < i → f k = true
  | 0, f, h => by simp [cnt] at h
  | m + 1, f, h => by
    by_cases h0 : 0 < cnt m f
    · obtain ⟨i, h1, h2, h3⟩ := cnt_pos h0; exact ⟨i, by omega, h2, h3⟩
    · have h1 : cnt m f = 0 := by omega
      simp only [cnt, h1] at h
      cases hf : f m with
      | false => exact ⟨m, by omega, hf, cnt_zero h1⟩
      | true => simp [hf] at h
theorem cnt_set : ∀ {m : Nat} {f : Nat → Bool} {i : Nat}, i < m → f i = false → cnt m (fun k => if k = i then true else f k) + 1 = cnt m f
  | 0, f, i, h, _ => by omega
  | m + 1, f, i, h, hf => by
    simp only [cnt]
    by_cases e : i = m
    · subst e
      have : cnt i (fun k => if k = i then true else f k) = cnt i f := cnt_congr fun k hk => by simp [show k ≠ i by omega]
      simp only [this, if_true, hf, cond_true, cond_false, Nat.add_zero]
    · have := cnt_set (m := m) (f := f) (i := i) (by omega) hf
      have h2 : m ≠ i := by omega
      simp only [h2, if_false]
      omega

theorem TC.draw {X : Ctx} {id : Nat} {ops : List Oper} {st : St} {post : Exit → St → Prop} (hm : X.P.follows .mixedOrders = true)
    (h : TF X ops.toArray ops st fun es st' => orderOk ops st.sl es = true ∧ post .normal st') : TC X (.region id ops.toArray true) st post := by
  obtain ⟨es, st', hrun, hok, hpost⟩ := h
  obtain ⟨hlen, hst', hstep⟩ := hrun.spec
  simp only [orderOk, Bool.and_eq_true] at hok
  obtain ⟨⟨hedge, hpairs⟩, hstale⟩ := hok
  have hE := edgesOk_spec hedge
  have hP := pairsOk_spec hpairs
  have hall : st' = S st es (fun _ => true) ops.length := by rw [foldl_take_S, List.take_of_length_le (by omega), hst']
  have hesd : ∀ (k : Nat) e, es[k]? = some e → ∃ o b, ops[k]? = some o ∧ (befs ops)[k]? = some b ∧ e.d = o.dst ∧ k < ops.length := by
    intro k e he
    have hk : k < es.length := by rcases Nat.lt_or_ge k es.length with h | h; exact h; simp [List.getElem?_eq_none h] at he
    have ho : ops[k]? = some ops[k] := by simp [show k < ops.length by omega]
    have hb : k < (befs ops).length := by rw [befs_length]; omega
    exact ⟨ops[k], (befs ops)[k], ho, by simp [hb], (hstep k _ e ho he).2, by omega⟩
  have hns : ∀ (k : Nat) e d, es[k]? = some e → e.nw = some d → noLoc d st.sl = true := by
    have : ∀ (l : List Ef), noStale st.sl l = true → ∀ (k : Nat) e d, l[k]? = some e → e.nw = some d → noLoc d st.sl = true := by
      intro l
      induction l with
      | nil => intro _ k e d h; simp at h
      | cons x l ih =>
        intro hl k e d he hd
        simp only [noStale, Bool.and_eq_true] at hl
        cases k with
        | zero => simp at he; subst he; simpa [hd] using hl.1
        | succ k => simp at he; exact ih hl.2 k e d he hd
    exact this es hstale
  intro a w hi
  refine wp_region_any hm ?_
  -- the invariant
  have main : ∀ (fuel : Nat) (listed : Array Bool) (a : Act) (w : World), listed.size = ops.length → cnt ops.length (fun k => listed.getD k false) = fuel →
      (∀ j b, listed.getD j false = true → (befs ops)[j]? = some b → ∀ i ∈ b, listed.getD i false = true) →
      Inv X (S st es (fun k => listed.getD k false) ops.length) a w →
      wpAny X.P .any ops.toArray (fun e a' w' => ∃ st', post e st' ∧ Inv X st' a' w') fuel listed a w := by
    intro fuel
    induction fuel with
    | zero =>
      intro listed a w hsz hc hcl hinv
      have hz := cnt_zero hc
      refine ⟨?_, st', hpost, ?_⟩
      · unfold Region.ready
        rw [List.filter_eq_nil_iff]
        intro i hi
        simp at hi
        have h1 := hz i hi
        have h2 : i < listed.size := by omega
        simp [h2] at h1
        simp [h2, h1]
      · have e : S st es (fun k => listed.getD k false) ops.length = st' := by
          rw [hall]
          have : ∀ n, n ≤ ops.length → S st es (fun k => listed.getD k false) n = S st es (fun _ => true) n := by
            intro n
            induction n with
            | zero => intro _; rfl
            | succ n ih =>
              intro hn
              simp only [S, ih (by omega), hz n (by omega)]
          exact this _ (Nat.le_refl _)
        rw [← e]; exact hinv
    | succ fuel ih =>
      intro listed a w hsz hc hcl hinv
      have mem_ready : ∀ i, i ∈ Region.ready .any ops.toArray listed ↔ i < ops.length ∧ listed.getD i true = false ∧ ∃ o, ops[i]? = some o ∧ ∀ e ∈ o.after.toList, Region.binds .any e = true → listed.getD e.on false = true := by
        intro i
        unfold Region.ready
        rw [List.mem_filter]
        simp only [List.mem_range, List.size_toArray, Bool.and_eq_true, Bool.not_eq_true', List.getElem?_toArray]
        constructor
        · rintro ⟨h1, h2, h3⟩
          refine ⟨h1, h2, ops[i], by simp [h1], ?_⟩
          simp [h1] at h3
          intro e he hb
          have he' : e ∈ ops[i].after := by simpa using he
          obtain ⟨n, hn, rfl⟩ := Array.mem_iff_getElem.1 he'
          rcases h3 n hn with h4 | h4
          · rw [h4] at hb; cases hb
          · simpa using h4
        · rintro ⟨h1, h2, o, h3, h4⟩
          refine ⟨h1, h2, ?_⟩
          have : ops[i] = o := by simpa [h1] using h3
          simp [h1, this]
          intro n hn
          cases hb : Region.binds .any o.after[n] with
          | false => exact .inl rfl
          | true => right; simpa using h4 o.after[n] (by simp) hb
      refine ⟨?_, ?_⟩
      · intro hr
        obtain ⟨i, h1, h2, h3⟩ := cnt_pos (m := ops.length) (f := fun k => listed.getD k false) (by omega)
        have : i ∈ Region.ready .any ops.toArray listed := by
          rw [mem_ready]
          have hls : i < listed.size := by omega
          refine ⟨h1, by simp [hls] at h2 ⊢; exact h2, ops[i], by simp [h1], ?_⟩
          intro e he hb
          have := hE i ops[i] (by simp [h1]) e he hb
          exact h3 e.on (by omega)
        rw [hr] at this; cases this
      · intro i hir
        obtain ⟨hi1, hi2, o, ho, hedges⟩ := (mem_ready i).1 hir
        have hls : i < listed.size := by omega
        have hLi : listed.getD i false = false := by simp [hls] at hi2 ⊢; exact hi2
        have hel : i < es.length := by omega
        obtain ⟨e, he⟩ : ∃ e, es[i]? = some e := ⟨es[i], by simp [hel]⟩
        have hbl : i < (befs ops).length := by rw [befs_length]; exact hi1
        obtain ⟨bi, hbi⟩ : ∃ b, (befs ops)[i]? = some b := ⟨(befs ops)[i], by simp [hbl]⟩
        -- what comes ahead of i is done
        have ahead : ∀ k, k ∈ bi → listed.getD k false = true := by
          intro k hk
          obtain ⟨ed, h1, h2, h3⟩ := befs_mem ho hbi hk
          have h4 := hedges ed h1 h2
          rcases h3 with h3 | ⟨b', h5, _, h6⟩
          · rw [← h3]; exact h4
          · exact hcl _ b' h4 h5 k h6
        have early : ∀ (k : Nat) f, k < i → es[k]? = some f → ∀ x, ops[k]? = some x → confl ops.toArray x o f e = true → listed.getD k false = true := by
          intro k f hk hf x hx hc
          have := (hP k i x f o e bi hk hx hf ho he hbi).1 hc
          simp at this
          exact ahead k this
        have late : ∀ (k : Nat) f, i < k → es[k]? = some f → ∀ x, ops[k]? = some x → confl ops.toArray o x e f = true → listed.getD k false = false := by
          intro k f hk hf x hx hc
          obtain ⟨_, b, _, hb, _, _⟩ := hesd k f hf
          have := (hP i k o e x f b hk ho he hx hf hb).1 hc
          simp at this
          cases hl : listed.getD k false with
          | false => rfl
          | true => rw [hcl k b hl hb i this] at hLi; cases hLi
        obtain ⟨hstepi, hedi⟩ := hstep i o e ho he
        have hSi : (es.take i).foldl (fun s e => e.app s) st = S st es (fun _ => true) i := (foldl_take_S st es i).symm
        rw [hSi] at hstepi
        have hWslot : ∀ t k, (slotPart es t).W k = true → ∃ f x, es[k]? = some f ∧ ops[k]? = some x ∧ f.d = some t ∧ x.dst = some t := by
          intro t k hw
          simp only [slotPart] at hw
          split at hw
          · rename_i f hf
            split at hw
            · rename_i d hd
              have := Nat.eq_of_beq_eq_true hw
              subst this
              obtain ⟨x, b, hx, _, hxd, _⟩ := hesd k f hf
              exact ⟨f, x, hf, hx, hd, by rw [← hxd]; exact hd⟩
            · cases hw
          · cases hw
        have hWbox : ∀ t k, (boxPart es t).W k = true → ∃ f x, es[k]? = some f ∧ ops[k]? = some x ∧ t ∈ f.wb.map (·.1) := by
          intro t k hw
          simp only [boxPart] at hw
          split at hw
          · rename_i f hf
            obtain ⟨x, b, hx, _, _, _⟩ := hesd k f hf
            exact ⟨f, x, hf, hx, has_iff.1 hw⟩
          · cases hw
        have hWheap : ∀ k, (heapPart es).W k = true → ∃ f x, es[k]? = some f ∧ ops[k]? = some x ∧ f.wh.isSome = true := by
          intro k hw
          simp only [heapPart] at hw
          split at hw
          · rename_i f hf
            obtain ⟨x, b, hx, _, _, _⟩ := hesd k f hf
            exact ⟨f, x, hf, hx, hw⟩
          · cases hw
        have anyhas : ∀ (l : List (Nat × List M)) (r : List Nat) (t : Nat), t ∈ l.map (·.1) → t ∈ r → (l.any fun p => has r p.1) = true := by
          intro l r t h1 h2
          rw [List.any_eq_true]
          obtain ⟨p, hp, rfl⟩ := List.mem_map.1 h1
          exact ⟨p, hp, has_iff.2 h2⟩
        have hag : Ag ops.toArray o e (S st es (fun _ => true) i) (S st es (fun k => listed.getD k false) ops.length) := by
          refine ⟨?_, ?_, ?_, ?_⟩
          · intro t ht
            refine S_agree (slotPart es t) _ i ops.length (by omega) ?_ ?_
            · intro k hk hw
              obtain ⟨f, x, hf, hx, _, hxd⟩ := hWslot t k hw
              refine early k f hk hf x hx ?_
              have : has (slotsOf ops.toArray o) t = true := has_iff.2 (by simp [slotsOf, ht])
              simp [confl, hxd, this]
            · intro k hk hk2 hw
              by_cases hki : k = i
              · rw [hki]; exact hLi
              · obtain ⟨f, x, hf, hx, _, hxd⟩ := hWslot t k hw
                refine late k f (by omega) hf x hx ?_
                have : has (slotsOf ops.toArray o) t = true := has_iff.2 (by simp [slotsOf, ht])
                simp [confl, hxd, this]
          · intro t ht
            refine S_agree (boxPart es t) _ i ops.length (by omega) ?_ ?_
            · intro k hk hw
              obtain ⟨f, x, hf, hx, hft⟩ := hWbox t k hw
              refine early k f hk hf x hx ?_
              have := anyhas f.wb _ t hft ht
              simp [confl, this]
            · intro k hk hk2 hw
              by_cases hki : k = i
              · rw [hki]; exact hLi
              · obtain ⟨f, x, hf, hx, hft⟩ := hWbox t k hw
                refine late k f (by omega) hf x hx ?_
                have := anyhas f.wb _ t hft ht
                simp [confl, this]
          · intro hrh
            refine S_agree (heapPart es) _ i ops.length (by omega) ?_ ?_
            · intro k hk hw
              obtain ⟨f, x, hf, hx, hfw⟩ := hWheap k hw
              refine early k f hk hf x hx ?_
              simp only [Bool.or_eq_true] at hrh
              rcases hrh with hrh | hrh <;> simp [confl, hfw, hrh]
            · intro k hk hk2 hw
              by_cases hki : k = i
              · rw [hki]; exact hLi
              · obtain ⟨f, x, hf, hx, hfw⟩ := hWheap k hw
                refine late k f (by omega) hf x hx ?_
                simp only [Bool.or_eq_true] at hrh
                rcases hrh with hrh | hrh <;> simp [confl, hfw, hrh]
          · intro d hd t oo hg
            -- no stale address
            have key : ∀ n, n ≤ ops.length → get (S st es (fun k => listed.getD k false) n).sl t = some (.loc d oo) → False := by
              intro n
              induction n with
              | zero =>
                intro _ hg
                exact noLoc_get (hns i e d he hd) hg
              | succ n ihn =>
                intro hn hg
                simp only [S] at hg
                cases hen : es[n]? with
                | none => simp only [hen] at hg; exact ihn (by omega) hg
                | some f =>
                  simp only [hen] at hg
                  cases hl : listed.getD n false with
                  | false => rw [hl] at hg; exact ihn (by omega) hg
                  | true =>
                    rw [hl] at hg
                    simp only [cond_true, Ef.app] at hg
                    obtain ⟨x, b, hx, hb, hxd, _⟩ := hesd n f hen
                    cases hfd : f.d with
                    | none => simp only [hfd] at hg; exact ihn (by omega) hg
                    | some d' =>
                      simp only [hfd] at hg
                      rcases get_cons_eq hg with ⟨_, h2⟩ | ⟨_, h2⟩
                      · have hne : n ≠ i := by rintro rfl; rw [hl] at hLi; cases hLi
                        rcases Nat.lt_or_gt_of_ne hne with hlt | hgt
                        · have := (hP n i x f o e bi hlt hx hen ho he hbi).2
                          simp [stale, hd, ← h2] at this
                        · have := late n f hgt hen x hx (by simp [confl, hd, ← h2])
                          rw [this] at hl; cases hl
                      · exact ihn (by omega) h2
            exact key _ (Nat.le_refl _) hg
        have hops := hstepi _ hag
        -- the operation
        have hnext : ∀ a' w', Inv X (e.app (S st es (fun k => listed.getD k false) ops.length)) a' w' → wpAny X.P .any ops.toArray (fun e a' w' => ∃ st', post e st' ∧ Inv X st' a' w') fuel (listed.setIfInBounds i true) a' w' := by
          intro a' w' hinv'
          have hfun : (fun k => (listed.setIfInBounds i true).getD k false) = fun k => if k = i then true else listed.getD k false := by
            funext k
            by_cases hk : k = i
            · subst hk; simp [hls]
            · simp [hk, Array.getElem?_setIfInBounds_ne (Ne.symm hk)]
          refine ih _ a' w' (by simp [hsz]) ?_ ?_ ?_
          · rw [hfun]
            have := cnt_set (m := ops.length) (f := fun k => listed.getD k false) hi1 hLi
            omega
          · intro j b hj hb k hk
            have hj' : (if j = i then true else listed.getD j false) = true := by rw [← congrFun hfun j]; exact hj
            have goal : (if k = i then true else listed.getD k false) = true := by
              by_cases hki : k = i
              · simp [hki]
              · rw [if_neg hki]
                by_cases hji : j = i
                · subst hji
                  rw [hbi] at hb; injection hb with hb; subst hb
                  exact ahead k hk
                · rw [if_neg hji] at hj'
                  exact hcl j b hj' hb k hk
            rw [← congrFun hfun k] at goal; exact goal
          · rw [hfun]
            have g1 : ∀ t, get (S st es (fun k => if k = i then true else listed.getD k false) ops.length).sl t = get (e.app (S st es (fun k => listed.getD k false) ops.length)).sl t := by
              intro t
              refine S_put (slotPart es t) _ i ops.length hi1 e he hLi ?_
              intro hwi k hk hk2 hwk
              obtain ⟨f, x, hf, hx, _, hxd⟩ := hWslot t k hwk
              obtain ⟨f', x', hf', hx', _, hxd'⟩ := hWslot t i hwi
              rw [ho] at hx'; injection hx' with hx'; subst hx'
              refine late k f hk hf x hx ?_
              have : has (slotsOf ops.toArray o) t = true := has_iff.2 (by simp [slotsOf, hxd'])
              simp [confl, hxd, this]
            have g2 : ∀ t, get (S st es (fun k => if k = i then true else listed.getD k false) ops.length).bx t = get (e.app (S st es (fun k => listed.getD k false) ops.length)).bx t := by
              intro t
              refine S_put (boxPart es t) _ i ops.length hi1 e he hLi ?_
              intro hwi k hk hk2 hwk
              obtain ⟨f, x, hf, hx, hft⟩ := hWbox t k hwk
              obtain ⟨f', x', hf', hx', hft'⟩ := hWbox t i hwi
              rw [he] at hf'; injection hf' with hf'; subst hf'
              refine late k f hk hf x hx ?_
              have := anyhas f.wb (e.rb ++ e.wb.map (·.1)) t hft (List.mem_append.2 (.inr hft'))
              simp [confl, this]
            have g3 : (S st es (fun k => if k = i then true else listed.getD k false) ops.length).H = (e.app (S st es (fun k => listed.getD k false) ops.length)).H := by
              refine S_put (heapPart es) _ i ops.length hi1 e he hLi ?_
              intro hwi k hk hk2 hwk
              obtain ⟨f, x, hf, hx, hfw⟩ := hWheap k hwk
              obtain ⟨f', x', hf', hx', hfw'⟩ := hWheap i hwi
              rw [he] at hf'; injection hf' with hf'; subst hf'
              refine late k f hk hf x hx ?_
              simp [confl, hfw, hfw']
            have := Inv.weak (X := X) (sl := (e.app (S st es (fun k => listed.getD k false) ops.length)).sl) (bx := (e.app (S st es (fun k => listed.getD k false) ops.length)).bx) (H := (e.app (S st es (fun k => listed.getD k false) ops.length)).H)
              (sl' := (S st es (fun k => if k = i then true else listed.getD k false) ops.length).sl) (bx' := (S st es (fun k => if k = i then true else listed.getD k false) ops.length).bx) hinv'
              (fun t v hv => by rw [← g1]; exact hv) g2
            rw [← g3] at this
            exact this
        have := hops a w hinv (wpAny X.P .any ops.toArray (fun e a' w' => ∃ st', post e st' ∧ Inv X st' a' w') fuel (listed.setIfInBounds i true)) (fun e a' w' => ∃ st', post e st' ∧ Inv X st' a' w') hnext
        unfold wpOp
        have hopi : ops.toArray[i]? = some o := by simpa using ho
        simp only [hopi]
        split
        · rename_i hw; rw [if_pos hw] at this; exact .inl this
        · rename_i hw; rw [if_neg hw] at this; exact this
  refine main _ _ a _ (by simp) ?_ ?_ ?_
  · have : ∀ n, cnt n (fun k => (Array.replicate ops.toArray.size false).getD k false) = n := by
      intro n
      induction n with
      | zero => rfl
      | succ n ih =>
        simp only [cnt, ih]
        have : (Array.replicate ops.toArray.size false).getD n false = false := by simp [Array.getElem?_replicate]; split <;> rfl
        rw [this]; rfl
    simpa using this ops.length
  · intro j b hj
    have : (Array.replicate ops.toArray.size false).getD j false = false := by simp [Array.getElem?_replicate]; split <;> rfl
    rw [this] at hj; cases hj
  · have hz : ∀ n, S st es (fun k => (Array.replicate ops.toArray.size false).getD k false) n = st := by
      intro n
      induction n with
      | zero => rfl
      | succ n ih =>
        have : (Array.replicate ops.toArray.size false).getD n false = false := by simp [Array.getElem?_replicate]; split <;> rfl
        simp only [S, ih, this]
        cases es[n]? <;> rfl
    rw [hz]
    obtain ⟨σ, lam, rfl, hi⟩ := hi
    exact ⟨{ σ with w := { σ.w with drawn := σ.w.drawn + 1 } }, lam, rfl, hi.ext (ExtW.drew _)⟩

end Go.Mt
