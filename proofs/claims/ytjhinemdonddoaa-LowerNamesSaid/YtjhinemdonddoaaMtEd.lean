import Derived.Test.YtjhinemdonddoaaMtEc
set_option linter.unusedVariables false
set_option linter.unusedSimpArgs false
namespace Go.Mt

def viewL (f : M → Option D) : List M → Option (List D)
  | [] => some []
  | m :: r => match f m with
    | some d => match viewL f r with
      | some ds => some (d :: ds)
      | none => none
    | none => none
def chunkD (ec : Nat) : Nat → List D → Option (List (List D))
  | 0, l => match l with
    | [] => some []
    | _ => none
  | n + 1, l => match sub l 0 ec with
    | some r => match chunkD ec n (l.drop ec) with
      | some rs => some (r :: rs)
      | none => none
    | none => none
/-- a value of the heap as data, to a depth -/
def viewM (H : Hp) : Nat → M → Option D
  | 0, m => match m with
    | .d x => some x
    | _ => none
  | n + 1, m => match m with
    | .d x => some x
    | .rsl i ver len => bif Nat.beq len 0 then some .slz else
      match H[i]? with
      | some (.row true ec v cs) => bif (Nat.beq v ver && Nat.blt 0 ec) then
          (match viewL (viewM H n) cs with
          | some ds => match chunkD ec len ds with
            | some rows => some (.sl rows)
            | none => none
          | none => none) else none
      | _ => none
    | .agg cs => match viewL (viewM H n) cs with | some ds => some (.agg ds) | none => none
    | .fn f cs => match viewL (viewM H n) cs with | some ds => some (.fn f ds) | none => none
    | _ => none
def viewD (H : Hp) (m : M) : Option D := viewM H 9 m

theorem viewL_spec {f : M → Option D} : ∀ {ms : List M} {ds : List D}, viewL f ms = some ds → ds.length = ms.length ∧ ∀ (i : Nat) m d, ms[i]? = some m → ds[i]? = some d → f m = some d
  | [], ds, h => by simp [viewL] at h; subst h; simp
  | m :: r, ds, h => by
    simp only [viewL] at h
    split at h
    · rename_i d hd
      split at h
      · rename_i ds' hds
        injection h with h; subst h
        obtain ⟨h1, h2⟩ := viewL_spec hds
        refine ⟨by simp [h1], fun i m' d' hm hd' => ?_⟩
        cases i with
        | zero => simp at hm hd'; subst hm; subst hd'; exact hd
        | succ i => simp at hm hd'; exact h2 i m' d' hm hd'
      · cases h
    · cases h

theorem chunkD_eq {ec : Nat} : ∀ {n : Nat} {l : List D} {rows : List (List D)}, chunkD ec n l = some rows → chunk ec n (l.map .d) = some rows
  | 0, l, rows, h => by
    unfold chunkD at h
    cases l with
    | nil => simp at h; subst h; rfl
    | cons => cases h
  | n + 1, l, rows, h => by
    unfold chunkD at h
    split at h
    · rename_i r hr
      split at h
      · rename_i rs hrs
        injection h with h; subst h
        have h1 := chunkD_eq hrs
        obtain ⟨h2, h3⟩ := sub_eq hr
        unfold chunk
        rw [List.map_drop] at h1
        rw [h1]
        have : allD ((l.map M.d).take ec) = some r := by
          rw [← List.map_take]
          simp only [List.drop_zero] at h3
          rw [h3, allD_map]
        rw [this]
      · cases h
    · cases h

theorem RM.viewM {σ : Sg} {Oo : Nat → Nat → Prop} (hi : HInv σ Oo) : ∀ (n : Nat) {m : M} {d : D} {v : Value}, RM σ m v → viewM σ.H n m = some d → Rep σ.O σ.w d v := by
  intro n
  induction n with
  | zero =>
    intro m d v h hv
    unfold Go.Mt.viewM at hv
    cases h with
    | d h => simp at hv; subst hv; exact h
    | _ => cases hv
  | succ n ih =>
    intro m d v h hv
    unfold Go.Mt.viewM at hv
    cases h with
    | d h => simp at hv; subst hv; exact h
    | rsl i ver len ad cap hle hcur =>
      simp only at hv
      cases h0 : Nat.beq len 0 with
      | true =>
        rw [h0] at hv
        simp at hv; subst hv
        have := Nat.eq_of_beq_eq_true h0
        subst this
        exact .slz ad cap
      | false =>
      rw [h0] at hv
      simp only [cond_false] at hv
      have hlen0 : 0 < len := by rcases Nat.eq_zero_or_pos len with h | h; subst h; cases h0; exact h
      split at hv
      · rename_i ec v cs hH'
        cases hb : (Nat.beq v ver && Nat.blt 0 ec) with
        | false => simp [hb] at hv
        | true =>
          simp only [hb, cond_true] at hv
          simp only [Bool.and_eq_true] at hb
          have e0 := Nat.eq_of_beq_eq_true hb.1
          subst e0
          split at hv
          · rename_i ds hds
            split at hv
            · rename_i rows hcd
              injection hv with hv; subst hv
              have hc := chunkD_eq hcd
              obtain ⟨q1, q2⟩ := viewL_spec hds
              obtain ⟨e1, e2, arr, T, e3, e4⟩ := hcur true ec cs hH'
              subst e1
              obtain ⟨hec, arr1, T1, cap1, n1, h3, h4, h5, ⟨h6, hmax⟩, h7⟩ := hi.obj i _ hH'
              rw [e3] at h3; injection h3 with h3; injection h3 with e5 e6; subst e5; subst e6
              have hcap : cap1 = cap := Nat.eq_of_mul_eq_mul_right hec (by rw [← h4, ← e4])
              subst hcap
              have hnl : n1 = len := Nat.eq_of_mul_eq_mul_right hec (by rw [← h6, ← e2])
              subst hnl
              obtain ⟨k1, k2, k3⟩ := chunk_spec hc (by simp [q1, e2])
              have hne : rows ≠ [] := by rintro rfl; simp at k1; omega
              have hnotown : ∀ o, o < cs.length → ¬ σ.O (σ.l i) o := by
                intro o ho hO
                rcases (hi.own _ _).1 hO with h8 | ⟨k, ob, h8, h9, h10⟩
                · exact hi.sep i _ hH' trivial o h8
                · have := hi.inj k i ob _ h8 hH' (Ob.live_of_owns h10) trivial h9
                  subst this
                  rw [hH'] at h8; injection h8 with h8; subst h8
                  simp only [Ob.owns] at h10
                  rcases h10 with h10 | h10
                  · cases h10
                  · omega
              have hbound : ∀ i j, i < rows.length → j < ec → i * ec + j < cs.length := by
                intro i j hi hj
                rw [e2, ← k1]
                calc i * ec + j < i * ec + ec := by omega
                  _ = (i + 1) * ec := by rw [Nat.succ_mul]
                  _ ≤ rows.length * ec := Nat.mul_le_mul_right _ hi
              have hsz : cs.length ≤ arr.size := by rw [e2, e4]; exact Nat.mul_le_mul_right _ h5
              have hds' : ∀ (k : Nat) (d : D), (ds.map M.d)[k]? = some (M.d d) → ∃ m, cs[k]? = some m ∧ Go.Mt.viewM σ.H n m = some d := by
                intro k d hk
                simp only [List.getElem?_map, Option.map_eq_some_iff] at hk
                obtain ⟨d', hk, e⟩ := hk
                injection e with e; subst e
                have hlt : k < cs.length := by rw [← q1]; rcases Nat.lt_or_ge k ds.length with h | h; exact h; simp [List.getElem?_eq_none h] at hk
                exact ⟨cs[k], by simp [hlt], q2 k _ _ (by simp [hlt]) hk⟩
              have hcellsD : ∀ i j, i < rows.length → j < ec → ∃ (r : List D) (d : D), rows[i]? = some r ∧ r[j]? = some d ∧ (ds.map M.d)[i * ec + j]? = some (M.d d) := by
                intro i j hi hj
                have hr : rows[i].length = ec := k2 _ (List.getElem_mem hi)
                have g1 : rows[i]? = some rows[i] := by simp [hi]
                have g2 : rows[i][j]? = some ((rows[i])[j]'(by rw [hr]; exact hj)) := by simp [hr, hj]
                exact ⟨rows[i], _, g1, g2, k3 i j _ _ g1 g2⟩
              have := Rep.sl (O := σ.O) (w := σ.w) rows (σ.l i) 0 cap1 ec (fun i j => arr.getD (i * ec + j) Go.undef) hne (by omega) (by omega) k2 ?_ ?_ ?_
              · rw [k1] at this; exact this
              · intro i' j hi' hj
                rw [Nat.zero_add]
                refine ⟨?_, hnotown _ (hbound i' j hi' hj)⟩
                have := hbound i' j hi' hj
                simp [cellv, World.cell?, e3, show i' * ec + j < arr.size by omega]
              · intro i' j hi' hj
                obtain ⟨r, d, _, _, hcd⟩ := hcellsD i' j hi' hj
                obtain ⟨m, hm, _⟩ := hds' _ _ hcd
                have hlt := hbound i' j hi' hj
                exact (h7 _ _ (arr.getD (i' * ec + j) Go.undef) hm (by simp [show i' * ec + j < arr.size by omega])).2
              · intro i' j r d hr hd
                have hcd := k3 i' j r d hr hd
                obtain ⟨m, hm, hvm⟩ := hds' _ _ hcd
                have hlt : i' * ec + j < cs.length := by rcases Nat.lt_or_ge (i' * ec + j) cs.length with h | h; exact h; simp [List.getElem?_eq_none h] at hm
                have := (h7 _ _ (arr.getD (i' * ec + j) Go.undef) hm (by simp [show i' * ec + j < arr.size by omega])).1
                exact ih this hvm
            · cases hv
          · cases hv
      · cases hv
    | agg cs vs hl hf hh =>
      simp only at hv
      split at hv
      · rename_i ds hds
        injection hv with hv; subst hv
        obtain ⟨q1, q2⟩ := viewL_spec hds
        refine .agg ds vs (by rw [hl, q1]) hf fun i d v hd hv => ?_
        have hlt : i < cs.length := by rw [← q1]; rcases Nat.lt_or_ge i ds.length with h | h; exact h; simp [List.getElem?_eq_none h] at hd
        exact ih (hh i cs[i] v (by simp [hlt]) hv) (q2 i cs[i] d (by simp [hlt]) hd)
      · cases hv
    | fn f cs vs hl hh =>
      simp only at hv
      split at hv
      · rename_i ds hds
        injection hv with hv; subst hv
        obtain ⟨q1, q2⟩ := viewL_spec hds
        refine .fn f ds vs (by rw [hl, q1]) fun i d v hd hv => ?_
        have hlt : i < cs.length := by rw [← q1]; rcases Nat.lt_or_ge i ds.length with h | h; exact h; simp [List.getElem?_eq_none h] at hd
        exact ih (hh i cs[i] v (by simp [hlt]) hv) (q2 i cs[i] d (by simp [hlt]) hd)
      · cases hv
    | _ => simp at hv

theorem RM.viewD {σ : Sg} {Oo : Nat → Nat → Prop} (hi : HInv σ Oo) {m : M} {d : D} {v : Value} (h : RM σ m v) (hv : viewD σ.H m = some d) : Rep σ.O σ.w d v := h.viewM hi 9 hv

theorem FInv.evdv {X : Ctx} {st : St} {σ : Sg} {lam : Nat → Nat} {a : Act} (h : FInv X σ lam st a) {x : Operand} {m : M} {d : D} (hx : st.ev x = some (.m m)) (hv : viewD st.H m = some d) : Rep σ.O σ.w d (a.eval x) := by
  have h1 := h.ev hx
  cases h1 with
  | m h1 => exact h1.viewD h.hinv (by rw [h.hH]; exact hv)

/-- all rows are read alone from now on -/
def fz : Ob → Ob
  | .row _ ec v cs => .row true ec v cs
  | o => o
theorem fz_get (H : Hp) (i : Nat) : (H.map fz)[i]? = (H[i]?).map fz := by simp
theorem fz_live (ob : Ob) : (fz ob).live ↔ ob.live := by cases ob <;> simp [fz, Ob.live]
theorem fz_owns (ob : Ob) (o : Nat) (h : (fz ob).owns o) : ob.owns o := by
  cases ob with
  | row acc ec v cs => simp only [fz, Ob.owns] at h ⊢; rcases h with h | h; cases h; exact .inr h
  | _ => exact h

theorem HInv.fz {σ : Sg} {Oo : Nat → Nat → Prop} (hi : HInv σ Oo) : ∃ τ : Sg, τ.w = σ.w ∧ τ.H = σ.H.map fz ∧ HInv τ Oo ∧ Mono σ τ := by
  let τ : Sg := ⟨σ.w, fun b o => Oo b o ∨ ∃ (i : Nat) (ob : Ob), (σ.H.map Go.Mt.fz)[i]? = some ob ∧ σ.l i = b ∧ ob.owns o, σ.l, σ.H.map Go.Mt.fz⟩
  have hinvert : ∀ (i : Nat) ob, (σ.H.map Go.Mt.fz)[i]? = some ob → ∃ ob0, σ.H[i]? = some ob0 ∧ ob = Go.Mt.fz ob0 := by
    intro i ob h
    rw [fz_get] at h
    obtain ⟨ob0, h1, h2⟩ := Option.map_eq_some_iff.1 h
    exact ⟨ob0, h1, h2.symm⟩
  have hfw : ∀ (i : Nat) ob, σ.H[i]? = some ob → (σ.H.map Go.Mt.fz)[i]? = some (Go.Mt.fz ob) := by intro i ob h; rw [fz_get, h]; rfl
  have hO : ∀ b o, τ.O b o → σ.O b o := by
    rintro b o (h | ⟨i, ob, h1, h2, h3⟩)
    · exact (hi.own b o).2 (.inl h)
    · obtain ⟨ob0, h4, rfl⟩ := hinvert i ob h1
      exact (hi.own b o).2 (.inr ⟨i, ob0, h4, h2, fz_owns _ _ h3⟩)
  have hm : Mono σ τ := by
    refine ⟨fun b o v h1 h2 => ⟨h1, fun h3 => h2 (hO b o h3)⟩, fun i cs h => ⟨⟨cs, hfw i _ h⟩, rfl⟩, fun i cs h => ⟨⟨cs, hfw i _ h⟩, rfl⟩, fun i h => hfw i _ h, ?_, fun i h => ⟨_, hfw i _ h⟩⟩
    intro i acc ec ver cs h
    exact .inr ⟨true, ver, cs, hfw i _ h, Nat.le_refl _, fun _ => ⟨rfl, rfl, fun arr T ha => ⟨arr, ha, rfl⟩⟩⟩
  refine ⟨τ, rfl, rfl, ⟨?_, ?_, fun b o => Iff.rfl, ?_, hi.old⟩, hm⟩
  · intro i ob h
    obtain ⟨ob0, h1, rfl⟩ := hinvert i ob h
    have h2 := (hi.obj i ob0 h1).keep hm (b' := σ.l i) (fun x hx => hx)
    cases ob0 with
    | row acc ec v cs => exact h2
    | _ => exact h2
  · intro i j x y h1 h2 h3 h4 h5
    obtain ⟨x0, g1, rfl⟩ := hinvert i x h1
    obtain ⟨y0, g2, rfl⟩ := hinvert j y h2
    exact hi.inj i j x0 y0 g1 g2 ((fz_live _).1 h3) ((fz_live _).1 h4) h5
  · intro i ob h1 h2 o h3
    obtain ⟨ob0, g1, rfl⟩ := hinvert i ob h1
    exact hi.sep i ob0 g1 ((fz_live _).1 h2) o h3

/-- results as data -/
def viewR (H : Hp) : M → Option (List D)
  | .tup ms => match ms with
    | [_] => none
    | _ => viewL (viewD H) ms
  | m => match viewD H m with
    | some d => some [d]
    | none => none

theorem RM.viewR {σ : Sg} {Oo : Nat → Nat → Prop} (hi : HInv σ Oo) {m : M} {ds : List D} {v : Value} (h : RM σ m v) (hv : viewR σ.H m = some ds) : RM σ (tupM (ds.map .d)) v := by
  have one : ∀ m, (match Go.Mt.viewD σ.H m with | some z => some [z] | none => none) = some ds → RM σ m v → RM σ (tupM (ds.map .d)) v := by
    intro m hv h
    split at hv
    · rename_i d hd
      injection hv with hv; subst hv
      exact .d (h.viewD hi hd)
    · cases hv
  cases m with
  | tup ms =>
    cases h with
    | tup cs vs hl hh =>
      unfold Go.Mt.viewR at hv
      simp only at hv
      split at hv
      · cases hv
      · rename_i hne
        obtain ⟨q1, q2⟩ := viewL_spec hv
        have key : RM σ (.tup (ds.map .d)) (.tuple vs) := by
          refine .tup _ _ (by simp [hl, q1]) fun i m' v' hm hv' => ?_
          simp only [List.getElem?_map, Option.map_eq_some_iff] at hm
          obtain ⟨d, hd, rfl⟩ := hm
          have hlt : i < ms.length := by rw [← q1]; rcases Nat.lt_or_ge i ds.length with h | h; exact h; simp [List.getElem?_eq_none h] at hd
          exact .d ((hh i ms[i] v' (by simp [hlt]) hv').viewD hi (q2 i ms[i] d (by simp [hlt]) hd))
        match ds, q1, key with
        | [], _, key => exact key
        | [x], q1, key =>
          exfalso
          match ms, q1, hne with
          | [a], _, hne => exact hne a rfl
        | x :: y :: r, _, key => exact key
  | _ => exact one _ (by exact hv) h

theorem PT.of_view {P : Program} {f : Nat} {ds rs : List D} {m : M} {H1 : Hp} (h : CT P f (ds.map .d) [] fun r H' => r = m ∧ H' = H1) (hv : viewR (H1.map fz) m = some rs) : PT P f ds (· = rs) := by
  intro O w vs hO hvs
  let σ : Sg := ⟨w, O, fun _ => 0, []⟩
  have hinv : HInv σ O := ⟨by simp [σ], by simp [σ], by simp [σ], by simp [σ], hO⟩
  have hms : RMs σ (ds.map .d) vs := by
    refine ⟨by simp [hvs.1], fun i m v h1 h2 => ?_⟩
    simp only [List.getElem?_map, Option.map_eq_some_iff] at h1
    obtain ⟨d, hd, rfl⟩ := h1
    exact .d (hvs.2 i d v hd h2)
  refine (h σ O vs hinv rfl hms).mono ?_
  rintro e w' ⟨v, r, σ', he, hw, ⟨hrm, hH'⟩, hi', hr, hm, hb⟩
  subst hw
  subst hrm
  obtain ⟨τ, t1, t2, t3, t4⟩ := hi'.fz
  have h1 : RM τ (tupM (rs.map .d)) v := (hr.mono t4).viewR t3 (by rw [t2, hH']; exact hv)
  refine ⟨v, rs, he, rfl, ⟨hb.os, hb.output, hb.tape, hb.size, fun b h1 => hb.blk b h1 (by simp [σ])⟩, ?_⟩
  refine h1.mono' ?_
  intro b o v h2 h3
  refine ⟨by rw [← t1]; exact h2, fun h4 => h3 ((t3.own b o).2 (.inl h4))⟩

/-- the cells of a slice that is to be appended, as append takes them -/
def Src (P : Program) (σ : Sg) (n : Nat) (v : Value) (cs : List M) (len : Nat) : Prop :=
  (∀ w' : World, (Builtin.lenOf v).run P w' = .ok len w') ∧ cs.length = len * n ∧ len ≤ 140737488355328 ∧ ∃ vs : Array Value, (∀ w' : World, w'.heap = σ.w.heap → (Builtin.firstCells n len v).run P w' = .ok vs w') ∧ vs.size = len * n ∧
    ∀ (k : Nat) (m : M), cs[k]? = some m → ∃ u, vs[k]? = some u ∧ RM σ m u ∧ flat u = true

def srcO (H : Hp) (n : Nat) : M → Option (List M × Nat)
  | .d (.sl rows) => bif lenAll n rows then some (flatM rows, rows.length) else none
  | .d .slz => some ([], 0)
  | .rsl i ver len => match H[i]? with
    | some (.row _ n' ver' cs) => bif (Nat.beq n n' && Nat.beq ver ver') then some (cs, len) else none
    | _ => none
  | _ => none

theorem src_of {P : Program} {σ : Sg} {Oo : Nat → Nat → Prop} (hi : HInv σ Oo) {n : Nat} (hn : 0 < n) {m : M} {v : Value} {cs : List M} {len : Nat} (h : RM σ m v) (hs : srcO σ.H n m = some (cs, len)) : Src P σ n v cs len := by
  unfold srcO at hs
  split at hs
  · rename_i rows
    cases hl : lenAll n rows with
    | false => simp [hl] at hs
    | true =>
      simp only [hl, cond_true] at hs
      injection hs with hs; injection hs with e1 e2
      subst e1; subst e2
      have hl' := lenAll_eq hl
      cases h with
      | d h =>
        obtain ⟨vs, v1, v2, v3, v4⟩ := h.firstCells (P := P) hn hl'
        have hmax : rows.length ≤ 140737488355328 := by
          cases h with
          | slnil a => simp
          | sl rows b o cap ec val h0 hcap hmax hec hcell hflat hrep => exact hmax
        refine ⟨v1, flatM_length hl', hmax, vs, v2, v3, fun k m hm => ?_⟩
        obtain ⟨i, j, r, d, rfl, e2, e3, rfl⟩ := flatM_get hn hl' hm
        obtain ⟨u, u1, u2, u3⟩ := v4 i j r d e2 e3
        exact ⟨u, u1, .d u2, u3⟩
  · injection hs with hs; injection hs with e1 e2
    subst e1; subst e2
    cases h with
    | d h => cases h with
      | slz a cap =>
        cases a with
        | none => exact ⟨fun _ => by simp [Builtin.lenOf], by simp, by simp, #[], fun _ _ => by simp [Builtin.firstCells], by simp, by simp⟩
        | some a => exact ⟨fun _ => by simp [Builtin.lenOf], by simp, by simp, #[], fun _ _ => by simp [Builtin.firstCells, loadCells, loadCellsFrom], by simp, by simp⟩
  · rename_i i ver len'
    split at hs
    · rename_i acc n' ver' cs' hH
      cases hb : (Nat.beq n n' && Nat.beq ver ver') with
      | false => simp [hb] at hs
      | true =>
        simp only [hb, cond_true] at hs
        injection hs with hs; injection hs with e1 e2
        subst e1; subst e2
        simp only [Bool.and_eq_true] at hb
        have e3 := Nat.eq_of_beq_eq_true hb.1
        have e4 := Nat.eq_of_beq_eq_true hb.2
        subst e3; subst e4
        cases h with
        | rsl i ver len ad cap hle hcur =>
          obtain ⟨e1, e2, arr1, T1, e3, e4⟩ := hcur acc n cs' hH
          subst e1
          obtain ⟨hn', arr, TT, cap0, nn, h3, h4, h5, ⟨h6, hmax0⟩, h7⟩ := hi.obj i _ hH
          have hnl : nn = len' := Nat.eq_of_mul_eq_mul_right hn' (by rw [← h6, ← e2])
          subst hnl
          have hle0 : nn * n ≤ arr.size := by rw [h4]; exact Nat.mul_le_mul_right _ h5
          refine ⟨fun _ => by simp [Builtin.lenOf], e2, hmax0, arr.extract 0 (nn * n), fun w' hw' => ?_, by simp; omega, fun k m hm => ?_⟩
          · simp only [Builtin.firstCells]
            exact loadRow_run (w := w') (by rw [hw']; exact h3) hle0
          · have hk : k < cs'.length := by rcases Nat.lt_or_ge k cs'.length with h | h; exact h; simp [List.getElem?_eq_none h] at hm
            have hka : k < arr.size := by omega
            refine ⟨arr[k], ?_, h7 k m arr[k] hm (by simp [hka])⟩
            rw [Array.getElem?_extract, if_pos (by omega)]
            simp [hka]
    · cases hs
  · cases hs

theorem FInv.src {X : Ctx} {st : St} {σ : Sg} {lam : Nat → Nat} {a : Act} (h : FInv X σ lam st a) {x : Operand} {m : M} {n : Nat} (hn : 0 < n) {cs : List M} {len : Nat} (hx : st.ev x = some (.m m)) (hv : srcO st.H n m = some (cs, len)) : Src X.P σ n (a.eval x) cs len := by
  have h1 := h.ev hx
  cases h1 with
  | m h1 => exact src_of h.hinv hn h1 (by rw [h.hH]; exact hv)

section ops
variable {X : Ctx} {st : St} {dst : Option Nat} {ty : Nat} {pos : String} {af : Array Edge} {g : Option (Nat × Bool)} {pn : Nat} {H' : Hp}
theorem op_append0S {T e n nb : Nat} {x y : Operand} {cs2 : List M} {k2 : Nat} {z : D} (acc : Bool) [ht : TySlice X.P T e] [hs : TySz X.P e n] [hb : TyB X.P e nb] [hz : TyZ X.P e z] (hn : Nat.blt 0 n = true) (hzl : (dcells z).length = n)
    (hx : st.ev x = some (.m (.d (.sl [])))) {my : M} (hy : st.ev y = some (.m my)) (hv : srcO st.H n my = some (cs2, k2)) (hr : 0 < k2) (hroom : k2 * nb ≤ 140737488355328) (hp : Place st.H (.row acc n 0 cs2) pn H') :
    OpT X ⟨dst, .call ⟨.builtin .append, #[x, y], #[T, T]⟩, ty, pos, af, g⟩ st (eqp (.m (.rsl pn 0 k2)) ⟨st.sl, st.bx, H'⟩) := by
  intro a σ lam hi
  have hn' := blt_lt hn
  have h1 := hi.evd hx
  obtain ⟨inf, i1, i2, i3⟩ := bytes_run hs.size hb.bytes
  obtain ⟨zv, hz1, hz2⟩ := (tyZero_of hz.zero).run
  have hzc : zv.cells.size = n := by have := (dOfVal_rep (O := σ.O) (w := σ.w) hz2).cells.1; omega
  obtain ⟨v1, hfl, hrmax, vs, v2, v3, v4⟩ := hi.src hn' hy hv
  have hlen := hr
  generalize hu : a.eval x = u at h1
  generalize hw : a.eval y = wv at v1 v2
  cases h1 with
  | slnil ad =>
    let cap := k2 + σ.w.tape σ.w.drawn (.appendCap k2 0 e) % (2 ^ 63 - k2)
    let arr := vs ++ Builtin.zeroCells zv.cells (cap - k2)
    have hcap : k2 ≤ cap := Nat.le_add_right _ _
    have harr : arr.size = cap * n := by
      simp only [arr, Array.size_append, zeroCells_size, v3, hzc]
      rw [← Nat.add_mul]; congr 1; omega
    have hd : FInv X { σ with w := σ.w.drew } lam st a := hi.ext (ExtW.drew _)
    have hmd : Mono σ { σ with w := σ.w.drew } := Mono.ext (ExtW.drew _)
    obtain ⟨τ, g1, g2, g3, g4, g5⟩ := hd.place hp (.cells arr e (0, 0)) (by
      intro τ hm hw
      refine ⟨hn', arr, e, cap, k2, by rw [hw]; exact push_self _ _, harr, hcap, ⟨hfl, hrmax⟩, ?_⟩
      intro k m v hm' hv
      obtain ⟨u, u1, u2, u3⟩ := v4 k m hm'
      have hlt : k < vs.size := by rcases Nat.lt_or_ge k vs.size with h | h; exact h; simp [Array.getElem?_eq_none h] at u1
      have : arr[k]? = some u := by simp only [arr]; rw [Array.getElem?_append_left hlt]; exact u1
      rw [this] at hv; injection hv with hv; subst hv
      exact ⟨(u2.mono hmd).mono hm, u3⟩)
    refine OpRun.value (u := .slice (some ⟨σ.w.heap.size, 0, none⟩) k2 cap) (w' := τ.w) ?_ ⟨_, _, τ, lam, ⟨rfl, rfl⟩, rfl, g5, ?_⟩
    · have c1 : ¬ k2 ≤ 0 := by omega
      have c2 : ¬ (((k2 : Nat) : Int) > IntKind.i64.max ∧ nb = 0) := by
        rintro ⟨h1, h2⟩
        have : ((k2 : Nat) : Int) ≤ 140737488355328 := by omega
        have h3 : IntKind.i64.max = 9223372036854775807 := by decide
        omega
      have c3 : ¬ (Builtin.nextslicecap k2 0 * nb > 2 ^ 48) := by
        have h1 := nextcap_le (need := k2) (cap := 0) (by omega)
        have := Nat.mul_le_mul_right nb h1
        rw [Nat.mul_assoc] at this
        omega
      have hold : (Builtin.firstCells n 0 (.slice ad 0 0)).run X.P σ.w.drew = .ok #[] σ.w.drew := by
        cases ad <;> simp [Builtin.firstCells, loadCells, loadCellsFrom]
      have hti : ∀ w : World, (typeInfo e).run X.P w = .ok inf w := fun w => by simp [typeInfo, program, Sem.run, i1]
      have hund : ∀ w : World, (underlying T).run X.P w = .ok (.slice e) w := fun w => by simp [underlying, program, Sem.run, ht.u]
      simp only [execOp, resolve, invoke, builtin, Builtin.append_]
      simp only [Sem.run_bind, Sem.run_pure, Result.andThen_ok, List.map_toArray, List.map_cons, List.map_nil, hu, hw]
      simp [hund, hti, size_run hs.size]
      have hcut : (Question.appendCap k2 0 e).cut (σ.w.tape σ.w.drawn (Question.appendCap k2 0 e)) = cap := rfl
      have hforced : (Question.appendCap k2 0 e).forced = false := rfl
      have hv2 := v2 σ.w.drew rfl
      have c1' : ¬ k2 = 0 := by omega
      have c2' : ¬ (9223372036854775807 < ((k2 : Nat) : Int) ∧ inf.bytes = 0) := by
        rintro ⟨h1, h2⟩
        have h3 : IntKind.i64.max = 9223372036854775807 := by decide
        exact c2 ⟨by omega, by omega⟩
      have c3' : ¬ (281474976710656 < Builtin.nextslicecap k2 0 * inf.bytes) := by rw [i3]; omega
      simp only [v1, c1', c2', c3', hforced, Result.andThen_ok, if_false, Bool.false_eq_true]
      rw [hold]
      simp only [Result.andThen_ok]
      rw [hv2]
      simp only [Result.andThen_ok, hz1, hcut]
      simp [newRow, newObj, Sem.run, g1, arr]
    · have g2' := g2
      refine .m (.rsl _ 0 k2 _ cap (.inr ⟨acc, n, 0, cs2, g3, Nat.le_refl _⟩) ?_)
      intro acc' ec' cs' hh
      rw [g3] at hh
      simp at hh
      obtain ⟨e1, e2, e3⟩ := hh
      subst e1; subst e2; subst e3
      exact ⟨by rw [g2']; rfl, hfl, arr, e, by rw [g2', g1]; exact push_self _ _, harr⟩
  | sl rows b o cap ec val h0 hcap hmax hec hcell hflat hrep => exact absurd rfl h0


theorem op_append00S {T e n : Nat} {x y : Operand} {cs2 : List M} {my : M} [ht : TySlice X.P T e] [hs : TySz X.P e n] (hn : Nat.blt 0 n = true)
    (hx : st.ev x = some (.m (.d (.sl [])))) (hy : st.ev y = some (.m my)) (hv : srcO st.H n my = some (cs2, 0)) :
    OpT X ⟨dst, .call ⟨.builtin .append, #[x, y], #[T, T]⟩, ty, pos, af, g⟩ st (eqp (.m (.d (.sl []))) st) := by
  refine OpT.quiet fun a σ lam hi => ?_
  have hn' := blt_lt hn
  have h1 := hi.evd hx
  obtain ⟨v1, hfl, hrmax, vs, v2, v3, v4⟩ := hi.src hn' hy hv
  have hund : ∀ w : World, (underlying T).run X.P w = .ok (.slice e) w := fun w => by simp [underlying, program, Sem.run, ht.u]
  generalize hu : a.eval x = u at h1
  generalize hw : a.eval y = wv at v1 v2
  have hvs : vs = #[] := by
    have : vs.size = 0 := by rw [v3]; simp
    exact Array.eq_empty_of_size_eq_zero this
  subst hvs
  cases h1 with
  | slnil ad =>
    refine ⟨.slice ad 0 0, ?_, .m (.d (.slnil ad))⟩
    simp only [execOp, resolve, invoke, builtin, Builtin.append_]
    simp only [Sem.run_bind, Sem.run_pure, Result.andThen_ok, List.map_toArray, List.map_cons, List.map_nil, hu, hw]
    cases ad <;> simp [hund, size_run hs.size, v1, v2 σ.w rfl, storeCells]
  | sl rows b o cap ec val h0 hcap hmax hec hcell hflat hrep => exact absurd rfl h0

theorem op_appendZP {T U e n nb len : Nat} {x y : Operand} {k : IntKind} {z : D} [ht : TySlice X.P T e] [hu : TyInt X.P U k] [hs : TySz X.P e n] [hb : TyB X.P e nb] [hz : TyZ X.P e z] (hn : Nat.blt 0 n = true) (hzl : (dcells z).length = n)
    (hx : st.ev x = some (.m (.d (.sl [])))) (hy : st.ev y = some (.m (.d (.int k len)))) (hl : 0 < len) (hroom : len * nb ≤ 140737488355328) (hmax : len ≤ 140737488355328) (hp : Place st.H (.row false n 0 (List.replicate (len * n) .undef)) pn H') :
    OpT X ⟨dst, .call ⟨.builtin .append, #[x, y], #[T, U]⟩, ty, pos, af, g⟩ st (eqp (.m (.rsl pn 0 len)) ⟨st.sl, st.bx, H'⟩) := by
  intro a σ lam hi
  have hn' := blt_lt hn
  have h1 := hi.evd hx
  have h2 := hi.evint hy
  obtain ⟨inf, i1, i2, i3⟩ := bytes_run hs.size hb.bytes
  obtain ⟨zv, hz1, hz2⟩ := (tyZero_of hz.zero).run
  have hvc : RMc σ ((dcells z).map .d) zv.cells := (RM.d (dOfVal_rep hz2) : RM σ (.d z) zv).cells rfl
  have hzc : zv.cells.size = n := by rw [hvc.1]; simpa using hzl
  have hzf : ∀ (i : Nat) (v : Value), zv.cells[i]? = some v → flat v = true := by
    intro i v hv
    have hi' : i < zv.cells.size := by rcases Nat.lt_or_ge i zv.cells.size with h | h; exact h; simp [Array.getElem?_eq_none h] at hv
    have hd : i < (dcells z).length := by omega
    exact (hvc.2 i (.d (dcells z)[i]) v (by simp [hd]) hv).2
  generalize hu' : a.eval x = u at h1
  cases h1 with
  | sl rows b o cap ec val h0 hcap hmax hec hcell hflat hrep => exact absurd rfl h0
  | slnil ad =>
    let cap := len + σ.w.tape σ.w.drawn (.appendCap len 0 e) % (2 ^ 63 - len)
    let arr := Builtin.zeroCells zv.cells len ++ Builtin.zeroCells zv.cells (cap - len)
    have hcap : len ≤ cap := Nat.le_add_right _ _
    have harr : arr.size = cap * n := by
      simp only [arr, Array.size_append, zeroCells_size, hzc]
      rw [← Nat.add_mul]; congr 1; omega
    have hd : FInv X { σ with w := σ.w.drew } lam st a := hi.ext (ExtW.drew _)
    have hmd : Mono σ { σ with w := σ.w.drew } := Mono.ext (ExtW.drew _)
    have hrl : (List.replicate (len * n) M.undef).length = len * n := by simp
    obtain ⟨τ, g1, g2, g3, g4, g5⟩ := hd.place hp (.cells arr e (0, 0)) (by
      intro τ hm hw
      refine ⟨hn', arr, e, cap, len, by rw [hw]; exact push_self _ _, harr, hcap, ⟨hrl, hmax⟩, ?_⟩
      intro k m v hm' hv
      have hm2 : m = .undef := by
        rw [List.getElem?_replicate] at hm'
        split at hm'
        · injection hm' with h; exact h.symm
        · cases hm'
      subst hm2
      refine ⟨.undef _, ?_⟩
      simp only [arr, Array.getElem?_append] at hv
      split at hv
      · exact zc_flat (by omega) hzf _ _ hv
      · exact zc_flat (by omega) hzf _ _ hv)
    refine OpRun.value (u := .slice (some ⟨σ.w.heap.size, 0, none⟩) len cap) (w' := τ.w) ?_ ⟨_, _, τ, lam, ⟨rfl, rfl⟩, rfl, g5, ?_⟩
    · have hti : ∀ w : World, (typeInfo e).run X.P w = .ok inf w := fun w => by simp [typeInfo, program, Sem.run, i1]
      have hund : ∀ w : World, (underlying T).run X.P w = .ok (.slice e) w := fun w => by simp [underlying, program, Sem.run, ht.u]
      have hund2 : ∀ w : World, (underlying U).run X.P w = .ok (.int k) w := fun w => by simp [underlying, program, Sem.run, hu.u]
      have hwrap : IntKind.i64.wrap (len : Int) = len := IntWalk.i64_in _ ⟨by omega, by omega⟩
      have hbig : ¬ ((len : Int) * (inf.bytes : Int) > 2 ^ 48) := by
        rw [i3]
        have : ((len * nb : Nat) : Int) ≤ 140737488355328 := by omega
        rw [Int.natCast_mul] at this
        omega
      have hbig' : ¬ (281474976710656 < (len : Int) * (inf.bytes : Int)) := by omega
      have hnneg : ¬ ((len : Int) < 0) := by omega
      have c1 : ¬ len = 0 := by omega
      have c2 : ¬ (9223372036854775807 < ((len : Nat) : Int)) := by omega
      have c3 : ¬ (281474976710656 < Builtin.nextslicecap len 0 * inf.bytes) := by
        rw [i3]
        have h1 := nextcap_le (need := len) (cap := 0) (by omega)
        have := Nat.mul_le_mul_right nb h1
        rw [Nat.mul_assoc] at this
        omega
      have c4 : ¬ len * n = 0 := by
        intro h
        rcases Nat.mul_eq_zero.1 h with h | h <;> omega
      have hold : (Builtin.firstCells n 0 (.slice ad 0 0)).run X.P σ.w.drew = .ok #[] σ.w.drew := by
        cases ad <;> simp [Builtin.firstCells, loadCells, loadCellsFrom]
      have hcut : (Question.appendCap len 0 e).cut (σ.w.tape σ.w.drawn (Question.appendCap len 0 e)) = cap := rfl
      have hforced : (Question.appendCap len 0 e).forced = false := rfl
      simp only [execOp, resolve, invoke, builtin, Builtin.append_]
      simp only [Sem.run_bind, Sem.run_pure, Result.andThen_ok, List.map_toArray, List.map_cons, List.map_nil, hu', h2]
      simp [hund, hund2, hti, size_run hs.size, asInt, asIntOf, hwrap, hbig', hnneg, c1, c2, c3, c4]
      simp only [hforced, if_false, Bool.false_eq_true]
      rw [hold]
      simp only [Result.andThen_ok, hz1, hcut]
      simp [newRow, newObj, Sem.run, g1, arr]
    · have g2' := g2
      refine .m (.rsl _ 0 len _ cap (.inr ⟨false, n, 0, List.replicate (len * n) .undef, g3, Nat.le_refl _⟩) ?_)
      intro acc' ec' cs' hh
      rw [g3] at hh
      simp at hh
      obtain ⟨e1, e2, e3⟩ := hh
      subst e1; subst e2; subst e3
      exact ⟨by rw [g2']; rfl, hrl, arr, e, by rw [g2', g1]; exact push_self _ _, harr⟩
theorem op_makeSliceP {T e n nb len : Nat} {x y : Operand} {k1 k2 : IntKind} {z : D} [ht : TySlice X.P T e] [hs : TySz X.P e n] [hb : TyB X.P e nb] [hz : TyZ X.P e z] (hn : Nat.blt 0 n = true) (hzl : (dcells z).length = n)
    (hx : st.ev x = some (.m (.d (.int k1 len)))) (hy : st.ev y = some (.m (.d (.int k2 len)))) (hroom : len * nb ≤ 140737488355328) (hmax : len ≤ 140737488355328) (hp : Place st.H (.row false n 0 (zlist n len (dcells z))) pn H') :
    OpT X ⟨dst, .makeSlice T x y, ty, pos, af, g⟩ st (eqp (.m (.rsl pn 0 len)) ⟨st.sl, st.bx, H'⟩) := by
  intro a σ lam hi
  have hn' := blt_lt hn
  have h1 := hi.evint hx
  have h2 := hi.evint hy
  obtain ⟨inf, i1, i2, i3⟩ := bytes_run hs.size hb.bytes
  obtain ⟨v, hz1, hz2⟩ := (tyZero_of hz.zero).run
  have hvc : RMc σ ((dcells z).map .d) v.cells := (RM.d (dOfVal_rep hz2) : RM σ (.d z) v).cells rfl
  have hvs : v.cells.size = n := by rw [hvc.1]; simpa using hzl
  have hc : RMc σ (zlist n len (dcells z)) ((Array.range (len * n)).map fun i => v.cells[i % v.cells.size]!) := by
    refine ⟨by simp [zlist], fun i m u hm hu => ?_⟩
    have hi' : i < len * n := by
      rcases Nat.lt_or_ge i (len * n) with h | h
      · exact h
      · rw [Array.getElem?_eq_none (by simpa using h)] at hu; cases hu
    have hmod : i % n < n := Nat.mod_lt _ hn'
    have hmd : i % n < (dcells z).length := by omega
    simp [zlist, hi', hzl] at hm
    simp [hi', hvs] at hu
    have hlt : i % n < v.cells.size := by omega
    subst hm; subst hu
    refine hvc.2 (i % n) _ _ ?_ ?_
    · simp [List.getElem?_eq_getElem hmd]
    · simp [hlt]
  obtain ⟨τ, g1, g2, g3, g4, g5⟩ := hi.place hp (.cells ((Array.range (len * n)).map fun i => v.cells[i % v.cells.size]!) e (0, 0)) (by
    intro τ hm hw
    refine ⟨hn', _, e, len, len, by rw [hw]; exact push_self _ _, by simp, Nat.le_refl _, ⟨by simp [zlist], hmax⟩, ?_⟩
    intro k m u hm' hu
    exact ⟨(hc.2 k m u hm' hu).1.mono hm, (hc.2 k m u hm' hu).2⟩)
  refine OpRun.value (u := .slice (some ⟨σ.w.heap.size, 0, none⟩) len len) (w' := τ.w) ?_ ⟨_, _, τ, lam, ⟨rfl, rfl⟩, rfl, g5, ?_⟩
  · have hti : ∀ w : World, (typeInfo e).run X.P w = .ok inf w := fun w => by simp [typeInfo, program, Sem.run, i1]
    have hund : ∀ w : World, (underlying T).run X.P w = .ok (.slice e) w := fun w => by simp [underlying, program, Sem.run, ht.u]
    have hwrap : IntKind.i64.wrap (len : Int) = len := IntWalk.i64_in _ ⟨by omega, by omega⟩
    have hbig : ¬ ((inf.bytes : Int) * (len : Int) > 2 ^ 48) := by
      rw [i3]
      have : ((len * nb : Nat) : Int) ≤ 140737488355328 := by omega
      rw [Int.natCast_mul, Int.mul_comm] at this
      omega
    have hnneg : ¬ ((len : Int) < 0) := by omega
    have hroom' : ¬ (len * inf.bytes > roomBytes) := by rw [i3]; unfold roomBytes; omega
    by_cases h0 : len * n = 0
    · have hl0 : len = 0 := by
        rcases Nat.mul_eq_zero.1 h0 with h | h
        · exact h
        · omega
      subst hl0
      have e0 : Array.range 0 = (#[] : Array Nat) := by decide
      have w0 : IntKind.i64.wrap 0 = 0 := by decide
      simp only [execOp, Instr.makeSlice, h1, h2, asInt, asIntOf]
      simp [hund, hti, w0, size_run hs.size, askRoom, roomBytes, newRow, newObj, Sem.run, g1, e0]
    · simp only [execOp, Instr.makeSlice, h1, h2, asInt, asIntOf]
      simp [hund, hti, hwrap, size_run hs.size, askRoom, newRow, newObj, Sem.run, g1, hbig, hnneg, hroom', h0, hz1]
      first | done | omega | (split <;> first | rfl | omega)
  · have g2' := g2
    refine .m (.rsl _ 0 len _ len (.inr ⟨false, n, 0, zlist n len (dcells z), g3, Nat.le_refl _⟩) ?_)
    intro acc' ec' cs' hh
    rw [g3] at hh
    simp at hh
    obtain ⟨e1, e2, e3⟩ := hh
    subst e1; subst e2; subst e3
    exact ⟨by rw [g2'], by simp [zlist], _, e, by rw [g2', g1]; exact push_self _ _, by simp⟩
/-- append to a row of the heap -/
theorem op_appendRS {T e n nb : Nat} {x y : Operand} {cs2 : List M} {k2 : Nat} {z : D} {j ver len : Nat} {acc : Bool} {cs : List M} [ht : TySlice X.P T e] [hs : TySz X.P e n] [hb : TyB X.P e nb] [hz : TyZ X.P e z] (hzl : (dcells z).length = n)
    (hx : st.ev x = some (.m (.rsl j ver len))) {my : M} (hy : st.ev y = some (.m my)) (hv : srcO st.H n my = some (cs2, k2)) (hH : st.H[j]? = some (.row acc n ver cs)) (hroom : (len + k2) * nb ≤ 140737488355328) (hmax : len + k2 ≤ 140737488355328) :
    OpT X ⟨dst, .call ⟨.builtin .append, #[x, y], #[T, T]⟩, ty, pos, af, g⟩ st (eqp (.m (.rsl j (ver + 1) (len + k2))) ⟨st.sl, st.bx, st.H.set j (.row acc n (ver + 1) (cs ++ cs2))⟩) := by
  intro a σ lam hi
  have h1 := hi.ev hx
  have hH' : σ.H[j]? = some (.row acc n ver cs) := by rw [hi.hH]; exact hH
  obtain ⟨inf, i1, i2, i3⟩ := bytes_run hs.size hb.bytes
  obtain ⟨zv, hz1, hz2⟩ := (tyZero_of hz.zero).run
  have hzc : zv.cells.size = n := by have := (dOfVal_rep (O := σ.O) (w := σ.w) hz2).cells.1; omega
  obtain ⟨hn', arr, TT, cap0, nn, h3, h4, h5, ⟨h6, hmax0⟩, h7⟩ := hi.hinv.obj j _ hH'
  obtain ⟨v1, hfl, hrmax, vs, v2, v3, v4⟩ := hi.src hn' hy hv
  generalize hu : a.eval x = u at h1
  generalize hw : a.eval y = wv at v1 v2
  have hti : ∀ w : World, (typeInfo e).run X.P w = .ok inf w := fun w => by simp [typeInfo, program, Sem.run, i1]
  have hund : ∀ w : World, (underlying T).run X.P w = .ok (.slice e) w := fun w => by simp [underlying, program, Sem.run, ht.u]
  cases h1 with
  | m h1 => cases h1 with
    | rsl j ver len ad cap hle hcur =>
      obtain ⟨e1, e2, arr1, T1, e3, e4⟩ := hcur acc n cs hH'
      subst e1
      rw [h3] at e3
      injection e3 with e3; injection e3 with e5 e6
      subst e5; subst e6
      have hcap : cap0 = cap := Nat.eq_of_mul_eq_mul_right hn' (by rw [← h4, ← e4])
      subst hcap
      have hnl : nn = len := Nat.eq_of_mul_eq_mul_right hn' (by rw [← h6, ← e2])
      subst hnl
      have hcs' : (cs ++ cs2).length = (nn + k2) * n := by rw [List.length_append, e2, hfl, Nat.add_mul]
      have newcell : ∀ (k : Nat) (m : M), (cs ++ cs2)[k]? = some m → (k < cs.length ∧ cs[k]? = some m) ∨ (cs.length ≤ k ∧ ∃ u, vs[k - cs.length]? = some u ∧ RM σ m u ∧ flat u = true) := by
        intro k m hm
        rcases Nat.lt_or_ge k cs.length with hk | hk
        · rw [List.getElem?_append_left hk] at hm; exact .inl ⟨hk, hm⟩
        · rw [List.getElem?_append_right hk] at hm
          obtain ⟨u, u1, u2, u3⟩ := v4 _ m hm
          exact .inr ⟨hk, u, u1, u2, u3⟩
      have hvfl : ∀ v ∈ vs.toList, flat v = true := by
        intro v hv
        obtain ⟨k, hk⟩ := List.mem_iff_getElem?.1 hv
        have hkl : k < vs.size := by rcases Nat.lt_or_ge k vs.size with h | h; exact h; simp [Array.getElem?_eq_none h] at hk
        have hk2 : k < cs2.length := by omega
        obtain ⟨u, u1, u2, u3⟩ := v4 k cs2[k] (by simp [hk2])
        have : vs[k]? = some v := by simpa using hk
        rw [u1] at this; injection this with this; subst this; exact u3
      by_cases hroomcap : nn + k2 ≤ cap0
      · -- in place
        have hfit : nn * n + vs.toList.length ≤ arr.size := by
          rw [h4]; simp [v3]; rw [← Nat.add_mul]; exact Nat.mul_le_mul_right _ hroomcap
        have hst := storeCells_run (P := X.P) (off := nn * n) vs.toList 0 σ.w arr h3 (by simpa using hfit) hvfl
        simp only [Nat.add_zero] at hst
        have hlt := lt_of_heap h3
        have hget : ∀ k, (arrWrite arr (nn * n) vs.toList)[k]? = if nn * n ≤ k ∧ k < nn * n + vs.toList.length then vs.toList[k - nn * n]? else arr[k]? := fun k => arrWrite_get _ _ _ _ hfit
        obtain ⟨τ, g1, g2, g3, g4, g5⟩ := hi.updObj (j := j) (b' := σ.l j) (ob := .row acc n ver cs) (ob' := .row acc n (ver + 1) (cs ++ cs2)) (w' := setBlk σ.w (σ.l j) (.cells (arrWrite arr (nn * n) vs.toList) TT (0, 0))) hH trivial rfl rfl rfl (by rw [setBlk_size]; exact Nat.le_refl _)
          (fun c _ hc => setBlk_ne hc) (.inl rfl) (by
            intro o v ho hc
            have ho1 : acc = true ∧ o < cs.length := by
              simp only [Ob.owns, not_or, Nat.not_le] at ho
              refine ⟨?_, ho.2⟩
              cases acc
              · exact absurd rfl ho.1
              · rfl
            refine ⟨?_, fun _ hh => ?_⟩
            · simp only [cellv, World.cell?, setBlk_get hlt]
              simp only [cellv, World.cell?, h3] at hc
              simp at hc ⊢
              rw [hget, if_neg (by omega)]
              exact hc
            · simp only [Ob.owns] at hh
              rcases hh with hh | hh
              · rw [ho1.1] at hh; cases hh
              · rw [hcs', Nat.add_mul] at hh; omega) ⟨rfl, .inl (by omega)⟩ (by
            intro τ hm hw' _ _
            refine ⟨hn', _, TT, cap0, nn + k2, by rw [hw']; exact setBlk_get hlt, by rw [arrWrite_size]; exact h4, hroomcap, ⟨hcs', hmax⟩, ?_⟩
            intro k m v hm' hv
            rw [hget] at hv
            rcases newcell k m hm' with ⟨hk, hc⟩ | ⟨hk, u, u1, u2, u3⟩
            · rw [if_neg (by omega)] at hv
              exact ⟨(h7 k m v hc hv).1.mono hm, (h7 k m v hc hv).2⟩
            · have hkl : k - cs.length < vs.size := by rcases Nat.lt_or_ge (k - cs.length) vs.size with h | h; exact h; simp [Array.getElem?_eq_none h] at u1
              rw [if_pos (by simp; omega)] at hv
              have : vs.toList[k - nn * n]? = some u := by rw [← e2]; simpa using u1
              rw [this] at hv; injection hv with hv; subst hv
              exact ⟨u2.mono hm, u3⟩)
        refine OpRun.value (u := .slice (some ⟨σ.l j, 0, none⟩) (nn + k2) cap0) (w' := τ.w) ?_ ⟨_, _, τ, lam, ⟨rfl, rfl⟩, rfl, g5, ?_⟩
        · simp only [execOp, resolve, invoke, builtin, Builtin.append_]
          simp only [Sem.run_bind, Sem.run_pure, Result.andThen_ok, List.map_toArray, List.map_cons, List.map_nil, hu, hw]
          simp [hund, hti, size_run hs.size, v1, hroomcap, v2 σ.w rfl, addr_add, hst, g1]
        · refine .m (.rsl j (ver + 1) (nn + k2) _ cap0 (.inr ⟨acc, n, ver + 1, cs ++ cs2, by rw [g3]; exact set_get hH, Nat.le_refl _⟩) ?_)
          intro acc' ec' cs3 hh
          rw [g3] at hh
          have hjl : j < st.H.length := by rcases Nat.lt_or_ge j st.H.length with h | h; exact h; simp [List.getElem?_eq_none h] at hH
          simp [hjl] at hh
          obtain ⟨f1, f2, f3⟩ := hh
          subst f1; subst f2; subst f3
          exact ⟨by rw [g2], hcs', _, TT, by rw [g2, g1]; exact setBlk_get hlt, by rw [arrWrite_size]; exact h4⟩
      · -- a new block
        let need := nn + k2
        let cap := need + σ.w.tape σ.w.drawn (.appendCap need cap0 e) % (2 ^ 63 - need)
        let arr2 := arr.extract 0 (nn * n) ++ vs ++ Builtin.zeroCells zv.cells (cap - need)
        have hcapn : need ≤ cap := Nat.le_add_right _ _
        have hle0 : nn * n ≤ arr.size := by rw [h4]; exact Nat.mul_le_mul_right _ h5
        have hexs : (arr.extract 0 (nn * n)).size = nn * n := by simp; omega
        have harr2 : arr2.size = cap * n := by
          simp only [arr2, Array.size_append, zeroCells_size, v3, hzc, hexs]
          rw [← Nat.add_mul, ← Nat.add_mul]; congr 1; omega
        have hd : FInv X { σ with w := σ.w.drew } lam st a := hi.ext (ExtW.drew _)
        have hmd : Mono σ { σ with w := σ.w.drew } := Mono.ext (ExtW.drew _)
        let w' : World := { σ.w.drew with heap := σ.w.drew.heap.push (.cells arr2 e (0, 0)) }
        have hext : ExtW σ.w.drew w' := ExtW.alloc _ _
        have hg2 : ∀ k, k < cs.length → arr2[k]? = arr[k]? := by
          intro k hk
          simp only [arr2]
          rw [Array.append_assoc, Array.getElem?_append_left (by omega), Array.getElem?_extract, if_pos (by omega)]; simp
        have hg3 : ∀ k, cs.length ≤ k → k - cs.length < vs.size → arr2[k]? = vs[k - cs.length]? := by
          intro k hk hk2
          simp only [arr2]
          rw [Array.append_assoc, Array.getElem?_append_right (by omega), Array.getElem?_append_left (by omega), hexs, e2]
        obtain ⟨τ, g1, g2, g3, g4, g5⟩ := hd.updObj (j := j) (b' := σ.w.heap.size) (ob := .row acc n ver cs) (ob' := .row acc n (ver + 1) (cs ++ cs2)) (w' := w') hH trivial rfl rfl rfl hext.size
          (fun c hc _ => hext.blk c hc) (.inr (Nat.le_refl _)) (by
            intro o v ho hc
            exact ⟨hext.cell hc, fun hh => by have := lt_of_heap h3; exact absurd hh (by show ¬ σ.w.heap.size = σ.l j; omega)⟩) ⟨rfl, .inl (by omega)⟩ (by
            intro τ hm hw2 _ _
            refine ⟨hn', arr2, e, cap, need, by rw [hw2]; exact push_self _ _, harr2, hcapn, ⟨hcs', hmax⟩, ?_⟩
            intro k m v hm' hv
            rcases newcell k m hm' with ⟨hk, hc⟩ | ⟨hk, u, u1, u2, u3⟩
            · rw [hg2 k hk] at hv
              exact ⟨((h7 k m v hc hv).1.mono hmd).mono hm, (h7 k m v hc hv).2⟩
            · have hkl : k - cs.length < vs.size := by rcases Nat.lt_or_ge (k - cs.length) vs.size with h | h; exact h; simp [Array.getElem?_eq_none h] at u1
              rw [hg3 k hk hkl, u1] at hv; injection hv with hv; subst hv
              exact ⟨(u2.mono hmd).mono hm, u3⟩)
        refine OpRun.value (u := .slice (some ⟨σ.w.heap.size, 0, none⟩) need cap) (w' := τ.w) ?_ ⟨_, _, τ, lam, ⟨rfl, rfl⟩, rfl, g5, ?_⟩
        · have c2' : ¬ (9223372036854775807 < (((nn + k2 : Nat) : Nat) : Int) ∧ inf.bytes = 0) := by rintro ⟨h, _⟩; omega
          have c3' : ¬ (281474976710656 < Builtin.nextslicecap (nn + k2) cap0 * inf.bytes) := by
            rw [i3]
            have h1 := nextcap_le (need := nn + k2) (cap := cap0) (by omega)
            have := Nat.mul_le_mul_right nb h1
            rw [Nat.mul_assoc] at this
            omega
          have hcut : (Question.appendCap (nn + k2) cap0 e).cut (σ.w.tape σ.w.drawn (Question.appendCap (nn + k2) cap0 e)) = cap := rfl
          have hforced : (Question.appendCap (nn + k2) cap0 e).forced = false := rfl
          have hv2 := v2 σ.w.drew rfl
          have hold : (Builtin.firstCells n nn (.slice (some ⟨σ.l j, 0, none⟩) nn cap0)).run X.P σ.w.drew = .ok (arr.extract 0 (nn * n)) σ.w.drew := by
            simp only [Builtin.firstCells]
            exact loadRow_run (w := σ.w.drew) h3 hle0
          simp only [execOp, resolve, invoke, builtin, Builtin.append_]
          simp only [Sem.run_bind, Sem.run_pure, Result.andThen_ok, List.map_toArray, List.map_cons, List.map_nil, hu, hw]
          simp [hund, hti, size_run hs.size]
          simp only [v1, Result.andThen_ok]
          rw [if_neg hroomcap]
          have c2'' : ¬ (9223372036854775807 < (nn : Int) + (k2 : Int) ∧ inf.bytes = 0) := by rintro ⟨h, _⟩; omega
          simp only [c2'', c3', hforced, if_false, Bool.false_eq_true]
          rw [hold]
          simp only [Result.andThen_ok]
          rw [hv2]
          simp only [Result.andThen_ok, hz1, hcut]
          simp [newRow, newObj, Sem.run, g1, arr2, w', need]
          rfl
        · refine .m (.rsl j (ver + 1) need _ cap (.inr ⟨acc, n, ver + 1, cs ++ cs2, by rw [g3]; exact set_get hH, Nat.le_refl _⟩) ?_)
          intro acc' ec' cs3 hh
          rw [g3] at hh
          have hjl : j < st.H.length := by rcases Nat.lt_or_ge j st.H.length with h | h; exact h; simp [List.getElem?_eq_none h] at hH
          simp [hjl] at hh
          obtain ⟨f1, f2, f3⟩ := hh
          subst f1; subst f2; subst f3
          exact ⟨by rw [g2], hcs', arr2, e, by rw [g2, g1]; exact push_self _ _, harr2⟩

end ops
end Go.Mt
