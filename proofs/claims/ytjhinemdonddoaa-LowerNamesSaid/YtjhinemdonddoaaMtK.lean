import Derived.Test.YtjhinemdonddoaaMtJ
set_option linter.unusedVariables false
namespace Go.Mt

/-- list functions that reckon their results out -/
def wr : List M → Nat → List M → Option (List M)
  | cs, 0, [] => some cs
  | _ :: cs, 0, n :: new => match wr cs 0 new with
    | some r => some (n :: r)
    | none => none
  | c :: cs, off + 1, new => match wr cs off new with
    | some r => some (c :: r)
    | none => none
  | _, _, _ => none

theorem wr_eq : ∀ {cs : List M} {off : Nat} {new cs' : List M}, wr cs off new = some cs' → writeAt cs off new = some cs'
  | cs, 0, [], cs', h => by
    simp [wr] at h; subst h
    have : Nat.ble 0 cs.length = true := Nat.ble_eq_true_of_le (Nat.zero_le _)
    simp [writeAt, this]
  | c :: cs, 0, n :: new, cs', h => by
    simp only [wr] at h
    cases hr : wr cs 0 new with
    | none => simp [hr] at h
    | some r =>
      simp [hr] at h; subst h
      have ih := wr_eq hr
      unfold writeAt at ih ⊢
      cases hb : Nat.ble (0 + new.length) cs.length with
      | false => rw [hb] at ih; cases ih
      | true =>
        have h1 := Nat.le_of_ble_eq_true hb
        have hb2 : Nat.ble (0 + (n :: new).length) (c :: cs).length = true := Nat.ble_eq_true_of_le (by simp; omega)
        simp only [hb, cond_true, Option.some.injEq] at ih
        simp only [hb2, cond_true, Option.some.injEq]
        simp at ih ⊢
        exact ih
  | c :: cs, off + 1, new, cs', h => by
    have h' : (match wr cs off new with | some r => some (c :: r) | none => none) = some cs' := by
      cases new <;> simpa [wr] using h
    cases hr : wr cs off new with
    | none => simp [hr] at h'
    | some r =>
      simp [hr] at h'; subst h'
      have ih := wr_eq hr
      unfold writeAt at ih ⊢
      cases hb : Nat.ble (off + new.length) cs.length with
      | false => simp [hb] at ih
      | true =>
        have h1 := Nat.le_of_ble_eq_true hb
        have hb2 : Nat.ble (off + 1 + new.length) (c :: cs).length = true := Nat.ble_eq_true_of_le (by simp; omega)
        simp only [hb, cond_true, Option.some.injEq] at ih
        simp only [hb2, cond_true, Option.some.injEq]
        have e : off + 1 + new.length = (off + new.length) + 1 := by omega
        rw [e, List.take_succ_cons, List.drop_succ_cons, List.cons_append, List.cons_append, ih]
  | [], 0, _ :: _, cs', h => by simp [wr] at h
  | [], _ + 1, new, cs', h => by cases new <;> simp [wr] at h

def sub {α : Type} : List α → Nat → Nat → Option (List α)
  | _, 0, 0 => some []
  | c :: cs, 0, n + 1 => match sub cs 0 n with
    | some r => some (c :: r)
    | none => none
  | _ :: cs, off + 1, n => sub cs off n
  | [], _, _ => none
theorem sub_eq {α : Type} : ∀ {cs : List α} {off n : Nat} {ds : List α}, sub cs off n = some ds → off + n ≤ cs.length ∧ (cs.drop off).take n = ds
  | cs, 0, 0, ds, h => by simp [sub] at h; subst h; simp
  | c :: cs, 0, n + 1, ds, h => by
    simp only [sub] at h
    cases hr : sub cs 0 n with
    | none => simp [hr] at h
    | some r =>
      simp [hr] at h; subst h
      obtain ⟨h1, h2⟩ := sub_eq hr
      refine ⟨by simp; omega, ?_⟩
      simp at h2 ⊢; exact h2
  | c :: cs, off + 1, n, ds, h => by
    have h' : sub cs off n = some ds := by cases n <;> simpa [sub] using h
    obtain ⟨h1, h2⟩ := sub_eq h'
    exact ⟨by simp; omega, by simpa using h2⟩
  | [], 0, n + 1, ds, h => by simp [sub] at h
  | [], off + 1, n, ds, h => by cases n <;> simp [sub] at h

def mapD : List D → Option (List M)
  | [] => some []
  | d :: r => match mapD r with
    | some ms => some (.d d :: ms)
    | none => none
theorem mapD_eq : ∀ {ds : List D} {ms : List M}, mapD ds = some ms → ms = ds.map .d
  | [], ms, h => by simp [mapD] at h; subst h; rfl
  | d :: r, ms, h => by
    simp only [mapD] at h
    cases hr : mapD r with
    | none => simp [hr] at h
    | some x => simp [hr] at h; subst h; simp [mapD_eq hr]
def cellsO : M → Option (List M)
  | .d (.agg ds) => mapD ds
  | .agg cs => some cs
  | .undef => none
  | .tup _ => none
  | m => some [m]
theorem cellsO_eq {m : M} {cs : List M} (h : cellsO m = some cs) : cellsOf m = cs ∧ m.okc = true := by
  unfold cellsO at h
  split at h
  · rename_i ds; rw [mapD_eq h]; exact ⟨rfl, rfl⟩
  · injection h with h; subst h; exact ⟨rfl, rfl⟩
  · cases h
  · cases h
  · rename_i h1 h2 h3 h4
    injection h with h; subst h
    cases m with
    | d x => cases x <;> first | exact ⟨rfl, rfl⟩ | exact absurd rfl (h1 _)
    | undef => exact absurd rfl h3
    | tup vs => exact absurd rfl (h4 _)
    | agg cs => exact absurd rfl (h2 _)
    | _ => exact ⟨rfl, rfl⟩

def fillO (ps : List (Nat × Nat)) (cs : List M) : List (Nat × M) → Option (List M)
  | [] => some cs
  | (i, m) :: r => match ps[i]?, cellsO m with
    | some (off, size), some new => bif Nat.beq new.length size then (match wr cs off new with
      | some cs' => fillO ps cs' r
      | none => none) else none
    | _, _ => none
theorem fillO_eq {ps : List (Nat × Nat)} : ∀ {parts : List (Nat × M)} {cs cs' : List M}, fillO ps cs parts = some cs' → fillM (fun i => ps[i]?) cs parts = some cs'
  | [], cs, cs', h => by simpa [fillO, fillM] using h
  | (i, m) :: r, cs, cs', h => by
    simp only [fillO] at h
    split at h
    · rename_i off size new h1 h2
      obtain ⟨h3, h4⟩ := cellsO_eq h2
      cases hb : Nat.beq new.length size with
      | false => simp [hb] at h
      | true =>
        simp only [hb, cond_true] at h
        split at h
        · rename_i cs1 hw
          simp only [fillM, h1, h3, h4, hb, Bool.and_self, cond_true, wr_eq hw]
          exact fillO_eq h
        · cases h
    · cases h

/-- the elements of a slice literal, all of them, in order -/
def rowsO : Nat → List (Nat × M) → Option (List (List D))
  | _, [] => some []
  | k, (i, .d d) :: r => bif Nat.beq i k then (match rowsO (k + 1) r with
    | some rs => some (dcells d :: rs)
    | none => none) else none
  | _, _ => none

def evPartsO (sl : List (Nat × V)) : List (Nat × Operand) → Option (List (Nat × M))
  | [] => some []
  | (i, x) :: r => match evs sl x, evPartsO sl r with
    | some (.m m), some ms => some ((i, m) :: ms)
    | _, _ => none
theorem evPartsO_eq {sl : List (Nat × V)} {bx : List (Nat × List M)} {H : Hp} : ∀ {ps : List (Nat × Operand)}, evParts ⟨sl, bx, H⟩ ps = evPartsO sl ps
  | [] => rfl
  | (i, x) :: r => by simp only [evParts, evPartsO, evPartsO_eq (ps := r)]; rfl

theorem rows_fill {n : Nat} (hn : 0 < n) : ∀ {ms : List (Nat × M)} {k : Nat} {rows : List (List D)} {pre suf : List M}, rowsO k ms = some rows → (∀ r ∈ rows, r.length = n) → pre.length = k * n → suf.length = ms.length * n →
    fillM (fun i => some (i * n, n)) (pre ++ suf) ms = some (pre ++ (rows.map fun r => r.map M.d).flatten) ∧ rows.length = ms.length
  | [], k, rows, pre, suf, h, _, _, hs => by
    simp [rowsO] at h; subst h
    simp at hs; subst hs
    simp [fillM]
  | (i, m) :: r, k, rows, pre, suf, h, hl, hp, hs => by
    cases m with
    | d d =>
      simp only [rowsO] at h
      cases hb : Nat.beq i k with
      | false => simp [hb] at h
      | true =>
        have := Nat.eq_of_beq_eq_true hb
        subst this
        simp only [hb, cond_true] at h
        split at h
        · rename_i rs hr
          injection h with h; subst h
          have hdl : (dcells d).length = n := hl _ (by simp)
          have hsl : n ≤ suf.length := by rw [hs]; simp [Nat.succ_mul]
          have hcl : (cellsOf (.d d)).length = n := by simp [cellsOf, hdl]
          have hw : writeAt (pre ++ suf) (i * n) (cellsOf (.d d)) = some ((pre ++ cellsOf (.d d)) ++ suf.drop n) := by
            unfold writeAt
            have hble : Nat.ble (i * n + (cellsOf (.d d)).length) (pre ++ suf).length = true := Nat.ble_eq_true_of_le (by simp [hcl]; omega)
            rw [hble]
            have e1 : List.take (i * n) (pre ++ suf) = pre := by rw [← hp]; simp
            have e2 : List.drop (i * n + n) (pre ++ suf) = List.drop n suf := by
              rw [← hp, List.drop_append, List.drop_eq_nil_of_le (by omega)]; simp
            simp only [cond_true, hcl, e1, e2]
          obtain ⟨h1, h2⟩ := rows_fill hn (k := i + 1) (pre := pre ++ cellsOf (.d d)) (suf := suf.drop n) hr (fun r hr => hl r (by simp [hr])) (by simp [hp, hcl, Nat.succ_mul]) (by simp [hs, Nat.succ_mul])
          refine ⟨?_, by simp [h2]⟩
          unfold fillM
          have hbe : Nat.beq (cellsOf (.d d)).length n = true := by rw [hcl]; exact Nat.beq_refl n
          simp only [hbe, M.okc, Bool.and_self, cond_true, hw]
          rw [h1]
          simp [cellsOf]
        · cases h
    | _ => simp [rowsO] at h

theorem chunk_flat {n : Nat} : ∀ {rows : List (List D)}, (∀ r ∈ rows, r.length = n) → chunk n rows.length (rows.map fun r => r.map M.d).flatten = some rows
  | [], _ => rfl
  | r :: rs, h => by
    have hr : r.length = n := h r (by simp)
    have had : ∀ l : List D, allD (l.map .d) = some l := by
      intro l; induction l with
      | nil => rfl
      | cons x l ih => simp [allD, ih]
    have ih := chunk_flat (n := n) (rows := rs) (fun r hr => h r (by simp [hr]))
    show chunk n (rs.length + 1) ((r.map M.d) ++ (rs.map fun r => r.map M.d).flatten) = _
    unfold chunk
    have e1 : ((r.map M.d) ++ (rs.map fun r => r.map M.d).flatten).take n = r.map M.d := by
      rw [List.take_append_of_le_length (by simp [hr])]; rw [List.take_of_length_le (by simp [hr])]
    have e2 : ((r.map M.d) ++ (rs.map fun r => r.map M.d).flatten).drop n = (rs.map fun r => r.map M.d).flatten := by
      rw [List.drop_append_of_le_length (by simp [hr])]; rw [List.drop_of_length_le (by simp [hr])]; rfl
    rw [e1, e2, had, ih]

def lenAll (n : Nat) : List (List D) → Bool
  | [] => true
  | r :: rs => Nat.beq r.length n && lenAll n rs
theorem lenAll_eq {n : Nat} : ∀ {rows : List (List D)}, lenAll n rows = true → ∀ r ∈ rows, r.length = n
  | [], _, r, hr => by cases hr
  | x :: rs, h, r, hr => by
    simp only [lenAll, Bool.and_eq_true] at h
    cases hr with
    | head => exact Nat.eq_of_beq_eq_true h.1
    | tail _ hr => exact lenAll_eq h.2 r hr

def evDs (sl : List (Nat × V)) : List Operand → Option (List D)
  | [] => some []
  | x :: r => match evs sl x, evDs sl r with
    | some (.m (.d d)), some ds => some (d :: ds)
    | _, _ => none
def evMs (sl : List (Nat × V)) : List Operand → Option (List M)
  | [] => some []
  | x :: r => match evs sl x, evMs sl r with
    | some (.m m), some ds => some (m :: ds)
    | _, _ => none
theorem evDs_eq {sl : List (Nat × V)} {bx : List (Nat × List M)} {H : Hp} : ∀ {ps : List Operand}, (⟨sl, bx, H⟩ : St).evDs ps = evDs sl ps
  | [] => rfl
  | x :: r => by simp only [St.evDs, evDs, evDs_eq (ps := r)]; rfl
theorem evMs_eq {sl : List (Nat × V)} {bx : List (Nat × List M)} {H : Hp} : ∀ {ps : List Operand}, (⟨sl, bx, H⟩ : St).evMs ps = evMs sl ps
  | [] => rfl
  | x :: r => by simp only [St.evMs, evMs, evMs_eq (ps := r)]; rfl

section rules
variable {X : Ctx} {ops : Array Oper} {rest : List Oper} {post : St → Prop} {sl : List (Nat × V)} {bx : List (Nat × List M)} {H : Hp} {d ty : Nat} {pos : String} {af : Array Edge}

theorem TL.o1 {o : Oper} {v : V} {sl' : List (Nat × V)} {bx' : List (Nat × List M)} {H' : Hp} (hg : o.guard = none) (hd : o.dst = some d) (hn : Nat.blt d X.n = true) (h : OpT X o ⟨sl, bx, H⟩ (eqp v ⟨sl', bx', H'⟩))
    (k : TL X ops rest ⟨(d, v) :: sl', bx', H'⟩ post) : TL X ops (o :: rest) ⟨sl, bx, H⟩ post :=
  TL.op1 (by simp [wants, hg]) hd hn h k

theorem t_guard_yes {dst : Option Nat} {op : Op} {j : Nat} {w : Bool} (hw : wants ops ⟨dst, op, ty, pos, af, some (j, w)⟩ ⟨sl, bx, H⟩ = some true)
    (k : TL X ops (⟨dst, op, ty, pos, af, none⟩ :: rest) ⟨sl, bx, H⟩ post) : TL X ops (⟨dst, op, ty, pos, af, some (j, w)⟩ :: rest) ⟨sl, bx, H⟩ post := by
  rintro a w' ⟨σ, lam, hσ, hi⟩
  have := k a w' ⟨σ, lam, hσ, hi⟩
  unfold wpList at this ⊢
  rw [if_pos (hi.wanted hw)]
  rw [if_pos (by simp [Region.wanted])] at this
  have e : ∀ g : Option (Nat × Bool), execOp a.eval ⟨dst, op, ty, pos, af, g⟩ = execOp a.eval ⟨dst, op, ty, pos, af, none⟩ := by
    intro g; cases op <;> rfl
  rcases this with this | ⟨h1, h2⟩
  · left
    unfold Oper.wp at this ⊢
    rw [e]; exact this
  · right
    refine ⟨?_, h2⟩
    unfold Oper.asks at h1 ⊢
    rw [e]; exact h1
theorem t_guard_no {op : Op} {j : Nat} {w : Bool} (hw : wants ops ⟨some d, op, ty, pos, af, some (j, w)⟩ ⟨sl, bx, H⟩ = some false) (hn : Nat.blt d X.n = true)
    (k : TL X ops rest ⟨(d, .m (.tup [])) :: sl, bx, H⟩ post) : TL X ops (⟨some d, op, ty, pos, af, some (j, w)⟩ :: rest) ⟨sl, bx, H⟩ post :=
  TL.skip hw rfl hn k

theorem t_move {x : Operand} {v : V} (hn : Nat.blt d X.n = true) (hx : evs sl x = some v) (k : TL X ops rest ⟨(d, v) :: sl, bx, H⟩ post) : TL X ops (⟨some d, .move x, ty, pos, af, none⟩ :: rest) ⟨sl, bx, H⟩ post :=
  TL.o1 rfl rfl hn (op_move hx) k
theorem t_assign {x : Operand} {v : V} (hn : Nat.blt d X.n = true) (hx : evs sl x = some v) (k : TL X ops rest ⟨(d, v) :: sl, bx, H⟩ post) : TL X ops (⟨some d, .assign x, ty, pos, af, none⟩ :: rest) ⟨sl, bx, H⟩ post :=
  TL.o1 rfl rfl hn (op_assign hx) k
theorem t_pick {c x y : Operand} {b : Bool} {v : V} (hn : Nat.blt d X.n = true) (hc : evs sl c = some (.m (.d (.bool b)))) (hx : evs sl (bif b then x else y) = some v) (k : TL X ops rest ⟨(d, v) :: sl, bx, H⟩ post) :
    TL X ops (⟨some d, .pick c x y, ty, pos, af, none⟩ :: rest) ⟨sl, bx, H⟩ post := by
  cases b
  · exact TL.o1 rfl rfl hn (op_pick_f hc hx) k
  · exact TL.o1 rfl rfl hn (op_pick_t hc hx) k
theorem t_int {op : BinOp} {xt yt : Nat} {x y : Operand} {kk : IntKind} {m n : Int} {r : D} (hn : Nat.blt d X.n = true) (hx : evs sl x = some (.m (.d (.int kk m)))) (hy : evs sl y = some (.m (.d (.int kk n))))
    (hr : intBin op kk m n = some r) (k : TL X ops rest ⟨(d, .m (.d r)) :: sl, bx, H⟩ post) : TL X ops (⟨some d, .binOp op xt x y yt, ty, pos, af, none⟩ :: rest) ⟨sl, bx, H⟩ post :=
  TL.o1 rfl rfl hn (op_int hx hy hr) k
theorem t_add64 {xt yt : Nat} {x y : Operand} {m n : Int} (hn : Nat.blt d X.n = true) (hx : evs sl x = some (.m (.d (.int .i64 m)))) (hy : evs sl y = some (.m (.d (.int .i64 n))))
    (hr : -9223372036854775808 ≤ m + n ∧ m + n ≤ 9223372036854775807) (k : TL X ops rest ⟨(d, .m (.d (.int .i64 (m + n)))) :: sl, bx, H⟩ post) : TL X ops (⟨some d, .binOp .add xt x y yt, ty, pos, af, none⟩ :: rest) ⟨sl, bx, H⟩ post := by
  refine t_int hn hx hy (r := .int .i64 (m + n)) ?_ k
  have : IntKind.i64.wrap (m + n) = m + n := IntWalk.i64_in _ hr
  simp [intBin, this]
theorem t_sub64 {xt yt : Nat} {x y : Operand} {m n : Int} (hn : Nat.blt d X.n = true) (hx : evs sl x = some (.m (.d (.int .i64 m)))) (hy : evs sl y = some (.m (.d (.int .i64 n))))
    (hr : -9223372036854775808 ≤ m - n ∧ m - n ≤ 9223372036854775807) (k : TL X ops rest ⟨(d, .m (.d (.int .i64 (m - n)))) :: sl, bx, H⟩ post) : TL X ops (⟨some d, .binOp .sub xt x y yt, ty, pos, af, none⟩ :: rest) ⟨sl, bx, H⟩ post := by
  refine t_int hn hx hy (r := .int .i64 (m - n)) ?_ k
  have : IntKind.i64.wrap (m - n) = m - n := IntWalk.i64_in _ hr
  simp [intBin, this]
theorem t_quo {xt yt : Nat} {x y : Operand} {kk : IntKind} {m n : Int} (hn : Nat.blt d X.n = true) (hx : evs sl x = some (.m (.d (.int kk m)))) (hy : evs sl y = some (.m (.d (.int kk n))))
    (hr : (n == 0) = false) (k : TL X ops rest ⟨(d, .m (.d (.int kk (kk.wrap (m.tdiv n))))) :: sl, bx, H⟩ post) : TL X ops (⟨some d, .binOp .quo xt x y yt, ty, pos, af, none⟩ :: rest) ⟨sl, bx, H⟩ post :=
  TL.o1 rfl rfl hn (op_quo hx hy hr) k
theorem t_rem {xt yt : Nat} {x y : Operand} {kk : IntKind} {m n : Int} (hn : Nat.blt d X.n = true) (hx : evs sl x = some (.m (.d (.int kk m)))) (hy : evs sl y = some (.m (.d (.int kk n))))
    (hr : (n == 0) = false) (k : TL X ops rest ⟨(d, .m (.d (.int kk (m.tmod n)))) :: sl, bx, H⟩ post) : TL X ops (⟨some d, .binOp .rem xt x y yt, ty, pos, af, none⟩ :: rest) ⟨sl, bx, H⟩ post :=
  TL.o1 rfl rfl hn (op_rem hx hy hr) k
theorem t_not {x : Operand} {xt : Nat} {b : Bool} (hn : Nat.blt d X.n = true) (hx : evs sl x = some (.m (.d (.bool b)))) (k : TL X ops rest ⟨(d, .m (.d (.bool (!b)))) :: sl, bx, H⟩ post) :
    TL X ops (⟨some d, .unOp .not xt x, ty, pos, af, none⟩ :: rest) ⟨sl, bx, H⟩ post :=
  TL.o1 rfl rfl hn (op_not hx) k
theorem t_streq {x y : Operand} {xt yt : Nat} {s u : ByteArray} (hn : Nat.blt d X.n = true) (hx : evs sl x = some (.m (.d (.str s)))) (hy : evs sl y = some (.m (.d (.str u)))) (k : TL X ops rest ⟨(d, .m (.d (.bool (decide (s = u))))) :: sl, bx, H⟩ post) :
    TL X ops (⟨some d, .binOp .eql xt x y yt, ty, pos, af, none⟩ :: rest) ⟨sl, bx, H⟩ post :=
  TL.o1 rfl rfl hn (op_streq hx hy) k
theorem t_strne {x y : Operand} {xt yt : Nat} {s u : ByteArray} (hn : Nat.blt d X.n = true) (hx : evs sl x = some (.m (.d (.str s)))) (hy : evs sl y = some (.m (.d (.str u)))) (k : TL X ops rest ⟨(d, .m (.d (.bool (!decide (s = u))))) :: sl, bx, H⟩ post) :
    TL X ops (⟨some d, .binOp .neq xt x y yt, ty, pos, af, none⟩ :: rest) ⟨sl, bx, H⟩ post :=
  TL.o1 rfl rfl hn (op_strne hx hy) k
theorem t_stradd {x y : Operand} {xt yt : Nat} {s u : ByteArray} (hn : Nat.blt d X.n = true) (hx : evs sl x = some (.m (.d (.str s)))) (hy : evs sl y = some (.m (.d (.str u)))) (hs : s.size + u.size ≤ 9223372036854775807) (k : TL X ops rest ⟨(d, .m (.d (.str (s ++ u)))) :: sl, bx, H⟩ post) :
    TL X ops (⟨some d, .binOp .add xt x y yt, ty, pos, af, none⟩ :: rest) ⟨sl, bx, H⟩ post :=
  TL.o1 rfl rfl hn (op_stradd hx hy hs) k
theorem t_box {t : Nat} {x : Operand} {v : D} (hn : Nat.blt d X.n = true) (hx : evs sl x = some (.m (.d v))) (k : TL X ops rest ⟨(d, .m (.d (.pim (dcells v) 0))) :: sl, bx, H⟩ post) :
    TL X ops (⟨some d, .box t x, ty, pos, af, none⟩ :: rest) ⟨sl, bx, H⟩ post :=
  TL.o1 rfl rfl hn (op_box hx) k
theorem t_fieldD {s f : Nat} {x : Operand} {cs : List D} {off o : Nat} (hn : Nat.blt d X.n = true) (hx : evs sl x = some (.m (.d (.pim cs off)))) [hf : TyField X.P s f o] (k : TL X ops rest ⟨(d, .m (.d (.pim cs (off + o)))) :: sl, bx, H⟩ post) :
    TL X ops (⟨some d, .fieldAddr s x f, ty, pos, af, none⟩ :: rest) ⟨sl, bx, H⟩ post :=
  TL.o1 rfl rfl hn (op_fieldD hx) k
theorem t_fieldL {s f : Nat} {x : Operand} {t off o : Nat} (hn : Nat.blt d X.n = true) (hx : evs sl x = some (.loc t off)) [hf : TyField X.P s f o] (k : TL X ops rest ⟨(d, .loc t (off + o)) :: sl, bx, H⟩ post) :
    TL X ops (⟨some d, .fieldAddr s x f, ty, pos, af, none⟩ :: rest) ⟨sl, bx, H⟩ post :=
  TL.o1 rfl rfl hn (op_fieldL hx) k
theorem t_fieldR {s f : Nat} {x : Operand} {i off o : Nat} (hn : Nat.blt d X.n = true) (hx : evs sl x = some (.m (.ref i off))) [hf : TyField X.P s f o] (k : TL X ops rest ⟨(d, .m (.ref i (off + o))) :: sl, bx, H⟩ post) :
    TL X ops (⟨some d, .fieldAddr s x f, ty, pos, af, none⟩ :: rest) ⟨sl, bx, H⟩ post :=
  TL.o1 rfl rfl hn (op_fieldR hx) k
theorem t_fieldW {s f : Nat} {x : Operand} {i ver off o : Nat} (hn : Nat.blt d X.n = true) (hx : evs sl x = some (.m (.rref i ver off))) [hf : TyField X.P s f o] (k : TL X ops rest ⟨(d, .m (.rref i ver (off + o))) :: sl, bx, H⟩ post) :
    TL X ops (⟨some d, .fieldAddr s x f, ty, pos, af, none⟩ :: rest) ⟨sl, bx, H⟩ post :=
  TL.o1 rfl rfl hn (op_fieldW hx) k
theorem t_loadDc {t : Nat} {x : Operand} {cs : List D} {off : Nat} {v : D} [ht : TyCell X.P t] (hn : Nat.blt d X.n = true) (hx : evs sl x = some (.m (.d (.pim cs off)))) (hr : cs[off]? = some v) (k : TL X ops rest ⟨(d, .m (.d v)) :: sl, bx, H⟩ post) :
    TL X ops (⟨some d, .load t x, ty, pos, af, none⟩ :: rest) ⟨sl, bx, H⟩ post :=
  TL.o1 rfl rfl hn (op_loadDc hx hr) k
theorem t_loadDw {t n : Nat} {x : Operand} {cs : List D} [ht : TyAgg X.P t n] (hn : Nat.blt d X.n = true) (hx : evs sl x = some (.m (.d (.pim cs 0)))) (hr : cs.length = n) (k : TL X ops rest ⟨(d, .m (.d (.agg cs))) :: sl, bx, H⟩ post) :
    TL X ops (⟨some d, .load t x, ty, pos, af, none⟩ :: rest) ⟨sl, bx, H⟩ post :=
  TL.o1 rfl rfl hn (op_loadDw hx hr) k
theorem t_loadDa {t n : Nat} {x : Operand} {cs ds : List D} {off : Nat} [ht : TyAgg X.P t n] (hn : Nat.blt d X.n = true) (hx : evs sl x = some (.m (.d (.pim cs off)))) (hr : sub cs off n = some ds) (k : TL X ops rest ⟨(d, .m (.d (.agg ds))) :: sl, bx, H⟩ post) :
    TL X ops (⟨some d, .load t x, ty, pos, af, none⟩ :: rest) ⟨sl, bx, H⟩ post :=
  TL.o1 rfl rfl hn (op_loadDa hx (Nat.ble_eq_true_of_le (sub_eq hr).1) (sub_eq hr).2) k
theorem t_loadLc {T : Nat} {x : Operand} {t off : Nat} {cs : List M} {m : M} [ht : TyCell X.P T] (hn : Nat.blt d X.n = true) (hx : evs sl x = some (.loc t off)) (hb : get bx t = some cs) (hr : cs[off]? = some m) (k : TL X ops rest ⟨(d, .m m) :: sl, bx, H⟩ post) :
    TL X ops (⟨some d, .load T x, ty, pos, af, none⟩ :: rest) ⟨sl, bx, H⟩ post :=
  TL.o1 rfl rfl hn (op_loadLc hx hb hr) k
theorem t_loadLa {T n : Nat} {x : Operand} {t off : Nat} {cs cs' : List M} {ds : List D} [ht : TyAgg X.P T n] (hn : Nat.blt d X.n = true) (hx : evs sl x = some (.loc t off)) (hb : get bx t = some cs) (hs : sub cs off n = some cs')
    (hr : allD cs' = some ds) (k : TL X ops rest ⟨(d, .m (.d (.agg ds))) :: sl, bx, H⟩ post) : TL X ops (⟨some d, .load T x, ty, pos, af, none⟩ :: rest) ⟨sl, bx, H⟩ post :=
  TL.o1 rfl rfl hn (op_loadLa hx hb (Nat.ble_eq_true_of_le (sub_eq hs).1) (by rw [(sub_eq hs).2]; exact hr)) k
theorem t_nilCheck {x : Operand} {v : V} (hn : Nat.blt d X.n = true) (hx : evs sl x = some v) (hv : ptrOk v = true)
    (k : TL X ops rest ⟨(d, v) :: sl, bx, H⟩ post) : TL X ops (⟨some d, .nilCheck x, ty, pos, af, none⟩ :: rest) ⟨sl, bx, H⟩ post :=
  TL.o1 rfl rfl hn (op_nilCheck hx hv) k
theorem t_lenS {t e : Nat} {x : Operand} {v : D} {n : Nat} [ht : TySlice X.P t e] (hn : Nat.blt d X.n = true) (hx : evs sl x = some (.m (.d v))) (hl : slLen v = some n)
    (k : TL X ops rest ⟨(d, .m (.d (.int .i64 n))) :: sl, bx, H⟩ post) : TL X ops (⟨some d, .call ⟨.builtin .len, #[x], #[t]⟩, ty, pos, af, none⟩ :: rest) ⟨sl, bx, H⟩ post :=
  TL.o1 rfl rfl hn (op_lenS hx hl) k
theorem t_lenT {t : Nat} {x : Operand} {s : ByteArray} [ht : TyStr X.P t] (hn : Nat.blt d X.n = true) (hx : evs sl x = some (.m (.d (.str s)))) (k : TL X ops rest ⟨(d, .m (.d (.int .i64 s.size))) :: sl, bx, H⟩ post) :
    TL X ops (⟨some d, .call ⟨.builtin .len, #[x], #[t]⟩, ty, pos, af, none⟩ :: rest) ⟨sl, bx, H⟩ post :=
  TL.o1 rfl rfl hn (op_lenT hx) k
theorem t_indexD {t e n : Nat} {x y : Operand} {rows : List (List D)} {r : List D} {kk : IntKind} {i : Int} [ht : TySlice X.P t e] [hs : TySz X.P e n] (hn : Nat.blt d X.n = true) (hx : evs sl x = some (.m (.d (.sl rows)))) (hy : evs sl y = some (.m (.d (.int kk i))))
    (h0 : 0 ≤ i) (hr : rows[i.toNat]? = some r) (hl : r.length = n) (k : TL X ops rest ⟨(d, .m (.d (.pim r 0))) :: sl, bx, H⟩ post) : TL X ops (⟨some d, .indexAddr t x y, ty, pos, af, none⟩ :: rest) ⟨sl, bx, H⟩ post :=
  TL.o1 rfl rfl hn (op_indexD hx hy h0 hr hl) k
theorem t_extract {x : Operand} {i : Nat} {vs : List M} {m : M} (hn : Nat.blt d X.n = true) (hx : evs sl x = some (.m (.tup vs))) (hm : vs[i]? = some m) (k : TL X ops rest ⟨(d, .m m) :: sl, bx, H⟩ post) :
    TL X ops (⟨some d, .extract x i, ty, pos, af, none⟩ :: rest) ⟨sl, bx, H⟩ post :=
  TL.o1 rfl rfl hn (op_extract hx hm) k
theorem t_call1 {f : Nat} {args : List Operand} {tys : Array Nat} {ds : List D} {r : D} [hf : IsFn X.P f] (h : PT X.P f ds (· = [r])) (hn : Nat.blt d X.n = true) (ha : evDs sl args = some ds) (k : TL X ops rest ⟨(d, .m (.d r)) :: sl, bx, H⟩ post) :
    TL X ops (⟨some d, .call ⟨.value (.func f), args.toArray, tys⟩, ty, pos, af, none⟩ :: rest) ⟨sl, bx, H⟩ post :=
  TL.o1 rfl rfl hn (op_call1 (by rw [evDs_eq]; exact ha) h) k
theorem t_call {f : Nat} {args : List Operand} {tys : Array Nat} {ds : List D} {q : List D → Prop} [hf : IsFn X.P f] (h : PT X.P f ds q) (hn : Nat.blt d X.n = true) (ha : evDs sl args = some ds)
    (k : ∀ r, q r → TL X ops rest ⟨(d, .m (tupM (r.map .d))) :: sl, bx, H⟩ post) :
    TL X ops (⟨some d, .call ⟨.value (.func f), args.toArray, tys⟩, ty, pos, af, none⟩ :: rest) ⟨sl, bx, H⟩ post :=
  TL.op rfl rfl hn (op_call (by rw [evDs_eq]; exact ha) h) (by rintro v s ⟨r, rfl, hq, rfl⟩; exact k r hq)
theorem t_callv {x : Operand} {f : Nat} {caps : List D} {args : List Operand} {tys : Array Nat} {ds : List D} {r : D} [hf : IsFn X.P f] (h : PT X.P f (ds ++ caps) (· = [r])) (hn : Nat.blt d X.n = true) (hx : evs sl x = some (.m (.d (.fn f caps)))) (ha : evDs sl args = some ds)
    (k : TL X ops rest ⟨(d, .m (.d r)) :: sl, bx, H⟩ post) : TL X ops (⟨some d, .call ⟨.value x, args.toArray, tys⟩, ty, pos, af, none⟩ :: rest) ⟨sl, bx, H⟩ post :=
  TL.op rfl rfl hn (op_callv hx (by rw [evDs_eq]; exact ha) h) (by rintro v s ⟨r', rfl, rfl, rfl⟩; exact k)
theorem t_callR {f : Nat} {args : List Operand} {tys : Array Nat} {ms : List M} {q : M → Hp → Prop} [hf : IsFn X.P f] (h : CT X.P f ms H q) (hn : Nat.blt d X.n = true) (ha : evMs sl args = some ms)
    (k : ∀ r H', q r H' → TL X ops rest ⟨(d, .m r) :: sl, bx, H'⟩ post) :
    TL X ops (⟨some d, .call ⟨.value (.func f), args.toArray, tys⟩, ty, pos, af, none⟩ :: rest) ⟨sl, bx, H⟩ post :=
  TL.op rfl rfl hn (op_callR (by rw [evMs_eq]; exact ha) h) (by rintro v s ⟨r, H', rfl, hq, rfl⟩; exact k r H' hq)
theorem t_makeFunc {f : Nat} {caps : List Operand} {ds : List D} (hn : Nat.blt d X.n = true) (ha : evDs sl caps = some ds) (k : TL X ops rest ⟨(d, .m (.d (.fn f ds))) :: sl, bx, H⟩ post) :
    TL X ops (⟨some d, .makeFunc (.func f) #[] caps.toArray, ty, pos, af, none⟩ :: rest) ⟨sl, bx, H⟩ post :=
  TL.o1 rfl rfl hn (op_makeFunc (by rw [evDs_eq]; exact ha)) k
theorem t_build {T : Nat} {parts : List (Nat × Operand)} {ps : List (Nat × Nat)} {z : List D} {zs : List M} {ms : List (Nat × M)} {cs : List M} {ds : List D} [ht : TyStruct X.P T ps z] (hn : Nat.blt d X.n = true) (he : evPartsO sl parts = some ms) (hz : mapD z = some zs)
    (hf : fillO ps zs ms = some cs) (hd : allD cs = some ds) (k : TL X ops rest ⟨(d, .m (.d (.agg ds))) :: sl, bx, H⟩ post) : TL X ops (⟨some d, .build T parts.toArray, ty, pos, af, none⟩ :: rest) ⟨sl, bx, H⟩ post := by
  have h1 := op_build (X := X) (dst := some d) (ty := ty) (pos := pos) (af := af) (g := none) (st := ⟨sl, bx, H⟩) (T := T) (by rw [evPartsO_eq]; exact he) (by rw [← mapD_eq hz]; exact fillO_eq hf)
  have : pack cs = .d (.agg ds) := by simp [pack, hd]
  rw [this] at h1
  exact TL.o1 rfl rfl hn h1 k
theorem t_buildM {T : Nat} {parts : List (Nat × Operand)} {ps : List (Nat × Nat)} {z : List D} {zs : List M} {ms : List (Nat × M)} {cs : List M} [ht : TyStruct X.P T ps z] (hn : Nat.blt d X.n = true) (he : evPartsO sl parts = some ms) (hz : mapD z = some zs)
    (hf : fillO ps zs ms = some cs) (hd : allD cs = none) (k : TL X ops rest ⟨(d, .m (.agg cs)) :: sl, bx, H⟩ post) : TL X ops (⟨some d, .build T parts.toArray, ty, pos, af, none⟩ :: rest) ⟨sl, bx, H⟩ post := by
  have h1 := op_build (X := X) (dst := some d) (ty := ty) (pos := pos) (af := af) (g := none) (st := ⟨sl, bx, H⟩) (T := T) (by rw [evPartsO_eq]; exact he) (by rw [← mapD_eq hz]; exact fillO_eq hf)
  have : pack cs = .agg cs := by simp [pack, hd]
  rw [this] at h1
  exact TL.o1 rfl rfl hn h1 k
theorem op_buildSliceAll {st : St} {dst : Option Nat} {g : Option (Nat × Bool)} {T e n len : Nat} {parts : List (Nat × Operand)} {z : D} {ms : List (Nat × M)} {rows : List (List D)} [ht : TySlice X.P T e] [hs : TySz X.P e n] [hz : TyZ X.P e z] (h0 : Nat.blt 0 n = true) (hzl : Nat.beq (dcells z).length n = true)
    (hle : Nat.ble (len * n) 16777216 = true) (he : evParts st parts = some ms) (hr : rowsO 0 ms = some rows) (hlen : Nat.beq rows.length len = true) (hl : lenAll n rows = true) :
    OpT X ⟨dst, .buildSlice T len parts.toArray, ty, pos, af, g⟩ st (eqp (.m (.d (.sl rows))) st) := by
  have hlen' := Nat.eq_of_beq_eq_true hlen
  have hl' := lenAll_eq hl
  have hzl' := Nat.eq_of_beq_eq_true hzl
  have hrm : rows.length = ms.length := by
    have : ∀ {ms : List (Nat × M)} {k : Nat} {rows : List (List D)}, rowsO k ms = some rows → rows.length = ms.length := by
      intro ms
      induction ms with
      | nil => intro k rows h; simp [rowsO] at h; subst h; rfl
      | cons p r ih =>
        intro k rows h
        obtain ⟨i, m⟩ := p
        cases m with
        | d d =>
          simp only [rowsO] at h
          cases hb : Nat.beq i k with
          | false => simp [hb] at h
          | true =>
            simp only [hb, cond_true] at h
            split at h
            · rename_i rs hr; injection h with h; subst h; simp [ih hr]
            · cases h
        | _ => simp [rowsO] at h
    exact this hr
  obtain ⟨h1, h2⟩ := rows_fill (blt_lt h0) (k := 0) (pre := []) (suf := zlist n len (dcells z)) hr hl' (by simp) (by simp [zlist]; rw [← hlen', hrm])
  simp only [List.nil_append] at h1
  have hch : chunk n len (rows.map fun r => r.map M.d).flatten = some rows := by rw [← hlen']; exact chunk_flat hl'
  exact op_buildSlice h0 hzl' hle he h1 hch
theorem t_buildSlice {T e n len : Nat} {parts : List (Nat × Operand)} {z : D} {ms : List (Nat × M)} {rows : List (List D)} [ht : TySlice X.P T e] [hs : TySz X.P e n] [hz : TyZ X.P e z] (hn : Nat.blt d X.n = true) (h0 : Nat.blt 0 n = true) (hzl : Nat.beq (dcells z).length n = true)
    (hle : Nat.ble (len * n) 16777216 = true) (he : evPartsO sl parts = some ms) (hr : rowsO 0 ms = some rows) (hlen : Nat.beq rows.length len = true) (hl : lenAll n rows = true)
    (k : TL X ops rest ⟨(d, .m (.d (.sl rows))) :: sl, bx, H⟩ post) : TL X ops (⟨some d, .buildSlice T len parts.toArray, ty, pos, af, none⟩ :: rest) ⟨sl, bx, H⟩ post :=
  TL.o1 rfl rfl hn (op_buildSliceAll h0 hzl hle (by rw [evPartsO_eq]; exact he) hr hlen hl) k

class TyZc (P : Program) (t : Nat) (cs : outParam (List M)) : Prop where
  h : ∃ z, TyZero P t z ∧ (dcells z).map .d = cs
theorem t_alloc {T : Nat} {cs : List M} [hz : TyZc X.P T cs] (hn : Nat.blt d X.n = true) (hl : noLoc d sl = true) (k : TL X ops rest ⟨(d, .loc d 0) :: sl, (d, cs) :: bx, H⟩ post) :
    TL X ops (⟨some d, .alloc T, ty, pos, af, none⟩ :: rest) ⟨sl, bx, H⟩ post := by
  obtain ⟨z, h1, h2⟩ := hz.h
  subst h2
  have h3 := op_alloc (X := X) (st := ⟨sl, bx, H⟩) (d := d) (T := T) (ty := ty) (pos := pos) (af := af) (g := none)
  have e : clearLoc d sl = sl := by
    have : ∀ l : List (Nat × V), noLoc d l = true → clearLoc d l = l := by
      intro l
      induction l with
      | nil => intro _; rfl
      | cons x l ih =>
        obtain ⟨k, v⟩ := x
        cases v with
        | m m => intro h; simp only [noLoc] at h; simp [clearLoc, ih h]
        | loc u o => intro h; simp only [noLoc, Bool.and_eq_true, Bool.not_eq_true'] at h; simp [clearLoc, h.1, ih h.2]
    exact this sl hl
  simp only [e] at h3
  exact TL.o1 rfl rfl hn h3 k
theorem t_boxL {T : Nat} {x : Operand} {m : M} {cs : List M} (hn : Nat.blt d X.n = true) (hl : noLoc d sl = true) (hx : evs sl x = some (.m m)) (hc : cellsO m = some cs) (k : TL X ops rest ⟨(d, .loc d 0) :: sl, (d, cs) :: bx, H⟩ post) :
    TL X ops (⟨some d, .box T x, ty, pos, af, none⟩ :: rest) ⟨sl, bx, H⟩ post := by
  obtain ⟨h1, h2⟩ := cellsO_eq hc
  have h3 := op_boxL (X := X) (st := ⟨sl, bx, H⟩) (d := d) (T := T) (ty := ty) (pos := pos) (af := af) (g := none) hx h2
  have e : clearLoc d sl = sl := by
    have : ∀ l : List (Nat × V), noLoc d l = true → clearLoc d l = l := by
      intro l
      induction l with
      | nil => intro _; rfl
      | cons x l ih =>
        obtain ⟨k, v⟩ := x
        cases v with
        | m m => intro h; simp only [noLoc] at h; simp [clearLoc, ih h]
        | loc u o => intro h; simp only [noLoc, Bool.and_eq_true, Bool.not_eq_true'] at h; simp [clearLoc, h.1, ih h.2]
    exact this sl hl
  simp only [e, h1] at h3
  exact TL.o1 rfl rfl hn h3 k
theorem t_storeL {T n : Nat} {x y : Operand} {t off : Nat} {cs new cs' : List M} {m : M} [hs : TySz X.P T n] (hx : evs sl x = some (.loc t off)) (hy : evs sl y = some (.m m)) (hb : get bx t = some cs) (hc : cellsO m = some new)
    (hl : Nat.beq new.length n = true) (hw : wr cs off new = some cs') (k : TL X ops rest ⟨sl, (t, cs') :: bx, H⟩ post) : TL X ops (⟨none, .store T x y, ty, pos, af, none⟩ :: rest) ⟨sl, bx, H⟩ post := by
  obtain ⟨h1, h2⟩ := cellsO_eq hc
  subst h1
  exact TL.op01 rfl rfl (op_storeL hx hy hb (Nat.eq_of_beq_eq_true hl) h2 (wr_eq hw)) k

/-- fewer slots are known -/
theorem Inv.weak {sl' : List (Nat × V)} {bx' : List (Nat × List M)} {a : Act} {w : World} (h : Inv X ⟨sl, bx, H⟩ a w) (hs : ∀ t v, get sl' t = some v → get sl t = some v)
    (hb : ∀ t, get bx' t = get bx t) : Inv X ⟨sl', bx', H⟩ a w := by
  obtain ⟨σ, lam, h1, hi⟩ := h
  refine ⟨σ, lam, h1, hi.hH, hi.defers, hi.size, fun t v h => hi.slot t v (hs t v h), fun t cs h => hi.box t cs (by rw [← hb]; exact h), fun t u cs ds h h' => hi.binj t u cs ds (by rw [← hb]; exact h) (by rw [← hb]; exact h'),
    fun t cs h => hi.bsep t cs (by rw [← hb]; exact h), fun t cs h => hi.bnew t cs (by rw [← hb]; exact h), ?_, hi.mono, hi.blk⟩
  have e : ∀ b o, Oof X.Oout lam bx' b o ↔ Oof X.Oout lam bx b o := by intro b o; simp [Oof, hb]
  exact ⟨hi.hinv.obj, hi.hinv.inj, fun b o => by rw [e]; exact hi.hinv.own b o, fun i ob h1 h2 o h3 => hi.hinv.sep i ob h1 h2 o ((e _ _).1 h3), fun b o h3 => hi.hinv.old b o ((e _ _).1 h3)⟩

/-- does a list of slots say no more than another one? -/
def keeps (sl : List (Nat × V)) : List (Nat × V) → Prop
  | [] => True
  | (t, v) :: r => get sl t = some v ∧ keeps sl r
theorem keeps_get {sl : List (Nat × V)} : ∀ {sl' : List (Nat × V)}, keeps sl sl' → ∀ t v, get sl' t = some v → get sl t = some v
  | [], _, t, v, h => by simp [get] at h
  | (k, u) :: r, hk, t, v, h => by
    rcases get_cons_eq h with ⟨rfl, rfl⟩ | ⟨h1, h2⟩
    · exact hk.1
    · exact keeps_get hk.2 t v h2

end rules
theorem TC.weak {X : Ctx} {c : Code} {sl sl' : List (Nat × V)} {bx : List (Nat × List M)} {H : Hp} {post : Exit → St → Prop} (h : TC X c ⟨sl', bx, H⟩ post) (hk : keeps sl sl') : TC X c ⟨sl, bx, H⟩ post :=
  fun a w hi => h a w (hi.weak (keeps_get hk) (fun _ => rfl))

/-- a loop, its head given as slots -/
theorem TC.loop' {X : Ctx} {c : Code} {st : St} {post : Exit → St → Prop} (I : Nat → St → Prop) (k0 : Nat) (s0 : St) (h0 : I k0 s0) (hw : ∀ a w, Inv X st a w → Inv X s0 a w)
    (round : ∀ k s, I k s → TC X c s (after post fun s' => ∃ k' s'', k' < k ∧ I k' s'' ∧ ∀ a w, Inv X s' a w → Inv X s'' a w)) : TC X (.loop c) st post := by
  intro a w hi
  have hi' := hw a w hi
  refine wp_loop_ghost (fun k a w => ∃ s, I k s ∧ Inv X s a w) k0 ⟨s0, h0, hi'⟩ ?_
  rintro k a w ⟨s, h1, h2⟩
  refine wp_mono (round k s h1 a w h2) ?_
  intro e a' w' ⟨s', h3, h4⟩
  cases e with
  | normal => obtain ⟨k', s'', h5, h6, h7⟩ := h3; exact ⟨k', h5, s'', h6, h7 _ _ h4⟩
  | _ => exact ⟨s', h3, h4⟩
end Go.Mt
