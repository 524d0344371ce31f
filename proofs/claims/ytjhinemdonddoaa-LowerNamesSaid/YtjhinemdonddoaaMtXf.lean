import Derived.Test.YtjhinemdonddoaaMtXe
set_option linter.unusedVariables false
namespace Go.Mt

theorem flat_writeRow {n : Nat} {rows : List (List D)} {i : Nat} {r : List D} (y : List D) (hl : ∀ r ∈ rows, r.length = n) (hi : rows[i]? = some r) (hy : y.length = n) : writeAt (flatM rows) (i * n) (y.map .d) = some (flatM (rows.set i y)) := by
  have hle := flat_le hl hi
  have hb : Nat.ble (i * n + (y.map M.d).length) (flatM rows).length = true := Nat.ble_eq_true_of_le (by simp; omega)
  rw [writeAt, hb, cond_true]
  congr 1
  clear hb hle
  induction rows generalizing i with
  | nil => simp at hi
  | cons q rs ih =>
    have hq : q.length = n := hl q (by simp)
    cases i with
    | zero =>
      have e : (y.map M.d).length = (q.map M.d).length := by simp [hy, hq]
      simp only [List.set_cons_zero, flatM_eq, List.flatten_cons, List.map_append, Nat.zero_mul, List.take_zero, List.nil_append, Nat.zero_add]
      rw [e, List.drop_left]
    | succ i =>
      simp at hi
      have := ih (fun r hr => hl r (List.mem_cons_of_mem _ hr)) hi
      have e : (i + 1) * n = (q.map M.d).length + i * n := by rw [List.length_map, hq, Nat.succ_mul]; omega
      simp only [List.set_cons_succ, flatM_eq, List.flatten_cons, List.map_append] at this ⊢
      rw [e, List.take_length_add_append, Nat.add_assoc, ← List.drop_drop, List.drop_left, List.append_assoc, List.append_assoc, ← this, List.append_assoc]

def app0M (H : Hp) (rows : List (List D)) : M := match rows with
  | [] => .d (.sl [])
  | _ :: r => .rsl H.length 0 (r.length + 1)
def app0H (H : Hp) (ec : Nat) (rows : List (List D)) : Hp := match rows with
  | [] => H
  | q :: r => H ++ [.row true ec 0 (flatM (q :: r))]
def app1H (H : Hp) (ec : Nat) (r1 r2 : List (List D)) : Hp := match r1, r2 with
  | [], [] => H
  | [], q :: r => H ++ [.row true ec 0 (flatM (q :: r))]
  | q :: r, r2 => H ++ [.row true ec 1 (flatM (q :: r) ++ flatM r2)]
theorem app0H_take (H : Hp) (ec : Nat) (r1 : List (List D)) : (app0H H ec r1).take H.length = H := by cases r1 <;> simp [app0H]
theorem app1H_take (H : Hp) (ec : Nat) (r1 r2 : List (List D)) : (app1H H ec r1 r2).take H.length = H := by cases r1 <;> cases r2 <;> simp [app1H]
theorem app1H_len (H : Hp) (ec : Nat) (r1 r2 : List (List D)) : H.length ≤ (app1H H ec r1 r2).length := by cases r1 <;> cases r2 <;> simp [app1H]

section walk
variable {X : Ctx} {ops : Array Oper} {rest : List Oper} {post : St → Prop} {sl : List (Nat × V)} {bx : List (Nat × List M)} {H : Hp} {d : Nat} {ty : Nat} {pos : String} {af : Array Edge}
/-- append to nothing -/
theorem t_app0 {T e n nb : Nat} {x y : Operand} {rows : List (List D)} {z : D} [ht : TySlice X.P T e] [hs : TySz X.P e n] [hb : TyB X.P e nb] [hz : TyZ X.P e z] (hn : Nat.blt d X.n = true) (hx : evs sl x = some (.m (.d (.sl [])))) (hy : evs sl y = some (.m (.d (.sl rows)))) (h0 : Nat.blt 0 n = true) (hzl : (dcells z).length = n)
    (hl : ∀ r ∈ rows, r.length = n) (hroom : rows.length * nb ≤ 140737488355328) (k : TL X ops rest ⟨(d, .m (app0M H rows)) :: sl, bx, app0H H n rows⟩ post) :
    TL X ops (⟨some d, .call ⟨.builtin .append, #[x, y], #[T, T]⟩, ty, pos, af, none⟩ :: rest) ⟨sl, bx, H⟩ post := by
  cases rows with
  | nil => exact t_append00 hn hx hy k
  | cons q r => exact t_append0 true hn hx hy h0 hzl (by simp) hl hroom k
/-- append to what was appended to nothing, read as data -/
theorem t_app1 {T e n nb : Nat} {x y : Operand} {r1 r2 : List (List D)} {z : D} [ht : TySlice X.P T e] [hs : TySz X.P e n] [hb : TyB X.P e nb] [hz : TyZ X.P e z] (hn : Nat.blt d X.n = true) (hx : evs sl x = some (.m (app0M H r1))) (hy : evs sl y = some (.m (.d (.sl r2)))) (h0 : Nat.blt 0 n = true) (hzl : (dcells z).length = n)
    (hl1 : ∀ r ∈ r1, r.length = n) (hl2 : ∀ r ∈ r2, r.length = n) (hroom : (r1.length + r2.length) * nb ≤ 140737488355328) (hmax : r1.length + r2.length ≤ 140737488355328) (k : TL X ops rest ⟨(d, .m (.d (.sl (r1 ++ r2)))) :: sl, bx, app1H H n r1 r2⟩ post) :
    TL X ops (⟨some d, .call ⟨.builtin .append, #[x, y], #[T, T]⟩, ty, pos, af, none⟩ :: rest) ⟨sl, bx, app0H H n r1⟩ post := by
  have drop2 : ∀ (u v : V) (H' : Hp), TL X ops rest ⟨(d, v) :: sl, bx, H'⟩ post → TL X ops rest ⟨(d, v) :: (d, u) :: sl, bx, H'⟩ post := by
    intro u v H' h a w hi
    refine h a w (hi.weak ?_ (fun _ => rfl))
    intro t x hx
    rw [get_cons] at hx ⊢
    by_cases e : d = t
    · rw [if_pos e] at hx ⊢; exact hx
    · rw [if_neg e] at hx ⊢; rw [get_cons, if_neg e]; exact hx
  cases r1 with
  | nil =>
    cases r2 with
    | nil => exact t_append00 hn hx hy k
    | cons q r =>
      refine t_append0 true hn hx hy h0 hzl (by simp) hl2 (by simpa using hroom) ?_
      refine TL.viewSlot d (by rw [get_cons, if_pos rfl]; rfl) (Acc.view (n := n) (i := H.length) (rs := q :: r) (.inr ⟨by simp, 0, rfl, by simp [app0H]⟩) hl2) ?_
      exact drop2 _ _ _ k
  | cons q r =>
    refine t_appendR (acc := true) (cs := flatM (q :: r)) hn hx hy (by simp [app0H]) hzl hl2 hroom hmax ?_
    have e : (app0H H n (q :: r)).set H.length (.row true n (0 + 1) (flatM (q :: r) ++ flatM r2)) = app1H H n (q :: r) r2 := by simp [app0H, app1H]
    rw [e]
    refine TL.viewSlot d (by rw [get_cons, if_pos rfl]) (Acc.view (n := n) (i := H.length) (rs := q :: r ++ r2) (.inr ⟨by simp, 1, by simp; omega, by simp [app1H, flatM]⟩) (by
      intro r' hr'
      rcases List.mem_append.1 hr' with h | h
      · exact hl1 r' h
      · exact hl2 r' h)) ?_
    exact drop2 _ _ _ k
end walk

theorem get_mem {α : Type} : ∀ {l : List (Nat × α)} {t : Nat} {v : α}, get l t = some v → (t, v) ∈ l
  | [], t, v, h => by simp [get] at h
  | (k, x) :: r, t, v, h => by
    rw [get_cons] at h
    by_cases e : k = t
    · rw [if_pos e] at h; injection h with h; subst h; subst e; simp
    · rw [if_neg e] at h; exact List.mem_cons_of_mem _ (get_mem h)
/-- objects that nothing needs are forgotten -/
theorem TC.trimB {X : Ctx} {c : Code} {q : Exit → St → Prop} {sl sl' : List (Nat × V)} {bx : List (Nat × List M)} {H H' : Hp} (n : Nat) (hb : X.s0.H.length ≤ n) (hn : n ≤ H.length) (hT : H.take n = H') (hH : HB n H') (hs : keepsB n sl sl') (hbx : (bx.all fun p => mbbs n p.2) = true)
    (k : TC X c ⟨sl', bx, H'⟩ q) : TC X c ⟨sl, bx, H⟩ q :=
  fun a w hi => k a w (by subst hT; exact hi.trim n hb hn (keepsB_get hs) (by intro t cs h; exact ⟨h, mbbs_ok (List.all_eq_true.1 hbx _ (get_mem h))⟩) hH)
end Go.Mt
