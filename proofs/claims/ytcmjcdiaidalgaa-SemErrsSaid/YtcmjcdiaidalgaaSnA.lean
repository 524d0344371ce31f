/- How many places of an expression, an equation, a block keep something. -/
import Derived.Test.YtcmjcdiaidalgaaMkQ
set_option linter.unusedVariables false
set_option linter.unusedSimpArgs false
set_option linter.unusedSectionVars false
namespace Go.Mt
theorem TC.mid3 {X : Ctx} {st : St} {post : Exit → St → Prop} {x y z : Code} (st' : St) (ha : TC X x st (after (after post fun s => ∀ a w, Inv X s a w → Inv X st' a w) fun s => TC X y s (after post fun s => ∀ a w, Inv X s a w → Inv X st' a w))) (hb : TC X z st' post) :
    TC X x st (after (after post fun s => TC X z s post) fun s => TC X y s (after post fun s => TC X z s post)) :=
  ha.mono fun e s h => by
    cases e with
    | normal => exact TC.mid st' h hb
    | _ => exact h
end Go.Mt
namespace Go.Mk
open Go.Mt
def E.kids : E → List E
  | .un _ a => [a] | .bin _ a b => [a, b] | .ite a b c => [a, b, c] | .fby a b => [a, b] | .pre a => [a] | .arrow a b => [a, b] | .whn _ _ a => [a] | .merge _ _ _ _ a b c => [a, b, c] | _ => []
def E.kd : E → Int
  | .nil => 0 | .int _ => 1 | .bool _ => 2 | .ctor _ => 3 | .var _ => 4 | .last _ => 5 | .un _ _ => 6 | .bin _ _ _ => 7 | .ite _ _ _ => 8 | .fby _ _ => 9 | .pre _ => 10 | .arrow _ _ => 11 | .whn _ _ _ => 12 | .merge _ _ _ _ _ _ _ => 13
def E.own : E → Nat
  | .fby _ _ => 1 | .pre _ => 1 | .arrow _ _ => 1 | _ => 0
def ePl : E → Nat
  | .un _ a => ePl a | .bin _ a b => ePl a + ePl b | .ite a b c => ePl a + ePl b + ePl c | .fby a b => 1 + ePl a + ePl b | .pre a => 1 + ePl a | .arrow a b => 1 + ePl a + ePl b | .whn _ _ a => ePl a | .merge _ _ _ _ a b c => ePl a + ePl b + ePl c | _ => 0
def sumL (l : List Nat) : Nat := l.foldr (· + ·) 0
theorem sumL_append (a b : List Nat) : sumL (a ++ b) = sumL a + sumL b := by
  induction a with
  | nil => simp [sumL]
  | cons x a ih => simp only [sumL, List.cons_append, List.foldr_cons] at ih ⊢; omega
theorem sumL_mem {l : List Nat} {x : Nat} (h : x ∈ l) : x ≤ sumL l := by
  induction l with
  | nil => cases h
  | cons a l ih =>
    simp only [sumL, List.foldr_cons]
    rcases List.mem_cons.1 h with rfl | h
    · omega
    · have := ih h; simp only [sumL] at this; omega
theorem sumL_take (l : List Nat) (i : Nat) : sumL (l.take i) ≤ sumL l := by
  have := sumL_append (l.take i) (l.drop i)
  rw [List.take_append_drop] at this
  omega
theorem ePl_eq (e : E) : ePl e = e.own + sumL (e.kids.map ePl) := by cases e <;> simp [ePl, E.own, E.kids, sumL] <;> omega
theorem E.shape2 (e : E) : ∃ op n s names, e.cells = exC e.kd op n s names (e.kids.map E.cells) := by cases e <;> exact ⟨_, _, _, _, rfl⟩
theorem E.kids_lt {e k : E} (h : k ∈ e.kids) : SizeOf.sizeOf k < SizeOf.sizeOf e := by
  cases e <;> simp [E.kids] at h <;> (try (rcases h with rfl | rfl | rfl)) <;> (try (rcases h with rfl | rfl)) <;> (try subst h) <;> simp <;> omega
theorem own_kd (e : E) : (e.kd = 9 ∧ e.own = 1) ∨ (e.kd = 10 ∧ e.own = 1) ∨ (e.kd = 11 ∧ e.own = 1) ∨ (e.kd ≠ 9 ∧ e.kd ≠ 10 ∧ e.kd ≠ 11 ∧ e.own = 0) := by cases e <;> simp [E.kd, E.own]
end Go.Mk
namespace Go.Proofs
open Go.Mt Go.Mk
set_option maxRecDepth 4000
set_option linter.unusedSimpArgs false
set_option linter.unusedVariables false

instance : IsFn Try.prog 105 := isFn_of (by kernel_rfl)
instance : IsFn Try.prog 73 := isFn_of (by kernel_rfl)
instance : IsFn Try.prog 54 := isFn_of (by kernel_rfl)
theorem exprP_pt (e : E) (hb : ePl e ≤ 1000000000) : PT Try.prog 105 [.agg e.cells] (· = [.int .i64 ((ePl e : Nat) : Int)]) := by
  have hpl := ePl_eq e
  have ih : ∀ k ∈ e.kids, PT Try.prog 105 [.agg k.cells] (· = [.int .i64 ((ePl k : Nat) : Int)]) := fun k hk =>
    have := E.kids_lt hk
    exprP_pt k (by have := sumL_mem (List.mem_map_of_mem (f := ePl) hk); omega)
  obtain ⟨op, n, s, names, hsh⟩ := e.shape2
  have hok := own_kd e
  rw [hsh, hpl]
  rw [hpl] at hb
  have hkl : e.kids.length ≤ 3 := by cases e <;> simp [E.kids]
  generalize e.kids = ks at ih hb hpl hsh hkl ⊢
  generalize e.own = ow at hok hb ⊢
  generalize e.kd = kd at hok hsh ⊢
  refine PT.of_CT (CT.of_body Try.func105 rfl Try.ntmps105 rfl fun s0 Oo => ?_)
  repeat refine TC.seq ?_
  refine TC.region ?_
  refine t_box rfl rfl ?_
  refine t_assign rfl rfl ?_
  refine TL.nil ?_
  repeat refine TC.seq ?_
  refine TC.region ?_
  refine t_assign rfl rfl ?_
  refine TL.nil ?_
  repeat refine TC.seq ?_
  refine TC.mid3 ⟨[(3, .m (.d (.int .i64 ((ow : Nat) : Int)))), (1, .m (.d (.pim (exC kd op n s names (ks.map E.cells)) 0)))], [], []⟩ ?_ ?_
  · rcases hok with ⟨rfl, rfl⟩ | ⟨rfl, rfl⟩ | ⟨rfl, rfl⟩ | ⟨h1, h2, h3, rfl⟩
    · repeat refine TC.seq ?_
      refine TC.region ?_
      refine t_fieldD rfl rfl ?_
      refine t_loadDc rfl rfl rfl ?_
      refine t_int rfl rfl rfl rfl ?_
      refine t_move rfl rfl ?_
      refine t_guard_no rfl rfl ?_
      refine t_guard_no rfl rfl ?_
      refine t_guard_no rfl rfl ?_
      refine t_pick rfl rfl rfl ?_
      refine t_move rfl rfl ?_
      refine t_guard_no rfl rfl ?_
      refine t_guard_no rfl rfl ?_
      refine t_guard_no rfl rfl ?_
      refine t_pick rfl rfl rfl ?_
      refine TL.nil ?_
      refine TC.cond rfl (fun hc => ?_) (fun hc => by cases hc)
      repeat refine TC.seq ?_
      refine TC.region ?_
      refine t_move rfl rfl ?_
      refine t_add64 rfl rfl rfl (by omega) ?_
      refine t_assign rfl rfl ?_
      refine TL.nil ?_
      exact down rfl ⟨rfl, rfl, trivial⟩
    · repeat refine TC.seq ?_
      refine TC.region ?_
      refine t_fieldD rfl rfl ?_
      refine t_loadDc rfl rfl rfl ?_
      refine t_int rfl rfl rfl rfl ?_
      refine t_move rfl rfl ?_
      refine t_guard_yes rfl ?_; refine t_fieldD rfl rfl ?_
      refine t_guard_yes rfl ?_; refine t_loadDc rfl rfl rfl ?_
      refine t_guard_yes rfl ?_; refine t_int rfl rfl rfl rfl ?_
      refine t_pick rfl rfl rfl ?_
      refine t_move rfl rfl ?_
      refine t_guard_no rfl rfl ?_
      refine t_guard_no rfl rfl ?_
      refine t_guard_no rfl rfl ?_
      refine t_pick rfl rfl rfl ?_
      refine TL.nil ?_
      refine TC.cond rfl (fun hc => ?_) (fun hc => by cases hc)
      repeat refine TC.seq ?_
      refine TC.region ?_
      refine t_move rfl rfl ?_
      refine t_add64 rfl rfl rfl (by omega) ?_
      refine t_assign rfl rfl ?_
      refine TL.nil ?_
      exact down rfl ⟨rfl, rfl, trivial⟩
    · repeat refine TC.seq ?_
      refine TC.region ?_
      refine t_fieldD rfl rfl ?_
      refine t_loadDc rfl rfl rfl ?_
      refine t_int rfl rfl rfl rfl ?_
      refine t_move rfl rfl ?_
      refine t_guard_yes rfl ?_; refine t_fieldD rfl rfl ?_
      refine t_guard_yes rfl ?_; refine t_loadDc rfl rfl rfl ?_
      refine t_guard_yes rfl ?_; refine t_int rfl rfl rfl rfl ?_
      refine t_pick rfl rfl rfl ?_
      refine t_move rfl rfl ?_
      refine t_guard_yes rfl ?_; refine t_fieldD rfl rfl ?_
      refine t_guard_yes rfl ?_; refine t_loadDc rfl rfl rfl ?_
      refine t_guard_yes rfl ?_; refine t_int rfl rfl rfl rfl ?_
      refine t_pick rfl rfl rfl ?_
      refine TL.nil ?_
      refine TC.cond rfl (fun hc => ?_) (fun hc => by cases hc)
      repeat refine TC.seq ?_
      refine TC.region ?_
      refine t_move rfl rfl ?_
      refine t_add64 rfl rfl rfl (by omega) ?_
      refine t_assign rfl rfl ?_
      refine TL.nil ?_
      exact down rfl ⟨rfl, rfl, trivial⟩
    · have b1 : (kd == 9) = false := beq_eq_false_iff_ne.2 h1
      have b2 : (kd == 10) = false := beq_eq_false_iff_ne.2 h2
      have b3 : (kd == 11) = false := beq_eq_false_iff_ne.2 h3
      repeat refine TC.seq ?_
      refine TC.region ?_
      refine t_fieldD rfl rfl ?_
      refine t_loadDc rfl rfl rfl ?_
      (refine t_int rfl rfl rfl (r := .bool false) (by show some (D.bool (kd == 9)) = _; rw [b1]) ?_)
      refine t_move rfl rfl ?_
      refine t_guard_yes rfl ?_; refine t_fieldD rfl rfl ?_
      refine t_guard_yes rfl ?_; refine t_loadDc rfl rfl rfl ?_
      refine t_guard_yes rfl ?_; refine t_int rfl rfl rfl (r := .bool false) (by show some (D.bool (kd == 10)) = _; rw [b2]) ?_
      refine t_pick rfl rfl rfl ?_
      refine t_move rfl rfl ?_
      refine t_guard_yes rfl ?_; refine t_fieldD rfl rfl ?_
      refine t_guard_yes rfl ?_; refine t_loadDc rfl rfl rfl ?_
      refine t_guard_yes rfl ?_; refine t_int rfl rfl rfl (r := .bool false) (by show some (D.bool (kd == 11)) = _; rw [b3]) ?_
      refine t_pick rfl rfl rfl ?_
      refine TL.nil ?_
      refine TC.cond rfl (fun hc => by cases hc) (fun hc => ?_)
      refine TC.skip ?_
      exact down rfl ⟨rfl, rfl, trivial⟩
  repeat refine TC.seq ?_
  refine TC.region ?_
  refine t_fieldD rfl rfl ?_
  refine t_loadDc rfl rfl rfl ?_
  (refine t_lenS rfl rfl rfl ?_; rw [List.length_map])
  refine t_move rfl rfl ?_
  refine TL.nil ?_
  refine TC.rename [(24, .m (.d (.int .i64 ((0 : Nat) : Int)))), (23, .m (.d (.int .i64 ((ks.length : Nat) : Int)))), (22, .m (.d (.sl (ks.map E.cells)))), (3, .m (.d (.int .i64 ((ow + sumL ((ks.take 0).map ePl) : Nat) : Int))))] [] ⟨rfl, rfl, rfl, rfl, trivial⟩ rfl ?_
  repeat refine TC.seq ?_
  refine TC.block ?_
  refine TC.loopB (fun k s => ∃ (i : Nat) (bx : List (Nat × List M)), s = ⟨[(24, .m (.d (.int .i64 ((i : Nat) : Int)))), (23, .m (.d (.int .i64 ((ks.length : Nat) : Int)))), (22, .m (.d (.sl (ks.map E.cells)))), (3, .m (.d (.int .i64 ((ow + sumL ((ks.take i).map ePl) : Nat) : Int))))], bx, []⟩ ∧ i ≤ ks.length ∧ k = ks.length - i) ks.length _
    ⟨0, _, rfl, by omega, rfl⟩ ⟨rfl, rfl, rfl, rfl, trivial⟩ ?_
  rintro k s ⟨i, bx, rfl, hi, rfl⟩
  repeat refine TC.seq ?_
  refine TC.region ?_
  refine t_int rfl rfl rfl rfl ?_
  refine TL.nil ?_
  repeat refine TC.seq ?_
  refine TC.cond rfl (fun hc => ?_) (fun hc => ?_)
  · have hc' : i < ks.length := by have := of_decide_eq_true hc; omega
    clear hc
    have hget : (ks.map E.cells)[((i : Nat) : Int).toNat]? = some ks[i].cells := by simp [hc']
    have hk := ih _ (List.getElem_mem hc')
    have htk : ks.take (i + 1) = ks.take i ++ [ks[i]] := List.take_succ_eq_append_getElem hc'
    have hsum : sumL ((ks.take (i + 1)).map ePl) = sumL ((ks.take i).map ePl) + ePl ks[i] := by rw [htk, List.map_append, sumL_append]; simp [sumL]
    have hle : sumL ((ks.take (i + 1)).map ePl) ≤ sumL (ks.map ePl) := by have := sumL_take (ks.map ePl) (i + 1); rw [← List.map_take] at this; exact this
    generalize ks[i] = q at hget hk hsum
    obtain ⟨k1, op1, n1, s1, a1, b1, h1⟩ := q.shape
    rw [h1] at hget hk
    have hadd : ((ow + sumL ((ks.take i).map ePl) : Nat) : Int) + ((ePl q : Nat) : Int) = ((ow + sumL ((ks.take (i + 1)).map ePl) : Nat) : Int) := by omega
    refine TC.skip ?_
    repeat refine TC.seq ?_
    refine TC.block ?_
    repeat refine TC.seq ?_
    refine TC.region ?_
    refine t_indexD rfl rfl rfl (Int.natCast_nonneg i) hget rfl ?_
    refine t_loadDw rfl rfl rfl ?_
    refine t_alloc rfl rfl ?_
    refine t_storeL rfl rfl rfl rfl rfl rfl ?_
    refine TL.nil ?_
    repeat refine TC.seq ?_
    refine TC.region ?_
    refine t_move rfl rfl ?_
    refine t_loadLa rfl rfl rfl rfl rfl ?_
    refine t_call1 hk rfl rfl ?_
    (refine t_add64 rfl rfl rfl (by omega) ?_; rw [hadd])
    refine t_assign rfl rfl ?_
    refine TL.nil ?_
    repeat refine TC.seq ?_
    refine TC.region ?_
    refine t_add64 rfl rfl rfl (by omega) ?_
    refine t_move rfl rfl ?_
    refine TL.nil ?_
    exact again (k' := ks.length - (i + 1)) (by omega) ⟨i + 1, _, rfl, by omega, rfl⟩ rfl ⟨by simp; rfl, rfl, rfl, rfl, trivial⟩
  · refine TC.exit ?_
    have hc' : i = ks.length := by have := of_decide_eq_false hc; omega
    subst hc'
    rw [List.take_length]
    repeat refine TC.seq ?_
    refine TC.region ?_
    refine t_move rfl rfl ?_
    refine t_assign rfl rfl ?_
    refine TL.nil ?_
    exact TC.ret ⟨_, rfl, [_], rfl, rfl⟩
termination_by SizeOf.sizeOf e
end Go.Proofs
