/- How many places of equations and blocks keep something. -/
import Derived.Test.YtcmjcdiaidalgaaSnA
set_option linter.unusedVariables false
set_option linter.unusedSimpArgs false
set_option linter.unusedSectionVars false
namespace Go.Mk
open Go.Mt
def Eqn.kd : Eqn → Int
  | .df _ _ => 1 | .call _ _ _ _ _ _ _ => 2 | .sw _ _ => 3 | .auto _ => 4 | .reset _ _ => 5
def Eqn.ex : Eqn → E
  | .df _ e => e | .call _ _ _ _ _ _ e => e | .sw e _ => e | .auto _ => .nil | .reset e _ => e
def Eqn.args : Eqn → List E
  | .call _ _ _ a b _ _ => [a, b] | _ => []
def Eqn.arms : Eqn → List Arm
  | .sw _ l => l | .auto l => l | .reset _ b => [.mk ⟨#[]⟩ b [] []] | _ => []
def Eqn.own : Eqn → Nat
  | .call _ _ _ _ _ _ _ => 1 | .auto _ => 1 | _ => 0
def Arm.blk : Arm → Blk
  | .mk _ b _ _ => b
def Blk.vars : Blk → List Va
  | .mk v _ => v
def Blk.eqs : Blk → List Eqn
  | .mk _ q => q
def lastN (l : List Va) : Nat := (l.filter (·.last)).length
mutual
def eqPl : Eqn → Nat
  | .df _ e => ePl e
  | .call _ _ _ a b _ e => ePl e + (ePl a + ePl b) + 1
  | .sw e arms => ePl e + armsPl arms
  | .auto arms => 1 + armsPl arms
  | .reset e b => ePl e + bPl b
def armPl : Arm → Nat
  | .mk _ b _ _ => bPl b
def armsPl : List Arm → Nat
  | [] => 0
  | a :: l => armPl a + armsPl l
def bPl : Blk → Nat
  | .mk vars eqs => lastN vars + eqsPl eqs
def eqsPl : List Eqn → Nat
  | [] => 0
  | q :: l => eqPl q + eqsPl l
end
theorem armsPl_eq (l : List Arm) : armsPl l = sumL (l.map armPl) := by induction l with
  | nil => rfl
  | cons a l ih => simp only [armsPl, ih, sumL, List.map_cons, List.foldr_cons]
theorem eqsPl_eq (l : List Eqn) : eqsPl l = sumL (l.map eqPl) := by induction l with
  | nil => rfl
  | cons a l ih => simp only [eqsPl, ih, sumL, List.map_cons, List.foldr_cons]
theorem bPl_eq (b : Blk) : bPl b = lastN b.vars + sumL (b.eqs.map eqPl) := by cases b; rw [bPl, eqsPl_eq]; rfl
theorem armPl_eq (a : Arm) : armPl a = bPl a.blk := by cases a; rw [armPl]; rfl
theorem eqPl_eq (q : Eqn) : eqPl q = ePl q.ex + sumL (q.args.map ePl) + q.own + sumL (q.arms.map armPl) := by
  cases q <;> rw [eqPl] <;> (try rw [armsPl_eq]) <;> simp [Eqn.ex, Eqn.args, Eqn.own, Eqn.arms, sumL, ePl, armPl_eq, Arm.blk] <;> omega
theorem Eqn.shape (q : Eqn) : ∃ lhs nm has, q.cells = eqC q.kd lhs nm (q.args.map E.cells) has q.ex.cells (armsC q.arms) := by
  cases q with
  | df x e => exact ⟨_, _, _, by rw [Eqn.cells]; rfl⟩
  | call x y f a b has e => exact ⟨_, _, _, by rw [Eqn.cells]; rfl⟩
  | sw e l => exact ⟨_, _, _, by rw [Eqn.cells]; rfl⟩
  | auto l => exact ⟨_, _, _, by rw [Eqn.cells]; rfl⟩
  | reset e b => exact ⟨_, _, _, by rw [Eqn.cells]; simp only [Eqn.arms, armsC, Arm.cells]; rfl⟩
theorem Eqn.own_kd (q : Eqn) : (q.kd = 2 ∧ q.own = 1) ∨ (q.kd = 4 ∧ q.own = 1) ∨ (q.kd ≠ 2 ∧ q.kd ≠ 4 ∧ q.own = 0) := by cases q <;> simp [Eqn.kd, Eqn.own]
theorem Eqn.args_len (q : Eqn) : q.args.length ≤ 2 := by cases q <;> simp [Eqn.args]
theorem lastN_snoc (l : List Va) (w : Va) : lastN (l ++ [w]) = lastN l + (if w.last then 1 else 0) := by
  unfold lastN
  rw [List.filter_append, List.length_append]
  congr 1
  cases h : w.last <;> simp [h]
theorem lastN_take (l : List Va) (i : Nat) : lastN (l.take i) ≤ lastN l := by
  have : lastN (l.take i) + lastN (l.drop i) = lastN l := by
    unfold lastN
    rw [← List.length_append, ← List.filter_append, List.take_append_drop]
  omega
theorem Arm.shape (a : Arm) : ∃ nm u w, a.cells = [.str nm] ++ a.blk.cells ++ [.sl u, .sl w, .int .i64 0, .int .i64 0] := by cases a; exact ⟨_, _, _, by rw [Arm.cells]; rfl⟩
theorem Blk.shape2 (b : Blk) : b.cells = [.sl (vasC b.vars), .sl (eqsC b.eqs)] := by cases b; rw [Blk.cells]; rfl
end Go.Mk
namespace Go.Proofs
open Go.Mt Go.Mk
set_option maxRecDepth 4000
set_option linter.unusedSimpArgs false
set_option linter.unusedVariables false

theorem sum_step {α : Type} (f : α → Nat) {l : List α} {i : Nat} (h : i < l.length) : sumL ((l.take (i + 1)).map f) = sumL ((l.take i).map f) + f l[i] ∧ sumL ((l.take (i + 1)).map f) ≤ sumL (l.map f) := by
  refine ⟨?_, ?_⟩
  · rw [List.take_succ_eq_append_getElem h, List.map_append, sumL_append]; simp [sumL]
  · have := sumL_take (l.map f) (i + 1); rw [← List.map_take] at this; exact this
/-- blocks that are not too great -/
inductive SmB : Blk → Prop where
  | mk {vars : List Va} {eqs : List Eqn} (h1 : vars.length ≤ 1000000) (h2 : eqs.length ≤ 1000000) (h3 : ∀ q ∈ eqs, ∀ a ∈ q.arms, SmB a.blk) (h4 : ∀ q ∈ eqs, q.arms.length ≤ 1000) : SmB (.mk vars eqs)
theorem eqP_of (q : Eqn) (hb : eqPl q ≤ 1000000000) (hal : q.arms.length ≤ 1000) (hA : ∀ a ∈ q.arms, PT Try.prog 54 [.agg a.blk.cells] (· = [.int .i64 ((bPl a.blk : Nat) : Int)])) : PT Try.prog 73 [.agg q.cells] (· = [.int .i64 ((eqPl q : Nat) : Int)]) := by
  have hpl := eqPl_eq q
  have hown := q.own_kd
  have hgl := q.args_len
  have hex := exprP_pt q.ex (by omega)
  have hargs : ∀ e ∈ q.args, PT Try.prog 105 [.agg e.cells] (· = [.int .i64 ((ePl e : Nat) : Int)]) := fun e he => exprP_pt e (by have := sumL_mem (List.mem_map_of_mem (f := ePl) he); omega)
  obtain ⟨lhs, nm, has, hsh⟩ := q.shape
  rw [hsh, hpl]
  rw [hpl] at hb
  generalize q.kd = kd at hown hsh ⊢
  generalize q.own = ow at hown hb ⊢
  generalize q.args = gs at hgl hargs hb hsh ⊢
  generalize q.arms = ar at hal hA hb hsh ⊢
  generalize q.ex = ex at hex hb hsh ⊢
  clear hpl
  obtain ⟨k0, op0, n0, s0', a0, b0, h0⟩ := ex.shape
  rw [h0] at hex hsh ⊢
  refine PT.of_CT (CT.of_body Try.func73 rfl Try.ntmps73 rfl fun s0 Oo => ?_)
  repeat refine TC.seq ?_
  refine TC.region ?_
  refine t_box rfl rfl ?_
  refine t_assign rfl rfl ?_
  refine TL.nil ?_
  repeat refine TC.seq ?_
  refine TC.region ?_
  refine t_fieldD rfl rfl ?_
  refine t_loadDa rfl rfl rfl ?_
  refine t_call1 hex rfl rfl ?_
  refine t_assign rfl rfl ?_
  refine TL.nil ?_
  repeat refine TC.seq ?_
  refine TC.region ?_
  refine t_fieldD rfl rfl ?_
  refine t_loadDc rfl rfl rfl ?_
  (refine t_lenS rfl rfl rfl ?_; rw [List.length_map])
  refine t_move rfl rfl ?_
  refine TL.nil ?_
  obtain ⟨QC, hQC⟩ : ∃ QC, QC = eqC kd lhs nm (gs.map E.cells) has (exC k0 op0 n0 s0' a0 b0) (armsC ar) := ⟨_, rfl⟩
  refine TC.rename [(14, .m (.d (.int .i64 ((0 : Nat) : Int)))), (13, .m (.d (.int .i64 ((gs.length : Nat) : Int)))), (12, .m (.d (.sl (gs.map E.cells)))), (3, .m (.d (.int .i64 ((ePl ex + sumL ((gs.take 0).map ePl) : Nat) : Int)))), (1, .m (.d (.pim QC 0)))] [] ⟨rfl, rfl, rfl, rfl, by rw [hQC]; rfl, trivial⟩ rfl ?_
  repeat refine TC.seq ?_
  refine TC.block ?_
  refine TC.loopB (fun k s => ∃ (i : Nat) (bx : List (Nat × List M)), s = ⟨[(14, .m (.d (.int .i64 ((i : Nat) : Int)))), (13, .m (.d (.int .i64 ((gs.length : Nat) : Int)))), (12, .m (.d (.sl (gs.map E.cells)))), (3, .m (.d (.int .i64 ((ePl ex + sumL ((gs.take i).map ePl) : Nat) : Int)))), (1, .m (.d (.pim QC 0)))], bx, []⟩ ∧ i ≤ gs.length ∧ k = gs.length - i) gs.length _
    ⟨0, _, rfl, by omega, rfl⟩ ⟨rfl, rfl, rfl, rfl, rfl, trivial⟩ ?_
  rintro k s ⟨i, bx, rfl, hi, rfl⟩
  repeat refine TC.seq ?_
  refine TC.region ?_
  refine t_int rfl rfl rfl rfl ?_
  refine TL.nil ?_
  repeat refine TC.seq ?_
  refine TC.cond rfl (fun hc => ?_) (fun hc => ?_)
  · have hc' : i < gs.length := by have := of_decide_eq_true hc; omega
    clear hc
    have hget : (gs.map E.cells)[((i : Nat) : Int).toNat]? = some gs[i].cells := by simp [hc']
    have hk := hargs _ (List.getElem_mem hc')
    obtain ⟨hsum, hle⟩ := sum_step ePl hc'
    generalize gs[i] = q at hget hk hsum
    obtain ⟨k1, op1, n1, s1, a1, b1, h1⟩ := q.shape
    rw [h1] at hget hk
    have hadd : ((ePl ex + sumL ((gs.take i).map ePl) : Nat) : Int) + ((ePl q : Nat) : Int) = ((ePl ex + sumL ((gs.take (i + 1)).map ePl) : Nat) : Int) := by omega
    refine TC.skip ?_
    repeat refine TC.seq ?_
    refine TC.block ?_
    repeat refine TC.seq ?_
    refine TC.region ?_
    refine t_indexD rfl rfl rfl (Int.natCast_nonneg i) hget rfl ?_
    refine t_loadDw rfl rfl rfl ?_
    refine t_alloc rfl rfl ?_
    refine t_storeL rfl rfl rfl rfl rfl rfl ?_
    refine TL.nil ?_
    repeat refine TC.seq ?_
    refine TC.region ?_
    refine t_move rfl rfl ?_
    refine t_loadLa rfl rfl rfl rfl rfl ?_
    refine t_call1 hk rfl rfl ?_
    (refine t_add64 rfl rfl rfl (by omega) ?_; rw [hadd])
    refine t_assign rfl rfl ?_
    refine TL.nil ?_
    repeat refine TC.seq ?_
    refine TC.region ?_
    refine t_add64 rfl rfl rfl (by omega) ?_
    refine t_move rfl rfl ?_
    refine TL.nil ?_
    exact again (k' := gs.length - (i + 1)) (by omega) ⟨i + 1, _, rfl, by omega, rfl⟩ rfl ⟨by simp; rfl, rfl, rfl, rfl, rfl, trivial⟩
  refine TC.exit ?_
  have hc' : i = gs.length := by have := of_decide_eq_false hc; omega
  subst hc'
  rw [List.take_length]
  obtain ⟨A, hA0⟩ : ∃ A, A = ePl ex + sumL (gs.map ePl) := ⟨_, rfl⟩
  rw [← hA0] at hb ⊢
  subst hQC
  repeat refine TC.seq ?_
  refine TC.mid3 ⟨[(3, .m (.d (.int .i64 ((A + ow : Nat) : Int)))), (1, .m (.d (.pim (eqC kd lhs nm (gs.map E.cells) has (exC k0 op0 n0 s0' a0 b0) (armsC ar)) 0)))], bx, []⟩ ?_ ?_
  · rcases hown with ⟨rfl, rfl⟩ | ⟨rfl, rfl⟩ | ⟨h1, h2, rfl⟩
    · repeat refine TC.seq ?_
      refine TC.region ?_
      refine t_fieldD rfl rfl ?_
      refine t_loadDc rfl rfl rfl ?_
      refine t_int rfl rfl rfl rfl ?_
      refine t_move rfl rfl ?_
      refine t_guard_no rfl rfl ?_
      refine t_guard_no rfl rfl ?_
      refine t_guard_no rfl rfl ?_
      refine t_pick rfl rfl rfl ?_
      refine TL.nil ?_
      refine TC.cond rfl (fun hc => ?_) (fun hc => by cases hc)
      repeat refine TC.seq ?_
      refine TC.region ?_
      refine t_move rfl rfl ?_
      refine t_add64 rfl rfl rfl (by omega) ?_
      refine t_assign rfl rfl ?_
      refine TL.nil ?_
      exact down rfl ⟨by simp; rfl, rfl, trivial⟩
    · repeat refine TC.seq ?_
      refine TC.region ?_
      refine t_fieldD rfl rfl ?_
      refine t_loadDc rfl rfl rfl ?_
      refine t_int rfl rfl rfl rfl ?_
      refine t_move rfl rfl ?_
      refine t_guard_yes rfl ?_; refine t_fieldD rfl rfl ?_
      refine t_guard_yes rfl ?_; refine t_loadDc rfl rfl rfl ?_
      refine t_guard_yes rfl ?_; refine t_int rfl rfl rfl rfl ?_
      refine t_pick rfl rfl rfl ?_
      refine TL.nil ?_
      refine TC.cond rfl (fun hc => ?_) (fun hc => by cases hc)
      repeat refine TC.seq ?_
      refine TC.region ?_
      refine t_move rfl rfl ?_
      refine t_add64 rfl rfl rfl (by omega) ?_
      refine t_assign rfl rfl ?_
      refine TL.nil ?_
      exact down rfl ⟨by simp; rfl, rfl, trivial⟩
    · have b1 : (kd == 2) = false := beq_eq_false_iff_ne.2 h1
      have b2 : (kd == 4) = false := beq_eq_false_iff_ne.2 h2
      repeat refine TC.seq ?_
      refine TC.region ?_
      refine t_fieldD rfl rfl ?_
      refine t_loadDc rfl rfl rfl ?_
      (refine t_int rfl rfl rfl (r := .bool false) (by show some (D.bool (kd == 2)) = _; rw [b1]) ?_)
      refine t_move rfl rfl ?_
      refine t_guard_yes rfl ?_; refine t_fieldD rfl rfl ?_
      refine t_guard_yes rfl ?_; refine t_loadDc rfl rfl rfl ?_
      refine t_guard_yes rfl ?_; refine t_int rfl rfl rfl (r := .bool false) (by show some (D.bool (kd == 4)) = _; rw [b2]) ?_
      refine t_pick rfl rfl rfl ?_
      refine TL.nil ?_
      refine TC.cond rfl (fun hc => by cases hc) (fun hc => ?_)
      refine TC.skip ?_
      exact down rfl ⟨rfl, rfl, trivial⟩
  have hale : (armsC ar).length = ar.length := by rw [armsC_map]; simp
  repeat refine TC.seq ?_
  refine TC.region ?_
  refine t_fieldD rfl rfl ?_
  refine t_loadDc rfl rfl rfl ?_
  (refine t_lenS rfl rfl rfl ?_; rw [hale])
  refine t_move rfl rfl ?_
  refine TL.nil ?_
  refine TC.rename [(36, .m (.d (.int .i64 ((0 : Nat) : Int)))), (35, .m (.d (.int .i64 ((ar.length : Nat) : Int)))), (34, .m (.d (.sl (armsC ar)))), (3, .m (.d (.int .i64 ((A + ow + sumL ((ar.take 0).map armPl) : Nat) : Int))))] [] ⟨rfl, rfl, rfl, rfl, trivial⟩ rfl ?_
  repeat refine TC.seq ?_
  refine TC.block ?_
  refine TC.loopB (fun k s => ∃ (i : Nat) (bx : List (Nat × List M)), s = ⟨[(36, .m (.d (.int .i64 ((i : Nat) : Int)))), (35, .m (.d (.int .i64 ((ar.length : Nat) : Int)))), (34, .m (.d (.sl (armsC ar)))), (3, .m (.d (.int .i64 ((A + ow + sumL ((ar.take i).map armPl) : Nat) : Int))))], bx, []⟩ ∧ i ≤ ar.length ∧ k = ar.length - i) ar.length _
    ⟨0, _, rfl, by omega, rfl⟩ ⟨rfl, rfl, rfl, rfl, trivial⟩ ?_
  rintro k s ⟨i, bx, rfl, hi, rfl⟩
  repeat refine TC.seq ?_
  refine TC.region ?_
  refine t_int rfl rfl rfl rfl ?_
  refine TL.nil ?_
  repeat refine TC.seq ?_
  refine TC.cond rfl (fun hc => ?_) (fun hc => ?_)
  · have hc' : i < ar.length := by have := of_decide_eq_true hc; omega
    clear hc
    have hget : (armsC ar)[((i : Nat) : Int).toNat]? = some ar[i].cells := by rw [armsC_map]; simp [hc']
    have hk := hA _ (List.getElem_mem hc')
    obtain ⟨hsum, hle⟩ := sum_step armPl hc'
    generalize ar[i] = q at hget hk hsum
    rw [armPl_eq] at hsum
    obtain ⟨an, au, aw, h1⟩ := q.shape
    rw [Blk.shape2] at h1 hk
    rw [h1] at hget
    have hadd : ((A + ow + sumL ((ar.take i).map armPl) : Nat) : Int) + ((bPl q.blk : Nat) : Int) = ((A + ow + sumL ((ar.take (i + 1)).map armPl) : Nat) : Int) := by omega
    refine TC.skip ?_
    repeat refine TC.seq ?_
    refine TC.block ?_
    repeat refine TC.seq ?_
    refine TC.region ?_
    refine t_indexD rfl rfl rfl (Int.natCast_nonneg i) hget rfl ?_
    refine t_loadDw rfl rfl rfl ?_
    refine t_alloc rfl rfl ?_
    refine t_storeL rfl rfl rfl rfl rfl rfl ?_
    refine TL.nil ?_
    repeat refine TC.seq ?_
    refine TC.region ?_
    refine t_move rfl rfl ?_
    refine t_fieldL rfl rfl ?_
    refine t_loadLa rfl rfl rfl rfl rfl ?_
    refine t_call1 hk rfl rfl ?_
    (refine t_add64 rfl rfl rfl (by omega) ?_; rw [hadd])
    refine t_assign rfl rfl ?_
    refine TL.nil ?_
    repeat refine TC.seq ?_
    refine TC.region ?_
    refine t_add64 rfl rfl rfl (by omega) ?_
    refine t_move rfl rfl ?_
    refine TL.nil ?_
    exact again (k' := ar.length - (i + 1)) (by omega) ⟨i + 1, _, rfl, by omega, rfl⟩ rfl ⟨by simp; rfl, rfl, rfl, rfl, trivial⟩
  · refine TC.exit ?_
    have hc' : i = ar.length := by have := of_decide_eq_false hc; omega
    subst hc'
    rw [List.take_length]
    repeat refine TC.seq ?_
    refine TC.region ?_
    refine t_move rfl rfl ?_
    refine t_assign rfl rfl ?_
    refine TL.nil ?_
    exact TC.ret ⟨_, rfl, [_], rfl, rfl⟩
theorem places_pt (b : Blk) (hs : SmB b) : bPl b ≤ 1000000000 → PT Try.prog 54 [.agg b.cells] (· = [.int .i64 ((bPl b : Nat) : Int)]) := by
  induction hs with
  | @mk vars eqs h1 h2 h3 h4 ih =>
    intro hb
    have hpl := bPl_eq (.mk vars eqs)
    simp only [Blk.vars, Blk.eqs] at hpl
    have hE : ∀ q ∈ eqs, PT Try.prog 73 [.agg q.cells] (· = [.int .i64 ((eqPl q : Nat) : Int)]) := fun q hq => by
      have hm := sumL_mem (List.mem_map_of_mem (f := eqPl) hq)
      refine eqP_of q (by omega) (h4 q hq) fun a ha => ih q hq a ha ?_
      have hm2 := sumL_mem (List.mem_map_of_mem (f := armPl) ha)
      have he := eqPl_eq q
      rw [armPl_eq] at hm2
      omega
    rw [hpl] at hb ⊢
    rw [Blk.cells]
    refine PT.of_CT (CT.of_body Try.func54 rfl Try.ntmps54 rfl fun s0 Oo => ?_)
    repeat refine TC.seq ?_
    refine TC.region ?_
    refine t_box rfl rfl ?_
    refine t_assign rfl rfl ?_
    refine TL.nil ?_
    repeat refine TC.seq ?_
    refine TC.region ?_
    refine t_assign rfl rfl ?_
    refine TL.nil ?_
    repeat refine TC.seq ?_
    refine TC.region ?_
    refine t_fieldD rfl rfl ?_
    refine t_loadDc rfl rfl rfl ?_
    (refine t_lenS rfl rfl rfl ?_; rw [vasC_len])
    refine t_move rfl rfl ?_
    refine TL.nil ?_
    refine TC.rename [(11, .m (.d (.int .i64 ((0 : Nat) : Int)))), (10, .m (.d (.int .i64 ((vars.length : Nat) : Int)))), (9, .m (.d (.sl (vasC vars)))), (3, .m (.d (.int .i64 ((lastN (vars.take 0) : Nat) : Int)))), (1, .m (.d (.pim [.sl (vasC vars), .sl (eqsC eqs)] 0)))] [] ⟨rfl, rfl, rfl, rfl, rfl, trivial⟩ rfl ?_
    repeat refine TC.seq ?_
    refine TC.block ?_
    refine TC.loopB (fun k s => ∃ (i : Nat) (bx : List (Nat × List M)), s = ⟨[(11, .m (.d (.int .i64 ((i : Nat) : Int)))), (10, .m (.d (.int .i64 ((vars.length : Nat) : Int)))), (9, .m (.d (.sl (vasC vars)))), (3, .m (.d (.int .i64 ((lastN (vars.take i) : Nat) : Int)))), (1, .m (.d (.pim [.sl (vasC vars), .sl (eqsC eqs)] 0)))], bx, []⟩ ∧ i ≤ vars.length ∧ k = vars.length - i) vars.length _
      ⟨0, _, rfl, by omega, rfl⟩ ⟨rfl, rfl, rfl, rfl, rfl, trivial⟩ ?_
    rintro k s ⟨i, bx, rfl, hi, rfl⟩
    repeat refine TC.seq ?_
    refine TC.region ?_
    refine t_int rfl rfl rfl rfl ?_
    refine TL.nil ?_
    repeat refine TC.seq ?_
    refine TC.cond rfl (fun hc => ?_) (fun hc => ?_)
    · have hc' : i < vars.length := by have := of_decide_eq_true hc; omega
      clear hc
      have hget := vasC_get hc'
      have htk : vars.take (i + 1) = vars.take i ++ [vars[i]] := List.take_succ_eq_append_getElem hc'
      have hle := lastN_take vars (i + 1)
      generalize vars[i] = w at hget htk
      have hsn := lastN_snoc (vars.take i) w
      rw [← htk] at hsn
      obtain ⟨x0, x1, x2, x3, x4, x5, x6, x7, hw, _⟩ := va_shape w
      rw [hw] at hget
      refine TC.skip ?_
      repeat refine TC.seq ?_
      refine TC.block ?_
      cases hlast : w.last with
      | true =>
        rw [hlast] at hget hsn
        simp only [if_true] at hsn
        have hadd : ((lastN (vars.take i) : Nat) : Int) + 1 = ((lastN (vars.take (i + 1)) : Nat) : Int) := by omega
        repeat refine TC.seq ?_
        refine TC.region ?_
        refine t_indexD rfl rfl rfl (Int.natCast_nonneg i) hget rfl ?_
        refine t_loadDw rfl rfl rfl ?_
        refine t_alloc rfl rfl ?_
        refine t_storeL rfl rfl rfl rfl rfl rfl ?_
        refine TL.nil ?_
        repeat refine TC.seq ?_
        refine TC.region ?_
        refine t_fieldL rfl rfl ?_
        refine t_loadLc rfl rfl rfl rfl ?_
        refine TL.nil ?_
        repeat refine TC.seq ?_
        refine TC.cond rfl (fun hc => ?_) (fun hc => by cases hc)
        repeat refine TC.seq ?_
        refine TC.region ?_
        refine t_move rfl rfl ?_
        (refine t_add64 rfl rfl rfl (by omega) ?_; rw [hadd])
        refine t_assign rfl rfl ?_
        refine TL.nil ?_
        repeat refine TC.seq ?_
        refine TC.region ?_
        refine t_add64 rfl rfl rfl (by omega) ?_
        refine t_move rfl rfl ?_
        refine TL.nil ?_
        exact again (k' := vars.length - (i + 1)) (by omega) ⟨i + 1, _, rfl, by omega, rfl⟩ rfl ⟨by simp; rfl, rfl, rfl, rfl, rfl, trivial⟩
      | false =>
        rw [hlast] at hget hsn
        simp only [Bool.false_eq_true, if_false, Nat.add_zero] at hsn
        repeat refine TC.seq ?_
        refine TC.region ?_
        refine t_indexD rfl rfl rfl (Int.natCast_nonneg i) hget rfl ?_
        refine t_loadDw rfl rfl rfl ?_
        refine t_alloc rfl rfl ?_
        refine t_storeL rfl rfl rfl rfl rfl rfl ?_
        refine TL.nil ?_
        repeat refine TC.seq ?_
        refine TC.region ?_
        refine t_fieldL rfl rfl ?_
        refine t_loadLc rfl rfl rfl rfl ?_
        refine TL.nil ?_
        repeat refine TC.seq ?_
        refine TC.cond rfl (fun hc => by cases hc) (fun hc => ?_)
        refine TC.skip ?_
        repeat refine TC.seq ?_
        refine TC.region ?_
        refine t_add64 rfl rfl rfl (by omega) ?_
        refine t_move rfl rfl ?_
        refine TL.nil ?_
        exact again (k' := vars.length - (i + 1)) (by omega) ⟨i + 1, _, rfl, by omega, rfl⟩ rfl ⟨by simp; rfl, rfl, rfl, by rw [hsn]; rfl, rfl, trivial⟩
    refine TC.exit ?_
    have hc' : i = vars.length := by have := of_decide_eq_false hc; omega
    subst hc'
    rw [List.take_length]
    have hqle : (eqsC eqs).length = eqs.length := by rw [eqsC_map]; simp
    repeat refine TC.seq ?_
    refine TC.region ?_
    refine t_fieldD rfl rfl ?_
    refine t_loadDc rfl rfl rfl ?_
    (refine t_lenS rfl rfl rfl ?_; rw [hqle])
    refine t_move rfl rfl ?_
    refine TL.nil ?_
    refine TC.rename [(23, .m (.d (.int .i64 ((0 : Nat) : Int)))), (22, .m (.d (.int .i64 ((eqs.length : Nat) : Int)))), (21, .m (.d (.sl (eqsC eqs)))), (3, .m (.d (.int .i64 ((lastN vars + sumL ((eqs.take 0).map eqPl) : Nat) : Int))))] [] ⟨rfl, rfl, rfl, rfl, trivial⟩ rfl ?_
    repeat refine TC.seq ?_
    refine TC.block ?_
    refine TC.loopB (fun k s => ∃ (i : Nat) (bx : List (Nat × List M)), s = ⟨[(23, .m (.d (.int .i64 ((i : Nat) : Int)))), (22, .m (.d (.int .i64 ((eqs.length : Nat) : Int)))), (21, .m (.d (.sl (eqsC eqs)))), (3, .m (.d (.int .i64 ((lastN vars + sumL ((eqs.take i).map eqPl) : Nat) : Int))))], bx, []⟩ ∧ i ≤ eqs.length ∧ k = eqs.length - i) eqs.length _
      ⟨0, _, rfl, by omega, rfl⟩ ⟨rfl, rfl, rfl, rfl, trivial⟩ ?_
    rintro k s ⟨i, bx, rfl, hi, rfl⟩
    repeat refine TC.seq ?_
    refine TC.region ?_
    refine t_int rfl rfl rfl rfl ?_
    refine TL.nil ?_
    repeat refine TC.seq ?_
    refine TC.cond rfl (fun hc => ?_) (fun hc => ?_)
    · have hc' : i < eqs.length := by have := of_decide_eq_true hc; omega
      clear hc
      have hget : (eqsC eqs)[((i : Nat) : Int).toNat]? = some eqs[i].cells := by rw [eqsC_map]; simp [hc']
      have hk := hE _ (List.getElem_mem hc')
      obtain ⟨hsum, hle⟩ := sum_step eqPl hc'
      generalize eqs[i] = q at hget hk hsum
      obtain ⟨a0, a1, a2, a3, a4, a5, a6, a7, a8, a9, b0, b1, b2, b3, b4, b5, hcs⟩ := list16 q.len
      rw [hcs] at hget hk
      have hadd : ((lastN vars + sumL ((eqs.take i).map eqPl) : Nat) : Int) + ((eqPl q : Nat) : Int) = ((lastN vars + sumL ((eqs.take (i + 1)).map eqPl) : Nat) : Int) := by omega
      refine TC.skip ?_
      repeat refine TC.seq ?_
      refine TC.block ?_
      repeat refine TC.seq ?_
      refine TC.region ?_
      refine t_indexD rfl rfl rfl (Int.natCast_nonneg i) hget rfl ?_
      refine t_loadDw rfl rfl rfl ?_
      refine t_alloc rfl rfl ?_
      refine t_storeL rfl rfl rfl rfl rfl rfl ?_
      refine TL.nil ?_
      repeat refine TC.seq ?_
      refine TC.region ?_
      refine t_move rfl rfl ?_
      refine t_loadLa rfl rfl rfl rfl rfl ?_
      refine t_call1 hk rfl rfl ?_
      (refine t_add64 rfl rfl rfl (by omega) ?_; rw [hadd])
      refine t_assign rfl rfl ?_
      refine TL.nil ?_
      repeat refine TC.seq ?_
      refine TC.region ?_
      refine t_add64 rfl rfl rfl (by omega) ?_
      refine t_move rfl rfl ?_
      refine TL.nil ?_
      exact again (k' := eqs.length - (i + 1)) (by omega) ⟨i + 1, _, rfl, by omega, rfl⟩ rfl ⟨by simp; rfl, rfl, rfl, rfl, trivial⟩
    · refine TC.exit ?_
      have hc' : i = eqs.length := by have := of_decide_eq_false hc; omega
      subst hc'
      rw [List.take_length]
      repeat refine TC.seq ?_
      refine TC.region ?_
      refine t_move rfl rfl ?_
      refine t_assign rfl rfl ?_
      refine TL.nil ?_
      exact TC.ret ⟨_, rfl, [_], rfl, rfl⟩
end Go.Proofs
