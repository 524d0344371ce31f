/- Made programs are small, and their firsts are constants. -/
import Derived.Test.YtcmjcdiaidalgaaSnG
set_option linter.unusedVariables false
set_option linter.unusedSimpArgs false
set_option linter.unusedSectionVars false
namespace Go.Mk
open Go.Mt
set_option linter.unusedSimpArgs false
set_option linter.unusedVariables false

theorem gc_pl {t : Ty} {e : E} (h : GC t e) : WE e ∧ ePl e = 0 := by cases h <;> simp [WE, ePl]
theorem gv_pl {l : List Va} {t : Ty} {e : E} (h : GV l t e) : WE e ∧ ePl e = 0 := by
  cases h with
  | con h => exact gc_pl h
  | var h => simp [WE, ePl]
theorem pow3 (d : Nat) : 1 ≤ 3 ^ d := Nat.one_le_pow _ _ (by decide)
theorem ge_pl {s : Sc} {t : Ty} {st : Bool} {d : Nat} {e : E} (h : GE s t st d e) : WE e ∧ ePl e + 1 ≤ 3 ^ d := by
  induction h with
  | @v s t st d e h => exact ⟨(gv_pl h).1, by rw [(gv_pl h).2]; exact pow3 d⟩
  | @c s t st d e h => exact ⟨(gc_pl h).1, by rw [(gc_pl h).2]; exact pow3 _⟩
  | @ite s t st d c a b hc ha hb ihc iha ihb => have := pow3 d; exact ⟨⟨ihc.1, iha.1, ihb.1⟩, by simp only [ePl, Nat.pow_succ]; omega⟩
  | @fby s t d c a hc ha iha => have := pow3 d; have hcp := gc_pl hc; exact ⟨⟨⟨_, hc⟩, hcp.1, iha.1⟩, by simp only [ePl, Nat.pow_succ]; omega⟩
  | @arrow s t d a b ha hb iha ihb => have := pow3 d; exact ⟨⟨iha.1, ihb.1⟩, by simp only [ePl, Nat.pow_succ]; omega⟩
  | @last s t st d x h => have := pow3 d; exact ⟨trivial, by simp only [ePl, Nat.pow_succ]; omega⟩
  | @neg s st d a ha iha => have := pow3 d; exact ⟨iha.1, by simp only [ePl, Nat.pow_succ]; omega⟩
  | @arith s st d a b op ho ha hb iha ihb => have := pow3 d; exact ⟨⟨iha.1, ihb.1⟩, by simp only [ePl, Nat.pow_succ]; omega⟩
  | @not s st d a ha iha => have := pow3 d; exact ⟨iha.1, by simp only [ePl, Nat.pow_succ]; omega⟩
  | @logic s st d a b op u ho ha hb iha ihb => have := pow3 d; exact ⟨⟨iha.1, ihb.1⟩, by simp only [ePl, Nat.pow_succ]; omega⟩
/-- equations whose firsts are constants -/
def WQ (q : Eqn) : Prop := (WE q.ex ∧ (∀ e ∈ q.args, WE e) ∧ q.arms.length ≤ 1000) ∧ ∀ a ∈ q.arms, WB a.blk
section
variable {Sub : Sc → List Va → Nat → Nat → Blk → Prop} {cb : Nat}
/-- what is known of blocks within -/
def SubOk (Sub : Sc → List Va → Nat → Nat → Blk → Prop) (cb : Nat) : Prop := ∀ s (l : List Va) n1 n2 b, l.length ≤ 3 → Sub s l n1 n2 b → n1 ≤ n2 ∧ (n2 ≤ 3000 → WB b) ∧ bPl b + 100 * n1 ≤ cb + 100 * n2
theorem garms_ok (hS : SubOk Sub cb) {s : Sc} {outs : List Va} {names : List Nm} {n n' : Nat} {arms : List Arm} (h : GArms Sub s outs names n arms n') (ho : outs.length ≤ 3) :
    n ≤ n' ∧ (n' ≤ 3000 → ∀ a ∈ arms, WB a.blk) ∧ sumL (arms.map armPl) + 100 * n ≤ arms.length * cb + 100 * n' := by
  induction h with
  | nil => exact ⟨Nat.le_refl _, fun _ a h => by simp at h, by simp [sumL]⟩
  | @snoc arms n1 n2 h c hn l hl h0 b hb ih =>
    obtain ⟨i1, i2, i3⟩ := ih
    obtain ⟨j1, j2, j3⟩ := hS _ _ _ _ _ (Nat.le_trans hl.len ho) hb
    refine ⟨by omega, fun hn a ha => ?_, ?_⟩
    · rcases List.mem_append.1 ha with ha | ha
      · exact i2 (by omega) a ha
      · simp at ha; subst ha; exact j2 hn
    · rw [List.map_append, sumL_append, List.length_append, Nat.add_mul]
      simp only [List.map_cons, List.map_nil, sumL, List.foldr_cons, List.foldr_nil, List.length_singleton, armPl, Nat.one_mul]
      simp only [sumL] at i3
      omega
theorem gsts_ok (hS : SubOk Sub cb) {s : Sc} {outs : List Va} {N n n' : Nat} {arms : List Arm} (h : GSts Sub s outs N n arms n') (ho : outs.length ≤ 3) :
    n ≤ n' ∧ (n' ≤ 3000 → ∀ a ∈ arms, WB a.blk) ∧ sumL (arms.map armPl) + 100 * n ≤ arms.length * cb + 100 * n' := by
  induction h with
  | nil => exact ⟨Nat.le_refl _, fun _ a h => by simp at h, by simp [sumL]⟩
  | @snoc arms n1 n2 h l hl h0 unl hu b hb unt hw ih =>
    obtain ⟨i1, i2, i3⟩ := ih
    obtain ⟨j1, j2, j3⟩ := hS _ _ _ _ _ (Nat.le_trans hl.len ho) hb
    refine ⟨by omega, fun hn a ha => ?_, ?_⟩
    · rcases List.mem_append.1 ha with ha | ha
      · exact i2 (by omega) a ha
      · simp at ha; subst ha; exact j2 hn
    · rw [List.map_append, sumL_append, List.length_append, Nat.add_mul]
      simp only [List.map_cons, List.map_nil, sumL, List.foldr_cons, List.foldr_nil, List.length_singleton, armPl, Nat.one_mul]
      simp only [sumL] at i3
      omega
theorem defs_ok {s : Sc} {outs : List Va} {q : List Eqn} (h : Defs s outs q) : (∀ e ∈ q, WQ e) ∧ q.length = outs.length ∧ sumL (q.map eqPl) ≤ 26 * outs.length := by
  induction h with
  | nil => exact ⟨fun e h => by simp at h, rfl, by simp [sumL]⟩
  | @snoc l q h w e he ih =>
    obtain ⟨i1, i2, i3⟩ := ih
    have hp := ge_pl he
    refine ⟨fun x hx => ?_, by simp [i2], ?_⟩
    · rcases List.mem_append.1 hx with hx | hx
      · exact i1 x hx
      · simp at hx; subst hx
        exact ⟨⟨hp.1, by simp [Eqn.args], by simp [Eqn.arms]⟩, by simp [Eqn.arms]⟩
    · rw [List.map_append, sumL_append, List.length_append]
      simp only [List.map_cons, List.map_nil, sumL, List.foldr_cons, List.foldr_nil, List.length_singleton, eqPl]
      simp only [sumL] at i3
      have := hp.2
      omega
structure QOk (c n n' : Nat) (q : List Eqn) (vs : List Va) : Prop where
  le : n ≤ n'
  w : n' ≤ 3000 → ∀ e ∈ q, WQ e
  v : ∀ v ∈ vs, v.last = false
  len : q.length + vs.length + 10 * n ≤ 10 + 10 * n'
  pl : sumL (q.map eqPl) + 100 * n ≤ c + 100 * n'
theorem sumL_one (x : Nat) : sumL [x] = x := by simp [sumL]
theorem sumL_cons (x : Nat) (l : List Nat) : sumL (x :: l) = x + sumL l := rfl
theorem gq_ok (hS : SubOk Sub cb) {subs : Nat} {s : Sc} {outs : List Va} {n n' : Nat} {q : List Eqn} {vs : List Va} (h : GQ Sub subs s outs n n' q vs) (ho : outs.length ≤ 3) : QOk (3 * cb + 100) n n' q vs := by
  induction h with
  | @defs s outs n q h =>
    obtain ⟨h1, h2, h3⟩ := defs_ok h
    exact ⟨Nat.le_refl _, fun _ => h1, by simp, by simp; omega, by omega⟩
  | @swCol s outs n n' e arms he ha hl =>
    have hp := ge_pl he
    obtain ⟨h1, h2, h3⟩ := garms_ok hS ha ho
    rw [hl] at h3
    exact ⟨h1, fun hn x hx => by simp at hx; subst hx; exact ⟨⟨hp.1, by simp [Eqn.args], by simp [Eqn.arms, hl]⟩, h2 hn⟩, by simp, by simp; omega, by simp only [List.map_cons, List.map_nil, sumL_one, eqPl, armsPl_eq]; have := hp.2; omega⟩
  | @swBool s outs n n' e arms he ha hl =>
    have hp := ge_pl he
    obtain ⟨h1, h2, h3⟩ := garms_ok hS ha ho
    rw [hl] at h3
    exact ⟨h1, fun hn x hx => by simp at hx; subst hx; exact ⟨⟨hp.1, by simp [Eqn.args], by simp [Eqn.arms, hl]⟩, h2 hn⟩, by simp, by simp; omega, by simp only [List.map_cons, List.map_nil, sumL_one, eqPl, armsPl_eq]; have := hp.2; omega⟩
  | @auto s outs n n' arms N hN ha hl =>
    obtain ⟨h1, h2, h3⟩ := gsts_ok hS ha ho
    have h4 : arms.length * cb ≤ 3 * cb := Nat.mul_le_mul_right _ (by omega)
    exact ⟨h1, fun hn x hx => by simp at hx; subst hx; exact ⟨⟨trivial, by simp [Eqn.args], by simp [Eqn.arms]; omega⟩, h2 hn⟩, by simp, by simp; omega, by simp only [List.map_cons, List.map_nil, sumL_one, eqPl, armsPl_eq]; omega⟩
  | @reset s outs n n' e b he hb =>
    have hp := ge_pl he
    obtain ⟨h1, h2, h3⟩ := hS _ _ _ _ _ ho hb
    exact ⟨h1, fun hn x hx => by simp at hx; subst hx; exact ⟨⟨hp.1, by simp [Eqn.args], by simp [Eqn.arms]⟩, by intro a ha; simp [Eqn.arms] at ha; subst ha; exact h2 hn⟩, by simp, by simp; omega, by simp only [List.map_cons, List.map_nil, sumL_one, eqPl]; have := hp.2; omega⟩
  | @call s outs n n' l vs j hj a b ha hb has e he h ih =>
    obtain ⟨i1, i2, i3, i4, i5⟩ := ih ho
    have hpa := ge_pl ha
    have hpb := ge_pl hb
    have hpe : WE e ∧ ePl e ≤ 8 := by
      rcases he with ⟨_, rfl⟩ | ⟨_, he⟩
      · exact ⟨trivial, by simp [ePl]⟩
      · have := ge_pl he; exact ⟨this.1, by have := this.2; omega⟩
    refine ⟨by omega, fun hn x hx => ?_, ?_, by simp only [List.length_cons]; omega, ?_⟩
    · rcases List.mem_cons.1 hx with rfl | hx
      · exact ⟨⟨hpe.1, by intro y hy; simp [Eqn.args] at hy; rcases hy with rfl | rfl; exact hpa.1; exact hpb.1, by simp [Eqn.arms]⟩, by simp [Eqn.arms]⟩
      · exact i2 hn x hx
    · intro v hv
      rcases List.mem_cons.1 hv with rfl | hv
      · rfl
      rcases List.mem_cons.1 hv with rfl | hv
      · rfl
      · exact i3 v hv
    · simp only [List.map_cons, sumL_cons, eqPl]
      have := hpa.2; have := hpb.2; have := hpe.2
      omega
  | @sampled s outs n n' l vs a b k k2 e keep ha hb hk hk2 he hkeep h ih =>
    obtain ⟨i1, i2, i3, i4, i5⟩ := ih ho
    have hpa := ge_pl ha
    have hpb := ge_pl hb
    have hpe := ge_pl he
    have hpk := gc_pl hk
    have hpk2 := gc_pl hk2
    have hpp : WE keep ∧ ePl keep ≤ 9 := by
      have := hpa.2
      rcases hkeep with rfl | rfl
      · exact ⟨hpa.1, by simp only [ePl]; omega⟩
      · exact ⟨⟨⟨_, hk2⟩, hpk2.1, trivial, hpa.1⟩, by simp only [ePl]; omega⟩
    refine ⟨by omega, fun hn x hx => ?_, ?_, by simp only [List.length_cons]; omega, ?_⟩
    · rcases List.mem_cons.1 hx with rfl | hx
      · exact ⟨⟨hpe.1, by simp [Eqn.args], by simp [Eqn.arms]⟩, by simp [Eqn.arms]⟩
      rcases List.mem_cons.1 hx with rfl | hx
      · exact ⟨⟨hpp.1, by simp [Eqn.args], by simp [Eqn.arms]⟩, by simp [Eqn.arms]⟩
      rcases List.mem_cons.1 hx with rfl | hx
      · exact ⟨⟨⟨hpb.1, trivial, hpk.1⟩, by simp [Eqn.args], by simp [Eqn.arms]⟩, by simp [Eqn.arms]⟩
      · exact i2 hn x hx
    · intro v hv
      rcases List.mem_cons.1 hv with rfl | hv
      · rfl
      rcases List.mem_cons.1 hv with rfl | hv
      · rfl
      rcases List.mem_cons.1 hv with rfl | hv
      · rfl
      · exact i3 v hv
    · simp only [List.map_cons, sumL_cons, eqPl, ePl]
      have := hpb.2; have := hpe.2; have := hpp.2; have := hpk.2
      omega
end
theorem nv_ok {n n1 : Nat} {vs : List Va} (h : NV n vs n1) : n1 = n + vs.length ∧ ∀ v ∈ vs, v.last = true → ∃ t, GC t v.first := by
  induction h with
  | nil => exact ⟨rfl, by simp⟩
  | @snoc vs n1 h w hw hc hl ih =>
    obtain ⟨i1, i2⟩ := ih
    refine ⟨by simp; omega, fun v hv hvl => ?_⟩
    rcases List.mem_append.1 hv with hv | hv
    · exact i2 v hv hvl
    · simp at hv; subst hv
      rcases hl with ⟨h1, _⟩ | ⟨_, h2⟩
      · rw [h1] at hvl; cases hvl
      · exact ⟨_, h2⟩
section
variable {Q : Sc → List Va → Nat → Nat → List Eqn → List Va → Prop} {c : Nat}
theorem gl_ok (hQ : ∀ s outs n n' q vs, outs.length ≤ 3 → Q s outs n n' q vs → QOk c n n' q vs) {s0 s : Sc} {t0 todo : List Va} {n0 n : Nat} {q : List Eqn} {vs : List Va} (h : GL Q s0 t0 n0 s todo n q vs) :
    n0 ≤ n ∧ (n ≤ 3000 → ∀ e ∈ q, WQ e) ∧ (∀ v ∈ vs, v.last = false) ∧ ∃ g, g + todo.length ≤ t0.length ∧ q.length + vs.length + 10 * n0 ≤ 10 * g + 10 * n ∧ sumL (q.map eqPl) + 100 * n0 ≤ c * g + 100 * n := by
  induction h with
  | start => exact ⟨Nat.le_refl _, by simp, by simp, 0, by simp, by simp, by simp [sumL]⟩
  | @step s todo n n1 q vs q1 vs1 h k h1 h3 hk hq ih =>
    obtain ⟨i1, i2, i3, g, i4, i5, i6⟩ := ih
    obtain ⟨j1, j2, j3, j4, j5⟩ := hQ _ _ _ _ _ _ (by rw [List.length_take]; omega) hq
    refine ⟨by omega, fun hn e he => ?_, fun v hv => ?_, g + 1, by rw [List.length_drop]; omega, by simp only [List.length_append]; omega, ?_⟩
    · rcases List.mem_append.1 he with he | he
      · exact i2 (by omega) e he
      · exact j2 hn e he
    · rcases List.mem_append.1 hv with hv | hv
      · exact i3 v hv
      · exact j3 v hv
    · rw [List.map_append, sumL_append, Nat.mul_succ]
      omega
theorem gbs_ok (hQ : ∀ s outs n n' q vs, outs.length ≤ 3 → Q s outs n n' q vs → QOk c n n' q vs) : SubOk (GBs Q) (6 * c + 3) := by
  rintro s outs n n' b ho ⟨vs, n1, s', q, vars, hv, hvl, hg, rfl⟩
  obtain ⟨v1, v2⟩ := nv_ok hv
  obtain ⟨g1, g2, g3, g, g4, g5, g6⟩ := gl_ok hQ hg
  have hg6 : c * g ≤ c * 6 := Nat.mul_le_mul_left _ (by simp at g4; omega)
  have hg7 : g ≤ 6 := by simp at g4; omega
  refine ⟨by omega, fun hn => .mk (by simp; omega) (by omega) (fun v hv hl => ?_) (fun e he => (g2 hn e he).1) (fun e he => (g2 hn e he).2), ?_⟩
  · rcases List.mem_append.1 hv with hv | hv
    · exact v2 v hv hl
    · rw [g3 v hv] at hl; cases hl
  · rw [bPl_eq]
    simp only [Blk.vars, Blk.eqs]
    have hz : lastN (vs ++ vars) ≤ 3 := by
      unfold lastN
      rw [List.filter_append, List.length_append]
      have e1 : (vs.filter (·.last)).length ≤ vs.length := List.length_filter_le _ _
      have e2 : vars.filter (·.last) = [] := by
        rw [List.filter_eq_nil_iff]
        intro v hv
        rw [g3 v hv]; simp
      rw [e2]; simp; omega
    omega
end
def cbs : Nat → Nat
  | 0 => 603
  | d + 1 => 18 * cbs d + 603
theorem gb_ok (subs : Nat) : ∀ d, SubOk (GB subs d) (cbs d)
  | 0 => gbs_ok (c := 100) fun s outs n n' q vs ho h => gq_ok (cb := 0) (by intro _ _ _ _ _ _ h; exact h.elim) h ho
  | d + 1 => by
    have h := gbs_ok (Q := GQ (GB subs d) subs) (c := 3 * cbs d + 100) fun s outs n n' q vs ho h => gq_ok (gb_ok subs d) h ho
    rw [show 6 * (3 * cbs d + 100) + 3 = cbs (d + 1) by simp only [cbs]; omega] at h
    exact h
/-- what a machine needs of a node -/
theorem gn_ok {k : Nat} {d : Nd} (h : GN k d) : WB d.b ∧ d.outs.length ≤ 1000 ∧ (∀ v ∈ d.outs, v.last = true → ∃ t, GC t v.first) ∧ bPl d.b ≤ 100000000 := by
  obtain ⟨_, _, ⟨last, first, hf, ho⟩, n', hn, hb⟩ := h
  obtain ⟨h1, h2, h3⟩ := gb_ok k 3 _ _ _ _ _ (by rw [ho]; simp) hb
  have e3 : cbs 3 = 3723525 := by decide
  refine ⟨h2 hn, by rw [ho]; simp, fun v hv hl => ?_, by omega⟩
  rw [ho] at hv
  rcases List.mem_cons.1 hv with rfl | hv
  · rcases hf with ⟨rfl, _⟩ | ⟨_, h⟩
    · cases hl
    · exact ⟨_, h⟩
  · simp at hv; subst hv; cases hl
end Go.Mk
