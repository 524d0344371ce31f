/- What a machine keeps begins anew. -/
import Derived.Test.YtcmjcdiaidalgaaSnC
set_option linter.unusedVariables false
set_option linter.unusedSimpArgs false
set_option linter.unusedSectionVars false
namespace Go.Mk
open Go.Mt
/-- firsts are constants -/
def WE : E → Prop
  | .un _ a => WE a | .bin _ a b => WE a ∧ WE b | .ite a b c => WE a ∧ WE b ∧ WE c | .fby a b => (∃ t, GC t a) ∧ WE a ∧ WE b | .pre a => WE a | .arrow a b => WE a ∧ WE b | .whn _ _ a => WE a | .merge _ _ _ _ a b c => WE a ∧ WE b ∧ WE c | _ => True
theorem WE.kid {e k : E} (h : WE e) (hk : k ∈ e.kids) : WE k := by
  cases e <;> simp [E.kids] at hk <;> simp only [WE] at h <;> (try (rcases hk with rfl | rfl | rfl)) <;> (try (rcases hk with rfl | rfl)) <;> (try subst hk) <;> first | exact h | exact h.1 | exact h.2 | exact h.2.1 | exact h.2.2
theorem WE.fby {e : E} (h : WE e) (hk : e.kd = 9) : ∃ a t, e.kids[0]? = some a ∧ GC t a := by
  cases e <;> simp [E.kd] at hk
  obtain ⟨⟨t, h1⟩, _⟩ := h
  exact ⟨_, t, rfl, h1⟩
end Go.Mk
namespace Go.Proofs
open Go.Mt Go.Mk
set_option maxRecDepth 4000
set_option linter.unusedSimpArgs false
set_option linter.unusedVariables false

def cellsM (n : Nat) (f : Nat → M) : List M := (List.range n).map f
def updM' (f : Nat → M) (k : Nat) (v : M) (j : Nat) : M := if j = k then v else f j
theorem cellsM_write {n : Nat} {f : Nat → M} {k : Nat} (v : M) (h : k < n) : writeAt (cellsM n f) (((k : Nat) : Int).toNat * 1) [v] = some (cellsM n (updM' f k v)) := by
  have e : ((k : Nat) : Int).toNat * 1 = k := by omega
  rw [e]
  unfold writeAt
  have hb : Nat.ble (k + [v].length) (cellsM n f).length = true := by
    rw [Nat.ble_eq]; simp [cellsM]; omega
  rw [hb]
  simp only [cond_true]
  congr 1
  apply List.ext_getElem
  · simp [cellsM]; try omega
  · intro j h1 h2
    simp only [cellsM, List.length_map, List.length_range] at h2
    rcases Nat.lt_trichotomy j k with h3 | h3 | h3
    · rw [List.getElem_append_left (by simp [cellsM]; omega), List.getElem_append_left (by simp [cellsM]; omega)]
      simp [cellsM, updM', show ¬ j = k by omega]
    · subst h3
      rw [List.getElem_append_left (by simp [cellsM]; omega), List.getElem_append_right (by simp [cellsM]; omega)]
      simp [cellsM, updM', Nat.min_eq_left (Nat.le_of_lt h)]
    · rw [List.getElem_append_right (by simp [cellsM]; omega)]
      simp [cellsM, Nat.min_eq_left (Nat.le_of_lt h), updM', show ¬ j = k by omega]
      congr 1
      omega
/-- where a machine lies -/
structure Mc where
  it : Nat
  iu : Nat
  im : Nat
  ip : Nat
  is' : Nat
  sz : Nat
  nodes : List (List D)
  nm : Nm
  ins : List (List D)
  outs : List Va
  b : Blk
  r1 : M
  r2 : M
  r3 : M
  r4 : M
abbrev unitC (c : Mc) : List M := [.d (.sl [colE]), .d (.sl c.nodes), .d (.str c.nm), .d (.sl c.ins), .d (.sl (vasC c.outs)), .d (.sl (vasC c.b.vars)), .d (.sl (eqsC c.b.eqs)), .d (.int .i64 0), .d (.int .i64 0), .rsl c.im 0 c.sz, .rsl c.ip 0 c.sz, .rsl c.is' 0 c.sz, .d (.int .i64 ((c.sz : Nat) : Int))]
abbrev instC (c : Mc) : List M := [.ref c.iu 0, c.r1, c.r2, c.r3, c.r4]
structure MM (c : Mc) (H : Hp) : Prop where
  inst : H[c.it]? = some (.box (instC c))
  unit : H[c.iu]? = some (.box (unitC c))
  mem : ∃ f : Nat → M, (∀ k, ∃ z : Int, f k = .d (.int .i32 z)) ∧ H[c.im]? = some (.row false 1 0 (cellsM c.sz f))
  pend : ∃ f : Nat → M, (∀ k, ∃ z : Bool, f k = .d (.bool z)) ∧ H[c.ip]? = some (.row false 1 0 (cellsM c.sz f))
  subs : ∃ f : Nat → M, H[c.is']? = some (.row false 1 0 (cellsM c.sz f))
  d1 : c.im ≠ c.ip
  d2 : c.im ≠ c.is'
  d3 : c.ip ≠ c.is'
  d4 : c.it ≠ c.im ∧ c.it ≠ c.ip ∧ c.it ≠ c.is'
  d5 : c.iu ≠ c.im ∧ c.iu ≠ c.ip ∧ c.iu ≠ c.is'
  small : c.sz ≤ 1000000000
/-- one heap behind another: what is kept may be other -/
structure MS (c : Mc) (H K : Hp) : Prop where
  mm : MM c K
  len : H.length ≤ K.length
  oth : ∀ j, j < H.length → j ≠ c.im → j ≠ c.ip → j ≠ c.is' → K[j]? = H[j]?
theorem MS.refl {c : Mc} {H : Hp} (h : MM c H) : MS c H H := ⟨h, Nat.le_refl _, fun _ _ _ _ _ => rfl⟩
theorem MS.trans {c : Mc} {H K L : Hp} (h : MS c H K) (k : MS c K L) : MS c H L := ⟨k.mm, Nat.le_trans h.len k.len, fun j i a b d => (k.oth j (Nat.lt_of_lt_of_le i h.len) a b d).trans (h.oth j i a b d)⟩
theorem MM.mono {c : Mc} {H K : Hp} (h : MM c H) (hk : ∀ (j : Nat) (ob : Ob), H[j]? = some ob → K[j]? = some ob) : MM c K := by
  obtain ⟨f, h1, h2⟩ := h.mem
  obtain ⟨p, h3, h4⟩ := h.pend
  obtain ⟨q, h5⟩ := h.subs
  exact ⟨hk _ _ h.inst, hk _ _ h.unit, ⟨f, h1, hk _ _ h2⟩, ⟨p, h3, hk _ _ h4⟩, ⟨q, hk _ _ h5⟩, h.d1, h.d2, h.d3, h.d4, h.d5, h.small⟩
theorem MS.grow {c : Mc} {H K : Hp} (h : MM c H) (hl : H.length ≤ K.length) (hk : ∀ j : Nat, j < H.length → K[j]? = H[j]?) : MS c H K :=
  ⟨h.mono fun j ob hj => (hk j (hlt' hj)).trans hj, hl, fun j i _ _ _ => hk j i⟩
theorem set_self' {H : Hp} {i : Nat} {ob : Ob} (h : H[i]? = some ob) (x : Ob) : (H.set i x)[i]? = some x := by have := hlt' h; simp [this]
theorem MM.setMem {c : Mc} {H : Hp} (h : MM c H) (f : Nat → M) (hf : ∀ k, ∃ z : Int, f k = .d (.int .i32 z)) : MS c H (H.set c.im (.row false 1 0 (cellsM c.sz f))) := by
  obtain ⟨g, _, hg⟩ := h.mem
  have ne : ∀ j, j ≠ c.im → (H.set c.im (.row false 1 0 (cellsM c.sz f)))[j]? = H[j]? := fun j hj => List.getElem?_set_ne (Ne.symm hj)
  obtain ⟨p, hp1, hp2⟩ := h.pend
  obtain ⟨q, hq⟩ := h.subs
  exact ⟨⟨by rw [ne _ h.d4.1]; exact h.inst, by rw [ne _ h.d5.1]; exact h.unit, ⟨f, hf, set_self' hg _⟩, ⟨p, hp1, by rw [ne _ (Ne.symm h.d1)]; exact hp2⟩, ⟨q, by rw [ne _ (Ne.symm h.d2)]; exact hq⟩, h.d1, h.d2, h.d3, h.d4, h.d5, h.small⟩, by simp, fun j _ h1 _ _ => ne j h1⟩
theorem MM.setPend {c : Mc} {H : Hp} (h : MM c H) (f : Nat → M) (hf : ∀ k, ∃ z : Bool, f k = .d (.bool z)) : MS c H (H.set c.ip (.row false 1 0 (cellsM c.sz f))) := by
  obtain ⟨g, _, hg⟩ := h.pend
  have ne : ∀ j, j ≠ c.ip → (H.set c.ip (.row false 1 0 (cellsM c.sz f)))[j]? = H[j]? := fun j hj => List.getElem?_set_ne (Ne.symm hj)
  obtain ⟨p, hp1, hp2⟩ := h.mem
  obtain ⟨q, hq⟩ := h.subs
  exact ⟨⟨by rw [ne _ h.d4.2.1]; exact h.inst, by rw [ne _ h.d5.2.1]; exact h.unit, ⟨p, hp1, by rw [ne _ h.d1]; exact hp2⟩, ⟨f, hf, set_self' hg _⟩, ⟨q, by rw [ne _ (Ne.symm h.d3)]; exact hq⟩, h.d1, h.d2, h.d3, h.d4, h.d5, h.small⟩, by simp, fun j _ _ h1 _ => ne j h1⟩
theorem MM.setSubs {c : Mc} {H : Hp} (h : MM c H) (f : Nat → M) : MS c H (H.set c.is' (.row false 1 0 (cellsM c.sz f))) := by
  obtain ⟨g, hg⟩ := h.subs
  have ne : ∀ j, j ≠ c.is' → (H.set c.is' (.row false 1 0 (cellsM c.sz f)))[j]? = H[j]? := fun j hj => List.getElem?_set_ne (Ne.symm hj)
  obtain ⟨p, hp1, hp2⟩ := h.mem
  obtain ⟨q, hq1, hq⟩ := h.pend
  exact ⟨⟨by rw [ne _ h.d4.2.2]; exact h.inst, by rw [ne _ h.d5.2.2]; exact h.unit, ⟨p, hp1, by rw [ne _ h.d2]; exact hp2⟩, ⟨q, hq1, by rw [ne _ h.d3]; exact hq⟩, ⟨f, set_self' hg _⟩, h.d1, h.d2, h.d3, h.d4, h.d5, h.small⟩, by simp, fun j _ _ _ h1 => ne j h1⟩
instance : IsFn Try.prog 75 := isFn_of (by kernel_rfl)
instance : IsFn Try.prog 132 := isFn_of (by kernel_rfl)
instance : IsFn Try.prog 107 := isFn_of (by kernel_rfl)
instance : IsFn Try.prog 76 := isFn_of (by kernel_rfl)
instance : IsFn Try.prog 56 := isFn_of (by kernel_rfl)
theorem first_dt (c : Mc) (H : Hp) (h : MM c H) (a fr to : Nat) (ha : a ≤ 2000000000) (hto : to ≤ c.sz) {t : Ty} {e : E} (he : GC t e) : DT Try.prog 75 [.ref c.it 0, .d (.int .i64 ((a : Nat) : Int)), .d (.agg e.cells), .d (.int .i64 ((fr : Nat) : Int)), .d (.int .i64 ((to : Nat) : Int))] H fun r K => MS c H K := by
  obtain ⟨z, hv⟩ := value_pt he
  obtain ⟨k1, op1, n1, s1, a1, b1, h1⟩ := e.shape
  rw [h1] at hv ⊢
  refine DT.of_body Try.func75 rfl Try.ntmps75 rfl ?_
  repeat refine DC.seq ?_
  apply DC.regionX
  · intro s0 Oo
    refine t_box rfl rfl ?_
    exact TL.nil rfl
  rcases Nat.lt_or_ge a fr with hf | hf
  · have e1 : decide (((a : Nat) : Int) ≥ ((fr : Nat) : Int)) = false := decide_eq_false (by omega)
    repeat refine DC.seq ?_
    apply DC.regionX
    · intro s0 Oo
      refine t_move rfl rfl ?_
      refine t_move rfl rfl ?_
      (refine t_int rfl rfl rfl (r := .bool false) (by show some (D.bool (decide _)) = _; rw [e1]) ?_)
      refine t_move rfl rfl ?_
      refine t_guard_no rfl rfl ?_
      refine t_guard_no rfl rfl ?_
      refine t_guard_no rfl rfl ?_
      refine t_pick rfl rfl rfl ?_
      exact TL.nil rfl
    repeat refine DC.seq ?_
    refine DC.cond rfl (fun hc => by cases hc) (fun hc => ?_)
    refine DC.skip ?_
    exact ⟨_, rfl, MS.refl h⟩
  have e1 : decide (((a : Nat) : Int) ≥ ((fr : Nat) : Int)) = true := decide_eq_true (by omega)
  rcases Nat.lt_or_ge a to with hf2 | hf2
  rotate_left
  · have e2 : decide (((a : Nat) : Int) < ((to : Nat) : Int)) = false := decide_eq_false (by omega)
    repeat refine DC.seq ?_
    apply DC.regionX
    · intro s0 Oo
      refine t_move rfl rfl ?_
      refine t_move rfl rfl ?_
      (refine t_int rfl rfl rfl (r := .bool true) (by show some (D.bool (decide _)) = _; rw [e1]) ?_)
      refine t_move rfl rfl ?_
      refine t_guard_yes rfl ?_; refine t_move rfl rfl ?_
      refine t_guard_yes rfl ?_; refine t_move rfl rfl ?_
      refine t_guard_yes rfl ?_; refine t_int rfl rfl rfl (r := .bool false) (by show some (D.bool (decide _)) = _; rw [e2]) ?_
      refine t_pick rfl rfl rfl ?_
      exact TL.nil rfl
    repeat refine DC.seq ?_
    refine DC.cond rfl (fun hc => by cases hc) (fun hc => ?_)
    refine DC.skip ?_
    exact ⟨_, rfl, MS.refl h⟩
  have e2 : decide (((a : Nat) : Int) < ((to : Nat) : Int)) = true := decide_eq_true (by omega)
  obtain ⟨f, hf1, hm⟩ := h.mem
  have hw := cellsM_write (n := c.sz) (f := f) (k := a) (.d (.int .i32 z)) (by omega)
  have hct : CT Try.prog 106 [.d (.sl [colE]), .d (.agg (exC k1 op1 n1 s1 a1 b1))] H fun r' K' => r' = .tup [.d (.int .i32 z), .d (.bool true)] ∧ K' = H := (CT.of_PT hv).mono (by rintro _ _ ⟨⟨_, rfl, rfl⟩, rfl⟩; exact ⟨rfl, rfl⟩)
  repeat refine DC.seq ?_
  apply DC.regionX
  · intro s0 Oo
    refine t_move rfl rfl ?_
    refine t_move rfl rfl ?_
    (refine t_int rfl rfl rfl (r := .bool true) (by show some (D.bool (decide _)) = _; rw [e1]) ?_)
    refine t_move rfl rfl ?_
    refine t_guard_yes rfl ?_; refine t_move rfl rfl ?_
    refine t_guard_yes rfl ?_; refine t_move rfl rfl ?_
    refine t_guard_yes rfl ?_; refine t_int rfl rfl rfl (r := .bool true) (by show some (D.bool (decide _)) = _; rw [e2]) ?_
    refine t_pick rfl rfl rfl ?_
    exact TL.nil rfl
  repeat refine DC.seq ?_
  refine DC.cond rfl (fun hc => ?_) (fun hc => by cases hc)
  repeat refine DC.seq ?_
  apply DC.drawX mixed
  · intro s0 Oo
    refine f_move rfl rfl ?_
    refine f_nilCheck rfl rfl rfl ?_
    refine f_fieldR rfl rfl ?_
    refine f_loadRc rfl rfl h.inst rfl ?_
    refine f_nilCheck rfl rfl rfl ?_
    refine f_fieldR rfl rfl ?_
    refine f_loadRc rfl rfl h.unit rfl ?_
    refine f_move rfl rfl ?_
    refine f_move rfl rfl ?_
    refine f_nilCheck rfl rfl rfl ?_
    refine f_fieldR rfl rfl ?_
    refine f_loadRc rfl rfl h.inst rfl ?_
    refine f_nilCheck rfl rfl rfl ?_
    refine f_fieldR rfl rfl ?_
    refine f_fieldR rfl rfl ?_
    refine f_loadRc rfl rfl h.unit rfl ?_
    refine f_loadDw rfl rfl rfl ?_
    refine f_callRo hct rfl rfl ?_
    refine f_move rfl rfl ?_
    refine f_extract rfl rfl rfl ?_
    refine f_extract rfl rfl rfl ?_
    refine f_indexR rfl rfl rfl hm (by omega) (by omega) ?_
    refine f_storeW rfl rfl hm rfl rfl hw ?_
    exact TF.nil ⟨by kernel_rfl, rfl⟩
  exact ⟨_, rfl, h.setMem _ (fun k => by unfold updM'; split; exact ⟨z, rfl⟩; exact hf1 k)⟩
end Go.Proofs
