import Derived.Test.YtjhinemdonddoaaFlA
import Derived.Test.YtjhinemdonddoaaMtXe
namespace Go.Proofs
open Go.Mt
set_option maxRecDepth 4000
set_option linter.unusedSimpArgs false
set_option linter.unusedVariables false

/-- the end of a round -/
theorem again {X : Ctx} {I : Nat → St → Prop} {k k' : Nat} {sl sl' : List (Nat × V)} {bx : List (Nat × List M)} {H H' : Hp} (hk : k' < k) (hI : I k' ⟨sl', bx, H'⟩) (hH : H = H') (hs : keeps sl sl') :
    ∃ k' s'', k' < k ∧ I k' s'' ∧ ∀ a w, Inv X ⟨sl, bx, H⟩ a w → Inv X s'' a w :=
  ⟨k', _, hk, hI, fun _ _ hi => by subst hH; exact hi.weak (keeps_get hs) (fun _ => rfl)⟩
theorem TC.loopB {X : Ctx} {c : Code} {sl : List (Nat × V)} {bx : List (Nat × List M)} {H : Hp} {post : Exit → St → Prop} (I : Nat → St → Prop) (k0 : Nat) (sl' : List (Nat × V)) (h0 : I k0 ⟨sl', bx, H⟩) (hs : keeps sl sl')
    (round : ∀ k s, I k s → TC X c s (after post fun s' => ∃ k' s'', k' < k ∧ I k' s'' ∧ ∀ a w, Inv X s' a w → Inv X s'' a w)) : TC X (.loop c) ⟨sl, bx, H⟩ post :=
  TC.loop' I k0 _ h0 (fun a w hi => hi.weak (keeps_get hs) fun _ => rfl) round

def boolsD (bs : List Bool) : List (List D) := bs.map fun b => [.bool b]
/-- the input, of any length -/
def InB (bs : List Bool) (v : D) : Prop := slLen v = some bs.length ∧ (bs = [] ∨ v = .sl (boolsD bs))
theorem boolsD_get {bs : List Bool} {i : Nat} {b : Bool} (h : bs[i]? = some b) : (boolsD bs)[((i : Nat) : Int).toNat]? = some [.bool b] := by simp [boolsD, h]
theorem wrap32 {n : Int} (h0 : 0 ≤ n) (h1 : n ≤ 1000) : IntKind.i32.wrap (n + 1) = n + 1 := IntWalk.i32_in _ ⟨by omega, by omega⟩
theorem slot32 {x y : Int} (h : x = y) : some (V.m (.d (.int .i32 x))) = some (V.m (.d (.int .i32 y))) := by rw [h]

theorem FlowResets_true (bs : List Bool) (v : D) (hin : InB bs v) : PT Try.prog 6 [v] (· = [.bool true]) := by
  obtain ⟨hlen, hv⟩ := hin
  refine PT.of_CT (CT.of_body Try.func6 rfl Try.ntmps6 rfl fun s0 Oo => ?_)
  repeat refine TC.seq ?_
  refine TC.region ?_
  refine t_assign rfl rfl ?_
  refine TL.nil ?_
  repeat refine TC.seq ?_
  refine TC.region ?_
  refine t_call1 flowAwake rfl rfl ?_
  refine t_not rfl rfl ?_
  refine t_move rfl rfl ?_
  first | refine t_guard_no rfl rfl ?_ | (refine t_guard_yes rfl ?_; (refine t_move rfl rfl ?_))
  first | refine t_guard_no rfl rfl ?_ | (refine t_guard_yes rfl ?_; (refine t_lenS rfl rfl hlen ?_))
  first | refine t_guard_no rfl rfl ?_ | (refine t_guard_yes rfl ?_; (refine t_int rfl rfl rfl rfl ?_))
  refine t_pick rfl rfl rfl ?_
  refine TL.nil ?_
  repeat refine TC.seq ?_
  refine TC.cond rfl (fun hc => ?_) (fun hc => ?_)
  · repeat refine TC.seq ?_
    refine TC.region ?_
    refine t_call1 flowAwake rfl rfl ?_
    refine t_assign rfl rfl ?_
    refine TL.nil ?_
    exact TC.ret ⟨_, rfl, [_], rfl, rfl⟩
  · have hle : bs.length ≤ 100 := by have := of_decide_eq_false hc; omega
    refine TC.skip ?_
    repeat refine TC.seq ?_
    refine TC.region ?_
    refine t_call1 counter_ok rfl rfl ?_
    (refine t_callR new_ok rfl rfl ?_; rintro _ _ ⟨rfl, rfl⟩)
    refine t_move rfl rfl ?_
    refine t_extract rfl rfl rfl ?_
    refine t_extract rfl rfl rfl ?_
    refine t_assign rfl rfl ?_
    refine t_assign rfl rfl ?_
    refine TL.nil ?_
    repeat refine TC.seq ?_
    refine TC.region ?_
    refine t_assign rfl rfl ?_
    refine TL.nil ?_
    repeat refine TC.seq ?_
    refine TC.region ?_
    refine t_assign rfl rfl ?_
    refine TL.nil ?_
    repeat refine TC.seq ?_
    refine TC.block ?_
    refine TC.loopB (fun k s => ∃ (i : Nat) (n : Int), s = ⟨[(6, .m (.d (.int .i64 i))), (5, .m (.d (.int .i32 n))), (3, .m (.ref 6 0)), (0, .m (.d v))], [], Hm n⟩ ∧ i ≤ bs.length ∧ 0 ≤ n ∧ n ≤ i ∧ k = bs.length - i) bs.length _
      ⟨0, 0, rfl, by omega, by omega, by omega, rfl⟩ ⟨rfl, rfl, rfl, rfl, trivial⟩ ?_
    rintro k s ⟨i, n, rfl, hi, hn0, hni, rfl⟩
    repeat refine TC.seq ?_
    refine TC.region ?_
    refine t_move rfl rfl ?_
    refine t_move rfl rfl ?_
    refine t_lenS rfl rfl hlen ?_
    refine t_int rfl rfl rfl rfl ?_
    refine TL.nil ?_
    repeat refine TC.seq ?_
    refine TC.cond rfl (fun hc => ?_) (fun hc => ?_)
    · have hc' : i < bs.length := by have := of_decide_eq_true hc; omega
      clear hc
      have hv' : v = .sl (boolsD bs) := by
        rcases hv with h | h
        · subst h; simp at hc'
        · exact h
      subst hv'
      have hget : bs[i]? = some bs[i] := by simp [hc']
      generalize bs[i] = b at hget
      refine TC.skip ?_
      repeat refine TC.seq ?_
      refine TC.block ?_
      repeat refine TC.seq ?_
      refine TC.region ?_
      refine t_assign rfl rfl ?_
      refine TL.nil ?_
      repeat refine TC.seq ?_
      refine TC.region ?_
      refine t_move rfl rfl ?_
      refine t_move rfl rfl ?_
      refine t_indexD rfl rfl rfl (Int.natCast_nonneg i) (r := [.bool b]) (boolsD_get hget) rfl ?_
      first | refine t_loadDc rfl rfl rfl ?_ | refine t_loadLc rfl rfl rfl rfl ?_ | refine t_loadRc rfl rfl rfl rfl ?_
      refine TL.nil ?_
      repeat refine TC.seq ?_
      cases b with
      | true =>
        refine TC.cond rfl (fun _ => ?_) (fun hc => by cases hc)
        repeat refine TC.seq ?_
        refine TC.region ?_
        refine t_assign rfl rfl ?_
        refine TL.nil ?_
        repeat refine TC.seq ?_
        refine TC.region ?_
        refine t_assign rfl rfl ?_
        refine TL.nil ?_
        repeat refine TC.seq ?_
        refine TC.region ?_
        refine t_move rfl rfl ?_
        refine t_move rfl rfl ?_
        refine t_buildSlice rfl rfl rfl rfl rfl rfl rfl rfl ?_
        (refine t_callR (step1_ok n) rfl rfl ?_; rintro _ _ ⟨rfl, rfl⟩)
        refine t_move rfl rfl ?_
        refine t_extract rfl rfl rfl ?_
        refine t_extract rfl rfl rfl ?_
        refine t_assign rfl rfl ?_
        refine t_assign rfl rfl ?_
        refine TL.nil ?_
        repeat refine TC.seq ?_
        refine TC.region ?_
        refine t_move rfl rfl ?_
        refine t_int rfl rfl rfl rfl ?_
        refine t_move rfl rfl ?_
        first | refine t_guard_no rfl rfl ?_ | (refine t_guard_yes rfl ?_; (refine t_move rfl rfl ?_))
        first | refine t_guard_no rfl rfl ?_ | (refine t_guard_yes rfl ?_; (refine t_indexD rfl rfl rfl (by decide) (r := [.int .i32 0]) rfl rfl ?_))
        first | refine t_guard_no rfl rfl ?_ | (refine t_guard_yes rfl ?_; (first | refine t_loadDc rfl rfl rfl ?_ | refine t_loadLc rfl rfl rfl rfl ?_ | refine t_loadRc rfl rfl rfl rfl ?_))
        first | refine t_guard_no rfl rfl ?_ | (refine t_guard_yes rfl ?_; (refine t_move rfl rfl ?_))
        first | refine t_guard_no rfl rfl ?_ | (refine t_guard_yes rfl ?_; (refine t_int rfl rfl rfl rfl ?_))
        refine t_pick rfl rfl rfl ?_
        refine TL.nil ?_
        repeat refine TC.seq ?_
        refine TC.cond rfl (fun hc => by cases hc) (fun _ => ?_)
        refine TC.skip ?_
        repeat refine TC.seq ?_
        refine TC.region ?_
        refine t_move rfl rfl ?_
        refine t_int rfl rfl rfl rfl ?_
        refine t_assign rfl rfl ?_
        refine TL.nil ?_
        repeat refine TC.seq ?_
        refine TC.region ?_
        refine t_move rfl rfl ?_
        refine t_add64 rfl rfl rfl (by omega) ?_
        refine t_assign rfl rfl ?_
        refine TL.nil ?_
        exact again (k' := bs.length - (i + 1)) (by omega) ⟨i + 1, 1, rfl, by omega, by omega, by omega, rfl⟩ rfl ⟨by simp; rfl, rfl, rfl, rfl, trivial⟩
      | false =>
        have hw := wrap32 (n := n) hn0 (by omega)
        refine TC.cond rfl (fun hc => by cases hc) (fun _ => ?_)
        refine TC.skip ?_
        repeat refine TC.seq ?_
        refine TC.region ?_
        refine t_move rfl rfl ?_
        refine t_move rfl rfl ?_
        refine t_buildSlice rfl rfl rfl rfl rfl rfl rfl rfl ?_
        (refine t_callR (step0_ok n) rfl rfl ?_; rintro _ _ ⟨rfl, rfl⟩)
        refine t_move rfl rfl ?_
        refine t_extract rfl rfl rfl ?_
        refine t_extract rfl rfl rfl ?_
        refine t_assign rfl rfl ?_
        refine t_assign rfl rfl ?_
        refine TL.nil ?_
        rw [hw]
        repeat refine TC.seq ?_
        refine TC.region ?_
        refine t_move rfl rfl ?_
        refine t_int rfl rfl rfl rfl ?_
        refine t_move rfl rfl ?_
        first | refine t_guard_no rfl rfl ?_ | (refine t_guard_yes rfl ?_; (refine t_move rfl rfl ?_))
        first | refine t_guard_no rfl rfl ?_ | (refine t_guard_yes rfl ?_; (refine t_indexD rfl rfl rfl (by decide) (r := [.int .i32 n]) rfl rfl ?_))
        first | refine t_guard_no rfl rfl ?_ | (refine t_guard_yes rfl ?_; (first | refine t_loadDc rfl rfl rfl ?_ | refine t_loadLc rfl rfl rfl rfl ?_ | refine t_loadRc rfl rfl rfl rfl ?_))
        first | refine t_guard_no rfl rfl ?_ | (refine t_guard_yes rfl ?_; (refine t_move rfl rfl ?_))
        first | refine t_guard_no rfl rfl ?_ | (refine t_guard_yes rfl ?_; (refine t_int rfl rfl rfl rfl ?_))
        refine t_pick rfl rfl rfl ?_
        refine TL.nil ?_
        repeat refine TC.seq ?_
        have e1 : (n != n) = false := by simp
        refine TC.cond (b := false) (by simp only [St.ev, evs]; show some (V.m (.d (.bool (n != n)))) = _; rw [e1]) (fun hc => by cases hc) (fun _ => ?_)
        refine TC.skip ?_
        repeat refine TC.seq ?_
        refine TC.region ?_
        refine t_move rfl rfl ?_
        refine t_int rfl rfl rfl rfl ?_
        refine t_assign rfl rfl ?_
        refine TL.nil ?_
        repeat refine TC.seq ?_
        refine TC.region ?_
        refine t_move rfl rfl ?_
        refine t_add64 rfl rfl rfl (by omega) ?_
        refine t_assign rfl rfl ?_
        refine TL.nil ?_
        exact again (k' := bs.length - (i + 1)) (by omega) ⟨i + 1, n + 1, rfl, by omega, by omega, by omega, rfl⟩ rfl ⟨by simp; rfl, slot32 hw, rfl, rfl, trivial⟩
    · refine TC.exit ?_
      repeat refine TC.seq ?_
      refine TC.region ?_
      refine t_assign rfl rfl ?_
      refine TL.nil ?_
      exact TC.ret ⟨_, rfl, [_], rfl, rfl⟩
end Go.Proofs
