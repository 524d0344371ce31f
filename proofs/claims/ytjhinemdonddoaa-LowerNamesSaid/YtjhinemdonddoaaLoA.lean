/- LowerNames: its example runs (in the kernel); names of functions and variables are as the document says, and unlike for unlike names. -/
import Derived.Test.YtjhinemdonddoaaMtEo
import Derived.Test.YtjhinemdonddoaaMtInst
import Derived.KernelRfl
namespace Go.Proofs
open Go.Mt
set_option maxRecDepth 4000
set_option linter.unusedSimpArgs false
set_option linter.unusedVariables false

def loHF (f : Nat) : Bool := has [26, 50, 53, 68, 82, 83, 84, 85, 97, 102, 141] f
def loHint (f t : Nat) : Nat := match get [(3, [(3, 1)]), (4, [(3, 1)]), (26, [(14, 1)]), (49, [(8, 1)]), (50, [(18, 1)]), (51, [(9, 1), (10, 1), (11, 1), (12, 1), (13, 1)]), (52, [(3, 1)]), (53, [(33, 1)]), (56, [(45, 1)]), (67, [(5, 1)]), (74, [(63, 1)]), (79, [(3, 1)]), (82, [(9, 1)]), (86, [(5, 1)]), (99, [(3, 1)]), (109, [(2, 1), (3, 1), (4, 1), (5, 1), (9, 1)]), (124, [(3, 1)]), (127, [(4, 1), (6, 1), (9, 1)]), (128, [(3, 1), (4, 1)]), (132, [(7, 1)]), (133, [(9, 1)]), (145, [(5, 1)]), (149, [(5, 1), (7, 1), (8, 1), (11, 1), (12, 1)]), (150, [(15, 1)]), (162, [(5, 1)]), (168, [(3, 1)])] f with
  | some l => (match get l t with | some k => k | none => 0)
  | none => 0
theorem lowerAwake : PT Try.prog 21 [] (· = [.bool true]) := PT.of_runTrue noSums_ok (heapF := loHF) (hint := loHint) (rounds := 1000) (k := 100) (by kernel_rfl)

def stepT : ByteArray := ⟨#[95, 115, 116, 101, 112]⟩
def resetT : ByteArray := ⟨#[95, 114, 101, 115, 101, 116]⟩
def varT : ByteArray := ⟨#[118, 95]⟩
theorem step_ok (s : ByteArray) (h : s.size ≤ 100) : PT Try.prog 22 [.str s] (· = [.str (s ++ stepT)]) := by
  refine PT.of_CT (CT.of_body Try.func22 rfl Try.ntmps22 rfl fun s0 Oo => ?_)
  have hs : stepT.size = 5 := rfl
  repeat refine TC.seq ?_
  refine TC.region ?_
  refine t_assign rfl rfl ?_
  refine TL.nil ?_
  repeat refine TC.seq ?_
  refine TC.region ?_
  refine t_move rfl rfl ?_
  refine t_stradd rfl rfl rfl (u := stepT) (by omega) ?_
  refine t_assign rfl rfl ?_
  refine TL.nil ?_
  exact TC.ret ⟨_, rfl, [_], rfl, rfl⟩
theorem reset_ok (s : ByteArray) (h : s.size ≤ 100) : PT Try.prog 23 [.str s] (· = [.str (s ++ resetT)]) := by
  refine PT.of_CT (CT.of_body Try.func23 rfl Try.ntmps23 rfl fun s0 Oo => ?_)
  have hs : resetT.size = 6 := rfl
  repeat refine TC.seq ?_
  refine TC.region ?_
  refine t_assign rfl rfl ?_
  refine TL.nil ?_
  repeat refine TC.seq ?_
  refine TC.region ?_
  refine t_move rfl rfl ?_
  refine t_stradd rfl rfl rfl (u := resetT) (by omega) ?_
  refine t_assign rfl rfl ?_
  refine TL.nil ?_
  exact TC.ret ⟨_, rfl, [_], rfl, rfl⟩
theorem var_ok (s : ByteArray) (h : s.size ≤ 100) : PT Try.prog 24 [.str s] (· = [.str (varT ++ s)]) := by
  refine PT.of_CT (CT.of_body Try.func24 rfl Try.ntmps24 rfl fun s0 Oo => ?_)
  have hs : varT.size = 2 := rfl
  repeat refine TC.seq ?_
  refine TC.region ?_
  refine t_assign rfl rfl ?_
  refine TL.nil ?_
  repeat refine TC.seq ?_
  refine TC.region ?_
  refine t_move rfl rfl ?_
  refine t_stradd rfl rfl rfl (s := varT) (by omega) ?_
  refine t_assign rfl rfl ?_
  refine TL.nil ?_
  exact TC.ret ⟨_, rfl, [_], rfl, rfl⟩
theorem ba_app_right (a b c : ByteArray) : a ++ c = b ++ c ↔ a = b := by
  constructor
  · intro h
    have h2 := congrArg (fun x => x.data.toList) h
    simp [ByteArray.data_append] at h2
    apply ByteArray.ext
    rw [← Array.toList_inj]
    simpa using h2
  · rintro rfl; rfl
theorem ba_app_left (a b c : ByteArray) : c ++ a = c ++ b ↔ a = b := by
  constructor
  · intro h
    have h2 := congrArg (fun x => x.data.toList) h
    simp [ByteArray.data_append] at h2
    apply ByteArray.ext
    rw [← Array.toList_inj]
    simpa using h2
  · rintro rfl; rfl
theorem LowerNames_true (a : ByteArray) (ha : a.size ≤ maxLen) (b : ByteArray) (hb : b.size ≤ maxLen) : PT Try.prog 5 [.str a, .str b] (· = [.bool true]) := by
  refine PT.of_CT (CT.of_body Try.func5 rfl Try.ntmps5 rfl fun s0 Oo => ?_)
  repeat refine TC.seq ?_
  refine TC.region ?_
  refine t_assign rfl rfl ?_
  refine TL.nil ?_
  by_cases h1 : a.size ≤ 100
  · have e1 : decide ((a.size : Int) > 100) = false := decide_eq_false (by omega)
    by_cases h2 : b.size ≤ 100
    · have e2 : decide ((b.size : Int) > 100) = false := decide_eq_false (by omega)
      repeat refine TC.seq ?_
      refine TC.region ?_
      refine t_call1 lowerAwake rfl rfl ?_
      refine t_not rfl rfl ?_
      refine t_move rfl rfl ?_
      first | refine t_guard_no rfl rfl ?_ | (refine t_guard_yes rfl ?_; (refine t_move rfl rfl ?_))
      first | refine t_guard_no rfl rfl ?_ | (refine t_guard_yes rfl ?_; (refine t_lenT rfl rfl ?_))
      first | refine t_guard_no rfl rfl ?_ | (refine t_guard_yes rfl ?_; ((refine t_int rfl rfl rfl rfl ?_; rw [e1])))
      refine t_pick rfl rfl rfl ?_
      refine t_move rfl rfl ?_
      first | refine t_guard_no rfl rfl ?_ | (refine t_guard_yes rfl ?_; (refine t_move rfl rfl ?_))
      first | refine t_guard_no rfl rfl ?_ | (refine t_guard_yes rfl ?_; (refine t_lenT rfl rfl ?_))
      first | refine t_guard_no rfl rfl ?_ | (refine t_guard_yes rfl ?_; ((refine t_int rfl rfl rfl rfl ?_; rw [e2])))
      refine t_pick rfl rfl rfl ?_
      refine TL.nil ?_
      repeat refine TC.seq ?_
      refine TC.cond rfl (fun hc => by cases hc) (fun _ => ?_)
      refine TC.skip ?_
      have hs1 : stepT.size = 5 := rfl
      have hs2 : resetT.size = 6 := rfl
      have hs3 : varT.size = 2 := rfl
      have q1 : decide (a ++ stepT = b ++ stepT) = decide (a = b) := by rw [decide_eq_decide]; exact ba_app_right a b stepT
      have q2 : decide (a ++ resetT = b ++ resetT) = decide (a = b) := by rw [decide_eq_decide]; exact ba_app_right a b resetT
      have q3 : decide (varT ++ a = varT ++ b) = decide (a = b) := by rw [decide_eq_decide]; exact ba_app_left a b varT
      have r1 : decide (a ++ stepT = a ++ stepT) = true := decide_eq_true rfl
      have r2 : decide (a ++ resetT = a ++ resetT) = true := decide_eq_true rfl
      have r3 : decide (varT ++ a = varT ++ a) = true := decide_eq_true rfl
      repeat refine TC.seq ?_
      refine TC.region ?_
      refine t_move rfl rfl ?_
      refine t_move rfl rfl ?_
      refine t_streq rfl rfl rfl ?_
      refine t_assign rfl rfl ?_
      refine TL.nil ?_
      generalize decide (a = b) = q at *
      have qq : (q == q) = true := by cases q <;> rfl
      repeat refine TC.seq ?_
      refine TC.region ?_
      refine t_move rfl rfl ?_
      refine t_call1 (step_ok a h1) rfl rfl ?_
      refine t_move rfl rfl ?_
      refine t_call1 (step_ok b h2) rfl rfl ?_
      (refine t_streq rfl rfl rfl ?_; rw [q1])
      refine t_move rfl rfl ?_
      (refine t_beq rfl rfl rfl ?_; rw [qq])
      refine t_move rfl rfl ?_
      first | refine t_guard_no rfl rfl ?_ | (refine t_guard_yes rfl ?_; (refine t_move rfl rfl ?_))
      first | refine t_guard_no rfl rfl ?_ | (refine t_guard_yes rfl ?_; (refine t_call1 (reset_ok a h1) rfl rfl ?_))
      first | refine t_guard_no rfl rfl ?_ | (refine t_guard_yes rfl ?_; (refine t_move rfl rfl ?_))
      first | refine t_guard_no rfl rfl ?_ | (refine t_guard_yes rfl ?_; (refine t_call1 (reset_ok b h2) rfl rfl ?_))
      first | refine t_guard_no rfl rfl ?_ | (refine t_guard_yes rfl ?_; ((refine t_streq rfl rfl rfl ?_; rw [q2])))
      first | refine t_guard_no rfl rfl ?_ | (refine t_guard_yes rfl ?_; (refine t_move rfl rfl ?_))
      first | refine t_guard_no rfl rfl ?_ | (refine t_guard_yes rfl ?_; ((refine t_beq rfl rfl rfl ?_; rw [qq])))
      refine t_pick rfl rfl rfl ?_
      refine t_move rfl rfl ?_
      first | refine t_guard_no rfl rfl ?_ | (refine t_guard_yes rfl ?_; (refine t_move rfl rfl ?_))
      first | refine t_guard_no rfl rfl ?_ | (refine t_guard_yes rfl ?_; (refine t_call1 (var_ok a h1) rfl rfl ?_))
      first | refine t_guard_no rfl rfl ?_ | (refine t_guard_yes rfl ?_; (refine t_move rfl rfl ?_))
      first | refine t_guard_no rfl rfl ?_ | (refine t_guard_yes rfl ?_; (refine t_call1 (var_ok b h2) rfl rfl ?_))
      first | refine t_guard_no rfl rfl ?_ | (refine t_guard_yes rfl ?_; ((refine t_streq rfl rfl rfl ?_; rw [q3])))
      first | refine t_guard_no rfl rfl ?_ | (refine t_guard_yes rfl ?_; (refine t_move rfl rfl ?_))
      first | refine t_guard_no rfl rfl ?_ | (refine t_guard_yes rfl ?_; ((refine t_beq rfl rfl rfl ?_; rw [qq])))
      refine t_pick rfl rfl rfl ?_
      refine t_move rfl rfl ?_
      first | refine t_guard_no rfl rfl ?_ | (refine t_guard_yes rfl ?_; (refine t_move rfl rfl ?_))
      first | refine t_guard_no rfl rfl ?_ | (refine t_guard_yes rfl ?_; (refine t_call1 (step_ok a h1) rfl rfl ?_))
      first | refine t_guard_no rfl rfl ?_ | (refine t_guard_yes rfl ?_; (refine t_move rfl rfl ?_))
      first | refine t_guard_no rfl rfl ?_ | (refine t_guard_yes rfl ?_; (refine t_stradd rfl rfl rfl (u := stepT) (by omega) ?_))
      first | refine t_guard_no rfl rfl ?_ | (refine t_guard_yes rfl ?_; ((refine t_streq rfl rfl rfl ?_; rw [r1])))
      refine t_pick rfl rfl rfl ?_
      refine t_move rfl rfl ?_
      first | refine t_guard_no rfl rfl ?_ | (refine t_guard_yes rfl ?_; (refine t_move rfl rfl ?_))
      first | refine t_guard_no rfl rfl ?_ | (refine t_guard_yes rfl ?_; (refine t_call1 (reset_ok a h1) rfl rfl ?_))
      first | refine t_guard_no rfl rfl ?_ | (refine t_guard_yes rfl ?_; (refine t_move rfl rfl ?_))
      first | refine t_guard_no rfl rfl ?_ | (refine t_guard_yes rfl ?_; (refine t_stradd rfl rfl rfl (u := resetT) (by omega) ?_))
      first | refine t_guard_no rfl rfl ?_ | (refine t_guard_yes rfl ?_; ((refine t_streq rfl rfl rfl ?_; rw [r2])))
      refine t_pick rfl rfl rfl ?_
      refine t_move rfl rfl ?_
      first | refine t_guard_no rfl rfl ?_ | (refine t_guard_yes rfl ?_; (refine t_move rfl rfl ?_))
      first | refine t_guard_no rfl rfl ?_ | (refine t_guard_yes rfl ?_; (refine t_call1 (var_ok a h1) rfl rfl ?_))
      first | refine t_guard_no rfl rfl ?_ | (refine t_guard_yes rfl ?_; (refine t_move rfl rfl ?_))
      first | refine t_guard_no rfl rfl ?_ | (refine t_guard_yes rfl ?_; (refine t_stradd rfl rfl rfl (s := varT) (by omega) ?_))
      first | refine t_guard_no rfl rfl ?_ | (refine t_guard_yes rfl ?_; ((refine t_streq rfl rfl rfl ?_; rw [r3])))
      refine t_pick rfl rfl rfl ?_
      refine t_assign rfl rfl ?_
      refine TL.nil ?_
      exact TC.ret ⟨_, rfl, [_], rfl, rfl⟩
    · have e2 : decide ((b.size : Int) > 100) = true := decide_eq_true (by omega)
      repeat refine TC.seq ?_
      refine TC.region ?_
      refine t_call1 lowerAwake rfl rfl ?_
      refine t_not rfl rfl ?_
      refine t_move rfl rfl ?_
      first | refine t_guard_no rfl rfl ?_ | (refine t_guard_yes rfl ?_; (refine t_move rfl rfl ?_))
      first | refine t_guard_no rfl rfl ?_ | (refine t_guard_yes rfl ?_; (refine t_lenT rfl rfl ?_))
      first | refine t_guard_no rfl rfl ?_ | (refine t_guard_yes rfl ?_; ((refine t_int rfl rfl rfl rfl ?_; rw [e1])))
      refine t_pick rfl rfl rfl ?_
      refine t_move rfl rfl ?_
      first | refine t_guard_no rfl rfl ?_ | (refine t_guard_yes rfl ?_; (refine t_move rfl rfl ?_))
      first | refine t_guard_no rfl rfl ?_ | (refine t_guard_yes rfl ?_; (refine t_lenT rfl rfl ?_))
      first | refine t_guard_no rfl rfl ?_ | (refine t_guard_yes rfl ?_; ((refine t_int rfl rfl rfl rfl ?_; rw [e2])))
      refine t_pick rfl rfl rfl ?_
      refine TL.nil ?_
      repeat refine TC.seq ?_
      refine TC.cond rfl (fun _ => ?_) (fun hc => by cases hc)
      repeat refine TC.seq ?_
      refine TC.region ?_
      refine t_call1 lowerAwake rfl rfl ?_
      refine t_assign rfl rfl ?_
      refine TL.nil ?_
      exact TC.ret ⟨_, rfl, [_], rfl, rfl⟩
  · have e1 : decide ((a.size : Int) > 100) = true := decide_eq_true (by omega)
    repeat refine TC.seq ?_
    refine TC.region ?_
    refine t_call1 lowerAwake rfl rfl ?_
    refine t_not rfl rfl ?_
    refine t_move rfl rfl ?_
    first | refine t_guard_no rfl rfl ?_ | (refine t_guard_yes rfl ?_; (refine t_move rfl rfl ?_))
    first | refine t_guard_no rfl rfl ?_ | (refine t_guard_yes rfl ?_; (refine t_lenT rfl rfl ?_))
    first | refine t_guard_no rfl rfl ?_ | (refine t_guard_yes rfl ?_; ((refine t_int rfl rfl rfl rfl ?_; rw [e1])))
    refine t_pick rfl rfl rfl ?_
    refine t_move rfl rfl ?_
    first | refine t_guard_no rfl rfl ?_ | (refine t_guard_yes rfl ?_; (refine t_move rfl rfl ?_))
    first | refine t_guard_no rfl rfl ?_ | (refine t_guard_yes rfl ?_; (refine t_lenS rfl rfl rfl ?_))
    first | refine t_guard_no rfl rfl ?_ | (refine t_guard_yes rfl ?_; (refine t_int rfl rfl rfl rfl ?_))
    refine t_pick rfl rfl rfl ?_
    refine TL.nil ?_
    repeat refine TC.seq ?_
    refine TC.cond rfl (fun _ => ?_) (fun hc => by cases hc)
    repeat refine TC.seq ?_
    refine TC.region ?_
    refine t_call1 lowerAwake rfl rfl ?_
    refine t_assign rfl rfl ?_
    refine TL.nil ?_
    exact TC.ret ⟨_, rfl, [_], rfl, rfl⟩
end Go.Proofs
