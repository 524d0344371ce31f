/- A node whose equations need themselves: the law, up to its number of equations. -/
import Derived.Test.YtfmlmmahlopafaaDoorEmA
import Derived.Test.YtfmlmmahlopafaaDoorMtInst5
import Derived.Test.YtfmlmmahlopafaaDoorLibI
import Derived.Test.YtfmlmmahlopafaaDoorLibE
set_option linter.unusedVariables false
set_option linter.unusedSimpArgs false
set_option linter.unusedSectionVars false
namespace Go.Mt
def flatC : Code → List Code
  | .seq a b => flatC a ++ flatC b
  | c => [c]
end Go.Mt
namespace Go.Proofs
open Go.Mt
set_option maxRecDepth 4000
set_option linter.unusedVariables false

def ecHF (f : Nat) : Bool := has [5, 6, 7, 10, 15, 20, 21, 22, 23, 34, 35, 78] f
def ecHint (f t : Nat) : Nat := match get [(3, [(64, 1), (73, 1)]), (5, [(25, 1)]), (8, [(26, 1)]), (13, [(97, 1), (119, 1), (36, 1)]), (14, [(3, 1)]), (15, [(29, 1)]), (21, [(9, 1)]), (32, [(3, 1)]), (36, [(5, 1)]), (53, [(5, 1)]), (54, [(3, 1)]), (61, [(7, 1)]), (62, [(9, 1)]), (73, [(12, 1)])] f with
  | some l => (match get l t with | some k => k | none => 0)
  | none => 0

def ecSums (f : Nat) (ds : List D) : Option (List D) := match ds with
  | [] => bif Nat.beq f 4 then some [.bool true] else none
  | _ => none
theorem ecSums_ok : ∀ f ds rs, ecSums f ds = some rs → PT Tryd.prog f ds (· = rs) := by
  intro f ds rs h
  unfold ecSums at h
  split at h
  · cases hb : Nat.beq f 4 with
    | true =>
      rw [hb] at h
      have := Nat.eq_of_beq_eq_true hb
      subst this
      injection h with h; subst h
      exact emAwake
    | false => rw [hb] at h; cases h
  · cases h
noncomputable def ecCfg : Cfg := cfgOf Tryd.prog ecSums ecHF (evFn Tryd.prog ecSums ecHF ecHint 1000 100) (ecHint 3)
noncomputable def ecRest : List Code := (flatC ((Tryd.f3.body).getD .skip)).drop 4
theorem ec_ok : CfgOk ecCfg := cfg_ok ecSums_ok _ _ _ _ _
theorem cycles_of (n : Int) (k : Nat) (hw : IntKind.i64.wrap n = n) (hk : 1 + n.tmod 20 = (k : Int)) (hk20 : k ≤ 20) (hr : saysTrue Tryd.prog Tryd.f3 (runRest Tryd.prog ecCfg 97 1000 ecRest ⟨[(3, .m (.d (.int .i64 (k : Int))))], [], []⟩) = true) : PT Tryd.prog 3 [.int .u8 n] (· = [.bool true]) := by
  refine PT.of_CT (CT.of_body Tryd.func3 rfl Tryd.ntmps3 rfl fun s0 Oo => ?_)
  repeat refine TC.seq ?_
  refine TC.region ?_
  refine t_assign rfl rfl ?_
  refine TL.nil ?_
  repeat refine TC.seq ?_
  refine TC.region ?_
  refine t_call1 emAwake rfl rfl ?_
  refine t_not rfl rfl ?_
  refine TL.nil ?_
  repeat refine TC.seq ?_
  refine TC.cond rfl (fun hc => by cases hc) (fun hc => ?_)
  refine TC.skip ?_
  repeat refine TC.seq ?_
  refine TC.region ?_
  refine t_move rfl rfl ?_
  (refine t_convI rfl rfl ?_; rw [hw])
  refine t_rem rfl rfl rfl rfl ?_
  (refine t_add64 rfl rfl rfl (by omega) ?_; rw [hk])
  refine t_assign rfl rfl ?_
  refine TL.nil ?_
  refine TC.rename [(3, .m (.d (.int .i64 (k : Int))))] [] ⟨rfl, trivial⟩ rfl ?_
  obtain ⟨z, hz, hres⟩ := saysTrue_ok hr
  clear hr
  change runRest _ _ _ _ [_, _, _, _, _, _, _, _, _, _, _] _ = _ at hz
  obtain ⟨s1, h1, hz⟩ := runRest_cons hz
  repeat refine TC.seq ?_
  refine runC_tc ec_ok rfl h1 ?_
  obtain ⟨s2, h2, hz⟩ := runRest_cons hz
  repeat refine TC.seq ?_
  refine runC_tc ec_ok rfl h2 ?_
  obtain ⟨s3, h3, hz⟩ := runRest_cons hz
  repeat refine TC.seq ?_
  refine runC_tc ec_ok rfl h3 ?_
  obtain ⟨s4, h4, hz⟩ := runRest_cons hz
  repeat refine TC.seq ?_
  refine runC_tc ec_ok rfl h4 ?_
  obtain ⟨s5, h5, hz⟩ := runRest_cons hz
  repeat refine TC.seq ?_
  refine runC_tc ec_ok rfl h5 ?_
  obtain ⟨s6, h6, hz⟩ := runRest_cons hz
  repeat refine TC.seq ?_
  refine runC_tc ec_ok rfl h6 ?_
  obtain ⟨s7, h7, hz⟩ := runRest_cons hz
  repeat refine TC.seq ?_
  refine runC_tc ec_ok rfl h7 ?_
  obtain ⟨s8, h8, hz⟩ := runRest_cons hz
  repeat refine TC.seq ?_
  refine runC_tc ec_ok rfl h8 ?_
  obtain ⟨s9, h9, hz⟩ := runRest_cons hz
  repeat refine TC.seq ?_
  refine runC_tc ec_ok rfl h9 ?_
  obtain ⟨s10, h10, hz⟩ := runRest_cons hz
  repeat refine TC.seq ?_
  refine runC_tc ec_ok rfl h10 ?_
  rw [runRest_one] at hz
  repeat refine TC.seq ?_
  refine runC_tc ec_ok rfl hz ?_
  exact ⟨_, hres, [_], rfl, rfl⟩
end Go.Proofs
