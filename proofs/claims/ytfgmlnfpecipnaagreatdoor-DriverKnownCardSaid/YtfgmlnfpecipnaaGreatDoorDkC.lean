/- maps.Clone: a new map with the same entries. -/
import Derived.Test.YtfgmlnfpecipnaaGreatDoorChecked
import Derived.Test.YtfgmlnfpecipnaaGreatDoorLibI
import Derived.WalkKit
import Derived.LaidEql
import Derived.RowKitTokens
import Derived.KernelRfl
set_option linter.unusedVariables false
set_option linter.unusedSimpArgs false
set_option linter.unusedSectionVars false
namespace Go.Proofs.Dk
open Go.RowKit Go.Extern.Stop Go.Stop Go.Extern Go.Mt
set_option maxRecDepth 4000
set_option maxHeartbeats 2000000

theorem clone_calls (r : Nat) (ents : Array MapEntry) (clock : Nat) (w : World) (h : w.heap[r]? = some (.map ents clock)) :
    Calls Tryz.prog 107 #[.map (some r)] w fun e w' => e = .returned (.map (some w.heap.size)) ∧ w' = { w with heap := w.heap.push (.map ents clock) } := by
  have h180 := @run_callFunc_extern Tryz.prog 180 _ Extern.MapsClone.clone Tryz.func180 (by kernel_rfl) (by kernel_rfl) (by kernel_rfl) (by kernel_rfl)
  have hcl : ∀ t : TypeId, (Extern.MapsClone.clone #[.iface t (.map (some r))]).run Tryz.prog w = .ok (.iface t (.map (some w.heap.size))) { w with heap := w.heap.push (.map ents clock) } := by
    intro t
    have e : Extern.MapsClone.clone #[.iface t (.map (some r))] = (do
      let .map entries clock ← getObj r | stuck "maps.clone: a map expected"
      pure (.iface t (.map (some (← newObj (.map entries clock)))))) := rfl
    rw [e]
    simp [getObj, Sem.run, h, newObj]
  have hnil : (binOp .eql 163 (.map (some r)) (.map none)).run Tryz.prog w = .ok (.bool false) w := by
    have := equal_map (P := Tryz.prog) (w := w) Tryz.underlying163 (some r)
    simp [binOp, this]
  have hta : ∀ (v : Value) (w : World), (Instr.typeAssert (.iface 163 v) 20 163 false).run Tryz.prog w = .ok v w := by
    intro v w
    simp [Instr.typeAssert, underlying, program, Sem.run, Tryz.underlying163]
  go_enter Tryz.func107, Tryz.ntmps107
  go_wp2
  go_ret
  exact ⟨rfl, rfl⟩

theorem frm_app (H K : Hp) : Frm H (H ++ K) [] := ⟨by simp, fun i hi _ => List.getElem?_append_left hi⟩
theorem clone_ct {i : Nat} {es : List (D × M)} {H : Hp} (hH : H[i]? = some (.map es)) : CT Tryz.prog 107 [.mp i] H fun a b => a = .mp H.length ∧ b = H ++ [.map es] := by
  intro σ Oo vs hinv hσ hms
  obtain ⟨hl, hm⟩ := hms
  obtain ⟨l⟩ := vs
  match l, hl with
  | [u], _ =>
    have h1 := hm 0 _ u rfl rfl
    cases h1 with
    | mp _ es0 hh =>
      obtain ⟨ents, clock, h3, h4, h5, hbo⟩ := hinv.obj i (.map es) (by rw [hσ]; exact hH)
      refine (clone_calls _ ents clock σ.w h3).mono ?_
      rintro e w' ⟨rfl, rfl⟩
      have h0 := FInv.enter (P := Tryz.prog) (n := 0) (ms := []) (vs := #[]) hinv ⟨rfl, by simp⟩ (Nat.le_refl _)
      obtain ⟨τ, t1, t2, t3, t4, t5⟩ := h0.newObj (.map es) (.map ents clock) (by
        intro τ hmo hw
        exact ⟨ents, clock, by rw [hw]; simp, h4, fun i e u a b => (h5 i e u a b).up fun v hv => hv.mono hmo, hbo⟩)
      obtain ⟨υ, u1, u2, u3, u4, u5, u6⟩ := t5.leave
      refine ⟨_, .mp H.length, υ, rfl, by rw [u1, t1], ⟨rfl, by rw [u2, ← hσ]⟩, u3, ?_, u4, u5⟩
      have hlen : σ.H.length = H.length := by rw [hσ]
      have h6 : RM τ (.mp H.length) (.map (some σ.w.heap.size)) := by
        rw [← t2, ← hlen]
        exact .mp _ es (by rw [t3]; simp)
      exact u6 _ _ h6
end Go.Proofs.Dk
