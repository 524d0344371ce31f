/- The statement of GraphChains: proved for every input, without conditions (beyond the form's own reach). -/
import Derived.Test.YtcmjcdiaidalgaaGrHx
import Derived.Test.YtcmjcdiaidalgaaLibI
import Derived.Test.YtcmjcdiaidalgaaRows
import Derived.WalkKit
import Derived.ProofKit
import Derived.OpenShut
import Derived.ShutString
import Derived.ChangeOld
import Derived.Below
import Derived.SizedLaws
import Derived.Deep.Grids
namespace Go.Proofs.Ytcmjcdiaidalgaa.graphChainsDone
open Go.ChangeShapes Go.WideShapes Go.ChangeAt Go.RowKit
open Go.ChangeMaps (open_string shut_string)
open Go.Mt Go.Proofs
set_option linter.unusedVariables false
set_option linter.unusedSimpArgs false

theorem own : ownKnob Try.prog.godebug = none := by kernel_rfl
theorem laidOut : laidOutB Try.prog = true := by kernel_rfl

theorem walk (w : World) (a0 : Option Addr) (len0 cap0 : Nat) (z0 : List Int) (w0 : IsInts .u16 w a0 len0 cap0 z0) (hm0 : len0 ≤ 140737488355328) :
    Calls Try.prog 5 #[.slice a0 len0 cap0] w fun e w' => e = .returned (.bool true) ∧ Below w.heap.size w w' := by
  obtain ⟨zs0, v0, hin0, hrep0⟩ := handedI .u16 a0 len0 cap0 z0 w w0 hm0
  refine (GraphChains_true zs0 v0 hin0 (fun _ _ => False) w #[.slice a0 len0 cap0] (fun _ _ h => h.elim) ⟨rfl, ?_⟩).mono ?_
  · intro i d u h1 h2
    match i with
    | 0 => simp at h1 h2; subst h1; subst h2; exact hrep0
    | i + 1 => simp at h1
  · rintro e w' ⟨u, r, rfl, rfl, hx, hr⟩
    refine ⟨?_, ⟨hx.os, hx.tape, hx.output, hx.size, hx.blk⟩⟩
    cases hr with
    | d h => cases h; rfl

set_option maxRecDepth 100000 in
theorem lifted (os : Os) (started : os.Started) (H : Type) (enc : TypeId × Value → H) :
    ReturnsInHanded {} Try.checked os 5 .any (Rows.graphChainsSpec.pre6 enc Try.prog Try.f5 Rows.graphChainsRow.domain false) (Rows.graphChainsSpec.post enc Try.prog Try.f5 false true false false) := by
  refine returnsInHanded_of_change_sized (C := Try.checked) own started (by kernel_rfl) Try.func5
    (ChangeSpec.witness6 (enc := enc) (C := Try.checked) false ⟨#[], #[.slice none 0 0], []⟩ 8 (by kernel_rfl) (by kernel_rfl) (by kernel_rfl) (by kernel_rfl)) ?_
  intro W base args ds gs before hval0 hW hcnd hsz0 _
  have hval : ∀ (j : Nat) t v, Try.f5.params[j]? = some t → args[j]? = some v → Value.okWide Try.prog W .any base t v := hval0
  have hsz : (DataW.weightsEach Try.prog (Try.f5.params.toList ++ Rows.graphChainsSpec.plain.varTypes Try.prog) (ds ++ gs)).all (· ≤ reachBytes) = true := hsz0
  have hW' := hW
  obtain ⟨p, q, hA0, hV, rfl, hfz, hnd⟩ := hW
  have hA : DataW.TrodAll enc Try.prog W 0 (fun _ => true) true Try.f5.params.toList args.toList ds p := hA0
  rw [Try.params5] at hA hval hsz
  obtain ⟨v0, vs0, d0, ds0, p0, q0, hargs0, rfl, rfl, h0, r0⟩ := trodAll_cons hA
  obtain ⟨rfl, rfl, rfl⟩ := trodAll_nil r0
  obtain rfl : args = #[v0] := by cases args; simp_all
  obtain ⟨rfl, rfl⟩ := trodVars_none hV
  have k0 := h0
  have lt0 : ∀ x ∈ p0, x.block < W.heap.size := by obtain ⟨m, hm⟩ := k0; exact DataW.trod_lt m _ _ _ hm
  obtain ⟨a0, len0, cap0, rfl⟩ := okWide_slice Try.underlying22 (hval 0 22 v0 rfl rfl)
  obtain ⟨z0, w0, hmax0⟩ : ∃ zs, IsInts .u16 W a0 len0 cap0 zs ∧ len0 ≤ 140737488355328 := by
    obtain ⟨fuel, hf⟩ := h0
    rcases open_ints Try.underlying22 Try.underlying69 (by kernel_rfl) hf with ⟨hcs, _⟩ | ⟨x, l, c, zs, hcs, _, hl, hm, hz, hx, hcell, hwz⟩
    · simp [Value.cells] at hcs
      obtain ⟨rfl, rfl, rfl⟩ := hcs
      exact ⟨[], .inl ⟨rfl, rfl, rfl, rfl⟩, by omega⟩
    · simp [Value.cells] at hcs
      obtain ⟨rfl, rfl, rfl⟩ := hcs
      refine ⟨zs, .inr ⟨_, rfl, hl, hm, by simpa using hz, hcell, hwz⟩, ?_⟩
      have hd : d0 = .slice (lits .u16 (zs.take len0)) (lits .u16 (zs.drop len0)) := by injection hx
      have h1 := sized_slice hsz (j := 0) (t := 22) (elems := lits .u16 (zs.take len0)) (spare := lits .u16 (zs.drop len0)) rfl (by rw [hd]; rfl) Try.underlying22
      have h2 : ∃ nb, Try.prog.bytesOf 69 = nb + 1 := ⟨1, by kernel_rfl⟩
      obtain ⟨nb, h2⟩ := h2
      rw [h2] at h1
      have h3 := reachBytes_lt
      have h4 : (lits (H := H) .u16 (zs.take len0)).length = len0 := by
        simp [lits]
        simp at hz
        omega
      have h5 : len0 ≤ len0 * (nb + 1) := Nat.le_mul_of_pos_right _ (by omega)
      have h6 : (lits (H := H) .u16 (zs.take len0)).length * (nb + 1) = len0 * (nb + 1) := by rw [h4]
      have h7 : (lits (H := H) .u16 (zs.take len0)).length * (nb + 1) ≤ ((lits (H := H) .u16 (zs.take len0)).length + (lits (H := H) .u16 (zs.drop len0)).length) * (nb + 1) := Nat.mul_le_mul_right _ (Nat.le_add_right _ _)
      omega
  clear hA0 hval0
  refine (walk W a0 len0 cap0 z0 w0 hmax0).mono fun e W' ⟨he, bel⟩ => ?_
  subst he
  exact ⟨_, rfl, _, _, _, [], _, [], hW', trodAll_mk1 (shut_bool Try.underlying4 _), (trodAll_cons_mk (Below.trod laidOut (by kernel_rfl) (of_decide_eq_true (by kernel_rfl)) k0 bel lt0) trodAll_mk0), rfl, bel.frame _, fun h => by cases h⟩

theorem over : Rows.graphChainsRow.holds Try.pinned (OpenSpec.ofChange Rows.graphChainsSpec) :=
  OpenClaim.holds_of_wide 5 Try.f5 rfl rfl rfl rfl rfl rfl rfl ⟨rfl, rfl, rfl, rfl, rfl⟩ rfl rfl rfl rfl rfl (by kernel_rfl) Try.func5 (by kernel_rfl)
    (of_decide_eq_true (by kernel_rfl)) (by unfold Func.isWrapper; first | (rw [if_pos (by decide +kernel)]; kernel_rfl) | (rw [if_neg (by decide +kernel)]; exact ⟨rfl, rfl⟩))
    (fun os started H enc _ => lifted os started H enc)

theorem proved : Rows.GraphChainsSaid := over
#print axioms proved
end Go.Proofs.Ytcmjcdiaidalgaa.graphChainsDone
