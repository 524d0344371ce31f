/- The statement of SemErrs: proved for every input, without conditions (beyond the form's own reach). -/
import Derived.Test.YtcmjcdiaidalgaaSnK
import Derived.Test.YtcmjcdiaidalgaaLibI
import Derived.Test.YtcmjcdiaidalgaaRows
import Derived.WalkKit
import Derived.ProofKit
import Derived.OpenShut
import Derived.ShutString
import Derived.ChangeOld
import Derived.Below
import Derived.SizedLaws
import Derived.Deep.Grids
namespace Go.Proofs.Ytcmjcdiaidalgaa.semErrsDone
open Go.ChangeShapes Go.WideShapes Go.ChangeAt Go.RowKit
open Go.ChangeMaps (open_string shut_string)
open Go.Mt Go.Proofs
set_option linter.unusedVariables false
set_option linter.unusedSimpArgs false

theorem own : ownKnob Try.prog.godebug = none := by kernel_rfl
theorem laidOut : laidOutB Try.prog = true := by kernel_rfl

theorem walk (w : World) (a0 : Option Addr) (len0 cap0 : Nat) (z0 : List Int) (w0 : IsInts .u8 w a0 len0 cap0 z0) (hm0 : len0 ≤ 140737488355328) (s1 : ByteArray) (hs1 : s1.size ≤ maxLen) (a2 : Option Addr) (len2 cap2 : Nat) (z2 : List Int) (w2 : IsInts .i32 w a2 len2 cap2 z2) (hm2 : len2 ≤ 140737488355328) :
    Calls Try.prog 6 #[.slice a0 len0 cap0, .string s1, .slice a2 len2 cap2] w fun e w' => e = .returned (.bool true) ∧ Below w.heap.size w w' := by
  obtain ⟨zs0, v0, hin0, hrep0⟩ := handedI .u8 a0 len0 cap0 z0 w w0 hm0
  obtain ⟨zs2, v2, hin2, hrep2⟩ := handedI .i32 a2 len2 cap2 z2 w w2 hm2
  refine (SemErrs_true zs0 v0 hin0 s1 hs1 zs2 v2 hin2 (fun _ _ => False) w #[.slice a0 len0 cap0, .string s1, .slice a2 len2 cap2] (fun _ _ h => h.elim) ⟨rfl, ?_⟩).mono ?_
  · intro i d u h1 h2
    match i with
    | 0 => simp at h1 h2; subst h1; subst h2; exact hrep0
    | 1 => simp at h1 h2; subst h1; subst h2; exact .str _
    | 2 => simp at h1 h2; subst h1; subst h2; exact hrep2
    | i + 3 => simp at h1
  · rintro e w' ⟨u, r, rfl, rfl, hx, hr⟩
    refine ⟨?_, ⟨hx.os, hx.tape, hx.output, hx.size, hx.blk⟩⟩
    cases hr with
    | d h => cases h; rfl

set_option maxRecDepth 100000 in
theorem lifted (os : Os) (started : os.Started) (H : Type) (enc : TypeId × Value → H) :
    ReturnsInHanded {} Try.checked os 6 .any (Rows.semErrsSpec.pre6 enc Try.prog Try.f6 Rows.semErrsRow.domain false) (Rows.semErrsSpec.post enc Try.prog Try.f6 false true false false) := by
  refine returnsInHanded_of_change_sized (C := Try.checked) own started (by kernel_rfl) Try.func6
    (ChangeSpec.witness6 (enc := enc) (C := Try.checked) false ⟨#[], #[.slice none 0 0, .string ⟨#[]⟩, .slice none 0 0], []⟩ 8 (by kernel_rfl) (by kernel_rfl) (by kernel_rfl) (by kernel_rfl)) ?_
  intro W base args ds gs before hval0 hW hcnd hsz0 _
  have hval : ∀ (j : Nat) t v, Try.f6.params[j]? = some t → args[j]? = some v → Value.okWide Try.prog W .any base t v := hval0
  have hsz : (DataW.weightsEach Try.prog (Try.f6.params.toList ++ Rows.semErrsSpec.plain.varTypes Try.prog) (ds ++ gs)).all (· ≤ reachBytes) = true := hsz0
  have hW' := hW
  obtain ⟨p, q, hA0, hV, rfl, hfz, hnd⟩ := hW
  have hA : DataW.TrodAll enc Try.prog W 0 (fun _ => true) true Try.f6.params.toList args.toList ds p := hA0
  rw [Try.params6] at hA hval hsz
  obtain ⟨v0, vs0, d0, ds0, p0, q0, hargs0, rfl, rfl, h0, r0⟩ := trodAll_cons hA
  obtain ⟨v1, vs1, d1, ds1, p1, q1, hargs1, rfl, rfl, h1, r1⟩ := trodAll_cons r0
  obtain ⟨v2, vs2, d2, ds2, p2, q2, hargs2, rfl, rfl, h2, r2⟩ := trodAll_cons r1
  obtain ⟨rfl, rfl, rfl⟩ := trodAll_nil r2
  obtain rfl : args = #[v0, v1, v2] := by cases args; simp_all
  obtain ⟨rfl, rfl⟩ := trodVars_none hV
  have k0 := h0
  have lt0 : ∀ x ∈ p0, x.block < W.heap.size := by obtain ⟨m, hm⟩ := k0; exact DataW.trod_lt m _ _ _ hm
  obtain ⟨a0, len0, cap0, rfl⟩ := okWide_slice Try.underlying24 (hval 0 24 v0 rfl rfl)
  obtain ⟨z0, w0, hmax0⟩ : ∃ zs, IsInts .u8 W a0 len0 cap0 zs ∧ len0 ≤ 140737488355328 := by
    obtain ⟨fuel, hf⟩ := h0
    rcases open_ints Try.underlying24 Try.underlying5 (by kernel_rfl) hf with ⟨hcs, _⟩ | ⟨x, l, c, zs, hcs, _, hl, hm, hz, hx, hcell, hwz⟩
    · simp [Value.cells] at hcs
      obtain ⟨rfl, rfl, rfl⟩ := hcs
      exact ⟨[], .inl ⟨rfl, rfl, rfl, rfl⟩, by omega⟩
    · simp [Value.cells] at hcs
      obtain ⟨rfl, rfl, rfl⟩ := hcs
      refine ⟨zs, .inr ⟨_, rfl, hl, hm, by simpa using hz, hcell, hwz⟩, ?_⟩
      have hd : d0 = .slice (lits .u8 (zs.take len0)) (lits .u8 (zs.drop len0)) := by injection hx
      have h1 := sized_slice hsz (j := 0) (t := 24) (elems := lits .u8 (zs.take len0)) (spare := lits .u8 (zs.drop len0)) rfl (by rw [hd]; rfl) Try.underlying24
      have h2 : ∃ nb, Try.prog.bytesOf 5 = nb + 1 := ⟨0, by kernel_rfl⟩
      obtain ⟨nb, h2⟩ := h2
      rw [h2] at h1
      have h3 := reachBytes_lt
      have h4 : (lits (H := H) .u8 (zs.take len0)).length = len0 := by
        simp [lits]
        simp at hz
        omega
      have h5 : len0 ≤ len0 * (nb + 1) := Nat.le_mul_of_pos_right _ (by omega)
      have h6 : (lits (H := H) .u8 (zs.take len0)).length * (nb + 1) = len0 * (nb + 1) := by rw [h4]
      have h7 : (lits (H := H) .u8 (zs.take len0)).length * (nb + 1) ≤ ((lits (H := H) .u8 (zs.take len0)).length + (lits (H := H) .u8 (zs.drop len0)).length) * (nb + 1) := Nat.mul_le_mul_right _ (Nat.le_add_right _ _)
      omega
  have k1 := h1
  have lt1 : ∀ x ∈ p1, x.block < W.heap.size := by obtain ⟨m, hm⟩ := k1; exact DataW.trod_lt m _ _ _ hm
  obtain ⟨s1, rfl, _, _, hs1⟩ := open_string Try.underlying9 (hval 1 9 v1 rfl rfl) h1
  have k2 := h2
  have lt2 : ∀ x ∈ p2, x.block < W.heap.size := by obtain ⟨m, hm⟩ := k2; exact DataW.trod_lt m _ _ _ hm
  obtain ⟨a2, len2, cap2, rfl⟩ := okWide_slice Try.underlying40 (hval 2 40 v2 rfl rfl)
  obtain ⟨z2, w2, hmax2⟩ : ∃ zs, IsInts .i32 W a2 len2 cap2 zs ∧ len2 ≤ 140737488355328 := by
    obtain ⟨fuel, hf⟩ := h2
    rcases open_ints Try.underlying40 Try.underlying21 (by kernel_rfl) hf with ⟨hcs, _⟩ | ⟨x, l, c, zs, hcs, _, hl, hm, hz, hx, hcell, hwz⟩
    · simp [Value.cells] at hcs
      obtain ⟨rfl, rfl, rfl⟩ := hcs
      exact ⟨[], .inl ⟨rfl, rfl, rfl, rfl⟩, by omega⟩
    · simp [Value.cells] at hcs
      obtain ⟨rfl, rfl, rfl⟩ := hcs
      refine ⟨zs, .inr ⟨_, rfl, hl, hm, by simpa using hz, hcell, hwz⟩, ?_⟩
      have hd : d2 = .slice (lits .i32 (zs.take len2)) (lits .i32 (zs.drop len2)) := by injection hx
      have h1 := sized_slice hsz (j := 2) (t := 40) (elems := lits .i32 (zs.take len2)) (spare := lits .i32 (zs.drop len2)) rfl (by rw [hd]; rfl) Try.underlying40
      have h2 : ∃ nb, Try.prog.bytesOf 21 = nb + 1 := ⟨3, by kernel_rfl⟩
      obtain ⟨nb, h2⟩ := h2
      rw [h2] at h1
      have h3 := reachBytes_lt
      have h4 : (lits (H := H) .i32 (zs.take len2)).length = len2 := by
        simp [lits]
        simp at hz
        omega
      have h5 : len2 ≤ len2 * (nb + 1) := Nat.le_mul_of_pos_right _ (by omega)
      have h6 : (lits (H := H) .i32 (zs.take len2)).length * (nb + 1) = len2 * (nb + 1) := by rw [h4]
      have h7 : (lits (H := H) .i32 (zs.take len2)).length * (nb + 1) ≤ ((lits (H := H) .i32 (zs.take len2)).length + (lits (H := H) .i32 (zs.drop len2)).length) * (nb + 1) := Nat.mul_le_mul_right _ (Nat.le_add_right _ _)
      omega
  clear hA0 hval0
  refine (walk W a0 len0 cap0 z0 w0 hmax0 s1 hs1 a2 len2 cap2 z2 w2 hmax2).mono fun e W' ⟨he, bel⟩ => ?_
  subst he
  exact ⟨_, rfl, _, _, _, [], _, [], hW', trodAll_mk1 (shut_bool Try.underlying4 _), (trodAll_cons_mk (Below.trod laidOut (by kernel_rfl) (of_decide_eq_true (by kernel_rfl)) k0 bel lt0) (trodAll_cons_mk (Below.trod laidOut (by kernel_rfl) (of_decide_eq_true (by kernel_rfl)) k1 bel lt1) (trodAll_cons_mk (Below.trod laidOut (by kernel_rfl) (of_decide_eq_true (by kernel_rfl)) k2 bel lt2) trodAll_mk0))), rfl, bel.frame _, fun h => by cases h⟩

theorem over : Rows.semErrsRow.holds Try.pinned (OpenSpec.ofChange Rows.semErrsSpec) :=
  OpenClaim.holds_of_wide 6 Try.f6 rfl rfl rfl rfl rfl rfl rfl ⟨rfl, rfl, rfl, rfl, rfl⟩ rfl rfl rfl rfl rfl (by kernel_rfl) Try.func6 (by kernel_rfl)
    (of_decide_eq_true (by kernel_rfl)) (by unfold Func.isWrapper; first | (rw [if_pos (by decide +kernel)]; kernel_rfl) | (rw [if_neg (by decide +kernel)]; exact ⟨rfl, rfl⟩))
    (fun os started H enc _ => lifted os started H enc)

theorem proved : Rows.SemErrsSaid := over
#print axioms proved
end Go.Proofs.Ytcmjcdiaidalgaa.semErrsDone
