/- The statement of FlowResets: proved for every input, without conditions (beyond the form's own reach). -/
import Derived.Test.YtjhinemdonddoaaFlB
import Derived.Test.YtjhinemdonddoaaRows
import Derived.WalkKit
import Derived.ProofKit
import Derived.OpenShut
import Derived.ShutString
import Derived.ChangeOld
import Derived.Below
import Derived.SizedLaws
import Derived.Deep.Grids
namespace Go.Proofs.Ytjhinemdonddoaa.flowResetsDone
open Go.ChangeShapes Go.WideShapes Go.ChangeAt Go.RowKit
open Go.ChangeMaps (open_string shut_string)
open Go.Mt Go.Proofs
set_option linter.unusedVariables false
set_option linter.unusedSimpArgs false

theorem own : ownKnob Try.prog.godebug = none := by kernel_rfl
theorem laidOut : laidOutB Try.prog = true := by kernel_rfl


/-- what is known of a slice of booleans that came in -/
def IsBools (w : World) (a : Option Addr) (len cap : Nat) (B : Nat → Bool) : Prop :=
  (a = none ∧ len = 0 ∧ cap = 0) ∨ ∃ x, a = some x ∧ len ≤ cap ∧ cap ≤ maxLen ∧ ∀ i, i < cap → w.cell? (x.add i) = some (.bool (B i))

theorem handedB (a0 : Option Addr) (len0 cap0 : Nat) (B : Nat → Bool) (w : World) (w0 : IsBools w a0 len0 cap0 B) (hm : len0 ≤ 140737488355328) :
    ∃ (bs : List Bool) (v : D), InB bs v ∧ Rep (fun _ _ => False) w v (.slice a0 len0 cap0) := by
  rcases w0 with ⟨rfl, rfl, rfl⟩ | ⟨x, rfl, hl, hm2, hcell⟩
  · exact ⟨[], .sl [], ⟨rfl, .inl rfl⟩, .slnil none⟩
  · by_cases h0 : len0 = 0
    · subst h0
      exact ⟨[], .slz, ⟨rfl, .inl rfl⟩, .slz _ _⟩
    · obtain ⟨b, off, spot⟩ := x
      have hc := hcell 0 (by omega)
      have hspot : spot = none := by simpa [Addr.add] using World.cell?_spot hc
      subst hspot
      have hrl : (boolsD ((List.range len0).map B)).length = len0 := by simp [boolsD]
      refine ⟨(List.range len0).map B, .sl (boolsD ((List.range len0).map B)), ⟨by simp [slLen, boolsD], .inr rfl⟩, ?_⟩
      have := Rep.sl (O := fun _ _ => False) (w := w) (boolsD ((List.range len0).map B)) b off cap0 1 (fun i _ => .bool (B i)) (by intro h; rw [h] at hrl; simp at hrl; omega) (by omega) (by omega)
          (by intro r hr; rw [boolsD] at hr; obtain ⟨_, _, rfl⟩ := List.mem_map.1 hr; rfl)
          (by
            intro i j hi hj
            obtain rfl : j = 0 := by omega
            refine ⟨?_, fun h => h⟩
            have := hcell i (by omega)
            rcases Nat.eq_zero_or_pos i with rfl | hp
            · simpa [cellv, Addr.add] using this
            · simpa [cellv, Addr.add, Nat.ne_of_gt hp] using this)
          (by intro i j _ _; rfl)
          (by
            intro i j r d hr hd
            have hi : i < len0 := by
              rcases Nat.lt_or_ge i len0 with h | h
              · exact h
              · rw [List.getElem?_eq_none (by omega)] at hr; cases hr
            simp [boolsD, hi] at hr
            subst hr
            cases j with
            | zero => simp at hd; subst hd; exact .bool _
            | succ j => simp at hd)
      rw [hrl] at this
      exact this


theorem walk (a0 : Option Addr) (len0 cap0 : Nat) (B0 : Nat → Bool) (w : World) (w0 : IsBools w a0 len0 cap0 B0) (hm0 : len0 ≤ 140737488355328) :
    Calls Try.prog 6 #[.slice a0 len0 cap0] w fun e w' => e = .returned (.bool true) ∧ Below w.heap.size w w' := by
  obtain ⟨bs0, v0, hin0, hrep0⟩ := handedB a0 len0 cap0 B0 w w0 hm0
  refine (FlowResets_true bs0 v0 hin0 (fun _ _ => False) w #[.slice a0 len0 cap0] (fun _ _ h => h.elim) ⟨rfl, ?_⟩).mono ?_
  · intro i d u h1 h2
    match i with
    | 0 => simp at h1 h2; subst h1; subst h2; exact hrep0
    | i + 1 => simp at h1
  · rintro e w' ⟨u, r, rfl, rfl, hx, hr⟩
    refine ⟨?_, ⟨hx.os, hx.tape, hx.output, hx.size, hx.blk⟩⟩
    cases hr with
    | d h => cases h; rfl

set_option maxRecDepth 100000 in
theorem lifted (os : Os) (started : os.Started) (H : Type) (enc : TypeId × Value → H) :
    ReturnsInHanded {} Try.checked os 6 .any (Rows.flowResetsSpec.pre6 enc Try.prog Try.f6 Rows.flowResetsRow.domain false) (Rows.flowResetsSpec.post enc Try.prog Try.f6 false true false false) := by
  refine returnsInHanded_of_change_sized (C := Try.checked) own started (by kernel_rfl) Try.func6
    (ChangeSpec.witness6 (enc := enc) (C := Try.checked) false ⟨#[], #[.slice none 0 0], []⟩ 8 (by kernel_rfl) (by kernel_rfl) (by kernel_rfl) (by kernel_rfl)) ?_
  intro W base args ds gs before hval0 hW hcnd hsz0 _
  have hval : ∀ (j : Nat) t v, Try.f6.params[j]? = some t → args[j]? = some v → Value.okWide Try.prog W .any base t v := hval0
  have hsz : (DataW.weightsEach Try.prog (Try.f6.params.toList ++ Rows.flowResetsSpec.plain.varTypes Try.prog) (ds ++ gs)).all (· ≤ reachBytes) = true := hsz0
  have hW' := hW
  obtain ⟨p, q, hA0, hV, rfl, hfz, hnd⟩ := hW
  have hA : DataW.TrodAll enc Try.prog W 0 (fun _ => true) true Try.f6.params.toList args.toList ds p := hA0
  rw [Try.params6] at hA hval hsz
  obtain ⟨v0, vs0, d0, ds0, p0, q0, hargs0, rfl, rfl, h0, r0⟩ := trodAll_cons hA
  obtain ⟨rfl, rfl, rfl⟩ := trodAll_nil r0
  obtain rfl : args = #[v0] := by cases args; simp_all
  obtain ⟨rfl, rfl⟩ := trodVars_none hV
  obtain ⟨a0, len0, cap0, rfl⟩ := okWide_slice Try.underlying34 (hval 0 34 v0 rfl rfl)
  have k0 := h0
  have lt0 : ∀ x ∈ p0, x.block < W.heap.size := by obtain ⟨m, hm⟩ := k0; exact DataW.trod_lt m _ _ _ hm
  obtain ⟨B0, w0, hmax0⟩ : ∃ B, IsBools W a0 len0 cap0 B ∧ len0 ≤ 140737488355328 := by
    obtain ⟨fuel, hf⟩ := h0
    rcases Deep.open_bools Try.underlying34 Try.underlying4 (by kernel_rfl) hf with ⟨hcs, _⟩ | ⟨x, l, c, B, hcs, _, hl, hm, hx, hcell⟩
    · simp [Value.cells] at hcs
      obtain ⟨rfl, rfl, rfl⟩ := hcs
      exact ⟨fun _ => false, .inl ⟨rfl, rfl, rfl⟩, by omega⟩
    · simp [Value.cells] at hcs
      obtain ⟨rfl, rfl, rfl⟩ := hcs
      refine ⟨B, .inr ⟨_, rfl, hl, hm, hcell⟩, ?_⟩
      have hd : d0 = .slice ((List.range len0).map fun i => .lit (.bool (B i))) ((List.range (cap0 - len0)).map fun j => .lit (.bool (B (len0 + j)))) := by injection hx
      have h1 := sized_slice hsz (j := 0) (t := 34) (elems := (List.range len0).map fun i => .lit (.bool (B i))) (spare := (List.range (cap0 - len0)).map fun j => .lit (.bool (B (len0 + j)))) rfl (by rw [hd]; rfl) Try.underlying34
      have h2 : Try.prog.bytesOf 4 = 1 := by kernel_rfl
      rw [h2] at h1
      have h3 := reachBytes_lt
      simp at h1
      omega
  clear hA0 hval0
  refine (walk a0 len0 cap0 B0 W w0 hmax0).mono fun e W' ⟨he, bel⟩ => ?_
  subst he
  exact ⟨_, rfl, _, _, _, [], _, [], hW', trodAll_mk1 (shut_bool Try.underlying4 _), (trodAll_cons_mk (Below.trod laidOut (by kernel_rfl) (of_decide_eq_true (by kernel_rfl)) k0 bel lt0) trodAll_mk0), rfl, bel.frame _, fun h => by cases h⟩

theorem over : Rows.flowResetsRow.holds Try.pinned (OpenSpec.ofChange Rows.flowResetsSpec) :=
  OpenClaim.holds_of_wide 6 Try.f6 rfl rfl rfl rfl rfl rfl rfl ⟨rfl, rfl, rfl, rfl, rfl⟩ rfl rfl rfl rfl rfl (by kernel_rfl) Try.func6 (by kernel_rfl)
    (of_decide_eq_true (by kernel_rfl)) (by unfold Func.isWrapper; first | (rw [if_pos (by decide +kernel)]; kernel_rfl) | (rw [if_neg (by decide +kernel)]; exact ⟨rfl, rfl⟩))
    (fun os started H enc _ => lifted os started H enc)

theorem proved : Rows.FlowResetsSaid := over
#print axioms proved
end Go.Proofs.Ytjhinemdonddoaa.flowResetsDone
