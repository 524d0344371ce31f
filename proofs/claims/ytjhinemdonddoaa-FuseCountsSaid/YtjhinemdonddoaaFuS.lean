import Derived.Test.YtjhinemdonddoaaFuN
import Derived.Test.YtjhinemdonddoaaRows
import Derived.WalkKit
import Derived.ProofKit
import Derived.OpenShut
import Derived.ShutString
import Derived.ChangeOld
import Derived.Below
import Derived.SizedLaws
namespace Go.Proofs.Ytjhinemdonddoaa.fuseCountsDone
open Go.ChangeShapes Go.WideShapes Go.ChangeAt Go.RowKit
open Go.ChangeMaps (open_string shut_string)
open Go.Mt Go.Proofs
set_option linter.unusedVariables false
set_option linter.unusedSimpArgs false

theorem own : ownKnob Try.prog.godebug = none := by kernel_rfl
theorem laidOut : laidOutB Try.prog = true := by kernel_rfl

/-- what is known of a slice of integers that came in -/
def IsRow (k : IntKind) (w : World) (a : Option Addr) (len cap : Nat) (zs : List Int) : Prop :=
  (a = none ∧ len = 0 ∧ cap = 0 ∧ zs = []) ∨
  ∃ x, a = some x ∧ len ≤ cap ∧ cap ≤ maxLen ∧ zs.length = cap ∧ (∀ i, i < zs.length → w.cell? (x.add i) = some (.int k (zs.getD i 0))) ∧ ∀ n ∈ zs, (Lit.int k n).wf = true

theorem wf_u8 {n : Int} (h : (Lit.int .u8 n).wf = true) : 0 ≤ n ∧ n < 256 := by
  have h1 : IntKind.u8.min = 0 := by decide
  have h2 : IntKind.u8.max = 255 := by decide
  simp [Lit.wf] at h
  omega

theorem handed (a0 : Option Addr) (len0 cap0 : Nat) (z0 : List Int) (w : World) (w0 : IsRow .u8 w a0 len0 cap0 z0) (hm : len0 ≤ 140737488355328) :
    ∃ (bs : List Nat) (v : D), InE bs v ∧ Rep (fun _ _ => False) w v (.slice a0 len0 cap0) := by
  rcases w0 with ⟨rfl, rfl, rfl, rfl⟩ | ⟨x, rfl, hl, hm2, hz, hcell, hwz⟩
  · exact ⟨[], .sl [], ⟨rfl, .inl rfl, by simp⟩, .slnil none⟩
  · by_cases h0 : len0 = 0
    · subst h0
      exact ⟨[], .slz, ⟨rfl, .inl rfl, by simp⟩, .slz _ _⟩
    · obtain ⟨b, off, spot⟩ := x
      have hc := hcell 0 (by omega)
      have hspot : spot = none := by simpa [Addr.add] using World.cell?_spot hc
      subst hspot
      have hlen : ((z0.take len0).map Int.toNat).length = len0 := by simp; omega
      have hrl : (bytesD ((z0.take len0).map Int.toNat)).length = len0 := by simp [bytesD]; omega
      have hget : ∀ i, i < len0 → 0 ≤ z0.getD i 0 ∧ z0.getD i 0 < 256 := by
        intro i hi
        have : z0.getD i 0 = z0[i]'(by omega) := by simp [show i < z0.length by omega]
        rw [this]
        exact wf_u8 (hwz _ (List.getElem_mem _))
      refine ⟨(z0.take len0).map Int.toNat, .sl (bytesD ((z0.take len0).map Int.toNat)), ⟨by simp [slLen, bytesD], .inr rfl, ?_⟩, ?_⟩
      · intro q hq
        obtain ⟨n, hn, rfl⟩ := List.mem_map.1 hq
        have := wf_u8 (hwz n (List.mem_of_mem_take hn))
        omega
      · have := Rep.sl (O := fun _ _ => False) (w := w) (bytesD ((z0.take len0).map Int.toNat)) b off cap0 1 (fun i _ => .int .u8 (z0.getD i 0)) (by intro h; rw [h] at hrl; simp at hrl; omega) (by omega) (by omega)
          (by intro r hr; rw [bytesD] at hr; obtain ⟨_, _, rfl⟩ := List.mem_map.1 hr; rfl)
          (by
            intro i j hi hj
            obtain rfl : j = 0 := by omega
            refine ⟨?_, fun h => h⟩
            have := hcell i (by omega)
            rcases Nat.eq_zero_or_pos i with rfl | hp
            · simpa [cellv, Addr.add] using this
            · simpa [cellv, Addr.add, Nat.ne_of_gt hp] using this)
          (by intro i j _ _; rfl)
          (by
            intro i j r d hr hd
            have hi : i < len0 := by
              rcases Nat.lt_or_ge i len0 with h | h
              · exact h
              · rw [List.getElem?_eq_none (by omega)] at hr; cases hr
            have hg := hget i hi
            rw [bytesD, List.map_map, List.getElem?_map, Option.map_eq_some_iff] at hr
            obtain ⟨y, hy, rfl⟩ := hr
            cases j with
            | zero =>
              simp only [Function.comp, List.getElem?_cons_zero, Option.some.injEq] at hd
              subst hd
              have e : y = z0.getD i 0 := by
                have h1 : (z0.take len0)[i]? = some y := hy
                rw [List.getElem?_take] at h1
                simp [hi] at h1
                simp [h1]
              have e2 : ((y.toNat : Nat) : Int) = y := by omega
              rw [e2, e]; exact .int _ _
            | succ j => simp [Function.comp] at hd)
        rw [hrl] at this
        exact this

theorem walk (a0 : Option Addr) (len0 cap0 : Nat) (z0 : List Int) (w : World) (w0 : IsRow .u8 w a0 len0 cap0 z0) (hm : len0 ≤ 140737488355328) :
    Calls Try.prog 4 #[.slice a0 len0 cap0] w fun e w' => e = .returned (.bool true) ∧ Below w.heap.size w w' := by
  obtain ⟨bs, v, hin, hrep⟩ := handed a0 len0 cap0 z0 w w0 hm
  refine (FuseCounts_true bs v hin (fun _ _ => False) w #[.slice a0 len0 cap0] (fun _ _ h => h.elim) ⟨rfl, ?_⟩).mono ?_
  · intro i d u h1 h2
    cases i with
    | zero => simp at h1 h2; subst h1; subst h2; exact hrep
    | succ i => simp at h1
  · rintro e w' ⟨u, r, rfl, rfl, hx, hr⟩
    refine ⟨?_, ⟨hx.os, hx.tape, hx.output, hx.size, hx.blk⟩⟩
    cases hr with
    | d h => cases h; rfl

set_option maxRecDepth 100000 in
theorem lifted (os : Os) (started : os.Started) (H : Type) (enc : TypeId × Value → H) :
    ReturnsInHanded {} Try.checked os 4 .any (Rows.fuseCountsSpec.pre6 enc Try.prog Try.f4 Rows.fuseCountsRow.domain false) (Rows.fuseCountsSpec.post enc Try.prog Try.f4 false true false false) := by
  refine returnsInHanded_of_change_sized (C := Try.checked) own started (by kernel_rfl) Try.func4
    (ChangeSpec.witness6 (enc := enc) (C := Try.checked) false ⟨#[], #[.slice none 0 0], []⟩ 8 (by kernel_rfl) (by kernel_rfl) (by kernel_rfl) (by kernel_rfl)) ?_
  intro W base args ds gs before hval0 hW hcnd hsz0 _
  have hval : ∀ (j : Nat) t v, Try.f4.params[j]? = some t → args[j]? = some v → Value.okWide Try.prog W .any base t v := hval0
  have hsz : (DataW.weightsEach Try.prog (Try.f4.params.toList ++ Rows.fuseCountsSpec.plain.varTypes Try.prog) (ds ++ gs)).all (· ≤ reachBytes) = true := hsz0
  have hW' := hW
  obtain ⟨p, q, hA0, hV, rfl, hfz, hnd⟩ := hW
  have hA : DataW.TrodAll enc Try.prog W 0 (fun _ => true) true Try.f4.params.toList args.toList ds p := hA0
  rw [Try.params4] at hA hval hsz
  obtain ⟨v0, vs0, d0, ds0, p0, q0, hargs, rfl, rfl, h0, r0⟩ := trodAll_cons hA
  obtain ⟨rfl, rfl, rfl⟩ := trodAll_nil r0
  obtain rfl : args = #[v0] := by cases args; simp_all
  obtain ⟨rfl, rfl⟩ := trodVars_none hV
  obtain ⟨a0, len0, cap0, rfl⟩ := okWide_slice Try.underlying22 (hval 0 22 v0 rfl rfl)
  have k0 := h0
  have lt0 : ∀ x ∈ p0, x.block < W.heap.size := by obtain ⟨m, hm⟩ := k0; exact DataW.trod_lt m _ _ _ hm
  obtain ⟨z0, w0, hmax⟩ : ∃ zs, IsRow .u8 W a0 len0 cap0 zs ∧ len0 ≤ 140737488355328 := by
    obtain ⟨fuel, hf⟩ := h0
    rcases open_ints Try.underlying22 Try.underlying5 (by kernel_rfl) hf with ⟨hcs, _⟩ | ⟨x, l, c, zs, hcs, _, hl, hm, hz, hx, hcell, hwz⟩
    · simp [Value.cells] at hcs
      obtain ⟨rfl, rfl, rfl⟩ := hcs
      exact ⟨[], .inl ⟨rfl, rfl, rfl, rfl⟩, by omega⟩
    · simp [Value.cells] at hcs
      obtain ⟨rfl, rfl, rfl⟩ := hcs
      refine ⟨zs, .inr ⟨_, rfl, hl, hm, by simpa using hz, hcell, hwz⟩, ?_⟩
      have hd : d0 = .slice (lits .u8 (zs.take len0)) (lits .u8 (zs.drop len0)) := by injection hx
      have h1 := sized_slice hsz (j := 0) (t := 22) (elems := lits .u8 (zs.take len0)) (spare := lits .u8 (zs.drop len0)) rfl (by rw [hd]; rfl) Try.underlying22
      have h2 : Try.prog.bytesOf 5 = 1 := by kernel_rfl
      rw [h2] at h1
      have h3 := reachBytes_lt
      have h4 : (lits (H := H) .u8 (zs.take len0)).length = len0 := by
        simp [lits]
        simp at hz
        omega
      omega
  clear hA0 hval0
  refine (walk a0 len0 cap0 z0 W w0 hmax).mono fun e W' ⟨he, bel⟩ => ?_
  subst he
  exact ⟨_, rfl, _, _, _, [], _, [], hW', trodAll_mk1 (shut_bool Try.underlying4 _), (trodAll_cons_mk (Below.trod laidOut (by kernel_rfl) (of_decide_eq_true (by kernel_rfl)) k0 bel lt0) trodAll_mk0), rfl, bel.frame _, fun h => by cases h⟩

theorem over : Rows.fuseCountsRow.holds Try.pinned (OpenSpec.ofChange Rows.fuseCountsSpec) :=
  OpenClaim.holds_of_wide 4 Try.f4 rfl rfl rfl rfl rfl rfl rfl ⟨rfl, rfl, rfl, rfl, rfl⟩ rfl rfl rfl rfl rfl (by kernel_rfl) Try.func4 (by kernel_rfl)
    (of_decide_eq_true (by kernel_rfl)) (by unfold Func.isWrapper; first | (rw [if_pos (by decide +kernel)]; kernel_rfl) | (rw [if_neg (by decide +kernel)]; exact ⟨rfl, rfl⟩))
    (fun os started H enc _ => lifted os started H enc)

theorem proved : Rows.FuseCountsSaid := over
#print axioms proved
end Go.Proofs.Ytjhinemdonddoaa.fuseCountsDone

