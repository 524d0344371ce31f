/- Inputs as they come in: slices of booleans and of integers as data; and the ends of loops' rounds. -/
import Derived.Test.YtjhinemdonddoaaMtEm
import Derived.WalkKit
import Derived.ProofKit
import Derived.OpenShut
set_option linter.unusedVariables false
set_option linter.unusedSimpArgs false
namespace Go.Mt

/-- the end of a round -/
theorem again {X : Ctx} {I : Nat → St → Prop} {k k' : Nat} {sl sl' : List (Nat × V)} {bx : List (Nat × List M)} {H H' : Hp} (hk : k' < k) (hI : I k' ⟨sl', bx, H'⟩) (hH : H = H') (hs : keeps sl sl') :
    ∃ k' s'', k' < k ∧ I k' s'' ∧ ∀ a w, Inv X ⟨sl, bx, H⟩ a w → Inv X s'' a w :=
  ⟨k', _, hk, hI, fun _ _ hi => by subst hH; exact hi.weak (keeps_get hs) (fun _ => rfl)⟩
theorem TC.loopB {X : Ctx} {c : Code} {sl : List (Nat × V)} {bx : List (Nat × List M)} {H : Hp} {post : Exit → St → Prop} (I : Nat → St → Prop) (k0 : Nat) (sl' : List (Nat × V)) (h0 : I k0 ⟨sl', bx, H⟩) (hs : keeps sl sl')
    (round : ∀ k s, I k s → TC X c s (after post fun s' => ∃ k' s'', k' < k ∧ I k' s'' ∧ ∀ a w, Inv X s' a w → Inv X s'' a w)) : TC X (.loop c) ⟨sl, bx, H⟩ post :=
  TC.loop' I k0 _ h0 (fun a w hi => hi.weak (keeps_get hs) fun _ => rfl) round
theorem TC.rename {X : Ctx} {c : Code} {q : Exit → St → Prop} (sl' : List (Nat × V)) (H' : Hp) {sl : List (Nat × V)} {bx : List (Nat × List M)} {H : Hp} (hs : keeps sl sl') (hH : H = H') (k : TC X c ⟨sl', bx, H'⟩ q) : TC X c ⟨sl, bx, H⟩ q := by
  subst hH; exact TC.weak k hs
theorem TC.seqMid {X : Ctx} {st : St} {post : Exit → St → Prop} {x y : Code} (st' : St) (ha : TC X x st (after post fun s => ∀ a w, Inv X s a w → Inv X st' a w)) (hb : TC X y st' post) : TC X (.seq x y) st post :=
  TC.seq (ha.mono fun e s h => by
    cases e with
    | normal => exact fun a w hi => hb a w (h a w hi)
    | _ => exact h)
theorem down {X : Ctx} {sl sl' : List (Nat × V)} {bx : List (Nat × List M)} {H H' : Hp} (hH : H = H') (hs : keeps sl sl') : ∀ a w, Inv X ⟨sl, bx, H⟩ a w → Inv X ⟨sl', bx, H'⟩ a w :=
  fun _ _ hi => by subst hH; exact hi.weak (keeps_get hs) (fun _ => rfl)

def boolsD (bs : List Bool) : List (List D) := bs.map fun b => [.bool b]
/-- a slice of booleans that came in, of any length -/
def InB (bs : List Bool) (v : D) : Prop := slLen v = some bs.length ∧ (bs = [] ∨ v = .sl (boolsD bs))
theorem boolsD_get {bs : List Bool} {i : Nat} {b : Bool} (h : bs[i]? = some b) : (boolsD bs)[((i : Nat) : Int).toNat]? = some [.bool b] := by simp [boolsD, h]
def intsD (k : IntKind) (zs : List Int) : List (List D) := zs.map fun z => [.int k z]
/-- a slice of integers that came in, of any length -/
def InI (k : IntKind) (zs : List Int) (v : D) : Prop := slLen v = some zs.length ∧ (zs = [] ∨ v = .sl (intsD k zs)) ∧ ∀ z ∈ zs, (Lit.int k z).wf = true
theorem intsD_get {k : IntKind} {zs : List Int} {i : Nat} {z : Int} (h : zs[i]? = some z) : (intsD k zs)[((i : Nat) : Int).toNat]? = some [.int k z] := by simp [intsD, h]

/-- what is known of a slice of booleans that came in -/
def IsBools (w : World) (a : Option Addr) (len cap : Nat) (B : Nat → Bool) : Prop :=
  (a = none ∧ len = 0 ∧ cap = 0) ∨ ∃ x, a = some x ∧ len ≤ cap ∧ cap ≤ maxLen ∧ ∀ i, i < cap → w.cell? (x.add i) = some (.bool (B i))
theorem handedB (a0 : Option Addr) (len0 cap0 : Nat) (B : Nat → Bool) (w : World) (w0 : IsBools w a0 len0 cap0 B) (hm : len0 ≤ 140737488355328) :
    ∃ (bs : List Bool) (v : D), InB bs v ∧ Rep (fun _ _ => False) w v (.slice a0 len0 cap0) := by
  rcases w0 with ⟨rfl, rfl, rfl⟩ | ⟨x, rfl, hl, hm2, hcell⟩
  · exact ⟨[], .sl [], ⟨rfl, .inl rfl⟩, .slnil none⟩
  · by_cases h0 : len0 = 0
    · subst h0
      exact ⟨[], .slz, ⟨rfl, .inl rfl⟩, .slz _ _⟩
    · obtain ⟨b, off, spot⟩ := x
      have hc := hcell 0 (by omega)
      have hspot : spot = none := by simpa [Addr.add] using World.cell?_spot hc
      subst hspot
      have hrl : (boolsD ((List.range len0).map B)).length = len0 := by simp [boolsD]
      refine ⟨(List.range len0).map B, .sl (boolsD ((List.range len0).map B)), ⟨by simp [slLen, boolsD], .inr rfl⟩, ?_⟩
      have := Rep.sl (O := fun _ _ => False) (w := w) (boolsD ((List.range len0).map B)) b off cap0 1 (fun i _ => .bool (B i)) (by intro h; rw [h] at hrl; simp at hrl; omega) (by omega) (by omega)
          (by intro r hr; rw [boolsD] at hr; obtain ⟨_, _, rfl⟩ := List.mem_map.1 hr; rfl)
          (by
            intro i j hi hj
            obtain rfl : j = 0 := by omega
            refine ⟨?_, fun h => h⟩
            have := hcell i (by omega)
            rcases Nat.eq_zero_or_pos i with rfl | hp
            · simpa [cellv, Addr.add] using this
            · simpa [cellv, Addr.add, Nat.ne_of_gt hp] using this)
          (by intro i j _ _; rfl)
          (by
            intro i j r d hr hd
            have hi : i < len0 := by
              rcases Nat.lt_or_ge i len0 with h | h
              · exact h
              · rw [List.getElem?_eq_none (by omega)] at hr; cases hr
            simp [boolsD, hi] at hr
            subst hr
            cases j with
            | zero => simp at hd; subst hd; exact .bool _
            | succ j => simp at hd)
      rw [hrl] at this
      exact this

/-- what is known of a slice of integers that came in -/
def IsInts (k : IntKind) (w : World) (a : Option Addr) (len cap : Nat) (zs : List Int) : Prop :=
  (a = none ∧ len = 0 ∧ cap = 0 ∧ zs = []) ∨
  ∃ x, a = some x ∧ len ≤ cap ∧ cap ≤ maxLen ∧ zs.length = cap ∧ (∀ i, i < zs.length → w.cell? (x.add i) = some (.int k (zs.getD i 0))) ∧ ∀ n ∈ zs, (Lit.int k n).wf = true
theorem handedI (k : IntKind) (a0 : Option Addr) (len0 cap0 : Nat) (z0 : List Int) (w : World) (w0 : IsInts k w a0 len0 cap0 z0) (hm : len0 ≤ 140737488355328) :
    ∃ (zs : List Int) (v : D), InI k zs v ∧ Rep (fun _ _ => False) w v (.slice a0 len0 cap0) := by
  rcases w0 with ⟨rfl, rfl, rfl, rfl⟩ | ⟨x, rfl, hl, hm2, hz, hcell, hwz⟩
  · exact ⟨[], .sl [], ⟨rfl, .inl rfl, by simp⟩, .slnil none⟩
  · by_cases h0 : len0 = 0
    · subst h0
      exact ⟨[], .slz, ⟨rfl, .inl rfl, by simp⟩, .slz _ _⟩
    · obtain ⟨b, off, spot⟩ := x
      have hc := hcell 0 (by omega)
      have hspot : spot = none := by simpa [Addr.add] using World.cell?_spot hc
      subst hspot
      have hrl : (intsD k (z0.take len0)).length = len0 := by simp [intsD]; omega
      refine ⟨z0.take len0, .sl (intsD k (z0.take len0)), ⟨by simp [slLen, intsD], .inr rfl, fun z hz => hwz z (List.mem_of_mem_take hz)⟩, ?_⟩
      have := Rep.sl (O := fun _ _ => False) (w := w) (intsD k (z0.take len0)) b off cap0 1 (fun i _ => .int k (z0.getD i 0)) (by intro h; rw [h] at hrl; simp at hrl; omega) (by omega) (by omega)
          (by intro r hr; rw [intsD] at hr; obtain ⟨_, _, rfl⟩ := List.mem_map.1 hr; rfl)
          (by
            intro i j hi hj
            obtain rfl : j = 0 := by omega
            refine ⟨?_, fun h => h⟩
            have := hcell i (by omega)
            rcases Nat.eq_zero_or_pos i with rfl | hp
            · simpa [cellv, Addr.add] using this
            · simpa [cellv, Addr.add, Nat.ne_of_gt hp] using this)
          (by intro i j _ _; rfl)
          (by
            intro i j r d hr hd
            have hi : i < len0 := by
              rcases Nat.lt_or_ge i len0 with h | h
              · exact h
              · rw [List.getElem?_eq_none (by omega)] at hr; cases hr
            have hiz : i < z0.length := by omega
            simp [intsD, hi, hiz] at hr
            subst hr
            cases j with
            | zero => simp at hd; subst hd; simp [hiz]; exact .int _ _
            | succ j => simp at hd)
      rw [hrl] at this
      exact this
end Go.Mt
