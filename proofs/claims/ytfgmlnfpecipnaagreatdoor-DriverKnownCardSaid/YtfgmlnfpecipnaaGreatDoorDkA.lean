/- Strings, searched: what the library's search answers, as a run reckons it. -/
import Derived.Test.YtfgmlnfpecipnaaGreatDoorDkS
import Derived.Test.YtfgmlnfpecipnaaGreatDoorLibI
import Derived.KernelRfl
set_option linter.unusedVariables false
set_option linter.unusedSimpArgs false
set_option linter.unusedSectionVars false
namespace Go.Proofs
open Go.Mt
set_option maxRecDepth 4000
set_option linter.unusedVariables false
set_option linter.unusedSimpArgs false
/-- strings: does one stand ahead, or within; where does a byte stand first -/
def isPreB : List UInt8 → List UInt8 → Bool
  | [], _ => true
  | _ :: _, [] => false
  | a :: r, b :: s => bif Nat.beq a.toNat b.toNat then isPreB r s else false
def hasB (u : List UInt8) : List UInt8 → Bool
  | [] => isPreB u []
  | a :: r => bif isPreB u (a :: r) then true else hasB u r
def idxB (c : Nat) : Nat → List UInt8 → Int
  | _, [] => .negSucc 0
  | i, a :: r => bif Nat.beq a.toNat c then .ofNat i else idxB c (i + 1) r
theorem u8_beq (a b : UInt8) : Nat.beq a.toNat b.toNat = (a == b) := by
  by_cases h : a = b
  · subst h; simp
  · have h1 : ¬ a.toNat = b.toNat := fun e => h (UInt8.toNat_inj.1 e)
    have h2 : Nat.beq a.toNat b.toNat = false := by rw [← Bool.not_eq_true]; intro e; exact h1 (Nat.eq_of_beq_eq_true e)
    rw [h2]; simp [h]
theorem isPreB_eq : ∀ u l : List UInt8, isPreB u l = u.isPrefixOf l
  | [], l => by cases l <;> rfl
  | a :: r, [] => rfl
  | a :: r, b :: s => by
    simp only [isPreB, u8_beq, List.isPrefixOf, isPreB_eq r s]
    cases (a == b) <;> rfl
theorem hasB_eq (u : List UInt8) : ∀ l : List UInt8, hasB u l = Lib.contains l u
  | [] => by
    simp only [hasB, isPreB_eq, Lib.contains, Lib.index]
    cases u <;> rfl
  | b :: l => by
    have ih := hasB_eq u l
    have hge := Lib.index_ge l u
    simp only [hasB, isPreB_eq, ih, Lib.contains]
    by_cases hp : u.isPrefixOf (b :: l) = true
    · have e : Lib.index (b :: l) u = 0 := by simp [Lib.index, hp]
      rw [e, hp]; rfl
    · have hp' : u.isPrefixOf (b :: l) = false := by cases h : u.isPrefixOf (b :: l) with | true => exact absurd h hp | false => rfl
      rw [hp']
      by_cases h : Lib.index l u = -1
      · have e : Lib.index (b :: l) u = -1 := by simp [Lib.index, hp', h]
        rw [e, h]; rfl
      · have e : Lib.index (b :: l) u = Lib.index l u + 1 := by simp [Lib.index, hp', h]
        rw [e]
        simp only [cond_false, decide_eq_decide]
        omega
theorem idxB_eq (c : UInt8) : ∀ (i : Nat) (l : List UInt8), idxB c.toNat i l = if Lib.indexByte l c = -1 then -1 else Lib.indexByte l c + i
  | i, [] => rfl
  | i, b :: l => by
    have ih := idxB_eq c (i + 1) l
    have hge := Lib.indexByte_ge l c
    simp only [idxB, u8_beq, ih]
    by_cases hp : (b == c) = true
    · have e : Lib.indexByte (b :: l) c = 0 := by simp only [Lib.indexByte, hp]; rfl
      rw [e, hp]; simp
    · have hp' : (b == c) = false := by simpa using hp
      rw [hp']
      simp only [cond_false]
      by_cases h : Lib.indexByte l c = -1
      · have e : Lib.indexByte (b :: l) c = -1 := by simp [Lib.indexByte, hp', h]
        rw [e, h]; rfl
      · have e : Lib.indexByte (b :: l) c = Lib.indexByte l c + 1 := by simp [Lib.indexByte, hp', h]
        rw [e, if_neg h, if_neg (by omega)]
        omega

theorem globM_heap {σ : Sg} {b gl : Nat} {k : IntKind} {m : Int} {tt : Nat} (h : ObOk σ b (.iter (globM gl k m tt))) : b = gl ∧ σ.w.heap[gl]? = some (.cells #[.int k m] tt (0, 0)) := by
  rcases h with ⟨om, since, seen, last, h1, h2⟩ | ⟨k', m', T', h1, h2⟩
  · exfalso
    rcases h2 with ⟨_, h2⟩ | ⟨h2, _⟩
    · cases h2
    · unfold globM iterVal at h2
      cases h2 with
      | tup cs vs hl h =>
        have hz : (#[Value.map om, .int .i64 since] ++ seen.map fun b => .int .i64 b)[0]? = some (.map om) := by rw [Array.getElem?_append_left (by simp)]; rfl
        have a1 := h 0 (.d (.int .i64 gl)) (.map om) rfl hz
        cases a1 with
        | d a1 => cases a1
  · cases h2 with
    | tup cs vs hl h =>
      have a1 := h 0 (.d (.int .i64 gl)) (.int .i64 b) rfl rfl
      have a2 := h 1 (.d (.int k m)) (.int k' m') rfl rfl
      have a3 := h 2 (.d (.int .i64 tt)) (.int .i64 (T' : Nat)) rfl rfl
      cases a1 with
      | d a1 =>
        cases a2 with
        | d a2 =>
          cases a3 with
          | d a3 =>
            generalize hq : (b : Int) = q at a1
            generalize hp : ((T' : Nat) : Int) = p at a3
            cases a1
            cases a2
            cases a3
            have e : b = gl := by omega
            have e3 : T' = tt := Int.ofNat.inj hp
            subst e
            subst e3
            exact ⟨rfl, h1⟩
theorem rms_str2 {σ : Sg} {s u : ByteArray} {vs : Array Value} (h : RMs σ [.d (.str s), .d (.str u)] vs) : vs = #[.string s, .string u] := by
  obtain ⟨hl, h⟩ := h
  obtain ⟨l⟩ := vs
  match l, hl with
  | [a, b], _ =>
    have h1 := h 0 _ a rfl rfl
    have h2 := h 1 _ b rfl rfl
    cases h1 with
    | d h1 => cases h2 with
      | d h2 => cases h1; cases h2; rfl
theorem contains_ct (s u : ByteArray) {H r : Hp} {m : Int} {tt : Nat} (hH : H = .iter (globM 1 .i64 m tt) :: r) (hs : s.size < 4294967281) :
    CT Tryz.prog 280 [.d (.str s), .d (.str u)] H fun a b => a = .d (.bool (hasB u.data.toList s.data.toList)) ∧ b = H := by
  intro σ Oo vs hinv hσ hms
  have hvs := rms_str2 hms
  subst hvs
  obtain ⟨_, hc⟩ := globM_heap (hinv.obj 0 (.iter (globM 1 .i64 m tt)) (by rw [hσ, hH]; rfl))
  refine (Tryz.strings_Contains s u m σ.w hs (by simp [World.cell?, hc])).mono ?_
  rintro e w' ⟨rfl, rfl⟩
  refine ⟨_, .d (.bool (hasB u.data.toList s.data.toList)), σ, rfl, rfl, ⟨rfl, hσ⟩, hinv, ?_, Mono.refl _, Blk.refl _⟩
  rw [hasB_eq]
  exact .d (.bool _)
theorem indexByte_pt (s : ByteArray) (c : Nat) (hc : c < 256) : PT Tryz.prog 236 [.str s, .int .u8 c] (· = [.int .i64 (idxB c 0 s.data.toList)]) := by
  intro O w vs hO hvs
  obtain ⟨hl, h⟩ := hvs
  obtain ⟨l⟩ := vs
  match l, hl with
  | [a, b], _ =>
    have h1 := h 0 _ a rfl rfl
    have h2 := h 1 _ b rfl rfl
    cases h1; cases h2
    refine (Tryz.strings_IndexByte s c w).mono ?_
    rintro e w' ⟨rfl, rfl⟩
    refine ⟨_, [.int .i64 (idxB c 0 s.data.toList)], rfl, rfl, ExtW.refl _, ?_⟩
    have e1 : ((c : Int).toNat).toUInt8.toNat = c := by simp [Nat.toUInt8]; omega
    have e2 : idxB c 0 s.data.toList = Lib.indexByte s.data.toList ((c : Int).toNat.toUInt8) := by
      have := idxB_eq ((c : Int).toNat.toUInt8) 0 s.data.toList
      rw [e1] at this
      rw [this]
      have := Lib.indexByte_ge s.data.toList ((c : Int).toNat.toUInt8)
      split <;> omega
    rw [e2]
    exact .d (.int _ _)
end Go.Proofs
