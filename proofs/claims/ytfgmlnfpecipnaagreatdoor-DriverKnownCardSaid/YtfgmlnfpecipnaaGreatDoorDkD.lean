/- errors.Is on data. -/
import Derived.Test.YtfgmlnfpecipnaaGreatDoorDkA
import Derived.Test.YtfgmlnfpecipnaaGreatDoorDkB
import Derived.Test.YtfgmlnfpecipnaaGreatDoorDkC
set_option linter.unusedVariables false
set_option linter.unusedSimpArgs false
set_option linter.unusedSectionVars false
namespace Go.Proofs.Dk
open Go.RowKit Go.Extern.Stop Go.Stop Go.Extern Go.Mt
set_option maxRecDepth 4000
set_option linter.unusedVariables false
set_option linter.unusedSimpArgs false

set_option maxHeartbeats 2000000 in
theorem is_nil (k : Int) (w : World) :
    Calls Tryz.prog 10 #[.nilIface, .iface 25 (.int .i64 k)] w fun e w' => e = .returned (.bool false) ∧ w' = w := by
  have hn := run_eql_iface_nil_left (P := Tryz.prog) w 25 (.int .i64 k) Tryz.underlying27
  go_enter Tryz.func10, Tryz.ntmps10
  go_wp2
  go_ret
  exact ⟨rfl, rfl⟩

/-- an error that is a kind, bare or in one or two wraps -/
def kind1 : D → Option Int
  | .ifc t (.int .i64 x) => bif Nat.beq t 25 then some x else none
  | _ => none
def kind2 : D → Option Int
  | .ifc t (.pim [_, _, _, _, e] o) => bif Nat.beq t 53 && Nat.beq o 0 then kind1 e else none
  | _ => none
def kind3 : D → Option Int
  | .ifc t (.pim [_, _, _, _, e] o) => bif Nat.beq t 53 && Nat.beq o 0 then kind2 e else none
  | _ => none
def kindOf (e : D) : Option Int := match kind1 e with
  | some x => some x
  | none => match kind2 e with
    | some x => some x
    | none => kind3 e

theorem rep_kind1 {O : Nat → Nat → Prop} {w : World} {e : D} {x : Int} {v : Value} (h : kind1 e = some x) (hr : Rep O w e v) : v = .iface 25 (.int .i64 x) := by
  unfold kind1 at h
  split at h
  · rename_i t y
    cases hb : Nat.beq t 25 with
    | false => rw [hb] at h; cases h
    | true =>
      rw [hb] at h
      injection h with h; subst h
      have := Nat.eq_of_beq_eq_true hb
      subst this
      cases hr with
      | ifc t d v h => cases h; rfl
  · cases h
theorem rep_at {O : Nat → Nat → Prop} {w : World} {a b c d e : D} {t o : Nat} {v : Value} (hb : (Nat.beq t 53 && Nat.beq o 0) = true) (hr : Rep O w (.ifc t (.pim [a, b, c, d, e] o)) v) :
    ∃ pb po u, v = .iface 53 (.pointer (some ⟨pb, po, none⟩)) ∧ w.cell? ⟨pb, po + 4, none⟩ = some u ∧ Rep O w e u := by
  rw [Bool.and_eq_true] at hb
  have h1 := Nat.eq_of_beq_eq_true hb.1
  have h2 := Nat.eq_of_beq_eq_true hb.2
  subst h1; subst h2
  cases hr with
  | ifc t dd v h =>
    cases h with
    | pim cs off b o val hcell hflat hrep =>
      exact ⟨b, o, val 4, rfl, (hcell 4 (by simp)).1, hrep 4 e rfl⟩
theorem rep_kind2 {O : Nat → Nat → Prop} {w : World} {e : D} {x : Int} {v : Value} (h : kind2 e = some x) (hr : Rep O w e v) : ∃ pb po, v = .iface 53 (.pointer (some ⟨pb, po, none⟩)) ∧ w.cell? ⟨pb, po + 4, none⟩ = some (.iface 25 (.int .i64 x)) := by
  unfold kind2 at h
  split at h
  · rename_i t c0 c1 c2 c3 e o
    cases hb : (Nat.beq t 53 && Nat.beq o 0) with
    | false => rw [hb] at h; cases h
    | true =>
      rw [hb] at h
      obtain ⟨pb, po, u, h1, h2, h3⟩ := rep_at hb hr
      have h4 := rep_kind1 h h3
      subst h4
      exact ⟨pb, po, h1, h2⟩
  · cases h
theorem rep_kind3 {O : Nat → Nat → Prop} {w : World} {e : D} {x : Int} {v : Value} (h : kind3 e = some x) (hr : Rep O w e v) : ∃ pb po qb qo, v = .iface 53 (.pointer (some ⟨pb, po, none⟩)) ∧ w.cell? ⟨pb, po + 4, none⟩ = some (.iface 53 (.pointer (some ⟨qb, qo, none⟩))) ∧ w.cell? ⟨qb, qo + 4, none⟩ = some (.iface 25 (.int .i64 x)) := by
  unfold kind3 at h
  split at h
  · rename_i t c0 c1 c2 c3 e o
    cases hb : (Nat.beq t 53 && Nat.beq o 0) with
    | false => rw [hb] at h; cases h
    | true =>
      rw [hb] at h
      obtain ⟨pb, po, u, h1, h2, h3⟩ := rep_at hb hr
      obtain ⟨qb, qo, h4, h5⟩ := rep_kind2 h h3
      subst h4
      exact ⟨pb, po, qb, qo, h1, h2, h5⟩
  · cases h

theorem is_calls {O : Nat → Nat → Prop} {e : D} {x k : Int} {w : World} {v : Value} (h : kindOf e = some x) (hr : Rep O w e v) :
    Calls Tryz.prog 10 #[v, .iface 25 (.int .i64 k)] w fun e w' => e = .returned (.bool (x == k)) ∧ w' = w := by
  unfold kindOf at h
  split at h
  · rename_i y h1
    injection h with h; subst h
    rw [rep_kind1 h1 hr]
    exact is_kind _ _ _
  · split at h
    · rename_i y h1
      injection h with h; subst h
      obtain ⟨pb, po, rfl, h2⟩ := rep_kind2 h1 hr
      exact is_at1 _ _ _ _ _ h2
    · obtain ⟨pb, po, qb, qo, rfl, h2, h3⟩ := rep_kind3 h hr
      exact is_at2 _ _ _ _ _ _ _ h2 h3

theorem is_pt {e t : D} {x k : Int} (h : kindOf e = some x) (ht : kind1 t = some k) : PT Tryz.prog 10 [e, t] (· = [.bool (x == k)]) := by
  intro O w vs hO hvs
  obtain ⟨hl, hv⟩ := hvs
  obtain ⟨l⟩ := vs
  match l, hl with
  | [a, b], _ =>
    have h1 := hv 0 _ a rfl rfl
    have h2 := rep_kind1 ht (hv 1 _ b rfl rfl)
    subst h2
    refine (is_calls h h1).mono ?_
    rintro e w' ⟨rfl, rfl⟩
    exact ⟨_, [.bool (x == k)], rfl, rfl, ExtW.refl _, .d (.bool _)⟩
theorem is_nil_pt {t : D} {k : Int} (ht : kind1 t = some k) : PT Tryz.prog 10 [.nili, t] (· = [.bool false]) := by
  intro O w vs hO hvs
  obtain ⟨hl, hv⟩ := hvs
  obtain ⟨l⟩ := vs
  match l, hl with
  | [a, b], _ =>
    have h1 := hv 0 _ a rfl rfl
    have h2 := rep_kind1 ht (hv 1 _ b rfl rfl)
    subst h2
    cases h1
    refine (is_nil k w).mono ?_
    rintro e w' ⟨rfl, rfl⟩
    exact ⟨_, [.bool false], rfl, rfl, ExtW.refl _, .d (.bool _)⟩
end Go.Proofs.Dk
