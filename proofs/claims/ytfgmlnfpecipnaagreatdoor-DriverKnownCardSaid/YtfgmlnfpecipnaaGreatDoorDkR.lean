/- The statement of DriverKnown: proved for every input, without conditions (beyond the form's own reach). -/
import Derived.Test.YtfgmlnfpecipnaaGreatDoorDkJ
import Derived.Test.YtfgmlnfpecipnaaGreatDoorDkQ
import Derived.Test.YtfgmlnfpecipnaaGreatDoorDkT
import Derived.Test.YtfgmlnfpecipnaaGreatDoorDkU
import Derived.Test.YtfgmlnfpecipnaaGreatDoorLibI
import Derived.Test.YtfgmlnfpecipnaaGreatDoorRows
import Derived.Test.YtfgmlnfpecipnaaGreatDoorCards
import Derived.Test.YtfgmlnfpecipnaaGreatDoorTie
import Derived.LaidMore
import Derived.LaidLaws
import Derived.SevenTiedAt
import Derived.WalkKit
import Derived.ProofKit
import Derived.OpenShut
import Derived.ShutString
import Derived.ChangeOld
import Derived.Below
import Derived.SizedLaws
import Derived.ChangeSame
import Derived.Shelf.Vars
import Derived.Deep.Grids
namespace Go.Proofs.YtfgmlnfpecipnaaGreatDoor.driverKnownDone
open Go.ChangeShapes Go.WideShapes Go.ChangeAt Go.RowKit
open Go.ChangeMaps (open_string shut_string)
open Go.Mt Go.Proofs Go.Proofs.Dk
set_option linter.unusedVariables false
set_option linter.unusedSimpArgs false

theorem own : ownKnob Tryz.prog.godebug = none := by kernel_rfl
theorem laidOut : laidOutB Tryz.prog = true := by kernel_rfl
/-- the door's own heap meets the condition on the listed variables -/
theorem door_met (os : Os) (args : Array Value) : laidMetH Tryz.prog [("math/bits.deBruijn32tab", Rows.laid_math_bits_deBruijn32tab), ("math/bits.deBruijn64tab", Rows.laid_math_bits_deBruijn64tab), ("internal/strconv.uint64pow10", Rows.laid_internal_strconv_uint64pow10)] ((World.doorLaid Tryz.prog 400 os).forCall (fun _ _ => 0) ⟨#[], args, []⟩).memory :=
  laidMetH_of_parts3 (fuel := 8) (laidMet_of_run' 8 (by kernel_rfl) (by kernel_rfl)) (by kernel_rfl) (by kernel_rfl)

theorem walk (w : World) (m : Int) (hm : w.heap[1]? = some (.cells #[.int .i64 m] 3 (0, 0))) (n a b : Int) (s : ByteArray) :
    Calls Tryz.prog 3 #[.int .i64 n, .agg #[.int .i64 a, .int .i64 b], .string s] w fun e w' => e = .returned (.bool true) ∧ Below w.heap.size w w' := by
  let H : Hp := [.iter (globM 1 .i64 m 3)]
  let σ : Sg := ⟨w, fun b o => ∃ (i : Nat) (ob : Ob), H[i]? = some ob ∧ 1 = b ∧ ob.owns o, fun _ => 1, H⟩
  have hlt : 1 < w.heap.size := by
    rcases Nat.lt_or_ge 1 w.heap.size with h | h
    · exact h
    · rw [Array.getElem?_eq_none h] at hm; cases hm
  have hinv : HInv σ (fun _ _ => False) := by
    refine ⟨?_, ?_, ?_, ?_, fun _ _ h => h.elim⟩
    · intro i ob hi
      match i with
      | 0 =>
        injection hi with hi; subst hi
        refine .inr ⟨.i64, m, 3, hm, .tup _ _ rfl fun k x v hx hv => ?_⟩
        match k with
        | 0 => injection hx with hx; injection hv with hv; subst hx; subst hv; exact .d (.int _ _)
        | 1 => injection hx with hx; injection hv with hv; subst hx; subst hv; exact .d (.int _ _)
        | 2 => injection hx with hx; injection hv with hv; subst hx; subst hv; exact .d (.int _ _)
        | k + 3 => cases hx
      | i + 1 => cases hi
    · intro i j x y hi hj _ _ _
      match i, j with
      | 0, 0 => rfl
      | i + 1, _ => cases hi
      | _, j + 1 => cases hj
    · exact fun b o => ⟨.inr, fun h => h.elim (fun h => h.elim) fun h => h⟩
    · exact fun i ob _ _ o h => h
  have hms : RMs σ [.d (.int .i64 n), .d (.agg [.int .i64 a, .int .i64 b]), .d (.str s)] #[.int .i64 n, .agg #[.int .i64 a, .int .i64 b], .string s] := by
    refine ⟨rfl, fun k x v hx hv => ?_⟩
    match k with
    | 0 => injection hx with hx; injection hv with hv; subst hx; subst hv; exact .d (.int _ _)
    | 1 =>
      injection hx with hx; injection hv with hv; subst hx; subst hv
      refine .d (.agg [.int .i64 a, .int .i64 b] #[.int .i64 a, .int .i64 b] rfl (fun k v hv => ?_) (fun k x v hx hv => ?_))
      · match k with
        | 0 => injection hv with hv; subst hv; rfl
        | 1 => injection hv with hv; subst hv; rfl
        | k + 2 => cases hv
      · match k with
        | 0 => injection hx with hx; injection hv with hv; subst hx; subst hv; exact .int _ _
        | 1 => injection hx with hx; injection hv with hv; subst hx; subst hv; exact .int _ _
        | k + 2 => cases hx
    | 2 => injection hx with hx; injection hv with hv; subst hx; subst hv; exact .d (.str _)
    | k + 3 => cases hx
  refine (law_ct m n a b s σ _ _ hinv rfl hms).mono ?_
  rintro e w' ⟨v, r, σ', rfl, rfl, ⟨rfl, hH⟩, hi', hr, hmo, hb⟩
  refine ⟨?_, hb.os, hb.tape, hb.output, hb.size, fun k hk => ?_⟩
  · cases hr with
    | d h => cases h; rfl
  · by_cases e : k = 1
    · subst e
      have := (globM_heap (hi'.obj 0 _ (by rw [hH]; rfl))).2
      rw [this]; exact hm.symm
    · exact hb.blk k hk fun i ob _ _ h => e h.symm

/-- the library's variable holds some integer, in one cell -/
theorem cell_int {P : Program} {w : World} {g t : Nat} {zero : Array Value} {k : IntKind} (h : w.ShapedOpen P) (hg : g < P.globals.size)
    (h0 : ((begin P (fun _ _ => 0) default).world.heap[g]?).bind Obj.row? = some (zero, t)) (hz : zero.size = 1)
    (hb : P.buildable t = true) (hc : P.cellTypes P.depth t = some [t]) (hu : P.underlying t = some (.int k)) : ∃ m, w.heap[g]? = some (.cells #[.int k m] t (0, 0)) := by
  obtain ⟨m, hm⟩ := cell_of_shapedOpen_int h hg h0 hz hb hc hu
  obtain ⟨cs, hh, hs, _⟩ := h.1 g zero t hg h0
  refine ⟨m, ?_⟩
  obtain ⟨l⟩ := cs
  match l, hs.trans hz with
  | [c], _ =>
    simp [World.cell?, hh] at hm
    rw [hh, hm]

/-- the wrap: the laid variables' condition, and the world's shape -/
theorem wrap {H : Type} {enc : TypeId × Value → H} {a : Assume} {C : Checked} {os : Os} {f : FuncId} {fn : Func} {s : ChangeSpec} {conds : List PathCond} {apart fresh handsOn again : Bool} {X : World → Array Value → Prop}
    (own : ownKnob C.prog.godebug = none) (started : os.Started) (noInit : C.prog.inits.idxOf? f = none) (hfn : C.prog.funcs[f]? = some fn)
    (witness : ∃ (w : World) (tape : Tape) (i : Input), w.os = os ∧ (w.forCall tape i).Shaped C.prog ∧ i.vars = [] ∧ Input.okWide C.prog (w.forCall tape i) .any w.heap.size f i ∧
      ((s.pre enc C.prog fn conds apart (w.forCall tape i).memory i.args ∧ X (w.forCall tape i).memory i.args) ∧ sizedMet enc C.prog fn (OpenSpec.ofChange s) apart (w.forCall tape i).memory i.args) ∧ a.holds C.prog (lone (Frame.enter C.prog f i.args .normal) [] (w.forCall tape i)))
    (contract : ∀ (W : World) (base : Nat) (args : Array Value) (ds gs : List (DataW H)) (before : List MemPlace),
      (∀ (j : Nat) t v, fn.params[j]? = some t → args[j]? = some v → Value.okWide C.prog W .any base t v) →
      DataW.Whole enc C.prog fn.params.toList s.vars apart W args.toList ds gs before →
      W.ShapedOpen C.prog →
      Calls C.prog f args W fun e W' => ∃ v, e = .returned v ∧ s.post enc C.prog fn apart fresh handsOn again W args v W') :
    ReturnsInHanded a C os f .any (fun w args => (s.pre enc C.prog fn conds apart w args ∧ X w args) ∧ sizedMet enc C.prog fn (OpenSpec.ofChange s) apart w args) (s.post enc C.prog fn apart fresh handsOn again) := by
  refine returnsInHanded_of_calls own started noInit witness ?_
  intro w tape i _ hsh _ hok hpre hholds
  obtain ⟨_, _, _, fn', hfn', _, _, _, _, hval⟩ := hok
  have e : fn' = fn := Option.some.inj (hfn'.symm.trans hfn)
  subst e
  obtain ⟨⟨⟨ds, gs, before, hw, hc⟩, hx⟩, hz⟩ := hpre
  have hw' := DataW.Whole.of_heap (w' := w.forCall tape i) (by rfl) hw
  refine (contract (w.forCall tape i) w.heap.size i.args ds gs before hval hw' hsh).mono fun e W' ⟨v, he, hp⟩ => ?_
  subst he
  exact ChangeSpec.post_blind hp

set_option maxRecDepth 100000 in
theorem lifted (os : Os) (started : os.Started) (H : Type) (enc : TypeId × Value → H) :
    ReturnsInHanded {} Tryz.checked os 3 .any (fun w args => (Rows.driverKnownSpec.pre enc Tryz.prog Tryz.f3 Rows.driverKnownRow.domain false w args ∧ laidMetH Tryz.prog [("math/bits.deBruijn32tab", Rows.laid_math_bits_deBruijn32tab), ("math/bits.deBruijn64tab", Rows.laid_math_bits_deBruijn64tab), ("internal/strconv.uint64pow10", Rows.laid_internal_strconv_uint64pow10)] w) ∧ sizedMet enc Tryz.prog Tryz.f3 (OpenSpec.ofChange Rows.driverKnownSpec) false w args)
      (Rows.driverKnownSpec.post enc Tryz.prog Tryz.f3 false true false false) := by
  refine wrap (C := Tryz.checked) (X := fun w _ => laidMetH Tryz.prog [("math/bits.deBruijn32tab", Rows.laid_math_bits_deBruijn32tab), ("math/bits.deBruijn64tab", Rows.laid_math_bits_deBruijn64tab), ("internal/strconv.uint64pow10", Rows.laid_internal_strconv_uint64pow10)] w) own started (by kernel_rfl) Tryz.func3
    (ChangeSpec.witness_shaped (enc := enc) (C := Tryz.checked) (os := os) (X := fun w _ => laidMetH Tryz.prog [("math/bits.deBruijn32tab", Rows.laid_math_bits_deBruijn32tab), ("math/bits.deBruijn64tab", Rows.laid_math_bits_deBruijn64tab), ("internal/strconv.uint64pow10", Rows.laid_internal_strconv_uint64pow10)] w) false (World.doorLaid Tryz.prog 400 os) #[.int .i64 0, .agg #[.int .i64 0, .int .i64 0], .string ⟨#[]⟩] 8 rfl (World.shaped_of_RefB (by kernel_rfl) (by kernel_rfl)) (by kernel_rfl) (by kernel_rfl) (by kernel_rfl) (door_met os _)) ?_
  intro W base args ds gs before hval0 hW hsh
  have hval : ∀ (j : Nat) t v, Tryz.f3.params[j]? = some t → args[j]? = some v → Value.okWide Tryz.prog W .any base t v := hval0
  obtain ⟨mx, hmx⟩ := cell_int (g := 1) (t := 3) (zero := #[.int .i64 0]) (k := .i64) hsh (by decide +kernel) (by kernel_rfl) rfl (by kernel_rfl) (by kernel_rfl) Tryz.underlying3
  have hW' := hW
  obtain ⟨p, q, hA0, hV, rfl, hfz, hnd⟩ := hW
  have hA : DataW.TrodAll enc Tryz.prog W 0 (fun _ => true) true Tryz.f3.params.toList args.toList ds p := hA0
  rw [Tryz.params3] at hA hval
  obtain ⟨v0, vs0, d0, ds0, p0, q0, hargs0, rfl, rfl, h0, r0⟩ := trodAll_cons hA
  obtain ⟨v1, vs1, d1, ds1, p1, q1, hargs1, rfl, rfl, h1, r1⟩ := trodAll_cons r0
  obtain ⟨v2, vs2, d2, ds2, p2, q2, hargs2, rfl, rfl, h2, r2⟩ := trodAll_cons r1
  obtain ⟨rfl, rfl, rfl⟩ := trodAll_nil r2
  obtain rfl : args = #[v0, v1, v2] := by cases args; simp_all
  obtain ⟨rfl, rfl⟩ := trodVars_none hV
  have k0 := h0
  have lt0 : ∀ x ∈ p0, x.block < W.heap.size := by obtain ⟨m, hm⟩ := k0; exact DataW.trod_lt m _ _ _ hm
  obtain ⟨n0, rfl⟩ := okWide_int Tryz.underlying3 (hval 0 3 v0 rfl rfl)
  have k1 := h1
  have lt1 : ∀ x ∈ p1, x.block < W.heap.size := by obtain ⟨m, hm⟩ := k1; exact DataW.trod_lt m _ _ _ hm
  obtain ⟨cs, rfl, hcs⟩ := okWide_struct Tryz.underlying23 (hval 1 23 v1 rfl rfl)
  obtain ⟨a, b, rfl⟩ : ∃ a b, cs = #[.int .i64 a, .int .i64 b] := by
    obtain ⟨fuel, hf⟩ := h1
    obtain ⟨y0, y1, n, _, hl, hf0, hf1⟩ := trod_struct2 Tryz.underlying23 hf
    obtain ⟨z0, hz0, _, _⟩ := DataW.trod_int Tryz.underlying3 hf0
    obtain ⟨z1, hz1, _, _⟩ := DataW.trod_int Tryz.underlying3 hf1
    refine ⟨z0, z1, ?_⟩
    obtain ⟨l⟩ := cs
    have hc2 : Tryz.prog.cellsOf 23 = 2 := by kernel_rfl
    have hc3 : Tryz.prog.cellsOf 3 = 1 := by kernel_rfl
    rw [hc2] at hcs
    match l, hcs with
    | [x, y], _ =>
      simp [Value.cells, hc3] at hz0 hz1
      rw [hz0, hz1]
  have k2 := h2
  have lt2 : ∀ x ∈ p2, x.block < W.heap.size := by obtain ⟨m, hm⟩ := k2; exact DataW.trod_lt m _ _ _ hm
  obtain ⟨s2, rfl, _, _, hs2⟩ := open_string Tryz.underlying9 (hval 2 9 v2 rfl rfl) h2
  clear hA0 hval0
  refine (walk W mx hmx n0 a b s2).mono fun e W' ⟨he, bel⟩ => ?_
  subst he
  exact ⟨_, rfl, _, _, _, [], _, [], hW', trodAll_mk1 (shut_bool Tryz.underlying4 _), (trodAll_cons_mk (Below.trod laidOut (by kernel_rfl) (of_decide_eq_true (by kernel_rfl)) k0 bel lt0) (trodAll_cons_mk (Below.trod laidOut (by kernel_rfl) (of_decide_eq_true (by kernel_rfl)) k1 bel lt1) (trodAll_cons_mk (Below.trod laidOut (by kernel_rfl) (of_decide_eq_true (by kernel_rfl)) k2 bel lt2) trodAll_mk0))), rfl, bel.frame _, fun h => by cases h⟩

theorem over : Rows.DriverKnownSaid :=
  OpenClaim.holds_of_wide 3 Tryz.f3 rfl rfl rfl rfl rfl rfl rfl ⟨rfl, rfl, rfl, rfl, rfl⟩ rfl rfl rfl rfl rfl (by kernel_rfl) Tryz.func3 closed
    (of_decide_eq_true (by kernel_rfl)) (by unfold Func.isWrapper; first | (rw [if_pos (by decide +kernel)]; kernel_rfl) | (rw [if_neg (by decide +kernel)]; exact ⟨rfl, rfl⟩))
    (fun os started H enc _ => lifted os started H enc)

set_option maxRecDepth 100000 in
theorem proved : Rows.DriverKnownCardSaid :=
  Claim7.holds_tied_plain_at .later [] [.data, .data, .data] true (true, "79b5a97c92f3d30a213bac47c6e06bcc9859c2eed626cd5cc477d71c94dffddb") true
    over (fun _ h => by cases h) c1 (fun _ h => by cases h) driverKnown_row_tie rfl ⟨rfl, rfl⟩ c2 rfl
    (fun f fn hf hfn => by
      obtain rfl : f = 3 := Option.some.inj (c3.symm.trans hf) |>.symm
      obtain rfl : fn = Tryz.f3 := (Option.some.inj (Tryz.func3.symm.trans hfn)).symm
      exact ⟨c4.symm, fun j t ht => by
        rw [Tryz.params3] at ht
        have hm : t ∈ [3, 23, 9] := by simpa using Array.mem_of_getElem? ht
        exact (show Tryz.prog.wantsStandIn t = false by simpa using List.all_eq_true.1 c5 t hm)⟩)
    c6.symm
#print axioms proved
end Go.Proofs.YtfgmlnfpecipnaaGreatDoor.driverKnownDone
