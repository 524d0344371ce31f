import Derived.Test.YtenbmejbaiajcaaCoI
namespace Go.Proofs
open Go.Mt
set_option maxRecDepth 4000
set_option linter.unusedSimpArgs false
set_option linter.unusedVariables false
set_option maxHeartbeats 1000000

theorem TC.seqMid {X : Ctx} {st : St} {post : Exit → St → Prop} {x y : Code} (st' : St) (ha : TC X x st (after post fun s => ∀ a w, Inv X s a w → Inv X st' a w)) (hb : TC X y st' post) : TC X (.seq x y) st post :=
  TC.seq (ha.mono fun e s h => by
    cases e with
    | normal => exact fun a w hi => hb a w (h a w hi)
    | _ => exact h)
theorem down {X : Ctx} {sl sl' : List (Nat × V)} {bx : List (Nat × List M)} {H H' : Hp} (hH : H = H') (hs : keeps sl sl') : ∀ a w, Inv X ⟨sl, bx, H⟩ a w → Inv X ⟨sl', bx, H'⟩ a w :=
  fun _ _ hi => by subst hH; exact hi.weak (keeps_get hs) (fun _ => rfl)

def bxP (p : List Fn) : List (Nat × List M) := [(3, [.d (.sl []), .d (.sl (p.map Fn.enc))]), (3, [.d (.sl []), .d (.sl [])])]
def s6 : ByteArray := ⟨#[102, 54]⟩

def outN (n : Nat) : List M := (List.range 7).map fun j => if j < n then .rsl (j + 1) 0 7 else .d (.sl [])
theorem rowsWrite (n : Nat) (h : n < 7) : writeAt (outN n) ((n : Int).toNat * 1) [.rsl (H0 n).length 0 7] = some (outN (n + 1)) := by
  rcases n with _ | _ | _ | _ | _ | _ | _ | n <;> first | rfl | (exfalso; omega)
theorem rowsNext (n : Nat) (h : n < 7) : (H0 n ++ [Ob.row false 1 0 (zlist 1 7 (dcells (.bool false)))]).set 0 (.row false 1 0 (outN (n + 1))) = H0 (n + 1) := by
  rcases n with _ | _ | _ | _ | _ | _ | _ | n <;> first | rfl | (exfalso; omega)
theorem costLoops_walk (bs : List Nat) (v : D) (hin : InD bs v) (p : List Fn) (hp : p = graphP bs) (hsm : Small p) (R : Nat → Nat → Bool) (hR : R = wK (edges (bs.take 12)) 7)
    (hsteps : ∀ i, i < 6 → ∃ F r m, fnS p F (nm i) [] = some (r, m) ∧ decide (r < 0) = badS R i) (hdeep : ∀ i, i < 6 → decide (deepP p (nm i) < 0) = badS R i)
    (hahead : aheadS p = upS (bs.take 12)) (h6 : find p s6 = none) : PT Try.prog 3 [v] (· = [.bool true]) := by
  have hgr := graph_ok bs v hin
  rw [← hp] at hgr
  obtain ⟨hlen, hv, hb⟩ := hin
  refine PT.of_CT (CT.of_body Try.func3 rfl Try.ntmps3 rfl fun s0 Oo => ?_)
  repeat refine TC.seq ?_
  refine TC.region ?_
  refine t_assign rfl rfl ?_
  refine TL.nil ?_
  repeat refine TC.seq ?_
  refine TC.region ?_
  refine t_call1 awake_ok rfl rfl ?_
  refine t_not rfl rfl ?_
  refine TL.nil ?_
  repeat refine TC.seq ?_
  refine TC.cond rfl (fun hc => by cases hc) (fun hc => ?_)
  refine TC.skip ?_
  repeat refine TC.seq ?_
  refine TC.region ?_
  refine t_move rfl rfl ?_
  refine t_call1 hgr rfl rfl ?_
  refine t_alloc rfl rfl ?_
  refine t_storeL rfl rfl rfl rfl rfl rfl ?_
  refine TL.nil ?_
  repeat refine TC.seq ?_
  refine TC.region ?_
  refine t_makeSlice (len := 7) rfl rfl rfl rfl (by rfl) (by decide) (by decide) ?_
  refine t_assign rfl rfl ?_
  refine TL.nil ?_
  repeat refine TC.seq ?_
  refine TC.region ?_
  refine t_assign rfl rfl ?_
  refine TL.nil ?_
  repeat refine TC.seq ?_
  refine TC.block ?_
  refine TC.loopB (fun k s => ∃ (n : Nat), s = ⟨[(5, .m (.d (.int .i64 n))), (4, .m (.rsl 0 0 7)), (3, .loc 3 0), (0, .m (.d v))], bxP p, H0 n⟩ ∧ n ≤ 7 ∧ k = 7 - n) 7 _
    ⟨0, rfl, by omega, rfl⟩ ⟨rfl, rfl, rfl, rfl, trivial⟩ ?_
  rintro k s ⟨n, rfl, hn, rfl⟩
  repeat refine TC.seq ?_
  refine TC.region ?_
  refine t_move rfl rfl ?_
  refine t_int rfl rfl rfl rfl ?_
  refine TL.nil ?_
  repeat refine TC.seq ?_
  refine TC.cond rfl (fun hc => ?_) (fun hc => ?_)
  · have hc' : n < 7 := by have := of_decide_eq_true hc; omega
    clear hc
    refine TC.skip ?_
    repeat refine TC.seq ?_
    refine TC.block ?_
    have key : (H0 n).length = n + 1 := by simp [H0]
    repeat refine TC.seq ?_
    refine TC.region ?_
    refine t_move rfl rfl ?_
    refine t_move rfl rfl ?_
    refine t_makeSlice (len := 7) rfl rfl rfl rfl (by rfl) (by decide) (by decide) ?_
    refine t_indexR rfl rfl rfl (by exact rfl) (by omega) (by omega) ?_
    refine t_storeW rfl rfl rfl rfl rfl (by exact rowsWrite n hc') ?_
    refine TL.nil ?_
    repeat refine TC.seq ?_
    refine TC.region ?_
    refine t_move rfl rfl ?_
    refine t_add64 rfl rfl rfl (by omega) ?_
    refine t_assign rfl rfl ?_
    refine TL.nil ?_
    exact again (k' := 7 - (n + 1)) (by omega) ⟨n + 1, rfl, by omega, rfl⟩ (rowsNext n hc') ⟨by simp; rfl, rfl, rfl, rfl, trivial⟩
  refine TC.exit ?_
  obtain rfl : n = 7 := by have := of_decide_eq_false hc; omega
  clear hc hn
  rw [H0_7]
  repeat refine TC.seq ?_
  refine TC.region ?_
  refine t_assign rfl rfl ?_
  refine TL.nil ?_
  first | refine TC.seqMid (x := .seq (.region 10 _ _) (.block 2 _)) ⟨[(6, .m (.d (.bool (upS (bs.take 12))))), (4, .m (.rsl 0 0 7)), (3, .loc 3 0)], bxP p, HR (edges (bs.take 12))⟩ ?_ ?_ | (refine TC.seq ?_; refine TC.seqMid (x := .seq (.region 10 _ _) (.block 2 _)) ⟨[(6, .m (.d (.bool (upS (bs.take 12))))), (4, .m (.rsl 0 0 7)), (3, .loc 3 0)], bxP p, HR (edges (bs.take 12))⟩ ?_ ?_) | (refine TC.seq ?_; refine TC.seq ?_; refine TC.seqMid (x := .seq (.region 10 _ _) (.block 2 _)) ⟨[(6, .m (.d (.bool (upS (bs.take 12))))), (4, .m (.rsl 0 0 7)), (3, .loc 3 0)], bxP p, HR (edges (bs.take 12))⟩ ?_ ?_)
  · repeat refine TC.seq ?_
    refine TC.region ?_
    refine t_assign rfl rfl ?_
    refine TL.nil ?_
    refine TC.block ?_
    refine TC.loopB (fun k s => ∃ (n : Nat), s = ⟨[(7, .m (.d (.int .i64 n))), (6, .m (.d (.bool (upS (bs.take n))))), (4, .m (.rsl 0 0 7)), (3, .loc 3 0), (0, .m (.d v))], bxP p, HR (edges (bs.take n))⟩ ∧ n ≤ 12 ∧ n ≤ bs.length ∧ k = 12 - n) 12 _
      ⟨0, rfl, by omega, by omega, rfl⟩ ⟨rfl, rfl, rfl, rfl, rfl, trivial⟩ ?_
    rintro k s ⟨n, rfl, hn, hn2, rfl⟩
    cases hk : decide ((n : Int) < bs.length) with
    | true =>
      have hk' : n < bs.length := by have := of_decide_eq_true hk; omega
      repeat refine TC.seq ?_
      refine TC.region ?_
      refine t_move rfl rfl ?_
      refine t_move rfl rfl ?_
      refine t_lenS rfl rfl hlen ?_
      (refine t_int rfl rfl rfl rfl ?_; rw [hk])
      refine t_move rfl rfl ?_
      first | refine t_guard_no rfl rfl ?_ | (refine t_guard_yes rfl ?_; (refine t_move rfl rfl ?_))
      first | refine t_guard_no rfl rfl ?_ | (refine t_guard_yes rfl ?_; (refine t_int rfl rfl rfl rfl ?_))
      refine t_pick rfl rfl rfl ?_
      refine TL.nil ?_
      repeat refine TC.seq ?_
      refine TC.cond rfl (fun hc => ?_) (fun hc => ?_)
      · have hc2 : n < 12 := by have := of_decide_eq_true hc; omega
        clear hc
        refine TC.skip ?_
        repeat refine TC.seq ?_
        refine TC.block ?_
        obtain rfl : v = .sl (bytesD bs) := by rcases hv with h | h; (subst h; simp at hk'); exact h
        have hbn := hb bs[n] (List.getElem_mem hk')
        have hrow := bytesD_get hk'
        have hfe := fr_eq _ hbn
        have hes := edges_succ bs n hk'
        have hus := upS_succ bs n hk'
        generalize bs[n] = b at hbn hrow hfe hes hus
        have hf6 : fr b < 7 := by have := fr_lt b; omega
        have ht7 := to_lt b
        generalize edges (bs.take n) = R1 at hes ⊢
        repeat refine TC.seq ?_
        refine TC.region ?_
        refine t_move rfl rfl ?_
        refine t_move rfl rfl ?_
        refine t_indexD rfl rfl rfl (Int.natCast_nonneg n) (r := [.int .u8 b]) hrow rfl ?_
        first | refine t_loadDc rfl rfl rfl ?_ | refine t_loadLc rfl rfl rfl rfl ?_ | refine t_loadRc rfl rfl rfl rfl ?_
        refine t_quo rfl rfl rfl rfl ?_
        refine t_convI rfl rfl ?_
        (refine t_rem rfl rfl rfl rfl ?_; rw [hfe])
        refine t_assign rfl rfl ?_
        refine TL.nil ?_
        repeat refine TC.seq ?_
        refine TC.region ?_
        refine t_move rfl rfl ?_
        refine t_move rfl rfl ?_
        refine t_indexD rfl rfl rfl (Int.natCast_nonneg n) (r := [.int .u8 b]) hrow rfl ?_
        first | refine t_loadDc rfl rfl rfl ?_ | refine t_loadLc rfl rfl rfl rfl ?_ | refine t_loadRc rfl rfl rfl rfl ?_
        refine t_rem rfl rfl rfl rfl ?_
        refine t_convI rfl rfl ?_
        (refine t_rem rfl rfl rfl rfl ?_; rw [to_eq2])
        refine t_assign rfl rfl ?_
        refine TL.nil ?_
        repeat refine TC.seq ?_
        refine TC.region ?_
        refine t_move rfl rfl ?_
        refine t_move rfl rfl ?_
        refine t_indexR rfl rfl rfl rfl (by omega) (by omega) ?_
        refine t_loadWc rfl rfl rfl (outC_get (fr b) hf6) ?_
        refine t_move rfl rfl ?_
        refine t_indexR rfl rfl rfl (HR_row R1 (fr b) hf6) (by omega) (by omega) ?_
        (refine t_storeW rfl rfl (HR_row R1 (fr b) hf6) rfl rfl (rowC_write R1 (fr b) (to b) true ht7) ?_; rw [HR_set R1 (fr b) (to b) true hf6])
        refine TL.nil ?_
        cases hup : upS (bs.take n) with
        | true =>
          rw [hup] at hus
          repeat refine TC.seq ?_
          refine TC.region ?_
          refine t_move rfl rfl ?_
          refine t_move rfl rfl ?_
          first | refine t_guard_no rfl rfl ?_ | (refine t_guard_yes rfl ?_; (refine t_move rfl rfl ?_))
          first | refine t_guard_no rfl rfl ?_ | (refine t_guard_yes rfl ?_; (refine t_move rfl rfl ?_))
          first | refine t_guard_no rfl rfl ?_ | (refine t_guard_yes rfl ?_; (refine t_int rfl rfl rfl rfl ?_))
          refine t_pick rfl rfl rfl ?_
          refine t_assign rfl rfl ?_
          refine TL.nil ?_
          repeat refine TC.seq ?_
          refine TC.region ?_
          refine t_move rfl rfl ?_
          refine t_add64 rfl rfl rfl (by omega) ?_
          refine t_assign rfl rfl ?_
          refine TL.nil ?_
          exact again (k' := 12 - (n + 1)) (by omega) ⟨n + 1, rfl, by omega, by omega, rfl⟩ (by rw [hes]) ⟨by simp; rfl, by rw [hus]; simp; rfl, rfl, rfl, rfl, trivial⟩
        | false =>
          rw [hup] at hus
          repeat refine TC.seq ?_
          refine TC.region ?_
          refine t_move rfl rfl ?_
          refine t_move rfl rfl ?_
          first | refine t_guard_no rfl rfl ?_ | (refine t_guard_yes rfl ?_; (refine t_move rfl rfl ?_))
          first | refine t_guard_no rfl rfl ?_ | (refine t_guard_yes rfl ?_; (refine t_move rfl rfl ?_))
          first | refine t_guard_no rfl rfl ?_ | (refine t_guard_yes rfl ?_; (refine t_int rfl rfl rfl rfl ?_))
          refine t_pick rfl rfl rfl ?_
          refine t_assign rfl rfl ?_
          refine TL.nil ?_
          repeat refine TC.seq ?_
          refine TC.region ?_
          refine t_move rfl rfl ?_
          refine t_add64 rfl rfl rfl (by omega) ?_
          refine t_assign rfl rfl ?_
          refine TL.nil ?_
          exact again (k' := 12 - (n + 1)) (by omega) ⟨n + 1, rfl, by omega, by omega, rfl⟩ (by rw [hes]) ⟨by simp; rfl, by rw [hus]; rfl, rfl, rfl, rfl, trivial⟩
      · have hc2 : n = 12 := by have := of_decide_eq_false hc; omega
        have hall : bs.take n = bs.take 12 := by rw [hc2]
        refine TC.exit ?_
        exact down (by rw [hall]) ⟨by rw [← hall]; rfl, rfl, rfl, trivial⟩
    | false =>
      have hk' := of_decide_eq_false hk
      have hall : bs.take n = bs.take 12 := by rw [List.take_of_length_le (by omega), List.take_of_length_le (by omega)]
      repeat refine TC.seq ?_
      refine TC.region ?_
      refine t_move rfl rfl ?_
      refine t_move rfl rfl ?_
      refine t_lenS rfl rfl hlen ?_
      (refine t_int rfl rfl rfl rfl ?_; rw [hk])
      refine t_move rfl rfl ?_
      first | refine t_guard_no rfl rfl ?_ | (refine t_guard_yes rfl ?_; (refine t_move rfl rfl ?_))
      first | refine t_guard_no rfl rfl ?_ | (refine t_guard_yes rfl ?_; (refine t_int rfl rfl rfl rfl ?_))
      refine t_pick rfl rfl rfl ?_
      refine TL.nil ?_
      repeat refine TC.seq ?_
      refine TC.cond rfl (fun hc => by cases hc) (fun hc => ?_)
      refine TC.exit ?_
      exact down (by rw [hall]) ⟨by rw [← hall]; rfl, rfl, rfl, trivial⟩
  generalize upS (bs.take 12) = up at hahead ⊢
  generalize edges (bs.take 12) = E at hR ⊢
  clear hlen hv hb hgr hp
  repeat refine TC.seq ?_
  refine TC.region ?_
  refine t_assign rfl rfl ?_
  refine TL.nil ?_
  repeat refine TC.seq ?_
  refine TC.block ?_
  refine TC.loopB (fun k s => ∃ (n : Nat), s = ⟨[(10, .m (.d (.int .i64 n))), (6, .m (.d (.bool up))), (4, .m (.rsl 0 0 7)), (3, .loc 3 0)], bxP p, HR (wK E n)⟩ ∧ n ≤ 7 ∧ k = 7 - n) 7 _
    ⟨0, rfl, by omega, rfl⟩ ⟨rfl, rfl, rfl, rfl, trivial⟩ ?_
  rintro k s ⟨n, rfl, hn, rfl⟩
  repeat refine TC.seq ?_
  refine TC.region ?_
  refine t_move rfl rfl ?_
  refine t_int rfl rfl rfl rfl ?_
  refine TL.nil ?_
  repeat refine TC.seq ?_
  refine TC.cond rfl (fun hc => ?_) (fun hc => ?_)
  · have hn7 : n < 7 := by have := of_decide_eq_true hc; omega
    clear hc
    have hnext := wK_succ E n
    generalize wK E n = E1 at hnext ⊢
    refine TC.skip ?_
    repeat refine TC.seq ?_
    refine TC.block ?_
    repeat refine TC.seq ?_
    refine TC.region ?_
    refine t_assign rfl rfl ?_
    refine TL.nil ?_
    repeat refine TC.seq ?_
    refine TC.block ?_
    refine TC.loopB (fun k s => ∃ (m : Nat), s = ⟨[(11, .m (.d (.int .i64 m))), (10, .m (.d (.int .i64 n))), (6, .m (.d (.bool up))), (4, .m (.rsl 0 0 7)), (3, .loc 3 0)], bxP p, HR (wI E1 n m)⟩ ∧ m ≤ 7 ∧ k = 7 - m) 7 _
      ⟨0, rfl, by omega, rfl⟩ ⟨rfl, rfl, rfl, rfl, rfl, trivial⟩ ?_
    rintro k s ⟨m, rfl, hm, rfl⟩
    repeat refine TC.seq ?_
    refine TC.region ?_
    refine t_move rfl rfl ?_
    refine t_int rfl rfl rfl rfl ?_
    refine TL.nil ?_
    repeat refine TC.seq ?_
    refine TC.cond rfl (fun hc => ?_) (fun hc => ?_)
    · have hm7 : m < 7 := by have := of_decide_eq_true hc; omega
      clear hc
      have hnext2 := wI_succ E1 n m
      generalize wI E1 n m = E2 at hnext2 ⊢
      refine TC.skip ?_
      repeat refine TC.seq ?_
      refine TC.block ?_
      repeat refine TC.seq ?_
      refine TC.region ?_
      refine t_assign rfl rfl ?_
      refine TL.nil ?_
      repeat refine TC.seq ?_
      refine TC.block ?_
      refine TC.loopB (fun k s => ∃ (q : Nat), s = ⟨[(12, .m (.d (.int .i64 q))), (11, .m (.d (.int .i64 m))), (10, .m (.d (.int .i64 n))), (6, .m (.d (.bool up))), (4, .m (.rsl 0 0 7)), (3, .loc 3 0)], bxP p, HR (wJ E2 n m q)⟩ ∧ q ≤ 7 ∧ k = 7 - q) 7 _
        ⟨0, rfl, by omega, rfl⟩ ⟨rfl, rfl, rfl, rfl, rfl, rfl, trivial⟩ ?_
      rintro k s ⟨q, rfl, hq, rfl⟩
      repeat refine TC.seq ?_
      refine TC.region ?_
      refine t_move rfl rfl ?_
      refine t_int rfl rfl rfl rfl ?_
      refine TL.nil ?_
      repeat refine TC.seq ?_
      refine TC.cond rfl (fun hc => ?_) (fun hc => ?_)
      · have hq7 : q < 7 := by have := of_decide_eq_true hc; omega
        clear hc
        have hnext3 := wJ_succ E2 n m q
        generalize wJ E2 n m q = E3 at hnext3 ⊢
        rw [step] at hnext3
        refine TC.skip ?_
        repeat refine TC.seq ?_
        refine TC.block ?_
        cases hb1 : E3 m q with
        | true =>
          rw [hb1, Bool.true_or] at hnext3
          repeat refine TC.seq ?_
          refine TC.draw mixed ?_
          refine f_move rfl rfl ?_
          refine f_move rfl rfl ?_
          refine f_indexR rfl rfl rfl rfl (by omega) (by omega) ?_
          refine f_loadWc rfl rfl rfl (outC_get m hm7) ?_
          refine f_move rfl rfl ?_
          refine f_move rfl rfl ?_
          refine f_move rfl rfl ?_
          refine f_indexR rfl rfl rfl rfl (by omega) (by omega) ?_
          refine f_loadWc rfl rfl rfl (outC_get m hm7) ?_
          refine f_move rfl rfl ?_
          refine f_indexR rfl rfl rfl (HR_row E3 m hm7) (by omega) (by omega) ?_
          refine f_loadWc (m := .d (.bool true)) rfl rfl (HR_row E3 m hm7) (by rw [rowC_get E3 m q hq7, hb1]) ?_
          refine f_move rfl rfl ?_
          first | refine f_guard_no rfl rfl rfl rfl ?_ | refine f_guard_un rfl rfl rfl ?_ | (refine f_guard_yes rfl rfl ?_; (refine f_move rfl rfl ?_))
          first | refine f_guard_no rfl rfl rfl rfl ?_ | refine f_guard_un rfl rfl rfl ?_ | (refine f_guard_yes rfl rfl ?_; (refine f_move rfl rfl ?_))
          first | refine f_guard_no rfl rfl rfl rfl ?_ | refine f_guard_un rfl rfl rfl ?_ | (refine f_guard_yes rfl rfl ?_; (refine f_indexR rfl rfl rfl rfl (by omega) (by omega) ?_))
          first | refine f_guard_no rfl rfl rfl rfl ?_ | refine f_guard_un rfl rfl rfl ?_ | (refine f_guard_yes rfl rfl ?_; (refine f_loadWc rfl rfl rfl (outC_get m hm7) ?_))
          first | refine f_guard_no rfl rfl rfl rfl ?_ | refine f_guard_un rfl rfl rfl ?_ | (refine f_guard_yes rfl rfl ?_; (refine f_move rfl rfl ?_))
          first | refine f_guard_no rfl rfl rfl rfl ?_ | refine f_guard_un rfl rfl rfl ?_ | (refine f_guard_yes rfl rfl ?_; (refine f_indexR rfl rfl rfl (HR_row E3 m hm7) (by omega) (by omega) ?_))
          first | refine f_guard_no rfl rfl rfl rfl ?_ | refine f_guard_un rfl rfl rfl ?_ | (refine f_guard_yes rfl rfl ?_; (refine f_loadWc (m := .d (.bool true)) rfl rfl (HR_row E3 m hm7) (by rw [rowC_get E3 m n hn7, hb2]) ?_))
          first | refine f_guard_no rfl rfl rfl rfl ?_ | refine f_guard_un rfl rfl rfl ?_ | (refine f_guard_yes rfl rfl ?_; (refine f_move rfl rfl ?_))
          first | refine f_guard_no rfl rfl rfl rfl ?_ | refine f_guard_un rfl rfl rfl ?_ | (refine f_guard_yes rfl rfl ?_; (refine f_move rfl rfl ?_))
          first | refine f_guard_no rfl rfl rfl rfl ?_ | refine f_guard_un rfl rfl rfl ?_ | (refine f_guard_yes rfl rfl ?_; (refine f_move rfl rfl ?_))
          first | refine f_guard_no rfl rfl rfl rfl ?_ | refine f_guard_un rfl rfl rfl ?_ | (refine f_guard_yes rfl rfl ?_; (refine f_indexR rfl rfl rfl rfl (by omega) (by omega) ?_))
          first | refine f_guard_no rfl rfl rfl rfl ?_ | refine f_guard_un rfl rfl rfl ?_ | (refine f_guard_yes rfl rfl ?_; (refine f_loadWc rfl rfl rfl (outC_get n hn7) ?_))
          first | refine f_guard_no rfl rfl rfl rfl ?_ | refine f_guard_un rfl rfl rfl ?_ | (refine f_guard_yes rfl rfl ?_; (refine f_move rfl rfl ?_))
          first | refine f_guard_no rfl rfl rfl rfl ?_ | refine f_guard_un rfl rfl rfl ?_ | (refine f_guard_yes rfl rfl ?_; (refine f_indexR rfl rfl rfl (HR_row E3 n hn7) (by omega) (by omega) ?_))
          first | refine f_guard_no rfl rfl rfl rfl ?_ | refine f_guard_un rfl rfl rfl ?_ | (refine f_guard_yes rfl rfl ?_; (refine f_loadWc (m := .d (.bool (E3 n q))) rfl rfl (HR_row E3 n hn7) (by rw [rowC_get E3 n q hq7]) ?_))
          first | refine f_guard_no rfl rfl rfl rfl ?_ | refine f_guard_un rfl rfl rfl ?_ | (refine f_guard_yes rfl rfl ?_; (refine f_pick rfl rfl rfl ?_))
          refine f_pick rfl rfl rfl ?_
          refine f_indexR rfl rfl rfl (HR_row E3 m hm7) (by omega) (by omega) ?_
          refine f_storeW rfl rfl (HR_row E3 m hm7) rfl rfl (rowC_write E3 m q _ hq7) ?_
          refine TF.nil ⟨by kernel_rfl, ?_⟩
          repeat refine TC.seq ?_
          refine TC.region ?_
          refine t_move rfl rfl ?_
          refine t_add64 rfl rfl rfl (by omega) ?_
          refine t_assign rfl rfl ?_
          refine TL.nil ?_
          exact again (k' := 7 - (q + 1)) (by omega) ⟨q + 1, rfl, by omega, rfl⟩ (by rw [hnext3]; exact HR_set E3 m q _ hm7) ⟨by simp; rfl, rfl, rfl, rfl, rfl, rfl, trivial⟩
        | false =>
          cases hb2 : E3 m n with
          | true =>
            rw [hb1, hb2, Bool.false_or, Bool.true_and] at hnext3
            repeat refine TC.seq ?_
            refine TC.draw mixed ?_
            refine f_move rfl rfl ?_
            refine f_move rfl rfl ?_
            refine f_indexR rfl rfl rfl rfl (by omega) (by omega) ?_
            refine f_loadWc rfl rfl rfl (outC_get m hm7) ?_
            refine f_move rfl rfl ?_
            refine f_move rfl rfl ?_
            refine f_move rfl rfl ?_
            refine f_indexR rfl rfl rfl rfl (by omega) (by omega) ?_
            refine f_loadWc rfl rfl rfl (outC_get m hm7) ?_
            refine f_move rfl rfl ?_
            refine f_indexR rfl rfl rfl (HR_row E3 m hm7) (by omega) (by omega) ?_
            refine f_loadWc (m := .d (.bool false)) rfl rfl (HR_row E3 m hm7) (by rw [rowC_get E3 m q hq7, hb1]) ?_
            refine f_move rfl rfl ?_
            first | refine f_guard_no rfl rfl rfl rfl ?_ | refine f_guard_un rfl rfl rfl ?_ | (refine f_guard_yes rfl rfl ?_; (refine f_move rfl rfl ?_))
            first | refine f_guard_no rfl rfl rfl rfl ?_ | refine f_guard_un rfl rfl rfl ?_ | (refine f_guard_yes rfl rfl ?_; (refine f_move rfl rfl ?_))
            first | refine f_guard_no rfl rfl rfl rfl ?_ | refine f_guard_un rfl rfl rfl ?_ | (refine f_guard_yes rfl rfl ?_; (refine f_indexR rfl rfl rfl rfl (by omega) (by omega) ?_))
            first | refine f_guard_no rfl rfl rfl rfl ?_ | refine f_guard_un rfl rfl rfl ?_ | (refine f_guard_yes rfl rfl ?_; (refine f_loadWc rfl rfl rfl (outC_get m hm7) ?_))
            first | refine f_guard_no rfl rfl rfl rfl ?_ | refine f_guard_un rfl rfl rfl ?_ | (refine f_guard_yes rfl rfl ?_; (refine f_move rfl rfl ?_))
            first | refine f_guard_no rfl rfl rfl rfl ?_ | refine f_guard_un rfl rfl rfl ?_ | (refine f_guard_yes rfl rfl ?_; (refine f_indexR rfl rfl rfl (HR_row E3 m hm7) (by omega) (by omega) ?_))
            first | refine f_guard_no rfl rfl rfl rfl ?_ | refine f_guard_un rfl rfl rfl ?_ | (refine f_guard_yes rfl rfl ?_; (refine f_loadWc (m := .d (.bool true)) rfl rfl (HR_row E3 m hm7) (by rw [rowC_get E3 m n hn7, hb2]) ?_))
            first | refine f_guard_no rfl rfl rfl rfl ?_ | refine f_guard_un rfl rfl rfl ?_ | (refine f_guard_yes rfl rfl ?_; (refine f_move rfl rfl ?_))
            first | refine f_guard_no rfl rfl rfl rfl ?_ | refine f_guard_un rfl rfl rfl ?_ | (refine f_guard_yes rfl rfl ?_; (refine f_move rfl rfl ?_))
            first | refine f_guard_no rfl rfl rfl rfl ?_ | refine f_guard_un rfl rfl rfl ?_ | (refine f_guard_yes rfl rfl ?_; (refine f_move rfl rfl ?_))
            first | refine f_guard_no rfl rfl rfl rfl ?_ | refine f_guard_un rfl rfl rfl ?_ | (refine f_guard_yes rfl rfl ?_; (refine f_indexR rfl rfl rfl rfl (by omega) (by omega) ?_))
            first | refine f_guard_no rfl rfl rfl rfl ?_ | refine f_guard_un rfl rfl rfl ?_ | (refine f_guard_yes rfl rfl ?_; (refine f_loadWc rfl rfl rfl (outC_get n hn7) ?_))
            first | refine f_guard_no rfl rfl rfl rfl ?_ | refine f_guard_un rfl rfl rfl ?_ | (refine f_guard_yes rfl rfl ?_; (refine f_move rfl rfl ?_))
            first | refine f_guard_no rfl rfl rfl rfl ?_ | refine f_guard_un rfl rfl rfl ?_ | (refine f_guard_yes rfl rfl ?_; (refine f_indexR rfl rfl rfl (HR_row E3 n hn7) (by omega) (by omega) ?_))
            first | refine f_guard_no rfl rfl rfl rfl ?_ | refine f_guard_un rfl rfl rfl ?_ | (refine f_guard_yes rfl rfl ?_; (refine f_loadWc (m := .d (.bool (E3 n q))) rfl rfl (HR_row E3 n hn7) (by rw [rowC_get E3 n q hq7]) ?_))
            first | refine f_guard_no rfl rfl rfl rfl ?_ | refine f_guard_un rfl rfl rfl ?_ | (refine f_guard_yes rfl rfl ?_; (refine f_pick rfl rfl rfl ?_))
            refine f_pick rfl rfl rfl ?_
            refine f_indexR rfl rfl rfl (HR_row E3 m hm7) (by omega) (by omega) ?_
            refine f_storeW rfl rfl (HR_row E3 m hm7) rfl rfl (rowC_write E3 m q _ hq7) ?_
            refine TF.nil ⟨by kernel_rfl, ?_⟩
            repeat refine TC.seq ?_
            refine TC.region ?_
            refine t_move rfl rfl ?_
            refine t_add64 rfl rfl rfl (by omega) ?_
            refine t_assign rfl rfl ?_
            refine TL.nil ?_
            exact again (k' := 7 - (q + 1)) (by omega) ⟨q + 1, rfl, by omega, rfl⟩ (by rw [hnext3]; exact HR_set E3 m q _ hm7) ⟨by simp; rfl, rfl, rfl, rfl, rfl, rfl, trivial⟩
          | false =>
            rw [hb1, hb2, Bool.false_or, Bool.false_and] at hnext3
            repeat refine TC.seq ?_
            refine TC.draw mixed ?_
            refine f_move rfl rfl ?_
            refine f_move rfl rfl ?_
            refine f_indexR rfl rfl rfl rfl (by omega) (by omega) ?_
            refine f_loadWc rfl rfl rfl (outC_get m hm7) ?_
            refine f_move rfl rfl ?_
            refine f_move rfl rfl ?_
            refine f_move rfl rfl ?_
            refine f_indexR rfl rfl rfl rfl (by omega) (by omega) ?_
            refine f_loadWc rfl rfl rfl (outC_get m hm7) ?_
            refine f_move rfl rfl ?_
            refine f_indexR rfl rfl rfl (HR_row E3 m hm7) (by omega) (by omega) ?_
            refine f_loadWc (m := .d (.bool false)) rfl rfl (HR_row E3 m hm7) (by rw [rowC_get E3 m q hq7, hb1]) ?_
            refine f_move rfl rfl ?_
            first | refine f_guard_no rfl rfl rfl rfl ?_ | refine f_guard_un rfl rfl rfl ?_ | (refine f_guard_yes rfl rfl ?_; (refine f_move rfl rfl ?_))
            first | refine f_guard_no rfl rfl rfl rfl ?_ | refine f_guard_un rfl rfl rfl ?_ | (refine f_guard_yes rfl rfl ?_; (refine f_move rfl rfl ?_))
            first | refine f_guard_no rfl rfl rfl rfl ?_ | refine f_guard_un rfl rfl rfl ?_ | (refine f_guard_yes rfl rfl ?_; (refine f_indexR rfl rfl rfl rfl (by omega) (by omega) ?_))
            first | refine f_guard_no rfl rfl rfl rfl ?_ | refine f_guard_un rfl rfl rfl ?_ | (refine f_guard_yes rfl rfl ?_; (refine f_loadWc rfl rfl rfl (outC_get m hm7) ?_))
            first | refine f_guard_no rfl rfl rfl rfl ?_ | refine f_guard_un rfl rfl rfl ?_ | (refine f_guard_yes rfl rfl ?_; (refine f_move rfl rfl ?_))
            first | refine f_guard_no rfl rfl rfl rfl ?_ | refine f_guard_un rfl rfl rfl ?_ | (refine f_guard_yes rfl rfl ?_; (refine f_indexR rfl rfl rfl (HR_row E3 m hm7) (by omega) (by omega) ?_))
            first | refine f_guard_no rfl rfl rfl rfl ?_ | refine f_guard_un rfl rfl rfl ?_ | (refine f_guard_yes rfl rfl ?_; (refine f_loadWc (m := .d (.bool false)) rfl rfl (HR_row E3 m hm7) (by rw [rowC_get E3 m n hn7, hb2]) ?_))
            first | refine f_guard_no rfl rfl rfl rfl ?_ | refine f_guard_un rfl rfl rfl ?_ | (refine f_guard_yes rfl rfl ?_; (refine f_move rfl rfl ?_))
            first | refine f_guard_no rfl rfl rfl rfl ?_ | refine f_guard_un rfl rfl rfl ?_ | (refine f_guard_yes rfl rfl ?_; (refine f_move rfl rfl ?_))
            first | refine f_guard_no rfl rfl rfl rfl ?_ | refine f_guard_un rfl rfl rfl ?_ | (refine f_guard_yes rfl rfl ?_; (refine f_move rfl rfl ?_))
            first | refine f_guard_no rfl rfl rfl rfl ?_ | refine f_guard_un rfl rfl rfl ?_ | (refine f_guard_yes rfl rfl ?_; (refine f_indexR rfl rfl rfl rfl (by omega) (by omega) ?_))
            first | refine f_guard_no rfl rfl rfl rfl ?_ | refine f_guard_un rfl rfl rfl ?_ | (refine f_guard_yes rfl rfl ?_; (refine f_loadWc rfl rfl rfl (outC_get n hn7) ?_))
            first | refine f_guard_no rfl rfl rfl rfl ?_ | refine f_guard_un rfl rfl rfl ?_ | (refine f_guard_yes rfl rfl ?_; (refine f_move rfl rfl ?_))
            first | refine f_guard_no rfl rfl rfl rfl ?_ | refine f_guard_un rfl rfl rfl ?_ | (refine f_guard_yes rfl rfl ?_; (refine f_indexR rfl rfl rfl (HR_row E3 n hn7) (by omega) (by omega) ?_))
            first | refine f_guard_no rfl rfl rfl rfl ?_ | refine f_guard_un rfl rfl rfl ?_ | (refine f_guard_yes rfl rfl ?_; (refine f_loadWc (m := .d (.bool (E3 n q))) rfl rfl (HR_row E3 n hn7) (by rw [rowC_get E3 n q hq7]) ?_))
            first | refine f_guard_no rfl rfl rfl rfl ?_ | refine f_guard_un rfl rfl rfl ?_ | (refine f_guard_yes rfl rfl ?_; (refine f_pick rfl rfl rfl ?_))
            refine f_pick rfl rfl rfl ?_
            refine f_indexR rfl rfl rfl (HR_row E3 m hm7) (by omega) (by omega) ?_
            refine f_storeW rfl rfl (HR_row E3 m hm7) rfl rfl (rowC_write E3 m q _ hq7) ?_
            refine TF.nil ⟨by kernel_rfl, ?_⟩
            repeat refine TC.seq ?_
            refine TC.region ?_
            refine t_move rfl rfl ?_
            refine t_add64 rfl rfl rfl (by omega) ?_
            refine t_assign rfl rfl ?_
            refine TL.nil ?_
            exact again (k' := 7 - (q + 1)) (by omega) ⟨q + 1, rfl, by omega, rfl⟩ (by rw [hnext3]; exact HR_set E3 m q _ hm7) ⟨by simp; rfl, rfl, rfl, rfl, rfl, rfl, trivial⟩
      · have hq7 : q = 7 := by have := of_decide_eq_false hc; omega
        subst hq7
        refine TC.exit ?_
        repeat refine TC.seq ?_
        refine TC.region ?_
        refine t_move rfl rfl ?_
        refine t_add64 rfl rfl rfl (by omega) ?_
        refine t_assign rfl rfl ?_
        refine TL.nil ?_
        exact again (k' := 7 - (m + 1)) (by omega) ⟨m + 1, rfl, by omega, rfl⟩ (by rw [hnext2]) ⟨by simp; rfl, rfl, rfl, rfl, rfl, trivial⟩
    · have hm7 : m = 7 := by have := of_decide_eq_false hc; omega
      subst hm7
      refine TC.exit ?_
      repeat refine TC.seq ?_
      refine TC.region ?_
      refine t_move rfl rfl ?_
      refine t_add64 rfl rfl rfl (by omega) ?_
      refine t_assign rfl rfl ?_
      refine TL.nil ?_
      exact again (k' := 7 - (n + 1)) (by omega) ⟨n + 1, rfl, by omega, rfl⟩ (by rw [hnext]) ⟨by simp; rfl, rfl, rfl, rfl, trivial⟩
  refine TC.exit ?_
  obtain rfl : n = 7 := by have := of_decide_eq_false hc; omega
  rw [← hR]
  clear hc hn hR
  repeat refine TC.seq ?_
  refine TC.region ?_
  refine t_assign rfl rfl ?_
  refine TL.nil ?_
  repeat refine TC.seq ?_
  refine TC.block ?_
  refine TC.loopB (fun k s => ∃ (n : Nat), s = ⟨[(13, .m (.d (.int .i64 n))), (6, .m (.d (.bool up))), (4, .m (.rsl 0 0 7)), (3, .loc 3 0)], bxP p, HR R⟩ ∧ n ≤ 6 ∧ k = 6 - n) 6 _
    ⟨0, rfl, by omega, rfl⟩ ⟨rfl, rfl, rfl, rfl, trivial⟩ ?_
  rintro k s ⟨n, rfl, hn, rfl⟩
  repeat refine TC.seq ?_
  refine TC.region ?_
  refine t_move rfl rfl ?_
  refine t_int rfl rfl rfl rfl ?_
  refine TL.nil ?_
  repeat refine TC.seq ?_
  refine TC.cond rfl (fun hc => ?_) (fun hc => ?_)
  · have hn6 : n < 6 := by have := of_decide_eq_true hc; omega
    clear hc
    refine TC.skip ?_
    repeat refine TC.seq ?_
    refine TC.block ?_
    repeat refine TC.seq ?_
    refine TC.region ?_
    refine t_move rfl rfl ?_
    refine t_move rfl rfl ?_
    refine t_indexR rfl rfl rfl rfl (by omega) (by omega) ?_
    refine t_loadWc rfl rfl rfl (outC_get n (by omega)) ?_
    refine t_indexR rfl rfl rfl (HR_row R n (by omega)) (by decide) (by decide) ?_
    refine t_loadWc rfl rfl (HR_row R n (by omega)) (rowC_get R n 6 (by omega)) ?_
    refine t_assign rfl rfl ?_
    refine TL.nil ?_
    repeat refine TC.seq ?_
    refine TC.region ?_
    refine t_assign rfl rfl ?_
    refine TL.nil ?_
    repeat refine TC.seq ?_
    refine TC.block ?_
    refine TC.loopB (fun k s => ∃ (q : Nat), s = ⟨[(15, .m (.d (.int .i64 q))), (14, .m (.d (.bool (badK R n q)))), (13, .m (.d (.int .i64 n))), (6, .m (.d (.bool up))), (4, .m (.rsl 0 0 7)), (3, .loc 3 0)], bxP p, HR R⟩ ∧ q ≤ 6 ∧ k = 6 - q) 6 _
      ⟨0, rfl, by omega, rfl⟩ ⟨rfl, rfl, rfl, rfl, rfl, rfl, trivial⟩ ?_
    rintro k s ⟨q, rfl, hq, rfl⟩
    repeat refine TC.seq ?_
    refine TC.region ?_
    refine t_move rfl rfl ?_
    refine t_int rfl rfl rfl rfl ?_
    refine TL.nil ?_
    repeat refine TC.seq ?_
    refine TC.cond rfl (fun hc => ?_) (fun hc => ?_)
    · have hq6 : q < 6 := by have := of_decide_eq_true hc; omega
      clear hc
      have hbs := badK_succ R n q
      have hqe : ((q : Int) == (n : Int)) = (q == n) := by rw [Bool.eq_iff_iff, beq_iff_eq, beq_iff_eq]; omega
      refine TC.skip ?_
      repeat refine TC.seq ?_
      refine TC.block ?_
      cases hbad : badK R n q with
      | true =>
        rw [hbad] at hbs
        have hr := True.intro
        have hqn := True.intro
        repeat refine TC.seq ?_
        refine TC.region ?_
        refine t_move rfl rfl ?_
        refine t_move rfl rfl ?_
        first | refine t_guard_no rfl rfl ?_ | (refine t_guard_yes rfl ?_; (refine t_move rfl rfl ?_))
        first | refine t_guard_no rfl rfl ?_ | (refine t_guard_yes rfl ?_; (refine t_move rfl rfl ?_))
        first | refine t_guard_no rfl rfl ?_ | (refine t_guard_yes rfl ?_; ((refine t_int rfl rfl rfl rfl ?_; rw [hqn])))
        first | refine t_guard_no rfl rfl ?_ | (refine t_guard_yes rfl ?_; (refine t_move rfl rfl ?_))
        first | refine t_guard_no rfl rfl ?_ | (refine t_guard_yes rfl ?_; (refine t_move rfl rfl ?_))
        first | refine t_guard_no rfl rfl ?_ | (refine t_guard_yes rfl ?_; (refine t_move rfl rfl ?_))
        first | refine t_guard_no rfl rfl ?_ | (refine t_guard_yes rfl ?_; (refine t_indexR rfl rfl rfl rfl (by omega) (by omega) ?_))
        first | refine t_guard_no rfl rfl ?_ | (refine t_guard_yes rfl ?_; (refine t_loadWc rfl rfl rfl (outC_get n (by omega)) ?_))
        first | refine t_guard_no rfl rfl ?_ | (refine t_guard_yes rfl ?_; (refine t_move rfl rfl ?_))
        first | refine t_guard_no rfl rfl ?_ | (refine t_guard_yes rfl ?_; (refine t_indexR rfl rfl rfl (HR_row R n (by omega)) (by omega) (by omega) ?_))
        first | refine t_guard_no rfl rfl ?_ | (refine t_guard_yes rfl ?_; (refine t_loadWc (m := .d (.bool true)) rfl rfl (HR_row R n (by omega)) (by rw [rowC_get R n q (by omega), hr]) ?_))
        first | refine t_guard_no rfl rfl ?_ | (refine t_guard_yes rfl ?_; (refine t_pick rfl rfl rfl ?_))
        first | refine t_guard_no rfl rfl ?_ | (refine t_guard_yes rfl ?_; (refine t_move rfl rfl ?_))
        first | refine t_guard_no rfl rfl ?_ | (refine t_guard_yes rfl ?_; (refine t_move rfl rfl ?_))
        first | refine t_guard_no rfl rfl ?_ | (refine t_guard_yes rfl ?_; (refine t_move rfl rfl ?_))
        first | refine t_guard_no rfl rfl ?_ | (refine t_guard_yes rfl ?_; (refine t_indexR rfl rfl rfl rfl (by omega) (by omega) ?_))
        first | refine t_guard_no rfl rfl ?_ | (refine t_guard_yes rfl ?_; (refine t_loadWc rfl rfl rfl (outC_get q (by omega)) ?_))
        first | refine t_guard_no rfl rfl ?_ | (refine t_guard_yes rfl ?_; (refine t_move rfl rfl ?_))
        first | refine t_guard_no rfl rfl ?_ | (refine t_guard_yes rfl ?_; (refine t_indexR rfl rfl rfl (HR_row R q (by omega)) (by omega) (by omega) ?_))
        first | refine t_guard_no rfl rfl ?_ | (refine t_guard_yes rfl ?_; (refine t_loadWc rfl rfl (HR_row R q (by omega)) (rowC_get R q q (by omega)) ?_))
        first | refine t_guard_no rfl rfl ?_ | (refine t_guard_yes rfl ?_; (refine t_pick rfl rfl rfl ?_))
        refine t_pick rfl rfl rfl ?_
        refine t_assign rfl rfl ?_
        refine TL.nil ?_
        repeat refine TC.seq ?_
        refine TC.region ?_
        refine t_move rfl rfl ?_
        refine t_add64 rfl rfl rfl (by omega) ?_
        refine t_assign rfl rfl ?_
        refine TL.nil ?_
        exact again (k' := 6 - (q + 1)) (by omega) ⟨q + 1, rfl, by omega, rfl⟩ rfl ⟨by simp; rfl, by rw [hbs]; rfl, rfl, rfl, rfl, rfl, trivial⟩
      | false =>
        cases hqn : ((q : Int) == (n : Int)) with
        | true =>
          rw [hbad, ← hqe, hqn] at hbs
          have hr := True.intro
          repeat refine TC.seq ?_
          refine TC.region ?_
          refine t_move rfl rfl ?_
          refine t_move rfl rfl ?_
          first | refine t_guard_no rfl rfl ?_ | (refine t_guard_yes rfl ?_; (refine t_move rfl rfl ?_))
          first | refine t_guard_no rfl rfl ?_ | (refine t_guard_yes rfl ?_; (refine t_move rfl rfl ?_))
          first | refine t_guard_no rfl rfl ?_ | (refine t_guard_yes rfl ?_; ((refine t_int rfl rfl rfl rfl ?_; rw [hqn])))
          first | refine t_guard_no rfl rfl ?_ | (refine t_guard_yes rfl ?_; (refine t_move rfl rfl ?_))
          first | refine t_guard_no rfl rfl ?_ | (refine t_guard_yes rfl ?_; (refine t_move rfl rfl ?_))
          first | refine t_guard_no rfl rfl ?_ | (refine t_guard_yes rfl ?_; (refine t_move rfl rfl ?_))
          first | refine t_guard_no rfl rfl ?_ | (refine t_guard_yes rfl ?_; (refine t_indexR rfl rfl rfl rfl (by omega) (by omega) ?_))
          first | refine t_guard_no rfl rfl ?_ | (refine t_guard_yes rfl ?_; (refine t_loadWc rfl rfl rfl (outC_get n (by omega)) ?_))
          first | refine t_guard_no rfl rfl ?_ | (refine t_guard_yes rfl ?_; (refine t_move rfl rfl ?_))
          first | refine t_guard_no rfl rfl ?_ | (refine t_guard_yes rfl ?_; (refine t_indexR rfl rfl rfl (HR_row R n (by omega)) (by omega) (by omega) ?_))
          first | refine t_guard_no rfl rfl ?_ | (refine t_guard_yes rfl ?_; (refine t_loadWc (m := .d (.bool true)) rfl rfl (HR_row R n (by omega)) (by rw [rowC_get R n q (by omega), hr]) ?_))
          first | refine t_guard_no rfl rfl ?_ | (refine t_guard_yes rfl ?_; (refine t_pick rfl rfl rfl ?_))
          first | refine t_guard_no rfl rfl ?_ | (refine t_guard_yes rfl ?_; (refine t_move rfl rfl ?_))
          first | refine t_guard_no rfl rfl ?_ | (refine t_guard_yes rfl ?_; (refine t_move rfl rfl ?_))
          first | refine t_guard_no rfl rfl ?_ | (refine t_guard_yes rfl ?_; (refine t_move rfl rfl ?_))
          first | refine t_guard_no rfl rfl ?_ | (refine t_guard_yes rfl ?_; (refine t_indexR rfl rfl rfl rfl (by omega) (by omega) ?_))
          first | refine t_guard_no rfl rfl ?_ | (refine t_guard_yes rfl ?_; (refine t_loadWc rfl rfl rfl (outC_get q (by omega)) ?_))
          first | refine t_guard_no rfl rfl ?_ | (refine t_guard_yes rfl ?_; (refine t_move rfl rfl ?_))
          first | refine t_guard_no rfl rfl ?_ | (refine t_guard_yes rfl ?_; (refine t_indexR rfl rfl rfl (HR_row R q (by omega)) (by omega) (by omega) ?_))
          first | refine t_guard_no rfl rfl ?_ | (refine t_guard_yes rfl ?_; (refine t_loadWc rfl rfl (HR_row R q (by omega)) (rowC_get R q q (by omega)) ?_))
          first | refine t_guard_no rfl rfl ?_ | (refine t_guard_yes rfl ?_; (refine t_pick rfl rfl rfl ?_))
          refine t_pick rfl rfl rfl ?_
          refine t_assign rfl rfl ?_
          refine TL.nil ?_
          repeat refine TC.seq ?_
          refine TC.region ?_
          refine t_move rfl rfl ?_
          refine t_add64 rfl rfl rfl (by omega) ?_
          refine t_assign rfl rfl ?_
          refine TL.nil ?_
          exact again (k' := 6 - (q + 1)) (by omega) ⟨q + 1, rfl, by omega, rfl⟩ rfl ⟨by simp; rfl, by rw [hbs]; rfl, rfl, rfl, rfl, rfl, trivial⟩
        | false =>
          cases hr : R n q with
          | true =>
            rw [hbad, ← hqe, hqn, hr] at hbs
            repeat refine TC.seq ?_
            refine TC.region ?_
            refine t_move rfl rfl ?_
            refine t_move rfl rfl ?_
            first | refine t_guard_no rfl rfl ?_ | (refine t_guard_yes rfl ?_; (refine t_move rfl rfl ?_))
            first | refine t_guard_no rfl rfl ?_ | (refine t_guard_yes rfl ?_; (refine t_move rfl rfl ?_))
            first | refine t_guard_no rfl rfl ?_ | (refine t_guard_yes rfl ?_; ((refine t_int rfl rfl rfl rfl ?_; rw [hqn])))
            first | refine t_guard_no rfl rfl ?_ | (refine t_guard_yes rfl ?_; (refine t_move rfl rfl ?_))
            first | refine t_guard_no rfl rfl ?_ | (refine t_guard_yes rfl ?_; (refine t_move rfl rfl ?_))
            first | refine t_guard_no rfl rfl ?_ | (refine t_guard_yes rfl ?_; (refine t_move rfl rfl ?_))
            first | refine t_guard_no rfl rfl ?_ | (refine t_guard_yes rfl ?_; (refine t_indexR rfl rfl rfl rfl (by omega) (by omega) ?_))
            first | refine t_guard_no rfl rfl ?_ | (refine t_guard_yes rfl ?_; (refine t_loadWc rfl rfl rfl (outC_get n (by omega)) ?_))
            first | refine t_guard_no rfl rfl ?_ | (refine t_guard_yes rfl ?_; (refine t_move rfl rfl ?_))
            first | refine t_guard_no rfl rfl ?_ | (refine t_guard_yes rfl ?_; (refine t_indexR rfl rfl rfl (HR_row R n (by omega)) (by omega) (by omega) ?_))
            first | refine t_guard_no rfl rfl ?_ | (refine t_guard_yes rfl ?_; (refine t_loadWc (m := .d (.bool true)) rfl rfl (HR_row R n (by omega)) (by rw [rowC_get R n q (by omega), hr]) ?_))
            first | refine t_guard_no rfl rfl ?_ | (refine t_guard_yes rfl ?_; (refine t_pick rfl rfl rfl ?_))
            first | refine t_guard_no rfl rfl ?_ | (refine t_guard_yes rfl ?_; (refine t_move rfl rfl ?_))
            first | refine t_guard_no rfl rfl ?_ | (refine t_guard_yes rfl ?_; (refine t_move rfl rfl ?_))
            first | refine t_guard_no rfl rfl ?_ | (refine t_guard_yes rfl ?_; (refine t_move rfl rfl ?_))
            first | refine t_guard_no rfl rfl ?_ | (refine t_guard_yes rfl ?_; (refine t_indexR rfl rfl rfl rfl (by omega) (by omega) ?_))
            first | refine t_guard_no rfl rfl ?_ | (refine t_guard_yes rfl ?_; (refine t_loadWc rfl rfl rfl (outC_get q (by omega)) ?_))
            first | refine t_guard_no rfl rfl ?_ | (refine t_guard_yes rfl ?_; (refine t_move rfl rfl ?_))
            first | refine t_guard_no rfl rfl ?_ | (refine t_guard_yes rfl ?_; (refine t_indexR rfl rfl rfl (HR_row R q (by omega)) (by omega) (by omega) ?_))
            first | refine t_guard_no rfl rfl ?_ | (refine t_guard_yes rfl ?_; (refine t_loadWc rfl rfl (HR_row R q (by omega)) (rowC_get R q q (by omega)) ?_))
            first | refine t_guard_no rfl rfl ?_ | (refine t_guard_yes rfl ?_; (refine t_pick rfl rfl rfl ?_))
            refine t_pick rfl rfl rfl ?_
            refine t_assign rfl rfl ?_
            refine TL.nil ?_
            repeat refine TC.seq ?_
            refine TC.region ?_
            refine t_move rfl rfl ?_
            refine t_add64 rfl rfl rfl (by omega) ?_
            refine t_assign rfl rfl ?_
            refine TL.nil ?_
            exact again (k' := 6 - (q + 1)) (by omega) ⟨q + 1, rfl, by omega, rfl⟩ rfl ⟨by simp; rfl, by rw [hbs]; rfl, rfl, rfl, rfl, rfl, trivial⟩
          | false =>
            rw [hbad, ← hqe, hqn, hr] at hbs
            repeat refine TC.seq ?_
            refine TC.region ?_
            refine t_move rfl rfl ?_
            refine t_move rfl rfl ?_
            first | refine t_guard_no rfl rfl ?_ | (refine t_guard_yes rfl ?_; (refine t_move rfl rfl ?_))
            first | refine t_guard_no rfl rfl ?_ | (refine t_guard_yes rfl ?_; (refine t_move rfl rfl ?_))
            first | refine t_guard_no rfl rfl ?_ | (refine t_guard_yes rfl ?_; ((refine t_int rfl rfl rfl rfl ?_; rw [hqn])))
            first | refine t_guard_no rfl rfl ?_ | (refine t_guard_yes rfl ?_; (refine t_move rfl rfl ?_))
            first | refine t_guard_no rfl rfl ?_ | (refine t_guard_yes rfl ?_; (refine t_move rfl rfl ?_))
            first | refine t_guard_no rfl rfl ?_ | (refine t_guard_yes rfl ?_; (refine t_move rfl rfl ?_))
            first | refine t_guard_no rfl rfl ?_ | (refine t_guard_yes rfl ?_; (refine t_indexR rfl rfl rfl rfl (by omega) (by omega) ?_))
            first | refine t_guard_no rfl rfl ?_ | (refine t_guard_yes rfl ?_; (refine t_loadWc rfl rfl rfl (outC_get n (by omega)) ?_))
            first | refine t_guard_no rfl rfl ?_ | (refine t_guard_yes rfl ?_; (refine t_move rfl rfl ?_))
            first | refine t_guard_no rfl rfl ?_ | (refine t_guard_yes rfl ?_; (refine t_indexR rfl rfl rfl (HR_row R n (by omega)) (by omega) (by omega) ?_))
            first | refine t_guard_no rfl rfl ?_ | (refine t_guard_yes rfl ?_; (refine t_loadWc (m := .d (.bool false)) rfl rfl (HR_row R n (by omega)) (by rw [rowC_get R n q (by omega), hr]) ?_))
            first | refine t_guard_no rfl rfl ?_ | (refine t_guard_yes rfl ?_; (refine t_pick rfl rfl rfl ?_))
            first | refine t_guard_no rfl rfl ?_ | (refine t_guard_yes rfl ?_; (refine t_move rfl rfl ?_))
            first | refine t_guard_no rfl rfl ?_ | (refine t_guard_yes rfl ?_; (refine t_move rfl rfl ?_))
            first | refine t_guard_no rfl rfl ?_ | (refine t_guard_yes rfl ?_; (refine t_move rfl rfl ?_))
            first | refine t_guard_no rfl rfl ?_ | (refine t_guard_yes rfl ?_; (refine t_indexR rfl rfl rfl rfl (by omega) (by omega) ?_))
            first | refine t_guard_no rfl rfl ?_ | (refine t_guard_yes rfl ?_; (refine t_loadWc rfl rfl rfl (outC_get q (by omega)) ?_))
            first | refine t_guard_no rfl rfl ?_ | (refine t_guard_yes rfl ?_; (refine t_move rfl rfl ?_))
            first | refine t_guard_no rfl rfl ?_ | (refine t_guard_yes rfl ?_; (refine t_indexR rfl rfl rfl (HR_row R q (by omega)) (by omega) (by omega) ?_))
            first | refine t_guard_no rfl rfl ?_ | (refine t_guard_yes rfl ?_; (refine t_loadWc rfl rfl (HR_row R q (by omega)) (rowC_get R q q (by omega)) ?_))
            first | refine t_guard_no rfl rfl ?_ | (refine t_guard_yes rfl ?_; (refine t_pick rfl rfl rfl ?_))
            refine t_pick rfl rfl rfl ?_
            refine t_assign rfl rfl ?_
            refine TL.nil ?_
            repeat refine TC.seq ?_
            refine TC.region ?_
            refine t_move rfl rfl ?_
            refine t_add64 rfl rfl rfl (by omega) ?_
            refine t_assign rfl rfl ?_
            refine TL.nil ?_
            exact again (k' := 6 - (q + 1)) (by omega) ⟨q + 1, rfl, by omega, rfl⟩ rfl ⟨by simp; rfl, by rw [hbs]; rfl, rfl, rfl, rfl, rfl, trivial⟩
    · have hq6 : q = 6 := by have := of_decide_eq_false hc; omega
      subst hq6
      refine TC.exit ?_
      obtain ⟨F, r, m, hf, hr⟩ := hsteps n hn6
      have hd := hdeep n hn6
      have hbb : (!(badS R n == badS R n)) = false := by simp
      rw [show badK R n 6 = badS R n from rfl]
      repeat refine TC.seq ?_
      refine TC.region ?_
      refine t_move rfl rfl ?_
      refine t_call1 (numS_ok n (by omega) (by omega)) rfl rfl ?_
      refine t_stradd rfl rfl rfl (by rw [dig_size]; decide) ?_
      refine t_assign rfl rfl ?_
      refine TL.nil ?_
      repeat refine TC.seq ?_
      refine TC.region ?_
      first | refine t_loadDw rfl rfl rfl ?_ | refine t_loadDa rfl rfl rfl ?_ | refine t_loadLa rfl rfl rfl rfl rfl ?_ | refine t_loadRa rfl rfl rfl rfl rfl ?_
      refine t_move rfl rfl ?_
      refine t_call1 (steps_ok p (nm n) F r m hf) rfl rfl ?_
      (refine t_int rfl rfl rfl rfl ?_; rw [hr])
      refine t_move rfl rfl ?_
      (refine t_bne rfl rfl rfl ?_; rw [hbb])
      refine t_move rfl rfl ?_
      first | refine t_guard_no rfl rfl ?_ | (refine t_guard_yes rfl ?_; (first | refine t_loadDw rfl rfl rfl ?_ | refine t_loadDa rfl rfl rfl ?_ | refine t_loadLa rfl rfl rfl rfl rfl ?_ | refine t_loadRa rfl rfl rfl rfl rfl ?_))
      first | refine t_guard_no rfl rfl ?_ | (refine t_guard_yes rfl ?_; (refine t_move rfl rfl ?_))
      first | refine t_guard_no rfl rfl ?_ | (refine t_guard_yes rfl ?_; (refine t_call1 (deepP_ok p hsm (nm n)) rfl rfl ?_))
      first | refine t_guard_no rfl rfl ?_ | (refine t_guard_yes rfl ?_; ((refine t_int rfl rfl rfl rfl ?_; rw [hd])))
      first | refine t_guard_no rfl rfl ?_ | (refine t_guard_yes rfl ?_; (refine t_move rfl rfl ?_))
      first | refine t_guard_no rfl rfl ?_ | (refine t_guard_yes rfl ?_; ((refine t_bne rfl rfl rfl ?_; rw [hbb])))
      refine t_pick rfl rfl rfl ?_
      refine TL.nil ?_
      refine TC.cond rfl (fun hc => by cases hc) (fun hc => ?_)
      refine TC.skip ?_
      repeat refine TC.seq ?_
      refine TC.region ?_
      refine t_move rfl rfl ?_
      refine t_add64 rfl rfl rfl (by omega) ?_
      refine t_assign rfl rfl ?_
      refine TL.nil ?_
      exact again (k' := 6 - (n + 1)) (by omega) ⟨n + 1, rfl, by omega, rfl⟩ rfl ⟨by simp; rfl, rfl, rfl, rfl, trivial⟩
  refine TC.exit ?_
  have e1 : fnS p 0 s6 [] = some (-1, []) := by simp [fnS, look, h6]
  have e2 : deepP p s6 = -1 := by
    rw [deepP]
    cases p.length with
    | zero => rfl
    | succ n => simp [deepS, h6]
  have e3 : callsOf p s6 = [] := by simp [callsOf, h6]
  have hbb : (up == up) = true := by simp
  rw [s6] at e1 e2 e3
  repeat refine TC.seq ?_
  refine TC.region ?_
  first | refine t_loadDw rfl rfl rfl ?_ | refine t_loadDa rfl rfl rfl ?_ | refine t_loadLa rfl rfl rfl rfl rfl ?_ | refine t_loadRa rfl rfl rfl rfl rfl ?_
  (refine t_call1 (ahead_ok p hsm) rfl rfl ?_; rw [hahead])
  refine t_move rfl rfl ?_
  (refine t_beq rfl rfl rfl ?_; rw [hbb])
  refine t_move rfl rfl ?_
  first | refine t_guard_no rfl rfl ?_ | (refine t_guard_yes rfl ?_; (first | refine t_loadDw rfl rfl rfl ?_ | refine t_loadDa rfl rfl rfl ?_ | refine t_loadLa rfl rfl rfl rfl rfl ?_ | refine t_loadRa rfl rfl rfl rfl rfl ?_))
  first | refine t_guard_no rfl rfl ?_ | (refine t_guard_yes rfl ?_; (refine t_call1 (steps_ok p _ 0 (-1) [] e1) rfl rfl ?_))
  first | refine t_guard_no rfl rfl ?_ | (refine t_guard_yes rfl ?_; (refine t_int rfl rfl rfl rfl ?_))
  refine t_pick rfl rfl rfl ?_
  refine t_move rfl rfl ?_
  first | refine t_guard_no rfl rfl ?_ | (refine t_guard_yes rfl ?_; (first | refine t_loadDw rfl rfl rfl ?_ | refine t_loadDa rfl rfl rfl ?_ | refine t_loadLa rfl rfl rfl rfl rfl ?_ | refine t_loadRa rfl rfl rfl rfl rfl ?_))
  first | refine t_guard_no rfl rfl ?_ | (refine t_guard_yes rfl ?_; ((refine t_call1 (deepP_ok p hsm ⟨#[102, 54]⟩) rfl rfl ?_; rw [e2])))
  first | refine t_guard_no rfl rfl ?_ | (refine t_guard_yes rfl ?_; (refine t_int rfl rfl rfl rfl ?_))
  refine t_pick rfl rfl rfl ?_
  refine t_move rfl rfl ?_
  first | refine t_guard_no rfl rfl ?_ | (refine t_guard_yes rfl ?_; (first | refine t_loadDw rfl rfl rfl ?_ | refine t_loadDa rfl rfl rfl ?_ | refine t_loadLa rfl rfl rfl rfl rfl ?_ | refine t_loadRa rfl rfl rfl rfl rfl ?_))
  first | refine t_guard_no rfl rfl ?_ | (refine t_guard_yes rfl ?_; ((refine t_call1 (callsOf_ok p ⟨#[102, 54]⟩ hsm) rfl rfl ?_; rw [e3])))
  first | refine t_guard_no rfl rfl ?_ | (refine t_guard_yes rfl ?_; (refine t_lenS rfl rfl rfl ?_))
  first | refine t_guard_no rfl rfl ?_ | (refine t_guard_yes rfl ?_; (refine t_int rfl rfl rfl rfl ?_))
  refine t_pick rfl rfl rfl ?_
  refine t_assign rfl rfl ?_
  refine TL.nil ?_
  exact TC.ret ⟨_, rfl, [_], rfl, rfl⟩
end Go.Proofs
