/- The node that the law makes of numbers. -/
import Derived.Test.YtcmjcdiaidalgaaGrD
import Derived.Test.YtcmjcdiaidalgaaLibE
namespace Go.Proofs
open Go.Mt
set_option maxRecDepth 4000
set_option linter.unusedSimpArgs false
set_option linter.unusedVariables false

abbrev zeroE : List D := [.int .u8 0, .int .u8 0, .int .i32 0, .str ⟨#[]⟩, .sl [], .sl [], .int .i64 0, .int .i64 0]
theorem dig_size (m : Int) : (strOfNums [IntKind.u8.wrap m]).size = 1 := by simp [strOfNums, ByteArray.size]
/-- a variable -/
abbrev varC (k : Nat) : List D := [.str (vn k), .int .u8 2, .str ⟨#[]⟩, .sl [], .bool false, .int .u8 0, .int .u8 0, .int .i32 0, .str ⟨#[]⟩, .sl [], .sl [], .int .i64 0, .int .i64 0, .int .i64 0, .int .i64 0]
def varsD (n : Nat) : List (List D) := (List.range n).map varC
theorem varsD_len (n : Nat) : (varsD n).length = n := by simp [varsD]
theorem varsD_lens (n : Nat) : ∀ r ∈ varsD n, r.length = 15 := by intro r hr; obtain ⟨_, _, rfl⟩ := List.mem_map.1 hr; rfl
theorem varsD_snoc (n : Nat) : varsD (n + 1) = varsD n ++ [varC n] := by simp [varsD, List.range_succ]
theorem varsD_get {n k : Nat} (h : k < n) : (varsD n)[(k : Int).toNat]? = some (varC k) := by simp [varsD, h]

/-- does a number's bit say yes? does what stands above it? -/
def bitB (x : Int) (k : Nat) : Bool := IntKind.u16.wrap (BitVec.ofInt IntKind.u16.bits (x.fdiv (2 ^ (min (k : Int).toNat IntKind.u16.bits))) &&& BitVec.ofInt IntKind.u16.bits 1).toNat == 1
def modB (x : Int) (k : Nat) : Bool := (IntKind.i64.wrap (IntKind.i64.wrap (x.fdiv (2 ^ (min (14 : Int).toNat IntKind.u16.bits))) + (k : Int))).tmod 3 == 0
def hitB (x : Int) (k : Nat) : Bool := bif bitB x k then modB x k else false
def fbyB (x : Int) : Bool := x.tmod 7 == 0
/-- the variables that an equation's sum has -/
def sumK (x : Int) (n : Nat) : List Nat := (List.range n).filter (hitB x)
theorem sumK_snoc (x : Int) (n : Nat) : sumK x (n + 1) = if hitB x n then sumK x n ++ [n] else sumK x n := by
  simp only [sumK, List.range_succ, List.filter_append]
  cases h : hitB x n <;> simp [h]
theorem sumK_le (x : Int) (n : Nat) : (sumK x n).length ≤ n := by
  have := List.length_filter_le (hitB x) (List.range n)
  simpa [sumK] using this
def exprOf (ks : List Nat) : List D := exprR ks.reverse
theorem exprOf_snoc (ks : List Nat) (k : Nat) : exprOf (ks ++ [k]) = [.int .u8 7, .int .u8 3, .int .i32 0, .str ⟨#[]⟩, .sl [], .sl [exprOf ks, varE k], .int .i64 0, .int .i64 0] := by simp [exprOf, exprR]
/-- an equation -/
def eqC (f : Bool) (k : Nat) (ks : List Nat) : List D := [.int .u8 (bif f then 2 else 1), .sl [[.str (vn k)]], .str ⟨#[]⟩] ++ (bif f then intE else zeroE) ++ exprOf ks ++ [.sl [], .sl [], .sl []]
theorem exprOf_len (ks : List Nat) : (exprOf ks).length = 8 := by obtain ⟨_, _, _, _, _, _, he⟩ := exprR_shape ks.reverse; rw [exprOf, he]; rfl
theorem eqC_len (f : Bool) (k : Nat) (ks : List Nat) : (eqC f k ks).length = 22 := by
  have := exprOf_len ks
  cases f <;> simp [eqC, this]
def eqOf (xs : List Int) (i : Nat) : List D := eqC (fbyB (xs.getD i 0)) i (sumK (xs.getD i 0) xs.length)
def eqsD (xs : List Int) (n : Nat) : List (List D) := (List.range n).map (eqOf xs)
theorem eqsD_len (xs : List Int) (n : Nat) : (eqsD xs n).length = n := by simp [eqsD]
theorem eqsD_lens (xs : List Int) (n : Nat) : ∀ r ∈ eqsD xs n, r.length = 22 := by intro r hr; obtain ⟨_, _, rfl⟩ := List.mem_map.1 hr; exact eqC_len _ _ _
theorem eqsD_snoc (xs : List Int) (n : Nat) : eqsD xs (n + 1) = eqsD xs n ++ [eqOf xs n] := by simp [eqsD, List.range_succ]
theorem eqsD_get {xs : List Int} {n k : Nat} (h : k < n) : (eqsD xs n)[(k : Int).toNat]? = some (eqOf xs k) := by simp [eqsD, h]
def nameF : ByteArray := ⟨#[102]⟩
/-- the node, of the numbers that count -/
def chainC (xs : List Int) : List D := [.str nameF, .sl [], .sl [], .sl (varsD xs.length), .sl (eqsD xs xs.length)]

theorem viewAll_c {H : Hp} {m : M} {d : D} {r ms : List M} (h : viewV H m = some d) (h2 : viewAll H r = some ms) : viewAll H (m :: r) = some (.d d :: ms) := by simp only [viewAll, h, h2]
theorem chain_ok (zs : List Int) (v : D) (hin : InI .u16 zs v) : PT Try.prog 8 [v] (· = [.agg (chainC (zs.take 14))]) := by
  obtain ⟨hlen, hv, hwf⟩ := hin
  refine PT.of_CT (CT.of_body Try.func8 rfl Try.ntmps8 rfl fun s0 Oo => ?_)
  refine TC.base fun hbase => ?_
  repeat refine TC.seq ?_
  refine TC.region ?_
  refine t_alloc rfl rfl ?_
  refine TL.nil ?_
  repeat refine TC.seq ?_
  refine TC.region ?_
  refine t_build rfl rfl rfl rfl rfl ?_
  refine t_alloc rfl rfl ?_
  refine t_storeL rfl rfl rfl rfl rfl rfl ?_
  refine TL.nil ?_
  repeat refine TC.seq ?_
  refine TC.region ?_
  refine t_move rfl rfl ?_
  refine t_lenS rfl rfl hlen ?_
  refine t_assign rfl rfl ?_
  refine TL.nil ?_
  repeat refine TC.seq ?_
  refine TC.region ?_
  refine t_move rfl rfl ?_
  refine t_int rfl rfl rfl rfl ?_
  refine TL.nil ?_
  repeat refine TC.seq ?_
  -- how many
  have hnl : (zs.take 14).length = min 14 zs.length := by simp
  generalize hxs : zs.take 14 = xs at hnl ⊢
  refine TC.mid ⟨[(4, .m (.d (.int .i64 (xs.length : Int)))), (3, .loc 3 0), (2, .loc 2 0), (0, .m (.d v))], [(3, [.d (.str nameF), .d (.sl []), .d (.sl []), .d (.sl []), .d (.sl [])]), (3, [.d (.str ⟨#[]⟩), .d (.sl []), .d (.sl []), .d (.sl []), .d (.sl [])]), (2, [.d (.str ⟨#[]⟩), .d (.sl []), .d (.sl []), .d (.sl []), .d (.sl [])])], []⟩ ?_ ?_
  refine TC.cond rfl (fun hc => ?_) (fun hc => ?_)
  · repeat refine TC.seq ?_
    refine TC.region ?_
    refine t_assign rfl rfl ?_
    refine TL.nil ?_
    have hc' : 14 < zs.length := by have := of_decide_eq_true hc; omega
    refine down rfl ⟨?_, rfl, rfl, rfl, trivial⟩
    have : (xs.length : Int) = 14 := by omega
    rw [this]; rfl
  · refine TC.skip ?_
    have hc' : zs.length ≤ 14 := by have := of_decide_eq_false hc; omega
    refine down rfl ⟨?_, rfl, rfl, rfl, trivial⟩
    have : (xs.length : Int) = zs.length := by omega
    rw [this]; rfl
  have hn14 : xs.length ≤ 14 := by omega
  have hnz : xs.length ≤ zs.length := by omega
  have hget : ∀ i, i < xs.length → zs[i]? = some (xs.getD i 0) := by
    intro i hi
    have : xs[i]? = zs[i]? := by rw [← hxs, List.getElem?_take]; simp; omega
    rw [← this, List.getD_eq_getElem?_getD, List.getElem?_eq_getElem hi]; rfl
  repeat refine TC.seq ?_
  refine TC.region ?_
  refine t_assign rfl rfl ?_
  refine TL.nil ?_
  repeat refine TC.seq ?_
  refine TC.mid ⟨[(4, .m (.d (.int .i64 (xs.length : Int)))), (3, .loc 3 0), (2, .loc 2 0), (0, .m (.d v))], [(3, [.d (.str nameF), .d (.sl []), .d (.sl []), .d (.sl (varsD xs.length)), .d (.sl [])]), (2, [.d (.str ⟨#[]⟩), .d (.sl []), .d (.sl []), .d (.sl []), .d (.sl [])])], []⟩ ?_ ?_
  · refine TC.block ?_
    refine TC.loopB (fun k s => ∃ (i : Nat) (bx : List (Nat × List M)), s = ⟨[(5, .m (.d (.int .i64 i))), (4, .m (.d (.int .i64 (xs.length : Int)))), (3, .loc 3 0), (2, .loc 2 0), (0, .m (.d v))], bx, genH [] 15 (varsD i)⟩ ∧
        (∀ t, get bx t = get [(3, [.d (.str nameF), .d (.sl []), .d (.sl []), genM 0 (varsD i), .d (.sl [])]), (2, [.d (.str ⟨#[]⟩), .d (.sl []), .d (.sl []), .d (.sl []), .d (.sl [])])] t) ∧ i ≤ xs.length ∧ k = xs.length - i) xs.length _
      ⟨0, _, rfl, ?_, by omega, rfl⟩ ⟨rfl, rfl, rfl, rfl, rfl, trivial⟩ ?_
    · intro t; simp only [Go.Mt.get]; cases Nat.beq 3 t <;> cases Nat.beq 2 t <;> rfl
    rintro k s ⟨i, bx, rfl, hb, hi, rfl⟩
    have hb3 := hb 3
    have hb2 := hb 2
    repeat refine TC.seq ?_
    refine TC.region ?_
    refine t_move rfl rfl ?_
    refine t_move rfl rfl ?_
    refine t_int rfl rfl rfl rfl ?_
    refine TL.nil ?_
    repeat refine TC.seq ?_
    refine TC.cond rfl (fun hc => ?_) (fun hc => ?_)
    · have hc' : i < xs.length := by have := of_decide_eq_true hc; omega
      clear hc
      refine TC.skip ?_
      repeat refine TC.seq ?_
      refine TC.block ?_
      repeat refine TC.seq ?_
      refine TC.region ?_
      first | refine t_fieldD rfl rfl ?_ | refine t_fieldL rfl rfl ?_ | refine t_fieldR rfl rfl ?_ | refine t_fieldW rfl rfl ?_
      refine t_loadLc rfl rfl hb3 rfl ?_
      refine t_move rfl rfl ?_
      refine t_add64 rfl rfl rfl (by omega) ?_
      refine t_convI rfl rfl ?_
      refine t_buildSlice rfl rfl rfl rfl rfl rfl rfl rfl ?_
      refine t_b2s rfl rfl rfl ?_
      refine t_stradd rfl rfl rfl (by have := dig_size (97 + (i : Int)); have h1 : (⟨#[118]⟩ : ByteArray).size = 1 := rfl; omega) ?_
      refine t_build rfl rfl rfl rfl rfl ?_
      refine t_build rfl rfl rfl rfl rfl ?_
      refine t_buildSlice rfl rfl rfl rfl rfl rfl rfl rfl ?_
      refine t_snoc (H0 := []) rfl rfl rfl rfl (by rfl) rfl (by rw [varsD_len]; omega) (by rw [varsD_len]; omega) ?_
      first | refine t_fieldD rfl rfl ?_ | refine t_fieldL rfl rfl ?_ | refine t_fieldR rfl rfl ?_ | refine t_fieldW rfl rfl ?_
      refine t_storeL rfl rfl hb3 (cells_gen _ _) rfl rfl ?_
      refine TL.nil ?_
      repeat refine TC.seq ?_
      refine TC.region ?_
      refine t_move rfl rfl ?_
      refine t_add64 rfl rfl rfl (by omega) ?_
      refine t_assign rfl rfl ?_
      refine TL.nil ?_
      refine again (k' := xs.length - (i + 1)) (by omega) ⟨i + 1, _, rfl, ?_, by omega, rfl⟩ (by rw [varsD_snoc]; rfl) ⟨by simp; rfl, rfl, rfl, rfl, rfl, trivial⟩
      intro t
      rw [varsD_snoc, get_cons]
      by_cases h3 : 3 = t
      · subst h3; rfl
      · rw [if_neg h3, hb t]
        simp only [Go.Mt.get]
        have : Nat.beq 3 t = false := by rw [← Bool.not_eq_true]; intro h; exact h3 (Nat.eq_of_beq_eq_true h)
        rw [this]; rfl
    · refine TC.exit ?_
      have hc' : i = xs.length := by have := of_decide_eq_false hc; omega
      subst hc'
      intro a w hi
      have h1 := hi.weak (sl' := [(4, .m (.d (.int .i64 (xs.length : Int)))), (3, .loc 3 0), (2, .loc 2 0), (0, .m (.d v))]) (keeps_get ⟨rfl, rfl, rfl, rfl, trivial⟩) (fun t => (hb t).symm)
      have hview := gen_view [] 15 (varsD xs.length) (varsD_lens _)
      have h2 := h1.viewBox (t := 3) (cs' := [.d (.str nameF), .d (.sl []), .d (.sl []), .d (.sl (varsD xs.length)), .d (.sl [])]) rfl (viewAll_c rfl (viewAll_c rfl (viewAll_c rfl (viewAll_c hview (viewAll_c rfl rfl)))))
      have h3 := h2.weak (sl' := [(4, .m (.d (.int .i64 (xs.length : Int)))), (3, .loc 3 0), (2, .loc 2 0), (0, .m (.d v))]) (bx' := [(3, [.d (.str nameF), .d (.sl []), .d (.sl []), .d (.sl (varsD xs.length)), .d (.sl [])]), (2, [.d (.str ⟨#[]⟩), .d (.sl []), .d (.sl []), .d (.sl []), .d (.sl [])])]) (fun _ _ h => h) (by
        intro t; simp only [Go.Mt.get]; cases Nat.beq 3 t <;> rfl)
      exact h3.trim 0 hbase (Nat.zero_le _) (fun t v h => ⟨h, vbb_ok (by
        simp only [Go.Mt.get] at h
        cases h4 : Nat.beq 4 t <;> cases h5 : Nat.beq 3 t <;> cases h6 : Nat.beq 2 t <;> cases h7 : Nat.beq 0 t <;> rw [h4, h5, h6, h7] at h <;> simp at h <;> (try subst h) <;> rfl)⟩) (by
        intro t cs h
        exact ⟨h, mbbs_ok (by
          simp only [Go.Mt.get] at h
          cases h5 : Nat.beq 3 t <;> cases h6 : Nat.beq 2 t <;> rw [h5, h6] at h <;> simp at h <;> (try subst h) <;> rfl)⟩) (by intro ob hob; simp at hob)
  refine TC.rename [(4, .m (.d (.int .i64 (xs.length : Int)))), (3, .loc 3 0), (2, .loc 2 0), (0, .m (.d v))] (genH [] 22 (eqsD xs 0)) ⟨rfl, rfl, rfl, rfl, trivial⟩ rfl ?_
  repeat refine TC.seq ?_
  refine TC.region ?_
  refine t_assign rfl rfl ?_
  refine TL.nil ?_
  repeat refine TC.seq ?_
  refine TC.block ?_
  refine TC.loopB (fun k s => ∃ (i : Nat) (bx : List (Nat × List M)), s = ⟨[(6, .m (.d (.int .i64 i))), (4, .m (.d (.int .i64 (xs.length : Int)))), (3, .loc 3 0), (2, .loc 2 0), (0, .m (.d v))], bx, genH [] 22 (eqsD xs i)⟩ ∧
      get bx 3 = some [.d (.str nameF), .d (.sl []), .d (.sl []), .d (.sl (varsD xs.length)), genM 0 (eqsD xs i)] ∧ get bx 2 = some [.d (.str ⟨#[]⟩), .d (.sl []), .d (.sl []), .d (.sl []), .d (.sl [])] ∧ i ≤ xs.length ∧ k = xs.length - i) xs.length _
    ⟨0, _, rfl, rfl, rfl, by omega, rfl⟩ ⟨rfl, rfl, rfl, rfl, rfl, trivial⟩ ?_
  rintro k s ⟨i, bx, rfl, hb3, hb2, hi, rfl⟩
  repeat refine TC.seq ?_
  refine TC.region ?_
  refine t_move rfl rfl ?_
  refine t_move rfl rfl ?_
  refine t_int rfl rfl rfl rfl ?_
  refine TL.nil ?_
  repeat refine TC.seq ?_
  refine TC.cond rfl (fun hc => ?_) (fun hc => ?_)
  · have hc' : i < xs.length := by have := of_decide_eq_true hc; omega
    clear hc
    have hzi := hget i hc'
    have hv' : v = .sl (intsD .u16 zs) := by
      rcases hv with h | h
      · subst h; simp at hzi
      · exact h
    subst hv'
    have hrow := intsD_get (k := .u16) hzi
    obtain ⟨x, hx⟩ : ∃ x, xs.getD i 0 = x := ⟨_, rfl⟩
    rw [hx] at hrow
    refine TC.skip ?_
    repeat refine TC.seq ?_
    refine TC.block ?_
    repeat refine TC.seq ?_
    refine TC.region ?_
    refine t_build rfl rfl rfl rfl rfl ?_
    refine t_alloc rfl rfl ?_
    refine t_storeL rfl rfl rfl rfl rfl rfl ?_
    refine TL.nil ?_
    repeat refine TC.seq ?_
    refine TC.region ?_
    refine t_assign rfl rfl ?_
    refine TL.nil ?_
    repeat refine TC.seq ?_
    refine TC.block ?_
    refine TC.loopB (fun k s => ∃ (j : Nat) (bx' : List (Nat × List M)), s = ⟨[(8, .m (.d (.int .i64 j))), (7, .loc 7 0), (6, .m (.d (.int .i64 i))), (4, .m (.d (.int .i64 (xs.length : Int)))), (3, .loc 3 0), (2, .loc 2 0), (0, .m (.d (.sl (intsD .u16 zs))))], bx', genH [] 22 (eqsD xs i)⟩ ∧
        get bx' 7 = some ((exprOf (sumK x j)).map .d) ∧ get bx' 3 = some [.d (.str nameF), .d (.sl []), .d (.sl []), .d (.sl (varsD xs.length)), genM 0 (eqsD xs i)] ∧ get bx' 2 = some [.d (.str ⟨#[]⟩), .d (.sl []), .d (.sl []), .d (.sl []), .d (.sl [])] ∧ j ≤ xs.length ∧ k = xs.length - j) xs.length _
      ⟨0, _, rfl, rfl, hb3, hb2, by omega, rfl⟩ ⟨rfl, rfl, rfl, rfl, rfl, rfl, rfl, trivial⟩ ?_
    clear hb3 hb2 bx
    rintro k s ⟨j, bx, rfl, hb7, hb3, hb2, hj, rfl⟩
    repeat refine TC.seq ?_
    refine TC.region ?_
    refine t_move rfl rfl ?_
    refine t_move rfl rfl ?_
    refine t_int rfl rfl rfl rfl ?_
    refine TL.nil ?_
    repeat refine TC.seq ?_
    obtain ⟨e1, e2, e3, e4, e5, e6, he⟩ := exprR_shape (sumK x j).reverse
    refine TC.cond rfl (fun hc => ?_) (fun hc => ?_)
    · have hcj : j < xs.length := by have := of_decide_eq_true hc; omega
      clear hc
      refine TC.skip ?_
      repeat refine TC.seq ?_
      refine TC.block ?_
      cases hbit : bitB x j with
      | false =>
        have hs : sumK x (j + 1) = sumK x j := by rw [sumK_snoc]; simp [hitB, hbit]
        repeat refine TC.seq ?_
        refine TC.region ?_
        refine t_move rfl rfl ?_
        refine t_move rfl rfl ?_
        refine t_indexD rfl rfl rfl (Int.natCast_nonneg i) (r := [.int .u16 x]) hrow rfl ?_
        first | refine t_loadDc rfl rfl rfl ?_ | refine t_loadLc rfl rfl rfl rfl ?_ | refine t_loadRc rfl rfl rfl rfl ?_
        refine t_move rfl rfl ?_
        refine t_shr rfl rfl rfl (by omega) ?_
        refine t_and rfl rfl rfl ?_
        (refine t_int (r := .bool (bitB x j)) rfl rfl rfl rfl ?_; rw [hbit])
        refine t_move rfl rfl ?_
        first | refine t_guard_no rfl rfl ?_ | (refine t_guard_yes rfl ?_; (refine t_move rfl rfl ?_))
        first | refine t_guard_no rfl rfl ?_ | (refine t_guard_yes rfl ?_; (refine t_move rfl rfl ?_))
        first | refine t_guard_no rfl rfl ?_ | (refine t_guard_yes rfl ?_; (fail))
        first | refine t_guard_no rfl rfl ?_ | (refine t_guard_yes rfl ?_; (first | refine t_loadDc rfl rfl rfl ?_ | refine t_loadLc rfl rfl rfl rfl ?_ | refine t_loadRc rfl rfl rfl rfl ?_))
        first | refine t_guard_no rfl rfl ?_ | (refine t_guard_yes rfl ?_; (refine t_int rfl rfl rfl rfl ?_))
        first | refine t_guard_no rfl rfl ?_ | (refine t_guard_yes rfl ?_; (refine t_convI rfl rfl ?_))
        first | refine t_guard_no rfl rfl ?_ | (refine t_guard_yes rfl ?_; (refine t_move rfl rfl ?_))
        first | refine t_guard_no rfl rfl ?_ | (refine t_guard_yes rfl ?_; (refine t_add64 rfl rfl rfl (by omega) ?_))
        first | refine t_guard_no rfl rfl ?_ | (refine t_guard_yes rfl ?_; (refine t_rem rfl rfl rfl rfl ?_))
        first | refine t_guard_no rfl rfl ?_ | (refine t_guard_yes rfl ?_; (refine t_int rfl rfl rfl rfl ?_))
        refine t_pick rfl rfl rfl ?_
        refine TL.nil ?_
        repeat refine TC.seq ?_
        refine TC.cond rfl (fun hc => by cases hc) (fun hc => ?_)
        refine TC.skip ?_
        repeat refine TC.seq ?_
        refine TC.region ?_
        refine t_move rfl rfl ?_
        refine t_add64 rfl rfl rfl (by omega) ?_
        refine t_assign rfl rfl ?_
        refine TL.nil ?_
        exact again (k' := xs.length - (j + 1)) (by omega) ⟨j + 1, _, rfl, by rw [hs]; exact hb7, hb3, hb2, by omega, rfl⟩ rfl ⟨by simp; rfl, rfl, rfl, rfl, rfl, rfl, rfl, trivial⟩
      | true =>
        cases hmod : modB x j with
        | false =>
          have hs : sumK x (j + 1) = sumK x j := by rw [sumK_snoc]; simp [hitB, hbit, hmod]
          repeat refine TC.seq ?_
          refine TC.region ?_
          refine t_move rfl rfl ?_
          refine t_move rfl rfl ?_
          refine t_indexD rfl rfl rfl (Int.natCast_nonneg i) (r := [.int .u16 x]) hrow rfl ?_
          first | refine t_loadDc rfl rfl rfl ?_ | refine t_loadLc rfl rfl rfl rfl ?_ | refine t_loadRc rfl rfl rfl rfl ?_
          refine t_move rfl rfl ?_
          refine t_shr rfl rfl rfl (by omega) ?_
          refine t_and rfl rfl rfl ?_
          (refine t_int (r := .bool (bitB x j)) rfl rfl rfl rfl ?_; rw [hbit])
          refine t_move rfl rfl ?_
          first | refine t_guard_no rfl rfl ?_ | (refine t_guard_yes rfl ?_; (refine t_move rfl rfl ?_))
          first | refine t_guard_no rfl rfl ?_ | (refine t_guard_yes rfl ?_; (refine t_move rfl rfl ?_))
          first | refine t_guard_no rfl rfl ?_ | (refine t_guard_yes rfl ?_; (refine t_indexD rfl rfl rfl (Int.natCast_nonneg i) (r := [.int .u16 x]) hrow rfl ?_))
          first | refine t_guard_no rfl rfl ?_ | (refine t_guard_yes rfl ?_; (first | refine t_loadDc rfl rfl rfl ?_ | refine t_loadLc rfl rfl rfl rfl ?_ | refine t_loadRc rfl rfl rfl rfl ?_))
          first | refine t_guard_no rfl rfl ?_ | (refine t_guard_yes rfl ?_; (refine t_shr rfl rfl rfl (by omega) ?_))
          first | refine t_guard_no rfl rfl ?_ | (refine t_guard_yes rfl ?_; (refine t_convI rfl rfl ?_))
          first | refine t_guard_no rfl rfl ?_ | (refine t_guard_yes rfl ?_; (refine t_move rfl rfl ?_))
          first | refine t_guard_no rfl rfl ?_ | (refine t_guard_yes rfl ?_; (refine t_int rfl rfl rfl rfl ?_))
          first | refine t_guard_no rfl rfl ?_ | (refine t_guard_yes rfl ?_; (refine t_rem rfl rfl rfl rfl ?_))
          first | refine t_guard_no rfl rfl ?_ | (refine t_guard_yes rfl ?_; ((refine t_int (r := .bool (modB x j)) rfl rfl rfl rfl ?_; rw [hmod])))
          refine t_pick rfl rfl rfl ?_
          refine TL.nil ?_
          repeat refine TC.seq ?_
          refine TC.cond rfl (fun hc => by cases hc) (fun hc => ?_)
          refine TC.skip ?_
          repeat refine TC.seq ?_
          refine TC.region ?_
          refine t_move rfl rfl ?_
          refine t_add64 rfl rfl rfl (by omega) ?_
          refine t_assign rfl rfl ?_
          refine TL.nil ?_
          exact again (k' := xs.length - (j + 1)) (by omega) ⟨j + 1, _, rfl, by rw [hs]; exact hb7, hb3, hb2, by omega, rfl⟩ rfl ⟨by simp; rfl, rfl, rfl, rfl, rfl, rfl, rfl, trivial⟩
        | true =>
          have hs : sumK x (j + 1) = sumK x j ++ [j] := by rw [sumK_snoc]; simp [hitB, hbit, hmod]
          rw [exprOf, he] at hb7
          repeat refine TC.seq ?_
          refine TC.region ?_
          refine t_move rfl rfl ?_
          refine t_move rfl rfl ?_
          refine t_indexD rfl rfl rfl (Int.natCast_nonneg i) (r := [.int .u16 x]) hrow rfl ?_
          first | refine t_loadDc rfl rfl rfl ?_ | refine t_loadLc rfl rfl rfl rfl ?_ | refine t_loadRc rfl rfl rfl rfl ?_
          refine t_move rfl rfl ?_
          refine t_shr rfl rfl rfl (by omega) ?_
          refine t_and rfl rfl rfl ?_
          (refine t_int (r := .bool (bitB x j)) rfl rfl rfl rfl ?_; rw [hbit])
          refine t_move rfl rfl ?_
          first | refine t_guard_no rfl rfl ?_ | (refine t_guard_yes rfl ?_; (refine t_move rfl rfl ?_))
          first | refine t_guard_no rfl rfl ?_ | (refine t_guard_yes rfl ?_; (refine t_move rfl rfl ?_))
          first | refine t_guard_no rfl rfl ?_ | (refine t_guard_yes rfl ?_; (refine t_indexD rfl rfl rfl (Int.natCast_nonneg i) (r := [.int .u16 x]) hrow rfl ?_))
          first | refine t_guard_no rfl rfl ?_ | (refine t_guard_yes rfl ?_; (first | refine t_loadDc rfl rfl rfl ?_ | refine t_loadLc rfl rfl rfl rfl ?_ | refine t_loadRc rfl rfl rfl rfl ?_))
          first | refine t_guard_no rfl rfl ?_ | (refine t_guard_yes rfl ?_; (refine t_shr rfl rfl rfl (by omega) ?_))
          first | refine t_guard_no rfl rfl ?_ | (refine t_guard_yes rfl ?_; (refine t_convI rfl rfl ?_))
          first | refine t_guard_no rfl rfl ?_ | (refine t_guard_yes rfl ?_; (refine t_move rfl rfl ?_))
          first | refine t_guard_no rfl rfl ?_ | (refine t_guard_yes rfl ?_; (refine t_int rfl rfl rfl rfl ?_))
          first | refine t_guard_no rfl rfl ?_ | (refine t_guard_yes rfl ?_; (refine t_rem rfl rfl rfl rfl ?_))
          first | refine t_guard_no rfl rfl ?_ | (refine t_guard_yes rfl ?_; ((refine t_int (r := .bool (modB x j)) rfl rfl rfl rfl ?_; rw [hmod])))
          refine t_pick rfl rfl rfl ?_
          refine TL.nil ?_
          repeat refine TC.seq ?_
          refine TC.cond rfl (fun hc => ?_) (fun hc => by cases hc)
          repeat refine TC.seq ?_
          refine TC.draw mixed ?_
          refine f_loadLa rfl rfl hb7 rfl rfl ?_
          first | refine f_fieldD rfl rfl ?_ | refine f_fieldL rfl rfl ?_ | refine f_fieldR rfl rfl ?_ | refine f_fieldW rfl rfl ?_
          refine f_loadLc rfl rfl hb3 rfl ?_
          refine f_move rfl rfl ?_
          refine f_indexD rfl rfl rfl (Int.natCast_nonneg j) (r := varC j) (varsD_get hcj) rfl ?_
          first | refine f_fieldD rfl rfl ?_ | refine f_fieldL rfl rfl ?_ | refine f_fieldR rfl rfl ?_ | refine f_fieldW rfl rfl ?_
          first | refine f_loadDc rfl rfl rfl ?_ | refine f_loadLc rfl rfl rfl rfl ?_ | refine f_loadRc rfl rfl rfl rfl ?_
          refine f_build rfl rfl rfl rfl rfl ?_
          refine f_buildSlice rfl rfl rfl rfl rfl rfl rfl rfl ?_
          refine f_build rfl rfl rfl rfl rfl ?_
          refine f_storeL rfl rfl hb7 rfl rfl rfl ?_
          refine TF.nil ⟨by kernel_rfl, ?_⟩
          repeat refine TC.seq ?_
          refine TC.region ?_
          refine t_move rfl rfl ?_
          refine t_add64 rfl rfl rfl (by omega) ?_
          refine t_assign rfl rfl ?_
          refine TL.nil ?_
          exact again (k' := xs.length - (j + 1)) (by omega) ⟨j + 1, _, rfl, by rw [hs, exprOf_snoc, exprOf, he]; rfl, hb3, hb2, by omega, rfl⟩ rfl ⟨by simp; rfl, rfl, rfl, rfl, rfl, rfl, rfl, trivial⟩
    · refine TC.exit ?_
      have hcj : j = xs.length := by have := of_decide_eq_false hc; omega
      subst hcj
      rw [exprOf, he] at hb7
      repeat refine TC.seq ?_
      refine TC.draw mixed ?_
      first | refine f_fieldD rfl rfl ?_ | refine f_fieldL rfl rfl ?_ | refine f_fieldR rfl rfl ?_ | refine f_fieldW rfl rfl ?_
      refine f_loadLc rfl rfl hb3 rfl ?_
      refine f_move rfl rfl ?_
      refine f_indexD rfl rfl rfl (Int.natCast_nonneg i) (r := varC i) (varsD_get hc') rfl ?_
      first | refine f_fieldD rfl rfl ?_ | refine f_fieldL rfl rfl ?_ | refine f_fieldR rfl rfl ?_ | refine f_fieldW rfl rfl ?_
      first | refine f_loadDc rfl rfl rfl ?_ | refine f_loadLc rfl rfl rfl rfl ?_ | refine f_loadRc rfl rfl rfl rfl ?_
      refine f_buildSlice rfl rfl rfl rfl rfl rfl rfl rfl ?_
      refine f_loadLa rfl rfl hb7 rfl rfl ?_
      refine f_build rfl rfl rfl rfl rfl ?_
      refine f_alloc rfl ?_
      refine f_storeL rfl rfl rfl rfl rfl rfl ?_
      refine TF.nil ⟨by kernel_rfl, ?_⟩
      cases hf : fbyB x with
      | true =>
        repeat refine TC.seq ?_
        refine TC.region ?_
        refine t_move rfl rfl ?_
        refine t_move rfl rfl ?_
        refine t_indexD rfl rfl rfl (Int.natCast_nonneg i) (r := [.int .u16 x]) hrow rfl ?_
        first | refine t_loadDc rfl rfl rfl ?_ | refine t_loadLc rfl rfl rfl rfl ?_ | refine t_loadRc rfl rfl rfl rfl ?_
        refine t_rem rfl rfl rfl rfl ?_
        (refine t_int (r := .bool (fbyB x)) rfl rfl rfl rfl ?_; rw [hf])
        refine TL.nil ?_
        repeat refine TC.seq ?_
        refine TC.cond rfl (fun hc => ?_) (fun hc => by cases hc)
        repeat refine TC.seq ?_
        refine TC.region ?_
        first | refine t_fieldD rfl rfl ?_ | refine t_fieldL rfl rfl ?_ | refine t_fieldR rfl rfl ?_ | refine t_fieldW rfl rfl ?_
        refine t_storeL rfl rfl rfl rfl rfl rfl ?_
        refine TL.nil ?_
        repeat refine TC.seq ?_
        refine TC.region ?_
        refine t_build rfl rfl rfl rfl rfl ?_
        first | refine t_fieldD rfl rfl ?_ | refine t_fieldL rfl rfl ?_ | refine t_fieldR rfl rfl ?_ | refine t_fieldW rfl rfl ?_
        refine t_storeL rfl rfl rfl rfl rfl rfl ?_
        refine TL.nil ?_
        have hr : eqOf xs i = [.int .u8 2, .sl [[.str (vn i)]], .str ⟨#[]⟩] ++ intE ++ [.int .u8 e1, .int .u8 e2, .int .i32 e3, .str e4, e5, e6, .int .i64 0, .int .i64 0] ++ [.sl [], .sl [], .sl []] := by rw [eqOf, hx, eqC, hf, exprOf, he]; rfl
        repeat refine TC.seq ?_
        refine TC.region ?_
        first | refine t_fieldD rfl rfl ?_ | refine t_fieldL rfl rfl ?_ | refine t_fieldR rfl rfl ?_ | refine t_fieldW rfl rfl ?_
        refine t_loadLc rfl rfl hb3 rfl ?_
        first | refine t_loadDw rfl rfl rfl ?_ | refine t_loadDa rfl rfl rfl ?_ | refine t_loadLa rfl rfl rfl rfl rfl ?_ | refine t_loadRa rfl rfl rfl rfl rfl ?_
        refine t_buildSlice rfl rfl rfl rfl rfl rfl rfl rfl ?_
        refine t_snoc (H0 := []) rfl rfl rfl rfl (by rfl) rfl (by rw [eqsD_len]; omega) (by rw [eqsD_len]; omega) ?_
        first | refine t_fieldD rfl rfl ?_ | refine t_fieldL rfl rfl ?_ | refine t_fieldR rfl rfl ?_ | refine t_fieldW rfl rfl ?_
        refine t_storeL rfl rfl hb3 (cells_gen _ _) rfl rfl ?_
        refine TL.nil ?_
        repeat refine TC.seq ?_
        refine TC.region ?_
        refine t_move rfl rfl ?_
        refine t_add64 rfl rfl rfl (by omega) ?_
        refine t_assign rfl rfl ?_
        refine TL.nil ?_
        exact again (k' := xs.length - (i + 1)) (by omega) ⟨i + 1, _, rfl, by rw [eqsD_snoc, hr]; rfl, hb2, by omega, rfl⟩ (by rw [eqsD_snoc, hr]; rfl) ⟨by simp; rfl, rfl, rfl, rfl, rfl, trivial⟩
      | false =>
        repeat refine TC.seq ?_
        refine TC.region ?_
        refine t_move rfl rfl ?_
        refine t_move rfl rfl ?_
        refine t_indexD rfl rfl rfl (Int.natCast_nonneg i) (r := [.int .u16 x]) hrow rfl ?_
        first | refine t_loadDc rfl rfl rfl ?_ | refine t_loadLc rfl rfl rfl rfl ?_ | refine t_loadRc rfl rfl rfl rfl ?_
        refine t_rem rfl rfl rfl rfl ?_
        (refine t_int (r := .bool (fbyB x)) rfl rfl rfl rfl ?_; rw [hf])
        refine TL.nil ?_
        repeat refine TC.seq ?_
        refine TC.cond rfl (fun hc => by cases hc) (fun hc => ?_)
        refine TC.skip ?_
        have hr : eqOf xs i = [.int .u8 1, .sl [[.str (vn i)]], .str ⟨#[]⟩] ++ zeroE ++ [.int .u8 e1, .int .u8 e2, .int .i32 e3, .str e4, e5, e6, .int .i64 0, .int .i64 0] ++ [.sl [], .sl [], .sl []] := by rw [eqOf, hx, eqC, hf, exprOf, he]; rfl
        repeat refine TC.seq ?_
        refine TC.region ?_
        first | refine t_fieldD rfl rfl ?_ | refine t_fieldL rfl rfl ?_ | refine t_fieldR rfl rfl ?_ | refine t_fieldW rfl rfl ?_
        refine t_loadLc rfl rfl hb3 rfl ?_
        first | refine t_loadDw rfl rfl rfl ?_ | refine t_loadDa rfl rfl rfl ?_ | refine t_loadLa rfl rfl rfl rfl rfl ?_ | refine t_loadRa rfl rfl rfl rfl rfl ?_
        refine t_buildSlice rfl rfl rfl rfl rfl rfl rfl rfl ?_
        refine t_snoc (H0 := []) rfl rfl rfl rfl (by rfl) rfl (by rw [eqsD_len]; omega) (by rw [eqsD_len]; omega) ?_
        first | refine t_fieldD rfl rfl ?_ | refine t_fieldL rfl rfl ?_ | refine t_fieldR rfl rfl ?_ | refine t_fieldW rfl rfl ?_
        refine t_storeL rfl rfl hb3 (cells_gen _ _) rfl rfl ?_
        refine TL.nil ?_
        repeat refine TC.seq ?_
        refine TC.region ?_
        refine t_move rfl rfl ?_
        refine t_add64 rfl rfl rfl (by omega) ?_
        refine t_assign rfl rfl ?_
        refine TL.nil ?_
        exact again (k' := xs.length - (i + 1)) (by omega) ⟨i + 1, _, rfl, by rw [eqsD_snoc, hr]; rfl, hb2, by omega, rfl⟩ (by rw [eqsD_snoc, hr]; rfl) ⟨by simp; rfl, rfl, rfl, rfl, rfl, trivial⟩
  · refine TC.exit ?_
    have hc' : i = xs.length := by have := of_decide_eq_false hc; omega
    subst hc'
    refine TC.viewBox 3 hb3 (viewAll_c rfl (viewAll_c rfl (viewAll_c rfl (viewAll_c rfl (viewAll_c (gen_view [] 22 (eqsD xs xs.length) (eqsD_lens _ _)) rfl))))) ?_
    repeat refine TC.seq ?_
    refine TC.region ?_
    first | refine t_loadDw rfl rfl rfl ?_ | refine t_loadDa rfl rfl rfl ?_ | refine t_loadLa rfl rfl rfl rfl rfl ?_ | refine t_loadRa rfl rfl rfl rfl rfl ?_
    refine t_storeL rfl rfl hb2 rfl rfl rfl ?_
    refine TL.nil ?_
    exact TC.ret ⟨_, rfl, [_], rfl, rfl⟩
end Go.Proofs
