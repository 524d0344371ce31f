import Derived.Test.YtjhinemdonddoaaFuJ
namespace Go.Proofs
open Go.Mt
set_option maxRecDepth 4000
set_option linter.unusedSimpArgs false
set_option linter.unusedVariables false

def bytesD (bs : List Nat) : List (List D) := bs.map fun (b : Nat) => [D.int .u8 (b : Int)]
theorem bytesD_get {bs : List Nat} {i : Nat} (h : i < bs.length) : (bytesD bs)[(i : Int).toNat]? = some [.int .u8 bs[i]] := by simp [bytesD, h]
/-- the input, as the model hands it over -/
def InD (bs : List Nat) (v : D) : Prop := slLen v = some bs.length ∧ (bs = [] ∨ v = .sl (bytesD bs)) ∧ (∀ b ∈ bs, b < 256) ∧ bs.length ≤ 300
def nxV (bs : List Nat) (at_ : Nat) : Nat := if h : at_ < bs.length then bs[at_] else 0
def nxA (bs : List Nat) (at_ : Nat) : Nat := if at_ < bs.length then at_ + 1 else at_
theorem nxA_le (bs : List Nat) (at_ : Nat) (h : at_ ≤ bs.length) : nxA bs at_ ≤ bs.length := by rw [nxA]; split <;> omega
theorem nxV_lt (bs : List Nat) (hb : ∀ b ∈ bs, b < 256) (at_ : Nat) : nxV bs at_ < 256 := by
  rw [nxV]; split
  · exact hb _ (List.getElem_mem _)
  · omega
abbrev atB (at_ : Nat) : Ob := .box [.d (.int .i64 (at_ : Int))]
theorem next_ok (bs : List Nat) (v : D) (hin : InD bs v) (at_ : Nat) (hat : at_ ≤ bs.length) : CT Try.prog 39 [.d v, .ref 0 0] [atB at_] fun r k => k.length = [atB at_].length ∧ r = .d (.int .i64 (nxV bs at_)) ∧ k = [atB (nxA bs at_)] := by
  obtain ⟨hlen, hv, hb, hL⟩ := hin
  refine CT.of_body Try.func39 rfl Try.ntmps39 rfl fun s0 Oo => ?_
  repeat refine TC.seq ?_
  refine TC.region ?_
  refine t_assign rfl rfl ?_
  refine TL.nil ?_
  repeat refine TC.seq ?_
  refine TC.region ?_
  refine t_move rfl rfl ?_
  refine t_nilCheck rfl rfl rfl ?_
  first | refine t_loadDc rfl rfl rfl ?_ | refine t_loadLc rfl rfl rfl rfl ?_ | refine t_loadRc rfl rfl rfl rfl ?_
  refine t_move rfl rfl ?_
  refine t_lenS rfl rfl hlen ?_
  refine t_int rfl rfl rfl rfl ?_
  refine TL.nil ?_
  repeat refine TC.seq ?_
  refine TC.cond rfl (fun hc => ?_) (fun hc => ?_)
  · have hge : ¬ at_ < bs.length := by have := of_decide_eq_true hc; omega
    repeat refine TC.seq ?_
    refine TC.region ?_
    refine t_assign rfl rfl ?_
    refine TL.nil ?_
    refine TC.ret ⟨_, rfl, rfl, ?_, ?_⟩
    · rw [nxV, dif_neg hge]; rfl
    · rw [nxA, if_neg hge]
  · have hlt : at_ < bs.length := by have := of_decide_eq_false hc; omega
    refine TC.skip ?_
    obtain rfl : v = .sl (bytesD bs) := by rcases hv with h | h; (subst h; simp at hlt); exact h
    have hbn := hb bs[at_] (List.getElem_mem hlt)
    repeat refine TC.seq ?_
    refine TC.region ?_
    refine t_move rfl rfl ?_
    refine t_nilCheck rfl rfl rfl ?_
    first | refine t_loadDc rfl rfl rfl ?_ | refine t_loadLc rfl rfl rfl rfl ?_ | refine t_loadRc rfl rfl rfl rfl ?_
    refine t_add64 rfl rfl rfl (by omega) ?_
    refine t_nilCheck rfl rfl rfl ?_
    refine t_storeR rfl rfl rfl rfl rfl rfl ?_
    refine TL.nil ?_
    repeat refine TC.seq ?_
    refine TC.region ?_
    refine t_move rfl rfl ?_
    refine t_move rfl rfl ?_
    refine t_nilCheck rfl rfl rfl ?_
    first | refine t_loadDc rfl rfl rfl ?_ | refine t_loadLc rfl rfl rfl rfl ?_ | refine t_loadRc rfl rfl rfl rfl ?_
    (refine t_sub64 rfl rfl rfl (by omega) ?_; rw [show ((at_ : Int) + 1 - 1) = (at_ : Int) by omega])
    refine t_indexD rfl rfl rfl (Int.natCast_nonneg at_) (bytesD_get hlt) rfl ?_
    first | refine t_loadDc rfl rfl rfl ?_ | refine t_loadLc rfl rfl rfl rfl ?_ | refine t_loadRc rfl rfl rfl rfl ?_
    (refine t_convI rfl rfl ?_; rw [IntWalk.i64_in _ (by omega)])
    refine t_assign rfl rfl ?_
    refine TL.nil ?_
    refine TC.ret ⟨_, rfl, rfl, ?_, ?_⟩
    · rw [nxV, dif_pos hlt]; rfl
    · rw [nxA, if_pos hlt]; rfl
theorem next_in (bs : List Nat) (v : D) (hin : InD bs v) (at_ : Nat) (hat : at_ ≤ bs.length) (F : Hp) : CT Try.prog 39 [.d v, .ref 0 0] (atB at_ :: F) fun r k => r = .d (.int .i64 (nxV bs at_)) ∧ k = atB (nxA bs at_) :: F := by
  have h := CT.suffix F (H := [atB at_]) (hbb_ok rfl) (mbbs_ok rfl) (next_ok bs v hin at_ hat)
  refine h.mono ?_
  rintro r k ⟨H', rfl, _, rfl, rfl⟩
  exact ⟨rfl, rfl⟩
theorem name_ok (s : ByteArray) : PT Try.prog 40 [.str s] (· = [.agg (condC false s)]) := by
  refine PT.of_CT (CT.of_body Try.func40 rfl Try.ntmps40 rfl fun s0 Oo => ?_)
  repeat refine TC.seq ?_
  refine TC.region ?_
  refine t_alloc rfl rfl ?_
  refine TL.nil ?_
  repeat refine TC.seq ?_
  refine TC.region ?_
  refine t_move rfl rfl ?_
  refine t_build rfl rfl rfl rfl rfl ?_
  refine t_storeL rfl rfl rfl rfl rfl rfl ?_
  refine TL.nil ?_
  exact TC.ret ⟨_, rfl, [_], rfl, rfl⟩
theorem let_ok (s : ByteArray) (n : Int) : PT Try.prog 38 [.str s, .int .i32 n] (· = [.agg (letC s n)]) := by
  refine PT.of_CT (CT.of_body Try.func38 rfl Try.ntmps38 rfl fun s0 Oo => ?_)
  repeat refine TC.seq ?_
  refine TC.region ?_
  refine t_alloc rfl rfl ?_
  refine TL.nil ?_
  repeat refine TC.seq ?_
  refine TC.region ?_
  refine t_move rfl rfl ?_
  refine t_move rfl rfl ?_
  refine t_build rfl rfl rfl rfl rfl ?_
  refine t_build rfl rfl rfl rfl rfl ?_
  refine t_storeL rfl rfl rfl rfl rfl rfl ?_
  refine TL.nil ?_
  exact TC.ret ⟨_, rfl, [_], rfl, rfl⟩
theorem when_ok (s : ByteArray) (l : List (List D)) : PT Try.prog 37 [.str s, .sl l] (· = [.agg (iteC false s l [])]) := by
  refine PT.of_CT (CT.of_body Try.func37 rfl Try.ntmps37 rfl fun s0 Oo => ?_)
  repeat refine TC.seq ?_
  refine TC.region ?_
  refine t_alloc rfl rfl ?_
  refine TL.nil ?_
  repeat refine TC.seq ?_
  refine TC.region ?_
  refine t_move rfl rfl ?_
  refine t_call1 (name_ok s) rfl rfl ?_
  refine t_move rfl rfl ?_
  refine t_build rfl rfl rfl rfl rfl ?_
  refine t_storeL rfl rfl rfl rfl rfl rfl ?_
  refine TL.nil ?_
  exact TC.ret ⟨_, rfl, [_], rfl, rfl⟩

def z3 (k : Nat) : Bool := (k : Int).tmod 3 == 0
def z5 (k : Nat) : Bool := (k : Int).tmod 5 == 0
def z2 (k : Nat) : Bool := (k : Int).tmod 2 == 0
def nmOf (c : Nat) : ByteArray := strOfNums [IntKind.u8.wrap (97 + (c : Int).tmod 3)]
def mS : ByteArray := ⟨#[109]⟩
def cdOf (k c : Nat) : ByteArray := bif z5 k then mS else nmOf c
/-- one statement -/
def bStep (bs : List Nat) (rec : Nat → List S × Nat) (dz : Bool) (at_ : Nat) : S × Nat :=
  let k := nxV bs at_
  let c := nxV bs (nxA bs at_)
  let a2 := nxA bs (nxA bs at_)
  bif z3 k || dz then (.asg (nmOf c) (IntKind.i32.wrap ((k : Int).tmod 2)), a2)
  else bif z2 k then (.ite (z5 k) (cdOf k c) (rec a2).1 (rec (rec a2).2).1, (rec (rec a2).2).2)
  else (.ite (z5 k) (cdOf k c) (rec a2).1 [], (rec a2).2)
def bLoop (step : Nat → S × Nat) : Nat → Nat → List S → List S × Nat
  | 0, at_, out => (out, at_)
  | m + 1, at_, out => bLoop step m (step at_).2 (out ++ [(step at_).1])
def bld (bs : List Nat) : Nat → Nat → List S × Nat
  | 0, at_ => bLoop (bStep bs (fun a => ([], a)) true) (1 + nxV bs at_ % 4) (nxA bs at_) []
  | d + 1, at_ => bLoop (bStep bs (bld bs d) false) (1 + nxV bs at_ % 4) (nxA bs at_) []
def stp (bs : List Nat) : Nat → Nat → S × Nat
  | 0 => bStep bs (fun a => ([], a)) true
  | d + 1 => bStep bs (bld bs d) false
theorem bld_eq (bs : List Nat) (d at_ : Nat) : bld bs d at_ = bLoop (stp bs d) (1 + nxV bs at_ % 4) (nxA bs at_) [] := by cases d <;> rfl

theorem bStep_at (bs : List Nat) (rec : Nat → List S × Nat) (hr : ∀ a, a ≤ bs.length → (rec a).2 ≤ bs.length) (dz : Bool) (at_ : Nat) (h : at_ ≤ bs.length) : (bStep bs rec dz at_).2 ≤ bs.length := by
  have h1 := nxA_le bs _ (nxA_le bs _ h)
  have h2 := hr _ h1
  have h3 := hr _ h2
  simp only [bStep]
  cases z3 (nxV bs at_) || dz <;> cases z2 (nxV bs at_) <;> assumption
theorem bLoop_at (n : Nat) (step : Nat → S × Nat) (hs : ∀ a, a ≤ n → (step a).2 ≤ n) : ∀ (m at_ : Nat) (out : List S), at_ ≤ n → (bLoop step m at_ out).2 ≤ n
  | 0, at_, out, h => h
  | m + 1, at_, out, h => bLoop_at n step hs m _ _ (hs _ h)
theorem bld_at (bs : List Nat) : ∀ (d at_ : Nat), at_ ≤ bs.length → (bld bs d at_).2 ≤ bs.length
  | 0, at_, h => bLoop_at _ _ (fun a ha => bStep_at bs _ (fun _ h => h) _ a ha) _ _ _ (nxA_le bs _ h)
  | d + 1, at_, h => bLoop_at _ _ (fun a ha => bStep_at bs _ (fun a ha => bld_at bs d a ha) _ a ha) _ _ _ (nxA_le bs _ h)
theorem stp_at (bs : List Nat) (d at_ : Nat) (h : at_ ≤ bs.length) : (stp bs d at_).2 ≤ bs.length := by
  cases d with
  | zero => exact bStep_at bs _ (fun _ h => h) _ at_ h
  | succ d => exact bStep_at bs _ (fun a ha => bld_at bs d a ha) _ at_ h

/-- the list under way, behind the place's variable -/
def bM (out : List S) : M := match out with
  | [] => .d (.sl [])
  | _ :: r => .rsl 1 r.length (r.length + 1)
def bF (out : List S) : Hp := match out with
  | [] => []
  | x :: r => [.row true 14 r.length (flatM (S.encs (x :: r)))]
theorem bM_snoc (q x : S) (P : List S) : bM (q :: P ++ [x]) = .rsl 1 (P.length + 1) (P.length + 1 + 1) := by simp [bM]
theorem bF_snoc (q x : S) (P : List S) : bF (q :: P ++ [x]) = [.row true 14 (P.length + 1) (flatM (S.encs (q :: P)) ++ flatM [x.enc])] := by simp [bF, S.encs, S.encs_append, flatM]
theorem bF_HB (at_ : Nat) (out : List S) : HB 2 (atB at_ :: bF out) := by
  intro ob h
  rcases List.mem_cons.1 h with rfl | h
  · intro m hm; simp at hm; subst hm; exact .d _
  · cases out with
    | nil => cases h
    | cons x r =>
      simp only [bF, List.mem_singleton] at h
      subst h
      intro m hm
      rw [flatM_eq] at hm
      obtain ⟨d, _, rfl⟩ := List.mem_map.1 hm
      exact .d d
theorem bM_MB (out : List S) : MB 2 (bM out) := by
  cases out with
  | nil => exact .d _
  | cons x r => exact .rsl _ _ _ (by omega)
theorem b_view (at_ : Nat) (out : List S) : viewV (atB at_ :: bF out) (bM out) = some (.sl (S.encs out)) := by
  cases out with
  | nil => rfl
  | cons x r =>
    exact Acc.view (n := 14) (i := 1) (rs := S.encs (x :: r)) (m := bM (x :: r)) (H := atB at_ :: bF (x :: r)) (.inr ⟨by simp [S.encs], r.length, by simp [bM, S.encs_len], by simp [bF]⟩) (S.encs_lens _)
theorem m4 (k : Nat) : 1 + (k : Int).tmod 4 = ((1 + k % 4 : Nat) : Int) := by
  have h1 : (k : Int).tmod 4 = ((k % 4 : Nat) : Int) := (Int.ofNat_tmod k 4).symm
  rw [h1]; omega
theorem m3lt (k : Nat) : 0 ≤ (k : Int).tmod 3 ∧ (k : Int).tmod 3 < 3 := by
  have h1 : (k : Int).tmod 3 = ((k % 3 : Nat) : Int) := (Int.ofNat_tmod k 3).symm
  rw [h1]; omega


theorem build_ok (bs : List Nat) (v : D) (hin : InD bs v) (deep : Nat) (hd : deep ≤ 3) : ∀ (at_ : Nat), at_ ≤ bs.length → CT Try.prog 12 [.d v, .ref 0 0, .d (.int .i64 (deep : Int))] [atB at_] fun r k => r = .d (.sl (S.encs (bld bs deep at_).1)) ∧ k = [atB (bld bs deep at_).2] := by
  have hbl := hin.2.2.2
  induction deep with
  | zero =>
    intro at_ hat
    refine CT.drop 1 (by exact Nat.le_refl 1) ?_
    have hstA := stp_at bs 0
    rw [bld_eq]
    have hn1 := nxA_le bs _ hat
    refine CT.of_body Try.func12 rfl Try.ntmps12 rfl fun s0 Oo => ?_
    refine TC.base fun hb => ?_
    replace hb : s0.H.length ≤ 2 := Nat.le_trans hb (by simp)
    repeat refine TC.seq ?_
    refine TC.region ?_
    refine t_assign rfl rfl ?_
    refine TL.nil ?_
    repeat refine TC.seq ?_
    refine TC.region ?_
    refine t_assign rfl rfl ?_
    refine TL.nil ?_
    repeat refine TC.seq ?_
    refine TC.region ?_
    refine t_move rfl rfl ?_
    refine t_move rfl rfl ?_
    (refine t_callR (next_in bs v hin at_ hat []) rfl rfl ?_; rintro _ _ ⟨rfl, rfl⟩)
    refine t_rem rfl rfl rfl rfl ?_
    (refine t_add64 rfl rfl rfl (by have := m4 (nxV bs at_); omega) ?_; rw [m4])
    refine t_assign rfl rfl ?_
    refine TL.nil ?_
    have hn0 : 1 + nxV bs at_ % 4 ≤ 4 := by omega
    generalize 1 + nxV bs at_ % 4 = n0 at hn0 ⊢
    generalize nxA bs at_ = at1 at hn1 ⊢
    repeat refine TC.seq ?_
    refine TC.region ?_
    refine t_assign rfl rfl ?_
    refine TL.nil ?_
    repeat refine TC.seq ?_
    refine TC.block ?_
    refine TC.loopB (fun k s => ∃ (i m a : Nat) (out : List S), s = ⟨[(9, .m (.d (.int .i64 i))), (8, .m (.d (.int .i64 (n0 : Nat)))), (0, .m (.d v)), (1, .m (.ref 0 0)), (2, .m (.d (.int .i64 0))), (7, .m (bM out))], [], atB a :: bF out⟩ ∧ i + m = n0 ∧ a ≤ bs.length ∧ k = m ∧ bLoop (stp bs 0) n0 at1 [] = bLoop (stp bs 0) m a out ∧ out.length = i) n0 _
      ⟨0, n0, at1, [], rfl, by omega, hn1, rfl, rfl, rfl⟩ ⟨rfl, rfl, rfl, rfl, rfl, rfl, trivial⟩ ?_
    rintro k0 s ⟨i, m0, a, out, rfl, him, ha, rfl, hout, hol⟩
    repeat refine TC.seq ?_
    refine TC.region ?_
    refine t_move rfl rfl ?_
    refine t_move rfl rfl ?_
    refine t_int rfl rfl rfl rfl ?_
    refine TL.nil ?_
    repeat refine TC.seq ?_
    refine TC.cond rfl (fun hc => ?_) (fun hc => ?_)
    · have hc' : i < n0 := by have := of_decide_eq_true hc; omega
      clear hc
      obtain ⟨m, rfl⟩ : ∃ m, k0 = m + 1 := ⟨k0 - 1, by omega⟩
      have ha1 := nxA_le bs _ ha
      have ha2 := nxA_le bs _ ha1
      have hk := nxV_lt bs hin.2.2.1 a
      have hcl := nxV_lt bs hin.2.2.1 (nxA bs a)
      refine TC.skip ?_
      repeat refine TC.seq ?_
      refine TC.block ?_
      repeat refine TC.seq ?_
      refine TC.region ?_
      refine t_move rfl rfl ?_
      refine t_move rfl rfl ?_
      (refine t_callR (next_in bs v hin a ha (bF out)) rfl rfl ?_; rintro _ _ ⟨rfl, rfl⟩)
      refine t_assign rfl rfl ?_
      refine TL.nil ?_
      have hm3 := m3lt (nxV bs (nxA bs a))
      repeat refine TC.seq ?_
      refine TC.region ?_
      refine t_move rfl rfl ?_
      refine t_move rfl rfl ?_
      (refine t_callR (next_in bs v hin (nxA bs a) ha1 (bF out)) rfl rfl ?_; rintro _ _ ⟨rfl, rfl⟩)
      refine t_rem rfl rfl rfl rfl ?_
      refine t_add64 rfl rfl rfl (by omega) ?_
      refine t_convI rfl rfl ?_
      refine t_buildSlice rfl rfl rfl rfl rfl rfl rfl rfl ?_
      refine t_b2s rfl rfl rfl ?_
      refine t_assign rfl rfl ?_
      refine TL.nil ?_
      rw [bLoop] at hout
      have hsA := hstA a ha
      generalize hA2 : nxA bs (nxA bs a) = a2 at ha2 ⊢
      generalize hK : nxV bs a = k at hk ⊢
      generalize hC : nxV bs (nxA bs a) = c at hcl ⊢
      cases h3 : z3 k with
      | true =>
        have hst : stp bs 0 a = (.asg (nmOf c) (IntKind.i32.wrap ((k : Int).tmod 2)), a2) := by simp [stp, bStep, hA2, hK, hC, h3]
        rw [hst] at hout hsA
        have hout2 : ∀ {o : List S}, out = o → bLoop (stp bs 0) n0 at1 [] = bLoop (stp bs 0) m a2 (o ++ [.asg (nmOf c) (IntKind.i32.wrap ((k : Int).tmod 2))]) := by rintro _ rfl; exact hout
        repeat refine TC.seq ?_
        refine TC.region ?_
        refine t_move rfl rfl ?_
        refine t_rem rfl rfl rfl rfl ?_
        (refine t_int rfl rfl rfl rfl ?_; rw [show ((k : Int).tmod 3 == 0) = true from h3])
        refine t_move rfl rfl ?_
        first | refine t_guard_no rfl rfl ?_ | (refine t_guard_yes rfl ?_; (refine t_move rfl rfl ?_))
        first | refine t_guard_no rfl rfl ?_ | (refine t_guard_yes rfl ?_; (refine t_int rfl rfl rfl rfl ?_))
        refine t_pick rfl rfl rfl ?_
        refine TL.nil ?_
        repeat refine TC.seq ?_
        refine TC.cond rfl (fun hc => ?_) (fun hc => by cases hc)
        cases out with
        | nil =>
          repeat refine TC.seq ?_
          refine TC.region ?_
          refine t_move rfl rfl ?_
          refine t_move rfl rfl ?_
          refine t_move rfl rfl ?_
          refine t_rem rfl rfl rfl rfl ?_
          refine t_convI rfl rfl ?_
          refine t_call1 (let_ok (nmOf c) (IntKind.i32.wrap ((k : Int).tmod 2))) rfl rfl ?_
          refine t_buildSlice rfl rfl rfl rfl rfl rfl rfl rfl ?_
          refine t_append0 true rfl rfl rfl rfl (by rfl) (by simp) (by exact one_len rfl) (by exact nat_le rfl) ?_
          refine t_assign rfl rfl ?_
          refine TL.nil ?_
          refine TC.exit ?_
          repeat refine TC.seq ?_
          refine TC.region ?_
          refine t_move rfl rfl ?_
          refine t_add64 rfl rfl rfl (by omega) ?_
          refine t_assign rfl rfl ?_
          refine TL.nil ?_
          exact againT (k' := m) 2 hb (by exact Nat.le_refl 2) (by omega) ⟨i + 1, m, _, [] ++ [.asg (nmOf c) (IntKind.i32.wrap ((k : Int).tmod 2))], rfl, by omega, ha2, rfl, hout2 rfl, by simp at hol ⊢; omega⟩ rfl (bF_HB _ _) ⟨⟨by simp; rfl, .d _⟩, ⟨rfl, .d _⟩, ⟨rfl, .d _⟩, ⟨rfl, .ref _ _ (by omega)⟩, ⟨rfl, .d _⟩, ⟨rfl, bM_MB _⟩, trivial⟩
        | cons q P =>
          simp only [List.length_cons] at hol
          repeat refine TC.seq ?_
          refine TC.region ?_
          refine t_move rfl rfl ?_
          refine t_move rfl rfl ?_
          refine t_move rfl rfl ?_
          refine t_rem rfl rfl rfl rfl ?_
          refine t_convI rfl rfl ?_
          refine t_call1 (let_ok (nmOf c) (IntKind.i32.wrap ((k : Int).tmod 2))) rfl rfl ?_
          refine t_buildSlice rfl rfl rfl rfl rfl rfl rfl rfl ?_
          refine t_appendR rfl rfl rfl rfl (by rfl) (by exact one_len rfl) (by simp; omega) (by simp; omega) ?_
          refine t_assign rfl rfl ?_
          refine TL.nil ?_
          refine TC.exit ?_
          repeat refine TC.seq ?_
          refine TC.region ?_
          refine t_move rfl rfl ?_
          refine t_add64 rfl rfl rfl (by omega) ?_
          refine t_assign rfl rfl ?_
          refine TL.nil ?_
          exact againT (k' := m) 2 hb (by exact Nat.le_refl 2) (by omega) ⟨i + 1, m, _, q :: P ++ [.asg (nmOf c) (IntKind.i32.wrap ((k : Int).tmod 2))], rfl, by omega, ha2, rfl, hout2 rfl, by simp at hol ⊢; omega⟩ (by rw [bF_snoc]; rfl) (bF_HB _ _) ⟨⟨by simp; rfl, .d _⟩, ⟨rfl, .d _⟩, ⟨rfl, .d _⟩, ⟨rfl, .ref _ _ (by omega)⟩, ⟨rfl, .d _⟩, ⟨by rw [bM_snoc]; rfl, bM_MB _⟩, trivial⟩
      | false =>
        have hst : stp bs 0 a = (.asg (nmOf c) (IntKind.i32.wrap ((k : Int).tmod 2)), a2) := by simp [stp, bStep, hA2, hK, hC, h3]
        rw [hst] at hout hsA
        have hout2 : ∀ {o : List S}, out = o → bLoop (stp bs 0) n0 at1 [] = bLoop (stp bs 0) m a2 (o ++ [.asg (nmOf c) (IntKind.i32.wrap ((k : Int).tmod 2))]) := by rintro _ rfl; exact hout
        repeat refine TC.seq ?_
        refine TC.region ?_
        refine t_move rfl rfl ?_
        refine t_rem rfl rfl rfl rfl ?_
        (refine t_int rfl rfl rfl rfl ?_; rw [show ((k : Int).tmod 3 == 0) = false from h3])
        refine t_move rfl rfl ?_
        first | refine t_guard_no rfl rfl ?_ | (refine t_guard_yes rfl ?_; (refine t_move rfl rfl ?_))
        first | refine t_guard_no rfl rfl ?_ | (refine t_guard_yes rfl ?_; (refine t_int rfl rfl rfl rfl ?_))
        refine t_pick rfl rfl rfl ?_
        refine TL.nil ?_
        repeat refine TC.seq ?_
        refine TC.cond rfl (fun hc => ?_) (fun hc => by cases hc)
        cases out with
        | nil =>
          repeat refine TC.seq ?_
          refine TC.region ?_
          refine t_move rfl rfl ?_
          refine t_move rfl rfl ?_
          refine t_move rfl rfl ?_
          refine t_rem rfl rfl rfl rfl ?_
          refine t_convI rfl rfl ?_
          refine t_call1 (let_ok (nmOf c) (IntKind.i32.wrap ((k : Int).tmod 2))) rfl rfl ?_
          refine t_buildSlice rfl rfl rfl rfl rfl rfl rfl rfl ?_
          refine t_append0 true rfl rfl rfl rfl (by rfl) (by simp) (by exact one_len rfl) (by exact nat_le rfl) ?_
          refine t_assign rfl rfl ?_
          refine TL.nil ?_
          refine TC.exit ?_
          repeat refine TC.seq ?_
          refine TC.region ?_
          refine t_move rfl rfl ?_
          refine t_add64 rfl rfl rfl (by omega) ?_
          refine t_assign rfl rfl ?_
          refine TL.nil ?_
          exact againT (k' := m) 2 hb (by exact Nat.le_refl 2) (by omega) ⟨i + 1, m, _, [] ++ [.asg (nmOf c) (IntKind.i32.wrap ((k : Int).tmod 2))], rfl, by omega, ha2, rfl, hout2 rfl, by simp at hol ⊢; omega⟩ rfl (bF_HB _ _) ⟨⟨by simp; rfl, .d _⟩, ⟨rfl, .d _⟩, ⟨rfl, .d _⟩, ⟨rfl, .ref _ _ (by omega)⟩, ⟨rfl, .d _⟩, ⟨rfl, bM_MB _⟩, trivial⟩
        | cons q P =>
          simp only [List.length_cons] at hol
          repeat refine TC.seq ?_
          refine TC.region ?_
          refine t_move rfl rfl ?_
          refine t_move rfl rfl ?_
          refine t_move rfl rfl ?_
          refine t_rem rfl rfl rfl rfl ?_
          refine t_convI rfl rfl ?_
          refine t_call1 (let_ok (nmOf c) (IntKind.i32.wrap ((k : Int).tmod 2))) rfl rfl ?_
          refine t_buildSlice rfl rfl rfl rfl rfl rfl rfl rfl ?_
          refine t_appendR rfl rfl rfl rfl (by rfl) (by exact one_len rfl) (by simp; omega) (by simp; omega) ?_
          refine t_assign rfl rfl ?_
          refine TL.nil ?_
          refine TC.exit ?_
          repeat refine TC.seq ?_
          refine TC.region ?_
          refine t_move rfl rfl ?_
          refine t_add64 rfl rfl rfl (by omega) ?_
          refine t_assign rfl rfl ?_
          refine TL.nil ?_
          exact againT (k' := m) 2 hb (by exact Nat.le_refl 2) (by omega) ⟨i + 1, m, _, q :: P ++ [.asg (nmOf c) (IntKind.i32.wrap ((k : Int).tmod 2))], rfl, by omega, ha2, rfl, hout2 rfl, by simp at hol ⊢; omega⟩ (by rw [bF_snoc]; rfl) (bF_HB _ _) ⟨⟨by simp; rfl, .d _⟩, ⟨rfl, .d _⟩, ⟨rfl, .d _⟩, ⟨rfl, .ref _ _ (by omega)⟩, ⟨rfl, .d _⟩, ⟨by rw [bM_snoc]; rfl, bM_MB _⟩, trivial⟩
    · refine TC.exit ?_
      obtain rfl : k0 = 0 := by have := of_decide_eq_false hc; omega
      rw [bLoop] at hout
      rw [hout]
      repeat refine TC.seq ?_
      refine TC.region ?_
      refine t_move rfl rfl ?_
      refine t_assign rfl rfl ?_
      refine TL.nil ?_
      refine TC.viewSlot 6 rfl (b_view a out) ?_
      refine TC.ret ⟨_, rfl, by simp, .d _, ?_, rfl, rfl⟩
      intro ob h
      simp only [List.take_succ_cons, List.take_zero, List.mem_singleton] at h
      subst h
      intro mm hm; simp at hm; subst hm; exact .d _
  | succ d ih0 =>
    intro at_ hat
    have ih := ih0 (by omega)
    refine CT.drop 1 (by exact Nat.le_refl 1) ?_
    have hstA := stp_at bs (d + 1)
    rw [bld_eq]
    have hn1 := nxA_le bs _ hat
    refine CT.of_body Try.func12 rfl Try.ntmps12 rfl fun s0 Oo => ?_
    refine TC.base fun hb => ?_
    replace hb : s0.H.length ≤ 2 := Nat.le_trans hb (by simp)
    repeat refine TC.seq ?_
    refine TC.region ?_
    refine t_assign rfl rfl ?_
    refine TL.nil ?_
    repeat refine TC.seq ?_
    refine TC.region ?_
    refine t_assign rfl rfl ?_
    refine TL.nil ?_
    repeat refine TC.seq ?_
    refine TC.region ?_
    refine t_move rfl rfl ?_
    refine t_move rfl rfl ?_
    (refine t_callR (next_in bs v hin at_ hat []) rfl rfl ?_; rintro _ _ ⟨rfl, rfl⟩)
    refine t_rem rfl rfl rfl rfl ?_
    (refine t_add64 rfl rfl rfl (by have := m4 (nxV bs at_); omega) ?_; rw [m4])
    refine t_assign rfl rfl ?_
    refine TL.nil ?_
    have hn0 : 1 + nxV bs at_ % 4 ≤ 4 := by omega
    generalize 1 + nxV bs at_ % 4 = n0 at hn0 ⊢
    generalize nxA bs at_ = at1 at hn1 ⊢
    repeat refine TC.seq ?_
    refine TC.region ?_
    refine t_assign rfl rfl ?_
    refine TL.nil ?_
    repeat refine TC.seq ?_
    refine TC.block ?_
    refine TC.loopB (fun k s => ∃ (i m a : Nat) (out : List S), s = ⟨[(9, .m (.d (.int .i64 i))), (8, .m (.d (.int .i64 (n0 : Nat)))), (0, .m (.d v)), (1, .m (.ref 0 0)), (2, .m (.d (.int .i64 ((d + 1 : Nat) : Int)))), (7, .m (bM out))], [], atB a :: bF out⟩ ∧ i + m = n0 ∧ a ≤ bs.length ∧ k = m ∧ bLoop (stp bs (d + 1)) n0 at1 [] = bLoop (stp bs (d + 1)) m a out ∧ out.length = i) n0 _
      ⟨0, n0, at1, [], rfl, by omega, hn1, rfl, rfl, rfl⟩ ⟨rfl, rfl, rfl, rfl, rfl, rfl, trivial⟩ ?_
    rintro k0 s ⟨i, m0, a, out, rfl, him, ha, rfl, hout, hol⟩
    repeat refine TC.seq ?_
    refine TC.region ?_
    refine t_move rfl rfl ?_
    refine t_move rfl rfl ?_
    refine t_int rfl rfl rfl rfl ?_
    refine TL.nil ?_
    repeat refine TC.seq ?_
    refine TC.cond rfl (fun hc => ?_) (fun hc => ?_)
    · have hc' : i < n0 := by have := of_decide_eq_true hc; omega
      clear hc
      obtain ⟨m, rfl⟩ : ∃ m, k0 = m + 1 := ⟨k0 - 1, by omega⟩
      have ha1 := nxA_le bs _ ha
      have ha2 := nxA_le bs _ ha1
      have hk := nxV_lt bs hin.2.2.1 a
      have hcl := nxV_lt bs hin.2.2.1 (nxA bs a)
      refine TC.skip ?_
      repeat refine TC.seq ?_
      refine TC.block ?_
      repeat refine TC.seq ?_
      refine TC.region ?_
      refine t_move rfl rfl ?_
      refine t_move rfl rfl ?_
      (refine t_callR (next_in bs v hin a ha (bF out)) rfl rfl ?_; rintro _ _ ⟨rfl, rfl⟩)
      refine t_assign rfl rfl ?_
      refine TL.nil ?_
      have hm3 := m3lt (nxV bs (nxA bs a))
      repeat refine TC.seq ?_
      refine TC.region ?_
      refine t_move rfl rfl ?_
      refine t_move rfl rfl ?_
      (refine t_callR (next_in bs v hin (nxA bs a) ha1 (bF out)) rfl rfl ?_; rintro _ _ ⟨rfl, rfl⟩)
      refine t_rem rfl rfl rfl rfl ?_
      refine t_add64 rfl rfl rfl (by omega) ?_
      refine t_convI rfl rfl ?_
      refine t_buildSlice rfl rfl rfl rfl rfl rfl rfl rfl ?_
      refine t_b2s rfl rfl rfl ?_
      refine t_assign rfl rfl ?_
      refine TL.nil ?_
      rw [bLoop] at hout
      have hsA := hstA a ha
      generalize hA2 : nxA bs (nxA bs a) = a2 at ha2 ⊢
      generalize hK : nxV bs a = k at hk ⊢
      generalize hC : nxV bs (nxA bs a) = c at hcl ⊢
      cases h3 : z3 k with
      | true =>
        have hst : stp bs (d + 1) a = (.asg (nmOf c) (IntKind.i32.wrap ((k : Int).tmod 2)), a2) := by simp [stp, bStep, hA2, hK, hC, h3]
        rw [hst] at hout hsA
        have hout2 : ∀ {o : List S}, out = o → bLoop (stp bs (d + 1)) n0 at1 [] = bLoop (stp bs (d + 1)) m a2 (o ++ [.asg (nmOf c) (IntKind.i32.wrap ((k : Int).tmod 2))]) := by rintro _ rfl; exact hout
        repeat refine TC.seq ?_
        refine TC.region ?_
        refine t_move rfl rfl ?_
        refine t_rem rfl rfl rfl rfl ?_
        (refine t_int rfl rfl rfl rfl ?_; rw [show ((k : Int).tmod 3 == 0) = true from h3])
        refine t_move rfl rfl ?_
        first | refine t_guard_no rfl rfl ?_ | (refine t_guard_yes rfl ?_; (refine t_move rfl rfl ?_))
        first | refine t_guard_no rfl rfl ?_ | (refine t_guard_yes rfl ?_; (refine t_int rfl rfl rfl rfl ?_))
        refine t_pick rfl rfl rfl ?_
        refine TL.nil ?_
        repeat refine TC.seq ?_
        refine TC.cond rfl (fun hc => ?_) (fun hc => by cases hc)
        cases out with
        | nil =>
          repeat refine TC.seq ?_
          refine TC.region ?_
          refine t_move rfl rfl ?_
          refine t_move rfl rfl ?_
          refine t_move rfl rfl ?_
          refine t_rem rfl rfl rfl rfl ?_
          refine t_convI rfl rfl ?_
          refine t_call1 (let_ok (nmOf c) (IntKind.i32.wrap ((k : Int).tmod 2))) rfl rfl ?_
          refine t_buildSlice rfl rfl rfl rfl rfl rfl rfl rfl ?_
          refine t_append0 true rfl rfl rfl rfl (by rfl) (by simp) (by exact one_len rfl) (by exact nat_le rfl) ?_
          refine t_assign rfl rfl ?_
          refine TL.nil ?_
          refine TC.exit ?_
          repeat refine TC.seq ?_
          refine TC.region ?_
          refine t_move rfl rfl ?_
          refine t_add64 rfl rfl rfl (by omega) ?_
          refine t_assign rfl rfl ?_
          refine TL.nil ?_
          exact againT (k' := m) 2 hb (by exact Nat.le_refl 2) (by omega) ⟨i + 1, m, _, [] ++ [.asg (nmOf c) (IntKind.i32.wrap ((k : Int).tmod 2))], rfl, by omega, ha2, rfl, hout2 rfl, by simp at hol ⊢; omega⟩ rfl (bF_HB _ _) ⟨⟨by simp; rfl, .d _⟩, ⟨rfl, .d _⟩, ⟨rfl, .d _⟩, ⟨rfl, .ref _ _ (by omega)⟩, ⟨rfl, .d _⟩, ⟨rfl, bM_MB _⟩, trivial⟩
        | cons q P =>
          simp only [List.length_cons] at hol
          repeat refine TC.seq ?_
          refine TC.region ?_
          refine t_move rfl rfl ?_
          refine t_move rfl rfl ?_
          refine t_move rfl rfl ?_
          refine t_rem rfl rfl rfl rfl ?_
          refine t_convI rfl rfl ?_
          refine t_call1 (let_ok (nmOf c) (IntKind.i32.wrap ((k : Int).tmod 2))) rfl rfl ?_
          refine t_buildSlice rfl rfl rfl rfl rfl rfl rfl rfl ?_
          refine t_appendR rfl rfl rfl rfl (by rfl) (by exact one_len rfl) (by simp; omega) (by simp; omega) ?_
          refine t_assign rfl rfl ?_
          refine TL.nil ?_
          refine TC.exit ?_
          repeat refine TC.seq ?_
          refine TC.region ?_
          refine t_move rfl rfl ?_
          refine t_add64 rfl rfl rfl (by omega) ?_
          refine t_assign rfl rfl ?_
          refine TL.nil ?_
          exact againT (k' := m) 2 hb (by exact Nat.le_refl 2) (by omega) ⟨i + 1, m, _, q :: P ++ [.asg (nmOf c) (IntKind.i32.wrap ((k : Int).tmod 2))], rfl, by omega, ha2, rfl, hout2 rfl, by simp at hol ⊢; omega⟩ (by rw [bF_snoc]; rfl) (bF_HB _ _) ⟨⟨by simp; rfl, .d _⟩, ⟨rfl, .d _⟩, ⟨rfl, .d _⟩, ⟨rfl, .ref _ _ (by omega)⟩, ⟨rfl, .d _⟩, ⟨by rw [bM_snoc]; rfl, bM_MB _⟩, trivial⟩
      | false =>
        have ha3 := bld_at bs d a2 ha2
        have ha4 := bld_at bs d _ ha3
        have hrec : ∀ (x : Nat), x ≤ bs.length → CT Try.prog 12 [.d v, .ref 0 0, .d (.int .i64 (d : Int))] (atB x :: bF out) fun r k => r = .d (.sl (S.encs (bld bs d x).1)) ∧ k = atB (bld bs d x).2 :: bF out := by
          intro x hx
          have h := CT.suffix (bF out) (H := [atB x]) (hbb_ok rfl) (mbbs_ok rfl) ((ih x hx).mono (post' := fun r k => k.length = [atB x].length ∧ r = .d (.sl (S.encs (bld bs d x).1)) ∧ k = [atB (bld bs d x).2]) (by rintro r k ⟨rfl, rfl⟩; exact ⟨rfl, rfl, rfl⟩))
          refine h.mono ?_
          rintro r k ⟨H', rfl, _, rfl, rfl⟩
          exact ⟨rfl, rfl⟩
        have hdd : ((d + 1 : Nat) : Int) - 1 = (d : Int) := by omega
        have hneg : decide (((d + 1 : Nat) : Int) ≤ 0) = false := decide_eq_false (by omega)
        cases h5 : z5 k with
        | true =>
          cases h2 : z2 k with
          | true =>
            have hst : stp bs (d + 1) a = (.ite true mS (bld bs d a2).1 (bld bs d (bld bs d a2).2).1, (bld bs d (bld bs d a2).2).2) := by simp [stp, bStep, hA2, hK, hC, h3, h5, h2, cdOf]
            rw [hst] at hout hsA
            have hout2 : ∀ {o : List S}, out = o → bLoop (stp bs (d + 1)) n0 at1 [] = bLoop (stp bs (d + 1)) m (bld bs d (bld bs d a2).2).2 (o ++ [.ite true mS (bld bs d a2).1 (bld bs d (bld bs d a2).2).1]) := by rintro _ rfl; exact hout
            repeat refine TC.seq ?_
            refine TC.region ?_
            refine t_move rfl rfl ?_
            refine t_rem rfl rfl rfl rfl ?_
            (refine t_int rfl rfl rfl rfl ?_; rw [show ((k : Int).tmod 3 == 0) = false from h3])
            refine t_move rfl rfl ?_
            first | refine t_guard_no rfl rfl ?_ | (refine t_guard_yes rfl ?_; (refine t_move rfl rfl ?_))
            first | refine t_guard_no rfl rfl ?_ | (refine t_guard_yes rfl ?_; ((refine t_int rfl rfl rfl rfl ?_; rw [hneg])))
            refine t_pick rfl rfl rfl ?_
            refine TL.nil ?_
            repeat refine TC.seq ?_
            refine TC.cond rfl (fun hc => by cases hc) (fun hc => ?_)
            refine TC.skip ?_
            repeat refine TC.seq ?_
            refine TC.region ?_
            refine t_move rfl rfl ?_
            refine t_call1 (name_ok (nmOf c)) rfl rfl ?_
            refine t_build rfl rfl rfl rfl rfl ?_
            refine t_alloc rfl rfl ?_
            refine t_storeL rfl rfl rfl rfl rfl rfl ?_
            refine TL.nil ?_
            repeat refine TC.seq ?_
            refine TC.region ?_
            refine t_move rfl rfl ?_
            refine t_rem rfl rfl rfl rfl ?_
            (refine t_int rfl rfl rfl rfl ?_; rw [show ((k : Int).tmod 5 == 0) = true from h5])
            refine TL.nil ?_
            repeat refine TC.seq ?_
            refine TC.cond rfl (fun hc => ?_) (fun hc => by cases hc)
            repeat refine TC.seq ?_
            refine TC.region ?_
            refine t_build rfl rfl rfl rfl rfl ?_
            first | refine t_fieldD rfl rfl ?_ | refine t_fieldL rfl rfl ?_ | refine t_fieldR rfl rfl ?_ | refine t_fieldW rfl rfl ?_
            refine t_storeL rfl rfl rfl rfl rfl rfl ?_
            refine TL.nil ?_
            repeat refine TC.seq ?_
            refine TC.region ?_
            refine t_move rfl rfl ?_
            refine t_move rfl rfl ?_
            refine t_move rfl rfl ?_
            (refine t_sub64 rfl rfl rfl (by omega) ?_; rw [hdd])
            (refine t_callR (hrec a2 ha2) rfl rfl ?_; rintro _ _ ⟨rfl, rfl⟩)
            first | refine t_fieldD rfl rfl ?_ | refine t_fieldL rfl rfl ?_ | refine t_fieldR rfl rfl ?_ | refine t_fieldW rfl rfl ?_
            refine t_storeL rfl rfl rfl rfl rfl rfl ?_
            refine TL.nil ?_
            repeat refine TC.seq ?_
            refine TC.region ?_
            refine t_move rfl rfl ?_
            refine t_rem rfl rfl rfl rfl ?_
            (refine t_int rfl rfl rfl rfl ?_; rw [show ((k : Int).tmod 2 == 0) = true from h2])
            refine TL.nil ?_
            repeat refine TC.seq ?_
            refine TC.cond rfl (fun hc => ?_) (fun hc => by cases hc)
            repeat refine TC.seq ?_
            refine TC.region ?_
            refine t_move rfl rfl ?_
            refine t_move rfl rfl ?_
            refine t_move rfl rfl ?_
            (refine t_sub64 rfl rfl rfl (by omega) ?_; rw [hdd])
            (refine t_callR (hrec _ ha3) rfl rfl ?_; rintro _ _ ⟨rfl, rfl⟩)
            first | refine t_fieldD rfl rfl ?_ | refine t_fieldL rfl rfl ?_ | refine t_fieldR rfl rfl ?_ | refine t_fieldW rfl rfl ?_
            refine t_storeL rfl rfl rfl rfl rfl rfl ?_
            refine TL.nil ?_
            cases out with
            | nil =>
              repeat refine TC.seq ?_
              refine TC.region ?_
              refine t_move rfl rfl ?_
              first | refine t_loadDw rfl rfl rfl ?_ | refine t_loadDa rfl rfl rfl ?_ | refine t_loadLa rfl rfl rfl rfl rfl ?_ | refine t_loadRa rfl rfl rfl rfl rfl ?_
              refine t_buildSlice rfl rfl rfl rfl rfl rfl rfl rfl ?_
              refine t_append0 true rfl rfl rfl rfl (by rfl) (by simp) (by exact one_len rfl) (by exact nat_le rfl) ?_
              refine t_assign rfl rfl ?_
              refine TL.nil ?_
              repeat refine TC.seq ?_
              refine TC.region ?_
              refine t_move rfl rfl ?_
              refine t_add64 rfl rfl rfl (by omega) ?_
              refine t_assign rfl rfl ?_
              refine TL.nil ?_
              exact againT (k' := m) 2 hb (by exact Nat.le_refl 2) (by omega) ⟨i + 1, m, _, [] ++ [.ite true mS (bld bs d a2).1 (bld bs d (bld bs d a2).2).1], rfl, by omega, ha4, rfl, hout2 rfl, by simp at hol ⊢; omega⟩ rfl (bF_HB _ _) ⟨⟨by simp; rfl, .d _⟩, ⟨rfl, .d _⟩, ⟨rfl, .d _⟩, ⟨rfl, .ref _ _ (by omega)⟩, ⟨rfl, .d _⟩, ⟨rfl, bM_MB _⟩, trivial⟩
            | cons q P =>
              simp only [List.length_cons] at hol
              repeat refine TC.seq ?_
              refine TC.region ?_
              refine t_move rfl rfl ?_
              first | refine t_loadDw rfl rfl rfl ?_ | refine t_loadDa rfl rfl rfl ?_ | refine t_loadLa rfl rfl rfl rfl rfl ?_ | refine t_loadRa rfl rfl rfl rfl rfl ?_
              refine t_buildSlice rfl rfl rfl rfl rfl rfl rfl rfl ?_
              refine t_appendR rfl rfl rfl rfl (by rfl) (by exact one_len rfl) (by simp; omega) (by simp; omega) ?_
              refine t_assign rfl rfl ?_
              refine TL.nil ?_
              repeat refine TC.seq ?_
              refine TC.region ?_
              refine t_move rfl rfl ?_
              refine t_add64 rfl rfl rfl (by omega) ?_
              refine t_assign rfl rfl ?_
              refine TL.nil ?_
              exact againT (k' := m) 2 hb (by exact Nat.le_refl 2) (by omega) ⟨i + 1, m, _, q :: P ++ [.ite true mS (bld bs d a2).1 (bld bs d (bld bs d a2).2).1], rfl, by omega, ha4, rfl, hout2 rfl, by simp at hol ⊢; omega⟩ (by rw [bF_snoc]; rfl) (bF_HB _ _) ⟨⟨by simp; rfl, .d _⟩, ⟨rfl, .d _⟩, ⟨rfl, .d _⟩, ⟨rfl, .ref _ _ (by omega)⟩, ⟨rfl, .d _⟩, ⟨by rw [bM_snoc]; rfl, bM_MB _⟩, trivial⟩
          | false =>
            have hst : stp bs (d + 1) a = (.ite true mS (bld bs d a2).1 [], (bld bs d a2).2) := by simp [stp, bStep, hA2, hK, hC, h3, h5, h2, cdOf]
            rw [hst] at hout hsA
            have hout2 : ∀ {o : List S}, out = o → bLoop (stp bs (d + 1)) n0 at1 [] = bLoop (stp bs (d + 1)) m (bld bs d a2).2 (o ++ [.ite true mS (bld bs d a2).1 []]) := by rintro _ rfl; exact hout
            repeat refine TC.seq ?_
            refine TC.region ?_
            refine t_move rfl rfl ?_
            refine t_rem rfl rfl rfl rfl ?_
            (refine t_int rfl rfl rfl rfl ?_; rw [show ((k : Int).tmod 3 == 0) = false from h3])
            refine t_move rfl rfl ?_
            first | refine t_guard_no rfl rfl ?_ | (refine t_guard_yes rfl ?_; (refine t_move rfl rfl ?_))
            first | refine t_guard_no rfl rfl ?_ | (refine t_guard_yes rfl ?_; ((refine t_int rfl rfl rfl rfl ?_; rw [hneg])))
            refine t_pick rfl rfl rfl ?_
            refine TL.nil ?_
            repeat refine TC.seq ?_
            refine TC.cond rfl (fun hc => by cases hc) (fun hc => ?_)
            refine TC.skip ?_
            repeat refine TC.seq ?_
            refine TC.region ?_
            refine t_move rfl rfl ?_
            refine t_call1 (name_ok (nmOf c)) rfl rfl ?_
            refine t_build rfl rfl rfl rfl rfl ?_
            refine t_alloc rfl rfl ?_
            refine t_storeL rfl rfl rfl rfl rfl rfl ?_
            refine TL.nil ?_
            repeat refine TC.seq ?_
            refine TC.region ?_
            refine t_move rfl rfl ?_
            refine t_rem rfl rfl rfl rfl ?_
            (refine t_int rfl rfl rfl rfl ?_; rw [show ((k : Int).tmod 5 == 0) = true from h5])
            refine TL.nil ?_
            repeat refine TC.seq ?_
            refine TC.cond rfl (fun hc => ?_) (fun hc => by cases hc)
            repeat refine TC.seq ?_
            refine TC.region ?_
            refine t_build rfl rfl rfl rfl rfl ?_
            first | refine t_fieldD rfl rfl ?_ | refine t_fieldL rfl rfl ?_ | refine t_fieldR rfl rfl ?_ | refine t_fieldW rfl rfl ?_
            refine t_storeL rfl rfl rfl rfl rfl rfl ?_
            refine TL.nil ?_
            repeat refine TC.seq ?_
            refine TC.region ?_
            refine t_move rfl rfl ?_
            refine t_move rfl rfl ?_
            refine t_move rfl rfl ?_
            (refine t_sub64 rfl rfl rfl (by omega) ?_; rw [hdd])
            (refine t_callR (hrec a2 ha2) rfl rfl ?_; rintro _ _ ⟨rfl, rfl⟩)
            first | refine t_fieldD rfl rfl ?_ | refine t_fieldL rfl rfl ?_ | refine t_fieldR rfl rfl ?_ | refine t_fieldW rfl rfl ?_
            refine t_storeL rfl rfl rfl rfl rfl rfl ?_
            refine TL.nil ?_
            repeat refine TC.seq ?_
            refine TC.region ?_
            refine t_move rfl rfl ?_
            refine t_rem rfl rfl rfl rfl ?_
            (refine t_int rfl rfl rfl rfl ?_; rw [show ((k : Int).tmod 2 == 0) = false from h2])
            refine TL.nil ?_
            repeat refine TC.seq ?_
            refine TC.cond rfl (fun hc => by cases hc) (fun hc => ?_)
            refine TC.skip ?_
            cases out with
            | nil =>
              repeat refine TC.seq ?_
              refine TC.region ?_
              refine t_move rfl rfl ?_
              first | refine t_loadDw rfl rfl rfl ?_ | refine t_loadDa rfl rfl rfl ?_ | refine t_loadLa rfl rfl rfl rfl rfl ?_ | refine t_loadRa rfl rfl rfl rfl rfl ?_
              refine t_buildSlice rfl rfl rfl rfl rfl rfl rfl rfl ?_
              refine t_append0 true rfl rfl rfl rfl (by rfl) (by simp) (by exact one_len rfl) (by exact nat_le rfl) ?_
              refine t_assign rfl rfl ?_
              refine TL.nil ?_
              repeat refine TC.seq ?_
              refine TC.region ?_
              refine t_move rfl rfl ?_
              refine t_add64 rfl rfl rfl (by omega) ?_
              refine t_assign rfl rfl ?_
              refine TL.nil ?_
              exact againT (k' := m) 2 hb (by exact Nat.le_refl 2) (by omega) ⟨i + 1, m, _, [] ++ [.ite true mS (bld bs d a2).1 []], rfl, by omega, ha3, rfl, hout2 rfl, by simp at hol ⊢; omega⟩ rfl (bF_HB _ _) ⟨⟨by simp; rfl, .d _⟩, ⟨rfl, .d _⟩, ⟨rfl, .d _⟩, ⟨rfl, .ref _ _ (by omega)⟩, ⟨rfl, .d _⟩, ⟨rfl, bM_MB _⟩, trivial⟩
            | cons q P =>
              simp only [List.length_cons] at hol
              repeat refine TC.seq ?_
              refine TC.region ?_
              refine t_move rfl rfl ?_
              first | refine t_loadDw rfl rfl rfl ?_ | refine t_loadDa rfl rfl rfl ?_ | refine t_loadLa rfl rfl rfl rfl rfl ?_ | refine t_loadRa rfl rfl rfl rfl rfl ?_
              refine t_buildSlice rfl rfl rfl rfl rfl rfl rfl rfl ?_
              refine t_appendR rfl rfl rfl rfl (by rfl) (by exact one_len rfl) (by simp; omega) (by simp; omega) ?_
              refine t_assign rfl rfl ?_
              refine TL.nil ?_
              repeat refine TC.seq ?_
              refine TC.region ?_
              refine t_move rfl rfl ?_
              refine t_add64 rfl rfl rfl (by omega) ?_
              refine t_assign rfl rfl ?_
              refine TL.nil ?_
              exact againT (k' := m) 2 hb (by exact Nat.le_refl 2) (by omega) ⟨i + 1, m, _, q :: P ++ [.ite true mS (bld bs d a2).1 []], rfl, by omega, ha3, rfl, hout2 rfl, by simp at hol ⊢; omega⟩ (by rw [bF_snoc]; rfl) (bF_HB _ _) ⟨⟨by simp; rfl, .d _⟩, ⟨rfl, .d _⟩, ⟨rfl, .d _⟩, ⟨rfl, .ref _ _ (by omega)⟩, ⟨rfl, .d _⟩, ⟨by rw [bM_snoc]; rfl, bM_MB _⟩, trivial⟩
        | false =>
          cases h2 : z2 k with
          | true =>
            have hst : stp bs (d + 1) a = (.ite false (nmOf c) (bld bs d a2).1 (bld bs d (bld bs d a2).2).1, (bld bs d (bld bs d a2).2).2) := by simp [stp, bStep, hA2, hK, hC, h3, h5, h2, cdOf]
            rw [hst] at hout hsA
            have hout2 : ∀ {o : List S}, out = o → bLoop (stp bs (d + 1)) n0 at1 [] = bLoop (stp bs (d + 1)) m (bld bs d (bld bs d a2).2).2 (o ++ [.ite false (nmOf c) (bld bs d a2).1 (bld bs d (bld bs d a2).2).1]) := by rintro _ rfl; exact hout
            repeat refine TC.seq ?_
            refine TC.region ?_
            refine t_move rfl rfl ?_
            refine t_rem rfl rfl rfl rfl ?_
            (refine t_int rfl rfl rfl rfl ?_; rw [show ((k : Int).tmod 3 == 0) = false from h3])
            refine t_move rfl rfl ?_
            first | refine t_guard_no rfl rfl ?_ | (refine t_guard_yes rfl ?_; (refine t_move rfl rfl ?_))
            first | refine t_guard_no rfl rfl ?_ | (refine t_guard_yes rfl ?_; ((refine t_int rfl rfl rfl rfl ?_; rw [hneg])))
            refine t_pick rfl rfl rfl ?_
            refine TL.nil ?_
            repeat refine TC.seq ?_
            refine TC.cond rfl (fun hc => by cases hc) (fun hc => ?_)
            refine TC.skip ?_
            repeat refine TC.seq ?_
            refine TC.region ?_
            refine t_move rfl rfl ?_
            refine t_call1 (name_ok (nmOf c)) rfl rfl ?_
            refine t_build rfl rfl rfl rfl rfl ?_
            refine t_alloc rfl rfl ?_
            refine t_storeL rfl rfl rfl rfl rfl rfl ?_
            refine TL.nil ?_
            repeat refine TC.seq ?_
            refine TC.region ?_
            refine t_move rfl rfl ?_
            refine t_rem rfl rfl rfl rfl ?_
            (refine t_int rfl rfl rfl rfl ?_; rw [show ((k : Int).tmod 5 == 0) = false from h5])
            refine TL.nil ?_
            repeat refine TC.seq ?_
            refine TC.cond rfl (fun hc => by cases hc) (fun hc => ?_)
            refine TC.skip ?_
            repeat refine TC.seq ?_
            refine TC.region ?_
            refine t_move rfl rfl ?_
            refine t_move rfl rfl ?_
            refine t_move rfl rfl ?_
            (refine t_sub64 rfl rfl rfl (by omega) ?_; rw [hdd])
            (refine t_callR (hrec a2 ha2) rfl rfl ?_; rintro _ _ ⟨rfl, rfl⟩)
            first | refine t_fieldD rfl rfl ?_ | refine t_fieldL rfl rfl ?_ | refine t_fieldR rfl rfl ?_ | refine t_fieldW rfl rfl ?_
            refine t_storeL rfl rfl rfl rfl rfl rfl ?_
            refine TL.nil ?_
            repeat refine TC.seq ?_
            refine TC.region ?_
            refine t_move rfl rfl ?_
            refine t_rem rfl rfl rfl rfl ?_
            (refine t_int rfl rfl rfl rfl ?_; rw [show ((k : Int).tmod 2 == 0) = true from h2])
            refine TL.nil ?_
            repeat refine TC.seq ?_
            refine TC.cond rfl (fun hc => ?_) (fun hc => by cases hc)
            repeat refine TC.seq ?_
            refine TC.region ?_
            refine t_move rfl rfl ?_
            refine t_move rfl rfl ?_
            refine t_move rfl rfl ?_
            (refine t_sub64 rfl rfl rfl (by omega) ?_; rw [hdd])
            (refine t_callR (hrec _ ha3) rfl rfl ?_; rintro _ _ ⟨rfl, rfl⟩)
            first | refine t_fieldD rfl rfl ?_ | refine t_fieldL rfl rfl ?_ | refine t_fieldR rfl rfl ?_ | refine t_fieldW rfl rfl ?_
            refine t_storeL rfl rfl rfl rfl rfl rfl ?_
            refine TL.nil ?_
            cases out with
            | nil =>
              repeat refine TC.seq ?_
              refine TC.region ?_
              refine t_move rfl rfl ?_
              first | refine t_loadDw rfl rfl rfl ?_ | refine t_loadDa rfl rfl rfl ?_ | refine t_loadLa rfl rfl rfl rfl rfl ?_ | refine t_loadRa rfl rfl rfl rfl rfl ?_
              refine t_buildSlice rfl rfl rfl rfl rfl rfl rfl rfl ?_
              refine t_append0 true rfl rfl rfl rfl (by rfl) (by simp) (by exact one_len rfl) (by exact nat_le rfl) ?_
              refine t_assign rfl rfl ?_
              refine TL.nil ?_
              repeat refine TC.seq ?_
              refine TC.region ?_
              refine t_move rfl rfl ?_
              refine t_add64 rfl rfl rfl (by omega) ?_
              refine t_assign rfl rfl ?_
              refine TL.nil ?_
              exact againT (k' := m) 2 hb (by exact Nat.le_refl 2) (by omega) ⟨i + 1, m, _, [] ++ [.ite false (nmOf c) (bld bs d a2).1 (bld bs d (bld bs d a2).2).1], rfl, by omega, ha4, rfl, hout2 rfl, by simp at hol ⊢; omega⟩ rfl (bF_HB _ _) ⟨⟨by simp; rfl, .d _⟩, ⟨rfl, .d _⟩, ⟨rfl, .d _⟩, ⟨rfl, .ref _ _ (by omega)⟩, ⟨rfl, .d _⟩, ⟨rfl, bM_MB _⟩, trivial⟩
            | cons q P =>
              simp only [List.length_cons] at hol
              repeat refine TC.seq ?_
              refine TC.region ?_
              refine t_move rfl rfl ?_
              first | refine t_loadDw rfl rfl rfl ?_ | refine t_loadDa rfl rfl rfl ?_ | refine t_loadLa rfl rfl rfl rfl rfl ?_ | refine t_loadRa rfl rfl rfl rfl rfl ?_
              refine t_buildSlice rfl rfl rfl rfl rfl rfl rfl rfl ?_
              refine t_appendR rfl rfl rfl rfl (by rfl) (by exact one_len rfl) (by simp; omega) (by simp; omega) ?_
              refine t_assign rfl rfl ?_
              refine TL.nil ?_
              repeat refine TC.seq ?_
              refine TC.region ?_
              refine t_move rfl rfl ?_
              refine t_add64 rfl rfl rfl (by omega) ?_
              refine t_assign rfl rfl ?_
              refine TL.nil ?_
              exact againT (k' := m) 2 hb (by exact Nat.le_refl 2) (by omega) ⟨i + 1, m, _, q :: P ++ [.ite false (nmOf c) (bld bs d a2).1 (bld bs d (bld bs d a2).2).1], rfl, by omega, ha4, rfl, hout2 rfl, by simp at hol ⊢; omega⟩ (by rw [bF_snoc]; rfl) (bF_HB _ _) ⟨⟨by simp; rfl, .d _⟩, ⟨rfl, .d _⟩, ⟨rfl, .d _⟩, ⟨rfl, .ref _ _ (by omega)⟩, ⟨rfl, .d _⟩, ⟨by rw [bM_snoc]; rfl, bM_MB _⟩, trivial⟩
          | false =>
            have hst : stp bs (d + 1) a = (.ite false (nmOf c) (bld bs d a2).1 [], (bld bs d a2).2) := by simp [stp, bStep, hA2, hK, hC, h3, h5, h2, cdOf]
            rw [hst] at hout hsA
            have hout2 : ∀ {o : List S}, out = o → bLoop (stp bs (d + 1)) n0 at1 [] = bLoop (stp bs (d + 1)) m (bld bs d a2).2 (o ++ [.ite false (nmOf c) (bld bs d a2).1 []]) := by rintro _ rfl; exact hout
            repeat refine TC.seq ?_
            refine TC.region ?_
            refine t_move rfl rfl ?_
            refine t_rem rfl rfl rfl rfl ?_
            (refine t_int rfl rfl rfl rfl ?_; rw [show ((k : Int).tmod 3 == 0) = false from h3])
            refine t_move rfl rfl ?_
            first | refine t_guard_no rfl rfl ?_ | (refine t_guard_yes rfl ?_; (refine t_move rfl rfl ?_))
            first | refine t_guard_no rfl rfl ?_ | (refine t_guard_yes rfl ?_; ((refine t_int rfl rfl rfl rfl ?_; rw [hneg])))
            refine t_pick rfl rfl rfl ?_
            refine TL.nil ?_
            repeat refine TC.seq ?_
            refine TC.cond rfl (fun hc => by cases hc) (fun hc => ?_)
            refine TC.skip ?_
            repeat refine TC.seq ?_
            refine TC.region ?_
            refine t_move rfl rfl ?_
            refine t_call1 (name_ok (nmOf c)) rfl rfl ?_
            refine t_build rfl rfl rfl rfl rfl ?_
            refine t_alloc rfl rfl ?_
            refine t_storeL rfl rfl rfl rfl rfl rfl ?_
            refine TL.nil ?_
            repeat refine TC.seq ?_
            refine TC.region ?_
            refine t_move rfl rfl ?_
            refine t_rem rfl rfl rfl rfl ?_
            (refine t_int rfl rfl rfl rfl ?_; rw [show ((k : Int).tmod 5 == 0) = false from h5])
            refine TL.nil ?_
            repeat refine TC.seq ?_
            refine TC.cond rfl (fun hc => by cases hc) (fun hc => ?_)
            refine TC.skip ?_
            repeat refine TC.seq ?_
            refine TC.region ?_
            refine t_move rfl rfl ?_
            refine t_move rfl rfl ?_
            refine t_move rfl rfl ?_
            (refine t_sub64 rfl rfl rfl (by omega) ?_; rw [hdd])
            (refine t_callR (hrec a2 ha2) rfl rfl ?_; rintro _ _ ⟨rfl, rfl⟩)
            first | refine t_fieldD rfl rfl ?_ | refine t_fieldL rfl rfl ?_ | refine t_fieldR rfl rfl ?_ | refine t_fieldW rfl rfl ?_
            refine t_storeL rfl rfl rfl rfl rfl rfl ?_
            refine TL.nil ?_
            repeat refine TC.seq ?_
            refine TC.region ?_
            refine t_move rfl rfl ?_
            refine t_rem rfl rfl rfl rfl ?_
            (refine t_int rfl rfl rfl rfl ?_; rw [show ((k : Int).tmod 2 == 0) = false from h2])
            refine TL.nil ?_
            repeat refine TC.seq ?_
            refine TC.cond rfl (fun hc => by cases hc) (fun hc => ?_)
            refine TC.skip ?_
            cases out with
            | nil =>
              repeat refine TC.seq ?_
              refine TC.region ?_
              refine t_move rfl rfl ?_
              first | refine t_loadDw rfl rfl rfl ?_ | refine t_loadDa rfl rfl rfl ?_ | refine t_loadLa rfl rfl rfl rfl rfl ?_ | refine t_loadRa rfl rfl rfl rfl rfl ?_
              refine t_buildSlice rfl rfl rfl rfl rfl rfl rfl rfl ?_
              refine t_append0 true rfl rfl rfl rfl (by rfl) (by simp) (by exact one_len rfl) (by exact nat_le rfl) ?_
              refine t_assign rfl rfl ?_
              refine TL.nil ?_
              repeat refine TC.seq ?_
              refine TC.region ?_
              refine t_move rfl rfl ?_
              refine t_add64 rfl rfl rfl (by omega) ?_
              refine t_assign rfl rfl ?_
              refine TL.nil ?_
              exact againT (k' := m) 2 hb (by exact Nat.le_refl 2) (by omega) ⟨i + 1, m, _, [] ++ [.ite false (nmOf c) (bld bs d a2).1 []], rfl, by omega, ha3, rfl, hout2 rfl, by simp at hol ⊢; omega⟩ rfl (bF_HB _ _) ⟨⟨by simp; rfl, .d _⟩, ⟨rfl, .d _⟩, ⟨rfl, .d _⟩, ⟨rfl, .ref _ _ (by omega)⟩, ⟨rfl, .d _⟩, ⟨rfl, bM_MB _⟩, trivial⟩
            | cons q P =>
              simp only [List.length_cons] at hol
              repeat refine TC.seq ?_
              refine TC.region ?_
              refine t_move rfl rfl ?_
              first | refine t_loadDw rfl rfl rfl ?_ | refine t_loadDa rfl rfl rfl ?_ | refine t_loadLa rfl rfl rfl rfl rfl ?_ | refine t_loadRa rfl rfl rfl rfl rfl ?_
              refine t_buildSlice rfl rfl rfl rfl rfl rfl rfl rfl ?_
              refine t_appendR rfl rfl rfl rfl (by rfl) (by exact one_len rfl) (by simp; omega) (by simp; omega) ?_
              refine t_assign rfl rfl ?_
              refine TL.nil ?_
              repeat refine TC.seq ?_
              refine TC.region ?_
              refine t_move rfl rfl ?_
              refine t_add64 rfl rfl rfl (by omega) ?_
              refine t_assign rfl rfl ?_
              refine TL.nil ?_
              exact againT (k' := m) 2 hb (by exact Nat.le_refl 2) (by omega) ⟨i + 1, m, _, q :: P ++ [.ite false (nmOf c) (bld bs d a2).1 []], rfl, by omega, ha3, rfl, hout2 rfl, by simp at hol ⊢; omega⟩ (by rw [bF_snoc]; rfl) (bF_HB _ _) ⟨⟨by simp; rfl, .d _⟩, ⟨rfl, .d _⟩, ⟨rfl, .d _⟩, ⟨rfl, .ref _ _ (by omega)⟩, ⟨rfl, .d _⟩, ⟨by rw [bM_snoc]; rfl, bM_MB _⟩, trivial⟩
    · refine TC.exit ?_
      obtain rfl : k0 = 0 := by have := of_decide_eq_false hc; omega
      rw [bLoop] at hout
      rw [hout]
      repeat refine TC.seq ?_
      refine TC.region ?_
      refine t_move rfl rfl ?_
      refine t_assign rfl rfl ?_
      refine TL.nil ?_
      refine TC.viewSlot 6 rfl (b_view a out) ?_
      refine TC.ret ⟨_, rfl, by simp, .d _, ?_, rfl, rfl⟩
      intro ob h
      simp only [List.take_succ_cons, List.take_zero, List.mem_singleton] at h
      subst h
      intro mm hm; simp at hm; subst hm; exact .d _
end Go.Proofs
