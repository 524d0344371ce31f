import Derived.Test.YtenbmejbaiajcaaCoC
namespace Go.Proofs
open Go.Mt
set_option maxRecDepth 4000
set_option linter.unusedSimpArgs false
set_option linter.unusedVariables false

def Small (p : List Fn) : Prop := p.length ≤ 1000 ∧ ∀ f ∈ p, S.szs f.body ≤ 1000
def bodyAt (p : List Fn) (i : Nat) : List S := match p[i]? with | some f => f.body | none => []
def nmAt (p : List Fn) (i : Nat) : ByteArray := match p[i]? with | some f => f.nm | none => emp
theorem find_lt {p : List Fn} {nm : ByteArray} {i : Nat} (h : find p nm = some i) : i < p.length := by
  rw [find, List.findIdx?_eq_some_iff_getElem] at h; exact h.1
theorem idx_nonneg (i : Nat) : ¬ idxInt (some i) < 0 := by show ¬ (i : Int) < 0; omega
theorem enc_get {p : List Fn} {i : Nat} (h : i < p.length) : (p.map Fn.enc)[(i : Int).toNat]? = some p[i].enc := by simp [h]
def callsOf (p : List Fn) (nm : ByteArray) : List ByteArray := match find p nm with
  | none => []
  | some i => callsS [] (bodyAt p i)

theorem callsOf_ok (p : List Fn) (nm : ByteArray) (hp : Small p) : PT Try.prog 10 [.agg (progC p), .str nm] (· = [.sl (strs (callsOf p nm))]) := by
  refine PT.of_CT (CT.of_body Try.func10 rfl Try.ntmps10 rfl fun s0 Oo => ?_)
  repeat refine TC.seq ?_
  refine TC.region ?_
  refine t_box rfl rfl ?_
  refine t_assign rfl rfl ?_
  refine TL.nil ?_
  repeat refine TC.seq ?_
  refine TC.region ?_
  first | refine t_loadDw rfl rfl rfl ?_ | refine t_loadDa rfl rfl rfl ?_ | refine t_loadLa rfl rfl rfl rfl rfl ?_ | refine t_loadRa rfl rfl rfl rfl rfl ?_
  refine t_move rfl rfl ?_
  refine t_call1 (find_ok p nm) rfl rfl ?_
  refine t_assign rfl rfl ?_
  refine TL.nil ?_
  rw [callsOf]
  cases hf : find p nm with
  | none =>
    repeat refine TC.seq ?_
    refine TC.region ?_
    refine t_move rfl rfl ?_
    refine t_int rfl rfl rfl rfl ?_
    refine TL.nil ?_
    repeat refine TC.seq ?_
    refine TC.cond rfl (fun hc => ?_) (fun hc => by cases hc)
    repeat refine TC.seq ?_
    refine TC.region ?_
    refine t_assign rfl rfl ?_
    refine TL.nil ?_
    exact TC.ret ⟨_, rfl, [_], rfl, rfl⟩
  | some i =>
    have hi := find_lt hf
    have hb : bodyAt p i = p[i].body := by simp [bodyAt, hi]
    have hsz := hp.2 p[i] (List.getElem_mem hi)
    repeat refine TC.seq ?_
    refine TC.region ?_
    refine t_move rfl rfl ?_
    refine t_int rfl rfl rfl rfl ?_
    refine TL.nil ?_
    repeat refine TC.seq ?_
    refine TC.cond rfl (fun hc => absurd (of_decide_eq_true hc) (idx_nonneg i)) (fun hc => ?_)
    refine TC.skip ?_
    rw [progC]
    repeat refine TC.seq ?_
    refine TC.region ?_
    first | refine t_fieldD rfl rfl ?_ | refine t_fieldL rfl rfl ?_ | refine t_fieldR rfl rfl ?_
    first | refine t_loadDc rfl rfl rfl ?_ | refine t_loadLc rfl rfl rfl rfl ?_ | refine t_loadRc rfl rfl rfl rfl ?_
    refine t_move rfl rfl ?_
    refine t_indexD rfl rfl rfl (Int.natCast_nonneg i) (r := p[i].enc) (enc_get hi) rfl ?_
    first | refine t_fieldD rfl rfl ?_ | refine t_fieldL rfl rfl ?_ | refine t_fieldR rfl rfl ?_
    first | refine t_loadDc rfl rfl rfl ?_ | refine t_loadLc rfl rfl rfl rfl ?_ | refine t_loadRc rfl rfl rfl rfl ?_
    (refine t_callR (calls_ok (S.szs p[i].body + 1) p[i].body [] (by omega) (by simp; omega)) rfl rfl ?_; rintro _ _ ⟨rfl, rfl⟩)
    refine t_assign rfl rfl ?_
    refine TL.nil ?_
    refine TC.viewSlot 4 rfl (acc_view _) ?_
    exact TC.ret ⟨_, rfl, [_], rfl, by simp [hb]⟩

def deepL (g : ByteArray → Int) (best : Int) : List ByteArray → Int
  | [] => best + 1
  | c :: r => if g c < 0 then -1 else deepL g (max best (g c)) r
def deepS (p : List Fn) : Nat → ByteArray → Int
  | 0, _ => -1
  | n + 1, nm => match find p nm with
    | none => -1
    | some _ => deepL (deepS p n) 0 (callsOf p nm)
theorem deepL_le (g : ByteArray → Int) (n : Nat) (hg : ∀ c, g c ≤ n) : ∀ (l : List ByteArray) (best : Int), best ≤ n → deepL g best l ≤ n + 1
  | [], best, h => by simp only [deepL]; omega
  | c :: r, best, h => by
    simp only [deepL]
    split
    · omega
    · exact deepL_le g n hg r _ (by have := hg c; omega)
theorem deepS_le (p : List Fn) : ∀ (n : Nat) (nm : ByteArray), deepS p n nm ≤ n
  | 0, nm => by simp only [deepS]; omega
  | n + 1, nm => by
    simp only [deepS]
    split
    · omega
    · have := deepL_le (deepS p n) n (deepS_le p n) (callsOf p nm) 0 (by omega); push_cast; exact this

theorem deepL_cons (g : ByteArray → Int) (best : Int) (l : List ByteArray) (i : Nat) (h : i < l.length) (hn : ¬ g l[i] < 0) : deepL g best (l.drop i) = deepL g (max best (g l[i])) (l.drop (i + 1)) := by
  rw [List.drop_eq_getElem_cons h, deepL, if_neg hn]
theorem deepL_bad (g : ByteArray → Int) (best : Int) (l : List ByteArray) (i : Nat) (h : i < l.length) (hn : g l[i] < 0) : deepL g best (l.drop i) = -1 := by
  rw [List.drop_eq_getElem_cons h, deepL, if_pos hn]
theorem strs_len (l : List ByteArray) : (strs l).length = l.length := by simp [strs]
theorem strs_get {l : List ByteArray} {i : Nat} (h : i < l.length) : (strs l)[(i : Int).toNat]? = some [.str l[i]] := by simp [strs, h]

theorem deep_ok (p : List Fn) (hp : Small p) : ∀ (n : Nat) (nm : ByteArray), n ≤ 1000000 → PT Try.prog 15 [.agg (progC p), .str nm, .int .i64 n] (· = [.int .i64 (deepS p n nm)]) := by
  intro n
  induction n with
  | zero =>
    intro nm hn
    refine PT.of_CT (CT.of_body Try.func15 rfl Try.ntmps15 rfl fun s0 Oo => ?_)
    repeat refine TC.seq ?_
    refine TC.region ?_
    refine t_box rfl rfl ?_
    refine t_assign rfl rfl ?_
    refine TL.nil ?_
    cases hf : decide (idxInt (find p nm) < 0) with
    | true =>
      repeat refine TC.seq ?_
      refine TC.region ?_
      first | refine t_loadDw rfl rfl rfl ?_ | refine t_loadDa rfl rfl rfl ?_ | refine t_loadLa rfl rfl rfl rfl rfl ?_ | refine t_loadRa rfl rfl rfl rfl rfl ?_
      refine t_move rfl rfl ?_
      refine t_call1 (find_ok p nm) rfl rfl ?_
      (refine t_int rfl rfl rfl rfl ?_; rw [hf])
      refine t_move rfl rfl ?_
      first | refine t_guard_no rfl rfl ?_ | (refine t_guard_yes rfl ?_; (refine t_move rfl rfl ?_))
      first | refine t_guard_no rfl rfl ?_ | (refine t_guard_yes rfl ?_; (refine t_int rfl rfl rfl rfl ?_))
      refine t_pick rfl rfl rfl ?_
      refine TL.nil ?_
      repeat refine TC.seq ?_
      refine TC.cond rfl (fun hc => ?_) (fun hc => by cases hc)
      repeat refine TC.seq ?_
      refine TC.region ?_
      refine t_assign rfl rfl ?_
      refine TL.nil ?_
      exact TC.ret ⟨_, rfl, [_], rfl, rfl⟩
    | false =>
      repeat refine TC.seq ?_
      refine TC.region ?_
      first | refine t_loadDw rfl rfl rfl ?_ | refine t_loadDa rfl rfl rfl ?_ | refine t_loadLa rfl rfl rfl rfl rfl ?_ | refine t_loadRa rfl rfl rfl rfl rfl ?_
      refine t_move rfl rfl ?_
      refine t_call1 (find_ok p nm) rfl rfl ?_
      (refine t_int rfl rfl rfl rfl ?_; rw [hf])
      refine t_move rfl rfl ?_
      first | refine t_guard_no rfl rfl ?_ | (refine t_guard_yes rfl ?_; (refine t_move rfl rfl ?_))
      first | refine t_guard_no rfl rfl ?_ | (refine t_guard_yes rfl ?_; (refine t_int rfl rfl rfl rfl ?_))
      refine t_pick rfl rfl rfl ?_
      refine TL.nil ?_
      repeat refine TC.seq ?_
      refine TC.cond rfl (fun hc => ?_) (fun hc => by cases hc)
      repeat refine TC.seq ?_
      refine TC.region ?_
      refine t_assign rfl rfl ?_
      refine TL.nil ?_
      exact TC.ret ⟨_, rfl, [_], rfl, rfl⟩
  | succ n ih =>
    intro nm hn
    refine PT.of_CT (CT.of_body Try.func15 rfl Try.ntmps15 rfl fun s0 Oo => ?_)
    repeat refine TC.seq ?_
    refine TC.region ?_
    refine t_box rfl rfl ?_
    refine t_assign rfl rfl ?_
    refine TL.nil ?_
    cases hf : find p nm with
    | none =>
      have hd : deepS p (n + 1) nm = -1 := by simp [deepS, hf]
      repeat refine TC.seq ?_
      refine TC.region ?_
      first | refine t_loadDw rfl rfl rfl ?_ | refine t_loadDa rfl rfl rfl ?_ | refine t_loadLa rfl rfl rfl rfl rfl ?_ | refine t_loadRa rfl rfl rfl rfl rfl ?_
      refine t_move rfl rfl ?_
      (refine t_call1 (find_ok p nm) rfl rfl ?_; rw [hf])
      refine t_int rfl rfl rfl rfl ?_
      refine t_move rfl rfl ?_
      first | refine t_guard_no rfl rfl ?_ | (refine t_guard_yes rfl ?_; (refine t_move rfl rfl ?_))
      first | refine t_guard_no rfl rfl ?_ | (refine t_guard_yes rfl ?_; (refine t_int rfl rfl rfl rfl ?_))
      refine t_pick rfl rfl rfl ?_
      refine TL.nil ?_
      repeat refine TC.seq ?_
      refine TC.cond rfl (fun hc => ?_) (fun hc => by cases hc)
      repeat refine TC.seq ?_
      refine TC.region ?_
      refine t_assign rfl rfl ?_
      refine TL.nil ?_
      exact TC.ret ⟨_, rfl, [_], rfl, by rw [hd]⟩
    | some f =>
      have hd : deepS p (n + 1) nm = deepL (deepS p n) 0 (callsOf p nm) := by simp [deepS, hf]
      have hfi : decide (idxInt (some f) < 0) = false := decide_eq_false (idx_nonneg f)
      repeat refine TC.seq ?_
      refine TC.region ?_
      first | refine t_loadDw rfl rfl rfl ?_ | refine t_loadDa rfl rfl rfl ?_ | refine t_loadLa rfl rfl rfl rfl rfl ?_ | refine t_loadRa rfl rfl rfl rfl rfl ?_
      refine t_move rfl rfl ?_
      (refine t_call1 (find_ok p nm) rfl rfl ?_; rw [hf])
      (refine t_int rfl rfl rfl rfl ?_; rw [hfi])
      refine t_move rfl rfl ?_
      first | refine t_guard_no rfl rfl ?_ | (refine t_guard_yes rfl ?_; (refine t_move rfl rfl ?_))
      first | refine t_guard_no rfl rfl ?_ | (refine t_guard_yes rfl ?_; (refine t_int rfl rfl rfl rfl ?_))
      refine t_pick rfl rfl rfl ?_
      refine TL.nil ?_
      repeat refine TC.seq ?_
      refine TC.cond rfl (fun hc => by have := of_decide_eq_true hc; omega) (fun hc => ?_)
      refine TC.skip ?_
      rw [hd]
      have hle := deepS_le p n
      generalize hL : callsOf p nm = L
      repeat refine TC.seq ?_
      refine TC.region ?_
      refine t_assign rfl rfl ?_
      refine TL.nil ?_
      repeat refine TC.seq ?_
      refine TC.region ?_
      first | refine t_loadDw rfl rfl rfl ?_ | refine t_loadDa rfl rfl rfl ?_ | refine t_loadLa rfl rfl rfl rfl rfl ?_ | refine t_loadRa rfl rfl rfl rfl rfl ?_
      refine t_move rfl rfl ?_
      (refine t_call1 (callsOf_ok p nm hp) rfl rfl ?_; rw [hL]; refine TL.short (x := .tmp 21) rfl fun hmax => ?_; rw [strs_len] at hmax)
      refine t_lenS rfl rfl rfl ?_
      refine t_move rfl rfl ?_
      refine TL.nil ?_
      repeat refine TC.seq ?_
      refine TC.block ?_
      refine TC.loop' (fun k s => ∃ (i : Nat) (best : Int), i ≤ L.length ∧ k = L.length - i ∧ 0 ≤ best ∧ best ≤ n ∧ deepL (deepS p n) 0 L = deepL (deepS p n) best (L.drop i) ∧
        s = ⟨[(23, .m (.d (.int .i64 i))), (22, .m (.d (.int .i64 (strs L).length))), (21, .m (.d (.sl (strs L)))), (7, .m (.d (.int .i64 best))), (3, .m (.d (.pim (progC p) 0))), (2, .m (.d (.int .i64 ((n + 1 : Nat) : Int))))], [], []⟩) L.length _
        ⟨0, 0, by omega, rfl, by omega, by omega, rfl, rfl⟩
        (fun a w hi => hi.weak (keeps_get ⟨rfl, rfl, rfl, rfl, rfl, rfl, trivial⟩) (fun _ => rfl)) ?_
      rintro k s ⟨i, best, hi, rfl, hb0, hb1, hL2, rfl⟩
      rw [hL2]
      repeat refine TC.seq ?_
      refine TC.region ?_
      refine t_int rfl rfl rfl rfl ?_
      refine TL.nil ?_
      repeat refine TC.seq ?_
      refine TC.cond rfl (fun hc => ?_) (fun hc => ?_)
      · have hc' : i < L.length := by simpa [strs_len] using hc
        clear hc
        refine TC.skip ?_
        repeat refine TC.seq ?_
        refine TC.block ?_
        repeat refine TC.seq ?_
        refine TC.region ?_
        refine t_indexD rfl rfl rfl (Int.natCast_nonneg i) (r := [.str L[i]]) (strs_get hc') rfl ?_
        first | refine t_loadDc rfl rfl rfl ?_ | refine t_loadLc rfl rfl rfl rfl ?_ | refine t_loadRc rfl rfl rfl rfl ?_
        refine t_assign rfl rfl ?_
        refine TL.nil ?_
        repeat refine TC.seq ?_
        refine TC.region ?_
        first | refine t_loadDw rfl rfl rfl ?_ | refine t_loadDa rfl rfl rfl ?_ | refine t_loadLa rfl rfl rfl rfl rfl ?_ | refine t_loadRa rfl rfl rfl rfl rfl ?_
        refine t_move rfl rfl ?_
        refine t_move rfl rfl ?_
        (refine t_sub64 rfl rfl rfl (by omega) ?_; rw [show ((n + 1 : Nat) : Int) - 1 = (n : Int) by omega])
        refine t_call1 (ih L[i] (by omega)) rfl rfl ?_
        refine t_assign rfl rfl ?_
        refine TL.nil ?_
        repeat refine TC.seq ?_
        refine TC.region ?_
        refine t_move rfl rfl ?_
        refine t_int rfl rfl rfl rfl ?_
        refine TL.nil ?_
        refine TC.cond rfl (fun hc => ?_) (fun hc => ?_)
        · repeat refine TC.seq ?_
          refine TC.region ?_
          refine t_assign rfl rfl ?_
          refine TL.nil ?_
          exact TC.ret ⟨_, rfl, [_], rfl, by rw [deepL_bad _ _ _ _ hc' (by simpa using hc)]⟩
        · refine TC.skip ?_
          have hc2 : ¬ deepS p n L[i] < 0 := by simpa using hc
          repeat refine TC.seq ?_
          refine TC.region ?_
          refine t_move rfl rfl ?_
          refine t_move rfl rfl ?_
          refine t_max rfl rfl rfl ?_
          refine t_assign rfl rfl ?_
          refine TL.nil ?_
          repeat refine TC.seq ?_
          refine TC.region ?_
          refine t_add64 rfl rfl rfl (by omega) ?_
          refine t_move rfl rfl ?_
          refine TL.nil ?_
          have hmx : (if deepS p n L[i] > best then deepS p n L[i] else best) = max best (deepS p n L[i]) := by split <;> omega
          exact again (k' := L.length - (i + 1)) (by omega) ⟨i + 1, max best (deepS p n L[i]), by omega, rfl, by omega, by have := hle L[i]; omega, deepL_cons _ _ _ _ hc' hc2, rfl⟩ rfl ⟨by simp; rfl, rfl, rfl, by rw [← hmx]; rfl, rfl, rfl, trivial⟩
      · refine TC.exit ?_
        have hc' : i = L.length := by simp [strs_len] at hc; omega
        subst hc'
        repeat refine TC.seq ?_
        refine TC.region ?_
        refine t_move rfl rfl ?_
        refine t_add64 rfl rfl rfl (by omega) ?_
        refine t_assign rfl rfl ?_
        refine TL.nil ?_
        exact TC.ret ⟨_, rfl, [_], rfl, by rw [List.drop_length]; rfl⟩

def deepP (p : List Fn) (nm : ByteArray) : Int := deepS p p.length nm
theorem deepP_ok (p : List Fn) (hp : Small p) (nm : ByteArray) : PT Try.prog 8 [.agg (progC p), .str nm] (· = [.int .i64 (deepP p nm)]) := by
  refine PT.of_CT (CT.of_body Try.func8 rfl Try.ntmps8 rfl fun s0 Oo => ?_)
  repeat refine TC.seq ?_
  refine TC.region ?_
  refine t_box rfl rfl ?_
  refine t_assign rfl rfl ?_
  refine TL.nil ?_
  repeat refine TC.seq ?_
  refine TC.region ?_
  first | refine t_loadDw rfl rfl rfl ?_ | refine t_loadDa rfl rfl rfl ?_ | refine t_loadLa rfl rfl rfl rfl rfl ?_ | refine t_loadRa rfl rfl rfl rfl rfl ?_
  refine t_move rfl rfl ?_
  first | refine t_fieldD rfl rfl ?_ | refine t_fieldL rfl rfl ?_ | refine t_fieldR rfl rfl ?_
  first | refine t_loadDc rfl rfl rfl ?_ | refine t_loadLc rfl rfl rfl rfl ?_ | refine t_loadRc rfl rfl rfl rfl ?_
  (refine t_lenS rfl rfl rfl ?_; rw [List.length_map])
  refine t_call1 (deep_ok p hp p.length nm (by have := hp.1; omega)) rfl rfl ?_
  refine t_assign rfl rfl ?_
  refine TL.nil ?_
  exact TC.ret ⟨_, rfl, [_], rfl, rfl⟩

/-- a call of the function at place i is to one before it -/
def good (p : List Fn) (i : Nat) (c : ByteArray) : Bool := bif decide (idxInt (find p c) < 0) then false else !decide (idxInt (find p c) ≥ i)
def okAt (p : List Fn) (i : Nat) : Bool := (callsOf p (nmAt p i)).all (good p i)
def aheadS (p : List Fn) : Bool := (List.range p.length).all (okAt p)
theorem ahead_ok (p : List Fn) (hp : Small p) : PT Try.prog 9 [.agg (progC p)] (· = [.bool (aheadS p)]) := by
  refine PT.of_CT (CT.of_body Try.func9 rfl Try.ntmps9 rfl fun s0 Oo => ?_)
  have hpl := hp.1
  repeat refine TC.seq ?_
  refine TC.region ?_
  refine t_box rfl rfl ?_
  refine t_assign rfl rfl ?_
  refine TL.nil ?_
  repeat refine TC.seq ?_
  refine TC.region ?_
  first | refine t_fieldD rfl rfl ?_ | refine t_fieldL rfl rfl ?_ | refine t_fieldR rfl rfl ?_
  first | refine t_loadDc rfl rfl rfl ?_ | refine t_loadLc rfl rfl rfl rfl ?_ | refine t_loadRc rfl rfl rfl rfl ?_
  refine t_lenS rfl rfl rfl ?_
  refine t_move rfl rfl ?_
  refine TL.nil ?_
  repeat refine TC.seq ?_
  refine TC.block ?_
  refine TC.loop' (fun k s => ∃ (i : Nat) (bx : List (Nat × List M)), i ≤ p.length ∧ k = p.length - i ∧ (∀ j, j < i → okAt p j = true) ∧
    s = ⟨[(11, .m (.d (.int .i64 i))), (10, .m (.d (.int .i64 (p.map Fn.enc).length))), (9, .m (.d (.sl (p.map Fn.enc)))), (1, .m (.d (.pim (progC p) 0)))], bx, []⟩) p.length _
    ⟨0, [], by omega, rfl, by intro j hj; omega, rfl⟩
    (fun a w hi => hi.weak (keeps_get ⟨rfl, rfl, rfl, rfl, trivial⟩) (fun _ => rfl)) ?_
  rintro k s ⟨i, bx, hi, rfl, hall, rfl⟩
  repeat refine TC.seq ?_
  refine TC.region ?_
  refine t_int rfl rfl rfl rfl ?_
  refine TL.nil ?_
  repeat refine TC.seq ?_
  refine TC.cond rfl (fun hc => ?_) (fun hc => ?_)
  · have hc' : i < p.length := by simpa using hc
    clear hc
    have hnm : nmAt p i = p[i].nm := by simp [nmAt, hc']
    have hok : okAt p i = (callsOf p p[i].nm).all (good p i) := by rw [okAt, hnm]
    refine TC.skip ?_
    repeat refine TC.seq ?_
    refine TC.block ?_
    generalize hL : callsOf p p[i].nm = L at hok
    repeat refine TC.seq ?_
    refine TC.region ?_
    refine t_move rfl rfl ?_
    refine t_indexD rfl rfl rfl (Int.natCast_nonneg i) (r := p[i].enc) (enc_get hc') rfl ?_
    first | refine t_loadDw rfl rfl rfl ?_ | refine t_loadDa rfl rfl rfl ?_ | refine t_loadLa rfl rfl rfl rfl rfl ?_ | refine t_loadRa rfl rfl rfl rfl rfl ?_
    refine t_alloc rfl rfl ?_
    refine t_assign rfl rfl ?_
    refine t_storeL rfl rfl rfl rfl rfl rfl ?_
    refine TL.nil ?_
    repeat refine TC.seq ?_
    refine TC.region ?_
    first | refine t_loadDw rfl rfl rfl ?_ | refine t_loadDa rfl rfl rfl ?_ | refine t_loadLa rfl rfl rfl rfl rfl ?_ | refine t_loadRa rfl rfl rfl rfl rfl ?_
    first | refine t_fieldD rfl rfl ?_ | refine t_fieldL rfl rfl ?_ | refine t_fieldR rfl rfl ?_
    first | refine t_loadDc rfl rfl rfl ?_ | refine t_loadLc rfl rfl rfl rfl ?_ | refine t_loadRc rfl rfl rfl rfl ?_
    (refine t_call1 (callsOf_ok p p[i].nm hp) rfl rfl ?_; rw [hL]; refine TL.short (x := .tmp 19) rfl fun hmax => ?_; rw [strs_len] at hmax)
    refine t_lenS rfl rfl rfl ?_
    refine t_move rfl rfl ?_
    refine TL.nil ?_
    repeat refine TC.seq ?_
    refine TC.block ?_
    refine TC.loop' (fun k s => ∃ (m : Nat) (bx : List (Nat × List M)), m ≤ L.length ∧ k = L.length - m ∧ (∀ j, j < m → ∀ h : j < L.length, good p i L[j] = true) ∧
      s = ⟨[(21, .m (.d (.int .i64 m))), (20, .m (.d (.int .i64 (strs L).length))), (19, .m (.d (.sl (strs L)))), (3, .m (.d (.int .i64 i))), (11, .m (.d (.int .i64 i))), (10, .m (.d (.int .i64 (p.map Fn.enc).length))), (9, .m (.d (.sl (p.map Fn.enc)))), (1, .m (.d (.pim (progC p) 0)))], bx, []⟩) L.length _
      ⟨0, _, by omega, rfl, by intro j hj; omega, rfl⟩
      (fun a w hi => hi.weak (keeps_get ⟨rfl, rfl, rfl, rfl, rfl, rfl, rfl, rfl, trivial⟩) (fun _ => rfl)) ?_
    rintro k s ⟨m, bx, hm, rfl, hgood, rfl⟩
    repeat refine TC.seq ?_
    refine TC.region ?_
    refine t_int rfl rfl rfl rfl ?_
    refine TL.nil ?_
    repeat refine TC.seq ?_
    refine TC.cond rfl (fun hc => ?_) (fun hc => ?_)
    · have hc2 : m < L.length := by simpa [strs_len] using hc
      clear hc
      refine TC.skip ?_
      repeat refine TC.seq ?_
      refine TC.block ?_
      repeat refine TC.seq ?_
      refine TC.region ?_
      refine t_indexD rfl rfl rfl (Int.natCast_nonneg m) (r := [.str L[m]]) (strs_get hc2) rfl ?_
      first | refine t_loadDc rfl rfl rfl ?_ | refine t_loadLc rfl rfl rfl rfl ?_ | refine t_loadRc rfl rfl rfl rfl ?_
      refine t_assign rfl rfl ?_
      refine TL.nil ?_
      repeat refine TC.seq ?_
      refine TC.region ?_
      first | refine t_loadDw rfl rfl rfl ?_ | refine t_loadDa rfl rfl rfl ?_ | refine t_loadLa rfl rfl rfl rfl rfl ?_ | refine t_loadRa rfl rfl rfl rfl rfl ?_
      refine t_move rfl rfl ?_
      refine t_call1 (find_ok p L[m]) rfl rfl ?_
      refine t_assign rfl rfl ?_
      refine TL.nil ?_
      have hgm : good p i L[m] = bif decide (idxInt (find p L[m]) < 0) then false else !decide (idxInt (find p L[m]) ≥ i) := rfl
      cases hf : decide (idxInt (find p L[m]) < 0) with
      | true =>
        repeat refine TC.seq ?_
        refine TC.region ?_
        refine t_move rfl rfl ?_
        (refine t_int rfl rfl rfl rfl ?_; rw [hf])
        refine t_move rfl rfl ?_
        first | refine t_guard_no rfl rfl ?_ | (refine t_guard_yes rfl ?_; (refine t_move rfl rfl ?_))
        first | refine t_guard_no rfl rfl ?_ | (refine t_guard_yes rfl ?_; (refine t_move rfl rfl ?_))
        first | refine t_guard_no rfl rfl ?_ | (refine t_guard_yes rfl ?_; (refine t_int rfl rfl rfl rfl ?_))
        refine t_pick rfl rfl rfl ?_
        refine TL.nil ?_
        refine TC.cond rfl (fun hc => ?_) (fun hc => by cases hc)
        repeat refine TC.seq ?_
        refine TC.region ?_
        refine t_assign rfl rfl ?_
        refine TL.nil ?_
        have hf0 : aheadS p = false := by
          rw [hf] at hgm
          rw [aheadS, List.all_eq_false]
          refine ⟨i, List.mem_range.2 hc', ?_⟩
          rw [hok, Bool.not_eq_true, List.all_eq_false]
          exact ⟨L[m], List.getElem_mem hc2, by rw [hgm]; simp⟩
        exact TC.ret ⟨_, rfl, [_], rfl, by rw [hf0]⟩
      | false =>
        rw [hf, cond_false] at hgm
        repeat refine TC.seq ?_
        refine TC.region ?_
        refine t_move rfl rfl ?_
        (refine t_int rfl rfl rfl rfl ?_; rw [hf])
        refine t_move rfl rfl ?_
        first | refine t_guard_no rfl rfl ?_ | (refine t_guard_yes rfl ?_; (refine t_move rfl rfl ?_))
        first | refine t_guard_no rfl rfl ?_ | (refine t_guard_yes rfl ?_; (refine t_move rfl rfl ?_))
        first | refine t_guard_no rfl rfl ?_ | (refine t_guard_yes rfl ?_; (refine t_int rfl rfl rfl rfl ?_))
        refine t_pick rfl rfl rfl ?_
        refine TL.nil ?_
        refine TC.cond rfl (fun hc => ?_) (fun hc => ?_)
        · repeat refine TC.seq ?_
          refine TC.region ?_
          refine t_assign rfl rfl ?_
          refine TL.nil ?_
          have hf0 : aheadS p = false := by
            rw [hc] at hgm
            rw [aheadS, List.all_eq_false]
            refine ⟨i, List.mem_range.2 hc', ?_⟩
            rw [hok, Bool.not_eq_true, List.all_eq_false]
            exact ⟨L[m], List.getElem_mem hc2, by rw [hgm]; simp⟩
          exact TC.ret ⟨_, rfl, [_], rfl, by rw [hf0]⟩
        · refine TC.skip ?_
          repeat refine TC.seq ?_
          refine TC.region ?_
          refine t_add64 rfl rfl rfl (by omega) ?_
          refine t_move rfl rfl ?_
          refine TL.nil ?_
          refine again (k' := L.length - (m + 1)) (by omega) ⟨m + 1, _, by omega, rfl, ?_, rfl⟩ rfl ⟨by simp; rfl, rfl, rfl, rfl, rfl, rfl, rfl, rfl, trivial⟩
          intro j hj h
          rcases Nat.lt_succ_iff_lt_or_eq.1 hj with h1 | rfl
          · exact hgood j h1 h
          · rw [hgm, hc]; rfl
    · refine TC.exit ?_
      have hc2 : m = L.length := by simp [strs_len] at hc; omega
      repeat refine TC.seq ?_
      refine TC.region ?_
      refine t_add64 rfl rfl rfl (by omega) ?_
      refine t_move rfl rfl ?_
      refine TL.nil ?_
      refine again (k' := p.length - (i + 1)) (by omega) ⟨i + 1, _, by omega, rfl, ?_, rfl⟩ rfl ⟨by simp; rfl, rfl, rfl, rfl, trivial⟩
      intro j hj
      rcases Nat.lt_succ_iff_lt_or_eq.1 hj with h1 | rfl
      · exact hall j h1
      · rw [hok, List.all_eq_true]
        intro x hx
        obtain ⟨q, hq, rfl⟩ := List.getElem_of_mem hx
        exact hgood q (by omega) hq
  · refine TC.exit ?_
    have hc' : i = p.length := by simp at hc; omega
    repeat refine TC.seq ?_
    refine TC.region ?_
    refine t_assign rfl rfl ?_
    refine TL.nil ?_
    have ht : aheadS p = true := by
      rw [aheadS, List.all_eq_true]
      intro x hx
      exact hall x (by have := List.mem_range.1 hx; omega)
    exact TC.ret ⟨_, rfl, [_], rfl, by rw [ht]⟩
end Go.Proofs
