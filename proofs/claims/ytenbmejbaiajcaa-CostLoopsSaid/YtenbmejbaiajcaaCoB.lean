import Derived.Test.YtenbmejbaiajcaaCoA
namespace Go.Proofs
open Go.Mt
set_option maxRecDepth 4000
set_option linter.unusedSimpArgs false
set_option linter.unusedVariables false

/-- a digit -/
def dig (m : Int) : ByteArray := strOfNums [IntKind.u8.wrap (IntKind.u64.wrap (48 + m))]
theorem digits_ok (m : Int) (h1 : m < 10) : PT Try.prog 13 [.int .u64 m] (· = [.str (dig m)]) := by
  refine PT.of_CT (CT.of_body Try.func13 rfl Try.ntmps13 rfl fun s0 Oo => ?_)
  repeat refine TC.seq ?_
  refine TC.region ?_
  refine t_assign rfl rfl ?_
  refine TL.nil ?_
  repeat refine TC.seq ?_
  refine TC.region ?_
  refine t_move rfl rfl ?_
  refine t_int rfl rfl rfl rfl ?_
  refine TL.nil ?_
  repeat refine TC.seq ?_
  refine TC.cond rfl (fun hc => ?_) (fun hc => by simp at hc; omega)
  repeat refine TC.seq ?_
  refine TC.region ?_
  refine t_move rfl rfl ?_
  refine t_int rfl rfl rfl rfl ?_
  refine t_convI rfl rfl ?_
  refine t_buildSlice rfl rfl rfl rfl rfl rfl rfl rfl ?_
  refine t_b2s rfl rfl rfl ?_
  refine t_assign rfl rfl ?_
  refine TL.nil ?_
  exact TC.ret ⟨_, rfl, [_], rfl, rfl⟩
theorem u64_small (n : Int) (h0 : 0 ≤ n) (h1 : n < 10) : IntKind.u64.wrap n = n := IntWalk.u64_in _ (by omega)
theorem numS_ok (n : Int) (h0 : 0 ≤ n) (h1 : n < 10) : PT Try.prog 6 [.int .i64 n] (· = [.str (dig n)]) := by
  have hw := u64_small n h0 h1
  refine PT.of_CT (CT.of_body Try.func6 rfl Try.ntmps6 rfl fun s0 Oo => ?_)
  repeat refine TC.seq ?_
  refine TC.region ?_
  refine t_assign rfl rfl ?_
  refine TL.nil ?_
  repeat refine TC.seq ?_
  refine TC.region ?_
  refine t_move rfl rfl ?_
  refine t_int rfl rfl rfl rfl ?_
  refine TL.nil ?_
  repeat refine TC.seq ?_
  refine TC.cond rfl (fun hc => by simp at hc; omega) (fun hc => ?_)
  refine TC.skip ?_
  repeat refine TC.seq ?_
  refine TC.region ?_
  refine t_move rfl rfl ?_
  refine t_convI rfl rfl ?_
  refine t_call1 (digits_ok _ (by rw [hw]; exact h1)) rfl rfl ?_
  refine t_assign rfl rfl ?_
  refine TL.nil ?_
  exact TC.ret ⟨_, rfl, [_], rfl, by rw [hw]⟩

/-- the statements of these programs -/
inductive S where
  | set (nm : ByteArray)
  | call (nm : ByteArray)
  | ite (a b : List S)
def emp : ByteArray := ⟨#[]⟩
def pS : ByteArray := ⟨#[112]⟩
def sS : ByteArray := ⟨#[115]⟩
abbrev setC (nm : ByteArray) : List D := [.int .u8 1, .str nm, .str ⟨#[]⟩, .int .u8 1, .int .u8 0, .int .i32 1, .str ⟨#[]⟩, .sl [], .sl [], .sl [], .sl [], .sl []]
abbrev callC (nm : ByteArray) : List D := [.int .u8 4, .str nm, .str ⟨#[112]⟩, .int .u8 0, .int .u8 0, .int .i32 0, .str ⟨#[]⟩, .sl [], .sl [], .sl [], .sl [], .sl []]
abbrev iteC (a b : List (List D)) : List D := [.int .u8 3, .str ⟨#[]⟩, .str ⟨#[]⟩, .int .u8 1, .int .u8 0, .int .i32 1, .str ⟨#[]⟩, .sl [], .sl a, .sl b, .sl [], .sl []]
mutual
def S.enc : S → List D
  | .set nm => setC nm
  | .call nm => callC nm
  | .ite a b => iteC (S.encs a) (S.encs b)
def S.encs : List S → List (List D)
  | [] => []
  | s :: r => s.enc :: S.encs r
end
theorem S.enc_len (s : S) : s.enc.length = 12 := by cases s <;> simp [S.enc]
theorem S.encs_map (l : List S) : S.encs l = l.map S.enc := by induction l with
  | nil => simp [S.encs]
  | cons s r ih => simp [S.encs, ih]
theorem S.encs_len (l : List S) : (S.encs l).length = l.length := by rw [S.encs_map, List.length_map]
theorem S.encs_get (l : List S) (i : Nat) (s : S) (h : l[i]? = some s) : (S.encs l)[(i : Int).toNat]? = some s.enc := by rw [S.encs_map]; simp [h]
mutual
def S.sz : S → Nat
  | .set _ => 1
  | .call _ => 1
  | .ite a b => 1 + S.szs a + S.szs b
def S.szs : List S → Nat
  | [] => 0
  | s :: r => s.sz + S.szs r
end
theorem S.sz_le {l : List S} {s : S} (h : s ∈ l) : s.sz ≤ S.szs l := by
  induction l with
  | nil => cases h
  | cons a r ih =>
    rw [S.szs]
    rcases List.mem_cons.1 h with rfl | h
    · omega
    · have := ih h; omega
theorem S.sz_pos (s : S) : 0 < s.sz := by cases s <;> simp [S.sz] <;> omega
structure Fn where
  nm : ByteArray
  body : List S
def Fn.enc (f : Fn) : List D := [.str f.nm, .str ⟨#[115]⟩, .sl [], .sl [], .sl [], .sl (S.encs f.body)]
def progC (p : List Fn) : List D := [.sl [], .sl (p.map Fn.enc)]

theorem same_ok (f : Fn) (nm : ByteArray) : PT Try.prog 20 ([.agg f.enc] ++ [.pim [.str nm] 0]) (· = [.bool (decide (f.nm = nm))]) := by
  refine PT.of_CT (CT.of_body Try.func20 rfl Try.ntmps20 rfl fun s0 Oo => ?_)
  rw [Fn.enc]
  repeat refine TC.seq ?_
  refine TC.region ?_
  refine t_box rfl rfl ?_
  refine t_assign rfl rfl ?_
  refine TL.nil ?_
  repeat refine TC.seq ?_
  refine TC.region ?_
  first | refine t_fieldD rfl rfl ?_ | refine t_fieldL rfl rfl ?_ | refine t_fieldR rfl rfl ?_
  first | refine t_loadDc rfl rfl rfl ?_ | refine t_loadLc rfl rfl rfl rfl ?_ | refine t_loadRc rfl rfl rfl rfl ?_
  first | refine t_loadDc rfl rfl rfl ?_ | refine t_loadLc rfl rfl rfl rfl ?_ | refine t_loadRc rfl rfl rfl rfl ?_
  refine t_streq rfl rfl rfl ?_
  refine t_assign rfl rfl ?_
  refine TL.nil ?_
  exact TC.ret ⟨_, rfl, [_], rfl, rfl⟩

/-- a place, or minus one -/
def idxInt (o : Option Nat) : Int := match o with | some i => (i : Int) | none => -1

theorem findIdx_hit {α : Type} {p : α → Bool} {l : List α} {i : Nat} (hi : i < l.length) (h : p l[i] = true) (hno : ∀ j, (hj : j < i) → p (l[j]'(by omega)) = false) : l.findIdx? p = some i := by
  rw [List.findIdx?_eq_some_iff_getElem]
  exact ⟨hi, h, fun j hj => by simp [hno j hj]⟩
theorem findIdx_miss {α : Type} {p : α → Bool} {l : List α} (hno : ∀ j, (hj : j < l.length) → p l[j] = false) : l.findIdx? p = none := by
  rw [List.findIdx?_eq_none_iff]
  intro x hx
  obtain ⟨j, hj, rfl⟩ := List.getElem_of_mem hx
  exact hno j hj

theorem indexFunc_ok (p : List Fn) (nm : ByteArray) :
    PT Try.prog 19 [.sl (p.map Fn.enc), .fn 20 [.pim [.str nm] 0]] (· = [.int .i64 (idxInt (p.findIdx? fun f => decide (f.nm = nm)))]) := by
  refine PT.of_CT (CT.of_body Try.func19 rfl Try.ntmps19 rfl fun s0 Oo => ?_)
  refine TC.short (x := .tmp 0) rfl fun hmax => ?_
  repeat refine TC.seq ?_
  refine TC.region ?_
  refine t_assign rfl rfl ?_
  refine TL.nil ?_
  repeat refine TC.seq ?_
  refine TC.region ?_
  refine t_move rfl rfl ?_
  refine t_lenS rfl rfl rfl ?_
  refine t_move rfl rfl ?_
  refine TL.nil ?_
  repeat refine TC.seq ?_
  refine TC.block ?_
  refine TC.loop' (fun k s => ∃ i : Nat, i ≤ p.length ∧ k = p.length - i ∧ (∀ j, j < i → ∀ h : j < p.length, decide (p[j].nm = nm) = false) ∧
    s = ⟨[(8, .m (.d (.int .i64 i))), (7, .m (.d (.int .i64 (p.map Fn.enc).length))), (0, .m (.d (.sl (p.map Fn.enc)))), (1, .m (.d (.fn 20 [.pim [.str nm] 0])))], [], []⟩) p.length _ ⟨0, by omega, rfl, by intro j h; omega, rfl⟩
      (fun a w hi => hi.weak (keeps_get ⟨rfl, rfl, rfl, rfl, trivial⟩) (fun _ => rfl)) ?_
  rintro k s ⟨i, hi, rfl, hno, rfl⟩
  rw [List.length_map] at hmax
  repeat refine TC.seq ?_
  refine TC.region ?_
  refine t_int rfl rfl rfl rfl ?_
  refine TL.nil ?_
  repeat refine TC.seq ?_
  refine TC.cond rfl (fun hc => ?_) (fun hc => ?_)
  · have hc' : i < p.length := by simpa using hc
    clear hc
    refine TC.skip ?_
    repeat refine TC.seq ?_
    refine TC.block ?_
    repeat refine TC.seq ?_
    refine TC.region ?_
    refine t_move rfl rfl ?_
    refine t_assign rfl rfl ?_
    refine TL.nil ?_
    repeat refine TC.seq ?_
    refine TC.region ?_
    refine t_move rfl rfl ?_
    refine t_move rfl rfl ?_
    refine t_move rfl rfl ?_
    refine t_indexD rfl rfl rfl (Int.natCast_nonneg i) (r := p[i].enc) (by simp [hc']) rfl ?_
    first | refine t_loadDw rfl rfl rfl ?_ | refine t_loadDa rfl rfl rfl ?_ | refine t_loadLa rfl rfl rfl rfl rfl ?_ | refine t_loadRa rfl rfl rfl rfl rfl ?_
    refine t_callv (same_ok p[i] nm) rfl rfl rfl ?_
    refine TL.nil ?_
    refine TC.cond rfl (fun hc2 => ?_) (fun hc2 => ?_)
    · repeat refine TC.seq ?_
      refine TC.region ?_
      refine t_move rfl rfl ?_
      refine t_assign rfl rfl ?_
      refine TL.nil ?_
      refine TC.ret ⟨_, rfl, [_], rfl, ?_⟩
      rw [findIdx_hit hc' hc2 fun j hj => hno j hj (by omega)]
      rfl
    · refine TC.skip ?_
      repeat refine TC.seq ?_
      refine TC.region ?_
      refine t_add64 rfl rfl rfl (by omega) ?_
      refine t_move rfl rfl ?_
      refine TL.nil ?_
      refine ⟨p.length - (i + 1), _, by omega, ⟨i + 1, by omega, rfl, ?_, rfl⟩, fun a w hi => hi.weak (keeps_get ⟨?_, rfl, rfl, rfl, trivial⟩) (fun _ => rfl)⟩
      · intro j hj h
        rcases Nat.lt_succ_iff_lt_or_eq.1 hj with h1 | rfl
        · exact hno j h1 h
        · exact hc2
      · simp; rfl
  · refine TC.exit ?_
    have hc' : i = p.length := by simp at hc; omega
    repeat refine TC.seq ?_
    refine TC.region ?_
    refine t_assign rfl rfl ?_
    refine TL.nil ?_
    refine TC.ret ⟨_, rfl, [_], rfl, ?_⟩
    rw [findIdx_miss fun j hj => hno j (by omega) hj]
    rfl

/-- where a program's function lies -/
def find (p : List Fn) (nm : ByteArray) : Option Nat := p.findIdx? fun f => decide (f.nm = nm)
theorem find_ok (p : List Fn) (nm : ByteArray) : PT Try.prog 16 [.agg (progC p), .str nm] (· = [.int .i64 (idxInt (find p nm))]) := by
  refine PT.of_CT (CT.of_body Try.func16 rfl Try.ntmps16 rfl fun s0 Oo => ?_)
  rw [progC]
  repeat refine TC.seq ?_
  refine TC.region ?_
  refine t_box rfl rfl ?_
  refine t_box rfl rfl ?_
  refine t_assign rfl rfl ?_
  refine TL.nil ?_
  repeat refine TC.seq ?_
  refine TC.region ?_
  first | refine t_fieldD rfl rfl ?_ | refine t_fieldL rfl rfl ?_ | refine t_fieldR rfl rfl ?_
  first | refine t_loadDc rfl rfl rfl ?_ | refine t_loadLc rfl rfl rfl rfl ?_ | refine t_loadRc rfl rfl rfl rfl ?_
  refine t_makeFunc rfl rfl ?_
  refine t_call1 (indexFunc_ok p nm) rfl rfl ?_
  refine t_assign rfl rfl ?_
  refine TL.nil ?_
  exact TC.ret ⟨_, rfl, [_], rfl, rfl⟩

def strs (l : List ByteArray) : List (List D) := l.map fun s => [D.str s]
theorem index_ok (l : List ByteArray) (nm : ByteArray) : PT Try.prog 23 [.sl (strs l), .str nm] (· = [.int .i64 (idxInt (l.findIdx? fun s => decide (nm = s)))]) := by
  refine PT.of_CT (CT.of_body Try.func23 rfl Try.ntmps23 rfl fun s0 Oo => ?_)
  refine TC.short (x := .tmp 0) rfl fun hmax => ?_
  repeat refine TC.seq ?_
  refine TC.region ?_
  refine t_assign rfl rfl ?_
  refine TL.nil ?_
  repeat refine TC.seq ?_
  refine TC.region ?_
  refine t_move rfl rfl ?_
  refine t_lenS rfl rfl rfl ?_
  refine t_move rfl rfl ?_
  refine TL.nil ?_
  repeat refine TC.seq ?_
  refine TC.block ?_
  refine TC.loop' (fun k s => ∃ i : Nat, i ≤ l.length ∧ k = l.length - i ∧ (∀ j, j < i → ∀ h : j < l.length, decide (nm = l[j]) = false) ∧
    s = ⟨[(8, .m (.d (.int .i64 i))), (7, .m (.d (.int .i64 (strs l).length))), (0, .m (.d (.sl (strs l)))), (1, .m (.d (.str nm)))], [], []⟩) l.length _ ⟨0, by omega, rfl, by intro j h; omega, rfl⟩
      (fun a w hi => hi.weak (keeps_get ⟨rfl, rfl, rfl, rfl, trivial⟩) (fun _ => rfl)) ?_
  rintro k s ⟨i, hi, rfl, hno, rfl⟩
  rw [strs, List.length_map] at hmax
  repeat refine TC.seq ?_
  refine TC.region ?_
  refine t_int rfl rfl rfl rfl ?_
  refine TL.nil ?_
  repeat refine TC.seq ?_
  refine TC.cond rfl (fun hc => ?_) (fun hc => ?_)
  · have hc' : i < l.length := by simpa [strs] using hc
    clear hc
    refine TC.skip ?_
    repeat refine TC.seq ?_
    refine TC.block ?_
    repeat refine TC.seq ?_
    refine TC.region ?_
    refine t_move rfl rfl ?_
    refine t_assign rfl rfl ?_
    refine TL.nil ?_
    repeat refine TC.seq ?_
    refine TC.region ?_
    refine t_move rfl rfl ?_
    refine t_move rfl rfl ?_
    refine t_move rfl rfl ?_
    refine t_indexD rfl rfl rfl (Int.natCast_nonneg i) (r := [.str l[i]]) (by simp [hc', strs]) rfl ?_
    first | refine t_loadDc rfl rfl rfl ?_ | refine t_loadLc rfl rfl rfl rfl ?_ | refine t_loadRc rfl rfl rfl rfl ?_
    refine t_streq rfl rfl rfl ?_
    refine TL.nil ?_
    refine TC.cond rfl (fun hc2 => ?_) (fun hc2 => ?_)
    · repeat refine TC.seq ?_
      refine TC.region ?_
      refine t_move rfl rfl ?_
      refine t_assign rfl rfl ?_
      refine TL.nil ?_
      refine TC.ret ⟨_, rfl, [_], rfl, ?_⟩
      rw [findIdx_hit hc' hc2 fun j hj => hno j hj (by omega)]
      rfl
    · refine TC.skip ?_
      repeat refine TC.seq ?_
      refine TC.region ?_
      refine t_add64 rfl rfl rfl (by omega) ?_
      refine t_move rfl rfl ?_
      refine TL.nil ?_
      refine ⟨l.length - (i + 1), _, by omega, ⟨i + 1, by omega, rfl, ?_, rfl⟩, fun a w hi => hi.weak (keeps_get ⟨?_, rfl, rfl, rfl, trivial⟩) (fun _ => rfl)⟩
      · intro j hj h
        rcases Nat.lt_succ_iff_lt_or_eq.1 hj with h1 | rfl
        · exact hno j h1 h
        · exact hc2
      · simp; rfl
  · refine TC.exit ?_
    have hc' : i = l.length := by simp [strs] at hc; omega
    repeat refine TC.seq ?_
    refine TC.region ?_
    refine t_assign rfl rfl ?_
    refine TL.nil ?_
    refine TC.ret ⟨_, rfl, [_], rfl, ?_⟩
    rw [findIdx_miss fun j hj => hno j (by omega) hj]
    rfl

def has (l : List ByteArray) (nm : ByteArray) : Bool := l.any fun s => decide (nm = s)
theorem contains_ok (l : List ByteArray) (nm : ByteArray) : PT Try.prog 21 [.sl (strs l), .str nm] (· = [.bool (has l nm)]) := by
  refine PT.of_CT (CT.of_body Try.func21 rfl Try.ntmps21 rfl fun s0 Oo => ?_)
  repeat refine TC.seq ?_
  refine TC.region ?_
  refine t_assign rfl rfl ?_
  refine TL.nil ?_
  repeat refine TC.seq ?_
  refine TC.region ?_
  refine t_move rfl rfl ?_
  refine t_move rfl rfl ?_
  refine t_call1 (index_ok l nm) rfl rfl ?_
  refine t_int rfl rfl rfl rfl ?_
  refine t_assign rfl rfl ?_
  refine TL.nil ?_
  refine TC.ret ⟨_, rfl, [_], rfl, ?_⟩
  cases h : l.findIdx? fun s => decide (nm = s) with
  | none =>
    have : has l nm = false := by
      rw [List.findIdx?_eq_none_iff] at h
      simp only [has, List.any_eq_false]
      intro x hx
      simp [h x hx]
    simp [idxInt, this]
  | some i =>
    have : has l nm = true := by
      rw [List.findIdx?_eq_some_iff_getElem] at h
      obtain ⟨h1, h2, _⟩ := h
      simp only [has, List.any_eq_true]
      exact ⟨_, List.getElem_mem h1, h2⟩
    simp [idxInt, this]
end Go.Proofs
