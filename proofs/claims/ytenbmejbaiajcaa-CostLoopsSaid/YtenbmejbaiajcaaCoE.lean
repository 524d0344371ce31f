import Derived.Test.YtenbmejbaiajcaaCoD
namespace Go.Proofs
open Go.Mt
set_option maxRecDepth 4000
set_option linter.unusedSimpArgs false
set_option linter.unusedVariables false

abbrev Memo := List (ByteArray × Int)
def memE : Memo → List (D × M)
  | [] => []
  | (k, v) :: r => (.str k, .d (.int .i64 v)) :: memE r
def look (k : ByteArray) : Memo → Option Int
  | [] => none
  | (s, v) :: r => bif decide (s = k) then some v else look k r
def upd (k : ByteArray) (v : Int) : Memo → Memo
  | [] => [(k, v)]
  | (s, u) :: r => bif decide (s = k) then (k, v) :: r else (s, u) :: upd k v r
theorem strKeys_memE : ∀ m : Memo, strKeys (memE m) = true
  | [] => rfl
  | (k, v) :: r => by simp [memE, strKeys, strKeys_memE r]
theorem lookM_memE (k : ByteArray) : ∀ m : Memo, lookM k (memE m) = (look k m).map fun v => .d (.int .i64 v)
  | [] => rfl
  | (s, v) :: r => by
    simp only [memE, lookM, look, lookM_memE k r]
    cases decide (s = k) <;> rfl
theorem updM_memE (k : ByteArray) (v : Int) : ∀ m : Memo, updM k (.d (.int .i64 v)) (memE m) = memE (upd k v m)
  | [] => rfl
  | (s, u) :: r => by
    simp only [memE, updM, upd, updM_memE k v r]
    cases decide (s = k) <;> rfl
def memH (p : List Fn) (m : Memo) : Hp := [.map (memE m), .box [.d (.sl []), .d (.sl (p.map Fn.enc)), .mp 0]]

mutual
def stmtS (g : ByteArray → Memo → Option (Int × Memo)) : S → Memo → Option (Int × Memo)
  | .set _, m => some (2, m)
  | .call nm, m => match g nm m with
    | none => none
    | some (r, m') => some (if r < 0 then -1 else r + 1, m')
  | .ite a b, m => match stmtsS g a 0 m with
    | none => none
    | some (x, m1) => match stmtsS g b 0 m1 with
      | none => none
      | some (y, m2) => some (if x < 0 ∨ y < 0 then -1 else 2 + max x y, m2)
def stmtsS (g : ByteArray → Memo → Option (Int × Memo)) : List S → Int → Memo → Option (Int × Memo)
  | [], t, m => some (t, m)
  | s :: r, t, m => match stmtS g s m with
    | none => none
    | some (n, m') => if n < 0 ∨ t + n > 1073741824 then some (-1, m') else stmtsS g r (t + n) m'
end
def fnS (p : List Fn) : Nat → ByteArray → Memo → Option (Int × Memo)
  | 0, nm, m => match look nm m with
    | some v => some (v, m)
    | none => match find p nm with
      | none => some (-1, m)
      | some _ => none
  | F + 1, nm, m => match look nm m with
    | some v => some (v, m)
    | none => match find p nm with
      | none => some (-1, m)
      | some i => match stmtsS (fnS p F) (bodyAt p i) 0 (upd nm (-1) m) with
        | none => none
        | some (r, m') => some (r, upd nm r m')

def MemoOk (m : Memo) : Prop := ∀ e ∈ m, -1 ≤ e.2 ∧ e.2 ≤ 1073741824
theorem MemoOk.look {m : Memo} (h : MemoOk m) {k : ByteArray} {v : Int} (hl : look k m = some v) : -1 ≤ v ∧ v ≤ 1073741824 := by
  induction m with
  | nil => simp [Go.Proofs.look] at hl
  | cons e r ih =>
    obtain ⟨s, u⟩ := e
    simp only [Go.Proofs.look] at hl
    cases hd : decide (s = k) with
    | true => simp [hd] at hl; subst hl; exact h _ (List.mem_cons_self ..)
    | false => simp [hd] at hl; exact ih (fun e he => h e (List.mem_cons_of_mem _ he)) hl
theorem MemoOk.upd {m : Memo} (h : MemoOk m) {k : ByteArray} {v : Int} (hv : -1 ≤ v ∧ v ≤ 1073741824) : MemoOk (upd k v m) := by
  induction m with
  | nil => intro e he; simp [Go.Proofs.upd] at he; subst he; exact hv
  | cons e r ih =>
    obtain ⟨s, u⟩ := e
    simp only [Go.Proofs.upd]
    have hr : MemoOk r := fun e he => h e (List.mem_cons_of_mem _ he)
    cases hd : decide (s = k) with
    | true =>
      intro e he
      rcases List.mem_cons.1 he with rfl | he
      · exact hv
      · exact hr e he
    | false =>
      intro e he
      rcases List.mem_cons.1 he with rfl | he
      · exact h _ (List.mem_cons_self ..)
      · exact ih hr e he
def GOk (g : ByteArray → Memo → Option (Int × Memo)) : Prop := ∀ nm m r m', MemoOk m → g nm m = some (r, m') → (-1 ≤ r ∧ r ≤ 1073741824) ∧ MemoOk m'
mutual
theorem stmtS_ok {g : ByteArray → Memo → Option (Int × Memo)} (hg : GOk g) : ∀ (s : S) (m : Memo) (r : Int) (m' : Memo), MemoOk m → stmtS g s m = some (r, m') → (-1 ≤ r ∧ r ≤ 1073741826) ∧ MemoOk m'
  | .set _, m, r, m', h, e => by simp [stmtS] at e; obtain ⟨rfl, rfl⟩ := e; exact ⟨by omega, h⟩
  | .call nm, m, r, m', h, e => by
    simp only [stmtS] at e
    split at e
    · cases e
    · rename_i r0 m0 h0
      have := hg nm m r0 m0 h h0
      simp at e
      obtain ⟨rfl, rfl⟩ := e
      refine ⟨?_, this.2⟩
      split <;> omega
  | .ite a b, m, r, m', h, e => by
    simp only [stmtS] at e
    split at e
    · cases e
    · rename_i x m1 h1
      have k1 := stmtsS_ok hg a 0 m x m1 (by omega) h h1
      split at e
      · cases e
      · rename_i y m2 h2
        have k2 := stmtsS_ok hg b 0 m1 y m2 (by omega) k1.2 h2
        simp at e
        obtain ⟨rfl, rfl⟩ := e
        refine ⟨?_, k2.2⟩
        split <;> omega
theorem stmtsS_ok {g : ByteArray → Memo → Option (Int × Memo)} (hg : GOk g) : ∀ (l : List S) (t : Int) (m : Memo) (r : Int) (m' : Memo), (0 ≤ t ∧ t ≤ 1073741824) → MemoOk m → stmtsS g l t m = some (r, m') → (-1 ≤ r ∧ r ≤ 1073741824) ∧ MemoOk m'
  | [], t, m, r, m', ht, h, e => by simp [stmtsS] at e; obtain ⟨rfl, rfl⟩ := e; exact ⟨by omega, h⟩
  | s :: l, t, m, r, m', ht, h, e => by
    simp only [stmtsS] at e
    split at e
    · cases e
    · rename_i n m1 h1
      have k1 := stmtS_ok hg s m n m1 h h1
      split at e
      · simp at e; obtain ⟨rfl, rfl⟩ := e; exact ⟨by omega, k1.2⟩
      · exact stmtsS_ok hg l (t + n) m1 r m' (by omega) k1.2 e
end
theorem fnS_ok (p : List Fn) : ∀ F, GOk (fnS p F)
  | 0 => by
    intro nm m r m' h e
    simp only [fnS] at e
    split at e
    · rename_i v hv; simp at e; obtain ⟨rfl, rfl⟩ := e; exact ⟨h.look hv, h⟩
    · split at e
      · simp at e; obtain ⟨rfl, rfl⟩ := e; exact ⟨by omega, h⟩
      · cases e
  | F + 1 => by
    intro nm m r m' h e
    simp only [fnS] at e
    split at e
    · rename_i v hv; simp at e; obtain ⟨rfl, rfl⟩ := e; exact ⟨h.look hv, h⟩
    · split at e
      · simp at e; obtain ⟨rfl, rfl⟩ := e; exact ⟨by omega, h⟩
      · split at e
        · cases e
        · rename_i r0 m0 h0
          have := stmtsS_ok (fnS_ok p F) _ 0 _ r0 m0 (by omega) (h.upd (by omega)) h0
          simp at e; obtain ⟨rfl, rfl⟩ := e
          exact ⟨this.1, this.2.upd this.1⟩

def FnC (p : List Fn) (F : Nat) : Prop := ∀ nm m r m', MemoOk m → fnS p F nm m = some (r, m') → CT Try.prog 14 [.ref 1 0, .d (.str nm)] (memH p m) fun x h => x = .d (.int .i64 r) ∧ h = memH p m'
def StmtsC (p : List Fn) (F : Nat) (l : List S) : Prop := ∀ m r m', MemoOk m → stmtsS (fnS p F) l 0 m = some (r, m') → CT Try.prog 18 [.ref 1 0, .d (.sl (S.encs l))] (memH p m) fun x h => x = .d (.int .i64 r) ∧ h = memH p m'
def StmtC (p : List Fn) (F : Nat) (s : S) : Prop := ∀ m r m', MemoOk m → stmtS (fnS p F) s m = some (r, m') → CT Try.prog 22 [.ref 1 0, .d (.agg s.enc)] (memH p m) fun x h => x = .d (.int .i64 r) ∧ h = memH p m'

theorem len12 (l : List D) (h : l.length = 12) : ∃ a0 a1 a2 a3 a4 a5 a6 a7 a8 a9 a10 a11, l = [a0, a1, a2, a3, a4, a5, a6, a7, a8, a9, a10, a11] := by
  match l, h with
  | [a0, a1, a2, a3, a4, a5, a6, a7, a8, a9, a10, a11], _ => exact ⟨a0, a1, a2, a3, a4, a5, a6, a7, a8, a9, a10, a11, rfl⟩
theorem stmts_walk (p : List Fn) (F : Nat) (l : List S) (hs : ∀ s ∈ l, StmtC p F s) : StmtsC p F l := by
  intro m0 r m' hm0 hr0
  refine CT.of_body Try.func18 rfl Try.ntmps18 rfl fun s0 Oo => ?_
  refine TC.short (x := .tmp 1) rfl fun hmax => ?_
  rw [S.encs_len] at hmax
  repeat refine TC.seq ?_
  refine TC.region ?_
  refine t_assign rfl rfl ?_
  refine TL.nil ?_
  repeat refine TC.seq ?_
  refine TC.region ?_
  refine t_assign rfl rfl ?_
  refine TL.nil ?_
  repeat refine TC.seq ?_
  refine TC.region ?_
  refine t_move rfl rfl ?_
  refine t_lenS rfl rfl rfl ?_
  refine t_move rfl rfl ?_
  refine TL.nil ?_
  repeat refine TC.seq ?_
  refine TC.block ?_
  refine TC.loop' (fun k s => ∃ (i : Nat) (t : Int) (m : Memo) (bx : List (Nat × List M)), i ≤ l.length ∧ k = l.length - i ∧ (0 ≤ t ∧ t ≤ 1073741824) ∧ MemoOk m ∧ stmtsS (fnS p F) (l.drop i) t m = some (r, m') ∧
    s = ⟨[(11, .m (.d (.int .i64 i))), (10, .m (.d (.int .i64 (S.encs l).length))), (9, .m (.d (.sl (S.encs l)))), (5, .m (.d (.int .i64 t))), (0, .m (.ref 1 0))], bx, memH p m⟩) l.length _
    ⟨0, 0, m0, [], by omega, rfl, by omega, hm0, hr0, rfl⟩
    (fun a w hi => hi.weak (keeps_get ⟨rfl, rfl, rfl, rfl, rfl, trivial⟩) (fun _ => rfl)) ?_
  rintro k s ⟨i, t, m, bx, hi, rfl, ht, hm, hr, rfl⟩
  repeat refine TC.seq ?_
  refine TC.region ?_
  refine t_int rfl rfl rfl rfl ?_
  refine TL.nil ?_
  repeat refine TC.seq ?_
  refine TC.cond rfl (fun hc => ?_) (fun hc => ?_)
  · have hc' : i < l.length := by simpa [S.encs_len] using hc
    clear hc
    refine TC.skip ?_
    repeat refine TC.seq ?_
    refine TC.block ?_
    have hget : l[i]? = some l[i] := by simp [hc']
    rw [List.drop_eq_getElem_cons hc', stmtsS] at hr
    have hcon := hs l[i] (List.getElem_mem hc') m
    have hlen := S.enc_len l[i]
    generalize l[i] = s at hget hr hcon hlen
    generalize hn : stmtS (fnS p F) s m = z at hr
    cases z with
    | none => cases hr
    | some z =>
      obtain ⟨n, m1⟩ := z
      simp only at hr
      have hok := stmtS_ok (fnS_ok p F) s m n m1 hm hn
      have hcon := hcon n m1 hm hn
      have hrow := S.encs_get l i s hget
      generalize s.enc = se at hrow hcon hlen
      obtain ⟨a0, a1, a2, a3, a4, a5, a6, a7, a8, a9, a10, a11, rfl⟩ := len12 se hlen
      repeat refine TC.seq ?_
      refine TC.region ?_
      refine t_indexD rfl rfl rfl (Int.natCast_nonneg i) (r := [a0, a1, a2, a3, a4, a5, a6, a7, a8, a9, a10, a11]) hrow rfl ?_
      first | refine t_loadDw rfl rfl rfl ?_ | refine t_loadDa rfl rfl rfl ?_ | refine t_loadLa rfl rfl rfl rfl rfl ?_ | refine t_loadRa rfl rfl rfl rfl rfl ?_
      refine t_alloc rfl rfl ?_
      refine t_storeL rfl rfl rfl rfl rfl rfl ?_
      refine TL.nil ?_
      repeat refine TC.seq ?_
      refine TC.region ?_
      refine t_move rfl rfl ?_
      first | refine t_loadDw rfl rfl rfl ?_ | refine t_loadDa rfl rfl rfl ?_ | refine t_loadLa rfl rfl rfl rfl rfl ?_ | refine t_loadRa rfl rfl rfl rfl rfl ?_
      (refine t_callR hcon rfl rfl ?_; rintro _ _ ⟨rfl, rfl⟩)
      refine t_assign rfl rfl ?_
      refine TL.nil ?_
      cases hneg : decide (n < 0) with
      | true =>
        have hn0 : n < 0 := of_decide_eq_true hneg
        rw [if_pos (.inl hn0)] at hr
        simp at hr
        obtain ⟨rfl, rfl⟩ := hr
        repeat refine TC.seq ?_
        refine TC.region ?_
        refine t_move rfl rfl ?_
        (refine t_int rfl rfl rfl rfl ?_; rw [hneg])
        refine t_move rfl rfl ?_
        first | refine t_guard_no rfl rfl ?_ | (refine t_guard_yes rfl ?_; (refine t_move rfl rfl ?_))
        first | refine t_guard_no rfl rfl ?_ | (refine t_guard_yes rfl ?_; (refine t_move rfl rfl ?_))
        first | refine t_guard_no rfl rfl ?_ | (refine t_guard_yes rfl ?_; (refine t_add64 rfl rfl rfl (by omega) ?_))
        first | refine t_guard_no rfl rfl ?_ | (refine t_guard_yes rfl ?_; (refine t_int rfl rfl rfl rfl ?_))
        refine t_pick rfl rfl rfl ?_
        refine TL.nil ?_
        refine TC.cond rfl (fun hc => ?_) (fun hc => by cases hc)
        repeat refine TC.seq ?_
        refine TC.region ?_
        refine t_assign rfl rfl ?_
        refine TL.nil ?_
        exact TC.ret ⟨_, rfl, rfl, rfl⟩
      | false =>
        have hn0 : ¬ n < 0 := of_decide_eq_false hneg
        repeat refine TC.seq ?_
        refine TC.region ?_
        refine t_move rfl rfl ?_
        (refine t_int rfl rfl rfl rfl ?_; rw [hneg])
        refine t_move rfl rfl ?_
        first | refine t_guard_no rfl rfl ?_ | (refine t_guard_yes rfl ?_; (refine t_move rfl rfl ?_))
        first | refine t_guard_no rfl rfl ?_ | (refine t_guard_yes rfl ?_; (refine t_move rfl rfl ?_))
        first | refine t_guard_no rfl rfl ?_ | (refine t_guard_yes rfl ?_; (refine t_add64 rfl rfl rfl (by omega) ?_))
        first | refine t_guard_no rfl rfl ?_ | (refine t_guard_yes rfl ?_; (refine t_int rfl rfl rfl rfl ?_))
        refine t_pick rfl rfl rfl ?_
        refine TL.nil ?_
        refine TC.cond rfl (fun hc => ?_) (fun hc => ?_)
        · have hc2 := of_decide_eq_true hc
          rw [if_pos (.inr hc2)] at hr
          simp at hr
          obtain ⟨rfl, rfl⟩ := hr
          repeat refine TC.seq ?_
          refine TC.region ?_
          refine t_assign rfl rfl ?_
          refine TL.nil ?_
          exact TC.ret ⟨_, rfl, rfl, rfl⟩
        · have hc2 := of_decide_eq_false hc
          refine TC.skip ?_
          rw [if_neg (by omega)] at hr
          repeat refine TC.seq ?_
          refine TC.region ?_
          refine t_move rfl rfl ?_
          refine t_move rfl rfl ?_
          refine t_add64 rfl rfl rfl (by omega) ?_
          refine t_assign rfl rfl ?_
          refine TL.nil ?_
          repeat refine TC.seq ?_
          refine TC.region ?_
          refine t_add64 rfl rfl rfl (by omega) ?_
          refine t_move rfl rfl ?_
          refine TL.nil ?_
          exact again (k' := l.length - (i + 1)) (by omega) ⟨i + 1, t + n, m1, _, by omega, rfl, by omega, hok.2, hr, rfl⟩ rfl ⟨by simp; rfl, rfl, rfl, rfl, rfl, trivial⟩
  · refine TC.exit ?_
    have hc' : i = l.length := by simp [S.encs_len] at hc; omega
    subst hc'
    rw [List.drop_length, stmtsS] at hr
    simp at hr
    obtain ⟨rfl, rfl⟩ := hr
    repeat refine TC.seq ?_
    refine TC.region ?_
    refine t_move rfl rfl ?_
    refine t_assign rfl rfl ?_
    refine TL.nil ?_
    exact TC.ret ⟨_, rfl, rfl, rfl⟩

theorem stmt_walk (p : List Fn) (F : Nat) (s : S) (hF : FnC p F) (hs : ∀ l, S.szs l < s.sz → StmtsC p F l) : StmtC p F s := by
  intro m r m' hm hr
  cases s with
  | set nm =>
    simp [stmtS] at hr
    obtain ⟨rfl, rfl⟩ := hr
    rw [S.enc]
    refine CT.of_body Try.func22 rfl Try.ntmps22 rfl fun s0 Oo => ?_
    repeat refine TC.seq ?_
    refine TC.region ?_
    refine t_box rfl rfl ?_
    refine t_assign rfl rfl ?_
    refine TL.nil ?_
    repeat refine TC.seq ?_
    refine TC.region ?_
    first | refine t_fieldD rfl rfl ?_ | refine t_fieldL rfl rfl ?_ | refine t_fieldR rfl rfl ?_
    first | refine t_loadDc rfl rfl rfl ?_ | refine t_loadLc rfl rfl rfl rfl ?_ | refine t_loadRc rfl rfl rfl rfl ?_
    refine TL.nil ?_
    repeat refine TC.seq ?_
    refine TC.block ?_
    repeat refine TC.seq ?_
    refine TC.region ?_
    refine t_int rfl rfl rfl rfl ?_
    refine t_assign rfl rfl ?_
    refine TL.nil ?_
    repeat refine TC.seq ?_
    refine TC.cond rfl (fun hc => ?_) (fun hc => by cases hc)
    refine TC.skip ?_
    refine TC.cond rfl (fun hc => ?_) (fun hc => by cases hc)
    repeat refine TC.seq ?_
    refine TC.region ?_
    first | refine t_fieldD rfl rfl ?_ | refine t_fieldL rfl rfl ?_ | refine t_fieldR rfl rfl ?_
    first | refine t_loadDw rfl rfl rfl ?_ | refine t_loadDa rfl rfl rfl ?_ | refine t_loadLa rfl rfl rfl rfl rfl ?_ | refine t_loadRa rfl rfl rfl rfl rfl ?_
    refine t_call1 (expr_ok 1) rfl rfl ?_
    refine t_add64 rfl rfl rfl (by omega) ?_
    refine t_assign rfl rfl ?_
    refine TL.nil ?_
    exact TC.ret ⟨_, rfl, rfl, rfl⟩
  | call nm =>
    rw [stmtS] at hr
    generalize hz : fnS p F nm m = z at hr
    cases z with
    | none => cases hr
    | some z =>
      obtain ⟨r0, m1⟩ := z
      simp at hr
      obtain ⟨rfl, rfl⟩ := hr
      have hcon := hF nm m r0 m1 hm hz
      have hok := fnS_ok p F nm m r0 m1 hm hz
      rw [S.enc]
      refine CT.of_body Try.func22 rfl Try.ntmps22 rfl fun s0 Oo => ?_
      repeat refine TC.seq ?_
      refine TC.region ?_
      refine t_box rfl rfl ?_
      refine t_assign rfl rfl ?_
      refine TL.nil ?_
      repeat refine TC.seq ?_
      refine TC.region ?_
      first | refine t_fieldD rfl rfl ?_ | refine t_fieldL rfl rfl ?_ | refine t_fieldR rfl rfl ?_
      first | refine t_loadDc rfl rfl rfl ?_ | refine t_loadLc rfl rfl rfl rfl ?_ | refine t_loadRc rfl rfl rfl rfl ?_
      refine TL.nil ?_
      repeat refine TC.seq ?_
      refine TC.block ?_
      repeat refine TC.seq ?_
      refine TC.region ?_
      refine t_int rfl rfl rfl rfl ?_
      refine t_assign rfl rfl ?_
      refine TL.nil ?_
      repeat refine TC.seq ?_
      refine TC.cond rfl (fun hc => by cases hc) (fun hc => ?_)
      repeat refine TC.seq ?_
      refine TC.region ?_
      refine t_int rfl rfl rfl rfl ?_
      refine t_assign rfl rfl ?_
      refine TL.nil ?_
      refine TC.cond rfl (fun hc => by cases hc) (fun hc => ?_)
      repeat refine TC.seq ?_
      refine TC.region ?_
      refine t_int rfl rfl rfl rfl ?_
      refine t_assign rfl rfl ?_
      refine TL.nil ?_
      repeat refine TC.seq ?_
      refine TC.cond rfl (fun hc => by cases hc) (fun hc => ?_)
      repeat refine TC.seq ?_
      refine TC.region ?_
      refine t_int rfl rfl rfl rfl ?_
      refine t_assign rfl rfl ?_
      refine TL.nil ?_
      repeat refine TC.seq ?_
      refine TC.cond rfl (fun hc => ?_) (fun hc => by cases hc)
      repeat refine TC.seq ?_
      refine TC.region ?_
      refine t_move rfl rfl ?_
      first | refine t_fieldD rfl rfl ?_ | refine t_fieldL rfl rfl ?_ | refine t_fieldR rfl rfl ?_
      first | refine t_loadDc rfl rfl rfl ?_ | refine t_loadLc rfl rfl rfl rfl ?_ | refine t_loadRc rfl rfl rfl rfl ?_
      (refine t_callR hcon rfl rfl ?_; rintro _ _ ⟨rfl, rfl⟩)
      refine t_assign rfl rfl ?_
      refine TL.nil ?_
      repeat refine TC.seq ?_
      refine TC.region ?_
      refine t_move rfl rfl ?_
      refine t_int rfl rfl rfl rfl ?_
      refine TL.nil ?_
      refine TC.cond rfl (fun hc => ?_) (fun hc => ?_)
      · repeat refine TC.seq ?_
        refine TC.region ?_
        refine t_assign rfl rfl ?_
        refine TL.nil ?_
        exact TC.ret ⟨_, rfl, by rw [if_pos (of_decide_eq_true hc)]; rfl, rfl⟩
      · refine TC.skip ?_
        repeat refine TC.seq ?_
        refine TC.region ?_
        refine t_move rfl rfl ?_
        refine t_add64 rfl rfl rfl (by omega) ?_
        refine t_assign rfl rfl ?_
        refine TL.nil ?_
        repeat refine TC.seq ?_
        refine TC.region ?_
        first | refine t_fieldD rfl rfl ?_ | refine t_fieldL rfl rfl ?_ | refine t_fieldR rfl rfl ?_
        first | refine t_loadDc rfl rfl rfl ?_ | refine t_loadLc rfl rfl rfl rfl ?_ | refine t_loadRc rfl rfl rfl rfl ?_
        refine t_lenS rfl rfl rfl ?_
        refine t_move rfl rfl ?_
        refine TL.nil ?_
        repeat refine TC.seq ?_
        refine TC.block ?_
        refine TC.loop' (fun k s => k = 0 ∧ s = ⟨[(56, .m (.d (.int .i64 0))), (55, .m (.d (.int .i64 0))), (7, .m (.d (.int .i64 (r0 + 1))))], [], memH p m1⟩) 0 _ ⟨rfl, rfl⟩
          (fun a w hi => hi.weak (keeps_get ⟨rfl, rfl, rfl, trivial⟩) (fun _ => rfl)) ?_
        rintro k s ⟨rfl, rfl⟩
        repeat refine TC.seq ?_
        refine TC.region ?_
        refine t_int rfl rfl rfl rfl ?_
        refine TL.nil ?_
        repeat refine TC.seq ?_
        refine TC.cond rfl (fun hc => by cases hc) (fun _ => ?_)
        refine TC.exit ?_
        repeat refine TC.seq ?_
        refine TC.region ?_
        refine t_move rfl rfl ?_
        refine t_assign rfl rfl ?_
        refine TL.nil ?_
        exact TC.ret ⟨_, rfl, by rw [if_neg (of_decide_eq_false hc)]; rfl, rfl⟩
  | ite a b =>
    rw [stmtS] at hr
    generalize hz : stmtsS (fnS p F) a 0 m = z at hr
    cases z with
    | none => cases hr
    | some z =>
      obtain ⟨x, m1⟩ := z
      simp only at hr
      generalize hy : stmtsS (fnS p F) b 0 m1 = y at hr
      cases y with
      | none => cases hr
      | some y =>
        obtain ⟨y, m2⟩ := y
        simp only [Option.some.injEq, Prod.mk.injEq] at hr
        obtain ⟨hr1, rfl⟩ := hr
        have hok := stmtsS_ok (fnS_ok p F) a 0 m x m1 (by omega) hm hz
        have hok2 := stmtsS_ok (fnS_ok p F) b 0 m1 y m2 (by omega) hok.2 hy
        have c1 := hs a (by simp [S.sz]; omega) m x m1 hm hz
        have c2 := hs b (by simp [S.sz]; omega) m1 y m2 hok.2 hy
        rw [S.enc]
        refine CT.of_body Try.func22 rfl Try.ntmps22 rfl fun s0 Oo => ?_
        repeat refine TC.seq ?_
        refine TC.region ?_
        refine t_box rfl rfl ?_
        refine t_assign rfl rfl ?_
        refine TL.nil ?_
        repeat refine TC.seq ?_
        refine TC.region ?_
        first | refine t_fieldD rfl rfl ?_ | refine t_fieldL rfl rfl ?_ | refine t_fieldR rfl rfl ?_
        first | refine t_loadDc rfl rfl rfl ?_ | refine t_loadLc rfl rfl rfl rfl ?_ | refine t_loadRc rfl rfl rfl rfl ?_
        refine TL.nil ?_
        repeat refine TC.seq ?_
        refine TC.block ?_
        repeat refine TC.seq ?_
        refine TC.region ?_
        refine t_int rfl rfl rfl rfl ?_
        refine t_assign rfl rfl ?_
        refine TL.nil ?_
        repeat refine TC.seq ?_
        refine TC.cond rfl (fun hc => by cases hc) (fun hc => ?_)
        repeat refine TC.seq ?_
        refine TC.region ?_
        refine t_int rfl rfl rfl rfl ?_
        refine t_assign rfl rfl ?_
        refine TL.nil ?_
        refine TC.cond rfl (fun hc => by cases hc) (fun hc => ?_)
        repeat refine TC.seq ?_
        refine TC.region ?_
        refine t_int rfl rfl rfl rfl ?_
        refine t_assign rfl rfl ?_
        refine TL.nil ?_
        repeat refine TC.seq ?_
        refine TC.cond rfl (fun hc => ?_) (fun hc => by cases hc)
        repeat refine TC.seq ?_
        refine TC.draw mixed ?_
        refine f_move rfl rfl ?_
        first | refine f_fieldD rfl rfl ?_ | refine f_fieldL rfl rfl ?_ | refine f_fieldR rfl rfl ?_
        first | refine f_loadDc rfl rfl rfl ?_ | refine f_loadLc rfl rfl rfl rfl ?_ | refine f_loadRc rfl rfl rfl rfl ?_
        refine f_callR c1 rfl rfl ?_
        refine f_move rfl rfl ?_
        first | refine f_fieldD rfl rfl ?_ | refine f_fieldL rfl rfl ?_ | refine f_fieldR rfl rfl ?_
        first | refine f_loadDc rfl rfl rfl ?_ | refine f_loadLc rfl rfl rfl rfl ?_ | refine f_loadRc rfl rfl rfl rfl ?_
        refine f_callR c2 rfl rfl ?_
        refine f_assign rfl rfl ?_
        refine f_assign rfl rfl ?_
        refine TF.nil ⟨by kernel_rfl, ?_⟩
        cases hneg : decide (x < 0) with
        | true =>
          rw [if_pos (.inl (of_decide_eq_true hneg))] at hr1
          subst hr1
          repeat refine TC.seq ?_
          refine TC.region ?_
          refine t_move rfl rfl ?_
          (refine t_int rfl rfl rfl rfl ?_; rw [hneg])
          refine t_move rfl rfl ?_
          first | refine t_guard_no rfl rfl ?_ | (refine t_guard_yes rfl ?_; (refine t_move rfl rfl ?_))
          first | refine t_guard_no rfl rfl ?_ | (refine t_guard_yes rfl ?_; (refine t_int rfl rfl rfl rfl ?_))
          refine t_pick rfl rfl rfl ?_
          refine TL.nil ?_
          refine TC.cond rfl (fun hc => ?_) (fun hc => by cases hc)
          repeat refine TC.seq ?_
          refine TC.region ?_
          refine t_assign rfl rfl ?_
          refine TL.nil ?_
          exact TC.ret ⟨_, rfl, rfl, rfl⟩
        | false =>
          have hx0 := of_decide_eq_false hneg
          repeat refine TC.seq ?_
          refine TC.region ?_
          refine t_move rfl rfl ?_
          (refine t_int rfl rfl rfl rfl ?_; rw [hneg])
          refine t_move rfl rfl ?_
          first | refine t_guard_no rfl rfl ?_ | (refine t_guard_yes rfl ?_; (refine t_move rfl rfl ?_))
          first | refine t_guard_no rfl rfl ?_ | (refine t_guard_yes rfl ?_; (refine t_int rfl rfl rfl rfl ?_))
          refine t_pick rfl rfl rfl ?_
          refine TL.nil ?_
          refine TC.cond rfl (fun hc => ?_) (fun hc => ?_)
          · rw [if_pos (.inr (of_decide_eq_true hc))] at hr1
            subst hr1
            repeat refine TC.seq ?_
            refine TC.region ?_
            refine t_assign rfl rfl ?_
            refine TL.nil ?_
            exact TC.ret ⟨_, rfl, rfl, rfl⟩
          · have hy0 := of_decide_eq_false hc
            rw [if_neg (by omega)] at hr1
            have hmx : (if y > x then y else x) = max x y := by split <;> omega
            refine TC.skip ?_
            repeat refine TC.seq ?_
            refine TC.region ?_
            first | refine t_fieldD rfl rfl ?_ | refine t_fieldL rfl rfl ?_ | refine t_fieldR rfl rfl ?_
            first | refine t_loadDw rfl rfl rfl ?_ | refine t_loadDa rfl rfl rfl ?_ | refine t_loadLa rfl rfl rfl rfl rfl ?_ | refine t_loadRa rfl rfl rfl rfl rfl ?_
            refine t_call1 (expr_ok 1) rfl rfl ?_
            refine t_add64 rfl rfl rfl (by omega) ?_
            refine t_move rfl rfl ?_
            refine t_move rfl rfl ?_
            (refine t_max rfl rfl rfl ?_; rw [hmx])
            refine t_add64 rfl rfl rfl (by omega) ?_
            refine t_assign rfl rfl ?_
            refine TL.nil ?_
            exact TC.ret ⟨_, rfl, by rw [← hr1]; rfl, rfl⟩

theorem stmts_all (p : List Fn) (F : Nat) (hF : FnC p F) (n : Nat) : ∀ l, S.szs l < n → StmtsC p F l := by
  induction n with
  | zero => intro l h; omega
  | succ n ih =>
    intro l h
    refine stmts_walk p F l fun s hs => stmt_walk p F s hF fun l' hl' => ih l' ?_
    have := S.sz_le hs
    omega
end Go.Proofs
