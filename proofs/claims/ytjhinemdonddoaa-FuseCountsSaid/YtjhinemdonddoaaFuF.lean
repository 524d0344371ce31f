import Derived.Test.YtjhinemdonddoaaFuE
import Derived.Test.YtjhinemdonddoaaMtXe
namespace Go.Proofs
open Go.Mt
set_option maxRecDepth 4000
set_option linter.unusedSimpArgs false
set_option linter.unusedVariables false

/-- two that are one -/
def join : S → S → S
  | .ite l c a b, .ite _ _ a' b' => .ite l c (a ++ a') (b ++ b')
  | x, _ => x
def mrg (out : List S) (s : S) : List S := match out.getLast? with
  | some x => bif mayS x s then out.dropLast ++ [join x s] else out ++ [s]
  | none => [s]
def pass1 (l : List S) : List S := l.foldl mrg []
def sub (f : List S → List S) : S → S
  | .ite l c a b => .ite l c (f a) (f b)
  | s => s
def fuseN : Nat → List S → List S
  | 0, l => l
  | n + 1, l => (pass1 l).map (sub (fuseN n))
theorem mrg_nil (s : S) : mrg [] s = [s] := rfl
theorem mrg_yes (P : List S) (x s : S) (h : mayS x s = true) : mrg (P ++ [x]) s = P ++ [join x s] := by simp [mrg, h]
theorem mrg_no (P : List S) (x s : S) (h : mayS x s = false) : mrg (P ++ [x]) s = P ++ [x] ++ [s] := by simp [mrg, h]
theorem pass1_snoc (l : List S) (i : Nat) (h : i < l.length) : pass1 (l.take (i + 1)) = mrg (pass1 (l.take i)) l[i] := by
  rw [List.take_succ_eq_append_getElem h, pass1, pass1, List.foldl_append]; rfl
theorem join_sz (x s : S) : (join x s).sz ≤ x.sz + s.sz := by
  cases x <;> cases s <;> simp [join, S.sz, szs_append] <;> omega
theorem mrg_sz (out : List S) (s : S) : S.szs (mrg out s) ≤ S.szs out + s.sz := by
  rcases List.eq_nil_or_concat out with rfl | ⟨P, x, rfl⟩
  · simp [mrg_nil, S.szs]
  · rw [List.concat_eq_append]
    cases h : mayS x s with
    | true =>
      rw [mrg_yes P x s h]
      have := join_sz x s
      simp only [szs_append, S.szs]; omega
    | false => rw [mrg_no P x s h]; simp only [szs_append, S.szs]; omega
theorem fold_sz (l : List S) : ∀ out, S.szs (l.foldl mrg out) ≤ S.szs out + S.szs l := by
  induction l with
  | nil => intro out; simp [S.szs]
  | cons s r ih =>
    intro out
    have h1 := ih (mrg out s)
    have h2 := mrg_sz out s
    simp only [List.foldl_cons, S.szs]; omega
theorem pass1_sz (l : List S) : S.szs (pass1 l) ≤ S.szs l := by have := fold_sz l []; simp only [S.szs, Nat.zero_add] at this; exact this
theorem pass1_take_sz (l : List S) (i : Nat) : S.szs (pass1 (l.take i)) ≤ S.szs l := by
  have h1 := pass1_sz (l.take i)
  have h2 : S.szs l = S.szs (l.take i) + S.szs (l.drop i) := by rw [← szs_append, List.take_append_drop]
  omega

/-- the list under way, in the heap -/
def outM (out : List S) : M := match out with
  | [] => .d (.sl [])
  | _ :: r => .rsl 0 r.length (r.length + 1)
def outH (out : List S) : Hp := match out with
  | [] => []
  | x :: r => [.row false 14 r.length (flatM (S.encs (x :: r)))]
theorem outM_snoc (P : List S) (x : S) : outM (P ++ [x]) = .rsl 0 P.length (P.length + 1) := by cases P <;> simp [outM]
theorem outH_snoc (P : List S) (x : S) : outH (P ++ [x]) = [.row false 14 P.length (flatM (S.encs P ++ [x.enc]))] := by
  have : S.encs (P ++ [x]) = S.encs P ++ [x.enc] := by rw [S.encs_append]; simp [S.encs]
  cases P with
  | nil => simp [outH, S.encs]
  | cons q r => simp only [List.cons_append] at this ⊢; simp [outH, ← this]
theorem outH_HB (out : List S) : HB 1 (outH out) := by
  cases out with
  | nil => intro ob h; cases h
  | cons x r =>
    intro ob h
    simp only [outH, List.mem_singleton] at h
    subst h
    intro m hm
    rw [flatM_eq] at hm
    obtain ⟨d, _, rfl⟩ := List.mem_map.1 hm
    exact .d d
theorem outM_MB (out : List S) : MB 1 (outM out) := by
  cases out with
  | nil => exact .d _
  | cons x r => exact .rsl _ _ _ (by omega)
theorem take1 (out : List S) : (outH out).take 1 = outH out := by cases out <;> rfl
theorem encP_len (P : List S) (x : List D) (hx : x.length = 14) : ∀ r ∈ S.encs P ++ [x], r.length = 14 := by
  intro r hr
  rcases List.mem_append.1 hr with h | h
  · exact S.encs_lens P r h
  · simp at h; subst h; exact hx
theorem encP_get (P : List S) (x : List D) : (S.encs P ++ [x])[P.length]? = some x := by
  rw [List.getElem?_append_right (by rw [S.encs_len]; omega)]; simp [S.encs_len]
theorem encP_set (P : List S) (x y : List D) : (S.encs P ++ [x]).set P.length y = S.encs P ++ [y] := by
  rw [List.set_append_right _ _ (by rw [S.encs_len]; omega)]; simp [S.encs_len]
theorem dd (n : Nat) : ((n + 1 : Nat) : Int) - 1 = (n : Int) := by omega
theorem subA_ok {P : List S} {x : List D} (hx : x.length = 14) : ((flatM (S.encs P ++ [x])).drop ((P.length : Int).toNat * 14)).take 14 = x.map .d := flat_sub (encP_len P x hx) (encP_get P x)
theorem subL_ok {P : List S} {x : List D} (hx : x.length = 14) : (P.length : Int).toNat * 14 + 14 ≤ (flatM (S.encs P ++ [x])).length := flat_le (encP_len P x hx) (encP_get P x)
theorem rd_ok {P : List S} {x : List D} (hx : x.length = 14) {off : Nat} {v : D} (hv : x[off]? = some v) : (flatM (S.encs P ++ [x]))[(P.length : Int).toNat * 14 + off]? = some (.d v) := flat_read (encP_len P x hx) (encP_get P x) hv
theorem wr_ok {P : List S} {x : List D} (hx : x.length = 14) {off : Nat} {v : D} (ho : off < 14) : writeAt (flatM (S.encs P ++ [x])) ((P.length : Int).toNat * 14 + off) [.d v] = some (flatM (S.encs P ++ [x.set off v])) := by
  have := flat_write v (encP_len P x hx) (encP_get P x) ho
  rw [encP_set] at this
  exact this

/-- the second pass, under way -/
def WN (g : S → S) (O : List S) (i : Nat) : List S := (O.take i).map g ++ O.drop i
theorem WN_len (g : S → S) (O : List S) (i : Nat) (h : i ≤ O.length) : (WN g O i).length = O.length := by simp [WN]; omega
theorem WN_get (g : S → S) (O : List S) (i : Nat) (h : i < O.length) : (WN g O i)[i]? = some O[i] := by
  rw [WN, List.getElem?_append_right (by simp; omega)]; simp [Nat.min_eq_left (Nat.le_of_lt h), h]
theorem WN_succ (g : S → S) (O : List S) (i : Nat) (h : i < O.length) : WN g O (i + 1) = (WN g O i).set i (g O[i]) := by
  rw [WN, WN, List.take_succ_eq_append_getElem h, List.map_append, List.drop_eq_getElem_cons h, List.set_append_right _ _ (by simp; omega)]
  simp only [List.length_map, List.length_take, Nat.min_eq_left (Nat.le_of_lt h), Nat.sub_self, List.set_cons_zero, List.map_cons, List.map_nil, List.append_assoc, List.singleton_append]
theorem WN_end (g : S → S) (O : List S) : WN g O O.length = O.map g := by simp [WN]
theorem encs_set (W : List S) (i : Nat) (y : S) : S.encs (W.set i y) = (S.encs W).set i y.enc := by simp [S.encs_map, List.map_set]
theorem encs_get2 {W : List S} {i : Nat} {x : S} (h : W[i]? = some x) : (S.encs W)[i]? = some x.enc := by rw [S.encs_map]; simp [h]
theorem rd2_ok {rows : List (List D)} (hl : ∀ r ∈ rows, r.length = 14) {i : Nat} {x : List D} (hx : rows[i]? = some x) {off : Nat} {v : D} (hv : x[off]? = some v) : (flatM rows)[(i : Int).toNat * 14 + off]? = some (.d v) := flat_read hl hx hv
theorem wr2_ok {rows : List (List D)} (hl : ∀ r ∈ rows, r.length = 14) {i : Nat} {x : List D} (hx : rows[i]? = some x) {off : Nat} {v : D} (ho : off < 14) : writeAt (flatM rows) ((i : Int).toNat * 14 + off) [.d v] = some (flatM (rows.set i (x.set off v))) := flat_write v hl hx ho
theorem set_lens {rows : List (List D)} (hl : ∀ r ∈ rows, r.length = 14) {i : Nat} {y : List D} (hy : y.length = 14) : ∀ r ∈ rows.set i y, r.length = 14 := by
  intro r hr
  rcases List.mem_or_eq_of_mem_set hr with h | h
  · exact hl r h
  · rw [h]; exact hy
theorem set_get2 {rows : List (List D)} {i : Nat} {x y : List D} (h : rows[i]? = some x) : (rows.set i y)[i]? = some y := by
  have : i < rows.length := by rcases Nat.lt_or_ge i rows.length with h1 | h1; exact h1; simp [List.getElem?_eq_none h1] at h
  simp [this]
theorem outH_ne {W : List S} (h : W ≠ []) : outH W = [.row false 14 (W.length - 1) (flatM (S.encs W))] := by cases W; exact absurd rfl h; simp [outH]
theorem outM_ne {W : List S} (h : W ≠ []) : outM W = .rsl 0 (W.length - 1) W.length := by cases W; exact absurd rfl h; simp [outM]
theorem rows_HB (n : Nat) (a : Bool) (e v : Nat) (rows : List (List D)) : HB n [.row a e v (flatM rows)] := by
  intro ob h
  simp only [List.mem_singleton] at h
  subst h
  intro m hm
  rw [flatM_eq] at hm
  obtain ⟨d, _, rfl⟩ := List.mem_map.1 hm
  exact .d d

theorem stmts_ok (n : Nat) : ∀ (l : List S), S.szs l < n → S.szs l ≤ 100000 → PT Try.prog 13 [.sl (S.encs l)] (· = [.sl (S.encs (fuseN n l))]) := by
  induction n with
  | zero => intro l h; omega
  | succ n ih =>
    intro l hn hB
    refine PT.of_CT (CT.of_body Try.func13 rfl Try.ntmps13 rfl fun s0 Oo => ?_)
    refine TC.base fun hb => ?_
    replace hb : s0.H.length ≤ 1 := Nat.le_trans hb (by simp)
    have hlen := S.len_le l
    repeat refine TC.seq ?_
    refine TC.region ?_
    refine t_assign rfl rfl ?_
    refine TL.nil ?_
    repeat refine TC.seq ?_
    refine TC.region ?_
    refine t_assign rfl rfl ?_
    refine TL.nil ?_
    repeat refine TC.seq ?_
    refine TC.region ?_
    refine t_move rfl rfl ?_
    (refine t_lenS rfl rfl rfl ?_; rw [S.encs_len])
    refine t_move rfl rfl ?_
    refine TL.nil ?_
    repeat refine TC.seq ?_
    refine TC.block ?_
    refine TC.loopB (fun k s => ∃ (i : Nat), s = ⟨[(10, .m (.d (.int .i64 i))), (9, .m (.d (.int .i64 (l.length : Nat)))), (8, .m (.d (.sl (S.encs l)))), (3, .m (outM (pass1 (l.take i))))], [], outH (pass1 (l.take i))⟩ ∧ i ≤ l.length ∧ k = l.length - i) l.length _
      ⟨0, rfl, by omega, rfl⟩ ⟨rfl, rfl, rfl, rfl, trivial⟩ ?_
    rintro k s ⟨i, rfl, hi, rfl⟩
    repeat refine TC.seq ?_
    refine TC.region ?_
    refine t_int rfl rfl rfl rfl ?_
    refine TL.nil ?_
    repeat refine TC.seq ?_
    refine TC.cond rfl (fun hc => ?_) (fun hc => ?_)
    · have hc' : i < l.length := by have := of_decide_eq_true hc; omega
      clear hc
      have hsz := S.sz_le (List.getElem_mem hc')
      have hget : l[i]? = some l[i] := by simp [hc']
      have hnext := pass1_snoc l i hc'
      have hpz := pass1_take_sz l i
      have hsum : S.szs (pass1 (l.take i)) + l[i].sz ≤ S.szs l := by
        have h1 := pass1_sz (l.take i)
        have h2 := room hc'
        omega
      refine TC.skip ?_
      repeat refine TC.seq ?_
      refine TC.block ?_
      generalize pass1 (l.take i) = out at hnext hpz hsum ⊢
      generalize l[i] = s at hsz hget hnext hsum
      rcases List.eq_nil_or_concat out with rfl | ⟨P, x, rfl⟩
      · rw [mrg_nil] at hnext
        cases s with
        | asg nm v =>
          repeat refine TC.seq ?_
          refine TC.region ?_
          refine t_indexD rfl rfl rfl (Int.natCast_nonneg i) (r := letC nm v) (S.encs_get l i _ hget) rfl ?_
          first | refine t_loadDw rfl rfl rfl ?_ | refine t_loadDa rfl rfl rfl ?_ | refine t_loadLa rfl rfl rfl rfl rfl ?_ | refine t_loadRa rfl rfl rfl rfl rfl ?_
          refine t_alloc rfl rfl ?_
          refine t_storeL rfl rfl rfl rfl rfl rfl ?_
          refine TL.nil ?_
          repeat refine TC.seq ?_
          refine TC.region ?_
          refine t_move rfl rfl ?_
          refine t_lenS rfl rfl rfl ?_
          refine t_assign rfl rfl ?_
          refine TL.nil ?_
          repeat refine TC.seq ?_
          refine TC.draw mixed ?_
          refine f_move rfl rfl ?_
          refine f_int rfl rfl rfl rfl ?_
          refine f_move rfl rfl ?_
          first | refine f_guard_no rfl rfl rfl rfl ?_ | refine f_guard_un rfl rfl rfl ?_ | (refine f_guard_yes rfl rfl ?_; (refine f_move rfl rfl ?_))
          first | refine f_guard_no rfl rfl rfl rfl ?_ | refine f_guard_un rfl rfl rfl ?_ | (refine f_guard_yes rfl rfl ?_; (refine f_move rfl rfl ?_))
          first | refine f_guard_no rfl rfl rfl rfl ?_ | refine f_guard_un rfl rfl rfl ?_ | (refine f_guard_yes rfl rfl ?_; (refine f_sub64 rfl rfl rfl (by omega) ?_))
          first | refine f_guard_no rfl rfl rfl rfl ?_ | refine f_guard_un rfl rfl rfl ?_ | (refine f_guard_yes rfl rfl ?_; (fail))
          first | refine f_guard_no rfl rfl rfl rfl ?_ | refine f_guard_un rfl rfl rfl ?_ | (refine f_guard_yes rfl rfl ?_; (first | refine f_loadDw rfl rfl rfl ?_ | refine f_loadDa rfl rfl rfl ?_ | refine f_loadLa rfl rfl rfl rfl rfl ?_ | refine f_loadRa rfl rfl rfl rfl rfl ?_))
          first | refine f_guard_no rfl rfl rfl rfl ?_ | refine f_guard_un rfl rfl rfl ?_ | (refine f_guard_yes rfl rfl ?_; (first | refine f_loadDw rfl rfl rfl ?_ | refine f_loadDa rfl rfl rfl ?_ | refine f_loadLa rfl rfl rfl rfl rfl ?_ | refine f_loadRa rfl rfl rfl rfl rfl ?_))
          first | refine f_guard_no rfl rfl rfl rfl ?_ | refine f_guard_un rfl rfl rfl ?_ | (refine f_guard_yes rfl rfl ?_; (fail))
          refine f_pick rfl rfl rfl ?_
          refine TF.nil ⟨by kernel_rfl, ?_⟩
          repeat refine TC.seq ?_
          refine TC.cond rfl (fun hc => by cases hc) (fun hc => ?_)
          refine TC.skip ?_
          repeat refine TC.seq ?_
          refine TC.region ?_
          refine t_move rfl rfl ?_
          first | refine t_loadDw rfl rfl rfl ?_ | refine t_loadDa rfl rfl rfl ?_ | refine t_loadLa rfl rfl rfl rfl rfl ?_ | refine t_loadRa rfl rfl rfl rfl rfl ?_
          refine t_buildSlice rfl rfl rfl rfl rfl rfl rfl rfl ?_
          refine t_append0 false rfl rfl rfl rfl (by rfl) (by simp) (by exact one_len rfl) (by exact nat_le rfl) ?_
          refine t_assign rfl rfl ?_
          refine TL.nil ?_
          repeat refine TC.seq ?_
          refine TC.region ?_
          refine t_add64 rfl rfl rfl (by omega) ?_
          refine t_move rfl rfl ?_
          refine TL.nil ?_
          exact againT (k' := l.length - (i + 1)) 1 hb (by exact Nat.le_refl 1) (by omega) ⟨i + 1, rfl, by omega, rfl⟩ (by rw [hnext]; rfl) (by rw [hnext]; exact outH_HB _) ⟨⟨by simp; rfl, .d _⟩, ⟨rfl, .d _⟩, ⟨rfl, .d _⟩, ⟨by rw [hnext]; rfl, outM_MB _⟩, trivial⟩
        | ite w c a b =>
          repeat refine TC.seq ?_
          refine TC.region ?_
          refine t_indexD rfl rfl rfl (Int.natCast_nonneg i) (r := iteC w c (S.encs a) (S.encs b)) (S.encs_get l i _ hget) rfl ?_
          first | refine t_loadDw rfl rfl rfl ?_ | refine t_loadDa rfl rfl rfl ?_ | refine t_loadLa rfl rfl rfl rfl rfl ?_ | refine t_loadRa rfl rfl rfl rfl rfl ?_
          refine t_alloc rfl rfl ?_
          refine t_storeL rfl rfl rfl rfl rfl rfl ?_
          refine TL.nil ?_
          repeat refine TC.seq ?_
          refine TC.region ?_
          refine t_move rfl rfl ?_
          refine t_lenS rfl rfl rfl ?_
          refine t_assign rfl rfl ?_
          refine TL.nil ?_
          repeat refine TC.seq ?_
          refine TC.draw mixed ?_
          refine f_move rfl rfl ?_
          refine f_int rfl rfl rfl rfl ?_
          refine f_move rfl rfl ?_
          first | refine f_guard_no rfl rfl rfl rfl ?_ | refine f_guard_un rfl rfl rfl ?_ | (refine f_guard_yes rfl rfl ?_; (refine f_move rfl rfl ?_))
          first | refine f_guard_no rfl rfl rfl rfl ?_ | refine f_guard_un rfl rfl rfl ?_ | (refine f_guard_yes rfl rfl ?_; (refine f_move rfl rfl ?_))
          first | refine f_guard_no rfl rfl rfl rfl ?_ | refine f_guard_un rfl rfl rfl ?_ | (refine f_guard_yes rfl rfl ?_; (refine f_sub64 rfl rfl rfl (by omega) ?_))
          first | refine f_guard_no rfl rfl rfl rfl ?_ | refine f_guard_un rfl rfl rfl ?_ | (refine f_guard_yes rfl rfl ?_; (fail))
          first | refine f_guard_no rfl rfl rfl rfl ?_ | refine f_guard_un rfl rfl rfl ?_ | (refine f_guard_yes rfl rfl ?_; (first | refine f_loadDw rfl rfl rfl ?_ | refine f_loadDa rfl rfl rfl ?_ | refine f_loadLa rfl rfl rfl rfl rfl ?_ | refine f_loadRa rfl rfl rfl rfl rfl ?_))
          first | refine f_guard_no rfl rfl rfl rfl ?_ | refine f_guard_un rfl rfl rfl ?_ | (refine f_guard_yes rfl rfl ?_; (first | refine f_loadDw rfl rfl rfl ?_ | refine f_loadDa rfl rfl rfl ?_ | refine f_loadLa rfl rfl rfl rfl rfl ?_ | refine f_loadRa rfl rfl rfl rfl rfl ?_))
          first | refine f_guard_no rfl rfl rfl rfl ?_ | refine f_guard_un rfl rfl rfl ?_ | (refine f_guard_yes rfl rfl ?_; (fail))
          refine f_pick rfl rfl rfl ?_
          refine TF.nil ⟨by kernel_rfl, ?_⟩
          repeat refine TC.seq ?_
          refine TC.cond rfl (fun hc => by cases hc) (fun hc => ?_)
          refine TC.skip ?_
          repeat refine TC.seq ?_
          refine TC.region ?_
          refine t_move rfl rfl ?_
          first | refine t_loadDw rfl rfl rfl ?_ | refine t_loadDa rfl rfl rfl ?_ | refine t_loadLa rfl rfl rfl rfl rfl ?_ | refine t_loadRa rfl rfl rfl rfl rfl ?_
          refine t_buildSlice rfl rfl rfl rfl rfl rfl rfl rfl ?_
          refine t_append0 false rfl rfl rfl rfl (by rfl) (by simp) (by exact one_len rfl) (by exact nat_le rfl) ?_
          refine t_assign rfl rfl ?_
          refine TL.nil ?_
          repeat refine TC.seq ?_
          refine TC.region ?_
          refine t_add64 rfl rfl rfl (by omega) ?_
          refine t_move rfl rfl ?_
          refine TL.nil ?_
          exact againT (k' := l.length - (i + 1)) 1 hb (by exact Nat.le_refl 1) (by omega) ⟨i + 1, rfl, by omega, rfl⟩ (by rw [hnext]; rfl) (by rw [hnext]; exact outH_HB _) ⟨⟨by simp; rfl, .d _⟩, ⟨rfl, .d _⟩, ⟨rfl, .d _⟩, ⟨by rw [hnext]; rfl, outM_MB _⟩, trivial⟩
      · rw [List.concat_eq_append] at hnext hpz hsum ⊢
        have hx : x.sz ≤ 100000 := by simp only [szs_append, S.szs] at hpz; omega
        have hPl : P.length ≤ 100000 := by have := S.len_le P; simp only [szs_append, S.szs] at hpz; omega
        rw [outM_snoc, outH_snoc]
        cases hm : mayS x s with
        | false =>
          rw [mrg_no P x s hm] at hnext
          have fin : ∀ y : List D, y.length = 14 → flatM (S.encs P ++ [x.enc]) ++ flatM [y] = flatM (S.encs (P ++ [x]) ++ [y]) := by
            intro y hy; rw [S.encs_append]; simp [flatM, S.encs]
          cases s with
          | asg nm v =>
            repeat refine TC.seq ?_
            refine TC.region ?_
            refine t_indexD rfl rfl rfl (Int.natCast_nonneg i) (r := letC nm v) (S.encs_get l i _ hget) rfl ?_
            first | refine t_loadDw rfl rfl rfl ?_ | refine t_loadDa rfl rfl rfl ?_ | refine t_loadLa rfl rfl rfl rfl rfl ?_ | refine t_loadRa rfl rfl rfl rfl rfl ?_
            refine t_alloc rfl rfl ?_
            refine t_storeL rfl rfl rfl rfl rfl rfl ?_
            refine TL.nil ?_
            repeat refine TC.seq ?_
            refine TC.region ?_
            refine t_move rfl rfl ?_
            refine t_lenR rfl rfl ?_
            refine t_assign rfl rfl ?_
            refine TL.nil ?_
            repeat refine TC.seq ?_
            refine TC.draw mixed ?_
            refine f_move rfl rfl ?_
            (refine f_int rfl rfl rfl rfl ?_; rw [show decide (((P.length + 1 : Nat) : Int) > 0) = true from decide_eq_true (by omega)])
            refine f_move rfl rfl ?_
            first | refine f_guard_no rfl rfl rfl rfl ?_ | refine f_guard_un rfl rfl rfl ?_ | (refine f_guard_yes rfl rfl ?_; (refine f_move rfl rfl ?_))
            first | refine f_guard_no rfl rfl rfl rfl ?_ | refine f_guard_un rfl rfl rfl ?_ | (refine f_guard_yes rfl rfl ?_; (refine f_move rfl rfl ?_))
            first | refine f_guard_no rfl rfl rfl rfl ?_ | refine f_guard_un rfl rfl rfl ?_ | (refine f_guard_yes rfl rfl ?_; ((refine f_sub64 rfl rfl rfl (by omega) ?_; rw [dd])))
            first | refine f_guard_no rfl rfl rfl rfl ?_ | refine f_guard_un rfl rfl rfl ?_ | (refine f_guard_yes rfl rfl ?_; (refine f_indexR rfl rfl rfl rfl (by omega) (by omega) ?_))
            first | refine f_guard_no rfl rfl rfl rfl ?_ | refine f_guard_un rfl rfl rfl ?_ | (refine f_guard_yes rfl rfl ?_; (refine f_loadWa rfl rfl rfl (subA_ok x.enc_len) (subL_ok x.enc_len) (allD_map _) ?_))
            first | refine f_guard_no rfl rfl rfl rfl ?_ | refine f_guard_un rfl rfl rfl ?_ | (refine f_guard_yes rfl rfl ?_; (refine f_loadLa rfl rfl rfl rfl rfl ?_))
            first | refine f_guard_no rfl rfl rfl rfl ?_ | refine f_guard_un rfl rfl rfl ?_ | (refine f_guard_yes rfl rfl ?_; ((refine f_call1 (mayF_ok x (.asg nm v) hx) rfl rfl ?_; rw [hm])))
            refine f_pick rfl rfl rfl ?_
            refine TF.nil ⟨by kernel_rfl, ?_⟩
            repeat refine TC.seq ?_
            refine TC.cond rfl (fun hc => by cases hc) (fun hc => ?_)
            refine TC.skip ?_
            repeat refine TC.seq ?_
            refine TC.region ?_
            refine t_move rfl rfl ?_
            first | refine t_loadDw rfl rfl rfl ?_ | refine t_loadDa rfl rfl rfl ?_ | refine t_loadLa rfl rfl rfl rfl rfl ?_ | refine t_loadRa rfl rfl rfl rfl rfl ?_
            refine t_buildSlice rfl rfl rfl rfl rfl rfl rfl rfl ?_
            refine t_appendR rfl rfl rfl rfl (by rfl) (by exact one_len rfl) (by simp; omega) (by simp; omega) ?_
            refine t_assign rfl rfl ?_
            refine TL.nil ?_
            repeat refine TC.seq ?_
            refine TC.region ?_
            refine t_add64 rfl rfl rfl (by omega) ?_
            refine t_move rfl rfl ?_
            refine TL.nil ?_
            exact againT (k' := l.length - (i + 1)) 1 hb (by exact Nat.le_refl 1) (by omega) ⟨i + 1, rfl, by omega, rfl⟩ (by rw [hnext, outH_snoc, List.length_append]; exact congrArg (fun z => [Ob.row false 14 (P.length + 1) z]) (fin _ rfl)) (by rw [hnext]; exact outH_HB _) ⟨⟨by simp; rfl, .d _⟩, ⟨rfl, .d _⟩, ⟨rfl, .d _⟩, ⟨by rw [hnext, outM_snoc, List.length_append]; rfl, outM_MB _⟩, trivial⟩
          | ite w c a b =>
            repeat refine TC.seq ?_
            refine TC.region ?_
            refine t_indexD rfl rfl rfl (Int.natCast_nonneg i) (r := iteC w c (S.encs a) (S.encs b)) (S.encs_get l i _ hget) rfl ?_
            first | refine t_loadDw rfl rfl rfl ?_ | refine t_loadDa rfl rfl rfl ?_ | refine t_loadLa rfl rfl rfl rfl rfl ?_ | refine t_loadRa rfl rfl rfl rfl rfl ?_
            refine t_alloc rfl rfl ?_
            refine t_storeL rfl rfl rfl rfl rfl rfl ?_
            refine TL.nil ?_
            repeat refine TC.seq ?_
            refine TC.region ?_
            refine t_move rfl rfl ?_
            refine t_lenR rfl rfl ?_
            refine t_assign rfl rfl ?_
            refine TL.nil ?_
            repeat refine TC.seq ?_
            refine TC.draw mixed ?_
            refine f_move rfl rfl ?_
            (refine f_int rfl rfl rfl rfl ?_; rw [show decide (((P.length + 1 : Nat) : Int) > 0) = true from decide_eq_true (by omega)])
            refine f_move rfl rfl ?_
            first | refine f_guard_no rfl rfl rfl rfl ?_ | refine f_guard_un rfl rfl rfl ?_ | (refine f_guard_yes rfl rfl ?_; (refine f_move rfl rfl ?_))
            first | refine f_guard_no rfl rfl rfl rfl ?_ | refine f_guard_un rfl rfl rfl ?_ | (refine f_guard_yes rfl rfl ?_; (refine f_move rfl rfl ?_))
            first | refine f_guard_no rfl rfl rfl rfl ?_ | refine f_guard_un rfl rfl rfl ?_ | (refine f_guard_yes rfl rfl ?_; ((refine f_sub64 rfl rfl rfl (by omega) ?_; rw [dd])))
            first | refine f_guard_no rfl rfl rfl rfl ?_ | refine f_guard_un rfl rfl rfl ?_ | (refine f_guard_yes rfl rfl ?_; (refine f_indexR rfl rfl rfl rfl (by omega) (by omega) ?_))
            first | refine f_guard_no rfl rfl rfl rfl ?_ | refine f_guard_un rfl rfl rfl ?_ | (refine f_guard_yes rfl rfl ?_; (refine f_loadWa rfl rfl rfl (subA_ok x.enc_len) (subL_ok x.enc_len) (allD_map _) ?_))
            first | refine f_guard_no rfl rfl rfl rfl ?_ | refine f_guard_un rfl rfl rfl ?_ | (refine f_guard_yes rfl rfl ?_; (refine f_loadLa rfl rfl rfl rfl rfl ?_))
            first | refine f_guard_no rfl rfl rfl rfl ?_ | refine f_guard_un rfl rfl rfl ?_ | (refine f_guard_yes rfl rfl ?_; ((refine f_call1 (mayF_ok x (.ite w c a b) hx) rfl rfl ?_; rw [hm])))
            refine f_pick rfl rfl rfl ?_
            refine TF.nil ⟨by kernel_rfl, ?_⟩
            repeat refine TC.seq ?_
            refine TC.cond rfl (fun hc => by cases hc) (fun hc => ?_)
            refine TC.skip ?_
            repeat refine TC.seq ?_
            refine TC.region ?_
            refine t_move rfl rfl ?_
            first | refine t_loadDw rfl rfl rfl ?_ | refine t_loadDa rfl rfl rfl ?_ | refine t_loadLa rfl rfl rfl rfl rfl ?_ | refine t_loadRa rfl rfl rfl rfl rfl ?_
            refine t_buildSlice rfl rfl rfl rfl rfl rfl rfl rfl ?_
            refine t_appendR rfl rfl rfl rfl (by rfl) (by exact one_len rfl) (by simp; omega) (by simp; omega) ?_
            refine t_assign rfl rfl ?_
            refine TL.nil ?_
            repeat refine TC.seq ?_
            refine TC.region ?_
            refine t_add64 rfl rfl rfl (by omega) ?_
            refine t_move rfl rfl ?_
            refine TL.nil ?_
            exact againT (k' := l.length - (i + 1)) 1 hb (by exact Nat.le_refl 1) (by omega) ⟨i + 1, rfl, by omega, rfl⟩ (by rw [hnext, outH_snoc, List.length_append]; exact congrArg (fun z => [Ob.row false 14 (P.length + 1) z]) (fin _ rfl)) (by rw [hnext]; exact outH_HB _) ⟨⟨by simp; rfl, .d _⟩, ⟨rfl, .d _⟩, ⟨rfl, .d _⟩, ⟨by rw [hnext, outM_snoc, List.length_append]; rfl, outM_MB _⟩, trivial⟩
        | true =>
          rw [mrg_yes P x s hm] at hnext
          cases s with
          | asg nm v => cases x <;> cases hm
          | ite w c a b =>
            cases x with
            | asg nm v => cases hm
            | ite w0 c0 a0 b0 =>
              simp only [szs_append, S.szs, S.sz] at hpz hsum hsz
              rw [join] at hnext
              repeat refine TC.seq ?_
              refine TC.region ?_
              refine t_indexD rfl rfl rfl (Int.natCast_nonneg i) (r := iteC w c (S.encs a) (S.encs b)) (S.encs_get l i _ hget) rfl ?_
              first | refine t_loadDw rfl rfl rfl ?_ | refine t_loadDa rfl rfl rfl ?_ | refine t_loadLa rfl rfl rfl rfl rfl ?_ | refine t_loadRa rfl rfl rfl rfl rfl ?_
              refine t_alloc rfl rfl ?_
              refine t_storeL rfl rfl rfl rfl rfl rfl ?_
              refine TL.nil ?_
              repeat refine TC.seq ?_
              refine TC.region ?_
              refine t_move rfl rfl ?_
              refine t_lenR rfl rfl ?_
              refine t_assign rfl rfl ?_
              refine TL.nil ?_
              repeat refine TC.seq ?_
              refine TC.draw mixed ?_
              refine f_move rfl rfl ?_
              (refine f_int rfl rfl rfl rfl ?_; rw [show decide (((P.length + 1 : Nat) : Int) > 0) = true from decide_eq_true (by omega)])
              refine f_move rfl rfl ?_
              first | refine f_guard_no rfl rfl rfl rfl ?_ | refine f_guard_un rfl rfl rfl ?_ | (refine f_guard_yes rfl rfl ?_; (refine f_move rfl rfl ?_))
              first | refine f_guard_no rfl rfl rfl rfl ?_ | refine f_guard_un rfl rfl rfl ?_ | (refine f_guard_yes rfl rfl ?_; (refine f_move rfl rfl ?_))
              first | refine f_guard_no rfl rfl rfl rfl ?_ | refine f_guard_un rfl rfl rfl ?_ | (refine f_guard_yes rfl rfl ?_; ((refine f_sub64 rfl rfl rfl (by omega) ?_; rw [dd])))
              first | refine f_guard_no rfl rfl rfl rfl ?_ | refine f_guard_un rfl rfl rfl ?_ | (refine f_guard_yes rfl rfl ?_; (refine f_indexR rfl rfl rfl rfl (by omega) (by omega) ?_))
              first | refine f_guard_no rfl rfl rfl rfl ?_ | refine f_guard_un rfl rfl rfl ?_ | (refine f_guard_yes rfl rfl ?_; (refine f_loadWa rfl rfl rfl (subA_ok (S.enc_len _)) (subL_ok (S.enc_len _)) (allD_map _) ?_))
              first | refine f_guard_no rfl rfl rfl rfl ?_ | refine f_guard_un rfl rfl rfl ?_ | (refine f_guard_yes rfl rfl ?_; (refine f_loadLa rfl rfl rfl rfl rfl ?_))
              first | refine f_guard_no rfl rfl rfl rfl ?_ | refine f_guard_un rfl rfl rfl ?_ | (refine f_guard_yes rfl rfl ?_; ((refine f_call1 (mayF_ok (.ite w0 c0 a0 b0) (.ite w c a b) hx) rfl rfl ?_; rw [hm])))
              refine f_pick rfl rfl rfl ?_
              refine TF.nil ⟨by kernel_rfl, ?_⟩
              repeat refine TC.seq ?_
              refine TC.cond rfl (fun hc => ?_) (fun hc => by cases hc)
              repeat refine TC.seq ?_
              refine TC.draw mixed ?_
              refine f_move rfl rfl ?_
              refine f_move rfl rfl ?_
              (refine f_sub64 rfl rfl rfl (by omega) ?_; rw [dd])
              refine f_move rfl rfl ?_
              refine f_move rfl rfl ?_
              (refine f_sub64 rfl rfl rfl (by omega) ?_; rw [dd])
              refine f_indexR rfl rfl rfl rfl (by omega) (by omega) ?_
              first | refine f_fieldD rfl rfl ?_ | refine f_fieldL rfl rfl ?_ | refine f_fieldR rfl rfl ?_ | refine f_fieldW rfl rfl ?_
              refine f_loadWc rfl rfl rfl (rd_ok (S.enc_len _) (v := .sl (S.encs a0)) rfl) ?_
              first | refine f_fieldD rfl rfl ?_ | refine f_fieldL rfl rfl ?_ | refine f_fieldR rfl rfl ?_ | refine f_fieldW rfl rfl ?_
              first | refine f_loadDc rfl rfl rfl ?_ | refine f_loadLc rfl rfl rfl rfl ?_ | refine f_loadRc rfl rfl rfl rfl ?_
              refine f_buildSlice rfl rfl rfl rfl rfl rfl rfl rfl ?_
              refine f_call1 (concat2_ok a0 a (by omega)) rfl rfl ?_
              refine f_indexR rfl rfl rfl rfl (by omega) (by omega) ?_
              first | refine f_fieldD rfl rfl ?_ | refine f_fieldL rfl rfl ?_ | refine f_fieldR rfl rfl ?_ | refine f_fieldW rfl rfl ?_
              refine f_storeW rfl rfl rfl rfl rfl (wr_ok (S.enc_len _) (by decide)) ?_
              refine TF.nil ⟨by kernel_rfl, ?_⟩
              repeat refine TC.seq ?_
              refine TC.draw mixed ?_
              refine f_move rfl rfl ?_
              refine f_move rfl rfl ?_
              (refine f_sub64 rfl rfl rfl (by omega) ?_; rw [dd])
              refine f_move rfl rfl ?_
              refine f_move rfl rfl ?_
              (refine f_sub64 rfl rfl rfl (by omega) ?_; rw [dd])
              refine f_indexR rfl rfl rfl rfl (by omega) (by omega) ?_
              first | refine f_fieldD rfl rfl ?_ | refine f_fieldL rfl rfl ?_ | refine f_fieldR rfl rfl ?_ | refine f_fieldW rfl rfl ?_
              refine f_loadWc rfl rfl rfl (rd_ok (by rfl) (v := .sl (S.encs b0)) rfl) ?_
              first | refine f_fieldD rfl rfl ?_ | refine f_fieldL rfl rfl ?_ | refine f_fieldR rfl rfl ?_ | refine f_fieldW rfl rfl ?_
              first | refine f_loadDc rfl rfl rfl ?_ | refine f_loadLc rfl rfl rfl rfl ?_ | refine f_loadRc rfl rfl rfl rfl ?_
              refine f_buildSlice rfl rfl rfl rfl rfl rfl rfl rfl ?_
              refine f_call1 (concat2_ok b0 b (by omega)) rfl rfl ?_
              refine f_indexR rfl rfl rfl rfl (by omega) (by omega) ?_
              first | refine f_fieldD rfl rfl ?_ | refine f_fieldL rfl rfl ?_ | refine f_fieldR rfl rfl ?_ | refine f_fieldW rfl rfl ?_
              refine f_storeW rfl rfl rfl rfl rfl (wr_ok (by rfl) (by decide)) ?_
              refine TF.nil ⟨by kernel_rfl, ?_⟩
              refine TC.exit ?_
              repeat refine TC.seq ?_
              refine TC.region ?_
              refine t_add64 rfl rfl rfl (by omega) ?_
              refine t_move rfl rfl ?_
              refine TL.nil ?_
              exact againT (k' := l.length - (i + 1)) 1 hb (by exact Nat.le_refl 1) (by omega) ⟨i + 1, rfl, by omega, rfl⟩ (by rw [hnext, outH_snoc]; rfl) (by rw [hnext]; exact outH_HB _) ⟨⟨by simp; rfl, .d _⟩, ⟨rfl, .d _⟩, ⟨rfl, .d _⟩, ⟨by rw [hnext, outM_snoc]; rfl, outM_MB _⟩, trivial⟩
    · refine TC.exit ?_
      obtain rfl : i = l.length := by have := of_decide_eq_false hc; omega
      rw [List.take_length]
      have hOz := pass1_sz l
      have hfu : fuseN (n + 1) l = (pass1 l).map (sub (fuseN n)) := rfl
      rw [hfu]
      clear hfu hc hi
      generalize pass1 l = O at hOz ⊢
      have hOl := S.len_le O
      by_cases hO : O = []
      · subst hO
        repeat refine TC.seq ?_
        refine TC.region ?_
        refine t_move rfl rfl ?_
        refine t_lenS rfl rfl rfl ?_
        refine t_move rfl rfl ?_
        refine TL.nil ?_
        repeat refine TC.seq ?_
        refine TC.block ?_
        refine TC.loopB (fun k s => s = ⟨[(64, .m (.d (.int .i64 0))), (63, .m (.d (.int .i64 0))), (3, .m (.d (.sl [])))], [], []⟩ ∧ k = 0) 0 _
          ⟨rfl, rfl⟩ ⟨rfl, rfl, rfl, trivial⟩ ?_
        rintro k s ⟨rfl, rfl⟩
        repeat refine TC.seq ?_
        refine TC.region ?_
        refine t_int rfl rfl rfl rfl ?_
        refine TL.nil ?_
        repeat refine TC.seq ?_
        refine TC.cond rfl (fun hc => by cases hc) (fun hc => ?_)
        refine TC.exit ?_
        repeat refine TC.seq ?_
        refine TC.region ?_
        refine t_move rfl rfl ?_
        refine t_assign rfl rfl ?_
        refine TL.nil ?_
        exact TC.ret ⟨_, rfl, [_], rfl, rfl⟩
      · rw [outM_ne hO, outH_ne hO]
        have hpos : 0 < O.length := by cases O; exact absurd rfl hO; simp
        repeat refine TC.seq ?_
        refine TC.region ?_
        refine t_move rfl rfl ?_
        refine t_lenR rfl rfl ?_
        refine t_move rfl rfl ?_
        refine TL.nil ?_
        repeat refine TC.seq ?_
        refine TC.block ?_
        refine TC.loopB (fun k s => ∃ (i : Nat), s = ⟨[(64, .m (.d (.int .i64 i))), (63, .m (.d (.int .i64 (O.length : Nat)))), (3, .m (.rsl 0 (O.length - 1) O.length))], [], [.row false 14 (O.length - 1) (flatM (S.encs (WN (sub (fuseN n)) O i)))]⟩ ∧ i ≤ O.length ∧ k = O.length - i) O.length _
          ⟨0, rfl, by omega, rfl⟩ ⟨rfl, rfl, rfl, trivial⟩ ?_
        rintro k s ⟨i, rfl, hi, rfl⟩
        repeat refine TC.seq ?_
        refine TC.region ?_
        refine t_int rfl rfl rfl rfl ?_
        refine TL.nil ?_
        repeat refine TC.seq ?_
        refine TC.cond rfl (fun hc => ?_) (fun hc => ?_)
        · have hc' : i < O.length := by have := of_decide_eq_true hc; omega
          clear hc
          have hsz := S.sz_le (List.getElem_mem hc')
          have hget := encs_get2 (WN_get (sub (fuseN n)) O i hc')
          have hnext := WN_succ (sub (fuseN n)) O i hc'
          have hlens := S.encs_lens (WN (sub (fuseN n)) O i)
          generalize WN (sub (fuseN n)) O i = W at hget hnext hlens ⊢
          refine TC.skip ?_
          repeat refine TC.seq ?_
          refine TC.block ?_
          generalize O[i] = x at hsz hget hnext
          cases x with
          | asg nm v =>
            repeat refine TC.seq ?_
            refine TC.region ?_
            refine t_move rfl rfl ?_
            refine t_assign rfl rfl ?_
            refine TL.nil ?_
            repeat refine TC.seq ?_
            refine TC.region ?_
            refine t_move rfl rfl ?_
            refine t_move rfl rfl ?_
            refine t_indexR rfl rfl rfl rfl (by omega) (by omega) ?_
            first | refine t_fieldD rfl rfl ?_ | refine t_fieldL rfl rfl ?_ | refine t_fieldR rfl rfl ?_ | refine t_fieldW rfl rfl ?_
            refine t_loadWc rfl rfl rfl (rd2_ok hlens hget (v := .int .u8 1) rfl) ?_
            refine t_int rfl rfl rfl rfl ?_
            refine TL.nil ?_
            repeat refine TC.seq ?_
            refine TC.cond rfl (fun hc => by cases hc) (fun hc => ?_)
            refine TC.skip ?_
            have hsame : flatM (S.encs W) = flatM (S.encs (W.set i (sub (fuseN n) (.asg nm v)))) := by
              show flatM (S.encs W) = flatM (S.encs (W.set i (.asg nm v)))
              rw [encs_set]
              congr 1
              apply List.ext_getElem?
              intro j
              by_cases e : i = j
              · subst e; rw [set_get2 hget, hget]
              · rw [List.getElem?_set_ne e]
            repeat refine TC.seq ?_
            refine TC.region ?_
            refine t_add64 rfl rfl rfl (by omega) ?_
            refine t_move rfl rfl ?_
            refine TL.nil ?_
            exact againT (k' := O.length - (i + 1)) 1 hb (by exact Nat.le_refl 1) (by omega) ⟨i + 1, rfl, by omega, rfl⟩ (by rw [hnext, ← hsame]; rfl) (by exact rows_HB _ _ _ _ _) ⟨⟨by simp; rfl, .d _⟩, ⟨rfl, .d _⟩, ⟨rfl, .rsl _ _ _ (by omega)⟩, trivial⟩
          | ite w c a b =>
            simp only [S.sz] at hsz
            repeat refine TC.seq ?_
            refine TC.region ?_
            refine t_move rfl rfl ?_
            refine t_assign rfl rfl ?_
            refine TL.nil ?_
            repeat refine TC.seq ?_
            refine TC.region ?_
            refine t_move rfl rfl ?_
            refine t_move rfl rfl ?_
            refine t_indexR rfl rfl rfl rfl (by omega) (by omega) ?_
            first | refine t_fieldD rfl rfl ?_ | refine t_fieldL rfl rfl ?_ | refine t_fieldR rfl rfl ?_ | refine t_fieldW rfl rfl ?_
            refine t_loadWc rfl rfl rfl (rd2_ok hlens hget (v := .int .u8 3) rfl) ?_
            refine t_int rfl rfl rfl rfl ?_
            refine TL.nil ?_
            repeat refine TC.seq ?_
            refine TC.cond rfl (fun hc => ?_) (fun hc => by cases hc)
            repeat refine TC.seq ?_
            refine TC.draw mixed ?_
            refine f_move rfl rfl ?_
            refine f_move rfl rfl ?_
            refine f_move rfl rfl ?_
            refine f_move rfl rfl ?_
            refine f_move rfl rfl ?_
            refine f_move rfl rfl ?_
            refine f_indexR rfl rfl rfl rfl (by omega) (by omega) ?_
            first | refine f_fieldD rfl rfl ?_ | refine f_fieldL rfl rfl ?_ | refine f_fieldR rfl rfl ?_ | refine f_fieldW rfl rfl ?_
            refine f_loadWc rfl rfl rfl (rd2_ok hlens hget (v := .sl (S.encs a)) rfl) ?_
            refine f_call1 (ih a (by omega) (by omega)) rfl rfl ?_
            refine f_move rfl rfl ?_
            refine f_move rfl rfl ?_
            refine f_indexR rfl rfl rfl rfl (by omega) (by omega) ?_
            first | refine f_fieldD rfl rfl ?_ | refine f_fieldL rfl rfl ?_ | refine f_fieldR rfl rfl ?_ | refine f_fieldW rfl rfl ?_
            refine f_loadWc rfl rfl rfl (rd2_ok hlens hget (v := .sl (S.encs b)) rfl) ?_
            refine f_call1 (ih b (by omega) (by omega)) rfl rfl ?_
            refine f_indexR rfl rfl rfl rfl (by omega) (by omega) ?_
            first | refine f_fieldD rfl rfl ?_ | refine f_fieldL rfl rfl ?_ | refine f_fieldR rfl rfl ?_ | refine f_fieldW rfl rfl ?_
            refine f_storeW rfl rfl rfl rfl rfl (wr2_ok hlens hget (by decide)) ?_
            refine f_indexR rfl rfl rfl rfl (by omega) (by omega) ?_
            first | refine f_fieldD rfl rfl ?_ | refine f_fieldL rfl rfl ?_ | refine f_fieldR rfl rfl ?_ | refine f_fieldW rfl rfl ?_
            refine f_storeW rfl rfl rfl rfl rfl (wr2_ok (set_lens hlens rfl) (set_get2 hget) (by decide)) ?_
            refine TF.nil ⟨by kernel_rfl, ?_⟩
            repeat refine TC.seq ?_
            refine TC.region ?_
            refine t_add64 rfl rfl rfl (by omega) ?_
            refine t_move rfl rfl ?_
            refine TL.nil ?_
            exact againT (k' := O.length - (i + 1)) 1 hb (by exact Nat.le_refl 1) (by omega) ⟨i + 1, rfl, by omega, rfl⟩ (by rw [hnext, encs_set]; exact congrArg (fun z => [Ob.row false 14 (O.length - 1) (flatM z)]) (List.set_set _)) (by exact rows_HB _ _ _ _ _) ⟨⟨by simp; rfl, .d _⟩, ⟨rfl, .d _⟩, ⟨rfl, .rsl _ _ _ (by omega)⟩, trivial⟩
        · refine TC.exit ?_
          obtain rfl : i = O.length := by have := of_decide_eq_false hc; omega
          rw [WN_end]
          repeat refine TC.seq ?_
          refine TC.region ?_
          refine t_move rfl rfl ?_
          refine t_assign rfl rfl ?_
          refine TL.nil ?_
          refine TC.freezeRow 0 rfl ?_
          have hel : (S.encs (O.map (sub (fuseN n)))).length = O.length := by rw [S.encs_len, List.length_map]
          refine TC.viewSlot 2 rfl (Acc.view (n := 14) (i := 0) (rs := S.encs (O.map (sub (fuseN n)))) (.inr ⟨by intro h; rw [h] at hel; simp at hel; omega, _, by rw [hel], rfl⟩) (S.encs_lens _)) ?_
          exact TC.ret ⟨_, rfl, [_], rfl, rfl⟩
end Go.Proofs
