import Derived.Test.YtjhinemdonddoaaFuK
namespace Go.Proofs
open Go.Mt
set_option linter.unusedSimpArgs false
set_option linter.unusedVariables false

/-! The plain law. -/
theorem mrg_last (out : List S) (s : S) : mrg out s = [s] ∧ out = [] ∨ ∃ P x, out = P ++ [x] ∧ ((mayS x s = true ∧ mrg out s = P ++ [join x s]) ∨ (mayS x s = false ∧ mrg out s = P ++ [x] ++ [s])) := by
  rcases List.eq_nil_or_concat out with rfl | ⟨P, x, rfl⟩
  · exact .inl ⟨rfl, rfl⟩
  · refine .inr ⟨P, x, by simp, ?_⟩
    rw [List.concat_eq_append]
    cases h : mayS x s with
    | true => exact .inl ⟨rfl, mrg_yes P x s h⟩
    | false => exact .inr ⟨rfl, mrg_no P x s h⟩
theorem ifS_join (x s : S) : ifS (join x s) ≤ ifS x + ifS s := by
  cases x <;> cases s <;> simp only [join, ifS, ifSs_append] <;> omega
theorem ifSs_mrg (out : List S) (s : S) : ifSs (mrg out s) ≤ ifSs out + ifS s := by
  rcases mrg_last out s with ⟨h, rfl⟩ | ⟨P, x, rfl, ⟨_, h⟩ | ⟨_, h⟩⟩
  · rw [h]; simp [ifSs]
  · rw [h, ifSs_append, ifSs_append]; have := ifS_join x s; simp only [ifSs]; omega
  · rw [h, ifSs_append]; simp [ifSs]
theorem ifSs_fold (l : List S) : ∀ out, ifSs (l.foldl mrg out) ≤ ifSs out + ifSs l := by
  induction l with
  | nil => intro out; simp [ifSs]
  | cons s r ih => intro out; have := ih (mrg out s); have := ifSs_mrg out s; simp only [List.foldl_cons, ifSs]; omega
theorem ifSs_pass1 (l : List S) : ifSs (pass1 l) ≤ ifSs l := by have := ifSs_fold l []; simp only [ifSs, Nat.zero_add] at this; exact this
theorem ifSs_fuse : ∀ (n : Nat) (l : List S), ifSs (fuseN n l) ≤ ifSs l
  | 0, l => by simp [fuseN]
  | n + 1, l => by
    have h : ∀ q : List S, ifSs (q.map (sub (fuseN n))) ≤ ifSs q := by
      intro q
      induction q with
      | nil => simp
      | cons s r ih =>
        have : ifS (sub (fuseN n) s) ≤ ifS s := by
          cases s with
          | asg nm v => simp [sub]
          | ite l c a b => have := ifSs_fuse n a; have := ifSs_fuse n b; simp only [sub, ifS]; omega
        simp only [List.map_cons, ifSs]; omega
    rw [fuseN]; exact Nat.le_trans (h _) (ifSs_pass1 l)
theorem szs_fuse : ∀ (n : Nat) (l : List S), S.szs (fuseN n l) ≤ S.szs l
  | 0, l => by simp [fuseN]
  | n + 1, l => by
    have h : ∀ q : List S, S.szs (q.map (sub (fuseN n))) ≤ S.szs q := by
      intro q
      induction q with
      | nil => simp
      | cons s r ih =>
        have : (sub (fuseN n) s).sz ≤ s.sz := by
          cases s with
          | asg nm v => simp [sub]
          | ite l c a b => have := szs_fuse n a; have := szs_fuse n b; simp only [sub, S.sz]; omega
        simp only [List.map_cons, S.szs]; omega
    rw [fuseN]; exact Nat.le_trans (h _) (pass1_sz l)

theorem inS_join (y : ByteArray) (x s : S) (h : mayS x s = true) : inS y (join x s) = (inS y x || inS y s) := by
  cases x with
  | asg nm v => cases h
  | ite l c a b => cases s with
    | asg nm v => cases h
    | ite l' c' a' b' =>
      simp only [join, inS, inSs_append]
      cases inSs y a <;> cases inSs y b <;> cases inSs y a' <;> rfl
theorem inSs_mrg (y : ByteArray) (out : List S) (s : S) : inSs y (mrg out s) = (inSs y out || inS y s) := by
  rcases mrg_last out s with ⟨h, rfl⟩ | ⟨P, x, rfl, ⟨hm, h⟩ | ⟨_, h⟩⟩
  · rw [h]; simp [inSs]
  · rw [h, inSs_append, inSs_append]; simp [inSs, inS_join y x s hm, Bool.or_assoc]
  · rw [h, inSs_append]; simp [inSs]
theorem inSs_fold (y : ByteArray) (l : List S) : ∀ out, inSs y (l.foldl mrg out) = (inSs y out || inSs y l) := by
  induction l with
  | nil => intro out; simp [inSs]
  | cons s r ih => intro out; rw [List.foldl_cons, ih, inSs_mrg, inSs, Bool.or_assoc]
theorem inSs_fuse (y : ByteArray) : ∀ (n : Nat) (l : List S), inSs y (fuseN n l) = inSs y l
  | 0, l => by simp [fuseN]
  | n + 1, l => by
    have h : ∀ q : List S, inSs y (q.map (sub (fuseN n))) = inSs y q := by
      intro q
      induction q with
      | nil => simp
      | cons s r ih =>
        have : inS y (sub (fuseN n) s) = inS y s := by
          cases s with
          | asg nm v => simp [sub]
          | ite l c a b => simp only [sub, inS, inSs_fuse y n a, inSs_fuse y n b]
        simp only [List.map_cons, inSs, ih, this]
    rw [fuseN, h, pass1, inSs_fold]; simp [inSs]

/-- no two neighbours may be one -/
def adj (p : Option S) : List S → Bool
  | [] => true
  | s :: r => !mayO p s && adj (some s) r
theorem doneL_adj (l : List S) : ∀ p, doneL p l = (adj p l && l.all okS) := by
  induction l with
  | nil => intro p; simp [doneL, adj]
  | cons s r ih =>
    intro p
    simp only [doneL, adj, ih, List.all_cons]
    cases mayO p s <;> cases okS s <;> cases adj (some s) r <;> rfl
def lastO (p : Option S) : List S → Option S
  | [] => p
  | s :: r => lastO (some s) r
theorem adj_snoc (P : List S) (x : S) : ∀ p, adj p (P ++ [x]) = (adj p P && !mayO (lastO p P) x) := by
  induction P with
  | nil => intro p; simp [adj, lastO]
  | cons s r ih => intro p; simp only [List.cons_append, adj, ih, lastO, Bool.and_assoc]
theorem lastO_snoc (P : List S) (x : S) : ∀ p, lastO p (P ++ [x]) = some x := by
  induction P with
  | nil => intro p; rfl
  | cons s r ih => intro p; exact ih _
theorem mayO_join (p : Option S) (x s : S) (h : mayS x s = true) : mayO p (join x s) = mayO p x := by
  cases p with
  | none => rfl
  | some y =>
    cases x with
    | asg nm v => cases h
    | ite l c a b => cases s with
      | asg nm v => cases h
      | ite l' c' a' b' => cases y <;> rfl
theorem adj_mrg (out : List S) (s : S) (h : adj none out = true) : adj none (mrg out s) = true := by
  rcases mrg_last out s with ⟨hh, rfl⟩ | ⟨P, x, rfl, ⟨hm, hh⟩ | ⟨hm, hh⟩⟩
  · rw [hh]; rfl
  · rw [hh, adj_snoc, mayO_join _ _ _ hm, ← adj_snoc]; exact h
  · rw [hh, adj_snoc, h, lastO_snoc]; simp [mayO, hm]
theorem adj_fold (l : List S) : ∀ out, adj none out = true → adj none (l.foldl mrg out) = true := by
  induction l with
  | nil => intro out h; exact h
  | cons s r ih => intro out h; exact ih _ (adj_mrg out s h)
theorem mayS_sub (f : List S → List S) (hf : ∀ y l, inSs y (f l) = inSs y l) (x s : S) : mayS (sub f x) (sub f s) = mayS x s := by
  cases x with
  | asg nm v => rfl
  | ite l c a b => cases s with
    | asg nm v => rfl
    | ite l' c' a' b' => simp only [sub, mayS, hf]
theorem adj_map (f : List S → List S) (hf : ∀ y l, inSs y (f l) = inSs y l) (q : List S) : ∀ p : Option S, adj (p.map (sub f)) (q.map (sub f)) = adj p q := by
  induction q with
  | nil => intro p; rfl
  | cons s r ih =>
    intro p
    have h1 := ih (some s)
    have h2 : mayO (p.map (sub f)) (sub f s) = mayO p s := by
      cases p with
      | none => rfl
      | some y => exact mayS_sub f hf y s
    simp only [List.map_cons, adj, h2]
    rw [← h1]; rfl
theorem szs_mem {l : List S} {s : S} (h : s ∈ l) : s.sz ≤ S.szs l := by
  induction l with
  | nil => cases h
  | cons x r ih =>
    simp only [S.szs]
    rcases List.mem_cons.1 h with rfl | h
    · omega
    · have := ih h; omega
theorem fuse_done : ∀ (n : Nat) (l : List S), S.szs l < n → doneL none (fuseN n l) = true
  | 0, l, h => by omega
  | n + 1, l, h => by
    rw [doneL_adj, fuseN, Bool.and_eq_true]
    refine ⟨?_, ?_⟩
    · have := adj_map (fuseN n) (fun y l => inSs_fuse y n l) (pass1 l) none
      rw [show (Option.none.map (sub (fuseN n)) : Option S) = none from rfl] at this
      rw [this]; exact adj_fold l [] rfl
    · rw [List.all_eq_true]
      intro s hs
      obtain ⟨x, hx, rfl⟩ := List.mem_map.1 hs
      have h1 := szs_mem hx
      have h2 := pass1_sz l
      cases x with
      | asg nm v => rfl
      | ite l c a b =>
        simp only [S.sz] at h1
        simp only [sub, okS]
        rw [fuse_done n a (by omega), fuse_done n b (by omega)]; rfl

def bB : Nat → Nat
  | 0 => 4
  | d + 1 => 4 * (1 + 2 * bB d)
theorem bLoop_sz (step : Nat → S × Nat) (K : Nat) (hs : ∀ a, (step a).1.sz ≤ K) : ∀ (m at_ : Nat) (out : List S), S.szs (bLoop step m at_ out).1 ≤ S.szs out + m * K
  | 0, at_, out => by simp [bLoop]
  | m + 1, at_, out => by
    have h1 := bLoop_sz step K hs m (step at_).2 (out ++ [(step at_).1])
    have h2 := hs at_
    have h3 : S.szs (out ++ [(step at_).1]) = S.szs out + (step at_).1.sz := by rw [szs_append]; simp [S.szs]
    rw [h3] at h1
    have h4 : (m + 1) * K = m * K + K := Nat.succ_mul m K
    simp only [bLoop]; omega
theorem bStep_sz (bs : List Nat) (rec : Nat → List S × Nat) (K : Nat) (hr : ∀ a, S.szs (rec a).1 ≤ K) (dz : Bool) (at_ : Nat) : (bStep bs rec dz at_).1.sz ≤ 1 + 2 * K := by
  have h1 := hr (nxA bs (nxA bs at_))
  have h2 := hr (rec (nxA bs (nxA bs at_))).2
  simp only [bStep]
  cases z3 (nxV bs at_) || dz <;> cases z2 (nxV bs at_) <;> simp only [cond_true, cond_false, S.sz, S.szs] <;> omega
theorem bStep0_sz (bs : List Nat) (rec : Nat → List S × Nat) (at_ : Nat) : (bStep bs rec true at_).1.sz ≤ 1 := by
  simp [bStep, S.sz]
theorem bld_sz (bs : List Nat) : ∀ (d at_ : Nat), S.szs (bld bs d at_).1 ≤ bB d
  | 0, at_ => by
    have := bLoop_sz (bStep bs (fun a => ([], a)) true) 1 (bStep0_sz bs _) (1 + nxV bs at_ % 4) (nxA bs at_) []
    simp only [S.szs] at this; simp only [bld, bB]; omega
  | d + 1, at_ => by
    have := bLoop_sz (bStep bs (bld bs d) false) (1 + 2 * bB d) (bStep_sz bs _ _ (bld_sz bs d) false) (1 + nxV bs at_ % 4) (nxA bs at_) []
    simp only [S.szs] at this; simp only [bld, bB]
    have h2 : (1 + nxV bs at_ % 4) * (1 + 2 * bB d) ≤ 4 * (1 + 2 * bB d) := Nat.mul_le_mul_right _ (by omega)
    omega
end Go.Proofs
