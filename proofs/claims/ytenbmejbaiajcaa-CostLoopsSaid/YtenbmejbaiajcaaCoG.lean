import Derived.Test.YtenbmejbaiajcaaCoF
namespace Go.Proofs
open Go.Mt
set_option maxRecDepth 4000
set_option linter.unusedSimpArgs false
set_option linter.unusedVariables false

/-- a loop, its head given as slots; the variables and the heap stay -/
theorem TC.loopB {X : Ctx} {c : Code} {sl : List (Nat × V)} {bx : List (Nat × List M)} {H : Hp} {post : Exit → St → Prop} (I : Nat → St → Prop) (k0 : Nat) (sl' : List (Nat × V)) (h0 : I k0 ⟨sl', bx, H⟩) (hs : keeps sl sl')
    (round : ∀ k s, I k s → TC X c s (after post fun s' => ∃ k' s'', k' < k ∧ I k' s'' ∧ ∀ a w, Inv X s' a w → Inv X s'' a w)) : TC X (.loop c) ⟨sl, bx, H⟩ post :=
  TC.loop' I k0 _ h0 (fun a w hi => hi.weak (keeps_get hs) fun _ => rfl) round

def fr (b : Nat) : Nat := b / 16 % 6
def to (b : Nat) : Nat := b % 16 % 7
theorem fr_eq (b : Nat) (h : b < 256) : (IntKind.i64.wrap (IntKind.u8.wrap ((b : Int).tdiv 16))).tmod 6 = (fr b : Int) := by
  have h1 : (b : Int).tdiv 16 = ((b / 16 : Nat) : Int) := (Int.ofNat_tdiv b 16).symm
  have h2 : ((b / 16 : Nat) : Int).tmod 6 = ((b / 16 % 6 : Nat) : Int) := (Int.ofNat_tmod _ 6).symm
  rw [h1, IntWalk.u8_in _ (by omega), IntWalk.i64_in _ (by omega), h2]; rfl
theorem to_eq (b : Nat) : IntKind.i64.wrap (((b : Int).tmod 16).tmod 7) = (to b : Int) := by
  have h1 : (b : Int).tmod 16 = ((b % 16 : Nat) : Int) := (Int.ofNat_tmod b 16).symm
  have h2 : ((b % 16 : Nat) : Int).tmod 7 = ((b % 16 % 7 : Nat) : Int) := (Int.ofNat_tmod _ 7).symm
  rw [h1, h2, IntWalk.i64_in _ (by omega)]; rfl
theorem to_eq2 (b : Nat) : (IntKind.i64.wrap ((b : Int).tmod 16)).tmod 7 = (to b : Int) := by
  have h1 : (b : Int).tmod 16 = ((b % 16 : Nat) : Int) := (Int.ofNat_tmod b 16).symm
  have h2 : ((b % 16 : Nat) : Int).tmod 7 = ((b % 16 % 7 : Nat) : Int) := (Int.ofNat_tmod _ 7).symm
  rw [h1, IntWalk.i64_in _ (by omega), h2]; rfl
theorem m3_eq (b : Nat) : (((b : Int).tmod 3) == 0) = decide (b % 3 = 0) := by
  have h1 : (b : Int).tmod 3 = ((b % 3 : Nat) : Int) := (Int.ofNat_tmod b 3).symm
  rw [h1]
  by_cases h : b % 3 = 0 <;> simp [h] <;> omega
theorem fr_lt (b : Nat) : fr b < 6 := by simp only [fr]; omega
theorem to_lt (b : Nat) : to b < 7 := by simp only [to]; omega

/-- the name of the function i -/
def nm (i : Nat) : ByteArray := ⟨#[102]⟩ ++ dig i
theorem dig_size (m : Int) : (dig m).size = 1 := by simp [dig, strOfNums, ByteArray.size]
def stmtOf (b : Nat) : S := if b % 3 = 0 then .ite [] [.call (nm (to b))] else .call (nm (to b))
def bodyOf (bs : List Nat) (i : Nat) : List S := (bs.filter fun b => fr b == i).map stmtOf
def graphP (bs : List Nat) : List Fn := (List.range 6).map fun i => ⟨nm i, bodyOf (bs.take 12) i⟩

/-- a list under way in the heap, at the place b -/
def genM (b : Nat) (rs : List (List D)) : M := match rs with
  | [] => .d (.sl [])
  | _ :: r => .rsl b r.length (r.length + 1)
def genH (H0 : Hp) (n : Nat) (rs : List (List D)) : Hp := match rs with
  | [] => H0
  | q :: r => H0 ++ [.row true n r.length (flatM (q :: r))]
theorem gen_view (H0 : Hp) (n : Nat) (rs : List (List D)) (hl : ∀ r ∈ rs, r.length = n) : viewV (genH H0 n rs) (genM H0.length rs) = some (.sl rs) := by
  cases rs with
  | nil => rfl
  | cons q r =>
    have h := Acc.view (n := n) (i := H0.length) (rs := q :: r) (m := genM H0.length (q :: r)) (H := genH H0 n (q :: r)) (.inr ⟨by simp, r.length, by simp [genM], by simp [genH]⟩) hl
    exact h
theorem genH_old (H0 : Hp) (n : Nat) (rs : List (List D)) (j : Nat) (ob : Ob) (h : H0[j]? = some ob) : (genH H0 n rs)[j]? = some ob := by
  have hj : j < H0.length := by rcases Nat.lt_or_ge j H0.length with h1 | h1; exact h1; simp [List.getElem?_eq_none h1] at h
  cases rs with
  | nil => exact h
  | cons q r => simp only [genH]; rw [List.getElem?_append_left hj]; exact h
theorem gen_snocM (b : Nat) (q x : List D) (r : List (List D)) : genM b (q :: r ++ [x]) = .rsl b (r.length + 1) (r.length + 1 + 1) := by simp [genM]
theorem gen_snocH (H0 : Hp) (n : Nat) (q x : List D) (r : List (List D)) : genH H0 n (q :: r ++ [x]) = (genH H0 n (q :: r)).set H0.length (.row true n (r.length + 1) (flatM (q :: r) ++ flatM [x])) := by
  simp [genH, flatM]

def bytesD (bs : List Nat) : List (List D) := bs.map fun (b : Nat) => [D.int .u8 (b : Int)]
theorem bytesD_get {bs : List Nat} {i : Nat} (h : i < bs.length) : (bytesD bs)[(i : Int).toNat]? = some [.int .u8 bs[i]] := by simp [bytesD, h]
/-- the input, as the model hands it over -/
def InD (bs : List Nat) (v : D) : Prop := slLen v = some bs.length ∧ (bs = [] ∨ v = .sl (bytesD bs)) ∧ ∀ b ∈ bs, b < 256

theorem stmtOf_enc_len (b : Nat) : (stmtOf b).enc.length = 12 := S.enc_len _
theorem bodyOf_snoc (bs : List Nat) (i k : Nat) (h : k < bs.length) : bodyOf (bs.take (k + 1)) i = if fr bs[k] = i then bodyOf (bs.take k) i ++ [stmtOf bs[k]] else bodyOf (bs.take k) i := by
  rw [bodyOf, List.take_succ_eq_append_getElem h, List.filter_append, List.map_append]
  by_cases hf : fr bs[k] = i
  · simp [hf, bodyOf]
  · simp [hf, bodyOf]
theorem encs_append (a b : List S) : S.encs (a ++ b) = S.encs a ++ S.encs b := by simp [S.encs_map]
theorem encs_one (s : S) : S.encs [s] = [s.enc] := by simp [S.encs]
theorem encs_lens (l : List S) : ∀ r ∈ S.encs l, r.length = 12 := by
  rw [S.encs_map]; intro r hr; obtain ⟨s, _, rfl⟩ := List.mem_map.1 hr; exact S.enc_len s
end Go.Proofs
