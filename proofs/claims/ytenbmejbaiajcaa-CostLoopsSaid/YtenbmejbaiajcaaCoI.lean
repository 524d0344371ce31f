import Derived.Test.YtenbmejbaiajcaaCoH
import Derived.Test.YtenbmejbaiajcaaMtW
namespace Go.Proofs
open Go.Mt
set_option maxRecDepth 4000
set_option linter.unusedSimpArgs false
set_option linter.unusedVariables false
instance : TyBoo Try.prog 4 := ⟨by kernel_rfl⟩

/-- the table of who reaches whom, in the heap -/
def outC : List M := [.rsl 1 0 7, .rsl 2 0 7, .rsl 3 0 7, .rsl 4 0 7, .rsl 5 0 7, .rsl 6 0 7, .rsl 7 0 7]
def rowC (R : Nat → Nat → Bool) (i : Nat) : List M := (List.range 7).map fun j => .d (.bool (R i j))
def HR (R : Nat → Nat → Bool) : Hp := .row false 1 0 outC :: (List.range 7).map fun i => .row false 1 0 (rowC R i)
def setR (R : Nat → Nat → Bool) (i j : Nat) (b : Bool) : Nat → Nat → Bool := fun x y => if x = i ∧ y = j then b else R x y
theorem outC_get (i : Nat) (h : i < 7) : outC[(i : Int).toNat * 1]? = some (.rsl (i + 1) 0 7) := by
  rcases i with _ | _ | _ | _ | _ | _ | _ | i <;> first | rfl | omega
theorem HR_row (R : Nat → Nat → Bool) (i : Nat) (h : i < 7) : (HR R)[i + 1]? = some (.row false 1 0 (rowC R i)) := by
  simp [HR, h]
theorem rowC_get (R : Nat → Nat → Bool) (i j : Nat) (h : j < 7) : (rowC R i)[(j : Int).toNat * 1]? = some (.d (.bool (R i j))) := by
  simp [rowC, h]
theorem rowC_write (R : Nat → Nat → Bool) (i j : Nat) (b : Bool) (h : j < 7) : writeAt (rowC R i) ((j : Int).toNat * 1) [.d (.bool b)] = some (rowC (setR R i j b) i) := by
  have e : (j : Int).toNat * 1 = j := by omega
  rw [e]
  rcases j with _ | _ | _ | _ | _ | _ | _ | j <;> first | (exfalso; omega) | (simp [writeAt, rowC, setR, List.range, List.range.loop, Nat.ble])
theorem HR_set (R : Nat → Nat → Bool) (i j : Nat) (b : Bool) (h : i < 7) : (HR R).set (i + 1) (.row false 1 0 (rowC (setR R i j b) i)) = HR (setR R i j b) := by
  have hne : ∀ x, x ≠ i → rowC (setR R i j b) x = rowC R x := by
    intro x hx
    simp [rowC, setR, hx]
  simp only [HR, List.set_cons_succ]
  congr 1
  apply List.ext_getElem
  · simp
  · intro n h1 h2
    simp at h1
    by_cases hn : n = i
    · subst hn; simp
    · simp [List.getElem_set, hn, hne n hn, Ne.symm hn]

/-- the loop's head while the rows are made -/
def H0 (n : Nat) : Hp := .row false 1 0 ((List.range 7).map fun j => if j < n then .rsl (j + 1) 0 7 else .d (.sl [])) :: List.replicate n (.row false 1 0 ((List.range 7).map fun _ => .d (.bool false)))
theorem H0_7 : H0 7 = HR fun _ _ => false := rfl

def step (R : Nat → Nat → Bool) (k i j : Nat) : Nat → Nat → Bool := setR R i j (R i j || (R i k && R k j))
def wJ (R : Nat → Nat → Bool) (k i n : Nat) : Nat → Nat → Bool := (List.range n).foldl (fun R j => step R k i j) R
def wI (R : Nat → Nat → Bool) (k n : Nat) : Nat → Nat → Bool := (List.range n).foldl (fun R i => wJ R k i 7) R
def wK (R : Nat → Nat → Bool) (n : Nat) : Nat → Nat → Bool := (List.range n).foldl (fun R k => wI R k 7) R
theorem wJ_succ (R : Nat → Nat → Bool) (k i n : Nat) : wJ R k i (n + 1) = step (wJ R k i n) k i n := by simp [wJ, List.range_succ, List.foldl_append]
theorem wI_succ (R : Nat → Nat → Bool) (k n : Nat) : wI R k (n + 1) = wJ (wI R k n) k n 7 := by simp [wI, List.range_succ, List.foldl_append]
theorem wK_succ (R : Nat → Nat → Bool) (n : Nat) : wK R (n + 1) = wI (wK R n) n 7 := by simp [wK, List.range_succ, List.foldl_append]
def edges (bs : List Nat) : Nat → Nat → Bool := bs.foldl (fun R b => setR R (fr b) (to b) true) fun _ _ => false
def upS (bs : List Nat) : Bool := bs.foldl (fun u b => bif u then decide (to b < fr b) else false) true
theorem edges_succ (bs : List Nat) (n : Nat) (h : n < bs.length) : edges (bs.take (n + 1)) = setR (edges (bs.take n)) (fr bs[n]) (to bs[n]) true := by
  rw [List.take_succ_eq_append_getElem h]; simp only [edges, List.foldl_append, List.foldl_cons, List.foldl_nil]
theorem upS_succ (bs : List Nat) (n : Nat) (h : n < bs.length) : upS (bs.take (n + 1)) = bif upS (bs.take n) then decide (to bs[n] < fr bs[n]) else false := by
  rw [List.take_succ_eq_append_getElem h]; simp only [upS, List.foldl_append, List.foldl_cons, List.foldl_nil]
def badK (R : Nat → Nat → Bool) (i n : Nat) : Bool := (List.range n).foldl (fun b k => bif b then true else bif (bif k == i then true else R i k) then R k k else false) (R i 6)
theorem badK_succ (R : Nat → Nat → Bool) (i n : Nat) : badK R i (n + 1) = bif badK R i n then true else bif (bif n == i then true else R i n) then R n n else false := by simp [badK, List.range_succ, List.foldl_append]
def badS (R : Nat → Nat → Bool) (i : Nat) : Bool := badK R i 6
end Go.Proofs
