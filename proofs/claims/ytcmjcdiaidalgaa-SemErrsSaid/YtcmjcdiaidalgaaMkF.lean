/- Blocks, equations, nodes and programs that are made; plain. -/
import Derived.Test.YtcmjcdiaidalgaaMkE
set_option linter.unusedVariables false
set_option linter.unusedSimpArgs false
set_option linter.unusedSectionVars false
set_option linter.unusedVariables false
namespace Go.Mk
open Go.Mt

/-- a block's own variables -/
inductive NV (n : Nat) : List Va → Nat → Prop where
  | nil : NV n [] n
  | snoc {vs : List Va} {n1 : Nat} (h : NV n vs n1) (w : Va) (hw : w.name = nm 118 (n1 + 1)) (hc : w.clock = none) (hl : w.last = false ∧ w.first = .nil ∨ w.last = true ∧ GC w.ty w.first) : NV n (vs ++ [w]) (n1 + 1)
def addLasts (l : List Va) : List Va → List Va
  | [] => l
  | w :: r => addLasts (if w.last && !(l.any fun u => decide (u.name = w.name)) then l ++ [w] else l) r
theorem addLasts_snoc (l : List Va) (r : List Va) (w : Va) : addLasts l (r ++ [w]) = (if w.last && !((addLasts l r).any fun u => decide (u.name = w.name)) then addLasts l r ++ [w] else addLasts l r) := by
  induction r generalizing l with
  | nil => rfl
  | cons a r ih => simp only [List.cons_append, addLasts]; exact ih _
/-- all but some that have a last value -/
inductive LS : List Va → List Va → Prop where
  | nil : LS [] []
  | keep {a b : List Va} (h : LS a b) (w : Va) : LS (a ++ [w]) (b ++ [w])
  | drop {a b : List Va} (h : LS a b) (w : Va) (hl : w.last = true) : LS (a ++ [w]) b
theorem LS.refl_rev : ∀ l : List Va, LS l.reverse l.reverse
  | [] => .nil
  | a :: l => by rw [List.reverse_cons]; exact .keep (refl_rev l) a
theorem LS.refl (l : List Va) : LS l l := by have := LS.refl_rev l.reverse; simpa using this
theorem LS.len {a b : List Va} (h : LS a b) : b.length ≤ a.length := by
  induction h with
  | nil => simp
  | keep h w ih => simp; omega
  | drop h w hl ih => simp; omega
abbrev Sc.arm (s : Sc) : Sc := ⟨s.ready, [], s.lasts⟩
/-- ways out of a state, of N states -/
def GWays (s : Sc) (N : Nat) (l : List Tr) : Prop := l.length ≤ 2 ∧ ∀ t ∈ l, GE s.arm .bool false 2 t.e ∧ ∃ k, k < N ∧ t.to = nm 83 k
abbrev trueN : Nm := ⟨#[116, 114, 117, 101]⟩
abbrev falseN : Nm := ⟨#[102, 97, 108, 115, 101]⟩
section
variable (Sub : Sc → List Va → Nat → Nat → Blk → Prop)
inductive GArms (s : Sc) (outs : List Va) (names : List Nm) (n : Nat) : List Arm → Nat → Prop where
  | nil : GArms s outs names n [] n
  | snoc {arms : List Arm} {n1 n2 : Nat} (h : GArms s outs names n arms n1) (c : Nm) (hn : names[arms.length]? = some c) (l : List Va) (hl : LS outs l) (h0 : arms = [] → l = outs) (b : Blk) (hb : Sub s.arm l n1 n2 b) : GArms s outs names n (arms ++ [.mk c b [] []]) n2
inductive GSts (s : Sc) (outs : List Va) (N : Nat) (n : Nat) : List Arm → Nat → Prop where
  | nil : GSts s outs N n [] n
  | snoc {arms : List Arm} {n1 n2 : Nat} (h : GSts s outs N n arms n1) (l : List Va) (hl : LS outs l) (h0 : arms = [] → l = outs) (unl : List Tr) (hu : GWays s N unl) (b : Blk) (hb : Sub s.arm l n1 n2 b) (unt : List Tr) (hw : GWays (s.more l) N unt) : GSts s outs N n (arms ++ [.mk (nm 83 arms.length) b unl unt]) n2
inductive Defs (s : Sc) : List Va → List Eqn → Prop where
  | nil : Defs s [] []
  | snoc {l : List Va} {q : List Eqn} (h : Defs s l q) (w : Va) (e : E) (he : GE s w.ty true 3 e) : Defs s (l ++ [w]) (q ++ [.df w.name e])
abbrev newV (c : UInt8) (k : Nat) (t : Ty) : Va := ⟨nm c k, t, none, false, .nil⟩
/-- equations for some variables, and variables that they need -/
inductive GQ (subs : Nat) : Sc → List Va → Nat → Nat → List Eqn → List Va → Prop where
  | defs {s outs n q} (h : Defs s outs q) : GQ subs s outs n n q []
  | swCol {s outs n n' e arms} (he : GE s .col true 2 e) (ha : GArms Sub s outs [blueN, redN, greenN] n arms n') (hl : arms.length = 3) : GQ subs s outs n n' [.sw e arms] []
  | swBool {s outs n n' e arms} (he : GE s .bool true 2 e) (ha : GArms Sub s outs [trueN, falseN] n arms n') (hl : arms.length = 2) : GQ subs s outs n n' [.sw e arms] []
  | auto {s outs n n' arms} (N : Nat) (hN : 1 ≤ N ∧ N ≤ 3) (ha : GSts Sub s outs N n arms n') (hl : arms.length = N) : GQ subs s outs n n' [.auto arms] []
  | reset {s outs n n' e b} (he : GE s .bool true 2 e) (hb : Sub s outs n n' b) : GQ subs s outs n n' [.reset e b] []
  | call {s outs n n' l vs} (j : Nat) (hj : j < subs) (a b : E) (ha : GE s .int true 2 a) (hb : GE s .bool true 2 b) (has : Bool) (e : E) (he : has = false ∧ e = .nil ∨ has = true ∧ GE s .bool true 2 e)
      (h : GQ subs (s.more [newV 117 (n + 1) .int, newV 117 (n + 2) .col]) outs (n + 2) n' l vs) :
      GQ subs s outs n n' (.call (nm 117 (n + 1)) (nm 117 (n + 2)) (nm 102 j) a b has e :: l) (newV 117 (n + 1) .int :: newV 117 (n + 2) .col :: vs)
  | sampled {s outs n n' l vs} (a b k k2 e keep : E) (ha : GE s .int false 2 a) (hb : GE s .int false 2 b) (hk : GC .int k) (hk2 : GC .int k2) (he : GE s .col true 3 e)
      (hkeep : keep = .whn (nm 99 (n + 1)) redN a ∨ keep = .fby k2 (.bin 3 (.var (nm 119 (n + 2))) (.whn (nm 99 (n + 1)) redN a)))
      (h : GQ subs (s.more [newV 99 (n + 1) .col, newV 122 (n + 3) .int]) outs (n + 3) n' l vs) :
      GQ subs s outs n n' (.df (nm 99 (n + 1)) e :: .df (nm 119 (n + 2)) keep :: .df (nm 122 (n + 3)) (.merge (nm 99 (n + 1)) greenN redN blueN (.whn (nm 99 (n + 1)) greenN b) (.var (nm 119 (n + 2))) k) :: l)
        (newV 99 (n + 1) .col :: ⟨nm 119 (n + 2), .int, some (redN, nm 99 (n + 1)), false, .nil⟩ :: newV 122 (n + 3) .int :: vs)
end
/-- group by group -/
inductive GL (Q : Sc → List Va → Nat → Nat → List Eqn → List Va → Prop) (s0 : Sc) (t0 : List Va) (n0 : Nat) : Sc → List Va → Nat → List Eqn → List Va → Prop where
  | start : GL Q s0 t0 n0 s0 t0 n0 [] []
  | step {s todo n n1 q vs q1 vs1} (h : GL Q s0 t0 n0 s todo n q vs) (k : Nat) (h1 : 1 ≤ k) (h3 : k ≤ 3) (hk : k ≤ todo.length) (hq : Q s (todo.take k) n n1 q1 vs1) : GL Q s0 t0 n0 (s.more (todo.take k)) (todo.drop k) n1 (q ++ q1) (vs ++ vs1)
def in0 (s : Sc) (vs outs : List Va) : Sc := ⟨s.ready, s.ready ++ vs ++ outs, addLasts s.lasts (vs ++ outs)⟩
def GBs (Q : Sc → List Va → Nat → Nat → List Eqn → List Va → Prop) (s : Sc) (outs : List Va) (n n' : Nat) (b : Blk) : Prop :=
  ∃ vs n1 s' q vars, NV n vs n1 ∧ vs.length ≤ 3 ∧ GL Q (in0 s vs outs) (vs ++ outs) n1 s' [] n' q vars ∧ b = .mk (vs ++ vars) q
def GB (subs : Nat) : Nat → Sc → List Va → Nat → Nat → Blk → Prop
  | 0 => GBs (GQ (fun _ _ _ _ _ => False) subs)
  | d + 1 => GBs (GQ (GB subs d) subs)
def aV : Va := ⟨⟨#[97]⟩, .int, none, false, .nil⟩
def bV : Va := ⟨⟨#[98]⟩, .bool, none, false, .nil⟩
def yV : Va := ⟨⟨#[121]⟩, .col, none, false, .nil⟩
/-- the k-th node -/
def GN (k : Nat) (d : Nd) : Prop := d.name = nm 102 k ∧ d.ins = [aV, bV] ∧ (∃ (last : Bool) (first : E), (last = false ∧ first = .nil ∨ last = true ∧ GC .int first) ∧ d.outs = [⟨⟨#[120]⟩, .int, none, last, first⟩, yV]) ∧ ∃ n', n' ≤ 3000 ∧ GB k 3 ⟨d.ins, [], []⟩ d.outs 0 n' d.b
def GP (l : List Nd) : Prop := 1 ≤ l.length ∧ l.length ≤ 3 ∧ ∀ (k : Nat) (d : Nd), l[k]? = some d → GN k d
end Go.Mk
