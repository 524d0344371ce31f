/- Programs that are made: what they are, and how they are made. Plain; no program is in sight here. -/
import Derived.Test.YtcmjcdiaidalgaaLibI
set_option linter.unusedVariables false
set_option linter.unusedSimpArgs false
set_option linter.unusedSectionVars false
set_option linter.unusedVariables false
namespace Go.Mk
open Go.Mt

abbrev Nm := ByteArray
inductive Ty where
  | bool | int | col
  deriving DecidableEq
abbrev colN : Nm := ⟨#[99, 111, 108]⟩
def Ty.kind : Ty → Int
  | .bool => 1 | .int => 2 | .col => 3
def Ty.nm : Ty → Nm
  | .bool => ⟨#[]⟩ | .int => ⟨#[]⟩ | .col => colN
abbrev Ty.cells (t : Ty) : List D := [.int .u8 t.kind, .str t.nm]
abbrev redN : Nm := ⟨#[82, 101, 100]⟩
abbrev greenN : Nm := ⟨#[71, 114, 101, 101, 110]⟩
abbrev blueN : Nm := ⟨#[66, 108, 117, 101]⟩
/-- expressions -/
inductive E where
  | nil
  | int (n : Int) | bool (n : Int) | ctor (s : Nm) | var (s : Nm) | last (s : Nm)
  | un (op : Int) (a : E) | bin (op : Int) (a b : E) | ite (a b c : E)
  | fby (a b : E) | pre (a : E) | arrow (a b : E)
  | whn (x c : Nm) (a : E) | merge (x c1 c2 c3 : Nm) (a b c : E)
abbrev exC (k op n : Int) (s : Nm) (names kids : List (List D)) : List D := [.int .u8 k, .int .u8 op, .int .i32 n, .str s, .sl names, .sl kids, .int .i64 0, .int .i64 0]
def E.cells : E → List D
  | .nil => exC 0 0 0 ⟨#[]⟩ [] []
  | .int n => exC 1 0 n ⟨#[]⟩ [] []
  | .bool n => exC 2 0 n ⟨#[]⟩ [] []
  | .ctor s => exC 3 0 0 s [] []
  | .var s => exC 4 0 0 s [] []
  | .last s => exC 5 0 0 s [] []
  | .un op a => exC 6 op 0 ⟨#[]⟩ [] [a.cells]
  | .bin op a b => exC 7 op 0 ⟨#[]⟩ [] [a.cells, b.cells]
  | .ite a b c => exC 8 0 0 ⟨#[]⟩ [] [a.cells, b.cells, c.cells]
  | .fby a b => exC 9 0 0 ⟨#[]⟩ [] [a.cells, b.cells]
  | .pre a => exC 10 0 0 ⟨#[]⟩ [] [a.cells]
  | .arrow a b => exC 11 0 0 ⟨#[]⟩ [] [a.cells, b.cells]
  | .whn x c a => exC 12 0 0 x [[.str c]] [a.cells]
  | .merge x c1 c2 c3 a b c => exC 13 0 0 x [[.str c1], [.str c2], [.str c3]] [a.cells, b.cells, c.cells]
theorem E.shape (e : E) : ∃ k op n s names kids, e.cells = exC k op n s names kids := by cases e <;> exact ⟨_, _, _, _, _, _, rfl⟩
theorem E.len (e : E) : e.cells.length = 8 := by obtain ⟨k, op, n, s, a, b, h⟩ := e.shape; rw [h]; rfl
/-- variables -/
structure Va where
  name : Nm
  ty : Ty
  clock : Option (Nm × Nm)
  last : Bool
  first : E
def ckC : Option (Nm × Nm) → List (List D)
  | none => []
  | some (c, x) => [[.str c, .str x]]
def Va.cells (v : Va) : List D := [.str v.name, .int .u8 v.ty.kind, .str v.ty.nm, .sl (ckC v.clock), .bool v.last] ++ v.first.cells ++ [.int .i64 0, .int .i64 0]
theorem Va.len (v : Va) : v.cells.length = 15 := by simp [Va.cells, E.len]
def vasC (l : List Va) : List (List D) := l.map Va.cells
theorem vasC_len (l : List Va) : (vasC l).length = l.length := by simp [vasC]
theorem vasC_lens (l : List Va) : ∀ r ∈ vasC l, r.length = 15 := by intro r hr; obtain ⟨_, _, rfl⟩ := List.mem_map.1 hr; exact Va.len _
theorem vasC_append (a b : List Va) : vasC (a ++ b) = vasC a ++ vasC b := by simp [vasC]
theorem vasC_get {l : List Va} {i : Nat} (h : i < l.length) : (vasC l)[(i : Int).toNat]? = some l[i].cells := by simp [vasC, h]
/-- equations -/
structure Tr where
  e : E
  to : Nm
  res : Bool
def Tr.cells (t : Tr) : List D := t.e.cells ++ [.str t.to, .bool t.res, .int .i64 0, .int .i64 0]
mutual
inductive Eqn where
  | df (x : Nm) (e : E)
  | call (x y f : Nm) (a b : E) (has : Bool) (e : E)
  | sw (e : E) (arms : List Arm)
  | auto (arms : List Arm)
  | reset (e : E) (b : Blk)
inductive Arm where
  | mk (name : Nm) (b : Blk) (unl unt : List Tr)
inductive Blk where
  | mk (vars : List Va) (eqs : List Eqn)
end
abbrev eqC (k : Int) (lhs : List (List D)) (name : Nm) (args : List (List D)) (has : Bool) (e : List D) (arms : List (List D)) : List D := [.int .u8 k, .sl lhs, .str name, .sl args, .bool has] ++ e ++ [.sl arms, .int .i64 0, .int .i64 0]
def trsC (l : List Tr) : List (List D) := l.map Tr.cells
mutual
def Eqn.cells : Eqn → List D
  | .df x e => eqC 1 [[.str x]] ⟨#[]⟩ [] false e.cells []
  | .call x y f a b has e => eqC 2 [[.str x], [.str y]] f [a.cells, b.cells] has e.cells []
  | .sw e arms => eqC 3 [] ⟨#[]⟩ [] false e.cells (armsC arms)
  | .auto arms => eqC 4 [] ⟨#[]⟩ [] false E.nil.cells (armsC arms)
  | .reset e b => eqC 5 [] ⟨#[]⟩ [] false e.cells [[.str ⟨#[]⟩] ++ b.cells ++ [.sl [], .sl [], .int .i64 0, .int .i64 0]]
def Arm.cells : Arm → List D
  | .mk name b unl unt => [.str name] ++ b.cells ++ [.sl (trsC unl), .sl (trsC unt), .int .i64 0, .int .i64 0]
def armsC : List Arm → List (List D)
  | [] => []
  | a :: l => a.cells :: armsC l
def Blk.cells : Blk → List D
  | .mk vars eqs => [.sl (vasC vars), .sl (eqsC eqs)]
def eqsC : List Eqn → List (List D)
  | [] => []
  | q :: l => q.cells :: eqsC l
end
theorem armsC_map (l : List Arm) : armsC l = l.map Arm.cells := by induction l with
  | nil => rfl
  | cons a l ih => simp [armsC, ih]
theorem eqsC_map (l : List Eqn) : eqsC l = l.map Eqn.cells := by induction l with
  | nil => rfl
  | cons a l ih => simp [eqsC, ih]
theorem Blk.shape (b : Blk) : ∃ v q, b.cells = [.sl v, .sl q] := by cases b; exact ⟨_, _, by rw [Blk.cells]⟩
theorem Eqn.len (q : Eqn) : q.cells.length = 16 := by cases q <;> rw [Eqn.cells] <;> simp [eqC, E.len]
theorem Arm.len (a : Arm) : a.cells.length = 7 := by
  obtain ⟨name, b, u, w⟩ := a
  obtain ⟨v, q, h⟩ := b.shape
  rw [Arm.cells, h]; rfl
/-- nodes, programs -/
structure Nd where
  name : Nm
  ins : List Va
  outs : List Va
  b : Blk
def Nd.cells (n : Nd) : List D := [.str n.name, .sl (vasC n.ins), .sl (vasC n.outs)] ++ n.b.cells ++ [.int .i64 0, .int .i64 0]
def ndsC (l : List Nd) : List (List D) := l.map Nd.cells
abbrev colE : List D := [.str colN, .sl [[.str redN], [.str greenN], [.str blueN]], .int .i64 0, .int .i64 0]
abbrev progC (l : List Nd) : List D := [.sl [colE], .sl (ndsC l)]

/-- digits -/
def dg (n : Nat) : Nm := if h : n < 10 then strOfNums [IntKind.u8.wrap (48 + (n : Int))] else dg (n / 10) ++ strOfNums [IntKind.u8.wrap (48 + ((n % 10 : Nat) : Int))]
theorem dg_size (n : Nat) : (dg n).size ≤ n + 1 := by
  induction n using Nat.strongRecOn with
  | ind n ih =>
    rw [dg]
    split
    · simp [strOfNums, ByteArray.size]
    · have := ih (n / 10) (by omega)
      rw [ByteArray.size_append]
      have h2 : (strOfNums [IntKind.u8.wrap (48 + ((n % 10 : Nat) : Int))]).size = 1 := by simp [strOfNums, ByteArray.size]
      omega
/-- a name: a letter, and a number -/
def nm (c : UInt8) (k : Nat) : Nm := ⟨#[c]⟩ ++ dg k

/-- what can be read -/
structure Sc where
  ready : List Va
  all : List Va
  lasts : List Va
abbrev Sc.cells (s : Sc) : List D := [.sl (vasC s.ready), .sl (vasC s.all), .sl (vasC s.lasts)]
def Sc.more (s : Sc) (l : List Va) : Sc := ⟨s.ready ++ l, s.all, s.lasts⟩
inductive GC : Ty → E → Prop where
  | bool {n : Int} (h : n = 0 ∨ n = 1) : GC .bool (.bool n)
  | int {n : Int} (h : n ∈ [(0 : Int), 1, 2, -1, 7, -2147483648]) : GC .int (.int n)
  | col {s : Nm} (h : s ∈ [redN, greenN, blueN]) : GC .col (.ctor s)
def Pick (l : List Va) (t : Ty) (x : Nm) : Prop := ∃ v ∈ l, v.ty = t ∧ v.clock = none ∧ v.name = x
inductive GV (l : List Va) (t : Ty) : E → Prop where
  | con {e : E} (h : GC t e) : GV l t e
  | var {x : Nm} (h : Pick l t x) : GV l t (.var x)
/-- expressions of a type; st: may they keep something? -/
inductive GE : Sc → Ty → Bool → Nat → E → Prop where
  | v {s t st d e} (h : GV s.ready t e) : GE s t st d e
  | c {s t st d e} (h : GC t e) : GE s t st (d + 1) e
  | ite {s t st d c a b} (hc : GE s .bool st d c) (ha : GE s t st d a) (hb : GE s t st d b) : GE s t st (d + 1) (.ite c a b)
  | fby {s t d c a} (hc : GC t c) (ha : GE ⟨s.all, s.all, s.lasts⟩ t true d a) : GE s t true (d + 1) (.fby c a)
  | arrow {s t d a b} (ha : GE s t true d a) (hb : GE ⟨s.all, s.all, s.lasts⟩ t true d b) : GE s t true (d + 1) (.arrow a (.pre b))
  | last {s t st d x} (h : Pick s.lasts t x) : GE s t st (d + 1) (.last x)
  | neg {s st d a} (ha : GE s .int st d a) : GE s .int st (d + 1) (.un 2 a)
  | arith {s st d a b} (op : Int) (ho : op ∈ [(3 : Int), 4, 5, 6, 7]) (ha : GE s .int st d a) (hb : GE s .int st d b) : GE s .int st (d + 1) (.bin op a b)
  | not {s st d a} (ha : GE s .bool st d a) : GE s .bool st (d + 1) (.un 1 a)
  | logic {s st d a b} (op : Int) (u : Ty) (ho : op ∈ [(8 : Int), 9, 10] ∧ u = .bool ∨ op ∈ [(13 : Int), 16] ∧ u = .int ∨ op = 11) (ha : GE s u st d a) (hb : GE s u st d b) : GE s .bool st (d + 1) (.bin op a b)
end Go.Mk
