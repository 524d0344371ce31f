import Derived.Tactics
import Derived.Orders
import Derived.Deep.LoopGhost
import Derived.Below
set_option linter.unusedVariables false
namespace Go.Mt

/-- Pure data: no reference to changing memory. -/
inductive D where
  | int (k : IntKind) (n : Int)
  | bool (b : Bool)
  | str (s : ByteArray)
  | sl (rows : List (List D))
  | slz
  | agg (cs : List D)
  | pim (cs : List D) (off : Nat)
  | fn (f : Nat) (cap : List D)
  | nilp | nilf | nili | nilm
  | ifc (t : Nat) (d : D)
  deriving Inhabited

/-- Values that may refer to the abstract heap. -/
inductive M where
  | d (x : D)
  | ref (i off : Nat)
  | rsl (i ver len : Nat)
  | rref (i ver off : Nat)
  | mp (i : Nat)
  | agg (cs : List M)
  | fn (f : Nat) (cap : List M)
  | tup (vs : List M)
  | undef
  deriving Inhabited

/-- What a slot holds: a value, or the address of a variable of the frame's own. -/
inductive V where
  | m (x : M)
  | loc (t off : Nat)
  deriving Inhabited

inductive Ob where
  | box (cs : List M)
  | row (acc : Bool) (ec ver : Nat) (cs : List M)
  | map (es : List (D × M))
  | dead
  | free
  deriving Inhabited

abbrev Hp := List Ob

def get {α : Type} : List (Nat × α) → Nat → Option α
  | [], _ => none
  | (k, v) :: r, t => bif Nat.beq k t then some v else get r t
def del {α : Type} : List (Nat × α) → Nat → List (Nat × α)
  | [], _ => []
  | (k, v) :: r, t => bif Nat.beq k t then del r t else (k, v) :: del r t
def put {α : Type} (l : List (Nat × α)) (t : Nat) (v : α) : List (Nat × α) := (t, v) :: del l t

/-- An abstract state of a running function: its slots, its own variables in memory, the heap. -/
structure St where
  sl : List (Nat × V)
  bx : List (Nat × List M)
  H : Hp

def tyAgg (P : Program) (t : Nat) : Option Bool :=
  match P.underlying t with
  | some (.struct _) => some true
  | some (.array _ _) => some true
  | some _ => some false
  | none => none
def tySize (P : Program) (t : Nat) : Option Nat := (P.info? t).map (·.size)
def tyBytes (P : Program) (t : Nat) : Option Nat := (P.info? t).map (·.bytes)

def dOfCell : Value → Option D
  | .int k n => some (.int k n)
  | .bool b => some (.bool b)
  | .string s => some (.str s)
  | .slice none 0 0 => some (.sl [])
  | .pointer none => some .nilp
  | .nilFunc => some .nilf
  | .nilIface => some .nili
  | .map none => some .nilm
  | _ => none
def dOfCells : List Value → Option (List D)
  | [] => some []
  | v :: r => match dOfCell v, dOfCells r with
    | some d, some ds => some (d :: ds)
    | _, _ => none
def dOfVal : Value → Option D
  | .agg cs => match dOfCells cs.toList with
    | some ds => some (.agg ds)
    | none => none
  | v => dOfCell v
def tyZero (P : Program) (t : Nat) : Option D :=
  match P.info? t with
  | some i => match i.zero with
    | some v => dOfVal v
    | none => none
  | none => none

/-- A slot's value under an operand. -/
def evs (sl : List (Nat × V)) : Operand → Option V
  | .tmp t => get sl t
  | .const v => match dOfVal v with
    | some d => some (.m (.d d))
    | none => none
  | .func f => some (.m (.d (.fn f [])))
  | .global _ => none
def St.ev (s : St) (x : Operand) : Option V := evs s.sl x

def dcells : D → List D
  | .agg cs => cs
  | d => [d]
def cellsOf : M → List M
  | .d x => (dcells x).map .d
  | .agg cs => cs
  | m => [m]
def allD : List M → Option (List D)
  | [] => some []
  | .d x :: r => (allD r).map (x :: ·)
  | _ => none
def pack (cs : List M) : M :=
  match allD cs with
  | some ds => .d (.agg ds)
  | none => .agg cs
/-- the variable of type t at offset off of a row of cells -/
def readAt (P : Program) (t : Nat) (cs : List M) (off : Nat) : Option M :=
  match tyAgg P t, tySize P t with
  | some true, some n => bif Nat.ble (off + n) cs.length then some (pack ((cs.drop off).take n)) else none
  | some false, _ => cs[off]?
  | _, _ => none
def readD (P : Program) (t : Nat) (cs : List D) (off : Nat) : Option D :=
  match tyAgg P t, tySize P t with
  | some true, some n => bif Nat.ble (off + n) cs.length then some (.agg ((cs.drop off).take n)) else none
  | some false, _ => cs[off]?
  | _, _ => none
def writeAt (cs : List M) (off : Nat) (new : List M) : Option (List M) :=
  bif Nat.ble (off + new.length) cs.length then some (cs.take off ++ new ++ cs.drop (off + new.length)) else none

def chunk (ec : Nat) : Nat → List M → Option (List (List D))
  | 0, [] => some []
  | 0, _ => none
  | n + 1, cs => match allD (cs.take ec), chunk ec n (cs.drop ec) with
    | some r, some rs => some (r :: rs)
    | _, _ => none

/-- a value of one cell -/
def flat : Value → Bool
  | .agg _ => false
  | .tuple _ => false
  | _ => true

end Go.Mt
