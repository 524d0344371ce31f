/- A reckoner over the abstract heap: what a run of a function does, as a function of Lean (definitions; the proofs that it is right stand in the texts behind). -/
import Derived.Test.YtjhinemdonddoaaMtEd
set_option linter.unusedVariables false
set_option linter.unusedSimpArgs false
namespace Go.Mt

/-- an answer, or where and why there is none -/
inductive R (α : Type) where
  | ok (a : α)
  | no (why : List Nat)
  deriving Inhabited

def R.at {α : Type} (n : Nat) : R α → R α
  | .ok a => .ok a
  | .no w => .no (n :: w)

/-- what an operation does: a value; it reads or writes a variable of the frame's own; it makes one; it reads an object of the heap, or all; it changes one, lays a new one; a call (with the old objects that it wrote) -/
inductive Dn where
  | val (v : V)
  | ld (t : Nat) (k : List M → R V)
  | st (t : Nat) (k : List M → R (List M))
  | nw (cs : List M)
  | rd (i : Nat) (k : Ob → R V)
  | rda (k : Hp → R V)
  | up (all : Bool) (i : Nat) (k : Hp → Ob → R (V × Ob))
  | al (all : Bool) (k : Hp → R Ob) (mk : Nat → V)
  | cl (k : Hp → R (V × Hp × List Nat))

structure Cfg where
  P : Program
  call : Nat → List M → Hp → R (M × Hp × List Nat)
  pure : Nat → List D → R (List D)
  heapF : Nat → Bool
  hint : Nat → Nat
  sum : Nat → List D → Option (List D)

def ofO {α : Type} (w : Nat) : Option α → R α
  | some a => .ok a
  | none => .no [w]

def listEqB : List UInt8 → List UInt8 → Bool
  | [], [] => true
  | a :: r, b :: s => bif Nat.beq a.toNat b.toNat then listEqB r s else false
  | _, _ => false
def strEqB (s u : ByteArray) : Bool := listEqB s.data.toList u.data.toList
def catB (s u : ByteArray) : ByteArray := ⟨⟨s.data.toList ++ u.data.toList⟩⟩

def lookE (k : ByteArray) : List (D × M) → Option M
  | [] => none
  | (.str s, m) :: r => bif strEqB s k then some m else lookE k r
  | _ :: r => lookE k r
def updE (k : ByteArray) (v : M) : List (D × M) → List (D × M)
  | [] => [(.str k, v)]
  | (.str s, m) :: r => bif strEqB s k then (.str k, v) :: r else (.str s, m) :: updE k v r
  | x :: r => x :: updE k v r

/-- a part of a string -/
def subB (s : ByteArray) (l h : Nat) : ByteArray := ⟨⟨(s.data.toList.drop l).take (h - l)⟩⟩
def kindEqB (a b : IntKind) : Bool := decide (a = b)

/-- operators on data -/
def binD (op : BinOp) : D → D → R D
  | .int k m, .int k' n =>
    match op with
    | .shl => bif decide (n < 0) then .no [101] else .ok (.int k (k.wrap (m * 2 ^ (min n.toNat k.bits))))
    | .shr => bif decide (n < 0) then .no [102] else .ok (.int k (m.fdiv (2 ^ (min n.toNat k.bits))))
    | .quo => bif kindEqB k k' then (bif n == 0 then .no [103] else .ok (.int k (k.wrap (m.tdiv n)))) else .no [104]
    | .rem => bif kindEqB k k' then (bif n == 0 then .no [105] else .ok (.int k (m.tmod n))) else .no [106]
    | .and => bif kindEqB k k' then .ok (.int k (k.wrap (BitVec.ofInt k.bits m &&& BitVec.ofInt k.bits n).toNat)) else .no [107]
    | .or => bif kindEqB k k' then .ok (.int k (k.wrap (BitVec.ofInt k.bits m ||| BitVec.ofInt k.bits n).toNat)) else .no [107]
    | .xor => bif kindEqB k k' then .ok (.int k (k.wrap (BitVec.ofInt k.bits m ^^^ BitVec.ofInt k.bits n).toNat)) else .no [107]
    | op => bif kindEqB k k' then ofO 108 (intBin op k m n) else .no [109]
  | .str s, .str u =>
    match op with
    | .eql => .ok (.bool (strEqB s u))
    | .neq => .ok (.bool (!strEqB s u))
    | .add => bif Nat.ble (s.size + u.size) 9223372036854775807 then .ok (.str (catB s u)) else .no [110]
    | .lss => .ok (.bool (Op.bytesLess s.toList u.toList))
    | _ => .no [111]
  | _, _ => .no [113]

/-- kinds of types that have a nil: pointers, maps, functions; and the booleans -/
def tyRef (P : Program) (t : Nat) : Nat := match P.underlying t with
  | some (.pointer _) => 1
  | some (.map _ _) => 2
  | some (.func _ _ _) => 3
  | some .bool => 4
  | some (.interface _) => 5
  | some (.slice _) => 6
  | _ => 0
/-- a pointer to something that takes room -/
def tyPtrOk (P : Program) (t : Nat) : Bool := match P.underlying t with
  | some (.pointer e) => (match tySize P e with
    | some n => Nat.blt 0 n
    | none => false)
  | _ => false
/-- is it the nil of its type? -/
def nilOf : Nat → V → Option Bool
  | 1, .loc _ _ => some false
  | 1, .m (.ref _ _) => some false
  | 1, .m (.rref _ _ _) => some false
  | 1, .m (.d (.pim _ _)) => some false
  | 1, .m (.d .nilp) => some true
  | 2, .m (.mp _) => some false
  | 2, .m (.d .nilm) => some true
  | 3, .m (.d (.fn _ _)) => some false
  | 3, .m (.fn _ _) => some false
  | 3, .m (.d .nilf) => some true
  | 5, .m (.d .nili) => some true
  | 5, .m (.d (.ifc _ _)) => some false
  | _, _ => none

/-- is it the nil that stands in the text? -/
def nilText : Operand → Bool
  | .const .nilIface => true
  | _ => false
def nilTextS : Operand → Bool
  | .const (.slice none 0 0) => true
  | _ => false
def denBin (P : Program) (op : BinOp) (xt : Nat) (yc ys : Bool) (v u : V) : R Dn :=
  match tyRef P xt with
  | 0 => (match v, u with
    | .m (.d a), .m (.d b) => (match a, b with
      | .bool _, _ => .no [118]
      | _, _ => (match binD op a b with | .ok r => .ok (.val (.m (.d r))) | .no w => .no w))
    | _, _ => .no [117])
  | 4 => (match v, u with
    | .m (.d (.bool a)), .m (.d (.bool b)) => (match op with
      | .eql => .ok (.val (.m (.d (.bool (a == b)))))
      | .neq => .ok (.val (.m (.d (.bool (!(a == b))))))
      | _ => .no [119])
    | _, _ => .no [116])
  | 5 => bif yc then (match nilOf 5 v with
    | some z => (match op with
      | .eql => .ok (.val (.m (.d (.bool z))))
      | .neq => .ok (.val (.m (.d (.bool (!z)))))
      | _ => .no [120])
    | none => .no [121]) else .no [122]
  | 6 => bif ys then (match v with
    | .m (.d (.sl (_ :: _))) => (match op with
      | .eql => .ok (.val (.m (.d (.bool false))))
      | .neq => .ok (.val (.m (.d (.bool true))))
      | _ => .no [123])
    | .m (.rsl j ver _) => .ok (.rd j fun ob => match ob with
      | .row _ _ ver' _ => bif Nat.beq ver ver' then (match op with
        | .eql => .ok (.m (.d (.bool false)))
        | .neq => .ok (.m (.d (.bool true)))
        | _ => .no [123]) else .no [124]
      | _ => .no [125])
    | _ => .no [126]) else .no [127]
  | k => (match nilOf k v, nilOf k u with
    | some z, some true => (match op with
      | .eql => .ok (.val (.m (.d (.bool z))))
      | .neq => .ok (.val (.m (.d (.bool (!z)))))
      | _ => .no [114])
    | _, _ => (match v, u with
      | .m (.ref i a), .m (.ref j b) => bif tyPtrOk P xt then (match op with
        | .eql => .ok (.val (.m (.d (.bool (Nat.beq i j && Nat.beq a b)))))
        | .neq => .ok (.val (.m (.d (.bool (!(Nat.beq i j && Nat.beq a b))))))
        | _ => .no [128]) else .no [129]
      | _, _ => .no [115]))

def evL (ev : Operand → Option V) : List Operand → Option (List M)
  | [] => some []
  | x :: r => match ev x with
    | some (.m m) => match evL ev r with
      | some ms => some (m :: ms)
      | none => none
    | _ => none
def partsL (ev : Operand → Option V) : List (Nat × Operand) → Option (List (Nat × M))
  | [] => some []
  | (i, x) :: r => match ev x with
    | some (.m m) => match partsL ev r with
      | some ms => some ((i, m) :: ms)
      | none => none
    | _ => none
def allP : List (Nat × M) → Bool
  | [] => true
  | (_, .d _) :: r => allP r
  | _ => false
def viewP (H : Hp) : List (Nat × M) → Option (List (Nat × M))
  | [] => some []
  | (i, m) :: r => match viewD H m with
    | some d => match viewP H r with
      | some ms => some ((i, .d d) :: ms)
      | none => none
    | none => none

/-- does it lead to what changes? -/
def toHeap : M → Bool
  | .ref _ _ => true
  | .rref _ _ _ => true
  | .mp _ => true
  | .agg cs => anyHeap cs
  | .fn _ cs => anyHeap cs
  | .tup cs => anyHeap cs
  | _ => false
where anyHeap : List M → Bool
  | [] => false
  | m :: r => toHeap m || anyHeap r

def isFnB (P : Program) (f : Nat) : Bool := match P.funcs[f]? with
  | some fn => !(fn.name == "runtime.NumGoroutine") && fn.body.isSome
  | none => false

def tyArr (P : Program) (t : Nat) : Option (Nat × Nat) := match P.underlying t with
  | some (.array len e) => some (len, e)
  | _ => none
/-- an address within -/
def addrAt (k : Nat) : V → Option V
  | .m (.d (.pim cs off)) => some (.m (.d (.pim cs (off + k))))
  | .loc t off => some (.loc t (off + k))
  | .m (.ref i off) => some (.m (.ref i (off + k)))
  | .m (.rref i ver off) => some (.m (.rref i ver (off + k)))
  | _ => none
/-- a field's type and place -/
def tyFieldTy (P : Program) (s f : Nat) : Option (Nat × Nat) :=
  match P.underlying s with
  | some (.struct fields) => match fields[f]? with
    | some fd => some (fd.type, fd.offset)
    | none => none
  | _ => none
def aggCells : M → Option (List M)
  | .d (.agg cs) => some (cs.map .d)
  | .agg cs => some cs
  | _ => none
/-- a call -/
def denCall (C : Cfg) (f : Nat) (ms : List M) : R Dn :=
  bif isFnB C.P f then
    bif (C.heapF f || toHeap.anyHeap ms) then (match allD ms with
      | some ds => (match C.sum f ds with
        | some rs => .ok (.val (.m (tupM (rs.map .d))))
        | none => .ok (.cl fun H => match C.call f ms H with | .ok (m, H', us) => .ok (.m m, H', us) | .no w => .no w))
      | none => .ok (.cl fun H => match C.call f ms H with | .ok (m, H', us) => .ok (.m m, H', us) | .no w => .no w)) else
    match allD ms with
    | some ds => (match C.pure f ds with | .ok rs => .ok (.val (.m (tupM (rs.map .d)))) | .no w => .no w)
    | none => .ok (.rda fun H => match viewL (viewD H) ms with
        | some ds => (match C.pure f ds with | .ok rs => .ok (.m (tupM (rs.map .d))) | .no w => .no w)
        | none => .no [201, f])
  else .no [202, f]

def tySliceE (P : Program) (t : Nat) : Option Nat := match P.underlying t with
  | some (.slice e) => some e
  | _ => none
def tyIsStr (P : Program) (t : Nat) : Bool := match P.underlying t with
  | some .string => true
  | _ => false
def tyIntE (P : Program) (t : Nat) : Option IntKind := match P.underlying t with
  | some (.int k) => some k
  | _ => none
def tyMapE (P : Program) (t : Nat) : Option Nat := match P.underlying t with
  | some (.map k e) => bif tyIsStr P k then some e else none
  | _ => none
def tyFieldE (P : Program) (s f : Nat) : Option Nat :=
  match P.underlying s with
  | some (.struct fields) => match fields[f]? with
    | some fd => match tySize P fd.type with
      | some n => bif n == 0 then none else some fd.offset
      | none => none
    | none => none
  | _ => none

def isD : M → Bool
  | .d _ => true
  | _ => false
/-- how many are to be appended -/
def srcLen : M → Option Nat
  | .d (.sl rows) => some rows.length
  | .d .slz => some 0
  | .rsl _ _ len => some len
  | _ => none
/-- append to a slice -/
def denAppend (C : Cfg) (d : Nat) (T U : Nat) (x y : M) : R Dn :=
  match tySliceE C.P T with
  | none => .no [301]
  | some e => match tySize C.P e, tyBytes C.P e, tyZero C.P e with
    | some n, some nb, some z =>
      bif (Nat.blt 0 n && Nat.beq (dcells z).length n && Nat.ble nb 1000000) then
        (bif Nat.beq T U then
          (match x, srcLen y with
          | .d (.sl []), some 0 => .ok (.rda fun H => match srcO H n y with
              | some (_, 0) => .ok (.m (.d (.sl [])))
              | _ => .no [302])
          | .d (.sl []), some (len + 1) => .ok (.al (!isD y) (fun H => match srcO H n y with
              | some (cs, k) => bif (Nat.beq k (len + 1) && Nat.ble k 100000000) then .ok (.row (!Nat.beq (C.hint d) 1) n 0 cs) else .no [303]
              | none => .no [304]) fun i => .m (.rsl i 0 (len + 1)))
          | .rsl j ver len, some k2 => .ok (.up (!isD y) j fun H ob => match srcO H n y, ob with
              | some (cs2, k), .row acc n' ver' cs => bif (Nat.beq n n' && Nat.beq ver ver' && Nat.ble (len + k) 100000000) then .ok (.m (.rsl j (ver + 1) (len + k)), .row acc n (ver + 1) (cs ++ cs2)) else .no [306]
              | _, _ => .no [307])
          | _, _ => .no [308, d])
        else match tyIntE C.P U, x, y with
          | some k0, .d (.sl []), .d (.int k1 (.ofNat len)) => bif (kindEqB k0 k1 && Nat.blt 0 len && Nat.ble len 100000000) then
              .ok (.al false (fun _ => .ok (.row false n 0 (List.replicate (len * n) .undef))) fun i => .m (.rsl i 0 len)) else .no [309]
          | _, _, _ => .no [310])
      else .no [311]
    | _, _, _ => .no [312]

def idxOk (i : Int) (len : Nat) : Option Nat := match i with
  | .ofNat k => bif Nat.blt k len then some k else none
  | _ => none

def denBuiltin (C : Cfg) (dst : Option Nat) (b : Builtin) (args : List M) (tys : List Nat) : R Dn :=
  match b, args, tys with
  | .len, [.d (.str s)], [t] => bif tyIsStr C.P t then .ok (.val (.m (.d (.int .i64 s.size)))) else .no [321]
  | .len, [.rsl j ver len], [t] => (match tySliceE C.P t with | some _ => .ok (.val (.m (.d (.int .i64 len)))) | none => .no [322])
  | .len, [.d d], [t] => (match tySliceE C.P t, slLen d with | some _, some n => .ok (.val (.m (.d (.int .i64 n)))) | _, _ => .no [323])
  | .cap, [.d (.sl [])], [t] => (match tySliceE C.P t with | some _ => .ok (.val (.m (.d (.int .i64 0)))) | none => .no [324])
  | .max, [.d (.int k m), .d (.int k' n)], [t1, t2] => bif kindEqB k k' then .ok (.val (.m (.d (.int k (if n > m then n else m))))) else .no [325]
  | .min, [.d (.int k m), .d (.int k' n)], [t1, t2] => bif kindEqB k k' then .ok (.val (.m (.d (.int k (if n < m then n else m))))) else .no [325]
  | .append, [x, y], [T, U] => denAppend C (dst.getD 0) T U x y
  | _, _, _ => .no [320]

def denLoad (C : Cfg) (T : Nat) : V → R Dn
  | .m (.d (.pim cs off)) => (match readD C.P T cs off with | some d => .ok (.val (.m (.d d))) | none => .no [331])
  | .loc t off => .ok (.ld t fun cs => match readAt C.P T cs off with | some m => .ok (.m m) | none => .no [332])
  | .m (.ref i off) => .ok (.rd i fun ob => match ob with
    | .box cs => (match readAt C.P T cs off with | some m => .ok (.m m) | none => .no [333])
    | _ => .no [334])
  | .m (.rref i ver off) => .ok (.rd i fun ob => match ob with
    | .row acc ec ver' cs => bif Nat.beq ver ver' then (match readAt C.P T cs off with | some m => .ok (.m m) | none => .no [335]) else .no [336]
    | _ => .no [337])
  | _ => .no [338]

def denStore (C : Cfg) (T : Nat) (a : V) (m : M) : R Dn :=
  match tySize C.P T, cellsO m with
  | some n, some new => bif Nat.beq new.length n then
      (match a with
      | .loc t off => .ok (.st t fun cs => ofO 341 (wr cs off new))
      | .m (.ref i off) => .ok (.up false i fun _ ob => match ob with
        | .box cs => (match wr cs off new with | some cs' => .ok (.m .undef, .box cs') | none => .no [342])
        | _ => .no [343])
      | .m (.rref i ver off) => .ok (.up false i fun _ ob => match ob with
        | .row false ec ver' cs => bif Nat.beq ver ver' then (match wr cs off new with | some cs' => .ok (.m .undef, .row false ec ver cs') | none => .no [344]) else .no [345]
        | _ => .no [346])
      | _ => .no [347])
    else .no [348]
  | _, _ => .no [349]

def heapP : List (Nat × M) → Bool
  | [] => false
  | (_, m) :: r => toHeap m || heapP r
def denBuildSlice (C : Cfg) (d : Nat) (T len : Nat) (ps : List (Nat × M)) : R Dn :=
  match tySliceE C.P T with
  | none => .no [351]
  | some e => match tySize C.P e, tyZero C.P e with
    | some n, some z => bif (Nat.blt 0 n && Nat.beq (dcells z).length n && Nat.ble (len * n) 16777216) then
        (bif (Nat.beq (C.hint d) 1 || heapP ps) then
          .ok (.al false (fun _ => match fillM (fun i => some (i * n, n)) (zlist n len (dcells z)) ps with
            | some cs => .ok (.row false n 0 cs)
            | none => .no [352]) fun i => .m (.rsl i 0 len))
        else bif allP ps then (match rowsO 0 ps with
          | some rows => bif (Nat.beq rows.length len && lenAll n rows) then .ok (.val (.m (.d (.sl rows)))) else .no [353]
          | none => .no [354])
        else .ok (.rda fun H => match viewP H ps with
          | some qs => (match rowsO 0 qs with
            | some rows => bif (Nat.beq rows.length len && lenAll n rows) then .ok (.m (.d (.sl rows))) else .no [355]
            | none => .no [356])
          | none => .no [357]))
      else .no [358]
    | _, _ => .no [359]

/-- a bound of a slice -/
def bound (ev : Operand → Option V) : Option Operand → Option (Option Nat)
  | none => some none
  | some y => match ev y with
    | some (.m (.d (.int _ (.ofNat i)))) => some (some i)
    | _ => none
/-- is it surely a slice? -/
def isSl : M → Bool
  | .d (.sl _) => true
  | .d .slz => true
  | .rsl _ _ _ => true
  | _ => false
/-- a part of a slice -/
def denSlice (C : Cfg) (T : Nat) (x : M) (lo hi mx : Option Nat) : R Dn :=
  match mx with
  | some k => (match lo, hi, k, tySliceE C.P T with
    | none, some 0, 0, some e => (match tySize C.P e with
      | some _ => bif isSl x then .ok (.val (.m (.d (.sl [])))) else .no [361]
      | none => .no [361])
    | _, _, _, _ => .no [361])
  | none => match x with
    | .d (.str s) => bif tyIsStr C.P T then (let l := lo.getD 0; let h := hi.getD s.size
        bif (Nat.ble l h && Nat.ble h s.size) then .ok (.val (.m (.d (.str (subB s l h))))) else .no [362]) else .no [371]
    | _ => match tySliceE C.P T with
      | none => .no [363]
      | some e => match tySize C.P e with
        | none => .no [364]
        | some n => match x with
          | .rsl j ver len => (match lo, hi with
            | none, some i => .ok (.up false j fun _ ob => match ob with
              | .row false n' ver' cs => bif (Nat.beq n n' && Nat.beq ver ver' && Nat.ble i len) then .ok (.m (.rsl j (ver + 1) i), .row false n (ver + 1) (cs.take (i * n))) else .no [365]
              | _ => .no [366])
            | _, _ => .no [367])
          | .d (.sl []) => (match lo, hi with
            | none, some 0 => .ok (.val (.m (.d (.sl []))))
            | _, _ => .no [368])
          | .d (.sl rows) => (let l := lo.getD 0; let h := hi.getD rows.length
            bif (Nat.ble l h && Nat.ble h rows.length && lenAll n rows) then
              (match (rows.drop l).take (h - l) with
              | [] => .ok (.val (.m (.d .slz)))
              | r => .ok (.val (.m (.d (.sl r))))) else .no [369])
          | _ => .no [370]

/-- what an operation does -/
def den (C : Cfg) (dst : Option Nat) (op : Op) (ev : Operand → Option V) : R Dn :=
  match op with
  | .move x => match ev x with | some v => .ok (.val v) | none => .no [1]
  | .assign x => match ev x with | some v => .ok (.val v) | none => .no [2]
  | .pick c x y => match ev c with
    | some (.m (.d (.bool b))) => (match ev (bif b then x else y) with | some v => .ok (.val v) | none => .no [3])
    | _ => .no [4]
  | .alloc T => match tyZero C.P T with
    | some z => bif Nat.beq (C.hint (dst.getD 0)) 1 then .ok (.al false (fun _ => .ok (.box ((dcells z).map .d))) fun i => .m (.ref i 0)) else .ok (.nw ((dcells z).map .d))
    | none => .no [5]
  | .box T x => match ev x with
    | some (.m m) => (match cellsO m with
      | some cs => bif Nat.beq (C.hint (dst.getD 0)) 1 then .ok (.al false (fun _ => .ok (.box cs)) fun i => .m (.ref i 0))
        else bif Nat.beq (C.hint (dst.getD 0)) 2 then (match m with | .d v => .ok (.val (.m (.d (.pim (dcells v) 0)))) | _ => .no [6])
        else .ok (.nw cs)
      | none => .no [7])
    | _ => .no [8]
  | .build T parts => match partsL ev parts.toList, tyPlaces C.P T, tyZero C.P T with
    | some ms, some ps, some (.agg z) => (match fillO ps (z.map .d) ms with | some cs => .ok (.val (.m (pack cs))) | none => .no [9])
    | some ms, none, some (.agg z) => (match tyArr C.P T with
      | some (_, e) => (match tySize C.P e with
        | some n => (match fillM (fun i => some (i * n, n)) (z.map .d) ms with | some cs => .ok (.val (.m (pack cs))) | none => .no [70])
        | none => .no [71])
      | none => .no [72])
    | _, _, _ => .no [10]
  | .buildSlice T len parts => match partsL ev parts.toList with
    | some ms => denBuildSlice C (dst.getD 0) T len ms
    | none => .no [11]
  | .load T a => match ev a with | some v => denLoad C T v | none => .no [12]
  | .store T a x => match ev a, ev x with | some v, some (.m m) => denStore C T v m | _, _ => .no [13]
  | .nilCheck x => match ev x with | some v => bif ptrOk v then .ok (.val v) else .no [14] | none => .no [15]
  | .binOp o xt x y _ => match ev x, ev y with
    | some v, some u => denBin C.P o xt (nilText y) (nilTextS y) v u
    | _, _ => .no [64]
  | .unOp o _ x => match o, ev x with
    | .not, some (.m (.d (.bool b))) => .ok (.val (.m (.d (.bool (!b)))))
    | .neg, some (.m (.d (.int k n))) => .ok (.val (.m (.d (.int k (k.wrap (-n))))))
    | _, _ => .no [16]
  | .convert s t x => match ev x with
    | some (.m (.d (.int k n))) => (match tyIntE C.P s, tyIntE C.P t with | some _, some k' => .ok (.val (.m (.d (.int k' (k'.wrap n))))) | _, _ => .no [18])
    | some (.m m) => (match tySliceE C.P s with
      | some e => bif tyIsStr C.P t then (match tyIntE C.P e with
        | some .u8 => .ok (.rda fun H => match viewD H m with
          | some (.sl rows) => (match bytesO rows with | some ns => .ok (.m (.d (.str (strOfNums ns)))) | none => .no [19])
          | _ => .no [20])
        | _ => .no [21]) else .no [22]
      | none => .no [23])
    | _ => .no [24]
  | .makeFunc fn first caps => match fn, first.toList with
    | .func f, [] => (match evL ev caps.toList with
      | some ms => (match allD ms with | some ds => .ok (.val (.m (.d (.fn f ds)))) | none => .ok (.val (.m (.fn f ms))))
      | none => .no [25])
    | _, _ => .no [65]
  | .makeMap T r => match r with
    | some _ => .no [66]
    | none => .ok (.al false (fun _ => .ok (.map [])) fun i => .m (.mp i))
  | .makeSlice T x y => match ev x, ev y, tySliceE C.P T with
    | some (.m (.d (.int _ (.ofNat l)))), some (.m (.d (.int _ (.ofNat c)))), some e => (match tySize C.P e, tyBytes C.P e, tyZero C.P e with
      | some n, some nb, some z => bif (Nat.beq l c && Nat.blt 0 n && Nat.beq (dcells z).length n && Nat.ble nb 1000000 && Nat.ble l 100000000) then
          .ok (.al false (fun _ => .ok (.row false n 0 (zlist n l (dcells z)))) fun i => .m (.rsl i 0 l)) else .no [26]
      | _, _, _ => .no [27])
    | _, _, _ => .no [28]
  | .slice T x lo hi mx => match ev x, bound ev lo, bound ev hi, bound ev mx with
    | some (.m m), some l, some h, some k => denSlice C T m l h k
    | _, _, _, _ => .no [33]
  | .fieldAddr s x f => match ev x, tyFieldE C.P s f with
    | some (.m (.d (.pim cs off))), some o => .ok (.val (.m (.d (.pim cs (off + o)))))
    | some (.loc t off), some o => .ok (.val (.loc t (off + o)))
    | some (.m (.ref i off)), some o => .ok (.val (.m (.ref i (off + o))))
    | some (.m (.rref i ver off)), some o => .ok (.val (.m (.rref i ver (off + o))))
    | _, _ => .no [34]
  | .field s x f => match ev x with
    | some (.m m) => (match tyFieldTy C.P s f, aggCells m with
      | some (ft, off), some cs => (match readAt C.P ft cs off with | some r => .ok (.val (.m r)) | none => .no [67])
      | _, _ => .no [68])
    | _ => .no [69]
  | .indexAddr T x y => match tyArr C.P T with
   | some (len, e) => (match ev x, ev y, tySize C.P e with
    | some v, some (.m (.d (.int _ (.ofNat i)))), some n => (match addrAt (i * n) v with
      | some u => bif Nat.blt i len then .ok (.val u) else .no [77]
      | none => .no [78])
    | _, _, _ => .no [79])
   | none => match ev x, ev y, tySliceE C.P T with
    | some (.m (.d (.sl rows))), some (.m (.d (.int _ (.ofNat i)))), some e => (match tySize C.P e, rows[i]? with
      | some n, some r => bif Nat.beq r.length n then .ok (.val (.m (.d (.pim r 0)))) else .no [35]
      | _, _ => .no [36])
    | some (.m (.rsl j ver len)), some (.m (.d (.int _ (.ofNat i)))), some e => (match tySize C.P e with
      | some n => .ok (.rd j fun ob => match ob with
        | .row acc n' ver' cs => bif (Nat.beq n n' && Nat.beq ver ver' && Nat.blt i len) then .ok (.m (.rref j ver (i * n))) else .no [37]
        | _ => .no [38])
      | none => .no [39])
    | _, _, _ => .no [40]
  | .lookup T x y ok => match ev x, ev y, tyMapE C.P T with
    | some (.m (.mp i)), some (.m (.d (.str k))), some e => (match tyZero C.P e with
      | some z => .ok (.rd i fun ob => match ob with
        | .map es => bif strKeys es then
            (bif ok then .ok (.m (match lookE k es with | some m => .tup [m, .d (.bool true)] | none => .tup [.d z, .d (.bool false)])) else .ok (.m (match lookE k es with | some m => m | none => .d z)))
            else .no [41]
        | _ => .no [42])
      | none => .no [43])
    | some (.m (.d .nilm)), some (.m (.d (.str k))), some e => (match tyZero C.P e with
      | some z => .ok (.val (bif ok then .m (.tup [.d z, .d (.bool false)]) else .m (.d z)))
      | none => .no [43])
    | _, _, _ => .no [44]
  | .index T x y => match ev x, ev y with
    | some (.m (.d (.str s))), some (.m (.d (.int _ (.ofNat i)))) => bif tyIsStr C.P T then (match s.data.toList[i]? with
      | some b => .ok (.val (.m (.d (.int .u8 b.toNat))))
      | none => .no [61]) else .no [62]
    | some (.m m), some (.m (.d (.int _ (.ofNat i)))) => (match tyArr C.P T, aggCells m with
      | some (len, e), some cs => (match tySize C.P e with
        | some n => bif Nat.blt i len then (match readAt C.P e cs (i * n) with | some r => .ok (.val (.m r)) | none => .no [73]) else .no [74]
        | none => .no [75])
      | _, _ => .no [76])
    | _, _ => .no [63]
  | .mapUpdate T x y z => match ev x, ev y, ev z with
    | some (.m (.mp i)), some (.m (.d (.str k))), some (.m m) => (match tyMapE C.P T with
      | some e => .ok (.up false i fun _ ob => match ob with
        | .map es => bif strKeys es then .ok (.m .undef, .map (updE k m es)) else .no [45]
        | _ => .no [46])
      | none => .no [47])
    | _, _, _ => .no [48]
  | .extract x i => match ev x with
    | some (.m (.tup vs)) => (match vs[i]? with | some m => .ok (.val (.m m)) | none => .no [49])
    | _ => .no [50]
  | .call c => (match c.callee with
    | .builtin b => (match evL ev c.args.toList with | some ms => denBuiltin C dst b ms c.argTypes.toList | none => .no [51])
    | .value (.func f) => (match evL ev c.args.toList with | some ms => denCall C f ms | none => .no [52])
    | .value x => (match ev x, evL ev c.args.toList with
      | some (.m (.d (.fn f cs))), some ms => denCall C f (ms ++ cs.map .d)
      | some (.m (.fn f cs)), some ms => denCall C f (ms ++ cs)
      | _, _ => .no [53])
    | _ => .no [54])
  | _ => .no [60]

/-- how a piece of code ends -/
inductive Ex where
  | nrm
  | exit (id : Nat)
  | ret

/-- an old object that was written -/
def addW (B i : Nat) (ws : List Nat) : List Nat := bif (Nat.blt i B && !has ws i) then i :: ws else ws
def addWs (B : Nat) : List Nat → List Nat → List Nat
  | [], ws => ws
  | i :: r, ws => addWs B r (addW B i ws)

/-- one operation, in the order of the text -/
def stepD (d : Option Nat) (B : Nat) (st : St) (ws : List Nat) : Dn → R (V × St × List Nat)
  | .val v => .ok (v, st, ws)
  | .ld t k => match get st.bx t with
    | some cs => (match k cs with | .ok v => .ok (v, st, ws) | .no w => .no w)
    | none => .no [401]
  | .st t k => match get st.bx t with
    | some cs => (match k cs with | .ok cs' => .ok (.m .undef, ⟨st.sl, (t, cs') :: st.bx, st.H⟩, ws) | .no w => .no w)
    | none => .no [402]
  | .nw cs => match d with
    | some dd => bif noLoc dd st.sl then .ok (.loc dd 0, ⟨st.sl, (dd, cs) :: st.bx, st.H⟩, ws) else .no [403]
    | none => .no [404]
  | .rd i k => match st.H[i]? with
    | some ob => (match k ob with | .ok v => .ok (v, st, ws) | .no w => .no w)
    | none => .no [405]
  | .rda k => match k st.H with
    | .ok v => .ok (v, st, ws)
    | .no w => .no w
  | .up all i k => match st.H[i]? with
    | some ob => (match k (bif all then st.H else []) ob with
      | .ok (v, ob') => .ok (v, ⟨st.sl, st.bx, st.H.set i ob'⟩, addW B i ws)
      | .no w => .no w)
    | none => .no [406]
  | .al all k mk => match k (bif all then st.H else []) with
    | .ok ob => .ok (mk st.H.length, ⟨st.sl, st.bx, st.H ++ [ob]⟩, ws)
    | .no w => .no w
  | .cl k => match k st.H with
    | .ok (v, H', us) => .ok (v, ⟨st.sl, st.bx, H'⟩, addWs B us ws)
    | .no w => .no w

/-- does the guard say yes? -/
def wantsE (ops : Array Oper) (o : Oper) (sl : List (Nat × V)) : Option Bool :=
  match o.guard with
  | none => some true
  | some (j, want) => match ops[j]? with
    | some q => (match q.dst with
      | some g => match get sl g with
        | some (.m (.d (.bool b))) => some (b == want)
        | some (.m (.tup [])) => some false
        | _ => none
      | none => none)
    | none => none

def putS (n : Nat) (d : Option Nat) (v : V) (st : St) : R St := match d with
  | some t => bif Nat.blt t n then .ok ⟨(t, v) :: st.sl, st.bx, st.H⟩ else .no [411]
  | none => .ok st

def evOp (C : Cfg) (n B : Nat) (ops : Array Oper) (o : Oper) (st : St) (ws : List Nat) : R (St × List Nat) :=
  match wantsE ops o st.sl with
  | some true => (match den C o.dst o.op (evs st.sl) with
    | .ok dn => (match stepD o.dst B st ws dn with
      | .ok (v, s, us) => (match putS n o.dst v s with | .ok s' => .ok (s', us) | .no w => .no w)
      | .no w => .no w)
    | .no w => .no w)
  | some false => (match putS n o.dst (.m (.tup [])) st with | .ok s' => .ok (s', ws) | .no w => .no w)
  | none => .no [413]

/-- the operations of a region, in the order of the text -/
def evOps (C : Cfg) (n B : Nat) (ops : Array Oper) : Nat → List Oper → St → List Nat → R (St × List Nat)
  | _, [], st, ws => .ok (st, ws)
  | i, o :: r, st, ws => match evOp C n B ops o st ws with
    | .ok (s, us) => evOps C n B ops (i + 1) r s us
    | .no w => .no ((1000 + i) :: w)

open Fine in
/-- one operation of a region that draws its order: among the first N objects; new ones are laid at k -/
def efD (d : Option Nat) (N k : Nat) (st : St) : Dn → R (Fine.Ef × St × Nat)
  | .val v => .ok (⟨d, v, [], [], none, .no, [], none⟩, st, k)
  | .ld t f => match get st.bx t with
    | some cs => (match f cs with | .ok v => .ok (⟨d, v, [t], [], none, .no, [], none⟩, st, k) | .no w => .no w)
    | none => .no [401]
  | .st t f => match get st.bx t with
    | some cs => (match f cs with | .ok cs' => .ok (⟨d, .m .undef, [], [(t, cs')], none, .no, [], none⟩, ⟨st.sl, (t, cs') :: st.bx, st.H⟩, k) | .no w => .no w)
    | none => .no [402]
  | .nw cs => match d with
    | some dd => .ok (⟨d, .loc dd 0, [], [(dd, cs)], some dd, .no, [], none⟩, ⟨st.sl, (dd, cs) :: st.bx, st.H⟩, k)
    | none => .no [404]
  | .rd i f => match st.H[i]? with
    | some ob => (match f ob with | .ok v => .ok (⟨d, v, [], [], none, bif Nat.blt i N then .ix [i] else .all, [], none⟩, st, k) | .no w => .no w)
    | none => .no [405]
  | .rda f => match f st.H with
    | .ok v => .ok (⟨d, v, [], [], none, .all, [], none⟩, st, k)
    | .no w => .no w
  | .up all i f => match st.H[i]? with
    | some ob => (match f (bif all then st.H else []) ob with
      | .ok (v, ob') => bif Nat.blt i N then .ok (⟨d, v, [], [], none, bif all then .all else .ix [i], [(i, ob')], none⟩, ⟨st.sl, st.bx, st.H.set i ob'⟩, k)
          else .ok (⟨d, v, [], [], none, .all, [], some ((st.H.set i ob').drop N)⟩, ⟨st.sl, st.bx, st.H.set i ob'⟩, k)
      | .no w => .no w)
    | none => .no [406]
  | .al all f mk => match f (bif all then st.H else []) with
    | .ok ob => (match st.H[k]? with
      | some .free => bif Nat.blt k N then .ok (⟨d, mk k, [], [], none, bif all then .all else .ix [k], [(k, ob)], none⟩, ⟨st.sl, st.bx, st.H.set k ob⟩, k + 1) else .no [407]
      | _ => .no [408])
    | .no w => .no w
  | .cl f => match f st.H with
    | .ok (v, H', us) => .ok (⟨d, v, [], [], none, .all, us.filterMap (fun i => bif Nat.blt i N then (match H'[i]? with | some ob => some (i, ob) | none => none) else none), some (H'.drop N)⟩, ⟨st.sl, st.bx, H'⟩, k)
    | .no w => .no w

/-- which old objects an effect writes -/
def efW (B : Nat) (e : Fine.Ef) (ws : List Nat) : List Nat := addWs B (e.wh.map (·.1)) ws

def evOpD (C : Cfg) (n N : Nat) (ops : Array Oper) (o : Oper) (st : St) (k : Nat) : R (Fine.Ef × St × Nat) :=
  match wantsE ops o st.sl with
  | some true => (match den C o.dst o.op (evs st.sl) with
    | .ok dn => (match efD o.dst N k st dn with
      | .ok (e, s, k') => (match putS n o.dst e.v s with | .ok s' => .ok (e, s', k') | .no w => .no w)
      | .no w => .no w)
    | .no w => .no w)
  | some false => (match putS n o.dst (.m (.tup [])) st with | .ok s' => .ok (⟨o.dst, .m (.tup []), [], [], none, .no, [], none⟩, s', k) | .no w => .no w)
  | none => .no [413]
def evDraw (C : Cfg) (n N : Nat) (ops : Array Oper) : Nat → List Oper → St → Nat → R (List Fine.Ef × St)
  | _, [], st, k => .ok ([], st)
  | i, o :: r, st, k => match evOpD C n N ops o st k with
    | .ok (e, s, k') => (match evDraw C n N ops (i + 1) r s k' with
      | .ok (es, s') => .ok (e :: es, s')
      | .no w => .no w)
    | .no w => .no ((1000 + i) :: w)
/-- how many objects the operations may lay -/
def lays : List Oper → Nat
  | [] => 0
  | o :: r => match o.op with
    | .alloc _ => lays r + 1
    | .box _ _ => lays r + 1
    | .buildSlice _ _ _ => lays r + 1
    | .makeMap _ _ => lays r + 1
    | .makeSlice _ _ _ => lays r + 1
    | .call c => (match c.callee with | .builtin .append => lays r + 1 | _ => lays r)
    | _ => lays r

/-- fewer slots: those of the first state, as they are in the second -/
def fresh (sl : List (Nat × V)) : List (Nat × V) → List (Nat × V) → List (Nat × V)
  | [], acc => acc
  | (t, _) :: r, acc => match get acc t with
    | some _ => fresh sl r acc
    | none => match get sl t with
      | some v => fresh sl r ((t, v) :: acc)
      | none => fresh sl r acc
def freshB (bx : List (Nat × List M)) : List (Nat × List M) → List (Nat × List M) → List (Nat × List M)
  | [], acc => acc
  | (t, _) :: r, acc => match get acc t with
    | some _ => freshB bx r acc
    | none => match get bx t with
      | some v => freshB bx r ((t, v) :: acc)
      | none => freshB bx r acc

def iter (f : St → List Nat → R (Ex × St × List Nat)) (ks : List (Nat × V)) : Nat → St → List Nat → R (Ex × St × List Nat)
  | 0, _, _ => .no [430]
  | n + 1, st, ws => match f st ws with
    | .ok (.nrm, s, us) => iter f ks n ⟨fresh s.sl ks [], freshB s.bx s.bx [], s.H⟩ us
    | .ok (e, s, us) => .ok (e, s, us)
    | .no w => .no w

def evC (C : Cfg) (n B rounds : Nat) : Code → St → List Nat → R (Ex × St × List Nat)
  | .skip, st, ws => .ok (.nrm, st, ws)
  | .region id ops false, st, ws => match evOps C n B ops 0 ops.toList st ws with
    | .ok (s, us) => .ok (.nrm, s, us)
    | .no w => .no ((2000 + id) :: w)
  | .region id ops true, st, ws =>
    match evDraw C n (st.H.length + lays ops.toList) ops 0 ops.toList ⟨st.sl, st.bx, st.H ++ List.replicate (lays ops.toList) .free⟩ st.H.length with
    | .ok (es, s) => bif (Fine.orderOk (st.H.length + lays ops.toList) ops.toList st.sl es && C.P.follows .mixedOrders) then .ok (.nrm, s, es.foldl (fun us e => efW B e us) ws) else .no [2000 + id, 440]
    | .no w => .no ((2000 + id) :: w)
  | .seq a b, st, ws => match evC C n B rounds a st ws with
    | .ok (.nrm, s, us) => evC C n B rounds b s us
    | .ok (e, s, us) => .ok (e, s, us)
    | .no w => .no w
  | .cond c a b, st, ws => match evs st.sl c with
    | some (.m (.d (.bool z))) => bif z then evC C n B rounds a st ws else evC C n B rounds b st ws
    | _ => .no [441]
  | .block id a, st, ws => match evC C n B rounds a st ws with
    | .ok (.exit i, s, us) => bif Nat.beq i id then .ok (.nrm, s, us) else .ok (.exit i, s, us)
    | .ok (e, s, us) => .ok (e, s, us)
    | .no w => .no w
  | .loop a, st, ws => iter (evC C n B rounds a) st.sl rounds ⟨fresh st.sl st.sl [], freshB st.bx st.bx [], st.H⟩ ws
  | .exit id, st, ws => .ok (.exit id, st, ws)
  | .ret, st, ws => .ok (.ret, st, ws)
  | _, _, _ => .no [442]

/-- a region whose last operation defers a closure: its operations, those ahead of the last one, the closure -/
def deferOf : Code → Option (Array Oper × List Oper × Operand)
  | .region _ ops false => (match ops.toList.reverse with
    | ⟨none, .defer ⟨.value x, args, _⟩, _, _, _, none⟩ :: r => (match args.toList with
      | [] => some (ops, r.reverse, x)
      | _ => none)
    | _ => none)
  | _ => none

/-- code of which one region may defer a closure -/
def evT (C : Cfg) (n B rounds : Nat) : Code → St → List Nat → Option (Nat × List M) → R (Ex × St × List Nat × Option (Nat × List M))
  | .seq a b, st, ws, p => (match evT C n B rounds a st ws p with
    | .ok (.nrm, s, us, q) => evT C n B rounds b s us q
    | .ok (e, s, us, q) => .ok (e, s, us, q)
    | .no w => .no w)
  | c, st, ws, p => (match deferOf c with
    | some (ops, l, x) => (match p with
      | some _ => .no [460]
      | none => (match evOps C n B ops 0 l st ws with
        | .ok (s, us) => (match evs s.sl x with
          | some (.m (.fn g caps)) => (match s.bx with
            | [] => bif isFnB C.P g then .ok (.nrm, s, us, some (g, caps)) else .no [461]
            | _ => .no [462])
          | _ => .no [463])
        | .no w => .no w))
    | none => (match evC C n B rounds c st ws with
      | .ok (e, s, us) => .ok (e, s, us, p)
      | .no w => .no w))

/-- a deferred closure whose first operation asks what it recovers: nothing -/
def evRec (C : Cfg) (n B rounds : Nat) : Code → St → List Nat → R (Ex × St × List Nat)
  | .seq a b, st, ws => (match evRec C n B rounds a st ws with
    | .ok (.nrm, s, us) => evC C n B rounds b s us
    | .ok (e, s, us) => .ok (e, s, us)
    | .no w => .no w)
  | .region _ ops false, st, ws => (match ops.toList with
    | [⟨some d, .call ⟨.builtin .recover, _, _⟩, _, _, _, none⟩] => bif Nat.blt d n then .ok (.nrm, ⟨(d, .m (.d .nili)) :: st.sl, st.bx, st.H⟩, ws) else .no [465]
    | _ => .no [466])
  | _, _, _ => .no [467]

def evDef (C : Cfg) (rounds g : Nat) (caps : List M) (H : Hp) : R (Hp × List Nat) := match C.P.funcs[g]? with
  | some fd => (match fd.body with
    | some c => bif (Nat.ble caps.length fd.ntmps && isFnB C.P g) then (match evRec C fd.ntmps H.length rounds c ⟨enumV 0 caps, [], H⟩ [] with
      | .ok (.nrm, s, us) => (match resM C.P fd s with | some _ => .ok (s.H, us) | none => .no [470])
      | .ok (.ret, s, us) => (match resM C.P fd s with | some _ => .ok (s.H, us) | none => .no [470])
      | .ok (.exit _, _, _) => .no [471]
      | .no w => .no ((10000 + g) :: w)) else .no [472]
    | none => .no [473])
  | none => .no [474]

/-- a function's end: its deferred closure, its results -/
def evEnd (C : Cfg) (rounds : Nat) (fn : Func) (B : Nat) (s : St) (us : List Nat) : Option (Nat × List M) → R (M × Hp × List Nat)
  | none => (match resM C.P fn s with | some m => .ok (m, s.H, us) | none => .no [452])
  | some (g, caps) => (match evDef C rounds g caps s.H with
    | .ok (H', vs) => (match resM C.P fn ⟨s.sl, s.bx, H'⟩ with | some m => .ok (m, H', addWs B vs us) | none => .no [453])
    | .no w => .no w)

/-- what the calls inside a function are made by -/
def cfgOf (P : Program) (sums : Nat → List D → Option (List D)) (heapF : Nat → Bool) (call : Nat → List M → Hp → R (M × Hp × List Nat)) (hint : Nat → Nat) : Cfg :=
  ⟨P, call, fun g ds => match sums g ds with
    | some rs => .ok rs
    | none => (match call g (ds.map .d) [] with
      | .ok (m, H', _) => ofO 451 (viewR (H'.map fz) m)
      | .no w => .no w), heapF, hint, sums⟩

/-- a function's run -/
def evFn (P : Program) (sums : Nat → List D → Option (List D)) (heapF : Nat → Bool) (hint : Nat → Nat → Nat) (rounds : Nat) : Nat → Nat → List M → Hp → R (M × Hp × List Nat)
  | 0, f, _, _ => .no [450]
  | k + 1, f, ms, H => match P.funcs[f]? with
    | some fn => (match fn.body with
      | some c => bif Nat.ble ms.length fn.ntmps then
          (match evT (cfgOf P sums heapF (evFn P sums heapF hint rounds k) (hint f)) fn.ntmps H.length rounds c ⟨enumV 0 ms, [], H⟩ [] none with
          | .ok (.nrm, s, us, p) => R.at (10000 + f) (evEnd (cfgOf P sums heapF (evFn P sums heapF hint rounds k) (hint (match p with | some (g, _) => g | none => 0))) rounds fn H.length s us p)
          | .ok (.ret, s, us, p) => R.at (10000 + f) (evEnd (cfgOf P sums heapF (evFn P sums heapF hint rounds k) (hint (match p with | some (g, _) => g | none => 0))) rounds fn H.length s us p)
          | .ok (.exit _, s, us, p) => .no [10000 + f, 453]
          | .no w => .no ((10000 + f) :: w))
          else .no [454]
      | none => .no [455])
    | none => .no [456]

end Go.Mt
