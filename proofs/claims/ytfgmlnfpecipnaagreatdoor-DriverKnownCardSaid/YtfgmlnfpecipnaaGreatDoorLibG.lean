/- Part of a library of triples over an abstract heap, and of a reckoner that is proved sound over it. -/
import Derived.Test.YtfgmlnfpecipnaaGreatDoorLibF
import Derived.LaidEql
/- A reckoner over the abstract heap: what a run of a function does, as a function of Lean (definitions; the proofs that it is right stand in the texts behind). -/
set_option linter.unusedVariables false
set_option linter.unusedSimpArgs false
namespace Go.Mt

/-- an answer, or where and why there is none -/
inductive R (α : Type) where
  | ok (a : α)
  | no (why : List Nat)
  deriving Inhabited

def R.at {α : Type} (n : Nat) : R α → R α
  | .ok a => .ok a
  | .no w => .no (n :: w)

/-- what an operation does: a value; it reads or writes a variable of the frame's own; it makes one; it reads an object of the heap, or all; it changes one, lays a new one; a call (with the old objects that it wrote) -/
inductive Dn where
  | val (v : V)
  | ld (t : Nat) (k : List M → R V)
  | st (t : Nat) (k : List M → R (List M))
  | nw (cs : List M)
  | rd (i : Nat) (k : Ob → R V)
  | rda (k : Hp → R V)
  | up (all : Bool) (i : Nat) (k : Hp → Ob → R (V × Ob))
  | al (all : Bool) (k : Hp → R Ob) (mk : Nat → V)
  | cl (k : Hp → R (V × Hp × List Nat))

structure Cfg where
  P : Program
  call : Nat → List M → Hp → R (M × Hp × List Nat)
  pure : Nat → List D → R (List D)
  heapF : Nat → Bool
  hint : Nat → Nat
  sum : Nat → List D → Option (List D)

def ofO {α : Type} (w : Nat) : Option α → R α
  | some a => .ok a
  | none => .no [w]

def listEqB : List UInt8 → List UInt8 → Bool
  | [], [] => true
  | a :: r, b :: s => bif Nat.beq a.toNat b.toNat then listEqB r s else false
  | _, _ => false
def strEqB (s u : ByteArray) : Bool := listEqB s.data.toList u.data.toList
def catB (s u : ByteArray) : ByteArray := ⟨⟨s.data.toList ++ u.data.toList⟩⟩

def lookE (k : ByteArray) : List (D × M) → Option M
  | [] => none
  | (.str s, m) :: r => bif strEqB s k then some m else lookE k r
  | _ :: r => lookE k r
def updE (k : ByteArray) (v : M) : List (D × M) → List (D × M)
  | [] => [(.str k, v)]
  | (.str s, m) :: r => bif strEqB s k then (.str k, v) :: r else (.str s, m) :: updE k v r
  | x :: r => x :: updE k v r

/-- maps by pointers to boxes -/
def ptrKeys : List (D × M) → Bool
  | [] => true
  | (.nilp, .tup [.ref _ _, _]) :: r => ptrKeys r
  | _ => false
def lookP (i o : Nat) : List (D × M) → Option M
  | [] => none
  | (.nilp, .tup [.ref j u, m]) :: r => bif Nat.beq i j && Nat.beq o u then some m else lookP i o r
  | _ :: r => lookP i o r
def updP (i o : Nat) (v : M) : List (D × M) → List (D × M)
  | [] => [(.nilp, .tup [.ref i o, v])]
  | (.nilp, .tup [.ref j u, m]) :: r => bif Nat.beq i j && Nat.beq o u then (.nilp, .tup [.ref i o, v]) :: r else (.nilp, .tup [.ref j u, m]) :: updP i o v r
  | x :: r => x :: updP i o v r

/-- a part of a string -/
def subB (s : ByteArray) (l h : Nat) : ByteArray := ⟨⟨(s.data.toList.drop l).take (h - l)⟩⟩
def kindEqB (a b : IntKind) : Bool := decide (a = b)

/-- operators on data -/
def binD (op : BinOp) : D → D → R D
  | .int k m, .int k' n =>
    match op with
    | .shl => bif decide (n < 0) then .no [101] else .ok (.int k (k.wrap (m * 2 ^ (min n.toNat k.bits))))
    | .shr => bif decide (n < 0) then .no [102] else .ok (.int k (m.fdiv (2 ^ (min n.toNat k.bits))))
    | .quo => bif kindEqB k k' then (bif n == 0 then .no [103] else .ok (.int k (k.wrap (m.tdiv n)))) else .no [104]
    | .rem => bif kindEqB k k' then (bif n == 0 then .no [105] else .ok (.int k (m.tmod n))) else .no [106]
    | .and => bif kindEqB k k' then .ok (.int k (k.wrap (BitVec.ofInt k.bits m &&& BitVec.ofInt k.bits n).toNat)) else .no [107]
    | .or => bif kindEqB k k' then .ok (.int k (k.wrap (BitVec.ofInt k.bits m ||| BitVec.ofInt k.bits n).toNat)) else .no [107]
    | .xor => bif kindEqB k k' then .ok (.int k (k.wrap (BitVec.ofInt k.bits m ^^^ BitVec.ofInt k.bits n).toNat)) else .no [107]
    | op => bif kindEqB k k' then ofO 108 (intBin op k m n) else .no [109]
  | .str s, .str u =>
    match op with
    | .eql => .ok (.bool (strEqB s u))
    | .neq => .ok (.bool (!strEqB s u))
    | .add => bif Nat.ble (s.size + u.size) 9223372036854775807 then .ok (.str (catB s u)) else .no [110]
    | .lss => .ok (.bool (Op.bytesLess s.toList u.toList))
    | _ => .no [111]
  | _, _ => .no [113]

/-- kinds of types that have a nil: pointers, maps, functions; and the booleans -/
def tyRef (P : Program) (t : Nat) : Nat := match P.underlying t with
  | some (.pointer _) => 1
  | some (.map _ _) => 2
  | some (.func _ _ _) => 3
  | some .bool => 4
  | some (.interface _) => 5
  | some (.slice _) => 6
  | _ => 0
/-- a pointer to something that takes room -/
def tyPtrOk (P : Program) (t : Nat) : Bool := match P.underlying t with
  | some (.pointer e) => (match tySize P e with
    | some n => Nat.blt 0 n
    | none => false)
  | _ => false
/-- is it the nil of its type? -/
def nilOf : Nat → V → Option Bool
  | 1, .loc _ _ => some false
  | 1, .m (.ref _ _) => some false
  | 1, .m (.rref _ _ _) => some false
  | 1, .m (.d (.pim _ _)) => some false
  | 1, .m (.d .nilp) => some true
  | 2, .m (.mp _) => some false
  | 2, .m (.d .nilm) => some true
  | 3, .m (.d (.fn _ _)) => some false
  | 3, .m (.fn _ _) => some false
  | 3, .m (.d .nilf) => some true
  | 5, .m (.d .nili) => some true
  | 5, .m (.d (.ifc _ _)) => some false
  | _, _ => none

/-- is it the nil that stands in the text? -/
def nilText : Operand → Bool
  | .const .nilIface => true
  | _ => false
def nilTextS : Operand → Bool
  | .const (.slice none 0 0) => true
  | _ => false
def denBin (P : Program) (op : BinOp) (xt : Nat) (yc ys : Bool) (v u : V) : R Dn :=
  match tyRef P xt with
  | 0 => (match v, u with
    | .m (.d a), .m (.d b) => (match a, b with
      | .bool _, _ => .no [118]
      | .agg [.int .u8 k1, .str s1], .agg [.int .u8 k2, .str s2] => bif knB P xt then (match op with
        | .eql => .ok (.val (.m (.d (.bool (decide (k1 = k2) && strEqB s1 s2)))))
        | .neq => .ok (.val (.m (.d (.bool (!(decide (k1 = k2) && strEqB s1 s2))))))
        | _ => .no [112]) else .no [112]
      | _, _ => (match binD op a b with | .ok r => .ok (.val (.m (.d r))) | .no w => .no w))
    | _, _ => .no [117])
  | 4 => (match v, u with
    | .m (.d (.bool a)), .m (.d (.bool b)) => (match op with
      | .eql => .ok (.val (.m (.d (.bool (a == b)))))
      | .neq => .ok (.val (.m (.d (.bool (!(a == b))))))
      | _ => .no [119])
    | _, _ => .no [116])
  | 5 => bif yc then (match nilOf 5 v with
    | some z => (match op with
      | .eql => .ok (.val (.m (.d (.bool z))))
      | .neq => .ok (.val (.m (.d (.bool (!z)))))
      | _ => .no [120])
    | none => .no [121]) else .no [122]
  | 6 => bif ys then (match v with
    | .m (.d (.sl (_ :: _))) => (match op with
      | .eql => .ok (.val (.m (.d (.bool false))))
      | .neq => .ok (.val (.m (.d (.bool true))))
      | _ => .no [123])
    | .m (.rsl j ver _) => .ok (.rd j fun ob => match ob with
      | .row _ _ ver' _ => bif Nat.beq ver ver' then (match op with
        | .eql => .ok (.m (.d (.bool false)))
        | .neq => .ok (.m (.d (.bool true)))
        | _ => .no [123]) else .no [124]
      | _ => .no [125])
    | _ => .no [126]) else .no [127]
  | k => (match nilOf k v, nilOf k u with
    | some z, some true => (match op with
      | .eql => .ok (.val (.m (.d (.bool z))))
      | .neq => .ok (.val (.m (.d (.bool (!z)))))
      | _ => .no [114])
    | _, _ => (match v, u with
      | .m (.ref i a), .m (.ref j b) => bif tyPtrOk P xt then (match op with
        | .eql => .ok (.val (.m (.d (.bool (Nat.beq i j && Nat.beq a b)))))
        | .neq => .ok (.val (.m (.d (.bool (!(Nat.beq i j && Nat.beq a b))))))
        | _ => .no [128]) else .no [129]
      | _, _ => .no [115]))

def evL (ev : Operand → Option V) : List Operand → Option (List M)
  | [] => some []
  | x :: r => match ev x with
    | some (.m m) => match evL ev r with
      | some ms => some (m :: ms)
      | none => none
    | _ => none
def partsL (ev : Operand → Option V) : List (Nat × Operand) → Option (List (Nat × M))
  | [] => some []
  | (i, x) :: r => match ev x with
    | some (.m m) => match partsL ev r with
      | some ms => some ((i, m) :: ms)
      | none => none
    | _ => none
def allP : List (Nat × M) → Bool
  | [] => true
  | (_, .d _) :: r => allP r
  | _ => false
def viewP (H : Hp) : List (Nat × M) → Option (List (Nat × M))
  | [] => some []
  | (i, m) :: r => match viewD H m with
    | some d => match viewP H r with
      | some ms => some ((i, .d d) :: ms)
      | none => none
    | none => none

/-- does it lead to what changes? -/
def toHeap : M → Bool
  | .ref _ _ => true
  | .rref _ _ _ => true
  | .mp _ => true
  | .it _ => true
  | .agg cs => anyHeap cs
  | .fn _ cs => anyHeap cs
  | .tup cs => anyHeap cs
  | _ => false
where anyHeap : List M → Bool
  | [] => false
  | m :: r => toHeap m || anyHeap r

def isFnB (P : Program) (f : Nat) : Bool := match P.funcs[f]? with
  | some fn => !(fn.name == "runtime.NumGoroutine") && fn.body.isSome
  | none => false

def tyArr (P : Program) (t : Nat) : Option (Nat × Nat) := match P.underlying t with
  | some (.array len e) => some (len, e)
  | _ => none
/-- an address within -/
def addrAt (k : Nat) : V → Option V
  | .m (.d (.pim cs off)) => some (.m (.d (.pim cs (off + k))))
  | .loc t off => some (.loc t (off + k))
  | .m (.ref i off) => some (.m (.ref i (off + k)))
  | .m (.rref i ver off) => some (.m (.rref i ver (off + k)))
  | _ => none
/-- a field's type and place -/
def tyFieldTy (P : Program) (s f : Nat) : Option (Nat × Nat) :=
  match P.underlying s with
  | some (.struct fields) => match fields[f]? with
    | some fd => some (fd.type, fd.offset)
    | none => none
  | _ => none
def aggCells : M → Option (List M)
  | .d (.agg cs) => some (cs.map .d)
  | .agg cs => some cs
  | _ => none
/-- a call -/
def denCall (P : Program) (C : Cfg) (f : Nat) (ms : List M) : R Dn :=
  bif isFnB P f then
    bif (C.heapF f || toHeap.anyHeap ms) then (match allD ms with
      | some ds => (match C.sum f ds with
        | some rs => .ok (.val (.m (tupM (rs.map .d))))
        | none => .ok (.cl fun H => match C.call f ms H with | .ok (m, H', us) => .ok (.m m, H', us) | .no w => .no w))
      | none => .ok (.cl fun H => match C.call f ms H with | .ok (m, H', us) => .ok (.m m, H', us) | .no w => .no w)) else
    match allD ms with
    | some ds => (match C.pure f ds with | .ok rs => .ok (.val (.m (tupM (rs.map .d)))) | .no w => .no w)
    | none => .ok (.rda fun H => match viewL (viewD H) ms with
        | some ds => (match C.pure f ds with | .ok rs => .ok (.m (tupM (rs.map .d))) | .no w => .no w)
        | none => .no [201, f])
  else .no [202, f]

def tySliceE (P : Program) (t : Nat) : Option Nat := match P.underlying t with
  | some (.slice e) => some e
  | _ => none
def tyIsStr (P : Program) (t : Nat) : Bool := match P.underlying t with
  | some .string => true
  | _ => false
def tyIntE (P : Program) (t : Nat) : Option IntKind := match P.underlying t with
  | some (.int k) => some k
  | _ => none
def tyMapE (P : Program) (t : Nat) : Option Nat := match P.underlying t with
  | some (.map k e) => bif tyIsStr P k then some e else none
  | _ => none
def tyMapP (P : Program) (t : Nat) : Option Nat := match P.underlying t with
  | some (.map k e) => bif tyPtrOk P k then some e else none
  | _ => none
def tyFieldE (P : Program) (s f : Nat) : Option Nat :=
  match P.underlying s with
  | some (.struct fields) => match fields[f]? with
    | some fd => match tySize P fd.type with
      | some n => bif n == 0 then none else some fd.offset
      | none => none
    | none => none
  | _ => none

def isD : M → Bool
  | .d _ => true
  | _ => false
/-- how many are to be appended -/
def srcLen : M → Option Nat
  | .d (.sl rows) => some rows.length
  | .d .slz => some 0
  | .rsl _ _ len => some len
  | _ => none
/-- append to a slice -/
def denAppend (P : Program) (C : Cfg) (d : Nat) (T U : Nat) (x y : M) : R Dn :=
  match tySliceE P T with
  | none => .no [301]
  | some e => match tySize P e, tyBytes P e, tyZero P e with
    | some n, some nb, some z =>
      bif (Nat.blt 0 n && Nat.beq (dcells z).length n && Nat.ble nb 1000000) then
        (bif Nat.beq T U then
          (match x, srcLen y with
          | .d (.sl []), some 0 => .ok (.rda fun H => match srcO H n y with
              | some (_, 0) => .ok (.m (.d (.sl [])))
              | _ => .no [302])
          | .d (.sl []), some (len + 1) => .ok (.al (!isD y) (fun H => match srcO H n y with
              | some (cs, k) => bif (Nat.beq k (len + 1) && Nat.ble k 100000000) then .ok (.row (!Nat.beq (C.hint d) 1) n 0 cs) else .no [303]
              | none => .no [304]) fun i => .m (.rsl i 0 (len + 1)))
          | .rsl j ver len, some k2 => .ok (.up (!isD y) j fun H ob => match srcO H n y, ob with
              | some (cs2, k), .row acc n' ver' cs => bif (Nat.beq n n' && Nat.beq ver ver' && Nat.ble (len + k) 100000000) then .ok (.m (.rsl j (ver + 1) (len + k)), .row acc n (ver + 1) (cs ++ cs2)) else .no [306]
              | _, _ => .no [307])
          | _, _ => .no [308, d])
        else match tyIntE P U, x, y with
          | some k0, .d (.sl []), .d (.int k1 (.ofNat len)) => bif (kindEqB k0 k1 && Nat.blt 0 len && Nat.ble len 100000000) then
              .ok (.al false (fun _ => .ok (.row false n 0 (List.replicate (len * n) .undef))) fun i => .m (.rsl i 0 len)) else .no [309]
          | _, _, _ => .no [310])
      else .no [311]
    | _, _, _ => .no [312]

def idxOk (i : Int) (len : Nat) : Option Nat := match i with
  | .ofNat k => bif Nat.blt k len then some k else none
  | _ => none

def denBuiltin (P : Program) (C : Cfg) (dst : Option Nat) (b : Builtin) (args : List M) (tys : List Nat) : R Dn :=
  match b, args, tys with
  | .len, [.d (.str s)], [t] => bif tyIsStr P t then .ok (.val (.m (.d (.int .i64 s.size)))) else .no [321]
  | .len, [.rsl j ver len], [t] => (match tySliceE P t with | some _ => .ok (.val (.m (.d (.int .i64 len)))) | none => .no [322])
  | .len, [.d d], [t] => (match tySliceE P t, slLen d with | some _, some n => .ok (.val (.m (.d (.int .i64 n)))) | _, _ => .no [323])
  | .cap, [.d (.sl [])], [t] => (match tySliceE P t with | some _ => .ok (.val (.m (.d (.int .i64 0)))) | none => .no [324])
  | .max, [.d (.int k m), .d (.int k' n)], [t1, t2] => bif kindEqB k k' then .ok (.val (.m (.d (.int k (if n > m then n else m))))) else .no [325]
  | .min, [.d (.int k m), .d (.int k' n)], [t1, t2] => bif kindEqB k k' then .ok (.val (.m (.d (.int k (if n < m then n else m))))) else .no [325]
  | .append, [x, y], [T, U] => denAppend P C (dst.getD 0) T U x y
  | .clear, [.mp i], [t] => bif Nat.beq (tyRef P t) 2 then .ok (.up false i fun _ ob => match ob with
    | .map _ => .ok (.m .undef, .map [])
    | _ => .no [326]) else .no [327]
  | _, _, _ => .no [320]

def denLoad (P : Program) (C : Cfg) (T : Nat) : V → R Dn
  | .m (.d (.pim cs off)) => (match readD P T cs off with | some d => .ok (.val (.m (.d d))) | none => .no [331])
  | .loc t off => .ok (.ld t fun cs => match readAt P T cs off with | some m => .ok (.m m) | none => .no [332])
  | .m (.ref i off) => .ok (.rd i fun ob => match ob with
    | .box cs => (match readAt P T cs off with | some m => .ok (.m m) | none => .no [333])
    | _ => .no [334])
  | .m (.rref i ver off) => .ok (.rd i fun ob => match ob with
    | .row acc ec ver' cs => bif Nat.beq ver ver' then (match readAt P T cs off with | some m => .ok (.m m) | none => .no [335]) else .no [336]
    | _ => .no [337])
  | _ => .no [338]

def denStore (P : Program) (C : Cfg) (T : Nat) (a : V) (m : M) : R Dn :=
  match tySize P T, cellsO m with
  | some n, some new => bif Nat.beq new.length n then
      (match a with
      | .loc t off => .ok (.st t fun cs => ofO 341 (wr cs off new))
      | .m (.ref i off) => .ok (.up false i fun _ ob => match ob with
        | .box cs => (match wr cs off new with | some cs' => .ok (.m .undef, .box cs') | none => .no [342])
        | _ => .no [343])
      | .m (.rref i ver off) => .ok (.up false i fun _ ob => match ob with
        | .row false ec ver' cs => bif Nat.beq ver ver' then (match wr cs off new with | some cs' => .ok (.m .undef, .row false ec ver cs') | none => .no [344]) else .no [345]
        | _ => .no [346])
      | _ => .no [347])
    else .no [348]
  | _, _ => .no [349]

def heapP : List (Nat × M) → Bool
  | [] => false
  | (_, m) :: r => toHeap m || heapP r
def denBuildSlice (P : Program) (C : Cfg) (d : Nat) (T len : Nat) (ps : List (Nat × M)) : R Dn :=
  match tySliceE P T with
  | none => .no [351]
  | some e => match tySize P e, tyZero P e with
    | some n, some z => bif (Nat.blt 0 n && Nat.beq (dcells z).length n && Nat.ble (len * n) 16777216) then
        (bif (Nat.beq (C.hint d) 1 || heapP ps) then
          .ok (.al false (fun _ => match fillM (fun i => some (i * n, n)) (zlist n len (dcells z)) ps with
            | some cs => .ok (.row false n 0 cs)
            | none => .no [352]) fun i => .m (.rsl i 0 len))
        else bif allP ps then (match rowsO 0 ps with
          | some rows => bif (Nat.beq rows.length len && lenAll n rows) then .ok (.val (.m (.d (.sl rows)))) else .no [353]
          | none => .no [354])
        else .ok (.rda fun H => match viewP H ps with
          | some qs => (match rowsO 0 qs with
            | some rows => bif (Nat.beq rows.length len && lenAll n rows) then .ok (.m (.d (.sl rows))) else .no [355]
            | none => .no [356])
          | none => .no [357]))
      else .no [358]
    | _, _ => .no [359]

/-- a bound of a slice -/
def bound (ev : Operand → Option V) : Option Operand → Option (Option Nat)
  | none => some none
  | some y => match ev y with
    | some (.m (.d (.int _ (.ofNat i)))) => some (some i)
    | _ => none
/-- is it surely a slice? -/
def isSl : M → Bool
  | .d (.sl _) => true
  | .d .slz => true
  | .rsl _ _ _ => true
  | _ => false
/-- a part of a slice -/
def denSlice (P : Program) (C : Cfg) (T : Nat) (x : M) (lo hi mx : Option Nat) : R Dn :=
  match mx with
  | some k => (match lo, hi, k, tySliceE P T with
    | none, some 0, 0, some e => (match tySize P e with
      | some _ => bif isSl x then .ok (.val (.m (.d (.sl [])))) else .no [361]
      | none => .no [361])
    | _, _, _, _ => .no [361])
  | none => match x with
    | .d (.str s) => bif tyIsStr P T then (let l := lo.getD 0; let h := hi.getD s.size
        bif (Nat.ble l h && Nat.ble h s.size) then .ok (.val (.m (.d (.str (subB s l h))))) else .no [362]) else .no [371]
    | _ => match tySliceE P T with
      | none => .no [363]
      | some e => match tySize P e with
        | none => .no [364]
        | some n => match x with
          | .rsl j ver len => (match lo, hi with
            | none, some i => .ok (.up false j fun _ ob => match ob with
              | .row false n' ver' cs => bif (Nat.beq n n' && Nat.beq ver ver' && Nat.ble i len) then .ok (.m (.rsl j (ver + 1) i), .row false n (ver + 1) (cs.take (i * n))) else .no [365]
              | _ => .no [366])
            | _, _ => .no [367])
          | .d (.sl []) => (match lo, hi with
            | none, some 0 => .ok (.val (.m (.d (.sl []))))
            | _, _ => .no [368])
          | .d (.sl rows) => (let l := lo.getD 0; let h := hi.getD rows.length
            bif (Nat.ble l h && Nat.ble h rows.length && lenAll n rows) then
              (match (rows.drop l).take (h - l) with
              | [] => .ok (.val (.m (.d .slz)))
              | r => .ok (.val (.m (.d (.sl r))))) else .no [369])
          | _ => .no [370]

/-- nothing is there to be ranged over -/
def noneLeft (H : Hp) (i : Nat) : Bool := match H[i]? with
  | some (.iter (.d .nilm)) => true
  | some (.iter (.mp j)) => match H[j]? with
    | some (.map []) => true
    | _ => false
  | _ => false
/-- what an operation does -/
def den (P : Program) (C : Cfg) (dst : Option Nat) (op : Op) (ev : Operand → Option V) : R Dn :=
  match op with
  | .move x => match ev x with | some v => .ok (.val v) | none => .no [1]
  | .assign x => match ev x with | some v => .ok (.val v) | none => .no [2]
  | .pick c x y => match ev c with
    | some (.m (.d (.bool b))) => (match ev (bif b then x else y) with | some v => .ok (.val v) | none => .no [3])
    | _ => .no [4]
  | .alloc T => match tyZero P T with
    | some z => bif Nat.beq (C.hint (dst.getD 0)) 1 then .ok (.al false (fun _ => .ok (.box ((dcells z).map .d))) fun i => .m (.ref i 0)) else .ok (.nw ((dcells z).map .d))
    | none => .no [5]
  | .box T x => match ev x with
    | some (.m m) => (match cellsO m with
      | some cs => bif Nat.beq (C.hint (dst.getD 0)) 1 then .ok (.al false (fun _ => .ok (.box cs)) fun i => .m (.ref i 0))
        else bif Nat.beq (C.hint (dst.getD 0)) 2 then (match m with | .d v => .ok (.val (.m (.d (.pim (dcells v) 0)))) | _ => .no [6])
        else .ok (.nw cs)
      | none => .no [7])
    | _ => .no [8]
  | .build T parts => match partsL ev parts.toList, tyPlaces P T, tyZero P T with
    | some ms, some ps, some (.agg z) => (match fillO ps (z.map .d) ms with | some cs => .ok (.val (.m (pack cs))) | none => .no [9])
    | some ms, none, some (.agg z) => (match tyArr P T with
      | some (_, e) => (match tySize P e with
        | some n => (match fillM (fun i => some (i * n, n)) (z.map .d) ms with | some cs => .ok (.val (.m (pack cs))) | none => .no [70])
        | none => .no [71])
      | none => .no [72])
    | _, _, _ => .no [10]
  | .buildSlice T len parts => match partsL ev parts.toList with
    | some ms => denBuildSlice P C (dst.getD 0) T len ms
    | none => .no [11]
  | .load T (.global gl) => .ok (.rda fun H => match H with
    | .iter (.tup [.d (.int .i64 (.ofNat g)), .d (.int k m), .d (.int .i64 (.ofNat tt))]) :: _ => bif Nat.beq g gl then (match readAt P T [.d (.int k m)] 0 with | some r => .ok (.m r) | none => .no [92]) else .no [93]
    | _ => .no [94])
  | .load T a => match ev a with | some v => denLoad P C T v | none => .no [12]
  | .store T a x => match ev a, ev x with | some v, some (.m m) => denStore P C T v m | _, _ => .no [13]
  | .nilCheck x => match ev x with | some v => bif ptrOk v then .ok (.val v) else .no [14] | none => .no [15]
  | .binOp o xt x y _ => match ev x, ev y with
    | some v, some u => denBin P o xt (nilText y) (nilTextS y) v u
    | _, _ => .no [64]
  | .unOp o _ x => match o, ev x with
    | .not, some (.m (.d (.bool b))) => .ok (.val (.m (.d (.bool (!b)))))
    | .neg, some (.m (.d (.int k n))) => .ok (.val (.m (.d (.int k (k.wrap (-n))))))
    | _, _ => .no [16]
  | .convert s t x => match ev x with
    | some (.m (.d (.int k n))) => (match tyIntE P s, tyIntE P t with | some _, some k' => .ok (.val (.m (.d (.int k' (k'.wrap n))))) | _, _ => .no [18])
    | some (.m m) => (match tySliceE P s with
      | some e => bif tyIsStr P t then (match tyIntE P e with
        | some .u8 => .ok (.rda fun H => match viewD H m with
          | some (.sl rows) => (match bytesO rows with | some ns => .ok (.m (.d (.str (strOfNums ns)))) | none => .no [19])
          | _ => .no [20])
        | _ => .no [21]) else .no [22]
      | none => .no [23])
    | _ => .no [24]
  | .makeInterface xt x => match ev x with
    | some (.m (.d d)) => bif ifaceable P xt then .ok (.val (.m (.d (.ifc xt d)))) else .no [90]
    | _ => .no [91]
  | .makeFunc fn first caps => match fn, first.toList with
    | .func f, [] => (match evL ev caps.toList with
      | some ms => (match allD ms with | some ds => .ok (.val (.m (.d (.fn f ds)))) | none => bif Nat.blt f 1024 then .ok (.val (.m (.fn f ms))) else .no [24])
      | none => .no [25])
    | .func f, x :: r => (match caps.toList, evL ev (x :: r) with
      | [], some ms => .ok (.val (.m (.fn (f + 1024) ms)))
      | _, _ => .no [26])
    | _, _ => .no [65]
  | .makeMap T r => match r with
    | some _ => .no [66]
    | none => .ok (.al false (fun _ => .ok (.map [])) fun i => .m (.mp i))
  | .range T x => bif Nat.beq (tyRef P T) 2 then (match ev x with
    | some (.m (.mp i)) => .ok (.al false (fun _ => .ok (.iter (.mp i))) fun j => .m (.it j))
    | some (.m (.d .nilm)) => .ok (.al false (fun _ => .ok (.iter (.d .nilm))) fun j => .m (.it j))
    | _ => .no [69]) else .no [70]
  | .next x s => match s, ev x with
    | false, some (.m (.it i)) => .ok (.rda fun H => bif noneLeft H i then .ok (.m (.tup [.d (.bool false)])) else .no [71])
    | _, _ => .no [72]
  | .makeSlice T x y => match ev x, ev y, tySliceE P T with
    | some (.m (.d (.int _ (.ofNat l)))), some (.m (.d (.int _ (.ofNat c)))), some e => (match tySize P e, tyBytes P e, tyZero P e with
      | some n, some nb, some z => bif (Nat.beq l c && Nat.blt 0 n && Nat.beq (dcells z).length n && Nat.ble nb 1000000 && Nat.ble l 100000000) then
          .ok (.al false (fun _ => .ok (.row false n 0 (zlist n l (dcells z)))) fun i => .m (.rsl i 0 l)) else .no [26]
      | _, _, _ => .no [27])
    | _, _, _ => .no [28]
  | .slice T x lo hi mx => match ev x, bound ev lo, bound ev hi, bound ev mx with
    | some (.m m), some l, some h, some k => denSlice P C T m l h k
    | _, _, _, _ => .no [33]
  | .fieldAddr s x f => match ev x, tyFieldE P s f with
    | some (.m (.d (.pim cs off))), some o => .ok (.val (.m (.d (.pim cs (off + o)))))
    | some (.loc t off), some o => .ok (.val (.loc t (off + o)))
    | some (.m (.ref i off)), some o => .ok (.val (.m (.ref i (off + o))))
    | some (.m (.rref i ver off)), some o => .ok (.val (.m (.rref i ver (off + o))))
    | _, _ => .no [34]
  | .field s x f => match ev x with
    | some (.m m) => (match tyFieldTy P s f, aggCells m with
      | some (ft, off), some cs => (match readAt P ft cs off with | some r => .ok (.val (.m r)) | none => .no [67])
      | _, _ => .no [68])
    | _ => .no [69]
  | .indexAddr T x y => match tyArr P T with
    | some (len, e) => (match ev x, ev y, tySize P e with
      | some v, some (.m (.d (.int _ (.ofNat i)))), some n => (match addrAt (i * n) v with
        | some u => bif Nat.blt i len then .ok (.val u) else .no [77]
        | none => .no [78])
      | _, _, _ => .no [79])
    | none => match ev x, ev y, tySliceE P T with
      | some (.m (.d (.sl rows))), some (.m (.d (.int _ (.ofNat i)))), some e => (match tySize P e, rows[i]? with
        | some n, some r => bif Nat.beq r.length n then .ok (.val (.m (.d (.pim r 0)))) else .no [35]
        | _, _ => .no [36])
      | some (.m (.rsl j ver len)), some (.m (.d (.int _ (.ofNat i)))), some e => (match tySize P e with
        | some n => .ok (.rd j fun ob => match ob with
          | .row acc n' ver' cs => bif (Nat.beq n n' && Nat.beq ver ver' && Nat.blt i len) then .ok (.m (.rref j ver (i * n))) else .no [37]
          | _ => .no [38])
        | none => .no [39])
      | _, _, _ => .no [40]
  | .lookup T x y ok => match ev x, ev y, tyMapE P T with
    | some (.m (.mp i)), some (.m (.d (.str k))), some e => (match tyZero P e with
      | some z => .ok (.rd i fun ob => match ob with
        | .map es => bif strKeys es then
            (bif ok then .ok (.m (match lookE k es with | some m => .tup [m, .d (.bool true)] | none => .tup [.d z, .d (.bool false)])) else .ok (.m (match lookE k es with | some m => m | none => .d z)))
            else .no [41]
        | _ => .no [42])
      | none => .no [43])
    | some (.m (.mp i)), some (.m (.ref j o)), _ => (match tyMapP P T with
      | some e => (match tyZero P e with
        | some z => .ok (.rd i fun ob => match ob with
          | .map es => bif ptrKeys es then .ok (bif ok then .m (match lookP j o es with | some m => .tup [m, .d (.bool true)] | none => .tup [.d z, .d (.bool false)]) else .m (match lookP j o es with | some m => m | none => .d z)) else .no [41]
          | _ => .no [42])
        | none => .no [43])
      | none => .no [43])
    | some (.m (.d .nilm)), some (.m (.d (.str k))), some e => (match tyZero P e with
      | some z => .ok (.val (bif ok then .m (.tup [.d z, .d (.bool false)]) else .m (.d z)))
      | none => .no [43])
    | _, _, _ => .no [44]
  | .index T x y => match ev x, ev y with
    | some (.m (.d (.str s))), some (.m (.d (.int _ (.ofNat i)))) => bif tyIsStr P T then (match s.data.toList[i]? with
      | some b => .ok (.val (.m (.d (.int .u8 b.toNat))))
      | none => .no [61]) else .no [62]
    | some (.m m), some (.m (.d (.int _ (.ofNat i)))) => (match tyArr P T, aggCells m with
      | some (len, e), some cs => (match tySize P e with
        | some n => bif Nat.blt i len then (match readAt P e cs (i * n) with | some r => .ok (.val (.m r)) | none => .no [73]) else .no [74]
        | none => .no [75])
      | _, _ => .no [76])
    | _, _ => .no [63]
  | .mapUpdate T x y z => match ev x, ev y, ev z with
    | some (.m (.mp i)), some (.m (.d (.str k))), some (.m m) => (match tyMapE P T with
      | some e => .ok (.up false i fun _ ob => match ob with
        | .map es => bif strKeys es then .ok (.m .undef, .map (updE k m es)) else .no [45]
        | _ => .no [46])
      | none => .no [47])
    | some (.m (.mp i)), some (.m (.ref j o)), some (.m m) => (match tyMapP P T with
      | some e => .ok (.up false i fun _ ob => match ob with
        | .map es => bif ptrKeys es then .ok (.m .undef, .map (updP j o m es)) else .no [45]
        | _ => .no [46])
      | none => .no [47])
    | _, _, _ => .no [48]
  | .extract x i => match ev x with
    | some (.m (.tup vs)) => (match vs[i]? with | some m => .ok (.val (.m m)) | none => .no [49])
    | _ => .no [50]
  | .call c => (match c.callee with
    | .builtin b => (match evL ev c.args.toList with | some ms => denBuiltin P C dst b ms c.argTypes.toList | none => .no [51])
    | .value (.func f) => (match evL ev c.args.toList with | some ms => denCall P C f ms | none => .no [52])
    | .value x => (match ev x, evL ev c.args.toList with
      | some (.m (.d (.fn f cs))), some ms => denCall P C f (ms ++ cs.map .d)
      | some (.m (.fn f cs)), some ms => bif Nat.blt f 1024 then denCall P C f (ms ++ cs) else denCall P C (f - 1024) (cs ++ ms)
      | _, _ => .no [53])
    | _ => .no [54])
  | _ => .no [60]

/-- how a piece of code ends -/
inductive Ex where
  | nrm
  | exit (id : Nat)
  | ret

/-- an old object that was written -/
def addW (B i : Nat) (ws : List Nat) : List Nat := bif (Nat.blt i B && !has ws i) then i :: ws else ws
def addWs (B : Nat) : List Nat → List Nat → List Nat
  | [], ws => ws
  | i :: r, ws => addWs B r (addW B i ws)

/-- one operation, in the order of the text -/
noncomputable def stepD (d : Option Nat) (B : Nat) (st : St) (ws : List Nat) : Dn → R (V × St × List Nat)
  | .val v => .ok (v, st, ws)
  | .ld t k => match getF st.bx t with
    | some cs => (match k cs with | .ok v => .ok (v, st, ws) | .no w => .no w)
    | none => .no [401]
  | .st t k => match getF st.bx t with
    | some cs => (match k cs with | .ok cs' => .ok (.m .undef, ⟨st.sl, (t, cs') :: st.bx, st.H⟩, ws) | .no w => .no w)
    | none => .no [402]
  | .nw cs => match d with
    | some dd => bif noLoc dd st.sl then .ok (.loc dd 0, ⟨st.sl, (dd, cs) :: st.bx, st.H⟩, ws) else .no [403]
    | none => .no [404]
  | .rd i k => match nthF st.H i with
    | some ob => (match k ob with | .ok v => .ok (v, st, ws) | .no w => .no w)
    | none => .no [405]
  | .rda k => match k st.H with
    | .ok v => .ok (v, st, ws)
    | .no w => .no w
  | .up all i k => match nthF st.H i with
    | some ob => (match k (bif all then st.H else []) ob with
      | .ok (v, ob') => .ok (v, ⟨st.sl, st.bx, setF st.H i ob'⟩, addW B i ws)
      | .no w => .no w)
    | none => .no [406]
  | .al all k mk => match k (bif all then st.H else []) with
    | .ok ob => .ok (mk (lenF st.H), ⟨st.sl, st.bx, appF st.H [ob]⟩, ws)
    | .no w => .no w
  | .cl k => match k st.H with
    | .ok (v, H', us) => .ok (v, ⟨st.sl, st.bx, H'⟩, addWs B us ws)
    | .no w => .no w

/-- does the guard say yes? -/
noncomputable def wantsE (ops : Array Oper) (o : Oper) (sl : List (Nat × V)) : Option Bool :=
  match o.guard with
  | none => some true
  | some (j, want) => match ops[j]? with
    | some q => (match q.dst with
      | some g => match getF sl g with
        | some (.m (.d (.bool b))) => some (b == want)
        | some (.m (.tup [])) => some false
        | _ => none
      | none => none)
    | none => none

def putS (n : Nat) (d : Option Nat) (v : V) (st : St) : R St := match d with
  | some t => bif Nat.blt t n then .ok ⟨(t, v) :: st.sl, st.bx, st.H⟩ else .no [411]
  | none => .ok st

noncomputable def evOp (P : Program) (C : Cfg) (n B : Nat) (ops : Array Oper) (o : Oper) (st : St) (ws : List Nat) : R (St × List Nat) :=
  match wantsE ops o st.sl with
  | some true => (match den P C o.dst o.op (evsF st.sl) with
    | .ok dn => (match stepD o.dst B st ws dn with
      | .ok (v, s, us) => (match putS n o.dst v s with | .ok s' => .ok (s', us) | .no w => .no w)
      | .no w => .no w)
    | .no w => .no w)
  | some false => (match putS n o.dst (.m (.tup [])) st with | .ok s' => .ok (s', ws) | .no w => .no w)
  | none => .no [413]

/-- the operations of a region, in the order of the text -/
noncomputable def evOps (P : Program) (C : Cfg) (n B : Nat) (ops : Array Oper) : Nat → List Oper → St → List Nat → R (St × List Nat)
  | _, [], st, ws => .ok (st, ws)
  | i, o :: r, st, ws => match evOp P C n B ops o st ws with
    | .ok (s, us) => evOps P C n B ops (i + 1) r s us
    | .no w => .no ((1000 + i) :: w)

open Fine in
/-- plain cells that are alike -/
def sameM : M → M → Bool
  | .ref i a, .ref j b => Nat.beq i j && Nat.beq a b
  | .mp i, .mp j => Nat.beq i j
  | .d (.bool a), .d (.bool b) => a == b
  | .d .nilp, .d .nilp => true
  | _, _ => false
def sameMs : List M → List M → Bool
  | [], [] => true
  | a :: r, b :: t => sameM a b && sameMs r t
  | _, _ => false
def sameOb : Ob → Ob → Bool
  | .box a, .box b => sameMs a b
  | _, _ => false
/-- was an object written as it was? -/
noncomputable def leftSame (H H' : Hp) (i : Nat) : Bool := match nthF H i, nthF H' i with
  | some a, some b => sameOb a b
  | _, _ => false
/-- one operation of a region that draws its order: among the first N objects; new ones are laid at k -/
noncomputable def efD (d : Option Nat) (N k : Nat) (st : St) : Dn → R (Fine.Ef × St × Nat)
  | .val v => .ok (⟨d, v, [], [], none, .no, [], none⟩, st, k)
  | .ld t f => match getF st.bx t with
    | some cs => (match f cs with | .ok v => .ok (⟨d, v, [t], [], none, .no, [], none⟩, st, k) | .no w => .no w)
    | none => .no [401]
  | .st t f => match getF st.bx t with
    | some cs => (match f cs with | .ok cs' => .ok (⟨d, .m .undef, [], [(t, cs')], none, .no, [], none⟩, ⟨st.sl, (t, cs') :: st.bx, st.H⟩, k) | .no w => .no w)
    | none => .no [402]
  | .nw cs => match d with
    | some dd => .ok (⟨d, .loc dd 0, [], [(dd, cs)], some dd, .no, [], none⟩, ⟨st.sl, (dd, cs) :: st.bx, st.H⟩, k)
    | none => .no [404]
  | .rd i f => match nthF st.H i with
    | some ob => (match f ob with | .ok v => .ok (⟨d, v, [], [], none, bif Nat.blt i N then .ix [i] else .all, [], none⟩, st, k) | .no w => .no w)
    | none => .no [405]
  | .rda f => match f st.H with
    | .ok v => .ok (⟨d, v, [], [], none, .all, [], none⟩, st, k)
    | .no w => .no w
  | .up all i f => match nthF st.H i with
    | some ob => (match f (bif all then st.H else []) ob with
      | .ok (v, ob') => bif Nat.blt i N then .ok (⟨d, v, [], [], none, bif all then .all else .ix [i], [(i, ob')], none⟩, ⟨st.sl, st.bx, setF st.H i ob'⟩, k)
          else .ok (⟨d, v, [], [], none, .all, [], some ((setF st.H i ob').drop N)⟩, ⟨st.sl, st.bx, setF st.H i ob'⟩, k)
      | .no w => .no w)
    | none => .no [406]
  | .al all f mk => match f (bif all then st.H else []) with
    | .ok ob => (match nthF st.H k with
      | some .free => bif Nat.blt k N then .ok (⟨d, mk k, [], [], none, bif all then .all else .ix [k], [(k, ob)], none⟩, ⟨st.sl, st.bx, setF st.H k ob⟩, k + 1) else .no [407]
      | _ => .no [408])
    | .no w => .no w
  | .cl f => match f st.H with
    | .ok (v, H', us) => .ok (⟨d, v, [], [], none, .all, (us.filter fun i => !leftSame st.H H' i).filterMap (fun i => bif Nat.blt i N then (match nthF H' i with | some ob => some (i, ob) | none => none) else none), some (H'.drop N)⟩, ⟨st.sl, st.bx, H'⟩, k)
    | .no w => .no w

/-- which old objects an effect writes -/
def efW (B : Nat) (e : Fine.Ef) (ws : List Nat) : List Nat := addWs B (e.wh.map (·.1)) ws

noncomputable def evOpD (P : Program) (C : Cfg) (n N : Nat) (ops : Array Oper) (o : Oper) (st : St) (k : Nat) : R (Fine.Ef × St × Nat) :=
  match wantsE ops o st.sl with
  | some true => (match den P C o.dst o.op (evsF st.sl) with
    | .ok dn => (match efD o.dst N k st dn with
      | .ok (e, s, k') => (match putS n o.dst e.v s with | .ok s' => .ok (e, s', k') | .no w => .no w)
      | .no w => .no w)
    | .no w => .no w)
  | some false => (match putS n o.dst (.m (.tup [])) st with | .ok s' => .ok (⟨o.dst, .m (.tup []), [], [], none, .no, [], none⟩, s', k) | .no w => .no w)
  | none => .no [413]
noncomputable def evDraw (P : Program) (C : Cfg) (n N : Nat) (ops : Array Oper) : Nat → List Oper → St → Nat → R (List Fine.Ef × St)
  | _, [], st, k => .ok ([], st)
  | i, o :: r, st, k => match evOpD P C n N ops o st k with
    | .ok (e, s, k') => (match evDraw P C n N ops (i + 1) r s k' with
      | .ok (es, s') => .ok (e :: es, s')
      | .no w => .no w)
    | .no w => .no ((1000 + i) :: w)
/-- how many objects the operations may lay -/
def lays : List Oper → Nat
  | [] => 0
  | o :: r => match o.op with
    | .alloc _ => lays r + 1
    | .box _ _ => lays r + 1
    | .buildSlice _ _ _ => lays r + 1
    | .makeMap _ _ => lays r + 1
    | .makeSlice _ _ _ => lays r + 1
    | .range _ _ => lays r + 1
    | .call c => (match c.callee with | .builtin .append => lays r + 1 | _ => lays r)
    | _ => lays r

/-- fewer slots: those of the first state, as they are in the second -/
noncomputable def fresh (sl : List (Nat × V)) : List (Nat × V) → List (Nat × V) → List (Nat × V)
  | [], acc => acc
  | (t, _) :: r, acc => match getF acc t with
    | some _ => fresh sl r acc
    | none => match getF sl t with
      | some v => fresh sl r ((t, v) :: acc)
      | none => fresh sl r acc
noncomputable def freshB (bx : List (Nat × List M)) : List (Nat × List M) → List (Nat × List M) → List (Nat × List M)
  | [], acc => acc
  | (t, _) :: r, acc => match getF acc t with
    | some _ => freshB bx r acc
    | none => match getF bx t with
      | some v => freshB bx r ((t, v) :: acc)
      | none => freshB bx r acc

noncomputable def iter (f : St → List Nat → R (Ex × St × List Nat)) (ks : List (Nat × V)) : Nat → St → List Nat → R (Ex × St × List Nat)
  | 0, _, _ => .no [430]
  | n + 1, st, ws => match f st ws with
    | .ok (.nrm, s, us) => iter f ks n ⟨fresh s.sl ks [], freshB s.bx s.bx [], s.H⟩ us
    | .ok (e, s, us) => .ok (e, s, us)
    | .no w => .no w

noncomputable def evC (P : Program) (C : Cfg) (n B rounds : Nat) : Code → St → List Nat → R (Ex × St × List Nat)
  | .skip, st, ws => .ok (.nrm, st, ws)
  | .region id ops false, st, ws => match evOps P C n B ops 0 ops.toList st ws with
    | .ok (s, us) => .ok (.nrm, s, us)
    | .no w => .no ((2000 + id) :: w)
  | .region id ops true, st, ws =>
    match evDraw P C n (lenF st.H + lays ops.toList) ops 0 ops.toList ⟨st.sl, st.bx, appF st.H (List.replicate (lays ops.toList) .free)⟩ (lenF st.H) with
    | .ok (es, s) => bif (Fine.orderOkF (lenF st.H + lays ops.toList) ops.toList st.sl es && P.follows .mixedOrders) then .ok (.nrm, s, es.foldl (fun us e => efW B e us) ws) else .no [2000 + id, 440]
    | .no w => .no ((2000 + id) :: w)
  | .seq a b, st, ws => match evC P C n B rounds a st ws with
    | .ok (.nrm, s, us) => evC P C n B rounds b s us
    | .ok (e, s, us) => .ok (e, s, us)
    | .no w => .no w
  | .cond c a b, st, ws => match evsF st.sl c with
    | some (.m (.d (.bool z))) => bif z then evC P C n B rounds a st ws else evC P C n B rounds b st ws
    | _ => .no [441]
  | .block id a, st, ws => match evC P C n B rounds a st ws with
    | .ok (.exit i, s, us) => bif Nat.beq i id then .ok (.nrm, s, us) else .ok (.exit i, s, us)
    | .ok (e, s, us) => .ok (e, s, us)
    | .no w => .no w
  | .loop a, st, ws => iter (evC P C n B rounds a) st.sl rounds ⟨fresh st.sl st.sl [], freshB st.bx st.bx [], st.H⟩ ws
  | .exit id, st, ws => .ok (.exit id, st, ws)
  | .ret, st, ws => .ok (.ret, st, ws)
  | _, _, _ => .no [442]

/-- a region whose last operation defers a closure: its operations, those ahead of the last one, the closure -/
def deferOf : Code → Option (Array Oper × List Oper × Operand × List Operand)
  | .region _ ops false => (match ops.toList.reverse with
    | ⟨none, .defer ⟨.value x, args, _⟩, _, _, _, none⟩ :: r => some (ops, r.reverse, x, args.toList)
    | _ => none)
  | _ => none

/-- a pointer to a box that was there at first -/
noncomputable def oldRef (H0 : Hp) : M → Bool
  | .ref i _ => (match nthF H0 i with | some (.box _) => true | _ => false)
  | _ => false
def noBx : List (Nat × List M) → Bool
  | [] => true
  | _ => false
/-- what is deferred -/
noncomputable def defArgs (s : St) (x : Operand) (xs : List Operand) : Option (Nat × List M) := match x, xs with
  | .func g, xs => (match evL (evsF s.sl) xs with | some ms => some (g, ms) | none => none)
  | x, [] => (match evsF s.sl x with | some (.m (.fn g caps)) => bif Nat.blt g 1024 then some (g, caps) else none | _ => none)
  | _, _ => none
/-- code of which one region may defer a closure, or a call -/
noncomputable def evT (P : Program) (C : Cfg) (n B rounds : Nat) (H0 : Hp) : Code → St → List Nat → Option (Nat × List M) → R (Ex × St × List Nat × Option (Nat × List M))
  | .seq a b, st, ws, p => (match evT P C n B rounds H0 a st ws p with
    | .ok (.nrm, s, us, q) => evT P C n B rounds H0 b s us q
    | .ok (e, s, us, q) => .ok (e, s, us, q)
    | .no w => .no w)
  | c, st, ws, p => (match deferOf c with
    | some (ops, l, x, xs) => (match p with
      | some _ => .no [460]
      | none => (match evOps P C n B ops 0 l st ws with
        | .ok (s, us) => (match defArgs s x xs with
          | some (g, caps) => bif (isFnB P g && (noBx s.bx || caps.all (oldRef H0))) then .ok (.nrm, s, us, some (g, caps)) else .no [461]
          | none => .no [463])
        | .no w => .no w))
    | none => (match evC P C n B rounds c st ws with
      | .ok (e, s, us) => .ok (e, s, us, p)
      | .no w => .no w))

/-- deferred code: if its first operation asks what it recovers: nothing -/
noncomputable def evRec (P : Program) (C : Cfg) (n B rounds : Nat) : Code → St → List Nat → R (Ex × St × List Nat)
  | .seq a b, st, ws => (match evRec P C n B rounds a st ws with
    | .ok (.nrm, s, us) => evC P C n B rounds b s us
    | .ok (e, s, us) => .ok (e, s, us)
    | .no w => .no w)
  | .region id ops false, st, ws => (match ops.toList with
    | [⟨some d, .call ⟨.builtin .recover, _, _⟩, _, _, _, none⟩] => bif Nat.blt d n then .ok (.nrm, ⟨(d, .m (.d .nili)) :: st.sl, st.bx, st.H⟩, ws) else .no [465]
    | _ => evC P C n B rounds (.region id ops false) st ws)
  | c, st, ws => evC P C n B rounds c st ws

noncomputable def evDef (P : Program) (C : Cfg) (rounds g : Nat) (caps : List M) (H : Hp) : R (Hp × List Nat) := match P.funcs[g]? with
  | some fd => (match fd.body with
    | some c => bif (Nat.ble caps.length fd.ntmps && isFnB P g) then (match evRec P C fd.ntmps (lenF H) rounds c ⟨enumV 0 caps, [], H⟩ [] with
      | .ok (.nrm, s, us) => (match resM P fd s with | some _ => .ok (s.H, us) | none => .no [470])
      | .ok (.ret, s, us) => (match resM P fd s with | some _ => .ok (s.H, us) | none => .no [470])
      | .ok (.exit _, _, _) => .no [471]
      | .no w => .no ((10000 + g) :: w)) else .no [472]
    | none => .no [473])
  | none => .no [474]

/-- a function's end: its deferred closure, its results -/
noncomputable def evEnd (P : Program) (C : Cfg) (rounds : Nat) (fn : Func) (B : Nat) (s : St) (us : List Nat) : Option (Nat × List M) → R (M × Hp × List Nat)
  | none => (match resM P fn s with | some m => .ok (m, s.H, us) | none => .no [452])
  | some (g, caps) => (match evDef P C rounds g caps s.H with
    | .ok (H', vs) => (match resM P fn ⟨s.sl, s.bx, H'⟩ with | some m => .ok (m, H', addWs B vs us) | none => .no [453])
    | .no w => .no w)

/-- what the calls inside a function are made by -/
noncomputable def cfgOf (P : Program) (sums : Nat → List D → Option (List D)) (heapF : Nat → Bool) (call : Nat → List M → Hp → R (M × Hp × List Nat)) (hint : Nat → Nat) : Cfg :=
  ⟨P, call, fun g ds => match sums g ds with
    | some rs => .ok rs
    | none => (match call g (ds.map .d) [] with
      | .ok (m, H', _) => ofO 451 (viewR (H'.map fz) m)
      | .no w => .no w), heapF, hint, sums⟩

/-- are all that were written, and the result, free of what is new? -/
noncomputable def gcOk (B : Nat) (m : M) (H : Hp) (us : List Nat) : Bool := bif mbb B m then us.all (fun i => match nthF H i with | some ob => obb B ob | none => false) else false
/-- then what is new is forgotten -/
noncomputable def gcR (B : Nat) : R (M × Hp × List Nat) → R (M × Hp × List Nat)
  | .ok (m, H, us) => bif gcOk B m H us then .ok (m, takeF B H, us) else .ok (m, H, us)
  | .no w => .no w

/-- a function's run; hs: functions whose runs are told -/
noncomputable def evFnH (P : Program) (sums : Nat → List D → Option (List D)) (heapF : Nat → Bool) (hint : Nat → Nat → Nat) (rounds : Nat) (hs : Nat → List M → Hp → Option (M × Hp × List Nat)) : Nat → Nat → List M → Hp → R (M × Hp × List Nat)
  | 0, f, _, _ => .no [450]
  | k + 1, f, ms, H => match hs f ms H with
   | some r => .ok r
   | none => match P.funcs[f]? with
    | some fn => (match fn.body with
      | some c => bif Nat.ble ms.length fn.ntmps then
          (match evT P (cfgOf P sums heapF (evFnH P sums heapF hint rounds hs k) (hint f)) fn.ntmps (lenF H) rounds H c ⟨enumV 0 ms, [], H⟩ [] none with
          | .ok (.nrm, s, us, p) => gcR (lenF H) (R.at (10000 + f) (evEnd P (cfgOf P sums heapF (evFnH P sums heapF hint rounds hs k) (hint (match p with | some (g, _) => g | none => 0))) rounds fn (lenF H) s us p))
          | .ok (.ret, s, us, p) => gcR (lenF H) (R.at (10000 + f) (evEnd P (cfgOf P sums heapF (evFnH P sums heapF hint rounds hs k) (hint (match p with | some (g, _) => g | none => 0))) rounds fn (lenF H) s us p))
          | .ok (.exit _, s, us, p) => .no [10000 + f, 453]
          | .no w => .no ((10000 + f) :: w))
          else .no [454]
      | none => .no [455])
    | none => .no [456]
def noHs (_ : Nat) (_ : List M) (_ : Hp) : Option (M × Hp × List Nat) := none
noncomputable def evFn (P : Program) (sums : Nat → List D → Option (List D)) (heapF : Nat → Bool) (hint : Nat → Nat → Nat) (rounds : Nat) : Nat → Nat → List M → Hp → R (M × Hp × List Nat) := evFnH P sums heapF hint rounds noHs
end Go.Mt

set_option linter.unusedVariables false
set_option linter.unusedSimpArgs false
namespace Go.Mt

section ops
variable {X : Ctx} {st : St} {dst : Option Nat} {ty : Nat} {pos : String} {af : Array Edge} {g : Option (Nat × Bool)} {pn : Nat} {H' : Hp}

def PartsOk (σ : Sg) (a : Act) (xs : List (Nat × Operand)) (ms : List (Nat × M)) : Prop :=
  ms.length = (xs.map fun p => (p.1, a.eval p.2)).length ∧ ∀ (k : Nat) p q, ms[k]? = some p → (xs.map fun p => (p.1, a.eval p.2))[k]? = some q → p.1 = q.1 ∧ RM σ p.2 q.2

theorem viewP_spec {H : Hp} : ∀ {ms qs : List (Nat × M)}, viewP H ms = some qs → qs.length = ms.length ∧ ∀ (k : Nat) p q, ms[k]? = some p → qs[k]? = some q → p.1 = q.1 ∧ ∃ d, q.2 = .d d ∧ viewD H p.2 = some d
  | [], qs, h => by simp [viewP] at h; subst h; simp
  | (i, m) :: r, qs, h => by
    simp only [viewP] at h
    split at h
    · rename_i d hd
      split at h
      · rename_i qs' hqs
        injection h with h; subst h
        obtain ⟨h1, h2⟩ := viewP_spec hqs
        refine ⟨by simp [h1], fun k p q hp hq => ?_⟩
        cases k with
        | zero => simp at hp hq; subst hp; subst hq; exact ⟨rfl, d, rfl, hd⟩
        | succ k => simp at hp hq; exact h2 k p q hp hq
      · cases h
    · cases h

theorem FInv.partsV {σ : Sg} {lam : Nat → Nat} {a : Act} (hi : FInv X σ lam st a) {xs : List (Nat × Operand)} {ms qs : List (Nat × M)} (he : Mt.evParts st xs = some ms) (hv : viewP st.H ms = some qs) : PartsOk σ a xs qs := by
  obtain ⟨h1, h2⟩ := hi.evParts he
  obtain ⟨h3, h4⟩ := viewP_spec hv
  refine ⟨by rw [h3, h1], fun k p q hp hq => ?_⟩
  have hk : k < ms.length := by rw [← h3]; rcases Nat.lt_or_ge k qs.length with h | h; exact h; simp [List.getElem?_eq_none h] at hp
  obtain ⟨e1, d, e2, e3⟩ := h4 k ms[k] p (by simp [hk]) hp
  obtain ⟨f1, f2⟩ := h2 k ms[k] q (by simp [hk]) hq
  refine ⟨by rw [← e1]; exact f1, ?_⟩
  rw [e2]
  exact .d (f2.viewD hi.hinv (by rw [hi.hH]; exact e3))

theorem op_buildSliceG {T e n len : Nat} {parts : List (Nat × Operand)} {z : D} {ms : List (Nat × M)} {cs : List M} {rows : List (List D)} [ht : TySlice X.P T e] [hs : TySz X.P e n] [hz : TyZ X.P e z]
    (hn : Nat.blt 0 n = true) (hzl : (dcells z).length = n) (hle : Nat.ble (len * n) 16777216 = true) (hparts : ∀ a σ lam, FInv X σ lam st a → PartsOk σ a parts ms)
    (hf : fillM (fun i => some (i * n, n)) (zlist n len (dcells z)) ms = some cs) (hch : chunk n len cs = some rows) :
    OpT X ⟨dst, .buildSlice T len parts.toArray, ty, pos, af, g⟩ st (eqp (.m (.d (.sl rows))) st) := by
  refine OpT.grow fun a σ lam hi => ?_
  have hn' := blt_lt hn
  have hle' := Nat.le_of_ble_eq_true hle
  obtain ⟨h1, h2⟩ := hparts a σ lam hi
  obtain ⟨v, hz1, hz2⟩ := (tyZero_of hz.zero).run
  have hvc : RMc σ ((dcells z).map .d) v.cells := (RM.d (dOfVal_rep hz2) : RM σ (.d z) v).cells rfl
  have hvs : v.cells.size = n := by rw [hvc.1]; simpa using hzl
  have hc : RMc σ (zlist n len (dcells z)) ((Array.range (len * n)).map fun i => v.cells[i % v.cells.size]!) := by
    refine ⟨by simp [zlist], fun i m u hm hu => ?_⟩
    have hi' : i < len * n := by
      rcases Nat.lt_or_ge i (len * n) with h | h
      · exact h
      · rw [Array.getElem?_eq_none (by simpa using h)] at hu; cases hu
    have hmod : i % n < n := Nat.mod_lt _ hn'
    have hmd : i % n < (dcells z).length := by omega
    simp [zlist, hi', hzl] at hm
    simp [hi', hvs] at hu
    have hlt : i % n < v.cells.size := by omega
    subst hm; subst hu
    refine hvc.2 (i % n) _ _ ?_ ?_
    · simp [List.getElem?_eq_getElem hmd]
    · simp [hlt]
  obtain ⟨arr', h3, h4⟩ := fill_run hc h1 h2 hf
  have hlen : cs.length = len * n := by
    have hfl : ∀ {ps : List (Nat × M)} {a b : List M}, fillM (fun i => some (i * n, n)) a ps = some b → b.length = a.length := by
      intro ps
      induction ps with
      | nil => intro a b h; simp [fillM] at h; subst h; rfl
      | cons p ps ih =>
        intro a b h
        obtain ⟨i, m⟩ := p
        unfold fillM at h
        simp only at h
        cases hb : (Nat.beq (cellsOf m).length n && m.okc) with
        | false => simp [hb] at h
        | true =>
          simp only [hb, cond_true] at h
          split at h
          · rename_i a1 hw
            rw [ih h]
            unfold writeAt at hw
            cases hb2 : Nat.ble (i * n + (cellsOf m).length) a.length with
            | false => simp [hb2] at hw
            | true =>
              simp only [hb2, cond_true, Option.some.injEq] at hw
              subst hw
              have := Nat.le_of_ble_eq_true hb2
              simp; omega
          · cases h
    rw [hfl hf]; simp [zlist]
  obtain ⟨h5, h6, h7⟩ := chunk_spec hch hlen
  have hasz : arr'.size = len * n := by rw [h4.1, hlen]
  refine ⟨.slice (some ⟨σ.w.heap.size, 0, none⟩) len len, { σ.w with heap := σ.w.heap.push (.cells arr' e (0, 0)) }, ?_, ExtW.alloc _ _, .m (.d (Rep.newsl hn' hi.hinv.oold h5 h6 hasz (by have := Nat.le_mul_of_pos_right len hn'; omega) ?_))⟩
  · have : (Array.map (fun x : Nat × Operand => match x with | (i, x) => (i, a.eval x)) parts.toArray).toList = parts.map fun p => (p.1, a.eval p.2) := by simp
    have h24 : ¬ (len * n > 2 ^ 24) := by omega
    by_cases hln : len * n = 0
    · have hle0 : len = 0 := by
        rcases Nat.mul_eq_zero.1 hln with h | h
        · exact h
        · omega
      subst hle0
      have harr : ((Array.range (0 * n)).map fun i => v.cells[i % v.cells.size]!) = #[] := by simp
      rw [harr] at h3
      simp only [execOp, Instr.buildSlice, Sem.run_bind, underlying, program, Sem.run, ht.u, Sem.run_pure, Result.andThen_ok, size_run hs.size, Sem.run_ite, hln, if_true, this]
      have e0 : Array.range 0 = (#[] : Array Nat) := by decide
      simp only [e0, Array.map_empty]
      rw [h3]
      simp [newRow, newObj, Sem.run]
    · simp only [execOp, Instr.buildSlice, Sem.run_bind, underlying, program, Sem.run, ht.u, Sem.run_pure, Result.andThen_ok, size_run hs.size, Sem.run_ite, h24, if_false, hln, hz1, this]
      rw [h3]
      simp [newRow, newObj, Sem.run]
  · intro i j r d u hr hd hu
    have := h4.2 _ _ u (h7 i j r d hr hd) hu
    refine ⟨?_, this.2⟩
    cases this.1 with
    | d h => exact h

theorem op_buildSliceV {T e n len : Nat} {parts : List (Nat × Operand)} {z : D} {ms : List (Nat × M)} {rows : List (List D)} [ht : TySlice X.P T e] [hs : TySz X.P e n] [hz : TyZ X.P e z] (h0 : Nat.blt 0 n = true) (hzl : Nat.beq (dcells z).length n = true)
    (hle : Nat.ble (len * n) 16777216 = true) (hparts : ∀ a σ lam, FInv X σ lam st a → PartsOk σ a parts ms) (hr : rowsO 0 ms = some rows) (hlen : Nat.beq rows.length len = true) (hl : lenAll n rows = true) :
    OpT X ⟨dst, .buildSlice T len parts.toArray, ty, pos, af, g⟩ st (eqp (.m (.d (.sl rows))) st) := by
  have hlen' := Nat.eq_of_beq_eq_true hlen
  have hl' := lenAll_eq hl
  have hzl' := Nat.eq_of_beq_eq_true hzl
  have hrm : rows.length = ms.length := by
    have : ∀ {ms : List (Nat × M)} {k : Nat} {rows : List (List D)}, rowsO k ms = some rows → rows.length = ms.length := by
      intro ms
      induction ms with
      | nil => intro k rows h; simp [rowsO] at h; subst h; rfl
      | cons p r ih =>
        intro k rows h
        obtain ⟨i, m⟩ := p
        cases m with
        | d d =>
          simp only [rowsO] at h
          cases hb : Nat.beq i k with
          | false => simp [hb] at h
          | true =>
            simp only [hb, cond_true] at h
            split at h
            · rename_i rs hr; injection h with h; subst h; simp [ih hr]
            · cases h
        | _ => simp [rowsO] at h
    exact this hr
  obtain ⟨h1, h2⟩ := rows_fill (blt_lt h0) (k := 0) (pre := []) (suf := zlist n len (dcells z)) hr hl' (by simp) (by simp [zlist]; rw [← hlen', hrm])
  simp only [List.nil_append] at h1
  have hch : chunk n len (rows.map fun r => r.map M.d).flatten = some rows := by rw [← hlen']; exact chunk_flat hl'
  exact op_buildSliceG h0 hzl' hle hparts h1 hch
theorem op_buildSliceP {T e n len : Nat} {parts : List (Nat × Operand)} {z : D} {ms : List (Nat × M)} {cs : List M} [ht : TySlice X.P T e] [hs : TySz X.P e n] [hz : TyZ X.P e z]
    (hn : Nat.blt 0 n = true) (hzl : (dcells z).length = n) (hle : Nat.ble (len * n) 16777216 = true) (he : evParts st parts = some ms)
    (hf : fillM (fun i => some (i * n, n)) (zlist n len (dcells z)) ms = some cs) (hp : Place st.H (.row false n 0 cs) pn H') :
    OpT X ⟨dst, .buildSlice T len parts.toArray, ty, pos, af, g⟩ st (eqp (.m (.rsl pn 0 len)) ⟨st.sl, st.bx, H'⟩) := by
  intro a σ lam hi
  have hn' := blt_lt hn
  have hle' := Nat.le_of_ble_eq_true hle
  obtain ⟨h1, h2⟩ := hi.evParts he
  obtain ⟨v, hz1, hz2⟩ := (tyZero_of hz.zero).run
  have hvc : RMc σ ((dcells z).map .d) v.cells := (RM.d (dOfVal_rep hz2) : RM σ (.d z) v).cells rfl
  have hvs : v.cells.size = n := by rw [hvc.1]; simpa using hzl
  have hc : RMc σ (zlist n len (dcells z)) ((Array.range (len * n)).map fun i => v.cells[i % v.cells.size]!) := by
    refine ⟨by simp [zlist], fun i m u hm hu => ?_⟩
    have hi' : i < len * n := by
      rcases Nat.lt_or_ge i (len * n) with h | h
      · exact h
      · rw [Array.getElem?_eq_none (by simpa using h)] at hu; cases hu
    have hmod : i % n < n := Nat.mod_lt _ hn'
    have hmd : i % n < (dcells z).length := by omega
    simp [zlist, hi', hzl] at hm
    simp [hi', hvs] at hu
    have hlt : i % n < v.cells.size := by omega
    subst hm; subst hu
    refine hvc.2 (i % n) _ _ ?_ ?_
    · simp [List.getElem?_eq_getElem hmd]
    · simp [hlt]
  obtain ⟨arr', h3, h4⟩ := fill_run hc h1 h2 hf
  have hlen : cs.length = len * n := by
    have hfl : ∀ {ps : List (Nat × M)} {a b : List M}, fillM (fun i => some (i * n, n)) a ps = some b → b.length = a.length := by
      intro ps
      induction ps with
      | nil => intro a b h; simp [fillM] at h; subst h; rfl
      | cons p ps ih =>
        intro a b h
        obtain ⟨i, m⟩ := p
        unfold fillM at h
        simp only at h
        cases hb : (Nat.beq (cellsOf m).length n && m.okc) with
        | false => simp [hb] at h
        | true =>
          simp only [hb, cond_true] at h
          split at h
          · rename_i a1 hw
            rw [ih h]
            unfold writeAt at hw
            cases hb2 : Nat.ble (i * n + (cellsOf m).length) a.length with
            | false => simp [hb2] at hw
            | true =>
              simp only [hb2, cond_true, Option.some.injEq] at hw
              subst hw
              have := Nat.le_of_ble_eq_true hb2
              simp; omega
          · cases h
    rw [hfl hf]; simp [zlist]
  have hasz : arr'.size = len * n := by rw [h4.1, hlen]
  have hlenmax : len ≤ 140737488355328 := by have := Nat.le_mul_of_pos_right len hn'; omega
  obtain ⟨τ, g1, g2, g3, g4, g5⟩ := hi.place hp (.cells arr' e (0, 0)) (by
    intro τ hm hw
    refine ⟨hn', arr', e, len, len, by rw [hw]; exact push_self _ _, hasz, Nat.le_refl _, ⟨hlen, hlenmax⟩, ?_⟩
    intro k m u hm' hu
    exact ⟨(h4.2 k m u hm' hu).1.mono hm, (h4.2 k m u hm' hu).2⟩)
  refine OpRun.value (u := .slice (some ⟨σ.w.heap.size, 0, none⟩) len len) (w' := τ.w) ?_ ⟨_, _, τ, lam, ⟨rfl, rfl⟩, rfl, g5, ?_⟩
  · have : (Array.map (fun x : Nat × Operand => match x with | (i, x) => (i, a.eval x)) parts.toArray).toList = parts.map fun p => (p.1, a.eval p.2) := by simp
    have h24 : ¬ (len * n > 2 ^ 24) := by omega
    by_cases hln : len * n = 0
    · have hle0 : len = 0 := by
        rcases Nat.mul_eq_zero.1 hln with h | h
        · exact h
        · omega
      subst hle0
      have harr : ((Array.range (0 * n)).map fun i => v.cells[i % v.cells.size]!) = #[] := by simp
      rw [harr] at h3
      simp only [execOp, Instr.buildSlice, Sem.run_bind, underlying, program, Sem.run, ht.u, Sem.run_pure, Result.andThen_ok, size_run hs.size, Sem.run_ite, hln, if_true, this]
      have e0 : Array.range 0 = (#[] : Array Nat) := by decide
      simp only [e0, Array.map_empty]
      rw [h3]
      simp [newRow, newObj, Sem.run, g1]
    · simp only [execOp, Instr.buildSlice, Sem.run_bind, underlying, program, Sem.run, ht.u, Sem.run_pure, Result.andThen_ok, size_run hs.size, Sem.run_ite, h24, if_false, hln, hz1, this]
      rw [h3]
      simp [newRow, newObj, Sem.run, g1]
  · refine .m (.rsl _ 0 len _ len (.inr ⟨false, n, 0, cs, g3, Nat.le_refl _⟩) ?_)
    intro acc' ec' cs' hh
    rw [g3] at hh
    simp at hh
    obtain ⟨e1, e2, e3⟩ := hh
    subst e1; subst e2; subst e3
    exact ⟨by rw [g2], hlen, _, e, by rw [g2, g1]; exact push_self _ _, hasz⟩

theorem op_b2sV {s t e : Nat} {x : Operand} {rows : List (List D)} {ns : List Int} [hs : TySlice X.P s e] [he : TyInt X.P e .u8] [ht : TyStr X.P t] {mx : M} (hx : st.ev x = some (.m mx)) (hvx : viewD st.H mx = some (.sl rows)) (hb : bytesO rows = some ns) :
    OpT X ⟨dst, .convert s t x, ty, pos, af, g⟩ st (eqp (.m (.d (.str (strOfNums ns)))) st) := by
  have := bytesO_eq hb
  subst this
  refine OpT.quiet fun a σ lam hi => ?_
  have h := hi.evdv hx hvx
  generalize hu : a.eval x = u at h
  refine ⟨.string (strOfNums ns), ?_, .m (.d (.str _))⟩
  generalize hr : (ns.map fun n => [D.int .u8 n]) = rows at h
  cases h with
  | slnil ad =>
    have : ns = [] := by simpa using hr
    subst this
    cases ad with
    | none =>
      have := run_convert_bytes_nil (P := X.P) σ.w s e hs.u he.u 0 0 t ht.u
      simp [execOp, hu, this, strOfNums]
      rfl
    | some ad =>
      have h1 : (loadCells ad 0).run X.P σ.w = .ok #[] σ.w := by simp [loadCells, loadCellsFrom]
      simp only [execOp, hu, Sem.run_bind]
      rw [run_convert_bytes_string σ.w s t e (some ad) 0 0 hs.u he.u ht.u, run_bytesToString σ.w ad 0 0 [] (by simpa using h1)]
      simp [strOfNums, ByteArray.empty, ByteArray.emptyWithCapacity]
      rfl
  | sl rows b o cap ec val h0 hcap hmax hec hcell hflat hrep =>
    subst hr
    have hlen : (ns.map fun n => [D.int .u8 n]).length = ns.length := by simp
    have hec1 : ec = 1 := by
      cases ns with
      | nil => simp at h0
      | cons n ns => rw [← hec [.int .u8 n] (by simp)]; rfl
    subst hec1
    have := run_convert_bytes_arg (P := X.P) σ.w s e hs.u he.u b o ns.length cap ns rfl (by
      intro i hi
      have h1 := (hcell i 0 (by simpa using hi) (by omega)).1
      have h2 := hrep i 0 [.int .u8 ns[i]] (.int .u8 ns[i]) (by simp [hi]) rfl
      have : val i 0 = .int .u8 ns[i] := by generalize val i 0 = q at h2; cases h2; rfl
      rw [this] at h1
      simp at h1
      simpa [hi] using h1) t ht.u
    simp [execOp, hu, this]

theorem op_makeFuncM {f : Nat} {caps : List Operand} {ms : List M} (ha : st.evMs caps = some ms) (hlt : f < 1024 := by decide) :
    OpT X ⟨dst, .makeFunc (.func f) #[] caps.toArray, ty, pos, af, g⟩ st (eqp (.m (.fn f ms)) st) := by
  refine OpT.quiet fun a σ lam hi => ?_
  have h := hi.evMs ha
  exact ⟨.func (.func f) #[] (caps.map a.eval).toArray, by simp [execOp, Instr.makeFunc], .m (.fn f ms _ hlt h.1 h.2)⟩
/-- a method with its receiver -/
theorem op_makeFuncB {f : Nat} {firsts : List Operand} {ms : List M} (ha : st.evMs firsts = some ms) :
    OpT X ⟨dst, .makeFunc (.func f) firsts.toArray #[], ty, pos, af, g⟩ st (eqp (.m (.fn (f + 1024) ms)) st) := by
  refine OpT.quiet fun a σ lam hi => ?_
  have h := hi.evMs ha
  exact ⟨.func (.func f) (firsts.map a.eval).toArray #[], by simp [execOp, Instr.makeFunc], .m (.fnB f _ ms _ rfl h.1 h.2)⟩

theorem viewArgs {σ : Sg} {Oo : Nat → Nat → Prop} (hi : HInv σ Oo) {ms : List M} {ds : List D} {vs : Array Value} (h : RMs σ ms vs) (hv : viewL (viewD σ.H) ms = some ds) : Reps σ.O σ.w ds vs := by
  obtain ⟨h1, h2⟩ := viewL_spec hv
  refine ⟨by rw [h.1, h1], fun i d v hd hvv => ?_⟩
  have hk : i < ms.length := by rw [← h1]; rcases Nat.lt_or_ge i ds.length with h | h; exact h; simp [List.getElem?_eq_none h] at hd
  exact (h.2 i ms[i] v (by simp [hk]) hvv).viewD hi (h2 i ms[i] d (by simp [hk]) hd)

theorem rms_append {σ : Sg} {ms ns : List M} {vs us : Array Value} (h : RMs σ ms vs) (k : RMs σ ns us) : RMs σ (ms ++ ns) (vs ++ us) := by
  refine ⟨by simp [h.1, k.1], fun i m v hm hv => ?_⟩
  have hl := h.1
  rcases Nat.lt_or_ge i ms.length with hlt | hge
  · rw [List.getElem?_append_left hlt] at hm
    rw [Array.getElem?_append_left (by omega)] at hv
    exact h.2 i m v hm hv
  · rw [List.getElem?_append_right hge] at hm
    rw [Array.getElem?_append_right (by omega), hl] at hv
    exact k.2 _ m v hm hv

/-- what a callee's operand and arguments enter -/
def Enters (X : Ctx) (st : St) (c : Call) (f : Nat) (ms : List M) : Prop :=
  ∀ (dst : Option Nat) (ty : Nat) (pos : String) (af : Array Edge) (g : Option (Nat × Bool)) (a : Act) (σ : Sg) (lam : Nat → Nat), FInv X σ lam st a → ∃ vs, (execOp a.eval ⟨dst, .call c, ty, pos, af, g⟩).run X.P σ.w = .ok (.enter f vs) σ.w ∧ RMs σ ms vs

theorem enters_func {f : Nat} {args : List Operand} {tys : Array Nat} {ms : List M} [hf : IsFn X.P f] (ha : st.evMs args = some ms) : Enters X st ⟨.value (.func f), args.toArray, tys⟩ f ms := by
  intro dst ty pos af g a σ lam hi
  refine ⟨(args.map a.eval).toArray, ?_, hi.evMs ha⟩
  simp only [execOp, resolve, Act.eval, Deferred.ofValue, invoke]
  simp [hf.run]
theorem enters_fnM {x : Operand} {f : Nat} {caps : List M} {args : List Operand} {tys : Array Nat} {ms : List M} [hf : IsFn X.P f] (hx : st.ev x = some (.m (.fn f caps))) (ha : st.evMs args = some ms) (hlt : f < 1024 := by decide) : Enters X st ⟨.value x, args.toArray, tys⟩ f (ms ++ caps) := by
  intro dst ty pos af g a σ lam hi
  have h1 := hi.ev hx
  have h2 := hi.evMs ha
  generalize hu : a.eval x = u at h1
  cases h1 with
  | m h1 => cases h1 with
    | fnB f g cs vs hg hl hh => omega
    | fn f cs vs hlt hl hh =>
      refine ⟨(args.map a.eval).toArray ++ vs, ?_, rms_append h2 ⟨hl, hh⟩⟩
      simp only [execOp, resolve, hu, Deferred.ofValue, invoke]
      simp [hf.run]
theorem enters_fnB {x : Operand} {f g : Nat} {firsts : List M} {args : List Operand} {tys : Array Nat} {ms : List M} [hf : IsFn X.P f] (hx : st.ev x = some (.m (.fn g firsts))) (ha : st.evMs args = some ms) (hg : g = f + 1024) : Enters X st ⟨.value x, args.toArray, tys⟩ f (firsts ++ ms) := by
  intro dst ty pos af gd a σ lam hi
  have h1 := hi.ev hx
  have h2 := hi.evMs ha
  generalize hu : a.eval x = u at h1
  cases h1 with
  | m h1 => cases h1 with
    | fn g cs vs hlt hl hh => omega
    | fnB f' g cs vs hg' hl hh =>
      have e : f' = f := by omega
      subst e
      refine ⟨vs ++ (args.map a.eval).toArray, ?_, rms_append ⟨hl, hh⟩ h2⟩
      simp only [execOp, resolve, hu, Deferred.ofValue, invoke]
      simp [hf.run]
theorem enters_fnD {x : Operand} {f : Nat} {caps : List D} {args : List Operand} {tys : Array Nat} {ms : List M} [hf : IsFn X.P f] (hx : st.ev x = some (.m (.d (.fn f caps)))) (ha : st.evMs args = some ms) : Enters X st ⟨.value x, args.toArray, tys⟩ f (ms ++ caps.map .d) := by
  intro dst ty pos af g a σ lam hi
  have h1 := hi.evd hx
  have h2 := hi.evMs ha
  generalize hu : a.eval x = u at h1
  cases h1 with
  | fn f cs vs hl hh =>
    refine ⟨(args.map a.eval).toArray ++ vs, ?_, rms_append h2 ⟨by simp [hl], fun i m v hm hv => ?_⟩⟩
    · simp only [execOp, resolve, hu, Deferred.ofValue, invoke]
      simp [hf.run]
    · simp only [List.getElem?_map, Option.map_eq_some_iff] at hm
      obtain ⟨d, hd, rfl⟩ := hm
      exact .d (hh i d v hd hv)

theorem OpT.weaken {o : Oper} {p q : V → St → Prop} (h : OpT X o st p) (hpq : ∀ v s, p v s → q v s) : OpT X o st q := by
  intro a σ lam hi
  have := h a σ lam hi
  unfold OpRun at this ⊢
  generalize (execOp a.eval o).run X.P σ.w = z at *
  cases z with
  | ok x w' =>
    cases x <;> simp only at this ⊢ <;> first
      | (obtain ⟨v, s, σ', l', h1, h2⟩ := this; exact ⟨v, s, σ', l', hpq _ _ h1, h2⟩)
      | exact this.mono fun e w'' ⟨u, he, v, s, σ', l', h1, h2⟩ => ⟨u, he, v, s, σ', l', hpq _ _ h1, h2⟩
      | exact this
  | halt x w' => exact this

theorem op_enterR {c : Call} {f : Nat} {ms : List M} {r : M} {H1 : Hp} (he : Enters X st c f ms) (h : CT X.P f ms st.H fun a b => a = r ∧ b = H1) :
    OpT X ⟨dst, .call c, ty, pos, af, g⟩ st (eqp (.m r) ⟨st.sl, st.bx, H1⟩) :=
  (OpT.callR h (he dst ty pos af g)).weaken (by rintro v s ⟨r', H', rfl, ⟨rfl, rfl⟩, rfl⟩; exact ⟨rfl, rfl⟩)
theorem op_enterD {c : Call} {f : Nat} {ms : List M} {ds rs : List D} (he : Enters X st c f ms) (hv : viewL (viewD st.H) ms = some ds) (h : PT X.P f ds (· = rs)) :
    OpT X ⟨dst, .call c, ty, pos, af, g⟩ st (eqp (.m (tupM (rs.map .d))) st) := by
  refine (OpT.callD (ds := ds) h fun a σ lam hi => ?_).weaken (by rintro v s ⟨r', rfl, rfl, rfl⟩; exact ⟨rfl, rfl⟩)
  obtain ⟨vs, h1, h2⟩ := he dst ty pos af g a σ lam hi
  exact ⟨vs, h1, viewArgs hi.hinv h2 (by rw [hi.hH]; exact hv)⟩

theorem op_shl {xt yt : Nat} {x y : Operand} {k k' : IntKind} {m n : Int} (hx : st.ev x = some (.m (.d (.int k m)))) (hy : st.ev y = some (.m (.d (.int k' n)))) (hn : ¬ n < 0) :
    OpT X ⟨dst, .binOp .shl xt x y yt, ty, pos, af, g⟩ st (eqp (.m (.d (.int k (k.wrap (m * 2 ^ (min n.toNat k.bits)))))) st) := by
  refine OpT.quiet fun a σ lam hi => ?_
  have h1 := hi.evint hx
  have h2 := hi.evint hy
  exact ⟨.int k (k.wrap (m * 2 ^ (min n.toNat k.bits))), by simp [execOp, h1, h2, eqGuard, binOp, Op.shift, hn], .m (.d (by constructor))⟩
theorem op_shr {xt yt : Nat} {x y : Operand} {k k' : IntKind} {m n : Int} (hx : st.ev x = some (.m (.d (.int k m)))) (hy : st.ev y = some (.m (.d (.int k' n)))) (hn : ¬ n < 0) :
    OpT X ⟨dst, .binOp .shr xt x y yt, ty, pos, af, g⟩ st (eqp (.m (.d (.int k (m.fdiv (2 ^ (min n.toNat k.bits)))))) st) := by
  refine OpT.quiet fun a σ lam hi => ?_
  have h1 := hi.evint hx
  have h2 := hi.evint hy
  exact ⟨.int k (m.fdiv (2 ^ (min n.toNat k.bits))), by simp [execOp, h1, h2, eqGuard, binOp, Op.shift, hn], .m (.d (by constructor))⟩
theorem op_and {xt yt : Nat} {x y : Operand} {k : IntKind} {m n : Int} (hx : st.ev x = some (.m (.d (.int k m)))) (hy : st.ev y = some (.m (.d (.int k n)))) :
    OpT X ⟨dst, .binOp .and xt x y yt, ty, pos, af, g⟩ st (eqp (.m (.d (.int k (k.wrap (BitVec.ofInt k.bits m &&& BitVec.ofInt k.bits n).toNat)))) st) := by
  refine OpT.quiet fun a σ lam hi => ?_
  have h1 := hi.evint hx
  have h2 := hi.evint hy
  exact ⟨.int k (k.wrap (BitVec.ofInt k.bits m &&& BitVec.ofInt k.bits n).toNat), by simp [execOp, h1, h2, eqGuard, binOp, Op.intBits], .m (.d (by constructor))⟩
theorem op_or {xt yt : Nat} {x y : Operand} {k : IntKind} {m n : Int} (hx : st.ev x = some (.m (.d (.int k m)))) (hy : st.ev y = some (.m (.d (.int k n)))) :
    OpT X ⟨dst, .binOp .or xt x y yt, ty, pos, af, g⟩ st (eqp (.m (.d (.int k (k.wrap (BitVec.ofInt k.bits m ||| BitVec.ofInt k.bits n).toNat)))) st) := by
  refine OpT.quiet fun a σ lam hi => ?_
  have h1 := hi.evint hx
  have h2 := hi.evint hy
  exact ⟨.int k (k.wrap (BitVec.ofInt k.bits m ||| BitVec.ofInt k.bits n).toNat), by simp [execOp, h1, h2, eqGuard, binOp, Op.intBits], .m (.d (by constructor))⟩
theorem op_xor {xt yt : Nat} {x y : Operand} {k : IntKind} {m n : Int} (hx : st.ev x = some (.m (.d (.int k m)))) (hy : st.ev y = some (.m (.d (.int k n)))) :
    OpT X ⟨dst, .binOp .xor xt x y yt, ty, pos, af, g⟩ st (eqp (.m (.d (.int k (k.wrap (BitVec.ofInt k.bits m ^^^ BitVec.ofInt k.bits n).toNat)))) st) := by
  refine OpT.quiet fun a σ lam hi => ?_
  have h1 := hi.evint hx
  have h2 := hi.evint hy
  exact ⟨.int k (k.wrap (BitVec.ofInt k.bits m ^^^ BitVec.ofInt k.bits n).toNat), by simp [execOp, h1, h2, eqGuard, binOp, Op.intBits], .m (.d (by constructor))⟩
theorem op_strlss {xt yt : Nat} {x y : Operand} {s u : ByteArray} (hx : st.ev x = some (.m (.d (.str s)))) (hy : st.ev y = some (.m (.d (.str u)))) :
    OpT X ⟨dst, .binOp .lss xt x y yt, ty, pos, af, g⟩ st (eqp (.m (.d (.bool (Op.bytesLess s.toList u.toList)))) st) := by
  refine OpT.quiet fun a σ lam hi => ?_
  have h1 := hi.evstr hx
  have h2 := hi.evstr hy
  exact ⟨_, by simp [execOp, h1, h2, eqGuard, binOp, Op.stringOp]; rfl, .m (.d (by constructor))⟩
end ops
end Go.Mt

set_option linter.unusedVariables false
set_option linter.unusedSimpArgs false
namespace Go.Mt

theorem listEqB_eq : ∀ (a b : List UInt8), listEqB a b = decide (a = b)
  | [], [] => by simp [listEqB]
  | [], _ :: _ => by simp [listEqB]
  | _ :: _, [] => by simp [listEqB]
  | a :: r, b :: s => by
    unfold listEqB
    by_cases h : a = b
    · subst h; simp [listEqB_eq r s]
    · have : Nat.beq a.toNat b.toNat = false := by
        rw [← Bool.not_eq_true]; intro e; exact h (UInt8.toNat_inj.1 (Nat.eq_of_beq_eq_true e))
      rw [this]; simp [h]
theorem strEqB_eq (s u : ByteArray) : strEqB s u = decide (s = u) := by
  unfold strEqB
  rw [listEqB_eq]
  cases s with
  | mk a => cases u with
    | mk b => cases a; cases b; simp
theorem catB_eq (s u : ByteArray) : catB s u = s ++ u := by
  unfold catB
  apply ByteArray.ext
  simp [ByteArray.data_append]
theorem lookE_eq (k : ByteArray) : ∀ es, lookE k es = lookM k es
  | [] => rfl
  | (d, m) :: r => by cases d <;> simp [lookE, lookM, strEqB_eq, lookE_eq k r]
theorem updE_eq (k : ByteArray) (v : M) : ∀ es, updE k v es = updM k v es
  | [] => rfl
  | (d, m) :: r => by cases d <;> simp [updE, updM, strEqB_eq, updE_eq k v r]

section ops
variable {X : Ctx} {st : St} {dst : Option Nat} {ty : Nat} {pos : String} {af : Array Edge} {g : Option (Nat × Bool)} {pn : Nat} {H' : Hp}

theorem op_lookupNil {T e : Nat} {x y : Operand} {k : ByteArray} {z : D} {ok : Bool} [ht : TyMapS X.P T e] [hz : TyZ X.P e z] (hx : st.ev x = some (.m (.d .nilm))) (hy : st.ev y = some (.m (.d (.str k)))) :
    OpT X ⟨dst, .lookup T x y ok, ty, pos, af, g⟩ st (eqp (bif ok then .m (.tup [.d z, .d (.bool false)]) else .m (.d z)) st) := by
  refine OpT.quiet fun a σ lam hi => ?_
  have h := hi.evd hx
  have h2 := hi.evstr hy
  obtain ⟨kt, u1, u2⟩ := ht.u
  obtain ⟨zv, hz1, hz2⟩ := (tyZero_of hz.zero).run
  generalize hu : a.eval x = u at h
  cases h with
  | nilm =>
    have hck : ∀ b, (Instr.checkKey b 10000 kt (.string k)).run X.P σ.w = .ok () σ.w := fun b => checkKey_str (n := 9999) u2
    cases ok with
    | true =>
      refine ⟨.tuple #[zv, .bool false], ?_, .m (.tup _ _ rfl ?_)⟩
      · simp only [execOp, hu, h2, Instr.lookup]
        simp [underlying, program, Sem.run, u1, hck, Instr.findKey, u2, hz1, Instr.findNow]
      · intro n m v hm hv
        match n with
        | 0 => simp at hm hv; subst hm; subst hv; exact .d (dOfVal_rep hz2)
        | 1 => simp at hm hv; subst hm; subst hv; exact .d (.bool _)
        | n + 2 => simp at hm
    | false =>
      refine ⟨zv, ?_, .m (.d (dOfVal_rep hz2))⟩
      simp only [execOp, hu, h2, Instr.lookup]
      simp [underlying, program, Sem.run, u1, hck, Instr.findKey, u2, hz1, Instr.findNow]

theorem op_index {T : Nat} {x y : Operand} {s : ByteArray} {k : IntKind} {i : Nat} {b : UInt8} [ht : TyStr X.P T] (hx : st.ev x = some (.m (.d (.str s)))) (hy : st.ev y = some (.m (.d (.int k (.ofNat i))))) (hb : s.data.toList[i]? = some b) :
    OpT X ⟨dst, .index T x y, ty, pos, af, g⟩ st (eqp (.m (.d (.int .u8 b.toNat))) st) := by
  refine OpT.quiet fun a σ lam hi => ?_
  have h1 := hi.evstr hx
  have h2 := hi.evint hy
  have hb' : s[i]? = some b := by
    have hlt : i < s.data.toList.length := by rcases Nat.lt_or_ge i s.data.toList.length with h | h; exact h; simp [List.getElem?_eq_none h] at hb
    have hs : i < s.size := by have h9 := hlt; rw [Array.length_toList] at h9; exact h9
    rw [getElem?_pos s i hs]
    rw [List.getElem?_eq_getElem hlt] at hb
    injection hb with hb
    rw [← hb]
    rfl
  refine ⟨.int .u8 b.toNat, ?_, .m (.d (.int _ _))⟩
  have hund : (underlying T).run X.P σ.w = .ok .string σ.w := by simp [underlying, program, Sem.run, ht.u]
  have hif : (if (0 : Int) ≤ Int.ofNat i then s[(Int.ofNat i).toNat]? else none) = some b := by
    have h0 : (0 : Int) ≤ Int.ofNat i := Int.natCast_nonneg i
    rw [if_pos h0]; exact hb'
  simp only [execOp, h1, h2, Instr.index, asIntOf, Sem.run_bind, Sem.run_pure, Result.andThen_ok, hund, hif]

/-- what a pointer, a map or a function is against nil -/
theorem nil_ptr {σ : Sg} {lam : Nat → Nat} {v : V} {u : Value} {z : Bool} (h : RV σ lam v u) (hn : nilOf 1 v = some z) : ∃ p, u = .pointer p ∧ p.isNone = z := by
  unfold nilOf at hn
  cases h with
  | loc t off => simp at hn; subst hn; exact ⟨_, rfl, rfl⟩
  | tl _ _ _ _ _ _ _ _ => simp at hn
  | m h => cases h with
    | ref i off cs h => simp at hn; subst hn; exact ⟨_, rfl, rfl⟩
    | rref i ver off b h1 h2 => simp at hn; subst hn; exact ⟨_, rfl, rfl⟩
    | d h => cases h with
      | pim cs off b o val h1 h2 h3 => simp at hn; subst hn; exact ⟨_, rfl, rfl⟩
      | nilp => simp at hn; subst hn; exact ⟨_, rfl, rfl⟩
      | _ => simp at hn
    | _ => simp at hn
theorem nil_map {σ : Sg} {lam : Nat → Nat} {v : V} {u : Value} {z : Bool} (h : RV σ lam v u) (hn : nilOf 2 v = some z) : ∃ p, u = .map p ∧ p.isNone = z := by
  unfold nilOf at hn
  cases h with
  | loc t off => simp at hn
  | tl _ _ _ _ _ _ _ _ => simp at hn
  | m h => cases h with
    | mp i es h => simp at hn; subst hn; exact ⟨_, rfl, rfl⟩
    | d h => cases h with
      | nilm => simp at hn; subst hn; exact ⟨_, rfl, rfl⟩
      | _ => simp at hn
    | _ => simp at hn
theorem nil_fun {σ : Sg} {lam : Nat → Nat} {v : V} {u : Value} {z : Bool} (h : RV σ lam v u) (hn : nilOf 3 v = some z) : (z = true ∧ u = .nilFunc) ∨ (z = false ∧ ∃ f a b, u = .func f a b) := by
  unfold nilOf at hn
  cases h with
  | loc t off => simp at hn
  | tl _ _ _ _ _ _ _ _ => simp at hn
  | m h => cases h with
    | fn f cs vs hlt hl hh => simp at hn; subst hn; exact .inr ⟨rfl, _, _, _, rfl⟩
    | fnB f g cs vs hg hl hh => simp at hn; subst hn; exact .inr ⟨rfl, _, _, _, rfl⟩
    | d h => cases h with
      | nilf => simp at hn; subst hn; exact .inl ⟨rfl, rfl⟩
      | fn f cs vs hl hh => simp at hn; subst hn; exact .inr ⟨rfl, _, _, _, rfl⟩
      | _ => simp at hn
    | _ => simp at hn

theorem equal_ptr {P : Program} {w : World} {t e : Nat} (h : P.underlying t = some (.pointer e)) (p : Option Addr) : (Op.equal t (.pointer p) (.pointer none)).run P w = .ok p.isNone w := by
  have hund : (underlying t).run P w = .ok (.pointer e) w := by simp [underlying, program, Sem.run, h]
  simp only [Op.equal, Op.maxDepth]
  rw [Op.equalIn]
  cases p <;> simp [hund]
theorem equal_map {P : Program} {w : World} {t e e2 : Nat} (h : P.underlying t = some (.map e e2)) (p : Option Nat) : (Op.equal t (.map p) (.map none)).run P w = .ok p.isNone w := by
  have hund : (underlying t).run P w = .ok (.map e e2) w := by simp [underlying, program, Sem.run, h]
  simp only [Op.equal, Op.maxDepth]
  rw [Op.equalIn]
  cases p <;> simp [hund]
theorem equal_fun {P : Program} {w : World} {t : Nat} {e1 e2 e3} (h : P.underlying t = some (.func e1 e2 e3)) (x : Value) (hx : x = .nilFunc ∨ ∃ f c d, x = .func f c d) : (Op.equal t x .nilFunc).run P w = .ok (match x with | .nilFunc => true | _ => false) w := by
  have hund : (underlying t).run P w = .ok (.func e1 e2 e3) w := by simp [underlying, program, Sem.run, h]
  simp only [Op.equal, Op.maxDepth]
  rw [Op.equalIn]
  rcases hx with rfl | ⟨f, c, d, rfl⟩ <;> simp [hund]

theorem eq_nil {P : Program} {w : World} {xt k : Nat} {σ : Sg} {lam : Nat → Nat} {v u : V} {a b : Value} {z : Bool} (hk : tyRef P xt = k) (hk0 : k = 1 ∨ k = 2 ∨ k = 3) (ha : RV σ lam v a) (hb : RV σ lam u b) (h1 : nilOf k v = some z) (h2 : nilOf k u = some true) :
    (Op.equal xt a b).run P w = .ok z w ∧ (∀ op x y, (eqGuard op xt x y a b).run P w = .ok () w) ∧ (binOp .eql xt a b).run P w = .ok (.bool z) w ∧ (binOp .neq xt a b).run P w = .ok (.bool (!z)) w := by
  have key : (Op.equal xt a b).run P w = .ok z w → (∃ p q, a = .pointer p ∧ b = .pointer q) ∨ (∃ p q, a = .map p ∧ b = .map q) ∨ ((a = .nilFunc ∨ ∃ f c d, a = .func f c d) ∧ b = .nilFunc) →
      (Op.equal xt a b).run P w = .ok z w ∧ (∀ op x y, (eqGuard op xt x y a b).run P w = .ok () w) ∧ (binOp .eql xt a b).run P w = .ok (.bool z) w ∧ (binOp .neq xt a b).run P w = .ok (.bool (!z)) w := by
    rintro he (⟨p, q, rfl, rfl⟩ | ⟨p, q, rfl, rfl⟩ | ⟨rfl | ⟨f, c, d, rfl⟩, rfl⟩) <;>
      exact ⟨he, fun op x y => by cases op <;> simp [eqGuard], by simp [binOp, he], by simp [binOp, he]⟩
  rcases hk0 with rfl | rfl | rfl
  · obtain ⟨p, rfl, hp⟩ := nil_ptr ha h1
    obtain ⟨q, rfl, hq⟩ := nil_ptr hb h2
    have hu : ∃ e, P.underlying xt = some (.pointer e) := by
      unfold tyRef at hk
      split at hk <;> first | exact ⟨_, by assumption⟩ | cases hk
    obtain ⟨e, hu⟩ := hu
    refine key ?_ (.inl ⟨p, q, rfl, rfl⟩)
    have : q = none := by simpa using hq
    subst this
    rw [equal_ptr hu, hp]
  · obtain ⟨p, rfl, hp⟩ := nil_map ha h1
    obtain ⟨q, rfl, hq⟩ := nil_map hb h2
    have hu : ∃ e e2, P.underlying xt = some (.map e e2) := by
      unfold tyRef at hk
      split at hk <;> first | exact ⟨_, _, by assumption⟩ | cases hk
    obtain ⟨e, e2, hu⟩ := hu
    refine key ?_ (.inr (.inl ⟨p, q, rfl, rfl⟩))
    have : q = none := by simpa using hq
    subst this
    rw [equal_map hu, hp]
  · have hu : ∃ e e2 e3, P.underlying xt = some (.func e e2 e3) := by
      unfold tyRef at hk
      split at hk <;> first | exact ⟨_, _, _, by assumption⟩ | cases hk
    obtain ⟨e1, e2, e3, hu⟩ := hu
    rcases nil_fun hb h2 with ⟨_, rfl⟩ | ⟨h, _⟩
    · rcases nil_fun ha h1 with ⟨rfl, rfl⟩ | ⟨rfl, f, c, d, rfl⟩
      · exact key (by rw [equal_fun hu _ (.inl rfl)]) (.inr (.inr ⟨.inl rfl, rfl⟩))
      · exact key (by rw [equal_fun hu _ (.inr ⟨f, c, d, rfl⟩)]) (.inr (.inr ⟨.inr ⟨f, c, d, rfl⟩, rfl⟩))
    · cases h

theorem nil_ifc {σ : Sg} {lam : Nat → Nat} {v : V} {u : Value} {z : Bool} (h : RV σ lam v u) (hn : nilOf 5 v = some z) : (z = true ∧ u = .nilIface) ∨ (z = false ∧ ∃ t x, u = .iface t x) := by
  unfold nilOf at hn
  cases h with
  | loc t off => simp at hn
  | tl _ _ _ _ _ _ _ _ => simp at hn
  | m h => cases h with
    | d h => cases h with
      | nili => simp at hn; subst hn; exact .inl ⟨rfl, rfl⟩
      | ifc t d v h => simp at hn; subst hn; exact .inr ⟨rfl, _, _, rfl⟩
      | _ => simp at hn
    | _ => simp at hn
theorem equal_ifc {P : Program} {w : World} {t : Nat} {ms} (h : P.underlying t = some (.interface ms)) (x : Value) (hx : x = .nilIface ∨ ∃ f c, x = .iface f c) : (Op.equal t x .nilIface).run P w = .ok (match x with | .nilIface => true | _ => false) w := by
  have hund : (underlying t).run P w = .ok (.interface ms) w := by simp [underlying, program, Sem.run, h]
  simp only [Op.equal, Op.maxDepth]
  rw [Op.equalIn]
  rcases hx with rfl | ⟨f, c, rfl⟩ <;> simp [hund]
theorem op_nilI {xt yt : Nat} {x : Operand} {v : V} {z : Bool} {op : BinOp} (hop : op = .eql ∨ op = .neq) (hk : tyRef X.P xt = 5) (hx : st.ev x = some v) (h1 : nilOf 5 v = some z) :
    OpT X ⟨dst, .binOp op xt x (.const .nilIface) yt, ty, pos, af, g⟩ st (eqp (.m (.d (.bool (match op with | .eql => z | _ => !z)))) st) := by
  refine OpT.quiet fun a σ lam hi => ?_
  have hu : ∃ ms, X.P.underlying xt = some (.interface ms) := by
    unfold tyRef at hk
    split at hk <;> first | exact ⟨_, by assumption⟩ | cases hk
  obtain ⟨ms, hu⟩ := hu
  have hy : a.eval (.const .nilIface) = .nilIface := rfl
  rcases nil_ifc (hi.ev hx) h1 with ⟨rfl, hv⟩ | ⟨rfl, t, c, hv⟩
  · have he := equal_ifc (w := σ.w) hu .nilIface (.inl rfl)
    rcases hop with rfl | rfl
    · exact ⟨.bool true, by simp [execOp, hv, hy, eqGuard, binOp, he], .m (.d (.bool _))⟩
    · exact ⟨.bool false, by simp [execOp, hv, hy, eqGuard, binOp, he], .m (.d (.bool _))⟩
  · have he := equal_ifc (w := σ.w) hu (.iface t c) (.inr ⟨t, c, rfl⟩)
    rcases hop with rfl | rfl
    · exact ⟨.bool false, by simp [execOp, hv, hy, eqGuard, binOp, he], .m (.d (.bool _))⟩
    · exact ⟨.bool true, by simp [execOp, hv, hy, eqGuard, binOp, he], .m (.d (.bool _))⟩

theorem equal_sl {P : Program} {w : World} {t e : Nat} (h : P.underlying t = some (.slice e)) (a : Addr) (l c : Nat) : (Op.equal t (.slice (some a) l c) (.slice none 0 0)).run P w = .ok false w := by
  have hund : (underlying t).run P w = .ok (.slice e) w := by simp [underlying, program, Sem.run, h]
  simp only [Op.equal, Op.maxDepth]
  rw [Op.equalIn]
  simp [hund]
theorem op_nilS {xt yt : Nat} {x : Operand} {op : BinOp} (hop : op = .eql ∨ op = .neq) (hk : tyRef X.P xt = 6) (hx : ∀ a σ lam, FInv X σ lam st a → ∃ ad l c, a.eval x = .slice (some ad) l c) :
    OpT X ⟨dst, .binOp op xt x (.const (.slice none 0 0)) yt, ty, pos, af, g⟩ st (eqp (.m (.d (.bool (match op with | .eql => false | _ => true)))) st) := by
  refine OpT.quiet fun a σ lam hi => ?_
  have hu : ∃ e, X.P.underlying xt = some (.slice e) := by
    unfold tyRef at hk
    split at hk <;> first | exact ⟨_, by assumption⟩ | cases hk
  obtain ⟨e, hu⟩ := hu
  obtain ⟨ad, l, c, hv⟩ := hx a σ lam hi
  have hy : a.eval (.const (.slice none 0 0)) = .slice none 0 0 := rfl
  have he := equal_sl (w := σ.w) hu ad l c
  rcases hop with rfl | rfl
  · exact ⟨.bool false, by simp [execOp, hv, hy, eqGuard, binOp, he], .m (.d (.bool _))⟩
  · exact ⟨.bool true, by simp [execOp, hv, hy, eqGuard, binOp, he], .m (.d (.bool _))⟩
theorem sl_cons {σ : Sg} {lam : Nat → Nat} {a : Act} (hi : FInv X σ lam st a) {x : Operand} {r : List D} {rs : List (List D)} (hx : st.ev x = some (.m (.d (.sl (r :: rs))))) : ∃ ad l c, a.eval x = .slice (some ad) l c := by
  have h := hi.evd hx
  generalize a.eval x = u at h
  cases h with
  | sl rows b o cap ec val h0 hcap hmax hec hcell hflat hrep => exact ⟨_, _, _, rfl⟩
theorem sl_row {σ : Sg} {lam : Nat → Nat} {a : Act} (hi : FInv X σ lam st a) {x : Operand} {j ver len : Nat} {acc : Bool} {ec : Nat} {cs : List M} (hx : st.ev x = some (.m (.rsl j ver len))) (hH : st.H[j]? = some (.row acc ec ver cs)) : ∃ ad l c, a.eval x = .slice (some ad) l c := by
  have h := hi.ev hx
  generalize a.eval x = u at h
  cases h with
  | m h => cases h with
    | rsl j ver len ad cap hle hcur =>
      obtain ⟨e1, _⟩ := hcur acc ec cs (by rw [hi.hH]; exact hH)
      subst e1
      exact ⟨_, _, _, rfl⟩
theorem op_slice00 {t e n : Nat} {x y z : Operand} {k k' : IntKind} {m : M} [ht : TySlice X.P t e] [hs : TySz X.P e n] (hx : st.ev x = some (.m m)) (hsl : isSl m = true) (hy : st.ev y = some (.m (.d (.int k 0)))) (hz : st.ev z = some (.m (.d (.int k' 0)))) :
    OpT X ⟨dst, .slice t x none (some y) (some z), ty, pos, af, g⟩ st (eqp (.m (.d (.sl []))) st) := by
  refine OpT.quiet fun a σ lam hi => ?_
  have hv : ∃ ad l c, a.eval x = .slice ad l c := by
    have h := hi.ev hx
    generalize a.eval x = u at h
    cases h with
    | m h => cases h with
      | rsl j ver len ad cap hle hcur => exact ⟨_, _, _, rfl⟩
      | d h => cases h with
        | slnil a => exact ⟨_, _, _, rfl⟩
        | slz a c => exact ⟨_, _, _, rfl⟩
        | sl rows b o cap ec val h0 hcap hmax hec hcell hflat hrep => exact ⟨_, _, _, rfl⟩
        | _ => cases hsl
      | _ => cases hsl
  obtain ⟨ad, l, c, hv⟩ := hv
  have h1 := hi.evint hy
  have h2 := hi.evint hz
  have hund : ∀ w : World, (underlying t).run X.P w = .ok (.slice e) w := fun w => by simp [underlying, program, Sem.run, ht.u]
  refine ⟨.slice ad 0 0, ?_, .m (.d (.slnil ad))⟩
  simp [execOp, Instr.sliceAt, Instr.slice, hund, hv, h1, h2, Instr.sliceBounds, Instr.sliceBound, asIntOf, size_run hs.size]

theorem equal_ref {P : Program} {w : World} {t e n : Nat} (h : P.underlying t = some (.pointer e)) (hs : tySize P e = some n) (hn : 0 < n) (a b : Addr) {z : Bool} (hz : (sameAddr a b).run P w = .ok z w) : (Op.equal t (.pointer (some a)) (.pointer (some b))).run P w = .ok z w := by
  have hund : (underlying t).run P w = .ok (.pointer e) w := by simp [underlying, program, Sem.run, h]
  have hn' : ¬ n = 0 := by omega
  simp only [Op.equal, Op.maxDepth]
  rw [Op.equalIn]
  simp [hund, size_run hs, hn', hz]
theorem op_ptreq {xt yt i j oi oj : Nat} {x y : Operand} {op : BinOp} (hop : op = .eql ∨ op = .neq) (hk : tyPtrOk X.P xt = true) (hx : st.ev x = some (.m (.ref i oi))) (hy : st.ev y = some (.m (.ref j oj))) :
    OpT X ⟨dst, .binOp op xt x y yt, ty, pos, af, g⟩ st (eqp (.m (.d (.bool (match op with | .eql => (Nat.beq i j && Nat.beq oi oj) | _ => !(Nat.beq i j && Nat.beq oi oj))))) st) := by
  refine OpT.quiet fun a σ lam hi => ?_
  have hu : ∃ e n, X.P.underlying xt = some (.pointer e) ∧ tySize X.P e = some n ∧ 0 < n := by
    unfold tyPtrOk at hk
    split at hk
    · rename_i e hu
      split at hk
      · rename_i n hn; exact ⟨e, n, hu, hn, blt_lt hk⟩
      · cases hk
    · cases hk
  obtain ⟨e, n, hu, hs, hn⟩ := hu
  have h1 := hi.ev hx
  have h2 := hi.ev hy
  generalize hv : a.eval x = p at h1
  generalize hw : a.eval y = q at h2
  cases h1 with
  | m h1 => cases h1 with
    | ref i oi cs hHi => cases h2 with
      | m h2 => cases h2 with
        | ref j oj ds hHj =>
          obtain ⟨arr, T, g1, _⟩ := hi.hinv.obj i _ hHi
          obtain ⟨arr2, T2, g2, _⟩ := hi.hinv.obj j _ hHj
          have hz : (sameAddr ⟨σ.l i, oi, none⟩ ⟨σ.l j, oj, none⟩).run X.P σ.w = .ok (Nat.beq i j && Nat.beq oi oj) σ.w := by
            by_cases e1 : i = j ∧ oi = oj
            · obtain ⟨rfl, rfl⟩ := e1
              have := run_sameAddr_same (P := X.P) σ.w ⟨σ.l i, oi, none⟩
              simpa using this
            · have hne : (⟨σ.l i, oi, none⟩ : Addr) ≠ ⟨σ.l j, oj, none⟩ := by
                intro he
                injection he with e2 e3
                exact e1 ⟨hi.hinv.inj i j _ _ hHi hHj trivial trivial e2, e3⟩
              have hf : (Nat.beq i j && Nat.beq oi oj) = false := by
                rw [← Bool.not_eq_true]
                intro h
                rw [Bool.and_eq_true] at h
                exact e1 ⟨Nat.eq_of_beq_eq_true h.1, Nat.eq_of_beq_eq_true h.2⟩
              rw [hf]
              exact run_sameAddr_other (P := X.P) σ.w hne g1 g2
          have he := equal_ref hu hs hn _ _ hz
          rcases hop with rfl | rfl
          · exact ⟨.bool (Nat.beq i j && Nat.beq oi oj), by simp [execOp, hv, hw, eqGuard, binOp, he], .m (.d (.bool _))⟩
          · exact ⟨.bool (!(Nat.beq i j && Nat.beq oi oj)), by simp [execOp, hv, hw, eqGuard, binOp, he], .m (.d (.bool _))⟩

theorem op_nil {xt yt k : Nat} {x y : Operand} {v u : V} {z : Bool} {op : BinOp} (hop : op = .eql ∨ op = .neq) (hk : tyRef X.P xt = k) (hk0 : k = 1 ∨ k = 2 ∨ k = 3) (hx : st.ev x = some v) (hy : st.ev y = some u) (h1 : nilOf k v = some z) (h2 : nilOf k u = some true) :
    OpT X ⟨dst, .binOp op xt x y yt, ty, pos, af, g⟩ st (eqp (.m (.d (.bool (match op with | .eql => z | _ => !z)))) st) := by
  refine OpT.quiet fun a σ lam hi => ?_
  obtain ⟨h3, h4, h5, h6⟩ := eq_nil (w := σ.w) hk hk0 (hi.ev hx) (hi.ev hy) h1 h2
  rcases hop with rfl | rfl
  · exact ⟨.bool z, by simp [execOp, h4, h5], .m (.d (.bool z))⟩
  · exact ⟨.bool (!z), by simp [execOp, h4, h6], .m (.d (.bool (!z)))⟩

theorem subB_eq (s : ByteArray) (l h : Nat) : subB s l h = s.extract l h := by
  unfold subB
  apply ByteArray.ext
  simp [ByteArray.data_extract]
  rw [← Array.toList_inj]
  simp [List.extract_eq_take_drop]
theorem part_run {P : Program} {σ : Sg} {t off : Nat} {cs : List M} {vs : Array Value} {m : M} {w : World} (h : RMc σ cs vs) (hr : readAt P t cs off = some m) : ∃ u, (part t vs off).run P w = .ok u w ∧ RM σ m u := by
  unfold readAt at hr
  split at hr
  · rename_i n ha hn
    have hag : TyAgg P t n := ⟨ha, hn⟩
    cases hb : Nat.ble (off + n) cs.length with
    | false => simp [hb] at hr
    | true =>
      simp only [hb, cond_true] at hr
      injection hr with hr
      have hle := Nat.le_of_ble_eq_true hb
      have hsz := h.1
      refine ⟨.agg (vs.extract off (off + n)), ?_, ?_⟩
      · unfold part
        simp [hag.run, size_run hn]
      · have hc : RMc σ ((cs.drop off).take n) (vs.extract off (off + n)) := by
          refine ⟨by simp; omega, fun i m' v hm hv => ?_⟩
          have hi : i < n := by
            rcases Nat.lt_or_ge i n with h | h
            · exact h
            · rw [List.getElem?_eq_none (by simp; omega)] at hm; cases hm
          rw [take_drop_getElem? _ _ _ _ hi] at hm
          rw [Array.getElem?_extract, if_pos (by omega)] at hv
          exact h.2 (off + i) m' v hm hv
        rw [← hr]
        unfold pack
        split
        · rename_i ds hd
          have := RMs.allD ⟨hc.1, fun i m v a b => (hc.2 i m v a b).1⟩ hd
          exact .d (.agg ds _ this.1 hc.flat this.2)
        · exact .agg _ _ hc.1 hc.flat (fun i m v a b => (hc.2 i m v a b).1)
  · rename_i n ha
    have hcl : TyCell P t := ⟨ha⟩
    have hlt : off < cs.length := by rcases Nat.lt_or_ge off cs.length with h | h; exact h; simp [List.getElem?_eq_none h] at hr
    have hlv : off < vs.size := by rw [h.1]; exact hlt
    refine ⟨vs[off], ?_, (h.2 off m vs[off] hr (by simp [hlv])).1⟩
    unfold part
    simp [hcl.run, hlv]
  · cases hr
theorem tyArr_eq {P : Program} {t len e : Nat} (h : tyArr P t = some (len, e)) : P.underlying t = some (.array len e) := by
  unfold tyArr at h
  split at h
  · rename_i l e' hu; injection h with h; injection h with e1 e2; subst e1; subst e2; exact hu
  · cases h
theorem op_buildArr {T len e n : Nat} {parts : List (Nat × Operand)} {z : List D} {ms : List (Nat × M)} {cs : List M} (hu : X.P.underlying T = some (.array len e)) [hs : TySz X.P e n] (hzz : tyZero X.P T = some (.agg z)) (he : evParts st parts = some ms)
    (hf : fillM (fun i => some (i * n, n)) (z.map .d) ms = some cs) : OpT X ⟨dst, .build T parts.toArray, ty, pos, af, g⟩ st (eqp (.m (pack cs)) st) := by
  refine OpT.quiet fun a σ lam hi => ?_
  obtain ⟨h1, h2⟩ := hi.evParts he
  obtain ⟨v, hz1, hz2⟩ := (tyZero_of hzz).run
  have hc : RMc σ (z.map .d) v.cells := (RM.d (dOfVal_rep hz2) : RM σ (.d (.agg z)) v).cells rfl
  obtain ⟨arr', h3, h4⟩ := fill_run hc h1 h2 hf
  refine ⟨.agg arr', ?_, .m ?_⟩
  · simp only [execOp, Instr.build]
    simp only [Sem.run_bind, hz1, Result.andThen_ok, underlying, program, Sem.run, hu, Sem.run_pure, size_run hs.size]
    have : (Array.map (fun x : Nat × Operand => match x with | (i, x) => (i, a.eval x)) parts.toArray).toList = parts.map fun p => (p.1, a.eval p.2) := by simp
    simp only [this]
    rw [h3]
    simp
  · unfold pack
    split
    · rename_i ds hd
      have := RMs.allD ⟨h4.1, fun i m v a b => (h4.2 i m v a b).1⟩ hd
      exact .d (.agg ds _ this.1 h4.flat this.2)
    · exact .agg _ _ h4.1 h4.flat (fun i m v a b => (h4.2 i m v a b).1)
theorem agg_cells {σ : Sg} {lam : Nat → Nat} {m : M} {cs : List M} {u : Value} (hv : RV σ lam (.m m) u) (hc : aggCells m = some cs) : ∃ vs, u = .agg vs ∧ RMc σ cs vs := by
  unfold aggCells at hc
  cases hv with
  | m hv => cases hv with
    | d hv => cases hv with
      | agg ds vs hl hfl hh =>
        simp at hc; subst hc
        refine ⟨vs, rfl, by simp [hl], fun i m v hm hvv => ?_⟩
        simp only [List.getElem?_map, Option.map_eq_some_iff] at hm
        obtain ⟨d, hd, rfl⟩ := hm
        exact ⟨.d (hh i d v hd hvv), hfl i v hvv⟩
      | _ => simp at hc
    | agg ms vs hl hfl hh =>
      simp at hc; subst hc
      exact ⟨vs, rfl, hl, fun i m v hm hvv => ⟨hh i m v hm hvv, hfl i v hvv⟩⟩
    | _ => simp at hc
theorem op_indexArr {T len e n i : Nat} {x y : Operand} {k : IntKind} {m r : M} {cs : List M} (hu : X.P.underlying T = some (.array len e)) [hs : TySz X.P e n] (hx : st.ev x = some (.m m)) (hy : st.ev y = some (.m (.d (.int k (.ofNat i))))) (hc : aggCells m = some cs) (hi : i < len)
    (hr : readAt X.P e cs (i * n) = some r) : OpT X ⟨dst, .index T x y, ty, pos, af, g⟩ st (eqp (.m r) st) := by
  refine OpT.quiet fun a σ lam hinv => ?_
  have hv := hinv.ev hx
  have h2 := hinv.evint hy
  generalize hw : a.eval x = u at hv
  obtain ⟨vs, rfl, hcs⟩ := agg_cells hv hc
  obtain ⟨z, h1, h3⟩ := part_run (w := σ.w) hcs hr
  refine ⟨z, ?_, .m h3⟩
  have hund : (underlying T).run X.P σ.w = .ok (.array len e) σ.w := by simp [underlying, program, Sem.run, hu]
  have hb : (0 : Int) ≤ Int.ofNat i ∧ Int.ofNat i < (len : Int) := ⟨Int.natCast_nonneg i, by exact Int.ofNat_lt.2 hi⟩
  simp only [execOp, hw, h2, Instr.index, asIntOf, Sem.run_bind, Sem.run_pure, Result.andThen_ok, hund, if_pos hb, size_run hs.size]
  have e1 : (Int.ofNat i).toNat = i := rfl
  rw [e1, h1]
  rfl
theorem op_indexA {T len e n i : Nat} {x y : Operand} {k : IntKind} {v u : V} (hu : X.P.underlying T = some (.array len e)) [hs : TySz X.P e n] (hx : st.ev x = some v) (hy : st.ev y = some (.m (.d (.int k (.ofNat i))))) (hi : i < len) (ha : addrAt (i * n) v = some u) :
    OpT X ⟨dst, .indexAddr T x y, ty, pos, af, g⟩ st (eqp u st) := by
  refine OpT.quiet fun a σ lam hinv => ?_
  have hv := hinv.ev hx
  have h2 := hinv.evint hy
  generalize hw : a.eval x = p at hv
  have hund : (underlying T).run X.P σ.w = .ok (.array len e) σ.w := by simp [underlying, program, Sem.run, hu]
  have hb : (0 : Int) ≤ Int.ofNat i ∧ Int.ofNat i < (len : Int) := ⟨Int.natCast_nonneg i, by exact Int.ofNat_lt.2 hi⟩
  have e1 : (Int.ofNat i).toNat = i := rfl
  have run : ∀ (b o : Nat), p = .pointer (some ⟨b, o, none⟩) → (execOp a.eval ⟨dst, .indexAddr T x y, ty, pos, af, g⟩).run X.P σ.w = .ok (.value (.pointer (some ⟨b, o + i * n, none⟩))) σ.w := by
    intro b o hp
    subst hp
    simp only [execOp, hw, h2, Instr.indexAt, asIntOf, Instr.sureAddr, Sem.run_bind, Sem.run_pure, Result.andThen_ok, hund, if_pos hb, size_run hs.size, e1, addr_add]
  unfold addrAt at ha
  cases hv with
  | loc t off =>
    simp at ha; subst ha
    exact ⟨_, run _ _ rfl, .loc t _⟩
  | tl _ _ _ _ _ _ _ _ => simp at ha
  | m hv => cases hv with
    | ref j off cs h => simp at ha; subst ha; exact ⟨_, run _ _ rfl, .m (.ref j _ cs h)⟩
    | rref j ver off b h1 h3 => simp at ha; subst ha; exact ⟨_, run _ _ rfl, .m (.rref j ver _ b h1 h3)⟩
    | d hv => cases hv with
      | pim cs off b o val h1 h3 h4 =>
        simp at ha; subst ha
        refine ⟨_, run _ _ rfl, ?_⟩
        rw [Nat.add_assoc]
        exact .m (.d (.pim cs (off + i * n) b o val h1 h3 h4))
      | _ => simp at ha
    | _ => simp at ha
theorem op_field {s f ft off : Nat} {x : Operand} {m r : M} {cs : List M} (hx : st.ev x = some (.m m)) (hf : tyFieldTy X.P s f = some (ft, off)) (hc : aggCells m = some cs) (hr : readAt X.P ft cs off = some r) :
    OpT X ⟨dst, .field s x f, ty, pos, af, g⟩ st (eqp (.m r) st) := by
  refine OpT.quiet fun a σ lam hi => ?_
  have hv := hi.ev hx
  generalize hu : a.eval x = u at hv
  have hfr : ∃ fields fd, X.P.underlying s = some (.struct fields) ∧ fields[f]? = some fd ∧ fd.type = ft ∧ fd.offset = off := by
    unfold tyFieldTy at hf
    split at hf
    · rename_i fields hu
      split at hf
      · rename_i fd hfd
        injection hf with hf; injection hf with e1 e2
        exact ⟨fields, fd, hu, hfd, e1, e2⟩
      · cases hf
    · cases hf
  obtain ⟨fields, fd, f1, f2, f3, f4⟩ := hfr
  have hcells : ∃ vs, u = .agg vs ∧ RMc σ cs vs := by
    unfold aggCells at hc
    cases hv with
    | m hv => cases hv with
      | d hv => cases hv with
        | agg ds vs hl hfl hh =>
          simp at hc; subst hc
          refine ⟨vs, rfl, by simp [hl], fun i m v hm hvv => ?_⟩
          simp only [List.getElem?_map, Option.map_eq_some_iff] at hm
          obtain ⟨d, hd, rfl⟩ := hm
          exact ⟨.d (hh i d v hd hvv), hfl i v hvv⟩
        | _ => simp at hc
      | agg ms vs hl hfl hh =>
        simp at hc; subst hc
        exact ⟨vs, rfl, hl, fun i m v hm hvv => ⟨hh i m v hm hvv, hfl i v hvv⟩⟩
      | _ => simp at hc
  obtain ⟨vs, rfl, hcs⟩ := hcells
  obtain ⟨z, h1, h2⟩ := part_run (w := σ.w) hcs hr
  refine ⟨z, ?_, .m h2⟩
  simp [execOp, Instr.field, hu, underlying, program, Sem.run, f1, f2, asAgg, f3, f4, h1]

/-- the two bounds of a part, as they are evaluated -/
theorem bound_run {σ : Sg} {lam : Nat → Nat} {a : Act} (hi : FInv X σ lam st a) {o : Option Operand} {l : Option Nat} (h : bound st.ev o = some l) : (l = none ∧ o.map a.eval = none) ∨ ∃ n k, l = some n ∧ o.map a.eval = some (.int k (n : Int)) := by
  unfold bound at h
  cases o with
  | none => simp at h; subst h; exact .inl ⟨rfl, rfl⟩
  | some y =>
    simp only at h
    split at h
    · rename_i k i hy
      injection h with h; subst h
      right
      exact ⟨i, k, rfl, by simp [hi.evint hy]⟩
    · cases h

theorem op_sliceT {t : Nat} {x : Operand} {lo hi : Option Operand} {l h : Option Nat} {s : ByteArray} [ht : TyStr X.P t] (hx : st.ev x = some (.m (.d (.str s)))) (hlo : bound st.ev lo = some l) (hhi : bound st.ev hi = some h)
    (h1 : l.getD 0 ≤ h.getD s.size) (h2 : h.getD s.size ≤ s.size) :
    OpT X ⟨dst, .slice t x lo hi none, ty, pos, af, g⟩ st (eqp (.m (.d (.str (subB s (l.getD 0) (h.getD s.size))))) st) := by
  refine OpT.quiet fun a σ lam hi' => ?_
  have hv := hi'.evstr hx
  have hb1 := bound_run hi' hlo
  have hb2 := bound_run hi' hhi
  have hund : ∀ w : World, (underlying t).run X.P w = .ok .string w := fun w => by simp [underlying, program, Sem.run, ht.u]
  generalize hL : l.getD 0 = L at *
  generalize hG : h.getD s.size = G at *
  refine ⟨.string (s.extract L G), ?_, by rw [subB_eq]; exact .m (.d (.str _))⟩
  have run : ∀ lv hv' : Option Value, (lv = none ∧ L = 0 ∨ ∃ k, lv = some (.int k (L : Int))) → (hv' = none ∧ G = s.size ∨ ∃ k, hv' = some (.int k (G : Int))) →
      (Instr.sliceBounds false s.size s.size lv hv' none).run X.P σ.w = .ok (L, G, s.size) σ.w := by
    rintro lv hv' (⟨rfl, rfl⟩ | ⟨k, rfl⟩) (⟨rfl, rfl⟩ | ⟨k', rfl⟩)
    · simp [Instr.sliceBounds]
    · simp [Instr.sliceBounds, Instr.sliceBound, asIntOf, h2]
    · simp [Instr.sliceBounds, Instr.sliceBound, asIntOf, h1]
    · simp [Instr.sliceBounds, Instr.sliceBound, asIntOf, h2, h1]
  have hr := run (lo.map a.eval) (hi.map a.eval)
    (by rcases hb1 with ⟨rfl, e⟩ | ⟨n, k, rfl, e⟩
        · left; exact ⟨e, by simpa using hL.symm⟩
        · right; exact ⟨k, by rw [e]; simp at hL; subst hL; rfl⟩)
    (by rcases hb2 with ⟨rfl, e⟩ | ⟨n, k, rfl, e⟩
        · left; exact ⟨e, by simpa using hG.symm⟩
        · right; exact ⟨k, by rw [e]; simp at hG; subst hG; rfl⟩)
  simp only [execOp, Instr.sliceAt, Instr.slice, hv, Option.map_none]
  simp [hund, hr]

theorem op_sliceD {t e n : Nat} {x : Operand} {lo hi : Option Operand} {l h : Option Nat} {rows : List (List D)} [ht : TySlice X.P t e] [hs : TySz X.P e n] (hx : st.ev x = some (.m (.d (.sl rows)))) (hlo : bound st.ev lo = some l) (hhi : bound st.ev hi = some h)
    (hr : rows ≠ []) (h1 : l.getD 0 ≤ h.getD rows.length) (h2 : h.getD rows.length ≤ rows.length) (hln : ∀ r ∈ rows, r.length = n) :
    OpT X ⟨dst, .slice t x lo hi none, ty, pos, af, g⟩ st (eqp (.m (.d (match (rows.drop (l.getD 0)).take (h.getD rows.length - l.getD 0) with | [] => .slz | r => .sl r))) st) := by
  refine OpT.quiet fun a σ lam hi' => ?_
  have hv := hi'.evd hx
  have hb1 := bound_run hi' hlo
  have hb2 := bound_run hi' hhi
  generalize hu : a.eval x = u at hv
  have hund : ∀ w : World, (underlying t).run X.P w = .ok (.slice e) w := fun w => by simp [underlying, program, Sem.run, ht.u]
  cases hv with
  | slnil ad => exact absurd rfl hr
  | sl rows b o cap ec val h0 hcap hmax hec hcell hflat hrep =>
    have hecn : ec = n := by
      cases rows with
      | nil => exact absurd rfl h0
      | cons r rs => rw [← hec r (by simp)]; exact hln r (by simp)
    subst hecn
    generalize hL : l.getD 0 = L at *
    generalize hG : h.getD rows.length = G at *
    refine ⟨.slice (if cap = L then some ⟨b, o, none⟩ else some ⟨b, o + L * ec, none⟩) (G - L) (cap - L), ?_, ?_⟩
    · have c2 : ((G : Nat) : Int) ≤ cap := by omega
      have run : ∀ lv hv' : Option Value, (lv = none ∧ L = 0 ∨ ∃ k, lv = some (.int k (L : Int))) → (hv' = none ∧ G = rows.length ∨ ∃ k, hv' = some (.int k (G : Int))) →
          (Instr.sliceBounds true rows.length cap lv hv' none).run X.P σ.w = .ok (L, G, cap) σ.w := by
        rintro lv hv' (⟨rfl, rfl⟩ | ⟨k, rfl⟩) (⟨rfl, rfl⟩ | ⟨k', rfl⟩)
        · simp [Instr.sliceBounds]
        · simp [Instr.sliceBounds, Instr.sliceBound, asIntOf, show G ≤ cap by omega]
        · simp [Instr.sliceBounds, Instr.sliceBound, asIntOf, h1]
        · simp [Instr.sliceBounds, Instr.sliceBound, asIntOf, show G ≤ cap by omega, h1]
      have hr := run (lo.map a.eval) (hi.map a.eval)
        (by rcases hb1 with ⟨rfl, e⟩ | ⟨n, k, rfl, e⟩
            · left; exact ⟨e, by simpa using hL.symm⟩
            · right; exact ⟨k, by rw [e]; simp at hL; subst hL; rfl⟩)
        (by rcases hb2 with ⟨rfl, e⟩ | ⟨n, k, rfl, e⟩
            · left; exact ⟨e, by simpa using hG.symm⟩
            · right; exact ⟨k, by rw [e]; simp at hG; subst hG; rfl⟩)
      simp only [execOp, Instr.sliceAt, Instr.slice, hu, Option.map_none]
      simp only [Sem.run_bind, hund, Result.andThen_ok, hr, size_run hs.size, Sem.run_pure]
      by_cases hc : cap = L
      · simp [hc]
      · simp [hc, addr_add]
    · generalize hq : (rows.drop L).take (G - L) = q
      have hql : q.length = G - L := by rw [← hq]; simp; omega
      cases q with
      | nil =>
        simp at hql
        rw [show G - L = 0 by omega]
        exact .m (.d (.slz _ _))
      | cons r0 rs0 =>
        simp only
        generalize hqq : r0 :: rs0 = q at *
        have hpos : 0 < G - L := by rw [← hql, ← hqq]; simp
        rw [if_neg (by omega), ← hql]
        have hget : ∀ i r, q[i]? = some r → rows[L + i]? = some r := by
          intro i r hr
          rw [← hq, List.getElem?_take] at hr
          split at hr
          · rw [List.getElem?_drop] at hr; exact hr
          · cases hr
        have hlt : ∀ i, i < q.length → L + i < rows.length := by intro i hi; omega
        refine .m (.d (Rep.sl q b (o + L * ec) (cap - L) ec (fun i j => val (L + i) j) (by rw [← hqq]; simp) (by omega) (by omega) ?_ ?_ ?_ ?_))
        · intro r hr
          obtain ⟨i, hi⟩ := List.mem_iff_getElem?.1 hr
          exact hec r (List.mem_of_getElem? (hget i r hi))
        · intro i j hi hj
          have := hcell (L + i) j (hlt i hi) hj
          rw [show o + L * ec + (i * ec + j) = o + ((L + i) * ec + j) by rw [Nat.add_mul]; omega]
          exact this
        · intro i j hi hj; exact hflat (L + i) j (hlt i hi) hj
        · intro i j r d hr hd; exact hrep (L + i) j r d (hget i r hr) hd
end ops
end Go.Mt

/- Maps whose keys are pointers to boxes: looked up, set. -/
set_option linter.unusedVariables false
set_option linter.unusedSimpArgs false
namespace Go.Mt

theorem tyPtrOk_ex {P : Program} {t : Nat} (h : tyPtrOk P t = true) : ∃ e n, P.underlying t = some (.pointer e) ∧ tySize P e = some n ∧ 0 < n := by
  unfold tyPtrOk at h
  split at h
  · rename_i e hu
    split at h
    · rename_i n hn; exact ⟨e, n, hu, hn, blt_lt h⟩
    · cases h
  · cases h

theorem tyMapP_ex {P : Program} {t e : Nat} (h : tyMapP P t = some e) : ∃ kt, P.underlying t = some (.map kt e) ∧ tyPtrOk P kt = true := by
  unfold tyMapP at h
  split at h
  · rename_i k e' hu
    cases hk : tyPtrOk P k with
    | true => rw [hk] at h; simp only [cond_true] at h; injection h with h; subst h; exact ⟨k, hu, hk⟩
    | false => rw [hk] at h; cases h
  · cases h

theorem RM.tup2 {σ : Sg} {a b : M} {x y : Value} (h : RM σ (.tup [a, b]) (.tuple #[x, y])) : RM σ a x ∧ RM σ b y := by
  cases h with
  | tup cs vs hl h => exact ⟨h 0 a x rfl rfl, h 1 b y rfl rfl⟩
theorem RM.mkTup2 {σ : Sg} {a b : M} {x y : Value} (h1 : RM σ a x) (h2 : RM σ b y) : RM σ (.tup [a, b]) (.tuple #[x, y]) := by
  refine .tup _ _ rfl fun n m v hm hv => ?_
  match n with
  | 0 => simp at hm hv; subst hm; subst hv; exact h1
  | 1 => simp at hm hv; subst hm; subst hv; exact h2
  | n + 2 => simp at hm

theorem sameAddr_ref {P : Program} {σ : Sg} {Oo : Nat → Nat → Prop} (hi : HInv σ Oo) {i j oi oj : Nat} {cs ds : List M} (hHi : σ.H[i]? = some (.box cs)) (hHj : σ.H[j]? = some (.box ds)) :
    (sameAddr ⟨σ.l i, oi, none⟩ ⟨σ.l j, oj, none⟩).run P σ.w = .ok (Nat.beq i j && Nat.beq oi oj) σ.w := by
  obtain ⟨arr, T, g1, _⟩ := hi.obj i _ hHi
  obtain ⟨arr2, T2, g2, _⟩ := hi.obj j _ hHj
  by_cases e1 : i = j ∧ oi = oj
  · obtain ⟨rfl, rfl⟩ := e1
    have := run_sameAddr_same (P := P) σ.w ⟨σ.l i, oi, none⟩
    simpa using this
  · have hne : (⟨σ.l i, oi, none⟩ : Addr) ≠ ⟨σ.l j, oj, none⟩ := by
      intro he
      injection he with e2 e3
      exact e1 ⟨hi.inj i j _ _ hHi hHj trivial trivial e2, e3⟩
    have hf : (Nat.beq i j && Nat.beq oi oj) = false := by
      rw [← Bool.not_eq_true]
      intro h
      rw [Bool.and_eq_true] at h
      exact e1 ⟨Nat.eq_of_beq_eq_true h.1, Nat.eq_of_beq_eq_true h.2⟩
    rw [hf]
    exact run_sameAddr_other (P := P) σ.w hne g1 g2

theorem findAsking_spec {P : Program} {σ : Sg} {Oo : Nat → Nat → Prop} (hi : HInv σ Oo) {kt e0 n0 : Nat} (hu : P.underlying kt = some (.pointer e0)) (hs : tySize P e0 = some n0) (hn : 0 < n0) {i o : Nat} {cs : List M} (hHi : σ.H[i]? = some (.box cs)) :
    ∀ {es : List (D × M)} {us : List MapEntry} {n : Nat}, ptrKeys es = true → us.length = es.length → (∀ (k : Nat) e u, es[k]? = some e → us[k]? = some u → EntOk σ e u) →
    (lookP i o es = none ∧ (Instr.findAsking kt (.pointer (some ⟨σ.l i, o, none⟩)) us n).run P σ.w = .ok none σ.w ∧ (∀ v, updP i o v es = es ++ [(.nilp, .tup [.ref i o, v])])) ∨
    ∃ k m u, lookP i o es = some m ∧ us[k]? = some u ∧ es[k]? = some (.nilp, .tup [.ref i o, m]) ∧ (Instr.findAsking kt (.pointer (some ⟨σ.l i, o, none⟩)) us n).run P σ.w = .ok (some (n + k, u.val)) σ.w ∧
      u.key = .pointer (some ⟨σ.l i, o, none⟩) ∧ RM σ m u.val ∧ (∀ v, updP i o v es = es.set k (.nilp, .tup [.ref i o, v]))
  | [], us, n, _, hl, _ => by
    have : us = [] := by simpa using hl
    subst this
    exact .inl ⟨rfl, by simp [Instr.findAsking, Sem.run], fun v => rfl⟩
  | (dk, mm) :: r, us, n, hk, hl, h => by
    unfold ptrKeys at hk
    split at hk
    · rename_i heq; cases heq
    · rename_i j u m r' heq
      injection heq with h0 h00; injection h0 with h1 h2; subst h1; subst h2; subst h00
      cases us with
      | nil => simp at hl
      | cons w us =>
        obtain ⟨hkey, hval⟩ : RM σ (.ref j u) w.key ∧ RM σ m w.val := by
          rcases h 0 _ _ rfl rfl with ⟨h0, _⟩ | ⟨_, h0⟩ | ⟨h0, _⟩
          · simp [keyVal] at h0
          · exact h0.tup2
          · cases h0
        obtain ⟨ds, hHj, hwk⟩ : ∃ ds, σ.H[j]? = some (.box ds) ∧ w.key = .pointer (some ⟨σ.l j, u, none⟩) := by
          generalize w.key = q at hkey
          cases hkey with
          | ref j u ds hHj => exact ⟨ds, hHj, rfl⟩
        have he := equal_ref (w := σ.w) hu hs hn ⟨σ.l i, o, none⟩ ⟨σ.l j, u, none⟩ (sameAddr_ref (P := P) hi (oi := o) (oj := u) hHi hHj)
        cases hb : (Nat.beq i j && Nat.beq o u) with
        | true =>
          have hb' := hb
          rw [Bool.and_eq_true] at hb'
          have e1 := Nat.eq_of_beq_eq_true hb'.1
          have e2 := Nat.eq_of_beq_eq_true hb'.2
          subst e1; subst e2
          refine .inr ⟨0, m, w, by simp [lookP], rfl, rfl, ?_, hwk, hval, fun v => by simp [updP]⟩
          rw [hb] at he
          simp only [Instr.findAsking, hwk]
          simp [he]
        | false =>
          rw [hb] at he
          have hf : (Instr.findAsking kt (.pointer (some ⟨σ.l i, o, none⟩)) (w :: us) n).run P σ.w = (Instr.findAsking kt (.pointer (some ⟨σ.l i, o, none⟩)) us (n + 1)).run P σ.w := by
            simp only [Instr.findAsking, hwk]
            simp [he]
          have hlk : lookP i o ((.nilp, .tup [.ref j u, m]) :: r) = lookP i o r := by simp only [lookP, hb, cond_false]
          have hup : ∀ v, updP i o v ((.nilp, .tup [.ref j u, m]) :: r) = (.nilp, .tup [.ref j u, m]) :: updP i o v r := fun v => by simp only [updP, hb, cond_false]
          rcases findAsking_spec hi hu hs hn (o := o) hHi (n := n + 1) (es := r) (us := us) hk (by simpa using hl) (fun k e u a b => h (k + 1) e u (by simpa using a) (by simpa using b)) with ⟨h3, h4, h5⟩ | ⟨k, m', u', h3, h4, h5, h6, h7, h8, h9⟩
          · exact .inl ⟨by rw [hlk]; exact h3, by rw [hf]; exact h4, fun v => by rw [hup, h5]; rfl⟩
          · exact .inr ⟨k + 1, m', u', by rw [hlk]; exact h3, by simpa using h4, by simpa using h5, by rw [hf, h6]; congr 3; omega, h7, h8, fun v => by rw [hup, h9]; rfl⟩
    · cases hk

theorem findKey_ptr {P : Program} {w : World} {kt e0 : Nat} (hu : P.underlying kt = some (.pointer e0)) (p : Option Addr) (us : List MapEntry) :
    (Instr.findKey kt (.pointer p) us).run P w = (Instr.findAsking kt (.pointer p) us).run P w := by
  have hund : (underlying kt).run P w = .ok (.pointer e0) w := by simp [underlying, program, Sem.run, hu]
  cases us with
  | nil => simp [Instr.findKey, Instr.findNow, Instr.findAsking, hund]
  | cons u us => simp [Instr.findKey, Instr.findNow, Instr.sameNow, hund]
theorem checkKey_ptr {P : Program} {b : Bool} {n kt e0 : Nat} {v : Value} {w : World} (h : P.underlying kt = some (.pointer e0)) : (Instr.checkKey b (n + 1) kt v).run P w = .ok () w := by
  simp [Instr.checkKey, underlying, program, Sem.run, h]

section ops
variable {X : Ctx} {st : St} {dst : Option Nat} {ty : Nat} {pos : String} {af : Array Edge} {g : Option (Nat × Bool)}

theorem op_lookupP {T e kt : Nat} {x y : Operand} {i j o : Nat} {es : List (D × M)} {z : D} (ht : X.P.underlying T = some (.map kt e)) (hp : tyPtrOk X.P kt = true) [hz : TyZ X.P e z] {ok : Bool} (hx : st.ev x = some (.m (.mp i))) (hy : st.ev y = some (.m (.ref j o))) (hH : st.H[i]? = some (.map es)) (hk : ptrKeys es = true) :
    OpT X ⟨dst, .lookup T x y ok, ty, pos, af, g⟩ st (eqp (bif ok then .m (match lookP j o es with | some m => .tup [m, .d (.bool true)] | none => .tup [.d z, .d (.bool false)]) else .m (match lookP j o es with | some m => m | none => .d z)) st) := by
  refine OpT.quiet fun a σ lam hi => ?_
  have h := hi.ev hx
  have h2 := hi.ev hy
  obtain ⟨e0, n0, u2, hs, hn⟩ := tyPtrOk_ex hp
  obtain ⟨zv, hz1, hz2⟩ := (tyZero_of hz.zero).run
  generalize hu : a.eval x = u at h
  generalize hv : a.eval y = q at h2
  cases h2 with
  | m h2 => cases h2 with
    | ref j o cs hHj =>
      cases h with
      | m h => cases h with
        | mp i es0 hh =>
          obtain ⟨ents, clock, h3, h4, h5, hbo⟩ := hi.hinv.obj i (.map es) (by rw [hi.hH]; exact hH)
          have hck : ∀ b v, (Instr.checkKey b 10000 kt v).run X.P σ.w = .ok () σ.w := fun b v => checkKey_ptr (n := 9999) u2
          have hfk := findKey_ptr (w := σ.w) u2 (some ⟨σ.l j, o, none⟩) ents.toList
          rcases findAsking_spec hi.hinv u2 hs hn (o := o) hHj (n := 0) (es := es) (us := ents.toList) hk (by simpa using h4) (fun i e u a b => h5 i e u a (by simpa using b)) with ⟨h6, h7, _⟩ | ⟨n, m, u, h6, h7, h8, h9, h10, h11, _⟩
          · rw [h6]
            rw [h7] at hfk
            cases ok with
            | true =>
              refine ⟨.tuple #[zv, .bool false], ?_, .m (.tup _ _ rfl ?_)⟩
              · simp only [execOp, hu, hv, Instr.lookup]
                simp [underlying, program, Sem.run, ht, getObj, h3, hck, hz1]
                simp [hfk, hz1]
              · intro n m v hm hv
                match n with
                | 0 => simp at hm hv; subst hm; subst hv; exact .d (dOfVal_rep hz2)
                | 1 => simp at hm hv; subst hm; subst hv; exact .d (.bool _)
                | n + 2 => simp at hm
            | false =>
              refine ⟨zv, ?_, .m (.d (dOfVal_rep hz2))⟩
              simp only [execOp, hu, hv, Instr.lookup]
              simp [underlying, program, Sem.run, ht, getObj, h3, hck, hz1]
              simp [hfk, hz1]
          · rw [h6]
            rw [h9] at hfk
            cases ok with
            | true =>
              refine ⟨.tuple #[u.val, .bool true], ?_, .m (.tup _ _ rfl ?_)⟩
              · simp only [execOp, hu, hv, Instr.lookup]
                simp [underlying, program, Sem.run, ht, getObj, h3, hck]
                simp [hfk]
              · intro n m' v hm hv
                match n with
                | 0 => simp at hm hv; subst hm; subst hv; exact h11
                | 1 => simp at hm hv; subst hm; subst hv; exact .d (.bool _)
                | n + 2 => simp at hm
            | false =>
              refine ⟨u.val, ?_, .m h11⟩
              simp only [execOp, hu, hv, Instr.lookup]
              simp [underlying, program, Sem.run, ht, getObj, h3, hck]
              simp [hfk]

theorem op_mapUpdateP {T e kt : Nat} {x y z : Operand} {i j o : Nat} {es : List (D × M)} {m : M} (ht : X.P.underlying T = some (.map kt e)) (hp : tyPtrOk X.P kt = true) (hx : st.ev x = some (.m (.mp i))) (hy : st.ev y = some (.m (.ref j o))) (hz : st.ev z = some (.m m)) (hH : st.H[i]? = some (.map es)) (hk : ptrKeys es = true) :
    OpT X ⟨dst, .mapUpdate T x y z, ty, pos, af, g⟩ st (eqp (.m .undef) ⟨st.sl, st.bx, st.H.set i (.map (updP j o m es))⟩) := by
  intro a σ lam hi
  have h := hi.ev hx
  have h2 := hi.ev hy
  have hm := hi.ev hz
  obtain ⟨e0, n0, u2, hs, hn⟩ := tyPtrOk_ex hp
  generalize hu : a.eval x = u at h
  generalize hv : a.eval y = q at h2
  cases hm with
  | m hm =>
  cases h2 with
  | m h2 => cases h2 with
    | ref j o cs hHj =>
    have hkey : RM σ (.ref j o) (.pointer (some ⟨σ.l j, o, none⟩)) := .ref j o cs hHj
    cases h with
    | m h => cases h with
      | mp i es0 hh =>
        have hH' : σ.H[i]? = some (.map es) := by rw [hi.hH]; exact hH
        obtain ⟨ents, clock, h3, h4, h5, hbo⟩ := hi.hinv.obj i (.map es) hH'
        have hlt := lt_of_heap h3
        have hck : ∀ b v, (Instr.checkKey b 10000 kt v).run X.P σ.w = .ok () σ.w := fun b v => checkKey_ptr (n := 9999) u2
        have hfk := findKey_ptr (w := σ.w) u2 (some ⟨σ.l j, o, none⟩) ents.toList
        have upd : ∀ (ents' : Array MapEntry) (clock' : Nat), ents'.size = (updP j o m es).length → (∀ (n : Nat) e u, (updP j o m es)[n]? = some e → ents'[n]? = some u → EntOk σ e u) → BornOk ents' clock' →
            ∃ τ : Sg, τ.w = setBlk σ.w (σ.l i) (.map ents' clock') ∧ FInv X τ lam ⟨st.sl, st.bx, st.H.set i (.map (updP j o m es))⟩ a := by
          intro ents' clock' g1 g2 g3
          obtain ⟨τ, k1, k2, k3, k4, k5⟩ := hi.updObj (j := i) (b' := σ.l i) (ob := .map es) (ob' := .map (updP j o m es)) (w' := setBlk σ.w (σ.l i) (.map ents' clock')) hH trivial rfl rfl rfl (by rw [setBlk_size]; exact Nat.le_refl _)
            (fun c _ hc => setBlk_ne hc) (.inl rfl) (fun o v ho => (ho trivial).elim) rfl (by
              intro τ hmo hw _ _
              exact ⟨ents', clock', by rw [hw]; exact setBlk_get hlt, g1, fun n e u a b => (g2 n e u a b).up fun v hv => hv.mono hmo, g3⟩)
          exact ⟨τ, k1, k5⟩
        rcases findAsking_spec hi.hinv u2 hs hn (o := o) hHj (n := 0) (es := es) (us := ents.toList) hk (by simpa using h4) (fun i e u a b => h5 i e u a (by simpa using b)) with ⟨h6, h7, h8⟩ | ⟨n, m', u, h6, h7, h8, h9, h10, h11, h12⟩
        · rw [h7] at hfk
          obtain ⟨τ, k1, k2⟩ := upd (ents.push { key := .pointer (some ⟨σ.l j, o, none⟩), val := a.eval z, born := clock }) (clock + 1) (by rw [h8]; simp [h4]) (by
            intro n e u he hu
            rw [h8] at he
            rcases Nat.lt_or_ge n es.length with hn | hn
            · rw [List.getElem?_append_left hn] at he
              rw [Array.getElem?_push, if_neg (by omega)] at hu
              exact h5 n e u he hu
            · rw [List.getElem?_append_right hn] at he
              have hz0 : n - es.length = 0 := by
                rcases Nat.eq_zero_or_pos (n - es.length) with h | h
                · exact h
                · rw [List.getElem?_eq_none (by simp; omega)] at he; cases he
              rw [hz0] at he
              simp at he; subst he
              rw [Array.getElem?_push, if_pos (by omega)] at hu
              injection hu with hu; subst hu
              exact .inr (.inl ⟨rfl, RM.mkTup2 hkey hm⟩)) hbo.push
          refine OpRun.skip ?_ ⟨.m .undef, _, τ, lam, ⟨rfl, rfl⟩, k1, k2, .m (.undef _)⟩
          simp only [execOp, hu, hv, Instr.mapUpdate]
          simp [underlying, program, Sem.run, ht, getObj, h3, hck]
          simp [hfk]
          simp [Sem.run, setObj, setBlk, h3]
        · rw [h9] at hfk
          have hnl : n < ents.size := by
            have := h7; simp at this
            rcases Nat.lt_or_ge n ents.size with h | h
            · exact h
            · simp [Array.getElem?_eq_none h] at this
          obtain ⟨τ, k1, k2⟩ := upd (ents.modify n fun e => { e with key := .pointer (some ⟨σ.l j, o, none⟩), val := a.eval z }) clock (by rw [h12]; simp [h4]) (by
            intro n' e u' he hu
            rw [h12] at he
            rw [Array.getElem?_modify] at hu
            by_cases en : n = n'
            · subst en
              rw [set_get h8] at he; injection he with he; subst he
              simp [hnl] at hu
              subst hu
              exact .inr (.inl ⟨rfl, RM.mkTup2 hkey hm⟩)
            · rw [List.getElem?_set_ne en] at he
              rw [if_neg en] at hu
              exact h5 n' e u' he hu) (hbo.modify fun _ => rfl)
          refine OpRun.skip ?_ ⟨.m .undef, _, τ, lam, ⟨rfl, rfl⟩, k1, k2, .m (.undef _)⟩
          have hkk : ents[n]?.map (·.key) = some (.pointer (some ⟨σ.l j, o, none⟩)) := by
            have : ents[n]? = some u := by simpa using h7
            rw [this]; simp [h10]
          have hst : (Instr.keyThatStays (.pointer (some ⟨σ.l j, o, none⟩)) (.pointer (some ⟨σ.l j, o, none⟩))).run X.P σ.w = .ok (.pointer (some ⟨σ.l j, o, none⟩)) σ.w := by simp [Instr.keyThatStays, Instr.sameBits]
          simp only [execOp, hu, hv, Instr.mapUpdate]
          simp [underlying, program, Sem.run, ht, getObj, h3, hck]
          simp [hfk, hkk, hst]
          simp [Sem.run, setObj, setBlk, h3]
theorem op_clear {t : Nat} {x : Operand} {i : Nat} {es : List (D × M)} (ht : tyRef X.P t = 2) (hx : st.ev x = some (.m (.mp i))) (hH : st.H[i]? = some (.map es)) :
    OpT X ⟨dst, .call ⟨.builtin .clear, #[x], #[t]⟩, ty, pos, af, g⟩ st (eqp (.m .undef) ⟨st.sl, st.bx, st.H.set i (.map [])⟩) := by
  intro a σ lam hi
  have h := hi.ev hx
  have hu : ∃ k e, X.P.underlying t = some (.map k e) := by
    unfold tyRef at ht
    split at ht <;> first | exact ⟨_, _, by assumption⟩ | cases ht
  obtain ⟨kk, e, hu⟩ := hu
  generalize hv : a.eval x = u at h
  cases h with
  | m h => cases h with
    | mp i es0 hh =>
      have hH' : σ.H[i]? = some (.map es) := by rw [hi.hH]; exact hH
      obtain ⟨ents, clock, h3, h4, h5, hbo⟩ := hi.hinv.obj i (.map es) hH'
      have hlt := lt_of_heap h3
      obtain ⟨τ, k1, k2, k3, k4, k5⟩ := hi.updObj (j := i) (b' := σ.l i) (ob := .map es) (ob' := .map []) (w' := setBlk σ.w (σ.l i) (.map #[] clock)) hH trivial rfl rfl rfl (by rw [setBlk_size]; exact Nat.le_refl _)
        (fun c _ hc => setBlk_ne hc) (.inl rfl) (fun o v ho => (ho trivial).elim) rfl (by
          intro τ hmo hw _ _
          exact ⟨#[], clock, by rw [hw]; exact setBlk_get hlt, rfl, by simp, by simp [BornOk]⟩)
      refine OpRun.value (u := .tuple #[]) (w' := setBlk σ.w (σ.l i) (.map #[] clock)) ?_ ⟨.m .undef, _, τ, lam, ⟨rfl, rfl⟩, k1, k5, .m (.undef _)⟩
      simp [execOp, resolve, invoke, builtin, Builtin.clear_, hv, underlying, program, Sem.run, hu, getObj, h3, setObj, setBlk]
end ops
end Go.Mt

/- Ranges over maps without entries. -/
set_option linter.unusedVariables false
set_option linter.unusedSimpArgs false
namespace Go.Mt
section
variable {X : Ctx} {st : St} {dst : Option Nat} {ty : Nat} {pos : String} {af : Array Edge} {g : Option (Nat × Bool)} {pn : Nat} {H' : Hp}
theorem tyRef2 {P : Program} {T : Nat} (ht : tyRef P T = 2) : ∃ k e, P.underlying T = some (.map k e) := by
  unfold tyRef at ht
  split at ht <;> first | exact ⟨_, _, by assumption⟩ | cases ht
theorem op_rangeP {T : Nat} {x : Operand} {mx : M} (ht : tyRef X.P T = 2) (hx : st.ev x = some (.m mx)) (hm : mx = .d .nilm ∨ ∃ i, mx = .mp i) (hp : Place st.H (.iter mx) pn H') :
    OpT X ⟨dst, .range T x, ty, pos, af, g⟩ st (eqp (.m (.it pn)) ⟨st.sl, st.bx, H'⟩) := by
  intro a σ lam hi
  have h := hi.ev hx
  obtain ⟨kk, e, hu⟩ := tyRef2 ht
  have key : ∀ (om : Option Nat) (c : Nat), RM σ mx (.map om) → (Instr.range T (a.eval x)).run X.P σ.w = .ok (.pointer (some ⟨σ.w.heap.size, 0, none⟩)) { σ.w with heap := σ.w.heap.push (.mapIter om c #[] c) } →
      OpRun X.P ⟨dst, .range T x, ty, pos, af, g⟩ a.eval σ.w fun u w' => ∃ v st' σ' lam', eqp (.m (.it pn)) ⟨st.sl, st.bx, H'⟩ v st' ∧ σ'.w = w' ∧ FInv X σ' lam' st' a ∧ RV σ' lam' v u := by
    intro om c hrm hrun
    obtain ⟨τ, h1, h2, h3, h4, h5⟩ := hi.place hp (.mapIter om c #[] c) (by
      intro τ hmo hw
      exact .inl ⟨om, c, #[], c, by rw [hw]; simp, .inl ⟨rfl, hrm.mono hmo⟩⟩)
    refine OpRun.value (u := .pointer (some ⟨σ.w.heap.size, 0, none⟩)) (w' := { σ.w with heap := σ.w.heap.push (.mapIter om c #[] c) }) ?_ ⟨_, _, τ, lam, ⟨rfl, rfl⟩, h1, h5, ?_⟩
    · simp [execOp, hrun, Sem.run]
    · rw [← h2]
      exact .m (.it _ _ h3)
  generalize hv : a.eval x = u at h key
  cases h with
  | m h =>
    rcases hm with rfl | ⟨i, rfl⟩
    · cases h with
      | d h => cases h with
        | nilm => exact key none 0 (.d .nilm) (by simp [Instr.range, underlying, program, Sem.run, hu, newObj])
    · cases h with
      | mp _ es hh =>
        obtain ⟨ents, clock, h3, h4, h5, _⟩ := hi.hinv.obj i (.map es) hh
        exact key (some (σ.l i)) clock (.mp i es hh) (by simp [Instr.range, underlying, program, Sem.run, hu, getObj, h3, newObj])
theorem op_nextOver {x : Operand} {i : Nat} (hx : st.ev x = some (.m (.it i))) (hH : noneLeft st.H i = true) :
    OpT X ⟨dst, .next x false, ty, pos, af, g⟩ st (eqp (.m (.tup [.d (.bool false)])) st) := by
  refine OpT.quiet fun a σ lam hi => ?_
  have h := hi.ev hx
  have hres : RV σ lam (.m (.tup [.d (.bool false)])) (.tuple #[.bool false]) := .m (.tup _ _ rfl fun i m v h1 h2 => by
    cases i with
    | zero => simp at h1 h2; subst h1; subst h2; exact .d (.bool _)
    | succ i => simp at h1)
  generalize hv : a.eval x = u at h
  cases h with
  | m h => cases h with
    | it _ y hh =>
      have hob := hi.hinv.obj i (.iter y) hh
      unfold noneLeft at hH
      rw [← hi.hH, hh] at hH
      try dsimp only at hH
      split at hH
      · rename_i heq
        injection heq with heq; injection heq with heq; subst heq
        obtain ⟨om, since, seen, last, h1, h2⟩ : ∃ om since seen last, σ.w.heap[σ.l i]? = some (.mapIter om since seen last) ∧ ((seen = #[] ∧ RM σ (.d .nilm) (.map om)) ∨ (RM σ (.d .nilm) (iterVal om since seen) ∧ since ≤ last)) := by
          rcases hob with h | ⟨_, _, _, _, h⟩
          · exact h
          · cases h with
            | d h => cases h
        obtain ⟨hse, hrm⟩ : seen = #[] ∧ RM σ (.d .nilm) (.map om) := by
          rcases h2 with h2 | ⟨h2, _⟩
          · exact h2
          · cases h2 with
            | d h2 => cases h2
        subst hse
        cases hrm with
        | d h2 => cases h2 with
          | nilm => exact ⟨_, by simp [execOp, hv, Instr.next, Sem.run, getObj, h1], hres⟩
      · rename_i j heq
        injection heq with heq; injection heq with heq; subst heq
        obtain ⟨om, since, seen, last, h1, h2⟩ : ∃ om since seen last, σ.w.heap[σ.l i]? = some (.mapIter om since seen last) ∧ ((seen = #[] ∧ RM σ (.mp j) (.map om)) ∨ (RM σ (.mp j) (iterVal om since seen) ∧ since ≤ last)) := by
          rcases hob with h | ⟨_, _, _, _, h⟩
          · exact h
          · cases h
        obtain ⟨hse, hrm⟩ : seen = #[] ∧ RM σ (.mp j) (.map om) := by
          rcases h2 with h2 | ⟨h2, _⟩
          · exact h2
          · cases h2
        subst hse
        cases hrm with
        | mp _ es hh2 =>
          rw [hh2] at hH
          try dsimp only at hH
          split at hH
          · rename_i heq
            injection heq with heq; injection heq with heq; subst heq
            obtain ⟨ents, clock, h3, h4, h5, _⟩ := hi.hinv.obj j (.map []) hh2
            have he : ents = #[] := by simpa using h4
            subst he
            exact ⟨_, by simp [execOp, hv, Instr.next, Sem.run, getObj, h1, h3, choose, Question.forced], hres⟩
          · cases hH
      · cases hH
end
end Go.Mt
