/- A part of the proof of the last text of this claim, without conditions. -/
import Derived.Test.YtbafhpblecdbbaaGreatDoorD
import Derived.LaidEql
set_option maxRecDepth 4000
set_option linter.all false
namespace Go.Mt
inductive R(α:Type)where
 |ok (a:α)
 |no (Ug:List Nat)
 deriving Inhabited
def R.at{α:Type}(n:Nat):R α->R α
 |.ok a=>.ok a
 |.no w=>.no (n::w)
inductive Dn where
 |val (v:V)
 |ld (t:Nat) (k:List M->R V)
 |st (t:Nat) (k:List M->R (List M))
 |nw (cs:List M)
 |rd (i:Nat) (k:Ob->R V)
 |sK (k:Hp->R V)
 |up (all:Bool) (i:Nat) (k:Hp->Ob->R (V×Ob))
 |al (all:Bool) (k:Hp->R Ob) (mk:Nat->V)
 |cl (k:Hp->R (V×Hp×List Nat))
structure iy where
 P:Program
 call:Nat->List M->Hp->R (M×Hp×List Nat)
 pure:Nat->List D->R (List D)
 cG:Nat->Bool
 de:Nat->Nat
 sum:Nat->List D->Option (List D)
def yh{α:Type}(w:Nat):Option α->R α
 |some a=>.ok a
 |none=>.no [w]
def jN:List UInt8->List UInt8->Bool
 |[],[]=>true
 |a::r,b::s=>bif Nat.beq a.toNat b.toNat then jN r s else false
 |_,_=>false
def kg(s u:ByteArray):Bool:=jN s.data.toList u.data.toList
def BF(s u:ByteArray):ByteArray:=⟨⟨s.data.toList++u.data.toList⟩⟩
def pS(k:ByteArray):List (D×M)->Option M
 |[]=>none
 |(.str s,m)::r=>bif kg s k then some m else pS k r
 |_::r=>pS k r
def wM(k:ByteArray)(v:M):List (D×M)->List (D×M)
 |[]=>[(.str k,v)]
 |(.str s,m)::r=>bif kg s k then(.str k,v)::r else(.str s,m)::wM k v r
 |x::r=>x::wM k v r
def fM:List (D×M)->Bool
 |[]=>true
 |(.fB,.bz [.ref _ _,_])::r=>fM r
 |_=>false
def ja(i o:Nat):List (D×M)->Option M
 |[]=>none
 |(.fB,.bz [.ref j u,m])::r=>bif Nat.beq i j&&Nat.beq o u then some m else ja i o r
 |_::r=>ja i o r
def kh(i o:Nat)(v:M):List (D×M)->List (D×M)
 |[]=>[(.fB,.bz [.ref i o,v])]
 |(.fB,.bz [.ref j u,m])::r=>bif Nat.beq i j&&Nat.beq o u then(.fB,.bz [.ref i o,v])::r else(.fB,.bz [.ref j u,m])::kh i o v r
 |x::r=>x::kh i o v r
def zB(s:ByteArray)(l h:Nat):ByteArray:=⟨⟨(s.data.toList.drop l).take (h-l)⟩⟩
def dM(a b:IntKind):Bool:=decide (a=b)
def BG(op:BinOp):D->D->R D
 |.int k m,.int k' n=>
  match op with
  |.shl=>bif decide (n<0)then .no [101]else .ok (.int k (k.wrap (m*2^(min n.toNat k.bits))))
  |.shr=>bif decide (n<0)then .no [102]else .ok (.int k (m.fdiv (2^(min n.toNat k.bits))))
  |.quo=>bif dM k k' then(bif n==0 then .no [103]else .ok (.int k (k.wrap (m.tdiv n))))else .no [104]
  |.rem=>bif dM k k' then(bif n==0 then .no [105]else .ok (.int k (m.tmod n)))else .no [106]
  |.and=>bif dM k k' then .ok (.int k (k.wrap (BitVec.ofInt k.bits m&&&BitVec.ofInt k.bits n).toNat))else .no [107]
  |.or=>bif dM k k' then .ok (.int k (k.wrap (BitVec.ofInt k.bits m|||BitVec.ofInt k.bits n).toNat))else .no [107]
  |.xor=>bif dM k k' then .ok (.int k (k.wrap (BitVec.ofInt k.bits m^^^BitVec.ofInt k.bits n).toNat))else .no [107]
  |op=>bif dM k k' then yh 108 (iK op k m n)else .no [109]
 |.str s,.str u=>
  match op with
  |.eql=>.ok (.bool (kg s u))
  |.neq=>.ok (.bool (!kg s u))
  |.add=>bif Nat.ble (s.size+u.size) 9223372036854775807 then .ok (.str (BF s u))else .no [110]
  |.lss=>.ok (.bool (Op.bytesLess s.toList u.toList))
  |_=>.no [111]
 |_,_=>.no [113]
def dW(P:Program)(t:Nat):Nat:=match P.underlying t with
 |some (.pointer _)=>1
 |some (.map _ _)=>2
 |some (.func _ _ _)=>3
 |some .bool=>4
 |some (.interface _)=>5
 |some (.slice _)=>6
 |_=>0
def gr(P:Program)(t:Nat):Bool:=match P.underlying t with
 |some (.pointer e)=>(match cz P e with
  |some n=>Nat.blt 0 n
  |none=>false)
 |_=>false
def gb:Nat->V->Option Bool
 |1,.loc _ _=>some false
 |1,.m (.ref _ _)=>some false
 |1,.m (.bG _ _ _)=>some false
 |1,.m (.d (.bM _ _))=>some false
 |1,.m (.d .fB)=>some true
 |2,.m (.mp _)=>some false
 |2,.m (.d .dQ)=>some true
 |3,.m (.d (.fn _ _))=>some false
 |3,.m (.fn _ _)=>some false
 |3,.m (.d .rY)=>some true
 |5,.m (.d .jA)=>some true
 |5,.m (.d (.vj _ _))=>some false
 |_,_=>none
def nilText:Operand->Bool
 |.const .nilIface=>true
 |_=>false
def pT:Operand->Bool
 |.const (.slice none 0 0)=>true
 |_=>false
def vE(P:Program)(op:BinOp)(xt:Nat)(yc ys:Bool)(v u:V):R Dn:=
 match dW P xt with
 |0=>(match v,u with
  |.m (.d a),.m (.d b)=>(match a,b with
   |.bool _,_=>.no [118]
   |.agg [.int .u8 k1,.str s1],.agg [.int .u8 k2,.str s2]=>bif D4 P xt then(match op with
    |.eql=>.ok (.val (.m (.d (.bool (decide (k1=k2)&&kg s1 s2)))))
    |.neq=>.ok (.val (.m (.d (.bool (!(decide (k1=k2)&&kg s1 s2))))))
    |_=>.no [112])else .no [112]
   |_,_=>(match BG op a b with|.ok r=>.ok (.val (.m (.d r)))|.no w=>.no w))
  |_,_=>.no [117])
 |4=>(match v,u with
  |.m (.d (.bool a)),.m (.d (.bool b))=>(match op with
   |.eql=>.ok (.val (.m (.d (.bool (a==b)))))
   |.neq=>.ok (.val (.m (.d (.bool (!(a==b))))))
   |_=>.no [119])
  |_,_=>.no [116])
 |5=>bif yc then(match gb 5 v with
  |some z=>(match op with
   |.eql=>.ok (.val (.m (.d (.bool z))))
   |.neq=>.ok (.val (.m (.d (.bool (!z)))))
   |_=>.no [120])
  |none=>.no [121])else .no [122]
 |6=>bif ys then(match v with
  |.m (.d (.sl (_::_)))=>(match op with
   |.eql=>.ok (.val (.m (.d (.bool false))))
   |.neq=>.ok (.val (.m (.d (.bool true))))
   |_=>.no [123])
  |.m (.bB j FD _)=>.ok (.rd j λob=>match ob with
   |.row _ _ F5 _=>bif Nat.beq FD F5 then(match op with
    |.eql=>.ok (.m (.d (.bool false)))
    |.neq=>.ok (.m (.d (.bool true)))
    |_=>.no [123])else .no [124]
   |_=>.no [125])
  |_=>.no [126])else .no [127]
 |k=>(match gb k v,gb k u with
  |some z,some true=>(match op with
   |.eql=>.ok (.val (.m (.d (.bool z))))
   |.neq=>.ok (.val (.m (.d (.bool (!z)))))
   |_=>.no [114])
  |_,_=>(match v,u with
   |.m (.ref i a),.m (.ref j b)=>bif gr P xt then(match op with
    |.eql=>.ok (.val (.m (.d (.bool (Nat.beq i j&&Nat.beq a b)))))
    |.neq=>.ok (.val (.m (.d (.bool (!(Nat.beq i j&&Nat.beq a b))))))
    |_=>.no [128])else .no [129]
   |_,_=>.no [115]))
def tZ(ev:Operand->Option V):List Operand->Option (List M)
 |[]=>some []
 |x::r=>match ev x with
  |some (.m m)=>match tZ ev r with
   |some ms=>some (m::ms)
   |none=>none
  |_=>none
def mP(ev:Operand->Option V):List (Nat×Operand)->Option (List (Nat×M))
 |[]=>some []
 |(i,x)::r=>match ev x with
  |some (.m m)=>match mP ev r with
   |some ms=>some ((i,m)::ms)
   |none=>none
  |_=>none
def BH:List (Nat×M)->Bool
 |[]=>true
 |(_,.d _)::r=>BH r
 |_=>false
def pU(H:Hp):List (Nat×M)->Option (List (Nat×M))
 |[]=>some []
 |(i,m)::r=>match ez H m with
  |some d=>match pU H r with
   |some ms=>some ((i,.d d)::ms)
   |none=>none
  |none=>none
def rP:M->Bool
 |.ref _ _=>true
 |.bG _ _ _=>true
 |.mp _=>true
 |.it _=>true
 |.agg cs=>kO cs
 |.fn _ cs=>kO cs
 |.bz cs=>kO cs
 |_=>false
where kO:List M->Bool
 |[]=>false
 |m::r=>rP m||kO r
def n3(P:Program)(f:Nat):Bool:=match P.funcs[f]? with
 |some fn=> !(fn.name== "runtime.NumGoroutine")&&fn.body.isSome
 |none=>false
def sL(P:Program)(t:Nat):Option (Nat×Nat):=match P.underlying t with
 |some (.array len e)=>some (len,e)
 |_=>none
def addrAt(k:Nat):V->Option V
 |.m (.d (.bM cs off))=>some (.m (.d (.bM cs (off+k))))
 |.loc t off=>some (.loc t (off+k))
 |.m (.ref i off)=>some (.m (.ref i (off+k)))
 |.m (.bG i FD off)=>some (.m (.bG i FD (off+k)))
 |_=>none
def lc(P:Program)(s f:Nat):Option (Nat×Nat):=
 match P.underlying s with
 |some (.struct fields)=>match fields[f]? with
  |some fd=>some (fd.type,fd.offset)
  |none=>none
 |_=>none
def eZ:M->Option (List M)
 |.d (.agg cs)=>some (cs.map .d)
 |.agg cs=>some cs
 |_=>none
def kP(P:Program)(C:iy)(f:Nat)(ms:List M):R Dn:=
 bif n3 P f then
  bif (C.cG f||rP.kO ms)then(match cT ms with
   |some ds=>(match C.sum f ds with
    |some rs=>.ok (.val (.m (fD (rs.map .d))))
    |none=>.ok (.cl λH=>match C.call f ms H with|.ok (m,H',us)=>.ok (.m m,H',us)|.no w=>.no w))
   |none=>.ok (.cl λH=>match C.call f ms H with|.ok (m,H',us)=>.ok (.m m,H',us)|.no w=>.no w))else
  match cT ms with
  |some ds=>(match C.pure f ds with|.ok rs=>.ok (.val (.m (fD (rs.map .d))))|.no w=>.no w)
  |none=>.ok (.sK λH=>match iw (ez H) ms with
    |some ds=>(match C.pure f ds with|.ok rs=>.ok (.m (fD (rs.map .d)))|.no w=>.no w)
    |none=>.no [201,f])
 else .no [202,f]
def eC(P:Program)(t:Nat):Option Nat:=match P.underlying t with
 |some (.slice e)=>some e
 |_=>none
def iW(P:Program)(t:Nat):Bool:=match P.underlying t with
 |some .string=>true
 |_=>false
def mQ(P:Program)(t:Nat):Option IntKind:=match P.underlying t with
 |some (.int k)=>some k
 |_=>none
def rQ(P:Program)(t:Nat):Option Nat:=match P.underlying t with
 |some (.map k e)=>bif iW P k then some e else none
 |_=>none
def rR(P:Program)(t:Nat):Option Nat:=match P.underlying t with
 |some (.map k e)=>bif gr P k then some e else none
 |_=>none
def pV(P:Program)(s f:Nat):Option Nat:=
 match P.underlying s with
 |some (.struct fields)=>match fields[f]? with
  |some fd=>match cz P fd.type with
   |some n=>bif n==0 then none else some fd.offset
   |none=>none
  |none=>none
 |_=>none
def BI:M->Bool
 |.d _=>true
 |_=>false
def C2:M->Option Nat
 |.d (.sl rows)=>some rows.length
 |.d .lH=>some 0
 |.bB _ _ len=>some len
 |_=>none
def n5(P:Program)(C:iy)(d:Nat)(T U:Nat)(x y:M):R Dn:=
 match eC P T with
 |none=>.no [301]
 |some e=>match cz P e,lL P e,fC P e with
  |some n,some nb,some z=>
   bif (Nat.blt 0 n&&Nat.beq (aN z).length n&&Nat.ble nb 1000000)then
    (bif Nat.beq T U then
     (match x,C2 y with
     |.d (.sl []),some 0=>.ok (.sK λH=>match kf H n y with
       |some (_,0)=>.ok (.m (.d (.sl [])))
       |_=>.no [302])
     |.d (.sl []),some (len+1)=>.ok (.al (!BI y) (λH=>match kf H n y with
       |some (cs,k)=>bif (Nat.beq k (len+1)&&Nat.ble k 100000000)then .ok (.row (!Nat.beq (C.de d) 1) n 0 cs)else .no [303]
       |none=>.no [304]) λi=>.m (.bB i 0 (len+1)))
     |.bB j FD len,some k2=>.ok (.up (!BI y) j λH ob=>match kf H n y,ob with
       |some (F8,k),.row acc n' F5 cs=>bif (Nat.beq n n'&&Nat.beq FD F5&&Nat.ble (len+k) 100000000)then .ok (.m (.bB j (FD+1) (len+k)),.row acc n (FD+1) (cs++F8))else .no [306]
       |_,_=>.no [307])
     |_,_=>.no [308,d])
    else match mQ P U,x,y with
     |some k0,.d (.sl []),.d (.int k1 (.ofNat len))=>bif (dM k0 k1&&Nat.blt 0 len&&Nat.ble len 100000000)then
       .ok (.al false (λ_=>.ok (.row false n 0 (List.replicate (len*n) .undef))) λi=>.m (.bB i 0 len))else .no [309]
     |_,_,_=>.no [310])
   else .no [311]
  |_,_,_=>.no [312]
def l4(P:Program)(C:iy)(dst:Option Nat)(b:Builtin)(args:List M)(Gj:List Nat):R Dn:=
 match b,args,Gj with
 |.len,[.d (.str s)],[t]=>bif iW P t then .ok (.val (.m (.d (.int .i64 s.size))))else .no [321]
 |.len,[.bB j FD len],[t]=>(match eC P t with|some _=>.ok (.val (.m (.d (.int .i64 len))))|none=>.no [322])
 |.len,[.d d],[t]=>(match eC P t,nG d with|some _,some n=>.ok (.val (.m (.d (.int .i64 n))))|_,_=>.no [323])
 |.cap,[.d (.sl [])],[t]=>(match eC P t with|some _=>.ok (.val (.m (.d (.int .i64 0))))|none=>.no [324])
 |.max,[.d (.int k m),.d (.int k' n)],[t1,t2]=>bif dM k k' then .ok (.val (.m (.d (.int k (if n>m then n else m)))))else .no [325]
 |.min,[.d (.int k m),.d (.int k' n)],[t1,t2]=>bif dM k k' then .ok (.val (.m (.d (.int k (if n<m then n else m)))))else .no [325]
 |.append,[x,y],[T,U]=>n5 P C (dst.getD 0) T U x y
 |.clear,[.mp i],[t]=>bif Nat.beq (dW P t) 2 then .ok (.up false i λ_ ob=>match ob with
  |.map _=>.ok (.m .undef,.map [])
  |_=>.no [326])else .no [327]
 |_,_,_=>.no [320]
def sM(P:Program)(C:iy)(T:Nat):V->R Dn
 |.m (.d (.bM cs off))=>(match kW P T cs off with|some d=>.ok (.val (.m (.d d)))|none=>.no [331])
 |.loc t off=>.ok (.ld t λcs=>match ch P T cs off with|some m=>.ok (.m m)|none=>.no [332])
 |.m (.ref i off)=>.ok (.rd i λob=>match ob with
  |.box cs=>(match ch P T cs off with|some m=>.ok (.m m)|none=>.no [333])
  |_=>.no [334])
 |.m (.bG i FD off)=>.ok (.rd i λob=>match ob with
  |.row acc ec F5 cs=>bif Nat.beq FD F5 then(match ch P T cs off with|some m=>.ok (.m m)|none=>.no [335])else .no [336]
  |_=>.no [337])
 |_=>.no [338]
def pW(P:Program)(C:iy)(T:Nat)(a:V)(m:M):R Dn:=
 match cz P T,dJ m with
 |some n,some new=>bif Nat.beq new.length n then
   (match a with
   |.loc t off=>.ok (.st t λcs=>yh 341 (wr cs off new))
   |.m (.ref i off)=>.ok (.up false i λ_ ob=>match ob with
    |.box cs=>(match wr cs off new with|some FG=>.ok (.m .undef,.box FG)|none=>.no [342])
    |_=>.no [343])
   |.m (.bG i FD off)=>.ok (.up false i λ_ ob=>match ob with
    |.row false ec F5 cs=>bif Nat.beq FD F5 then(match wr cs off new with|some FG=>.ok (.m .undef,.row false ec FD FG)|none=>.no [344])else .no [345]
    |_=>.no [346])
   |_=>.no [347])
  else .no [348]
 |_,_=>.no [349]
def yi:List (Nat×M)->Bool
 |[]=>false
 |(_,m)::r=>rP m||yi r
def jO(P:Program)(C:iy)(d:Nat)(T len:Nat)(ps:List (Nat×M)):R Dn:=
 match eC P T with
 |none=>.no [351]
 |some e=>match cz P e,fC P e with
  |some n,some z=>bif (Nat.blt 0 n&&Nat.beq (aN z).length n&&Nat.ble (len*n) 16777216)then
    (bif (Nat.beq (C.de d) 1||yi ps)then
     .ok (.al false (λ_=>match dE (λi=>some (i*n,n)) (cq n len (aN z)) ps with
      |some cs=>.ok (.row false n 0 cs)
      |none=>.no [352]) λi=>.m (.bB i 0 len))
    else bif BH ps then(match fc 0 ps with
     |some rows=>bif (Nat.beq rows.length len&&fe n rows)then .ok (.val (.m (.d (.sl rows))))else .no [353]
     |none=>.no [354])
    else .ok (.sK λH=>match pU H ps with
     |some qs=>(match fc 0 qs with
      |some rows=>bif (Nat.beq rows.length len&&fe n rows)then .ok (.m (.d (.sl rows)))else .no [355]
      |none=>.no [356])
     |none=>.no [357]))
   else .no [358]
  |_,_=>.no [359]
def e8(ev:Operand->Option V):Option Operand->Option (Option Nat)
 |none=>some none
 |some y=>match ev y with
  |some (.m (.d (.int _ (.ofNat i))))=>some (some i)
  |_=>none
def DH:M->Bool
 |.d (.sl _)=>true
 |.d .lH=>true
 |.bB _ _ _=>true
 |_=>false
def pX(P:Program)(C:iy)(T:Nat)(x:M)(lo hi mx:Option Nat):R Dn:=
 match mx with
 |some k=>(match lo,hi,k,eC P T with
  |none,some 0,0,some e=>(match cz P e with
   |some _=>bif DH x then .ok (.val (.m (.d (.sl []))))else .no [361]
   |none=>.no [361])
  |_,_,_,_=>.no [361])
 |none=>match x with
  |.d (.str s)=>bif iW P T then(let l:=lo.getD 0;let h:=hi.getD s.size
    bif (Nat.ble l h&&Nat.ble h s.size)then .ok (.val (.m (.d (.str (zB s l h)))))else .no [362])else .no [371]
  |_=>match eC P T with
   |none=>.no [363]
   |some e=>match cz P e with
    |none=>.no [364]
    |some n=>match x with
     |.bB j FD len=>(match lo,hi with
      |none,some i=>.ok (.up false j λ_ ob=>match ob with
       |.row false n' F5 cs=>bif (Nat.beq n n'&&Nat.beq FD F5&&Nat.ble i len)then .ok (.m (.bB j (FD+1) i),.row false n (FD+1) (cs.take (i*n)))else .no [365]
       |_=>.no [366])
      |_,_=>.no [367])
     |.d (.sl [])=>(match lo,hi with
      |none,some 0=>.ok (.val (.m (.d (.sl []))))
      |_,_=>.no [368])
     |.d (.sl rows)=>(let l:=lo.getD 0;let h:=hi.getD rows.length
      bif (Nat.ble l h&&Nat.ble h rows.length&&fe n rows)then
       (match(rows.drop l).take (h-l)with
       |[]=>.ok (.val (.m (.d .lH)))
       |r=>.ok (.val (.m (.d (.sl r)))))else .no [369])
     |_=>.no [370]
def pY(H:Hp)(i:Nat):Bool:=match H[i]? with
 |some (.iter (.d .dQ))=>true
 |some (.iter (.mp j))=>match H[j]? with
  |some (.map [])=>true
  |_=>false
 |_=>false
def den(P:Program)(C:iy)(dst:Option Nat)(op:Op)(ev:Operand->Option V):R Dn:=
 match op with
 |.move x=>match ev x with|some v=>.ok (.val v)|none=>.no [1]
 |.assign x=>match ev x with|some v=>.ok (.val v)|none=>.no [2]
 |.pick c x y=>match ev c with
  |some (.m (.d (.bool b)))=>(match ev (bif b then x else y)with|some v=>.ok (.val v)|none=>.no [3])
  |_=>.no [4]
 |.alloc T=>match fC P T with
  |some z=>bif Nat.beq (C.de (dst.getD 0)) 1 then .ok (.al false (λ_=>.ok (.box ((aN z).map .d))) λi=>.m (.ref i 0))else .ok (.nw ((aN z).map .d))
  |none=>.no [5]
 |.box T x=>match ev x with
  |some (.m m)=>(match dJ m with
   |some cs=>bif Nat.beq (C.de (dst.getD 0)) 1 then .ok (.al false (λ_=>.ok (.box cs)) λi=>.m (.ref i 0))
    else bif Nat.beq (C.de (dst.getD 0)) 2 then(match m with|.d v=>.ok (.val (.m (.d (.bM (aN v) 0))))|_=>.no [6])
    else .ok (.nw cs)
   |none=>.no [7])
  |_=>.no [8]
 |.build T parts=>match mP ev parts.toList,pF P T,fC P T with
  |some ms,some ps,some (.agg z)=>(match gU ps (z.map .d) ms with|some cs=>.ok (.val (.m (pack cs)))|none=>.no [9])
  |some ms,none,some (.agg z)=>(match sL P T with
   |some (_,e)=>(match cz P e with
    |some n=>(match dE (λi=>some (i*n,n)) (z.map .d) ms with|some cs=>.ok (.val (.m (pack cs)))|none=>.no [70])
    |none=>.no [71])
   |none=>.no [72])
  |_,_,_=>.no [10]
 |.buildSlice T len parts=>match mP ev parts.toList with
  |some ms=>jO P C (dst.getD 0) T len ms
  |none=>.no [11]
 |.load T (.global gl)=>.ok (.sK λH=>match H with
  |.iter (.bz [.d (.int .i64 (.ofNat g)),.d (.int .i64 (.ofNat tt)),.d (.int k m)])::_=>bif Nat.beq g gl then(match ch P T [.d (.int k m)] 0 with|some r=>.ok (.m r)|none=>.no [92])else .no [93]
  |_=>.no [94])
 |.load T a=>match ev a with|some v=>sM P C T v|none=>.no [12]
 |.store T a x=>match ev a,ev x with|some v,some (.m m)=>pW P C T v m|_,_=>.no [13]
 |.nilCheck x=>match ev x with|some v=>bif nF v then .ok (.val v)else .no [14]|none=>.no [15]
 |.binOp o xt x y _=>match ev x,ev y with
  |some v,some u=>vE P o xt (nilText y) (pT y) v u
  |_,_=>.no [64]
 |.unOp o _ x=>match o,ev x with
  |.not,some (.m (.d (.bool b)))=>.ok (.val (.m (.d (.bool (!b)))))
  |.neg,some (.m (.d (.int k n)))=>.ok (.val (.m (.d (.int k (k.wrap (-n))))))
  |_,_=>.no [16]
 |.convert s t x=>match ev x with
  |some (.m (.d (.int k n)))=>(match mQ P s,mQ P t with|some _,some k'=>.ok (.val (.m (.d (.int k' (k'.wrap n)))))|_,_=>.no [18])
  |some (.m m)=>(match eC P s with
   |some e=>bif iW P t then(match mQ P e with
    |some .u8=>.ok (.sK λH=>match ez H m with
     |some (.sl rows)=>(match mK rows with|some ns=>.ok (.m (.d (.str (strOfNums ns))))|none=>.no [19])
     |_=>.no [20])
    |_=>.no [21])else .no [22]
   |none=>.no [23])
  |_=>.no [24]
 |.makeInterface xt x=>match ev x with
  |some (.m (.d d))=>bif nZ P xt then .ok (.val (.m (.d (.vj xt d))))else .no [90]
  |_=>.no [91]
 |.makeFunc fn first FR=>match fn,first.toList with
  |.func f,[]=>(match tZ ev FR.toList with
   |some ms=>(match cT ms with|some ds=>.ok (.val (.m (.d (.fn f ds))))|none=>bif Nat.blt f 1024 then .ok (.val (.m (.fn f ms)))else .no [24])
   |none=>.no [25])
  |.func f,x::r=>(match FR.toList,tZ ev (x::r)with
   |[],some ms=>.ok (.val (.m (.fn (f+1024) ms)))
   |_,_=>.no [26])
  |_,_=>.no [65]
 |.makeMap T r=>match r with
  |some _=>.no [66]
  |none=>.ok (.al false (λ_=>.ok (.map [])) λi=>.m (.mp i))
 |.range T x=>bif Nat.beq (dW P T) 2 then(match ev x with
  |some (.m (.mp i))=>.ok (.al false (λ_=>.ok (.iter (.mp i))) λj=>.m (.it j))
  |some (.m (.d .dQ))=>.ok (.al false (λ_=>.ok (.iter (.d .dQ))) λj=>.m (.it j))
  |_=>.no [69])else .no [70]
 |.next x s=>match s,ev x with
  |false,some (.m (.it i))=>.ok (.sK λH=>bif pY H i then .ok (.m (.bz [.d (.bool false)]))else .no [71])
  |_,_=>.no [72]
 |.makeSlice T x y=>match ev x,ev y,eC P T with
  |some (.m (.d (.int _ (.ofNat l)))),some (.m (.d (.int _ (.ofNat c)))),some e=>(match cz P e,lL P e,fC P e with
   |some n,some nb,some z=>bif (Nat.beq l c&&Nat.blt 0 n&&Nat.beq (aN z).length n&&Nat.ble nb 1000000&&Nat.ble l 100000000)then
     .ok (.al false (λ_=>.ok (.row false n 0 (cq n l (aN z)))) λi=>.m (.bB i 0 l))else .no [26]
   |_,_,_=>.no [27])
  |_,_,_=>.no [28]
 |.slice T x lo hi mx=>match ev x,e8 ev lo,e8 ev hi,e8 ev mx with
  |some (.m m),some l,some h,some k=>pX P C T m l h k
  |_,_,_,_=>.no [33]
 |.fieldAddr s x f=>match ev x,pV P s f with
  |some (.m (.d (.bM cs off))),some o=>.ok (.val (.m (.d (.bM cs (off+o)))))
  |some (.loc t off),some o=>.ok (.val (.loc t (off+o)))
  |some (.m (.ref i off)),some o=>.ok (.val (.m (.ref i (off+o))))
  |some (.m (.bG i FD off)),some o=>.ok (.val (.m (.bG i FD (off+o))))
  |_,_=>.no [34]
 |.field s x f=>match ev x with
  |some (.m m)=>(match lc P s f,eZ m with
   |some (ft,off),some cs=>(match ch P ft cs off with|some r=>.ok (.val (.m r))|none=>.no [67])
   |_,_=>.no [68])
  |_=>.no [69]
 |.indexAddr T x y=>match sL P T with
  |some (len,e)=>(match ev x,ev y,cz P e with
   |some v,some (.m (.d (.int _ (.ofNat i)))),some n=>(match addrAt (i*n) v with
    |some u=>bif Nat.blt i len then .ok (.val u)else .no [77]
    |none=>.no [78])
   |_,_,_=>.no [79])
  |none=>match ev x,ev y,eC P T with
   |some (.m (.d (.sl rows))),some (.m (.d (.int _ (.ofNat i)))),some e=>(match cz P e,rows[i]? with
    |some n,some r=>bif Nat.beq r.length n then .ok (.val (.m (.d (.bM r 0))))else .no [35]
    |_,_=>.no [36])
   |some (.m (.bB j FD len)),some (.m (.d (.int _ (.ofNat i)))),some e=>(match cz P e with
    |some n=>.ok (.rd j λob=>match ob with
     |.row acc n' F5 cs=>bif (Nat.beq n n'&&Nat.beq FD F5&&Nat.blt i len)then .ok (.m (.bG j FD (i*n)))else .no [37]
     |_=>.no [38])
    |none=>.no [39])
   |_,_,_=>.no [40]
 |.lookup T x y ok=>match ev x,ev y,rQ P T with
  |some (.m (.mp i)),some (.m (.d (.str k))),some e=>(match fC P e with
   |some z=>.ok (.rd i λob=>match ob with
    |.map es=>bif strKeys es then
      (bif ok then .ok (.m (match pS k es with|some m=>.bz [m,.d (.bool true)]|none=>.bz [.d z,.d (.bool false)]))else .ok (.m (match pS k es with|some m=>m|none=>.d z)))
      else .no [41]
    |_=>.no [42])
   |none=>.no [43])
  |some (.m (.mp i)),some (.m (.ref j o)),_=>(match rR P T with
   |some e=>(match fC P e with
    |some z=>.ok (.rd i λob=>match ob with
     |.map es=>bif fM es then .ok (bif ok then .m (match ja j o es with|some m=>.bz [m,.d (.bool true)]|none=>.bz [.d z,.d (.bool false)])else .m (match ja j o es with|some m=>m|none=>.d z))else .no [41]
     |_=>.no [42])
    |none=>.no [43])
   |none=>.no [43])
  |some (.m (.d .dQ)),some (.m (.d (.str k))),some e=>(match fC P e with
   |some z=>.ok (.val (bif ok then .m (.bz [.d z,.d (.bool false)])else .m (.d z)))
   |none=>.no [43])
  |_,_,_=>.no [44]
 |.index T x y=>match ev x,ev y with
  |some (.m (.d (.str s))),some (.m (.d (.int _ (.ofNat i))))=>bif iW P T then(match s.data.toList[i]? with
   |some b=>.ok (.val (.m (.d (.int .u8 b.toNat))))
   |none=>.no [61])else .no [62]
  |some (.m m),some (.m (.d (.int _ (.ofNat i))))=>(match sL P T,eZ m with
   |some (len,e),some cs=>(match cz P e with
    |some n=>bif Nat.blt i len then(match ch P e cs (i*n)with|some r=>.ok (.val (.m r))|none=>.no [73])else .no [74]
    |none=>.no [75])
   |_,_=>.no [76])
  |_,_=>.no [63]
 |.mapUpdate T x y z=>match ev x,ev y,ev z with
  |some (.m (.mp i)),some (.m (.d (.str k))),some (.m m)=>(match rQ P T with
   |some e=>.ok (.up false i λ_ ob=>match ob with
    |.map es=>bif strKeys es then .ok (.m .undef,.map (wM k m es))else .no [45]
    |_=>.no [46])
   |none=>.no [47])
  |some (.m (.mp i)),some (.m (.ref j o)),some (.m m)=>(match rR P T with
   |some e=>.ok (.up false i λ_ ob=>match ob with
    |.map es=>bif fM es then .ok (.m .undef,.map (kh j o m es))else .no [45]
    |_=>.no [46])
   |none=>.no [47])
  |_,_,_=>.no [48]
 |.extract x i=>match ev x with
  |some (.m (.bz vs))=>(match vs[i]? with|some m=>.ok (.val (.m m))|none=>.no [49])
  |_=>.no [50]
 |.call c=>(match c.callee with
  |.builtin b=>(match tZ ev c.args.toList with|some ms=>l4 P C dst b ms c.argTypes.toList|none=>.no [51])
  |.value (.func f)=>(match tZ ev c.args.toList with|some ms=>kP P C f ms|none=>.no [52])
  |.value x=>(match ev x,tZ ev c.args.toList with
   |some (.m (.d (.fn f cs))),some ms=>kP P C f (ms++cs.map .d)
   |some (.m (.fn f cs)),some ms=>bif Nat.blt f 1024 then kP P C f (ms++cs)else kP P C (f-1024) (cs++ms)
   |_,_=>.no [53])
  |_=>.no [54])
 |_=>.no [60]
inductive Ex where
 |jh
 |exit (id:Nat)
 |ret
def sN(B i:Nat)(ws:List Nat):List Nat:=bif (Nat.blt i B&& !has ws i)then i::ws else ws
def n6(B:Nat):List Nat->List Nat->List Nat
 |[],ws=>ws
 |i::r,ws=>n6 B r (sN B i ws)
noncomputable def yj(d:Option Nat)(B:Nat)(st:St)(ws:List Nat):Dn->R (V×St×List Nat)
 |.val v=>.ok (v,st,ws)
 |.ld t k=>match jM st.bx t with
  |some cs=>(match k cs with|.ok v=>.ok (v,st,ws)|.no w=>.no w)
  |none=>.no [401]
 |.st t k=>match jM st.bx t with
  |some cs=>(match k cs with|.ok FG=>.ok (.m .undef,⟨st.sl,(t,FG)::st.bx,st.H⟩,ws)|.no w=>.no w)
  |none=>.no [402]
 |.nw cs=>match d with
  |some dd=>bif dv dd st.sl then .ok (.loc dd 0,⟨st.sl,(dd,cs)::st.bx,st.H⟩,ws)else .no [403]
  |none=>.no [404]
 |.rd i k=>match lW st.H i with
  |some ob=>(match k ob with|.ok v=>.ok (v,st,ws)|.no w=>.no w)
  |none=>.no [405]
 |.sK k=>match k st.H with
  |.ok v=>.ok (v,st,ws)
  |.no w=>.no w
 |.up all i k=>match lW st.H i with
  |some ob=>(match k (bif all then st.H else []) ob with
   |.ok (v,F_)=>.ok (v,⟨st.sl,st.bx,sI st.H i F_⟩,sN B i ws)
   |.no w=>.no w)
  |none=>.no [406]
 |.al all k mk=>match k (bif all then st.H else [])with
  |.ok ob=>.ok (mk (lX st.H),⟨st.sl,st.bx,BB st.H [ob]⟩,ws)
  |.no w=>.no w
 |.cl k=>match k st.H with
  |.ok (v,H',us)=>.ok (v,⟨st.sl,st.bx,H'⟩,n6 B us ws)
  |.no w=>.no w
noncomputable def o2(ops:Array Oper)(o:Oper)(sl:List (Nat×V)):Option Bool:=
 match o.guard with
 |none=>some true
 |some (j,want)=>match ops[j]? with
  |some q=>(match q.dst with
   |some g=>match jM sl g with
    |some (.m (.d (.bool b)))=>some (b==want)
    |some (.m (.bz []))=>some false
    |_=>none
   |none=>none)
  |none=>none
def uB(n:Nat)(d:Option Nat)(v:V)(st:St):R St:=match d with
 |some t=>bif Nat.blt t n then .ok ⟨(t,v)::st.sl,st.bx,st.H⟩else .no [411]
 |none=>.ok st
noncomputable def BJ(P:Program)(C:iy)(n B:Nat)(ops:Array Oper)(o:Oper)(st:St)(ws:List Nat):R (St×List Nat):=
 match o2 ops o st.sl with
 |some true=>(match den P C o.dst o.op (uz st.sl)with
  |.ok dn=>(match yj o.dst B st ws dn with
   |.ok (v,s,us)=>(match uB n o.dst v s with|.ok s'=>.ok (s',us)|.no w=>.no w)
   |.no w=>.no w)
  |.no w=>.no w)
 |some false=>(match uB n o.dst (.m (.bz [])) st with|.ok s'=>.ok (s',ws)|.no w=>.no w)
 |none=>.no [413]
noncomputable def kw(P:Program)(C:iy)(n B:Nat)(ops:Array Oper):Nat->List Oper->St->List Nat->R (St×List Nat)
 |_,[],st,ws=>.ok (st,ws)
 |i,o::r,st,ws=>match BJ P C n B ops o st ws with
  |.ok (s,us)=>kw P C n B ops (i+1) r s us
  |.no w=>.no ((1000+i)::w)
open bR in
def yk:M->M->Bool
 |.ref i a,.ref j b=>Nat.beq i j&&Nat.beq a b
 |.mp i,.mp j=>Nat.beq i j
 |.d (.bool a),.d (.bool b)=>a==b
 |.d .fB,.d .fB=>true
 |_,_=>false
def mR:List M->List M->Bool
 |[],[]=>true
 |a::r,b::t=>yk a b&&mR r t
 |_,_=>false
def vF:Ob->Ob->Bool
 |.box a,.box b=>mR a b
 |_,_=>false
noncomputable def js(H H':Hp)(i:Nat):Bool:=match lW H i,lW H' i with
 |some a,some b=>vF a b
 |_,_=>false
noncomputable def D5(d:Option Nat)(N k:Nat)(st:St):Dn->R (bR.Ef×St×Nat)
 |.val v=>.ok (⟨d,v,[],[],none,.no,[],none⟩,st,k)
 |.ld t f=>match jM st.bx t with
  |some cs=>(match f cs with|.ok v=>.ok (⟨d,v,[t],[],none,.no,[],none⟩,st,k)|.no w=>.no w)
  |none=>.no [401]
 |.st t f=>match jM st.bx t with
  |some cs=>(match f cs with|.ok FG=>.ok (⟨d,.m .undef,[],[(t,FG)],none,.no,[],none⟩,⟨st.sl,(t,FG)::st.bx,st.H⟩,k)|.no w=>.no w)
  |none=>.no [402]
 |.nw cs=>match d with
  |some dd=>.ok (⟨d,.loc dd 0,[],[(dd,cs)],some dd,.no,[],none⟩,⟨st.sl,(dd,cs)::st.bx,st.H⟩,k)
  |none=>.no [404]
 |.rd i f=>match lW st.H i with
  |some ob=>(match f ob with|.ok v=>.ok (⟨d,v,[],[],none,bif Nat.blt i N then .ix [i]else .all,[],none⟩,st,k)|.no w=>.no w)
  |none=>.no [405]
 |.sK f=>match f st.H with
  |.ok v=>.ok (⟨d,v,[],[],none,.all,[],none⟩,st,k)
  |.no w=>.no w
 |.up all i f=>match lW st.H i with
  |some ob=>(match f (bif all then st.H else []) ob with
   |.ok (v,F_)=>bif Nat.blt i N then .ok (⟨d,v,[],[],none,bif all then .all else .ix [i],[(i,F_)],none⟩,⟨st.sl,st.bx,sI st.H i F_⟩,k)
     else .ok (⟨d,v,[],[],none,.all,[],some ((sI st.H i F_).drop N)⟩,⟨st.sl,st.bx,sI st.H i F_⟩,k)
   |.no w=>.no w)
  |none=>.no [406]
 |.al all f mk=>match f (bif all then st.H else [])with
  |.ok ob=>(match lW st.H k with
   |some .free=>bif Nat.blt k N then .ok (⟨d,mk k,[],[],none,bif all then .all else .ix [k],[(k,ob)],none⟩,⟨st.sl,st.bx,sI st.H k ob⟩,k+1)else .no [407]
   |_=>.no [408])
  |.no w=>.no w
 |.cl f=>match f st.H with
  |.ok (v,H',us)=>.ok (⟨d,v,[],[],none,.all,(us.filter λi=> !js st.H H' i).filterMap (λi=>bif Nat.blt i N then(match lW H' i with|some ob=>some (i,ob)|none=>none)else none),some (H'.drop N)⟩,⟨st.sl,st.bx,H'⟩,k)
  |.no w=>.no w
def C3(B:Nat)(e:bR.Ef)(ws:List Nat):List Nat:=n6 B (e.wh.map (·.1)) ws
noncomputable def yl(P:Program)(C:iy)(n N:Nat)(ops:Array Oper)(o:Oper)(st:St)(k:Nat):R (bR.Ef×St×Nat):=
 match o2 ops o st.sl with
 |some true=>(match den P C o.dst o.op (uz st.sl)with
  |.ok dn=>(match D5 o.dst N k st dn with
   |.ok (e,s,k')=>(match uB n o.dst e.v s with|.ok s'=>.ok (e,s',k')|.no w=>.no w)
   |.no w=>.no w)
  |.no w=>.no w)
 |some false=>(match uB n o.dst (.m (.bz [])) st with|.ok s'=>.ok (⟨o.dst,.m (.bz []),[],[],none,.no,[],none⟩,s',k)|.no w=>.no w)
 |none=>.no [413]
noncomputable def o4(P:Program)(C:iy)(n N:Nat)(ops:Array Oper):Nat->List Oper->St->Nat->R (List bR.Ef×St)
 |_,[],st,k=>.ok ([],st)
 |i,o::r,st,k=>match yl P C n N ops o st k with
  |.ok (e,s,k')=>(match o4 P C n N ops (i+1) r s k' with
   |.ok (es,s')=>.ok (e::es,s')
   |.no w=>.no w)
  |.no w=>.no ((1000+i)::w)
def jP:List Oper->Nat
 |[]=>0
 |o::r=>match o.op with
  |.alloc _=>jP r+1
  |.box _ _=>jP r+1
  |.buildSlice _ _ _=>jP r+1
  |.makeMap _ _=>jP r+1
  |.makeSlice _ _ _=>jP r+1
  |.range _ _=>jP r+1
  |.call c=>(match c.callee with|.builtin .append=>jP r+1|_=>jP r)
  |_=>jP r
noncomputable def fresh(sl:List (Nat×V)):List (Nat×V)->List (Nat×V)->List (Nat×V)
 |[],acc=>acc
 |(t,_)::r,acc=>match jM acc t with
  |some _=>fresh sl r acc
  |none=>match jM sl t with
   |some v=>fresh sl r ((t,v)::acc)
   |none=>fresh sl r acc
noncomputable def iQ(bx:List (Nat×List M)):List (Nat×List M)->List (Nat×List M)->List (Nat×List M)
 |[],acc=>acc
 |(t,_)::r,acc=>match jM acc t with
  |some _=>iQ bx r acc
  |none=>match jM bx t with
   |some v=>iQ bx r ((t,v)::acc)
   |none=>iQ bx r acc
noncomputable def iter(f:St->List Nat->R (Ex×St×List Nat))(ks:List (Nat×V)):Nat->St->List Nat->R (Ex×St×List Nat)
 |0,_,_=>.no [430]
 |n+1,st,ws=>match f st ws with
  |.ok (.jh,s,us)=>iter f ks n ⟨fresh s.sl ks [],iQ s.bx s.bx [],s.H⟩ us
  |.ok (e,s,us)=>.ok (e,s,us)
  |.no w=>.no w
noncomputable def jQ(P:Program)(C:iy)(n B rounds:Nat):Code->St->List Nat->R (Ex×St×List Nat)
 |.skip,st,ws=>.ok (.jh,st,ws)
 |.region id ops false,st,ws=>match kw P C n B ops 0 ops.toList st ws with
  |.ok (s,us)=>.ok (.jh,s,us)
  |.no w=>.no ((2000+id)::w)
 |.region id ops true,st,ws=>
  match o4 P C n (lX st.H+jP ops.toList) ops 0 ops.toList ⟨st.sl,st.bx,BB st.H (List.replicate (jP ops.toList) .free)⟩ (lX st.H)with
  |.ok (es,s)=>bif (bR.pQ (lX st.H+jP ops.toList) ops.toList st.sl es&&P.follows .mixedOrders)then .ok (.jh,s,es.foldl (λus e=>C3 B e us) ws)else .no [2000+id,440]
  |.no w=>.no ((2000+id)::w)
 |.seq a b,st,ws=>match jQ P C n B rounds a st ws with
  |.ok (.jh,s,us)=>jQ P C n B rounds b s us
  |.ok (e,s,us)=>.ok (e,s,us)
  |.no w=>.no w
 |.cond c a b,st,ws=>match uz st.sl c with
  |some (.m (.d (.bool z)))=>bif z then jQ P C n B rounds a st ws else jQ P C n B rounds b st ws
  |_=>.no [441]
 |.block id a,st,ws=>match jQ P C n B rounds a st ws with
  |.ok (.exit i,s,us)=>bif Nat.beq i id then .ok (.jh,s,us)else .ok (.exit i,s,us)
  |.ok (e,s,us)=>.ok (e,s,us)
  |.no w=>.no w
 |.loop a,st,ws=>iter (jQ P C n B rounds a) st.sl rounds ⟨fresh st.sl st.sl [],iQ st.bx st.bx [],st.H⟩ ws
 |.exit id,st,ws=>.ok (.exit id,st,ws)
 |.ret,st,ws=>.ok (.ret,st,ws)
 |_,_,_=>.no [442]
def o5:Code->Option (Array Oper×List Oper×Operand×List Operand)
 |.region _ ops false=>(match ops.toList.reverse with
  |⟨none,.defer ⟨.value x,args,_⟩,_,_,_,none⟩::r=>some (ops,r.reverse,x,args.toList)
  |_=>none)
 |_=>none
noncomputable def rS(H0:Hp):M->Bool
 |.ref i _=>(match lW H0 i with|some (.box _)=>true|_=>false)
 |_=>false
def BK:List (Nat×List M)->Bool
 |[]=>true
 |_=>false
noncomputable def o6(s:St)(x:Operand)(xs:List Operand):Option (Nat×List M):=match x,xs with
 |.func g,xs=>(match tZ (uz s.sl) xs with|some ms=>some (g,ms)|none=>none)
 |x,[]=>(match uz s.sl x with|some (.m (.fn g FR))=>bif Nat.blt g 1024 then some (g,FR)else none|_=>none)
 |_,_=>none
noncomputable def t_(P:Program)(C:iy)(n B rounds:Nat)(H0:Hp):Code->St->List Nat->Option (Nat×List M)->R (Ex×St×List Nat×Option (Nat×List M))
 |.seq a b,st,ws,p=>(match t_ P C n B rounds H0 a st ws p with
  |.ok (.jh,s,us,q)=>t_ P C n B rounds H0 b s us q
  |.ok (e,s,us,q)=>.ok (e,s,us,q)
  |.no w=>.no w)
 |c,st,ws,p=>(match o5 c with
  |some (ops,l,x,xs)=>(match p with
   |some _=>.no [460]
   |none=>(match kw P C n B ops 0 l st ws with
    |.ok (s,us)=>(match o6 s x xs with
     |some (g,FR)=>bif (n3 P g&&(BK s.bx||FR.all (rS H0)))then .ok (.jh,s,us,some (g,FR))else .no [461]
     |none=>.no [463])
    |.no w=>.no w))
  |none=>(match jQ P C n B rounds c st ws with
   |.ok (e,s,us)=>.ok (e,s,us,p)
   |.no w=>.no w))
noncomputable def l5(P:Program)(C:iy)(n B rounds:Nat):Code->St->List Nat->R (Ex×St×List Nat)
 |.seq a b,st,ws=>(match l5 P C n B rounds a st ws with
  |.ok (.jh,s,us)=>jQ P C n B rounds b s us
  |.ok (e,s,us)=>.ok (e,s,us)
  |.no w=>.no w)
 |.region id ops false,st,ws=>(match ops.toList with
  |[⟨some d,.call ⟨.builtin .recover,_,_⟩,_,_,_,none⟩]=>bif Nat.blt d n then .ok (.jh,⟨(d,.m (.d .jA))::st.sl,st.bx,st.H⟩,ws)else .no [465]
  |_=>jQ P C n B rounds (.region id ops false) st ws)
 |c,st,ws=>jQ P C n B rounds c st ws
noncomputable def sO(P:Program)(C:iy)(rounds g:Nat)(FR:List M)(H:Hp):R (Hp×List Nat):=match P.funcs[g]? with
 |some fd=>(match fd.body with
  |some c=>bif (Nat.ble FR.length fd.ntmps&&n3 P g)then(match l5 P C fd.ntmps (lX H) rounds c ⟨ie 0 FR,[],H⟩ []with
   |.ok (.jh,s,us)=>(match kA P fd s with|some _=>.ok (s.H,us)|none=>.no [470])
   |.ok (.ret,s,us)=>(match kA P fd s with|some _=>.ok (s.H,us)|none=>.no [470])
   |.ok (.exit _,_,_)=>.no [471]
   |.no w=>.no ((10000+g)::w))else .no [472]
  |none=>.no [473])
 |none=>.no [474]
noncomputable def vG(P:Program)(C:iy)(rounds:Nat)(fn:Func)(B:Nat)(s:St)(us:List Nat):Option (Nat×List M)->R (M×Hp×List Nat)
 |none=>(match kA P fn s with|some m=>.ok (m,s.H,us)|none=>.no [452])
 |some (g,FR)=>(match sO P C rounds g FR s.H with
  |.ok (H',vs)=>(match kA P fn ⟨s.sl,s.bx,H'⟩with|some m=>.ok (m,H',n6 B vs us)|none=>.no [453])
  |.no w=>.no w)
noncomputable def jR(P:Program)(Gq:Nat->List D->Option (List D))(cG:Nat->Bool)(call:Nat->List M->Hp->R (M×Hp×List Nat))(de:Nat->Nat):iy:=
 ⟨P,call,λg ds=>match Gq g ds with
  |some rs=>.ok rs
  |none=>(match call g (ds.map .d) []with
   |.ok (m,H',_)=>yh 451 (lV (H'.map fz) m)
   |.no w=>.no w),cG,de,Gq⟩
noncomputable def zC(B:Nat)(m:M)(H:Hp)(us:List Nat):Bool:=bif tW B m then us.all (λi=>match lW H i with|some ob=>CV B ob|none=>false)else false
noncomputable def C4(B:Nat):R (M×Hp×List Nat)->R (M×Hp×List Nat)
 |.ok (m,H,us)=>bif zC B m H us then .ok (m,yg B H,us)else .ok (m,H,us)
 |.no w=>.no w
noncomputable def gV(P:Program)(Gq:Nat->List D->Option (List D))(cG:Nat->Bool)(de:Nat->Nat->Nat)(rounds:Nat)(hs:Nat->List M->Hp->Option (M×Hp×List Nat)):Nat->Nat->List M->Hp->R (M×Hp×List Nat)
 |0,f,_,_=>.no [450]
 |k+1,f,ms,H=>match hs f ms H with
 |some r=>.ok r
 |none=>match P.funcs[f]? with
  |some fn=>(match fn.body with
   |some c=>bif Nat.ble ms.length fn.ntmps then
     (match t_ P (jR P Gq cG (gV P Gq cG de rounds hs k) (de f)) fn.ntmps (lX H) rounds H c ⟨ie 0 ms,[],H⟩ [] none with
     |.ok (.jh,s,us,p)=>C4 (lX H) (R.at (10000+f) (vG P (jR P Gq cG (gV P Gq cG de rounds hs k) (de (match p with|some (g,_)=>g|none=>0))) rounds fn (lX H) s us p))
     |.ok (.ret,s,us,p)=>C4 (lX H) (R.at (10000+f) (vG P (jR P Gq cG (gV P Gq cG de rounds hs k) (de (match p with|some (g,_)=>g|none=>0))) rounds fn (lX H) s us p))
     |.ok (.exit _,s,us,p)=>.no [10000+f,453]
     |.no w=>.no ((10000+f)::w))
     else .no [454]
   |none=>.no [455])
  |none=>.no [456]
def BL(_:Nat)(_:List M)(_:Hp):Option (M×Hp×List Nat):=none
noncomputable def wN(P:Program)(Gq:Nat->List D->Option (List D))(cG:Nat->Bool)(de:Nat->Nat->Nat)(rounds:Nat):Nat->Nat->List M->Hp->R (M×Hp×List Nat):=gV P Gq cG de rounds BL
section ops
variable{X:bq}{st:St}{dst:Option Nat}{ty:Nat}{pos:String}{af:Array Edge}{g:Option (Nat×Bool)}{pn:Nat}{H':Hp}
def sP(σ:Sg)(a:Act)(xs:List (Nat×Operand))(ms:List (Nat×M)):Prop:=
 ms.length=(xs.map λp=>(p.1,a.eval p.2)).length/\∀(k:Nat) p q,ms[k]?=some p->(xs.map λp=>(p.1,a.eval p.2))[k]?=some q->p.1=q.1/\RM σ p.2 q.2
theorem qS{H:Hp} :∀{ms qs:List (Nat×M)},pU H ms=some qs->qs.length=ms.length/\∀(k:Nat) p q,ms[k]?=some p->qs[k]?=some q->p.1=q.1/\∃d,q.2=.d d/\ez H p.2=some d
 |[],qs,h=>by simp[pU]at h;subst h;simp
 |(i,m)::r,qs,h=>by
  simp only[pU]at h;split at h
  ·rename_i d hd;split at h
   ·rename_i Uh RJ;injection h with h;subst h
    obtain⟨h1,h2⟩:=qS RJ;refine⟨by simp[h1],λk p q hp hq=>?_⟩;cases k with
    |zero=>simp at hp hq;subst hp;subst hq;exact⟨rfl,d,rfl,hd⟩
    |succ k=>simp at hp hq;exact h2 k p q hp hq
   ·cases h
  ·cases h
theorem bb.C5{σ:Sg}{FC:Nat->Nat}{a:Act}(hi:bb X σ FC st a){xs:List (Nat×Operand)}{ms qs:List (Nat×M)}(he:Mt.bZ st xs=some ms)(hv:pU st.H ms=some qs):sP σ a xs qs:=by
 obtain⟨h1,h2⟩:=hi.bZ he;obtain⟨h3,h4⟩:=qS hv;refine⟨by rw[h3,h1],λk p q hp hq=>?_⟩;have hk:k<ms.length:=by rw[<-h3];rcases Nat.lt_or_ge k qs.length with h|h;exact h;simp[List.getElem?_eq_none h]at hp
 obtain⟨e1,d,e2,e3⟩:=h4 k ms[k] p (by simp[hk]) hp;obtain⟨f1,f2⟩:=h2 k ms[k] q (by simp[hk]) hq;refine⟨by rw[<-e1];exact f1,?_⟩;rw[e2];exact .d (f2.ez hi.hinv (by rw[hi.hH];exact e3))
theorem ry{T e n len:Nat}{parts:List (Nat×Operand)}{z:D}{ms:List (Nat×M)}{cs:List M}{rows:List (List D)}[ht:aL X.P T e][hs:bh X.P e n][hz:dt X.P e z]
  (hn:Nat.blt 0 n=true) (Ga:(aN z).length=n) (hle:Nat.ble (len*n) 16777216=true) (KN:∀a σ FC,bb X σ FC st a->sP σ a parts ms)
  (hf:dE (λi=>some (i*n,n)) (cq n len (aN z)) ms=some cs) (KG:chunk n len cs=some rows):
  aK X ⟨dst,.buildSlice T len parts.toArray,ty,pos,af,g⟩ st (bt (.m (.d (.sl rows))) st):=by
 refine aK.grow λa σ FC hi=>?_
 have Gt:=aQ hn;have Mq:=Nat.le_of_ble_eq_true hle;obtain⟨h1,h2⟩:=KN a σ FC hi;obtain⟨v,GK,GO⟩:=(bA hz.zero).run;have HA:eN σ ((aN z).map .d) v.cells:=(RM.d (bW GO):RM σ (.d z) v).cells rfl;have GR:v.cells.size=n:=by rw[HA.1];simpa using Ga
 have hc:eN σ (cq n len (aN z)) ((Array.range (len*n)).map λi=>v.cells[i%v.cells.size]!):=by
  refine⟨by simp[cq],λi m u hm hu=>?_⟩;have FL:i<len*n:=by
   rcases Nat.lt_or_ge i (len*n)with h|h
   ·exact h
   ·rw[Array.getElem?_eq_none (by simpa using h)]at hu;cases hu
  have LX:i%n<n:=Nat.mod_lt _ Gt;have IW:i%n<(aN z).length:=by omega
  simp[cq,FL,Ga]at hm;simp[FL,GR]at hu;have FJ:i%n<v.cells.size:=by omega
  subst hm;subst hu;refine HA.2 (i%n) _ _ ?_ ?_
  ·simp[List.getElem?_eq_getElem IW]
  ·simp[FJ]
 obtain⟨Gg,h3,h4⟩:=jo hc h1 h2 hf;have hlen:cs.length=len*n:=by
  have HY:∀{ps:List (Nat×M)} {a b:List M},dE (λi=>some (i*n,n)) a ps=some b->b.length=a.length:=by
   intro ps
   induction ps with
   |nil=>intro a b h;simp[dE]at h;subst h;rfl
   |cons p ps ih=>
    intro a b h;obtain⟨i,m⟩:=p;unfold dE at h;simp only at h;cases hb:(Nat.beq (cellsOf m).length n&&m.lP)with
    |false=>simp[hb]at h
    |true=>
     simp only[hb,cond_true]at h;split at h
     ·rename_i a1 hw;rw[ih h];unfold cm at hw;cases Gs:Nat.ble (i*n+(cellsOf m).length) a.length with
      |false=>simp[Gs]at hw
      |true=>
       simp only[Gs,cond_true,Option.some.injEq]at hw;subst hw;have:=Nat.le_of_ble_eq_true Gs;simp;omega
     ·cases h
  rw[HY hf];simp[cq]
 obtain⟨h5,h6,h7⟩:=iU KG hlen;have Kw:Gg.size=len*n:=by rw[h4.1,hlen]
 refine⟨.slice (some ⟨σ.w.heap.size,0,none⟩) len len,{σ.w with heap:=σ.w.heap.push (.cells Gg e (0,0))},?_,dq.alloc _ _,.m (.d (dI.Bw Gt hi.hinv.wx h5 h6 Kw (by have:=Nat.le_mul_of_pos_right len Gt;omega) ?_))⟩
 ·have:(Array.map (λx:Nat×Operand=>match x with|(i,x)=>(i,a.eval x)) parts.toArray).toList=parts.map λp=>(p.1,a.eval p.2):=by simp
  have Ms:¬(len*n>2^24):=by omega
  by_cases HZ:len*n=0
  ·have Jc:len=0:=by
    rcases Nat.mul_eq_zero.1 HZ with h|h
    ·exact h
    ·omega
   subst Jc;have HR:((Array.range (0*n)).map λi=>v.cells[i%v.cells.size]!)= #[]:=by simp
   rw[HR]at h3;simp only[execOp,Instr.buildSlice,Sem.run_bind,underlying,program,Sem.run,ht.u,Sem.run_pure,Result.andThen_ok,bF hs.size,Sem.run_ite,HZ,if_true,this];have e0:Array.range 0=(#[]:Array Nat):=by decide
   simp only[e0,Array.map_empty];rw[h3];simp[newRow,newObj,Sem.run]
  ·simp only[execOp,Instr.buildSlice,Sem.run_bind,underlying,program,Sem.run,ht.u,Sem.run_pure,Result.andThen_ok,bF hs.size,Sem.run_ite,Ms,if_false,HZ,GK,this];rw[h3];simp[newRow,newObj,Sem.run]
 ·intro i j r d u hr hd hu;have:=h4.2 _ _ u (h7 i j r d hr hd) hu;refine⟨?_,this.2⟩;cases this.1 with
  |d h=>exact h
theorem lC{T e n len:Nat}{parts:List (Nat×Operand)}{z:D}{ms:List (Nat×M)}{rows:List (List D)}[ht:aL X.P T e][hs:bh X.P e n][hz:dt X.P e z](h0:Nat.blt 0 n=true)(Ga:Nat.beq (aN z).length n=true)
  (hle:Nat.ble (len*n) 16777216=true) (KN:∀a σ FC,bb X σ FC st a->sP σ a parts ms) (hr:fc 0 ms=some rows) (hlen:Nat.beq rows.length len=true) (hl:fe n rows=true):
  aK X ⟨dst,.buildSlice T len parts.toArray,ty,pos,af,g⟩ st (bt (.m (.d (.sl rows))) st):=by
 have JW:=Nat.eq_of_beq_eq_true hlen;have GC:=jD hl;have JX:=Nat.eq_of_beq_eq_true Ga;have Jd:rows.length=ms.length:=by
  have:∀{ms:List (Nat×M)} {k:Nat} {rows:List (List D)},fc k ms=some rows->rows.length=ms.length:=by
   intro ms
   induction ms with
   |nil=>intro k rows h;simp[fc]at h;subst h;rfl
   |cons p r ih=>
    intro k rows h;obtain⟨i,m⟩:=p;cases m with
    |d d=>
     simp only[fc]at h;cases hb:Nat.beq i k with
     |false=>simp[hb]at h
     |true=>
      simp only[hb,cond_true]at h;split at h
      ·rename_i rs hr;injection h with h;subst h;simp[ih hr]
      ·cases h
    |_=>simp[fc]at h
  exact this hr
 obtain⟨h1,h2⟩:=nP (aQ h0) (k:=0) (pre:=[]) (I5:=cq n len (aN z)) hr GC (by simp) (by simp[cq];rw[<-JW,Jd]);simp only[List.nil_append]at h1;have KG:chunk n len (rows.map λr=>r.map M.d).flatten=some rows:=by rw[<-JW];exact j9 GC
 exact ry h0 JX hle KN h1 KG
theorem rz{T e n len:Nat}{parts:List (Nat×Operand)}{z:D}{ms:List (Nat×M)}{cs:List M}[ht:aL X.P T e][hs:bh X.P e n][hz:dt X.P e z]
  (hn:Nat.blt 0 n=true) (Ga:(aN z).length=n) (hle:Nat.ble (len*n) 16777216=true) (he:bZ st parts=some ms)
  (hf:dE (λi=>some (i*n,n)) (cq n len (aN z)) ms=some cs) (hp:Place st.H (.row false n 0 cs) pn H'):
  aK X ⟨dst,.buildSlice T len parts.toArray,ty,pos,af,g⟩ st (bt (.m (.bB pn 0 len)) ⟨st.sl,st.bx,H'⟩):=by
 intro a σ FC hi;have Gt:=aQ hn;have Mq:=Nat.le_of_ble_eq_true hle;obtain⟨h1,h2⟩:=hi.bZ he;obtain⟨v,GK,GO⟩:=(bA hz.zero).run;have HA:eN σ ((aN z).map .d) v.cells:=(RM.d (bW GO):RM σ (.d z) v).cells rfl;have GR:v.cells.size=n:=by rw[HA.1];simpa using Ga
 have hc:eN σ (cq n len (aN z)) ((Array.range (len*n)).map λi=>v.cells[i%v.cells.size]!):=by
  refine⟨by simp[cq],λi m u hm hu=>?_⟩;have FL:i<len*n:=by
   rcases Nat.lt_or_ge i (len*n)with h|h
   ·exact h
   ·rw[Array.getElem?_eq_none (by simpa using h)]at hu;cases hu
  have LX:i%n<n:=Nat.mod_lt _ Gt;have IW:i%n<(aN z).length:=by omega
  simp[cq,FL,Ga]at hm;simp[FL,GR]at hu;have FJ:i%n<v.cells.size:=by omega
  subst hm;subst hu;refine HA.2 (i%n) _ _ ?_ ?_
  ·simp[List.getElem?_eq_getElem IW]
  ·simp[FJ]
 obtain⟨Gg,h3,h4⟩:=jo hc h1 h2 hf;have hlen:cs.length=len*n:=by
  have HY:∀{ps:List (Nat×M)} {a b:List M},dE (λi=>some (i*n,n)) a ps=some b->b.length=a.length:=by
   intro ps
   induction ps with
   |nil=>intro a b h;simp[dE]at h;subst h;rfl
   |cons p ps ih=>
    intro a b h;obtain⟨i,m⟩:=p;unfold dE at h;simp only at h;cases hb:(Nat.beq (cellsOf m).length n&&m.lP)with
    |false=>simp[hb]at h
    |true=>
     simp only[hb,cond_true]at h;split at h
     ·rename_i a1 hw;rw[ih h];unfold cm at hw;cases Gs:Nat.ble (i*n+(cellsOf m).length) a.length with
      |false=>simp[Gs]at hw
      |true=>
       simp only[Gs,cond_true,Option.some.injEq]at hw;subst hw;have:=Nat.le_of_ble_eq_true Gs;simp;omega
     ·cases h
  rw[HY hf];simp[cq]
 have Kw:Gg.size=len*n:=by rw[h4.1,hlen]
 have MH:len<=140737488355328:=by have:=Nat.le_mul_of_pos_right len Gt;omega
 obtain⟨τ,g1,g2,g3,g4,g5⟩:=hi.place hp (.cells Gg e (0,0)) (by
  intro τ hm hw;refine⟨Gt,Gg,e,len,len,by rw[hw];exact dx _ _,Kw,Nat.le_refl _,⟨hlen,MH⟩,?_⟩;intro k m u Ha hu;exact⟨(h4.2 k m u Ha hu).1.mono hm,(h4.2 k m u Ha hu).2⟩)
 refine bS.value (u:=.slice (some ⟨σ.w.heap.size,0,none⟩) len len) (w':=τ.w) ?_ ⟨_,_,τ,FC,⟨rfl,rfl⟩,rfl,g5,?_⟩
 ·have:(Array.map (λx:Nat×Operand=>match x with|(i,x)=>(i,a.eval x)) parts.toArray).toList=parts.map λp=>(p.1,a.eval p.2):=by simp
  have Ms:¬(len*n>2^24):=by omega
  by_cases HZ:len*n=0
  ·have Jc:len=0:=by
    rcases Nat.mul_eq_zero.1 HZ with h|h
    ·exact h
    ·omega
   subst Jc;have HR:((Array.range (0*n)).map λi=>v.cells[i%v.cells.size]!)= #[]:=by simp
   rw[HR]at h3;simp only[execOp,Instr.buildSlice,Sem.run_bind,underlying,program,Sem.run,ht.u,Sem.run_pure,Result.andThen_ok,bF hs.size,Sem.run_ite,HZ,if_true,this];have e0:Array.range 0=(#[]:Array Nat):=by decide
   simp only[e0,Array.map_empty];rw[h3];simp[newRow,newObj,Sem.run,g1]
  ·simp only[execOp,Instr.buildSlice,Sem.run_bind,underlying,program,Sem.run,ht.u,Sem.run_pure,Result.andThen_ok,bF hs.size,Sem.run_ite,Ms,if_false,HZ,GK,this];rw[h3];simp[newRow,newObj,Sem.run,g1]
 ·refine .m (.bB _ 0 len _ len (.inr ⟨false,n,0,cs,g3,Nat.le_refl _⟩) ?_);intro GP J0 FG hh;rw[g3]at hh;simp at hh;obtain⟨e1,e2,e3⟩:=hh;subst e1;subst e2;subst e3;exact⟨by rw[g2],hlen,_,e,by rw[g2,g1];exact dx _ _,Kw⟩
theorem BM{s t e:Nat}{x:Operand}{rows:List (List D)}{ns:List Int}[hs:aL X.P s e][he:jK X.P e .u8][ht:sd X.P t]{mx:M}(hx:st.ev x=some (.m mx))(RK:ez st.H mx=some (.sl rows))(hb:mK rows=some ns):
  aK X ⟨dst,.convert s t x,ty,pos,af,g⟩ st (bt (.m (.d (.str (strOfNums ns)))) st):=by
 have:=sy hb;subst this;refine aK.quiet λa σ FC hi=>?_
 have h:=hi.Ey hx RK;generalize hu:a.eval x=u at h;refine⟨.string (strOfNums ns),?_,.m (.d (.str _))⟩;generalize hr:(ns.map λn=>[D.int .u8 n])=rows at h;cases h with
 |slnil ad=>
  have:ns=[]:=by simpa using hr
  subst this;cases ad with
  |none=>
   have:=run_convert_bytes_nil (P:=X.P) σ.w s e hs.u he.u 0 0 t ht.u;simp[execOp,hu,this,strOfNums];rfl
  |some ad=>
   have h1:(loadCells ad 0).run X.P σ.w=.ok #[] σ.w:=by simp[loadCells,loadCellsFrom]
   simp only[execOp,hu,Sem.run_bind];rw[run_convert_bytes_string σ.w s t e (some ad) 0 0 hs.u he.u ht.u,run_bytesToString σ.w ad 0 0 [] (by simpa using h1)];simp[strOfNums,ByteArray.empty,ByteArray.emptyWithCapacity];rfl
 |sl rows b o cap ec val h0 Gw FZ GB FW Gf Gx=>
  subst hr;have hlen:(ns.map λn=>[D.int .u8 n]).length=ns.length:=by simp
  have PU:ec=1:=by
   cases ns with
   |nil=>simp at h0
   |cons n ns=>rw[<-GB [.int .u8 n] (by simp)];rfl
  subst PU;have:=run_convert_bytes_arg (P:=X.P) σ.w s e hs.u he.u b o ns.length cap ns rfl (by
   intro i hi;have h1:=(FW i 0 (by simpa using hi) (by omega)).1;have h2:=Gx i 0 [.int .u8 ns[i]] (.int .u8 ns[i]) (by simp[hi]) rfl;have:val i 0=.int .u8 ns[i]:=by generalize val i 0=q at h2;cases h2;rfl
   rw[this]at h1;simp at h1;simpa [hi] using h1) t ht.u
  simp[execOp,hu,this]
theorem ua{f:Nat}{FR:List Operand}{ms:List M}(ha:st.cE FR=some ms)(FJ:f<1024:=by decide):
  aK X ⟨dst,.makeFunc (.func f) #[] FR.toArray,ty,pos,af,g⟩ st (bt (.m (.fn f ms)) st):=by
 refine aK.quiet λa σ FC hi=>?_
 have h:=hi.cE ha;exact⟨.func (.func f) #[] (FR.map a.eval).toArray,by simp[execOp,Instr.makeFunc],.m (.fn f ms _ FJ h.1 h.2)⟩
theorem ub{f:Nat}{Iw:List Operand}{ms:List M}(ha:st.cE Iw=some ms):
  aK X ⟨dst,.makeFunc (.func f) Iw.toArray #[],ty,pos,af,g⟩ st (bt (.m (.fn (f+1024) ms)) st):=by
 refine aK.quiet λa σ FC hi=>?_
 have h:=hi.cE ha;exact⟨.func (.func f) (Iw.map a.eval).toArray #[],by simp[execOp,Instr.makeFunc],.m (.pC f _ ms _ rfl h.1 h.2)⟩
theorem AB{σ:Sg}{Oo:Nat->Nat->Prop}(hi:cY σ Oo){ms:List M}{ds:List D}{vs:Array Value}(h:h_ σ ms vs)(hv:iw (ez σ.H) ms=some ds):wy σ.O σ.w ds vs:=by
 obtain⟨h1,h2⟩:=gM hv;refine⟨by rw[h.1,h1],λi d v hd Ho=>?_⟩;have hk:i<ms.length:=by rw[<-h1];rcases Nat.lt_or_ge i ds.length with h|h;exact h;simp[List.getElem?_eq_none h]at hd
 exact(h.2 i ms[i] v (by simp[hk]) Ho).ez hi (h2 i ms[i] d (by simp[hk]) hd)
theorem l6{σ:Sg}{ms ns:List M}{vs us:Array Value}(h:h_ σ ms vs)(k:h_ σ ns us):h_ σ (ms++ns) (vs++us):=by
 refine⟨by simp[h.1,k.1],λi m v hm hv=>?_⟩;have hl:=h.1;rcases Nat.lt_or_ge i ms.length with FJ|JI
 ·rw[List.getElem?_append_left FJ]at hm;rw[Array.getElem?_append_left (by omega)]at hv;exact h.2 i m v hm hv
 ·rw[List.getElem?_append_right JI]at hm;rw[Array.getElem?_append_right (by omega),hl]at hv;exact k.2 _ m v hm hv
def Enters(X:bq)(st:St)(c:Call)(f:Nat)(ms:List M):Prop:=
 ∀(dst:Option Nat) (ty:Nat) (pos:String) (af:Array Edge) (g:Option (Nat×Bool)) (a:Act) (σ:Sg) (FC:Nat->Nat),bb X σ FC st a->∃vs,(execOp a.eval ⟨dst,.call c,ty,pos,af,g⟩).run X.P σ.w=.ok (.enter f vs) σ.w/\h_ σ ms vs
theorem vH{f:Nat}{args:List Operand}{Gj:Array Nat}{ms:List M}[hf:bp X.P f](ha:st.cE args=some ms):Enters X st ⟨.value (.func f),args.toArray,Gj⟩ f ms:=by
 intro dst ty pos af g a σ FC hi;refine⟨(args.map a.eval).toArray,?_,hi.cE ha⟩;simp only[execOp,resolve,Act.eval,Deferred.ofValue,invoke];simp[hf.run]
theorem wO{x:Operand}{f:Nat}{FR:List M}{args:List Operand}{Gj:Array Nat}{ms:List M}[hf:bp X.P f](hx:st.ev x=some (.m (.fn f FR)))(ha:st.cE args=some ms)(FJ:f<1024:=by decide):Enters X st ⟨.value x,args.toArray,Gj⟩ f (ms++FR):=by
 intro dst ty pos af g a σ FC hi;have h1:=hi.ev hx;have h2:=hi.cE ha;generalize hu:a.eval x=u at h1;cases h1 with
 |m h1=>cases h1 with
  |pC f g cs vs hg hl hh=>omega
  |fn f cs vs FJ hl hh=>
   refine⟨(args.map a.eval).toArray++vs,?_,l6 h2 ⟨hl,hh⟩⟩;simp only[execOp,resolve,hu,Deferred.ofValue,invoke];simp[hf.run]
theorem wP{x:Operand}{f g:Nat}{Iw:List M}{args:List Operand}{Gj:Array Nat}{ms:List M}[hf:bp X.P f](hx:st.ev x=some (.m (.fn g Iw)))(ha:st.cE args=some ms)(hg:g=f+1024):Enters X st ⟨.value x,args.toArray,Gj⟩ f (Iw++ms):=by
 intro dst ty pos af gd a σ FC hi;have h1:=hi.ev hx;have h2:=hi.cE ha;generalize hu:a.eval x=u at h1;cases h1 with
 |m h1=>cases h1 with
  |fn g cs vs FJ hl hh=>omega
  |pC f' g cs vs Ui hl hh=>
   have e:f'=f:=by omega
   subst e;refine⟨vs++(args.map a.eval).toArray,?_,l6 ⟨hl,hh⟩ h2⟩;simp only[execOp,resolve,hu,Deferred.ofValue,invoke];simp[hf.run]
theorem wQ{x:Operand}{f:Nat}{FR:List D}{args:List Operand}{Gj:Array Nat}{ms:List M}[hf:bp X.P f](hx:st.ev x=some (.m (.d (.fn f FR))))(ha:st.cE args=some ms):Enters X st ⟨.value x,args.toArray,Gj⟩ f (ms++FR.map .d):=by
 intro dst ty pos af g a σ FC hi;have h1:=hi.ia hx;have h2:=hi.cE ha;generalize hu:a.eval x=u at h1;cases h1 with
 |fn f cs vs hl hh=>
  refine⟨(args.map a.eval).toArray++vs,?_,l6 h2 ⟨by simp[hl],λi m v hm hv=>?_⟩⟩
  ·simp only[execOp,resolve,hu,Deferred.ofValue,invoke];simp[hf.run]
  ·simp only[List.getElem?_map,Option.map_eq_some_iff]at hm;obtain⟨d,hd,rfl⟩:=hm;exact .d (hh i d v hd hv)
theorem aK.weaken{o:Oper}{p q:V->St->Prop}(h:aK X o st p)(PV:∀v s,p v s->q v s):aK X o st q:=by
 intro a σ FC hi;have:=h a σ FC hi;unfold bS at this⊢;generalize (execOp a.eval o).run X.P σ.w=z at*;cases z with
 |ok x w'=>
  cases x<;>simp only at this⊢ <;>first
   |(obtain⟨v,s,FO,l',h1,h2⟩:=this;exact⟨v,s,FO,l',PV _ _ h1,h2⟩)
   |exact this.mono λe JH ⟨u,he,v,s,FO,l',h1,h2⟩=>⟨u,he,v,s,FO,l',PV _ _ h1,h2⟩
   |exact this
 |halt x w'=>exact this
theorem ym{c:Call}{f:Nat}{ms:List M}{r:M}{H1:Hp}(he:Enters X st c f ms)(h:CT X.P f ms st.H λa b=>a=r/\b=H1):
  aK X ⟨dst,.call c,ty,pos,af,g⟩ st (bt (.m r) ⟨st.sl,st.bx,H1⟩):=
 (aK.Bv h (he dst ty pos af g)).weaken (by rintro v s ⟨r',H',rfl,⟨rfl,rfl⟩,rfl⟩;exact⟨rfl,rfl⟩)
theorem n7{c:Call}{f:Nat}{ms:List M}{ds rs:List D}(he:Enters X st c f ms)(hv:iw (ez st.H) ms=some ds)(h:PT X.P f ds (·=rs)):
  aK X ⟨dst,.call c,ty,pos,af,g⟩ st (bt (.m (fD (rs.map .d))) st):=by
 refine(aK.x4 (ds:=ds) h λa σ FC hi=>?_).weaken (by rintro v s ⟨r',rfl,rfl,rfl⟩;exact⟨rfl,rfl⟩);obtain⟨vs,h1,h2⟩:=he dst ty pos af g a σ FC hi;exact⟨vs,h1,AB hi.hinv h2 (by rw[hi.hH];exact hv)⟩
theorem C6{xt yt:Nat}{x y:Operand}{k k':IntKind}{m n:Int}(hx:st.ev x=some (.m (.d (.int k m))))(hy:st.ev y=some (.m (.d (.int k' n))))(hn:¬n<0):
  aK X ⟨dst,.binOp .shl xt x y yt,ty,pos,af,g⟩ st (bt (.m (.d (.int k (k.wrap (m*2^(min n.toNat k.bits)))))) st):=by
 refine aK.quiet λa σ FC hi=>?_
 have h1:=hi.cC hx;have h2:=hi.cC hy;exact⟨.int k (k.wrap (m*2^(min n.toNat k.bits))),by simp[execOp,h1,h2,eqGuard,binOp,Op.shift,hn],.m (.d (by constructor))⟩
theorem C7{xt yt:Nat}{x y:Operand}{k k':IntKind}{m n:Int}(hx:st.ev x=some (.m (.d (.int k m))))(hy:st.ev y=some (.m (.d (.int k' n))))(hn:¬n<0):
  aK X ⟨dst,.binOp .shr xt x y yt,ty,pos,af,g⟩ st (bt (.m (.d (.int k (m.fdiv (2^(min n.toNat k.bits)))))) st):=by
 refine aK.quiet λa σ FC hi=>?_
 have h1:=hi.cC hx;have h2:=hi.cC hy;exact⟨.int k (m.fdiv (2^(min n.toNat k.bits))),by simp[execOp,h1,h2,eqGuard,binOp,Op.shift,hn],.m (.d (by constructor))⟩
theorem C8{xt yt:Nat}{x y:Operand}{k:IntKind}{m n:Int}(hx:st.ev x=some (.m (.d (.int k m))))(hy:st.ev y=some (.m (.d (.int k n)))):
  aK X ⟨dst,.binOp .and xt x y yt,ty,pos,af,g⟩ st (bt (.m (.d (.int k (k.wrap (BitVec.ofInt k.bits m&&&BitVec.ofInt k.bits n).toNat)))) st):=by
 refine aK.quiet λa σ FC hi=>?_
 have h1:=hi.cC hx;have h2:=hi.cC hy;exact⟨.int k (k.wrap (BitVec.ofInt k.bits m&&&BitVec.ofInt k.bits n).toNat),by simp[execOp,h1,h2,eqGuard,binOp,Op.intBits],.m (.d (by constructor))⟩
theorem D6{xt yt:Nat}{x y:Operand}{k:IntKind}{m n:Int}(hx:st.ev x=some (.m (.d (.int k m))))(hy:st.ev y=some (.m (.d (.int k n)))):
  aK X ⟨dst,.binOp .or xt x y yt,ty,pos,af,g⟩ st (bt (.m (.d (.int k (k.wrap (BitVec.ofInt k.bits m|||BitVec.ofInt k.bits n).toNat)))) st):=by
 refine aK.quiet λa σ FC hi=>?_
 have h1:=hi.cC hx;have h2:=hi.cC hy;exact⟨.int k (k.wrap (BitVec.ofInt k.bits m|||BitVec.ofInt k.bits n).toNat),by simp[execOp,h1,h2,eqGuard,binOp,Op.intBits],.m (.d (by constructor))⟩
theorem C9{xt yt:Nat}{x y:Operand}{k:IntKind}{m n:Int}(hx:st.ev x=some (.m (.d (.int k m))))(hy:st.ev y=some (.m (.d (.int k n)))):
  aK X ⟨dst,.binOp .xor xt x y yt,ty,pos,af,g⟩ st (bt (.m (.d (.int k (k.wrap (BitVec.ofInt k.bits m^^^BitVec.ofInt k.bits n).toNat)))) st):=by
 refine aK.quiet λa σ FC hi=>?_
 have h1:=hi.cC hx;have h2:=hi.cC hy;exact⟨.int k (k.wrap (BitVec.ofInt k.bits m^^^BitVec.ofInt k.bits n).toNat),by simp[execOp,h1,h2,eqGuard,binOp,Op.intBits],.m (.d (by constructor))⟩
theorem yn{xt yt:Nat}{x y:Operand}{s u:ByteArray}(hx:st.ev x=some (.m (.d (.str s))))(hy:st.ev y=some (.m (.d (.str u)))):
  aK X ⟨dst,.binOp .lss xt x y yt,ty,pos,af,g⟩ st (bt (.m (.d (.bool (Op.bytesLess s.toList u.toList)))) st):=by
 refine aK.quiet λa σ FC hi=>?_
 have h1:=hi.gB hx;have h2:=hi.gB hy;exact⟨_,by simp[execOp,h1,h2,eqGuard,binOp,Op.stringOp];rfl,.m (.d (by constructor))⟩
end ops
theorem qT:∀(a b:List UInt8),jN a b=decide (a=b)
 |[],[]=>by simp[jN]
 |[],_::_=>by simp[jN]
 |_::_,[]=>by simp[jN]
 |a::r,b::s=>by
  unfold jN;by_cases h:a=b
  ·subst h;simp[qT r s]
  ·have:Nat.beq a.toNat b.toNat=false:=by
    rw[<-Bool.not_eq_true];intro e;exact h (UInt8.toNat_inj.1 (Nat.eq_of_beq_eq_true e))
   rw[this];simp[h]
theorem iz(s u:ByteArray):kg s u=decide (s=u):=by
 unfold kg;rw[qT];cases s with
 |mk a=>cases u with
  |mk b=>cases a;cases b;simp
theorem BN(s u:ByteArray):BF s u=s++u:=by
 unfold BF;apply ByteArray.ext;simp[ByteArray.data_append]
theorem uC(k:ByteArray):∀es,pS k es=c9 k es
 |[]=>rfl
 |(d,m)::r=>by cases d<;>simp[pS,c9,iz,uC k r]
theorem wR(k:ByteArray)(v:M):∀es,wM k v es=cU k v es
 |[]=>rfl
 |(d,m)::r=>by cases d<;>simp[wM,cU,iz,wR k v r]
section ops
variable{X:bq}{st:St}{dst:Option Nat}{ty:Nat}{pos:String}{af:Array Edge}{g:Option (Nat×Bool)}{pn:Nat}{H':Hp}
theorem uc{T e:Nat}{x y:Operand}{k:ByteArray}{z:D}{ok:Bool}[ht:gz X.P T e][hz:dt X.P e z](hx:st.ev x=some (.m (.d .dQ)))(hy:st.ev y=some (.m (.d (.str k)))):
  aK X ⟨dst,.lookup T x y ok,ty,pos,af,g⟩ st (bt (bif ok then .m (.bz [.d z,.d (.bool false)])else .m (.d z)) st):=by
 refine aK.quiet λa σ FC hi=>?_
 have h:=hi.ia hx;have h2:=hi.gB hy;obtain⟨kt,u1,u2⟩:=ht.u;obtain⟨zv,GK,GO⟩:=(bA hz.zero).run;generalize hu:a.eval x=u at h;cases h with
 |dQ=>
  have GI:∀b,(Instr.checkKey b 10000 kt (.string k)).run X.P σ.w=.ok () σ.w:= λb=>iP (n:=9999) u2
  cases ok with
  |true=>
   refine⟨.tuple #[zv,.bool false],?_,.m (.bz _ _ rfl ?_)⟩
   ·simp only[execOp,hu,h2,Instr.lookup];simp[underlying,program,Sem.run,u1,GI,Instr.findKey,u2,GK,Instr.findNow]
   ·intro n m v hm hv
    match n with
    |0=>simp at hm hv;subst hm;subst hv;exact .d (bW GO)
    |1=>simp at hm hv;subst hm;subst hv;exact .d (.bool _)
    |n+2=>simp at hm
  |false=>
   refine⟨zv,?_,.m (.d (bW GO))⟩;simp only[execOp,hu,h2,Instr.lookup];simp[underlying,program,Sem.run,u1,GI,Instr.findKey,u2,GK,Instr.findNow]
theorem AC{T:Nat}{x y:Operand}{s:ByteArray}{k:IntKind}{i:Nat}{b:UInt8}[ht:sd X.P T](hx:st.ev x=some (.m (.d (.str s))))(hy:st.ev y=some (.m (.d (.int k (.ofNat i)))))(hb:s.data.toList[i]?=some b):
  aK X ⟨dst,.index T x y,ty,pos,af,g⟩ st (bt (.m (.d (.int .u8 b.toNat))) st):=by
 refine aK.quiet λa σ FC hi=>?_
 have h1:=hi.gB hx;have h2:=hi.cC hy;have Hb:s[i]?=some b:=by
  have FJ:i<s.data.toList.length:=by rcases Nat.lt_or_ge i s.data.toList.length with h|h;exact h;simp[List.getElem?_eq_none h]at hb
  have hs:i<s.size:=by have h9:=FJ;rw[Array.length_toList]at h9;exact h9
  rw[getElem?_pos s i hs];rw[List.getElem?_eq_getElem FJ]at hb;injection hb with hb
  rw[<-hb];rfl
 refine⟨.int .u8 b.toNat,?_,.m (.d (.int _ _))⟩;have F6:(underlying T).run X.P σ.w=.ok .string σ.w:=by simp[underlying,program,Sem.run,ht.u]
 have RL:(if(0:Int)<=Int.ofNat i then s[(Int.ofNat i).toNat]? else none)=some b:=by
  have h0:(0:Int)<=Int.ofNat i:=Int.natCast_nonneg i;rw[if_pos h0];exact Hb
 simp only[execOp,h1,h2,Instr.index,asIntOf,Sem.run_bind,Sem.run_pure,Result.andThen_ok,F6,RL]
theorem wS{σ:Sg}{FC:Nat->Nat}{v:V}{u:Value}{z:Bool}(h:RV σ FC v u)(hn:gb 1 v=some z):∃p,u=.pointer p/\p.isNone=z:=by
 unfold gb at hn;cases h with
 |loc t off=>simp at hn;subst hn;exact⟨_,rfl,rfl⟩
 |tl _ _ _ _ _ _ _ _=>simp at hn
 |m h=>cases h with
  |ref i off cs h=>simp at hn;subst hn;exact⟨_,rfl,rfl⟩
  |bG i FD off b h1 h2=>simp at hn;subst hn;exact⟨_,rfl,rfl⟩
  |d h=>cases h with
   |bM cs off b o val h1 h2 h3=>simp at hn;subst hn;exact⟨_,rfl,rfl⟩
   |fB=>simp at hn;subst hn;exact⟨_,rfl,rfl⟩
   |_=>simp at hn
  |_=>simp at hn
theorem wT{σ:Sg}{FC:Nat->Nat}{v:V}{u:Value}{z:Bool}(h:RV σ FC v u)(hn:gb 2 v=some z):∃p,u=.map p/\p.isNone=z:=by
 unfold gb at hn;cases h with
 |loc t off=>simp at hn
 |tl _ _ _ _ _ _ _ _=>simp at hn
 |m h=>cases h with
  |mp i es h=>simp at hn;subst hn;exact⟨_,rfl,rfl⟩
  |d h=>cases h with
   |dQ=>simp at hn;subst hn;exact⟨_,rfl,rfl⟩
   |_=>simp at hn
  |_=>simp at hn
theorem wU{σ:Sg}{FC:Nat->Nat}{v:V}{u:Value}{z:Bool}(h:RV σ FC v u)(hn:gb 3 v=some z):(z=true/\u=.nilFunc)\/(z=false/\∃f a b,u=.func f a b):=by
 unfold gb at hn;cases h with
 |loc t off=>simp at hn
 |tl _ _ _ _ _ _ _ _=>simp at hn
 |m h=>cases h with
  |fn f cs vs FJ hl hh=>simp at hn;subst hn;exact .inr ⟨rfl,_,_,_,rfl⟩
  |pC f g cs vs hg hl hh=>simp at hn;subst hn;exact .inr ⟨rfl,_,_,_,rfl⟩
  |d h=>cases h with
   |rY=>simp at hn;subst hn;exact .inl ⟨rfl,rfl⟩
   |fn f cs vs hl hh=>simp at hn;subst hn;exact .inr ⟨rfl,_,_,_,rfl⟩
   |_=>simp at hn
  |_=>simp at hn
theorem yo{P:Program}{w:World}{t e:Nat}(h:P.underlying t=some (.pointer e))(p:Option Addr):(Op.equal t (.pointer p) (.pointer none)).run P w=.ok p.isNone w:=by
 have F6:(underlying t).run P w=.ok (.pointer e) w:=by simp[underlying,program,Sem.run,h]
 simp only[Op.equal,Op.maxDepth];rw[Op.equalIn];cases p<;>simp[F6]
theorem yp{P:Program}{w:World}{t e e2:Nat}(h:P.underlying t=some (.map e e2))(p:Option Nat):(Op.equal t (.map p) (.map none)).run P w=.ok p.isNone w:=by
 have F6:(underlying t).run P w=.ok (.map e e2) w:=by simp[underlying,program,Sem.run,h]
 simp only[Op.equal,Op.maxDepth];rw[Op.equalIn];cases p<;>simp[F6]
theorem sQ{P:Program}{w:World}{t:Nat}{e1 e2 e3}(h:P.underlying t=some (.func e1 e2 e3))(x:Value)(hx:x=.nilFunc\/∃f c d,x=.func f c d):(Op.equal t x .nilFunc).run P w=.ok (match x with|.nilFunc=>true|_=>false) w:=by
 have F6:(underlying t).run P w=.ok (.func e1 e2 e3) w:=by simp[underlying,program,Sem.run,h]
 simp only[Op.equal,Op.maxDepth];rw[Op.equalIn];rcases hx with rfl|⟨f,c,d,rfl⟩<;>simp[F6]
theorem eq_nil{P:Program}{w:World}{xt k:Nat}{σ:Sg}{FC:Nat->Nat}{v u:V}{a b:Value}{z:Bool}(hk:dW P xt=k)(IK:k=1\/k=2\/k=3)(ha:RV σ FC v a)(hb:RV σ FC u b)(h1:gb k v=some z)(h2:gb k u=some true):
  (Op.equal xt a b).run P w=.ok z w/\(∀op x y,(eqGuard op xt x y a b).run P w=.ok () w)/\(binOp .eql xt a b).run P w=.ok (.bool z) w/\(binOp .neq xt a b).run P w=.ok (.bool (!z)) w:=by
 have key:(Op.equal xt a b).run P w=.ok z w->(∃p q,a=.pointer p/\b=.pointer q)\/(∃p q,a=.map p/\b=.map q)\/((a=.nilFunc\/∃f c d,a=.func f c d)/\b=.nilFunc)->
   (Op.equal xt a b).run P w=.ok z w/\(∀op x y,(eqGuard op xt x y a b).run P w=.ok () w)/\(binOp .eql xt a b).run P w=.ok (.bool z) w/\(binOp .neq xt a b).run P w=.ok (.bool (!z)) w:=by
  rintro he (⟨p,q,rfl,rfl⟩|⟨p,q,rfl,rfl⟩|⟨rfl|⟨f,c,d,rfl⟩,rfl⟩)<;>
   exact⟨he,λop x y=>by cases op<;>simp[eqGuard],by simp[binOp,he],by simp[binOp,he]⟩
 rcases IK with rfl|rfl|rfl
 ·obtain⟨p,rfl,hp⟩:=wS ha h1;obtain⟨q,rfl,hq⟩:=wS hb h2;have hu:∃e,P.underlying xt=some (.pointer e):=by
   unfold dW at hk;split at hk<;>first|exact⟨_,by assumption⟩|cases hk
  obtain⟨e,hu⟩:=hu;refine key ?_ (.inl ⟨p,q,rfl,rfl⟩);have:q=none:=by simpa using hq
  subst this;rw[yo hu,hp]
 ·obtain⟨p,rfl,hp⟩:=wT ha h1;obtain⟨q,rfl,hq⟩:=wT hb h2;have hu:∃e e2,P.underlying xt=some (.map e e2):=by
   unfold dW at hk;split at hk<;>first|exact⟨_,_,by assumption⟩|cases hk
  obtain⟨e,e2,hu⟩:=hu;refine key ?_ (.inr (.inl ⟨p,q,rfl,rfl⟩));have:q=none:=by simpa using hq
  subst this;rw[yp hu,hp]
 ·have hu:∃e e2 e3,P.underlying xt=some (.func e e2 e3):=by
   unfold dW at hk;split at hk<;>first|exact⟨_,_,_,by assumption⟩|cases hk
  obtain⟨e1,e2,e3,hu⟩:=hu;rcases wU hb h2 with⟨_,rfl⟩|⟨h,_⟩
  ·rcases wU ha h1 with⟨rfl,rfl⟩|⟨rfl,f,c,d,rfl⟩
   ·exact key (by rw[sQ hu _ (.inl rfl)]) (.inr (.inr ⟨.inl rfl,rfl⟩))
   ·exact key (by rw[sQ hu _ (.inr ⟨f,c,d,rfl⟩)]) (.inr (.inr ⟨.inr ⟨f,c,d,rfl⟩,rfl⟩))
  ·cases h
theorem BO{σ:Sg}{FC:Nat->Nat}{v:V}{u:Value}{z:Bool}(h:RV σ FC v u)(hn:gb 5 v=some z):(z=true/\u=.nilIface)\/(z=false/\∃t x,u=.iface t x):=by
 unfold gb at hn;cases h with
 |loc t off=>simp at hn
 |tl _ _ _ _ _ _ _ _=>simp at hn
 |m h=>cases h with
  |d h=>cases h with
   |jA=>simp at hn;subst hn;exact .inl ⟨rfl,rfl⟩
   |vj t d v h=>simp at hn;subst hn;exact .inr ⟨rfl,_,_,rfl⟩
   |_=>simp at hn
  |_=>simp at hn
theorem sR{P:Program}{w:World}{t:Nat}{ms}(h:P.underlying t=some (.interface ms))(x:Value)(hx:x=.nilIface\/∃f c,x=.iface f c):(Op.equal t x .nilIface).run P w=.ok (match x with|.nilIface=>true|_=>false) w:=by
 have F6:(underlying t).run P w=.ok (.interface ms) w:=by simp[underlying,program,Sem.run,h]
 simp only[Op.equal,Op.maxDepth];rw[Op.equalIn];rcases hx with rfl|⟨f,c,rfl⟩<;>simp[F6]
theorem wV{xt yt:Nat}{x:Operand}{v:V}{z:Bool}{op:BinOp}(IL:op=.eql\/op=.neq)(hk:dW X.P xt=5)(hx:st.ev x=some v)(h1:gb 5 v=some z):
  aK X ⟨dst,.binOp op xt x (.const .nilIface) yt,ty,pos,af,g⟩ st (bt (.m (.d (.bool (match op with|.eql=>z|_=> !z)))) st):=by
 refine aK.quiet λa σ FC hi=>?_
 have hu:∃ms,X.P.underlying xt=some (.interface ms):=by
  unfold dW at hk;split at hk<;>first|exact⟨_,by assumption⟩|cases hk
 obtain⟨ms,hu⟩:=hu;have hy:a.eval (.const .nilIface)=.nilIface:=rfl;rcases BO (hi.ev hx) h1 with⟨rfl,hv⟩|⟨rfl,t,c,hv⟩
 ·have he:=sR (w:=σ.w) hu .nilIface (.inl rfl);rcases IL with rfl|rfl
  ·exact⟨.bool true,by simp[execOp,hv,hy,eqGuard,binOp,he],.m (.d (.bool _))⟩
  ·exact⟨.bool false,by simp[execOp,hv,hy,eqGuard,binOp,he],.m (.d (.bool _))⟩
 ·have he:=sR (w:=σ.w) hu (.iface t c) (.inr ⟨t,c,rfl⟩);rcases IL with rfl|rfl
  ·exact⟨.bool false,by simp[execOp,hv,hy,eqGuard,binOp,he],.m (.d (.bool _))⟩
  ·exact⟨.bool true,by simp[execOp,hv,hy,eqGuard,binOp,he],.m (.d (.bool _))⟩
theorem AD{P:Program}{w:World}{t e:Nat}(h:P.underlying t=some (.slice e))(a:Addr)(l c:Nat):(Op.equal t (.slice (some a) l c) (.slice none 0 0)).run P w=.ok false w:=by
 have F6:(underlying t).run P w=.ok (.slice e) w:=by simp[underlying,program,Sem.run,h]
 simp only[Op.equal,Op.maxDepth];rw[Op.equalIn];simp[F6]
theorem l7{xt yt:Nat}{x:Operand}{op:BinOp}(IL:op=.eql\/op=.neq)(hk:dW X.P xt=6)(hx:∀a σ FC,bb X σ FC st a->∃ad l c,a.eval x=.slice (some ad) l c):
  aK X ⟨dst,.binOp op xt x (.const (.slice none 0 0)) yt,ty,pos,af,g⟩ st (bt (.m (.d (.bool (match op with|.eql=>false|_=>true)))) st):=by
 refine aK.quiet λa σ FC hi=>?_
 have hu:∃e,X.P.underlying xt=some (.slice e):=by
  unfold dW at hk;split at hk<;>first|exact⟨_,by assumption⟩|cases hk
 obtain⟨e,hu⟩:=hu;obtain⟨ad,l,c,hv⟩:=hx a σ FC hi;have hy:a.eval (.const (.slice none 0 0))=.slice none 0 0:=rfl;have he:=AD (w:=σ.w) hu ad l c;rcases IL with rfl|rfl
 ·exact⟨.bool false,by simp[execOp,hv,hy,eqGuard,binOp,he],.m (.d (.bool _))⟩
 ·exact⟨.bool true,by simp[execOp,hv,hy,eqGuard,binOp,he],.m (.d (.bool _))⟩
theorem sS{σ:Sg}{FC:Nat->Nat}{a:Act}(hi:bb X σ FC st a){x:Operand}{r:List D}{rs:List (List D)}(hx:st.ev x=some (.m (.d (.sl (r::rs))))):∃ad l c,a.eval x=.slice (some ad) l c:=by
 have h:=hi.ia hx;generalize a.eval x=u at h;cases h with
 |sl rows b o cap ec val h0 Gw FZ GB FW Gf Gx=>exact⟨_,_,_,rfl⟩
theorem zD{σ:Sg}{FC:Nat->Nat}{a:Act}(hi:bb X σ FC st a){x:Operand}{j FD len:Nat}{acc:Bool}{ec:Nat}{cs:List M}(hx:st.ev x=some (.m (.bB j FD len)))(hH:st.H[j]?=some (.row acc ec FD cs)):∃ad l c,a.eval x=.slice (some ad) l c:=by
 have h:=hi.ev hx;generalize a.eval x=u at h;cases h with
 |m h=>cases h with
  |bB j FD len ad cap hle Gp=>
   obtain⟨e1,_⟩:=Gp acc ec cs (by rw[hi.hH];exact hH);subst e1;exact⟨_,_,_,rfl⟩
theorem wW{t e n:Nat}{x y z:Operand}{k k':IntKind}{m:M}[ht:aL X.P t e][hs:bh X.P e n](hx:st.ev x=some (.m m))(JV:DH m=true)(hy:st.ev y=some (.m (.d (.int k 0))))(hz:st.ev z=some (.m (.d (.int k' 0)))):
  aK X ⟨dst,.slice t x none (some y) (some z),ty,pos,af,g⟩ st (bt (.m (.d (.sl []))) st):=by
 refine aK.quiet λa σ FC hi=>?_
 have hv:∃ad l c,a.eval x=.slice ad l c:=by
  have h:=hi.ev hx;generalize a.eval x=u at h;cases h with
  |m h=>cases h with
   |bB j FD len ad cap hle Gp=>exact⟨_,_,_,rfl⟩
   |d h=>cases h with
    |slnil a=>exact⟨_,_,_,rfl⟩
    |lH a c=>exact⟨_,_,_,rfl⟩
    |sl rows b o cap ec val h0 Gw FZ GB FW Gf Gx=>exact⟨_,_,_,rfl⟩
    |_=>cases JV
   |_=>cases JV
 obtain⟨ad,l,c,hv⟩:=hv;have h1:=hi.cC hy;have h2:=hi.cC hz;have F6:∀w:World,(underlying t).run X.P w=.ok (.slice e) w:= λw=>by simp[underlying,program,Sem.run,ht.u]
 refine⟨.slice ad 0 0,?_,.m (.d (.slnil ad))⟩;simp[execOp,Instr.sliceAt,Instr.slice,F6,hv,h1,h2,Instr.sliceBounds,Instr.sliceBound,asIntOf,bF hs.size]
theorem sT{P:Program}{w:World}{t e n:Nat}(h:P.underlying t=some (.pointer e))(hs:cz P e=some n)(hn:0<n)(a b:Addr){z:Bool}(hz:(sameAddr a b).run P w=.ok z w):(Op.equal t (.pointer (some a)) (.pointer (some b))).run P w=.ok z w:=by
 have F6:(underlying t).run P w=.ok (.pointer e) w:=by simp[underlying,program,Sem.run,h]
 have Gt:¬n=0:=by omega
 simp only[Op.equal,Op.maxDepth];rw[Op.equalIn];simp[F6,bF hs,Gt,hz]
theorem uD{xt yt i j oi oj:Nat}{x y:Operand}{op:BinOp}(IL:op=.eql\/op=.neq)(hk:gr X.P xt=true)(hx:st.ev x=some (.m (.ref i oi)))(hy:st.ev y=some (.m (.ref j oj))):
  aK X ⟨dst,.binOp op xt x y yt,ty,pos,af,g⟩ st (bt (.m (.d (.bool (match op with|.eql=>(Nat.beq i j&&Nat.beq oi oj)|_=> !(Nat.beq i j&&Nat.beq oi oj))))) st):=by
 refine aK.quiet λa σ FC hi=>?_
 have hu:∃e n,X.P.underlying xt=some (.pointer e)/\cz X.P e=some n/\0<n:=by
  unfold gr at hk;split at hk
  ·rename_i e hu;split at hk
   ·rename_i n hn;exact⟨e,n,hu,hn,aQ hk⟩
   ·cases hk
  ·cases hk
 obtain⟨e,n,hu,hs,hn⟩:=hu;have h1:=hi.ev hx;have h2:=hi.ev hy;generalize hv:a.eval x=p at h1;generalize hw:a.eval y=q at h2;cases h1 with
 |m h1=>cases h1 with
  |ref i oi cs IM=>cases h2 with
   |m h2=>cases h2 with
    |ref j oj ds Ij=>
     obtain⟨arr,T,g1,_⟩:=hi.hinv.obj i _ IM;obtain⟨If,T2,g2,_⟩:=hi.hinv.obj j _ Ij;have hz:(sameAddr ⟨σ.l i,oi,none⟩ ⟨σ.l j,oj,none⟩).run X.P σ.w=.ok (Nat.beq i j&&Nat.beq oi oj) σ.w:=by
      by_cases e1:i=j/\oi=oj
      ·obtain⟨rfl,rfl⟩:=e1;have:=run_sameAddr_same (P:=X.P) σ.w ⟨σ.l i,oi,none⟩;simpa using this
      ·have FV:(⟨σ.l i,oi,none⟩:Addr)≠⟨σ.l j,oj,none⟩:=by
        intro he;injection he with e2 e3
        exact e1 ⟨hi.hinv.inj i j _ _ IM Ij trivial trivial e2,e3⟩
       have hf:(Nat.beq i j&&Nat.beq oi oj)=false:=by
        rw[<-Bool.not_eq_true];intro h;rw[Bool.and_eq_true]at h;exact e1 ⟨Nat.eq_of_beq_eq_true h.1,Nat.eq_of_beq_eq_true h.2⟩
       rw[hf];exact run_sameAddr_other (P:=X.P) σ.w FV g1 g2
     have he:=sT hu hs hn _ _ hz;rcases IL with rfl|rfl
     ·exact⟨.bool (Nat.beq i j&&Nat.beq oi oj),by simp[execOp,hv,hw,eqGuard,binOp,he],.m (.d (.bool _))⟩
     ·exact⟨.bool (!(Nat.beq i j&&Nat.beq oi oj)),by simp[execOp,hv,hw,eqGuard,binOp,he],.m (.d (.bool _))⟩
theorem zE{xt yt k:Nat}{x y:Operand}{v u:V}{z:Bool}{op:BinOp}(IL:op=.eql\/op=.neq)(hk:dW X.P xt=k)(IK:k=1\/k=2\/k=3)(hx:st.ev x=some v)(hy:st.ev y=some u)(h1:gb k v=some z)(h2:gb k u=some true):
  aK X ⟨dst,.binOp op xt x y yt,ty,pos,af,g⟩ st (bt (.m (.d (.bool (match op with|.eql=>z|_=> !z)))) st):=by
 refine aK.quiet λa σ FC hi=>?_
 obtain⟨h3,h4,h5,h6⟩:=eq_nil (w:=σ.w) hk IK (hi.ev hx) (hi.ev hy) h1 h2;rcases IL with rfl|rfl
 ·exact⟨.bool z,by simp[execOp,h4,h5],.m (.d (.bool z))⟩
 ·exact⟨.bool (!z),by simp[execOp,h4,h6],.m (.d (.bool (!z)))⟩
theorem BP(s:ByteArray)(l h:Nat):zB s l h=s.extract l h:=by
 unfold zB;apply ByteArray.ext;simp[ByteArray.data_extract];rw[<-Array.toList_inj];simp[List.extract_eq_take_drop]
theorem uE{P:Program}{σ:Sg}{t off:Nat}{cs:List M}{vs:Array Value}{m:M}{w:World}(h:eN σ cs vs)(hr:ch P t cs off=some m):∃u,(part t vs off).run P w=.ok u w/\RM σ m u:=by
 unfold ch at hr;split at hr
 ·rename_i n ha hn;have Ly:cL P t n:=⟨ha,hn⟩;cases hb:Nat.ble (off+n) cs.length with
  |false=>simp[hb]at hr
  |true=>
   simp only[hb,cond_true]at hr;injection hr with hr
   have hle:=Nat.le_of_ble_eq_true hb;have Gd:=h.1;refine⟨.agg (vs.extract off (off+n)),?_,?_⟩
   ·unfold part;simp[Ly.run,bF hn]
   ·have hc:eN σ ((cs.drop off).take n) (vs.extract off (off+n)):=by
     refine⟨by simp;omega,λi m' v hm hv=>?_⟩;have hi:i<n:=by
      rcases Nat.lt_or_ge i n with h|h
      ·exact h
      ·rw[List.getElem?_eq_none (by simp;omega)]at hm;cases hm
     rw[fZ _ _ _ _ hi]at hm;rw[Array.getElem?_extract,if_pos (by omega)]at hv;exact h.2 (off+i) m' v hm hv
    rw[<-hr];unfold pack;split
    ·rename_i ds hd;have:=h_.cT ⟨hc.1,λi m v a b=>(hc.2 i m v a b).1⟩ hd;exact .d (.agg ds _ this.1 hc.flat this.2)
    ·exact .agg _ _ hc.1 hc.flat (λi m v a b=>(hc.2 i m v a b).1)
 ·rename_i n ha;have FX:cj P t:=⟨ha⟩;have FJ:off<cs.length:=by rcases Nat.lt_or_ge off cs.length with h|h;exact h;simp[List.getElem?_eq_none h]at hr
  have PX:off<vs.size:=by rw[h.1];exact FJ
  refine⟨vs[off],?_,(h.2 off m vs[off] hr (by simp[PX])).1⟩;unfold part;simp[FX.run,PX]
 ·cases hr
theorem pZ{P:Program}{t len e:Nat}(h:sL P t=some (len,e)):P.underlying t=some (.array len e):=by
 unfold sL at h;split at h
 ·rename_i l e' hu;injection h with h;injection h with e1 e2;subst e1;subst e2;exact hu
 ·cases h
theorem o7{T len e n:Nat}{parts:List (Nat×Operand)}{z:List D}{ms:List (Nat×M)}{cs:List M}(hu:X.P.underlying T=some (.array len e))[hs:bh X.P e n](OG:fC X.P T=some (.agg z))(he:bZ st parts=some ms)
  (hf:dE (λi=>some (i*n,n)) (z.map .d) ms=some cs):aK X ⟨dst,.build T parts.toArray,ty,pos,af,g⟩ st (bt (.m (pack cs)) st):=by
 refine aK.quiet λa σ FC hi=>?_
 obtain⟨h1,h2⟩:=hi.bZ he;obtain⟨v,GK,GO⟩:=(bA OG).run;have hc:eN σ (z.map .d) v.cells:=(RM.d (bW GO):RM σ (.d (.agg z)) v).cells rfl;obtain⟨Gg,h3,h4⟩:=jo hc h1 h2 hf;refine⟨.agg Gg,?_,.m ?_⟩
 ·simp only[execOp,Instr.build];simp only[Sem.run_bind,GK,Result.andThen_ok,underlying,program,Sem.run,hu,Sem.run_pure,bF hs.size];have:(Array.map (λx:Nat×Operand=>match x with|(i,x)=>(i,a.eval x)) parts.toArray).toList=parts.map λp=>(p.1,a.eval p.2):=by simp
  simp only[this];rw[h3];simp
 ·unfold pack;split
  ·rename_i ds hd;have:=h_.cT ⟨h4.1,λi m v a b=>(h4.2 i m v a b).1⟩ hd;exact .d (.agg ds _ this.1 h4.flat this.2)
  ·exact .agg _ _ h4.1 h4.flat (λi m v a b=>(h4.2 i m v a b).1)
theorem yq{σ:Sg}{FC:Nat->Nat}{m:M}{cs:List M}{u:Value}(hv:RV σ FC (.m m) u)(hc:eZ m=some cs):∃vs,u=.agg vs/\eN σ cs vs:=by
 unfold eZ at hc;cases hv with
 |m hv=>cases hv with
  |d hv=>cases hv with
   |agg ds vs hl HY hh=>
    simp at hc;subst hc;refine⟨vs,rfl,by simp[hl],λi m v hm Ho=>?_⟩;simp only[List.getElem?_map,Option.map_eq_some_iff]at hm;obtain⟨d,hd,rfl⟩:=hm;exact⟨.d (hh i d v hd Ho),HY i v Ho⟩
   |_=>simp at hc
  |agg ms vs hl HY hh=>
   simp at hc;subst hc;exact⟨vs,rfl,hl,λi m v hm Ho=>⟨hh i m v hm Ho,HY i v Ho⟩⟩
  |_=>simp at hc
theorem o8{T len e n i:Nat}{x y:Operand}{k:IntKind}{m r:M}{cs:List M}(hu:X.P.underlying T=some (.array len e))[hs:bh X.P e n](hx:st.ev x=some (.m m))(hy:st.ev y=some (.m (.d (.int k (.ofNat i)))))(hc:eZ m=some cs)(hi:i<len)
  (hr:ch X.P e cs (i*n)=some r):aK X ⟨dst,.index T x y,ty,pos,af,g⟩ st (bt (.m r) st):=by
 refine aK.quiet λa σ FC hinv=>?_
 have hv:=hinv.ev hx;have h2:=hinv.cC hy;generalize hw:a.eval x=u at hv;obtain⟨vs,rfl,Ik⟩:=yq hv hc;obtain⟨z,h1,h3⟩:=uE (w:=σ.w) Ik hr;refine⟨z,?_,.m h3⟩;have F6:(underlying T).run X.P σ.w=.ok (.array len e) σ.w:=by simp[underlying,program,Sem.run,hu]
 have hb:(0:Int)<=Int.ofNat i/\Int.ofNat i<(len:Int):=⟨Int.natCast_nonneg i,by exact Int.ofNat_lt.2 hi⟩;simp only[execOp,hw,h2,Instr.index,asIntOf,Sem.run_bind,Sem.run_pure,Result.andThen_ok,F6,if_pos hb,bF hs.size];have e1:(Int.ofNat i).toNat=i:=rfl;rw[e1,h1];rfl
theorem yr{T len e n i:Nat}{x y:Operand}{k:IntKind}{v u:V}(hu:X.P.underlying T=some (.array len e))[hs:bh X.P e n](hx:st.ev x=some v)(hy:st.ev y=some (.m (.d (.int k (.ofNat i)))))(hi:i<len)(ha:addrAt (i*n) v=some u):
  aK X ⟨dst,.indexAddr T x y,ty,pos,af,g⟩ st (bt u st):=by
 refine aK.quiet λa σ FC hinv=>?_
 have hv:=hinv.ev hx;have h2:=hinv.cC hy;generalize hw:a.eval x=p at hv;have F6:(underlying T).run X.P σ.w=.ok (.array len e) σ.w:=by simp[underlying,program,Sem.run,hu]
 have hb:(0:Int)<=Int.ofNat i/\Int.ofNat i<(len:Int):=⟨Int.natCast_nonneg i,by exact Int.ofNat_lt.2 hi⟩;have e1:(Int.ofNat i).toNat=i:=rfl;have run:∀(b o:Nat),p=.pointer (some ⟨b,o,none⟩)->(execOp a.eval ⟨dst,.indexAddr T x y,ty,pos,af,g⟩).run X.P σ.w=.ok (.value (.pointer (some ⟨b,o+i*n,none⟩))) σ.w:=by
  intro b o hp;subst hp;simp only[execOp,hw,h2,Instr.indexAt,asIntOf,Instr.sureAddr,Sem.run_bind,Sem.run_pure,Result.andThen_ok,F6,if_pos hb,bF hs.size,e1,fR]
 unfold addrAt at ha;cases hv with
 |loc t off=>
  simp at ha;subst ha;exact⟨_,run _ _ rfl,.loc t _⟩
 |tl _ _ _ _ _ _ _ _=>simp at ha
 |m hv=>cases hv with
  |ref j off cs h=>simp at ha;subst ha;exact⟨_,run _ _ rfl,.m (.ref j _ cs h)⟩
  |bG j FD off b h1 h3=>simp at ha;subst ha;exact⟨_,run _ _ rfl,.m (.bG j FD _ b h1 h3)⟩
  |d hv=>cases hv with
   |bM cs off b o val h1 h3 h4=>
    simp at ha;subst ha;refine⟨_,run _ _ rfl,?_⟩;rw[Nat.add_assoc];exact .m (.d (.bM cs (off+i*n) b o val h1 h3 h4))
   |_=>simp at ha
  |_=>simp at ha
theorem mS{s f ft off:Nat}{x:Operand}{m r:M}{cs:List M}(hx:st.ev x=some (.m m))(hf:lc X.P s f=some (ft,off))(hc:eZ m=some cs)(hr:ch X.P ft cs off=some r):
  aK X ⟨dst,.field s x f,ty,pos,af,g⟩ st (bt (.m r) st):=by
 refine aK.quiet λa σ FC hi=>?_
 have hv:=hi.ev hx;generalize hu:a.eval x=u at hv;have ND:∃fields fd,X.P.underlying s=some (.struct fields)/\fields[f]?=some fd/\fd.type=ft/\fd.offset=off:=by
  unfold lc at hf;split at hf
  ·rename_i fields hu;split at hf
   ·rename_i fd IU;injection hf with hf;injection hf with e1 e2
    exact⟨fields,fd,hu,IU,e1,e2⟩
   ·cases hf
  ·cases hf
 obtain⟨fields,fd,f1,f2,f3,f4⟩:=ND;have NE:∃vs,u=.agg vs/\eN σ cs vs:=by
  unfold eZ at hc;cases hv with
  |m hv=>cases hv with
   |d hv=>cases hv with
    |agg ds vs hl HY hh=>
     simp at hc;subst hc;refine⟨vs,rfl,by simp[hl],λi m v hm Ho=>?_⟩;simp only[List.getElem?_map,Option.map_eq_some_iff]at hm;obtain⟨d,hd,rfl⟩:=hm;exact⟨.d (hh i d v hd Ho),HY i v Ho⟩
    |_=>simp at hc
   |agg ms vs hl HY hh=>
    simp at hc;subst hc;exact⟨vs,rfl,hl,λi m v hm Ho=>⟨hh i m v hm Ho,HY i v Ho⟩⟩
   |_=>simp at hc
 obtain⟨vs,rfl,Ik⟩:=NE;obtain⟨z,h1,h2⟩:=uE (w:=σ.w) Ik hr;refine⟨z,?_,.m h2⟩;simp[execOp,Instr.field,hu,underlying,program,Sem.run,f1,f2,asAgg,f3,f4,h1]
theorem lg{σ:Sg}{FC:Nat->Nat}{a:Act}(hi:bb X σ FC st a){o:Option Operand}{l:Option Nat}(h:e8 st.ev o=some l):(l=none/\o.map a.eval=none)\/∃n k,l=some n/\o.map a.eval=some (.int k (n:Int)):=by
 unfold e8 at h;cases o with
 |none=>simp at h;subst h;exact .inl ⟨rfl,rfl⟩
 |some y=>
  simp only at h;split at h
  ·rename_i k i hy;injection h with h;subst h
   right;exact⟨i,k,rfl,by simp[hi.cC hy]⟩
  ·cases h
theorem yu{t:Nat}{x:Operand}{lo hi:Option Operand}{l h:Option Nat}{s:ByteArray}[ht:sd X.P t](hx:st.ev x=some (.m (.d (.str s))))(OH:e8 st.ev lo=some l)(MI:e8 st.ev hi=some h)
  (h1:l.getD 0<=h.getD s.size) (h2:h.getD s.size<=s.size):
  aK X ⟨dst,.slice t x lo hi none,ty,pos,af,g⟩ st (bt (.m (.d (.str (zB s (l.getD 0) (h.getD s.size))))) st):=by
 refine aK.quiet λa σ FC FL=>?_
 have hv:=FL.gB hx;have KE:=lg FL OH;have Gs:=lg FL MI;have F6:∀w:World,(underlying t).run X.P w=.ok .string w:= λw=>by simp[underlying,program,Sem.run,ht.u]
 generalize hL:l.getD 0=L at*;generalize hG:h.getD s.size=G at*;refine⟨.string (s.extract L G),?_,by rw[BP];exact .m (.d (.str _))⟩;have run:∀lv Jy:Option Value,(lv=none/\L=0\/∃k,lv=some (.int k (L:Int)))->(Jy=none/\G=s.size\/∃k,Jy=some (.int k (G:Int)))->
   (Instr.sliceBounds false s.size s.size lv Jy none).run X.P σ.w=.ok (L,G,s.size) σ.w:=by
  rintro lv Jy (⟨rfl,rfl⟩|⟨k,rfl⟩) (⟨rfl,rfl⟩|⟨k',rfl⟩)
  ·simp[Instr.sliceBounds]
  ·simp[Instr.sliceBounds,Instr.sliceBound,asIntOf,h2]
  ·simp[Instr.sliceBounds,Instr.sliceBound,asIntOf,h1]
  ·simp[Instr.sliceBounds,Instr.sliceBound,asIntOf,h2,h1]
 have hr:=run (lo.map a.eval) (hi.map a.eval)
  (by
    rcases KE with⟨rfl,e⟩|⟨n,k,rfl,e⟩
    ·left;exact⟨e,by simpa using hL.symm⟩
    ·right;exact⟨k,by rw[e];simp at hL;subst hL;rfl⟩)
  (by
    rcases Gs with⟨rfl,e⟩|⟨n,k,rfl,e⟩
    ·left;exact⟨e,by simpa using hG.symm⟩
    ·right;exact⟨k,by rw[e];simp at hG;subst hG;rfl⟩)
 simp only[execOp,Instr.sliceAt,Instr.slice,hv,Option.map_none];simp[F6,hr]
theorem sU{t e n:Nat}{x:Operand}{lo hi:Option Operand}{l h:Option Nat}{rows:List (List D)}[ht:aL X.P t e][hs:bh X.P e n](hx:st.ev x=some (.m (.d (.sl rows))))(OH:e8 st.ev lo=some l)(MI:e8 st.ev hi=some h)
  (hr:rows≠[]) (h1:l.getD 0<=h.getD rows.length) (h2:h.getD rows.length<=rows.length) (HZ:∀r∈rows,r.length=n):
  aK X ⟨dst,.slice t x lo hi none,ty,pos,af,g⟩ st (bt (.m (.d (match(rows.drop (l.getD 0)).take (h.getD rows.length-l.getD 0)with|[]=>.lH|r=>.sl r))) st):=by
 refine aK.quiet λa σ FC FL=>?_
 have hv:=FL.ia hx;have KE:=lg FL OH;have Gs:=lg FL MI;generalize hu:a.eval x=u at hv;have F6:∀w:World,(underlying t).run X.P w=.ok (.slice e) w:= λw=>by simp[underlying,program,Sem.run,ht.u]
 cases hv with
 |slnil ad=>exact absurd rfl hr
 |sl rows b o cap ec val h0 Gw FZ GB FW Gf Gx=>
  have PY:ec=n:=by
   cases rows with
   |nil=>exact absurd rfl h0
   |cons r rs=>rw[<-GB r (by simp)];exact HZ r (by simp)
  subst PY;generalize hL:l.getD 0=L at*;generalize hG:h.getD rows.length=G at*;refine⟨.slice (if cap=L then some ⟨b,o,none⟩else some ⟨b,o+L*ec,none⟩) (G-L) (cap-L),?_,?_⟩
  ·have c2:((G:Nat):Int)<=cap:=by omega
   have run:∀lv Jy:Option Value,(lv=none/\L=0\/∃k,lv=some (.int k (L:Int)))->(Jy=none/\G=rows.length\/∃k,Jy=some (.int k (G:Int)))->
     (Instr.sliceBounds true rows.length cap lv Jy none).run X.P σ.w=.ok (L,G,cap) σ.w:=by
    rintro lv Jy (⟨rfl,rfl⟩|⟨k,rfl⟩) (⟨rfl,rfl⟩|⟨k',rfl⟩)
    ·simp[Instr.sliceBounds]
    ·simp[Instr.sliceBounds,Instr.sliceBound,asIntOf,show G<=cap by omega]
    ·simp[Instr.sliceBounds,Instr.sliceBound,asIntOf,h1]
    ·simp[Instr.sliceBounds,Instr.sliceBound,asIntOf,show G<=cap by omega,h1]
   have hr:=run (lo.map a.eval) (hi.map a.eval)
    (by
      rcases KE with⟨rfl,e⟩|⟨n,k,rfl,e⟩
      ·left;exact⟨e,by simpa using hL.symm⟩
      ·right;exact⟨k,by rw[e];simp at hL;subst hL;rfl⟩)
    (by
      rcases Gs with⟨rfl,e⟩|⟨n,k,rfl,e⟩
      ·left;exact⟨e,by simpa using hG.symm⟩
      ·right;exact⟨k,by rw[e];simp at hG;subst hG;rfl⟩)
   simp only[execOp,Instr.sliceAt,Instr.slice,hu,Option.map_none];simp only[Sem.run_bind,F6,Result.andThen_ok,hr,bF hs.size,Sem.run_pure];by_cases hc:cap=L
   ·simp[hc]
   ·simp[hc,fR]
  ·generalize hq:(rows.drop L).take (G-L)=q;have J8:q.length=G-L:=by rw[<-hq];simp;omega
   cases q with
   |nil=>
    simp at J8;rw[show G-L=0 by omega];exact .m (.d (.lH _ _))
   |cons r0 RN=>
    simp only;generalize L4:r0::RN=q at*;have N5:0<G-L:=by rw[<-J8,<-L4];simp
    rw[if_neg (by omega),<-J8];have FF:∀i r,q[i]?=some r->rows[L+i]?=some r:=by
     intro i r hr;rw[<-hq,List.getElem?_take]at hr;split at hr
     ·rw[List.getElem?_drop]at hr;exact hr
     ·cases hr
    have FJ:∀i,i<q.length->L+i<rows.length:=by intro i hi;omega
    refine .m (.d (dI.sl q b (o+L*ec) (cap-L) ec (λi j=>val (L+i) j) (by rw[<-L4];simp) (by omega) (by omega) ?_ ?_ ?_ ?_))
    ·intro r hr;obtain⟨i,hi⟩:=List.mem_iff_getElem?.1 hr;exact GB r (List.mem_of_getElem? (FF i r hi))
    ·intro i j hi hj;have:=FW (L+i) j (FJ i hi) hj;rw[show o+L*ec+(i*ec+j)=o+((L+i)*ec+j) by rw[Nat.add_mul];omega];exact this
    ·intro i j hi hj;exact Gf (L+i) j (FJ i hi) hj
    ·intro i j r d hr hd;exact Gx (L+i) j r d (FF i r hr) hd
end ops
theorem qU{P:Program}{t:Nat}(h:gr P t=true):∃e n,P.underlying t=some (.pointer e)/\cz P e=some n/\0<n:=by
 unfold gr at h;split at h
 ·rename_i e hu;split at h
  ·rename_i n hn;exact⟨e,n,hu,hn,aQ h⟩
  ·cases h
 ·cases h
theorem qV:∀{es:List (D×M)} {e:D×M},fM es=true->e∈es->e.1≠.dQ
 |[],e,_,h=>by cases h
 |(d,m)::r,e,hk,h=>by
  unfold fM at hk;split at hk
  ·rename_i he;cases he
  ·rename_i he;cases he;rcases List.mem_cons.1 h with rfl|h
   ·simp
   ·exact qV hk h
  ·cases hk
theorem ct.ptr{FT es:List (D×M)}(h:ct FT es)(hk:fM es=true):FT=es:=by
 rcases h with rfl|⟨h1,h2,_⟩
 ·rfl
 ·cases es with
  |nil=>exact List.length_eq_zero_iff.1 h1.length_eq
  |cons e r=>
   obtain⟨d,m⟩:=e;obtain⟨s,hs⟩:=h2 (d,m) (by simp);simp only at hs;subst hs;simp[fM]at hk
theorem sV{P:Program}{t e:Nat}(h:rR P t=some e):∃kt,P.underlying t=some (.map kt e)/\gr P kt=true:=by
 unfold rR at h;split at h
 ·rename_i k e' hu;cases hk:gr P k with
  |true=>rw[hk]at h;simp only[cond_true]at h;injection h with h;subst h;exact⟨k,hu,hk⟩
  |false=>rw[hk]at h;cases h
 ·cases h
theorem RM.Ez{σ:Sg}{a b:M}{x y:Value}(h:RM σ (.bz [a,b]) (.tuple #[x,y])):RM σ a x/\RM σ b y:=by
 cases h with
 |bz cs vs hl h=>exact⟨h 0 a x rfl rfl,h 1 b y rfl rfl⟩
theorem RM.zF{σ:Sg}{a b:M}{x y:Value}(h1:RM σ a x)(h2:RM σ b y):RM σ (.bz [a,b]) (.tuple #[x,y]):=by
 refine .bz _ _ rfl λn m v hm hv=>?_
 match n with
 |0=>simp at hm hv;subst hm;subst hv;exact h1
 |1=>simp at hm hv;subst hm;subst hv;exact h2
 |n+2=>simp at hm
theorem ud{P:Program}{σ:Sg}{Oo:Nat->Nat->Prop}(hi:cY σ Oo){i j oi oj:Nat}{cs ds:List M}(IM:σ.H[i]?=some (.box cs))(Ij:σ.H[j]?=some (.box ds)):
  (sameAddr ⟨σ.l i,oi,none⟩ ⟨σ.l j,oj,none⟩).run P σ.w=.ok (Nat.beq i j&&Nat.beq oi oj) σ.w:=by
 obtain⟨arr,T,g1,_⟩:=hi.obj i _ IM;obtain⟨If,T2,g2,_⟩:=hi.obj j _ Ij;by_cases e1:i=j/\oi=oj
 ·obtain⟨rfl,rfl⟩:=e1;have:=run_sameAddr_same (P:=P) σ.w ⟨σ.l i,oi,none⟩;simpa using this
 ·have FV:(⟨σ.l i,oi,none⟩:Addr)≠⟨σ.l j,oj,none⟩:=by
   intro he;injection he with e2 e3
   exact e1 ⟨hi.inj i j _ _ IM Ij trivial trivial e2,e3⟩
  have hf:(Nat.beq i j&&Nat.beq oi oj)=false:=by
   rw[<-Bool.not_eq_true];intro h;rw[Bool.and_eq_true]at h;exact e1 ⟨Nat.eq_of_beq_eq_true h.1,Nat.eq_of_beq_eq_true h.2⟩
  rw[hf];exact run_sameAddr_other (P:=P) σ.w FV g1 g2
theorem iA{P:Program}{σ:Sg}{Oo:Nat->Nat->Prop}(hi:cY σ Oo){kt e0 n0:Nat}(hu:P.underlying kt=some (.pointer e0))(hs:cz P e0=some n0)(hn:0<n0){i o c:Nat}{cs:List M}(IM:σ.H[i]?=some (.box cs)):
  ∀{es:List (D×M)} {us:List MapEntry} {n:Nat},fM es=true->us.length=es.length->(∀(k:Nat) e u,es[k]?=some e->us[k]?=some u->jB σ c e u)->
  (ja i o es=none/\(Instr.findAsking kt (.pointer (some ⟨σ.l i,o,none⟩)) us n).run P σ.w=.ok none σ.w/\(∀v,kh i o v es=es++[(.fB,.bz [.ref i o,v])]))\/
  ∃k m u,ja i o es=some m/\us[k]?=some u/\es[k]?=some (.fB,.bz [.ref i o,m])/\(Instr.findAsking kt (.pointer (some ⟨σ.l i,o,none⟩)) us n).run P σ.w=.ok (some (n+k,u.val)) σ.w/\
   u.key=.pointer (some ⟨σ.l i,o,none⟩)/\RM σ m u.val/\(∀v,kh i o v es=es.set k (.fB,.bz [.ref i o,v]))
 |[],us,n,_,hl,_=>by
  have:us=[]:=by simpa using hl
  subst this;exact .inl ⟨rfl,by simp[Instr.findAsking,Sem.run],λv=>rfl⟩
 |(dk,mm)::r,us,n,hk,hl,h=>by
  unfold fM at hk;split at hk
  ·rename_i Hy;cases Hy
  ·rename_i j u m r' Hy;injection Hy with h0 RO;injection h0 with h1 h2;subst h1;subst h2;subst RO
   cases us with
   |nil=>simp at hl
   |cons w us=>
    obtain⟨Lh,Hg⟩:RM σ (.ref j u) w.key/\RM σ m w.val:=by
     rcases h 0 _ _ rfl rfl with⟨h0,_⟩|⟨_,h0⟩|⟨h0,_⟩
     ·simp[oE]at h0
     ·exact h0.Ez
     ·cases h0
    obtain⟨ds,Ij,Hi⟩:∃ds,σ.H[j]?=some (.box ds)/\w.key=.pointer (some ⟨σ.l j,u,none⟩):=by
     generalize w.key=q at Lh;cases Lh with
     |ref j u ds Ij=>exact⟨ds,Ij,rfl⟩
    have he:=sT (w:=σ.w) hu hs hn ⟨σ.l i,o,none⟩ ⟨σ.l j,u,none⟩ (ud (P:=P) hi (oi:=o) (oj:=u) IM Ij);cases hb:(Nat.beq i j&&Nat.beq o u)with
    |true=>
     have Hb:=hb;rw[Bool.and_eq_true]at Hb;have e1:=Nat.eq_of_beq_eq_true Hb.1;have e2:=Nat.eq_of_beq_eq_true Hb.2;subst e1;subst e2;refine .inr ⟨0,m,w,by simp[ja],rfl,rfl,?_,Hi,Hg,λv=>by simp[kh]⟩;rw[hb]at he;simp only[Instr.findAsking,Hi];simp[he]
    |false=>
     rw[hb]at he;have hf:(Instr.findAsking kt (.pointer (some ⟨σ.l i,o,none⟩)) (w::us) n).run P σ.w=(Instr.findAsking kt (.pointer (some ⟨σ.l i,o,none⟩)) us (n+1)).run P σ.w:=by
      simp only[Instr.findAsking,Hi];simp[he]
     have MC:ja i o ((.fB,.bz [.ref j u,m])::r)=ja i o r:=by simp only[ja,hb,cond_false]
     have J1:∀v,kh i o v ((.fB,.bz [.ref j u,m])::r)=(.fB,.bz [.ref j u,m])::kh i o v r:= λv=>by simp only[kh,hb,cond_false]
     rcases iA hi hu hs hn (o:=o) IM (n:=n+1) (es:=r) (us:=us) hk (by simpa using hl) (λk e u a b=>h (k+1) e u (by simpa using a) (by simpa using b))with⟨h3,h4,h5⟩|⟨k,m',u',h3,h4,h5,h6,h7,h8,h9⟩
     ·exact .inl ⟨by rw[MC];exact h3,by rw[hf];exact h4,λv=>by rw[J1,h5];rfl⟩
     ·exact .inr ⟨k+1,m',u',by rw[MC];exact h3,by simpa using h4,by simpa using h5,by rw[hf,h6];congr 3;omega,h7,h8,λv=>by rw[J1,h9];rfl⟩
  ·cases hk
theorem o9{P:Program}{w:World}{kt e0:Nat}(hu:P.underlying kt=some (.pointer e0))(p:Option Addr)(us:List MapEntry):
  (Instr.findKey kt (.pointer p) us).run P w=(Instr.findAsking kt (.pointer p) us).run P w:=by
 have F6:(underlying kt).run P w=.ok (.pointer e0) w:=by simp[underlying,program,Sem.run,hu]
 cases us with
 |nil=>simp[Instr.findKey,Instr.findNow,Instr.findAsking,F6]
 |cons u us=>simp[Instr.findKey,Instr.findNow,Instr.sameNow,F6]
theorem nh{P:Program}{b:Bool}{n kt e0:Nat}{v:Value}{w:World}(h:P.underlying kt=some (.pointer e0)):(Instr.checkKey b (n+1) kt v).run P w=.ok () w:=by
 simp[Instr.checkKey,underlying,program,Sem.run,h]
section ops
variable{X:bq}{st:St}{dst:Option Nat}{ty:Nat}{pos:String}{af:Array Edge}{g:Option (Nat×Bool)}
theorem wX{T e kt:Nat}{x y:Operand}{i j o:Nat}{es:List (D×M)}{z:D}(ht:X.P.underlying T=some (.map kt e))(hp:gr X.P kt=true)[hz:dt X.P e z]{ok:Bool}(hx:st.ev x=some (.m (.mp i)))(hy:st.ev y=some (.m (.ref j o)))(hH:st.H[i]?=some (.map es))(hk:fM es=true):
  aK X ⟨dst,.lookup T x y ok,ty,pos,af,g⟩ st (bt (bif ok then .m (match ja j o es with|some m=>.bz [m,.d (.bool true)]|none=>.bz [.d z,.d (.bool false)])else .m (match ja j o es with|some m=>m|none=>.d z)) st):=by
 refine aK.quiet λa σ FC hi=>?_
 have h:=hi.ev hx;have h2:=hi.ev hy;obtain⟨e0,n0,u2,hs,hn⟩:=qU hp;obtain⟨zv,GK,GO⟩:=(bA hz.zero).run;generalize hu:a.eval x=u at h;generalize hv:a.eval y=q at h2;cases h2 with
 |m h2=>cases h2 with
  |ref j o cs Ij=>
   cases h with
   |m h=>cases h with
    |mp i FT hh=>
     obtain⟨RP,Gr,FK,clock,h3,h4,h5,Iu⟩:=hi.hinv.obj i (.map es) (by rw[hi.hH];exact hH);have IC:=Gr.ptr hk;rw[IC]at h4 h5;have GI:∀b v,(Instr.checkKey b 10000 kt v).run X.P σ.w=.ok () σ.w:= λb v=>nh (n:=9999) u2
     have Jo:=o9 (w:=σ.w) u2 (some ⟨σ.l j,o,none⟩) FK.toList;rcases iA hi.hinv u2 hs hn (o:=o) Ij (n:=0) (es:=es) (us:=FK.toList) hk (by simpa using h4) (λi e u a b=>h5 i e u a (by simpa using b))with⟨h6,h7,_⟩|⟨n,m,u,h6,h7,h8,h9,H5,La,_⟩
     ·rw[h6];rw[h7]at Jo;cases ok with
      |true=>
       refine⟨.tuple #[zv,.bool false],?_,.m (.bz _ _ rfl ?_)⟩
       ·simp only[execOp,hu,hv,Instr.lookup];simp[underlying,program,Sem.run,ht,getObj,h3,GI,GK];simp[Jo,GK]
       ·intro n m v hm hv
        match n with
        |0=>simp at hm hv;subst hm;subst hv;exact .d (bW GO)
        |1=>simp at hm hv;subst hm;subst hv;exact .d (.bool _)
        |n+2=>simp at hm
      |false=>
       refine⟨zv,?_,.m (.d (bW GO))⟩;simp only[execOp,hu,hv,Instr.lookup];simp[underlying,program,Sem.run,ht,getObj,h3,GI,GK];simp[Jo,GK]
     ·rw[h6];rw[h9]at Jo;cases ok with
      |true=>
       refine⟨.tuple #[u.val,.bool true],?_,.m (.bz _ _ rfl ?_)⟩
       ·simp only[execOp,hu,hv,Instr.lookup];simp[underlying,program,Sem.run,ht,getObj,h3,GI];simp[Jo]
       ·intro n m' v hm hv
        match n with
        |0=>simp at hm hv;subst hm;subst hv;exact La
        |1=>simp at hm hv;subst hm;subst hv;exact .d (.bool _)
        |n+2=>simp at hm
      |false=>
       refine⟨u.val,?_,.m La⟩;simp only[execOp,hu,hv,Instr.lookup];simp[underlying,program,Sem.run,ht,getObj,h3,GI];simp[Jo]
theorem sW{T e kt:Nat}{x y z:Operand}{i j o:Nat}{es:List (D×M)}{m:M}(ht:X.P.underlying T=some (.map kt e))(hp:gr X.P kt=true)(hx:st.ev x=some (.m (.mp i)))(hy:st.ev y=some (.m (.ref j o)))(hz:st.ev z=some (.m m))(hH:st.H[i]?=some (.map es))(hk:fM es=true):
  aK X ⟨dst,.mapUpdate T x y z,ty,pos,af,g⟩ st (bt (.m .undef) ⟨st.sl,st.bx,st.H.set i (.map (kh j o m es))⟩):=by
 intro a σ FC hi;have h:=hi.ev hx;have h2:=hi.ev hy;have hm:=hi.ev hz;obtain⟨e0,n0,u2,hs,hn⟩:=qU hp;generalize hu:a.eval x=u at h;generalize hv:a.eval y=q at h2;cases hm with
 |m hm=>
 cases h2 with
 |m h2=>cases h2 with
  |ref j o cs Ij=>
  have Lh:RM σ (.ref j o) (.pointer (some ⟨σ.l j,o,none⟩)):=.ref j o cs Ij;cases h with
  |m h=>cases h with
   |mp i FT hh=>
    have G3:σ.H[i]?=some (.map es):=by rw[hi.hH];exact hH
    obtain⟨RP,Gr,FK,clock,h3,h4,h5,Iu⟩:=hi.hinv.obj i (.map es) G3;have IC:=Gr.ptr hk;rw[IC]at h4 h5;have FJ:=cZ h3;have GI:∀b v,(Instr.checkKey b 10000 kt v).run X.P σ.w=.ok () σ.w:= λb v=>nh (n:=9999) u2
    have Jo:=o9 (w:=σ.w) u2 (some ⟨σ.l j,o,none⟩) FK.toList;have x9:∀(He:Array MapEntry) (G8:Nat),He.size=(kh j o m es).length->(∀(n:Nat) e u,(kh j o m es)[n]?=some e->He[n]?=some u->jB σ G8 e u)->fQ He G8->
      ∃τ:Sg,τ.w=bI σ.w (σ.l i) (.map He G8)/\bb X τ FC ⟨st.sl,st.bx,st.H.set i (.map (kh j o m es))⟩ a:=by
     intro He G8 g1 g2 g3;obtain⟨τ,k1,k2,k3,k4,k5⟩:=hi.eU (j:=i) (b':=σ.l i) (ob:=.map es) (F_:=.map (kh j o m es)) (w':=bI σ.w (σ.l i) (.map He G8)) hH trivial rfl rfl rfl (by rw[eb];exact Nat.le_refl _)
      (λc _ hc=>dU hc) (.inl rfl) (λo v ho=>(ho trivial).elim) rfl (by
       intro τ HU hw _ _;exact⟨_,.inl rfl,He,G8,by rw[hw];exact c7 FJ,g1,λn e u a b=>(g2 n e u a b).up λv hv=>hv.mono HU,g3⟩)
     exact⟨τ,k1,k5⟩
    rcases iA hi.hinv u2 hs hn (o:=o) Ij (n:=0) (es:=es) (us:=FK.toList) hk (by simpa using h4) (λi e u a b=>h5 i e u a (by simpa using b))with⟨h6,h7,h8⟩|⟨n,m',u,h6,h7,h8,h9,H5,La,KJ⟩
    ·rw[h7]at Jo;obtain⟨τ,k1,k2⟩:=x9 (FK.push {key:=.pointer (some ⟨σ.l j,o,none⟩),val:=a.eval z,born:=clock}) (clock+1) (by rw[h8];simp[h4]) (by
      intro n e u he hu;rw[h8]at he;rcases Nat.lt_or_ge n es.length with hn|hn
      ·rw[List.getElem?_append_left hn]at he;rw[Array.getElem?_push,if_neg (by omega)]at hu;exact(h5 n e u he hu).Ew (qV hk (List.mem_of_getElem? he))
      ·rw[List.getElem?_append_right hn]at he;have OD:n-es.length=0:=by
        rcases Nat.eq_zero_or_pos (n-es.length)with h|h
        ·exact h
        ·rw[List.getElem?_eq_none (by simp;omega)]at he;cases he
       rw[OD]at he;simp at he;subst he;rw[Array.getElem?_push,if_pos (by omega)]at hu;injection hu with hu;subst hu
       exact .inr (.inl ⟨rfl,RM.zF Lh hm⟩)) Iu.push
     refine bS.skip ?_ ⟨.m .undef,_,τ,FC,⟨rfl,rfl⟩,k1,k2,.m (.undef _)⟩;simp only[execOp,hu,hv,Instr.mapUpdate];simp[underlying,program,Sem.run,ht,getObj,h3,GI];simp[Jo];simp[Sem.run,setObj,bI,h3]
    ·rw[h9]at Jo;have Iv:n<FK.size:=by
      have:=h7;simp at this;rcases Nat.lt_or_ge n FK.size with h|h
      ·exact h
      ·simp[Array.getElem?_eq_none h]at this
     obtain⟨τ,k1,k2⟩:=x9 (FK.modify n λe=>{e with key:=.pointer (some ⟨σ.l j,o,none⟩),val:=a.eval z}) clock (by rw[KJ];simp[h4]) (by
      intro n' e u' he hu;rw[KJ]at he;rw[Array.getElem?_modify]at hu;by_cases en:n=n'
      ·subst en;rw[lT h8]at he;injection he with he;subst he
       simp[Iv]at hu;subst hu;exact .inr (.inl ⟨rfl,RM.zF Lh hm⟩)
      ·rw[List.getElem?_set_ne en]at he;rw[if_neg en]at hu;exact h5 n' e u' he hu) (Iu.modify λ_=>rfl)
     refine bS.skip ?_ ⟨.m .undef,_,τ,FC,⟨rfl,rfl⟩,k1,k2,.m (.undef _)⟩;have LB:FK[n]?.map (·.key)=some (.pointer (some ⟨σ.l j,o,none⟩)):=by
      have:FK[n]?=some u:=by simpa using h7
      rw[this];simp[H5]
     have FN:(Instr.keyThatStays (.pointer (some ⟨σ.l j,o,none⟩)) (.pointer (some ⟨σ.l j,o,none⟩))).run X.P σ.w=.ok (.pointer (some ⟨σ.l j,o,none⟩)) σ.w:=by simp[Instr.keyThatStays,Instr.sameBits]
     simp only[execOp,hu,hv,Instr.mapUpdate];simp[underlying,program,Sem.run,ht,getObj,h3,GI];simp[Jo,LB,FN];simp[Sem.run,setObj,bI,h3]
theorem AE{t:Nat}{x:Operand}{i:Nat}{es:List (D×M)}(ht:dW X.P t=2)(hx:st.ev x=some (.m (.mp i)))(hH:st.H[i]?=some (.map es)):
  aK X ⟨dst,.call ⟨.builtin .clear,#[x],#[t]⟩,ty,pos,af,g⟩ st (bt (.m .undef) ⟨st.sl,st.bx,st.H.set i (.map [])⟩):=by
 intro a σ FC hi;have h:=hi.ev hx;have hu:∃k e,X.P.underlying t=some (.map k e):=by
  unfold dW at ht;split at ht<;>first|exact⟨_,_,by assumption⟩|cases ht
 obtain⟨kk,e,hu⟩:=hu;generalize hv:a.eval x=u at h;cases h with
 |m h=>cases h with
  |mp i FT hh=>
   have G3:σ.H[i]?=some (.map es):=by rw[hi.hH];exact hH
   obtain⟨_,_,FK,clock,h3,h4,h5,Iu⟩:=hi.hinv.obj i (.map es) G3;have FJ:=cZ h3;obtain⟨τ,k1,k2,k3,k4,k5⟩:=hi.eU (j:=i) (b':=σ.l i) (ob:=.map es) (F_:=.map []) (w':=bI σ.w (σ.l i) (.map #[] clock)) hH trivial rfl rfl rfl (by rw[eb];exact Nat.le_refl _)
    (λc _ hc=>dU hc) (.inl rfl) (λo v ho=>(ho trivial).elim) rfl (by
     intro τ HU hw _ _;exact⟨[],.inl rfl,#[],clock,by rw[hw];exact c7 FJ,rfl,by simp,by simp[fQ]⟩)
   refine bS.value (u:=.tuple #[]) (w':=bI σ.w (σ.l i) (.map #[] clock)) ?_ ⟨.m .undef,_,τ,FC,⟨rfl,rfl⟩,k1,k5,.m (.undef _)⟩;simp[execOp,resolve,invoke,builtin,Builtin.clear_,hv,underlying,program,Sem.run,hu,getObj,h3,setObj,bI]
end ops
section
variable{X:bq}{st:St}{dst:Option Nat}{ty:Nat}{pos:String}{af:Array Edge}{g:Option (Nat×Bool)}{pn:Nat}{H':Hp}
theorem zG{P:Program}{T:Nat}(ht:dW P T=2):∃k e,P.underlying T=some (.map k e):=by
 unfold dW at ht;split at ht<;>first|exact⟨_,_,by assumption⟩|cases ht
theorem sX{T:Nat}{x:Operand}{mx:M}(ht:dW X.P T=2)(hx:st.ev x=some (.m mx))(hm:mx=.d .dQ\/∃i,mx=.mp i)(hp:Place st.H (.iter mx) pn H'):
  aK X ⟨dst,.range T x,ty,pos,af,g⟩ st (bt (.m (.it pn)) ⟨st.sl,st.bx,H'⟩):=by
 intro a σ FC hi;have h:=hi.ev hx;obtain⟨kk,e,hu⟩:=zG ht;have key:∀(om:Option Nat) (c:Nat),RM σ mx (.map om)->(Instr.range T (a.eval x)).run X.P σ.w=.ok (.pointer (some ⟨σ.w.heap.size,0,none⟩)) {σ.w with heap:=σ.w.heap.push (.mapIter om c #[] c)} ->
   bS X.P ⟨dst,.range T x,ty,pos,af,g⟩ a.eval σ.w λu w'=>∃v FM FO F7,bt (.m (.it pn)) ⟨st.sl,st.bx,H'⟩ v FM/\FO.w=w'/\bb X FO F7 FM a/\RV FO F7 v u:=by
  intro om c Jd GJ;obtain⟨τ,h1,h2,h3,h4,h5⟩:=hi.place hp (.mapIter om c #[] c) (by
   intro τ HU hw;exact .inl ⟨om,c,#[],c,by rw[hw];simp,.inl ⟨rfl,Jd.mono HU⟩⟩)
  refine bS.value (u:=.pointer (some ⟨σ.w.heap.size,0,none⟩)) (w':={σ.w with heap:=σ.w.heap.push (.mapIter om c #[] c)}) ?_ ⟨_,_,τ,FC,⟨rfl,rfl⟩,h1,h5,?_⟩
  ·simp[execOp,GJ,Sem.run]
  ·rw[<-h2];exact .m (.it _ _ h3)
 generalize hv:a.eval x=u at h key;cases h with
 |m h=>
  rcases hm with rfl|⟨i,rfl⟩
  ·cases h with
   |d h=>cases h with
    |dQ=>exact key none 0 (.d .dQ) (by simp[Instr.range,underlying,program,Sem.run,hu,newObj])
  ·cases h with
   |mp _ es hh=>
    obtain⟨_,_,FK,clock,h3,h4,h5,_⟩:=hi.hinv.obj i (.map es) hh;exact key (some (σ.l i)) clock (.mp i es hh) (by simp[Instr.range,underlying,program,Sem.run,hu,getObj,h3,newObj])
theorem vI{x:Operand}{i:Nat}(hx:st.ev x=some (.m (.it i)))(hH:pY st.H i=true):
  aK X ⟨dst,.next x false,ty,pos,af,g⟩ st (bt (.m (.bz [.d (.bool false)])) st):=by
 refine aK.quiet λa σ FC hi=>?_
 have h:=hi.ev hx;have I1:RV σ FC (.m (.bz [.d (.bool false)])) (.tuple #[.bool false]):=.m (.bz _ _ rfl λi m v h1 h2=>by
  cases i with
  |zero=>simp at h1 h2;subst h1;subst h2;exact .d (.bool _)
  |succ i=>simp at h1)
 generalize hv:a.eval x=u at h;cases h with
 |m h=>cases h with
  |it _ y hh=>
   have HM:=hi.hinv.obj i (.iter y) hh;unfold pY at hH;rw[<-hi.hH,hh]at hH
   try dsimp only at hH
   split at hH
   ·rename_i Hy;injection Hy with Hy;injection Hy with Hy;subst Hy
    obtain⟨om,since,seen,last,h1,h2⟩:∃om since seen last,σ.w.heap[σ.l i]?=some (.mapIter om since seen last)/\((seen= #[]/\RM σ (.d .dQ) (.map om))\/(RM σ (.d .dQ) (gj om since seen)/\since=last)):=by
     rcases HM with h|⟨_,_,_,h⟩
     ·exact h
     ·cases h with
      |d h=>cases h
    obtain⟨IC,Jd⟩:seen= #[]/\RM σ (.d .dQ) (.map om):=by
     rcases h2 with h2|⟨h2,_⟩
     ·exact h2
     ·cases h2 with
      |d h2=>cases h2
    subst IC;cases Jd with
    |d h2=>cases h2 with
     |dQ=>exact⟨_,by simp[execOp,hv,Instr.next,Sem.run,getObj,h1],I1⟩
   ·rename_i j Hy;injection Hy with Hy;injection Hy with Hy;subst Hy
    obtain⟨om,since,seen,last,h1,h2⟩:∃om since seen last,σ.w.heap[σ.l i]?=some (.mapIter om since seen last)/\((seen= #[]/\RM σ (.mp j) (.map om))\/(RM σ (.mp j) (gj om since seen)/\since=last)):=by
     rcases HM with h|⟨_,_,_,h⟩
     ·exact h
     ·cases h
    obtain⟨IC,Jd⟩:seen= #[]/\RM σ (.mp j) (.map om):=by
     rcases h2 with h2|⟨h2,_⟩
     ·exact h2
     ·cases h2
    subst IC;cases Jd with
    |mp _ es LH=>
     rw[LH]at hH
     try dsimp only at hH
     split at hH
     ·rename_i Hy;injection Hy with Hy;injection Hy with Hy;subst Hy
      obtain⟨FT,Gr,FK,clock,h3,h4,h5,_⟩:=hi.hinv.obj j (.map []) LH;have:=Gr.nil;subst this;have he:FK= #[]:=by simpa using h4
      subst he;exact⟨_,by simp[execOp,hv,Instr.next,Sem.run,getObj,h1,h3,choose,Question.forced],I1⟩
     ·cases hH
   ·cases hH
end
end Go.Mt
