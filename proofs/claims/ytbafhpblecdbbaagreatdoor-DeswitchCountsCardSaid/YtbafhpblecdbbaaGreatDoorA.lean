/- A part of the proof of the last text of this claim, without conditions. -/
import Derived.Tactics
import Derived.Orders
import Derived.Deep.LoopGhost
import Derived.Below
import Derived.WalkKit
set_option maxRecDepth 4000
set_option linter.all false
namespace Go.Mt
inductive D where
 |int (k:IntKind) (n:Int)
 |bool (b:Bool)
 |str (s:ByteArray)
 |sl (rows:List (List D))
 |lH
 |agg (cs:List D)
 |bM (cs:List D) (off:Nat)
 |fn (f:Nat) (cap:List D)
 |fB|rY|jA|dQ
 |vj (t:Nat) (d:D)
 deriving Inhabited
inductive M where
 |d (x:D)
 |ref (i off:Nat)
 |bB (i FD len:Nat)
 |bG (i FD off:Nat)
 |mp (i:Nat)
 |it (i:Nat)
 |agg (cs:List M)
 |fn (f:Nat) (cap:List M)
 |bz (vs:List M)
 |undef
 deriving Inhabited
inductive V where
 |m (x:M)
 |loc (t off:Nat)
 |tl (j FD off len:Nat)
 deriving Inhabited
inductive Ob where
 |box (cs:List M)
 |row (acc:Bool) (ec FD:Nat) (cs:List M)
 |map (es:List (D×M))
 |iter (x:M)
 |dead
 |free
 deriving Inhabited
abbrev Hp:=List Ob
def get{α:Type} :List (Nat×α)->Nat->Option α
 |[],_=>none
 |(k,v)::r,t=>bif Nat.beq k t then some v else get r t
structure St where
 sl:List (Nat×V)
 bx:List (Nat×List M)
 H:Hp
def pB(P:Program)(t:Nat):Option Bool:=
 match P.underlying t with
 |some (.struct _)=>some true
 |some (.array _ _)=>some true
 |some _=>some false
 |none=>none
def cz(P:Program)(t:Nat):Option Nat:=(P.info? t).map (·.size)
def lL(P:Program)(t:Nat):Option Nat:=(P.info? t).map (·.bytes)
def kz:Value->Option D
 |.int k n=>some (.int k n)
 |.bool b=>some (.bool b)
 |.string s=>some (.str s)
 |.slice none 0 0=>some (.sl [])
 |.pointer none=>some .fB
 |.nilFunc=>some .rY
 |.nilIface=>some .jA
 |.map none=>some .dQ
 |_=>none
def gI:List Value->Option (List D)
 |[]=>some []
 |v::r=>match kz v,gI r with
  |some d,some ds=>some (d::ds)
  |_,_=>none
def jZ:Value->Option D
 |.agg cs=>match gI cs.toList with
  |some ds=>some (.agg ds)
  |none=>none
 |v=>kz v
def fC(P:Program)(t:Nat):Option D:=
 match P.info? t with
 |some i=>match i.zero with
  |some v=>jZ v
  |none=>none
 |none=>none
def ba(sl:List (Nat×V)):Operand->Option V
 |.tmp t=>get sl t
 |.const v=>match jZ v with
  |some d=>some (.m (.d d))
  |none=>none
 |.func f=>some (.m (.d (.fn f [])))
 |.global _=>none
def St.ev(s:St)(x:Operand):Option V:=ba s.sl x
def aN:D->List D
 |.agg cs=>cs
 |d=>[d]
def cellsOf:M->List M
 |.d x=>(aN x).map .d
 |.agg cs=>cs
 |m=>[m]
def cT:List M->Option (List D)
 |[]=>some []
 |.d x::r=>(cT r).map (x:: ·)
 |_=>none
def pack(cs:List M):M:=
 match cT cs with
 |some ds=>.d (.agg ds)
 |none=>.agg cs
def ch(P:Program)(t:Nat)(cs:List M)(off:Nat):Option M:=
 match pB P t,cz P t with
 |some true,some n=>bif Nat.ble (off+n) cs.length then some (pack ((cs.drop off).take n))else none
 |some false,_=>cs[off]?
 |_,_=>none
def kW(P:Program)(t:Nat)(cs:List D)(off:Nat):Option D:=
 match pB P t,cz P t with
 |some true,some n=>bif Nat.ble (off+n) cs.length then some (.agg ((cs.drop off).take n))else none
 |some false,_=>cs[off]?
 |_,_=>none
def cm(cs:List M)(off:Nat)(new:List M):Option (List M):=
 bif Nat.ble (off+new.length) cs.length then some (cs.take off++new++cs.drop (off+new.length))else none
def chunk(ec:Nat):Nat->List M->Option (List (List D))
 |0,[]=>some []
 |0,_=>none
 |n+1,cs=>match cT (cs.take ec),chunk ec n (cs.drop ec)with
  |some r,some rs=>some (r::rs)
  |_,_=>none
def flat:Value->Bool
 |.agg _=>false
 |.tuple _=>false
 |_=>true
abbrev cB(w:World)(b o:Nat):Option Value:=w.cell? ⟨b,o,none⟩
inductive dI(O:Nat->Nat->Prop)(w:World):D->Value->Prop where
 |int (k:IntKind) (n:Int):dI O w (.int k n) (.int k n)
 |bool (b:Bool):dI O w (.bool b) (.bool b)
 |str (s:ByteArray):dI O w (.str s) (.string s)
 |slnil (a:Option Addr):dI O w (.sl []) (.slice a 0 0)
 |sl (rows:List (List D)) (b o cap ec:Nat) (val:Nat->Nat->Value) (h0:rows≠[]) (Gw:rows.length<=cap) (FZ:rows.length<=140737488355328)
   (GB:∀r∈rows,r.length=ec)
   (FW:∀i j,i<rows.length->j<ec->cB w b (o+(i*ec+j))=some (val i j)/\¬O b (o+(i*ec+j)))
   (Gf:∀i j,i<rows.length->j<ec->flat (val i j)=true)
   (Gx:∀i j r d,rows[i]?=some r->r[j]?=some d->dI O w d (val i j)):
   dI O w (.sl rows) (.slice (some ⟨b,o,none⟩) rows.length cap)
 |lH (a:Option Addr) (cap:Nat):dI O w .lH (.slice a 0 cap)
 |agg (cs:List D) (vs:Array Value) (hl:vs.size=cs.length) (hf:∀(i:Nat) (v:Value),vs[i]?=some v->flat v=true) (h:∀(i:Nat) (d:D) (v:Value),cs[i]?=some d->vs[i]?=some v->dI O w d v):dI O w (.agg cs) (.agg vs)
 |bM (cs:List D) (off b o:Nat) (val:Nat->Value)
   (FW:∀i,i<cs.length->cB w b (o+i)=some (val i)/\¬O b (o+i))
   (Gf:∀i,i<cs.length->flat (val i)=true)
   (Gx:∀i d,cs[i]?=some d->dI O w d (val i)):dI O w (.bM cs off) (.pointer (some ⟨b,o+off,none⟩))
 |fn (f:Nat) (cs:List D) (vs:Array Value) (hl:vs.size=cs.length) (h:∀(i:Nat) (d:D) (v:Value),cs[i]?=some d->vs[i]?=some v->dI O w d v):dI O w (.fn f cs) (.func (.func f) #[] vs)
 |fB:dI O w .fB (.pointer none)
 |rY:dI O w .rY .nilFunc
 |jA:dI O w .jA .nilIface
 |dQ:dI O w .dQ (.map none)
 |vj (t:Nat) (d:D) (v:Value) (h:dI O w d v):dI O w (.vj t d) (.iface t v)
theorem dI.mono{O O':Nat->Nat->Prop}{w w':World}(hc:∀b o v,cB w b o=some v->¬O b o->cB w' b o=some v/\¬O' b o)
  {d:D} {v:Value} (h:dI O w d v):dI O' w' d v:=by
 induction h with
 |int k n=>exact .int k n
 |bool b=>exact .bool b
 |str s=>exact .str s
 |slnil a=>exact .slnil a
 |sl rows b o cap ec val h0 Gw FZ GB FW Gf Gx ih=>
  exact .sl rows b o cap ec val h0 Gw FZ GB (λi j hi hj=>hc _ _ _ (FW i j hi hj).1 (FW i j hi hj).2) Gf ih
 |lH a cap=>exact .lH a cap
 |agg cs vs hl hf h ih=>exact .agg cs vs hl hf ih
 |bM cs off b o val FW Gf Gx ih=>exact .bM cs off b o val (λi hi=>hc _ _ _ (FW i hi).1 (FW i hi).2) Gf ih
 |fn f cs vs hl h ih=>exact .fn f cs vs hl ih
 |fB=>exact .fB
 |rY=>exact .rY
 |jA=>exact .jA
 |dQ=>exact .dQ
 |vj t d v h ih=>exact .vj t d v ih
structure Sg where
 w:World
 O:Nat->Nat->Prop
 l:Nat->Nat
 H:Hp
inductive RM(σ:Sg):M->Value->Prop where
 |d {x:D} {v:Value} (h:dI σ.O σ.w x v):RM σ (.d x) v
 |ref (i off:Nat) (cs:List M) (h:σ.H[i]?=some (.box cs)):RM σ (.ref i off) (.pointer (some ⟨σ.l i,off,none⟩))
 |bB (i FD len:Nat) (a:Option Addr) (cap:Nat)
   (hle:σ.H[i]?=some .dead\/∃acc ec F5 cs,σ.H[i]?=some (.row acc ec F5 cs)/\FD<=F5)
   (Gp:∀acc ec cs,σ.H[i]?=some (.row acc ec FD cs)->a=some ⟨σ.l i,0,none⟩/\cs.length=len*ec/\∃arr T,σ.w.heap[σ.l i]?=some (.cells arr T (0,0))/\arr.size=cap*ec):
   RM σ (.bB i FD len) (.slice a len cap)
 |bG (i FD off b:Nat)
   (hle:σ.H[i]?=some .dead\/∃acc ec F5 cs,σ.H[i]?=some (.row acc ec F5 cs)/\FD<=F5)
   (Gp:∀acc ec cs,σ.H[i]?=some (.row acc ec FD cs)->b=σ.l i):RM σ (.bG i FD off) (.pointer (some ⟨b,off,none⟩))
 |mp (i:Nat) (es:List (D×M)) (h:σ.H[i]?=some (.map es)):RM σ (.mp i) (.map (some (σ.l i)))
 |it (i:Nat) (x:M) (h:σ.H[i]?=some (.iter x)):RM σ (.it i) (.pointer (some ⟨σ.l i,0,none⟩))
 |agg (cs:List M) (vs:Array Value) (hl:vs.size=cs.length) (hf:∀(i:Nat) (v:Value),vs[i]?=some v->flat v=true) (h:∀(i:Nat) (m:M) (v:Value),cs[i]?=some m->vs[i]?=some v->RM σ m v):RM σ (.agg cs) (.agg vs)
 |fn (f:Nat) (cs:List M) (vs:Array Value) (FJ:f<1024) (hl:vs.size=cs.length) (h:∀(i:Nat) (m:M) (v:Value),cs[i]?=some m->vs[i]?=some v->RM σ m v):RM σ (.fn f cs) (.func (.func f) #[] vs)
 |pC (f g:Nat) (cs:List M) (vs:Array Value) (hg:g=f+1024) (hl:vs.size=cs.length) (h:∀(i:Nat) (m:M) (v:Value),cs[i]?=some m->vs[i]?=some v->RM σ m v):RM σ (.fn g cs) (.func (.func f) vs #[])
 |bz (cs:List M) (vs:Array Value) (hl:vs.size=cs.length) (h:∀(i:Nat) (m:M) (v:Value),cs[i]?=some m->vs[i]?=some v->RM σ m v):RM σ (.bz cs) (.tuple vs)
 |undef (v:Value):RM σ .undef v
structure bO(σ τ:Sg):Prop where
 cell:∀b o v,cB σ.w b o=some v->¬σ.O b o->cB τ.w b o=some v/\¬τ.O b o
 box:∀(i:Nat) cs,σ.H[i]?=some (.box cs)->(∃FG,τ.H[i]?=some (.box FG))/\τ.l i=σ.l i
 map:∀(i:Nat) es,σ.H[i]?=some (.map es)->(∃Kh,τ.H[i]?=some (.map Kh))/\τ.l i=σ.l i
 iter:∀(i:Nat) x,σ.H[i]?=some (.iter x)->(∃x',τ.H[i]?=some (.iter x'))/\τ.l i=σ.l i
 dead:∀i:Nat,σ.H[i]?=some .dead->τ.H[i]?=some .dead
 row:∀(i:Nat) acc ec FD cs,σ.H[i]?=some (.row acc ec FD cs)->τ.H[i]?=some .dead\/∃GP F5 FG,τ.H[i]?=some (.row GP ec F5 FG)/\FD<=F5/\
  (F5=FD->τ.l i=σ.l i/\FG.length=cs.length/\∀arr T,σ.w.heap[σ.l i]?=some (.cells arr T (0,0))->∃Gg,τ.w.heap[σ.l i]?=some (.cells Gg T (0,0))/\Gg.size=arr.size)
 free:∀i:Nat,σ.H[i]?=some .free->∃ob,τ.H[i]?=some ob
theorem bO.refl(σ:Sg):bO σ σ:=
 ⟨λ_ _ _ h h'=>⟨h,h'⟩,λ_ cs h=>⟨⟨cs,h⟩,rfl⟩,λ_ es h=>⟨⟨es,h⟩,rfl⟩,λ_ x h=>⟨⟨x,h⟩,rfl⟩,λ_ h=>h,
 λ_ acc ec FD cs h=>.inr ⟨acc,FD,cs,h,Nat.le_refl _,λ_=>⟨rfl,rfl,λarr T h=>⟨arr,h,rfl⟩⟩⟩,λ_ h=>⟨_,h⟩⟩
theorem bO.has{σ τ:Sg}(h:bO σ τ)(i:Nat)(ob:Ob)(hi:σ.H[i]?=some ob):∃F_,τ.H[i]?=some F_:=by
 cases ob with
 |box cs=>obtain⟨⟨FG,a⟩,_⟩:=h.box i cs hi;exact⟨_,a⟩
 |map cs=>obtain⟨⟨FG,a⟩,_⟩:=h.map i cs hi;exact⟨_,a⟩
 |iter cs=>obtain⟨⟨FG,a⟩,_⟩:=h.iter i cs hi;exact⟨_,a⟩
 |dead=>exact⟨_,h.dead i hi⟩
 |free=>exact h.free i hi
 |row acc ec FD cs=>
  rcases h.row i acc ec FD cs hi with a|⟨_,_,_,a,_⟩
  ·exact⟨_,a⟩
  ·exact⟨_,a⟩
theorem bO.trans{σ τ υ:Sg}(h:bO σ τ)(k:bO τ υ):bO σ υ:=by
 refine⟨?_,?_,?_,?_,?_,?_,λi h1=>let⟨ob,h2⟩:=h.free i h1;k.has i ob h2⟩
 ·intro b o v h1 h2;obtain⟨a1,a2⟩:=h.cell b o v h1 h2;exact k.cell b o v a1 a2
 ·intro i cs h1;obtain⟨⟨FG,a1⟩,a2⟩:=h.box i cs h1;obtain⟨a3,a4⟩:=k.box i FG a1;exact⟨a3,a4.trans a2⟩
 ·intro i cs h1;obtain⟨⟨FG,a1⟩,a2⟩:=h.map i cs h1;obtain⟨a3,a4⟩:=k.map i FG a1;exact⟨a3,a4.trans a2⟩
 ·intro i cs h1;obtain⟨⟨FG,a1⟩,a2⟩:=h.iter i cs h1;obtain⟨a3,a4⟩:=k.iter i FG a1;exact⟨a3,a4.trans a2⟩
 ·exactλi h1=>k.dead i (h.dead i h1)
 ·intro i acc ec FD cs h1;rcases h.row i acc ec FD cs h1 with h2|⟨GP,F5,FG,h2,h3,h4⟩
  ·exact .inl (k.dead i h2)
  ·rcases k.row i GP ec F5 FG h2 with h5|⟨JT,Gn,F8,h5,h6,h7⟩
   ·exact .inl h5
   ·refine .inr ⟨JT,Gn,F8,h5,Nat.le_trans h3 h6,λhe=>?_⟩;have e1:F5=FD:=by omega
    have e2:Gn=F5:=by omega
    obtain⟨x1,x2,x3⟩:=h4 e1;obtain⟨y1,y2,y3⟩:=h7 e2;refine⟨y1.trans x1,y2.trans x2,λarr T ha=>?_⟩;obtain⟨Ku,z1,z2⟩:=x3 arr T ha;rw[x1]at y3;obtain⟨If,z3,z4⟩:=y3 Ku T z1;exact⟨If,z3,z4.trans z2⟩
theorem RM.mono{σ τ:Sg}(hm:bO σ τ){m:M}{v:Value}(h:RM σ m v):RM τ m v:=by
 have NW:∀(i FD:Nat),(σ.H[i]?=some .dead\/∃acc ec F5 cs,σ.H[i]?=some (.row acc ec F5 cs)/\FD<=F5)->
   (τ.H[i]?=some .dead\/∃acc ec F5 cs,τ.H[i]?=some (.row acc ec F5 cs)/\FD<=F5):=by
  intro i FD h;rcases h with h|⟨acc,ec,F5,cs,h1,h2⟩
  ·exact .inl (hm.dead i h)
  ·rcases hm.row i acc ec F5 cs h1 with h3|⟨JT,Gn,F8,h3,h4,_⟩
   ·exact .inl h3
   ·exact .inr ⟨JT,ec,Gn,F8,h3,Nat.le_trans h2 h4⟩
 have Mk:∀(i FD:Nat) acc ec cs,(σ.H[i]?=some .dead\/∃acc ec F5 cs,σ.H[i]?=some (.row acc ec F5 cs)/\FD<=F5)->τ.H[i]?=some (.row acc ec FD cs)->
   ∃KW KX,σ.H[i]?=some (.row KW ec FD KX)/\τ.l i=σ.l i/\cs.length=KX.length/\∀arr T,σ.w.heap[σ.l i]?=some (.cells arr T (0,0))->∃Gg,τ.w.heap[σ.l i]?=some (.cells Gg T (0,0))/\Gg.size=arr.size:=by
  intro i FD acc ec cs hle ht;rcases hle with h|⟨KY,HI,GQ,Ju,h1,h2⟩
  ·have:=hm.dead i h;rw[this]at ht;cases ht
  ·rcases hm.row i KY HI GQ Ju h1 with h3|⟨JT,Gn,F8,h3,h4,h5⟩
   ·rw[h3]at ht;cases ht
   ·rw[h3]at ht;injection ht with ht
    injection ht with e1 e2 e3 e4
    subst e1;subst e2;subst e4;subst e3;have e:GQ=Gn:=by omega
    subst e;obtain⟨x1,x2,x3⟩:=h5 rfl;exact⟨KY,Ju,h1,x1,x2,x3⟩
 induction h with
 |d h=>exact .d (h.mono hm.cell)
 |ref i off cs h=>
  obtain⟨⟨FG,h1⟩,h2⟩:=hm.box i cs h;rw[<-h2];exact .ref i off FG h1
 |bB i FD len a cap hle Gp=>
  refine .bB i FD len a cap (NW i FD hle) λacc ec cs ht=>?_
  obtain⟨KW,KX,h1,h2,h3,h4⟩:=Mk i FD acc ec cs hle ht;obtain⟨y1,y2,arr,T,y3,y4⟩:=Gp KW ec KX h1;obtain⟨Gg,y5,y6⟩:=h4 arr T y3;rw[h2];exact⟨y1,h3.trans y2,Gg,T,y5,y6.trans y4⟩
 |bG i FD off b hle Gp=>
  refine .bG i FD off b (NW i FD hle) λacc ec cs ht=>?_
  obtain⟨KW,KX,h1,h2,h3,h4⟩:=Mk i FD acc ec cs hle ht;rw[h2];exact Gp KW ec KX h1
 |mp i es h=>
  obtain⟨⟨Kh,h1⟩,h2⟩:=hm.map i es h;rw[<-h2];exact .mp i Kh h1
 |it i x h=>
  obtain⟨⟨x',h1⟩,h2⟩:=hm.iter i x h;rw[<-h2];exact .it i x' h1
 |agg cs vs hl hf h ih=>exact .agg cs vs hl hf ih
 |fn f cs vs FJ hl h ih=>exact .fn f cs vs FJ hl ih
 |pC f g cs vs hg hl h ih=>exact .pC f g cs vs hg hl ih
 |bz cs vs hl h ih=>exact .bz cs vs hl ih
 |undef v=>exact .undef v
def h_(σ:Sg)(ms:List M)(vs:Array Value):Prop:=
 vs.size=ms.length/\∀(i:Nat) (m:M) (v:Value),ms[i]?=some m->vs[i]?=some v->RM σ m v
theorem h_.mono{σ τ:Sg}(hm:bO σ τ){ms:List M}{vs:Array Value}(h:h_ σ ms vs):h_ τ ms vs:=
 ⟨h.1,λi m v h1 h2=>(h.2 i m v h1 h2).mono hm⟩
def eN(σ:Sg)(ms:List M)(vs:Array Value):Prop:=
 vs.size=ms.length/\∀(i:Nat) (m:M) (v:Value),ms[i]?=some m->vs[i]?=some v->RM σ m v/\flat v=true
theorem eN.mono{σ τ:Sg}(hm:bO σ τ){ms:List M}{vs:Array Value}(h:eN σ ms vs):eN τ ms vs:=
 ⟨h.1,λi m v h1 h2=>⟨(h.2 i m v h1 h2).1.mono hm,(h.2 i m v h1 h2).2⟩⟩
def Ob.live:Ob->Prop
 |.dead=>False
 |.free=>False
 |_=>True
def Ob.e_:Ob->Nat->Prop
 |.box _,_=>True
 |.map _,_=>True
 |.iter _,_=>True
 |.row acc _ _ cs,o=>acc=false\/cs.length<=o
 |.dead,_=>False
 |.free,_=>False
theorem Ob.iJ{ob:Ob}{o:Nat}(h:ob.e_ o):ob.live:=by cases ob<;>first|trivial|exact h
def oE:D->Option Value
 |.str s=>some (.string s)
 |.int k n=>some (.int k n)
 |_=>none
def jB(σ:Sg)(c:Nat)(e:D×M)(u:MapEntry):Prop:=(oE e.1=some u.key/\RM σ e.2 u.val)\/(e.1=.fB/\RM σ e.2 (.tuple #[u.key,u.val]))\/(e.1=.dQ/\RM σ e.2 (.tuple #[u.key,u.val,.int .i64 u.born,.int .i64 c]))
def ct(FT es:List (D×M)):Prop:=FT=es\/(FT.Perm es/\(∀e∈es,∃s,e.1=.str s)/\(es.map Prod.fst).Nodup)
theorem ct.mem{FT es:List (D×M)}(h:ct FT es){e:D×M} :e∈FT↔e∈es:=by
 rcases h with rfl|⟨h,_⟩
 ·exact Iff.rfl
 ·exact h.mem_iff
theorem ct.len{FT es:List (D×M)}(h:ct FT es):FT.length=es.length:=by
 rcases h with rfl|⟨h,_⟩
 ·rfl
 ·exact h.length_eq
theorem ct.nil{FT:List (D×M)}(h:ct FT []):FT=[]:=List.length_eq_zero_iff.1 h.len
theorem tS{α β:Type}{f:α->β}{l' m:List β}(h:l'.Perm m):∀l:List α,m=l.map f->∃l0:List α,l0.Perm l/\l0.map f=l':=by
 induction h with
 |nil=>
     intro l hl;have:l=[]:=by simpa using hl.symm
     subst this;exact⟨[],.nil,rfl⟩
 |cons x _ ih=>
  intro l hl;cases l with
  |nil=>simp at hl
  |cons a l=>
   simp at hl;obtain⟨rfl,h2⟩:=hl;obtain⟨l0,h3,rfl⟩:=ih l h2;exact⟨a::l0,h3.cons a,rfl⟩
 |swap x y l1=>
  intro l hl
  match l,hl with
  |[],hl=>simp at hl
  |[a],hl=>simp at hl
  |a::b::l,hl=>
   simp at hl;obtain⟨rfl,rfl,rfl⟩:=hl;exact⟨b::a::l,.swap a b l,rfl⟩
 |trans _ _ Ml Mm=>
  intro l hl;obtain⟨l1,h1,h2⟩:=Mm l hl;obtain⟨l0,h3,h4⟩:=Ml l1 h2.symm;exact⟨l0,h3.trans h1,h4⟩
theorem ct.DY{JU es:List (D×M)}{f:M->M}(h:ct JU (es.map λe=>(e.1,f e.2))):∃FT,ct FT es/\JU=FT.map λe=>(e.1,f e.2):=by
 rcases h with rfl|⟨h1,h2,h3⟩
 ·exact⟨es,.inl rfl,rfl⟩
 ·obtain⟨FT,h4,h5⟩:=tS h1 es rfl;refine⟨FT,.inr ⟨h4,λe he=>?_,?_⟩,h5.symm⟩
  ·exact h2 (e.1,f e.2) (List.mem_map.2 ⟨e,he,rfl⟩)
  ·rw[List.map_map]at h3;exact h3
def fQ(FK:Array MapEntry)(clock:Nat):Prop:=(∀(i:Nat) u,FK[i]?=some u->u.born<clock)/\∀(i j:Nat) u v,FK[i]?=some u->FK[j]?=some v->u.born=v.born->i=j
theorem fQ.push{FK:Array MapEntry}{clock:Nat}{k v:Value}(h:fQ FK clock):fQ (FK.push {key:=k,val:=v,born:=clock}) (clock+1):=by
 refine⟨λi u hu=>?_,λi j u v hu hv e=>?_⟩
 ·rw[Array.getElem?_push]at hu;split at hu
  ·injection hu with hu;subst hu;exact Nat.lt_succ_self _
  ·exact Nat.lt_succ_of_lt (h.1 i u hu)
 ·rw[Array.getElem?_push]at hu hv;split at hu<;>split at hv
  ·omega
  ·injection hu with hu;subst hu;have:=h.1 j v hv;simp only at e;omega
  ·injection hv with hv;subst hv;have:=h.1 i u hu;simp only at e;omega
  ·exact h.2 i j u v hu hv e
theorem fQ.modify{FK:Array MapEntry}{clock n:Nat}{f:MapEntry->MapEntry}(h:fQ FK clock)(hf:∀e,(f e).born=e.born):fQ (FK.modify n f) clock:=by
 have key:∀(i:Nat) u,(FK.modify n f)[i]?=some u->∃u0,FK[i]?=some u0/\u.born=u0.born:=by
  intro i u hu;rw[Array.getElem?_modify]at hu;split at hu
  ·obtain⟨u0,h1,rfl⟩:=Option.map_eq_some_iff.1 hu;exact⟨u0,h1,hf u0⟩
  ·exact⟨u,hu,rfl⟩
 refine⟨λi u hu=>?_,λi j u v hu hv e=>?_⟩
 ·obtain⟨u0,h1,h2⟩:=key i u hu;rw[h2];exact h.1 i u0 h1
 ·obtain⟨u0,h1,h2⟩:=key i u hu;obtain⟨v0,h3,h4⟩:=key j v hv;exact h.2 i j u0 v0 h1 h3 (by rw[<-h2,<-h4];exact e)
def gj(om:Option Nat)(since:Nat)(seen:Array Nat):Value:=.tuple (#[.map om,.int .i64 since]++seen.map λb=>.int .i64 b)
theorem jB.Ew{σ:Sg}{c c':Nat}{e:D×M}{u:MapEntry}(h:jB σ c e u)(he:e.1≠.dQ):jB σ c' e u:=by
 rcases h with h|h|⟨h1,h2⟩
 ·exact .inl h
 ·exact .inr (.inl h)
 ·exact absurd h1 he
theorem jB.up{σ τ:Sg}{c:Nat}{e:D×M}{m:M}{u:MapEntry}(h:jB σ c e u)(hr:∀v,RM σ e.2 v->RM τ m v):jB τ c (e.1,m) u:=by
 rcases h with⟨h1,h2⟩|⟨h1,h2⟩|⟨h1,h2⟩
 ·exact .inl ⟨h1,hr _ h2⟩
 ·exact .inr (.inl ⟨h1,hr _ h2⟩)
 ·exact .inr (.inr ⟨h1,hr _ h2⟩)
def eE(σ:Sg)(b:Nat):Ob->Prop
 |.box cs=>∃arr T,σ.w.heap[b]?=some (.cells arr T (0,0))/\eN σ cs arr
 |.row acc ec FD cs=>0<ec/\∃arr T cap n,σ.w.heap[b]?=some (.cells arr T (0,0))/\arr.size=cap*ec/\n<=cap/\(cs.length=n*ec/\n<=140737488355328)/\
   ∀(i:Nat) (m:M) (v:Value),cs[i]?=some m->arr[i]?=some v->RM σ m v/\flat v=true
 |.map es=>∃FT,ct FT es/\∃FK clock,σ.w.heap[b]?=some (.map FK clock)/\FK.size=FT.length/\(∀(i:Nat) e u,FT[i]?=some e->FK[i]?=some u->jB σ clock e u)/\fQ FK clock
 |.iter x=>(∃om since seen last,σ.w.heap[b]?=some (.mapIter om since seen last)/\((seen= #[]/\RM σ x (.map om))\/(RM σ x (gj om since seen)/\since=last)))\/
   ∃arr T,σ.w.heap[b]?=some (.cells arr T (0,0))/\RM σ x (.tuple (#[.int .i64 b,.int .i64 (T:Nat)]++arr))
 |.dead=>True
 |.free=>True
structure cY(σ:Sg)(Oo:Nat->Nat->Prop):Prop where
 obj:∀(i:Nat) ob,σ.H[i]?=some ob->eE σ (σ.l i) ob
 inj:∀(i j:Nat) x y,σ.H[i]?=some x->σ.H[j]?=some y->x.live->y.live->σ.l i=σ.l j->i=j
 own:∀b o,σ.O b o↔Oo b o\/∃(i:Nat) (ob:Ob),σ.H[i]?=some ob/\σ.l i=b/\ob.e_ o
 sep:∀(i:Nat) ob,σ.H[i]?=some ob->ob.live->∀o,¬Oo (σ.l i) o
 fj:∀b o,Oo b o->b<σ.w.heap.size
theorem eE.lt{σ:Sg}{b:Nat}{ob:Ob}(h:eE σ b ob)(hl:ob.live):b<σ.w.heap.size:=by
 have key:∀x:Obj,σ.w.heap[b]?=some x->b<σ.w.heap.size:=by
  intro x hx;rcases Nat.lt_or_ge b σ.w.heap.size with h|h
  ·exact h
  ·simp[Array.getElem?_eq_none h]at hx
 cases ob with
 |box cs=>obtain⟨arr,T,h1,_⟩:=h;exact key _ h1
 |row acc ec FD cs=>obtain⟨_,arr,T,cap,n,h1,_⟩:=h;exact key _ h1
 |map es=>obtain⟨_,_,e,c,h1,_⟩:=h;exact key _ h1
 |iter x=>rcases h with⟨_,_,_,_,h1,_⟩|⟨_,_,h1,_⟩<;>exact key _ h1
 |dead=>exact hl.elim
 |free=>exact hl.elim
theorem cY.wx{σ:Sg}{Oo:Nat->Nat->Prop}(h:cY σ Oo):∀b o,σ.O b o->b<σ.w.heap.size:=by
 intro b o hb;rcases(h.own b o).1 hb with h1|⟨i,ob,h1,h2,h3⟩
 ·exact h.fj b o h1
 ·rw[<-h2];exact(h.obj i ob h1).lt (Ob.iJ h3)
structure bJ(σ τ:Sg):Prop where
 os:τ.w.os=σ.w.os
 output:τ.w.output=σ.w.output
 tape:τ.w.tape=σ.w.tape
 size:σ.w.heap.size<=τ.w.heap.size
 be:∀b,b<σ.w.heap.size->(∀(i:Nat) ob,σ.H[i]?=some ob->ob.live->σ.l i≠b)->τ.w.heap[b]?=σ.w.heap[b]?
 loc:∀(i:Nat) ob,τ.H[i]?=some ob->ob.live->σ.w.heap.size<=τ.l i\/∃F_,σ.H[i]?=some F_/\F_.live/\τ.l i=σ.l i
theorem bJ.refl(σ:Sg):bJ σ σ:=⟨rfl,rfl,rfl,Nat.le_refl _,λ_ _ _=>rfl,λi ob h hl=>.inr ⟨ob,h,hl,rfl⟩⟩
theorem bJ.trans{σ τ υ:Sg}(h:bJ σ τ)(k:bJ τ υ):bJ σ υ:=by
 refine⟨k.os.trans h.os,k.output.trans h.output,k.tape.trans h.tape,Nat.le_trans h.size k.size,?_,?_⟩
 ·intro b hb hn;rw[k.be b (Nat.lt_of_lt_of_le hb h.size) ?_,h.be b hb hn];intro i ob hi hl he;rcases h.loc i ob hi hl with h1|⟨F_,h1,h2,h3⟩
  ·omega
  ·exact hn i F_ h1 h2 (by rw[<-h3];exact he)
 ·intro i ob hi hl;rcases k.loc i ob hi hl with h1|⟨F_,h1,h2,h3⟩
  ·exact .inl (Nat.le_trans h.size h1)
  ·rcases h.loc i F_ h1 h2 with h4|⟨Rp,h4,h5,h6⟩
   ·exact .inl (by rw[h3];exact h4)
   ·exact .inr ⟨Rp,h4,h5,h3.trans h6⟩
inductive RV(σ:Sg)(FC:Nat->Nat):V->Value->Prop where
 |m {x:M} {v:Value} (h:RM σ x v):RV σ FC (.m x) v
 |loc (t off:Nat):RV σ FC (.loc t off) (.pointer (some ⟨FC t,off,none⟩))
 |tl (i FD off len:Nat) (a:Option Addr) (cap:Nat)
   (hle:σ.H[i]?=some .dead\/∃acc ec F5 cs,σ.H[i]?=some (.row acc ec F5 cs)/\FD<=F5)
   (Gp:∀acc ec cs,σ.H[i]?=some (.row acc ec FD cs)->(cap≠0->a=some ⟨σ.l i,off*ec,none⟩)/\cs.length=(off+len)*ec/\∃arr T,σ.w.heap[σ.l i]?=some (.cells arr T (0,0))/\arr.size=(off+cap)*ec):
   RV σ FC (.tl i FD off len) (.slice a len cap)
theorem RV.mono{σ τ:Sg}{FC:Nat->Nat}(hm:bO σ τ){x:V}{v:Value}(h:RV σ FC x v):RV τ FC x v:=by
 cases h with
 |m h=>exact .m (h.mono hm)
 |loc t off=>exact .loc t off
 |tl i FD off len ad cap hle Gp=>
  refine .tl i FD off len ad cap ?_ λacc ec cs ht=>?_
  ·rcases hle with h|⟨acc,ec,F5,cs,h1,h2⟩
   ·exact .inl (hm.dead i h)
   ·rcases hm.row i acc ec F5 cs h1 with h3|⟨JT,Gn,F8,h3,h4,_⟩
    ·exact .inl h3
    ·exact .inr ⟨JT,ec,Gn,F8,h3,Nat.le_trans h2 h4⟩
  ·rcases hle with h|⟨KY,HI,GQ,Ju,h1,h2⟩
   ·have:=hm.dead i h;rw[this]at ht;cases ht
   ·rcases hm.row i KY HI GQ Ju h1 with h3|⟨JT,Gn,F8,h3,h4,h5⟩
    ·rw[h3]at ht;cases ht
    ·rw[h3]at ht;injection ht with ht
     injection ht with e1 e2 e3 e4
     subst e1;subst e2;subst e4;subst e3;have e:GQ=Gn:=by omega
     subst e;obtain⟨x1,x2,x3⟩:=h5 rfl;obtain⟨y1,y2,arr,T,y3,y4⟩:=Gp KY HI Ju h1;obtain⟨Gg,y5,y6⟩:=x3 arr T y3;rw[x1];exact⟨y1,x2.trans y2,Gg,T,y5,y6.trans y4⟩
def iT(fa:Nat->Nat->Prop)(FC:Nat->Nat)(bx:List (Nat×List M))(b o:Nat):Prop:=
 fa b o\/∃t cs,get bx t=some cs/\FC t=b
structure bq where
 P:Program
 n:Nat
 s0:Sg
 fa:Nat->Nat->Prop
 df:List Deferred
structure bb(X:bq)(σ:Sg)(FC:Nat->Nat)(st:St)(a:Act):Prop where
 hH:σ.H=st.H
 defers:a.defers=X.df
 size:a.tmps.size=X.n
 slot:∀t v,get st.sl t=some v->∃u,a.tmps[t]?=some u/\RV σ FC v u
 box:∀t cs,get st.bx t=some cs->eE σ (FC t) (.box cs)
 jC:∀t u cs ds,get st.bx t=some cs->get st.bx u=some ds->FC t=FC u->t=u
 j5:∀t cs,get st.bx t=some cs->∀o,¬X.fa (FC t) o
 j6:∀t cs,get st.bx t=some cs->X.s0.w.heap.size<=FC t
 hinv:cY σ (iT X.fa FC st.bx)
 mono:bO X.s0 σ
 be:bJ X.s0 σ
def Inv(X:bq)(st:St)(a:Act)(w:World):Prop:=∃σ FC,σ.w=w/\bb X σ FC st a
def TC(X:bq)(c:Code)(st:St)(post:Exit->St->Prop):Prop:=
 ∀a w,Inv X st a w->c.wp X.P (λe a' w'=>∃FM,post e FM/\Inv X FM a' w') a w
def TL(X:bq)(ops:Array Oper)(l:List Oper)(st:St)(post:St->Prop):Prop:=
 ∀a w,Inv X st a w->wpList X.P ops (λe a' w'=>e=.normal/\∃FM,post FM/\Inv X FM a' w') l a w
def after(post:Exit->St->Prop)(k:St->Prop):Exit->St->Prop
 |.normal,s=>k s
 |e,s=>post e s
section code
variable{X:bq}{st:St}{post:Exit->St->Prop}
theorem TC.mono{c:Code}{HW:Exit->St->Prop}(h:TC X c st post)(hp:∀e s,post e s->HW e s):TC X c st HW:=
 λa w hi=>wp_mono (h a w hi) λe a' w' ⟨s,h1,h2⟩=>⟨s,hp _ _ h1,h2⟩
theorem TC.seq{x y:Code}(h:TC X x st (after post λs=>TC X y s post)):TC X (.seq x y) st post:=by
 intro a w hi;refine wp_seq (wp_mono (h a w hi) ?_);intro e a' w' ⟨s,h1,h2⟩;cases e with
 |normal=>exact h1 a' w' h2
 |_=>exact⟨s,h1,h2⟩
theorem TC.skip(h:post .normal st):TC X .skip st post:= λa w hi=>wp_skip ⟨st,h,hi⟩
theorem TC.exit{id:Nat}(h:post (.exit id) st):TC X (.exit id) st post:= λa w hi=>wp_exit ⟨st,h,hi⟩
theorem TC.ret(h:post .ret st):TC X .ret st post:= λa w hi=>wp_ret ⟨st,h,hi⟩
def lM(id:Nat)(post:Exit->St->Prop):Exit->St->Prop
 |.exit i,s=>if i=id then post .normal s else post (.exit i) s
 |e,s=>post e s
theorem TC.block{id:Nat}{c:Code}(h:TC X c st (lM id post)):TC X (.block id c) st post:=by
 intro a w hi;refine wp_block (wp_mono (h a w hi) ?_);intro e a' w' ⟨s,h1,h2⟩;cases e with
 |exit i=>
  simp only[lM]at h1;simp only[Exit.inBlock];by_cases he:i=id
  ·rw[if_pos he]at h1⊢;exact⟨s,h1,h2⟩
  ·rw[if_neg he]at h1⊢;exact⟨s,h1,h2⟩
 |_=>exact⟨s,h1,h2⟩
theorem TC.region{id:Nat}{ops:List Oper}(h:TL X ops.toArray ops st (post .normal)):TC X (.region id ops.toArray false) st post:=by
 intro a w hi;refine wp_region_lit ?_;have key:∀l a w,wpList X.P ops.toArray (λe a' w'=>e=.normal/\∃FM,post .normal FM/\Inv X FM a' w') l a w->
   wpList X.P ops.toArray (λe a' w'=>∃FM,post e FM/\Inv X FM a' w') l a w:=by
  have hq:∀(e:Exit) a w,(e=.normal/\∃FM,post .normal FM/\Inv X FM a w)->∃FM,post e FM/\Inv X FM a w:=by
   rintro e a w ⟨rfl,h⟩;exact h
  have NX:∀(Q Q':Exit->Act->World->Prop),(∀e a w,Q e a w->Q' e a w)->LetsOut Q->LetsOut Q':= λQ Q' h ⟨a,w,q⟩=>⟨a,w,h _ _ _ q⟩
  have up:∀(o:Oper) (a:Act) (w:World) (next next':Act->World->Prop) (Q Q':Exit->Act->World->Prop),(∀a w,next a w->next' a w)->(∀e a w,Q e a w->Q' e a w)->o.wp X.P a w next Q->o.wp X.P a w next' Q':=by
   intro o a w next next' Q Q' hn hq h
   unfold Oper.wp at*;generalize (execOp a.eval o).run X.P w=r at*;cases r with
   |ok x w'=>
    cases x<;>simp only[Oper.upon]at h⊢ <;>
     first
      |exact hn _ _ h
      |exact Calls.mono h (λe JH he=>by cases e<;>first|exact hn _ _ he|exact hq _ _ _ he|exact NX _ _ hq he)
      |exact Rows.mono h (λ_ _ he=>hn _ _ he)
      |exact h
   |halt x w'=>cases x<;>simp only[Oper.upon]at h⊢ <;>first|exact hq _ _ _ h|exact h
  intro l
  induction l with
  |nil=>intro a w h;exact hq _ _ _ h
  |cons o l ih=>
   intro a w h;unfold wpList at h⊢;split
   ·rename_i hw;rw[if_pos hw]at h;rcases h with h|⟨h1,h2⟩
    ·exact .inl (up o a w _ _ _ _ ih hq h)
    ·exact .inr ⟨h1,NX _ _ hq h2⟩
   ·rename_i hw;rw[if_neg hw]at h;exact ih _ _ h
 exact key _ _ _ (h a w hi)
end code
def bS(P:Program)(o:Oper)(ρ:Operand->Value)(w:World)(post:Value->World->Prop):Prop:=
 match(execOp ρ o).run P w with
 |.ok (.value u) w'=>post u w'
 |.ok .skip w'=>post undef w'
 |.ok (.enter f args) w'=>Calls P f args w' λe JH=>∃u,e=.returned u/\post u JH
 |_=>False
theorem bS.value{P:Program}{o:Oper}{ρ:Operand->Value}{w w':World}{u:Value}{post:Value->World->Prop}
  (h:(execOp ρ o).run P w=.ok (.value u) w') (hp:post u w'):bS P o ρ w post:=by
 unfold bS;rw[h];exact hp
theorem bS.skip{P:Program}{o:Oper}{ρ:Operand->Value}{w w':World}{post:Value->World->Prop}
  (h:(execOp ρ o).run P w=.ok .skip w') (hp:post undef w'):bS P o ρ w post:=by
 unfold bS;rw[h];exact hp
theorem bS.enter{P:Program}{o:Oper}{ρ:Operand->Value}{w w':World}{f:Nat}{args:Array Value}{post:Value->World->Prop}
  (h:(execOp ρ o).run P w=.ok (.enter f args) w') (hp:Calls P f args w' λe JH=>∃u,e=.returned u/\post u JH):bS P o ρ w post:=by
 unfold bS;rw[h];exact hp
theorem bS.wp{P:Program}{o:Oper}{a:Act}{w:World}{post:Value->World->Prop}{next:Act->World->Prop}{Q:Exit->Act->World->Prop}
  (h:bS P o a.eval w post) (hn:∀u w',post u w'->next (a.put o.dst u) w'):o.wp P a w next Q:=by
 unfold bS at h;unfold Oper.wp;generalize (execOp a.eval o).run P w=r at*;cases r with
 |ok x w'=>
  cases x<;>simp only[Oper.upon]at h⊢ <;>
   first
    |exact hn _ _ h
    |exact h.elim
    |exact Calls.mono h (λe JH ⟨u,he,hu⟩=>by subst he;exact hn _ _ hu)
 |halt x w'=>simp at h
def aK(X:bq)(o:Oper)(st:St)(post:V->St->Prop):Prop:=
 ∀a σ FC,bb X σ FC st a->bS X.P o a.eval σ.w λu w'=>∃v FM FO F7,post v FM/\FO.w=w'/\bb X FO F7 FM a/\RV FO F7 v u
def ea(ops:Array Oper)(o:Oper)(st:St):Option Bool:=
 match o.guard with
 |none=>some true
 |some (j,want)=>match(ops[j]?).bind (·.dst)with
  |some g=>match get st.sl g with
   |some (.m (.d (.bool b)))=>some (b==want)
   |some (.m (.bz []))=>some false
   |_=>none
  |none=>none
theorem aX{α:Type}(k t:Nat)(v:α)(l:List (Nat×α)):get ((k,v)::l) t=if k=t then some v else get l t:=by
 show(bif Nat.beq k t then some v else get l t)=_;by_cases h:k=t
 ·subst h;simp
 ·have:Nat.beq k t=false:=by rw[<-Bool.not_eq_true];intro e;exact h (Nat.eq_of_beq_eq_true e)
  rw[this,if_neg h];rfl
theorem bb.set{X:bq}{σ:Sg}{FC:Nat->Nat}{sl:List (Nat×V)}{bx:List (Nat×List M)}{H:Hp}{a:Act}{d:Nat}{v:V}{u:Value}
  (h:bb X σ FC ⟨sl,bx,H⟩ a) (hd:d<X.n) (hv:RV σ FC v u):bb X σ FC ⟨(d,v)::sl,bx,H⟩ (a.put (some d) u):=by
 refine⟨h.hH,h.defers,?_,?_,h.box,h.jC,h.j5,h.j6,h.hinv,h.mono,h.be⟩
 ·simp[Act.put,h.size]
 ·intro t x hx;simp only[aX]at hx;by_cases e:d=t
  ·subst e;simp at hx;subst hx;refine⟨u,?_,hv⟩;simp[Act.put,h.size,hd]
  ·rw[if_neg e]at hx;obtain⟨u',h1,h2⟩:=h.slot t x hx;refine⟨u',?_,h2⟩;simp[Act.put,Array.getElem?_setIfInBounds_ne e,h1]
theorem bb.wanted{X:bq}{σ:Sg}{FC:Nat->Nat}{st:St}{a:Act}(h:bb X σ FC st a){ops:Array Oper}{o:Oper}{b:Bool}
  (hw:ea ops o st=some b):Region.wanted o (yielded ops a.tmps)=b:=by
 unfold ea at hw;unfold Region.wanted;split at hw
 ·rename_i hg;simp only[hg];injection hw with e
 ·rename_i j want hg;simp only[hg];split at hw
  ·rename_i g Px;split at hw
   ·rename_i b' hb;obtain⟨u,h1,h2⟩:=h.slot _ _ hb;cases h2 with
    |m h3=>cases h3 with
     |d h4=>cases h4 with
      |bool b'=>
       injection hw with e
       subst e;simp only[yielded,Px,Option.bind_some,h1];cases b'<;>cases want<;>rfl
   ·rename_i hb;obtain⟨u,h1,h2⟩:=h.slot _ _ hb;cases h2 with
    |m h3=>cases h3 with
     |bz cs vs hl hh=>
      injection hw with e
      subst e;simp only[yielded,Px,Option.bind_some,h1];cases want<;>rfl
   ·cases hw
  ·cases hw
theorem aQ{a b:Nat}(h:Nat.blt a b=true):a<b:=by rw[Nat.blt_eq]at h;exact h
theorem TL.op{X:bq}{ops:Array Oper}{o:Oper}{rest:List Oper}{st:St}{post:St->Prop}{HW:V->St->Prop}{d:Nat}
  (hw:ea ops o st=some true) (hd:o.dst=some d) (hn:Nat.blt d X.n=true) (h:aK X o st HW)
  (k:∀v s,HW v s->TL X ops rest ⟨(d,v)::s.sl,s.bx,s.H⟩ post):TL X ops (o::rest) st post:=by
 rintro a w ⟨σ,FC,rfl,hi⟩;unfold wpList;rw[if_pos (hi.wanted hw)];refine .inl ((h a σ FC hi).wp ?_);rintro u w' ⟨v,s,FO,F7,h1,h2,h3,h4⟩;rw[hd];exact k v s h1 _ _ ⟨FO,F7,h2,h3.set (aQ hn) h4⟩
theorem TL.E2{X:bq}{ops:Array Oper}{o:Oper}{rest:List Oper}{st:St}{post:St->Prop}{HW:V->St->Prop}
  (hw:ea ops o st=some true) (hd:o.dst=none) (h:aK X o st HW)
  (k:∀v s,HW v s->TL X ops rest s post):TL X ops (o::rest) st post:=by
 rintro a w ⟨σ,FC,rfl,hi⟩;unfold wpList;rw[if_pos (hi.wanted hw)];refine .inl ((h a σ FC hi).wp ?_);rintro u w' ⟨v,s,FO,F7,h1,h2,h3,h4⟩;rw[hd];exact k v s h1 _ _ ⟨FO,F7,h2,h3⟩
theorem TL.skip{X:bq}{ops:Array Oper}{o:Oper}{rest:List Oper}{st:St}{post:St->Prop}{d:Nat}
  (hw:ea ops o st=some false) (hd:o.dst=some d) (hn:Nat.blt d X.n=true)
  (k:TL X ops rest ⟨(d,.m (.bz []))::st.sl,st.bx,st.H⟩ post):TL X ops (o::rest) st post:=by
 intro a w ⟨σ,FC,Ki,hi⟩;unfold wpList;rw[if_neg (by rw[hi.wanted hw];simp)];rw[hd];exact k _ _ ⟨σ,FC,Ki,hi.set (aQ hn) (.m (.bz [] #[] rfl (by intro i m v h;simp at h)))⟩
theorem TL.nil{X:bq}{ops:Array Oper}{st:St}{post:St->Prop}(h:post st):TL X ops [] st post:=
 λa w hi=>⟨rfl,st,h,hi⟩
def bt(v:V)(st:St):V->St->Prop:= λv' s'=>v'=v/\s'=st
theorem TL.E3{X:bq}{ops:Array Oper}{o:Oper}{rest:List Oper}{st:St}{post:St->Prop}{v:V}{s:St}{d:Nat}
  (hw:ea ops o st=some true) (hd:o.dst=some d) (hn:Nat.blt d X.n=true) (h:aK X o st (bt v s))
  (k:TL X ops rest ⟨(d,v)::s.sl,s.bx,s.H⟩ post):TL X ops (o::rest) st post:=
 TL.op hw hd hn h λv' s' ⟨h1,h2⟩=>by subst h1;subst h2;exact k
theorem TL.zm{X:bq}{ops:Array Oper}{o:Oper}{rest:List Oper}{st:St}{post:St->Prop}{v:V}{s:St}
  (hw:ea ops o st=some true) (hd:o.dst=none) (h:aK X o st (bt v s))
  (k:TL X ops rest s post):TL X ops (o::rest) st post:=
 TL.E2 hw hd h λv' s' ⟨h1,h2⟩=>by subst h1;subst h2;exact k
theorem aK.quiet{X:bq}{o:Oper}{st:St}{v:V}(h:∀a σ FC,bb X σ FC st a->∃u,(execOp a.eval o).run X.P σ.w=.ok (.value u) σ.w/\RV σ FC v u):
  aK X o st (bt v st):=by
 intro a σ FC hi;obtain⟨u,h1,h2⟩:=h a σ FC hi;exact bS.value h1 ⟨v,st,σ,FC,⟨rfl,rfl⟩,rfl,hi,h2⟩
theorem oF{O:Nat->Nat->Prop}{w:World}{v:Value}{d:D}(h:kz v=some d):dI O w d v:=by
 unfold kz at h;split at h<;>first
  |(injection h with h;subst h;constructor)
  |cases h
theorem nc{O:Nat->Nat->Prop}{w:World} :∀{vs:List Value} {ds:List D},gI vs=some ds->
  vs.length=ds.length/\∀(i:Nat) d v,ds[i]?=some d->vs[i]?=some v->dI O w d v
 |[],ds,h=>by simp[gI]at h;subst h;simp
 |v::r,ds,h=>by
  simp only[gI]at h;split at h
  ·rename_i d I4 h1 h2;injection h with h;subst h
   obtain⟨h3,h4⟩:=nc (O:=O) (w:=w) h2;refine⟨by simp[h3],λi d' v' hd hv=>?_⟩;cases i with
   |zero=>simp at hd hv;subst hd;subst hv;exact oF h1
   |succ i=>simp at hd hv;exact h4 i d' v' hd hv
  ·cases h
theorem tT{v:Value}{d:D}(h:kz v=some d):flat v=true:=by
 unfold kz at h;split at h<;>first|rfl|cases h
theorem lN:∀{vs:List Value} {ds:List D},gI vs=some ds->∀(i:Nat) (v:Value),vs[i]?=some v->flat v=true
 |[],ds,h,i,v,hv=>by simp at hv
 |x::r,ds,h,i,v,hv=>by
  simp only[gI]at h;split at h
  ·rename_i d I4 h1 h2;cases i with
   |zero=>simp at hv;subst hv;exact tT h1
   |succ i=>simp at hv;exact lN h2 i v hv
  ·cases h
theorem bW{O:Nat->Nat->Prop}{w:World}{v:Value}{d:D}(h:jZ v=some d):dI O w d v:=by
 unfold jZ at h;split at h
 ·rename_i cs;cases hc:gI cs.toList with
  |none=>simp[hc]at h
  |some ds=>
   simp[hc]at h;subst h;obtain⟨h3,h4⟩:=nc (O:=O) (w:=w) hc;exact .agg ds cs (by simpa using h3) (λi v hv=>lN hc i v (by simpa using hv)) (λi d v hd hv=>h4 i d v hd (by simpa using hv))
 ·exact oF h
theorem bb.ev{X:bq}{σ:Sg}{FC:Nat->Nat}{st:St}{a:Act}(h:bb X σ FC st a){x:Operand}{v:V}(hx:st.ev x=some v):
  RV σ FC v (a.eval x):=by
 cases x with
 |tmp t=>
  obtain⟨u,h1,h2⟩:=h.slot t v hx;have:a.eval (.tmp t)=u:=by simp[Act.eval,h1]
  rw[this];exact h2
 |const c=>
  simp only[St.ev,ba]at hx;cases hc:jZ c with
  |none=>simp[hc]at hx
  |some d=>simp[hc]at hx;subst hx;exact .m (.d (bW hc))
 |func f=>
  simp only[St.ev,ba]at hx;injection hx with hx;subst hx
  exact .m (.d (.fn f [] #[] rfl (by simp)))
 |global g=>simp[St.ev,ba]at hx
section ops
variable{X:bq}{st:St}{dst:Option Nat}{ty:Nat}{pos:String}{af:Array Edge}{g:Option (Nat×Bool)}
theorem rZ{x:Operand}{v:V}(hx:st.ev x=some v):aK X ⟨dst,.move x,ty,pos,af,g⟩ st (bt v st):=
 aK.quiet λa σ FC hi=>⟨_,by simp[execOp],hi.ev hx⟩
theorem nk{x:Operand}{v:V}(hx:st.ev x=some v):aK X ⟨dst,.assign x,ty,pos,af,g⟩ st (bt v st):=
 aK.quiet λa σ FC hi=>⟨_,by simp[execOp],hi.ev hx⟩
theorem bb.ia{σ:Sg}{FC:Nat->Nat}{a:Act}(h:bb X σ FC st a){x:Operand}{d:D}(hx:st.ev x=some (.m (.d d))):
  dI σ.O σ.w d (a.eval x):=by
 have:=h.ev hx;cases this with
 |m h=>cases h with
  |d h=>exact h
theorem bb.j7{σ:Sg}{FC:Nat->Nat}{a:Act}(h:bb X σ FC st a){x:Operand}{b:Bool}(hx:st.ev x=some (.m (.d (.bool b)))):
  a.eval x=.bool b:=by
 have:=h.ia hx;generalize a.eval x=u at*;cases this;rfl
theorem bb.cC{σ:Sg}{FC:Nat->Nat}{a:Act}(h:bb X σ FC st a){x:Operand}{k:IntKind}{n:Int}(hx:st.ev x=some (.m (.d (.int k n)))):
  a.eval x=.int k n:=by
 have:=h.ia hx;generalize a.eval x=u at*;cases this;rfl
theorem bb.gB{σ:Sg}{FC:Nat->Nat}{a:Act}(h:bb X σ FC st a){x:Operand}{s:ByteArray}(hx:st.ev x=some (.m (.d (.str s)))):
  a.eval x=.string s:=by
 have:=h.ia hx;generalize a.eval x=u at*;cases this;rfl
theorem nq{c x y:Operand}{v:V}(hc:st.ev c=some (.m (.d (.bool true))))(hx:st.ev x=some v):
  aK X ⟨dst,.pick c x y,ty,pos,af,g⟩ st (bt v st):=
 aK.quiet λa σ FC hi=>⟨_,by simp[execOp,hi.j7 hc,asBool],hi.ev hx⟩
theorem nr{c x y:Operand}{v:V}(hc:st.ev c=some (.m (.d (.bool false))))(hx:st.ev y=some v):
  aK X ⟨dst,.pick c x y,ty,pos,af,g⟩ st (bt v st):=
 aK.quiet λa σ FC hi=>⟨_,by simp[execOp,hi.j7 hc,asBool],hi.ev hx⟩
def iK:BinOp->IntKind->Int->Int->Option D
 |.add,k,a,b=>some (.int k (k.wrap (a+b)))
 |.sub,k,a,b=>some (.int k (k.wrap (a-b)))
 |.mul,k,a,b=>some (.int k (k.wrap (a*b)))
 |.eql,_,a,b=>some (.bool (a==b))
 |.neq,_,a,b=>some (.bool (a !=b))
 |.lss,_,a,b=>some (.bool (decide (a<b)))
 |.leq,_,a,b=>some (.bool (decide (a<=b)))
 |.gtr,_,a,b=>some (.bool (decide (a>b)))
 |.geq,_,a,b=>some (.bool (decide (a>=b)))
 |_,_,_,_=>none
theorem vk{op:BinOp}{xt yt:Nat}{x y:Operand}{k:IntKind}{m n:Int}{r:D}(hx:st.ev x=some (.m (.d (.int k m))))(hy:st.ev y=some (.m (.d (.int k n))))
  (hr:iK op k m n=some r):aK X ⟨dst,.binOp op xt x y yt,ty,pos,af,g⟩ st (bt (.m (.d r)) st):=by
 refine aK.quiet λa σ FC hi=>?_
 have h1:=hi.cC hx;have h2:=hi.cC hy;cases op<;>simp only[iK]at hr<;>first|(injection hr with hr;subst hr;refine⟨_,by simp[execOp,h1,h2,eqGuard,binOp,Op.intArith,Op.intCmp];rfl,?_⟩;exact .m (.d (by constructor)))|cases hr
theorem CK{xt yt:Nat}{x y:Operand}{k:IntKind}{m n:Int}(hx:st.ev x=some (.m (.d (.int k m))))(hy:st.ev y=some (.m (.d (.int k n))))
  (hn:(n==0)=false):aK X ⟨dst,.binOp .quo xt x y yt,ty,pos,af,g⟩ st (bt (.m (.d (.int k (k.wrap (m.tdiv n))))) st):=by
 refine aK.quiet λa σ FC hi=>?_
 have h1:=hi.cC hx;have h2:=hi.cC hy;have h3:¬n=0:=by simpa using hn
 exact⟨_,by simp[execOp,h1,h2,eqGuard,binOp,Op.intDiv,h3];rfl,.m (.d (by constructor))⟩
theorem zo{xt yt:Nat}{x y:Operand}{k:IntKind}{m n:Int}(hx:st.ev x=some (.m (.d (.int k m))))(hy:st.ev y=some (.m (.d (.int k n))))
  (hn:(n==0)=false):aK X ⟨dst,.binOp .rem xt x y yt,ty,pos,af,g⟩ st (bt (.m (.d (.int k (m.tmod n)))) st):=by
 refine aK.quiet λa σ FC hi=>?_
 have h1:=hi.cC hx;have h2:=hi.cC hy;have h3:¬n=0:=by simpa using hn
 exact⟨_,by simp[execOp,h1,h2,eqGuard,binOp,Op.intDiv,h3];rfl,.m (.d (by constructor))⟩
theorem vl{x:Operand}{xt:Nat}{b:Bool}(hx:st.ev x=some (.m (.d (.bool b)))):aK X ⟨dst,.unOp .not xt x,ty,pos,af,g⟩ st (bt (.m (.d (.bool (!b)))) st):=by
 refine aK.quiet λa σ FC hi=>?_
 have h1:=hi.j7 hx;exact⟨_,by simp[execOp,h1,Op.unary];rfl,.m (.d (by constructor))⟩
theorem CL{x:Operand}{xt:Nat}{k:IntKind}{n:Int}(hx:st.ev x=some (.m (.d (.int k n)))):aK X ⟨dst,.unOp .neg xt x,ty,pos,af,g⟩ st (bt (.m (.d (.int k (k.wrap (-n))))) st):=by
 refine aK.quiet λa σ FC hi=>?_
 have h1:=hi.cC hx;exact⟨_,by simp[execOp,h1,Op.unary,Op.intArith];rfl,.m (.d (by constructor))⟩
theorem lO(a b:ByteArray):(a.toList==b.toList)=decide (a=b):=by
 rw[Bool.eq_iff_iff];simp;constructor
 ·intro h;have:a.data.toList=b.data.toList:=by
   rw[ByteArray.toList_eq,ByteArray.toList_eq]at h;exact h
  cases a;cases b;simp at this;simp[this]
 ·rintro rfl;rfl
end ops
structure dq(w w':World):Prop where
 os:w'.os=w.os
 output:w'.output=w.output
 tape:w'.tape=w.tape
 size:w.heap.size<=w'.heap.size
 be:∀b,b<w.heap.size->w'.heap[b]?=w.heap[b]?
theorem dq.alloc(w:World)(o:Obj):dq w {w with heap:=w.heap.push o} :=
 ⟨rfl,rfl,rfl,by simp,λb hb=>by simp[Array.getElem?_push];omega⟩
theorem dq.drew(w:World):dq w {w with drawn:=w.drawn+1} :=⟨rfl,rfl,rfl,Nat.le_refl _,λ_ _=>rfl⟩
theorem cZ{w:World}{b:Nat}{x:Obj}(h:w.heap[b]?=some x):b<w.heap.size:=by
 rcases Nat.lt_or_ge b w.heap.size with h'|h'
 ·exact h'
 ·simp[Array.getElem?_eq_none h']at h
theorem gS{w:World}{b o:Nat}{v:Value}(h:cB w b o=some v):b<w.heap.size:=by
 unfold cB World.cell? at h;cases hb:w.heap[b]? with
 |none=>simp[hb]at h
 |some x=>exact cZ hb
theorem iL{w w':World}{b o:Nat}(h:w'.heap[b]?=w.heap[b]?):cB w' b o=cB w b o:=by
 unfold cB World.cell?;rw[h]
theorem dq.cell{w w':World}(h:dq w w'){b o:Nat}{v:Value}(hc:cB w b o=some v):cB w' b o=some v:=by
 rw[iL (h.be b (gS hc))];exact hc
theorem dq.heap{w w':World}(h:dq w w'){b:Nat}{x:Obj}(hc:w.heap[b]?=some x):w'.heap[b]?=some x:=by
 rw[h.be b (cZ hc)];exact hc
theorem bO.ext{σ:Sg}{w':World}(h:dq σ.w w'):bO σ {σ with w:=w'} :=
 ⟨λb o v h1 h2=>⟨h.cell h1,h2⟩,λi cs h1=>⟨⟨cs,h1⟩,rfl⟩,λi cs h1=>⟨⟨cs,h1⟩,rfl⟩,λi cs h1=>⟨⟨cs,h1⟩,rfl⟩,λi h1=>h1,
 λi acc ec FD cs h1=>.inr ⟨acc,FD,cs,h1,Nat.le_refl _,λ_=>⟨rfl,rfl,λarr T ha=>⟨arr,h.heap ha,rfl⟩⟩⟩,λ_ h=>⟨_,h⟩⟩
theorem eE.dR{σ τ:Sg}(hm:bO σ τ){b:Nat}{ob:Ob}(hb:∀x,σ.w.heap[b]?=some x->τ.w.heap[b]?=some x)(h:eE σ b ob):eE τ b ob:=by
 cases ob with
 |box cs=>obtain⟨arr,T,h1,h2⟩:=h;exact⟨arr,T,hb _ h1,h2.mono hm⟩
 |row acc ec FD cs=>obtain⟨h0,arr,T,cap,n,h1,h2,h3,h4,h5⟩:=h;exact⟨h0,arr,T,cap,n,hb _ h1,h2,h3,h4,λi m v a b=>⟨(h5 i m v a b).1.mono hm,(h5 i m v a b).2⟩⟩
 |map es=>obtain⟨FT,Gr,e,c,h1,h2,h3,h4⟩:=h;exact⟨FT,Gr,e,c,hb _ h1,h2,λi e u a b=>(h3 i e u a b).up λv hv=>hv.mono hm,h4⟩
 |iter x=>
  rcases h with⟨om,s,se,l,h1,h2⟩|⟨m,T,h1,h2⟩
  ·exact .inl ⟨om,s,se,l,hb _ h1,h2.imp (λh=>⟨h.1,h.2.mono hm⟩) λh=>⟨h.1.mono hm,h.2⟩⟩
  ·exact .inr ⟨m,T,hb _ h1,h2.mono hm⟩
 |dead=>trivial
 |free=>trivial
theorem cY.ext{σ:Sg}{Oo:Nat->Nat->Prop}{w':World}(hi:cY σ Oo)(h:dq σ.w w'):cY {σ with w:=w'} Oo:=
 ⟨λi ob h1=>(hi.obj i ob h1).dR (bO.ext h) (λx hx=>h.heap hx),hi.inj,hi.own,hi.sep,λb o hb=>Nat.lt_of_lt_of_le (hi.fj b o hb) h.size⟩
theorem bJ.ext{σ:Sg}{w':World}(h:dq σ.w w'):bJ σ {σ with w:=w'} :=
 ⟨h.os,h.output,h.tape,h.size,λb hb _=>h.be b hb,λi ob h1 h2=>.inr ⟨ob,h1,h2,rfl⟩⟩
theorem bb.ext{X:bq}{σ:Sg}{FC:Nat->Nat}{st:St}{a:Act}{w':World}(hi:bb X σ FC st a)(h:dq σ.w w'):
  bb X {σ with w:=w'} FC st a:=
 ⟨hi.hH,hi.defers,hi.size,λt v h1=>let⟨u,h2,h3⟩:=hi.slot t v h1;⟨u,h2,h3.mono (bO.ext h)⟩,
 λt cs h1=>(hi.box t cs h1).dR (bO.ext h) (λx hx=>h.heap hx),hi.jC,hi.j5,hi.j6,hi.hinv.ext h,
 hi.mono.trans (bO.ext h),hi.be.trans (bJ.ext h)⟩
theorem aK.grow{X:bq}{o:Oper}{st:St}{v:V}(h:∀a σ FC,bb X σ FC st a->∃u w',(execOp a.eval o).run X.P σ.w=.ok (.value u) w'/\dq σ.w w'/\RV {σ with w:=w'} FC v u):
  aK X o st (bt v st):=by
 intro a σ FC hi;obtain⟨u,w',h1,h2,h3⟩:=h a σ FC hi;exact bS.value h1 ⟨v,st,{σ with w:=w'},FC,⟨rfl,rfl⟩,rfl,hi.ext h2,h3⟩
def wy(O:Nat->Nat->Prop)(w:World)(ds:List D)(vs:Array Value):Prop:=
 vs.size=ds.length/\∀(i:Nat) (d:D) (v:Value),ds[i]?=some d->vs[i]?=some v->dI O w d v
def DD(O:Nat->Nat->Prop)(w:World)(ds:List D)(vs:Array Value):Prop:=
 vs.size=ds.length/\∀(i:Nat) (d:D) (v:Value),ds[i]?=some d->vs[i]?=some v->dI O w d v/\flat v=true
theorem dI.cells{O:Nat->Nat->Prop}{w:World}{d:D}{v:Value}(h:dI O w d v):DD O w (aN d) v.cells:=by
 cases h with
 |agg cs vs hl hf h=>exact⟨hl,λi d v h1 h2=>⟨h i d v h1 h2,hf i v h2⟩⟩
 |_=>
  refine⟨rfl,λi d' v' h1 h2=>?_⟩;cases i with
  |zero=>simp[aN,Value.cells]at h1 h2;subst h1;subst h2;exact⟨by constructor<;>assumption,rfl⟩
  |succ i=>simp[aN]at h1
def M.lP:M->Bool
 |.undef=>false
 |.bz _=>false
 |_=>true
theorem RM.cells{σ:Sg}{m:M}{v:Value}(h:RM σ m v)(hu:m.lP=true):eN σ (cellsOf m) v.cells:=by
 have one:∀(m:M) (v:Value),RM σ m v->flat v=true->eN σ [m] #[v]:=by
  intro m v h hf;refine⟨rfl,λi m' v' h1 h2=>?_⟩;cases i with
  |zero=>simp at h1 h2;subst h1;subst h2;exact⟨h,hf⟩
  |succ i=>simp at h1
 cases h with
 |d h=>
  have hc:=h.cells;refine⟨by simp[cellsOf,hc.1],λi m v h1 h2=>?_⟩;simp only[cellsOf,List.getElem?_map,Option.map_eq_some_iff]at h1;obtain⟨d,hd,rfl⟩:=h1;exact⟨.d (hc.2 i d v hd h2).1,(hc.2 i d v hd h2).2⟩
 |agg cs vs hl hf h=>exact⟨hl,λi d v h1 h2=>⟨h i d v h1 h2,hf i v h2⟩⟩
 |ref i off cs h=>exact one _ _ (.ref i off cs h) rfl
 |bB i FD len a cap h1 h2=>exact one _ _ (.bB i FD len a cap h1 h2) rfl
 |bG i FD off b h1 h2=>exact one _ _ (.bG i FD off b h1 h2) rfl
 |mp i es h=>exact one _ _ (.mp i es h) rfl
 |it i x h=>exact one _ _ (.it i x h) rfl
 |fn f cs vs FJ hl h=>exact one _ _ (.fn f cs vs FJ hl h) rfl
 |pC f g cs vs hg hl h=>exact one _ _ (.pC f g cs vs hg hl h) rfl
 |bz cs vs hl h=>simp[M.lP]at hu
 |undef v=>simp[M.lP]at hu
theorem r6(w:World)(arr:Array Value)(T:Nat)(fz:Nat×Nat)(i:Nat):cB {w with heap:=w.heap.push (.cells arr T fz)} w.heap.size i=arr[i]?:=by
 simp[cB,World.cell?]
theorem dI.CM{O:Nat->Nat->Prop}{w:World}{ds:List D}{arr:Array Value}{T:Nat}(hO:∀b o,O b o->b<w.heap.size)(h:DD O w ds arr):
  dI O {w with heap:=w.heap.push (.cells arr T (0,0))} (.bM ds 0) (.pointer (some ⟨w.heap.size,0,none⟩)):=by
 refine dI.bM ds 0 w.heap.size 0 (λi=>arr.getD i undef) ?_ ?_ ?_
 ·intro i hi;refine⟨?_,λhh=>by have:=hO _ _ hh;omega⟩;rw[Nat.zero_add,r6];have:i<arr.size:=by rw[h.1];exact hi
  simp[this]
 ·intro i hi;have h2:i<arr.size:=by rw[h.1];exact hi
  have h3:arr[i]?=some (arr.getD i undef):=by simp[h2]
  exact(h.2 i ds[i] _ (by simp[hi]) h3).2
 ·intro i d hd;have hi:i<arr.size:=by rw[h.1];rcases Nat.lt_or_ge i ds.length with h|h;exact h;simp[List.getElem?_eq_none h]at hd
  have:=(h.2 i d (arr.getD i undef) hd (by simp[hi])).1;exact this.mono λb o v h1 h2=>⟨(dq.alloc w _).cell h1,h2⟩
section ops
variable{X:bq}{st:St}{dst:Option Nat}{ty:Nat}{pos:String}{af:Array Edge}{g:Option (Nat×Bool)}
theorem zp{t:Nat}{x:Operand}{d:D}(hx:st.ev x=some (.m (.d d))):
  aK X ⟨dst,.box t x,ty,pos,af,g⟩ st (bt (.m (.d (.bM (aN d) 0))) st):=by
 refine aK.grow λa σ FC hi=>?_
 have h:=(hi.ia hx).cells;exact⟨_,_,by simp[execOp,Instr.box,newVar,newRow,newObj,Sem.run];rfl,dq.alloc _ _,.m (.d (dI.CM hi.hinv.wx h))⟩
class cL(P:Program)(t:Nat)(n:outParam Nat):Prop where
 agg:pB P t=some true
 size:cz P t=some n
class bh(P:Program)(t:Nat)(n:outParam Nat):Prop where
 size:cz P t=some n
class dt(P:Program)(t:Nat)(z:outParam D):Prop where
 zero:fC P t=some z
class cj(P:Program)(t:Nat):Prop where
 cell:pB P t=some false
theorem cj.run{P:Program}{t:Nat}(h:cj P t)(w:World):(isAgg t).run P w=.ok false w:=by
 have:=h.cell;unfold pB at this;unfold isAgg underlying;simp[program,Sem.run];cases hu:P.underlying t with
 |none=>simp[hu]at this
 |some d=>cases d<;>simp_all
theorem cL.run{P:Program}{t n:Nat}(h:cL P t n)(w:World):(isAgg t).run P w=.ok true w:=by
 have:=h.agg;unfold pB at this;unfold isAgg underlying;simp[program,Sem.run];cases hu:P.underlying t with
 |none=>simp[hu]at this
 |some d=>cases d<;>simp_all
theorem bF{P:Program}{t n:Nat}(h:cz P t=some n)(w:World):(sizeOf t).run P w=.ok n w:=by
 unfold cz at h;unfold sizeOf typeInfo;simp[program,Sem.run];cases hu:P.info? t with
 |none=>simp[hu]at h
 |some d=>simp[hu]at h;simp[h]
theorem fR(b o n:Nat):(⟨b,o,none⟩:Addr).add n=⟨b,o+n,none⟩:=by
 unfold Addr.add;split
 ·rename_i h;subst h;rfl
 ·rfl
theorem r7{P:Program}{w:World}{b o:Nat}{v:Value}(h:cB w b o=some v):(load ⟨b,o,none⟩).run P w=.ok v w:=by
 unfold cB at h;simp[h]
theorem fI{P:Program}{w:World}{b o:Nat}{vs:Array Value} :∀(n i:Nat) (acc:Array Value),i+n=vs.size->acc=vs.extract 0 i->
  (∀j,j<vs.size->cB w b (o+j)=some (vs.getD j undef))->(loadCellsFrom ⟨b,o,none⟩ i n acc).run P w=.ok vs w
 |0,i,acc,hi,ha,_=>by
  have:i=vs.size:=by omega
  subst this;simp[loadCellsFrom,ha]
 |n+1,i,acc,hi,ha,hc=>by
  have FJ:i<vs.size:=by omega
  rw[loadCellsFrom];simp only[fR,Sem.run_bind,r7 (hc i FJ),Result.andThen_ok];refine fI n (i+1) _ (by omega) ?_ hc;rw[ha];apply Array.ext_getElem?;intro k;simp[Array.getElem?_push,Array.getElem?_extract];have:i<=vs.size:=by omega
  rcases Nat.lt_trichotomy k i with h|h|h
  ·have h1:k<min i vs.size:=by omega
   have h2:¬k=min i vs.size:=by omega
   have h3:k<min (i+1) vs.size:=by omega
   simp[h2,h1,h3]
  ·subst h;simp[Nat.min_eq_left this,FJ];omega
  ·have h2:¬k=min i vs.size:=by omega
   have h3:¬k<min (i+1) vs.size:=by omega
   have h4:¬k<min i vs.size:=by omega
   simp[h2,h3,h4]
theorem fZ{α:Type}(l:List α)(off n i:Nat)(hi:i<n):((l.drop off).take n)[i]?=l[off+i]?:=by
 rw[List.getElem?_take_of_lt hi,List.getElem?_drop]
theorem r8{P:Program}{O:Nat->Nat->Prop}{w:World}{t b o off:Nat}{cs:List D}{val:Nat->Value}{d:D}(hr:kW P t cs off=some d)
  (FW:∀i,i<cs.length->cB w b (o+i)=some (val i)/\¬O b (o+i)) (Gf:∀i,i<cs.length->flat (val i)=true) (Gx:∀i d,cs[i]?=some d->dI O w d (val i)):
  ∃u,(Instr.loadAt t (.pointer (some ⟨b,o+off,none⟩))).run P w=.ok u w/\dI O w d u:=by
 unfold kW at hr;split at hr
 ·rename_i n h1 h2;cases hb:Nat.ble (off+n) cs.length with
  |false=>simp[hb]at hr
  |true=>
   simp only[hb,cond_true,Option.some.injEq]at hr;subst hr;have hle:off+n<=cs.length:=Nat.le_of_ble_eq_true hb;have IE:cL P t n:=⟨h1,h2⟩
   let vs:Array Value:=((List.range n).map λi=>val (off+i)).toArray
   have Gd:vs.size=n:=by simp[vs]
   have hl:(loadCellsFrom ⟨b,o+off,none⟩ 0 n #[]).run P w=.ok vs w:=by
    refine fI n 0 _ (by omega) (by simp) ?_;intro j hj;rw[Gd]at hj;have:vs.getD j undef=val (off+j):=by simp[vs,hj]
    rw[this,Nat.add_assoc];exact(FW (off+j) (by omega)).1
   refine⟨.agg vs,?_,.agg _ vs ?_ ?_ ?_⟩
   ·simp[Instr.loadAt,Instr.sureAddr,loadVar,IE.run,bF h2,loadCells,hl]
   ·simp[Gd];omega
   ·intro i v hv;have hi:i<n:=by
     rcases Nat.lt_or_ge i n with h|h
     ·exact h
     ·simp[Array.getElem?_eq_none (show vs.size<=i by omega)]at hv
    have:v=val (off+i):=by simp[vs,hi]at hv;exact hv.symm
    subst this;exact Gf _ (by omega)
   ·intro i d v hd hv;have hi:i<n:=by
     rcases Nat.lt_or_ge i n with h|h
     ·exact h
     ·simp[Array.getElem?_eq_none (show vs.size<=i by omega)]at hv
    rw[fZ cs off n i hi]at hd;have:v=val (off+i):=by simp[vs,hi]at hv;exact hv.symm
    subst this;exact Gx _ _ hd
 ·rename_i h1;have IE:cj P t:=⟨h1⟩;have FJ:off<cs.length:=by
   rcases Nat.lt_or_ge off cs.length with h|h
   ·exact h
   ·simp[List.getElem?_eq_none h]at hr
  refine⟨val off,?_,Gx off d hr⟩;have hc:w.cell? ⟨b,o+off,none⟩=some (val off):=(FW off FJ).1;simp[Instr.loadAt,Instr.sureAddr,loadVar,IE.run,hc]
 ·cases hr
theorem mG{t:Nat}{x:Operand}{cs:List D}{off:Nat}{d:D}(hx:st.ev x=some (.m (.d (.bM cs off))))(hr:kW X.P t cs off=some d):
  aK X ⟨dst,.load t x,ty,pos,af,g⟩ st (bt (.m (.d d)) st):=by
 refine aK.quiet λa σ FC hi=>?_
 have h:=hi.ia hx;generalize hu:a.eval x=u at h;cases h with
 |bM cs off b o val FW Gf Gx=>
  obtain⟨u,h1,h2⟩:=r8 hr FW Gf Gx;exact⟨u,by simp[execOp,hu,h1],.m (.d h2)⟩
theorem r9{t:Nat}{x:Operand}{cs:List D}{off:Nat}{d:D}[ht:cj X.P t](hx:st.ev x=some (.m (.d (.bM cs off))))(hr:cs[off]?=some d):
  aK X ⟨dst,.load t x,ty,pos,af,g⟩ st (bt (.m (.d d)) st):=
 mG hx (by simp[kW,ht.cell,hr])
theorem r_{t n:Nat}{x:Operand}{cs:List D}[ht:cL X.P t n](hx:st.ev x=some (.m (.d (.bM cs 0))))(hr:cs.length=n):
  aK X ⟨dst,.load t x,ty,pos,af,g⟩ st (bt (.m (.d (.agg cs))) st):=by
 refine mG hx ?_;subst hr;simp only[kW,ht.agg,ht.size,Nat.zero_add];have:Nat.ble cs.length cs.length=true:=Nat.ble_eq_true_of_le (Nat.le_refl _);simp[this]
theorem sa{t n:Nat}{x:Operand}{cs ds:List D}{off:Nat}[ht:cL X.P t n](hx:st.ev x=some (.m (.d (.bM cs off))))(hb:Nat.ble (off+n) cs.length=true)(hr:(cs.drop off).take n=ds):
  aK X ⟨dst,.load t x,ty,pos,af,g⟩ st (bt (.m (.d (.agg ds))) st):=by
 refine mG hx ?_;simp[kW,ht.agg,ht.size,hb,hr]
class aI(P:Program)(s f:Nat)(off:outParam Nat):Prop where
 run:∀(b o:Nat) (w:World),(Instr.fieldAt s (.pointer (some ⟨b,o,none⟩)) f).run P w=.ok (.pointer (some ⟨b,o+off,none⟩)) w
def nt(P:Program)(s f off:Nat):Bool:=
 match P.underlying s with
 |some (.struct fields)=>match fields[f]? with
  |some fd=>match cz P fd.type with
   |some n=>n !=0&&fd.offset==off
   |none=>false
  |none=>false
 |_=>false
theorem aA{P:Program}{s f off:Nat}(h:nt P s f off=true):aI P s f off:=by
 constructor;intro b o w;unfold nt at h;split at h
 ·rename_i fields hf;split at h
  ·rename_i fd IU;split at h
   ·rename_i n hn;simp at h;simp[Instr.fieldAt,underlying,program,Sem.run,hf,IU,Instr.sureAddr,fieldPlace,bF hn,h.1,fR,h.2]
   ·cases h
  ·cases h
 ·cases h
theorem nu{s f:Nat}{x:Operand}{cs:List D}{off o:Nat}(hx:st.ev x=some (.m (.d (.bM cs off))))[hf:aI X.P s f o]:
  aK X ⟨dst,.fieldAddr s x f,ty,pos,af,g⟩ st (bt (.m (.d (.bM cs (off+o)))) st):=by
 refine aK.quiet λa σ FC hi=>?_
 have h:=hi.ia hx;generalize hu:a.eval x=u at h;cases h with
 |bM cs off b oo val FW Gf Gx=>
  refine⟨_,by simp only[execOp,hu];simp[hf.run];rfl,.m (.d ?_)⟩;rw[Nat.add_assoc];exact .bM cs (off+o) b oo val FW Gf Gx
theorem ny{s f:Nat}{x:Operand}{t off o:Nat}(hx:st.ev x=some (.loc t off))[hf:aI X.P s f o]:
  aK X ⟨dst,.fieldAddr s x f,ty,pos,af,g⟩ st (bt (.loc t (off+o)) st):=by
 refine aK.quiet λa σ FC hi=>?_
 have h:=hi.ev hx;generalize hu:a.eval x=u at h;cases h with
 |loc t off=>exact⟨_,by simp only[execOp,hu];simp[hf.run],.loc t (off+o)⟩
theorem nz{s f:Nat}{x:Operand}{i off o:Nat}(hx:st.ev x=some (.m (.ref i off)))[hf:aI X.P s f o]:
  aK X ⟨dst,.fieldAddr s x f,ty,pos,af,g⟩ st (bt (.m (.ref i (off+o))) st):=by
 refine aK.quiet λa σ FC hi=>?_
 have h:=hi.ev hx;generalize hu:a.eval x=u at h;cases h with
 |m h=>cases h with
  |ref i off cs hh=>exact⟨_,by simp only[execOp,hu];simp[hf.run],.m (.ref i (off+o) cs hh)⟩
theorem nD{s f:Nat}{x:Operand}{i FD off o:Nat}(hx:st.ev x=some (.m (.bG i FD off)))[hf:aI X.P s f o]:
  aK X ⟨dst,.fieldAddr s x f,ty,pos,af,g⟩ st (bt (.m (.bG i FD (off+o))) st):=by
 refine aK.quiet λa σ FC hi=>?_
 have h:=hi.ev hx;generalize hu:a.eval x=u at h;cases h with
 |m h=>cases h with
  |bG i FD off b h1 h2=>exact⟨_,by simp only[execOp,hu];simp[hf.run],.m (.bG i FD (off+o) b h1 h2)⟩
def nF:V->Bool
 |.m (.d (.bM _ _))=>true
 |.m (.ref _ _)=>true
 |.m (.bG _ _ _)=>true
 |.loc _ _=>true
 |.m (.d (.fn _ _))=>true
 |.m (.fn _ _)=>true
 |_=>false
theorem kX{x:Operand}{v:V}(hx:st.ev x=some v)(hv:nF v=true):
  aK X ⟨dst,.nilCheck x,ty,pos,af,g⟩ st (bt v st):=by
 refine aK.quiet λa σ FC hi=>?_
 have h:=hi.ev hx;refine⟨a.eval x,?_,h⟩;generalize hu:a.eval x=u at h;cases h with
 |loc t off=>simp[execOp,hu]
 |tl _ _ _ _ _ _ _ _=>simp[nF]at hv
 |m h=>cases h with
  |d h=>cases h<;>simp[nF]at hv<;>simp[execOp,hu]
  |_=>first|(simp[nF]at hv;done)|simp[execOp,hu]
def nG:D->Option Nat
 |.sl rows=>some rows.length
 |.lH=>some 0
 |_=>none
class aL(P:Program)(t:Nat)(e:outParam Nat):Prop where
 u:P.underlying t=some (.slice e)
class sd(P:Program)(t:Nat):Prop where
 u:P.underlying t=some .string
theorem sg{t e:Nat}{x:Operand}{d:D}{n:Nat}(hx:st.ev x=some (.m (.d d)))[ht:aL X.P t e](hn:nG d=some n):
  aK X ⟨dst,.call ⟨.builtin .len,#[x],#[t]⟩,ty,pos,af,g⟩ st (bt (.m (.d (.int .i64 n))) st):=by
 refine aK.quiet λa σ FC hi=>?_
 have h:=hi.ia hx;generalize hu:a.eval x=u at h;refine⟨.int .i64 n,?_,.m (.d (.int _ _))⟩;cases h<;>simp[nG]at hn<;>subst hn<;>simp[execOp,resolve,invoke,builtin,Builtin.len_,underlying,program,Sem.run,ht.u,hu,goInt]
theorem Bu{t:Nat}{x:Operand}{s:ByteArray}(hx:st.ev x=some (.m (.d (.str s))))[ht:sd X.P t]:
  aK X ⟨dst,.call ⟨.builtin .len,#[x],#[t]⟩,ty,pos,af,g⟩ st (bt (.m (.d (.int .i64 s.size))) st):=by
 refine aK.quiet λa σ FC hi=>?_
 have h:=hi.gB hx;exact⟨.int .i64 s.size,by simp[execOp,resolve,invoke,builtin,Builtin.len_,underlying,program,Sem.run,ht.u,h,goInt],.m (.d (.int _ _))⟩
theorem nH{t e n:Nat}{x y:Operand}{rows:List (List D)}{r:List D}{k:IntKind}{i:Int}(hx:st.ev x=some (.m (.d (.sl rows))))(hy:st.ev y=some (.m (.d (.int k i))))
  [ht:aL X.P t e] [hs:bh X.P e n] (h0:0<=i) (hr:rows[i.toNat]?=some r) (hn:r.length=n):
  aK X ⟨dst,.indexAddr t x y,ty,pos,af,g⟩ st (bt (.m (.d (.bM r 0))) st):=by
 refine aK.quiet λa σ FC hi=>?_
 have h:=hi.ia hx;have h2:=hi.cC hy;generalize hu:a.eval x=u at h;have FJ:i.toNat<rows.length:=by
  rcases Nat.lt_or_ge i.toNat rows.length with h|h
  ·exact h
  ·simp[List.getElem?_eq_none h]at hr
 cases h with
 |slnil a=>simp at FJ
 |sl rows b o cap ec val FV Gw FZ GB FW Gf Gx=>
  have G_:r∈rows:=List.mem_of_getElem? hr;have Mn:ec=n:=by rw[<-GB r G_];exact hn
  subst Mn;have hb:i<(rows.length:Int):=by omega
  refine⟨.pointer (some ⟨b,o+i.toNat*ec+0,none⟩),?_,.m (.d (.bM r 0 b (o+i.toNat*ec) (λj=>val i.toNat j) ?_ ?_ ?_))⟩
  ·simp[execOp,hu,h2,Instr.indexAt,asIntOf,underlying,program,Sem.run,ht.u,bF hs.size,h0,hb,fR]
  ·intro j hj;have:=FW i.toNat j FJ (by omega);simpa [Nat.add_assoc] using this
  ·intro j hj;exact Gf i.toNat j FJ (by omega)
  ·intro j d hd;exact Gx i.toNat j r d hr hd
theorem uv{x y:Operand}{xt yt:Nat}{s u:ByteArray}(hx:st.ev x=some (.m (.d (.str s))))(hy:st.ev y=some (.m (.d (.str u)))):
  aK X ⟨dst,.binOp .eql xt x y yt,ty,pos,af,g⟩ st (bt (.m (.d (.bool (decide (s=u))))) st):=by
 refine aK.quiet λa σ FC hi=>?_
 exact⟨_,by simp only[execOp,hi.gB hx,hi.gB hy,eqGuard,binOp,Op.stringOp,lO];simp,.m (.d (.bool _))⟩
theorem Al{x y:Operand}{xt yt:Nat}{s u:ByteArray}(hx:st.ev x=some (.m (.d (.str s))))(hy:st.ev y=some (.m (.d (.str u)))):
  aK X ⟨dst,.binOp .neq xt x y yt,ty,pos,af,g⟩ st (bt (.m (.d (.bool (!decide (s=u))))) st):=by
 refine aK.quiet λa σ FC hi=>?_
 exact⟨_,by simp only[execOp,hi.gB hx,hi.gB hy,eqGuard,binOp,Op.stringOp,lO];simp,.m (.d (.bool _))⟩
theorem nI{x y:Operand}{xt yt:Nat}{s u:ByteArray}(hx:st.ev x=some (.m (.d (.str s))))(hy:st.ev y=some (.m (.d (.str u))))(hs:s.size+u.size<=9223372036854775807):
  aK X ⟨dst,.binOp .add xt x y yt,ty,pos,af,g⟩ st (bt (.m (.d (.str (s++u)))) st):=by
 refine aK.quiet λa σ FC hi=>?_
 have:¬((s.size+u.size:Nat):Int)>IntKind.i64.max:=by
  have:IntKind.i64.max=9223372036854775807:=by decide
  omega
 exact⟨_,by simp only[execOp,hi.gB hx,hi.gB hy,eqGuard,binOp,Op.stringOp];simp only[if_neg this];simp,.m (.d (.str _))⟩
theorem lQ{x:Operand}{i:Nat}{vs:List M}{m:M}(hx:st.ev x=some (.m (.bz vs)))(hm:vs[i]?=some m):
  aK X ⟨dst,.extract x i,ty,pos,af,g⟩ st (bt (.m m) st):=by
 refine aK.quiet λa σ FC hi=>?_
 have h:=hi.ev hx;generalize hu:a.eval x=u at h;cases h with
 |m h=>cases h with
  |bz cs Py hl hh=>
   have FL:i<Py.size:=by
    rw[hl];rcases Nat.lt_or_ge i vs.length with h|h;exact h;simp[List.getElem?_eq_none h]at hm
   exact⟨Py[i],by simp[execOp,hu,Instr.extract,FL],.m (hh i m _ hm (by simp[FL]))⟩
end ops
theorem TC.cond{X:bq}{st:St}{post:Exit->St->Prop}{c:Operand}{x y:Code}{b:Bool}(hc:st.ev c=some (.m (.d (.bool b))))
  (ht:b=true->TC X x st post) (hf:b=false->TC X y st post):TC X (.cond c x y) st post:=by
 rintro a w ⟨σ,FC,rfl,hi⟩;refine wp_cond (hi.j7 hc) ?_;cases b
 ·exact hf rfl a _ ⟨σ,FC,rfl,hi⟩
 ·exact ht rfl a _ ⟨σ,FC,rfl,hi⟩
def fD:List M->M
 |[m]=>m
 |ms=>.bz ms
def CT(P:Program)(f:Nat)(ms:List M)(H:Hp)(post:M->Hp->Prop):Prop:=
 ∀(σ:Sg) (Oo:Nat->Nat->Prop) (vs:Array Value),cY σ Oo->σ.H=H->h_ σ ms vs->Calls P f vs σ.w λe w'=>∃v r FO,e=.returned v/\FO.w=w'/\post r FO.H/\cY FO Oo/\RM FO r v/\bO σ FO/\bJ σ FO
def PT(P:Program)(f:Nat)(ds:List D)(post:List D->Prop):Prop:=
 ∀(O:Nat->Nat->Prop) (w:World) (vs:Array Value),(∀b o,O b o->b<w.heap.size)->wy O w ds vs->Calls P f vs w λe w'=>∃v r,e=.returned v/\post r/\dq w w'/\RM ⟨w',O,λ_=>0,[]⟩ (fD (r.map .d)) v
theorem CT.mono{P:Program}{f:Nat}{ms:List M}{H:Hp}{post HW:M->Hp->Prop}(h:CT P f ms H post)(hp:∀r H',post r H'->HW r H'):CT P f ms H HW:=
 λσ Oo vs h1 h2 h3=>(h σ Oo vs h1 h2 h3).mono λe w' ⟨v,r,FO,a,b,c,d⟩=>⟨v,r,FO,a,b,hp _ _ c,d⟩
theorem RM.vm{σ τ:Sg}{ds:List D}{v:Value}(h:RM σ (fD (ds.map .d)) v)(hc:∀b o v,cB σ.w b o=some v->¬σ.O b o->cB τ.w b o=some v/\¬τ.O b o):
  RM τ (fD (ds.map .d)) v:=by
 match ds,h with
 |[],h=>cases h with
  |bz cs vs hl h=>exact .bz _ _ hl (by simp)
 |[x],h=>cases h with
  |d h=>exact .d (h.mono hc)
 |x1::x2::xs,h=>cases h with
  |bz cs vs hl hh=>
   refine .bz _ _ hl λi m v hm hv=>?_
   have h1:=hh i m v hm hv;have Ha:((x1::x2::xs).map M.d)[i]?=some m:=hm;simp only[List.getElem?_map,Option.map_eq_some_iff]at Ha;obtain⟨d,_,rfl⟩:=Ha;cases h1 with
   |d h1=>exact .d (h1.mono hc)
theorem PT.du{P:Program}{f:Nat}{ds:List D}{post:List D->Prop}(h:CT P f (ds.map .d) [] λr _=>∃d,r=fD (d.map .d)/\post d):PT P f ds post:=by
 intro O w vs hO hv
 let σ:Sg:=⟨w,O,λ_=>0,[]⟩
 have hinv:cY σ O:=⟨by simp[σ],by simp[σ],by simp[σ],by simp[σ],hO⟩;have Gk:h_ σ (ds.map .d) vs:=by
  refine⟨by simp[hv.1],λi m v h1 h2=>?_⟩;simp only[List.getElem?_map,Option.map_eq_some_iff]at h1;obtain⟨d,hd,rfl⟩:=h1;exact .d (hv.2 i d v hd h2)
 refine(h σ O vs hinv rfl Gk).mono ?_;rintro e w' ⟨v,r,FO,he,hw,⟨d,Rq,hp⟩,FL,hr,hm,hb⟩;subst Rq;subst hw;refine⟨v,d,he,hp,⟨hb.os,hb.output,hb.tape,hb.size,λb h1=>hb.be b h1 (by simp[σ])⟩,?_⟩;refine hr.vm ?_;exactλb o v h1 h2=>⟨h1,λh3=>h2 ((FL.own b o).2 (.inl h3))⟩
def ie(i:Nat):List M->List (Nat×V)
 |[]=>[]
 |m::r=>(i,.m m)::ie (i+1) r
theorem nJ:∀(ms:List M) (i t:Nat) (v:V),get (ie i ms) t=some v->i<=t/\∃m,ms[t-i]?=some m/\v=.m m
 |[],i,t,v,h=>by simp[ie,get]at h
 |m::r,i,t,v,h=>by
  simp only[ie,aX]at h;by_cases e:i=t
  ·subst e;simp at h;subst h;exact⟨Nat.le_refl _,m,by simp,rfl⟩
  ·rw[if_neg e]at h;obtain⟨h1,m',h2,h3⟩:=nJ r (i+1) t v h;refine⟨by omega,m',?_,h3⟩;have:t-i=(t-(i+1))+1:=by omega
   rw[this];simpa using h2
def rK(P:Program)(st:St):ResultVar->Option M
 |.tmp t=>match get st.sl t with
  |some (.m m)=>some m
  |_=>none
 |.cell t T=>match get st.sl t with
  |some (.loc u off)=>match get st.bx u with
   |some cs=>ch P T cs off
   |none=>none
  |some (.m (.d (.bM cs off)))=>(kW P T cs off).map .d
  |some (.m (.ref i off))=>match st.H[i]? with
   |some (.box cs)=>ch P T cs off
   |_=>none
  |_=>none
def j8(P:Program)(st:St):List ResultVar->Option (List M)
 |[]=>some []
 |r::rs=>match rK P st r,j8 P st rs with
  |some m,some ms=>some (m::ms)
  |_,_=>none
def kA(P:Program)(fn:Func)(st:St):Option M:=(j8 P st fn.results.toList).map fD
theorem nK:∀{cs:List M} {ds:List D},cT cs=some ds->cs=ds.map .d
 |[],ds,h=>by simp[cT]at h;subst h;rfl
 |m::r,ds,h=>by
  cases m<;>simp only[cT]at h<;>try (cases h;done)
  rename_i x;cases hr:cT r with
  |none=>simp[hr]at h
  |some I4=>simp[hr]at h;subst h;simp[nK hr]
theorem h_.cT{σ:Sg}{cs:List M}{ds:List D}{vs:Array Value}(h:h_ σ cs vs)(hd:cT cs=some ds):wy σ.O σ.w ds vs:=by
 have:=nK hd;subst this;refine⟨by simpa using h.1,λi d v h1 h2=>?_⟩;have:=h.2 i (.d d) v (by simp[h1]) h2;cases this with
 |d h=>exact h
theorem eN.flat{σ:Sg}{cs:List M}{vs:Array Value}(h:eN σ cs vs):∀(i:Nat) (v:Value),vs[i]?=some v->flat v=true:=by
 intro i v hv;have hi:i<cs.length:=by
  rw[<-h.1];rcases Nat.lt_or_ge i vs.size with h|h;exact h;simp[Array.getElem?_eq_none h]at hv
 exact(h.2 i cs[i] v (by simp[hi]) hv).2
theorem ig{P:Program}{σ:Sg}{t b off:Nat}{cs:List M}{arr:Array Value}{T:Nat}{fz:Nat×Nat}{m:M}(hr:ch P t cs off=some m)
  (hb:σ.w.heap[b]?=some (.cells arr T fz)) (Gd:cs.length<=arr.size) (h:∀(i:Nat) (m:M) (v:Value),cs[i]?=some m->arr[i]?=some v->RM σ m v/\flat v=true):
  ∃u,(loadVar t ⟨b,off,none⟩).run P σ.w=.ok u σ.w/\RM σ m u:=by
 have FW:∀i,i<arr.size->cB σ.w b i=some (arr.getD i undef):=by
  intro i hi;simp[cB,World.cell?,hb,hi]
 unfold ch at hr;split at hr
 ·rename_i n h1 h2;cases GW:Nat.ble (off+n) cs.length with
  |false=>simp[GW]at hr
  |true=>
   simp only[GW,cond_true,Option.some.injEq]at hr;subst hr;have hle:off+n<=cs.length:=Nat.le_of_ble_eq_true GW;have IE:cL P t n:=⟨h1,h2⟩;have NY:(arr.extract off (off+n)).size=n:=by simp;omega
   have hl:(loadCellsFrom ⟨b,off,none⟩ 0 n #[]).run P σ.w=.ok (arr.extract off (off+n)) σ.w:=by
    refine fI n 0 _ (by omega) (by simp) ?_;intro j hj;rw[NY]at hj;rw[FW _ (by omega)];have FJ:j<min (off+n) arr.size-off:=by omega
    have:off+j<arr.size:=by omega
    simp[FJ,this]
   have Gk:eN σ ((cs.drop off).take n) (arr.extract off (off+n)):=by
    refine⟨by rw[NY];simp;omega,λi m v hm hv=>?_⟩;have hi:i<n:=by
     rcases Nat.lt_or_ge i n with h|h
     ·exact h
     ·rw[Array.getElem?_eq_none (by omega)]at hv;cases hv
    rw[fZ cs off n i hi]at hm;refine h _ _ _ hm ?_;rw[Array.getElem?_extract]at hv;split at hv
    ·exact hv
    ·cases hv
   refine⟨.agg (arr.extract off (off+n)),by simp[loadVar,IE.run,bF h2,loadCells,hl],?_⟩;unfold pack;split
   ·rename_i ds hd;have SR:=Gk;have:=h_.cT ⟨Gk.1,λi m v a b=>(Gk.2 i m v a b).1⟩ hd;exact .d (.agg ds _ this.1 (Gk.flat) this.2)
   ·exact .agg _ _ Gk.1 Gk.flat (λi m v a b=>(Gk.2 i m v a b).1)
 ·rename_i h1;have IE:cj P t:=⟨h1⟩;have FJ:off<cs.length:=by
   rcases Nat.lt_or_ge off cs.length with h|h
   ·exact h
   ·simp[List.getElem?_eq_none h]at hr
  have hc:σ.w.cell? ⟨b,off,none⟩=some (arr.getD off undef):=FW off (by omega);refine⟨arr.getD off undef,by simp[loadVar,IE.run,hc],(h off m _ hr (by simp[show off<arr.size by omega])).1⟩
 ·cases hr
def kY(tmps:Array Value):ResultVar->Sem Value
 |.tmp t=>pure (tmps.getD t undef)
 |.cell a t=>do loadVar t (<-asAddr (tmps.getD a undef))
theorem wz{X:bq}{σ:Sg}{FC:Nat->Nat}{st:St}{a:Act}(hi:bb X σ FC st a){r:ResultVar}{m:M}(h:rK X.P st r=some m):
  ∃u,(kY a.tmps r).run X.P σ.w=.ok u σ.w/\RM σ m u:=by
 unfold rK at h;split at h
 ·rename_i t;split at h
  ·rename_i m' hg;injection h with h;subst h
   obtain⟨u,h1,h2⟩:=hi.slot t _ hg;cases h2 with
   |m h2=>exact⟨u,by simp[kY,h1],h2⟩
  ·cases h
 ·rename_i t T;split at h
  ·rename_i u off hg;split at h
   ·rename_i cs hb;obtain⟨x,h1,h2⟩:=hi.slot t _ hg;cases h2 with
    |loc u off=>
     obtain⟨arr,TT,h3,h4⟩:=hi.box u cs hb;obtain⟨v,h5,h6⟩:=ig h h3 (by rw[h4.1];exact Nat.le_refl _) h4.2;exact⟨v,by simp[kY,h1,asAddr,h5],h6⟩
   ·cases h
  ·rename_i cs off hg;obtain⟨x,h1,h2⟩:=hi.slot t _ hg;cases h2 with
   |m h2=>cases h2 with
    |d h2=>cases h2 with
     |bM cs off b o val FW Gf Gx=>
      cases hr:kW X.P T cs off with
      |none=>simp[hr]at h
      |some d=>
       simp[hr]at h;subst h;obtain⟨v,h5,h6⟩:=r8 hr FW Gf Gx;refine⟨v,?_,.d h6⟩;simp only[Instr.loadAt,Instr.sureAddr]at h5;simpa [kY,h1,asAddr] using h5
  ·rename_i i off hg;split at h
   ·rename_i cs hH;obtain⟨x,h1,h2⟩:=hi.slot t _ hg;cases h2 with
    |m h2=>cases h2 with
     |ref i off KX hh=>
      obtain⟨arr,TT,h3,h4⟩:=hi.hinv.obj i (.box cs) (by rw[hi.hH];exact hH);obtain⟨v,h5,h6⟩:=ig h h3 (by rw[h4.1];exact Nat.le_refl _) h4.2;exact⟨v,by simp[kY,h1,asAddr,h5],h6⟩
   ·cases h
  ·cases h
theorem qI{X:bq}{σ:Sg}{FC:Nat->Nat}{st:St}{a:Act}(hi:bb X σ FC st a):∀{rs:List ResultVar} {ms:List M},j8 X.P st rs=some ms->
  ∃us:List Value,(rs.mapM (kY a.tmps)).run X.P σ.w=.ok us σ.w/\h_ σ ms us.toArray
 |[],ms,h=>by simp[j8]at h;subst h;exact⟨[],by simp,rfl,by simp⟩
 |r::rs,ms,h=>by
  simp only[j8]at h;split at h
  ·rename_i m Jb h1 h2;injection h with h;subst h
   obtain⟨u,h3,h4⟩:=wz hi h1;obtain⟨us,h5,h6⟩:=qI hi h2;refine⟨u::us,?_,?_⟩
   ·rw[List.mapM_cons];simp only[Sem.run_bind,Sem.run_pure];rw[h3];simp only[Result.andThen_ok];rw[h5];simp
   ·refine⟨by simpa using h6.1,λi m' v hm hv=>?_⟩;cases i with
    |zero=>simp at hm hv;subst hm;subst hv;exact h4
    |succ i=>simp at hm hv;exact h6.2 i m' v hm (by simpa using hv)
  ·cases h
theorem kB{X:bq}{σ:Sg}{FC:Nat->Nat}{st:St}{a:Act}(hi:bb X σ FC st a){fn:Func}{m:M}(h:kA X.P fn st=some m):
  ∃u,(results fn a.tmps).run X.P σ.w=.ok u σ.w/\RM σ m u:=by
 unfold kA at h;cases hr:j8 X.P st fn.results.toList with
 |none=>simp[hr]at h
 |some ms=>
  simp[hr]at h;subst h;obtain⟨us,h1,h2⟩:=qI hi hr;have hlen:us.length=ms.length:=by simpa using h2.1
  have GJ:(results fn a.tmps).run X.P σ.w=.ok (if h:us.toArray.size=1 then us.toArray[0]else .tuple us.toArray) σ.w:=by
   have hf:results fn a.tmps=(do let vs<-fn.results.mapM (kY a.tmps);pure (if h:vs.size=1 then vs[0]else .tuple vs)):=by
    unfold results
    congr 1
   rw[hf,Array.mapM_eq_mapM_toList];simp only[Sem.run_bind,Functor.map];simp only[Sem.run_bind'];rw[h1];simp
  rw[GJ]
  match ms,us,h2,hlen with
  |[],[],h2,_=>exact⟨_,rfl,by rw[dif_neg (by simp)];exact .bz [] #[] rfl (by simp)⟩
  |[m],[u],h2,_=>exact⟨_,rfl,by simp[fD];exact h2.2 0 m u (by simp) (by simp)⟩
  |m1::m2::ms,u1::u2::us,h2,_=>
   refine⟨_,rfl,?_⟩;rw[dif_neg (by simp)];exact .bz _ _ h2.1 h2.2
def sh(P:Program)(fn:Func)(post:M->Hp->Prop):Exit->St->Prop
 |.normal,s=>∃m,kA P fn s=some m/\post m s.H
 |.ret,s=>∃m,kA P fn s=some m/\post m s.H
 |_,_=>False
theorem CT.aG{P:Program}{f:Nat}{fn:Func}{c:Code}{ms:List M}{H:Hp}{post:M->Hp->Prop}(hf:P.funcs[f]?=some fn)(hb:fn.body=some c)
  {n:Nat} (Mo:fn.ntmps=n) (hn:Nat.ble ms.length n=true) (h:∀(s0:Sg) (fa:Nat->Nat->Prop),TC ⟨P,n,s0,fa,[]⟩ c ⟨ie 0 ms,[],H⟩ (sh P fn post)):CT P f ms H post:=by
 subst Mo;replace hn:=Nat.le_of_ble_eq_true hn;intro σ Oo vs hinv hH Gk;refine calls_of_wp hf hb ?_
 let X:bq:=⟨P,fn.ntmps,σ,Oo,[]⟩
 have Iy:∀b o,iT Oo (λ_=>0) [] b o↔Oo b o:=by intro b o;simp[iT,get]
 have h0:bb X σ (λ_=>0) ⟨ie 0 ms,[],H⟩ {tmps:=vs++Array.replicate (fn.ntmps-vs.size) undef,defers:=[]} :=by
  refine⟨hH,rfl,?_,?_,by simp[get],by simp[get],by simp[get],by simp[get],?_,bO.refl _,bJ.refl _⟩
  ·have:=Gk.1;simp[X];omega
  ·intro t v hv;obtain⟨_,m,h2,rfl⟩:=nJ ms 0 t v hv;simp at h2;have FJ:t<vs.size:=by
    rw[Gk.1];rcases Nat.lt_or_ge t ms.length with h|h;exact h;simp[List.getElem?_eq_none h]at h2
   exact⟨vs[t],by simp[Array.getElem?_append,FJ],.m (Gk.2 t m _ h2 (by simp[FJ]))⟩
  ·exact⟨hinv.obj,hinv.inj,λb o=>by rw[hinv.own];simp[iT,get,X],λi ob h1 h2 o h3=>hinv.sep i ob h1 h2 o (by simpa [iT,get] using h3),λb o h3=>hinv.fj b o (by simpa [iT,get] using h3)⟩
 have Ox:=h σ Oo _ σ.w ⟨σ,λ_=>0,rfl,h0⟩;refine wp_mono Ox ?_;rintro e a' w' ⟨FM,HX,FO,F7,rfl,FL⟩;have fin:(∃m,kA P fn FM=some m/\post m FM.H)->a'.defers=[]/\∃v,(results fn a'.tmps).run P FO.w=.ok v FO.w/\∃v' r Kv,Ending.returned v=.returned v'/\Kv.w=FO.w/\post r Kv.H/\cY Kv Oo/\RM Kv r v'/\bO σ Kv/\bJ σ Kv:=by
  rintro⟨m,h1,h2⟩;obtain⟨u,h3,h4⟩:=kB FL h1;have FY:bO FO {FO with O:= λb o=>Oo b o\/∃(i:Nat) (ob:Ob),FO.H[i]?=some ob/\FO.l i=b/\ob.e_ o} :=by
   refine⟨λb o v h5 h6=>⟨h5,λh7=>h6 ?_⟩,λi cs h5=>⟨⟨cs,h5⟩,rfl⟩,λi cs h5=>⟨⟨cs,h5⟩,rfl⟩,λi cs h5=>⟨⟨cs,h5⟩,rfl⟩,λi h5=>h5,λi acc ec FD cs h5=>.inr ⟨acc,FD,cs,h5,Nat.le_refl _,λ_=>⟨rfl,rfl,λarr T h6=>⟨arr,h6,rfl⟩⟩⟩,λ_ h=>⟨_,h⟩⟩;rw[FL.hinv.own];rcases h7 with h7|h7
   ·exact .inl (.inl h7)
   ·exact .inr h7
  refine⟨FL.defers,u,h3,u,m,{FO with O:= λb o=>Oo b o\/∃(i:Nat) (ob:Ob),FO.H[i]?=some ob/\FO.l i=b/\ob.e_ o},rfl,rfl,by rw[show FO.H=FM.H from FL.hH];exact h2,?_,?_,?_,?_⟩
  ·exact⟨λi ob h5=>(FL.hinv.obj i ob h5).dR FY (λx hx=>hx),FL.hinv.inj,λb o=>Iff.rfl,λi ob h5 h6 o h7=>FL.hinv.sep i ob h5 h6 o (.inl h7),λb o h7=>FL.hinv.fj b o (.inl h7)⟩
  ·exact h4.mono FY
  ·exact FL.mono.trans FY
  ·exact⟨FL.be.os,FL.be.output,FL.be.tape,FL.be.size,FL.be.be,FL.be.loc⟩
 cases e with
 |normal=>exact fin HX
 |ret=>exact fin HX
 |_=>exact HX.elim
def St.cE(st:St):List Operand->Option (List M)
 |[]=>some []
 |x::r=>match st.ev x,St.cE st r with
  |some (.m m),some ms=>some (m::ms)
  |_,_=>none
def St.dX(st:St):List Operand->Option (List D)
 |[]=>some []
 |x::r=>match st.ev x,St.dX st r with
  |some (.m (.d d)),some ds=>some (d::ds)
  |_,_=>none
section ops
variable{X:bq}{st:St}{dst:Option Nat}{ty:Nat}{pos:String}{af:Array Edge}{g:Option (Nat×Bool)}
theorem bb.cE{σ:Sg}{FC:Nat->Nat}{a:Act}(hi:bb X σ FC st a):∀{xs:List Operand} {ms:List M},st.cE xs=some ms->h_ σ ms (xs.map a.eval).toArray
 |[],ms,h=>by simp[St.cE]at h;subst h;exact⟨rfl,by simp⟩
 |x::r,ms,h=>by
  simp only[St.cE]at h;split at h
  ·rename_i m Jb h1 h2;injection h with h;subst h
   have h3:=hi.cE h2;have h4:=hi.ev h1;refine⟨by simpa using h3.1,λi m' v hm hv=>?_⟩;cases i with
   |zero=>simp at hm hv;subst hm;subst hv;cases h4 with|m h=>exact h
   |succ i=>simp at hm hv;exact h3.2 i m' v hm (by simpa using hv)
  ·cases h
theorem bb.dX{σ:Sg}{FC:Nat->Nat}{a:Act}(hi:bb X σ FC st a):∀{xs:List Operand} {ds:List D},st.dX xs=some ds->wy σ.O σ.w ds (xs.map a.eval).toArray
 |[],ms,h=>by simp[St.dX]at h;subst h;exact⟨rfl,by simp⟩
 |x::r,ms,h=>by
  simp only[St.dX]at h;split at h
  ·rename_i m Jb h1 h2;injection h with h;subst h
   have h3:=hi.dX h2;have h4:=hi.ia h1;refine⟨by simpa using h3.1,λi m' v hm hv=>?_⟩;cases i with
   |zero=>simp at hm hv;subst hm;subst hv;exact h4
   |succ i=>simp at hm hv;exact h3.2 i m' v hm (by simpa using hv)
  ·cases h
class bp(P:Program)(f:Nat):Prop where
 run:∀(args:Array Value) (w:World),(callFunc f args).run P w=.ok (.enter f args) w
def vn(st:St)(post:List D->Prop):V->St->Prop:= λv s=>∃r,v=.m (fD (r.map .d))/\post r/\s=st
theorem aK.x4{o:Oper}{f:Nat}{ds:List D}{post:List D->Prop}(h:PT X.P f ds post)
  (hr:∀a σ FC,bb X σ FC st a->∃vs,(execOp a.eval o).run X.P σ.w=.ok (.enter f vs) σ.w/\wy σ.O σ.w ds vs):aK X o st (vn st post):=by
 intro a σ FC hi;obtain⟨vs,h1,h2⟩:=hr a σ FC hi;refine bS.enter h1 ((h σ.O σ.w vs hi.hinv.wx h2).mono ?_);rintro e w' ⟨v,r,rfl,hp,he,hv⟩;refine⟨v,rfl,_,st,{σ with w:=w'},FC,⟨r,rfl,hp,rfl⟩,rfl,hi.ext he,.m ?_⟩;exact hv.vm λb o v h1 h2=>⟨h1,h2⟩
theorem wA{f:Nat}{args:List Operand}{Gj:Array Nat}{ds:List D}{post:List D->Prop}[hf:bp X.P f](ha:st.dX args=some ds)(h:PT X.P f ds post):
  aK X ⟨dst,.call ⟨.value (.func f),args.toArray,Gj⟩,ty,pos,af,g⟩ st (vn st post):=by
 refine aK.x4 h λa σ FC hi=>⟨(args.map a.eval).toArray,?_,hi.dX ha⟩
 simp only[execOp,resolve,Act.eval,Deferred.ofValue,invoke];simp[hf.run]
theorem uw{f:Nat}{args:List Operand}{Gj:Array Nat}{ds:List D}{r:D}[hf:bp X.P f](ha:st.dX args=some ds)(h:PT X.P f ds (·=[r])):
  aK X ⟨dst,.call ⟨.value (.func f),args.toArray,Gj⟩,ty,pos,af,g⟩ st (bt (.m (.d r)) st):=by
 intro a σ FC hi;have:=wA (dst:=dst) (ty:=ty) (pos:=pos) (af:=af) (g:=g) (Gj:=Gj) ha h a σ FC hi;unfold bS at this⊢;generalize (execOp a.eval _).run X.P σ.w=z at*;have hp:∀v s,vn st (·=[r]) v s->bt (.m (.d r)) st v s:=by
  rintro v s ⟨r',rfl,rfl,rfl⟩;exact⟨rfl,rfl⟩
 cases z with
 |ok x w'=>
  cases x<;>simp only at this⊢ <;>first
   |(obtain⟨v,s,FO,l',h1,h2⟩:=this;exact⟨v,s,FO,l',hp _ _ h1,h2⟩)
   |exact this.mono λe JH ⟨u,he,v,s,FO,l',h1,h2⟩=>⟨u,he,v,s,FO,l',hp _ _ h1,h2⟩
   |exact this
 |halt x w'=>exact this
theorem Am{x:Operand}{f:Nat}{FR:List D}{args:List Operand}{Gj:Array Nat}{ds:List D}{post:List D->Prop}(hx:st.ev x=some (.m (.d (.fn f FR))))[hf:bp X.P f](ha:st.dX args=some ds)
  (h:PT X.P f (ds++FR) post):aK X ⟨dst,.call ⟨.value x,args.toArray,Gj⟩,ty,pos,af,g⟩ st (vn st post):=by
 refine aK.x4 h λa σ FC hi=>?_
 have h1:=hi.ia hx;have h2:=hi.dX ha;generalize hu:a.eval x=u at h1;cases h1 with
 |fn f cs vs hl hh=>
  refine⟨(args.map a.eval).toArray++vs,?_,?_⟩
  ·simp only[execOp,resolve,hu,Deferred.ofValue,invoke];simp[hf.run]
  ·refine⟨by have:=h2.1;simp at this;simp[this,hl],λi d v hd hv=>?_⟩;have IF:(args.map a.eval).toArray.size=ds.length:=h2.1;rcases Nat.lt_or_ge i ds.length with FJ|JI
   ·rw[List.getElem?_append_left FJ]at hd;rw[Array.getElem?_append_left (by omega)]at hv;exact h2.2 i d v hd hv
   ·rw[List.getElem?_append_right JI]at hd;rw[Array.getElem?_append_right (by omega),IF]at hv;exact hh _ d v hd hv
theorem oG{f:Nat}{FR:List Operand}{ds:List D}(ha:st.dX FR=some ds):
  aK X ⟨dst,.makeFunc (.func f) #[] FR.toArray,ty,pos,af,g⟩ st (bt (.m (.d (.fn f ds))) st):=by
 refine aK.quiet λa σ FC hi=>?_
 have h:=hi.dX ha;exact⟨.func (.func f) #[] (FR.map a.eval).toArray,by simp[execOp,Instr.makeFunc],.m (.d (.fn f ds _ h.1 h.2))⟩
theorem gT{σ:Sg}{Oo:Nat->Nat->Prop}(h:cY σ Oo){b:Nat}(hb:Oo b 0):∀(i:Nat) ob,σ.H[i]?=some ob->ob.live->σ.l i≠b:=by
 intro i ob h1 h2 he;exact h.sep i ob h1 h2 0 (by rw[he];exact hb)
theorem aK.Bv{o:Oper}{f:Nat}{ms:List M}{post:M->Hp->Prop}(h:CT X.P f ms st.H post)
  (hr:∀a σ FC,bb X σ FC st a->∃vs,(execOp a.eval o).run X.P σ.w=.ok (.enter f vs) σ.w/\h_ σ ms vs):
  aK X o st (λv s=>∃r H',v=.m r/\post r H'/\s=⟨st.sl,st.bx,H'⟩):=by
 intro a σ FC hi;obtain⟨vs,h1,h2⟩:=hr a σ FC hi;refine bS.enter h1 ((h σ _ vs hi.hinv hi.hH h2).mono ?_);rintro e w' ⟨v,r,FO,rfl,rfl,hp,FL,hv,hm,hb⟩;refine⟨v,rfl,.m r,⟨st.sl,st.bx,FO.H⟩,FO,FC,⟨r,FO.H,rfl,hp,rfl⟩,rfl,?_,.m hv⟩;refine⟨rfl,hi.defers,hi.size,λt v h3=>let⟨u,h4,h5⟩:=hi.slot t v h3;⟨u,h4,h5.mono hm⟩,?_,hi.jC,hi.j5,hi.j6,FL,hi.mono.trans hm,hi.be.trans hb⟩;intro t cs h3;have FJ:=(hi.box t cs h3).lt trivial;have FV:=gT hi.hinv (b:=FC t) (.inr ⟨t,cs,h3,rfl⟩);refine(hi.box t cs h3).dR hm λx hx=>?_
 rw[hb.be _ FJ FV];exact hx
theorem pD{f:Nat}{args:List Operand}{Gj:Array Nat}{ms:List M}{post:M->Hp->Prop}[hf:bp X.P f](ha:st.cE args=some ms)(h:CT X.P f ms st.H post):
  aK X ⟨dst,.call ⟨.value (.func f),args.toArray,Gj⟩,ty,pos,af,g⟩ st (λv s=>∃r H',v=.m r/\post r H'/\s=⟨st.sl,st.bx,H'⟩):=by
 refine aK.Bv h λa σ FC hi=>⟨(args.map a.eval).toArray,?_,hi.cE ha⟩
 simp only[execOp,resolve,Act.eval,Deferred.ofValue,invoke];simp[hf.run]
end ops
def bI(w:World)(b:Nat)(x:Obj):World:={w with heap:=w.heap.setIfInBounds b x}
theorem c7{w:World}{b:Nat}{x:Obj}(hb:b<w.heap.size):(bI w b x).heap[b]?=some x:=by simp[bI,hb]
theorem dU{w:World}{b c:Nat}{x:Obj}(h:c≠b):(bI w b x).heap[c]?=w.heap[c]?:=by
 simp[bI,Array.getElem?_setIfInBounds_ne (Ne.symm h)]
theorem eb{w:World}{b:Nat}{x:Obj} :(bI w b x).heap.size=w.heap.size:=by simp[bI]
theorem si{w:World}{b:Nat}{x y:Obj} :bI (bI w b x) b y=bI w b y:=by
 unfold bI
 congr 1
 apply Array.ext_getElem?;intro i;by_cases h:i=b
 ·subst h;simp[Array.getElem?_setIfInBounds]
 ·simp[Array.getElem?_setIfInBounds_ne (Ne.symm h)]
theorem vo{w:World}{b:Nat}{x:Obj}(h:w.heap[b]?=some x):bI w b x=w:=by
 unfold bI;have:w.heap.setIfInBounds b x=w.heap:=by
  apply Array.ext_getElem?;intro i;by_cases e:i=b
  ·subst e;rw[Array.getElem?_setIfInBounds_self];split<;>simp_all
  ·simp[Array.getElem?_setIfInBounds_ne (Ne.symm e)]
 rw[this]
theorem setCell_eq{w:World}{b o:Nat}{v:Value}{arr:Array Value}{T:Nat}(h:w.heap[b]?=some (.cells arr T (0,0))):
  w.setCell ⟨b,o,none⟩ v=bI w b (.cells (arr.setIfInBounds o v) T (0,0)):=by
 unfold World.setCell bI
 congr 1
 apply Array.ext_getElem?;intro i;have hb:=cZ h;by_cases e:i=b
 ·subst e;simp only[Array.getElem?_modify,if_true,h,Option.map_some,Array.getElem?_setIfInBounds_self,hb];simp
 ·simp[Array.getElem?_setIfInBounds_ne (Ne.symm e),Array.getElem?_modify,Ne.symm e]
def cS(arr:Array Value)(off:Nat):List Value->Array Value
 |[]=>arr
 |v::r=>cS (arr.setIfInBounds off v) (off+1) r
theorem dK:∀(vs:List Value) (arr:Array Value) (off:Nat),(cS arr off vs).size=arr.size
 |[],arr,off=>rfl
 |v::r,arr,off=>by simp[cS,dK r]
theorem iM:∀(vs:List Value) (arr:Array Value) (off k:Nat),off+vs.length<=arr.size->
  (cS arr off vs)[k]?=if off<=k/\k<off+vs.length then vs[k-off]? else arr[k]?
 |[],arr,off,k,h=>by simp[cS];intro h1 h2;omega
 |v::r,arr,off,k,h=>by
  simp at h;rw[cS,iM r _ (off+1) k (by simp;omega)];by_cases e:k=off
  ·subst e;simp;have h2:k<arr.size:=by omega
   simp[h2];intro h3;omega
  ·by_cases e2:off+1<=k/\k<off+1+r.length
   ·have h3:off<=k/\k<off+(v::r).length:=by simp;omega
    rw[if_pos e2,if_pos h3];have:k-off=(k-(off+1))+1:=by omega
    rw[this];simp
   ·have h3:¬(off<=k/\k<off+(v::r).length):=by simp;omega
    rw[if_neg e2,if_neg h3];simp[Array.getElem?_setIfInBounds_ne (Ne.symm e)]
theorem x5{P:Program}{w:World}{b o:Nat}{v:Value}{arr:Array Value}{T:Nat}(h:w.heap[b]?=some (.cells arr T (0,0)))(ho:o<arr.size)(hf:flat v=true):
  (store ⟨b,o,none⟩ v).run P w=.ok () (bI w b (.cells (arr.setIfInBounds o v) T (0,0))):=by
 have hc:w.cell? ⟨b,o,none⟩=some arr[o]:=by simp[World.cell?,h,ho]
 have hz:w.frozen? ⟨b,o,none⟩=false:=by simp[World.frozen?,h]
 unfold store;cases v<;>simp[flat]at hf<;>simp[Sem.run,hc,hz,setCell_eq h]
theorem iY{P:Program}{b off T:Nat} :∀(vs:List Value) (i:Nat) (w:World) (arr:Array Value),w.heap[b]?=some (.cells arr T (0,0))->off+i+vs.length<=arr.size->(∀v∈vs,flat v=true)->
  (storeCells ⟨b,off,none⟩ vs i).run P w=.ok () (bI w b (.cells (cS arr (off+i) vs) T (0,0)))
 |[],i,w,arr,h,_,_=>by simp[storeCells,cS,vo h]
 |v::r,i,w,arr,h,hs,hf=>by
  simp at hs;have h1:=x5 (P:=P) (o:=off+i) h (by omega) (hf v (by simp));rw[storeCells];simp only[Sem.run_bind,fR];rw[h1];simp only[Result.andThen_ok];have hb:(bI w b (.cells (arr.setIfInBounds (off+i) v) T (0,0))).heap[b]?=some (.cells (arr.setIfInBounds (off+i) v) T (0,0)):=c7 (cZ h);rw[iY r (i+1) _ _ hb (by simp;omega) (λv hv=>hf v (by simp[hv]))];rw[si];rfl
theorem kq{P:Program}{w:World}{b off T t:Nat}{arr:Array Value}{v:Value}(h:w.heap[b]?=some (.cells arr T (0,0)))(hs:cz P t=some v.cells.size)(hl:off+v.cells.size<=arr.size)
  (hf:∀(i:Nat) u,v.cells[i]?=some u->flat u=true):
  (storeVar t ⟨b,off,none⟩ v).run P w=.ok () (bI w b (.cells (cS arr off v.cells.toList) T (0,0))):=by
 unfold storeVar;simp only[Sem.run_bind,bF hs,Result.andThen_ok];simp;have:=iY (P:=P) (off:=off) v.cells.toList 0 w arr h (by simpa using hl) (by
  intro u hu;obtain⟨i,hi⟩:=List.mem_iff_getElem?.1 hu;exact hf i u (by simpa using hi))
 simpa using this
theorem eN.write{σ:Sg}{cs new FG:List M}{arr:Array Value}{vs:Array Value}{off:Nat}(h:eN σ cs arr)(hn:eN σ new vs)(hw:cm cs off new=some FG):
  eN σ FG (cS arr off vs.toList)/\off+new.length<=cs.length/\FG.length=cs.length:=by
 unfold cm at hw;cases hb:Nat.ble (off+new.length) cs.length with
 |false=>simp[hb]at hw
 |true=>
  simp only[hb,cond_true,Option.some.injEq]at hw;subst hw;have hle:=Nat.le_of_ble_eq_true hb;have Hr:=h.1;have IF:=hn.1;refine⟨⟨?_,?_⟩,hle,?_⟩
  ·rw[dK,h.1];simp;omega
  ·intro i m v hm hv;rw[iM _ _ _ _ (by simp;omega)]at hv;simp only[Array.length_toList,IF]at hv;by_cases e:off<=i/\i<off+new.length
   ·rw[if_pos e]at hv;rw[List.append_assoc,List.getElem?_append_right (by simp;omega),List.getElem?_append_left (by simp;omega)]at hm;have:i-(List.take off cs).length=i-off:=by simp;omega
    rw[this]at hm;exact hn.2 _ _ _ hm (by simpa using hv)
   ·rw[if_neg e]at hv;refine h.2 i m v ?_ hv;rw[List.append_assoc]at hm;rcases Nat.lt_or_ge i off with h3|h3
    ·rw[List.getElem?_append_left (by simp;omega),List.getElem?_take_of_lt h3]at hm;exact hm
    ·rw[List.getElem?_append_right (by simp;omega),List.getElem?_append_right (by simp;omega),List.getElem?_drop]at hm;have:off+new.length+(i-(List.take off cs).length-new.length)=i:=by simp;omega
     rw[this]at hm;exact hm
  ·simp;omega
theorem bO.bI{σ:Sg}{b T:Nat}{arr Gg:Array Value}(h:σ.w.heap[b]?=some (.cells arr T (0,0)))(hs:Gg.size=arr.size)(hO:∀o,¬σ.O b o->Gg[o]?=arr[o]?):
  bO σ {σ with w:=bI σ.w b (.cells Gg T (0,0))} :=by
 have FJ:=cZ h;refine⟨?_,λi cs h1=>⟨⟨cs,h1⟩,rfl⟩,λi cs h1=>⟨⟨cs,h1⟩,rfl⟩,λi cs h1=>⟨⟨cs,h1⟩,rfl⟩,λi h1=>h1,?_,λ_ h=>⟨_,h⟩⟩
 ·intro c o v hc hn;refine⟨?_,hn⟩;by_cases e:c=b
  ·subst e;simp only[cB,World.cell?,h]at hc;simp only[cB,World.cell?,c7 FJ];simp at hc⊢;rw[hO o hn];exact hc
  ·rw[iL (dU e)];exact hc
 ·intro i acc ec FD cs h1;refine .inr ⟨acc,FD,cs,h1,Nat.le_refl _,λ_=>⟨rfl,rfl,λar T' ha=>?_⟩⟩;by_cases e:σ.l i=b
  ·rw[e]at ha⊢;rw[h]at ha;injection ha with ha;injection ha with e1 e2
   subst e1;subst e2;exact⟨Gg,c7 FJ,hs⟩
  ·exact⟨ar,by rw[dU e];exact ha,rfl⟩
section ops
variable{X:bq}{st:St}{dst:Option Nat}{ty:Nat}{pos:String}{af:Array Edge}{g:Option (Nat×Bool)}
theorem kC{T:Nat}{x:Operand}{t off:Nat}{cs:List M}{m:M}(hx:st.ev x=some (.loc t off))(hb:get st.bx t=some cs)(hr:ch X.P T cs off=some m):
  aK X ⟨dst,.load T x,ty,pos,af,g⟩ st (bt (.m m) st):=by
 refine aK.quiet λa σ FC hi=>?_
 have h:=hi.ev hx;generalize hu:a.eval x=u at h;cases h with
 |loc t off=>
  obtain⟨arr,TT,h3,h4⟩:=hi.box t cs hb;obtain⟨v,h5,h6⟩:=ig hr h3 (by rw[h4.1];exact Nat.le_refl _) h4.2;exact⟨v,by simp[execOp,hu,Instr.loadAt,Instr.sureAddr,h5],.m h6⟩
theorem sj{T:Nat}{x:Operand}{t off:Nat}{cs:List M}{m:M}[ht:cj X.P T](hx:st.ev x=some (.loc t off))(hb:get st.bx t=some cs)(hr:cs[off]?=some m):
  aK X ⟨dst,.load T x,ty,pos,af,g⟩ st (bt (.m m) st):=
 kC hx hb (by simp[ch,ht.cell,hr])
theorem sk{T n:Nat}{x:Operand}{t off:Nat}{cs:List M}{ds:List D}[ht:cL X.P T n](hx:st.ev x=some (.loc t off))(hb:get st.bx t=some cs)(hn:Nat.ble (off+n) cs.length=true)
  (hr:cT ((cs.drop off).take n)=some ds):aK X ⟨dst,.load T x,ty,pos,af,g⟩ st (bt (.m (.d (.agg ds))) st):=
 kC hx hb (by simp[ch,ht.agg,ht.size,hn,pack,hr])
theorem bf{α:Type}{l:List (Nat×α)}{k t:Nat}{v w:α}(h:get ((k,v)::l) t=some w):(t=k/\w=v)\/(t≠k/\get l t=some w):=by
 rw[aX]at h;by_cases e:k=t
 ·rw[if_pos e]at h;injection h with h;exact .inl ⟨e.symm,h.symm⟩
 ·rw[if_neg e]at h;exact .inr ⟨λh=>e h.symm,h⟩
theorem bb.CN{σ:Sg}{FC:Nat->Nat}{a:Act}{t T:Nat}{cs FG:List M}{arr Gg:Array Value}(hi:bb X σ FC st a)(hb:get st.bx t=some cs)(h:σ.w.heap[FC t]?=some (.cells arr T (0,0)))
  (hs:Gg.size=arr.size) (hc:eN {σ with w:=bI σ.w (FC t) (.cells Gg T (0,0))} FG Gg):
  bb X {σ with w:=bI σ.w (FC t) (.cells Gg T (0,0))} FC ⟨st.sl,(t,FG)::st.bx,st.H⟩ a:=by
 have Mp:∀o,σ.O (FC t) o:= λo=>(hi.hinv.own _ _).2 (.inl (.inr ⟨t,cs,hb,rfl⟩))
 have FY:bO σ {σ with w:=bI σ.w (FC t) (.cells Gg T (0,0))} :=bO.bI h hs (λo ho=>(ho (Mp o)).elim);have Iy:∀b o,iT X.fa FC ((t,FG)::st.bx) b o↔iT X.fa FC st.bx b o:=by
  intro b o;constructor
  ·rintro(h1|⟨u,ds,h1,h2⟩)
   ·exact .inl h1
   ·rcases bf h1 with⟨rfl,rfl⟩|⟨h3,h4⟩
    ·exact .inr ⟨u,cs,hb,h2⟩
    ·exact .inr ⟨u,ds,h4,h2⟩
  ·rintro(h1|⟨u,ds,h1,h2⟩)
   ·exact .inl h1
   ·by_cases e:t=u
    ·subst e;exact .inr ⟨t,FG,by simp[aX],h2⟩
    ·exact .inr ⟨u,ds,by simp[aX,e,h1],h2⟩
 have FV:=gT hi.hinv (b:=FC t) (.inr ⟨t,cs,hb,rfl⟩);have HQ:∀u ds,get ((t,FG)::st.bx) u=some ds->∃I4,get st.bx u=some I4:=by
  intro u ds h1;rcases bf h1 with⟨rfl,rfl⟩|⟨h3,h4⟩
  ·exact⟨cs,hb⟩
  ·exact⟨ds,h4⟩
 refine⟨hi.hH,hi.defers,hi.size,λu v h3=>let⟨z,h4,h5⟩:=hi.slot u v h3;⟨z,h4,h5.mono FY⟩,?_,?_,?_,?_,?_,hi.mono.trans FY,?_⟩
 ·intro u ds h1;rcases bf h1 with⟨rfl,rfl⟩|⟨h3,h4⟩
  ·exact⟨Gg,T,c7 (cZ h),hc⟩
  ·refine(hi.box u ds h4).dR FY λx hx=>?_
   rw[dU (λe=>h3 (hi.jC u t ds cs h4 hb e))];exact hx
 ·intro u v ds es h1 h2 h3;obtain⟨_,h4⟩:=HQ u ds h1;obtain⟨_,h5⟩:=HQ v es h2;exact hi.jC u v _ _ h4 h5 h3
 ·intro u ds h1;obtain⟨_,h4⟩:=HQ u ds h1;exact hi.j5 u _ h4
 ·intro u ds h1;obtain⟨_,h4⟩:=HQ u ds h1;exact hi.j6 u _ h4
 ·refine⟨?_,hi.hinv.inj,λb o=>by rw[Iy];exact hi.hinv.own b o,λi ob h1 h2 o h3=>hi.hinv.sep i ob h1 h2 o ((Iy _ _).1 h3),λb o h3=>by show b<(bI _ _ _).heap.size;rw[eb];exact hi.hinv.fj b o ((Iy _ _).1 h3)⟩;intro i ob h1;by_cases hl:ob.live
  ·refine(hi.hinv.obj i ob h1).dR FY λx hx=>?_
   rw[dU (FV i ob h1 hl)];exact hx
  ·cases ob<;>first|trivial|exact(hl trivial).elim
 ·refine⟨hi.be.os,hi.be.output,hi.be.tape,by show _<=(bI _ _ _).heap.size;rw[eb];exact hi.be.size,?_,hi.be.loc⟩;intro b KE Gs;rw[dU ?_]
  ·exact hi.be.be b KE Gs
  ·intro e;have:=hi.j6 t cs hb;omega
theorem nL{T n:Nat}{x y:Operand}{t off:Nat}{cs FG:List M}{m:M}(hx:st.ev x=some (.loc t off))(hy:st.ev y=some (.m m))(hb:get st.bx t=some cs)
  [hs:bh X.P T n] (hn:(cellsOf m).length=n) (Gl:m.lP=true) (hw:cm cs off (cellsOf m)=some FG):
  aK X ⟨dst,.store T x y,ty,pos,af,g⟩ st (bt (.m .undef) ⟨st.sl,(t,FG)::st.bx,st.H⟩):=by
 intro a σ FC hi;have h:=hi.ev hx;have h2:=hi.ev hy;generalize hu:a.eval x=u at h;cases h with
 |loc t off=>
  cases h2 with
  |m h2=>
   obtain⟨arr,TT,h3,h4⟩:=hi.box t cs hb;have hc:=h2.cells Gl;have Mp:∀o,σ.O (FC t) o:= λo=>(hi.hinv.own _ _).2 (.inl (.inr ⟨t,cs,hb,rfl⟩))
   obtain⟨h5,h6,h7⟩:=h4.write hc hw;have Gd:(a.eval y).cells.size=n:=by rw[hc.1,hn]
   have GJ:=kq (P:=X.P) (t:=T) (off:=off) h3 (by rw[hs.size,Gd]) (by rw[h4.1,hc.1];exact h6) hc.flat;refine bS.skip (by simp only[execOp,hu,Instr.storeAt,Instr.sureAddr];simp[GJ];rfl) ?_;have FY:bO σ {σ with w:=bI σ.w (FC t) (.cells (cS arr off (a.eval y).cells.toList) TT (0,0))} :=bO.bI h3 (dK _ _ _) (λo ho=>(ho (Mp o)).elim);exact⟨.m .undef,_,{σ with w:=bI σ.w (FC t) (.cells (cS arr off (a.eval y).cells.toList) TT (0,0))},FC,⟨rfl,rfl⟩,rfl,hi.CN hb h3 (dK _ _ _) (h5.mono FY),.m (.undef _)⟩
end ops
def dv(t:Nat):List (Nat×V)->Bool
 |[]=>true
 |(_,.loc u _)::r=> !Nat.beq u t&&dv t r
 |_::r=>dv t r
theorem nO:∀{l:List (Nat×V)} {t k o:Nat},dv t l=true->get l k≠some (.loc t o):=by
 intro l
 induction l with
 |nil=>intro t k o _ h;simp[get]at h
 |cons x l ih=>
  intro t k o hn h;obtain⟨j,u⟩:=x;cases u with
  |m m=>
   rcases bf h with⟨rfl,h2⟩|⟨h1,h2⟩
   ·cases h2
   ·exact ih hn h2
  |tl a b c d=>
   rcases bf h with⟨rfl,h2⟩|⟨h1,h2⟩
   ·cases h2
   ·exact ih hn h2
  |loc u o'=>
   simp only[dv,Bool.and_eq_true,Bool.not_eq_true']at hn;rcases bf h with⟨rfl,h2⟩|⟨h1,h2⟩
   ·injection h2 with e1 e2;subst e1;simp at hn
   ·exact ih hn.2 h2
def bu(t:Nat):List (Nat×V)->List (Nat×V)
 |[]=>[]
 |(k,.loc u o)::r=>bif Nat.beq u t then(k,.m .undef)::bu t r else(k,.loc u o)::bu t r
 |(k,.m m)::r=>(k,.m m)::bu t r
 |(k,.tl a b c d)::r=>(k,.tl a b c d)::bu t r
theorem tU:∀{l:List (Nat×V)} {t k:Nat} {v:V},get (bu t l) k=some v->(v=.m .undef/\∃u,get l k=some u)\/(get l k=some v/\∀o,v≠.loc t o):=by
 intro l
 induction l with
 |nil=>intro t k v h;simp[bu,get]at h
 |cons x l ih=>
  intro t k v h;obtain⟨j,u⟩:=x;cases u with
  |m m=>
   unfold bu at h;rcases bf h with⟨rfl,rfl⟩|⟨h1,h2⟩
   ·exact .inr ⟨by simp[aX],λo h=>by cases h⟩
   ·rw[aX,if_neg (λe=>h1 e.symm)];exact ih h2
  |tl a b c d=>
   unfold bu at h;rcases bf h with⟨rfl,rfl⟩|⟨h1,h2⟩
   ·exact .inr ⟨by simp[aX],λo h=>by cases h⟩
   ·rw[aX,if_neg (λe=>h1 e.symm)];exact ih h2
  |loc u o=>
   unfold bu at h;cases hb:Nat.beq u t with
   |false=>
    rw[hb]at h;rcases bf h with⟨rfl,rfl⟩|⟨h1,h2⟩
    ·exact .inr ⟨by simp[aX],λo' h=>by injection h with e1 e2;subst e1;simp at hb⟩
    ·rw[aX,if_neg (λe=>h1 e.symm)];exact ih h2
   |true=>
    rw[hb]at h;rcases bf h with⟨rfl,rfl⟩|⟨h1,h2⟩
    ·exact .inl ⟨rfl,.loc u o,by simp[aX]⟩
    ·rw[aX,if_neg (λe=>h1 e.symm)];exact ih h2
section ops
variable{X:bq}{st:St}{dst:Option Nat}{ty:Nat}{pos:String}{af:Array Edge}{g:Option (Nat×Bool)}
theorem bb.zr{σ:Sg}{FC:Nat->Nat}{a:Act}{d T:Nat}{cs:List M}{arr:Array Value}(hi:bb X σ FC st a)(hc:eN σ cs arr):
  ∃FO F7,FO.w={σ.w with heap:=σ.w.heap.push (.cells arr T (0,0))} /\F7 d=σ.w.heap.size/\bb X FO F7 ⟨bu d st.sl,(d,cs)::st.bx,st.H⟩ a:=by
 let b:=σ.w.heap.size
 let w':World:={σ.w with heap:=σ.w.heap.push (.cells arr T (0,0))}
 let F7:Nat->Nat:= λu=>if u=d then b else FC u
 have GA:dq σ.w w':=dq.alloc _ _
 let O':Nat->Nat->Prop:= λc o=>iT X.fa F7 ((d,cs)::st.bx) c o\/∃(i:Nat) (ob:Ob),σ.H[i]?=some ob/\σ.l i=c/\ob.e_ o
 let FO:Sg:=⟨w',O',σ.l,σ.H⟩
 have KF:∀u ds,get st.bx u=some ds->FC u<b:= λu ds h=>(hi.box u ds h).lt trivial
 have Rr:∀c o,c<b->O' c o->σ.O c o:=by
  intro c o TY h;rw[hi.hinv.own];rcases h with(h|⟨u,ds,h1,h2⟩)|h
  ·exact .inl (.inl h)
  ·rcases bf h1 with⟨rfl,rfl⟩|⟨h3,h4⟩
   ·simp[F7]at h2;omega
   ·simp[F7,h3]at h2;exact .inl (.inr ⟨u,ds,h4,h2⟩)
  ·exact .inr h
 have FY:bO σ FO:=by
  refine⟨λc o v h1 h2=>⟨GA.cell h1,λh3=>h2 (Rr c o (gS h1) h3)⟩,λi cs h1=>⟨⟨cs,h1⟩,rfl⟩,λi cs h1=>⟨⟨cs,h1⟩,rfl⟩,λi cs h1=>⟨⟨cs,h1⟩,rfl⟩,λi h1=>h1,
   λi acc ec FD cs h1=>.inr ⟨acc,FD,cs,h1,Nat.le_refl _,λ_=>⟨rfl,rfl,λarr T ha=>⟨arr,GA.heap ha,rfl⟩⟩⟩,λ_ h=>⟨_,h⟩⟩
 have hl:∀(i:Nat) ob,σ.H[i]?=some ob->ob.live->σ.l i<b:= λi ob h1 h2=>(hi.hinv.obj i ob h1).lt h2
 refine⟨FO,F7,rfl,by simp[F7,b],?_⟩;refine⟨hi.hH,hi.defers,hi.size,?_,?_,?_,?_,?_,?_,hi.mono.trans FY,?_⟩
 ·intro t v h;rcases tU h with⟨rfl,u,h1⟩|⟨h1,h2⟩
  ·obtain⟨z,h3,_⟩:=hi.slot t u h1;exact⟨z,h3,.m (.undef _)⟩
  ·obtain⟨z,h3,h4⟩:=hi.slot t v h1;refine⟨z,h3,?_⟩;cases h4 with
   |m h4=>exact .m (h4.mono FY)
   |tl i e1 e2 e3 e4 e5 e6 e7=>exact RV.mono (FC:=F7) FY (.tl i e1 e2 e3 e4 e5 e6 e7)
   |loc u o=>
    have FV:u≠d:=by rintro rfl;exact h2 o rfl
    have:F7 u=FC u:=by simp[F7,FV]
    rw[<-this];exact .loc u o
 ·intro u ds h1;rcases bf h1 with⟨rfl,rfl⟩|⟨h3,h4⟩
  ·refine⟨arr,T,?_,hc.mono FY⟩;simp[F7,FO,w',b]
  ·have:F7 u=FC u:=by simp[F7,h3]
   rw[this];exact(hi.box u ds h4).dR FY λx hx=>GA.heap hx
 ·intro u v ds es h1 h2 h3;rcases bf h1 with⟨rfl,rfl⟩|⟨h4,h5⟩<;>rcases bf h2 with⟨rfl,rfl⟩|⟨h6,h7⟩
  ·rfl
  ·simp[F7,h6]at h3;have:=KF v es h7;omega
  ·simp[F7,h4]at h3;have:=KF u ds h5;omega
  ·simp[F7,h4,h6]at h3;exact hi.jC u v ds es h5 h7 h3
 ·intro u ds h1 o h2;rcases bf h1 with⟨rfl,rfl⟩|⟨h4,h5⟩
  ·simp[F7]at h2;have:=hi.hinv.fj _ _ (.inl h2);simp[b]at this
  ·simp[F7,h4]at h2;exact hi.j5 u ds h5 o h2
 ·intro u ds h1;rcases bf h1 with⟨rfl,rfl⟩|⟨h4,h5⟩
  ·simp[F7];exact hi.be.size
  ·simp[F7,h4];exact hi.j6 u ds h5
 ·refine⟨λi ob h1=>(hi.hinv.obj i ob h1).dR FY λx hx=>GA.heap hx,hi.hinv.inj,λc o=>Iff.rfl,?_,?_⟩
  ·intro i ob h1 h2 o h3;have FJ:=hl i ob h1 h2;rcases h3 with h3|⟨u,ds,h3,h4⟩
   ·exact hi.hinv.sep i ob h1 h2 o (.inl h3)
   ·rcases bf h3 with⟨rfl,rfl⟩|⟨h5,h6⟩
    ·simp[F7]at h4;change b=σ.l i at h4;omega
    ·simp[F7,h5]at h4;exact hi.hinv.sep i ob h1 h2 o (.inr ⟨u,ds,h6,h4⟩)
  ·intro c o h3;have hw:w'.heap.size=b+1:=by simp[w',b]
   show c<w'.heap.size;rcases h3 with h3|⟨u,ds,h3,h4⟩
   ·have:=hi.hinv.fj c o (.inl h3);omega
   ·rcases bf h3 with⟨rfl,rfl⟩|⟨h5,h6⟩
    ·simp[F7]at h4;omega
    ·simp[F7,h5]at h4;have:=KF u ds h6;omega
 ·refine hi.be.trans ⟨rfl,rfl,rfl,GA.size,λc hc _=>GA.be c hc,λi ob h1 h2=>.inr ⟨ob,h1,h2,rfl⟩⟩
class mH(P:Program)(t:Nat)(z:outParam D):Prop where
 run:∃v,(∀w,(zeroValue t).run P w=.ok v w)/\jZ v=some z
theorem bA{P:Program}{t:Nat}{z:D}(h:fC P t=some z):mH P t z:=by
 unfold fC at h;split at h
 ·rename_i i hi;split at h
  ·rename_i v hv;exact⟨v,λw=>by simp[zeroValue,typeInfo,program,Sem.run,hi,hv],h⟩
  ·cases h
 ·cases h
theorem pE{T d:Nat}{z:D}[hz:mH X.P T z]:
  aK X ⟨some d,.alloc T,ty,pos,af,g⟩ st (bt (.loc d 0) ⟨bu d st.sl,(d,(aN z).map .d)::st.bx,st.H⟩):=by
 intro a σ FC hi;obtain⟨v,h1,h2⟩:=hz.run;have hr:RM σ (.d z) v:=.d (bW h2);have hc:=hr.cells rfl;obtain⟨FO,F7,h3,h4,h5⟩:=hi.zr (d:=d) (T:=T) hc;refine bS.value (u:=.pointer (some ⟨σ.w.heap.size,0,none⟩)) (w':={σ.w with heap:=σ.w.heap.push (.cells v.cells T (0,0))}) ?_ ⟨.loc d 0,_,FO,F7,⟨rfl,rfl⟩,h3,h5,?_⟩
 ·simp[execOp,Instr.alloc,h1,newVar,newRow,newObj,Sem.run]
 ·rw[<-h4];exact .loc d 0
theorem wB{T d:Nat}{x:Operand}{m:M}(hx:st.ev x=some (.m m))(Gl:m.lP=true):
  aK X ⟨some d,.box T x,ty,pos,af,g⟩ st (bt (.loc d 0) ⟨bu d st.sl,(d,cellsOf m)::st.bx,st.H⟩):=by
 intro a σ FC hi;have h:=hi.ev hx;cases h with
 |m h=>
  have hc:=h.cells Gl;obtain⟨FO,F7,h3,h4,h5⟩:=hi.zr (d:=d) (T:=T) hc;refine bS.value (u:=.pointer (some ⟨σ.w.heap.size,0,none⟩)) (w':={σ.w with heap:=σ.w.heap.push (.cells (a.eval x).cells T (0,0))}) ?_ ⟨.loc d 0,_,FO,F7,⟨rfl,rfl⟩,h3,h5,?_⟩
  ·simp[execOp,Instr.box,newVar,newRow,newObj,Sem.run]
  ·rw[<-h4];exact .loc d 0
end ops
end Go.Mt
