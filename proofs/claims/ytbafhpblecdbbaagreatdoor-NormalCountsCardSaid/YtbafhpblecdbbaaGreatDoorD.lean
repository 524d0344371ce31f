/- A part of the proof of the last text of this claim, without conditions. -/
import Derived.Test.YtbafhpblecdbbaaGreatDoorC
import Derived.Test.YtbafhpblecdbbaaGreatDoorProg
import Derived.KernelRfl
import Derived.Lib.ItoaNum
import Derived.Shelf.Small.Bits
import Derived.Shelf.Strconv.Itoa0
import Derived.Shelf.Strconv.Itoa1
import Derived.Shelf.LaysM
import Derived.Shelf.Strconv.Itoa2
import Derived.Shelf.Strconv.Itoa3
import Derived.Lib.ItoaLen
set_option maxRecDepth 4000
set_option linter.all false
namespace Go.Mt
variable{t n:Nat}{Sy:List (Nat×V)}{z:D}{ps:List (Nat×Nat)}
structure TI where
 sz:Option Nat
 ag:Option Bool
 zr:Option D
 se:Option Nat
 ik:Option IntKind
 pl:Option (List (Nat×Nat))
variable{e:TI}
def JJ(P:Program)(t:Nat):Option Nat:=match P.underlying t with
 |some (.slice e)=>some e
 |_=>none
def JK(P:Program)(t:Nat):Option IntKind:=match P.underlying t with
 |some (.int k)=>some k
 |_=>none
def Jr(P:Program)(t:Nat):TI:=⟨ij P t,rS P t,oY P t,JJ P t,JK P t,oD P t⟩
structure lh(P:Program)where
 tb:List (Nat×TI)
 ok:tb=(tb.map Prod.fst).map λt=>(t,Jr P t)
def lh.get{P:Program}(C:lh P)(h:get C.tb t=some e):e=Jr P t:=by
 have b:=get_mem h;rw[C.ok]at b;obtain⟨u,_,a⟩:=agC.1 b;injection a with a c
 subst a;exact c.symm
section
variable{P:Program}(C:lh P)
theorem lh.sz(h:Mt.get C.tb t=some e)(a:e.sz=some n):cc P t n:=⟨by rw[C.get h]at a;exact a⟩
theorem lh.cell(h:Mt.get C.tb t=some e)(a:e.ag=some false):cT P t:=⟨by rw[C.get h]at a;exact a⟩
theorem lh.agg(h:Mt.get C.tb t=some e)(a:e.ag=some true)(b:e.sz=some n):dw P t n:=⟨by rw[C.get h]at a;exact a,by rw[C.get h]at b;exact b⟩
theorem lh.zr(h:Mt.get C.tb t=some e)(a:e.zr=some z):fC P t z:=⟨by rw[C.get h]at a;exact a⟩
theorem lh.slice(h:Mt.get C.tb t=some e)(b:e.se=some n):br P t n:=⟨by
 rw[C.get h]at b;have a:JJ P t=some n:=b;unfold JJ at a;split at a
 .grind
 .cases a⟩
theorem lh.int{k:IntKind}(h:Mt.get C.tb t=some e)(b:e.ik=some k):jU P t k:=⟨by
 rw[C.get h]at b;have a:JK P t=some k:=b;unfold JK at a;split at a
 .grind
 .cases a⟩
theorem lh.str{z:List D}(h:Mt.get C.tb t=some e)(a:e.pl=some ps)(b:e.zr=some (.agg z)):cK P t ps z:=
 ⟨by rw[C.get h]at a;exact a,by rw[C.get h]at b;exact b⟩
theorem mapM_at{α β:Type}{f:α->Option β} :∀{l:List α} {ps:List β} {i:Nat} {y:β},l.mapM f=some ps->ps[i]?=some y->∃x,l[i]?=some x/\f x=some y
 |[],ps,i,y,h,a=>by grind
 |d::l,ps,i,y,h,e=>by
  rw[aiT]at h;cases a:f d with
  |none=>simp[a]at h
  |some b=>
   cases c:l.mapM f with
   |none=>simp[a,c]at h
   |some g=>
    simp[a,c]at h;subst h;cases i with
    |zero=>simp at e;subst e;exact⟨d,W,a⟩
    |succ i=>
     obtain⟨x,k,j⟩:=mapM_at c (show g[i]?=some y by grind);exact⟨x,by grind,j⟩
theorem lh.KO{f o:Nat}(h:Mt.get C.tb t=some e)(c:e.pl=some ps)(i:ps[f]?=some (o,n+1)):aS P t f o:=by
 rw[C.get h]at c;have b:oD P t=some ps:=c;unfold oD at b;split at b
 .rename_i k j;obtain⟨d,l,a⟩:=mapM_at b i;refine aH ?_;unfold rY;rw[j];simp only;rw[show k[f]?=some d by grind];simp only;cases g:ij P d.type with
  |none=>rw[g]at a;cases a
  |some m=>
   rw[g]at a;simp only[aiL,ahl,Prod.mk.injEq]at a;simp[a.1,a.2]
 .cases b
theorem lh.zc(h:Mt.get C.tb t=some e)(a:e.zr=some z):iS P t ((bP z).map .d):=⟨z,cz (C.zr h a).zero,rfl⟩
def JL:BinOp->Bool
 |.eql=>true|.neq=>true|.lss=>true|.leq=>true|.gtr=>true|.geq=>true|_=>false
def A7(op:Op)(sl:List (Nat×V))(bx:List (Nat×List M))(H:Hp):Option (V×List Nat×Bool):=match op with
 |.move x=>match bj sl x with|some v=>some (v,[],false)|none=>none
 |.assign x=>match bj sl x with|some v=>some (v,[],false)|none=>none
 |.fieldAddr s x f=>match get C.tb s with
  |none=>none
  |some e=>match e.pl with
   |none=>none
   |some ps=>match ps[f]? with
    |some (o,_+1)=>(match bj sl x with
     |some (.m (.d (.ca a d)))=>some (.m (.d (.ca a (d+o))),[],false)
     |some (.loc t a)=>some (.loc t (a+o),[],false)
     |some (.m (.ref i a))=>some (.m (.ref i (a+o)),[],false)
     |some (.m (.cF i a d))=>some (.m (.cF i a (d+o)),[],false)
     |_=>none)
    |_=>none
 |.load t x=>match get C.tb t with
  |none=>none
  |some e=>match e.ag with
   |some false=>(match bj sl x with
    |some (.m (.d (.ca a d)))=>(match a[d]? with|some v=>some (.m (.d v),[],false)|none=>none)
    |some (.loc u d)=>(match get bx u with|some a=>(match a[d]? with|some m=>some (.m m,[u],false)|none=>none)|none=>none)
    |some (.m (.ref i d))=>(match H[i]? with|some (.box a)=>(match a[d]? with|some m=>some (.m m,[],true)|none=>none)|_=>none)
    |_=>none)
   |some true=>(match e.sz with
    |none=>none
    |some n=>match bj sl x with
     |some (.m (.d (.ca a d)))=>(match d with
      |0=>bif Nat.beq a.length n then some (.m (.d (.agg a)),[],false)else(match sub a 0 n with|some a=>some (.m (.d (.agg a)),[],false)|none=>none)
      |d+1=>match sub a (d+1) n with|some a=>some (.m (.d (.agg a)),[],false)|none=>none)
     |some (.loc u d)=>(match get bx u with|some a=>(match sub a d n with|some a=>(match fY a with|some a=>some (.m (.d (.agg a)),[u],false)|none=>none)|none=>none)|none=>none)
     |some (.m (.ref i d))=>(match H[i]? with|some (.box a)=>(match sub a d n with|some a=>(match fY a with|some a=>some (.m (.d (.agg a)),[],true)|none=>none)|none=>none)|_=>none)
     |_=>none)
   |none=>none
 |.pick c x y=>match bj sl c with
  |some (.m (.d (.bool b)))=>(match bj sl (bif b then x else y)with|some v=>some (v,[],false)|none=>none)
  |_=>none
 |.nilCheck x=>match bj sl x with
  |some v=>(match si v with|true=>some (v,[],false)|false=>none)
  |none=>none
 |.extract x i=>match bj sl x with
  |some (.m (.c_ a))=>(match a[i]? with|some m=>some (.m m,[],false)|none=>none)
  |_=>none
 |.unOp .not a x=>match bj sl x with
  |some (.m (.d (.bool b)))=>some (.m (.d (.bool (!b))),[],false)
  |_=>none
 |.binOp op a x y d=>match JL op with
  |false=>none
  |true=>(match bj sl x with
   |some (.m (.d (.int k m)))=>(match bj sl y with
    |some (.m (.d (.int a n)))=>(match decEq k a with
     |.isTrue _=>(match lC op k m n with|some r=>some (.m (.d r),[],false)|none=>none)
     |.isFalse _=>none)
    |_=>none)
   |some (.m (.d (.str s)))=>(match bj sl y with
    |some (.m (.d (.str u)))=>(match op with
     |.eql=>some (.m (.d (.bool (decide (s=u)))),[],false)
     |.neq=>some (.m (.d (.bool (!decide (s=u)))),[],false)
     |_=>none)
    |_=>none)
   |_=>none)
 |.box t x=>match bj sl x with
  |some (.m (.d v))=>some (.m (.d (.ca (bP v) 0)),[],false)
  |_=>none
 |.call ⟨.builtin .len,⟨[x]⟩,⟨[t]⟩⟩=>match get C.tb t with
  |none=>none
  |some e=>match e.se with
   |none=>none
   |some _=>match bj sl x with
    |some (.m (.d v))=>(match oc v with|some n=>some (.m (.d (.int .i64 n)),[],false)|none=>none)
    |_=>none
 |.build T ⟨a⟩=>match get C.tb T with
  |none=>none
  |some e=>match e.pl,e.zr with
   |some ps,some (.agg z)=>(match ez sl a,mm z with
    |some ms,some a=>(match jH ps a ms with
     |some a=>(match fY a with|some a=>some (.m (.d (.agg a)),[],false)|none=>none)
     |none=>none)
    |_,_=>none)
   |_,_=>none
 |.buildSlice T d ⟨g⟩=>match get C.tb T with
  |none=>none
  |some e=>match e.se with
   |none=>none
   |some a=>match get C.tb a with
    |none=>none
    |some a=>match a.sz,a.zr with
     |some n,some z=>bif Nat.blt 0 n&&Nat.beq (bP z).length n&&Nat.ble (d*n) 16777216 then(match ez sl g with
      |some ms=>(match k7 0 ms with
       |some a=>bif Nat.beq a.length d&&ju n a then some (.m (.d (.sl a)),[],false)else none
       |none=>none)
      |none=>none)else none
     |_,_=>none
 |.makeFunc (.func f) ⟨[]⟩ ⟨a⟩=>match gj sl a with
  |some a=>some (.m (.d (.fn f a)),[],false)
  |none=>none
 |.convert s t x=>match get C.tb s,get C.tb t with
  |some a,some b=>(match a.ik,b.ik with
   |some _,some a=>(match bj sl x with
    |some (.m (.d (.int _ n)))=>some (.m (.d (.int a (a.wrap n))),[],false)
    |_=>none)
   |_,_=>none)
  |_,_=>none
 |_=>none
end
section
variable{X:cY}{ops:Array Oper}{rest:List Oper}{sl:List (Nat×V)}{bx:List (Nat×List M)}{H:Hp}{d ty:Nat}{pos:String}{af:Array Edge}
def xG:∀{ps:List (Nat×Operand)},(∀p∈ps,bj Sy p.2=bj sl p.2)->ez Sy ps=ez sl ps
 |[],_=>rfl
 |(i,x)::r,h=>by simp only[ez];rw[h (i,x) (by simp),xG (ps:=r) λp a=>h p (by simp[a])]
def BS:∀{ps:List Operand},(∀p∈ps,bj Sy p=bj sl p)->gj Sy ps=gj sl ps
 |[],_=>rfl
 |x::r,h=>by simp only[gj];rw[h x (by simp),BS (ps:=r) λp a=>h p (by simp[a])]
def zP(C:lh X.P){op:Op}{v:V}{rs:List Nat}{k:Bool}(h:A7 C op sl bx H=some (v,rs,k)){i:List (Nat×List M)}{j:Hp}
  (a:∀x∈op.operands.toList,bj Sy x=bj sl x) (l:∀u∈rs,get i u=get bx u) (m:k=true->j=H):cJ X ⟨some d,op,ty,pos,af,none⟩ ⟨Sy,i,j⟩ (dm v ⟨Sy,i,j⟩):=by
 unfold A7 at h;split at h
 .split at h
  .rename_i c;cases h;exact wU ((a _ (by simp[Op.operands])).trans c)
  .cases h
 .split at h
  .rename_i c;cases h;exact rT ((a _ (by simp[Op.operands])).trans c)
  .cases h
 .split at h
  .cases h
  .rename_i ht;split at h
   .cases h
   .rename_i f;split at h
    .rename_i n;have o:=C.KO ht f n;split at h
     .rename_i c;cases h;exact rZ ((a _ (by simp[Op.operands])).trans c)
     .rename_i c;cases h;exact r_ ((a _ (by simp[Op.operands])).trans c)
     .rename_i c;cases h;exact sd ((a _ (by simp[Op.operands])).trans c)
     .rename_i c;cases h;exact sg ((a _ (by simp[Op.operands])).trans c)
     .cases h
    .cases h
 .split at h
  .cases h
  .rename_i e ht;split at h
   .rename_i f;have n:=C.cell ht f;split at h
    .rename_i c;split at h
     .rename_i o;cases h;exact rW ((a _ (by simp[Op.operands])).trans c) o
     .cases h
    .rename_i c;split at h
     .rename_i o;split at h
      .rename_i p;cases h;exact sp ((a _ (by simp[Op.operands])).trans c) ((l _ (by simp)).trans o) p
      .cases h
     .cases h
    .rename_i c;split at h
     .rename_i o;split at h
      .rename_i p;cases h;have:=m W;subst this;exact k9 ((a _ (by simp[Op.operands])).trans c) o (by unfold ef;rw[n.cell];exact p)
      .cases h
     .cases h
    .cases h
   .rename_i q;split at h
    .cases h
    .rename_i p r;have n:=C.agg ht q r;split at h
     .rename_i c;split at h
      .cases f:Nat.beq (List.length _) p with
       |true=>rw[f]at h;cases h;exact rX ((a _ (by simp[Op.operands])).trans c) (agO f)
       |false=>
        rw[f]at h;simp only[aiu]at h;split at h
        .rename_i o;cases h;exact o4 ((a _ (by simp[Op.operands])).trans c) (agV (sub_eq o).1) (sub_eq o).2
        .cases h
      .split at h
       .rename_i f;cases h;exact o4 ((a _ (by simp[Op.operands])).trans c) (agV (sub_eq f).1) (sub_eq f).2
       .cases h
     .rename_i f;split at h
      .rename_i o;split at h
       .rename_i c;split at h
        .rename_i s;cases h;exact sq ((a _ (by simp[Op.operands])).trans f) ((l _ (by simp)).trans o) (agV (sub_eq c).1) (by rw[(sub_eq c).2];exact s)
        .cases h
       .cases h
      .cases h
     .rename_i f;split at h
      .rename_i o;split at h
       .rename_i c;split at h
        .rename_i s;cases h;have:=m W;subst this;exact k9 ((a _ (by simp[Op.operands])).trans f) o (by unfold ef;rw[n.agg,n.size];simp only[agV (sub_eq c).1,ag6];rw[(sub_eq c).2];unfold pack;rw[s])
        .cases h
       .cases h
      .cases h
     .cases h
   .cases h
 .split at h
  .rename_i b f;split at h
   .rename_i c;cases h;cases b with
    |true=>exact rU ((a _ (by simp[Op.operands])).trans f) ((a _ (by simp[Op.operands])).trans c)
    |false=>exact rV ((a _ (by simp[Op.operands])).trans f) ((a _ (by simp[Op.operands])).trans c)
   .cases h
  .cases h
 .split at h
  .rename_i c;split at h
   .rename_i f;cases h;exact o5 ((a _ (by simp[Op.operands])).trans c) f
   .cases h
  .cases h
 .split at h
  .rename_i c;split at h
   .rename_i f;cases h;exact pW ((a _ (by simp[Op.operands])).trans c) f
   .cases h
  .cases h
 .split at h
  .rename_i c;cases h;exact AJ ((a _ (by simp[Op.operands])).trans c)
  .cases h
 .split at h
  .cases h
  .split at h
   .rename_i c;split at h
    .rename_i n;split at h
     .rename_i o _;subst o;split at h
      .rename_i f;cases h;exact s5 ((a _ (by simp[Op.operands])).trans c) ((a _ (by simp[Op.operands])).trans n) f
      .cases h
     .cases h
    .cases h
   .rename_i c;split at h
    .rename_i f;split at h
     .cases h;exact zo ((a _ (by simp[Op.operands])).trans c) ((a _ (by simp[Op.operands])).trans f)
     .cases h;exact E' ((a _ (by simp[Op.operands])).trans c) ((a _ (by simp[Op.operands])).trans f)
     .cases h
    .cases h
   .cases h
 .split at h
  .rename_i c;cases h;exact Eo ((a _ (by simp[Op.operands])).trans c)
  .cases h
 .split at h
  .cases h
  .rename_i ht;split at h
   .cases h
   .rename_i f;have o:=C.slice ht f;split at h
    .rename_i c;split at h
     .rename_i n;cases h;exact wY ((a _ (by simp[Op.operands,Call.operands])).trans c) n
     .cases h
    .cases h
 .split at h
  .cases h
  .rename_i ht;split at h
   .rename_i f q;have p:=C.str ht f q;split at h
    .rename_i n u;split at h
     .rename_i r s;split at h
      .rename_i t o;cases h;have c:=mH (ht:=p) (X:=X) (dst:=some d) (ty:=ty) (pos:=pos) (af:=af) (g:=none) (st:=⟨Sy,i,j⟩) (by rw[eA,xG (sl:=sl) λp c=>a _ (by simp[Op.operands];exact⟨_,c⟩)];exact n) (by rw[<-kD u];exact kZ s);have:pack r=.d (.agg t):=by simp[pack,o]
       rw[this]at c;exact c
      .cases h
     .cases h
    .cases h
   .cases h
 .split at h
  .cases h
  .rename_i ht;split at h
   .cases h
   .rename_i t;have w:=C.slice ht t;split at h
    .cases h
    .rename_i o;split at h
     .rename_i n z r u;have x:=C.sz o r;have y:=C.zr o u;cases c:(Nat.blt 0 n&&Nat.beq (bP z).length n&&Nat.ble (_*n) 16777216)with
      |false=>rw[c]at h;cases h
      |true=>
       rw[c]at h;simp only[ag6]at h;simp only[agZ]at c;split at h
       .rename_i q;split at h
        .rename_i p s;cases f:(Nat.beq p.length _&&ju n p)with
         |false=>rw[f]at h;cases h
         |true=>
          rw[f]at h;simp only[agZ]at f;cases h;exact kE c.1.1 c.1.2 c.2 (by rw[eA,xG (sl:=sl) λp c=>a _ (by simp[Op.operands];exact⟨_,c⟩)];exact q) s f.1 f.2
        .cases h
       .cases h
     .cases h
 .split at h
  .rename_i c;cases h;exact s8 (by rw[mW,BS (sl:=sl) λp c=>a _ (by simp[Op.operands];exact c)];exact c)
  .cases h
 .split at h
  .rename_i f n;split at h
   .rename_i o p;have q:=C.int f o;have r:=C.int n p;split at h
    .rename_i c;cases h;exact uC ((a _ (by simp[Op.operands])).trans c)
    .cases h
   .cases h
  .cases h
 .cases h
end
end Go.Mt
namespace Go.Mt
variable{post:List Ef->St->Prop}
def gate(ops:Array Oper)(sl:List (Nat×V)):Option (Nat×Bool)->Option Bool
 |none=>some true
 |some (j,w)=>match ops[j]? with
  |some q=>(match q.dst with
   |some g=>(match get sl g with
    |some (.m (.d (.bool b)))=>some (b==w)
    |some (.m (.c_ []))=>some false
    |_=>none)
   |none=>none)
  |none=>none
inductive So where
 |go (sl:List (Nat×V)) (bx:List (Nat×List M)) (e:Ef)
 |no
def sF{P:Program}(C:lh P)(N:Nat)(ops:Array Oper)(o:Oper)(sl:List (Nat×V))(bx:List (Nat×List M))(H:Hp):So:=match gate ops sl o.guard with
 |some false=>(match o.dst with
  |some d=>bif Nat.blt d N then .go ((d,.m (.c_ []))::sl) bx ⟨some d,.m (.c_ []),[],[],none,false,none⟩else .no
  |none=>.no)
 |some true=>(match o.dst with
  |some d=>bif Nat.blt d N then(match o.op with
   |.alloc T=>(match get C.tb T with
    |some e=>(match e.zr with
     |some z=>(match mm (bP z)with
      |some a=>bif gJ d sl then .go ((d,.loc d 0)::sl) ((d,a)::bx) ⟨some d,.loc d 0,[],[(d,a)],some d,false,none⟩else .no
      |none=>.no)
     |none=>.no)
    |none=>.no)
   |a=>match A7 C a sl bx H with
    |some (v,a,b)=>.go ((d,v)::sl) bx ⟨some d,v,a,[],none,b,none⟩
    |none=>.no)else .no
  |none=>(match o.op with
   |.store T x y=>(match bj sl x with
    |some (.loc t c)=>(match bj sl y with
     |some (.m m)=>(match get bx t with
      |some b=>(match fj m with
       |some a=>(match get C.tb T with
        |some e=>(match e.sz with
         |some n=>bif Nat.beq a.length n then(match wr b c a with
          |some a=>.go sl ((t,a)::bx) ⟨none,.m .undef,[],[(t,a)],none,false,none⟩
          |none=>.no)else .no
         |none=>.no)
        |none=>.no)
       |none=>.no)
      |none=>.no)
     |_=>.no)
    |_=>.no)
   |_=>.no))
 |none=>.no
section
variable{X:cY}{ops:Array Oper}{o:Oper}{rest:List Oper}{sl LJ:List (Nat×V)}{bx L4:List (Nat×List M)}{H:Hp}{e:Ef}
def vI(C:lh X.P)(h:sF C X.n ops o sl bx H=.go LJ L4 e):(gate ops sl o.guard=some false/\∃d,o.dst=some d/\Nat.blt d X.n=true/\LJ=(d,.m (.c_ []))::sl/\L4=bx/\e=⟨some d,.m (.c_ []),[],[],none,false,none⟩)\/
  (gate ops sl o.guard=some true/\((∃d,o.dst=some d/\Nat.blt d X.n=true/\((∃T cs,o.op=.alloc T/\iS X.P T cs/\gJ d sl=true/\LJ=(d,.loc d 0)::sl/\L4=(d,cs)::bx/\e=⟨some d,.loc d 0,[],[(d,cs)],some d,false,none⟩)\/
   (∃v rs a,A7 C o.op sl bx H=some (v,rs,a)/\LJ=(d,v)::sl/\L4=bx/\e=⟨some d,v,rs,[],none,a,none⟩)))\/
   (o.dst=none/\∃T x y t off m cs new n a,o.op=.store T x y/\cc X.P T n/\bj sl x=some (.loc t off)/\bj sl y=some (.m m)/\get bx t=some cs/\fj m=some new/\Nat.beq new.length n=true/\wr cs off new=some a/\
    LJ=sl/\L4=(t,a)::bx/\e=⟨none,.m .undef,[],[(t,a)],none,false,none⟩))):=by
 unfold sF at h;split at h
 .rename_i b;split at h
  .rename_i d c;cases a:Nat.blt d X.n with
   |false=>rw[a]at h;cases h
   |true=>rw[a]at h;cases h;exact .inl ⟨b,d,c,a,W,W,W⟩
  .cases h
 .rename_i c;refine .inr ⟨c,?_⟩;split at h
  .rename_i d f;cases a:Nat.blt d X.n with
   |false=>rw[a]at h;cases h
   |true=>
    rw[a]at h;simp only[ag6]at h;refine .inl ⟨d,f,a,?_⟩;split at h
    .rename_i T g;split at h
     .rename_i i;split at h
      .rename_i z j;split at h
       .rename_i cs k;cases b:gJ d sl with
        |false=>rw[b]at h;cases h
        |true=>rw[b]at h;cases h;exact .inl ⟨T,cs,g,by rw[kD k];exact C.zc i j,W,W,W,W⟩
       .cases h
      .cases h
     .cases h
    .split at h
     .rename_i v rs b g;cases h;exact .inr ⟨v,rs,b,g,W,W,W⟩
     .cases h
  .rename_i f;split at h
   .rename_i T x y i;split at h
    .rename_i t off l;split at h
     .rename_i m p;split at h
      .rename_i cs q;split at h
       .rename_i new k;split at h
        .rename_i j;split at h
         .rename_i n g;cases a:Nat.beq new.length n with
          |false=>rw[a]at h;cases h
          |true=>
           rw[a]at h;simp only[ag6]at h;split at h
           .rename_i b r;cases h;exact .inr ⟨f,T,x,y,t,off,m,cs,new,n,b,i,C.sz j g,l,p,q,k,a,r,W,W,W⟩
           .cases h
         .cases h
        .cases h
       .cases h
      .cases h
     .cases h
    .cases h
   .cases h
 .cases h
def nW{b:Bool}(h:gate ops sl o.guard=some b):iw ops o ⟨sl,bx,H⟩=some b:=by
 unfold gate at h;unfold iw;split at h
 .grind
 .grind
def BT(C:lh X.P){post:St->Prop}(h:sF C X.n ops o sl bx H=.go LJ L4 e)(k:TL X ops rest ⟨LJ,L4,H⟩ post):TL X ops (o::rest) ⟨sl,bx,H⟩ post:=by
 rcases vI C h with⟨b,d,a,c,rfl,rfl,_⟩|⟨b,⟨d,a,c,⟨T,t,f,F,g,rfl,rfl,_⟩|⟨v,G,I,u,rfl,rfl,_⟩⟩|⟨a,T,A,B,D,M,m,t,N,E,J,f,K,i,j,l,n,p,q,rfl,rfl,_⟩⟩
 .exact TL.skip (nW b) a c k
 .obtain⟨z,s,w,L,x,r⟩:=o;subst a;subst f;cases r with
  |none=>exact aM c g k
  |some y=>exact aE (nW b) (aM c g k)
 .obtain⟨O,w,x,z,y,s⟩:=o;subst a;have r:=TL.kz (X:=X) (ops:=ops) (rest:=rest) (post:=post) (o:=⟨some d,w,x,z,y,none⟩) W W c (zP C u (λ_ _=>rfl) (λ_ _=>rfl) λ_=>rfl) k;cases s with
  |none=>exact r
  |some L=>exact aE (nW b) r
 .obtain⟨z,s,w,L,x,r⟩:=o;subst a;subst f;cases r with
  |none=>exact aC i j l n p q k
  |some y=>exact aE (nW b) (aC i j l n p q k)
theorem A8{dst:Option Nat}{op:Op}{ty:Nat}{pos:String}{af:Array Edge}{g:Option (Nat×Bool)}(a:gate ops sl g=some true)
  (k:TF X ops (⟨dst,op,ty,pos,af,none⟩::rest) ⟨sl,bx,H⟩ post):TF X ops (⟨dst,op,ty,pos,af,g⟩::rest) ⟨sl,bx,H⟩ post:=by
 cases g with
 |none=>exact k
 |some c=>
  obtain⟨j,w⟩:=c;simp only[gate]at a;split at a
  .rename_i q e;split at a
   .rename_i g f;split at a
    .rename_i b d;injection a with a
     have:b=w:=by grind
     subst this;exact bA (by grind) d k
    .cases a
    .cases a
   .cases a
  .cases a
theorem BU(C:lh X.P)(h:sF C X.n ops o sl bx H=.go LJ L4 e)(k:TF X ops rest ⟨LJ,L4,H⟩ λa c=>post (e::a) c):TF X ops (o::rest) ⟨sl,bx,H⟩ post:=by
 rcases vI C h with⟨a,d,c,f,rfl,rfl,rfl⟩|⟨a,⟨d,c,f,⟨T,n,i,G,I,rfl,rfl,rfl⟩|⟨v,p,q,r,rfl,rfl,rfl⟩⟩|⟨c,T,y,z,A,O,m,n,P,B,J,i,K,s,t,g,u,l,w,rfl,rfl,rfl⟩⟩
 .obtain⟨Q,L,M,R,N,j⟩:=o;subst c;cases j with
  |none=>cases a
  |some x=>
   obtain⟨D,E⟩:=x;simp only[gate]at a;split at a
   .rename_i F l;split at a
    .rename_i j c;split at a
     .rename_i b g;injection a with a;exact f_ f (by grind) g a k
     .rename_i g;exact jm f (by grind) g k
     .cases a
    .cases a
   .cases a
 .obtain⟨F,x,D,L,E,j⟩:=o;subst c;subst i;exact A8 a (fk f k)
 .obtain⟨F,x,D,L,E,j⟩:=o;subst c;exact A8 a (TF.cons (e:=⟨some d,v,p,[],none,q,none⟩) (Lm W W (bL f) λa a=>zP C r (λx c=>a.ev c) (λu c=>a.bx u (by simp[c])) λc=>a.H (by simp[c])) W k)
 .obtain⟨F,x,D,L,E,j⟩:=o;subst c;subst i;exact A8 a (bS s t g u l w k)
end
end Go.Mt
namespace Go.Mt
variable{H:Hp}{P:Program}{X:cY}{ops:Array Oper}{N:Nat}{sl LJ:List (Nat×V)}{bx L4:List (Nat×List M)}{post:Exit->St->Prop}{r r':List Oper}
inductive K where
 |c (x:Code)
 |b (id:Nat)
abbrev xH:=Code->St->(Exit->St->Prop)->Prop
variable{C:xH}
abbrev Hc:=Array Oper->List Oper->St->(St->Prop)->Prop
variable{L:Hc}
def Kp(C:xH):List K->(Exit->St->Prop)->Exit->St->Prop
 |[],post=>post
 |.c y::a,post=>after (Kp C a post) λs=>C y s (Kp C a post)
 |.b b::a,post=>mU b (Kp C a post)
def Kn(C:xH)(a:List K)(post:Exit->St->Prop):St->Prop:= λs=>Kp C a post .normal s
inductive Cf where
 |code (x:Code) (a:List K)
 |ops (os:Array Oper) (r:List Oper) (a:List K)
 |Fm (a:List K)
def Cf.den(C:xH)(L:Hc)(post:Exit->St->Prop):Cf->St->Prop
 |.code x a,s=>C x s (Kp C a post)
 |.ops b r a,s=>L b r s (Kn C a post)
 |.Fm a,s=>Kp C a post .normal s
inductive Sp where
 |go (c:Cf) (ps:List Nat) (sl:List (Nat×V)) (bx:List (Nat×List M))
 |no
def stops(ps:List Nat)(o:Oper):Bool:=match ps with
 |p::_=>(match o.dst with|some d=>Nat.beq p (d+4)|none=>Nat.beq p 999)
 |[]=>false
def xI{P:Program}(D:lh P)(N:Nat)(H:Hp)(ps:List Nat)(sl:List (Nat×V))(bx:List (Nat×List M)):Cf->Sp
 |.code x a=>(match x with
  |.seq d b=>.go (.code d (.c b::a)) ps sl bx
  |.skip=>.go (.Fm a) ps sl bx
  |.block d y=>(match ps with
   |3::ps=>.go (.code y (.b d::a)) ps sl bx
   |_=>.no)
  |.cond c y z=>(match ps with
   |1::ps=>(match bj sl c with
    |some (.m (.d (.bool true)))=>.go (.code y a) ps sl bx
    |_=>.no)
   |0::ps=>(match bj sl c with
    |some (.m (.d (.bool false)))=>.go (.code z a) ps sl bx
    |_=>.no)
   |_=>.no)
  |.region _ ⟨d⟩ false=>(match ps with
   |2::ps=>.go (.ops ⟨d⟩ d a) ps sl bx
   |_=>.no)
  |_=>.no)
 |.ops d r a=>(match r with
  |[]=>.go (.Fm a) ps sl bx
  |o::r=>bif stops ps o then .no else(match sF D N d o sl bx H with
   |.go sl bx _=>.go (.ops d r a) ps sl bx
   |.no=>.no))
 |.Fm a=>(match a with
  |.c y::a=>.go (.code y a) ps sl bx
  |.b _::a=>.go (.Fm a) ps sl bx
  |[]=>.no)
inductive Rs where
 |at(c:Cf) (sl:List (Nat×V)) (bx:List (Nat×List M))
 |out
def qi{P:Program}(D:lh P)(N:Nat)(H:Hp):Nat->Cf->List Nat->List (Nat×V)->List (Nat×List M)->Rs
 |0,_,_,_,_=>.out
 |f+1,c,ps,sl,bx=>match xI D N H ps sl bx c with
  |.go c ps sl bx=>qi D N H f c ps sl bx
  |.no=>.at c sl bx
structure Mode(P:Program)(N:Nat)(C:xH)(L:Hc):Prop where
 seq:∀x y st post,C x st (after post λs=>C y s post)->C (.seq x y) st post
 skip:∀st post,post .normal st->C .skip st post
 block:∀id x st post,C x st (mU id post)->C (.block id x) st post
 ct:∀c x y st post,st.ev c=some (.m (.d (.bool true)))->C x st post->C (.cond c x y) st post
 cf:∀c x y st post,st.ev c=some (.m (.d (.bool false)))->C y st post->C (.cond c x y) st post
 region:∀id (os:List Oper) st post,L os.toArray os st (post .normal)->C (.region id os.toArray false) st post
 nil:∀os st (post:St->Prop),post st->L os [] st post
 row:∀(D:lh P) os o r sl bx LJ L4 e H (post:St->Prop),sF D N os o sl bx H=.go LJ L4 e->L os r ⟨LJ,L4,H⟩ post->L os (o::r) ⟨sl,bx,H⟩ post
def Fo(a:Mode P N C L)(D:lh P){ps e:List Nat}{c b:Cf}
  (h:xI D N H ps sl bx c=.go b e LJ L4) (k:b.den C L post ⟨LJ,L4,H⟩):c.den C L post ⟨sl,bx,H⟩:=by
 cases c with
 |code x f=>
  simp only[xI]at h;split at h
  .cases h;exact a.seq _ _ _ _ k
  .cases h;exact a.skip _ _ k
  .split at h
   .cases h;exact a.block _ _ _ _ k
   .cases h
  .split at h
   .split at h
    .rename_i d;cases h;exact a.ct _ _ _ _ _ d k
    .cases h
   .split at h
    .rename_i d;cases h;exact a.cf _ _ _ _ _ d k
    .cases h
   .cases h
  .split at h
   .cases h;exact a.region _ _ _ _ k
   .cases h
  .cases h
 |ops i r g=>
  simp only[xI]at h;split at h
  .cases h;exact a.nil _ _ _ k
  .cases d:stops ps _ with
   |true=>rw[d]at h;cases h
   |false=>
    rw[d]at h;simp only[aiu]at h;split at h
    .rename_i f;cases h;exact a.row D _ _ _ _ _ _ _ _ _ _ f k
    .cases h
 |Fm d=>
  simp only[xI]at h;split at h
  .cases h;exact k
  .cases h;exact k
  .cases h
def kH(a:Mode P N C L)(D:lh P):∀(f:Nat) {ps:List Nat} {sl LJ:List (Nat×V)} {bx L4:List (Nat×List M)} {c a:Cf},
  qi D N H f c ps sl bx=.at a LJ L4->a.den C L post ⟨LJ,L4,H⟩->c.den C L post ⟨sl,bx,H⟩
 |0,_,_,_,_,_,_,_,h,_=>by cases h
 |f+1,ps,sl,LJ,bx,L4,c,d,h,k=>by
  simp only[qi]at h;split at h
  .rename_i b;exact Fo a D b (kH a D f h k)
  .grind
def A9(X:cY):Mode X.P X.n (TC X) (TL X)where
 seq _ _ _ _ h:=TC.seq h
 skip _ _ h:=TC.skip h
 block _ _ _ _ h:=TC.block h
 ct _ _ _ _ _ hc h:=TC.cond hc (λ_=>h) λh=>by cases h
 cf _ _ _ _ _ hc h:=TC.cond hc (λh=>by cases h) λ_=>h
 region _ _ _ _ h:=TC.region h
 nil _ _ _ h:=TL.nil h
 row D _ _ _ _ _ _ _ _ _ _ h k:=BT D h k
def DL(P:Program)(n:Nat)(os:Array Oper)(r:List Oper)(st:St)(Q:St->Prop):Prop:=∃s,(∀a b,TL ⟨P,n,a,b,[]⟩ os r st λa=>a=s)/\Q s
def A_(P:Program)(n B:Nat):Mode P n (DC P n B) (DL P n)where
 seq _ _ _ _ h:=DC.seq h
 skip _ _ h:=DC.skip h
 block _ _ _ _ h:=DC.block h
 ct _ _ _ _ _ hc h:=DC.cond hc (λ_=>h) λh=>by cases h
 cf _ _ _ _ _ hc h:=DC.cond hc (λh=>by cases h) λ_=>h
 region _ _ _ _ h:=DC.region h
 nil _ st _ h:=⟨st,λ_ _=>TL.nil W,h⟩
 row D _ _ _ _ _ _ _ _ _ _ h k:=by
  obtain⟨s,h1,h2⟩:=k;exact⟨s,λs0 Oo=>BT (X:=⟨P,n,s0,Oo,[]⟩) D h (h1 s0 Oo),h2⟩
def K_{n:Nat}{os:Array Oper}{st a:St}{Q:St->Prop}(h:∀{s0 Oo} {p:St->Prop},TL ⟨P,n,s0,Oo,[]⟩ os r' a p->TL ⟨P,n,s0,Oo,[]⟩ os r st p)(k:DL P n os r' a Q):DL P n os r st Q:=by
 obtain⟨s,b,c⟩:=k;exact⟨s,λs0 Oo=>h (b s0 Oo),c⟩
def qj{P:Program}(C:lh P)(N:Nat)(ops:Array Oper)(H:Hp):Nat->List Oper->List (Nat×V)->List (Nat×List M)->List Ef->Option (List Oper×List (Nat×V)×List (Nat×List M)×List Ef)
 |0,r,sl,bx,a=>some (r,sl,bx,a)
 |n+1,o::r,sl,bx,a=>(match sF C N ops o sl bx H with
  |.go sl bx e=>qj C N ops H n r sl bx (e::a)
  |.no=>none)
 |_+1,[],_,_,_=>none
def TF.run(C:lh X.P):∀(n:Nat) {post:List Ef->St->Prop} {r a:List Oper} {sl LJ:List (Nat×V)} {bx L4:List (Nat×List M)} {es b:List Ef},
  qj C X.n ops H n r sl bx es=some (a,LJ,L4,b)->TF X ops a ⟨LJ,L4,H⟩ (λa c=>post (b.reverse++a) c)->TF X ops r ⟨sl,bx,H⟩ λa b=>post (es.reverse++a) b
 |0,post,r,a,sl,LJ,bx,L4,es,b,h,k=>by cases h;exact k
 |n+1,post,[],a,sl,LJ,bx,L4,es,b,h,k=>by cases h
 |n+1,post,o::r,b,sl,LJ,bx,L4,es,c,h,k=>by
  simp only[qj]at h;split at h
  .rename_i e a;refine BU C a ?_;have:=TF.run C n (post:=post) h k;simpa using this
  .cases h
def TF.rn(C:lh X.P)(n:Nat){post:List Ef->St->Prop}{a:List Ef}
  (h:qj C X.n ops H n r sl bx []=some (r',LJ,L4,a)) (k:TF X ops r' ⟨LJ,L4,H⟩ λb c=>post (a.reverse++b) c):TF X ops r ⟨sl,bx,H⟩ post:=TF.run C n (post:=post) h k
def lX.run{I:Hp->Prop}(C:lh X.P):∀(n:Nat) {post:List Ef->St->Prop} {r a:List Oper} {sl LJ:List (Nat×V)} {bx L4:List (Nat×List M)} {es b:List Ef},
  qj C X.n ops H n r sl bx es=some (a,LJ,L4,b)->lX X I ops a ⟨LJ,L4,H⟩ (λa c=>post (b.reverse++a) c)->lX X I ops r ⟨sl,bx,H⟩ λa b=>post (es.reverse++a) b
 |0,post,r,a,sl,LJ,bx,L4,es,b,h,k=>by cases h;exact k
 |n+1,post,[],a,sl,LJ,bx,L4,es,b,h,k=>by cases h
 |n+1,post,o::r,b,sl,LJ,bx,L4,es,c,h,k=>by
  simp only[qj]at h;split at h
  .rename_i e a;refine NN (BU C a (TF.nil ⟨W,W⟩)) ?_;have:=lX.run C n (post:=post) h k;simpa using this
  .cases h
end Go.Mt
namespace Go.Mt
section
variable{P:Program}{f:Nat}{fn:Func}{c:Code}{ms:List M}{H:Hp}{post:M->Hp->Prop}{n:Nat}
def CT.ob(a:P.funcs[f]?=some fn)(b:fn.body=some c)(d:fn.ntmps=n)(e:Nat.ble ms.length n=true)
  (h:∀(a:Sg) (b:Nat->Nat->Prop),TC ⟨P,n,a,b,[]⟩ c ⟨lV 0 ms,[],H⟩ (Kp (TC ⟨P,n,a,b,[]⟩) [] (pX P fn post))):CT P f ms H post:=Lf a b d e h
def DT.ob(a:P.funcs[f]?=some fn)(b:fn.body=some c)(d:fn.ntmps=n)(e:Nat.ble ms.length n=true)
  (h:DC P n H.length c ⟨lV 0 ms,[],H⟩ (Kp (DC P n H.length) [] (pX P fn post))):DT P f ms H post:=Lj a b d e h
end
section
variable{X:cY}{st:St}{c x y:Code}{sl:List (Nat×V)}{bx:List (Nat×List M)}{H:Hp}{post:Exit->St->Prop}{P:Program}{n B:Nat}
def TC.lp(I:Nat->St->Prop)(a:Nat)(LJ:List (Nat×V))(b:I a ⟨LJ,bx,H⟩)(d:keeps sl LJ)
  (e:∀k s,I k s->TC X c s (Kp (TC X) [] (after post λd=>∃a b,a<k/\I a b/\∀a w,Inv X d a w->Inv X b a w))):TC X (.loop c) ⟨sl,bx,H⟩ post:=
 TC.C4 I a _ b (λa w a=>a.gN (gA d) λ_=>rfl) e
def NB(I:Nat->St->Prop)(a:Nat)(LJ:List (Nat×V))(b:I a ⟨LJ,bx,H⟩)(d:keeps sl LJ)
  (e:∀k s,I k s->DC P n B c s (Kp (DC P n B) [] (after post λa=>xx P n B I k a))):DC P n B (.loop c) ⟨sl,bx,H⟩ post:=DC.loop I a LJ b d e
def DC.md(a:St)(b:DC P n B x st (Kp (DC P n B) [] (after post λs=>∀b d,b.H.length<=B->∀c w,Inv ⟨P,n,b,d,[]⟩ s c w->Inv ⟨P,n,b,d,[]⟩ a c w)))(c:DC P n B y a post):DC P n B x st (after post λs=>DC P n B y s post):=DC.GX a b c
end
section
variable{X:cY}{ops:Array Oper}{rest:List Oper}{sl:List (Nat×V)}{bx:List (Nat×List M)}{H:Hp}{post:St->Prop}{d ty:Nat}{pos:String}{af:Array Edge}
def dW{op:BinOp}{c e:Nat}{x y:Operand}{a:IntKind}{m n:Int}{b' b:Bool}(f:b'=b)(g:Nat.blt d X.n=true)(h:bj sl x=some (.m (.d (.int a m))))(i:bj sl y=some (.m (.d (.int a n))))(j:lC op a m n=some (.bool b'))
  (k:TL X ops rest ⟨(d,.m (.d (.bool b)))::sl,bx,H⟩ post):TL X ops (⟨some d,.binOp op c x y e,ty,pos,af,none⟩::rest) ⟨sl,bx,H⟩ post:=av g h i (f▸j) k
end
end Go.Mt
namespace Go.Proofs
open Go.Mt
open Tryz
instance:cc prog 3 1:=⟨by kernel_rfl⟩
instance:cT prog 3:=⟨by kernel_rfl⟩
instance:jU prog 3 .i64:=⟨by kernel_rfl⟩
instance:cc prog 4 1:=⟨by kernel_rfl⟩
instance:cT prog 4:=⟨by kernel_rfl⟩
instance:fC prog 4 (.bool false):=⟨by kernel_rfl⟩
instance:cc prog 5 1:=⟨by kernel_rfl⟩
instance:cT prog 5:=⟨by kernel_rfl⟩
instance:jU prog 5 .u8:=⟨by kernel_rfl⟩
instance:cc prog 9 1:=⟨by kernel_rfl⟩
instance:cT prog 9:=⟨by kernel_rfl⟩
instance:AK prog 9:=⟨by kernel_rfl⟩
instance:jx prog 9 16:=⟨by kernel_rfl⟩
instance:fC prog 9 (.str ⟨#[]⟩):=⟨by kernel_rfl⟩
instance:cc prog 21 1:=⟨by kernel_rfl⟩
instance:jU prog 21 .i32:=⟨by kernel_rfl⟩
instance:br prog 22 5:=⟨by kernel_rfl⟩
instance:cc prog 24 1:=⟨by kernel_rfl⟩
instance:cT prog 24:=⟨by kernel_rfl⟩
instance:br prog 24 101:=⟨by kernel_rfl⟩
instance:fC prog 24 (.sl []):=⟨by kernel_rfl⟩
instance:cc prog 25 1:=⟨by kernel_rfl⟩
instance:cT prog 25:=⟨by kernel_rfl⟩
instance:br prog 25 36:=⟨by kernel_rfl⟩
instance:cc prog 27 2:=⟨by kernel_rfl⟩
instance:dw prog 27 2:=⟨by kernel_rfl,by kernel_rfl⟩
instance:iS prog 27 [.d (.sl []),.d (.sl [])]:=⟨.agg [.sl [],.sl []],cz (by kernel_rfl),rfl⟩
instance:aS prog 27 0 0:=aH (by kernel_rfl)
instance:aS prog 27 1 1:=aH (by kernel_rfl)
instance:cK prog 27 [(0,1),(1,1)] [.sl [],.sl []]:=⟨by kernel_rfl,by kernel_rfl⟩
instance:cc prog 29 1:=⟨by kernel_rfl⟩
instance:cT prog 29:=⟨by kernel_rfl⟩
instance:br prog 29 110:=⟨by kernel_rfl⟩
instance:cc prog 31 2:=⟨by kernel_rfl⟩
instance:dw prog 31 2:=⟨by kernel_rfl,by kernel_rfl⟩
instance:iS prog 31 [.d (.sl []),.d (.sl [])]:=⟨.agg [.sl [],.sl []],cz (by kernel_rfl),rfl⟩
instance:aS prog 31 0 0:=aH (by kernel_rfl)
instance:aS prog 31 1 1:=aH (by kernel_rfl)
instance:cK prog 31 [(0,1),(1,1)] [.sl [],.sl []]:=⟨by kernel_rfl,by kernel_rfl⟩
instance:cc prog 33 1:=⟨by kernel_rfl⟩
instance:cT prog 33:=⟨by kernel_rfl⟩
instance:br prog 33 55:=⟨by kernel_rfl⟩
instance:fC prog 33 (.sl []):=⟨by kernel_rfl⟩
instance:cc prog 34 1:=⟨by kernel_rfl⟩
instance:cT prog 34:=⟨by kernel_rfl⟩
instance:br prog 34 45:=⟨by kernel_rfl⟩
instance:cc prog 36 5:=⟨by kernel_rfl⟩
instance:dw prog 36 5:=⟨by kernel_rfl,by kernel_rfl⟩
instance:jx prog 36 112:=⟨by kernel_rfl⟩
instance:fC prog 36 (.agg [.str ⟨#[]⟩,.sl [],.sl [],.sl [],.sl []]):=⟨by kernel_rfl⟩
instance:iS prog 36 [.d (.str ⟨#[]⟩),.d (.sl []),.d (.sl []),.d (.sl []),.d (.sl [])]:=⟨.agg [.str ⟨#[]⟩,.sl [],.sl [],.sl [],.sl []],cz (by kernel_rfl),rfl⟩
instance:aS prog 36 0 0:=aH (by kernel_rfl)
instance:aS prog 36 1 1:=aH (by kernel_rfl)
instance:aS prog 36 2 2:=aH (by kernel_rfl)
instance:aS prog 36 3 3:=aH (by kernel_rfl)
instance:aS prog 36 4 4:=aH (by kernel_rfl)
instance:cK prog 36 [(0,1),(1,1),(2,1),(3,1),(4,1)] [.str ⟨#[]⟩,.sl [],.sl [],.sl [],.sl []]:=⟨by kernel_rfl,by kernel_rfl⟩
instance:cc prog 37 1:=⟨by kernel_rfl⟩
instance:cT prog 37:=⟨by kernel_rfl⟩
instance:br prog 37 9:=⟨by kernel_rfl⟩
instance:iS prog 37 [.d (.sl [])]:=⟨.sl [],cz (by kernel_rfl),rfl⟩
instance:cc prog 38 1:=⟨by kernel_rfl⟩
instance:cT prog 38:=⟨by kernel_rfl⟩
instance:br prog 38 42:=⟨by kernel_rfl⟩
instance:dw prog 40 2:=⟨by kernel_rfl,by kernel_rfl⟩
instance:cK prog 40 [(0,1),(1,1)] [.int .i64 0,.int .i64 0]:=⟨by kernel_rfl,by kernel_rfl⟩
instance:cc prog 42 8:=⟨by kernel_rfl⟩
instance:dw prog 42 8:=⟨by kernel_rfl,by kernel_rfl⟩
instance:jx prog 42 88:=⟨by kernel_rfl⟩
instance:fC prog 42 (.agg [.int .u8 0,.int .u8 0,.int .i32 0,.str ⟨#[]⟩,.sl [],.sl [],.int .i64 0,.int .i64 0]):=⟨by kernel_rfl⟩
instance:iS prog 42 [.d (.int .u8 0),.d (.int .u8 0),.d (.int .i32 0),.d (.str ⟨#[]⟩),.d (.sl []),.d (.sl []),.d (.int .i64 0),.d (.int .i64 0)]:=⟨.agg [.int .u8 0,.int .u8 0,.int .i32 0,.str ⟨#[]⟩,.sl [],.sl [],.int .i64 0,.int .i64 0],cz (by kernel_rfl),rfl⟩
instance:aS prog 42 0 0:=aH (by kernel_rfl)
instance:aS prog 42 1 1:=aH (by kernel_rfl)
instance:aS prog 42 3 3:=aH (by kernel_rfl)
instance:aS prog 42 4 4:=aH (by kernel_rfl)
instance:aS prog 42 5 5:=aH (by kernel_rfl)
instance:aS prog 42 6 6:=aH (by kernel_rfl)
instance:cK prog 42 [(0,1),(1,1),(2,1),(3,1),(4,1),(5,1),(6,2)] [.int .u8 0,.int .u8 0,.int .i32 0,.str ⟨#[]⟩,.sl [],.sl [],.int .i64 0,.int .i64 0]:=⟨by kernel_rfl,by kernel_rfl⟩
instance:cc prog 43 1:=⟨by kernel_rfl⟩
instance:cT prog 43:=⟨by kernel_rfl⟩
instance:br prog 43 67:=⟨by kernel_rfl⟩
instance:fC prog 43 (.sl []):=⟨by kernel_rfl⟩
instance:cc prog 45 22:=⟨by kernel_rfl⟩
instance:dw prog 45 22:=⟨by kernel_rfl,by kernel_rfl⟩
instance:jx prog 45 296:=⟨by kernel_rfl⟩
instance:fC prog 45 (.agg [.int .u8 0,.sl [],.str ⟨#[]⟩,.int .u8 0,.int .u8 0,.int .i32 0,.str ⟨#[]⟩,.sl [],.sl [],.int .i64 0,.int .i64 0,.int .u8 0,.int .u8 0,.int .i32 0,.str ⟨#[]⟩,.sl [],.sl [],.int .i64 0,.int .i64 0,.sl [],.sl [],.sl []]):=⟨by kernel_rfl⟩
instance:iS prog 45 [.d (.int .u8 0),.d (.sl []),.d (.str ⟨#[]⟩),.d (.int .u8 0),.d (.int .u8 0),.d (.int .i32 0),.d (.str ⟨#[]⟩),.d (.sl []),.d (.sl []),.d (.int .i64 0),.d (.int .i64 0),.d (.int .u8 0),.d (.int .u8 0),.d (.int .i32 0),.d (.str ⟨#[]⟩),.d (.sl []),.d (.sl []),.d (.int .i64 0),.d (.int .i64 0),.d (.sl []),.d (.sl []),.d (.sl [])]:=⟨.agg [.int .u8 0,.sl [],.str ⟨#[]⟩,.int .u8 0,.int .u8 0,.int .i32 0,.str ⟨#[]⟩,.sl [],.sl [],.int .i64 0,.int .i64 0,.int .u8 0,.int .u8 0,.int .i32 0,.str ⟨#[]⟩,.sl [],.sl [],.int .i64 0,.int .i64 0,.sl [],.sl [],.sl []],cz (by kernel_rfl),rfl⟩
instance:aS prog 45 0 0:=aH (by kernel_rfl)
instance:aS prog 45 1 1:=aH (by kernel_rfl)
instance:aS prog 45 3 3:=aH (by kernel_rfl)
instance:aS prog 45 4 11:=aH (by kernel_rfl)
instance:aS prog 45 5 19:=aH (by kernel_rfl)
instance:aS prog 45 6 20:=aH (by kernel_rfl)
instance:aS prog 45 7 21:=aH (by kernel_rfl)
instance:cK prog 45 [(0,1),(1,1),(2,1),(3,8),(11,8),(19,1),(20,1),(21,1)] [.int .u8 0,.sl [],.str ⟨#[]⟩,.int .u8 0,.int .u8 0,.int .i32 0,.str ⟨#[]⟩,.sl [],.sl [],.int .i64 0,.int .i64 0,.int .u8 0,.int .u8 0,.int .i32 0,.str ⟨#[]⟩,.sl [],.sl [],.int .i64 0,.int .i64 0,.sl [],.sl [],.sl []]:=⟨by kernel_rfl,by kernel_rfl⟩
instance:cc prog 53 2:=⟨by kernel_rfl⟩
instance:dw prog 53 2:=⟨by kernel_rfl,by kernel_rfl⟩
instance:jx prog 53 24:=⟨by kernel_rfl⟩
instance:fC prog 53 (.agg [.int .u8 0,.str ⟨#[]⟩]):=⟨by kernel_rfl⟩
instance:iS prog 53 [.d (.int .u8 0),.d (.str ⟨#[]⟩)]:=⟨.agg [.int .u8 0,.str ⟨#[]⟩],cz (by kernel_rfl),rfl⟩
instance:aS prog 53 0 0:=aH (by kernel_rfl)
instance:aS prog 53 1 1:=aH (by kernel_rfl)
instance:cK prog 53 [(0,1),(1,1)] [.int .u8 0,.str ⟨#[]⟩]:=⟨by kernel_rfl,by kernel_rfl⟩
instance:cc prog 55 15:=⟨by kernel_rfl⟩
instance:dw prog 55 15:=⟨by kernel_rfl,by kernel_rfl⟩
instance:jx prog 55 176:=⟨by kernel_rfl⟩
instance:fC prog 55 (.agg [.str ⟨#[]⟩,.int .u8 0,.str ⟨#[]⟩,.sl [],.bool false,.int .u8 0,.int .u8 0,.int .i32 0,.str ⟨#[]⟩,.sl [],.sl [],.int .i64 0,.int .i64 0,.int .i64 0,.int .i64 0]):=⟨by kernel_rfl⟩
instance:iS prog 55 [.d (.str ⟨#[]⟩),.d (.int .u8 0),.d (.str ⟨#[]⟩),.d (.sl []),.d (.bool false),.d (.int .u8 0),.d (.int .u8 0),.d (.int .i32 0),.d (.str ⟨#[]⟩),.d (.sl []),.d (.sl []),.d (.int .i64 0),.d (.int .i64 0),.d (.int .i64 0),.d (.int .i64 0)]:=⟨.agg [.str ⟨#[]⟩,.int .u8 0,.str ⟨#[]⟩,.sl [],.bool false,.int .u8 0,.int .u8 0,.int .i32 0,.str ⟨#[]⟩,.sl [],.sl [],.int .i64 0,.int .i64 0,.int .i64 0,.int .i64 0],cz (by kernel_rfl),rfl⟩
instance:aS prog 55 0 0:=aH (by kernel_rfl)
instance:aS prog 55 1 1:=aH (by kernel_rfl)
instance:aS prog 55 2 3:=aH (by kernel_rfl)
instance:aS prog 55 3 4:=aH (by kernel_rfl)
instance:aS prog 55 4 5:=aH (by kernel_rfl)
instance:aS prog 55 5 13:=aH (by kernel_rfl)
instance:cK prog 55 [(0,1),(1,2),(3,1),(4,1),(5,8),(13,2)] [.str ⟨#[]⟩,.int .u8 0,.str ⟨#[]⟩,.sl [],.bool false,.int .u8 0,.int .u8 0,.int .i32 0,.str ⟨#[]⟩,.sl [],.sl [],.int .i64 0,.int .i64 0,.int .i64 0,.int .i64 0]:=⟨by kernel_rfl,by kernel_rfl⟩
instance:cc prog 67 2:=⟨by kernel_rfl⟩
instance:dw prog 67 2:=⟨by kernel_rfl,by kernel_rfl⟩
instance:jx prog 67 32:=⟨by kernel_rfl⟩
instance:fC prog 67 (.agg [.str ⟨#[]⟩,.str ⟨#[]⟩]):=⟨by kernel_rfl⟩
instance:iS prog 67 [.d (.str ⟨#[]⟩),.d (.str ⟨#[]⟩)]:=⟨.agg [.str ⟨#[]⟩,.str ⟨#[]⟩],cz (by kernel_rfl),rfl⟩
instance:aS prog 67 0 0:=aH (by kernel_rfl)
instance:aS prog 67 1 1:=aH (by kernel_rfl)
instance:cK prog 67 [(0,1),(1,1)] [.str ⟨#[]⟩,.str ⟨#[]⟩]:=⟨by kernel_rfl,by kernel_rfl⟩
instance:br prog 76 21:=⟨by kernel_rfl⟩
instance:cT prog 97:=⟨by kernel_rfl⟩
instance:cc prog 101 4:=⟨by kernel_rfl⟩
instance:dw prog 101 4:=⟨by kernel_rfl,by kernel_rfl⟩
instance:jx prog 101 56:=⟨by kernel_rfl⟩
instance:fC prog 101 (.agg [.str ⟨#[]⟩,.sl [],.int .i64 0,.int .i64 0]):=⟨by kernel_rfl⟩
instance:iS prog 101 [.d (.str ⟨#[]⟩),.d (.sl []),.d (.int .i64 0),.d (.int .i64 0)]:=⟨.agg [.str ⟨#[]⟩,.sl [],.int .i64 0,.int .i64 0],cz (by kernel_rfl),rfl⟩
instance:aS prog 101 0 0:=aH (by kernel_rfl)
instance:aS prog 101 1 1:=aH (by kernel_rfl)
instance:cK prog 101 [(0,1),(1,1),(2,2)] [.str ⟨#[]⟩,.sl [],.int .i64 0,.int .i64 0]:=⟨by kernel_rfl,by kernel_rfl⟩
instance:cK prog 105 [(0,1),(1,1),(2,1),(3,1),(4,1)] [.nJ,.int .i64 0,.int .i64 0,.int .i64 0,.bool false]:=⟨by kernel_rfl,by kernel_rfl⟩
instance:cc prog 106 1:=⟨by kernel_rfl⟩
instance:cT prog 106:=⟨by kernel_rfl⟩
instance:br prog 106 149:=⟨by kernel_rfl⟩
instance:cc prog 108 2:=⟨by kernel_rfl⟩
instance:dw prog 108 2:=⟨by kernel_rfl,by kernel_rfl⟩
instance:iS prog 108 [.d (.sl []),.d (.sl [])]:=⟨.agg [.sl [],.sl []],cz (by kernel_rfl),rfl⟩
instance:aS prog 108 0 0:=aH (by kernel_rfl)
instance:aS prog 108 1 1:=aH (by kernel_rfl)
instance:cK prog 108 [(0,1),(1,1)] [.sl [],.sl []]:=⟨by kernel_rfl,by kernel_rfl⟩
instance:cc prog 110 7:=⟨by kernel_rfl⟩
instance:dw prog 110 7:=⟨by kernel_rfl,by kernel_rfl⟩
instance:jx prog 110 128:=⟨by kernel_rfl⟩
instance:fC prog 110 (.agg [.str ⟨#[]⟩,.sl [],.sl [],.sl [],.sl [],.int .i64 0,.int .i64 0]):=⟨by kernel_rfl⟩
instance:iS prog 110 [.d (.str ⟨#[]⟩),.d (.sl []),.d (.sl []),.d (.sl []),.d (.sl []),.d (.int .i64 0),.d (.int .i64 0)]:=⟨.agg [.str ⟨#[]⟩,.sl [],.sl [],.sl [],.sl [],.int .i64 0,.int .i64 0],cz (by kernel_rfl),rfl⟩
instance:aS prog 110 0 0:=aH (by kernel_rfl)
instance:aS prog 110 1 1:=aH (by kernel_rfl)
instance:aS prog 110 2 2:=aH (by kernel_rfl)
instance:aS prog 110 3 3:=aH (by kernel_rfl)
instance:aS prog 110 4 5:=aH (by kernel_rfl)
instance:cK prog 110 [(0,1),(1,1),(2,1),(3,2),(5,2)] [.str ⟨#[]⟩,.sl [],.sl [],.sl [],.sl [],.int .i64 0,.int .i64 0]:=⟨by kernel_rfl,by kernel_rfl⟩
instance:cT prog 113:=⟨by kernel_rfl⟩
instance:iq prog 113 53:=⟨⟨9,by kernel_rfl,by kernel_rfl⟩⟩
instance:aS prog 115 0 0:=aH (by kernel_rfl)
instance:aS prog 115 1 1:=aH (by kernel_rfl)
instance:aS prog 115 2 6:=aH (by kernel_rfl)
instance:aS prog 115 3 7:=aH (by kernel_rfl)
instance:cK prog 115 [(0,1),(1,5),(6,1),(7,1)] [.sl [],.str ⟨#[]⟩,.sl [],.sl [],.sl [],.sl [],.jJ,.int .i64 0]:=⟨by kernel_rfl,by kernel_rfl⟩
instance:cT prog 119:=⟨by kernel_rfl⟩
instance:iq prog 119 43:=⟨⟨9,by kernel_rfl,by kernel_rfl⟩⟩
instance:iq prog 120 4:=⟨⟨9,by kernel_rfl,by kernel_rfl⟩⟩
instance:cc prog 147 1:=⟨by kernel_rfl⟩
instance:cT prog 147:=⟨by kernel_rfl⟩
instance:br prog 147 152:=⟨by kernel_rfl⟩
instance:cc prog 149 16:=⟨by kernel_rfl⟩
instance:dw prog 149 16:=⟨by kernel_rfl,by kernel_rfl⟩
instance:jx prog 149 208:=⟨by kernel_rfl⟩
instance:fC prog 149 (.agg [.int .u8 0,.sl [],.str ⟨#[]⟩,.sl [],.bool false,.int .u8 0,.int .u8 0,.int .i32 0,.str ⟨#[]⟩,.sl [],.sl [],.int .i64 0,.int .i64 0,.sl [],.int .i64 0,.int .i64 0]):=⟨by kernel_rfl⟩
instance:iS prog 149 [.d (.int .u8 0),.d (.sl []),.d (.str ⟨#[]⟩),.d (.sl []),.d (.bool false),.d (.int .u8 0),.d (.int .u8 0),.d (.int .i32 0),.d (.str ⟨#[]⟩),.d (.sl []),.d (.sl []),.d (.int .i64 0),.d (.int .i64 0),.d (.sl []),.d (.int .i64 0),.d (.int .i64 0)]:=⟨.agg [.int .u8 0,.sl [],.str ⟨#[]⟩,.sl [],.bool false,.int .u8 0,.int .u8 0,.int .i32 0,.str ⟨#[]⟩,.sl [],.sl [],.int .i64 0,.int .i64 0,.sl [],.int .i64 0,.int .i64 0],cz (by kernel_rfl),rfl⟩
instance:aS prog 149 0 0:=aH (by kernel_rfl)
instance:aS prog 149 1 1:=aH (by kernel_rfl)
instance:aS prog 149 2 2:=aH (by kernel_rfl)
instance:aS prog 149 3 3:=aH (by kernel_rfl)
instance:aS prog 149 4 4:=aH (by kernel_rfl)
instance:aS prog 149 5 5:=aH (by kernel_rfl)
instance:aS prog 149 6 13:=aH (by kernel_rfl)
instance:aS prog 149 7 14:=aH (by kernel_rfl)
instance:cK prog 149 [(0,1),(1,1),(2,1),(3,1),(4,1),(5,8),(13,1),(14,2)] [.int .u8 0,.sl [],.str ⟨#[]⟩,.sl [],.bool false,.int .u8 0,.int .u8 0,.int .i32 0,.str ⟨#[]⟩,.sl [],.sl [],.int .i64 0,.int .i64 0,.sl [],.int .i64 0,.int .i64 0]:=⟨by kernel_rfl,by kernel_rfl⟩
instance:cT prog 150:=⟨by kernel_rfl⟩
instance:br prog 150 324:=⟨by kernel_rfl⟩
instance:cc prog 152 7:=⟨by kernel_rfl⟩
instance:dw prog 152 7:=⟨by kernel_rfl,by kernel_rfl⟩
instance:jx prog 152 128:=⟨by kernel_rfl⟩
instance:fC prog 152 (.agg [.str ⟨#[]⟩,.sl [],.sl [],.sl [],.sl [],.int .i64 0,.int .i64 0]):=⟨by kernel_rfl⟩
instance:iS prog 152 [.d (.str ⟨#[]⟩),.d (.sl []),.d (.sl []),.d (.sl []),.d (.sl []),.d (.int .i64 0),.d (.int .i64 0)]:=⟨.agg [.str ⟨#[]⟩,.sl [],.sl [],.sl [],.sl [],.int .i64 0,.int .i64 0],cz (by kernel_rfl),rfl⟩
instance:aS prog 152 0 0:=aH (by kernel_rfl)
instance:aS prog 152 1 1:=aH (by kernel_rfl)
instance:aS prog 152 2 3:=aH (by kernel_rfl)
instance:aS prog 152 3 4:=aH (by kernel_rfl)
instance:aS prog 152 4 5:=aH (by kernel_rfl)
instance:cK prog 152 [(0,1),(1,2),(3,1),(4,1),(5,2)] [.str ⟨#[]⟩,.sl [],.sl [],.sl [],.sl [],.int .i64 0,.int .i64 0]:=⟨by kernel_rfl,by kernel_rfl⟩
instance:aS prog 188 0 0:=aH (by kernel_rfl)
instance:aS prog 188 1 1:=aH (by kernel_rfl)
instance:cK prog 188 [(0,1),(1,1)] [.sl [],.int .i64 0]:=⟨by kernel_rfl,by kernel_rfl⟩
instance:cc prog 194 3:=⟨by kernel_rfl⟩
instance:dw prog 194 3:=⟨by kernel_rfl,by kernel_rfl⟩
instance:br prog 196 33:=⟨by kernel_rfl⟩
instance:aS prog 252 0 0:=aH (by kernel_rfl)
instance:aS prog 252 1 2:=aH (by kernel_rfl)
instance:aS prog 252 2 7:=aH (by kernel_rfl)
instance:aS prog 252 3 8:=aH (by kernel_rfl)
instance:cK prog 252 [(0,2),(2,5),(7,1),(8,1)] [.sl [],.sl [],.str ⟨#[]⟩,.sl [],.sl [],.sl [],.sl [],.jJ,.int .i64 0]:=⟨by kernel_rfl,by kernel_rfl⟩
instance:aS prog 256 0 0:=aH (by kernel_rfl)
instance:aS prog 256 1 2:=aH (by kernel_rfl)
instance:aS prog 256 2 3:=aH (by kernel_rfl)
instance:cK prog 256 [(0,2),(2,1),(3,1)] [.sl [],.sl [],.sl [],.int .i64 0]:=⟨by kernel_rfl,by kernel_rfl⟩
instance:cT prog 257:=⟨by kernel_rfl⟩
instance:iq prog 257 261:=⟨⟨9,by kernel_rfl,by kernel_rfl⟩⟩
instance:cc prog 259 3:=⟨by kernel_rfl⟩
instance:dw prog 259 3:=⟨by kernel_rfl,by kernel_rfl⟩
instance:iS prog 259 [.d (.jJ),.d (.jJ),.d (.sl [])]:=⟨.agg [.jJ,.jJ,.sl []],cz (by kernel_rfl),rfl⟩
instance:aS prog 259 0 0:=aH (by kernel_rfl)
instance:aS prog 259 1 1:=aH (by kernel_rfl)
instance:aS prog 259 2 2:=aH (by kernel_rfl)
instance:cK prog 259 [(0,1),(1,1),(2,1)] [.jJ,.jJ,.sl []]:=⟨by kernel_rfl,by kernel_rfl⟩
instance:cc prog 261 4:=⟨by kernel_rfl⟩
instance:dw prog 261 4:=⟨by kernel_rfl,by kernel_rfl⟩
instance:fC prog 261 (.agg [.str ⟨#[]⟩,.int .i64 0,.int .u8 0,.str ⟨#[]⟩]):=⟨by kernel_rfl⟩
instance:iS prog 261 [.d (.str ⟨#[]⟩),.d (.int .i64 0),.d (.int .u8 0),.d (.str ⟨#[]⟩)]:=⟨.agg [.str ⟨#[]⟩,.int .i64 0,.int .u8 0,.str ⟨#[]⟩],cz (by kernel_rfl),rfl⟩
instance:aS prog 261 0 0:=aH (by kernel_rfl)
instance:aS prog 261 1 1:=aH (by kernel_rfl)
instance:aS prog 261 2 2:=aH (by kernel_rfl)
instance:cK prog 261 [(0,1),(1,1),(2,2)] [.str ⟨#[]⟩,.int .i64 0,.int .u8 0,.str ⟨#[]⟩]:=⟨by kernel_rfl,by kernel_rfl⟩
instance:br prog 266 24:=⟨by kernel_rfl⟩
instance:cc prog 310 7:=⟨by kernel_rfl⟩
instance:dw prog 310 7:=⟨by kernel_rfl,by kernel_rfl⟩
instance:iS prog 310 [.d (.str ⟨#[]⟩),.d (.str ⟨#[]⟩),.d (.str ⟨#[]⟩),.d (.str ⟨#[]⟩),.d (.str ⟨#[]⟩),.d (.str ⟨#[]⟩),.d (.str ⟨#[]⟩)]:=⟨.agg [.str ⟨#[]⟩,.str ⟨#[]⟩,.str ⟨#[]⟩,.str ⟨#[]⟩,.str ⟨#[]⟩,.str ⟨#[]⟩,.str ⟨#[]⟩],cz (by kernel_rfl),rfl⟩
instance:aS prog 310 0 0:=aH (by kernel_rfl)
instance:aS prog 310 1 1:=aH (by kernel_rfl)
instance:aS prog 310 2 2:=aH (by kernel_rfl)
instance:aS prog 310 3 3:=aH (by kernel_rfl)
instance:aS prog 310 4 4:=aH (by kernel_rfl)
instance:aS prog 310 5 5:=aH (by kernel_rfl)
instance:aS prog 310 6 6:=aH (by kernel_rfl)
instance:cK prog 310 [(0,1),(1,1),(2,1),(3,1),(4,1),(5,1),(6,1)] [.str ⟨#[]⟩,.str ⟨#[]⟩,.str ⟨#[]⟩,.str ⟨#[]⟩,.str ⟨#[]⟩,.str ⟨#[]⟩,.str ⟨#[]⟩]:=⟨by kernel_rfl,by kernel_rfl⟩
instance:fC prog 311 (.agg [.str ⟨#[]⟩,.str ⟨#[]⟩,.str ⟨#[]⟩]):=⟨by kernel_rfl⟩
instance:cc prog 324 12:=⟨by kernel_rfl⟩
instance:dw prog 324 12:=⟨by kernel_rfl,by kernel_rfl⟩
instance:jx prog 324 128:=⟨by kernel_rfl⟩
instance:fC prog 324 (.agg [.int .u8 0,.int .u8 0,.int .i32 0,.str ⟨#[]⟩,.sl [],.sl [],.int .i64 0,.int .i64 0,.str ⟨#[]⟩,.bool false,.int .i64 0,.int .i64 0]):=⟨by kernel_rfl⟩
instance:iS prog 324 [.d (.int .u8 0),.d (.int .u8 0),.d (.int .i32 0),.d (.str ⟨#[]⟩),.d (.sl []),.d (.sl []),.d (.int .i64 0),.d (.int .i64 0),.d (.str ⟨#[]⟩),.d (.bool false),.d (.int .i64 0),.d (.int .i64 0)]:=⟨.agg [.int .u8 0,.int .u8 0,.int .i32 0,.str ⟨#[]⟩,.sl [],.sl [],.int .i64 0,.int .i64 0,.str ⟨#[]⟩,.bool false,.int .i64 0,.int .i64 0],cz (by kernel_rfl),rfl⟩
instance:aS prog 324 0 0:=aH (by kernel_rfl)
instance:aS prog 324 1 8:=aH (by kernel_rfl)
instance:aS prog 324 2 9:=aH (by kernel_rfl)
instance:aS prog 324 3 10:=aH (by kernel_rfl)
instance:br prog 343 43:=⟨by kernel_rfl⟩
instance:cc prog 382 1:=⟨by kernel_rfl⟩
instance:iS prog 382 [.d (.mh)]:=⟨.mh,cz (by kernel_rfl),rfl⟩
instance:aS prog 392 0 0:=aH (by kernel_rfl)
instance:cK prog 392 [(0,2)] [.sl [],.sl []]:=⟨by kernel_rfl,by kernel_rfl⟩
instance:br prog 396 53:=⟨by kernel_rfl⟩
instance:bu prog 15:=⟨λargs w=>call15 args w⟩
instance:bu prog 16:=⟨λargs w=>call16 args w⟩
instance:bu prog 17:=⟨λargs w=>call17 args w⟩
instance:bu prog 18:=⟨λargs w=>call18 args w⟩
instance:bu prog 19:=⟨λargs w=>call19 args w⟩
instance:bu prog 21:=⟨λargs w=>call21 args w⟩
instance:bu prog 26:=⟨λargs w=>call26 args w⟩
instance:bu prog 55:=⟨λargs w=>call55 args w⟩
instance:bu prog 56:=⟨λargs w=>call56 args w⟩
instance:bu prog 57:=⟨λargs w=>call57 args w⟩
instance:bu prog 60:=⟨λargs w=>call60 args w⟩
instance:bu prog 61:=⟨λargs w=>call61 args w⟩
instance:bu prog 62:=⟨λargs w=>call62 args w⟩
instance:bu prog 63:=⟨λargs w=>call63 args w⟩
instance:bu prog 64:=⟨λargs w=>call64 args w⟩
instance:bu prog 66:=⟨λargs w=>call66 args w⟩
instance:bu prog 68:=⟨λargs w=>call68 args w⟩
instance:bu prog 72:=⟨λargs w=>call72 args w⟩
instance:bu prog 73:=⟨λargs w=>call73 args w⟩
instance:bu prog 74:=⟨λargs w=>call74 args w⟩
instance:bu prog 75:=⟨λargs w=>call75 args w⟩
instance:bu prog 76:=⟨λargs w=>call76 args w⟩
instance:bu prog 82:=⟨λargs w=>call82 args w⟩
instance:bu prog 83:=⟨λargs w=>call83 args w⟩
instance:bu prog 87:=⟨λargs w=>call87 args w⟩
instance:bu prog 90:=⟨λargs w=>call90 args w⟩
instance:bu prog 108:=⟨λargs w=>call108 args w⟩
instance:bu prog 109:=⟨λargs w=>call109 args w⟩
instance:bu prog 110:=⟨λargs w=>call110 args w⟩
instance:bu prog 111:=⟨λargs w=>call111 args w⟩
instance:bu prog 112:=⟨λargs w=>call112 args w⟩
instance:bu prog 113:=⟨λargs w=>call113 args w⟩
instance:bu prog 118:=⟨λargs w=>call118 args w⟩
instance:bu prog 119:=⟨λargs w=>call119 args w⟩
instance:bu prog 120:=⟨λargs w=>call120 args w⟩
instance:bu prog 121:=⟨λargs w=>call121 args w⟩
instance:bu prog 122:=⟨λargs w=>call122 args w⟩
instance:bu prog 124:=⟨λargs w=>call124 args w⟩
instance:bu prog 125:=⟨λargs w=>call125 args w⟩
instance:bu prog 126:=⟨λargs w=>call126 args w⟩
instance:bu prog 127:=⟨λargs w=>call127 args w⟩
instance:bu prog 129:=⟨λargs w=>call129 args w⟩
instance:bu prog 130:=⟨λargs w=>call130 args w⟩
instance:bu prog 132:=⟨λargs w=>call132 args w⟩
instance:bu prog 137:=⟨λargs w=>call137 args w⟩
instance:bu prog 141:=⟨λargs w=>call141 args w⟩
instance:bu prog 142:=⟨λargs w=>call142 args w⟩
instance:bu prog 159:=⟨λargs w=>call159 args w⟩
instance:bu prog 160:=⟨λargs w=>call160 args w⟩
instance:bu prog 161:=⟨λargs w=>call161 args w⟩
instance:bu prog 162:=⟨λargs w=>call162 args w⟩
instance:bu prog 163:=⟨λargs w=>call163 args w⟩
instance:bu prog 164:=⟨λargs w=>call164 args w⟩
instance:bu prog 165:=⟨λargs w=>call165 args w⟩
instance:bu prog 171:=⟨λargs w=>call171 args w⟩
instance:bu prog 172:=⟨λargs w=>call172 args w⟩
instance:bu prog 173:=⟨λargs w=>call173 args w⟩
instance:bu prog 174:=⟨λargs w=>call174 args w⟩
instance:bu prog 175:=⟨λargs w=>call175 args w⟩
instance:bu prog 176:=⟨λargs w=>call176 args w⟩
instance:bu prog 177:=⟨λargs w=>call177 args w⟩
instance:bu prog 178:=⟨λargs w=>call178 args w⟩
instance:bu prog 179:=⟨λargs w=>call179 args w⟩
instance:bu prog 180:=⟨λargs w=>call180 args w⟩
instance:bu prog 182:=⟨λargs w=>call182 args w⟩
instance:bu prog 187:=⟨λargs w=>call187 args w⟩
instance:bu prog 205:=⟨λargs w=>call205 args w⟩
instance:bu prog 206:=⟨λargs w=>call206 args w⟩
instance:bu prog 207:=⟨λargs w=>call207 args w⟩
instance:bu prog 208:=⟨λargs w=>call208 args w⟩
instance:bu prog 209:=⟨λargs w=>call209 args w⟩
instance:bu prog 210:=⟨λargs w=>call210 args w⟩
instance:bu prog 211:=⟨λargs w=>call211 args w⟩
instance:bu prog 213:=⟨λargs w=>call213 args w⟩
instance:bu prog 214:=⟨λargs w=>call214 args w⟩
instance:bu prog 215:=⟨λargs w=>call215 args w⟩
instance:bu prog 216:=⟨λargs w=>call216 args w⟩
instance:bu prog 217:=⟨λargs w=>call217 args w⟩
instance:bu prog 218:=⟨λargs w=>call218 args w⟩
instance:bu prog 219:=⟨λargs w=>call219 args w⟩
instance:bu prog 220:=⟨λargs w=>call220 args w⟩
instance:bu prog 226:=⟨λargs w=>call226 args w⟩
instance:bu prog 229:=⟨λargs w=>call229 args w⟩
instance:bu prog 251:=⟨λargs w=>call251 args w⟩
instance:bu prog 252:=⟨λargs w=>call252 args w⟩
instance:bu prog 253:=⟨λargs w=>call253 args w⟩
instance:bu prog 255:=⟨λargs w=>call255 args w⟩
instance:bu prog 256:=⟨λargs w=>call256 args w⟩
instance:bu prog 257:=⟨λargs w=>call257 args w⟩
instance:bu prog 258:=⟨λargs w=>call258 args w⟩
instance:bu prog 259:=⟨λargs w=>call259 args w⟩
instance:bu prog 260:=⟨λargs w=>call260 args w⟩
instance:bu prog 268:=⟨λargs w=>call268 args w⟩
instance:bu prog 288:=⟨λargs w=>call288 args w⟩
instance:bu prog 290:=⟨λargs w=>call290 args w⟩
instance:bu prog 291:=⟨λargs w=>call291 args w⟩
instance:bu prog 292:=⟨λargs w=>call292 args w⟩
instance:bu prog 293:=⟨λargs w=>call293 args w⟩
instance:bu prog 307:=⟨λargs w=>call307 args w⟩
instance:bu prog 313:=⟨λargs w=>call313 args w⟩
instance:bu prog 317:=⟨λargs w=>call317 args w⟩
instance:bu prog 318:=⟨λargs w=>call318 args w⟩
variable{os:Array Oper}{es:List Ef}{q:List Ef->St->Prop}
def Ki:List (Nat×TI):=[
 (3,⟨some 1,some false,some (.int .i64 0),none,some .i64,none⟩),
 (194,⟨some 3,some true,some (.agg [.sl [],.sl [],.sl []]),none,none,some [(0,1),(1,1),(2,1)]⟩),
 (42,⟨some 8,some true,some (.agg [.int .u8 0,.int .u8 0,.int .i32 0,.str ⟨#[]⟩,.sl [],.sl [],.int .i64 0,.int .i64 0]),none,none,some [(0,1),(1,1),(2,1),(3,1),(4,1),(5,1),(6,2)]⟩),
 (33,⟨some 1,some false,some (.sl []),some 55,none,none⟩),
 (55,⟨some 15,some true,some (.agg [.str ⟨#[]⟩,.int .u8 0,.str ⟨#[]⟩,.sl [],.bool false,.int .u8 0,.int .u8 0,.int .i32 0,.str ⟨#[]⟩,.sl [],.sl [],.int .i64 0,.int .i64 0,.int .i64 0,.int .i64 0]),none,none,some [(0,1),(1,2),(3,1),(4,1),(5,8),(13,2)]⟩),
 (53,⟨some 2,some true,some (.agg [.int .u8 0,.str ⟨#[]⟩]),none,none,some [(0,1),(1,1)]⟩),
 (149,⟨some 16,some true,some (.agg [.int .u8 0,.sl [],.str ⟨#[]⟩,.sl [],.bool false,.int .u8 0,.int .u8 0,.int .i32 0,.str ⟨#[]⟩,.sl [],.sl [],.int .i64 0,.int .i64 0,.sl [],.int .i64 0,.int .i64 0]),none,none,some [(0,1),(1,1),(2,1),(3,1),(4,1),(5,8),(13,1),(14,2)]⟩),
 (105,⟨some 5,some true,some (.agg [.nJ,.int .i64 0,.int .i64 0,.int .i64 0,.bool false]),none,none,some [(0,1),(1,1),(2,1),(3,1),(4,1)]⟩),
 (9,⟨some 1,some false,some (.str ⟨#[]⟩),none,none,none⟩),
 (97,⟨some 1,some false,some (.nJ),none,none,none⟩),
 (108,⟨some 2,some true,some (.agg [.sl [],.sl []]),none,none,some [(0,1),(1,1)]⟩),
 (37,⟨some 1,some false,some (.sl []),some 9,none,none⟩),
 (110,⟨some 7,some true,some (.agg [.str ⟨#[]⟩,.sl [],.sl [],.sl [],.sl [],.int .i64 0,.int .i64 0]),none,none,some [(0,1),(1,1),(2,1),(3,2),(5,2)]⟩),
 (38,⟨some 1,some false,some (.sl []),some 42,none,none⟩),
 (22,⟨some 1,some false,some (.sl []),some 5,none,none⟩),
 (5,⟨some 1,some false,some (.int .u8 0),none,some .u8,none⟩),
 (152,⟨some 7,some true,some (.agg [.str ⟨#[]⟩,.sl [],.sl [],.sl [],.sl [],.int .i64 0,.int .i64 0]),none,none,some [(0,1),(1,2),(3,1),(4,1),(5,2)]⟩),
 (31,⟨some 2,some true,some (.agg [.sl [],.sl []]),none,none,some [(0,1),(1,1)]⟩),
 (106,⟨some 1,some false,some (.sl []),some 149,none,none⟩),
 (99,⟨some 2,some true,some (.agg [.sl [],.int .i64 0]),none,none,some [(0,1),(1,1)]⟩),
 (147,⟨some 1,some false,some (.sl []),some 152,none,none⟩),
 (4,⟨some 1,some false,some (.bool false),none,none,none⟩),
 (150,⟨some 1,some false,some (.sl []),some 324,none,none⟩),
 (29,⟨some 1,some false,some (.sl []),some 110,none,none⟩),
 (76,⟨some 1,some false,some (.sl []),some 21,none,none⟩),
 (43,⟨some 1,some false,some (.sl []),some 67,none,none⟩),
 (24,⟨some 1,some false,some (.sl []),some 101,none,none⟩),
 (67,⟨some 2,some true,some (.agg [.str ⟨#[]⟩,.str ⟨#[]⟩]),none,none,some [(0,1),(1,1)]⟩),
 (324,⟨some 12,some true,some (.agg [.int .u8 0,.int .u8 0,.int .i32 0,.str ⟨#[]⟩,.sl [],.sl [],.int .i64 0,.int .i64 0,.str ⟨#[]⟩,.bool false,.int .i64 0,.int .i64 0]),none,none,some [(0,8),(8,1),(9,1),(10,2)]⟩),
 (101,⟨some 4,some true,some (.agg [.str ⟨#[]⟩,.sl [],.int .i64 0,.int .i64 0]),none,none,some [(0,1),(1,1),(2,2)]⟩),
 (21,⟨some 1,some false,some (.int .i32 0),none,some .i32,none⟩),
 (68,⟨some 1,some false,some (.sl []),some 4,none,none⟩),
 (84,⟨some 1,some false,some (.sl []),some 76,none,none⟩),
 (228,⟨some 1,some false,some (.sl []),some 232,none,none⟩),
 (169,⟨some 1,some false,some (.sl []),some 165,none,none⟩),
 (232,⟨some 1,some false,some (.nJ),none,none,none⟩),
 (25,⟨some 1,some false,some (.sl []),some 36,none,none⟩),
 (221,⟨some 1,some false,some (.sl []),some 1,none,none⟩),
 (231,⟨some 1,some false,some (.nJ),none,none,none⟩),
 (266,⟨some 1,some false,some (.sl []),some 24,none,none⟩),
 (207,⟨some 1,some false,some (.sl []),some 37,none,none⟩),
 (165,⟨some 1,some false,some (.nJ),none,none,none⟩),
 (154,⟨some 1,some false,some (.nJ),none,none,none⟩),
 (91,⟨some 1,some false,some (.sl []),some 3,none,none⟩),
 (196,⟨some 1,some false,some (.sl []),some 33,none,none⟩),
 (227,⟨some 1,some false,some (.sl []),some 231,none,none⟩),
 (36,⟨some 5,some true,some (.agg [.str ⟨#[]⟩,.sl [],.sl [],.sl [],.sl []]),none,none,some [(0,1),(1,1),(2,1),(3,1),(4,1)]⟩),
 (88,⟨some 1,some false,some (.sl []),some 91,none,none⟩),
 (45,⟨some 22,some true,some (.agg [.int .u8 0,.sl [],.str ⟨#[]⟩,.int .u8 0,.int .u8 0,.int .i32 0,.str ⟨#[]⟩,.sl [],.sl [],.int .i64 0,.int .i64 0,.int .u8 0,.int .u8 0,.int .i32 0,.str ⟨#[]⟩,.sl [],.sl [],.int .i64 0,.int .i64 0,.sl [],.sl [],.sl []]),none,none,some [(0,1),(1,1),(2,1),(3,8),(11,8),(19,1),(20,1),(21,1)]⟩),
 (159,⟨some 1,some false,some (.sl []),some 154,none,none⟩),
 (396,⟨some 1,some false,some (.sl []),some 53,none,none⟩),
 (1,⟨some 1,some false,some (.wS),none,none,none⟩),
 (34,⟨some 1,some false,some (.sl []),some 45,none,none⟩),
 (343,⟨some 1,some false,some (.sl []),some 43,none,none⟩)]
noncomputable def oI:lh prog:=⟨Ki,by kernel_rfl⟩
def fG:prog.follows .mixedOrders=true:=by kernel_rfl
section
variable{n B:Nat}{s0:Sg}{Oo:Nat->Nat->Prop}{df:List Deferred}{sl LJ:List (Nat×V)}{bx L4:List (Nat×List M)}{H:Hp}{c:Code}{cf:Cf}{os VU:Array Oper}{r r':List Oper}{ks SA:List K}{post:Exit->St->Prop}
def tC(ps:List Nat)(h:qi oI n H 5000 (.code c ks) ps sl bx=.at cf LJ L4)(k:cf.den (TC ⟨prog,n,s0,Oo,df⟩) (TL ⟨prog,n,s0,Oo,df⟩) post ⟨LJ,L4,H⟩):TC ⟨prog,n,s0,Oo,df⟩ c ⟨sl,bx,H⟩ (Kp (TC ⟨prog,n,s0,Oo,df⟩) ks post):=
 kH (A9 ⟨prog,n,s0,Oo,df⟩) oI _ h k
def tL(ps:List Nat)(h:qi oI n H 5000 (.ops os r ks) ps sl bx=.at cf LJ L4)(k:cf.den (TC ⟨prog,n,s0,Oo,df⟩) (TL ⟨prog,n,s0,Oo,df⟩) post ⟨LJ,L4,H⟩):TL ⟨prog,n,s0,Oo,df⟩ os r ⟨sl,bx,H⟩ (Kn (TC ⟨prog,n,s0,Oo,df⟩) ks post):=
 kH (A9 ⟨prog,n,s0,Oo,df⟩) oI _ h k
def tO(ps:List Nat)(h:qi oI n H 5000 (.code c ks) ps sl bx=.at (.ops os r SA) LJ L4)(k:TL ⟨prog,n,s0,Oo,df⟩ os r ⟨LJ,L4,H⟩ (Kn (TC ⟨prog,n,s0,Oo,df⟩) SA post)):TC ⟨prog,n,s0,Oo,df⟩ c ⟨sl,bx,H⟩ (Kp (TC ⟨prog,n,s0,Oo,df⟩) ks post):=
 kH (A9 ⟨prog,n,s0,Oo,df⟩) oI _ h k
def tR(ps:List Nat)(h:qi oI n H 5000 (.ops os r ks) ps sl bx=.at (.ops VU r' SA) LJ L4)(k:TL ⟨prog,n,s0,Oo,df⟩ VU r' ⟨LJ,L4,H⟩ (Kn (TC ⟨prog,n,s0,Oo,df⟩) SA post)):TL ⟨prog,n,s0,Oo,df⟩ os r ⟨sl,bx,H⟩ (Kn (TC ⟨prog,n,s0,Oo,df⟩) ks post):=
 kH (A9 ⟨prog,n,s0,Oo,df⟩) oI _ h k
def dC(ps:List Nat)(h:qi oI n H 5000 (.code c ks) ps sl bx=.at cf LJ L4)(k:cf.den (DC prog n B) (DL prog n) post ⟨LJ,L4,H⟩):DC prog n B c ⟨sl,bx,H⟩ (Kp (DC prog n B) ks post):=
 kH (A_ _ n B) oI _ h k
def dL(ps:List Nat)(h:qi oI n H 5000 (.ops os r ks) ps sl bx=.at cf LJ L4)(k:cf.den (DC prog n B) (DL prog n) post ⟨LJ,L4,H⟩):DL prog n os r ⟨sl,bx,H⟩ (Kn (DC prog n B) ks post):=
 kH (A_ _ n B) oI _ h k
def dO(ps:List Nat)(h:qi oI n H 5000 (.code c ks) ps sl bx=.at (.ops os r SA) LJ L4)(k:DL prog n os r ⟨LJ,L4,H⟩ (Kn (DC prog n B) SA post)):DC prog n B c ⟨sl,bx,H⟩ (Kp (DC prog n B) ks post):=
 kH (A_ _ n B) oI _ h k
def dR(ps:List Nat)(h:qi oI n H 5000 (.ops os r ks) ps sl bx=.at (.ops VU r' SA) LJ L4)(k:DL prog n VU r' ⟨LJ,L4,H⟩ (Kn (DC prog n B) SA post)):DL prog n os r ⟨sl,bx,H⟩ (Kn (DC prog n B) ks post):=
 kH (A_ _ n B) oI _ h k
def fR(m:Nat)(h:qj oI n os H m r sl bx []=some (r',LJ,L4,es))(k:TF ⟨prog,n,s0,Oo,df⟩ os r' ⟨LJ,L4,H⟩ λa b=>q (es.reverse++a) b):TF ⟨prog,n,s0,Oo,df⟩ os r ⟨sl,bx,H⟩ q:=
 TF.rn (X:=⟨prog,n,s0,Oo,df⟩) oI m h k
def iR{I:Hp->Prop}(m:Nat)(h:qj oI n os H m r sl bx []=some (r',LJ,L4,es))(k:lX ⟨prog,n,s0,Oo,df⟩ I os r' ⟨LJ,L4,H⟩ λa b=>q (es.reverse++a) b):lX ⟨prog,n,s0,Oo,df⟩ I os r ⟨sl,bx,H⟩ q:=
 lX.run (X:=⟨prog,n,s0,Oo,df⟩) oI m (post:=q) h k
end
end Go.Proofs
namespace Go.Sm
open Go.Mt
abbrev Nm:=ByteArray
inductive Xp where
 |mk (k op n:Int) (s:Nm) (b:List Nm) (a:List Xp) (p:Int×Int)
abbrev aR(l:List Nm):List (List D):=l.map λx=>[.str x]
abbrev bD(k op n:Int)(s:Nm)(names:List Nm)(kids:List (List D))(p:Int×Int):List D:=[.int .u8 k,.int .u8 op,.int .i32 n,.str s,.sl (aR names),.sl kids,.int .i64 p.1,.int .i64 p.2]
mutual
def Xp.cells:Xp->List D
 |.mk k a n s c b p=>bD k a n s c (pK b) p
def pK:List Xp->List (List D)
 |[]=>[]
 |e::l=>e.cells::pK l
end
def Fp(l:List Xp):pK l=l.map Xp.cells:=by induction l with
 |nil=>rfl
 |cons b l a=>simp[pK,a]
def Xp.kd:Xp->Int|.mk k _ _ _ _ _ _=>k
def Xp.op:Xp->Int|.mk _ o _ _ _ _ _=>o
def Xp.num:Xp->Int|.mk _ _ n _ _ _ _=>n
def Xp.nm:Xp->Nm|.mk _ _ _ s _ _ _=>s
def Xp.names:Xp->List Nm|.mk _ _ _ _ l _ _=>l
def Xp.kids:Xp->List Xp|.mk _ _ _ _ _ l _=>l
def Xp.ps:Xp->Int×Int|.mk _ _ _ _ _ _ p=>p
def Xp.aj(e:Xp):e.cells=bD e.kd e.op e.num e.nm e.names (e.kids.map Xp.cells) e.ps:=by
 cases e;rw[Xp.cells,Fp];rfl
def Xp.len(e:Xp):e.cells.length=8:=by rw[e.aj];rfl
def MT{e k:Xp}(h:k∈e.kids):SizeOf.sizeOf k<SizeOf.sizeOf e:=by
 cases e;have:=aie h;simp only[Xp.kids]at this;simp;omega
abbrev cg:Xp:=.mk 0 0 0 ⟨#[]⟩ [] [] (0,0)
abbrev zQ(z:Int):Xp:=.mk 1 0 z ⟨#[]⟩ [] [] (0,0)
structure Va where
 name:Nm
 tk:Int
 tn:Nm
 clock:List (Nm×Nm)
 last:Bool
 first:Xp
 ps:Int×Int
abbrev bW(l:List (Nm×Nm)):List (List D):=l.map λc=>[.str c.1,.str c.2]
def Va.cells(v:Va):List D:=[.str v.name,.int .u8 v.tk,.str v.tn,.sl (bW v.clock),.bool v.last]++v.first.cells++[.int .i64 v.ps.1,.int .i64 v.ps.2]
def Va.len(v:Va):v.cells.length=15:=by simp[Va.cells,Xp.len]
def aB(l:List Va):List (List D):=l.map Va.cells
structure Tr where
 e:Xp
 to:Nm
 A':Bool
 ps:Int×Int
def Tr.cells(t:Tr):List D:=t.e.cells++[.str t.to,.bool t.A',.int .i64 t.ps.1,.int .i64 t.ps.2]
def eG(l:List Tr):List (List D):=l.map Tr.cells
mutual
inductive aJ where
 |mk (k:Int) (lhs:List Nm) (f:Nm) (args:List Xp) (a:Bool) (e:Xp) (aq:List aP) (p:Int×Int)
inductive aP where
 |mk (d:Nm) (b:bT) (a c:List Tr) (p:Int×Int)
inductive bT where
 |mk (b:List Va) (a:List aJ)
end
abbrev eQ(k:Int)(lhs:List Nm)(f:Nm)(args:List (List D))(has:Bool)(e:List D)(aq:List (List D))(p:Int×Int):List D:=[.int .u8 k,.sl (aR lhs),.str f,.sl args,.bool has]++e++[.sl aq,.int .i64 p.1,.int .i64 p.2]
mutual
def aJ.cells:aJ->List D
 |.mk k b f d c e a p=>eQ k b f (d.map Xp.cells) c e.cells (cr a) p
def aP.cells:aP->List D
 |.mk d b a c p=>[.str d]++b.cells++[.sl (eG a),.sl (eG c),.int .i64 p.1,.int .i64 p.2]
def cr:List aP->List (List D)
 |[]=>[]
 |a::l=>a.cells::cr l
def bT.cells:bT->List D
 |.mk b a=>[.sl (aB b),.sl (bU a)]
def bU:List aJ->List (List D)
 |[]=>[]
 |q::l=>q.cells::bU l
end
def jp(l:List aP):cr l=l.map aP.cells:=by induction l with
 |nil=>rfl
 |cons b l a=>simp[cr,a]
def kh(l:List aJ):bU l=l.map aJ.cells:=by induction l with
 |nil=>rfl
 |cons b l a=>simp[bU,a]
def aJ.kd:aJ->Int|.mk k _ _ _ _ _ _ _=>k
def aJ.lhs:aJ->List Nm|.mk _ l _ _ _ _ _ _=>l
def aJ.f:aJ->Nm|.mk _ _ f _ _ _ _ _=>f
def aJ.args:aJ->List Xp|.mk _ _ _ a _ _ _ _=>a
def aJ.has:aJ->Bool|.mk _ _ _ _ h _ _ _=>h
def aJ.ex:aJ->Xp|.mk _ _ _ _ _ e _ _=>e
def aJ.aq:aJ->List aP|.mk _ _ _ _ _ _ l _=>l
def aJ.ps:aJ->Int×Int|.mk _ _ _ _ _ _ _ p=>p
def aP.name:aP->Nm|.mk n _ _ _ _=>n
def aP.a_:aP->bT|.mk _ b _ _ _=>b
def aP.eL:aP->List Tr|.mk _ _ u _ _=>u
def aP.et:aP->List Tr|.mk _ _ _ w _=>w
def aP.ps:aP->Int×Int|.mk _ _ _ _ p=>p
def bT.vars:bT->List Va|.mk v _=>v
def bT.eqs:bT->List aJ|.mk _ q=>q
def aJ.aj(q:aJ):q.cells=eQ q.kd q.lhs q.f (q.args.map Xp.cells) q.has q.ex.cells (q.aq.map aP.cells) q.ps:=by cases q;rw[aJ.cells,jp];rfl
def bT.aj(b:bT):b.cells=[.sl (aB b.vars),.sl (b.eqs.map aJ.cells)]:=by cases b;rw[bT.cells,kh];rfl
def aP.aj(a:aP):a.cells=[.str a.name,.sl (aB a.a_.vars),.sl (a.a_.eqs.map aJ.cells),.sl (eG a.eL),.sl (eG a.et),.int .i64 a.ps.1,.int .i64 a.ps.2]:=by cases a;rw[aP.cells,bT.aj];rfl
def aJ.len(q:aJ):q.cells.length=16:=by rw[q.aj];simp[eQ,Xp.len]
def aP.len(a:aP):a.cells.length=7:=by rw[a.aj];rfl
def aP.IK(a:aP):SizeOf.sizeOf a.a_<SizeOf.sizeOf a:=by cases a;simp[aP.a_];omega
def aJ.EC{q:aJ}{a:aP}(h:a∈q.aq):SizeOf.sizeOf a.a_<SizeOf.sizeOf q:=by
 have:=a.IK;cases q;have:=aie h;simp only[aJ.aq]at this;simp;omega
def bT.JM{b:bT}{q:aJ}(h:q∈b.eqs):SizeOf.sizeOf q<SizeOf.sizeOf b:=by
 cases b;have:=aie h;simp only[bT.eqs]at this;simp;omega
structure Nd where
 name:Nm
 ins:List Va
 outs:List Va
 b:bT
 ps:Int×Int
def Nd.cells(n:Nd):List D:=[.str n.name,.sl (aB n.ins),.sl (aB n.outs),.sl (aB n.b.vars),.sl (n.b.eqs.map aJ.cells),.int .i64 n.ps.1,.int .i64 n.ps.2]
structure En where
 name:Nm
 fo:List Nm
 ps:Int×Int
def En.cells(e:En):List D:=[.str e.name,.sl (aR e.fo),.int .i64 e.ps.1,.int .i64 e.ps.2]
structure Pg where
 aG:List En
 nodes:List Nd
abbrev Pg.cells(p:Pg):List D:=[.sl (p.aG.map En.cells),.sl (p.nodes.map Nd.cells)]
def vJ(l:List Nat):Nat:=l.foldr (·+ ·) 0
def pi(a:Nat)(l:List Nat):vJ (a::l)=a+vJ l:=rfl
inductive xJ:Xp->Prop where
 |mk {k op n:Int} {s:Nm} {b:List Nm} {a:List Xp} {p:Int×Int} (c:k=9->a≠[]) (d:a.length<=1000000) (f:b.length<=1000000) (g:∀e∈a,xJ e):xJ (.mk k op n s b a p)
inductive yZ:bT->Prop where
 |mk {c:List Va} {b:List aJ} (d:c.length<=1000000) (f:b.length<=1000000)
   (h3:∀q∈b,∀a∈q.aq,yZ a.a_) (h4:∀q∈b,q.aq.length<=1000) (h5:∀q∈b,xJ q.ex/\q.args.length<=1000000/\∀e∈q.args,xJ e) (h6:∀q∈b,q.lhs.length<=1000000)
   (h7:∀q∈b,∀a∈q.aq,a.eL.length<=1000000/\a.et.length<=1000000):yZ (.mk c b)
abbrev nY:Nm:=⟨#[102,97,108,115,101]⟩
abbrev qk:Nm:=⟨#[116,114,117,101]⟩
def Hd(l:List Nm)(x:Nm):Int:=match l.findIdx? (λy=>decide (y=x))with
 |some i=>(i:Int)
 |none=> -1
def di(l:List Nm)(x:Nm):Bool:=l.any λy=>decide (y=x)
def ki{l:List Nm}{x:Nm} :di l x=true↔x∈l:=by simp[di]
def kI(en:List En)(a:Int)(b:Nm):List Nm:=
 if a=1 then [nY,qk]else if a=3 then(match en.find? (λe=>decide (e.name=b))with|some e=>e.fo|none=>[])else []
def rA(l:List Va)(x:Nm):Option Nat:=l.findIdx? (λv=>decide (v.name=x))
def dh(l:List Nm)(x:Nm):List Nm:=if di l x then l else l++[x]
mutual
def cp:aJ->List Nm
 |.mk _ b _ _ _ _ a _=>aZ b a
def aZ(l:List Nm):List aP->List Nm
 |[]=>l
 |a::r=>aZ ((pj a).foldl dh l) r
def pj:aP->List Nm
 |.mk _ b _ _ _=>cE b
def cE:bT->List Nm
 |.mk b a=>jR b [] a
def jR(a:List Va)(l:List Nm):List aJ->List Nm
 |[]=>l
 |q::r=>jR a (((cp q).filter λx=>(rA a x).isNone).foldl dh l) r
end
def gu(l:List Nd)(x:Nm):Option Nat:=l.findIdx? (λd=>decide (d.name=x))
end Go.Sm
namespace Go.Ps
open Go.Mt Go.Sm
def dg(n:Nat):Nm:=⟨(Lib.decDigits n).toArray⟩
def lN(c:UInt8)(n:Nat):Nm:=⟨#[95,c]⟩++dg n
abbrev nT:=lN 84
abbrev nS:=lN 115
abbrev nR:=lN 114
abbrev nA:=lN 97
abbrev nB:=lN 98
abbrev nN:=lN 110
abbrev nM:=lN 109
abbrev nV:=lN 118
abbrev nE:=lN 101
abbrev nX:=lN 120
def ig(k:Nat)(st:Nm):Nm:=nT k++⟨#[95]⟩++st
abbrev gB(s:Nm):Xp:=.mk 3 0 0 s [] [] (0,0)
abbrev bz(s:Nm):Xp:=.mk 4 0 0 s [] [] (0,0)
abbrev dS(b:Bool):Xp:=.mk 2 0 (if b then 1 else 0) ⟨#[]⟩ [] [] (0,0)
abbrev gQ(x:Nm)(e:Xp)(p:Int×Int):aJ:=.mk 1 [x] ⟨#[]⟩ [] false e [] p
abbrev jE(c e:Xp):Xp:=.mk 9 0 0 ⟨#[]⟩ [] [c,e] (0,0)
abbrev BV(a b c:Xp)(p:Int×Int):Xp:=.mk 8 0 0 ⟨#[]⟩ [] [a,b,c] p
abbrev iM(e:Xp)(o:Nm×Nm):Xp:=.mk 12 0 0 o.2 [o.1] [e] (0,0)
structure DS where
 n:Nat
 aG:List En
def pP(k:Nat):List Tr->Xp×Xp->Xp×Xp
 |[],r=>r
 |t::l,r=>(BV t.e (gB (ig k t.to)) (pP k l r).1 t.ps,BV t.e (dS (!t.A')) (pP k l r).2 t.ps)
def cR(k:Nat)(a:aP):aP:=
 let w:=pP k a.eL (gB (ig k a.name),bz (nR k))
 .mk (ig k a.name) (.mk [] [gQ (nA k) w.1 a.ps,gQ (nB k) w.2 a.ps]) [] [] a.ps
def eD(k:Nat)(a:aP):aP:=
 let w:=pP k a.et (gB (ig k a.name),dS false)
 .mk (ig k a.name) (.mk [] [.mk 5 [] ⟨#[]⟩ [] false (bz (nB k)) [.mk ⟨#[]⟩ (.mk a.a_.vars (a.a_.eqs++[gQ (nN k) w.1 a.ps,gQ (nM k) w.2 a.ps])) [] [] a.ps] a.ps]) [] [] a.ps
def gL(k:Nat)(p:Int×Int):List Va:=
 [⟨nS k,3,nT k,[],false,cg,p⟩,⟨nA k,3,nT k,[],false,cg,p⟩,⟨nN k,3,nT k,[],false,cg,p⟩,
 ⟨nR k,1,⟨#[]⟩,[],false,cg,p⟩,⟨nB k,1,⟨#[]⟩,[],false,cg,p⟩,⟨nM k,1,⟨#[]⟩,[],false,cg,p⟩]
def li(k:Nat)(aq:List aP)(p:Int×Int):List aJ:=
 [gQ (nS k) (jE (gB (ig k ((aq.head?.map aP.name).getD ⟨#[]⟩))) (bz (nN k))) p,
 gQ (nR k) (jE (dS false) (bz (nM k))) p,
 .mk 3 [] ⟨#[]⟩ [] false (bz (nS k)) (aq.map (cR k)) p,
 .mk 3 [] ⟨#[]⟩ [] false (bz (nA k)) (aq.map (eD k)) p]
def rI(k:Nat)(aq:List aP)(p:Int×Int):En:=⟨nT k,aq.map λa=>ig k a.name,p⟩
def tA(q:aJ)(s:DS):List Va×List aJ×DS:=
 if q.kd=4 then(gL (s.n+1) q.ps,li (s.n+1) q.aq q.ps,⟨s.n+1,s.aG++[rI (s.n+1) q.aq q.ps]⟩)
 else([],[q],s)
mutual
def fX:bT->DS->bT×DS
 |.mk b a,s=>(.mk (b++(dA a s).1) (dA a s).2.1,(dA a s).2.2)
def mC:aJ->DS->List Va×List aJ×DS
 |.mk k b f d c e a p,s=>tA (.mk k b f d c e (cu a s).1 p) (cu a s).2
def dA:List aJ->DS->List Va×List aJ×DS
 |[],s=>([],[],s)
 |q::l,s=>((mC q s).1++(dA l (mC q s).2.2).1,(mC q s).2.1++(dA l (mC q s).2.2).2.1,(dA l (mC q s).2.2).2.2)
def uT:aP->DS->aP×DS
 |.mk n b u w p,s=>(.mk n (fX b s).1 u w p,(fX b s).2)
def cu:List aP->DS->List aP×DS
 |[],s=>([],s)
 |a::l,s=>((uT a s).1::(cu l (uT a s).2).1,(cu l (uT a s).2).2)
end
def xK(d:Nd)(s:DS):Nd×DS:=(⟨d.name,d.ins,d.outs,(fX d.b s).1,d.ps⟩,(fX d.b s).2)
def ei:List Nd->DS->List Nd×DS
 |[],s=>([],s)
 |d::l,s=>((xK d s).1::(ei l (xK d s).2).1,(ei l (xK d s).2).2)
def lO(p:Pg):Pg:=⟨p.aG++(ei p.nodes ⟨0,[]⟩).2.aG,(ei p.nodes ⟨0,[]⟩).1⟩
mutual
def lP:Xp->List Nm->List Nm
 |.mk k _ _ x _ a _,l=>if k=4\/k=13 then fp a (dh l x)else if k=12 then dh (fp a l) x else fp a l
def fp:List Xp->List Nm->List Nm
 |[],l=>l
 |e::r,l=>fp r (lP e l)
end
mutual
def kJ:Xp->List Nm->List Nm
 |.mk k _ _ x _ a _,l=>iu a (if k=5 then dh l x else l)
def iu:List Xp->List Nm->List Nm
 |[],l=>l
 |e::r,l=>iu r (kJ e l)
end
structure Bd where
 name:Nm
 kK:Nat
 tk:Int
 tn:Nm
abbrev Env:=Nm->Option Bd
def Env.set(f:Env)(x:Nm)(b:Bd):Env:= λy=>if y=x then some b else f y
def Env.nm(f:Env)(x:Nm):Nm:=match f x with|some b=>b.name|none=>⟨#[]⟩
def Env.ty(f:Env)(x:Nm):Int×Nm:=match f x with|some b=>(b.tk,b.tn)|none=>(0,⟨#[]⟩)
structure Sc where
 vars:Env
 aY:Env
 ck:List (Nm×Nm)
structure MS where
 n:Nat
 vars:List Va
def MS.fresh(m:MS)(t:Int×Nm)(a:List (Nm×Nm)):MS:=⟨m.n+1,m.vars++[⟨nV (m.n+1),t.1,t.2,a,false,cg,(0,0)⟩]⟩
mutual
def cA(s:Sc):Xp->Xp
 |.mk k a n x c b p=>
  if k=4\/k=12\/k=13 then .mk k a n (s.vars.nm x) c (gU s b) p
  else if k=5 then .mk 4 a n (s.aY.nm x) c (gU s b) p
  else .mk k a n x c (gU s b) p
def gU(s:Sc):List Xp->List Xp
 |[]=>[]
 |e::l=>cA s e::gU s l
end
structure R where
 s:Sc
 m:MS
 q:List aJ
def oj(s:Sc)(b:Bd):Xp:=(s.ck.drop b.kK).foldl iM (bz b.name)
def cO(r:R)(x:Nm):R:=
 match r.s.vars x with
 |none=>r
 |some b=>if b.kK=r.s.ck.length then r else
  ⟨{r.s with vars:=r.s.vars.set x ⟨nV (r.m.n+1),r.s.ck.length,b.tk,b.tn⟩},r.m.fresh (b.tk,b.tn) r.s.ck,r.q++[gQ (nV (r.m.n+1)) (oj r.s b) (0,0)]⟩
def ff(r:R)(x:Nm):R:=
 match r.s.aY x with
 |none=>r
 |some b=>if b.kK=r.s.ck.length then r else
  ⟨{r.s with aY:=r.s.aY.set x ⟨nV (r.m.n+1),r.s.ck.length,b.tk,b.tn⟩},r.m.fresh (b.tk,b.tn) r.s.ck,r.q++[gQ (nV (r.m.n+1)) (oj r.s b) (0,0)]⟩
def cG(r:R)(e:Xp):R:=(kJ e []).foldl ff ((lP e []).foldl cO r)
def nZ(en:List En)(c:Nm):Nm:=match en.find? (λt=>di t.fo c)with|some t=>t.name|none=>⟨#[]⟩
def qm(op:Int):Int:=if op=1 then 1 else if op=2 then 2 else if 3<=op/\op<=7 then 2 else if 8<=op/\op<=16 then 1 else 0
def dD(en:List En)(f:Nm->Int×Nm):Xp->Int×Nm
 |.mk k a _ x _ c _=>
  if k=1 then(2,⟨#[]⟩)else if k=2 then(1,⟨#[]⟩)else if k=3 then(3,nZ en x)else if k=4\/k=5 then f x
  else if k=6\/k=7 then(qm a,⟨#[]⟩)
  else match c with
   |[]=>(0,⟨#[]⟩)
   |a::r=>if k=8 then(match r with|[]=>(0,⟨#[]⟩)|b::_=>dD en f b)else dD en f a
def gG(r:R)(e:Xp)(t:Int×Nm):R:=
 let a:=cG r e
 ⟨a.s,a.m.fresh t a.s.ck,a.q++[gQ (nV (a.m.n+1)) (cA a.s e) e.ps]⟩
def iz(r:R)(v:Va)(b:Nm):R:=
 if v.last then
  let a:=r.s.ck++v.clock.map λo=>(o.1,r.s.vars.nm o.2)
  ⟨{r.s with aY:=r.s.aY.set v.name ⟨nV (r.m.n+1),r.s.ck.length,v.tk,v.tn⟩},r.m.fresh (v.tk,v.tn) a,r.q++[gQ (nV (r.m.n+1)) (jE v.first (bz b)) v.ps]⟩
 else r
def dj(a:Bool)(r:R)(v:Va):R:=⟨{r.s with vars:=r.s.vars.set v.name ⟨if a then v.name else nV (r.m.n+1),r.s.ck.length,v.tk,v.tn⟩},⟨r.m.n+1,r.m.vars⟩,r.q⟩
def dT(r:R)(v:Va):R:=
 iz ⟨r.s,⟨r.m.n,r.m.vars++[⟨r.s.vars.nm v.name,v.tk,v.tn,r.s.ck++v.clock.map λo=>(o.1,r.s.vars.nm o.2),false,cg,v.ps⟩]⟩,r.q⟩ v (r.s.vars.nm v.name)
def iA(b:Bool)(r:R)(a:List Va):R:=
 a.foldl dT ((a.flatMap λv=>v.clock.map λo=>o.2).foldl cO (a.foldl (dj b) r))
def ek(s:Sc)(r:R)(x:Nm):R:=⟨{r.s with vars:=r.s.vars.set x ⟨nV (r.m.n+1),r.s.ck.length,(s.vars.ty x).1,(s.vars.ty x).2⟩},r.m.fresh (s.vars.ty x) r.s.ck,r.q⟩
def fq(p:Int×Int)(r:R)(x:Nm):R:=
 let a:=ff r x
 ⟨a.s,a.m,a.q++[gQ (a.s.vars.nm x) (bz (a.s.aY.nm x)) p]⟩
def eZ(r:R×List Xp)(e:Xp):R×List Xp:=(cG r.1 e,r.2++[cA (cG r.1 e).s e])
mutual
def h_(en:List En)(a:Bool):bT->Sc->MS->MS×List aJ
 |.mk c b,s,m=>((gf en b (iA a ⟨s,m,[]⟩ c)).m,(gf en b (iA a ⟨s,m,[]⟩ c)).q)
def gf(en:List En):List aJ->R->R
 |[],r=>r
 |q::l,r=>gf en l (iB en q r)
def iB(en:List En):aJ->R->R
 |.mk k d f h g e b p,r=>
  if k=1 then
   let a:=cG r e
   ⟨a.s,a.m,a.q++[.mk 1 (d.map a.s.vars.nm) ⟨#[]⟩ [] false (cA a.s e) [] p]⟩
  else if k=2 then
   let b:=d.map r.s.vars.nm
   let a:=h.foldl eZ (r,[])
   if g then⟨(cG a.1 e).s,(cG a.1 e).m,(cG a.1 e).q++[.mk 2 b f a.2 true (cA (cG a.1 e).s e) [] p]⟩
   else⟨a.1.s,a.1.m,a.1.q++[.mk 2 b f a.2 false cg [] p]⟩
  else if k=5 then
   let a:=gG r e (1,⟨#[]⟩)
   let i:=y7 en b a.s a.m
   ⟨a.s,i.1,a.q++[.mk 5 [] ⟨#[]⟩ [] false (bz (nV a.m.n)) [.mk ⟨#[]⟩ (.mk [] i.2) [] [] (0,0)] p]⟩
  else
   let a:=gG r e (dD en r.s.vars.ty e)
   let c:=nV a.m.n
   let f:=aZ d b
   let z:=c7 en c f b ⟨a.s,a.m,a.q⟩ []
   ⟨z.1.s,z.1.m,z.1.q++(List.range f.length).map λi=>gQ (z.1.s.vars.nm (f[i]?.getD ⟨#[]⟩)) (.mk 13 0 0 c (b.map aP.name) (z.2.map λa=>bz (a[i]?.getD ⟨#[]⟩)) p) p⟩
def y7(en:List En):List aP->Sc->MS->MS×List aJ
 |[],s,m=>(m,[])
 |.mk _ b _ _ _::_,s,m=>h_ en false b s m
def c7(en:List En)(c:Nm)(all:List Nm):List aP->R->List (List Nm)->R×List (List Nm)
 |[],r,a=>(r,a)
 |.mk n b _ _ p::l,r,e=>
  let d:R:=all.foldl (ek r.s) ⟨⟨r.s.vars,r.s.aY,r.s.ck++[(n,c)]⟩,r.m,r.q⟩
  let a:R:=(all.filter λx=> !(di (cE b) x)).foldl (fq p) d
  let z:=h_ en false b a.s a.m
  c7 en c all l ⟨r.s,z.1,a.q++z.2⟩ (e++[all.map d.s.vars.nm])
end
def e8(r:R)(v:Va):R:=iz ⟨{r.s with vars:=r.s.vars.set v.name ⟨v.name,0,v.tk,v.tn⟩},r.m,r.q⟩ v v.name
def nF(en:List En)(d:Nd):Nd:=
 let r:=(d.ins++d.outs).foldl e8 ⟨⟨λ_=>none,λ_=>none,[]⟩,⟨0,[]⟩,[]⟩
 let z:=h_ en true d.b r.s r.m
 ⟨d.name,d.ins,d.outs.map λv=>⟨v.name,v.tk,v.tn,v.clock,false,cg,v.ps⟩,.mk z.1.vars (r.q++z.2),d.ps⟩
def tB(p:Pg):Pg:=⟨p.aG,p.nodes.map (nF p.aG)⟩
structure Fq where
 kd:Int
 lhs:List Nm
 f:Nm
 first:Xp
 e:Xp
 args:List Xp
 ck:List (Nm×Nm)
 rs:List Nm
def Fq.cells(q:Fq):List D:=[.int .u8 q.kd,.sl (aR q.lhs),.str q.f]++q.first.cells++q.e.cells++[.sl (q.args.map Xp.cells),.sl (bW q.ck),.sl (aR q.rs)]
structure Fl where
 name:Nm
 ins:List Va
 outs:List Va
 vars:List Va
 eqs:List Fq
def Fl.cells(f:Fl):List D:=[.str f.name,.sl (aB f.ins),.sl (aB f.outs),.sl (aB f.vars),.sl (f.eqs.map Fq.cells)]
structure Wh where
 aG:List En
 nodes:List Fl
abbrev Wh.cells(w:Wh):List D:=[.sl (w.aG.map En.cells),.sl (w.nodes.map Fl.cells)]
structure US where
 n:Nat
 vars:List Va
 eqs:List Fq
abbrev oJ:=Nm->List (Nm×Nm)
def qn:Xp->Bool
 |.mk k _ _ _ _ kids _=> !(decide (k=9\/k=10\/k=11))&&BW kids
where BW:List Xp->Bool
 |[]=>true
 |e::l=>qn e&&BW l
def iN(u:US)(e:Xp)(t:Int×Nm)(a:List (Nm×Nm))(rs:List Nm):US:=
 ⟨u.n+1,u.vars++[⟨nE (u.n+1),t.1,t.2,a,false,cg,(0,0)⟩],u.eqs++[⟨1,[nE (u.n+1)],⟨#[]⟩,cg,e,[],a,rs⟩]⟩
def dx(b:List (Nm×Nm))(rs:List Nm)(r:US×List Xp)(a:Xp×(Int×Nm)):US×List Xp:=
 if qn a.1 then(r.1,r.2++[a.1])else(iN r.1 a.1 a.2 b rs,r.2++[bz (nE (r.1.n+1))])
def mu(a:oJ)(lhs:List Nm):List (Nm×Nm):=match lhs with|[]=>[]|x::_=>a x
mutual
def oK(d:Nm->List (Int×Nm))(c:oJ)(rs:List Nm):aJ->US->US
 |.mk k b f i h e g p,u=>
  let a:=mu c b
  if k=1 then⟨u.n,u.vars,u.eqs++[⟨1,b,⟨#[]⟩,cg,e,[],a,rs⟩]⟩
  else if k=2 then
   let r:=(i.zip (d f)).foldl (dx a rs) (u,[])
   if h then
    if e.kd=4 then⟨r.1.n,r.1.vars,r.1.eqs++[⟨3,b,f,cg,cg,r.2,a,rs++[e.nm]⟩]⟩
    else
     let c:=iN r.1 e (1,⟨#[]⟩) a rs
     ⟨c.n,c.vars,c.eqs++[⟨3,b,f,cg,cg,r.2,a,rs++[nE (r.1.n+1)]⟩]⟩
   else⟨r.1.n,r.1.vars,r.1.eqs++[⟨3,b,f,cg,cg,r.2,a,rs⟩]⟩
  else if k=5 then Ba d c (rs++[e.nm]) g u
  else u
def Ba(c:Nm->List (Int×Nm))(a:oJ)(rs:List Nm):List aP->US->US
 |[],u=>u
 |.mk _ b _ _ _::_,u=>Fs c a rs b u
def Fs(b:Nm->List (Int×Nm))(a:oJ)(rs:List Nm):bT->US->US
 |.mk _ c,u=>fV b a rs c u
def fV(b:Nm->List (Int×Nm))(a:oJ)(rs:List Nm):List aJ->US->US
 |[],u=>u
 |q::l,u=>fV b a rs l (oK b a rs q u)
end
def eT(a:List Va):oJ:= λx=>match a.reverse.find? (λv=>decide (v.name=x))with|some v=>v.clock|none=>[]
def fr(ns:List Nd):Nm->List (Int×Nm):= λf=>match ns.find? (λd=>decide (d.name=f))with|some d=>d.ins.map λv=>(v.tk,v.tn)|none=>[]
def sG(ns:List Nd)(d:Nd):Fl:=
 let u:=fV (fr ns) (eT (d.ins++d.outs++d.b.vars)) [] d.b.eqs ⟨0,d.b.vars,[]⟩
 ⟨d.name,d.ins,d.outs,u.vars,u.eqs⟩
def BX(p:Pg):Wh:=⟨p.aG,p.nodes.map (sG p.nodes)⟩
end Go.Ps
namespace Go.Proofs
open Go.Shelf
open Tryz
def Tryz.y8:Go.Shelf.Ren:=⟨λ|171=>212|243=>254|246=>289|283=>303|284=>304|285=>305|286=>306|129=>250|317=>308|318=>309|319=>310|320=>311|337=>314|338=>315|n=>n,λ|3=>3|9=>9|2=>2|4=>4|171=>377|0=>0|53=>341|37=>22|5=>5|173=>379|212=>386|51=>339|20=>20|213=>387|46=>300|232=>401|233=>402|n=>n,λ|17=>0|18=>1|19=>2|n=>n⟩
def Tryz.Ft:Go.Proofs.LaysM.n171 prog Tryz.y8:={
 mixed:=by kernel_rfl
 f129:=func250.trans (ahA some (by kernel_rfl))
 f171:=func212.trans (ahA some (by kernel_rfl))
 f243:=func254.trans (ahA some (by kernel_rfl))
 f246:=func289.trans (ahA some (by kernel_rfl))
 f283:=func303.trans (ahA some (by kernel_rfl))
 f284:=func304.trans (ahA some (by kernel_rfl))
 f285:=func305.trans (ahA some (by kernel_rfl))
 f286:=func306.trans (ahA some (by kernel_rfl))
 f317:=func308.trans (ahA some (by kernel_rfl))
 f318:=func309.trans (ahA some (by kernel_rfl))
 f319:=func310.trans (ahA some (by kernel_rfl))
 f320:=func311.trans (ahA some (by kernel_rfl))
 f337:=func314.trans (ahA some (by kernel_rfl))
 f338:=func315.trans (ahA some (by kernel_rfl))
 t0:=underlying0
 a0:=Tryz.isAgg0
 z0:=Tryz.sizeOf0
 v0:=Tryz.zeroValue0
 t2:=underlying2
 a2:=Tryz.isAgg2
 z2:=Tryz.sizeOf2
 v2:=Tryz.zeroValue2
 t3:=underlying3
 a3:=Tryz.isAgg3
 z3:=Tryz.sizeOf3
 v3:=Tryz.zeroValue3
 t4:=underlying4
 a4:=Tryz.isAgg4
 z4:=Tryz.sizeOf4
 v4:=Tryz.zeroValue4
 t5:=underlying5
 a5:=Tryz.isAgg5
 z5:=Tryz.sizeOf5
 v5:=Tryz.zeroValue5
 t9:=underlying9
 a9:=Tryz.isAgg9
 z9:=Tryz.sizeOf9
 v9:=Tryz.zeroValue9
 t20:=underlying20
 a20:=Tryz.isAgg20
 z20:=Tryz.sizeOf20
 v20:=Tryz.zeroValue20
 t37:=underlying22
 a37:=Tryz.isAgg22
 z37:=Tryz.sizeOf22
 v37:=Tryz.zeroValue22
 t46:=underlying300
 a46:=Tryz.isAgg300
 z46:=Tryz.sizeOf300
 v46:=Tryz.zeroValue300
 t51:=underlying339
 a51:=Tryz.isAgg339
 z51:=Tryz.sizeOf339
 v51:=Tryz.zeroValue339
 t53:=underlying341
 a53:=Tryz.isAgg341
 z53:=Tryz.sizeOf341
 v53:=Tryz.zeroValue341
 t171:=underlying377
 a171:=Tryz.isAgg377
 z171:=Tryz.sizeOf377
 v171:=Tryz.zeroValue377
 t173:=underlying379
 a173:=Tryz.isAgg379
 z173:=Tryz.sizeOf379
 v173:=Tryz.zeroValue379
 t212:=underlying386
 a212:=Tryz.isAgg386
 z212:=Tryz.sizeOf386
 v212:=Tryz.zeroValue386
 t213:=underlying387
 a213:=Tryz.isAgg387
 z213:=Tryz.sizeOf387
 t232:=underlying401
 a232:=Tryz.isAgg401
 z232:=Tryz.sizeOf401
 v232:=Tryz.zeroValue401
 t233:=underlying402
 a233:=Tryz.isAgg402
 z233:=Tryz.sizeOf402
 v233:=Tryz.zeroValue402
 g17:=by kernel_rfl
 g18:=by kernel_rfl
 g19:=by kernel_rfl
 i0:=by kernel_rfl
 i2:=by kernel_rfl
 i3:=by kernel_rfl
 i4:=by kernel_rfl
 i5:=by kernel_rfl
 i9:=by kernel_rfl
 i20:=by kernel_rfl
 i37:=by kernel_rfl
 i46:=by kernel_rfl
 i51:=by kernel_rfl
 i53:=by kernel_rfl
 i171:=by kernel_rfl
 i173:=by kernel_rfl
 i212:=by kernel_rfl
 i232:=by kernel_rfl
 i233:=by kernel_rfl
 m17:=by kernel_rfl
 m18:=by kernel_rfl
 m19:=by kernel_rfl}
open Go.RowKit Go.Sort Go.Lib in
def Tryz.strconv_Itoa(n:Int)(a: -9223372036854775808<=n)(b:n<=9223372036854775807)(w:World)(c:Lib.TabIs prog w "internal/strconv.uint64pow10" .u64 Lib.pow10Tab):
  Calls prog 212 #[.int .i64 n] w λe w'=>e=.returned (.string ⟨(Lib.itoa n).toArray⟩)/\∃k os,w'=grow (w.drewN k) os:=Any.strconv_Itoa Tryz.Ft n a b w c
end Go.Proofs
namespace Go.Proofs
open Go.Mt
open Tryz
instance:zJ prog 42 3 9 3:=⟨by kernel_rfl⟩
instance:zJ prog 261 0 9 0:=⟨by kernel_rfl⟩
instance:zJ prog 261 2 53 2:=⟨by kernel_rfl⟩
instance:G2 prog 311 3 9:=⟨by kernel_rfl⟩
end Go.Proofs
namespace Go.Sm
open Go.Mt
def Va.aj(v:Va):v.cells=[.str v.name,.int .u8 v.tk,.str v.tn,.sl (bW v.clock),.bool v.last,.int .u8 v.first.kd,.int .u8 v.first.op,.int .i32 v.first.num,.str v.first.nm,.sl (aR v.first.names),.sl (v.first.kids.map Xp.cells),.int .i64 v.first.ps.1,.int .i64 v.first.ps.2,.int .i64 v.ps.1,.int .i64 v.ps.2]:=by unfold Va.cells;rw[v.first.aj];rfl
abbrev xL(q:aJ):List D:=[.int .u8 q.kd,.sl (aR q.lhs),.str q.f,.sl (q.args.map Xp.cells),.bool q.has,.int .u8 q.ex.kd,.int .u8 q.ex.op,.int .i32 q.ex.num,.str q.ex.nm,.sl (aR q.ex.names),.sl (q.ex.kids.map Xp.cells),.int .i64 q.ex.ps.1,.int .i64 q.ex.ps.2,.sl (q.aq.map aP.cells),.int .i64 q.ps.1,.int .i64 q.ps.2]
def aJ.pk(q:aJ):q.cells=xL q:=by rw[q.aj,q.ex.aj];rfl
def Tr.aj(t:Tr):t.cells=[.int .u8 t.e.kd,.int .u8 t.e.op,.int .i32 t.e.num,.str t.e.nm,.sl (aR t.e.names),.sl (t.e.kids.map Xp.cells),.int .i64 t.e.ps.1,.int .i64 t.e.ps.2,.str t.to,.bool t.A',.int .i64 t.ps.1,.int .i64 t.ps.2]:=by unfold Tr.cells;rw[t.e.aj];rfl
def bM(l:List Va):(aB l).length=l.length:=by simp[aB]
def bR(l:List Va):∀r∈aB l,r.length=15:=by intro r a;obtain⟨_,_,rfl⟩:=agC.1 a;exact Va.len _
def uU(a b:List Va):aB (a++b)=aB a++aB b:=by simp[aB]
end Go.Sm
namespace Go.Ps
open Go.Mt Go.Sm
def gR(n:Nat)(h:n<=1000000000):(dg n).size<=21:=by
 have:=Lib.itoa_length_le (n:Int) (by omega) (by omega);rw[Lib.itoa_nonneg]at this;exact this
def Fu(c:UInt8)(n:Nat)(h:n<=1000000000):(lN c n).size<=23:=by
 have:=gR n h;unfold lN;rw[ah4];have e:(⟨#[95,c]⟩:ByteArray).size=2:=rfl;omega
end Go.Ps
namespace Go.Mt
variable{H H0:Hp}{X:cY}{sl:List (Nat×V)}{bx:List (Nat×List M)}{n d ty T e:Nat}{cs zs Ls:List M}{ops:Array Oper}{rest:List Oper}{pos:String}{af:Array Edge}{m:M}{z ds:List D}{parts:List (Nat×Operand)}{ms:List (Nat×M)}{Lw:List Ef->St->Prop}{F0:Nat->Prop}{r:List As}{rs:List (List D)}{ps:List (Nat×Nat)}{post:St->Prop}{P:Program}
def ED{a:Nat}{x y:Operand}{rows:List (List D)}{z:D}[ht:br X.P T e][A:cc X.P e n][B:jx X.P e a][C:fC X.P e z](w:Wk F0 H0 (.acc n rs m::r) H)(b:Nat.blt d X.n=true)(c:bj sl x=some (.m m))(f:bj sl y=some (.m (.d (.sl rows))))
  (j:Nat.blt 0 n=true) (g:(bP z).length=n) (l:Nat.ble a 1000=true) (o:rows≠[]) (h:∀r∈rows,r.length=n) (p:rs.length+rows.length<=100000000000)
  (k:TF X ops rest ⟨(d,.m (cQ m H rows))::sl,bx,eg n m H rows⟩ λa b=>Lw (⟨some d,.m (cQ m H rows),[],[],none,true,some (eg n m H rows)⟩::a) b):TF X ops (⟨some d,.call ⟨.builtin .append,#[x,y],#[T,T]⟩,ty,pos,af,none⟩::rest) ⟨sl,bx,H⟩ Lw:=by
 have q:=ah0 p (agT l);obtain⟨t,s⟩:=w.zH;rcases s with⟨rfl,rfl⟩|⟨E,F,rfl,i⟩
 .cases rows with
  |nil=>exact absurd W o
  |cons u v=>exact pc true b c f j g (by simp) h (by simp only[List.length_nil,ahq]at q;omega) k
 .refine m_ b c f i g h (by omega) (by omega) ?_;simp only[cQ,eg,i]at k;exact k
def BY:∀{cs:List M} {ds:List D},fY cs=some ds->cs=ds.map M.d
 |[],ds,h=>by simp[fY]at h;subst h;rfl
 |.d x::r,ds,h=>by
  simp only[fY,agU]at h;obtain⟨l,a,rfl⟩:=h;rw[BY a];rfl
 |.ref _ _::r,ds,h=>by cases h
 |.cy _ _ _::r,ds,h=>by cases h
 |.cF _ _ _::r,ds,h=>by cases h
 |.mp _::r,ds,h=>by cases h
 |.it _::r,ds,h=>by cases h
 |.agg _::r,ds,h=>by cases h
 |.fn _ _::r,ds,h=>by cases h
 |.c_ _::r,ds,h=>by cases h
 |.undef::r,ds,h=>by cases h
def zR:∀ds:List D,mm ds=some (ds.map M.d)
 |[]=>rfl
 |d::l=>by unfold mm;rw[zR l];rfl
def fu(cs:List M):fj (pack cs)=some cs:=by
 unfold pack;split
 .rename_i a h;show mm a=_;rw[zR,<-BY h]
 .rfl
def uV[ht:cK X.P T ps z](a:Nat.blt d X.n=true)(b:ez sl parts=some ms)(c:mm z=some zs)
  (f:jH ps zs ms=some cs) (k:TF X ops rest ⟨(d,.m (pack cs))::sl,bx,H⟩ λa b=>Lw (⟨some d,.m (pack cs),[],[],none,false,none⟩::a) b):TF X ops (⟨some d,.build T parts.toArray,ty,pos,af,none⟩::rest) ⟨sl,bx,H⟩ Lw:=by
 refine TF.cons (e:=⟨some d,.m (pack cs),[],[],none,false,none⟩) (Lm W W (bL a) λa h=>?_) W k;exact mH (X:=X) (dst:=some d) (ty:=ty) (pos:=pos) (af:=af) (g:=none) (st:=a) (T:=T) (parts:=parts) (ms:=ms) (by rw[h.dF (λp a=>by simp[Op.operands];exact⟨_,a⟩),eA];exact b) (by rw[<-kD c];exact kZ f)
def mJ[ht:cK X.P T ps z](a:Nat.blt d X.n=true)(b:ez sl parts=some ms)(c:mm z=some zs)
  (e:jH ps zs ms=some cs) (k:TL X ops rest ⟨(d,.m (pack cs))::sl,bx,H⟩ post):TL X ops (⟨some d,.build T parts.toArray,ty,pos,af,none⟩::rest) ⟨sl,bx,H⟩ post:=
 LA W W a (mH (X:=X) (dst:=some d) (ty:=ty) (pos:=pos) (af:=af) (g:=none) (st:=⟨sl,bx,H⟩) (T:=T) (by rw[eA];exact b) (by rw[<-kD c];exact kZ e)) k
def Wk.zS(w:Wk F0 H0 (.acc n rs m::r) H):fj m=some [m]:=by
 obtain⟨i,h⟩:=w.zH;rcases h with⟨_,rfl⟩|⟨_,a,rfl,_⟩<;>rfl
def cj.Bb{σ:Sg}{Li:Nat->Nat}{st:St}{a:Act}(hi:cj X σ Li st a){i:Nat}(b:st.H[i]?=some (.box cs))(c:dV st.H cs=some Ls):∃τ:Sg,τ.w=σ.w/\cj X τ Li ⟨st.sl,st.bx,st.H.set i (.box Ls)⟩ a:=by
 obtain⟨l,T,d,e⟩:=hi.hinv.obj i (.box cs) (by rw[hi.hH];exact b);obtain⟨τ,f,m,n,o,g⟩:=hi.jg (j:=i) (b':=σ.l i) (ob:=.box cs) (MA:=.box Ls) (w':=σ.w) b trivial W W W (ags _)
  (λ_ _ _=>rfl) (.inl W) (λo v b=>(b trivial).elim) W (by
   intro τ h k _ _;exact⟨l,T,by rw[k];exact d,(e.view hi.hinv (by rw[hi.hH];exact c)).mono h⟩)
 exact⟨τ,f,g⟩
def DC.Bb{B:Nat}{post:Exit->St->Prop}{c:Code}(i:Nat)(b:H[i]?=some (.box cs))(d:dV H cs=some Ls)(k:DC P n B c ⟨sl,bx,H.set i (.box Ls)⟩ post):DC P n B c ⟨sl,bx,H⟩ post:=
 Mq _ (λ_ _ _ l w ⟨m,e,f,g⟩=>by
  obtain⟨a,h,j⟩:=g.Bb b d;exact⟨a,e,h.trans f,j⟩) k
def BZ{x y:List D}(h:x.length=n)(b:y.length=n):∀r∈[x,y],r.length=n:=by
 intro r a;rcases agu.1 a with rfl|a
 .exact h
 .rw[ag9]at a;rw[a];exact b
def CT.JN{f:Nat}{rs:List D}(h:PT P f ds (·=rs)):CT P f (ds.map .d) H λr k=>r=mi (rs.map .d)/\k=H:=
 (CT.Da h).mono λr k ⟨⟨d,a,b⟩,c⟩=>⟨by rw[a,b],c⟩
def EE{len:Nat}[a:G2 X.P T len e][g:cc X.P e n][b:fC X.P T (.agg z)](c:Nat.blt d X.n=true)(f:ez sl parts=some ms)
  (g:gK (λi=>some (i*n,n)) (z.map .d) ms=some cs) (h:fY cs=some ds) (k:TL X ops rest ⟨(d,.m (.d (.agg ds)))::sl,bx,H⟩ post):TL X ops (⟨some d,.build T parts.toArray,ty,pos,af,none⟩::rest) ⟨sl,bx,H⟩ post:=
 BM c a.u b.zero f g h k
def po(H:Hp):dV H []=some []:=rfl
def cq{d:D}{r ms:List M}(a:dV H r=some ms):dV H (.d d::r)=some (.d d::ms):=by simp only[dV,eK,a]
def lQ{d:D}{r ms:List M}(h:eK H m=some d)(a:dV H r=some ms):dV H (m::r)=some (.d d::ms):=by simp only[dV,h,a]
end Go.Mt
namespace Go.Proofs.Pz
open Go.Mt Go.Sm Go.Ps Go.Proofs
open Tryz
def mixed:prog.follows .mixedOrders=true:=by kernel_rfl
instance:bu prog 212:=dz (by kernel_rfl)
abbrev cv(l:List aJ):List (List D):=l.map aJ.cells
def dt(l:List aJ):∀r∈cv l,r.length=16:=by intro r a;obtain⟨_,_,rfl⟩:=agC.1 a;exact aJ.len _
def uW(l:List aP):∀r∈l.map aP.cells,r.length=7:=by intro r a;obtain⟨_,_,rfl⟩:=agC.1 a;exact aP.len _
def dq(l:List Nm):∀r∈aR l,r.length=1:=by intro r a;obtain⟨_,_,rfl⟩:=agC.1 a;rfl
def ja(l:List (Nm×Nm)):∀r∈bW l,r.length=2:=by intro r a;obtain⟨_,_,rfl⟩:=agC.1 a;rfl
def Dr(l:List aJ)(c:l.length<=100000000):Dt prog 219 [.d (.sl (cv l))] [] λr a=>a=[.acc 16 (cv l) r]:=by
 intro H F d;have w:=Wk.start d;cases l with
 |nil=>
  refine⟨.d (.sl []),H,⟨_,W,w.nil 16⟩,?_⟩;refine Lf func219 W ntmps219 W λe f=>?_
  repeat refine TC.seq ?_
  refine TC.region<|ah W W<|TL.nil ?_
  repeat refine TC.seq ?_
  refine TC.region<|ai W W ?_
  (refine tr W W (λb=>?_))
  refine TL.nil ?_;cases b with
  |true=>
   repeat refine TC.seq ?_
   refine TC.cond W (λg=>?_) (λa=>by cases a)
   repeat refine TC.seq ?_
   refine TC.region<|ah W W<|TL.nil<|TC.ret ⟨_,W,W,W⟩
  |false=>
   repeat refine TC.seq ?_
   refine TC.cond W (λa=>by cases a) (λa=>?_);refine TC.skip ?_
   repeat refine TC.seq ?_
   refine TC.region<|aU W W W W W W W W<|ai W W<|gO W W W<|ah W W<|TL.nil<|TC.ret ⟨_,W,W,W⟩
 |cons a l=>
  refine⟨_,_,⟨_,W,(w.nil 16).app (cv (a::l))⟩,?_⟩;refine Lf func219 W ntmps219 W λf g=>?_
  repeat refine TC.seq ?_
  refine TC.region<|ah W W<|TL.nil ?_
  repeat refine TC.seq ?_
  refine TC.region<|ai W W<|qc W (by kernel_rfl) W<|TL.nil ?_
  repeat refine TC.seq ?_
  refine TC.cond W (λe=>by cases e) (λe=>?_);refine TC.skip ?_
  repeat refine TC.seq ?_
  refine TC.region<|aU W W W W W W W W<|ai W W<|fl true W W W W (by rfl) (by simp[cv]) (by exact dt (a::l)) (by simp[cv]at c⊢;omega)<|ah W W<|TL.nil<|TC.ret ⟨_,rfl,rfl,rfl⟩
def pq(l:List Va)(c:l.length<=100000000):Dt prog 60 [.d (.sl (aB l))] [] λr a=>a=[.acc 15 (aB l) r]:=by
 intro H F d;have w:=Wk.start d;cases l with
 |nil=>
  refine⟨.d (.sl []),H,⟨_,W,w.nil 15⟩,?_⟩;refine Lf func60 W ntmps60 W λe f=>?_
  repeat refine TC.seq ?_
  refine TC.region<|ah W W<|TL.nil ?_
  repeat refine TC.seq ?_
  refine TC.region<|ai W W ?_
  (refine tr W W (λb=>?_))
  refine TL.nil ?_;cases b with
  |true=>
   repeat refine TC.seq ?_
   refine TC.cond W (λg=>?_) (λa=>by cases a)
   repeat refine TC.seq ?_
   refine TC.region<|ah W W<|TL.nil<|TC.ret ⟨_,W,W,W⟩
  |false=>
   repeat refine TC.seq ?_
   refine TC.cond W (λa=>by cases a) (λa=>?_);refine TC.skip ?_
   repeat refine TC.seq ?_
   refine TC.region<|aU W W W W W W W W<|ai W W<|gO W W W<|ah W W<|TL.nil<|TC.ret ⟨_,W,W,W⟩
 |cons a l=>
  refine⟨_,_,⟨_,W,(w.nil 15).app (aB (a::l))⟩,?_⟩;refine Lf func60 W ntmps60 W λf g=>?_
  repeat refine TC.seq ?_
  refine TC.region<|ah W W<|TL.nil ?_
  repeat refine TC.seq ?_
  refine TC.region<|ai W W<|qc W (by kernel_rfl) W<|TL.nil ?_
  repeat refine TC.seq ?_
  refine TC.cond W (λe=>by cases e) (λe=>?_);refine TC.skip ?_
  repeat refine TC.seq ?_
  refine TC.region<|aU W W W W W W W W<|ai W W<|fl true W W W W (by rfl) (by simp[aB]) (by exact bR (a::l)) (by simp[aB]at c⊢;omega)<|ah W W<|TL.nil<|TC.ret ⟨_,rfl,rfl,rfl⟩
def pt(l:List (Nm×Nm))(c:l.length<=100000000):Dt prog 175 [.d (.sl (bW l))] [] λr a=>a=[.acc 2 (bW l) r]:=by
 intro H F d;have w:=Wk.start d;cases l with
 |nil=>
  refine⟨.d (.sl []),H,⟨_,W,w.nil 2⟩,?_⟩;refine Lf func175 W ntmps175 W λe f=>?_
  repeat refine TC.seq ?_
  refine TC.region<|ah W W<|TL.nil ?_
  repeat refine TC.seq ?_
  refine TC.region<|ai W W ?_
  (refine tr W W (λb=>?_))
  refine TL.nil ?_;cases b with
  |true=>
   repeat refine TC.seq ?_
   refine TC.cond W (λg=>?_) (λa=>by cases a)
   repeat refine TC.seq ?_
   refine TC.region<|ah W W<|TL.nil<|TC.ret ⟨_,W,W,W⟩
  |false=>
   repeat refine TC.seq ?_
   refine TC.cond W (λa=>by cases a) (λa=>?_);refine TC.skip ?_
   repeat refine TC.seq ?_
   refine TC.region<|aU W W W W W W W W<|ai W W<|gO W W W<|ah W W<|TL.nil<|TC.ret ⟨_,W,W,W⟩
 |cons a l=>
  refine⟨_,_,⟨_,W,(w.nil 2).app (bW (a::l))⟩,?_⟩;refine Lf func175 W ntmps175 W λf g=>?_
  repeat refine TC.seq ?_
  refine TC.region<|ah W W<|TL.nil ?_
  repeat refine TC.seq ?_
  refine TC.region<|ai W W<|qc W (by kernel_rfl) W<|TL.nil ?_
  repeat refine TC.seq ?_
  refine TC.cond W (λe=>by cases e) (λe=>?_);refine TC.skip ?_
  repeat refine TC.seq ?_
  refine TC.region<|aU W W W W W W W W<|ai W W<|fl true W W W W (by rfl) (by simp[bW]) (by exact ja (a::l)) (by simp[bW]at c⊢;omega)<|ah W W<|TL.nil<|TC.ret ⟨_,rfl,rfl,rfl⟩
def sH(l:List Nm)(c:l.length<=100000000):Dt prog 206 [.d (.sl (aR l))] [] λr a=>a=[.acc 1 (aR l) r]:=by
 intro H F d;have w:=Wk.start d;cases l with
 |nil=>
  refine⟨.d (.sl []),H,⟨_,W,w.nil 1⟩,?_⟩;refine Lf func206 W ntmps206 W λe f=>?_
  repeat refine TC.seq ?_
  refine TC.region<|ah W W<|TL.nil ?_
  repeat refine TC.seq ?_
  refine TC.region<|ai W W ?_
  (refine tr W W (λb=>?_))
  refine TL.nil ?_;cases b with
  |true=>
   repeat refine TC.seq ?_
   refine TC.cond W (λg=>?_) (λa=>by cases a)
   repeat refine TC.seq ?_
   refine TC.region<|ah W W<|TL.nil<|TC.ret ⟨_,W,W,W⟩
  |false=>
   repeat refine TC.seq ?_
   refine TC.cond W (λa=>by cases a) (λa=>?_);refine TC.skip ?_
   repeat refine TC.seq ?_
   refine TC.region<|aU W W W W W W W W<|ai W W<|gO W W W<|ah W W<|TL.nil<|TC.ret ⟨_,W,W,W⟩
 |cons a l=>
  refine⟨_,_,⟨_,W,(w.nil 1).app (aR (a::l))⟩,?_⟩;refine Lf func206 W ntmps206 W λf g=>?_
  repeat refine TC.seq ?_
  refine TC.region<|ah W W<|TL.nil ?_
  repeat refine TC.seq ?_
  refine TC.region<|ai W W<|qc W (by kernel_rfl) W<|TL.nil ?_
  repeat refine TC.seq ?_
  refine TC.cond W (λe=>by cases e) (λe=>?_);refine TC.skip ?_
  repeat refine TC.seq ?_
  refine TC.region<|aU W W W W W W W W<|ai W W<|fl true W W W W (by rfl) (by simp[aR]) (by exact dq (a::l)) (by simp[aR]at c⊢;omega)<|ah W W<|TL.nil<|TC.ret ⟨_,rfl,rfl,rfl⟩
abbrev bK:Ob:=.iter (xr 0 386 .u64 Lib.pow10Tab)
def qo{H:Hp}{i n:Nat}(z:n<=1000000000)(s:H[i]?=some bK):CT prog 212 [.d (.int .i64 ((n:Nat):Int))] H λr K=>r=.d (.str (dg n))/\K=H:=by
 intro a A g m h t;obtain⟨j,u⟩:=vG (m.obj i bK (by rw[h];exact s));have v:Lib.TabIs prog a.w "internal/strconv.uint64pow10" .u64 Lib.pow10Tab:=by
  unfold Lib.TabIs World.var?;rw[show prog.globalNamed "internal/strconv.uint64pow10" =some 0 by kernel_rfl];simp[u]
 have x:g= #[.int .i64 ((n:Nat):Int)]:=by
  obtain⟨y,o⟩:=t;obtain⟨p⟩:=g
  match p,y with
  |[q],_=>
   have c:=o 0 _ q W W;cases c with
   |d c=>cases c;rfl
 subst x;refine(Tryz.strconv_Itoa ((n:Nat):Int) (by omega) (by omega) a.w v).mono ?_;rintro e B ⟨rfl,k,l,rfl⟩;have f:fS a.w (Sort.grow (a.w.drewN k) l):=by
  refine⟨W,W,W,?_,?_⟩
  .simp[Sort.grow,World.drewN]
  .intro b j;simp[Sort.grow,World.drewN,agY j]
 refine⟨_,_,{a with w:=Sort.grow (a.w.drewN k) l},rfl,rfl,⟨rfl,h⟩,m.ext f,?_,db.ext f,bT.ext f⟩;rw[Lib.itoa_nonneg];exact .d (.str _)
def fB(s:Nm):PT prog 173 [.str s] (·=[.agg (bz s).cells]):=by
 rw[Xp.aj];refine Lk (Lf func173 W ntmps173 W λa b=>?_)
 repeat refine TC.seq ?_
 refine TC.region<|aM W W<|TL.nil ?_
 repeat refine TC.seq ?_
 refine TC.region<|ai W W<|bX W W W W W<|aC W W W W W W<|TL.nil<|TC.ret ⟨_,W,[_],W,W⟩
def zT(s:Nm):PT prog 76 [.str s] (·=[.agg (gB s).cells]):=by
 rw[Xp.aj];refine Lk (Lf func76 W ntmps76 W λa b=>?_)
 repeat refine TC.seq ?_
 refine TC.region<|aM W W<|TL.nil ?_
 repeat refine TC.seq ?_
 refine TC.region<|ai W W<|bX W W W W W<|aC W W W W W W<|TL.nil<|TC.ret ⟨_,W,[_],W,W⟩
def He(z:Int):PT prog 73 [.int .i32 z] (·=[.agg (zQ z).cells]):=by
 rw[Xp.aj];refine Lk (Lf func73 W ntmps73 W λa b=>?_)
 repeat refine TC.seq ?_
 refine TC.region<|aM W W<|TL.nil ?_
 repeat refine TC.seq ?_
 refine TC.region<|ai W W<|bX W W W W W<|aC W W W W W W<|TL.nil<|TC.ret ⟨_,W,[_],W,W⟩
def mK(b:Bool):PT prog 74 [.bool b] (·=[.agg (dS b).cells]):=by
 rw[Xp.aj];refine Lk (Lf func74 W ntmps74 W λc d=>?_);cases b with
 |true=>
  repeat refine TC.seq ?_
  refine TC.region<|aM W W<|TL.nil ?_
  repeat refine TC.seq ?_
  refine TC.region<|ai W W<|TL.nil ?_
  repeat refine TC.seq ?_
  refine TC.cond W (λe=>?_) (λa=>by cases a)
  repeat refine TC.seq ?_
  refine TC.region<|bX W W W W W<|aC W W W W W W<|TL.nil<|TC.ret ⟨_,W,[_],W,W⟩
 |false=>
  repeat refine TC.seq ?_
  refine TC.region<|aM W W<|TL.nil ?_
  repeat refine TC.seq ?_
  refine TC.region<|ai W W<|TL.nil ?_
  repeat refine TC.seq ?_
  refine TC.cond W (λa=>by cases a) (λa=>?_);refine TC.skip ?_
  repeat refine TC.seq ?_
  refine TC.region<|bX W W W W W<|aC W W W W W W<|TL.nil<|TC.ret ⟨_,W,[_],W,W⟩
def zU(e:Xp)(o:Nm×Nm):PT prog 226 [.agg e.cells,.agg [.str o.1,.str o.2]] (·=[.agg (iM e o).cells]):=by
 have a:(iM e o).cells=bD 12 0 0 o.2 [o.1] [e.cells] (0,0):=by rw[Xp.aj];rfl
 rw[a,e.aj];refine Lk (Lf func226 W ntmps226 W λa b=>?_)
 repeat refine TC.seq ?_
 refine TC.region<|bp W W<|bp W W<|aM W W<|TL.nil ?_
 repeat refine TC.seq ?_
 refine TC.region<|ay W W<|ax W W W<|ay W W<|ax W W W<|aU W W W W W W W W<|aK W W W<|aU W W W W W W W W<|bX W W W W W<|aC W W W W W W<|TL.nil<|TC.ret ⟨_,W,[_],W,W⟩
def EF(c e:Xp):PT prog 220 [.agg c.cells,.agg e.cells] (·=[.agg (jE c e).cells]):=by
 have a:(jE c e).cells=bD 9 0 0 ⟨#[]⟩ [] [c.cells,e.cells] (0,0):=by rw[Xp.aj];rfl
 rw[a,c.aj,e.aj];refine Lk (Lf func220 W ntmps220 W λa b=>?_)
 repeat refine TC.seq ?_
 refine TC.region<|bp W W<|bp W W<|aM W W<|TL.nil ?_
 repeat refine TC.seq ?_
 refine TC.region<|aK W W W<|aK W W W<|aU W W W W W W W W<|bX W W W W W<|aC W W W W W W<|TL.nil<|TC.ret ⟨_,W,[_],W,W⟩
abbrev Kj(p:Int×Int):List D:=[.int .i64 p.1,.int .i64 p.2]
def ea(x:Nm)(e:Xp)(p:Int×Int):(gQ x e p).cells=eQ 1 [x] ⟨#[]⟩ [] false (bD e.kd e.op e.num e.nm e.names (e.kids.map Xp.cells) e.ps) [] p:=by rw[aJ.cells,e.aj];rfl
def mL(x:Nm)(e:Xp)(p:Int×Int):PT prog 218 [.str x,.agg e.cells,.agg (Kj p)] (·=[.agg (gQ x e p).cells]):=by
 rw[ea,e.aj];refine Lk (Lf func218 W ntmps218 W λa b=>?_)
 repeat refine TC.seq ?_
 refine TC.region<|bp W W<|bp W W<|aM W W<|TL.nil ?_
 repeat refine TC.seq ?_
 refine TC.region<|ai W W<|aU W W W W W W W W<|aK W W W<|aK W W W<|bX W W W W W<|aC W W W W W W<|TL.nil<|TC.ret ⟨_,W,[_],W,W⟩
def oL(x:Nm)(e:Xp)(p:Int×Int):PT prog 211 [.str x,.agg e.cells,.agg (Kj p)] (·=[.agg (gQ x e p).cells]):=by
 rw[ea,e.aj];refine Lk (Lf func211 W ntmps211 W λa b=>?_)
 repeat refine TC.seq ?_
 refine TC.region<|bp W W<|bp W W<|aM W W<|TL.nil ?_
 repeat refine TC.seq ?_
 refine TC.region<|ai W W<|aU W W W W W W W W<|aK W W W<|aK W W W<|bX W W W W W<|aC W W W W W W<|TL.nil<|TC.ret ⟨_,W,[_],W,W⟩
abbrev pu(k:Nat):List D:=[.str (nT k),.str (nS k),.str (nR k),.str (nA k),.str (nB k),.str (nN k),.str (nM k)]
def lH(k:Nat)(s:Nm)(a:k<=1000000000)(b:s.size<=1000000000):PT prog 216 [.agg (pu k),.str s] (·=[.agg (gB (ig k s)).cells]):=by
 have b:(nT k).size<=23:=Fu 84 k a;have a:(nT k++⟨#[95]⟩:ByteArray).size<=24:=by rw[ah4];have:(⟨#[95]⟩:ByteArray).size=1:=rfl;omega
 have a:(⟨#[95]⟩:ByteArray).size=1:=rfl;have a:=zT (ig k s);rw[Xp.aj]at a⊢;unfold ig at a⊢;refine Lk (Lf func216 W ntmps216 W λb c=>?_)
 repeat refine TC.seq ?_
 refine TC.region<|bp W W<|aM W W<|TL.nil ?_
 repeat refine TC.seq ?_
 refine TC.region<|ay W W<|ax W W W<|j' W W W (by omega)<|ai W W<|j' W W W (by omega)<|aL a W W<|aC W W W W W W<|TL.nil<|TC.ret ⟨_,rfl,[_],rfl,rfl⟩
def vK(a b c:Xp)(p:Int×Int):(BV a b c p).cells=bD 8 0 0 ⟨#[]⟩ [] [a.cells,b.cells,c.cells] p:=by rw[Xp.aj];rfl
abbrev xC(e:Xp):List D:=bD e.kd e.op e.num e.nm e.names (e.kids.map Xp.cells) e.ps
def B0(k:Nat)(l:List Tr)(a b:Xp)(s:k<=1000000000)(C:l.length<=1000000)(u:∀t∈l,t.to.size<=1000000000):
  PT prog 217 [.agg (pu k),.sl (eG l),.agg a.cells,.agg b.cells] (·=[.agg (pP k l (a,b)).1.cells,.agg (pP k l (a,b)).2.cells]):=by
 have v:(eG l).length=l.length:=by simp[eG]
 rw[a.aj,b.aj];refine Lk (Lf func217 W ntmps217 W λE F=>?_)
 repeat refine TC.seq ?_
 refine TC.region<|bp W W<|dB W W W W<|dB W W W W<|aM W W<|aM W W<|TL.nil ?_
 repeat refine TC.seq ?_
 refine TC.region<|ai W W ?_
 (refine aT W W W ?_;rw[v])
 refine cD W W W (by omega)<|ah W W<|TL.nil ?_
 repeat refine TC.seq ?_
 refine TC.block<|LI (λm s=>∃(i:Nat) (A B:Xp) (c:List (Nat×List M)),s=⟨[(10,.m (.d (.int .i64 (((i:Nat):Int)-1)))),(1,.m (.d (.sl (eG l)))),(4,.m (.d (.ca (pu k) 0))),(6,.loc 6 0),(7,.loc 7 0),(8,.loc 8 0),(9,.loc 9 0)],c,[]⟩/\
   Go.Mt.get c 6=some (A.cells.map M.d)/\Go.Mt.get c 7=some (B.cells.map M.d)/\Go.Mt.get c 8=some ((xC cg).map M.d)/\Go.Mt.get c 9=some ((xC cg).map M.d)/\pP k (l.drop i) (a,b)=(A,B)/\i<=l.length/\m=i) l.length _
  ⟨l.length,a,b,_,rfl,by rw[a.aj];rfl,by rw[b.aj];rfl,rfl,rfl,by rw[ain];rfl,by omega,rfl⟩ W ?_
 rintro m y ⟨z,A,B,G,rfl,c,d,h,i,e,H,rfl⟩;rw[A.aj]at c;rw[B.aj]at d;rcases m with _|j
 .repeat refine TC.seq ?_
  refine TC.region<|ai W W<|av W W W W<|TL.nil ?_
  repeat refine TC.seq ?_
  refine TC.cond W (λf=>by cases f) (λf=>?_);refine TC.exit ?_
  repeat refine TC.seq ?_
  refine Na mixed<|bG W W c W W<|bG W W d W W<|bS W W h W W W<|bS W W i W W W<|TF.nil ⟨by kernel_rfl,?_⟩;rw[aiU]at e;exact TC.ret ⟨_,W,[_,_],W,by rw[e,A.aj,B.aj]⟩
 .have x:((j+1:Nat):Int)-1=((j:Nat):Int):=by omega
  have f:j<l.length:=by omega
  have g:(eG l)[((j:Nat):Int).toNat]?=some l[j].cells:=by simp[eG,f]
  have n:=ahv f;have o:=u _ (agx f);generalize l[j]=t at g n o;have p:=lH k t.to s o;have q:=mK (!t.A');rw[Xp.aj]at p q;rw[t.aj]at g;rw[x]
  repeat refine TC.seq ?_
  refine TC.region<|ai W W ?_
  (refine av W W W (r:=.bool true) (by show some (D.bool (decide (((j:Nat):Int)>=0)))=_;rw[aha (ago j)]) ?_)
  refine TL.nil ?_
  repeat refine TC.seq ?_
  refine TC.cond W (λI=>?_) (λw=>by cases w);refine TC.skip ?_
  repeat refine TC.seq ?_
  refine TC.block ?_
  repeat refine TC.seq ?_
  refine TC.region<|ai W W<|ai W W<|aN W W W (ago j) g W<|aK W W W<|aM W W<|aC W W W W W W<|TL.nil ?_
  repeat refine TC.seq ?_
  refine Na mixed<|aX W W<|bG W W W W W<|cx W W W<|aX W W<|bC W W W W<|bc p W W<|bG W W c W W<|bm W W W W W W W W<|aX W W<|bG W W W W W<|dU W W W W W<|bS W W c W W W<|TF.nil ⟨by kernel_rfl,?_⟩
  repeat refine TC.seq ?_
  refine Na mixed<|aX W W<|bG W W W W W<|aX W W<|bC W W W W<|JB W W<|bc q W W<|bG W W d W W<|bm W W W W W W W W<|aX W W<|bG W W W W W<|dU W W W W W<|bS W W d W W W<|TF.nil ⟨by kernel_rfl,?_⟩
  repeat refine TC.seq ?_
  refine TC.region<|ai W W<|cD W W W (by omega)<|ah W W<|TL.nil<|again (k':=j) (by omega) ⟨j,BV t.e (gB (ig k t.to)) A t.ps,BV t.e (dS (!t.A')) B t.ps,_,rfl,by rw[vK,t.e.aj,A.aj,(gB (ig k t.to)).aj];rfl,by rw[vK,t.e.aj,B.aj,(dS (!t.A')).aj];rfl,h,i,by rw[n];show(_,_)=_;rw[e],by omega,rfl⟩ W W
end Go.Proofs.Pz
namespace Go.Ps
open Go.Mt Go.Sm
def tD(b:Nat)(s:DS):As:=.ex λa:M=>Sep [.ob b (.box [a,.d (.int .i64 ((s.n:Nat):Int))]),.acc 4 (s.aG.map En.cells) a]
def rJ(α β:Type)(f:α->β)(l:List α)(i:Nat)(h:i<l.length):(l.take (i+1)).map f=(l.take i).map f++[f l[i]]:=by
 rw[agp h,agI];rfl
abbrev IL(x:Nm)(m:M)(p:Int×Int):List M:=[.d (.int .u8 3),.d (.sl []),.d (.str ⟨#[]⟩),.d (.sl []),.d (.bool false)]++((bD 4 0 0 x [] [] (0,0)).map M.d)++[m,.d (.int .i64 p.1),.d (.int .i64 p.2)]
structure Hf(a:aP):Prop where
 name:a.name.size<=1000000000
 eL:a.eL.length<=1000000
 et:a.et.length<=1000000
 KP:∀t∈a.eL,t.to.size<=1000000000
 Kk:∀t∈a.et,t.to.size<=1000000000
 eqs:a.a_.eqs.length<=100000000
end Go.Ps
namespace Go.Proofs.Pz
open Go.Mt Go.Sm Go.Ps Go.Proofs
open Tryz
def y9(it c:Nat)(q:aJ)(s:DS)(hn:s.n<1000000)(he:s.aG.length<=1000000)(o:aP)(ar:List aP)(I:q.aq=o::ar)(ML:q.aq.length<=1000)(J:∀a∈q.aq,Hf a):
  Dt prog 164 [.ref c 0,.d (.agg q.cells)] [.ob it bK,tD c s] λr l=>r=mi [.d (.sl (aB (gL (s.n+1) q.ps))),.d (.sl ((li (s.n+1) q.aq q.ps).map aJ.cells))]/\
   l=[.ob it bK,tD c ⟨s.n+1,s.aG++[rI (s.n+1) q.aq q.ps]⟩]:=by
 intro H F hs;have w:=Wk.start hs;have w:=w.pick [1,0];obtain⟨A,w⟩:=w.open;have w:=w.split;have B:=w.ob;have hk:((s.n:Nat):Int)+1=((s.n+1:Nat):Int):=by omega
 have p:s.n+1<=1000000000:=by omega
 generalize R0:s.n+1=k at hk p⊢;rw[q.pk];have am:(q.aq.map aP.cells).length=q.aq.length:=by simp
 refine Lj func164 W ntmps164 W ?_
 repeat refine DC.seq ?_
 apply KZ
 .intro d e;refine bp W W<|ah W W<|ah W W<|TL.nil W
 repeat refine DC.seq ?_
 apply KZ
 .intro d e;refine ai W W<|dG W W W<|eB W W<|eC W W B W ?_
  (refine aI W W W (by omega) ?_;rw[hk])
  refine dG W W W<|eB W W<|c8 W W B W W W<|TL.nil W
 have w:=w.set (.box [A,.d (.int .i64 ((k:Nat):Int))]);have B:=w.ob;have w:=w.pick [2,1,0];have R5:=qo p w.ob;have v:=agW (gR k p) (by omega:21<=4000000000)
 repeat refine DC.seq ?_
 apply KZ
 .intro d e;refine ai W W<|dG W W W<|eB W W<|eC W W B W<|aD R5 W W<|ah W W<|TL.nil W
 repeat refine DC.seq ?_
 apply KZ
 .intro d e;refine ai W W<|jo W W W W v<|ai W W<|jo W W W W v<|ai W W<|jo W W W W v<|ai W W<|jo W W W W v<|ai W W<|jo W W W W v<|ai W W<|jo W W W W v<|ai W W<|jo W W W W v<|bX W W W W W<|aM W W<|aC W W W W W W<|TL.nil W
 repeat refine DC.seq ?_
 apply KZ
 .intro d e;refine aA W W<|aF W W W W<|ay W W<|fA W W W<|bX W W W W W<|aM W W<|aC W W W W W W<|TL.nil W
 repeat refine DC.seq ?_
 apply KZ
 .intro d e;refine ay W W<|ax W W W ?_
  (refine aT W W W ?_;rw[am])
  refine ai W W<|TL.nil W
 obtain⟨L,K⟩:∃L,L=q.aq:=⟨_,rfl⟩;rw[<-K]at J ML I⊢;have w:=w.nil 1
 repeat refine DC.seq ?_
 refine DC.block<|DC.loop (λm f=>∃(i:Nat) (d:M) (b:List (Nat×List M)) (e:Hp),f=⟨[(60,.m (.d (.int .i64 ((i:Nat):Int)))),(59,.m (.d (.int .i64 ((L.length:Nat):Int)))),(58,.m (.d (.sl (L.map aP.cells)))),(8,.loc 8 0),(7,.loc 7 0),(3,.m (.d (.ca (xL q) 0))),(0,.m (.ref c 0))],b,e⟩/\
   Go.Mt.get b 7=some ((pu k).map M.d)/\Go.Mt.get b 8=some [.d (.str (nT k)),d,.d (.int .i64 q.ps.1),.d (.int .i64 q.ps.2)]/\
   Wk F H [.acc 1 (aR ((L.take i).map λa=>ig k a.name)) d,.ob c (.box [A,.d (.int .i64 ((k:Nat):Int))]),.acc 4 (s.aG.map En.cells) A,.ob it bK] e/\i<=L.length/\m=L.length-i) L.length _
  ⟨0,.d (.sl []),_,_,rfl,rfl,rfl,w.pick [0,3,2,1],by omega,rfl⟩ W ?_
 rintro m O ⟨i,x,P,y,rfl,b,Q,w,R,rfl⟩
 repeat refine DC.seq ?_
 apply KZ
 .intro d e;refine av W W W W<|TL.nil W
 repeat refine DC.seq ?_
 refine DC.cond W (λf=>?_) (λf=>?_)
 .have d:i<L.length:=by have:=agr f;omega
  have e:(L.map aP.cells)[((i:Nat):Int).toNat]?=some L[i].cells:=by simp[d]
  have g:=J _ (agx d);have h:=agp d;generalize L[i]=a at e g h;have t:aR ((L.take (i+1)).map λa=>ig k a.name)=aR ((L.take i).map λa=>ig k a.name)++[[.str (ig k a.name)]]:=by rw[h];simp[aR]
  rw[a.aj]at e;have j:=lH k a.name p g.name;rw[Xp.aj]at j;refine DC.skip ?_
  repeat refine DC.seq ?_
  refine DC.block ?_
  repeat refine DC.seq ?_
  apply KZ
  .intro u z;refine aN W W W (ago i) e W<|aK W W W<|aM W W<|aC W W W W W W<|TL.nil W
  repeat refine DC.seq ?_
  apply Le mixed
  .intro u z;refine aX W W<|bC W W Q W<|bG W W b W W<|aX W W<|bC W W W W<|bc j W W<|xB W W W W<|bm W W W W W W W W<|fa w W W W W W W W (by simp[aR];omega)<|aX W W<|bS W W Q (bQ _ _ _) W W<|TF.nil ⟨by kernel_rfl,rfl⟩
  have w:=w.app [[.str (ig k a.name)]]
  repeat refine DC.seq ?_
  apply KZ
  .intro u z;refine aI W W W (by omega)<|ai W W<|TL.nil W
  exact bH (k':=L.length-(i+1)) (by omega) ⟨i+1,_,_,_,rfl,b,rfl,by rw[t];exact w,by omega,rfl⟩ W W
 .refine DC.exit ?_;have e:i=L.length:=by have:=agv f;omega
  subst e;rw[agz]at w;have U:=w.view (dq _);refine DC.cZ (Ls:=[.d (.str (nT k)),.d (.sl (aR (L.map λa=>ig k a.name))),.d (.int .i64 q.ps.1),.d (.int .i64 q.ps.2)]) 8 Q (cq (lQ U (cq (cq (po _))))) ?_;have w:=w.drop;have w:=w.pick [1,0,2];have B:=(w.pick [1,0,2]).ob;have N:=w.app [[.str (nT k),.sl (aR (L.map λa=>ig k a.name)),.int .i64 q.ps.1,.int .i64 q.ps.2]];have V:=N.pick [1,0,2];have X:=V.ob
  repeat refine DC.seq ?_
  apply Le mixed
  .intro g h;refine aO W W<|aO W W<|bO W W W<|bJ W W<|dy W W B W<|bG W W W W W<|bm W W W W W W W W<|fa w W W W W W W W (by simp;omega)<|bO W W W<|bJ W W<|iy W W X (bQ _ _ _) W W<|TF.nil ⟨by kernel_rfl,rfl⟩
  obtain⟨E,Zy⟩:∃b,b=s.aG.map En.cells++[[.str (nT k),.sl (aR (L.map λa=>ig k a.name)),.int .i64 q.ps.1,.int .i64 q.ps.2]]:=⟨_,rfl⟩;rw[<-Zy]at V;obtain⟨z,ce,hK,w⟩:∃b K,(eg 4 A y [[.str (nT k),.sl (aR (L.map λa=>ig k a.name)),.int .i64 q.ps.1,.int .i64 q.ps.2]]).set c (.box [cQ A y [[.str (nT k),.sl (aR (L.map λa=>ig k a.name)),.int .i64 q.ps.1,.int .i64 q.ps.2]],.d (.int .i64 ((k:Nat):Int))])=K/\
    Wk F H [.ob c (.box [b,.d (.int .i64 ((k:Nat):Int))]),.acc 4 E b,.ob it bK] K:=⟨_,_,rfl,V.set (.box [cQ A y [[.str (nT k),.sl (aR (L.map λa=>ig k a.name)),.int .i64 q.ps.1,.int .i64 q.ps.2]],.d (.int .i64 ((k:Nat):Int))])⟩
  repeat refine DC.seq ?_
  apply KZ
  .intro g h;refine ah W W<|TL.nil W
  repeat refine DC.seq ?_
  apply KZ
  .intro g h;refine aA W W<|aF W W b W<|aA W W<|aF W W b W<|aA W W<|aF W W b W<|EE W W W W<|ai W W<|TL.nil W
  have w:=w.nil 15;obtain⟨d,Y⟩:∃b:List Nm,b=[nS k,nA k,nN k]:=⟨_,rfl⟩;have Zz:d.length=3:=by rw[Y];rfl
  obtain⟨j,WM⟩:∃g:Nm->Va,g= λx=>⟨x,3,(nT k),[],false,cg,q.ps⟩:=⟨_,rfl⟩
  refine L3 [(92,.m (.d (.int .i64 ((0:Nat):Int)))),(91,.m (.d (.agg (d.map D.str)))),(11,.m (.d (.sl []))),(8,.loc 8 0),(7,.loc 7 0),(3,.m (.d (.ca (xL q) 0))),(0,.m (.ref c 0))] _ _ (by rw[Y];rfl) (λ_=>rfl) hK ?_
  repeat refine DC.seq ?_
  refine DC.block<|DC.loop (λm g=>∃(i:Nat) (b:M) (e:List (Nat×List M)) (f:Hp),g=⟨[(92,.m (.d (.int .i64 ((i:Nat):Int)))),(91,.m (.d (.agg (d.map D.str)))),(11,.m b),(8,.loc 8 0),(7,.loc 7 0),(3,.m (.d (.ca (xL q) 0))),(0,.m (.ref c 0))],e,f⟩/\
    Go.Mt.get e 7=some ((pu k).map M.d)/\
    Wk F H [.acc 15 (aB ([]++(d.take i).map j)) b,.ob c (.box [z,.d (.int .i64 ((k:Nat):Int))]),.acc 4 E z,.ob it bK] f/\i<=3/\m=3-i) 3 _
   ⟨0,(.d (.sl [])),_,_,rfl,b,(by rw[show aB ([]++(d.take 0).map j)=[] by rw[agS];rfl];exact w.pick [0,1,2,3]),by omega,rfl⟩ W ?_
  rintro m O ⟨i,x,P,y,rfl,b,w,R,rfl⟩
  repeat refine DC.seq ?_
  apply KZ
  .intro g h;refine av W W W W<|TL.nil W
  repeat refine DC.seq ?_
  refine DC.cond W (λf=>?_) (λf=>?_)
  .have e:i<d.length:=by have:=agr f;omega
   have g:((d.map D.str).map M.d)[i*1]?=some (.d (.str d[i])):=by simp[e]
   have h:=agp e;generalize d[i]=a at g h;have t:aB ([]++(d.take (i+1)).map j)=aB ([]++(d.take i).map j)++[[.str a,.int .u8 3,.str (nT k),.sl [],.bool false,.int .u8 0,.int .u8 0,.int .i32 0,.str ⟨#[]⟩,.sl [],.sl [],.int .i64 0,.int .i64 0,.int .i64 q.ps.1,.int .i64 q.ps.2]]:=by
    rw[h,agI,<-ahi,uU]
    congr 1
    rw[WM];simp only[aB,agH,ag1,Va.aj];rfl
   have G:(aB ([]++(d.take i).map j)).length<=10:=by rw[bM];simp;omega
   refine DC.skip ?_
   repeat refine DC.seq ?_
   refine DC.block ?_
   repeat refine DC.seq ?_
   apply KZ
   .intro u C;refine zK W W W W (by omega) g<|ah W W<|TL.nil W
   repeat refine DC.seq ?_
   apply KZ
   .intro u C;refine ai W W<|ai W W<|aA W W<|aF W W b W<|bX W W W W W<|ay W W<|fA W W W<|bX W W W W W<|aU W W W W W W W W<|cX w W W W W W W (by exact cM W) (by simp only[agB];omega)<|ah W W<|TL.nil W
   have w:=w.app [[.str a,.int .u8 3,.str (nT k),.sl [],.bool false,.int .u8 0,.int .u8 0,.int .i32 0,.str ⟨#[]⟩,.sl [],.sl [],.int .i64 0,.int .i64 0,.int .i64 q.ps.1,.int .i64 q.ps.2]]
   repeat refine DC.seq ?_
   apply KZ
   .intro u C;refine aI W W W (by omega)<|ai W W<|TL.nil W
   exact bH (k':=3-(i+1)) (by omega) ⟨i+1,_,_,_,rfl,b,by rw[t];exact w,by omega,rfl⟩ W W
  .refine DC.exit ?_;have e:i=3:=by have:=agv f;omega
   subst e;rw[<-Zz,agz]at w
   repeat refine DC.seq ?_
   apply KZ
   .intro g t;refine aA W W<|aF W W b W<|aA W W<|aF W W b W<|aA W W<|aF W W b W<|EE W W W W<|ai W W<|TL.nil W
   obtain⟨h,Z⟩:∃b:List Nm,b=[nR k,nB k,nM k]:=⟨_,rfl⟩;have ZA:h.length=3:=by rw[Z];rfl
   obtain⟨C,WN⟩:∃g:Nm->Va,g= λx=>⟨x,1,⟨#[]⟩,[],false,cg,q.ps⟩:=⟨_,rfl⟩
   refine L3 [(113,.m (.d (.int .i64 ((0:Nat):Int)))),(112,.m (.d (.agg (h.map D.str)))),(11,.m x),(8,.loc 8 0),(7,.loc 7 0),(3,.m (.d (.ca (xL q) 0))),(0,.m (.ref c 0))] _ _ (by rw[Z];rfl) (λ_=>rfl) W ?_
   repeat refine DC.seq ?_
   refine DC.block<|DC.loop (λm g=>∃(i:Nat) (b:M) (e:List (Nat×List M)) (f:Hp),g=⟨[(113,.m (.d (.int .i64 ((i:Nat):Int)))),(112,.m (.d (.agg (h.map D.str)))),(11,.m b),(8,.loc 8 0),(7,.loc 7 0),(3,.m (.d (.ca (xL q) 0))),(0,.m (.ref c 0))],e,f⟩/\
     Go.Mt.get e 7=some ((pu k).map M.d)/\
     Wk F H [.acc 15 (aB ((d.map j)++(h.take i).map C)) b,.ob c (.box [z,.d (.int .i64 ((k:Nat):Int))]),.acc 4 E z,.ob it bK] f/\i<=3/\m=3-i) 3 _
    ⟨0,x,_,_,rfl,b,(by rw[show aB (d.map j++(h.take 0).map C)=aB ([]++d.map j) by simp];exact w),by omega,rfl⟩ W ?_
   rintro m O ⟨i,x,P,y,rfl,b,w,R,rfl⟩
   repeat refine DC.seq ?_
   apply KZ
   .intro g t;refine av W W W W<|TL.nil W
   repeat refine DC.seq ?_
   refine DC.cond W (λf=>?_) (λf=>?_)
   .have e:i<h.length:=by have:=agr f;omega
    have g:((h.map D.str).map M.d)[i*1]?=some (.d (.str h[i])):=by simp[e]
    have t:=agp e;generalize h[i]=a at g t;have u:aB ((d.map j)++(h.take (i+1)).map C)=aB ((d.map j)++(h.take i).map C)++[[.str a,.int .u8 1,.str ⟨#[]⟩,.sl [],.bool false,.int .u8 0,.int .u8 0,.int .i32 0,.str ⟨#[]⟩,.sl [],.sl [],.int .i64 0,.int .i64 0,.int .i64 q.ps.1,.int .i64 q.ps.2]]:=by
     rw[t,agI,<-ahi,uU]
     congr 1
     rw[WN];simp only[aB,agH,ag1,Va.aj];rfl
    have T:(aB ((d.map j)++(h.take i).map C)).length<=10:=by rw[bM];simp;omega
    refine DC.skip ?_
    repeat refine DC.seq ?_
    refine DC.block ?_
    repeat refine DC.seq ?_
    apply KZ
    .intro G S;refine zK W W W W (by omega) g<|ah W W<|TL.nil W
    repeat refine DC.seq ?_
    apply KZ
    .intro G S;refine ai W W<|ai W W<|bX W W W W W<|ay W W<|fA W W W<|bX W W W W W<|aU W W W W W W W W<|cX w W W W W W W (by exact cM W) (by simp only[agB];omega)<|ah W W<|TL.nil W
    have w:=w.app [[.str a,.int .u8 1,.str ⟨#[]⟩,.sl [],.bool false,.int .u8 0,.int .u8 0,.int .i32 0,.str ⟨#[]⟩,.sl [],.sl [],.int .i64 0,.int .i64 0,.int .i64 q.ps.1,.int .i64 q.ps.2]]
    repeat refine DC.seq ?_
    apply KZ
    .intro G S;refine aI W W W (by omega)<|ai W W<|TL.nil W
    exact bH (k':=3-(i+1)) (by omega) ⟨i+1,_,_,_,rfl,b,by rw[u];exact w,by omega,rfl⟩ W W
   .refine DC.exit ?_;have e:i=3:=by have:=agv f;omega
    subst e;rw[<-ZA,agz]at w;have ac:d.map j++h.map C=gL k q.ps:=by rw[WM,WN,Y,Z];rfl
    rw[ac]at w;have WO:=fB (nS k);have RI:=fB (nA k);rw[Xp.aj]at WO RI;have R6:(L.map aP.cells).length=L.length:=by simp
    rw[K]at R6
    repeat refine DC.seq ?_
    apply Le mixed
    .intro g t;refine aX W W<|bC W W b W<|bc WO W W<|bI W W<|gm W W W<|dU W W W W W<|fk W<|bS W W W W W W<|TF.nil ⟨by kernel_rfl,rfl⟩
    repeat refine DC.seq ?_
    apply Le mixed
    .intro g t;refine aX W W<|bC W W b W<|bc RI W W<|bI W W<|gm W W W<|dU W W W W W<|fk W<|bS W W W W W W<|TF.nil ⟨by kernel_rfl,rfl⟩
    repeat refine DC.seq ?_
    apply KZ
    .intro g t;refine ay W W<|ax W W W ?_
     (refine aT W W W ?_;rw[R6])
     refine ai W W<|TL.nil W
    have w:=(w.nil 7).nil 7;refine L3 [(140,.m (.d (.int .i64 ((0:Nat):Int)))),(139,.m (.d (.int .i64 ((L.length:Nat):Int)))),(138,.m (.d (.sl (L.map aP.cells)))),(17,.loc 17 0),(16,.loc 16 0),(11,.m x),(7,.loc 7 0),(3,.m (.d (.ca (xL q) 0))),(0,.m (.ref c 0))] _ _ (by rw[K];rfl) (λ_=>rfl) W ?_
    repeat refine DC.seq ?_
    refine DC.block<|DC.loop (λm g=>∃(i:Nat) (e f:M) (b:List (Nat×List M)) (d:Hp),g=⟨[(140,.m (.d (.int .i64 ((i:Nat):Int)))),(139,.m (.d (.int .i64 ((L.length:Nat):Int)))),(138,.m (.d (.sl (L.map aP.cells)))),(17,.loc 17 0),(16,.loc 16 0),(11,.m x),(7,.loc 7 0),(3,.m (.d (.ca (xL q) 0))),(0,.m (.ref c 0))],b,d⟩/\
      Go.Mt.get b 7=some ((pu k).map M.d)/\Go.Mt.get b 16=some (IL (nS k) e q.ps)/\Go.Mt.get b 17=some (IL (nA k) f q.ps)/\
      Wk F H [.acc 7 (((L.take i).map (cR k)).map aP.cells) e,.acc 7 (((L.take i).map (eD k)).map aP.cells) f,.acc 15 (aB (gL k q.ps)) x,.ob c (.box [z,.d (.int .i64 ((k:Nat):Int))]),.acc 4 E z,.ob it bK] d/\i<=L.length/\m=L.length-i) L.length _
     ⟨0,.d (.sl []),.d (.sl []),_,_,rfl,b,rfl,rfl,w,by omega,rfl⟩ W ?_
    rintro m O ⟨i,ms,mw,P,y,rfl,b,N7,UN,w,R,rfl⟩
    repeat refine DC.seq ?_
    apply KZ
    .intro g t;refine av W W W W<|TL.nil W
    repeat refine DC.seq ?_
    refine DC.cond W (λf=>?_) (λf=>?_)
    .have e:i<L.length:=by have:=agr f;omega
     have S:(L.map aP.cells)[((i:Nat):Int).toNat]?=some L[i].cells:=by simp[e]
     have t:=J _ (agx e);have T:=agp e;generalize L[i]=a at S t T;have L0:((L.take (i+1)).map (cR k)).map aP.cells=((L.take i).map (cR k)).map aP.cells++[(cR k a).cells]:=by rw[T];simp
     have P1:((L.take (i+1)).map (eD k)).map aP.cells=((L.take i).map (eD k)).map aP.cells++[(eD k a).cells]:=by rw[T];simp
     have co:(((L.take i).map (cR k)).map aP.cells).length<=1000:=by simp;omega
     have d5:(((L.take i).map (eD k)).map aP.cells).length<=1000:=by simp;omega
     rw[a.aj]at S;have PD:=lH k a.name p t.name;have VW:=fB (nR k);have O5:=fB (nB k);have SC:=mK false;have R4:=B0 k a.eL (gB (ig k a.name)) (bz (nR k)) p t.eL t.KP;have P2:=B0 k a.et (gB (ig k a.name)) (dS false) p t.et t.Kk;obtain⟨u,ZB⟩:∃A,A=pP k a.eL (gB (ig k a.name),bz (nR k)):=⟨_,rfl⟩;obtain⟨g,ZC⟩:∃A,A=pP k a.et (gB (ig k a.name),dS false):=⟨_,rfl⟩;rw[<-ZB]at R4;rw[<-ZC]at P2;have N4:=mL (nA k) u.1 a.ps;have R7:=mL (nB k) u.2 a.ps;have VX:=mL (nN k) g.1 a.ps;have XQ:=mL (nM k) g.2 a.ps;rw[ea,Xp.aj]at N4 R7 VX XQ;rw[u.1.aj,u.2.aj,(gB (ig k a.name)).aj,(bz (nR k)).aj]at R4;rw[g.1.aj,g.2.aj,(gB (ig k a.name)).aj,(dS false).aj]at P2;rw[Xp.aj]at PD VW O5 SC;refine DC.skip ?_
     repeat refine DC.seq ?_
     refine DC.block ?_
     repeat refine DC.seq ?_
     apply KZ
     .intro G Oo;refine aN W W W (ago i) S W<|aK W W W<|aM W W<|aC W W W W W W<|TL.nil W
     repeat refine DC.seq ?_
     apply KZ
     .intro G Oo;refine aW W W b W W<|aA W W<|aF W W W W<|aL PD W W<|aM W W<|aC W W W W W W<|TL.nil W
     repeat refine DC.seq ?_
     apply Le mixed
     .intro G Oo;refine bG W W b W W<|aX W W<|bC W W W W<|bG W W W W W<|aX W W<|bC W W b W<|bc VW W W<|fO (CT.JN R4) W W<|aO W W<|k8 W W W<|k8 W W W<|fk W<|fk W<|bS W W W W W W<|bS W W W W W W<|TF.nil ⟨by kernel_rfl,rfl⟩
     have X:(cR k a).cells=[.str (ig k a.name),.sl [],.sl [eQ 1 [nA k] ⟨#[]⟩ [] false (xC u.1) [] a.ps,eQ 1 [nB k] ⟨#[]⟩ [] false (xC u.2) [] a.ps],.sl [],.sl [],.int .i64 a.ps.1,.int .i64 a.ps.2]:=by
      rw[aP.aj,<-ea,<-ea,ZB];rfl
     have OG:(eD k a).cells=[.str (ig k a.name),.sl [],.sl [eQ 5 [] ⟨#[]⟩ [] false (bD 4 0 0 (nB k) [] [] (0,0)) [[.str ⟨#[]⟩,.sl (aB a.a_.vars),.sl (cv a.a_.eqs++[eQ 1 [nN k] ⟨#[]⟩ [] false (xC g.1) [] a.ps,eQ 1 [nM k] ⟨#[]⟩ [] false (xC g.2) [] a.ps]),.sl [],.sl [],.int .i64 a.ps.1,.int .i64 a.ps.2]] a.ps],.sl [],.sl [],.int .i64 a.ps.1,.int .i64 a.ps.2]:=by
      rw[aP.aj,<-ea,<-ea,ZC];unfold eD;simp only[aP.name,aP.a_,aP.eL,aP.et,aP.ps,bT.vars,bT.eqs,agH,ag1,aJ.cells,cr,aP.cells,bT.cells,aB,kh,agI];rw[Xp.aj];rfl
     rw[X]at L0;rw[OG]at P1
     repeat refine DC.seq ?_
     apply Le mixed
     .intro G Oo;refine aX W W<|bC W W N7 W<|aX W W<|bC W W W W<|aX W W<|bG W W W W W<|aX W W<|bC W W b W<|bG W W W W W<|aX W W<|bG W W W W W<|bc N4 W W<|aX W W<|bC W W b W<|bG W W W W W<|aX W W<|bG W W W W W<|bc R7 W W<|bm W W W W W W W W<|dU W W W W W<|dU W W W W W<|bm W W W W W W W W<|fa w W W W W W W W (by omega)<|aX W W<|bS W W N7 (bQ _ _ _) W W<|TF.nil ⟨by kernel_rfl,rfl⟩
     have w:=w.app [[.str (ig k a.name),.sl [],.sl [eQ 1 [nA k] ⟨#[]⟩ [] false (xC u.1) [] a.ps,eQ 1 [nB k] ⟨#[]⟩ [] false (xC u.2) [] a.ps],.sl [],.sl [],.int .i64 a.ps.1,.int .i64 a.ps.2]]
     repeat refine DC.seq ?_
     apply Le mixed
     .intro G Oo;refine bG W W b W W<|aX W W<|bC W W W W<|bG W W W W W<|bc SC W W<|fO (CT.JN P2) W W<|aO W W<|k8 W W W<|k8 W W W<|bS W W W W W W<|bS W W W W W W<|TF.nil ⟨by kernel_rfl,rfl⟩
     obtain⟨mq,K2,l',MW,w,Ln⟩:=Wk.call (a:=[]) w (Dr a.a_.eqs t.eqs);subst MW;have NW:(cv a.a_.eqs).length<=100000000:=by simpa [cv] using t.eqs
     have N:=w.app [eQ 1 [nN k] ⟨#[]⟩ [] false (xC g.1) [] a.ps,eQ 1 [nM k] ⟨#[]⟩ [] false (xC g.2) [] a.ps];have U:=N.view (by
      intro r G;rcases agG.1 G with G|G
      .exact dt _ r G
      .exact BZ (n:=16) W W r G)
     repeat refine DC.seq ?_
     apply Le mixed
     .intro G Oo;refine aX W W<|aX W W<|bC W W W W<|aX W W<|aX W W<|bC W W W W<|bt Ln W W<|aX W W<|bC W W b W<|bG W W W W W<|aX W W<|bG W W W W W<|bc VX W W<|aX W W<|bC W W b W<|bG W W W W W<|aX W W<|bG W W W W W<|bc XQ W W<|bm W W W W W W W W<|ED w W W W W W W (by simp) (BZ W W) (by simp only[agA,List.length_nil];omega)<|uV (cs:=[.d (.sl (aB a.a_.vars)),cQ mq K2 [eQ 1 [nN k] ⟨#[]⟩ [] false (xC g.1) [] a.ps,eQ 1 [nM k] ⟨#[]⟩ [] false (xC g.2) [] a.ps]]) W W W (by simp only[jH];rw[show fj (cQ mq K2 _)=some [cQ mq K2 _]from bQ _ _ _];rfl)<|fk W<|bS W W W (fu _) W W<|TF.nil ⟨by kernel_rfl,rfl⟩
     refine DC.cZ (Ls:=[.d (.sl (aB a.a_.vars)),.d (.sl (cv a.a_.eqs++[eQ 1 [nN k] ⟨#[]⟩ [] false (xC g.1) [] a.ps,eQ 1 [nM k] ⟨#[]⟩ [] false (xC g.2) [] a.ps]))]) 23 W (cq (lQ U (po _))) ?_;have w:=(N.drop).pick [1,0,2,3,4,5]
     repeat refine DC.seq ?_
     apply Le mixed
     .intro G Oo;refine aX W W<|bC W W b W<|bc O5 W W<|bG W W W W W<|aX W W<|bG W W W W W<|dU W W W W W<|bm W W W W W W W W<|aX W W<|bG W W W W W<|dU W W W W W<|fk W<|bS W W W W W W<|TF.nil ⟨by kernel_rfl,rfl⟩
     repeat refine DC.seq ?_
     apply KZ
     .intro G Oo;refine aA W W<|aF W W UN W<|aA W W<|aF W W W W<|aA W W<|aW W W W W W<|aW W W W W W<|aU W W W W W W W W<|bX W W W W W<|bX W W W W W<|aU W W W W W W W W<|cX w W W W W W W (by exact cM W) (by simp only[agB];omega)<|aA W W<|aC W W UN (bQ _ _ _) W W<|TL.nil W
     have w:=w.app [[.str (ig k a.name),.sl [],.sl [eQ 5 [] ⟨#[]⟩ [] false (bD 4 0 0 (nB k) [] [] (0,0)) [[.str ⟨#[]⟩,.sl (aB a.a_.vars),.sl (cv a.a_.eqs++[eQ 1 [nN k] ⟨#[]⟩ [] false (xC g.1) [] a.ps,eQ 1 [nM k] ⟨#[]⟩ [] false (xC g.2) [] a.ps]),.sl [],.sl [],.int .i64 a.ps.1,.int .i64 a.ps.2]] a.ps],.sl [],.sl [],.int .i64 a.ps.1,.int .i64 a.ps.2]]
     repeat refine DC.seq ?_
     apply KZ
     .intro G Oo;refine aI W W W (by omega)<|ai W W<|TL.nil W
     exact bH (k':=L.length-(i+1)) (by omega) ⟨i+1,_,_,_,_,rfl,b,rfl,rfl,by rw[L0,P1];exact w.pick [1,0,2,3,4,5],by omega,rfl⟩ W W
    .refine DC.exit ?_;have e:i=L.length:=by have:=agv f;omega
     subst e;rw[agz]at w;have L0:=w.view (uW _);have P1:=(w.pick [1,0,2,3,4,5]).view (uW _);refine DC.cZ (Ls:=IL (nS k) (.d (.sl ((L.map (cR k)).map aP.cells))) q.ps) 16 N7 (by repeat' first|exact po _|refine cq ?_|refine lQ L0 ?_) ?_;refine DC.cZ (Ls:=IL (nA k) (.d (.sl ((L.map (eD k)).map aP.cells))) q.ps) 17 UN (by repeat' first|exact po _|refine cq ?_|refine lQ P1 ?_) ?_;refine DC.bg 11 W ((w.pick [2,0,1,3,4,5]).view (bR _)) ?_;have S:(q.aq.map aP.cells)[((0:Nat):Int).toNat]?=some o.cells:=by rw[<-K,I];rfl
     rw[o.aj]at S;have g:=lH k o.name p (J o (by rw[I];simp)).name;have T:=fB (nN k);have Od:=fB (nM k);have t:=mK false;have R8:=EF (gB (ig k o.name)) (bz (nN k));have TR:=EF (dS false) (bz (nM k));have u:=mL (nS k) (jE (gB (ig k o.name)) (bz (nN k))) q.ps;have G:=mL (nR k) (jE (dS false) (bz (nM k))) q.ps;have hQ:(li k L q.ps).map aJ.cells=[(gQ (nS k) (jE (gB (ig k o.name)) (bz (nN k))) q.ps).cells,(gQ (nR k) (jE (dS false) (bz (nM k))) q.ps).cells,
       eQ 3 [] ⟨#[]⟩ [] false (bD 4 0 0 (nS k) [] [] (0,0)) ((L.map (cR k)).map aP.cells) q.ps,eQ 3 [] ⟨#[]⟩ [] false (bD 4 0 0 (nA k) [] [] (0,0)) ((L.map (eD k)).map aP.cells) q.ps]:=by
      rw[I];unfold li;simp only[aiO,aiL,aiF,agH,ag1,aJ.cells,jp];rw[(bz (nS k)).aj,(bz (nA k)).aj];rfl
     rw[ea,ea]at hQ;rw[ea,(jE _ _).aj]at u G;rw[(jE _ _).aj,(gB (ig k o.name)).aj,(bz (nN k)).aj]at R8;rw[(jE _ _).aj,(dS false).aj,(bz (nM k)).aj]at TR;rw[Xp.aj]at g T Od t
     repeat refine DC.seq ?_
     apply Le mixed
     .intro s0 Oo;refine aO W W<|aX W W<|bC W W b W<|bG W W b W W<|bI W W<|cd W W W<|bE W W W (ago 0) S W<|bI W W<|cd W W W<|bc g W W<|aX W W<|bC W W b W<|bc T W W<|bc R8 W W<|bI W W<|gm W W W<|bc u W W<|aX W W<|bC W W b W<|bc t W W<|aX W W<|bC W W b W<|bc Od W W<|bc TR W W<|bI W W<|gm W W W<|bc G W W<|bG W W W W W<|bG W W W W W<|bm W W W W W W W W<|eX W W<|eX W W<|TF.nil ⟨by kernel_rfl,rfl⟩
     have w:Wk F H [tD c ⟨k,s.aG++[rI k L q.ps]⟩,.ob it bK] y:=by
      refine Ng (φ:= λb:M=>Sep [.ob c (.box [b,.d (.int .i64 ((k:Nat):Int))]),.acc 4 ((s.aG++[rI k L q.ps]).map En.cells) b]) z<|MP (a:=[_,_]) ?_;rw[show(s.aG++[rI k L q.ps]).map En.cells=E by rw[Zy];simp[rI,En.cells,aR]];exact((w.drop).drop).drop
     rw[hQ];exact DC.ret ⟨_,W,[.ob it bK,tD c ⟨k,s.aG++[rI k L q.ps]⟩],⟨W,W⟩,w.pick [1,0]⟩
end Go.Proofs.Pz
