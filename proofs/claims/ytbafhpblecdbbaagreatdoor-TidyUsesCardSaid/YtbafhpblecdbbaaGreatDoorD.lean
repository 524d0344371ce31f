/- A part of the proof of the last text of this claim, without conditions. -/
import Derived.Test.YtbafhpblecdbbaaGreatDoorC
import Derived.Test.YtbafhpblecdbbaaGreatDoorProg
import Derived.KernelRfl
import Derived.Lib.ItoaNum
import Derived.Shelf.Small.Bits
import Derived.Shelf.Strconv.Itoa0
import Derived.Shelf.Strconv.Itoa1
import Derived.Shelf.LaysM
import Derived.Shelf.Strconv.Itoa2
import Derived.Shelf.Strconv.Itoa3
import Derived.Lib.ItoaLen
set_option maxRecDepth 4000
set_option linter.all false
namespace Go.Mt
def CT.Gu{P:Program}{f g:Nat}{fn p:Func}{id d5 ty Z d n m:Nat}{pos L:String}{af ac:Array Edge}{args N:Array Operand}{OU O:Array Nat}{R rest S:Code}{ms Nh:List M}{H:Hp}{post:M->Hp->Prop}
  (hf:P.funcs[f]?=some fn) (hb:fn.body=some (.seq R (.seq (.region id #[⟨none,.defer ⟨.value (.func g),args,OU⟩,ty,pos,af,none⟩] false) rest))) (Te:fn.ntmps=n) (A:Nat.ble ms.length n=true)
  {VY:St} (R7:VY.bx=[]) (Xk:VY.gu args.toList=some Nh) (SX:D3 P g=true)
  (d6:P.funcs[g]?=some p) (PF:p.body=some (.seq (.region d5 #[⟨some d,.call ⟨.builtin .recover,N,O⟩,Z,L,ac,none⟩] false) S)) (Ry:p.ntmps=m) (B:Nat.ble Nh.length m=true) (hd:Nat.blt d m=true)
  (z:∀c h,TC ⟨P,n,c,h,[]⟩ R ⟨mA 0 ms,[],H⟩ (λe s=>e=.normal/\s=VY))
  (h1:∀c h d,TC ⟨P,n,c,h,[d]⟩ rest VY (λe s=>(e=.normal\/e=.ret)/\∃v,tM P fn s=some v/\post v s.H))
  (h2:∀K c h,TC ⟨P,m,c,h,[]⟩ S ⟨(d,.m (.d .mH))::mA 0 Nh,[],K⟩ (λe s=>(e=.normal\/e=.ret)/\s.H=K/\∃v,tM P p s=some v)):
  CT P f ms H post:=by
 subst Te;subst Ry;replace A:=aiy A;replace B:=aiy B;intro h k C K hH Og;have Sw:∀(c:Sg) (i:Nat->Nat->Prop) (h:Array Value),iH c i->n6 c Nh h->CallsD P g h .returning c.w λe T D=>T=.returning/\∃v h,e=.returned v/\h.w=D/\h.H=c.H/\iH h i/\db c h/\bF c h:=by
  intro h k C K O9;refine callsD_of_wpS d6 PF λu x y=>?_
  have z:=bU.enter (P:=P) (n:=p.ntmps) K O9 B;generalize ({tmps:=C++Array.replicate (p.ntmps-C.size) undef,defers:=[]} :Act)=a at z;have hr:recoverD (u::x)=none:=by simp[recoverD,y]
  have E:(execOp a.eval ⟨some d,.call ⟨.builtin .recover,N,O⟩,Z,L,ac,none⟩).run P h.w=.ok .recover h.w:=by
   simp[execOp,resolve,invoke,builtin]
  refine wpS_seq (wpS_region ?_);simp only[akH,aia,List.length_nil,ai8,List.range_one,wpOpsS];simp only[ajx,List.getElem?_cons_zero,Region.wanted,ajL,E,hr];refine wpS_of_wp (wp_mono (h2 h.H h k _ h.w ⟨h,_,W,z.set (bj hd) (.m (.d .mH))⟩) ?_);rintro e q D ⟨s,⟨E,ce,m,F⟩,t,G,rfl,c⟩;have J:q.defers=[]/\∃c,u::x={u with mode:=c} ::x/\∃v,(results p q.tmps).run P t.w=.ok v t.w/\(c=FrameMode.returning/\∃i c,Ending.returned v=.returned i/\c.w=t.w/\c.H=h.H/\iH c k/\db h c/\bF h c):=by
   obtain⟨I,h3,_⟩:=va c F;obtain⟨Y,t1,t2,t3,t4,t5,_⟩:=c.HX;exact⟨c.defers,.returning,by cases u;simp at y;subst y;rfl,I,h3,rfl,I,Y,rfl,t1,t2.trans ce,t3,t4,t5⟩
  rcases E with rfl|rfl
  .exact J
  .exact J
 refine calls_of_wp_defers hf hb ?_;have U:=bU.enter (P:=P) (n:=fn.ntmps) K Og A;rw[hH]at U;refine wp_seq (wp_mono (z h k _ h.w ⟨h,_,W,U⟩) ?_);rintro e r w1 ⟨s,⟨rfl,rfl⟩,i,V,rfl,j⟩;have YO:=j.gu Xk;obtain⟨o,am⟩:∃c:Deferred,c=⟨.fn (.func g) #[],(args.toList.map r.eval).toArray⟩:=⟨_,rfl⟩;have Qw:(execOp r.eval ⟨none,.defer ⟨.value (.func g),args,OU⟩,ty,pos,af,none⟩).run P i.w=.ok (.defer o) i.w:=by
  rw[am];simp[execOp,resolve,Act.eval,Deferred.ofValue];cases args;simp
 have MO:bU ⟨P,fn.ntmps,i,k,[o]⟩ i V s {r with defers:=o::r.defers} :=by
  refine⟨j.hH,by simp[j.defers],j.size,j.slot,j.box,j.og,j.oR,λx y u=>?_,j.hinv,db.refl _,bF.refl _⟩;rw[R7]at u;simp[get]at u
 have d7:(Code.region id #[⟨none,.defer ⟨.value (.func g),args,OU⟩,ty,pos,af,none⟩] false).wp P (λe h c=>e=.normal/\Inv ⟨P,fn.ntmps,i,k,[o]⟩ s h c) r i.w:=by
  have:=wp_region_lit (P:=P) (id:=id) (l:=[⟨none,.defer ⟨.value (.func g),args,OU⟩,ty,pos,af,none⟩]) (Q:= λe h c=>e=.normal/\Inv ⟨P,fn.ntmps,i,k,[o]⟩ s h c) (a:=r) (w:=i.w) (by
   unfold wpList;rw[air (by simp[Region.wanted])];left;unfold Oper.wp;rw[Qw,Oper.upon_defer];exact wpList_nil ⟨W,i,V,W,MO⟩)
  simpa using this
 refine wp_seq (wp_mono d7 ?_);rintro e a2 w2 ⟨rfl,PQ⟩;refine wp_mono (h1 i k o a2 w2 PQ) ?_;rintro e q D ⟨s,⟨he,m,F,PB⟩,t,G,rfl,c⟩;have X:Leaves P fn q.tmps (λe i=>∃v r c,e=.returned v/\c.w=i/\post r c.H/\iH c k/\RM c r v/\db h c/\bF h c) q.defers .returning t.w:=by
  rw[show q.defers=[o]from c.defers];refine Cr (g:=g) (ds:=(args.toList.map r.eval).toArray) (.inr am) (dM SX) (by simp) ?_;refine(Sw t _ _ c.hinv (YO.mono c.mono)).mono ?_;rintro e T w3 ⟨rfl,v3,co,rfl,rfl,d8,Zb,I,Y⟩;have ce:bU ⟨P,fn.ntmps,i,k,[o]⟩ co G s q:=by
   refine⟨d8.trans c.hH,c.defers,c.size,λt v h=>let⟨x,J,h5⟩:=c.slot t v h;⟨x,J,h5.mono I⟩,?_,c.og,c.oR,c.oS,Zb,c.mono.trans I,c.aT.trans Y⟩;intro y E u;have MY:=(c.box y E u).lt trivial;have M7:=mO c.hinv (b:=G y) (.inr ⟨y,E,u,rfl⟩);refine(c.box y E u).fY I λd9 hx=>?_
   rw[Y.aT _ MY M7];exact hx
  obtain⟨x,u,J⟩:=va ce F;obtain⟨τ,t1,t2,t3,t4,t5,t6⟩:=ce.HX;exact⟨x,u,x,m,τ,W,t1,by rw[t2];exact PB,t3,t6 _ _ J,j.mono.trans t4,j.aT.trans t5⟩
 rcases he with rfl|rfl
 .exact X
 .exact X
variable{t n:Nat}{TX:List (Nat×V)}{z:D}{ps:List (Nat×Nat)}
structure TI where
 sz:Option Nat
 ag:Option Bool
 zr:Option D
 se:Option Nat
 ik:Option IntKind
 pl:Option (List (Nat×Nat))
variable{e:TI}
def Ld(P:Program)(t:Nat):Option Nat:=match P.underlying t with
 |some (.slice e)=>some e
 |_=>none
def Le(P:Program)(t:Nat):Option IntKind:=match P.underlying t with
 |some (.int k)=>some k
 |_=>none
def KG(P:Program)(t:Nat):TI:=⟨iJ P t,sH P t,pu P t,Ld P t,Le P t,oU P t⟩
structure lG(P:Program)where
 tb:List (Nat×TI)
 ok:tb=(tb.map Prod.fst).map λt=>(t,KG P t)
def lG.get{P:Program}(C:lG P)(h:get C.tb t=some e):e=KG P t:=by
 have b:=get_mem h;rw[C.ok]at b;obtain⟨u,_,a⟩:=aij.1 b;injection a with a c
 subst a;exact c.symm
section
variable{P:Program}(C:lG P)
theorem lG.sz(h:Mt.get C.tb t=some e)(a:e.sz=some n):bQ P t n:=⟨by rw[C.get h]at a;exact a⟩
theorem lG.cell(h:Mt.get C.tb t=some e)(a:e.ag=some false):cI P t:=⟨by rw[C.get h]at a;exact a⟩
theorem lG.agg(h:Mt.get C.tb t=some e)(a:e.ag=some true)(b:e.sz=some n):dz P t n:=⟨by rw[C.get h]at a;exact a,by rw[C.get h]at b;exact b⟩
theorem lG.zr(h:Mt.get C.tb t=some e)(a:e.zr=some z):fk P t z:=⟨by rw[C.get h]at a;exact a⟩
theorem lG.slice(h:Mt.get C.tb t=some e)(b:e.se=some n):aU P t n:=⟨by
 rw[C.get h]at b;have a:Ld P t=some n:=b;unfold Ld at a;split at a
 .grind
 .cases a⟩
theorem lG.int{k:IntKind}(h:Mt.get C.tb t=some e)(b:e.ik=some k):kh P t k:=⟨by
 rw[C.get h]at b;have a:Le P t=some k:=b;unfold Le at a;split at a
 .grind
 .cases a⟩
theorem lG.str{z:List D}(h:Mt.get C.tb t=some e)(a:e.pl=some ps)(b:e.zr=some (.agg z)):cE P t ps z:=
 ⟨by rw[C.get h]at a;exact a,by rw[C.get h]at b;exact b⟩
theorem mapM_at{α β:Type}{f:α->Option β} :∀{l:List α} {ps:List β} {i:Nat} {y:β},l.mapM f=some ps->ps[i]?=some y->∃x,l[i]?=some x/\f x=some y
 |[],ps,i,y,h,a=>by grind
 |d::l,ps,i,y,h,e=>by
  rw[akB]at h;cases a:f d with
  |none=>simp[a]at h
  |some b=>
   cases c:l.mapM f with
   |none=>simp[a,c]at h
   |some g=>
    simp[a,c]at h;subst h;cases i with
    |zero=>simp at e;subst e;exact⟨d,W,a⟩
    |succ i=>
     obtain⟨x,k,j⟩:=mapM_at c (show g[i]?=some y by grind);exact⟨x,by grind,j⟩
theorem lG.Md{f o:Nat}(h:Mt.get C.tb t=some e)(c:e.pl=some ps)(i:ps[f]?=some (o,n+1)):aL P t f o:=by
 rw[C.get h]at c;have b:oU P t=some ps:=c;unfold oU at b;split at b
 .rename_i k j;obtain⟨d,l,a⟩:=mapM_at b i;refine aC ?_;unfold sO;rw[j];simp only;rw[show k[f]?=some d by grind];simp only;cases g:iJ P d.type with
  |none=>rw[g]at a;cases a
  |some m=>
   rw[g]at a;simp only[akt,ai5,Prod.mk.injEq]at a;simp[a.1,a.2]
 .cases b
theorem lG.zc(h:Mt.get C.tb t=some e)(a:e.zr=some z):iY P t ((bz z).map .d):=⟨z,ci (C.zr h a).zero,rfl⟩
def Lf:BinOp->Bool
 |.eql=>true|.neq=>true|.lss=>true|.leq=>true|.gtr=>true|.geq=>true|_=>false
def BJ(op:Op)(sl:List (Nat×V))(bx:List (Nat×List M))(H:Hp):Option (V×List Nat×Bool):=match op with
 |.move x=>match aS sl x with|some v=>some (v,[],false)|none=>none
 |.assign x=>match aS sl x with|some v=>some (v,[],false)|none=>none
 |.fieldAddr s x f=>match get C.tb s with
  |none=>none
  |some e=>match e.pl with
   |none=>none
   |some ps=>match ps[f]? with
    |some (o,_+1)=>(match aS sl x with
     |some (.m (.d (.bM a d)))=>some (.m (.d (.bM a (d+o))),[],false)
     |some (.loc t a)=>some (.loc t (a+o),[],false)
     |some (.m (.ref i a))=>some (.m (.ref i (a+o)),[],false)
     |some (.m (.cz i a d))=>some (.m (.cz i a (d+o)),[],false)
     |_=>none)
    |_=>none
 |.load t x=>match get C.tb t with
  |none=>none
  |some e=>match e.ag with
   |some false=>(match aS sl x with
    |some (.m (.d (.bM a d)))=>(match a[d]? with|some v=>some (.m (.d v),[],false)|none=>none)
    |some (.loc u d)=>(match get bx u with|some a=>(match a[d]? with|some m=>some (.m m,[u],false)|none=>none)|none=>none)
    |some (.m (.ref i d))=>(match H[i]? with|some (.box a)=>(match a[d]? with|some m=>some (.m m,[],true)|none=>none)|_=>none)
    |_=>none)
   |some true=>(match e.sz with
    |none=>none
    |some n=>match aS sl x with
     |some (.m (.d (.bM a d)))=>(match d with
      |0=>bif Nat.beq a.length n then some (.m (.d (.agg a)),[],false)else(match sub a 0 n with|some a=>some (.m (.d (.agg a)),[],false)|none=>none)
      |d+1=>match sub a (d+1) n with|some a=>some (.m (.d (.agg a)),[],false)|none=>none)
     |some (.loc u d)=>(match get bx u with|some a=>(match sub a d n with|some a=>(match gg a with|some a=>some (.m (.d (.agg a)),[u],false)|none=>none)|none=>none)|none=>none)
     |some (.m (.ref i d))=>(match H[i]? with|some (.box a)=>(match sub a d n with|some a=>(match gg a with|some a=>some (.m (.d (.agg a)),[],true)|none=>none)|none=>none)|_=>none)
     |_=>none)
   |none=>none
 |.pick c x y=>match aS sl c with
  |some (.m (.d (.bool b)))=>(match aS sl (bif b then x else y)with|some v=>some (v,[],false)|none=>none)
  |_=>none
 |.nilCheck x=>match aS sl x with
  |some v=>(match sT v with|true=>some (v,[],false)|false=>none)
  |none=>none
 |.extract x i=>match aS sl x with
  |some (.m (.c_ a))=>(match a[i]? with|some m=>some (.m m,[],false)|none=>none)
  |_=>none
 |.unOp .not a x=>match aS sl x with
  |some (.m (.d (.bool b)))=>some (.m (.d (.bool (!b))),[],false)
  |_=>none
 |.binOp op a x y d=>match Lf op with
  |false=>none
  |true=>(match aS sl x with
   |some (.m (.d (.int k m)))=>(match aS sl y with
    |some (.m (.d (.int a n)))=>(match decEq k a with
     |.isTrue _=>(match iK op k m n with|some r=>some (.m (.d r),[],false)|none=>none)
     |.isFalse _=>none)
    |_=>none)
   |some (.m (.d (.str s)))=>(match aS sl y with
    |some (.m (.d (.str u)))=>(match op with
     |.eql=>some (.m (.d (.bool (decide (s=u)))),[],false)
     |.neq=>some (.m (.d (.bool (!decide (s=u)))),[],false)
     |_=>none)
    |_=>none)
   |_=>none)
 |.box t x=>match aS sl x with
  |some (.m (.d v))=>some (.m (.d (.bM (bz v) 0)),[],false)
  |_=>none
 |.call ⟨.builtin .len,⟨[x]⟩,⟨[t]⟩⟩=>match get C.tb t with
  |none=>none
  |some e=>match e.se with
   |none=>none
   |some _=>match aS sl x with
    |some (.m (.d v))=>(match mz v with|some n=>some (.m (.d (.int .i64 n)),[],false)|none=>none)
    |_=>none
 |.build T ⟨a⟩=>match get C.tb T with
  |none=>none
  |some e=>match e.pl,e.zr with
   |some ps,some (.agg z)=>(match eG sl a,mK z with
    |some ms,some a=>(match jW ps a ms with
     |some a=>(match gg a with|some a=>some (.m (.d (.agg a)),[],false)|none=>none)
     |none=>none)
    |_,_=>none)
   |_,_=>none
 |.buildSlice T d ⟨g⟩=>match get C.tb T with
  |none=>none
  |some e=>match e.se with
   |none=>none
   |some a=>match get C.tb a with
    |none=>none
    |some a=>match a.sz,a.zr with
     |some n,some z=>bif Nat.blt 0 n&&Nat.beq (bz z).length n&&Nat.ble (d*n) 16777216 then(match eG sl g with
      |some ms=>(match lx 0 ms with
       |some a=>bif Nat.beq a.length d&&jK n a then some (.m (.d (.sl a)),[],false)else none
       |none=>none)
      |none=>none)else none
     |_,_=>none
 |.makeFunc (.func f) ⟨[]⟩ ⟨a⟩=>match gx sl a with
  |some a=>some (.m (.d (.fn f a)),[],false)
  |none=>none
 |.convert s t x=>match get C.tb s,get C.tb t with
  |some a,some b=>(match a.ik,b.ik with
   |some _,some a=>(match aS sl x with
    |some (.m (.d (.int _ n)))=>some (.m (.d (.int a (a.wrap n))),[],false)
    |_=>none)
   |_,_=>none)
  |_,_=>none
 |_=>none
end
section
variable{X:cQ}{ops:Array Oper}{rest:List Oper}{sl:List (Nat×V)}{bx:List (Nat×List M)}{H:Hp}{d ty:Nat}{pos:String}{af:Array Edge}
def yv:∀{ps:List (Nat×Operand)},(∀p∈ps,aS TX p.2=aS sl p.2)->eG TX ps=eG sl ps
 |[],_=>rfl
 |(i,x)::r,h=>by simp only[eG];rw[h (i,x) (by simp),yv (ps:=r) λp a=>h p (by simp[a])]
def Cy:∀{ps:List Operand},(∀p∈ps,aS TX p=aS sl p)->gx TX ps=gx sl ps
 |[],_=>rfl
 |x::r,h=>by simp only[gx];rw[h x (by simp),Cy (ps:=r) λp a=>h p (by simp[a])]
def Ay(C:lG X.P){op:Op}{v:V}{rs:List Nat}{k:Bool}(h:BJ C op sl bx H=some (v,rs,k)){i:List (Nat×List M)}{j:Hp}
  (a:∀x∈op.operands.toList,aS TX x=aS sl x) (l:∀u∈rs,get i u=get bx u) (m:k=true->j=H):cD X ⟨some d,op,ty,pos,af,none⟩ ⟨TX,i,j⟩ (dq v ⟨TX,i,j⟩):=by
 unfold BJ at h;split at h
 .split at h
  .rename_i c;cases h;exact xJ ((a _ (by simp[Op.operands])).trans c)
  .cases h
 .split at h
  .rename_i c;cases h;exact sI ((a _ (by simp[Op.operands])).trans c)
  .cases h
 .split at h
  .cases h
  .rename_i ht;split at h
   .cases h
   .rename_i f;split at h
    .rename_i n;have o:=C.Md ht f n;split at h
     .rename_i c;cases h;exact sP ((a _ (by simp[Op.operands])).trans c)
     .rename_i c;cases h;exact sQ ((a _ (by simp[Op.operands])).trans c)
     .rename_i c;cases h;exact sR ((a _ (by simp[Op.operands])).trans c)
     .rename_i c;cases h;exact sS ((a _ (by simp[Op.operands])).trans c)
     .cases h
    .cases h
 .split at h
  .cases h
  .rename_i e ht;split at h
   .rename_i f;have n:=C.cell ht f;split at h
    .rename_i c;split at h
     .rename_i o;cases h;exact sM ((a _ (by simp[Op.operands])).trans c) o
     .cases h
    .rename_i c;split at h
     .rename_i o;split at h
      .rename_i p;cases h;exact sW ((a _ (by simp[Op.operands])).trans c) ((l _ (by simp)).trans o) p
      .cases h
     .cases h
    .rename_i c;split at h
     .rename_i o;split at h
      .rename_i p;cases h;have:=m W;subst this;exact ly ((a _ (by simp[Op.operands])).trans c) o (by unfold dX;rw[n.cell];exact p)
      .cases h
     .cases h
    .cases h
   .rename_i q;split at h
    .cases h
    .rename_i p r;have n:=C.agg ht q r;split at h
     .rename_i c;split at h
      .cases f:Nat.beq (List.length _) p with
       |true=>rw[f]at h;cases h;exact sN ((a _ (by simp[Op.operands])).trans c) (aiw f)
       |false=>
        rw[f]at h;simp only[akb]at h;split at h
        .rename_i o;cases h;exact px ((a _ (by simp[Op.operands])).trans c) (aiF (sub_eq o).1) (sub_eq o).2
        .cases h
      .split at h
       .rename_i f;cases h;exact px ((a _ (by simp[Op.operands])).trans c) (aiF (sub_eq f).1) (sub_eq f).2
       .cases h
     .rename_i f;split at h
      .rename_i o;split at h
       .rename_i c;split at h
        .rename_i s;cases h;exact sX ((a _ (by simp[Op.operands])).trans f) ((l _ (by simp)).trans o) (aiF (sub_eq c).1) (by rw[(sub_eq c).2];exact s)
        .cases h
       .cases h
      .cases h
     .rename_i f;split at h
      .rename_i o;split at h
       .rename_i c;split at h
        .rename_i s;cases h;have:=m W;subst this;exact ly ((a _ (by simp[Op.operands])).trans f) o (by unfold dX;rw[n.agg,n.size];simp only[aiF (sub_eq c).1,aiP];rw[(sub_eq c).2];unfold pack;rw[s])
        .cases h
       .cases h
      .cases h
     .cases h
   .cases h
 .split at h
  .rename_i b f;split at h
   .rename_i c;cases h;cases b with
    |true=>exact sJ ((a _ (by simp[Op.operands])).trans f) ((a _ (by simp[Op.operands])).trans c)
    |false=>exact sK ((a _ (by simp[Op.operands])).trans f) ((a _ (by simp[Op.operands])).trans c)
   .cases h
  .cases h
 .split at h
  .rename_i c;split at h
   .rename_i f;cases h;exact py ((a _ (by simp[Op.operands])).trans c) f
   .cases h
  .cases h
 .split at h
  .rename_i c;split at h
   .rename_i f;cases h;exact qu ((a _ (by simp[Op.operands])).trans c) f
   .cases h
  .cases h
 .split at h
  .rename_i c;cases h;exact Bl ((a _ (by simp[Op.operands])).trans c)
  .cases h
 .split at h
  .cases h
  .split at h
   .rename_i c;split at h
    .rename_i n;split at h
     .rename_i o _;subst o;split at h
      .rename_i f;cases h;exact tJ ((a _ (by simp[Op.operands])).trans c) ((a _ (by simp[Op.operands])).trans n) f
      .cases h
     .cases h
    .cases h
   .rename_i c;split at h
    .rename_i f;split at h
     .cases h;exact u_ ((a _ (by simp[Op.operands])).trans c) ((a _ (by simp[Op.operands])).trans f)
     .cases h;exact Ad ((a _ (by simp[Op.operands])).trans c) ((a _ (by simp[Op.operands])).trans f)
     .cases h
    .cases h
   .cases h
 .split at h
  .rename_i c;cases h;exact Fi ((a _ (by simp[Op.operands])).trans c)
  .cases h
 .split at h
  .cases h
  .rename_i ht;split at h
   .cases h
   .rename_i f;have o:=C.slice ht f;split at h
    .rename_i c;split at h
     .rename_i n;cases h;exact xN ((a _ (by simp[Op.operands,Call.operands])).trans c) n
     .cases h
    .cases h
 .split at h
  .cases h
  .rename_i ht;split at h
   .rename_i f q;have p:=C.str ht f q;split at h
    .rename_i n u;split at h
     .rename_i r s;split at h
      .rename_i t o;cases h;have c:=mX (ht:=p) (X:=X) (dst:=some d) (ty:=ty) (pos:=pos) (af:=af) (g:=none) (st:=⟨TX,i,j⟩) (by rw[eH,yv (sl:=sl) λp c=>a _ (by simp[Op.operands];exact⟨_,c⟩)];exact n) (by rw[<-kS u];exact lu s);have:pack r=.d (.agg t):=by simp[pack,o]
       rw[this]at c;exact c
      .cases h
     .cases h
    .cases h
   .cases h
 .split at h
  .cases h
  .rename_i ht;split at h
   .cases h
   .rename_i t;have w:=C.slice ht t;split at h
    .cases h
    .rename_i o;split at h
     .rename_i n z r u;have x:=C.sz o r;have y:=C.zr o u;cases c:(Nat.blt 0 n&&Nat.beq (bz z).length n&&Nat.ble (_*n) 16777216)with
      |false=>rw[c]at h;cases h
      |true=>
       rw[c]at h;simp only[aiP]at h;simp only[aiI]at c;split at h
       .rename_i q;split at h
        .rename_i p s;cases f:(Nat.beq p.length _&&jK n p)with
         |false=>rw[f]at h;cases h
         |true=>
          rw[f]at h;simp only[aiI]at f;cases h;exact kT c.1.1 c.1.2 c.2 (by rw[eH,yv (sl:=sl) λp c=>a _ (by simp[Op.operands];exact⟨_,c⟩)];exact q) s f.1 f.2
        .cases h
       .cases h
     .cases h
 .split at h
  .rename_i c;cases h;exact tN (by rw[nC,Cy (sl:=sl) λp c=>a _ (by simp[Op.operands];exact c)];exact c)
  .cases h
 .split at h
  .rename_i f n;split at h
   .rename_i o p;have q:=C.int f o;have r:=C.int n p;split at h
    .rename_i c;cases h;exact vh ((a _ (by simp[Op.operands])).trans c)
    .cases h
   .cases h
  .cases h
 .cases h
end
end Go.Mt
namespace Go.Mt
variable{post:List Ef->St->Prop}
def gate(ops:Array Oper)(sl:List (Nat×V)):Option (Nat×Bool)->Option Bool
 |none=>some true
 |some (j,w)=>match ops[j]? with
  |some q=>(match q.dst with
   |some g=>(match get sl g with
    |some (.m (.d (.bool b)))=>some (b==w)
    |some (.m (.c_ []))=>some false
    |_=>none)
   |none=>none)
  |none=>none
inductive So where
 |go (sl:List (Nat×V)) (bx:List (Nat×List M)) (e:Ef)
 |no
def s9{P:Program}(C:lG P)(N:Nat)(ops:Array Oper)(o:Oper)(sl:List (Nat×V))(bx:List (Nat×List M))(H:Hp):So:=match gate ops sl o.guard with
 |some false=>(match o.dst with
  |some d=>bif Nat.blt d N then .go ((d,.m (.c_ []))::sl) bx ⟨some d,.m (.c_ []),[],[],none,false,none⟩else .no
  |none=>.no)
 |some true=>(match o.dst with
  |some d=>bif Nat.blt d N then(match o.op with
   |.alloc T=>(match get C.tb T with
    |some e=>(match e.zr with
     |some z=>(match mK (bz z)with
      |some a=>bif gP d sl then .go ((d,.loc d 0)::sl) ((d,a)::bx) ⟨some d,.loc d 0,[],[(d,a)],some d,false,none⟩else .no
      |none=>.no)
     |none=>.no)
    |none=>.no)
   |a=>match BJ C a sl bx H with
    |some (v,a,b)=>.go ((d,v)::sl) bx ⟨some d,v,a,[],none,b,none⟩
    |none=>.no)else .no
  |none=>(match o.op with
   |.store T x y=>(match aS sl x with
    |some (.loc t c)=>(match aS sl y with
     |some (.m m)=>(match get bx t with
      |some b=>(match fr m with
       |some a=>(match get C.tb T with
        |some e=>(match e.sz with
         |some n=>bif Nat.beq a.length n then(match wr b c a with
          |some a=>.go sl ((t,a)::bx) ⟨none,.m .undef,[],[(t,a)],none,false,none⟩
          |none=>.no)else .no
         |none=>.no)
        |none=>.no)
       |none=>.no)
      |none=>.no)
     |_=>.no)
    |_=>.no)
   |_=>.no))
 |none=>.no
section
variable{X:cQ}{ops:Array Oper}{o:Oper}{rest:List Oper}{sl M8:List (Nat×V)}{bx Ns:List (Nat×List M)}{H:Hp}{e:Ef}
def wy(C:lG X.P)(h:s9 C X.n ops o sl bx H=.go M8 Ns e):(gate ops sl o.guard=some false/\∃d,o.dst=some d/\Nat.blt d X.n=true/\M8=(d,.m (.c_ []))::sl/\Ns=bx/\e=⟨some d,.m (.c_ []),[],[],none,false,none⟩)\/
  (gate ops sl o.guard=some true/\((∃d,o.dst=some d/\Nat.blt d X.n=true/\((∃T cs,o.op=.alloc T/\iY X.P T cs/\gP d sl=true/\M8=(d,.loc d 0)::sl/\Ns=(d,cs)::bx/\e=⟨some d,.loc d 0,[],[(d,cs)],some d,false,none⟩)\/
   (∃v rs a,BJ C o.op sl bx H=some (v,rs,a)/\M8=(d,v)::sl/\Ns=bx/\e=⟨some d,v,rs,[],none,a,none⟩)))\/
   (o.dst=none/\∃T x y t off m cs new n a,o.op=.store T x y/\bQ X.P T n/\aS sl x=some (.loc t off)/\aS sl y=some (.m m)/\get bx t=some cs/\fr m=some new/\Nat.beq new.length n=true/\wr cs off new=some a/\
    M8=sl/\Ns=(t,a)::bx/\e=⟨none,.m .undef,[],[(t,a)],none,false,none⟩))):=by
 unfold s9 at h;split at h
 .rename_i b;split at h
  .rename_i d c;cases a:Nat.blt d X.n with
   |false=>rw[a]at h;cases h
   |true=>rw[a]at h;cases h;exact .inl ⟨b,d,c,a,W,W,W⟩
  .cases h
 .rename_i c;refine .inr ⟨c,?_⟩;split at h
  .rename_i d f;cases a:Nat.blt d X.n with
   |false=>rw[a]at h;cases h
   |true=>
    rw[a]at h;simp only[aiP]at h;refine .inl ⟨d,f,a,?_⟩;split at h
    .rename_i T g;split at h
     .rename_i i;split at h
      .rename_i z j;split at h
       .rename_i cs k;cases b:gP d sl with
        |false=>rw[b]at h;cases h
        |true=>rw[b]at h;cases h;exact .inl ⟨T,cs,g,by rw[kS k];exact C.zc i j,W,W,W,W⟩
       .cases h
      .cases h
     .cases h
    .split at h
     .rename_i v rs b g;cases h;exact .inr ⟨v,rs,b,g,W,W,W⟩
     .cases h
  .rename_i f;split at h
   .rename_i T x y i;split at h
    .rename_i t off l;split at h
     .rename_i m p;split at h
      .rename_i cs q;split at h
       .rename_i new k;split at h
        .rename_i j;split at h
         .rename_i n g;cases a:Nat.beq new.length n with
          |false=>rw[a]at h;cases h
          |true=>
           rw[a]at h;simp only[aiP]at h;split at h
           .rename_i b r;cases h;exact .inr ⟨f,T,x,y,t,off,m,cs,new,n,b,i,C.sz j g,l,p,q,k,a,r,W,W,W⟩
           .cases h
         .cases h
        .cases h
       .cases h
      .cases h
     .cases h
    .cases h
   .cases h
 .cases h
def ou{b:Bool}(h:gate ops sl o.guard=some b):iM ops o ⟨sl,bx,H⟩=some b:=by
 unfold gate at h;unfold iM;split at h
 .grind
 .grind
def Cz(C:lG X.P){post:St->Prop}(h:s9 C X.n ops o sl bx H=.go M8 Ns e)(k:TL X ops rest ⟨M8,Ns,H⟩ post):TL X ops (o::rest) ⟨sl,bx,H⟩ post:=by
 rcases wy C h with⟨b,d,a,c,rfl,rfl,_⟩|⟨b,⟨d,a,c,⟨T,t,f,F,g,rfl,rfl,_⟩|⟨v,G,I,u,rfl,rfl,_⟩⟩|⟨a,T,A,B,D,M,m,t,N,E,J,f,K,i,j,l,n,p,q,rfl,rfl,_⟩⟩
 .exact TL.skip (ou b) a c k
 .obtain⟨z,s,w,L,x,r⟩:=o;subst a;subst f;cases r with
  |none=>exact cG c g k
  |some y=>exact az (ou b) (cG c g k)
 .obtain⟨O,w,x,z,y,s⟩:=o;subst a;have r:=TL.kO (X:=X) (ops:=ops) (rest:=rest) (post:=post) (o:=⟨some d,w,x,z,y,none⟩) W W c (Ay C u (λ_ _=>rfl) (λ_ _=>rfl) λ_=>rfl) k;cases s with
  |none=>exact r
  |some L=>exact az (ou b) r
 .obtain⟨z,s,w,L,x,r⟩:=o;subst a;subst f;cases r with
  |none=>exact aK i j l n p q k
  |some y=>exact az (ou b) (aK i j l n p q k)
theorem BK{dst:Option Nat}{op:Op}{ty:Nat}{pos:String}{af:Array Edge}{g:Option (Nat×Bool)}(a:gate ops sl g=some true)
  (k:TF X ops (⟨dst,op,ty,pos,af,none⟩::rest) ⟨sl,bx,H⟩ post):TF X ops (⟨dst,op,ty,pos,af,g⟩::rest) ⟨sl,bx,H⟩ post:=by
 cases g with
 |none=>exact k
 |some c=>
  obtain⟨j,w⟩:=c;simp only[gate]at a;split at a
  .rename_i q e;split at a
   .rename_i g f;split at a
    .rename_i b d;injection a with a
     have:b=w:=by grind
     subst this;exact bO (by grind) d k
    .cases a
    .cases a
   .cases a
  .cases a
theorem CA(C:lG X.P)(h:s9 C X.n ops o sl bx H=.go M8 Ns e)(k:TF X ops rest ⟨M8,Ns,H⟩ λa c=>post (e::a) c):TF X ops (o::rest) ⟨sl,bx,H⟩ post:=by
 rcases wy C h with⟨a,d,c,f,rfl,rfl,rfl⟩|⟨a,⟨d,c,f,⟨T,n,i,G,I,rfl,rfl,rfl⟩|⟨v,p,q,r,rfl,rfl,rfl⟩⟩|⟨c,T,y,z,A,O,m,n,P,B,J,i,K,s,t,g,u,l,w,rfl,rfl,rfl⟩⟩
 .obtain⟨Q,L,M,R,N,j⟩:=o;subst c;cases j with
  |none=>cases a
  |some x=>
   obtain⟨D,E⟩:=x;simp only[gate]at a;split at a
   .rename_i F l;split at a
    .rename_i j c;split at a
     .rename_i b g;injection a with a;exact e_ f (by grind) g a k
     .rename_i g;exact iZ f (by grind) g k
     .cases a
    .cases a
   .cases a
 .obtain⟨F,x,D,L,E,j⟩:=o;subst c;subst i;exact BK a (nF f k)
 .obtain⟨F,x,D,L,E,j⟩:=o;subst c;exact BK a (TF.cons (e:=⟨some d,v,p,[],none,q,none⟩) (MK W W (bj f) λa a=>Ay C r (λx c=>a.ev c) (λu c=>a.bx u (by simp[c])) λc=>a.H (by simp[c])) W k)
 .obtain⟨F,x,D,L,E,j⟩:=o;subst c;subst i;exact BK a (cv s t g u l w k)
end
end Go.Mt
namespace Go.Mt
variable{H:Hp}{P:Program}{X:cQ}{ops:Array Oper}{N:Nat}{sl M8:List (Nat×V)}{bx Ns:List (Nat×List M)}{post:Exit->St->Prop}{r r':List Oper}
inductive K where
 |c (x:Code)
 |b (id:Nat)
abbrev yw:=Code->St->(Exit->St->Prop)->Prop
variable{C:yw}
abbrev Ij:=Array Oper->List Oper->St->(St->Prop)->Prop
variable{L:Ij}
def Kp(C:yw):List K->(Exit->St->Prop)->Exit->St->Prop
 |[],post=>post
 |.c y::a,post=>after (Kp C a post) λs=>C y s (Kp C a post)
 |.b b::a,post=>nu b (Kp C a post)
def Kn(C:yw)(a:List K)(post:Exit->St->Prop):St->Prop:= λs=>Kp C a post .normal s
inductive Cf where
 |code (x:Code) (a:List K)
 |ops (os:Array Oper) (r:List Oper) (a:List K)
 |Gv (a:List K)
def Cf.den(C:yw)(L:Ij)(post:Exit->St->Prop):Cf->St->Prop
 |.code x a,s=>C x s (Kp C a post)
 |.ops b r a,s=>L b r s (Kn C a post)
 |.Gv a,s=>Kp C a post .normal s
inductive Sp where
 |go (c:Cf) (ps:List Nat) (sl:List (Nat×V)) (bx:List (Nat×List M))
 |no
def stops(ps:List Nat)(o:Oper):Bool:=match ps with
 |p::_=>(match o.dst with|some d=>Nat.beq p (d+4)|none=>Nat.beq p 999)
 |[]=>false
def yx{P:Program}(D:lG P)(N:Nat)(H:Hp)(ps:List Nat)(sl:List (Nat×V))(bx:List (Nat×List M)):Cf->Sp
 |.code x a=>(match x with
  |.seq d b=>.go (.code d (.c b::a)) ps sl bx
  |.skip=>.go (.Gv a) ps sl bx
  |.block d y=>(match ps with
   |3::ps=>.go (.code y (.b d::a)) ps sl bx
   |_=>.no)
  |.cond c y z=>(match ps with
   |1::ps=>(match aS sl c with
    |some (.m (.d (.bool true)))=>.go (.code y a) ps sl bx
    |_=>.no)
   |0::ps=>(match aS sl c with
    |some (.m (.d (.bool false)))=>.go (.code z a) ps sl bx
    |_=>.no)
   |_=>.no)
  |.region _ ⟨d⟩ false=>(match ps with
   |2::ps=>.go (.ops ⟨d⟩ d a) ps sl bx
   |_=>.no)
  |_=>.no)
 |.ops d r a=>(match r with
  |[]=>.go (.Gv a) ps sl bx
  |o::r=>bif stops ps o then .no else(match s9 D N d o sl bx H with
   |.go sl bx _=>.go (.ops d r a) ps sl bx
   |.no=>.no))
 |.Gv a=>(match a with
  |.c y::a=>.go (.code y a) ps sl bx
  |.b _::a=>.go (.Gv a) ps sl bx
  |[]=>.no)
inductive Rs where
 |at(c:Cf) (sl:List (Nat×V)) (bx:List (Nat×List M))
 |out
def qJ{P:Program}(D:lG P)(N:Nat)(H:Hp):Nat->Cf->List Nat->List (Nat×V)->List (Nat×List M)->Rs
 |0,_,_,_,_=>.out
 |f+1,c,ps,sl,bx=>match yx D N H ps sl bx c with
  |.go c ps sl bx=>qJ D N H f c ps sl bx
  |.no=>.at c sl bx
structure Mode(P:Program)(N:Nat)(C:yw)(L:Ij):Prop where
 seq:∀x y st post,C x st (after post λs=>C y s post)->C (.seq x y) st post
 skip:∀st post,post .normal st->C .skip st post
 block:∀id x st post,C x st (nu id post)->C (.block id x) st post
 ct:∀c x y st post,st.ev c=some (.m (.d (.bool true)))->C x st post->C (.cond c x y) st post
 cf:∀c x y st post,st.ev c=some (.m (.d (.bool false)))->C y st post->C (.cond c x y) st post
 region:∀id (os:List Oper) st post,L os.toArray os st (post .normal)->C (.region id os.toArray false) st post
 nil:∀os st (post:St->Prop),post st->L os [] st post
 row:∀(D:lG P) os o r sl bx M8 Ns e H (post:St->Prop),s9 D N os o sl bx H=.go M8 Ns e->L os r ⟨M8,Ns,H⟩ post->L os (o::r) ⟨sl,bx,H⟩ post
def Gw(a:Mode P N C L)(D:lG P){ps e:List Nat}{c b:Cf}
  (h:yx D N H ps sl bx c=.go b e M8 Ns) (k:b.den C L post ⟨M8,Ns,H⟩):c.den C L post ⟨sl,bx,H⟩:=by
 cases c with
 |code x f=>
  simp only[yx]at h;split at h
  .cases h;exact a.seq _ _ _ _ k
  .cases h;exact a.skip _ _ k
  .split at h
   .cases h;exact a.block _ _ _ _ k
   .cases h
  .split at h
   .split at h
    .rename_i d;cases h;exact a.ct _ _ _ _ _ d k
    .cases h
   .split at h
    .rename_i d;cases h;exact a.cf _ _ _ _ _ d k
    .cases h
   .cases h
  .split at h
   .cases h;exact a.region _ _ _ _ k
   .cases h
  .cases h
 |ops i r g=>
  simp only[yx]at h;split at h
  .cases h;exact a.nil _ _ _ k
  .cases d:stops ps _ with
   |true=>rw[d]at h;cases h
   |false=>
    rw[d]at h;simp only[akb]at h;split at h
    .rename_i f;cases h;exact a.row D _ _ _ _ _ _ _ _ _ _ f k
    .cases h
 |Gv d=>
  simp only[yx]at h;split at h
  .cases h;exact k
  .cases h;exact k
  .cases h
def kX(a:Mode P N C L)(D:lG P):∀(f:Nat) {ps:List Nat} {sl M8:List (Nat×V)} {bx Ns:List (Nat×List M)} {c a:Cf},
  qJ D N H f c ps sl bx=.at a M8 Ns->a.den C L post ⟨M8,Ns,H⟩->c.den C L post ⟨sl,bx,H⟩
 |0,_,_,_,_,_,_,_,h,_=>by cases h
 |f+1,ps,sl,M8,bx,Ns,c,d,h,k=>by
  simp only[qJ]at h;split at h
  .rename_i b;exact Gw a D b (kX a D f h k)
  .grind
def BL(X:cQ):Mode X.P X.n (TC X) (TL X)where
 seq _ _ _ _ h:=TC.seq h
 skip _ _ h:=TC.skip h
 block _ _ _ _ h:=TC.block h
 ct _ _ _ _ _ hc h:=TC.cond hc (λ_=>h) λh=>by cases h
 cf _ _ _ _ _ hc h:=TC.cond hc (λh=>by cases h) λ_=>h
 region _ _ _ _ h:=TC.region h
 nil _ _ _ h:=TL.nil h
 row D _ _ _ _ _ _ _ _ _ _ h k:=Cz D h k
def DL(P:Program)(n:Nat)(os:Array Oper)(r:List Oper)(st:St)(Q:St->Prop):Prop:=∃s,(∀a b,TL ⟨P,n,a,b,[]⟩ os r st λa=>a=s)/\Q s
def BM(P:Program)(n B:Nat):Mode P n (DC P n B) (DL P n)where
 seq _ _ _ _ h:=DC.seq h
 skip _ _ h:=DC.skip h
 block _ _ _ _ h:=DC.block h
 ct _ _ _ _ _ hc h:=DC.cond hc (λ_=>h) λh=>by cases h
 cf _ _ _ _ _ hc h:=DC.cond hc (λh=>by cases h) λ_=>h
 region _ _ _ _ h:=DC.region h
 nil _ st _ h:=⟨st,λ_ _=>TL.nil W,h⟩
 row D _ _ _ _ _ _ _ _ _ _ h k:=by
  obtain⟨s,h1,h2⟩:=k;exact⟨s,λs0 Oo=>Cz (X:=⟨P,n,s0,Oo,[]⟩) D h (h1 s0 Oo),h2⟩
def Mq{n:Nat}{os:Array Oper}{st a:St}{Q:St->Prop}(h:∀{s0 Oo} {p:St->Prop},TL ⟨P,n,s0,Oo,[]⟩ os r' a p->TL ⟨P,n,s0,Oo,[]⟩ os r st p)(k:DL P n os r' a Q):DL P n os r st Q:=by
 obtain⟨s,b,c⟩:=k;exact⟨s,λs0 Oo=>h (b s0 Oo),c⟩
def qK{P:Program}(C:lG P)(N:Nat)(ops:Array Oper)(H:Hp):Nat->List Oper->List (Nat×V)->List (Nat×List M)->List Ef->Option (List Oper×List (Nat×V)×List (Nat×List M)×List Ef)
 |0,r,sl,bx,a=>some (r,sl,bx,a)
 |n+1,o::r,sl,bx,a=>(match s9 C N ops o sl bx H with
  |.go sl bx e=>qK C N ops H n r sl bx (e::a)
  |.no=>none)
 |_+1,[],_,_,_=>none
def TF.run(C:lG X.P):∀(n:Nat) {post:List Ef->St->Prop} {r a:List Oper} {sl M8:List (Nat×V)} {bx Ns:List (Nat×List M)} {es b:List Ef},
  qK C X.n ops H n r sl bx es=some (a,M8,Ns,b)->TF X ops a ⟨M8,Ns,H⟩ (λa c=>post (b.reverse++a) c)->TF X ops r ⟨sl,bx,H⟩ λa b=>post (es.reverse++a) b
 |0,post,r,a,sl,M8,bx,Ns,es,b,h,k=>by cases h;exact k
 |n+1,post,[],a,sl,M8,bx,Ns,es,b,h,k=>by cases h
 |n+1,post,o::r,b,sl,M8,bx,Ns,es,c,h,k=>by
  simp only[qK]at h;split at h
  .rename_i e a;refine CA C a ?_;have:=TF.run C n (post:=post) h k;simpa using this
  .cases h
def TF.rn(C:lG X.P)(n:Nat){post:List Ef->St->Prop}{a:List Ef}
  (h:qK C X.n ops H n r sl bx []=some (r',M8,Ns,a)) (k:TF X ops r' ⟨M8,Ns,H⟩ λb c=>post (a.reverse++b) c):TF X ops r ⟨sl,bx,H⟩ post:=TF.run C n (post:=post) h k
def mC.run{I:Hp->Prop}(C:lG X.P):∀(n:Nat) {post:List Ef->St->Prop} {r a:List Oper} {sl M8:List (Nat×V)} {bx Ns:List (Nat×List M)} {es b:List Ef},
  qK C X.n ops H n r sl bx es=some (a,M8,Ns,b)->mC X I ops a ⟨M8,Ns,H⟩ (λa c=>post (b.reverse++a) c)->mC X I ops r ⟨sl,bx,H⟩ λa b=>post (es.reverse++a) b
 |0,post,r,a,sl,M8,bx,Ns,es,b,h,k=>by cases h;exact k
 |n+1,post,[],a,sl,M8,bx,Ns,es,b,h,k=>by cases h
 |n+1,post,o::r,b,sl,M8,bx,Ns,es,c,h,k=>by
  simp only[qK]at h;split at h
  .rename_i e a;refine Pe (CA C a (TF.nil ⟨W,W⟩)) ?_;have:=mC.run C n (post:=post) h k;simpa using this
  .cases h
end Go.Mt
namespace Go.Mt
section
variable{P:Program}{f:Nat}{fn:Func}{c:Code}{ms:List M}{H:Hp}{post:M->Hp->Prop}{n:Nat}
def CT.ob(a:P.funcs[f]?=some fn)(b:fn.body=some c)(d:fn.ntmps=n)(e:Nat.ble ms.length n=true)
  (h:∀(a:Sg) (b:Nat->Nat->Prop),TC ⟨P,n,a,b,[]⟩ c ⟨mA 0 ms,[],H⟩ (Kp (TC ⟨P,n,a,b,[]⟩) [] (qv P fn post))):CT P f ms H post:=My a b d e h
def DT.ob(a:P.funcs[f]?=some fn)(b:fn.body=some c)(d:fn.ntmps=n)(e:Nat.ble ms.length n=true)
  (h:DC P n H.length c ⟨mA 0 ms,[],H⟩ (Kp (DC P n H.length) [] (qv P fn post))):DT P f ms H post:=MG a b d e h
end
section
variable{X:cQ}{st:St}{c x y:Code}{sl:List (Nat×V)}{bx:List (Nat×List M)}{H:Hp}{post:Exit->St->Prop}{P:Program}{n B:Nat}
def TC.lp(I:Nat->St->Prop)(a:Nat)(M8:List (Nat×V))(b:I a ⟨M8,bx,H⟩)(d:keeps sl M8)
  (e:∀k s,I k s->TC X c s (Kp (TC X) [] (after post λd=>∃a b,a<k/\I a b/\∀a w,Inv X d a w->Inv X b a w))):TC X (.loop c) ⟨sl,bx,H⟩ post:=
 TC.DQ I a _ b (λa w a=>a.gL (fS d) λ_=>rfl) e
def OY(I:Nat->St->Prop)(a:Nat)(M8:List (Nat×V))(b:I a ⟨M8,bx,H⟩)(d:keeps sl M8)
  (e:∀k s,I k s->DC P n B c s (Kp (DC P n B) [] (after post λa=>yl P n B I k a))):DC P n B (.loop c) ⟨sl,bx,H⟩ post:=DC.loop I a M8 b d e
def DC.md(a:St)(b:DC P n B x st (Kp (DC P n B) [] (after post λs=>∀b d,b.H.length<=B->∀c w,Inv ⟨P,n,b,d,[]⟩ s c w->Inv ⟨P,n,b,d,[]⟩ a c w)))(c:DC P n B y a post):DC P n B x st (after post λs=>DC P n B y s post):=DC.D8 a b c
end
section
variable{X:cQ}{ops:Array Oper}{rest:List Oper}{sl:List (Nat×V)}{bx:List (Nat×List M)}{H:Hp}{post:St->Prop}{d ty:Nat}{pos:String}{af:Array Edge}
def dW{op:BinOp}{c e:Nat}{x y:Operand}{a:IntKind}{m n:Int}{b' b:Bool}(f:b'=b)(g:Nat.blt d X.n=true)(h:aS sl x=some (.m (.d (.int a m))))(i:aS sl y=some (.m (.d (.int a n))))(j:iK op a m n=some (.bool b'))
  (k:TL X ops rest ⟨(d,.m (.d (.bool b)))::sl,bx,H⟩ post):TL X ops (⟨some d,.binOp op c x y e,ty,pos,af,none⟩::rest) ⟨sl,bx,H⟩ post:=ay g h i (f▸j) k
end
variable{P Q:Prop}{x y:Operand}{n m:Int}{op:BinOp}{xt yt id t e:Nat}{kk:IntKind}{X:cQ}{ops:List Oper}{st:St}{post:Exit->St->Prop}{v:D}{b c:Bool}
structure Hd(Q:Prop):Prop where
 of:Q
section
variable{X:cQ}{ops:Array Oper}{rest:List Oper}{post:St->Prop}{MU:List Ef->St->Prop}{sl:List (Nat×V)}{bx:List (Nat×List M)}{H:Hp}{d ty:Nat}{pos:String}{af:Array Edge}
def JK{n m:Nat}[ht:aU X.P t e](a:Nat.blt d X.n=true)(b:aS sl x=some (.m (.d v)))(c:mz v=some n)(f:n=m)
  (k:TL X ops rest ⟨(d,.m (.d (.int .i64 m)))::sl,bx,H⟩ post):TL X ops (⟨some d,.call ⟨.builtin .len,#[x],#[t]⟩,ty,pos,af,none⟩::rest) ⟨sl,bx,H⟩ post:=by subst f;exact aY a b c k
def JL{n m:Nat}[ht:aU X.P t e](a:Nat.blt d X.n=true)(b:aS sl x=some (.m (.d v)))(c:mz v=some n)(f:n=m)
  (k:TF X ops rest ⟨(d,.m (.d (.int .i64 m)))::sl,bx,H⟩ λa b=>MU (⟨some d,.m (.d (.int .i64 m)),[],[],none,false,none⟩::a) b):TF X ops (⟨some d,.call ⟨.builtin .len,#[x],#[t]⟩,ty,pos,af,none⟩::rest) ⟨sl,bx,H⟩ MU:=by subst f;exact lY a b c k
def JM(a:Nat.blt d X.n=true)(b:aS sl x=some (.m (.d (.int kk m))))(c:aS sl y=some (.m (.d (.int kk n))))(e:iK op kk m n=some (.bool true))(k:TL X ops rest ⟨(d,.m (.d (.bool true)))::sl,bx,H⟩ post):TL X ops (⟨some d,.binOp op xt x y yt,ty,pos,af,none⟩::rest) ⟨sl,bx,H⟩ post:=ay a b c e k
def JN(a:Nat.blt d X.n=true)(b:aS sl x=some (.m (.d (.int kk m))))(c:aS sl y=some (.m (.d (.int kk n))))(e:iK op kk m n=some (.bool false))(k:TL X ops rest ⟨(d,.m (.d (.bool false)))::sl,bx,H⟩ post):TL X ops (⟨some d,.binOp op xt x y yt,ty,pos,af,none⟩::rest) ⟨sl,bx,H⟩ post:=ay a b c e k
def JO(a:Nat.blt d X.n=true)(e:aS sl x=some (.m (.d (.int kk m))))(f:aS sl y=some (.m (.d (.int kk n))))(g:iK op kk m n=some (.bool c))(h:c=b)(k:TL X ops rest ⟨(d,.m (.d (.bool b)))::sl,bx,H⟩ post):TL X ops (⟨some d,.binOp op xt x y yt,ty,pos,af,none⟩::rest) ⟨sl,bx,H⟩ post:=by subst h;exact ay a e f g k
def JP(a:Nat.blt d X.n=true)(b:aS sl x=some (.m (.d (.int kk m))))(c:aS sl y=some (.m (.d (.int kk n))))(e:iK op kk m n=some (.bool true))(k:TF X ops rest ⟨(d,.m (.d (.bool true)))::sl,bx,H⟩ λa b=>MU (⟨some d,.m (.d (.bool true)),[],[],none,false,none⟩::a) b):TF X ops (⟨some d,.binOp op xt x y yt,ty,pos,af,none⟩::rest) ⟨sl,bx,H⟩ MU:=kV a b c e k
def JQ(a:Nat.blt d X.n=true)(b:aS sl x=some (.m (.d (.int kk m))))(c:aS sl y=some (.m (.d (.int kk n))))(e:iK op kk m n=some (.bool false))(k:TF X ops rest ⟨(d,.m (.d (.bool false)))::sl,bx,H⟩ λa b=>MU (⟨some d,.m (.d (.bool false)),[],[],none,false,none⟩::a) b):TF X ops (⟨some d,.binOp op xt x y yt,ty,pos,af,none⟩::rest) ⟨sl,bx,H⟩ MU:=kV a b c e k
def JR(a:Nat.blt d X.n=true)(e:aS sl x=some (.m (.d (.int kk m))))(f:aS sl y=some (.m (.d (.int kk n))))(g:iK op kk m n=some (.bool c))(h:c=b)(k:TF X ops rest ⟨(d,.m (.d (.bool b)))::sl,bx,H⟩ λa e=>MU (⟨some d,.m (.d (.bool b)),[],[],none,false,none⟩::a) e):TF X ops (⟨some d,.binOp op xt x y yt,ty,pos,af,none⟩::rest) ⟨sl,bx,H⟩ MU:=by subst h;exact kV a e f g k
end
def TL.gn(k:Q)(h:Hd Q->P:=by intro k;(repeat (first|((with_reducible apply bN);rfl;rfl)|((with_reducible apply az);rfl)|((with_reducible apply aq);rfl;rfl)|((with_reducible apply aj);rfl;rfl)|((with_reducible apply aG);rfl;rfl)|((with_reducible apply aF);rfl;rfl)|((with_reducible apply dh);rfl;rfl)|((with_reducible apply aI);rfl;rfl;rfl)|((with_reducible apply aJ);rfl;rfl;(first|rfl|assumption);rfl)|((with_reducible apply bK);rfl;rfl;(first|rfl|assumption);rfl)|((with_reducible apply ca);rfl;rfl;rfl)|((with_reducible apply eh);rfl;rfl;rfl)|((with_reducible apply bp);rfl;rfl;(first|rfl|assumption);rfl;rfl)|((with_reducible apply JM);rfl;rfl;rfl;rfl)|((with_reducible apply JN);rfl;rfl;rfl;rfl)|((with_reducible apply gR);rfl;rfl;rfl)|((with_reducible apply kg);rfl;rfl)|((with_reducible apply iX);rfl;rfl;rfl)|((with_reducible apply gH);rfl;rfl;rfl)|((with_reducible apply JK);rfl;rfl;rfl;assumption)|((with_reducible apply aY);rfl;rfl;rfl)|((with_reducible apply xV);rfl;rfl;rfl)|((with_reducible apply LJ);rfl;rfl;rfl)|((with_reducible apply cx);rfl;rfl;(first|rfl|assumption);rfl;rfl)|((with_reducible apply aK);rfl;rfl;(first|rfl|assumption);(first|rfl|exact aN _ _ _);rfl;rfl)|((with_reducible apply dF);rfl;rfl;rfl;rfl;rfl;rfl;rfl;rfl)|((with_reducible apply g_);rfl;rfl;rfl;rfl;rfl)|((with_reducible apply bH);rfl;rfl;rfl;(first|decide|exact ah7 _);(first|rfl|assumption);rfl)|((with_reducible apply aX);rotate_left;rfl;rfl;rotate_right;assumption)|((with_reducible apply cG);rfl;rfl)|((with_reducible apply tZ);rfl;rfl)|((with_reducible apply Ce);rfl;rfl)|((with_reducible apply pE);rfl)|((with_reducible apply cd);rfl;rfl;(first|rfl|assumption);(first|rfl|exact aN _ _ _);rfl;rfl)|((with_reducible apply oj);rfl;rfl;rfl)|((with_reducible apply BE);rfl;rfl;rfl;rfl)|((with_reducible apply bc);rfl;rfl;rfl;omega)|((with_reducible apply JO);rfl;rfl;rfl;rfl;assumption)|((with_reducible apply ay);rfl;rfl;rfl;rfl)|((with_reducible apply aA);rotate_left;rfl;rfl;rotate_right;assumption)));exact k.of):P:=h ⟨k⟩
def TL.go(k:Q)(h:Hd Q->P:=by intro k;refine TL.gn ?_;(repeat ((with_reducible apply gZ);rfl;rfl;refine TL.gn ?_));exact k.of):P:=h ⟨k⟩
def TL.gl(k:Q)(h:Hd Q->P:=by intro k;refine TL.gn ?_;(repeat ((with_reducible apply gy);rfl;rfl;rfl;rfl;refine TL.gn ?_));exact k.of):P:=h ⟨k⟩
def TF.go(k:Q)(h:Hd Q->P:=by intro k;(repeat (first|((with_reducible apply e_);rfl;rfl;rfl;rfl)|((with_reducible apply iZ);rfl;rfl;rfl)|((with_reducible apply bO);rfl;rfl)|((with_reducible apply bG);rfl;rfl)|((with_reducible apply mY);rfl;rfl)|((with_reducible apply cm);rfl;rfl)|((with_reducible apply cF);rfl;rfl)|((with_reducible apply bW);rfl;rfl)|((with_reducible apply di);rfl;rfl;rfl)|((with_reducible apply cO);rfl;rfl;(first|rfl|assumption);rfl)|((with_reducible apply dj);rfl;rfl;(first|rfl|assumption);rfl)|((with_reducible apply dY);rfl;rfl;rfl)|((with_reducible apply jL);rfl;rfl;rfl)|((with_reducible apply cY);rfl;rfl;(first|rfl|assumption);rfl;rfl)|((with_reducible apply JP);rfl;rfl;rfl;rfl)|((with_reducible apply JQ);rfl;rfl;rfl;rfl)|((with_reducible apply pA);rfl;rfl;rfl)|((with_reducible apply HK);rfl;rfl)|((with_reducible apply dJ);rfl;rfl;rfl)|((with_reducible apply DV);rfl;rfl;rfl)|((with_reducible apply JL);rfl;rfl;rfl;assumption)|((with_reducible apply lY);rfl;rfl;rfl)|((with_reducible apply Cg);rfl;rfl;rfl)|((with_reducible apply Ch);rfl;rfl;rfl)|((with_reducible apply gW);rfl;rfl;(first|rfl|assumption);rfl;rfl)|((with_reducible apply cv);rfl;rfl;(first|rfl|assumption);(first|rfl|exact aN _ _ _);rfl;rfl)|((with_reducible apply cr);rfl;rfl;rfl;rfl;rfl;rfl;rfl;rfl)|((with_reducible apply tV);rfl;rfl;rfl;rfl;rfl)|((with_reducible apply bE);rfl;rfl;rfl;(first|decide|exact ah7 _);(first|rfl|assumption);rfl)|((with_reducible apply bm);rotate_left;rfl;rfl;rotate_right;assumption)|((with_reducible apply nF);rfl)|((with_reducible apply fC);rfl;rfl;(first|rfl|assumption);(first|rfl|exact aN _ _ _);rfl;rfl)|((with_reducible apply BF);rfl;rfl;rfl;rfl)|((with_reducible apply JR);rfl;rfl;rfl;rfl;assumption)|((with_reducible apply kV);rfl;rfl;rfl;rfl)|((with_reducible apply fD);rotate_left;rfl;rfl;rotate_right;assumption)|((with_reducible apply bB);rotate_left;rfl;rfl;rotate_right;assumption)));exact k.of):P:=h ⟨k⟩
def TL.al(h:P:=by refine TL.gl ?_;exact TL.nil W):P:=h
def TL.Me(k:Q)(h:Hd Q->P:=by intro k;refine TL.gl ?_;exact TL.nil k.of):P:=h ⟨k⟩
def TC.rL(k:Q)(h:Hd Q->TL X ops.toArray ops st (post .normal):=by intro k;refine TL.Me k.of):TC X (.region id ops.toArray false) st post:=TC.region (h ⟨k⟩)
def TL.au(h:P:=by refine TL.go ?_;exact TL.nil W):P:=h
def MX(k:Q)(h:Hd Q->P:=by intro k;refine TL.go ?_;exact TL.nil k.of):P:=h ⟨k⟩
def TF.au(h:P:=by refine TF.go ?_;exact TF.nil ⟨by kernel_rfl,rfl⟩):P:=h
def TF.Lg(k:Q)(h:Hd Q->P:=by intro k;refine TF.go ?_;exact TF.nil ⟨by kernel_rfl,k.of⟩):P:=h ⟨k⟩
def OZ(k:Q)(h:Hd Q->TL X ops.toArray ops st (post .normal):=by intro k;refine MX k.of):TC X (.region id ops.toArray false) st post:=TC.region (h ⟨k⟩)
section
variable{P:Program}{n B:Nat}{st:St}{post:Exit->St->Prop}{id:Nat}{ops:List Oper}{s:St}
def NI(k:post .normal s)(h:∀a b,TL ⟨P,n,a,b,[]⟩ ops.toArray ops st λa=>a=s:=by intro a b;exact TL.au):DC P n B (.region id ops.toArray false) st post:=Mn h k
def DC.rL(k:post .normal s)(h:∀a b,TL ⟨P,n,a,b,[]⟩ ops.toArray ops st λa=>a=s:=by intro a b;exact TL.al):DC P n B (.region id ops.toArray false) st post:=Mn h k
def DC.fX(k:post .normal s)(a:P.follows .mixedOrders=true:=by exact mixed)(h:∀a b,TF ⟨P,n,a,b,[]⟩ ops.toArray ops st λa b=>kU ops st.sl a=true/\b=s:=by intro b c;exact TF.au):DC P n B (.region id ops.toArray true) st post:=Mz a h k
end
def TC.fX(k:Q)(a:X.P.follows .mixedOrders=true:=by exact mixed)(h:Hd Q->TF X ops.toArray ops st (λa b=>kU ops st.sl a=true/\post .normal b):=by intro k;refine TF.Lg k.of):TC X (.region id ops.toArray true) st post:=OP a (h ⟨k⟩)
def Mo(k:Q)(h:Hd Q->P:=by intro k;(repeat refine DC.seq ?_);exact k.of):P:=h ⟨k⟩
def Mx(k:Q)(h:Hd Q->P:=by intro k;(repeat refine DC.seq ?_);refine NI ?_;exact k.of):P:=h ⟨k⟩
def O0(k:Q)(h:Hd Q->P:=by intro k;(repeat refine DC.seq ?_);refine DC.rL ?_;exact k.of):P:=h ⟨k⟩
def Pp(k:Q)(h:Hd Q->P:=by intro k;(repeat refine DC.seq ?_);refine DC.fX ?_;exact k.of):P:=h ⟨k⟩
def Ms(k:Q)(h:Hd Q->P:=by intro k;(repeat refine TC.seq ?_);exact k.of):P:=h ⟨k⟩
def MD(k:Q)(h:Hd Q->P:=by intro k;(repeat refine TC.seq ?_);refine OZ ?_;exact k.of):P:=h ⟨k⟩
def TC.sL(k:Q)(h:Hd Q->P:=by intro k;(repeat refine TC.seq ?_);refine TC.rL ?_;exact k.of):P:=h ⟨k⟩
def TC.sF(k:Q)(h:Hd Q->P:=by intro k;(repeat refine TC.seq ?_);refine TC.fX ?_;exact k.of):P:=h ⟨k⟩
end Go.Mt
namespace Go.Proofs
open Go.Mt
open Tryz
instance:bQ prog 3 1:=⟨by kernel_rfl⟩
instance:cI prog 3:=⟨by kernel_rfl⟩
instance:kh prog 3 .i64:=⟨by kernel_rfl⟩
instance:fk prog 3 (.int .i64 0):=⟨by kernel_rfl⟩
instance:bQ prog 4 1:=⟨by kernel_rfl⟩
instance:cI prog 4:=⟨by kernel_rfl⟩
instance:fk prog 4 (.bool false):=⟨by kernel_rfl⟩
instance:bQ prog 5 1:=⟨by kernel_rfl⟩
instance:cI prog 5:=⟨by kernel_rfl⟩
instance:kh prog 5 .u8:=⟨by kernel_rfl⟩
instance:bQ prog 9 1:=⟨by kernel_rfl⟩
instance:cI prog 9:=⟨by kernel_rfl⟩
instance:Bn prog 9:=⟨by kernel_rfl⟩
instance:jD prog 9 16:=⟨by kernel_rfl⟩
instance:fk prog 9 (.str ⟨#[]⟩):=⟨by kernel_rfl⟩
instance:bQ prog 21 1:=⟨by kernel_rfl⟩
instance:kh prog 21 .i32:=⟨by kernel_rfl⟩
instance:aU prog 22 5:=⟨by kernel_rfl⟩
instance:bQ prog 24 1:=⟨by kernel_rfl⟩
instance:cI prog 24:=⟨by kernel_rfl⟩
instance:aU prog 24 101:=⟨by kernel_rfl⟩
instance:fk prog 24 (.sl []):=⟨by kernel_rfl⟩
instance:bQ prog 25 1:=⟨by kernel_rfl⟩
instance:cI prog 25:=⟨by kernel_rfl⟩
instance:aU prog 25 36:=⟨by kernel_rfl⟩
instance:bQ prog 27 2:=⟨by kernel_rfl⟩
instance:dz prog 27 2:=⟨by kernel_rfl,by kernel_rfl⟩
instance:iY prog 27 [.d (.sl []),.d (.sl [])]:=⟨.agg [.sl [],.sl []],ci (by kernel_rfl),rfl⟩
instance:aL prog 27 0 0:=aC (by kernel_rfl)
instance:aL prog 27 1 1:=aC (by kernel_rfl)
instance:cE prog 27 [(0,1),(1,1)] [.sl [],.sl []]:=⟨by kernel_rfl,by kernel_rfl⟩
instance:bQ prog 29 1:=⟨by kernel_rfl⟩
instance:cI prog 29:=⟨by kernel_rfl⟩
instance:aU prog 29 110:=⟨by kernel_rfl⟩
instance:bQ prog 31 2:=⟨by kernel_rfl⟩
instance:dz prog 31 2:=⟨by kernel_rfl,by kernel_rfl⟩
instance:iY prog 31 [.d (.sl []),.d (.sl [])]:=⟨.agg [.sl [],.sl []],ci (by kernel_rfl),rfl⟩
instance:aL prog 31 0 0:=aC (by kernel_rfl)
instance:aL prog 31 1 1:=aC (by kernel_rfl)
instance:cE prog 31 [(0,1),(1,1)] [.sl [],.sl []]:=⟨by kernel_rfl,by kernel_rfl⟩
instance:bQ prog 33 1:=⟨by kernel_rfl⟩
instance:cI prog 33:=⟨by kernel_rfl⟩
instance:aU prog 33 55:=⟨by kernel_rfl⟩
instance:fk prog 33 (.sl []):=⟨by kernel_rfl⟩
instance:bQ prog 34 1:=⟨by kernel_rfl⟩
instance:cI prog 34:=⟨by kernel_rfl⟩
instance:aU prog 34 45:=⟨by kernel_rfl⟩
instance:bQ prog 36 5:=⟨by kernel_rfl⟩
instance:dz prog 36 5:=⟨by kernel_rfl,by kernel_rfl⟩
instance:jD prog 36 112:=⟨by kernel_rfl⟩
instance:fk prog 36 (.agg [.str ⟨#[]⟩,.sl [],.sl [],.sl [],.sl []]):=⟨by kernel_rfl⟩
instance:iY prog 36 [.d (.str ⟨#[]⟩),.d (.sl []),.d (.sl []),.d (.sl []),.d (.sl [])]:=⟨.agg [.str ⟨#[]⟩,.sl [],.sl [],.sl [],.sl []],ci (by kernel_rfl),rfl⟩
instance:aL prog 36 0 0:=aC (by kernel_rfl)
instance:aL prog 36 1 1:=aC (by kernel_rfl)
instance:aL prog 36 2 2:=aC (by kernel_rfl)
instance:aL prog 36 3 3:=aC (by kernel_rfl)
instance:aL prog 36 4 4:=aC (by kernel_rfl)
instance:cE prog 36 [(0,1),(1,1),(2,1),(3,1),(4,1)] [.str ⟨#[]⟩,.sl [],.sl [],.sl [],.sl []]:=⟨by kernel_rfl,by kernel_rfl⟩
instance:bQ prog 37 1:=⟨by kernel_rfl⟩
instance:cI prog 37:=⟨by kernel_rfl⟩
instance:aU prog 37 9:=⟨by kernel_rfl⟩
instance:fk prog 37 (.sl []):=⟨by kernel_rfl⟩
instance:iY prog 37 [.d (.sl [])]:=⟨.sl [],ci (by kernel_rfl),rfl⟩
instance:bQ prog 38 1:=⟨by kernel_rfl⟩
instance:cI prog 38:=⟨by kernel_rfl⟩
instance:aU prog 38 42:=⟨by kernel_rfl⟩
instance:dz prog 40 2:=⟨by kernel_rfl,by kernel_rfl⟩
instance:cE prog 40 [(0,1),(1,1)] [.int .i64 0,.int .i64 0]:=⟨by kernel_rfl,by kernel_rfl⟩
instance:bQ prog 42 8:=⟨by kernel_rfl⟩
instance:dz prog 42 8:=⟨by kernel_rfl,by kernel_rfl⟩
instance:jD prog 42 88:=⟨by kernel_rfl⟩
instance:fk prog 42 (.agg [.int .u8 0,.int .u8 0,.int .i32 0,.str ⟨#[]⟩,.sl [],.sl [],.int .i64 0,.int .i64 0]):=⟨by kernel_rfl⟩
instance:iY prog 42 [.d (.int .u8 0),.d (.int .u8 0),.d (.int .i32 0),.d (.str ⟨#[]⟩),.d (.sl []),.d (.sl []),.d (.int .i64 0),.d (.int .i64 0)]:=⟨.agg [.int .u8 0,.int .u8 0,.int .i32 0,.str ⟨#[]⟩,.sl [],.sl [],.int .i64 0,.int .i64 0],ci (by kernel_rfl),rfl⟩
instance:aL prog 42 0 0:=aC (by kernel_rfl)
instance:aL prog 42 1 1:=aC (by kernel_rfl)
instance:aL prog 42 3 3:=aC (by kernel_rfl)
instance:aL prog 42 4 4:=aC (by kernel_rfl)
instance:aL prog 42 5 5:=aC (by kernel_rfl)
instance:aL prog 42 6 6:=aC (by kernel_rfl)
instance:cE prog 42 [(0,1),(1,1),(2,1),(3,1),(4,1),(5,1),(6,2)] [.int .u8 0,.int .u8 0,.int .i32 0,.str ⟨#[]⟩,.sl [],.sl [],.int .i64 0,.int .i64 0]:=⟨by kernel_rfl,by kernel_rfl⟩
instance:bQ prog 43 1:=⟨by kernel_rfl⟩
instance:cI prog 43:=⟨by kernel_rfl⟩
instance:aU prog 43 67:=⟨by kernel_rfl⟩
instance:fk prog 43 (.sl []):=⟨by kernel_rfl⟩
instance:bQ prog 45 22:=⟨by kernel_rfl⟩
instance:dz prog 45 22:=⟨by kernel_rfl,by kernel_rfl⟩
instance:jD prog 45 296:=⟨by kernel_rfl⟩
instance:fk prog 45 (.agg [.int .u8 0,.sl [],.str ⟨#[]⟩,.int .u8 0,.int .u8 0,.int .i32 0,.str ⟨#[]⟩,.sl [],.sl [],.int .i64 0,.int .i64 0,.int .u8 0,.int .u8 0,.int .i32 0,.str ⟨#[]⟩,.sl [],.sl [],.int .i64 0,.int .i64 0,.sl [],.sl [],.sl []]):=⟨by kernel_rfl⟩
instance:iY prog 45 [.d (.int .u8 0),.d (.sl []),.d (.str ⟨#[]⟩),.d (.int .u8 0),.d (.int .u8 0),.d (.int .i32 0),.d (.str ⟨#[]⟩),.d (.sl []),.d (.sl []),.d (.int .i64 0),.d (.int .i64 0),.d (.int .u8 0),.d (.int .u8 0),.d (.int .i32 0),.d (.str ⟨#[]⟩),.d (.sl []),.d (.sl []),.d (.int .i64 0),.d (.int .i64 0),.d (.sl []),.d (.sl []),.d (.sl [])]:=⟨.agg [.int .u8 0,.sl [],.str ⟨#[]⟩,.int .u8 0,.int .u8 0,.int .i32 0,.str ⟨#[]⟩,.sl [],.sl [],.int .i64 0,.int .i64 0,.int .u8 0,.int .u8 0,.int .i32 0,.str ⟨#[]⟩,.sl [],.sl [],.int .i64 0,.int .i64 0,.sl [],.sl [],.sl []],ci (by kernel_rfl),rfl⟩
instance:aL prog 45 0 0:=aC (by kernel_rfl)
instance:aL prog 45 1 1:=aC (by kernel_rfl)
instance:aL prog 45 4 11:=aC (by kernel_rfl)
instance:aL prog 45 5 19:=aC (by kernel_rfl)
instance:aL prog 45 6 20:=aC (by kernel_rfl)
instance:aL prog 45 7 21:=aC (by kernel_rfl)
instance:cE prog 45 [(0,1),(1,1),(2,1),(3,8),(11,8),(19,1),(20,1),(21,1)] [.int .u8 0,.sl [],.str ⟨#[]⟩,.int .u8 0,.int .u8 0,.int .i32 0,.str ⟨#[]⟩,.sl [],.sl [],.int .i64 0,.int .i64 0,.int .u8 0,.int .u8 0,.int .i32 0,.str ⟨#[]⟩,.sl [],.sl [],.int .i64 0,.int .i64 0,.sl [],.sl [],.sl []]:=⟨by kernel_rfl,by kernel_rfl⟩
instance:bQ prog 53 2:=⟨by kernel_rfl⟩
instance:dz prog 53 2:=⟨by kernel_rfl,by kernel_rfl⟩
instance:jD prog 53 24:=⟨by kernel_rfl⟩
instance:fk prog 53 (.agg [.int .u8 0,.str ⟨#[]⟩]):=⟨by kernel_rfl⟩
instance:iY prog 53 [.d (.int .u8 0),.d (.str ⟨#[]⟩)]:=⟨.agg [.int .u8 0,.str ⟨#[]⟩],ci (by kernel_rfl),rfl⟩
instance:aL prog 53 0 0:=aC (by kernel_rfl)
instance:aL prog 53 1 1:=aC (by kernel_rfl)
instance:cE prog 53 [(0,1),(1,1)] [.int .u8 0,.str ⟨#[]⟩]:=⟨by kernel_rfl,by kernel_rfl⟩
instance:bQ prog 55 15:=⟨by kernel_rfl⟩
instance:dz prog 55 15:=⟨by kernel_rfl,by kernel_rfl⟩
instance:jD prog 55 176:=⟨by kernel_rfl⟩
instance:fk prog 55 (.agg [.str ⟨#[]⟩,.int .u8 0,.str ⟨#[]⟩,.sl [],.bool false,.int .u8 0,.int .u8 0,.int .i32 0,.str ⟨#[]⟩,.sl [],.sl [],.int .i64 0,.int .i64 0,.int .i64 0,.int .i64 0]):=⟨by kernel_rfl⟩
instance:iY prog 55 [.d (.str ⟨#[]⟩),.d (.int .u8 0),.d (.str ⟨#[]⟩),.d (.sl []),.d (.bool false),.d (.int .u8 0),.d (.int .u8 0),.d (.int .i32 0),.d (.str ⟨#[]⟩),.d (.sl []),.d (.sl []),.d (.int .i64 0),.d (.int .i64 0),.d (.int .i64 0),.d (.int .i64 0)]:=⟨.agg [.str ⟨#[]⟩,.int .u8 0,.str ⟨#[]⟩,.sl [],.bool false,.int .u8 0,.int .u8 0,.int .i32 0,.str ⟨#[]⟩,.sl [],.sl [],.int .i64 0,.int .i64 0,.int .i64 0,.int .i64 0],ci (by kernel_rfl),rfl⟩
instance:aL prog 55 0 0:=aC (by kernel_rfl)
instance:aL prog 55 1 1:=aC (by kernel_rfl)
instance:aL prog 55 2 3:=aC (by kernel_rfl)
instance:aL prog 55 3 4:=aC (by kernel_rfl)
instance:aL prog 55 4 5:=aC (by kernel_rfl)
instance:aL prog 55 5 13:=aC (by kernel_rfl)
instance:cE prog 55 [(0,1),(1,2),(3,1),(4,1),(5,8),(13,2)] [.str ⟨#[]⟩,.int .u8 0,.str ⟨#[]⟩,.sl [],.bool false,.int .u8 0,.int .u8 0,.int .i32 0,.str ⟨#[]⟩,.sl [],.sl [],.int .i64 0,.int .i64 0,.int .i64 0,.int .i64 0]:=⟨by kernel_rfl,by kernel_rfl⟩
instance:bQ prog 67 2:=⟨by kernel_rfl⟩
instance:dz prog 67 2:=⟨by kernel_rfl,by kernel_rfl⟩
instance:jD prog 67 32:=⟨by kernel_rfl⟩
instance:fk prog 67 (.agg [.str ⟨#[]⟩,.str ⟨#[]⟩]):=⟨by kernel_rfl⟩
instance:iY prog 67 [.d (.str ⟨#[]⟩),.d (.str ⟨#[]⟩)]:=⟨.agg [.str ⟨#[]⟩,.str ⟨#[]⟩],ci (by kernel_rfl),rfl⟩
instance:aL prog 67 0 0:=aC (by kernel_rfl)
instance:aL prog 67 1 1:=aC (by kernel_rfl)
instance:cE prog 67 [(0,1),(1,1)] [.str ⟨#[]⟩,.str ⟨#[]⟩]:=⟨by kernel_rfl,by kernel_rfl⟩
instance:aU prog 76 21:=⟨by kernel_rfl⟩
instance:cI prog 97:=⟨by kernel_rfl⟩
instance:bQ prog 101 4:=⟨by kernel_rfl⟩
instance:dz prog 101 4:=⟨by kernel_rfl,by kernel_rfl⟩
instance:jD prog 101 56:=⟨by kernel_rfl⟩
instance:fk prog 101 (.agg [.str ⟨#[]⟩,.sl [],.int .i64 0,.int .i64 0]):=⟨by kernel_rfl⟩
instance:iY prog 101 [.d (.str ⟨#[]⟩),.d (.sl []),.d (.int .i64 0),.d (.int .i64 0)]:=⟨.agg [.str ⟨#[]⟩,.sl [],.int .i64 0,.int .i64 0],ci (by kernel_rfl),rfl⟩
instance:aL prog 101 0 0:=aC (by kernel_rfl)
instance:aL prog 101 1 1:=aC (by kernel_rfl)
instance:cE prog 101 [(0,1),(1,1),(2,2)] [.str ⟨#[]⟩,.sl [],.int .i64 0,.int .i64 0]:=⟨by kernel_rfl,by kernel_rfl⟩
instance:cE prog 105 [(0,1),(1,1),(2,1),(3,1),(4,1)] [.oe,.int .i64 0,.int .i64 0,.int .i64 0,.bool false]:=⟨by kernel_rfl,by kernel_rfl⟩
instance:bQ prog 106 1:=⟨by kernel_rfl⟩
instance:cI prog 106:=⟨by kernel_rfl⟩
instance:aU prog 106 149:=⟨by kernel_rfl⟩
instance:bQ prog 108 2:=⟨by kernel_rfl⟩
instance:dz prog 108 2:=⟨by kernel_rfl,by kernel_rfl⟩
instance:iY prog 108 [.d (.sl []),.d (.sl [])]:=⟨.agg [.sl [],.sl []],ci (by kernel_rfl),rfl⟩
instance:aL prog 108 0 0:=aC (by kernel_rfl)
instance:aL prog 108 1 1:=aC (by kernel_rfl)
instance:cE prog 108 [(0,1),(1,1)] [.sl [],.sl []]:=⟨by kernel_rfl,by kernel_rfl⟩
instance:bQ prog 110 7:=⟨by kernel_rfl⟩
instance:dz prog 110 7:=⟨by kernel_rfl,by kernel_rfl⟩
instance:jD prog 110 128:=⟨by kernel_rfl⟩
instance:fk prog 110 (.agg [.str ⟨#[]⟩,.sl [],.sl [],.sl [],.sl [],.int .i64 0,.int .i64 0]):=⟨by kernel_rfl⟩
instance:iY prog 110 [.d (.str ⟨#[]⟩),.d (.sl []),.d (.sl []),.d (.sl []),.d (.sl []),.d (.int .i64 0),.d (.int .i64 0)]:=⟨.agg [.str ⟨#[]⟩,.sl [],.sl [],.sl [],.sl [],.int .i64 0,.int .i64 0],ci (by kernel_rfl),rfl⟩
instance:aL prog 110 0 0:=aC (by kernel_rfl)
instance:aL prog 110 1 1:=aC (by kernel_rfl)
instance:aL prog 110 2 2:=aC (by kernel_rfl)
instance:aL prog 110 3 3:=aC (by kernel_rfl)
instance:aL prog 110 4 5:=aC (by kernel_rfl)
instance:cE prog 110 [(0,1),(1,1),(2,1),(3,2),(5,2)] [.str ⟨#[]⟩,.sl [],.sl [],.sl [],.sl [],.int .i64 0,.int .i64 0]:=⟨by kernel_rfl,by kernel_rfl⟩
instance:cI prog 113:=⟨by kernel_rfl⟩
instance:ie prog 113 53:=⟨⟨9,by kernel_rfl,by kernel_rfl⟩⟩
instance:aL prog 115 0 0:=aC (by kernel_rfl)
instance:aL prog 115 1 1:=aC (by kernel_rfl)
instance:aL prog 115 2 6:=aC (by kernel_rfl)
instance:aL prog 115 3 7:=aC (by kernel_rfl)
instance:cE prog 115 [(0,1),(1,5),(6,1),(7,1)] [.sl [],.str ⟨#[]⟩,.sl [],.sl [],.sl [],.sl [],.jA,.int .i64 0]:=⟨by kernel_rfl,by kernel_rfl⟩
instance:cI prog 119:=⟨by kernel_rfl⟩
instance:ie prog 119 43:=⟨⟨9,by kernel_rfl,by kernel_rfl⟩⟩
instance:bQ prog 120 1:=⟨by kernel_rfl⟩
instance:cI prog 120:=⟨by kernel_rfl⟩
instance:ie prog 120 4:=⟨⟨9,by kernel_rfl,by kernel_rfl⟩⟩
instance:iY prog 120 [.d (.jA)]:=⟨.jA,ci (by kernel_rfl),rfl⟩
instance:ie prog 133 9:=⟨⟨9,by kernel_rfl,by kernel_rfl⟩⟩
instance:ie prog 140 3:=⟨⟨9,by kernel_rfl,by kernel_rfl⟩⟩
instance:bQ prog 147 1:=⟨by kernel_rfl⟩
instance:cI prog 147:=⟨by kernel_rfl⟩
instance:aU prog 147 152:=⟨by kernel_rfl⟩
instance:bQ prog 149 16:=⟨by kernel_rfl⟩
instance:dz prog 149 16:=⟨by kernel_rfl,by kernel_rfl⟩
instance:jD prog 149 208:=⟨by kernel_rfl⟩
instance:fk prog 149 (.agg [.int .u8 0,.sl [],.str ⟨#[]⟩,.sl [],.bool false,.int .u8 0,.int .u8 0,.int .i32 0,.str ⟨#[]⟩,.sl [],.sl [],.int .i64 0,.int .i64 0,.sl [],.int .i64 0,.int .i64 0]):=⟨by kernel_rfl⟩
instance:iY prog 149 [.d (.int .u8 0),.d (.sl []),.d (.str ⟨#[]⟩),.d (.sl []),.d (.bool false),.d (.int .u8 0),.d (.int .u8 0),.d (.int .i32 0),.d (.str ⟨#[]⟩),.d (.sl []),.d (.sl []),.d (.int .i64 0),.d (.int .i64 0),.d (.sl []),.d (.int .i64 0),.d (.int .i64 0)]:=⟨.agg [.int .u8 0,.sl [],.str ⟨#[]⟩,.sl [],.bool false,.int .u8 0,.int .u8 0,.int .i32 0,.str ⟨#[]⟩,.sl [],.sl [],.int .i64 0,.int .i64 0,.sl [],.int .i64 0,.int .i64 0],ci (by kernel_rfl),rfl⟩
instance:aL prog 149 0 0:=aC (by kernel_rfl)
instance:aL prog 149 1 1:=aC (by kernel_rfl)
instance:aL prog 149 2 2:=aC (by kernel_rfl)
instance:aL prog 149 3 3:=aC (by kernel_rfl)
instance:aL prog 149 4 4:=aC (by kernel_rfl)
instance:aL prog 149 5 5:=aC (by kernel_rfl)
instance:aL prog 149 6 13:=aC (by kernel_rfl)
instance:aL prog 149 7 14:=aC (by kernel_rfl)
instance:cE prog 149 [(0,1),(1,1),(2,1),(3,1),(4,1),(5,8),(13,1),(14,2)] [.int .u8 0,.sl [],.str ⟨#[]⟩,.sl [],.bool false,.int .u8 0,.int .u8 0,.int .i32 0,.str ⟨#[]⟩,.sl [],.sl [],.int .i64 0,.int .i64 0,.sl [],.int .i64 0,.int .i64 0]:=⟨by kernel_rfl,by kernel_rfl⟩
instance:cI prog 150:=⟨by kernel_rfl⟩
instance:aU prog 150 324:=⟨by kernel_rfl⟩
instance:bQ prog 152 7:=⟨by kernel_rfl⟩
instance:dz prog 152 7:=⟨by kernel_rfl,by kernel_rfl⟩
instance:jD prog 152 128:=⟨by kernel_rfl⟩
instance:fk prog 152 (.agg [.str ⟨#[]⟩,.sl [],.sl [],.sl [],.sl [],.int .i64 0,.int .i64 0]):=⟨by kernel_rfl⟩
instance:iY prog 152 [.d (.str ⟨#[]⟩),.d (.sl []),.d (.sl []),.d (.sl []),.d (.sl []),.d (.int .i64 0),.d (.int .i64 0)]:=⟨.agg [.str ⟨#[]⟩,.sl [],.sl [],.sl [],.sl [],.int .i64 0,.int .i64 0],ci (by kernel_rfl),rfl⟩
instance:aL prog 152 0 0:=aC (by kernel_rfl)
instance:aL prog 152 1 1:=aC (by kernel_rfl)
instance:aL prog 152 2 3:=aC (by kernel_rfl)
instance:aL prog 152 3 4:=aC (by kernel_rfl)
instance:aL prog 152 4 5:=aC (by kernel_rfl)
instance:cE prog 152 [(0,1),(1,2),(3,1),(4,1),(5,2)] [.str ⟨#[]⟩,.sl [],.sl [],.sl [],.sl [],.int .i64 0,.int .i64 0]:=⟨by kernel_rfl,by kernel_rfl⟩
instance:aL prog 188 0 0:=aC (by kernel_rfl)
instance:aL prog 188 1 1:=aC (by kernel_rfl)
instance:cE prog 188 [(0,1),(1,1)] [.sl [],.int .i64 0]:=⟨by kernel_rfl,by kernel_rfl⟩
instance:bQ prog 194 3:=⟨by kernel_rfl⟩
instance:dz prog 194 3:=⟨by kernel_rfl,by kernel_rfl⟩
instance:aU prog 196 33:=⟨by kernel_rfl⟩
instance:aU prog 207 37:=⟨by kernel_rfl⟩
instance:aL prog 252 0 0:=aC (by kernel_rfl)
instance:aL prog 252 1 2:=aC (by kernel_rfl)
instance:aL prog 252 2 7:=aC (by kernel_rfl)
instance:aL prog 252 3 8:=aC (by kernel_rfl)
instance:cE prog 252 [(0,2),(2,5),(7,1),(8,1)] [.sl [],.sl [],.str ⟨#[]⟩,.sl [],.sl [],.sl [],.sl [],.jA,.int .i64 0]:=⟨by kernel_rfl,by kernel_rfl⟩
instance:aL prog 256 0 0:=aC (by kernel_rfl)
instance:aL prog 256 1 2:=aC (by kernel_rfl)
instance:aL prog 256 2 3:=aC (by kernel_rfl)
instance:cE prog 256 [(0,2),(2,1),(3,1)] [.sl [],.sl [],.sl [],.int .i64 0]:=⟨by kernel_rfl,by kernel_rfl⟩
instance:cI prog 257:=⟨by kernel_rfl⟩
instance:ie prog 257 261:=⟨⟨9,by kernel_rfl,by kernel_rfl⟩⟩
instance:bQ prog 259 3:=⟨by kernel_rfl⟩
instance:dz prog 259 3:=⟨by kernel_rfl,by kernel_rfl⟩
instance:iY prog 259 [.d (.jA),.d (.jA),.d (.sl [])]:=⟨.agg [.jA,.jA,.sl []],ci (by kernel_rfl),rfl⟩
instance:aL prog 259 0 0:=aC (by kernel_rfl)
instance:aL prog 259 1 1:=aC (by kernel_rfl)
instance:aL prog 259 2 2:=aC (by kernel_rfl)
instance:cE prog 259 [(0,1),(1,1),(2,1)] [.jA,.jA,.sl []]:=⟨by kernel_rfl,by kernel_rfl⟩
instance:bQ prog 261 4:=⟨by kernel_rfl⟩
instance:dz prog 261 4:=⟨by kernel_rfl,by kernel_rfl⟩
instance:fk prog 261 (.agg [.str ⟨#[]⟩,.int .i64 0,.int .u8 0,.str ⟨#[]⟩]):=⟨by kernel_rfl⟩
instance:iY prog 261 [.d (.str ⟨#[]⟩),.d (.int .i64 0),.d (.int .u8 0),.d (.str ⟨#[]⟩)]:=⟨.agg [.str ⟨#[]⟩,.int .i64 0,.int .u8 0,.str ⟨#[]⟩],ci (by kernel_rfl),rfl⟩
instance:aL prog 261 0 0:=aC (by kernel_rfl)
instance:aL prog 261 1 1:=aC (by kernel_rfl)
instance:aL prog 261 2 2:=aC (by kernel_rfl)
instance:cE prog 261 [(0,1),(1,1),(2,2)] [.str ⟨#[]⟩,.int .i64 0,.int .u8 0,.str ⟨#[]⟩]:=⟨by kernel_rfl,by kernel_rfl⟩
instance:aU prog 266 24:=⟨by kernel_rfl⟩
instance:bQ prog 310 7:=⟨by kernel_rfl⟩
instance:dz prog 310 7:=⟨by kernel_rfl,by kernel_rfl⟩
instance:iY prog 310 [.d (.str ⟨#[]⟩),.d (.str ⟨#[]⟩),.d (.str ⟨#[]⟩),.d (.str ⟨#[]⟩),.d (.str ⟨#[]⟩),.d (.str ⟨#[]⟩),.d (.str ⟨#[]⟩)]:=⟨.agg [.str ⟨#[]⟩,.str ⟨#[]⟩,.str ⟨#[]⟩,.str ⟨#[]⟩,.str ⟨#[]⟩,.str ⟨#[]⟩,.str ⟨#[]⟩],ci (by kernel_rfl),rfl⟩
instance:aL prog 310 0 0:=aC (by kernel_rfl)
instance:aL prog 310 1 1:=aC (by kernel_rfl)
instance:aL prog 310 2 2:=aC (by kernel_rfl)
instance:aL prog 310 3 3:=aC (by kernel_rfl)
instance:aL prog 310 4 4:=aC (by kernel_rfl)
instance:aL prog 310 5 5:=aC (by kernel_rfl)
instance:aL prog 310 6 6:=aC (by kernel_rfl)
instance:cE prog 310 [(0,1),(1,1),(2,1),(3,1),(4,1),(5,1),(6,1)] [.str ⟨#[]⟩,.str ⟨#[]⟩,.str ⟨#[]⟩,.str ⟨#[]⟩,.str ⟨#[]⟩,.str ⟨#[]⟩,.str ⟨#[]⟩]:=⟨by kernel_rfl,by kernel_rfl⟩
instance:fk prog 311 (.agg [.str ⟨#[]⟩,.str ⟨#[]⟩,.str ⟨#[]⟩]):=⟨by kernel_rfl⟩
instance:bQ prog 324 12:=⟨by kernel_rfl⟩
instance:dz prog 324 12:=⟨by kernel_rfl,by kernel_rfl⟩
instance:jD prog 324 128:=⟨by kernel_rfl⟩
instance:fk prog 324 (.agg [.int .u8 0,.int .u8 0,.int .i32 0,.str ⟨#[]⟩,.sl [],.sl [],.int .i64 0,.int .i64 0,.str ⟨#[]⟩,.bool false,.int .i64 0,.int .i64 0]):=⟨by kernel_rfl⟩
instance:iY prog 324 [.d (.int .u8 0),.d (.int .u8 0),.d (.int .i32 0),.d (.str ⟨#[]⟩),.d (.sl []),.d (.sl []),.d (.int .i64 0),.d (.int .i64 0),.d (.str ⟨#[]⟩),.d (.bool false),.d (.int .i64 0),.d (.int .i64 0)]:=⟨.agg [.int .u8 0,.int .u8 0,.int .i32 0,.str ⟨#[]⟩,.sl [],.sl [],.int .i64 0,.int .i64 0,.str ⟨#[]⟩,.bool false,.int .i64 0,.int .i64 0],ci (by kernel_rfl),rfl⟩
instance:aL prog 324 0 0:=aC (by kernel_rfl)
instance:aL prog 324 1 8:=aC (by kernel_rfl)
instance:aL prog 324 2 9:=aC (by kernel_rfl)
instance:aL prog 324 3 10:=aC (by kernel_rfl)
instance:aU prog 343 43:=⟨by kernel_rfl⟩
instance:bQ prog 382 1:=⟨by kernel_rfl⟩
instance:iY prog 382 [.d (.mH)]:=⟨.mH,ci (by kernel_rfl),rfl⟩
instance:aL prog 392 0 0:=aC (by kernel_rfl)
instance:cE prog 392 [(0,2)] [.sl [],.sl []]:=⟨by kernel_rfl,by kernel_rfl⟩
instance:aU prog 396 53:=⟨by kernel_rfl⟩
instance:aW prog 17:=⟨λargs w=>call17 args w⟩
instance:aW prog 19:=⟨λargs w=>call19 args w⟩
instance:aW prog 20:=⟨λargs w=>call20 args w⟩
instance:aW prog 26:=⟨λargs w=>call26 args w⟩
instance:aW prog 28:=⟨λargs w=>call28 args w⟩
instance:aW prog 29:=⟨λargs w=>call29 args w⟩
instance:aW prog 30:=⟨λargs w=>call30 args w⟩
instance:aW prog 31:=⟨λargs w=>call31 args w⟩
instance:aW prog 32:=⟨λargs w=>call32 args w⟩
instance:aW prog 33:=⟨λargs w=>call33 args w⟩
instance:aW prog 34:=⟨λargs w=>call34 args w⟩
instance:aW prog 35:=⟨λargs w=>call35 args w⟩
instance:aW prog 36:=⟨λargs w=>call36 args w⟩
instance:aW prog 55:=⟨λargs w=>call55 args w⟩
instance:aW prog 56:=⟨λargs w=>call56 args w⟩
instance:aW prog 57:=⟨λargs w=>call57 args w⟩
instance:aW prog 60:=⟨λargs w=>call60 args w⟩
instance:aW prog 61:=⟨λargs w=>call61 args w⟩
instance:aW prog 62:=⟨λargs w=>call62 args w⟩
instance:aW prog 64:=⟨λargs w=>call64 args w⟩
instance:aW prog 72:=⟨λargs w=>call72 args w⟩
instance:aW prog 73:=⟨λargs w=>call73 args w⟩
instance:aW prog 74:=⟨λargs w=>call74 args w⟩
instance:aW prog 75:=⟨λargs w=>call75 args w⟩
instance:aW prog 76:=⟨λargs w=>call76 args w⟩
instance:aW prog 77:=⟨λargs w=>call77 args w⟩
instance:aW prog 78:=⟨λargs w=>call78 args w⟩
instance:aW prog 79:=⟨λargs w=>call79 args w⟩
instance:aW prog 80:=⟨λargs w=>call80 args w⟩
instance:aW prog 81:=⟨λargs w=>call81 args w⟩
instance:aW prog 82:=⟨λargs w=>call82 args w⟩
instance:aW prog 83:=⟨λargs w=>call83 args w⟩
instance:aW prog 84:=⟨λargs w=>call84 args w⟩
instance:aW prog 85:=⟨λargs w=>call85 args w⟩
instance:aW prog 86:=⟨λargs w=>call86 args w⟩
instance:aW prog 87:=⟨λargs w=>call87 args w⟩
instance:aW prog 88:=⟨λargs w=>call88 args w⟩
instance:aW prog 90:=⟨λargs w=>call90 args w⟩
instance:aW prog 108:=⟨λargs w=>call108 args w⟩
instance:aW prog 109:=⟨λargs w=>call109 args w⟩
instance:aW prog 110:=⟨λargs w=>call110 args w⟩
instance:aW prog 111:=⟨λargs w=>call111 args w⟩
instance:aW prog 112:=⟨λargs w=>call112 args w⟩
instance:aW prog 113:=⟨λargs w=>call113 args w⟩
instance:aW prog 118:=⟨λargs w=>call118 args w⟩
instance:aW prog 119:=⟨λargs w=>call119 args w⟩
instance:aW prog 120:=⟨λargs w=>call120 args w⟩
instance:aW prog 121:=⟨λargs w=>call121 args w⟩
instance:aW prog 122:=⟨λargs w=>call122 args w⟩
instance:aW prog 124:=⟨λargs w=>call124 args w⟩
instance:aW prog 125:=⟨λargs w=>call125 args w⟩
instance:aW prog 126:=⟨λargs w=>call126 args w⟩
instance:aW prog 127:=⟨λargs w=>call127 args w⟩
instance:aW prog 128:=⟨λargs w=>call128 args w⟩
instance:aW prog 129:=⟨λargs w=>call129 args w⟩
instance:aW prog 130:=⟨λargs w=>call130 args w⟩
instance:aW prog 131:=⟨λargs w=>call131 args w⟩
instance:aW prog 132:=⟨λargs w=>call132 args w⟩
instance:aW prog 137:=⟨λargs w=>call137 args w⟩
instance:aW prog 141:=⟨λargs w=>call141 args w⟩
instance:aW prog 142:=⟨λargs w=>call142 args w⟩
instance:aW prog 159:=⟨λargs w=>call159 args w⟩
instance:aW prog 160:=⟨λargs w=>call160 args w⟩
instance:aW prog 161:=⟨λargs w=>call161 args w⟩
instance:aW prog 162:=⟨λargs w=>call162 args w⟩
instance:aW prog 163:=⟨λargs w=>call163 args w⟩
instance:aW prog 164:=⟨λargs w=>call164 args w⟩
instance:aW prog 165:=⟨λargs w=>call165 args w⟩
instance:aW prog 171:=⟨λargs w=>call171 args w⟩
instance:aW prog 172:=⟨λargs w=>call172 args w⟩
instance:aW prog 173:=⟨λargs w=>call173 args w⟩
instance:aW prog 174:=⟨λargs w=>call174 args w⟩
instance:aW prog 175:=⟨λargs w=>call175 args w⟩
instance:aW prog 176:=⟨λargs w=>call176 args w⟩
instance:aW prog 177:=⟨λargs w=>call177 args w⟩
instance:aW prog 178:=⟨λargs w=>call178 args w⟩
instance:aW prog 179:=⟨λargs w=>call179 args w⟩
instance:aW prog 180:=⟨λargs w=>call180 args w⟩
instance:aW prog 182:=⟨λargs w=>call182 args w⟩
instance:aW prog 187:=⟨λargs w=>call187 args w⟩
instance:aW prog 205:=⟨λargs w=>call205 args w⟩
instance:aW prog 206:=⟨λargs w=>call206 args w⟩
instance:aW prog 207:=⟨λargs w=>call207 args w⟩
instance:aW prog 208:=⟨λargs w=>call208 args w⟩
instance:aW prog 209:=⟨λargs w=>call209 args w⟩
instance:aW prog 210:=⟨λargs w=>call210 args w⟩
instance:aW prog 211:=⟨λargs w=>call211 args w⟩
instance:aW prog 213:=⟨λargs w=>call213 args w⟩
instance:aW prog 214:=⟨λargs w=>call214 args w⟩
instance:aW prog 215:=⟨λargs w=>call215 args w⟩
instance:aW prog 216:=⟨λargs w=>call216 args w⟩
instance:aW prog 217:=⟨λargs w=>call217 args w⟩
instance:aW prog 218:=⟨λargs w=>call218 args w⟩
instance:aW prog 219:=⟨λargs w=>call219 args w⟩
instance:aW prog 220:=⟨λargs w=>call220 args w⟩
instance:aW prog 226:=⟨λargs w=>call226 args w⟩
instance:aW prog 229:=⟨λargs w=>call229 args w⟩
instance:aW prog 251:=⟨λargs w=>call251 args w⟩
instance:aW prog 252:=⟨λargs w=>call252 args w⟩
instance:aW prog 253:=⟨λargs w=>call253 args w⟩
instance:aW prog 255:=⟨λargs w=>call255 args w⟩
instance:aW prog 256:=⟨λargs w=>call256 args w⟩
instance:aW prog 257:=⟨λargs w=>call257 args w⟩
instance:aW prog 258:=⟨λargs w=>call258 args w⟩
instance:aW prog 259:=⟨λargs w=>call259 args w⟩
instance:aW prog 260:=⟨λargs w=>call260 args w⟩
instance:aW prog 268:=⟨λargs w=>call268 args w⟩
instance:aW prog 288:=⟨λargs w=>call288 args w⟩
instance:aW prog 290:=⟨λargs w=>call290 args w⟩
instance:aW prog 291:=⟨λargs w=>call291 args w⟩
instance:aW prog 292:=⟨λargs w=>call292 args w⟩
instance:aW prog 293:=⟨λargs w=>call293 args w⟩
instance:aW prog 307:=⟨λargs w=>call307 args w⟩
instance:aW prog 313:=⟨λargs w=>call313 args w⟩
instance:aW prog 317:=⟨λargs w=>call317 args w⟩
instance:aW prog 318:=⟨λargs w=>call318 args w⟩
variable{os:Array Oper}{es:List Ef}{q:List Ef->St->Prop}
def LK:List (Nat×TI):=[
 (3,⟨some 1,some false,some (.int .i64 0),none,some .i64,none⟩),
 (194,⟨some 3,some true,some (.agg [.sl [],.sl [],.sl []]),none,none,some [(0,1),(1,1),(2,1)]⟩),
 (42,⟨some 8,some true,some (.agg [.int .u8 0,.int .u8 0,.int .i32 0,.str ⟨#[]⟩,.sl [],.sl [],.int .i64 0,.int .i64 0]),none,none,some [(0,1),(1,1),(2,1),(3,1),(4,1),(5,1),(6,2)]⟩),
 (33,⟨some 1,some false,some (.sl []),some 55,none,none⟩),
 (55,⟨some 15,some true,some (.agg [.str ⟨#[]⟩,.int .u8 0,.str ⟨#[]⟩,.sl [],.bool false,.int .u8 0,.int .u8 0,.int .i32 0,.str ⟨#[]⟩,.sl [],.sl [],.int .i64 0,.int .i64 0,.int .i64 0,.int .i64 0]),none,none,some [(0,1),(1,2),(3,1),(4,1),(5,8),(13,2)]⟩),
 (53,⟨some 2,some true,some (.agg [.int .u8 0,.str ⟨#[]⟩]),none,none,some [(0,1),(1,1)]⟩),
 (149,⟨some 16,some true,some (.agg [.int .u8 0,.sl [],.str ⟨#[]⟩,.sl [],.bool false,.int .u8 0,.int .u8 0,.int .i32 0,.str ⟨#[]⟩,.sl [],.sl [],.int .i64 0,.int .i64 0,.sl [],.int .i64 0,.int .i64 0]),none,none,some [(0,1),(1,1),(2,1),(3,1),(4,1),(5,8),(13,1),(14,2)]⟩),
 (105,⟨some 5,some true,some (.agg [.oe,.int .i64 0,.int .i64 0,.int .i64 0,.bool false]),none,none,some [(0,1),(1,1),(2,1),(3,1),(4,1)]⟩),
 (9,⟨some 1,some false,some (.str ⟨#[]⟩),none,none,none⟩),
 (97,⟨some 1,some false,some (.oe),none,none,none⟩),
 (37,⟨some 1,some false,some (.sl []),some 9,none,none⟩),
 (108,⟨some 2,some true,some (.agg [.sl [],.sl []]),none,none,some [(0,1),(1,1)]⟩),
 (110,⟨some 7,some true,some (.agg [.str ⟨#[]⟩,.sl [],.sl [],.sl [],.sl [],.int .i64 0,.int .i64 0]),none,none,some [(0,1),(1,1),(2,1),(3,2),(5,2)]⟩),
 (38,⟨some 1,some false,some (.sl []),some 42,none,none⟩),
 (152,⟨some 7,some true,some (.agg [.str ⟨#[]⟩,.sl [],.sl [],.sl [],.sl [],.int .i64 0,.int .i64 0]),none,none,some [(0,1),(1,2),(3,1),(4,1),(5,2)]⟩),
 (5,⟨some 1,some false,some (.int .u8 0),none,some .u8,none⟩),
 (22,⟨some 1,some false,some (.sl []),some 5,none,none⟩),
 (106,⟨some 1,some false,some (.sl []),some 149,none,none⟩),
 (99,⟨some 2,some true,some (.agg [.sl [],.int .i64 0]),none,none,some [(0,1),(1,1)]⟩),
 (147,⟨some 1,some false,some (.sl []),some 152,none,none⟩),
 (31,⟨some 2,some true,some (.agg [.sl [],.sl []]),none,none,some [(0,1),(1,1)]⟩),
 (4,⟨some 1,some false,some (.bool false),none,none,none⟩),
 (150,⟨some 1,some false,some (.sl []),some 324,none,none⟩),
 (29,⟨some 1,some false,some (.sl []),some 110,none,none⟩),
 (43,⟨some 1,some false,some (.sl []),some 67,none,none⟩),
 (76,⟨some 1,some false,some (.sl []),some 21,none,none⟩),
 (101,⟨some 4,some true,some (.agg [.str ⟨#[]⟩,.sl [],.int .i64 0,.int .i64 0]),none,none,some [(0,1),(1,1),(2,2)]⟩),
 (67,⟨some 2,some true,some (.agg [.str ⟨#[]⟩,.str ⟨#[]⟩]),none,none,some [(0,1),(1,1)]⟩),
 (324,⟨some 12,some true,some (.agg [.int .u8 0,.int .u8 0,.int .i32 0,.str ⟨#[]⟩,.sl [],.sl [],.int .i64 0,.int .i64 0,.str ⟨#[]⟩,.bool false,.int .i64 0,.int .i64 0]),none,none,some [(0,8),(8,1),(9,1),(10,2)]⟩),
 (21,⟨some 1,some false,some (.int .i32 0),none,some .i32,none⟩),
 (24,⟨some 1,some false,some (.sl []),some 101,none,none⟩),
 (36,⟨some 5,some true,some (.agg [.str ⟨#[]⟩,.sl [],.sl [],.sl [],.sl []]),none,none,some [(0,1),(1,1),(2,1),(3,1),(4,1)]⟩),
 (91,⟨some 1,some false,some (.sl []),some 3,none,none⟩),
 (343,⟨some 1,some false,some (.sl []),some 43,none,none⟩),
 (1,⟨some 1,some false,some (.xH),none,none,none⟩),
 (88,⟨some 1,some false,some (.sl []),some 91,none,none⟩),
 (196,⟨some 1,some false,some (.sl []),some 33,none,none⟩),
 (169,⟨some 1,some false,some (.sl []),some 165,none,none⟩),
 (231,⟨some 1,some false,some (.oe),none,none,none⟩),
 (154,⟨some 1,some false,some (.oe),none,none,none⟩),
 (207,⟨some 1,some false,some (.sl []),some 37,none,none⟩),
 (228,⟨some 1,some false,some (.sl []),some 232,none,none⟩),
 (159,⟨some 1,some false,some (.sl []),some 154,none,none⟩),
 (396,⟨some 1,some false,some (.sl []),some 53,none,none⟩),
 (266,⟨some 1,some false,some (.sl []),some 24,none,none⟩),
 (221,⟨some 1,some false,some (.sl []),some 1,none,none⟩),
 (25,⟨some 1,some false,some (.sl []),some 36,none,none⟩),
 (227,⟨some 1,some false,some (.sl []),some 231,none,none⟩),
 (45,⟨some 22,some true,some (.agg [.int .u8 0,.sl [],.str ⟨#[]⟩,.int .u8 0,.int .u8 0,.int .i32 0,.str ⟨#[]⟩,.sl [],.sl [],.int .i64 0,.int .i64 0,.int .u8 0,.int .u8 0,.int .i32 0,.str ⟨#[]⟩,.sl [],.sl [],.int .i64 0,.int .i64 0,.sl [],.sl [],.sl []]),none,none,some [(0,1),(1,1),(2,1),(3,8),(11,8),(19,1),(20,1),(21,1)]⟩),
 (232,⟨some 1,some false,some (.oe),none,none,none⟩),
 (165,⟨some 1,some false,some (.oe),none,none,none⟩),
 (68,⟨some 1,some false,some (.sl []),some 4,none,none⟩),
 (34,⟨some 1,some false,some (.sl []),some 45,none,none⟩),
 (84,⟨some 1,some false,some (.sl []),some 76,none,none⟩)]
noncomputable def o4:lG prog:=⟨LK,by kernel_rfl⟩
def fK:prog.follows .mixedOrders=true:=by kernel_rfl
section
variable{n B:Nat}{s0:Sg}{Oo:Nat->Nat->Prop}{df:List Deferred}{sl M8:List (Nat×V)}{bx Ns:List (Nat×List M)}{H:Hp}{c:Code}{cf:Cf}{os Xm:Array Oper}{r r':List Oper}{ks TZ:List K}{post:Exit->St->Prop}
def tC(ps:List Nat)(h:qJ o4 n H 5000 (.code c ks) ps sl bx=.at cf M8 Ns)(k:cf.den (TC ⟨prog,n,s0,Oo,df⟩) (TL ⟨prog,n,s0,Oo,df⟩) post ⟨M8,Ns,H⟩):TC ⟨prog,n,s0,Oo,df⟩ c ⟨sl,bx,H⟩ (Kp (TC ⟨prog,n,s0,Oo,df⟩) ks post):=
 kX (BL ⟨prog,n,s0,Oo,df⟩) o4 _ h k
def tL(ps:List Nat)(h:qJ o4 n H 5000 (.ops os r ks) ps sl bx=.at cf M8 Ns)(k:cf.den (TC ⟨prog,n,s0,Oo,df⟩) (TL ⟨prog,n,s0,Oo,df⟩) post ⟨M8,Ns,H⟩):TL ⟨prog,n,s0,Oo,df⟩ os r ⟨sl,bx,H⟩ (Kn (TC ⟨prog,n,s0,Oo,df⟩) ks post):=
 kX (BL ⟨prog,n,s0,Oo,df⟩) o4 _ h k
def tO(ps:List Nat)(h:qJ o4 n H 5000 (.code c ks) ps sl bx=.at (.ops os r TZ) M8 Ns)(k:TL ⟨prog,n,s0,Oo,df⟩ os r ⟨M8,Ns,H⟩ (Kn (TC ⟨prog,n,s0,Oo,df⟩) TZ post)):TC ⟨prog,n,s0,Oo,df⟩ c ⟨sl,bx,H⟩ (Kp (TC ⟨prog,n,s0,Oo,df⟩) ks post):=
 kX (BL ⟨prog,n,s0,Oo,df⟩) o4 _ h k
def tR(ps:List Nat)(h:qJ o4 n H 5000 (.ops os r ks) ps sl bx=.at (.ops Xm r' TZ) M8 Ns)(k:TL ⟨prog,n,s0,Oo,df⟩ Xm r' ⟨M8,Ns,H⟩ (Kn (TC ⟨prog,n,s0,Oo,df⟩) TZ post)):TL ⟨prog,n,s0,Oo,df⟩ os r ⟨sl,bx,H⟩ (Kn (TC ⟨prog,n,s0,Oo,df⟩) ks post):=
 kX (BL ⟨prog,n,s0,Oo,df⟩) o4 _ h k
def dC(ps:List Nat)(h:qJ o4 n H 5000 (.code c ks) ps sl bx=.at cf M8 Ns)(k:cf.den (DC prog n B) (DL prog n) post ⟨M8,Ns,H⟩):DC prog n B c ⟨sl,bx,H⟩ (Kp (DC prog n B) ks post):=
 kX (BM _ n B) o4 _ h k
def dL(ps:List Nat)(h:qJ o4 n H 5000 (.ops os r ks) ps sl bx=.at cf M8 Ns)(k:cf.den (DC prog n B) (DL prog n) post ⟨M8,Ns,H⟩):DL prog n os r ⟨sl,bx,H⟩ (Kn (DC prog n B) ks post):=
 kX (BM _ n B) o4 _ h k
def dO(ps:List Nat)(h:qJ o4 n H 5000 (.code c ks) ps sl bx=.at (.ops os r TZ) M8 Ns)(k:DL prog n os r ⟨M8,Ns,H⟩ (Kn (DC prog n B) TZ post)):DC prog n B c ⟨sl,bx,H⟩ (Kp (DC prog n B) ks post):=
 kX (BM _ n B) o4 _ h k
def dR(ps:List Nat)(h:qJ o4 n H 5000 (.ops os r ks) ps sl bx=.at (.ops Xm r' TZ) M8 Ns)(k:DL prog n Xm r' ⟨M8,Ns,H⟩ (Kn (DC prog n B) TZ post)):DL prog n os r ⟨sl,bx,H⟩ (Kn (DC prog n B) ks post):=
 kX (BM _ n B) o4 _ h k
def fR(m:Nat)(h:qK o4 n os H m r sl bx []=some (r',M8,Ns,es))(k:TF ⟨prog,n,s0,Oo,df⟩ os r' ⟨M8,Ns,H⟩ λa b=>q (es.reverse++a) b):TF ⟨prog,n,s0,Oo,df⟩ os r ⟨sl,bx,H⟩ q:=
 TF.rn (X:=⟨prog,n,s0,Oo,df⟩) o4 m h k
def iR{I:Hp->Prop}(m:Nat)(h:qK o4 n os H m r sl bx []=some (r',M8,Ns,es))(k:mC ⟨prog,n,s0,Oo,df⟩ I os r' ⟨M8,Ns,H⟩ λa b=>q (es.reverse++a) b):mC ⟨prog,n,s0,Oo,df⟩ I os r ⟨sl,bx,H⟩ q:=
 mC.run (X:=⟨prog,n,s0,Oo,df⟩) o4 m (post:=q) h k
end
end Go.Proofs
namespace Go.Sm
open Go.Mt
abbrev Nm:=ByteArray
inductive Xp where
 |mk (k op n:Int) (s:Nm) (b:List Nm) (a:List Xp) (p:Int×Int)
abbrev aE(l:List Nm):List (List D):=l.map λx=>[.str x]
abbrev bh(k op n:Int)(s:Nm)(names:List Nm)(kids:List (List D))(p:Int×Int):List D:=[.int .u8 k,.int .u8 op,.int .i32 n,.str s,.sl (aE names),.sl kids,.int .i64 p.1,.int .i64 p.2]
mutual
def Xp.cells:Xp->List D
 |.mk k a n s c b p=>bh k a n s c (qc b) p
def qc:List Xp->List (List D)
 |[]=>[]
 |e::l=>e.cells::qc l
end
def Gx(l:List Xp):qc l=l.map Xp.cells:=by induction l with
 |nil=>rfl
 |cons b l a=>simp[qc,a]
def Xp.kd:Xp->Int|.mk k _ _ _ _ _ _=>k
def Xp.op:Xp->Int|.mk _ o _ _ _ _ _=>o
def Xp.num:Xp->Int|.mk _ _ n _ _ _ _=>n
def Xp.nm:Xp->Nm|.mk _ _ _ s _ _ _=>s
def Xp.names:Xp->List Nm|.mk _ _ _ _ l _ _=>l
def Xp.kids:Xp->List Xp|.mk _ _ _ _ _ l _=>l
def Xp.ps:Xp->Int×Int|.mk _ _ _ _ _ _ p=>p
def Xp.ah(e:Xp):e.cells=bh e.kd e.op e.num e.nm e.names (e.kids.map Xp.cells) e.ps:=by
 cases e;rw[Xp.cells,Gx];rfl
def Xp.len(e:Xp):e.cells.length=8:=by rw[e.ah];rfl
def Od{e k:Xp}(h:k∈e.kids):SizeOf.sizeOf k<SizeOf.sizeOf e:=by
 cases e;have:=ajX h;simp only[Xp.kids]at this;simp;omega
abbrev bR:Xp:=.mk 0 0 0 ⟨#[]⟩ [] [] (0,0)
abbrev ss(z:Int):Xp:=.mk 1 0 z ⟨#[]⟩ [] [] (0,0)
structure Va where
 name:Nm
 tk:Int
 tn:Nm
 clock:List (Nm×Nm)
 last:Bool
 first:Xp
 ps:Int×Int
abbrev bA(l:List (Nm×Nm)):List (List D):=l.map λc=>[.str c.1,.str c.2]
def Va.cells(v:Va):List D:=[.str v.name,.int .u8 v.tk,.str v.tn,.sl (bA v.clock),.bool v.last]++v.first.cells++[.int .i64 v.ps.1,.int .i64 v.ps.2]
def Va.len(v:Va):v.cells.length=15:=by simp[Va.cells,Xp.len]
def ax(l:List Va):List (List D):=l.map Va.cells
structure Tr where
 e:Xp
 to:Nm
 BN:Bool
 ps:Int×Int
def Tr.cells(t:Tr):List D:=t.e.cells++[.str t.to,.bool t.BN,.int .i64 t.ps.1,.int .i64 t.ps.2]
def eL(l:List Tr):List (List D):=l.map Tr.cells
mutual
inductive aD where
 |mk (k:Int) (lhs:List Nm) (f:Nm) (args:List Xp) (a:Bool) (e:Xp) (ai:List aH) (p:Int×Int)
inductive aH where
 |mk (d:Nm) (b:bF) (a c:List Tr) (p:Int×Int)
inductive bF where
 |mk (b:List Va) (a:List aD)
end
abbrev eW(k:Int)(lhs:List Nm)(f:Nm)(args:List (List D))(has:Bool)(e:List D)(ai:List (List D))(p:Int×Int):List D:=[.int .u8 k,.sl (aE lhs),.str f,.sl args,.bool has]++e++[.sl ai,.int .i64 p.1,.int .i64 p.2]
mutual
def aD.cells:aD->List D
 |.mk k b f d c e a p=>eW k b f (d.map Xp.cells) c e.cells (b_ a) p
def aH.cells:aH->List D
 |.mk d b a c p=>[.str d]++b.cells++[.sl (eL a),.sl (eL c),.int .i64 p.1,.int .i64 p.2]
def b_:List aH->List (List D)
 |[]=>[]
 |a::l=>a.cells::b_ l
def bF.cells:bF->List D
 |.mk b a=>[.sl (ax b),.sl (bI a)]
def bI:List aD->List (List D)
 |[]=>[]
 |q::l=>q.cells::bI l
end
def jF(l:List aH):b_ l=l.map aH.cells:=by induction l with
 |nil=>rfl
 |cons b l a=>simp[b_,a]
def kC(l:List aD):bI l=l.map aD.cells:=by induction l with
 |nil=>rfl
 |cons b l a=>simp[bI,a]
def aD.kd:aD->Int|.mk k _ _ _ _ _ _ _=>k
def aD.lhs:aD->List Nm|.mk _ l _ _ _ _ _ _=>l
def aD.f:aD->Nm|.mk _ _ f _ _ _ _ _=>f
def aD.args:aD->List Xp|.mk _ _ _ a _ _ _ _=>a
def aD.has:aD->Bool|.mk _ _ _ _ h _ _ _=>h
def aD.ex:aD->Xp|.mk _ _ _ _ _ e _ _=>e
def aD.ai:aD->List aH|.mk _ _ _ _ _ _ l _=>l
def aD.ps:aD->Int×Int|.mk _ _ _ _ _ _ _ p=>p
def aH.name:aH->Nm|.mk n _ _ _ _=>n
def aH.aT:aH->bF|.mk _ b _ _ _=>b
def aH.eQ:aH->List Tr|.mk _ _ u _ _=>u
def aH.eB:aH->List Tr|.mk _ _ _ w _=>w
def aH.ps:aH->Int×Int|.mk _ _ _ _ p=>p
def bF.vars:bF->List Va|.mk v _=>v
def bF.eqs:bF->List aD|.mk _ q=>q
def aD.ah(q:aD):q.cells=eW q.kd q.lhs q.f (q.args.map Xp.cells) q.has q.ex.cells (q.ai.map aH.cells) q.ps:=by cases q;rw[aD.cells,jF];rfl
def bF.ah(b:bF):b.cells=[.sl (ax b.vars),.sl (b.eqs.map aD.cells)]:=by cases b;rw[bF.cells,kC];rfl
def aH.ah(a:aH):a.cells=[.str a.name,.sl (ax a.aT.vars),.sl (a.aT.eqs.map aD.cells),.sl (eL a.eQ),.sl (eL a.eB),.int .i64 a.ps.1,.int .i64 a.ps.2]:=by cases a;rw[aH.cells,bF.ah];rfl
def aD.len(q:aD):q.cells.length=16:=by rw[q.ah];simp[eW,Xp.len]
def aH.len(a:aH):a.cells.length=7:=by rw[a.ah];rfl
def aH.JS(a:aH):SizeOf.sizeOf a.aT<SizeOf.sizeOf a:=by cases a;simp[aH.aT];omega
def aD.FB{q:aD}{a:aH}(h:a∈q.ai):SizeOf.sizeOf a.aT<SizeOf.sizeOf q:=by
 have:=a.JS;cases q;have:=ajX h;simp only[aD.ai]at this;simp;omega
def bF.Lh{b:bF}{q:aD}(h:q∈b.eqs):SizeOf.sizeOf q<SizeOf.sizeOf b:=by
 cases b;have:=ajX h;simp only[bF.eqs]at this;simp;omega
structure Nd where
 name:Nm
 ins:List Va
 outs:List Va
 b:bF
 ps:Int×Int
def Nd.cells(n:Nd):List D:=[.str n.name,.sl (ax n.ins),.sl (ax n.outs),.sl (ax n.b.vars),.sl (n.b.eqs.map aD.cells),.int .i64 n.ps.1,.int .i64 n.ps.2]
structure En where
 name:Nm
 fu:List Nm
 ps:Int×Int
def En.cells(e:En):List D:=[.str e.name,.sl (aE e.fu),.int .i64 e.ps.1,.int .i64 e.ps.2]
structure Pg where
 aB:List En
 nodes:List Nd
abbrev Pg.cells(p:Pg):List D:=[.sl (p.aB.map En.cells),.sl (p.nodes.map Nd.cells)]
def wz(l:List Nat):Nat:=l.foldr (·+ ·) 0
def pL(a:Nat)(l:List Nat):wz (a::l)=a+wz l:=rfl
inductive n8:Xp->Prop where
 |mk {k op n:Int} {s:Nm} {b:List Nm} {a:List Xp} {p:Int×Int} (c:k=9->a≠[]) (d:a.length<=1000000) (f:b.length<=1000000) (g:∀e∈a,n8 e):n8 (.mk k op n s b a p)
inductive zP:bF->Prop where
 |mk {c:List Va} {b:List aD} (d:c.length<=1000000) (f:b.length<=1000000)
   (h3:∀q∈b,∀a∈q.ai,zP a.aT) (h4:∀q∈b,q.ai.length<=1000) (h5:∀q∈b,n8 q.ex/\q.args.length<=1000000/\∀e∈q.args,n8 e) (h6:∀q∈b,q.lhs.length<=1000000)
   (h7:∀q∈b,∀a∈q.ai,a.eQ.length<=1000000/\a.eB.length<=1000000):zP (.mk c b)
abbrev ov:Nm:=⟨#[102,97,108,115,101]⟩
abbrev qL:Nm:=⟨#[116,114,117,101]⟩
def Ik(l:List Nm)(x:Nm):Int:=match l.findIdx? (λy=>decide (y=x))with
 |some i=>(i:Int)
 |none=> -1
def cW(l:List Nm)(x:Nm):Bool:=l.any λy=>decide (y=x)
def gX{l:List Nm}{x:Nm} :cW l x=true↔x∈l:=by simp[cW]
def kY(en:List En)(a:Int)(b:Nm):List Nm:=
 if a=1 then [ov,qL]else if a=3 then(match en.find? (λe=>decide (e.name=b))with|some e=>e.fu|none=>[])else []
def r_(l:List Va)(x:Nm):Option Nat:=l.findIdx? (λv=>decide (v.name=x))
def bt(l:List Nm)(x:Nm):List Nm:=if cW l x then l else l++[x]
mutual
def bX:aD->List Nm
 |.mk _ b _ _ _ _ a _=>aQ b a
def aQ(l:List Nm):List aH->List Nm
 |[]=>l
 |a::r=>aQ ((pM a).foldl bt l) r
def pM:aH->List Nm
 |.mk _ b _ _ _=>cy b
def cy:bF->List Nm
 |.mk b a=>j' b [] a
def j'(a:List Va)(l:List Nm):List aD->List Nm
 |[]=>l
 |q::r=>j' a (((bX q).filter λx=>(r_ a x).isNone).foldl bt l) r
end
def gC(l:List Nd)(x:Nm):Option Nat:=l.findIdx? (λd=>decide (d.name=x))
end Go.Sm
namespace Go.Ps
open Go.Mt Go.Sm
def dg(n:Nat):Nm:=⟨(Lib.decDigits n).toArray⟩
def mi(c:UInt8)(n:Nat):Nm:=⟨#[95,c]⟩++dg n
abbrev nT:=mi 84
abbrev nS:=mi 115
abbrev nR:=mi 114
abbrev nA:=mi 97
abbrev nB:=mi 98
abbrev nN:=mi 110
abbrev nM:=mi 109
abbrev nV:=mi 118
abbrev nE:=mi 101
abbrev nX:=mi 120
def iI(k:Nat)(st:Nm):Nm:=nT k++⟨#[95]⟩++st
abbrev gI(s:Nm):Xp:=.mk 3 0 0 s [] [] (0,0)
abbrev aZ(s:Nm):Xp:=.mk 4 0 0 s [] [] (0,0)
abbrev dD(b:Bool):Xp:=.mk 2 0 (if b then 1 else 0) ⟨#[]⟩ [] [] (0,0)
abbrev gY(x:Nm)(e:Xp)(p:Int×Int):aD:=.mk 1 [x] ⟨#[]⟩ [] false e [] p
abbrev jS(c e:Xp):Xp:=.mk 9 0 0 ⟨#[]⟩ [] [c,e] (0,0)
abbrev CB(a b c:Xp)(p:Int×Int):Xp:=.mk 8 0 0 ⟨#[]⟩ [] [a,b,c] p
abbrev gS(e:Xp)(o:Nm×Nm):Xp:=.mk 12 0 0 o.2 [o.1] [e] (0,0)
structure DS where
 n:Nat
 aB:List En
def qi(k:Nat):List Tr->Xp×Xp->Xp×Xp
 |[],r=>r
 |t::l,r=>(CB t.e (gI (iI k t.to)) (qi k l r).1 t.ps,CB t.e (dD (!t.BN)) (qi k l r).2 t.ps)
def cP(k:Nat)(a:aH):aH:=
 let w:=qi k a.eQ (gI (iI k a.name),aZ (nR k))
 .mk (iI k a.name) (.mk [] [gY (nA k) w.1 a.ps,gY (nB k) w.2 a.ps]) [] [] a.ps
def eI(k:Nat)(a:aH):aH:=
 let w:=qi k a.eB (gI (iI k a.name),dD false)
 .mk (iI k a.name) (.mk [] [.mk 5 [] ⟨#[]⟩ [] false (aZ (nB k)) [.mk ⟨#[]⟩ (.mk a.aT.vars (a.aT.eqs++[gY (nN k) w.1 a.ps,gY (nM k) w.2 a.ps])) [] [] a.ps] a.ps]) [] [] a.ps
def gT(k:Nat)(p:Int×Int):List Va:=
 [⟨nS k,3,nT k,[],false,bR,p⟩,⟨nA k,3,nT k,[],false,bR,p⟩,⟨nN k,3,nT k,[],false,bR,p⟩,
 ⟨nR k,1,⟨#[]⟩,[],false,bR,p⟩,⟨nB k,1,⟨#[]⟩,[],false,bR,p⟩,⟨nM k,1,⟨#[]⟩,[],false,bR,p⟩]
def lH(k:Nat)(ai:List aH)(p:Int×Int):List aD:=
 [gY (nS k) (jS (gI (iI k ((ai.head?.map aH.name).getD ⟨#[]⟩))) (aZ (nN k))) p,
 gY (nR k) (jS (dD false) (aZ (nM k))) p,
 .mk 3 [] ⟨#[]⟩ [] false (aZ (nS k)) (ai.map (cP k)) p,
 .mk 3 [] ⟨#[]⟩ [] false (aZ (nA k)) (ai.map (eI k)) p]
def su(k:Nat)(ai:List aH)(p:Int×Int):En:=⟨nT k,ai.map λa=>iI k a.name,p⟩
def ug(q:aD)(s:DS):List Va×List aD×DS:=
 if q.kd=4 then(gT (s.n+1) q.ps,lH (s.n+1) q.ai q.ps,⟨s.n+1,s.aB++[su (s.n+1) q.ai q.ps]⟩)
 else([],[q],s)
mutual
def gf:bF->DS->bF×DS
 |.mk b a,s=>(.mk (b++(dE a s).1) (dE a s).2.1,(dE a s).2.2)
def mR:aD->DS->List Va×List aD×DS
 |.mk k b f d c e a p,s=>ug (.mk k b f d c e (cc a s).1 p) (cc a s).2
def dE:List aD->DS->List Va×List aD×DS
 |[],s=>([],[],s)
 |q::l,s=>((mR q s).1++(dE l (mR q s).2.2).1,(mR q s).2.1++(dE l (mR q s).2.2).2.1,(dE l (mR q s).2.2).2.2)
def vy:aH->DS->aH×DS
 |.mk n b u w p,s=>(.mk n (gf b s).1 u w p,(gf b s).2)
def cc:List aH->DS->List aH×DS
 |[],s=>([],s)
 |a::l,s=>((vy a s).1::(cc l (vy a s).2).1,(cc l (vy a s).2).2)
end
def yy(d:Nd)(s:DS):Nd×DS:=(⟨d.name,d.ins,d.outs,(gf d.b s).1,d.ps⟩,(gf d.b s).2)
def er:List Nd->DS->List Nd×DS
 |[],s=>([],s)
 |d::l,s=>((yy d s).1::(er l (yy d s).2).1,(er l (yy d s).2).2)
def lI(p:Pg):Pg:=⟨p.aB++(er p.nodes ⟨0,[]⟩).2.aB,(er p.nodes ⟨0,[]⟩).1⟩
mutual
def hM:Xp->List Nm->List Nm
 |.mk k _ _ x _ a _,l=>if k=4\/k=13 then cu a (bt l x)else if k=12 then bt (cu a l) x else cu a l
def cu:List Xp->List Nm->List Nm
 |[],l=>l
 |e::r,l=>cu r (hM e l)
end
mutual
def kZ:Xp->List Nm->List Nm
 |.mk k _ _ x _ a _,l=>iL a (if k=5 then bt l x else l)
def iL:List Xp->List Nm->List Nm
 |[],l=>l
 |e::r,l=>iL r (kZ e l)
end
structure Bd where
 name:Nm
 k7:Nat
 tk:Int
 tn:Nm
abbrev Env:=Nm->Option Bd
def Env.set(f:Env)(x:Nm)(b:Bd):Env:= λy=>if y=x then some b else f y
def Env.nm(f:Env)(x:Nm):Nm:=match f x with|some b=>b.name|none=>⟨#[]⟩
def Env.ty(f:Env)(x:Nm):Int×Nm:=match f x with|some b=>(b.tk,b.tn)|none=>(0,⟨#[]⟩)
structure Sc where
 vars:Env
 aO:Env
 ck:List (Nm×Nm)
structure MS where
 n:Nat
 vars:List Va
def MS.fresh(m:MS)(t:Int×Nm)(a:List (Nm×Nm)):MS:=⟨m.n+1,m.vars++[⟨nV (m.n+1),t.1,t.2,a,false,bR,(0,0)⟩]⟩
mutual
def cp(s:Sc):Xp->Xp
 |.mk k a n x c b p=>
  if k=4\/k=12\/k=13 then .mk k a n (s.vars.nm x) c (ig s b) p
  else if k=5 then .mk 4 a n (s.aO.nm x) c (ig s b) p
  else .mk k a n x c (ig s b) p
def ig(s:Sc):List Xp->List Xp
 |[]=>[]
 |e::l=>cp s e::ig s l
end
structure R where
 s:Sc
 m:MS
 q:List aD
def oJ(s:Sc)(b:Bd):Xp:=(s.ck.drop b.k7).foldl gS (aZ b.name)
def cM(r:R)(x:Nm):R:=
 match r.s.vars x with
 |none=>r
 |some b=>if b.k7=r.s.ck.length then r else
  ⟨{r.s with vars:=r.s.vars.set x ⟨nV (r.m.n+1),r.s.ck.length,b.tk,b.tn⟩},r.m.fresh (b.tk,b.tn) r.s.ck,r.q++[gY (nV (r.m.n+1)) (oJ r.s b) (0,0)]⟩
def fm(r:R)(x:Nm):R:=
 match r.s.aO x with
 |none=>r
 |some b=>if b.k7=r.s.ck.length then r else
  ⟨{r.s with aO:=r.s.aO.set x ⟨nV (r.m.n+1),r.s.ck.length,b.tk,b.tn⟩},r.m.fresh (b.tk,b.tn) r.s.ck,r.q++[gY (nV (r.m.n+1)) (oJ r.s b) (0,0)]⟩
def cB(r:R)(e:Xp):R:=(kZ e []).foldl fm ((hM e []).foldl cM r)
def ow(en:List En)(c:Nm):Nm:=match en.find? (λt=>cW t.fu c)with|some t=>t.name|none=>⟨#[]⟩
def qM(op:Int):Int:=if op=1 then 1 else if op=2 then 2 else if 3<=op/\op<=7 then 2 else if 8<=op/\op<=16 then 1 else 0
def dG(en:List En)(f:Nm->Int×Nm):Xp->Int×Nm
 |.mk k a _ x _ c _=>
  if k=1 then(2,⟨#[]⟩)else if k=2 then(1,⟨#[]⟩)else if k=3 then(3,ow en x)else if k=4\/k=5 then f x
  else if k=6\/k=7 then(qM a,⟨#[]⟩)
  else match c with
   |[]=>(0,⟨#[]⟩)
   |a::r=>if k=8 then(match r with|[]=>(0,⟨#[]⟩)|b::_=>dG en f b)else dG en f a
def gM(r:R)(e:Xp)(t:Int×Nm):R:=
 let a:=cB r e
 ⟨a.s,a.m.fresh t a.s.ck,a.q++[gY (nV (a.m.n+1)) (cp a.s e) e.ps]⟩
def iO(r:R)(v:Va)(b:Nm):R:=
 if v.last then
  let a:=r.s.ck++v.clock.map λo=>(o.1,r.s.vars.nm o.2)
  ⟨{r.s with aO:=r.s.aO.set v.name ⟨nV (r.m.n+1),r.s.ck.length,v.tk,v.tn⟩},r.m.fresh (v.tk,v.tn) a,r.q++[gY (nV (r.m.n+1)) (jS v.first (aZ b)) v.ps]⟩
 else r
def dt(a:Bool)(r:R)(v:Va):R:=⟨{r.s with vars:=r.s.vars.set v.name ⟨if a then v.name else nV (r.m.n+1),r.s.ck.length,v.tk,v.tn⟩},⟨r.m.n+1,r.m.vars⟩,r.q⟩
def dU(r:R)(v:Va):R:=
 iO ⟨r.s,⟨r.m.n,r.m.vars++[⟨r.s.vars.nm v.name,v.tk,v.tn,r.s.ck++v.clock.map λo=>(o.1,r.s.vars.nm o.2),false,bR,v.ps⟩]⟩,r.q⟩ v (r.s.vars.nm v.name)
def je(b:Bool)(r:R)(a:List Va):R:=
 a.foldl dU ((a.flatMap λv=>v.clock.map λo=>o.2).foldl cM (a.foldl (dt b) r))
def et(s:Sc)(r:R)(x:Nm):R:=⟨{r.s with vars:=r.s.vars.set x ⟨nV (r.m.n+1),r.s.ck.length,(s.vars.ty x).1,(s.vars.ty x).2⟩},r.m.fresh (s.vars.ty x) r.s.ck,r.q⟩
def fv(p:Int×Int)(r:R)(x:Nm):R:=
 let a:=fm r x
 ⟨a.s,a.m,a.q++[gY (a.s.vars.nm x) (aZ (a.s.aO.nm x)) p]⟩
def fe(r:R×List Xp)(e:Xp):R×List Xp:=(cB r.1 e,r.2++[cp (cB r.1 e).s e])
mutual
def iF(en:List En)(a:Bool):bF->Sc->MS->MS×List aD
 |.mk c b,s,m=>((gD en b (je a ⟨s,m,[]⟩ c)).m,(gD en b (je a ⟨s,m,[]⟩ c)).q)
def gD(en:List En):List aD->R->R
 |[],r=>r
 |q::l,r=>gD en l (iP en q r)
def iP(en:List En):aD->R->R
 |.mk k d f h g e b p,r=>
  if k=1 then
   let a:=cB r e
   ⟨a.s,a.m,a.q++[.mk 1 (d.map a.s.vars.nm) ⟨#[]⟩ [] false (cp a.s e) [] p]⟩
  else if k=2 then
   let b:=d.map r.s.vars.nm
   let a:=h.foldl fe (r,[])
   if g then⟨(cB a.1 e).s,(cB a.1 e).m,(cB a.1 e).q++[.mk 2 b f a.2 true (cp (cB a.1 e).s e) [] p]⟩
   else⟨a.1.s,a.1.m,a.1.q++[.mk 2 b f a.2 false bR [] p]⟩
  else if k=5 then
   let a:=gM r e (1,⟨#[]⟩)
   let i:=zQ en b a.s a.m
   ⟨a.s,i.1,a.q++[.mk 5 [] ⟨#[]⟩ [] false (aZ (nV a.m.n)) [.mk ⟨#[]⟩ (.mk [] i.2) [] [] (0,0)] p]⟩
  else
   let a:=gM r e (dG en r.s.vars.ty e)
   let c:=nV a.m.n
   let f:=aQ d b
   let z:=c7 en c f b ⟨a.s,a.m,a.q⟩ []
   ⟨z.1.s,z.1.m,z.1.q++(List.range f.length).map λi=>gY (z.1.s.vars.nm (f[i]?.getD ⟨#[]⟩)) (.mk 13 0 0 c (b.map aH.name) (z.2.map λa=>aZ (a[i]?.getD ⟨#[]⟩)) p) p⟩
def zQ(en:List En):List aH->Sc->MS->MS×List aD
 |[],s,m=>(m,[])
 |.mk _ b _ _ _::_,s,m=>iF en false b s m
def c7(en:List En)(c:Nm)(all:List Nm):List aH->R->List (List Nm)->R×List (List Nm)
 |[],r,a=>(r,a)
 |.mk n b _ _ p::l,r,e=>
  let d:R:=all.foldl (et r.s) ⟨⟨r.s.vars,r.s.aO,r.s.ck++[(n,c)]⟩,r.m,r.q⟩
  let a:R:=(all.filter λx=> !(cW (cy b) x)).foldl (fv p) d
  let z:=iF en false b a.s a.m
  c7 en c all l ⟨r.s,z.1,a.q++z.2⟩ (e++[all.map d.s.vars.nm])
end
def fp(r:R)(v:Va):R:=iO ⟨{r.s with vars:=r.s.vars.set v.name ⟨v.name,0,v.tk,v.tn⟩},r.m,r.q⟩ v v.name
def n_(en:List En)(d:Nd):Nd:=
 let r:=(d.ins++d.outs).foldl fp ⟨⟨λ_=>none,λ_=>none,[]⟩,⟨0,[]⟩,[]⟩
 let z:=iF en true d.b r.s r.m
 ⟨d.name,d.ins,d.outs.map λv=>⟨v.name,v.tk,v.tn,v.clock,false,bR,v.ps⟩,.mk z.1.vars (r.q++z.2),d.ps⟩
def s_(p:Pg):Pg:=⟨p.aB,p.nodes.map (n_ p.aB)⟩
structure Fq where
 kd:Int
 lhs:List Nm
 f:Nm
 first:Xp
 e:Xp
 args:List Xp
 ck:List (Nm×Nm)
 rs:List Nm
def Fq.cells(q:Fq):List D:=[.int .u8 q.kd,.sl (aE q.lhs),.str q.f]++q.first.cells++q.e.cells++[.sl (q.args.map Xp.cells),.sl (bA q.ck),.sl (aE q.rs)]
structure Fl where
 name:Nm
 ins:List Va
 outs:List Va
 vars:List Va
 eqs:List Fq
def Fl.cells(f:Fl):List D:=[.str f.name,.sl (ax f.ins),.sl (ax f.outs),.sl (ax f.vars),.sl (f.eqs.map Fq.cells)]
structure Wh where
 aB:List En
 nodes:List Fl
abbrev Wh.cells(w:Wh):List D:=[.sl (w.aB.map En.cells),.sl (w.nodes.map Fl.cells)]
structure US where
 n:Nat
 vars:List Va
 eqs:List Fq
abbrev o5:=Nm->List (Nm×Nm)
def qN:Xp->Bool
 |.mk k _ _ _ _ kids _=> !(decide (k=9\/k=10\/k=11))&&CC kids
where CC:List Xp->Bool
 |[]=>true
 |e::l=>qN e&&CC l
def jf(u:US)(e:Xp)(t:Int×Nm)(a:List (Nm×Nm))(rs:List Nm):US:=
 ⟨u.n+1,u.vars++[⟨nE (u.n+1),t.1,t.2,a,false,bR,(0,0)⟩],u.eqs++[⟨1,[nE (u.n+1)],⟨#[]⟩,bR,e,[],a,rs⟩]⟩
def dA(b:List (Nm×Nm))(rs:List Nm)(r:US×List Xp)(a:Xp×(Int×Nm)):US×List Xp:=
 if qN a.1 then(r.1,r.2++[a.1])else(jf r.1 a.1 a.2 b rs,r.2++[aZ (nE (r.1.n+1))])
def mL(a:o5)(lhs:List Nm):List (Nm×Nm):=match lhs with|[]=>[]|x::_=>a x
mutual
def o6(d:Nm->List (Int×Nm))(c:o5)(rs:List Nm):aD->US->US
 |.mk k b f i h e g p,u=>
  let a:=mL c b
  if k=1 then⟨u.n,u.vars,u.eqs++[⟨1,b,⟨#[]⟩,bR,e,[],a,rs⟩]⟩
  else if k=2 then
   let r:=(i.zip (d f)).foldl (dA a rs) (u,[])
   if h then
    if e.kd=4 then⟨r.1.n,r.1.vars,r.1.eqs++[⟨3,b,f,bR,bR,r.2,a,rs++[e.nm]⟩]⟩
    else
     let c:=jf r.1 e (1,⟨#[]⟩) a rs
     ⟨c.n,c.vars,c.eqs++[⟨3,b,f,bR,bR,r.2,a,rs++[nE (r.1.n+1)]⟩]⟩
   else⟨r.1.n,r.1.vars,r.1.eqs++[⟨3,b,f,bR,bR,r.2,a,rs⟩]⟩
  else if k=5 then BO d c (rs++[e.nm]) g u
  else u
def BO(c:Nm->List (Int×Nm))(a:o5)(rs:List Nm):List aH->US->US
 |[],u=>u
 |.mk _ b _ _ _::_,u=>Gy c a rs b u
def Gy(b:Nm->List (Int×Nm))(a:o5)(rs:List Nm):bF->US->US
 |.mk _ c,u=>f_ b a rs c u
def f_(b:Nm->List (Int×Nm))(a:o5)(rs:List Nm):List aD->US->US
 |[],u=>u
 |q::l,u=>f_ b a rs l (o6 b a rs q u)
end
def eY(a:List Va):o5:= λx=>match a.reverse.find? (λv=>decide (v.name=x))with|some v=>v.clock|none=>[]
def fw(ns:List Nd):Nm->List (Int×Nm):= λf=>match ns.find? (λd=>decide (d.name=f))with|some d=>d.ins.map λv=>(v.tk,v.tn)|none=>[]
def tc(ns:List Nd)(d:Nd):Fl:=
 let u:=f_ (fw ns) (eY (d.ins++d.outs++d.b.vars)) [] d.b.eqs ⟨0,d.b.vars,[]⟩
 ⟨d.name,d.ins,d.outs,u.vars,u.eqs⟩
def BP(p:Pg):Wh:=⟨p.aB,p.nodes.map (tc p.nodes)⟩
end Go.Ps
namespace Go.Proofs
open Go.Shelf
open Tryz
def Tryz.zR:Go.Shelf.Ren:=⟨λ|171=>212|243=>254|246=>289|283=>303|284=>304|285=>305|286=>306|129=>250|317=>308|318=>309|319=>310|320=>311|337=>314|338=>315|n=>n,λ|3=>3|9=>9|2=>2|4=>4|171=>377|0=>0|53=>341|37=>22|5=>5|173=>379|212=>386|51=>339|20=>20|213=>387|46=>300|232=>401|233=>402|n=>n,λ|17=>0|18=>1|19=>2|n=>n⟩
def Tryz.Gz:Go.Proofs.LaysM.n171 prog Tryz.zR:={
 mixed:=by kernel_rfl
 f129:=func250.trans (ajj some (by kernel_rfl))
 f171:=func212.trans (ajj some (by kernel_rfl))
 f243:=func254.trans (ajj some (by kernel_rfl))
 f246:=func289.trans (ajj some (by kernel_rfl))
 f283:=func303.trans (ajj some (by kernel_rfl))
 f284:=func304.trans (ajj some (by kernel_rfl))
 f285:=func305.trans (ajj some (by kernel_rfl))
 f286:=func306.trans (ajj some (by kernel_rfl))
 f317:=func308.trans (ajj some (by kernel_rfl))
 f318:=func309.trans (ajj some (by kernel_rfl))
 f319:=func310.trans (ajj some (by kernel_rfl))
 f320:=func311.trans (ajj some (by kernel_rfl))
 f337:=func314.trans (ajj some (by kernel_rfl))
 f338:=func315.trans (ajj some (by kernel_rfl))
 t0:=underlying0
 a0:=Tryz.isAgg0
 z0:=Tryz.sizeOf0
 v0:=Tryz.zeroValue0
 t2:=underlying2
 a2:=Tryz.isAgg2
 z2:=Tryz.sizeOf2
 v2:=Tryz.zeroValue2
 t3:=underlying3
 a3:=Tryz.isAgg3
 z3:=Tryz.sizeOf3
 v3:=Tryz.zeroValue3
 t4:=underlying4
 a4:=Tryz.isAgg4
 z4:=Tryz.sizeOf4
 v4:=Tryz.zeroValue4
 t5:=underlying5
 a5:=Tryz.isAgg5
 z5:=Tryz.sizeOf5
 v5:=Tryz.zeroValue5
 t9:=underlying9
 a9:=Tryz.isAgg9
 z9:=Tryz.sizeOf9
 v9:=Tryz.zeroValue9
 t20:=underlying20
 a20:=Tryz.isAgg20
 z20:=Tryz.sizeOf20
 v20:=Tryz.zeroValue20
 t37:=underlying22
 a37:=Tryz.isAgg22
 z37:=Tryz.sizeOf22
 v37:=Tryz.zeroValue22
 t46:=underlying300
 a46:=Tryz.isAgg300
 z46:=Tryz.sizeOf300
 v46:=Tryz.zeroValue300
 t51:=underlying339
 a51:=Tryz.isAgg339
 z51:=Tryz.sizeOf339
 v51:=Tryz.zeroValue339
 t53:=underlying341
 a53:=Tryz.isAgg341
 z53:=Tryz.sizeOf341
 v53:=Tryz.zeroValue341
 t171:=underlying377
 a171:=Tryz.isAgg377
 z171:=Tryz.sizeOf377
 v171:=Tryz.zeroValue377
 t173:=underlying379
 a173:=Tryz.isAgg379
 z173:=Tryz.sizeOf379
 v173:=Tryz.zeroValue379
 t212:=underlying386
 a212:=Tryz.isAgg386
 z212:=Tryz.sizeOf386
 v212:=Tryz.zeroValue386
 t213:=underlying387
 a213:=Tryz.isAgg387
 z213:=Tryz.sizeOf387
 t232:=underlying401
 a232:=Tryz.isAgg401
 z232:=Tryz.sizeOf401
 v232:=Tryz.zeroValue401
 t233:=underlying402
 a233:=Tryz.isAgg402
 z233:=Tryz.sizeOf402
 v233:=Tryz.zeroValue402
 g17:=by kernel_rfl
 g18:=by kernel_rfl
 g19:=by kernel_rfl
 i0:=by kernel_rfl
 i2:=by kernel_rfl
 i3:=by kernel_rfl
 i4:=by kernel_rfl
 i5:=by kernel_rfl
 i9:=by kernel_rfl
 i20:=by kernel_rfl
 i37:=by kernel_rfl
 i46:=by kernel_rfl
 i51:=by kernel_rfl
 i53:=by kernel_rfl
 i171:=by kernel_rfl
 i173:=by kernel_rfl
 i212:=by kernel_rfl
 i232:=by kernel_rfl
 i233:=by kernel_rfl
 m17:=by kernel_rfl
 m18:=by kernel_rfl
 m19:=by kernel_rfl}
open Go.RowKit Go.Sort Go.Lib in
def Tryz.strconv_Itoa(n:Int)(a: -9223372036854775808<=n)(b:n<=9223372036854775807)(w:World)(c:Lib.TabIs prog w "internal/strconv.uint64pow10" .u64 Lib.pow10Tab):
  Calls prog 212 #[.int .i64 n] w λe w'=>e=.returned (.string ⟨(Lib.itoa n).toArray⟩)/\∃k os,w'=grow (w.drewN k) os:=Any.strconv_Itoa Tryz.Gz n a b w c
end Go.Proofs
namespace Go.Proofs
open Go.Mt
open Tryz
instance:yp prog 36 4 34 4:=⟨by kernel_rfl⟩
instance:yp prog 42 3 9 3:=⟨by kernel_rfl⟩
instance:yp prog 261 0 9 0:=⟨by kernel_rfl⟩
instance:yp prog 261 2 53 2:=⟨by kernel_rfl⟩
instance:H7 prog 311 3 9:=⟨by kernel_rfl⟩
end Go.Proofs
namespace Go.Sm
open Go.Mt
def Va.ah(v:Va):v.cells=[.str v.name,.int .u8 v.tk,.str v.tn,.sl (bA v.clock),.bool v.last,.int .u8 v.first.kd,.int .u8 v.first.op,.int .i32 v.first.num,.str v.first.nm,.sl (aE v.first.names),.sl (v.first.kids.map Xp.cells),.int .i64 v.first.ps.1,.int .i64 v.first.ps.2,.int .i64 v.ps.1,.int .i64 v.ps.2]:=by unfold Va.cells;rw[v.first.ah];rfl
abbrev yz(q:aD):List D:=[.int .u8 q.kd,.sl (aE q.lhs),.str q.f,.sl (q.args.map Xp.cells),.bool q.has,.int .u8 q.ex.kd,.int .u8 q.ex.op,.int .i32 q.ex.num,.str q.ex.nm,.sl (aE q.ex.names),.sl (q.ex.kids.map Xp.cells),.int .i64 q.ex.ps.1,.int .i64 q.ex.ps.2,.sl (q.ai.map aH.cells),.int .i64 q.ps.1,.int .i64 q.ps.2]
def aD.pN(q:aD):q.cells=yz q:=by rw[q.ah,q.ex.ah];rfl
def Tr.ah(t:Tr):t.cells=[.int .u8 t.e.kd,.int .u8 t.e.op,.int .i32 t.e.num,.str t.e.nm,.sl (aE t.e.names),.sl (t.e.kids.map Xp.cells),.int .i64 t.e.ps.1,.int .i64 t.e.ps.2,.str t.to,.bool t.BN,.int .i64 t.ps.1,.int .i64 t.ps.2]:=by unfold Tr.cells;rw[t.e.ah];rfl
def br(l:List Va):(ax l).length=l.length:=by simp[ax]
def bD(l:List Va):∀r∈ax l,r.length=15:=by intro r a;obtain⟨_,_,rfl⟩:=aij.1 a;exact Va.len _
def vA(a b:List Va):ax (a++b)=ax a++ax b:=by simp[ax]
end Go.Sm
namespace Go.Ps
open Go.Mt Go.Sm
def hU(n:Nat)(h:n<=1000000000):(dg n).size<=21:=by
 have:=Lib.itoa_length_le (n:Int) (by omega) (by omega);rw[Lib.itoa_nonneg]at this;exact this
def GA(c:UInt8)(n:Nat)(h:n<=1000000000):(mi c n).size<=23:=by
 have:=hU n h;unfold mi;rw[ajM];have e:(⟨#[95,c]⟩:ByteArray).size=2:=rfl;omega
end Go.Ps
namespace Go.Mt
variable{H H0:Hp}{X:cQ}{sl:List (Nat×V)}{bx:List (Nat×List M)}{n d ty T e:Nat}{cs zs MP:List M}{ops:Array Oper}{rest:List Oper}{pos:String}{af:Array Edge}{m:M}{z ds:List D}{parts:List (Nat×Operand)}{ms:List (Nat×M)}{MU:List Ef->St->Prop}{F0:Nat->Prop}{r:List As}{rs:List (List D)}{ps:List (Nat×Nat)}{post:St->Prop}{P:Program}
def FC{a:Nat}{x y:Operand}{rows:List (List D)}{z:D}[ht:aU X.P T e][A:bQ X.P e n][B:jD X.P e a][C:fk X.P e z](w:Wk F0 H0 (.acc n rs m::r) H)(b:Nat.blt d X.n=true)(c:aS sl x=some (.m m))(f:aS sl y=some (.m (.d (.sl rows))))
  (j:Nat.blt 0 n=true) (g:(bz z).length=n) (l:Nat.ble a 1000=true) (o:rows≠[]) (h:∀r∈rows,r.length=n) (p:rs.length+rows.length<=100000000000)
  (k:TF X ops rest ⟨(d,.m (cJ m H rows))::sl,bx,ef n m H rows⟩ λa b=>MU (⟨some d,.m (cJ m H rows),[],[],none,true,some (ef n m H rows)⟩::a) b):TF X ops (⟨some d,.call ⟨.builtin .append,#[x,y],#[T,T]⟩,ty,pos,af,none⟩::rest) ⟨sl,bx,H⟩ MU:=by
 have q:=ajA p (aiy l);obtain⟨t,s⟩:=w.Aq;rcases s with⟨rfl,rfl⟩|⟨E,F,rfl,i⟩
 .cases rows with
  |nil=>exact absurd W o
  |cons u v=>exact nI true b c f j g (by simp) h (by simp only[List.length_nil,ai8]at q;omega) k
 .refine lD b c f i g h (by omega) (by omega) ?_;simp only[cJ,ef,i]at k;exact k
def CD:∀{cs:List M} {ds:List D},gg cs=some ds->cs=ds.map M.d
 |[],ds,h=>by simp[gg]at h;subst h;rfl
 |.d x::r,ds,h=>by
  simp only[gg,aiE]at h;obtain⟨l,a,rfl⟩:=h;rw[CD a];rfl
 |.ref _ _::r,ds,h=>by cases h
 |.bZ _ _ _::r,ds,h=>by cases h
 |.cz _ _ _::r,ds,h=>by cases h
 |.mp _::r,ds,h=>by cases h
 |.it _::r,ds,h=>by cases h
 |.agg _::r,ds,h=>by cases h
 |.fn _ _::r,ds,h=>by cases h
 |.c_ _::r,ds,h=>by cases h
 |.undef::r,ds,h=>by cases h
def Az:∀ds:List D,mK ds=some (ds.map M.d)
 |[]=>rfl
 |d::l=>by unfold mK;rw[Az l];rfl
def fx(cs:List M):fr (pack cs)=some cs:=by
 unfold pack;split
 .rename_i a h;show mK a=_;rw[Az,<-CD h]
 .rfl
def vB[ht:cE X.P T ps z](a:Nat.blt d X.n=true)(b:eG sl parts=some ms)(c:mK z=some zs)
  (f:jW ps zs ms=some cs) (k:TF X ops rest ⟨(d,.m (pack cs))::sl,bx,H⟩ λa b=>MU (⟨some d,.m (pack cs),[],[],none,false,none⟩::a) b):TF X ops (⟨some d,.build T parts.toArray,ty,pos,af,none⟩::rest) ⟨sl,bx,H⟩ MU:=by
 refine TF.cons (e:=⟨some d,.m (pack cs),[],[],none,false,none⟩) (MK W W (bj a) λa h=>?_) W k;exact mX (X:=X) (dst:=some d) (ty:=ty) (pos:=pos) (af:=af) (g:=none) (st:=a) (T:=T) (parts:=parts) (ms:=ms) (by rw[h.dI (λp a=>by simp[Op.operands];exact⟨_,a⟩),eH];exact b) (by rw[<-kS c];exact lu f)
def m_[ht:cE X.P T ps z](a:Nat.blt d X.n=true)(b:eG sl parts=some ms)(c:mK z=some zs)
  (e:jW ps zs ms=some cs) (k:TL X ops rest ⟨(d,.m (pack cs))::sl,bx,H⟩ post):TL X ops (⟨some d,.build T parts.toArray,ty,pos,af,none⟩::rest) ⟨sl,bx,H⟩ post:=
 M3 W W a (mX (X:=X) (dst:=some d) (ty:=ty) (pos:=pos) (af:=af) (g:=none) (st:=⟨sl,bx,H⟩) (T:=T) (by rw[eH];exact b) (by rw[<-kS c];exact lu e)) k
def Wk.AA(w:Wk F0 H0 (.acc n rs m::r) H):fr m=some [m]:=by
 obtain⟨i,h⟩:=w.Aq;rcases h with⟨_,rfl⟩|⟨_,a,rfl,_⟩<;>rfl
def bU.BQ{σ:Sg}{MH:Nat->Nat}{st:St}{a:Act}(hi:bU X σ MH st a){i:Nat}(b:st.H[i]?=some (.box cs))(c:dw st.H cs=some MP):∃τ:Sg,τ.w=σ.w/\bU X τ MH ⟨st.sl,st.bx,st.H.set i (.box MP)⟩ a:=by
 obtain⟨l,T,d,e⟩:=hi.hinv.obj i (.box cs) (by rw[hi.hH];exact b);obtain⟨τ,f,m,n,o,g⟩:=hi.jx (j:=i) (b':=σ.l i) (ob:=.box cs) (NX:=.box MP) (w':=σ.w) b trivial W W W (ah9 _)
  (λ_ _ _=>rfl) (.inl W) (λo v b=>(b trivial).elim) W (by
   intro τ h k _ _;exact⟨l,T,by rw[k];exact d,(e.view hi.hinv (by rw[hi.hH];exact c)).mono h⟩)
 exact⟨τ,f,g⟩
def DC.BQ{B:Nat}{post:Exit->St->Prop}{c:Code}(i:Nat)(b:H[i]?=some (.box cs))(d:dw H cs=some MP)(k:DC P n B c ⟨sl,bx,H.set i (.box MP)⟩ post):DC P n B c ⟨sl,bx,H⟩ post:=
 NC _ (λ_ _ _ l w ⟨m,e,f,g⟩=>by
  obtain⟨a,h,j⟩:=g.BQ b d;exact⟨a,e,h.trans f,j⟩) k
def CE{x y:List D}(h:x.length=n)(b:y.length=n):∀r∈[x,y],r.length=n:=by
 intro r a;rcases aib.1 a with rfl|a
 .exact h
 .rw[aiR]at a;rw[a];exact b
def CT.Li{f:Nat}{rs:List D}(h:PT P f ds (·=rs)):CT P f (ds.map .d) H λr k=>r=mI (rs.map .d)/\k=H:=
 (CT.D1 h).mono λr k ⟨⟨d,a,b⟩,c⟩=>⟨by rw[a,b],c⟩
def FD{len:Nat}[a:H7 X.P T len e][g:bQ X.P e n][b:fk X.P T (.agg z)](c:Nat.blt d X.n=true)(f:eG sl parts=some ms)
  (g:gQ (λi=>some (i*n,n)) (z.map .d) ms=some cs) (h:gg cs=some ds) (k:TL X ops rest ⟨(d,.m (.d (.agg ds)))::sl,bx,H⟩ post):TL X ops (⟨some d,.build T parts.toArray,ty,pos,af,none⟩::rest) ⟨sl,bx,H⟩ post:=
 Cs c a.u b.zero f g h k
def o7(H:Hp):dw H []=some []:=rfl
def bY{d:D}{r ms:List M}(a:dw H r=some ms):dw H (.d d::r)=some (.d d::ms):=by simp only[dw,ep,a]
def lJ{d:D}{r ms:List M}(h:ep H m=some d)(a:dw H r=some ms):dw H (m::r)=some (.d d::ms):=by simp only[dw,h,a]
end Go.Mt
namespace Go.Proofs.Pz
open Go.Mt Go.Sm Go.Ps Go.Proofs
open Tryz
def mixed:prog.follows .mixedOrders=true:=by kernel_rfl
instance:aW prog 212:=dM (by kernel_rfl)
abbrev cg(l:List aD):List (List D):=l.map aD.cells
def dv(l:List aD):∀r∈cg l,r.length=16:=by intro r a;obtain⟨_,_,rfl⟩:=aij.1 a;exact aD.len _
def vC(l:List aH):∀r∈l.map aH.cells,r.length=7:=by intro r a;obtain⟨_,_,rfl⟩:=aij.1 a;exact aH.len _
def cU(l:List Nm):∀r∈aE l,r.length=1:=by intro r a;obtain⟨_,_,rfl⟩:=aij.1 a;rfl
def jp(l:List (Nm×Nm)):∀r∈bA l,r.length=2:=by intro r a;obtain⟨_,_,rfl⟩:=aij.1 a;rfl
def Eg(l:List aD)(c:l.length<=100000000):Dt prog 219 [.d (.sl (cg l))] [] λr a=>a=[.acc 16 (cg l) r]:=by
 intro H F d;have w:=Wk.start d;cases l with
 |nil=>
  refine⟨.d (.sl []),H,⟨_,W,w.nil 16⟩,?_⟩;refine My func219 W ntmps219 W λe f=>?_
  refine MD ?_;refine Ms ?_;refine TC.region<|TL.go ?_
  (refine ub W W (λb=>?_))
  refine TL.nil ?_;cases b with
  |true=>
   refine Ms ?_;refine TC.cond W (λg=>?_) (λa=>by cases a);refine Ms ?_;refine TC.region<|aj W W<|TL.nil<|TC.ret ⟨_,W,W,W⟩
  |false=>
   refine Ms ?_;refine TC.cond W (λa=>by cases a) (λa=>?_);refine TC.skip ?_;refine Ms ?_;refine TC.region<|TL.go ?_;refine TL.nil<|TC.ret ⟨_,W,W,W⟩
 |cons a l=>
  refine⟨_,_,⟨_,W,(w.nil 16).app (cg (a::l))⟩,?_⟩;refine My func219 W ntmps219 W λf g=>?_
  refine MD ?_;refine Ms ?_;refine TC.region<|aq W W<|qG W (by kernel_rfl) W<|TL.nil ?_;refine Ms ?_;refine TC.cond W (λe=>by cases e) (λe=>?_);refine TC.skip ?_;refine Ms ?_;refine TC.region<|TL.go ?_;refine dB true W W W W (by rfl) (by simp) (by exact dv (a::l)) (by simp at c⊢;omega)<|aj W W<|TL.nil<|TC.ret ⟨_,rfl,rfl,rfl⟩
def pO(l:List Va)(c:l.length<=100000000):Dt prog 60 [.d (.sl (ax l))] [] λr a=>a=[.acc 15 (ax l) r]:=by
 intro H F d;have w:=Wk.start d;cases l with
 |nil=>
  refine⟨.d (.sl []),H,⟨_,W,w.nil 15⟩,?_⟩;refine My func60 W ntmps60 W λe f=>?_
  refine MD ?_;refine Ms ?_;refine TC.region<|TL.go ?_
  (refine ub W W (λb=>?_))
  refine TL.nil ?_;cases b with
  |true=>
   refine Ms ?_;refine TC.cond W (λg=>?_) (λa=>by cases a);refine Ms ?_;refine TC.region<|aj W W<|TL.nil<|TC.ret ⟨_,W,W,W⟩
  |false=>
   refine Ms ?_;refine TC.cond W (λa=>by cases a) (λa=>?_);refine TC.skip ?_;refine Ms ?_;refine TC.region<|TL.go ?_;refine TL.nil<|TC.ret ⟨_,W,W,W⟩
 |cons a l=>
  refine⟨_,_,⟨_,W,(w.nil 15).app (ax (a::l))⟩,?_⟩;refine My func60 W ntmps60 W λf g=>?_
  refine MD ?_;refine Ms ?_;refine TC.region<|aq W W<|qG W (by kernel_rfl) W<|TL.nil ?_;refine Ms ?_;refine TC.cond W (λe=>by cases e) (λe=>?_);refine TC.skip ?_;refine Ms ?_;refine TC.region<|TL.go ?_;refine dB true W W W W (by rfl) (by simp[ax]) (by exact bD (a::l)) (by simp[ax]at c⊢;omega)<|aj W W<|TL.nil<|TC.ret ⟨_,rfl,rfl,rfl⟩
def pP(l:List (Nm×Nm))(c:l.length<=100000000):Dt prog 175 [.d (.sl (bA l))] [] λr a=>a=[.acc 2 (bA l) r]:=by
 intro H F d;have w:=Wk.start d;cases l with
 |nil=>
  refine⟨.d (.sl []),H,⟨_,W,w.nil 2⟩,?_⟩;refine My func175 W ntmps175 W λe f=>?_
  refine MD ?_;refine Ms ?_;refine TC.region<|TL.go ?_
  (refine ub W W (λb=>?_))
  refine TL.nil ?_;cases b with
  |true=>
   refine Ms ?_;refine TC.cond W (λg=>?_) (λa=>by cases a);refine Ms ?_;refine TC.region<|aj W W<|TL.nil<|TC.ret ⟨_,W,W,W⟩
  |false=>
   refine Ms ?_;refine TC.cond W (λa=>by cases a) (λa=>?_);refine TC.skip ?_;refine Ms ?_;refine TC.region<|TL.go ?_;refine TL.nil<|TC.ret ⟨_,W,W,W⟩
 |cons a l=>
  refine⟨_,_,⟨_,W,(w.nil 2).app (bA (a::l))⟩,?_⟩;refine My func175 W ntmps175 W λf g=>?_
  refine MD ?_;refine Ms ?_;refine TC.region<|aq W W<|qG W (by kernel_rfl) W<|TL.nil ?_;refine Ms ?_;refine TC.cond W (λe=>by cases e) (λe=>?_);refine TC.skip ?_;refine Ms ?_;refine TC.region<|TL.go ?_;refine dB true W W W W (by rfl) (by simp) (by exact jp (a::l)) (by simp at c⊢;omega)<|aj W W<|TL.nil<|TC.ret ⟨_,rfl,rfl,rfl⟩
def te(l:List Nm)(c:l.length<=100000000):Dt prog 206 [.d (.sl (aE l))] [] λr a=>a=[.acc 1 (aE l) r]:=by
 intro H F d;have w:=Wk.start d;cases l with
 |nil=>
  refine⟨.d (.sl []),H,⟨_,W,w.nil 1⟩,?_⟩;refine My func206 W ntmps206 W λe f=>?_
  refine MD ?_;refine Ms ?_;refine TC.region<|TL.go ?_
  (refine ub W W (λb=>?_))
  refine TL.nil ?_;cases b with
  |true=>
   refine Ms ?_;refine TC.cond W (λg=>?_) (λa=>by cases a);refine Ms ?_;refine TC.region<|aj W W<|TL.nil<|TC.ret ⟨_,W,W,W⟩
  |false=>
   refine Ms ?_;refine TC.cond W (λa=>by cases a) (λa=>?_);refine TC.skip ?_;refine Ms ?_;refine TC.region<|TL.go ?_;refine TL.nil<|TC.ret ⟨_,W,W,W⟩
 |cons a l=>
  refine⟨_,_,⟨_,W,(w.nil 1).app (aE (a::l))⟩,?_⟩;refine My func206 W ntmps206 W λf g=>?_
  refine MD ?_;refine Ms ?_;refine TC.region<|aq W W<|qG W (by kernel_rfl) W<|TL.nil ?_;refine Ms ?_;refine TC.cond W (λe=>by cases e) (λe=>?_);refine TC.skip ?_;refine Ms ?_;refine TC.region<|TL.go ?_;refine dB true W W W W (by rfl) (by simp) (by exact cU (a::l)) (by simp at c⊢;omega)<|aj W W<|TL.nil<|TC.ret ⟨_,rfl,rfl,rfl⟩
abbrev bg:Ob:=.iter (yh 0 386 .u64 Lib.pow10Tab)
def qO{H:Hp}{i n:Nat}(z:n<=1000000000)(s:H[i]?=some bg):CT prog 212 [.d (.int .i64 ((n:Nat):Int))] H λr K=>r=.d (.str (dg n))/\K=H:=by
 intro a A g m h t;obtain⟨j,u⟩:=wx (m.obj i bg (by rw[h];exact s));have v:Lib.TabIs prog a.w "internal/strconv.uint64pow10" .u64 Lib.pow10Tab:=by
  unfold Lib.TabIs World.var?;rw[show prog.globalNamed "internal/strconv.uint64pow10" =some 0 by kernel_rfl];simp[u]
 have x:g= #[.int .i64 ((n:Nat):Int)]:=by
  obtain⟨y,o⟩:=t;obtain⟨p⟩:=g
  match p,y with
  |[q],_=>
   have c:=o 0 _ q W W;cases c with
   |d c=>cases c;rfl
 subst x;refine(Tryz.strconv_Itoa ((n:Nat):Int) (by omega) (by omega) a.w v).mono ?_;rintro e B ⟨rfl,k,l,rfl⟩;have f:fW a.w (Sort.grow (a.w.drewN k) l):=by
  refine⟨W,W,W,?_,?_⟩
  .simp
  .intro b j;simp[Sort.grow,World.drewN,aiH j]
 refine⟨_,_,{a with w:=Sort.grow (a.w.drewN k) l},rfl,rfl,⟨rfl,h⟩,m.ext f,?_,db.ext f,bF.ext f⟩;rw[Lib.itoa_nonneg];exact .d (.str _)
def fE(s:Nm):PT prog 173 [.str s] (·=[.agg (aZ s).cells]):=by
 rw[Xp.ah];refine ML (My func173 W ntmps173 W λa b=>?_);refine MD ?_;refine Ms ?_;refine TC.region<|TL.go ?_;refine TL.nil<|TC.ret ⟨_,W,[_],W,W⟩
def AB(s:Nm):PT prog 76 [.str s] (·=[.agg (gI s).cells]):=by
 rw[Xp.ah];refine ML (My func76 W ntmps76 W λa b=>?_);refine MD ?_;refine Ms ?_;refine TC.region<|TL.go ?_;refine TL.nil<|TC.ret ⟨_,W,[_],W,W⟩
def Il(z:Int):PT prog 73 [.int .i32 z] (·=[.agg (ss z).cells]):=by
 rw[Xp.ah];refine ML (My func73 W ntmps73 W λa b=>?_);refine MD ?_;refine Ms ?_;refine TC.region<|TL.go ?_;refine TL.nil<|TC.ret ⟨_,W,[_],W,W⟩
def nc(b:Bool):PT prog 74 [.bool b] (·=[.agg (dD b).cells]):=by
 rw[Xp.ah];refine ML (My func74 W ntmps74 W λc d=>?_);cases b with
 |true=>
  repeat refine MD ?_
  refine Ms ?_;refine TC.cond W (λe=>?_) (λa=>by cases a);refine Ms ?_;refine TC.region<|TL.go ?_;refine TL.nil<|TC.ret ⟨_,W,[_],W,W⟩
 |false=>
  repeat refine MD ?_
  refine Ms ?_;refine TC.cond W (λa=>by cases a) (λa=>?_);refine TC.skip ?_;refine Ms ?_;refine TC.region<|TL.go ?_;refine TL.nil<|TC.ret ⟨_,W,[_],W,W⟩
def AC(e:Xp)(o:Nm×Nm):PT prog 226 [.agg e.cells,.agg [.str o.1,.str o.2]] (·=[.agg (gS e o).cells]):=by
 have a:(gS e o).cells=bh 12 0 0 o.2 [o.1] [e.cells] (0,0):=by rw[Xp.ah];rfl
 rw[a,e.ah];refine ML (My func226 W ntmps226 W λa b=>?_);refine MD ?_;refine Ms ?_;refine TC.region<|TL.go ?_;refine TL.nil<|TC.ret ⟨_,W,[_],W,W⟩
def FE(c e:Xp):PT prog 220 [.agg c.cells,.agg e.cells] (·=[.agg (jS c e).cells]):=by
 have a:(jS c e).cells=bh 9 0 0 ⟨#[]⟩ [] [c.cells,e.cells] (0,0):=by rw[Xp.ah];rfl
 rw[a,c.ah,e.ah];refine ML (My func220 W ntmps220 W λa b=>?_);refine MD ?_;refine Ms ?_;refine TC.region<|TL.go ?_;refine TL.nil<|TC.ret ⟨_,W,[_],W,W⟩
abbrev LL(p:Int×Int):List D:=[.int .i64 p.1,.int .i64 p.2]
def eb(x:Nm)(e:Xp)(p:Int×Int):(gY x e p).cells=eW 1 [x] ⟨#[]⟩ [] false (bh e.kd e.op e.num e.nm e.names (e.kids.map Xp.cells) e.ps) [] p:=by rw[aD.cells,e.ah];rfl
def nf(x:Nm)(e:Xp)(p:Int×Int):PT prog 218 [.str x,.agg e.cells,.agg (LL p)] (·=[.agg (gY x e p).cells]):=by
 rw[eb,e.ah];refine ML (My func218 W ntmps218 W λa b=>?_);refine MD ?_;refine Ms ?_;refine TC.region<|TL.go ?_;refine TL.nil<|TC.ret ⟨_,W,[_],W,W⟩
def o8(x:Nm)(e:Xp)(p:Int×Int):PT prog 211 [.str x,.agg e.cells,.agg (LL p)] (·=[.agg (gY x e p).cells]):=by
 rw[eb,e.ah];refine ML (My func211 W ntmps211 W λa b=>?_);refine MD ?_;refine Ms ?_;refine TC.region<|TL.go ?_;refine TL.nil<|TC.ret ⟨_,W,[_],W,W⟩
abbrev pQ(k:Nat):List D:=[.str (nT k),.str (nS k),.str (nR k),.str (nA k),.str (nB k),.str (nN k),.str (nM k)]
def lZ(k:Nat)(s:Nm)(a:k<=1000000000)(b:s.size<=1000000000):PT prog 216 [.agg (pQ k),.str s] (·=[.agg (gI (iI k s)).cells]):=by
 have b:(nT k).size<=23:=GA 84 k a;have a:(nT k++⟨#[95]⟩:ByteArray).size<=24:=by rw[ajM];have:(⟨#[95]⟩:ByteArray).size=1:=rfl;omega
 have a:(⟨#[95]⟩:ByteArray).size=1:=rfl;have a:=AB (iI k s);rw[Xp.ah]at a⊢;unfold iI at a⊢;refine ML (My func216 W ntmps216 W λa b=>?_);refine MD ?_;refine Ms ?_;refine TC.region<|TL.go ?_;refine ky W W W (by omega)<|aq W W<|ky W W W (by omega)<|TL.go ?_;refine TL.nil<|TC.ret ⟨_,W,[_],W,W⟩
def wA(a b c:Xp)(p:Int×Int):(CB a b c p).cells=bh 8 0 0 ⟨#[]⟩ [] [a.cells,b.cells,c.cells] p:=by rw[Xp.ah];rfl
abbrev xC(e:Xp):List D:=bh e.kd e.op e.num e.nm e.names (e.kids.map Xp.cells) e.ps
def CF(k:Nat)(l:List Tr)(a b:Xp)(h:k<=1000000000)(C:l.length<=1000000)(i:∀t∈l,t.to.size<=1000000000):
  PT prog 217 [.agg (pQ k),.sl (eL l),.agg a.cells,.agg b.cells] (·=[.agg (qi k l (a,b)).1.cells,.agg (qi k l (a,b)).2.cells]):=by
 have n:(eL l).length=l.length:=by simp[eL]
 rw[a.ah,b.ah];refine ML (My func217 W ntmps217 W λE F=>?_);refine Ms ?_;refine TC.region<|gZ W W<|gy W W W W<|gy W W W W<|cG W W<|cG W W<|TL.nil ?_;refine Ms ?_;refine TC.region<|aq W W ?_
 (refine aY W W W ?_;rw[n])
 refine cj W W W (by omega)<|aj W W<|TL.nil ?_;refine Ms ?_;refine TC.block<|M9 (λm s=>∃(i:Nat) (A B:Xp) (c:List (Nat×List M)),s=⟨[(10,.m (.d (.int .i64 (((i:Nat):Int)-1)))),(1,.m (.d (.sl (eL l)))),(4,.m (.d (.bM (pQ k) 0))),(6,.loc 6 0),(7,.loc 7 0),(8,.loc 8 0),(9,.loc 9 0)],c,[]⟩/\
   Go.Mt.get c 6=some (A.cells.map M.d)/\Go.Mt.get c 7=some (B.cells.map M.d)/\Go.Mt.get c 8=some ((xC bR).map M.d)/\Go.Mt.get c 9=some ((xC bR).map M.d)/\qi k (l.drop i) (a,b)=(A,B)/\i<=l.length/\m=i) l.length _
  ⟨l.length,a,b,_,rfl,by rw[a.ah];rfl,by rw[b.ah];rfl,rfl,rfl,by rw[aj4];rfl,by omega,rfl⟩ W ?_
 rintro m y ⟨z,A,B,G,rfl,o,p,q,s,c,H,rfl⟩;rw[A.ah]at o;rw[B.ah]at p;rcases m with _|j
 .refine MD ?_;refine Ms ?_;refine TC.cond W (λd=>by cases d) (λd=>?_);refine TC.exit ?_;refine TC.sF ?_;rw[akC]at c;exact TC.ret ⟨_,W,[_,_],W,by rw[c,A.ah,B.ah]⟩
 .have v:((j+1:Nat):Int)-1=((j:Nat):Int):=by omega
  have d:j<l.length:=by omega
  have e:(eL l)[((j:Nat):Int).toNat]?=some l[j].cells:=by simp[eL,d]
  have f:=ajd d;have g:=i _ (aif d);generalize l[j]=t at e f g;have w:=lZ k t.to h g;have x:=nc (!t.BN);rw[Xp.ah]at w x;rw[t.ah]at e;rw[v];refine Ms ?_;refine TC.region<|aq W W ?_
  (refine ay W W W (r:=.bool true) (by show some (D.bool (decide (((j:Nat):Int)>=0)))=_;rw[aiS (ah7 j)]) ?_)
  refine TL.nil ?_;refine Ms ?_;refine TC.cond W (λI=>?_) (λu=>by cases u);refine TC.skip ?_;refine Ms ?_;refine TC.block ?_;refine MD ?_;refine TC.sF ?_;refine TC.sF ?_;refine Ms ?_;refine TC.region<|aq W W<|cj W W W (by omega)<|aj W W<|TL.nil<|again (k':=j) (by omega) ⟨j,CB t.e (gI (iI k t.to)) A t.ps,CB t.e (dD (!t.BN)) B t.ps,_,rfl,by rw[wA,t.e.ah,A.ah,(gI (iI k t.to)).ah];rfl,by rw[wA,t.e.ah,B.ah,(dD (!t.BN)).ah];rfl,q,s,by rw[f];show(_,_)=_;rw[c],by omega,rfl⟩ W W
end Go.Proofs.Pz
namespace Go.Ps
open Go.Mt Go.Sm
def uh(b:Nat)(s:DS):As:=.ex λa:M=>Sep [.ob b (.box [a,.d (.int .i64 ((s.n:Nat):Int))]),.acc 4 (s.aB.map En.cells) a]
def qQ(α β:Type)(f:α->β)(l:List α)(i:Nat)(h:i<l.length):(l.take (i+1)).map f=(l.take i).map f++[f l[i]]:=by
 rw[ah5 h,aio];rfl
abbrev JT(x:Nm)(m:M)(p:Int×Int):List M:=[.d (.int .u8 3),.d (.sl []),.d (.str ⟨#[]⟩),.d (.sl []),.d (.bool false)]++((bh 4 0 0 x [] [] (0,0)).map M.d)++[m,.d (.int .i64 p.1),.d (.int .i64 p.2)]
structure Im(a:aH):Prop where
 name:a.name.size<=1000000000
 eQ:a.eQ.length<=1000000
 eB:a.eB.length<=1000000
 Mf:∀t∈a.eQ,t.to.size<=1000000000
 LM:∀t∈a.eB,t.to.size<=1000000000
 eqs:a.aT.eqs.length<=100000000
end Go.Ps
namespace Go.Proofs.Pz
open Go.Mt Go.Sm Go.Ps Go.Proofs
open Tryz
def zS(it b:Nat)(q:aD)(s:DS)(hn:s.n<1000000)(he:s.aB.length<=1000000)(o:aH)(ar:List aH)(G:q.ai=o::ar)(N5:q.ai.length<=1000)(I:∀a∈q.ai,Im a):
  Dt prog 164 [.ref b 0,.d (.agg q.cells)] [.ob it bg,uh b s] λr l=>r=mI [.d (.sl (ax (gT (s.n+1) q.ps))),.d (.sl ((lH (s.n+1) q.ai q.ps).map aD.cells))]/\
   l=[.ob it bg,uh b ⟨s.n+1,s.aB++[su (s.n+1) q.ai q.ps]⟩]:=by
 intro H F hs;have w:=Wk.start hs;have w:=w.pick [1,0];obtain⟨A,w⟩:=w.open;have w:=w.split;have J:=w.ob;have hk:((s.n:Nat):Int)+1=((s.n+1:Nat):Int):=by omega
 have p:s.n+1<=1000000000:=by omega
 generalize Tp:s.n+1=k at hk p⊢;rw[q.pN];have f8:(q.ai.map aH.cells).length=q.ai.length:=by simp
 refine MG func164 W ntmps164 W ?_;refine Mx ?_;refine Mo ?_;apply Mn
 .intro c d;refine aq W W<|iX W W W<|dh W W<|bK W W J W ?_
  (refine bc W W W (by omega) ?_;rw[hk])
  refine TL.au
 have w:=w.set (.box [A,.d (.int .i64 ((k:Nat):Int))]);have J:=w.ob;have w:=w.pick [2,1,0];have Xo:=qO p w.ob;have v:=aiz (hU k p) (by omega:21<=4000000000);refine Mx ?_;refine Mo ?_;apply Mn
 .intro c d;refine aq W W<|jE W W W W v<|aq W W<|jE W W W W v<|aq W W<|jE W W W W v<|aq W W<|jE W W W W v<|aq W W<|jE W W W W v<|aq W W<|jE W W W W v<|aq W W<|jE W W W W v<|TL.au
 repeat refine Mx ?_
 obtain⟨L,K⟩:∃L,L=q.ai:=⟨_,rfl⟩;rw[<-K]at I N5 G⊢;have w:=w.nil 1;refine Mo ?_;refine DC.block<|DC.loop (λm f=>∃(i:Nat) (d:M) (c:List (Nat×List M)) (e:Hp),f=⟨[(60,.m (.d (.int .i64 ((i:Nat):Int)))),(59,.m (.d (.int .i64 ((L.length:Nat):Int)))),(58,.m (.d (.sl (L.map aH.cells)))),(8,.loc 8 0),(7,.loc 7 0),(3,.m (.d (.bM (yz q) 0))),(0,.m (.ref b 0))],c,e⟩/\
   Go.Mt.get c 7=some ((pQ k).map M.d)/\Go.Mt.get c 8=some [.d (.str (nT k)),d,.d (.int .i64 q.ps.1),.d (.int .i64 q.ps.2)]/\
   Wk F H [.acc 1 (aE ((L.take i).map λa=>iI k a.name)) d,.ob b (.box [A,.d (.int .i64 ((k:Nat):Int))]),.acc 4 (s.aB.map En.cells) A,.ob it bg] e/\i<=L.length/\m=L.length-i) L.length _
  ⟨0,.d (.sl []),_,_,rfl,rfl,rfl,w.pick [0,3,2,1],by omega,rfl⟩ W ?_
 rintro m O ⟨i,x,P,y,rfl,j,Px,w,Q,rfl⟩;refine Mx ?_;refine Mo ?_;refine DC.cond W (λe=>?_) (λe=>?_)
 .have c:i<L.length:=by have:=aic e;omega
  have d:(L.map aH.cells)[((i:Nat):Int).toNat]?=some L[i].cells:=by simp[c]
  have f:=I _ (aif c);have g:=ah5 c;generalize L[i]=a at d f g;have h:aE ((L.take (i+1)).map λa=>iI k a.name)=aE ((L.take i).map λa=>iI k a.name)++[[.str (iI k a.name)]]:=by rw[g];simp[aE]
  rw[a.ah]at d;have t:=lZ k a.name p f.name;rw[Xp.ah]at t;refine DC.skip ?_;refine Mo ?_;refine DC.block ?_;refine Mx ?_;refine Mo ?_;apply Mz mixed
  .intro u z;refine TF.go ?_;refine eV w W W W W W W W (by simp[aE];omega)<|cF W W<|cv W W Px (aN _ _ _) W W<|TF.au
  have w:=w.app [[.str (iI k a.name)]];refine Mx ?_;exact bf (k':=L.length-(i+1)) (by omega) ⟨i+1,_,_,_,rfl,j,rfl,by rw[h];exact w,by omega,rfl⟩ W W
 .refine DC.exit ?_;have d:i=L.length:=by have:=aie e;omega
  subst d;rw[aih]at w;have S:=w.view (cU _);refine DC.cA (MP:=[.d (.str (nT k)),.d (.sl (aE (L.map λa=>iI k a.name))),.d (.int .i64 q.ps.1),.d (.int .i64 q.ps.2)]) 8 Px (bY (lJ S (bY (bY (o7 _))))) ?_;have w:=w.drop;have w:=w.pick [1,0,2];have J:=(w.pick [1,0,2]).ob;have N:=w.app [[.str (nT k),.sl (aE (L.map λa=>iI k a.name)),.int .i64 q.ps.1,.int .i64 q.ps.2]];have T:=N.pick [1,0,2];have U:=T.ob;refine Mo ?_;apply Mz mixed
  .intro f g;refine bG W W<|bG W W<|dJ W W W<|bW W W<|dj W W J W<|cY W W W W W<|cr W W W W W W W W<|eV w W W W W W W W (by simp;omega)<|dJ W W W<|bW W W<|fC W W U (aN _ _ _) W W<|TF.nil ⟨by kernel_rfl,rfl⟩
  obtain⟨C,ac⟩:∃b,b=s.aB.map En.cells++[[.str (nT k),.sl (aE (L.map λa=>iI k a.name)),.int .i64 q.ps.1,.int .i64 q.ps.2]]:=⟨_,rfl⟩;rw[<-ac]at T;obtain⟨z,d9,hK,w⟩:∃c K,(ef 4 A y [[.str (nT k),.sl (aE (L.map λa=>iI k a.name)),.int .i64 q.ps.1,.int .i64 q.ps.2]]).set b (.box [cJ A y [[.str (nT k),.sl (aE (L.map λa=>iI k a.name)),.int .i64 q.ps.1,.int .i64 q.ps.2]],.d (.int .i64 ((k:Nat):Int))])=K/\
    Wk F H [.ob b (.box [c,.d (.int .i64 ((k:Nat):Int))]),.acc 4 C c,.ob it bg] K:=⟨_,_,rfl,T.set (.box [cJ A y [[.str (nT k),.sl (aE (L.map λa=>iI k a.name)),.int .i64 q.ps.1,.int .i64 q.ps.2]],.d (.int .i64 ((k:Nat):Int))])⟩
  refine Mx ?_;refine Mo ?_;apply Mn
  .intro f g;refine TL.go ?_;refine FD W W W W<|TL.au
  have w:=w.nil 15;obtain⟨c,V⟩:∃b:List Nm,b=[nS k,nA k,nN k]:=⟨_,rfl⟩;have co:c.length=3:=by rw[V];rfl
  obtain⟨h,X'⟩:∃g:Nm->Va,g= λx=>⟨x,3,(nT k),[],false,bR,q.ps⟩:=⟨_,rfl⟩
  refine Nq [(92,.m (.d (.int .i64 ((0:Nat):Int)))),(91,.m (.d (.agg (c.map D.str)))),(11,.m (.d (.sl []))),(8,.loc 8 0),(7,.loc 7 0),(3,.m (.d (.bM (yz q) 0))),(0,.m (.ref b 0))] _ _ (by rw[V];rfl) (λ_=>rfl) hK ?_;refine Mo ?_;refine DC.block<|DC.loop (λm g=>∃(i:Nat) (d:M) (e:List (Nat×List M)) (f:Hp),g=⟨[(92,.m (.d (.int .i64 ((i:Nat):Int)))),(91,.m (.d (.agg (c.map D.str)))),(11,.m d),(8,.loc 8 0),(7,.loc 7 0),(3,.m (.d (.bM (yz q) 0))),(0,.m (.ref b 0))],e,f⟩/\
    Go.Mt.get e 7=some ((pQ k).map M.d)/\
    Wk F H [.acc 15 (ax ([]++(c.take i).map h)) d,.ob b (.box [z,.d (.int .i64 ((k:Nat):Int))]),.acc 4 C z,.ob it bg] f/\i<=3/\m=3-i) 3 _
   ⟨0,(.d (.sl [])),_,_,rfl,j,(by rw[show ax ([]++(c.take 0).map h)=[] by rw[aiD];rfl];exact w.pick [0,1,2,3]),by omega,rfl⟩ W ?_
  rintro m O ⟨i,x,P,y,rfl,j,w,Q,rfl⟩;refine Mx ?_;refine Mo ?_;refine DC.cond W (λe=>?_) (λe=>?_)
  .have d:i<c.length:=by have:=aic e;omega
   have f:((c.map D.str).map M.d)[i*1]?=some (.d (.str c[i])):=by simp[d]
   have g:=ah5 d;generalize c[i]=a at f g;have t:ax ([]++(c.take (i+1)).map h)=ax ([]++(c.take i).map h)++[[.str a,.int .u8 3,.str (nT k),.sl [],.bool false,.int .u8 0,.int .u8 0,.int .i32 0,.str ⟨#[]⟩,.sl [],.sl [],.int .i64 0,.int .i64 0,.int .i64 q.ps.1,.int .i64 q.ps.2]]:=by
    rw[g,aio,<-ai0,vA]
    congr 1
    rw[X'];simp only[ax,aiq,aiL,Va.ah];rfl
   have E:(ax ([]++(c.take i).map h)).length<=10:=by rw[br];simp;omega
   refine DC.skip ?_;refine Mo ?_;refine DC.block ?_;refine Mo ?_;apply Mn
   .intro u B;refine At W W W W (by omega) f<|TL.au
   refine Mo ?_;apply Mn
   .intro u B;refine TL.go ?_;refine cT w W W W W W W (by exact bS W) (by simp only[aik];omega)<|TL.au
   have w:=w.app [[.str a,.int .u8 3,.str (nT k),.sl [],.bool false,.int .u8 0,.int .u8 0,.int .i32 0,.str ⟨#[]⟩,.sl [],.sl [],.int .i64 0,.int .i64 0,.int .i64 q.ps.1,.int .i64 q.ps.2]];refine Mx ?_;exact bf (k':=3-(i+1)) (by omega) ⟨i+1,_,_,_,rfl,j,by rw[t];exact w,by omega,rfl⟩ W W
  .refine DC.exit ?_;have d:i=3:=by have:=aie e;omega
   subst d;rw[<-co,aih]at w;refine Mo ?_;apply Mn
   .intro f t;refine TL.go ?_;refine FD W W W W<|TL.au
   obtain⟨g,X⟩:∃b:List Nm,b=[nR k,nB k,nM k]:=⟨_,rfl⟩;have d5:g.length=3:=by rw[X];rfl
   obtain⟨B,Ya⟩:∃g:Nm->Va,g= λx=>⟨x,1,⟨#[]⟩,[],false,bR,q.ps⟩:=⟨_,rfl⟩
   refine Nq [(113,.m (.d (.int .i64 ((0:Nat):Int)))),(112,.m (.d (.agg (g.map D.str)))),(11,.m x),(8,.loc 8 0),(7,.loc 7 0),(3,.m (.d (.bM (yz q) 0))),(0,.m (.ref b 0))] _ _ (by rw[X];rfl) (λ_=>rfl) W ?_;refine Mo ?_;refine DC.block<|DC.loop (λm j=>∃(i:Nat) (d:M) (e:List (Nat×List M)) (f:Hp),j=⟨[(113,.m (.d (.int .i64 ((i:Nat):Int)))),(112,.m (.d (.agg (g.map D.str)))),(11,.m d),(8,.loc 8 0),(7,.loc 7 0),(3,.m (.d (.bM (yz q) 0))),(0,.m (.ref b 0))],e,f⟩/\
     Go.Mt.get e 7=some ((pQ k).map M.d)/\
     Wk F H [.acc 15 (ax ((c.map h)++(g.take i).map B)) d,.ob b (.box [z,.d (.int .i64 ((k:Nat):Int))]),.acc 4 C z,.ob it bg] f/\i<=3/\m=3-i) 3 _
    ⟨0,x,_,_,rfl,j,(by rw[show ax (c.map h++(g.take 0).map B)=ax ([]++c.map h) by simp];exact w),by omega,rfl⟩ W ?_
   rintro m O ⟨i,x,P,y,rfl,j,w,Q,rfl⟩;refine Mx ?_;refine Mo ?_;refine DC.cond W (λe=>?_) (λe=>?_)
   .have d:i<g.length:=by have:=aic e;omega
    have f:((g.map D.str).map M.d)[i*1]?=some (.d (.str g[i])):=by simp[d]
    have t:=ah5 d;generalize g[i]=a at f t;have u:ax ((c.map h)++(g.take (i+1)).map B)=ax ((c.map h)++(g.take i).map B)++[[.str a,.int .u8 1,.str ⟨#[]⟩,.sl [],.bool false,.int .u8 0,.int .u8 0,.int .i32 0,.str ⟨#[]⟩,.sl [],.sl [],.int .i64 0,.int .i64 0,.int .i64 q.ps.1,.int .i64 q.ps.2]]:=by
     rw[t,aio,<-ai0,vA]
     congr 1
     rw[Ya];simp only[ax,aiq,aiL,Va.ah];rfl
    have Y:(ax ((c.map h)++(g.take i).map B)).length<=10:=by rw[br];simp;omega
    refine DC.skip ?_;refine Mo ?_;refine DC.block ?_;refine Mo ?_;apply Mn
    .intro E R;refine At W W W W (by omega) f<|TL.au
    refine Mo ?_;apply Mn
    .intro E R;refine TL.go ?_;refine cT w W W W W W W (by exact bS W) (by simp only[aik];omega)<|TL.au
    have w:=w.app [[.str a,.int .u8 1,.str ⟨#[]⟩,.sl [],.bool false,.int .u8 0,.int .u8 0,.int .i32 0,.str ⟨#[]⟩,.sl [],.sl [],.int .i64 0,.int .i64 0,.int .i64 q.ps.1,.int .i64 q.ps.2]];refine Mx ?_;exact bf (k':=3-(i+1)) (by omega) ⟨i+1,_,_,_,rfl,j,by rw[u];exact w,by omega,rfl⟩ W W
   .refine DC.exit ?_;have d:i=3:=by have:=aie e;omega
    subst d;rw[<-d5,aih]at w;have d6:c.map h++g.map B=gT k q.ps:=by rw[X',Ya,V,X];rfl
    rw[d6]at w;have d7:=fE (nS k);have T5:=fE (nA k);rw[Xp.ah]at d7 T5;have V2:(L.map aH.cells).length=L.length:=by simp
    rw[K]at V2;refine Pp ?_;refine Pp ?_;refine Mx ?_;have w:=(w.nil 7).nil 7;refine Nq [(140,.m (.d (.int .i64 ((0:Nat):Int)))),(139,.m (.d (.int .i64 ((L.length:Nat):Int)))),(138,.m (.d (.sl (L.map aH.cells)))),(17,.loc 17 0),(16,.loc 16 0),(11,.m x),(7,.loc 7 0),(3,.m (.d (.bM (yz q) 0))),(0,.m (.ref b 0))] _ _ (by rw[K];rfl) (λ_=>rfl) W ?_;refine Mo ?_;refine DC.block<|DC.loop (λm g=>∃(i:Nat) (e f:M) (c:List (Nat×List M)) (d:Hp),g=⟨[(140,.m (.d (.int .i64 ((i:Nat):Int)))),(139,.m (.d (.int .i64 ((L.length:Nat):Int)))),(138,.m (.d (.sl (L.map aH.cells)))),(17,.loc 17 0),(16,.loc 16 0),(11,.m x),(7,.loc 7 0),(3,.m (.d (.bM (yz q) 0))),(0,.m (.ref b 0))],c,d⟩/\
      Go.Mt.get c 7=some ((pQ k).map M.d)/\Go.Mt.get c 16=some (JT (nS k) e q.ps)/\Go.Mt.get c 17=some (JT (nA k) f q.ps)/\
      Wk F H [.acc 7 (((L.take i).map (cP k)).map aH.cells) e,.acc 7 (((L.take i).map (eI k)).map aH.cells) f,.acc 15 (ax (gT k q.ps)) x,.ob b (.box [z,.d (.int .i64 ((k:Nat):Int))]),.acc 4 C z,.ob it bg] d/\i<=L.length/\m=L.length-i) L.length _
     ⟨0,.d (.sl []),.d (.sl []),_,_,rfl,j,rfl,rfl,w,by omega,rfl⟩ W ?_
    rintro m O ⟨i,ms,mw,P,y,rfl,j,O5,Yb,w,Q,rfl⟩;refine Mx ?_;refine Mo ?_;refine DC.cond W (λe=>?_) (λe=>?_)
    .have d:i<L.length:=by have:=aic e;omega
     have MA:(L.map aH.cells)[((i:Nat):Int).toNat]?=some L[i].cells:=by simp[d]
     have t:=I _ (aif d);have R:=ah5 d;generalize L[i]=a at MA t R;have Nr:((L.take (i+1)).map (cP k)).map aH.cells=((L.take i).map (cP k)).map aH.cells++[(cP k a).cells]:=by rw[R];simp
     have Ri:((L.take (i+1)).map (eI k)).map aH.cells=((L.take i).map (eI k)).map aH.cells++[(eI k a).cells]:=by rw[R];simp
     have f5:(((L.take i).map (cP k)).map aH.cells).length<=1000:=by simp;omega
     have f6:(((L.take i).map (eI k)).map aH.cells).length<=1000:=by simp;omega
     rw[a.ah]at MA;have RO:=lZ k a.name p t.name;have Zd:=fE (nR k);have QA:=fE (nB k);have V3:=nc false;have Y:=CF k a.eQ (gI (iI k a.name)) (aZ (nR k)) p t.eQ t.Mf;have Z:=CF k a.eB (gI (iI k a.name)) (dD false) p t.eB t.LM;obtain⟨u,am⟩:∃A,A=qi k a.eQ (gI (iI k a.name),aZ (nR k)):=⟨_,rfl⟩;obtain⟨f,ce⟩:∃A,A=qi k a.eB (gI (iI k a.name),dD false):=⟨_,rfl⟩;rw[<-am]at Y;rw[<-ce]at Z;have P3:=nf (nA k) u.1 a.ps;have V4:=nf (nB k) u.2 a.ps;have Ze:=nf (nN k) f.1 a.ps;have d8:=nf (nM k) f.2 a.ps;rw[eb,Xp.ah]at P3 V4 Ze d8;rw[u.1.ah,u.2.ah,(gI (iI k a.name)).ah,(aZ (nR k)).ah]at Y;rw[f.1.ah,f.2.ah,(gI (iI k a.name)).ah,(dD false).ah]at Z;rw[Xp.ah]at RO Zd QA V3;refine DC.skip ?_;refine Mo ?_;refine DC.block ?_
     repeat refine Mx ?_
     refine Mo ?_;apply Mz mixed
     .intro E Oo;refine TF.go ?_;refine fD (CT.Li Y) W W<|TF.au
     have U:(cP k a).cells=[.str (iI k a.name),.sl [],.sl [eW 1 [nA k] ⟨#[]⟩ [] false (xC u.1) [] a.ps,eW 1 [nB k] ⟨#[]⟩ [] false (xC u.2) [] a.ps],.sl [],.sl [],.int .i64 a.ps.1,.int .i64 a.ps.2]:=by
      rw[aH.ah,<-eb,<-eb,am];rfl
     have PR:(eI k a).cells=[.str (iI k a.name),.sl [],.sl [eW 5 [] ⟨#[]⟩ [] false (bh 4 0 0 (nB k) [] [] (0,0)) [[.str ⟨#[]⟩,.sl (ax a.aT.vars),.sl (cg a.aT.eqs++[eW 1 [nN k] ⟨#[]⟩ [] false (xC f.1) [] a.ps,eW 1 [nM k] ⟨#[]⟩ [] false (xC f.2) [] a.ps]),.sl [],.sl [],.int .i64 a.ps.1,.int .i64 a.ps.2]] a.ps],.sl [],.sl [],.int .i64 a.ps.1,.int .i64 a.ps.2]:=by
      rw[aH.ah,<-eb,<-eb,ce];unfold eI;simp only[aH.name,aH.aT,aH.eQ,aH.eB,aH.ps,bF.vars,bF.eqs,aiq,aiL,aD.cells,b_,aH.cells,bF.cells,ax,kC,aio];rw[Xp.ah];rfl
     rw[U]at Nr;rw[PR]at Ri;refine Mo ?_;apply Mz mixed
     .intro E Oo;refine TF.go ?_;refine eV w W W W W W W W (by omega)<|cF W W<|cv W W O5 (aN _ _ _) W W<|TF.au
     have w:=w.app [[.str (iI k a.name),.sl [],.sl [eW 1 [nA k] ⟨#[]⟩ [] false (xC u.1) [] a.ps,eW 1 [nB k] ⟨#[]⟩ [] false (xC u.2) [] a.ps],.sl [],.sl [],.int .i64 a.ps.1,.int .i64 a.ps.2]];refine Mo ?_;apply Mz mixed
     .intro E Oo;refine TF.go ?_;refine fD (CT.Li Z) W W<|TF.au
     obtain⟨mq,K2,l',Of,w,MR⟩:=Wk.call (a:=[]) w (Eg a.aT.eqs t.eqs);subst Of;have Po:(cg a.aT.eqs).length<=100000000:=by simpa [cg] using t.eqs
     have N:=w.app [eW 1 [nN k] ⟨#[]⟩ [] false (xC f.1) [] a.ps,eW 1 [nM k] ⟨#[]⟩ [] false (xC f.2) [] a.ps];have S:=N.view (by
      intro r E;rcases ain.1 E with E|E
      .exact dv _ r E
      .exact CE (n:=16) W W r E)
     refine Mo ?_;apply Mz mixed
     .intro E Oo;refine TF.go ?_;refine FC w W W W W W W (by simp) (CE W W) (by simp only[aia,List.length_nil];omega)<|vB (cs:=[.d (.sl (ax a.aT.vars)),cJ mq K2 [eW 1 [nN k] ⟨#[]⟩ [] false (xC f.1) [] a.ps,eW 1 [nM k] ⟨#[]⟩ [] false (xC f.2) [] a.ps]]) W W W (by simp only[jW];rw[show fr (cJ mq K2 _)=some [cJ mq K2 _]from aN _ _ _];rfl)<|nF W<|cv W W W (fx _) W W<|TF.au
     refine DC.cA (MP:=[.d (.sl (ax a.aT.vars)),.d (.sl (cg a.aT.eqs++[eW 1 [nN k] ⟨#[]⟩ [] false (xC f.1) [] a.ps,eW 1 [nM k] ⟨#[]⟩ [] false (xC f.2) [] a.ps]))]) 23 W (bY (lJ S (o7 _))) ?_;have w:=(N.drop).pick [1,0,2,3,4,5];refine Pp ?_;refine Mo ?_;apply Mn
     .intro E Oo;refine TL.go ?_;refine cT w W W W W W W (by exact bS W) (by simp only[aik];omega)<|aF W W<|aK W W Yb (aN _ _ _) W W<|TL.nil W
     have w:=w.app [[.str (iI k a.name),.sl [],.sl [eW 5 [] ⟨#[]⟩ [] false (bh 4 0 0 (nB k) [] [] (0,0)) [[.str ⟨#[]⟩,.sl (ax a.aT.vars),.sl (cg a.aT.eqs++[eW 1 [nN k] ⟨#[]⟩ [] false (xC f.1) [] a.ps,eW 1 [nM k] ⟨#[]⟩ [] false (xC f.2) [] a.ps]),.sl [],.sl [],.int .i64 a.ps.1,.int .i64 a.ps.2]] a.ps],.sl [],.sl [],.int .i64 a.ps.1,.int .i64 a.ps.2]];refine Mx ?_;exact bf (k':=L.length-(i+1)) (by omega) ⟨i+1,_,_,_,_,rfl,j,rfl,rfl,by rw[Nr,Ri];exact w.pick [1,0,2,3,4,5],by omega,rfl⟩ W W
    .refine DC.exit ?_;have d:i=L.length:=by have:=aie e;omega
     subst d;rw[aih]at w;have t:=w.view (vC _);have E:=(w.pick [1,0,2,3,4,5]).view (vC _);refine DC.cA (MP:=JT (nS k) (.d (.sl ((L.map (cP k)).map aH.cells))) q.ps) 16 O5 (by repeat' first|exact o7 _|refine bY ?_|refine lJ t ?_) ?_;refine DC.cA (MP:=JT (nA k) (.d (.sl ((L.map (eI k)).map aH.cells))) q.ps) 17 Yb (by repeat' first|exact o7 _|refine bY ?_|refine lJ E ?_) ?_;refine DC.aR 11 W ((w.pick [2,0,1,3,4,5]).view (bD _)) ?_;have SY:(q.ai.map aH.cells)[((0:Nat):Int).toNat]?=some o.cells:=by rw[<-K,G];rfl
     rw[o.ah]at SY;have u:=lZ k o.name p (I o (by rw[G];simp)).name;have Qz:=fE (nN k);have Su:=fE (nM k);have R:=nc false;have T6:=FE (gI (iI k o.name)) (aZ (nN k));have V5:=FE (dD false) (aZ (nM k));have Y:=nf (nS k) (jS (gI (iI k o.name)) (aZ (nN k))) q.ps;have Z:=nf (nR k) (jS (dD false) (aZ (nM k))) q.ps;have f:(lH k L q.ps).map aD.cells=[(gY (nS k) (jS (gI (iI k o.name)) (aZ (nN k))) q.ps).cells,(gY (nR k) (jS (dD false) (aZ (nM k))) q.ps).cells,
       eW 3 [] ⟨#[]⟩ [] false (bh 4 0 0 (nS k) [] [] (0,0)) ((L.map (cP k)).map aH.cells) q.ps,eW 3 [] ⟨#[]⟩ [] false (bh 4 0 0 (nA k) [] [] (0,0)) ((L.map (eI k)).map aH.cells) q.ps]:=by
      rw[G];unfold lH;simp only[akw,akt,akn,aiq,aiL,aD.cells,jF];rw[(aZ (nS k)).ah,(aZ (nA k)).ah];rfl
     rw[eb,eb]at f;rw[eb,(jS _ _).ah]at Y Z;rw[(jS _ _).ah,(gI (iI k o.name)).ah,(aZ (nN k)).ah]at T6;rw[(jS _ _).ah,(dD false).ah,(aZ (nM k)).ah]at V5;rw[Xp.ah]at u Qz Su R;refine Pp ?_;have w:Wk F H [uh b ⟨k,s.aB++[su k L q.ps]⟩,.ob it bg] y:=by
      refine OH (φ:= λc:M=>Sep [.ob b (.box [c,.d (.int .i64 ((k:Nat):Int))]),.acc 4 ((s.aB++[su k L q.ps]).map En.cells) c]) z<|Oa (a:=[_,_]) ?_;rw[show(s.aB++[su k L q.ps]).map En.cells=C by rw[ac];simp[su,En.cells,aE]];exact((w.drop).drop).drop
     rw[f];exact DC.ret ⟨_,W,[.ob it bg,uh b ⟨k,s.aB++[su k L q.ps]⟩],⟨W,W⟩,w.pick [1,0]⟩
end Go.Proofs.Pz
